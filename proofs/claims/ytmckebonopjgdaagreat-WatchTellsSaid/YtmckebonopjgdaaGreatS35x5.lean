/-
  Made short by a program of mine (wip/tools/mini.py).
-/
import Derived.Test.YtmckebonopjgdaaGreatS35x4
set_option linter.defProp false
set_option linter.unusedVariables false
set_option linter.unusedSimpArgs false
set_option maxRecDepth 100000
set_option synthInstance.maxSize 5000
open Go.Proofs.Tryz
open List renaming replicate->ag,length->aa,take->aJ,drop->bj
open Int renaming toNat->ae
open And renaming intro->iD
open Option renaming some->aw,none->aC
open Bool renaming true->bn,false->aZ
noncomputable section
variable {R:Type}
namespace Go.Ab
open Go.Proofs
abbrev LF:=Int×di×Int×Int×(List de)×Nat×(List (List de))×Bs
def QQ(j u A):=([fp (.pr (.d (.slice fk) j) (C7 1 0 0 0 u)),fp (.vec 153 (.slice fk) A)]:List dR)
def xi:LF->AS:=λ(A,B,I,i,o0,j,u,J)=>⟨((auV A B)++aP 4 ([eI 9,aU I,aU i]++aP 97 [])),(QQ o0 j u),(bz 9 ([dp (fW J)]++bz 99 []))⟩
abbrev apj:=((List de)×Nat×(List (List de)))×(Int)
def nU:apj->Exit×AS:=λ((a,b,c),e)=>(.ret,⟨(aP 6 ([aa9 0,aU e]++aP 101 [])),(QQ a b c),(ag 109 [])⟩)
abbrev apk:=(di×(List de)×Nat×(List (List de))×Bs)×(Int)
def IM:apk->Exit×AS:=λ((a,b,c,e,f),g)=>(.exit 0,⟨([dK,bB,bB,bB,iL a]++aP 4 ([eI 9,aU g]++aP 98 [])),(QQ b c e),(bz 9 ([dp (fW f)]++bz 99 []))⟩)
abbrev ae9:=(apj)⊕(apk)
abbrev avw:=(Int)⊕(Int)
def RN:ae9->Out (Exit×AS):=λx=> .br x.isLeft (.get x.getLeft? λa=> .ok (nU a)) (.get x.getRight? λb=> .ok (IM b))
def nT:LF->avw->ae9:=λ(I,A,J,i,o0,j,u,B) y=>match y with | .inl y=> .inl ((o0,j,u),y) | .inr z=> .inr (((A,o0,j,u,B),z))
abbrev LG:=di×Int×Int×(List de)×Nat×(List (List de))×Bs
def A1:LG->AS:=λ(K,j,A,J,B,I,u)=>⟨([dK,bB,bB,bB,iL K]++aP 4 ([eI 9,aU j]++aP 4 ([aU A]++aP 93 []))),(QQ J B I),(bz 9 ([dp (fW u)]++bz 99 []))⟩
abbrev apm:=(List de)×Nat×(List (List de))
def IP:apm->Exit×AS:=λ(a,b,c)=>(.ret,⟨(aP 6 ([aa9 0,aa9 4]++aP 101 [])),(QQ a b c),(ag 109 [])⟩)
abbrev apn:=((List de)×Nat×(List (List de)))×(Int)
def IQ:apn->Exit×AS:=λ((a,b,c),e)=>(.exit 2,⟨(aP 10 ([aU e]++aP 98 [])),(QQ a b c),(ag 109 [])⟩)
abbrev afb:=(apm)⊕(apn)
abbrev avz:=(Unit)⊕(Int)
def RO:afb->Out (Exit×AS):=λx=> .br x.isLeft (.get x.getLeft? λa=> .ok (IP a)) (.get x.getRight? λb=> .ok (IQ b))
def pB:LG->avz->afb:=λ(K,B,J,A,j,u,I) y=>match y with | .inl y=> .inl (A,j,u) | .inr z=> .inr (((A,j,u),z))
abbrev baA:=di×Int×(List de)×Nat×(List (List de))
def IL:LF->Prop:=λ(h,t,j,i,l,_,_,id)=>(0<=h/\h<=1048576)/\Sm id/\aa t.1<=64/\(∀x∈t.1,bnP x)/\aq8 (oG l)/\aa l<=1000000/\∃k:Nat,k<=aa t.1/\i=k/\0<=j/\j<=(k:Int)*1125899906842624
def uE:LF->avw:=λ(h,t,j,i,l,_,_,id)=>ua h id (oG l) (t.1.drop i.toNat) j
def IN:LG->Prop:=λ(t,j,i,l,_,_,_)=>aa l<=1000000/\aa t.2.1<=64/\(∀o∈t.2.1,0<=o.1/\o.1<=1125899906842624)/\∃k:Nat,k<=aa t.2.1/\i=k/\ -((k:Int)*1125899906842624)<=j/\j<=1000000000000000000
def xW:LG->avz:=λ(t,j,i,l,_,_,id)=>if(y8 id i.toNat (aa t.2.1 - i.toNat)).any (mD (oG l))=bn then .inl () else .inr (j - il (t.2.1.drop i.toNat))
def baB:baA->Prop:=λ(t,_,l,_,_)=>mE t/\aq8 (oG l)/\aa l<=1000000
def aKM:baA->(Int×Int×(List de)×Nat×(List (List de))):=λ(t,h,l,n,w)=>((dw t h (oG l)).1,(dw t h (oG l)).2,l,n,w)
def avv:=cQ.eg xi IL nT uE RN
def ab0:LF->Option ae9:=eN avv xi
def avx:=cQ.eg A1 IN pB xW RO
def ab1:LG->Option afb:=eN avx A1
def J5:Fs prog baB bt aKM:=eP 132 f132 (λ(t,j,A,u,o1)=>([.ptr (.dx 0) 0 [] 0,.d eU t,.d ti j],[.obj 0 aZ (.pr (.d (.slice fk) A) (.pr (.dq (.dx 1) 0 [] 0 0 u) (.d .unit ()))),.obj 0 aZ (.vec 153 (.slice fk) o1)])) (λx=>⟨.cons (.d ti x.1) (.cons (.d ti x.2.1) (.nil)),[.obj 0 aZ (.pr (.d (.slice fk) x.2.2.1) (.pr (.dq (.dx 1) 0 [] 0 0 x.2.2.2.1) (.d .unit ()))),.obj 0 aZ (.vec 153 (.slice fk) x.2.2.2.2)],[]⟩) [aC,aw eU,aw ti] [Q6,abi,avS,aJH] {loops:=ko [(7,{aX:=[0,2,4,9,10,11],sites:=[9]}),(18,{aX:=[0,4,9,10,15],sites:=[9]})],outs:=km [(7,{aX:=[0,4,9,10],sites:=[9]},{aX:=[6,7]}),(18,{aX:=[10]},{aX:=[6,7]})],eT:=jW [(7,avv),(18,avx)]}
def ae8:= @dm prog (gU J5.G) J5.an 0 f132 0 _ xi
abbrev api:=gr prog (gU J5.G) J5.an 0 f132 0 xi IL nT uE RN
def avy:= @dm prog (gU J5.G) J5.an 0 f132 1 _ A1
abbrev apl:=gr prog (gU J5.G) J5.an 0 f132 1 A1 IN pB xW RO
def aFc:fC ab0 IL nT uE:=ia (fy [.d ti,.d eU,.d ti,.d ti,.d (.slice fk),.n,.d (.slice (.slice fk)),.d tB] λ_=>bS)
def afa:iX @ae8 xi IL nT uE RN api:=ji
theorem Ny(J u K i o0 j A B)(O:K2 R)(L:K3 R):ae8 (J,u,K,i,o0,j,A,B) O L=aA (fj i (((aa u.1):Nat):Int)) (aA (dB i (((aa u.1):Nat):Int)) (ao (tj.call (o0,(nth fK u.1 (ae i)).1)) λI=>aA (fj I (0:Int)) (L (nU ((o0,j,A),(5:Int))).1 (nU ((o0,j,A),(5:Int))).2) (aA (dB I (((aa o0):Nat):Int)) (aA (dB i (((aa u.1):Nat):Int)) (ao (iC.call ((nth fk o0 (ae I)).2.1.1.2.1,(nth fK u.1 (ae i)).2.1,B,J,(cY .i64 J (nth fk o0 (ae I)).2.1.2.1))) λM=>aA (pb M (0:Int)) (L (nU ((o0,j,A),M)).1 (nU ((o0,j,A),M)).2) (O (xi (J,u,(bC .i64 K (nth fk o0 (ae I)).2.1.1.1),(bC .i64 i (1:Int)),o0,j,A,B)))) aC) aC)) aC) (L (IM ((u,o0,j,A,B),K)).1 (IM ((u,o0,j,A,B),K)).2):=bS
def aFd:fC ab1 IN pB xW:=ia (fy [.d eU,.d ti,.d ti,.d (.slice fk),.n,.d (.slice (.slice fk)),.d tB] λ_=>bS)
def afc:iX @avy A1 IN pB xW RO apl:=ji
def Nz(I J u j A B K)(M:K2 R)(L:K3 R):avy (I,J,u,j,A,B,K) M L=aA (fj u (((aa I.2.1):Nat):Int)) (ao (tj.call (j,(K,(u,())))) λO=>aA (DA O (0:Int)) (L (IP (j,A,B)).1 (IP (j,A,B)).2) (aA (dB u (((aa I.2.1):Nat):Int)) (M (A1 (I,(cY .i64 J (nth dI I.2.1 (ae u)).1),(bC .i64 u (1:Int)),j,A,B,K))) aC)) (L (IQ ((j,A,B),J)).1 (IQ ((j,A,B),J)).2):=bS
def bge(t j A u o1)(k:K1 R):J5.A (t,j,A,u,o1) k=ao (fN.call t) λL=>aA (!L) (k (J5.out (0,1,A,u,o1))) (aA (fj j 1) (k (J5.out (0,1,A,u,o1))) (aA (qi j 1048576) (k (J5.out (0,1,A,u,o1))) (ao (OF.call t) λM=>ao (ab0 (j,t,0,0,A,u,o1,M)) λJ=>aA J.isLeft (ao J.getLeft? λI=>k (J5.out (0,I.2,I.1.1,I.1.2.1,I.1.2.2))) (ao J.getRight? λb7=>ao (ab1 (b7.1.1,b7.2,0,b7.1.2.1,b7.1.2.2.1,b7.1.2.2.2.1,b7.1.2.2.2.2)) λK=>aA K.isLeft (ao K.getLeft? λB=>k (J5.out (0,4,B.1,B.2.1,B.2.2))) (ao K.getRight? λaBb=>aA (fj aBb.2 0) (k (J5.out (0,8,aBb.1.1,aBb.1.2.1,aBb.1.2.2))) (k (J5.out (aBb.2,0,aBb.1.1,aBb.1.2.1,aBb.1.2.2)))))))):=bS
def aKN:api:=by
 refine afa (λ(_,t,_,i,_,_,_,_)=>aa t.1 - i.toNat) ?_
 rintro⟨h,t,B,i,l,n,w,id⟩ ⟨⟨I,J⟩,M,Cr,hu,ha,hl,k,hk,rfl,beJ,aUV⟩;by_cases K:k < aa t.1
 .have hx:=hu _ (aD K);have n1:=bG (t:=fK) K;have L:=ak K;rcases aeF hl t.1[k].1 with⟨O,h2⟩ | ⟨m,hm,O,A,_,T⟩
  .right;refine⟨nU ((l,n,w),5),?_,λj u=> ?_⟩;rotate_left
   .grind [Ny,aN,aS,ah,nth,aA]
   .simp only[nT,uE,ab,L,ua,h2];rfl
  .generalize l[m]=c at A T;have hc:=ha.get A;obtain⟨c1,c2,c3,c4,c5,c6⟩:=hc
   have u7:∀ {R:Type} (j:AS->Option R) (u:Exit->AS->Option R),ae8 (h,t,B,(k:Int),l,n,w,id) j u=
     aA (pb (sR c.2.1.1.2.1 t.1[k].2.1 id h (h - c.2.1.2.1)) 0) (u (nU ((l,n,w),sR c.2.1.1.2.1 t.1[k].2.1 id h (h - c.2.1.2.1))).1 (nU ((l,n,w),sR c.2.1.1.2.1 t.1[k].2.1 id h (h - c.2.1.2.1))).2)
      (j (xi (h,t,B+c.2.1.1.1,((k+1:Nat):Int),l,n,w,id))):=λj u=>by
    rw[Ny,aN aq,ai,aS aq aq,ai,ab,n1,O,ah,aL aq,al,aS aq aq,ai,ai,ab,T];rw[eO aq aq,aEi (d:=(c.2.1.1.2.1,t.1[k].2.1,id,h,h - c.2.1.2.1)) ⟨c2,hx.2.1,M⟩];grind [ah,aeL,eS]
   by_cases he:sR c.2.1.1.2.1 t.1[k].2.1 id h (h - c.2.1.2.1)=0
   .left;refine⟨(h,t,B+c.2.1.1.1,((k+1:Nat):Int),l,n,w,id),⟨⟨I,J⟩,M,Cr,hu,ha,hl,k+1,aq,rfl,by grind,by grind⟩,by grind,?_,λj u=> ?_⟩
    .simp only[nT,uE,ab,L,ua,A,he,ne_eq,not_true_eq_false,bq]
    grind [aA,pb]
   .right;refine⟨nU ((l,n,w),sR c.2.1.1.2.1 t.1[k].2.1 id h (h - c.2.1.2.1)),?_,λj u=> ?_⟩;rotate_left
    .grind [aA,pb]
    .simp only[nT,uE,ab,L,ua,A];rw[av he];rfl
 .right;obtain rfl:k=aa t.1:=aq;refine⟨IM ((t,l,n,w,id),B),?_,λj u=> ?_⟩;rotate_left
  .grind [Ny,aL,aA]
  .simp only[nT,uE,ab,ay,ua];rfl
def aKO:apl:=by
 refine afc (λ(t,_,i,_,_,_,_)=>aa t.2.1 - i.toNat) ?_
 rintro⟨t,j,i,l,n,w,id⟩ ⟨B,J,T,k,O,rfl,A,u⟩;have B:aa l<=1000000:=B;have J:aa t.2.1<=64:=J;have O:k<=aa t.2.1:=O;have A: -((k:Int)*1125899906842624)<=j:=A;have u:j<=1000000000000000000:=u;by_cases K:k < aa t.2.1
 .have n1:nth dI t.2.1 k=t.2.1[k]:=bG (t:=dI) K;have hx:=T _ (aD K);have hd:t.2.1.drop k=t.2.1[k]::t.2.1.drop (k+1):=ak K;have I:(y8 id k (aa t.2.1 - k)).any (mD (oG l))=((bT bK (id,((k:Int),())) (oG l)).isSome || (y8 id (k+1) (aa t.2.1 - (k+1))).any (mD (oG l))):=by rw[show aa t.2.1 - k=(aa t.2.1 - (k+1))+1 by omega,XS,iG];rfl
  rcases aeF B (id,((k:Int),())) with⟨L,M⟩ | ⟨m,bnm,L,M,_,_⟩
  .left;rw[M,wB,ja]at I;refine⟨(t,j - t.2.1[k].1,((k+1:Nat):Int),l,n,w,id),⟨B,J,T,k+1,aq,rfl,by show -(((k+1:Nat):Int)*1125899906842624)<=j - t.2.1[k].1;omega,by show j - t.2.1[k].1<=_;omega⟩,by simp only[ab];omega,?_,λkn kx=> ?_⟩
   .simp only[pB,xW,ab,I,hd,sV];rw[show j - t.2.1[k].1 - il (t.2.1.drop (k+1))=j - (t.2.1[k].1+il (t.2.1.drop (k+1))) by omega]
   .rw[Nz,aN aq,ai,L,ah,ed fm,al,aS aq aq,ai,ab,n1,eO aq aq,N.iY aq]
  .right;rw[M,Option.isSome_some,pM]at I;refine⟨IP (l,n,w),?_,λkn kx=> ?_⟩
   .simp only[pB,xW,ab,I,bQ];rfl
   .rw[Nz,aN aq,ai,L,ah,fE aq,ai]
 .right;obtain rfl:k=aa t.2.1:=aq;refine⟨IQ ((l,n,w),j),?_,λkn kx=> ?_⟩
  .simp only[pB,xW,ab,ay,Nat.sub_self];rw[show j - il ([]:List dW)=j by show j - 0=j;omega];rfl
  .rw[Nz,aL aq,al]
def bgf:J5.Ok:=by
 rintro⟨t,h,l,n,w⟩ ⟨I,K,L⟩;have I:mE t:=I;have K:aq8 (oG l):=K;have L:aa l<=1000000:=L;rw[bge,Nd (d:=t) I.1];simp only[ah,bt,GJ,bt,aKM];by_cases j:ig t=bn;rotate_left
 .have B:ig t=aZ:=by simpa using j
  have e:dw t h (oG l)=(0,1):=by unfold dw;rw[au (λx=>j x.1)]
  rw[B,e,eJ,ai]
 .rw[j,bW,al];by_cases O:h < 1
  .have e:dw t h (oG l)=(0,1):=by unfold dw;rw[au aq]
   rw[aN O,ai,e]
  by_cases h2:h > 1048576
  .have e:dw t h (oG l)=(0,1):=by unfold dw;rw[au aq]
   rw[aL O,al,cW h2,ai,e]
  have T:dw t h (oG l)=match ua h (mw t) (oG l) t.1 0 with
    | .inl e=>(0,e)
    | .inr jm=>if(gI t).any (mD (oG l))=bn then(0,4) else if jm - il t.2.1 < 0 then(0,8) else(jm - il t.2.1,0):=by
   unfold dw;refine(av ⟨j,aq,aq⟩).trans ?_
   cases ua h (mw t) (oG l) t.1 0 <;> rfl
  rw[T,aL O,al,ct h2,al,Lc (d:=t) I];simp only[ah,bt,M8];have u:=(iW j).1;rw[aFc (d:=(h,t,0,0,l,n,w,mw t)) ⟨⟨by show 0<=h;omega,by show h<=1048576;omega⟩,Hh,u.2.1,I.2.1,K,L,0,az _,rfl,dT 0,by show(0:Int)<=((0:Nat):Int)*_;omega⟩];simp only[ah,nT,uE,aW,aH];cases hi:ua h (mw t) (oG l) t.1 0 with
  |inl e=>rfl
  |inr f=>
   simp only[dh,al,cJ,ah];have hb:=XI K t.1 0 f hi;have A:=jL _ _ (iW j).2.2;rw[aFd (d:=(t,f,0,l,n,w,mw t)) ⟨L,u.2.2.1,λo ho=>⟨(A o ho).1.1,(A o ho).1.2⟩,0,az _,rfl,by show -(((0:Nat):Int)*_)<=f;omega,by show f<=_;omega⟩];have M:gI t=y8 (mw t) 0 (aa t.2.1):=by unfold gI;rw[av j]
   simp only[ah,pB,xW,aW,aH,mW,M];cases(y8 (mw t) 0 (aa t.2.1)).any (mD (oG l)) with
   |true=>rfl
   |false=>
    simp only[bu,bq,dh,al,cJ,ah];by_cases J:f - il t.2.1 < 0
    .rw[aN J,ai,av J]
    .rw[aL J,al,au J]
def baC:J5.RS:=rE [.d eU,.d ti,.d (.slice fk),.n,.d (.slice (.slice fk))] J5
def bgg:=J5.eQ bgf 2 ⟨.eg aKN,⟨.eg aKO,trivial⟩⟩
abbrev Lx:=Int×di×Nat×Int×(List de)×Nat×(List (List de))×(List de)
def anS(j u A):=([fp (.pr (.d (.slice fk) j) (C7 1 1 0 0 u)),.obj 1 aZ (.vec 153 (.slice fk) A)]:List dR)
def AR:Lx->AS:=λ(B,I,J,i,o0,u,A,j)=>⟨((auV B I)++aP 4 ([uJ 39 J,aU i]++aP 88 [])),(anS o0 u A),(bz 39 ([dp (.vec 158 fk j)]++bz 59 []))⟩
abbrev Nq:=(Int×di×(List de)×Nat×(List (List de)))×(Nat×(List de))
def Is:Nq->Exit×AS:=λ((a,b,c,e,f),g,h)=>(.exit 0,⟨((auV a b)++aP 4 ([uJ 39 g]++aP 89 [])),(anS c e f),(bz 39 ([dp (.vec 158 fk h)]++bz 59 []))⟩)
def ahZ:Nq->Out (Exit×AS):=λx=> .ok (Is x)
def s9:Lx->(Nat×(List de))->Nq:=λ(A,B,J,i,o0,j,u,I) y=>((A,B,o0,j,u),y)
abbrev Ly:=Int×(List de)×Nat×Int×(List de)×Nat×(List (List de))×Bs×(List gb)×(List dW)
def AU:Ly->AS:=λ(M,l,j,I,L,J,K,B,A,u)=>⟨([dK,bB,aU M]++aP 6 ([Vs l,bB,bB,bB,eI 13,CB 75 1 0 0 0 j,aU I]++aP 83 [])),(anS L J K),(bz 13 ([dp (fW B)]++bz 61 ([[fp (K6 A),fp (vm u)]]++bz 23 [])))⟩
abbrev Nr:=((List de)×Nat×(List (List de)))×((List de))
def Iu:Nr->Exit×AS:=λ((a,b,c),e)=>(.exit 2,⟨([dK]++aP 8 ([Vs e]++aP 89 [])),(anS a b c),(ag 99 [])⟩)
def ah0:Nr->Out (Exit×AS):=λx=> .ok (Iu x)
def tc:Ly->(List de)->Nr:=λ(M,l,j,L,J,B,I,K,A,u) y=>((J,B,I),y)
abbrev aoM:=di×Int×(List de)×Nat×(List (List de))
def azm:aoM->SA:=λ(t,j,A,u,o1)=>([dK,rQ t,aU j],(QQ A u o1))
abbrev bag:=(Int×(List de)×Nat×(List (List de)))⊕(Int×(List de)×Nat×(List (List de)))
abbrev aKB:=(Int×(List de)×Nat×(List (List de)))⊕(Int×(List de)×Nat×(List (List de)))
def abJ:aKB->hZ:=λx=>match x with | .inl x=>⟨aU x.1,(QQ x.2.1 x.2.2.1 x.2.2.2),[]⟩ | .inr x=>⟨aU x.1,(anS x.2.1 x.2.2.1 x.2.2.2),[]⟩
def RA:aoM->bag->aKB:=λ(t,j,A,u,o1) y=>match y with | .inl y=> .inl y | .inr y=> .inr y
def aAX(h:Int):List bO->List dW->List de->List de
 |o::os,x::xs,l=>aAX h os xs (Aw l (o,((x,(h,())),())))
 |_,_,l=>l
def akz(t:di)(h:Int)(l:List de):List de:=aAX h (gI t) t.2.1 ((dG t).foldl Jp l)
def Ir:Lx->Prop:=λ(_,t,m,i,_,_,_,r)=>aa t.1<=64/\m=aa r/\aa r<=1000000/\(dY (oG r)).Nodup/\∃k:Nat,k<=aa t.1/\i=k/\((t.1.drop k).map (·.1)).Nodup/\∀o∈(t.1.drop k).map (·.1),(bT bK o (oG r)).isSome=bn
def AQ:Lx->(Nat×(List de)):=λ(_,t,_,i,_,_,_,r)=>(aa (((t.1.drop i.toNat).map (·.1)).foldl Jp r),((t.1.drop i.toNat).map (·.1)).foldl Jp r)
def It:Ly->Prop:=λ(_,l,m,i,_,_,_,id,_,outs)=>m=aa outs/\aa outs<=64/\aa id=32/\(∀e∈l,aa e.1.1=32)/\∃k:Nat,k<=aa outs/\i=k/\aa l<=500000+k
def AT:Ly->(List de):=λ(h,l,_,i,_,_,_,id,_,outs)=>aAX h (y8 id i.toNat (aa outs - i.toNat)) (outs.drop i.toNat) l
def aoR:aoM->Prop:=λ(t,_,l,n,w)=>mE t/\aq8 (oG l)/\aa l<=500000/\n<=aa w/\aa w<=1000000
def aoN:aoM->bag:=λ(t,h,l,n,w)=>if(dw t h (oG l)).2≠0 then .inl ((dw t h (oG l)).2,l,n,w) else .inr (0,akz t h l,n+1,w.take n++ [l])
def aoO:qN:=gU (P:=prog) [bgg,avS,abi,an6,bbq]
def ave:=cQ.eg AR Ir s9 AQ ahZ
def abE:Lx->Option Nq:=eN ave AR
def avg:=cQ.eg AU It tc AT ah0
def abG:Ly->Option Nr:=eN avg AU
def abI:yu:= {cd:=[39,60],loops:=ko [(7,{aX:=[0,2,4,9,10],sites:=[39,60],owns:=[⟨9,[],39,0⟩]}),(16,{aX:=[0,2,9,13,14,15],sites:=[13,75],data:=[(9,(.slice fk))]})],outs:=km [(7,{aX:=[0,2,4,9],sites:=[39]},{aX:=[6]}),(16,{aX:=[0,9]},{aX:=[6]})],eT:=jW [(7,ave),(16,avg)]}
def bae:= @FI prog aoO abI 0 f86 _ azm
abbrev bf4:=WS @bae aoR RA aoN abJ
def avf:= @dm prog aoO abI 0 f86 0 _ AR
abbrev aoP:=gr prog aoO abI 0 f86 0 AR Ir s9 AQ ahZ
def avh:= @dm prog aoO abI 0 f86 1 _ AU
abbrev aoQ:=gr prog aoO abI 0 f86 1 AU It tc AT ah0
def aEY:fC abE Ir s9 AQ:=ia (fy [.d ti,.d eU,.n,.d ti,.d (.slice fk),.n,.d (.slice (.slice fk)),.d (.slice fk)] λ_=>bS)
def aeT:aiV @avf AR Ir s9 AQ Is aoP:=ark
theorem abF(K I A i o0 B J j)(L:K2 R)(M:K3 R):avf (K,I,A,i,o0,B,J,j) L M=aA (fj i (((aa I.1):Nat):Int)) (aA (dB i (((aa I.1):Nat):Int)) (aA (decide (0=0/\(0+A)<=(aa j))) (ao (tj.call ((cut j 0 A),(nth fK I.1 (ae i)).1)) λu=>aA (inc u ((A:Nat):Int)) (aA (decide (0=0/\(0+((ae u) - 0))<=(aa j))) (aA (cM (0+(aa (cut j 0 ((ae u) - 0)))) 80) (aA (inc (bC .i64 u (1:Int)) ((A:Nat):Int)) (aA (decide ((0+((0+(ae (bC .i64 u (1:Int))))*36))=(0+((ae (bC .i64 u (1:Int)))*36))/\((0+(ae (bC .i64 u (1:Int))))+(A - (ae (bC .i64 u (1:Int)))))<=(aa j))) (aA (decide ((0+(aa (cut j 0 ((ae u) - 0))))<=(aa ((aJ 0 (ag 0 (((ag 32 (0:Int)),((0:Int),())),((((0:Int),((([]:List kF),()),())),((0:Int),())),()))))++(cut j 0 ((ae u) - 0)))))) (aA (cM ((0+(aa (cut j 0 ((ae u) - 0))))+(aa (cut j (0+(ae (bC .i64 u (1:Int)))) (A - (ae (bC .i64 u (1:Int))))))) 80) (L (AR (K,I,((0+(aa (cut j 0 ((ae u) - 0))))+(aa (cut j (0+(ae (bC .i64 u (1:Int)))) (A - (ae (bC .i64 u (1:Int))))))),(bC .i64 i (1:Int)),o0,B,J,((aJ (0+(aa (cut j 0 ((ae u) - 0)))) ((aJ 0 (ag 0 (((ag 32 (0:Int)),((0:Int),())),((((0:Int),((([]:List kF),()),())),((0:Int),())),()))))++(cut j 0 ((ae u) - 0))))++(cut j (0+(ae (bC .i64 u (1:Int)))) (A - (ae (bC .i64 u (1:Int))))))))) aC) aC) aC) aC) aC) aC) aC) aC) aC) (M (Is ((K,I,o0,B,J),(A,j))).1 (Is ((K,I,o0,B,J),(A,j))).2):=bS
def aEZ:fC abG It tc AT:=ia (fy [.d ti,.d (.slice fk),.n,.d ti,.d (.slice fk),.n,.d (.slice (.slice fk)),.d tB,.d (.slice fK),.d (.slice dI)] λ_=>bS)
def aeU:aiV @avh AU It tc AT Iu aoQ:=ark
def abH(M l j A L J K B I u)(O:K2 R)(T:K3 R):avh (M,l,j,A,L,J,K,B,I,u) O T=aA (fj A ((j:Nat):Int)) (aA (dB A ((j:Nat):Int)) (aA (decide ((0+(ae A)) < (aa u))) (aA (decide ((((0+(ae A))*2)+0)=(0+((ae A)*2)))) (ao (R4.call (l,((B,(A,())),(((nth dI u (0+(ae A))),(M,())),())))) λx1=>O (AU (M,x1,j,(bC .i64 A (1:Int)),L,J,K,B,I,u))) aC) aC) aC) (T (Iu ((L,J,K),l)).1 (Iu ((L,J,K),l)).2):=bS
def bf5(t j I A o1)(k:K1 R):bae (t,j,I,A,o1) k=ao (J5.call (t,j,I,A,o1)) λu=>aA (pb u.2.1 (0:Int)) (k (abJ (.inl (u.2.1,u.2.2.1,u.2.2.2.1,u.2.2.2.2)))) (aA (decide (u.2.2.2.1<=(aa u.2.2.2.2))) (aA (cM (u.2.2.2.1+1) 24) (aA (cM (0+(aa u.2.2.1)) 80) (ao (abE (j,t,(0+(aa u.2.2.1)),(0:Int),u.2.2.1,(u.2.2.2.1+1),((aJ u.2.2.2.1 u.2.2.2.2)++ [u.2.2.1]),((aJ 0 (ag 0 (((ag 32 (0:Int)),((0:Int),())),((((0:Int),((([]:List kF),()),())),((0:Int),())),()))))++u.2.2.1))) λB=>ao (OF.call B.1.2.1) λL=>ao (nH.call B.1.2.1) λJ=>aA (decide (0=0/\(0+B.2.1)<=(aa B.2.2))) (ao (abG (B.1.1,(cut B.2.2 0 B.2.1),J.2.1,(0:Int),B.1.2.2.1,B.1.2.2.2.1,B.1.2.2.2.2,L,J.2.2.2.1,J.2.2.2.2)) λK=>k (abJ (.inr ((0:Int),K.2,K.1.2.1,K.1.2.2)))) aC) aC) aC) aC):=bS
def aKz:aoP:=by
 refine aeT (λ(_,t,_,i,_,_,_,_)=>aa t.1 - i.toNat) ?_
 rintro⟨h,t,m,i,l,n,w,r⟩ ⟨J,rfl,hr,hn,k,hk,rfl,I,ht⟩;by_cases O:k < aa t.1
 .left;have n1:=bG (t:=fK) O;have u:(t.1.drop k).map (·.1)=t.1[k].1::(t.1.drop (k+1)).map (·.1):=by grind [ak]
  rw[u]at I ht;have A:=db.1 I;rcases aeF hr t.1[k].1 with⟨B,T⟩ | ⟨j,hj,B,T,h3,_⟩
  .grind
  have K:cut r 0 (aa r)=r:=Xl rfl;have L:cut r 0 j=r.take j:=by simp[cut]
  have M:cut r (j+1) (aa r - (j+1))=r.drop (j+1):=by grind [cut,dy]
  have l1:aa (r.take j)=j:=by grind
  have l2:aa (r.drop (j+1))=aa r - (j+1):=dy;have l3:aa (r.take j++r.drop (j+1))=j+(aa r - (j+1)):=by grind
  have t1:aJ j (r.take j)=r.take j:=bp aq;refine⟨(h,t,aa (Jp r t.1[k].1),((k+1:Nat):Int),l,n,w,Jp r t.1[k].1),⟨J,rfl,by grind,by grind [akh,qg],k+1,aq,rfl,A.2,λo ho=> ?_⟩,by grind,?_,λkn kx=> ?_⟩
  .grind [akh,axQ]
  .simp_all [s9,AQ]
  .rw[abF,aN aq,ai,aS aq aq,ai];simp only[aO,gC,ax,bE,ai,ab,n1,K];rw[B,ah,N.iY aq];simp only[ab,mW,L,M,l1,l2,du,bf,t1,gC,ax,bE,ai];rw[l9 aq aq,ai,aK (show j<=aa r by omega),ai,cg aq aq,ai,l9 aq aq,ai,aK (show j+1+(aa r - (j+1))<=aa r by omega),ai,cg aq aq,ai,N.iY aq,h3,l3]
 grind [abF,aL,al,s9,AQ]
def aUy(l:List de)(c:de):aa (Aw l c)=aa l+1:=(Bd l c).length_eq
def aKA:aoQ:=by
 refine aeU (λ(_,_,_,i,_,_,_,_,_,outs)=>aa outs - i.toNat) ?_
 rintro⟨h,l,m,i,o,n,w,id,B,outs⟩ ⟨rfl,j,u,K,k,I,rfl,J⟩;have j:aa outs<=64:=j;have I:k<=aa outs:=I;have J:aa l<=500000+k:=J;by_cases A:k < aa outs
 .left;have n1:nth dI outs k=outs[k]:=bG (t:=dI) A;have L:R4.call (l,((id,((k:Int),())),((outs[k],(h,())),())))=aw (Aw l ((id,((k:Int),())),((outs[k],(h,())),()))):=aTj (d:=(l,((id,((k:Int),())),((outs[k],(h,())),())))) ⟨by show aa l<=1000000;omega,K,u⟩;refine⟨(h,Aw l ((id,((k:Int),())),((outs[k],(h,())),())),aa outs,((k+1:Nat):Int),o,n,w,id,B,outs),⟨rfl,j,u,λe he=> ?_,k+1,aq,rfl,by show aa (Aw l _)<=_;rw[aUy];omega⟩,by simp only[ab];omega,?_,λM O=> ?_⟩
  .rcases cr.1 ((Bd l _).mem_iff.1 he) with rfl | he
   .exact u
   .exact K e he
  .simp only[tc,AT,ab];rw[ak A,show aa outs - k=(aa outs - (k+1))+1 by omega,XS,aAX]
  .rw[abH,aN aq,ai,aS aq aq,ai,ab];simp only[aO,bY,bE,ai,n1];rw[aK A,ai,L,ah,N.iY aq]
 .right;obtain rfl:k=aa outs:=aq;intro T M O;rw[abH,aL aq,al];simp only[tc,AT,ab,ay,Nat.sub_self];rfl
def aBX{t:di}(B:ig t=bn):aMt t:=by
 obtain⟨⟨_,I,J,_⟩,u,A⟩:=iW B;refine⟨⟨aq,λx j=> ?_⟩,aq,λx j=> ?_⟩
 .have:=ma _ _ u x j;grind [Po,DF]
 .have:=Qr (jL _ _ A x j).2;grind
def Qb:∀(os:List bO) (l:List de),(os.foldl Jp l).Sublist l
 |[],l=>List.Sublist.refl _
 |o::os,l=>(Qb os (Jp l o)).trans (aXf l o)
def bf6:bf4:=by
 rintro⟨t,h,l,n,w⟩ ⟨J,A,T,M,hw⟩;have J:mE t:=J;have A:aq8 (oG l):=A;have T:aa l<=500000:=T;have M:n<=aa w:=M;have hw:aa w<=1000000:=hw;rw[bf5,baC (d:=(t,h,l,n,w)) ⟨J,A,by show aa l<=1000000;omega⟩];simp only[ah,bt,aKM,RA,aoN];by_cases I:(dw t h (oG l)).2=0
 .have B:=HO I;have j:=(iW B.ok).1;have O:dG t=t.1.map (·.1):=by unfold dG;rw[av B.ok]
  have hq:∀e∈l,aa e.1.1=32:=λe L=>((A.2 (e.1,e.2.1) (dE.2 ⟨e,L,rfl⟩)).1).1
  rw[bU I,al,aK M,ai,cg aq aq,ai,cg aq aq,ai];simp only[aO,du,bf];rw[aEY (d:=(h,t,aa l,0,l,n+1,w.take n++ [l],l)) ⟨j.2.1,rfl,by show aa l<=1000000;omega,A.1,0,az _,rfl,by rw[aH,<-O];exact NM t,by rw[aH,<-O];exact B.there⟩];have u:=Qb (t.1.map (·.1)) l;simp only[ah,s9,AQ,aW,aH];rw[Lc (d:=t) J,ahE (d:=t) (aBX B.ok)];simp only[ah,bt,M8,bt,aeM,aO,gC,ax,bE,ai];rw[Xl rfl,aEZ (d:=(h,(t.1.map (·.1)).foldl Jp l,aa t.2.1,0,l,n+1,w.take n++ [l],mw t,t.1,t.2.1)) ⟨rfl,j.2.2.1,(Hh (t:=t)).1,λe L=>hq e (u.mem L),0,az _,rfl,by have:=u.length_le;show aa ((t.1.map (·.1)).foldl Jp l)<=_;omega⟩];have K:gI t=y8 (mw t) 0 (aa t.2.1):=by unfold gI;rw[av B.ok]
  simp only[ah,tc,AT,aW,aH,mW,I,ne_eq,not_true_eq_false,bq,akz,K,O]
 .rw[dj I,ai];simp only[ne_eq,I,not_false_eq_true,bQ]
def baf:=Entry.Ug [aC,aw eU,aw ti] azm aoR RA aoN abJ
def TX:aoM->Option aKB:=Du baf azm
def bah:fC TX aoR RA aoN:=LN (Pp [.d eU,.d ti,.d (.slice fk),.n,.d (.slice (.slice fk))] λ_=>bS)
def aOe:SG prog:=⟨86,jh,baf,.of (.aOE (.fn 2 bS bf6 (iD (.eg aKz bS) (iD (.eg aKA bS) trivial)))) (by rfl)⟩
abbrev LI:=(List dW)×Int×Int×Nat×(List de)
def A3:LI->AS:=λ(B,A,i,u,j)=>⟨([qX B,bB,.qW,aU A,eI 14,aU i]++aP 107 []),[],(bz 14 ([dp (.pr (uJ 109 u) (Ia))]++bz 94 [dp (.vec 158 fk j),[],[],[]]))⟩
def pD:Unit->Exit×AS:=λx=>(.ret,⟨([bB,bB,.qW]++aP 110 []),[],(ag 113 [])⟩)
abbrev apy:=Nat×(List de)
def IT:apy->Exit×AS:=λx=>(.exit 0,⟨([bB,bB,.qW,bB,eI 14]++aP 108 []),[],(bz 14 ([dp (.pr (uJ 109 x.1) (Ia))]++bz 94 [dp (.vec 158 fk x.2),[],[],[]]))⟩)
abbrev afj:=(Unit)⊕(apy)
abbrev avH:=(Unit)⊕((Nat×(List de)))
def RR:afj->Out (Exit×AS):=λx=> .br x.isLeft (.get x.getLeft? λa=> .ok (pD a)) (.get x.getRight? λb=> .ok (IT b))
def pC:LI->avH->afj:=λ(B,A,i,u,j) y=>match y with | .inl y=> .inl y | .inr z=> .inr (z)
abbrev LJ:=(List dW)×Int×Int×Int×Int×Nat×Nat×(List kF)×(List de)
def A5:LJ->AS:=λ(K,u,J,L,n7,A,I,j,B)=>⟨([qX K,bB,.qW,aU u,eI 14,aU J,bB,eI 7,aU L]++aP 104 []),[],(bz 7 ([dp (auU n7 95 A)]++bz 6 ([dp (.pr (uJ 109 I) (Ia))]++bz 80 ([dp (Ic j)]++bz 13 [dp (.vec 158 fk B),[],[],[]]))))⟩
abbrev ND:=((List dW)×Int×Int×Int×Nat×(List de))×(Nat×(List kF))
def IV:ND->Exit×AS:=λ((a,b,c,e,f,g),h,i)=>(.exit 2,⟨([qX a,bB,.qW,aU b,eI 14,aU c,bB,eI 7]++aP 105 []),[],(bz 7 ([dp (auU e 95 h)]++bz 6 ([dp (.pr (uJ 109 f) (Ia))]++bz 80 ([dp (Ic i)]++bz 13 [dp (.vec 158 fk g),[],[],[]]))))⟩)
def aid:ND->Out (Exit×AS):=λx=> .ok (IV x)
def tf:LJ->(Nat×(List kF))->ND:=λ(K,j,J,L,n7,I,A,B,u) y=>((K,j,J,n7,A,u),y)
abbrev apu:=(List dW)
def azD:apu->SA:=λouts=>([qX outs],[])
abbrev baY:=(Unit)⊕((List de)×(List (List de)))
abbrev aKY:=(Unit)⊕((List de)×(List (List de)))
def auT(j u A B I J K L M):=([fp (.pr (.d (.slice fk) j) (CA u A B I J K)),fp (.vec L (.slice fk) M)]:List dR)
def RU:aKY->hZ:=λx=>match x with | .inl x=>⟨.qW,[],[]⟩ | .inr x=>⟨eI 0,[],(auT x.1 0 1 0 0 0 0 153 x.2)⟩
def RT:apu->baY->aKY:=λouts y=>match y with | .inl y=> .inl y | .inr y=> .inr y
def CP(p:bO×fh):de:=(p.1,(p.2,()))
def IU:LJ->Prop:=λ(outs,_,i,j,_,m,_,r,_)=>m=aa r/\∃(n k:Nat) (h:n < aa outs),i=n/\j=k/\k<=outs[n].2.1.1.length/\outs[n].2.1.1.length<=4/\(∀b∈outs[n].2.1.1,aa b.1<=12)/\aa r=k
def A4:LJ->(Nat×(List kF)):=λ(outs,_,i,j,_,m,_,r,_)=>(aa (r++(nth dI outs i.toNat).2.1.1.drop j.toNat),r++(nth dI outs i.toNat).2.1.1.drop j.toNat)
def IS:LI->Prop:=λ(outs,j,i,m,r)=>(∀o∈outs,Pj o)/\aa outs<=256/\0<=j/\j<=1125899906842624/\m=aa r/\∃k:Nat,k<=aa outs/\i=k/\aa r=k
def xZ:LI->avH:=λ(outs,j,i,m,r)=>match EC j i.toNat (outs.drop i.toNat) with | none=> .inl () | some a=> .inr (aa (r++a.map CP),r++a.map CP)
def apA:apu->Prop:=λouts=>∀o∈outs,Pj o
def apv:apu->baY:=λouts=>match Gq outs with | none=> .inl () | some a=> .inr (a.map CP,[])
def apw:qN:=gU (P:=prog) [Ih]
def avF:=cQ.eg A3 IS pC xZ RR
def aca:LI->Option afj:=eN avF A3
def avI:=cQ.eg A5 IU tf A4 aid
def acb:LJ->Option ND:=eN avI A5
def ace:yu:= {cd:=[14,83],loops:=ko [(6,{aX:=[0,2,3,4,5],sites:=[14,109],owns:=[⟨4,[.fst],109,153⟩]}),(14,{aX:=[0,2,3,4,5,7,8],sites:=[7,14,95,109],owns:=[⟨7,[.snd,.fst,.fst],95,63⟩]})],outs:=km [(6,{aX:=[2,4],sites:=[14,109]},{aX:=[2]}),(14,{aX:=[0,2,3,4,5,7],sites:=[7,14,95,109]},{aX:=[2]})],eT:=jW [(6,avF),(14,avI)],owns:=[⟨2,[.snd,.fst],10,154⟩],Ec:=[⟨2,[.fst],(.slice fk)⟩]}
def baW:= @FI prog apw ace 0 f33 _ azD
abbrev bgm:=WS @baW apA RT apv RU
def avG:= @dm prog apw ace 0 f33 0 _ A3
abbrev apx:=gr prog apw ace 0 f33 0 A3 IS pC xZ RR
def avJ:= @dm prog apw ace 0 f33 1 _ A5
abbrev apz:=gr prog apw ace 0 f33 1 A5 IU tf A4 aid
def aFo:fC aca IS pC xZ:=ia (fy [.d (.slice dI),.d ti,.d ti,.n,.d (.slice fk)] λ_=>bS)
def afk:iX @avG A3 IS pC xZ RR apx:=ji
def NC(A I i B u)(K:K2 R)(J:K3 R):avG (A,I,i,B,u) K J=aA (fj i (((aa A):Nat):Int)) (aA (dB i (((aa A):Nat):Int)) (ao (ke.call (nth dI A (ae i)).2.1) λL=>aA (!L) (J (pD ()).1 (pD ()).2) (aA (dB i (((aa A):Nat):Int)) (aA (fj (nth dI A (ae i)).1 (0:Int)) (J (pD ()).1 (pD ()).2) (aA (dB i (((aa A):Nat):Int)) (aA (qi (nth dI A (ae i)).1 (cY .i64 (1125899906842624:Int) I)) (J (pD ()).1 (pD ()).2) (aA (dB i (((aa A):Nat):Int)) (aA (dB i (((aa A):Nat):Int)) (ao (acb (A,(bC .i64 I (nth dI A (ae i)).1),i,(0:Int),(nth dI A (ae i)).1,0,B,([]:List kF),u)) λj=>aA (decide (0=0/\(0+j.2.1)<=(aa j.2.2))) (aA (decide (j.1.2.2.2.2.1<=(aa j.1.2.2.2.2.2))) (aA (cM (j.1.2.2.2.2.1+1) 80) (K (A3 (j.1.1,j.1.2.1,(bC .i64 j.1.2.2.1 (1:Int)),(j.1.2.2.2.2.1+1),((aJ j.1.2.2.2.2.1 j.1.2.2.2.2.2)++ [(((ag 32 (0:Int)),(j.1.2.2.1,())),(((j.1.2.2.2.1,(((cut j.2.2 0 j.2.1),()),())),((0:Int),())),()))])))) aC) aC) aC) aC) aC)) aC)) aC)) aC) (J (IT (B,u)).1 (IT (B,u)).2):=bS
def aFp:fC acb IU tf A4:=ia (fy [.d (.slice dI),.d ti,.d ti,.d ti,.d ti,.n,.n,.d (.slice iq),.d (.slice fk)] λ_=>bS)
def afl:aiV @avJ A5 IU tf A4 IV apz:=ark
theorem acd(u J j B n7 A L I K)(M:K2 R)(O:K3 R):avJ (u,J,j,B,n7,A,L,I,K) M O=aA (dB j (((aa u):Nat):Int)) (aA (fj B (((aa (nth dI u (ae j)).2.1.1):Nat):Int)) (aA (dB j (((aa u):Nat):Int)) (aA (dB B (((aa (nth dI u (ae j)).2.1.1):Nat):Int)) (aA (cM (0+(aa (nth iq (nth dI u (ae j)).2.1.1 (ae B)).1)) 8) (aA (decide (0=0/\(0+(0+(aa (nth iq (nth dI u (ae j)).2.1.1 (ae B)).1)))<=(aa ((aJ 0 (ag 0 (0:Int)))++(nth iq (nth dI u (ae j)).2.1.1 (ae B)).1)))) (aA (decide (A<=(aa I))) (aA (cM (A+1) 48) (M (A5 (u,J,j,(bC .i64 B (1:Int)),n7,(A+1),L,((aJ A I)++ [((cut ((aJ 0 (ag 0 (0:Int)))++(nth iq (nth dI u (ae j)).2.1.1 (ae B)).1) 0 (0+(aa (nth iq (nth dI u (ae j)).2.1.1 (ae B)).1))),((nth iq (nth dI u (ae j)).2.1.1 (ae B)).2.1,((nth iq (nth dI u (ae j)).2.1.1 (ae B)).2.2.1,((nth iq (nth dI u (ae j)).2.1.1 (ae B)).2.2.2.1,()))))]),K))) aC) aC) aC) aC) aC) aC) (O (IV ((u,J,j,n7,L,K),(A,I))).1 (IV ((u,J,j,n7,L,K),(A,I))).2)) aC:=bS
def bgn(outs)(k:K1 R):baW outs k=aA (qi (((aa outs):Nat):Int) (256:Int)) (k (RU (.inl ()))) (ao (aca (outs,(0:Int),(0:Int),0,([]:List de))) λj=>aA j.isLeft (ao j.getLeft? λu=>k (RU (.inl ()))) (ao j.getRight? λb7=>aA (decide (0=0/\(0+b7.1)<=(aa b7.2))) (k (RU (.inr ((cut b7.2 0 b7.1),([]:List (List de)))))) aC)):=bS
def aKX:apz:=by
 refine afl (λ(outs,_,i,j,_,_,_,_,_)=>(nth dI outs i.toNat).2.1.1.length - j.toNat) ?_
 rintro⟨outs,A,i,j,u,m,T,r,r2⟩ ⟨rfl,n,k,K,rfl,rfl,O,M,I,hr⟩;have n1:=bG (t:=dI) K;generalize hB:outs[n].2.1.1=B at O M I;have n2:(nth dI outs n).2.1.1=B:=by grind
 by_cases J:k < B.length
 .left;have n3:=bG (t:=iq) J;have hb:=I _ (aD J);have L:aa (r++ [B[k]])=aa r+1:=by grind
  refine⟨(outs,A,(n:Int),((k+1:Nat):Int),u,aa r+1,T,r++ [B[k]],r2),⟨L.symm,n,k+1,K,rfl,rfl,by grind,by grind,by grind,by grind⟩,by grind,?_,λkn kx=> ?_⟩
  .grind [tf,A4,ab,ak]
  .rw[acd,aS aq aq,ai];simp only[ab,n2,n3];rw[aN aq,ai,ai,aS aq aq,ai];simp only[aO,du,bf,gC,ax,bE,ai,bI,dM];rw[cg aq aq,ai,cg aq aq,ai,N.iY aq]
 grind [acd,aS,ai,aL,al,tf,A4]
def aKW:apx:=by
 refine afk (λ(outs,_,i,_,_)=>aa outs - i.toNat) ?_
 rintro⟨outs,j,i,m,r⟩ ⟨T,B,L,M,rfl,k,hk,rfl,hr⟩;have L:0<=j:=L;have M:j<=1125899906842624:=M;have B:aa outs<=256:=B;have hk:k<=aa outs:=hk;have hr:aa r=k:=hr;by_cases h:k < aa outs
 .obtain⟨K,g2,g3⟩:=T _ (aD h);have n1:nth dI outs k=outs[k]:=bG (t:=dI) h;have O:outs.drop k=outs[k]::outs.drop (k+1):=ak h;by_cases I:sU j outs[k]=bn
  .left;have u:=I;unfold sU at u;simp only[aQ,bJ]at u;obtain⟨k1,J,k3⟩:=u;have axU:=Qr k1;have el:aa (r++ [CP (yR k outs[k])])=aa r+1:=by rw[aj];rfl
   refine⟨(outs,j+outs[k].1,((k+1:Nat):Int),aa r+1,r++ [CP (yR k outs[k])]),⟨T,B,by show 0<=j+outs[k].1;omega,by show j+outs[k].1<=_;omega,el.symm,k+1,aq,rfl,by show aa (r++ [CP (yR k outs[k])])=_;omega⟩,by simp only[ab];omega,?_,λkn kx=> ?_⟩
   .simp only[pC,xZ,ab,O,EC,I];cases EC (j+outs[k].1) (k+1) (outs.drop (k+1)) with
    |none=>rfl
    |some a=>simp only[kB,cq,aR,cv]
   .rw[NC,aN aq,ai,aS aq aq,ai,ab,n1,zm (d:=outs[k].2.1) K];simp only[ah,bt,w9,k1,bW,al,ai];rw[aL aq,al,eO aq aq,ct aq,al,eS aq aq,aFp (d:=(outs,j+outs[k].1,(k:Int),0,outs[k].1,0,aa r,[],r)) ⟨rfl,k,0,h,rfl,rfl,az _,axU.1,axU.2,rfl⟩];simp only[ah,tf,A4,ab,aW,aH,bf,n1,aO,gC,ax,bE,ai,bI,dM];rw[cg aq aq,ai,N.iY aq];rfl
  .right;have A:sU j outs[k]=aZ:=by simpa using I
   refine⟨pD (),?_,λkn kx=> ?_⟩;rotate_left
   .rw[NC,aN aq,ai,aS aq aq,ai,ab,n1,zm (d:=outs[k].2.1) K,eO aq aq];simp only[ah,bt,w9,ai];unfold sU at A;cases k1:lN outs[k].2.1 with
    |false=>rw[eJ,ai]
    |true=>
     rw[k1]at A;simp only[bH,iR]at A;rw[bW,al];by_cases J:outs[k].1 < 0
     .rw[aN J,ai]
     .rw[aL J,al,cW aq,ai]
   .simp only[pC,xZ,ab,O,EC,A];rfl
 .right;obtain rfl:k=aa outs:=aq;refine⟨IT (aa r,r),?_,λkn kx=> ?_⟩
  .simp only[pC,xZ,ab,ay,EC,gm,bm];rfl
  .rw[NC,aL aq,al]
def bgo:bgm:=by
 intro outs u;rw[bgn];simp only[RT,apv,Gq];by_cases j:aa outs<=256
 .rw[ct aq,al,aFo (d:=(outs,0,0,0,[])) ⟨u,j,dT 0,by show(0:Int)<=_;decide,rfl,0,az _,rfl,rfl⟩];simp only[ah,pC,xZ,aW,aH,bf,j,bQ];cases EC 0 0 outs with
  |none=>rfl
  |some a=>
   simp only[dh,al,cJ,ah,aO,gC,ax,bE,ai,dM]
 .rw[cW aq,ai];simp only[j,bq]
def baX:=Entry.Ug [aw (.slice dI)] azD apA RT apv RU
def avK:apu->Option aKY:=Du baX azD
def baZ:fC avK apA RT apv:=LN (Pp [.d (.slice dI)] λ_=>bS)
def bgp:SG prog:=⟨33,jh,baX,.of (.aOE (.fn 2 bS bgo (iD (.eg aKW bS) (iD (.eg aKX bS) trivial)))) (by rfl)⟩
section
def aTO{l:List de}(I:(dY (oG l)).Nodup){o:bO}{c:fh}(J:bT bK o (oG l)=aC):
  (dY (oG (Aw l (o,(c,()))))).Nodup/\rF (oG (Aw l (o,(c,())))) (fi bK o c (oG l)):=by
 have A:(oG (Aw l (o,(c,())))).Perm ((o,c)::oG l):=(Bd l (o,(c,()))).map _;have B:o ∉ dY (oG l):=(get_none eY I).1 J;have u:(dY ((o,c)::oG l)).Nodup:=db.2 ⟨B,I⟩;refine⟨((A.map _).nodup_iff).2 u,?_⟩;have e:fi bK o c (oG l)=oG l++ [(o,c)]:=Cv eY B;rw[e];have j:(oG (Aw l (o,(c,())))).Perm (oG l++ [(o,c)]):=A.trans (List.perm_append_singleton (o,c) (oG l)).symm;exact aCw ((j.map (·.1)).nodup_iff.1 (((A.map _).nodup_iff).2 u)) j
def aMz(h:Int):∀(os:List bO) (A:List dW) {l:List de},big l->(∀e∈l,CV e.1)->(dY (oG l)).Nodup->os.Nodup->(∀o∈os,CV o/\bT bK o (oG l)=aC)->
  big (aAX h os A l)/\(dY (oG (aAX h os A l))).Nodup/\rF (oG (aAX h os A l)) (Ub h os A (oG l))
 |[],[],_,u,_,j,_,_=>⟨u,j,rF.refl _⟩
 |[],_::_,_,u,_,j,_,_=>⟨u,j,rF.refl _⟩
 |_::_,[],_,u,_,j,_,_=>⟨u,j,rF.refl _⟩
 |o::os,x::A,l,u,hq,j,hd,ho=>by
  have B:=db.1 hd;obtain⟨J,T⟩:=ho o aY;obtain⟨w1,K⟩:=aTO (c:=(x,(h,()))) j T;obtain⟨L,M,O⟩:=aMz h os A (l:=Aw l (o,((x,(h,())),()))) (awp l _ hq J u) (λe he=>by
   rcases cr.1 ((Bd l _).mem_iff.1 he) with rfl | he
   .exact J
   .exact hq e he) w1 B.2 (λy I=>⟨(ho y (aT _ I)).1,by
    rw[K y,aIr,au (λe=>B.1 (by rw[<-e];exact I))];exact(ho y (aT _ I)).2⟩)
  rw[aAX,Ay];exact⟨L,M,O.trans (rF.add h os A K)⟩
def aiz:∀(os:List bO) (l:List de),oG (os.foldl Jp l)=Cq os (oG l)
 |[],_=>rfl
 |o::os,l=>by rw[bN,aiz os,akh,TA]
def Rl.apply{a:At}{l:List de}{t:di}{h jm:Int}(j:Rl a l)(A:wz t h a jm)(hv:mE t):Rl (fx t h a) (akz t h l):=by
 have J:=j.nd;have I:oG ((dG t).foldl Jp l)=Cq (dG t) (oG l):=aiz _ _;have u:=Qb (dG t) l;have B:=A.wK j.wK hv;have K:=xH A.ok;obtain⟨i1,i2,i3⟩:=aMz h (gI t) t.2.1 (l:=(dG t).foldl Jp l) (List.Pairwise.sublist u j.bqO) (λe O=>j.q e (u.mem O)) (by rw[I];exact F8 _ J) (XT t) (λo M=>by
  refine⟨?_,?_⟩
  .obtain⟨k,hk,e⟩:=List.getElem_of_mem M;have T:=A.new hk aq;have L:=(lO eY B.1).1 T;rw[e]at L;exact(B.2 _ L).1
  .rw[I,agR o _ J];split
   .rfl
   .rw[j.eqv o];exact A.made o M)
 refine⟨B,i1,i2,?_⟩;unfold akz;refine i3.trans ?_
 rw[I];exact j.eqv.apply J j.wK.1 t h
def Rl.check{a:At}{l:List de}(j:Rl a l)(t:di)(h:Int):dw t h (oG l)=dw t h a:=j.eqv.check t h
def aDI:∀(outs:List dW) (j:Int) (k:Nat) {a:At},0<=j->j<=1125899906842624->(∀o∈outs,Pj o)->EC j k outs=aw a->big (a.map CP)
 |[],j,k,a,_,_,_,e=>by obtain rfl:=cj e;exact List.Pairwise.nil
 |o::outs,j,k,a,h0,h1,hg,e=>by
  rw[EC]at e;cases K:sU j o with
  |false=>rw[K]at e;cases e
  |true=>
   rw[K]at e;simp only at e;cases J:EC (j+o.1) (k+1) outs with
   |none=>rw[J]at e;cases e
   |some r=>
    rw[J]at e;obtain rfl:=cj e;have A:=K;unfold sU at A;simp only[aQ,bJ]at A;obtain⟨_,k2,k3⟩:=A;have B:∀x∈outs,Pj x:=λx u=>hg x (aT _ u)
    obtain⟨_,_,_,_,i5,_⟩:=aeC outs (j+o.1) (k+1) aq aq B J;rw[cq];refine gQ.2 ⟨λy T=> ?_,aDI outs (j+o.1) (k+1) aq aq B J⟩;obtain⟨p,hp,rfl⟩:=dE.1 T;obtain⟨I,_,q3⟩:=i5 p hp;have M:CV (yR k o).1:=by refine⟨by show aa (ag 32 (0:Int))=32;rw[cT],λx u=> ?_⟩;have u:x∈ag 32 (0:Int):=u;obtain rfl:=(pS.1 u).2;exact⟨fm,fm⟩
    show ¬Am p.1 (yR k o).1 < 0;refine adS M I ?_
    have L:(yR k o).1.1=ag 32 (0:Int):=rfl;rw[rO M I];unfold C3;rw[aj2 _ _ (M.1.trans I.1.symm),L];have hN:(yR k o).1.2.1=(k:Int):=rfl;rw[hN];have key:∀(n:Nat) (b:List Int),aa b=n->(∀x∈b,0<=x)->lx (ag n (0:Int)) b<=0:=by
     intro n
     induction n with
     |zero=>intro b _ _;cases b <;> exact dT 0
     |succ n ih=>
      intro b hb u;cases b with
      |nil=>exact dT 0
      |cons y b=>
       rw[uX,lx];have T:=u y aY;by_cases e:(0:Int)=y
       .rw[au (λx=>x e)];exact ih b (by simpa using hb) λz L=>u z (aT _ L)
       .rw[av e,av aq];decide
    have hle:=key 32 p.1.1 I.1 λx u=>(I.2 x u).1
    unfold bkV;by_cases O:lx (ag 32 (0:Int)) p.1.1=0
    .rw[av O];unfold axb;rw[av aq];decide
    .rw[au O];omega
def aGi(a:At):oG (a.map CP)=a:=by unfold oG;rw[yz];exact List.map_id' a
def bj1{outs:List dW}{a:At}(u:∀o∈outs,Pj o)(e:Gq outs=aw a):Rl a (a.map CP):=by
 obtain⟨j,_⟩:=aeB u e;have B:big (a.map CP):=by
  unfold Gq at e;by_cases A:aa outs<=256
  .rw[av A]at e;exact aDI outs 0 0 fm fm u e
  .rw[au A]at e;cases e
 exact⟨j.wK,B,by rw[aGi];exact j.wK.1,by rw[aGi];exact rF.refl a⟩
def xo(m:Nat):Nat->At->List cF->List (List de)->Prop
 | 0,_,_,_=>True
 |n+1,a,s,w=>Rl (yn a (nth eh s n)) (nth (.slice fk) w n)/\Ck (yn a (nth eh s n))<=1125899906842624/\aa (yn a (nth eh s n))<=256+64*m/\xo m n (yn a (nth eh s n)) s w
def xo.mono{m m':Nat}(h:m<=m'):∀(n:Nat) {a:At} {s:List cF} {w:List (List de)},xo m n a s w->xo m' n a s w
 | 0,_,_,_,_=>trivial
 |n+1,_,_,_,j=>⟨j.1,j.2.1,by have:=j.2.2.1;omega,xo.mono h n j.2.2.2⟩
def xo.eqv{m:Nat}:∀(n:Nat) {a b:At} {s:List cF} {w:List (List de)},xo m n a s w->rF a b->(dY a).Nodup->(dY b).Nodup->xo m n b s w
 | 0,_,_,_,_,_,_,_,_=>trivial
 |n+1,a,b,s,w,j,e,B,I=>by have u:=e.bmP B I (nth eh s n);have n1:=Ja B (nth eh s n);have n2:=Ja I (nth eh s n);have A:=u.perm n1 n2;exact⟨j.1.bln (j.1.wK.perm A) u,by rw[<-Kw A];exact j.2.1,by rw[<-A.length_eq];exact j.2.2.1,xo.eqv n j.2.2.2 u n1 n2⟩
def xo.same{m:Nat}:∀(n:Nat) {a:At} {s A:List cF} {w w':List (List de)},xo m n a s w->(∀k,k < n->nth eh s k=nth eh A k)->(∀k,k < n->nth (.slice fk) w k=nth (.slice fk) w' k)->xo m n a A w'
 | 0,_,_,_,_,_,_,_,_=>trivial
 |n+1,a,s,A,w,w',j,B,I=>by unfold xo at j ⊢;rw[<-B n (Nat.lt_succ_self n),<-I n (Nat.lt_succ_self n)];exact⟨j.1,j.2.1,j.2.2.1,xo.same n j.2.2.2 (λk u=>B k (Nat.lt_succ_of_lt u)) λk u=>I k (Nat.lt_succ_of_lt u)⟩
def aRA{w:List (List de)}{x:List de}{n k:Nat}(A:n<=aa w)(u:k < n):nth (.slice fk) (w.take n++ [x]) k=nth (.slice fk) w k:=by
 have j:k < aa (w.take n++ [x]):=by rw[aj,bw];omega
 rw[bG (t:= .slice fk) j,bG (t:= .slice fk) (show k < aa w by omega)];show(aJ n w++ [x])[k]=w[k];rw[List.getElem_append_left (by rw[bw];omega),ku]
def aRz{w:List (List de)}{x:List de}{n:Nat}(u:n<=aa w):nth (.slice fk) (w.take n++ [x]) n=x:=by
 have e:aa (w.take n)=n:=by rw[bw];omega
 have j:n < aa (w.take n++ [x]):=by rw[aj,e];exact Nat.lt_succ_self n
 rw[bG (t:= .slice fk) j];show(aJ n w++ [x])[n]=x;rw[List.getElem_append_right aq];simp[e]
structure Ai(m n:Nat)(a:At)(s:List cF)(l:List de)(n':Nat)(w:List (List de)):Prop where
 st:Od m n a s
 rl:Rl a l
 eq:n'=n
 le:n<=aa w
 len:aa w<=m
 beN:xo m n a s w
section
variable {m n n':Nat} {a:At} {s:List cF} {l:List de} {w:List (List de)}
def Ai.apply{t:di}{h:Int}(j:Ai m n a s l n' w)(B:wz t h a (dw t h a).1)(L:mE t):Ai (m+1) (n+1) (fx t h a) (s.take n++ [stepOf t a]) (akz t h l) (n'+1) (w.take n'++ [l]):=by
 obtain rfl:=j.eq;have K:=j.le;have T:=j.len;have u:=j.st.wK;have O:=j.st.app B L;have e:aa (w.take n')=n':=by rw[bw];omega
 have A:=aqP B u.1;have M:(dY (yn (fx t h a) (stepOf t a))).Nodup:=Ja (fT u.1) _;have J:=A.perm M u.1;refine⟨O,j.rl.apply B L,rfl,by rw[aj,e];exact ax _,by rw[aj,e];show n'+1<=_;omega,?_⟩;unfold xo;rw[aZc j.st.le,aRz K];refine⟨j.rl.bln (u.perm J.symm) A.symm,by rw[Kw J];exact j.st.sum,by rw[J.length_eq];have:=j.st.biD;omega,?_⟩;refine xo.mono (kW m) n' (xo.eqv n' (xo.same n' j.beN ?_ ?_) A.symm u.1 M)
 .exact λk I=>(aZd j.st.le I).symm
 .exact λk I=>(aRA K I).symm
def Ai.mono(j:Ai m n a s l n' w):Ai (m+1) n a s l n' w:=⟨j.st.mono (kW _),j.rl,j.eq,j.le,Nat.le_succ_of_le j.len,j.beN.mono (kW m) n⟩
end
def bac{m n u:Nat}{a:At}{s:List cF}{l:List de}{w:List (List de)}(j:Ai m n a s l u w)(K:m<=1000){t:di}{h:Int}(A:mE t):TX (t,h,l,u,w)=aw (if(dw t h a).2≠0 then .inl ((dw t h a).2,l,u,w) else .inr (0,akz t h l,u+1,w.take u++ [l])):=by
 have B:=j.rl.len;have I:=j.st.biD;have J:=j.len;rw[bah (d:=(t,h,l,u,w)) ⟨A,j.rl.bpZ,by show aa l<=500000;omega,by rw[j.eq];exact j.le,by show aa w<=1000000;omega⟩];simp only[RA,aoN,j.rl.check];by_cases e:(dw t h a).2≠0
 .rw[av e]
 .rw[au e]
end
abbrev dS:Ty:=(.pair ti (.pair tH (.pair (.slice eU) (.pair ti (.pair (.slice bK) .unit)))))
abbrev cP:=(Int×(Bs×((List di)×(Int×((List bO)×Unit)))))
def biM(x y:List Int):Ty.beq tH x y=decide (x=y):=by
 by_cases h:x=y
 .rw[h,fM rfl];exact beq_refl tH y rfl
 .rw[kC h];cases j:Ty.beq tH x y with
  |false=>rfl
  |true=>exact absurd (beq_eq tH x y rfl j) h
def aO1(o:bO):Prop:=aa o.1=32/\o.2.1<=9223372036854775807
def aG0(b:cP):Prop:=(aa b.2.2.1<=1000/\∀t∈b.2.2.1,mE t)/\(b.1<=9223372036854775807/\aa b.2.1=32/\b.2.2.2.1<=9223372036854775807)/\aa b.2.2.2.2.1<=1000/\∀o∈b.2.2.2.2.1,aO1 o
def aAM(n:Nat)(l:List cP):Prop:=n<=aa l/\n<=1000000/\∀b∈l,aG0 b
abbrev awU:=Nat×Nat×(List (bO×fh))×(List cF)×(List cP)
def atA:awU->Unit->(Nat×Nat×(List (bO×fh))×(List cF)×(List cP)):=λ(j,u,A,B,I) y=>(j,u,A,B,I)
def aPQ:awU->Prop:=λ_=>True
def aMQ:awU->Unit:=λ_=>()
def aeJ(j u A B I):=([.obj 0 aZ (.pr (.ptr (.dx 1) 0 [] 0) (.pr (.dq (.dx 4) 0 [] 0 0 j) (.d .unit ()))),.obj 0 aZ (.pr (.iI (.dx 2) 0) (.pr (.dq (.dx 3) 0 [] 0 0 u) (.d .unit ()))),.obj 0 aZ (.mp bK mv A),.obj 0 aZ (.vec 243 eh B),.obj 0 aZ (.vec 48 dS I)]:List dR)
def gB(j u A B):=(.ptr (.new j u) A [] B:aF)
def ak2:Fs prog aPQ atA aMQ:=eP 143 f143 (λ(j,u,A,B,I)=>([dK],(aeJ j u A B I))) (λx=>⟨.fn 185 (.cons (gB 0 0 0 0) (.nil)),(aeJ x.1 x.2.1 x.2.2.1 x.2.2.2.1 x.2.2.2.2),[.obj 0 aZ (dK)]⟩) [aC] [] {cd:=[1]}
def aWf(j u A B I)(k:K1 R):ak2.A (j,u,A,B,I) k=k (ak2.out (j,u,A,B,I)):=bS
def aWg:ak2.Ok:=by intro d _;rw[aWf];rfl
def aPR:ak2.RS:=rE [.n,.n,.d (.slice (.pair bK mv)),.d (.slice eh),.d (.slice dS)] ak2
def aWh:=ak2.eQ aWg
def aNl(x:Bs)(t:di):Bs:=x++mw t
def be6(x:Bs)(o:bO):Bs:=cZ (x++o.1) o.2.1
def biu(b:cP):Bs:=b.2.2.2.2.1.foldl be6 (cZ (cZ (b.2.2.1.foldl aNl (cZ (cZ [] b.1++b.2.1) (aa b.2.2.1))) b.2.2.2.1) (aa b.2.2.2.2.1))
def aHo(b:cP):Bs:=tag (bX (⟨#[98,108,111,99,107]⟩:ByteArray)) [biu b]
def ajU:∀(l:List di) (x:Bs),aa (l.foldl aNl x)=aa x+32*aa l
 |[],x=>rfl
 |t::l,x=>by rw[bN,ajU l,aNl,aj,Hh.1,aB];omega
def TJ:∀(l:List bO) (x:Bs),(∀o∈l,aO1 o)->aa (l.foldl be6 x)<=aa x+43*aa l
 |[],x,_=>ax _
 |o::l,x,h=>by
  have j:=TJ l (be6 x o) λy A=>h y (aT _ A)
  have u:=dQ (x++o.1) o.2.1;have B:=(h o (aY ..)).1;rw[aj]at u;rw[bN,aB];unfold be6 at j ⊢;omega
abbrev adF:=cP×Bs×(List di)×Int×Int×Bs
def HJ:adF->Bs->((cP×Bs)×(Bs)):=λ(j,x,u,A,B,n2) y=>((j,n2),y)
abbrev adG:=Bs×(List bO)×Int×Int×Bs
def HK:adG->Bs->((Bs)×(Bs)):=λ(j,A,B,I,u) y=>(u,y)
def aBl:adF->Prop:=λ(b,x,l,n,i,z)=>aa (l)<=1000000000/\∃k:Nat,k<=aa (l)/\i=k/\n=aa (l)/\(aa l<=1000)/\(∀t∈l,mE t)/\(aa x<=1000+32*k)
def Tj:adF->Bs:=λ(b,x,l,n,i,z)=>(bj (ae i) l).foldl aNl x
def aBn:adG->Prop:=λ(x,l,n,i,z)=>aa (l)<=1000000000/\∃k:Nat,k<=aa (l)/\i=k/\n=aa (l)/\(aa l<=1000)/\(∀o∈l,aO1 o)/\(aa x<=100000+43*k)
def Tk:adG->Bs:=λ(x,l,n,i,z)=>(bj (ae i) l).foldl be6 x
def aVR:cP->Prop:=λb=>aG0 b
def aHr:cP->Bs:=λb=>aHo b
def auW(j u A):=([.d (.slice eU) j,aU u,aU A]:List aF)
def GC(j):=(.iU dS j:aF)
def DN:Ls aBl HJ Tj:=rI (λ(B,x,j,u,A,n2)=>⟨([bB,GC B,eI 2,fo x]++aP 15 ((auW j u A)++aP 34 [])),[],([[],[],dp (fW n2)]++bz 53 [])⟩) (λx=>(.exit 0,⟨([bB,GC x.1.1,eI 2,fo x.2]++aP 52 []),[],([[],[],dp (fW x.1.2)]++bz 53 [])⟩))
def DO:Ls aBn HK Tk:=rI (λ(j,u,A,B,I)=>⟨([bB,bB,eI 2,fo j]++aP 35 ([Oy u,aU A,aU B]++aP 14 [])),[],([[],[],dp (fW I)]++bz 53 [])⟩) (λx=>(.exit 2,⟨([bB,bB,eI 2,fo x.2]++aP 52 []),[],([[],[],dp (fW x.1)]++bz 53 [])⟩))
def adE:Fs prog aVR bt aHr:=eP 81 f81 (λb=>([.d dS b],[])) (λx=>⟨.d tH x,[],[]⟩) [aw dS] [ajG,aB5,aqo,ajR] {loops:=ko [(3,{aX:=[1,2,3,19,20,21],sites:=[2]}),(9,{aX:=[2,3,39,40,41],sites:=[2]})],outs:=km [(3,{aX:=[1,2,3],sites:=[2]},{aX:=[2]}),(9,{aX:=[2,3],sites:=[2]},{aX:=[2]})],eT:=jW [(3,DN.E),(9,DO.E)]}
def aBm:DN.RS:=rL [.d dS,.d tB,.d (.slice eU),.d ti,.d ti,.d tB] DN
def Zt(B x u A j n2)(I:K2 R)(J:K3 R):adE.R 0 DN (B,x,u,A,j,n2) I J=aA (fj j A) (aA (dB j (aa u:Int)) (ao (tid.call (nth eU u (ae j))) λK=>ao (UL.call (x,K)) λL=>I (DN.st (B,L,u,A,(bC .i64 j 1),n2))) aC) (DN.go J ((B,n2),x)):=bS
def aBo:DO.RS:=rL [.d tB,.d (.slice bK),.d ti,.d ti,.d tB] DO
def Zu(A u B j I)(J:K2 R)(K:K3 R):adE.R 1 DO (A,u,B,j,I) J K=aA (fj j B) (aA (dB j (aa u:Int)) (ao (UL.call (A,(nth bK u (ae j)).1)) λL=>ao (F0.call (L,(nth bK u (ae j)).2.1)) λM=>J (DO.st (M,u,B,(bC .i64 j 1),I))) aC) (DO.go K (I,A)):=bS
def bdy(b)(k:K1 R):adE.A b k=ao (F0.call (([]:List Int),b.1)) λB=>ao (UL.call (B,b.2.1)) λI=>ao (F0.call (I,(aa b.2.2.1:Int))) λJ=>ao (DN.call (b,J,b.2.2.1,(aa b.2.2.1:Int),0,(ag 32 0))) λj=>ao (F0.call (j.2,j.1.1.2.2.2.1)) λK=>ao (F0.call (K,(aa j.1.1.2.2.2.2.1:Int))) λL=>ao (DO.call (L,j.1.1.2.2.2.2.1,(aa j.1.1.2.2.2.2.1:Int),0,j.1.2)) λu=>ao (aef.call ((⟨#[98,108,111,99,107]⟩:ByteArray),[u.2])) λA=>k (adE.out A):=bS
def aHs:(adE.kA 0 DN):=by
 refine(adE.lS 0 DN) (λ(b,x,l,n,i,z)=>aa (l) - ae i) ?_
 rintro⟨b,x,l,n,i,z⟩ ⟨j,k,I,rfl,rfl,A,u,B⟩;have j:aa (l)<=1000000000:=j;have I:k<=aa (l):=I;have A:aa l<=1000:=A;have u:∀t∈l,mE t:=u;have B:aa x<=1000+32*k:=B;by_cases h:k < aa (l)
 .left;have n1:nth eU l k=l[k]:=bG (t:=eU) h;have J:bj k l=l[k]::bj (k+1) l:=ak h;refine⟨(b,(aNl x l[k]),l,(aa (l):Int),((k+1:Nat):Int),z),⟨j,k+1,aq,rfl,rfl,A,u,by unfold aNl;rw[aj,Hh.1];omega⟩,by simp only[ab];omega,?_,λK L=> ?_⟩
  .simp only[HJ,Tj,ab,J,bN]
  .rw[Zt,aN aq,aS aq aq,ab,n1];simp only[ai];rw[acR (d:=l[k]) (u _ (aD h))];simp only[ah,bt,aqn];rw[Tt (d:=(x,mw l[k])) ⟨by show aa x+aa (mw l[k])<=_;rw[Hh.1];omega,Hh.1⟩];simp only[ah,bt,ZQ];rw[N.iY aq];rfl
 .right;obtain rfl:k=aa (l):=aq;intro R K L;rw[Zt,aL aq,al];simp only[HJ,Tj,ab,ay,dr]
def aHt:(adE.kA 1 DO):=by
 refine(adE.lS 1 DO) (λ(x,l,n,i,z)=>aa (l) - ae i) ?_
 rintro⟨x,l,n,i,z⟩ ⟨j,k,J,rfl,rfl,B,u,I⟩;have j:aa (l)<=1000000000:=j;have J:k<=aa (l):=J;have B:aa l<=1000:=B;have u:∀o∈l,aO1 o:=u;have I:aa x<=100000+43*k:=I;by_cases h:k < aa (l)
 .left;have n1:nth bK l k=l[k]:=bG (t:=bK) h;have M:bj k l=l[k]::bj (k+1) l:=ak h;refine⟨((be6 x l[k]),l,(aa (l):Int),((k+1:Nat):Int),z),⟨j,k+1,aq,rfl,rfl,B,u,by have:=TJ [l[k]] x (λo K=>by rw[bM]at K;subst K;exact u _ (aD h));simp only[bN,dr,aB,bl]at this;omega⟩,by simp only[ab];omega,?_,λO T=> ?_⟩
  .simp only[HK,Tk,ab,M,bN]
  .rw[Zu,aN aq,aS aq aq,ab,n1];simp only[ai];obtain⟨A,L⟩:=u _ (aD h);rw[Tt (d:=(x,l[k].1)) ⟨by show aa x+l[k].1.length<=_;rw[A];omega,A⟩];simp only[ah,bt,ZQ];rw[kG (d:=(x++l[k].1,l[k].2.1)) ⟨by show aa (x++l[k].1)<=_;rw[aj,A];omega,L⟩];simp only[ah,bt,sr];rw[N.iY aq];rfl
 .right;obtain rfl:k=aa (l):=aq;intro R O T;rw[Zu,aL aq,al];simp only[HK,Tk,ab,ay,dr]
def bdz:adE.Ok:=by rintro b ⟨⟨h1,h2⟩,⟨h3,u,h5⟩,h6,K⟩;have T:((0:Int)).toNat=0:=rfl;have p1:=dQ [] b.1;have L:=dQ (cZ [] b.1++b.2.1) (aa b.2.2.1);rw[aj,u]at L;have l0:aa ([]:Bs)=0:=rfl;rw[l0]at p1;have M:=ajU b.2.2.1 (cZ (cZ [] b.1++b.2.1) (aa b.2.2.1));obtain⟨O,A⟩:∃x,cZ (cZ [] b.1++b.2.1) (aa b.2.2.1)=x:=⟨_,rfl⟩;rw[A]at L M;obtain⟨j,B⟩:∃x,b.2.2.1.foldl aNl O=x:=⟨_,rfl⟩;rw[B]at M;have p7:=dQ j b.2.2.2.1;have p8:=dQ (cZ j b.2.2.2.1) (aa b.2.2.2.2.1);obtain⟨J,I⟩:∃x,cZ (cZ j b.2.2.2.1) (aa b.2.2.2.2.1)=x:=⟨_,rfl⟩;have q2:=TJ b.2.2.2.2.1 J K;rw[I]at p8;rw[bdy,kG (d:=(([]:List Int),b.1)) ⟨by show(0:Nat)<=_;omega,h3⟩];simp only[ah,bt,sr];rw[Tt (d:=(cZ [] b.1,b.2.1)) ⟨by show aa (cZ [] b.1)+aa b.2.1<=_;rw[u];omega,u⟩];simp only[ah,bt,ZQ];rw[kG (d:=(cZ [] b.1++b.2.1,(aa b.2.2.1:Int))) ⟨by show aa (cZ [] b.1++b.2.1)<=_;rw[aj,u];omega,by show(aa b.2.2.1:Int)<=_;omega⟩];simp only[ah,bt,sr];rw[A,aBm (d:=(b,O,b.2.2.1,(aa b.2.2.1:Int),0,ag 32 0)) ⟨by show aa b.2.2.1<=_;omega,0,az _,rfl,rfl,h1,h2,aq⟩];simp only[ah,HJ,Tj,T,aH];rw[B,kG (d:=(j,b.2.2.2.1)) ⟨by show aa j<=_;omega,h5⟩];simp only[ah,bt,sr];rw[kG (d:=(cZ j b.2.2.2.1,(aa b.2.2.2.2.1:Int))) ⟨by show aa (cZ j b.2.2.2.1)<=_;omega,by show(aa b.2.2.2.2.1:Int)<=_;omega⟩];simp only[ah,bt,sr];rw[I,aBo (d:=(J,b.2.2.2.2.1,(aa b.2.2.2.2.1:Int),0,ag 32 0)) ⟨by show aa b.2.2.2.2.1<=_;omega,0,az _,rfl,rfl,h6,K,aq⟩];simp only[ah,HK,Tk,T,aH];rw[aau (d:=((⟨#[98,108,111,99,107]⟩:ByteArray),[b.2.2.2.2.1.foldl be6 J])) (acL fm aq)];simp only[ah,bt,aHr,aHo,biu,A,B,I];rfl
def aVS:adE.RS:=rE [.d dS] adE
def bdA:=adE.eQ bdz 2 ⟨.eg aHs,⟨.eg aHt,trivial⟩⟩
abbrev aBs:=Int×(List di)×Int×Int
def awm:∀(l:List gb) (n:Int),(∀x∈l,aa x.2.1.2.1<=12)->n<=l.foldl xn n/\l.foldl xn n<=n+110*aa l
 |[],n,_=>by simp
 |x::l,n,h=>by
  have u:=awm l (xn n x) λy j=>h y (aT _ j)
  have A:=h x (aY ..);have B:n<=xn n x/\xn n x<=n+110:=by unfold xn;split <;> omega
  rw[bN,aB];omega
def FE(t:di):0<=Hl t/\Hl t<=8000:=by
 unfold Hl;split
 .rename_i A;obtain⟨⟨_,B,I,_⟩,j,J⟩:=iW A;have:=awm t.1 (10+8*aa t.2.1) λx u=>(C1 (ma _ _ j x u)).2.2.2.2
  omega
 .omega
def aAy(n:Int)(t:di):Int:=n+Hl t
def aVK(b:cP):Int:=b.2.2.1.foldl aAy b.2.2.2.1
def aHw:aBs->Prop:=λ(n,l,m,i)=>aa (l)<=1000000000/\∃k:Nat,k<=aa (l)/\i=k/\m=aa (l)/\(aa l<=1000)/\(∀t∈l,mE t)/\(0<=n)/\(n<=1000000+8000*(k:Int))
def Zw:aBs->Int:=λ(n,l,m,i)=>(bj (ae i) l).foldl aAy n
def bdB:cP->Prop:=λb=>aG0 b/\0<=b.2.2.2.1/\b.2.2.2.1<=1000000
def aVW:cP->Int:=λb=>aVK b
def L8:Ls aHw bt Zw:=rI (λ(n,A,j,u)=>⟨([bB,bB,bB,aU n]++aP 5 ((auW A j u)++aP 9 [])),[],(ag 21 [])⟩) (λx=>(.exit 0,⟨([bB,bB,bB,aU x]++aP 17 []),[],(ag 21 [])⟩))
def bc0:Fs prog bdB bt aVW:=eP 218 f218 (λb=>([.d dS b],[])) (λx=>⟨.d ti x,[],[]⟩) [aw dS] [aL3] {loops:=ko [(3,{aX:=[3,9,10,11]})],outs:=km [(3,{aX:=[3]},{aX:=[2]})],eT:=jW [(3,L8.E)]}
def aHx:L8.RS:=rL [.d ti,.d (.slice eU),.d ti,.d ti] L8
def ago(n A u j)(B:K2 R)(I:K3 R):bc0.R 0 L8 (n,A,u,j) B I=aA (fj j u) (aA (dB j (aa A:Int)) (ao (z8.call (nth eU A (ae j))) λJ=>B (L8.st ((bC .i64 n J),A,u,(bC .i64 j 1)))) aC) (L8.go I n):=bS
def biv(b)(k:K1 R):bc0.A b k=ao (L8.call (b.2.2.2.1,b.2.2.1,(aa b.2.2.1:Int),0)) λj=>k (bc0.out j):=bS
def aPw:(bc0.kA 0 L8):=by
 refine(bc0.lS 0 L8) (λ(n,l,m,i)=>aa (l) - ae i) ?_
 rintro⟨n,l,m,i⟩ ⟨j,k,J,rfl,rfl,A,u,B,I⟩;have j:aa (l)<=1000000000:=j;have J:k<=aa (l):=J;have A:aa l<=1000:=A;have u:∀t∈l,mE t:=u;have B:0<=n:=B;have I:n<=1000000+8000*(k:Int):=I;by_cases h:k < aa (l)
 .left;have n1:nth eU l k=l[k]:=bG (t:=eU) h;have K:bj k l=l[k]::bj (k+1) l:=ak h;refine⟨((aAy n l[k]),l,(aa (l):Int),((k+1:Nat):Int)),⟨j,k+1,aq,rfl,rfl,A,u,by have:=FE l[k];unfold aAy;omega,by have:=FE l[k];unfold aAy;omega⟩,by simp only[ab];omega,?_,λL M=> ?_⟩
  .simp only[bt,Zw,ab,K,bN]
  .rw[ago,aN aq,aS aq aq,ab,n1];simp only[ai];have e:=FE l[k];rw[aGr (d:=l[k]) (u _ (aD h))];simp only[ah,bt,afY];rw[eS (x:=n) aq aq,N.iY aq];rfl
 .right;obtain rfl:k=aa (l):=aq;intro R L M;rw[ago,aL aq,al];simp only[bt,Zw,ab,ay,dr]
def biw:bc0.Ok:=by rintro b ⟨⟨⟨j,u⟩,_⟩,A,I⟩;have B:((0:Int)).toNat=0:=rfl;rw[biv,aHx (d:=(b.2.2.2.1,b.2.2.1,(aa b.2.2.1:Int),0)) ⟨by show aa b.2.2.1<=_;omega,0,az _,rfl,rfl,j,u,A,by show b.2.2.2.1<=_;omega⟩];simp only[ah,bt,Zw,B,aH,bt,aVW,aVK]
def bdC:bc0.RS:=rE [.d dS] bc0
def bix:=bc0.eQ biw 1 ⟨.eg aPw,trivial⟩
def Dy(h f:Int):Bool:=decide (1<=h/\h<=1048576/\0<=f/\f<=4000)
def aHp:(Int×Int)->Prop:=λ_=>True
def akS:(Int×Int)->Bool:=λ(h,f)=>Dy h f
def Ji:Fs prog aHp bt akS:=eP 217 f217 (λ(j,fill)=>((qY j fill),[])) (λx=>⟨fA x,[],[]⟩) [aw ti,aw ti]
def aPo(j fill)(k:K1 R):Ji.A (j,fill) k=aA (DA j 1) (aA (arD j 1048576) (aA (DA fill 0) (k (Ji.out (arD fill 4000))) (k (Ji.out aZ))) (k (Ji.out aZ))) (k (Ji.out aZ)):=bS
def aPp:Ji.Ok:=by
 rintro⟨h,f⟩ _;rw[aPo];simp only[bt,akS,Dy];by_cases j:1<=h
 .rw[fE j,ai];by_cases u:h<=1048576
  .rw[np u,ai];by_cases A:0<=f
   .rw[fE A,ai];by_cases B:f<=4000
    .rw[np B,fM ⟨j,u,A,B⟩]
    .rw[jK aq,kC aq]
   .rw[ed aq,al,kC aq]
  .rw[jK aq,al,kC aq]
 .rw[ed aq,al,kC aq]
def aHq:Ji.RS:=rE [.d ti,.d ti] Ji
def aPq:=Ji.eQ aPp
def ajJ(v o:bO):Bool:=Ty.beq bK v o
def akI(b:cP)(x:gb):Bool:=b.2.2.2.2.1.any (ajJ x.1)
def akH(b:cP)(t:di):Bool:=t.1.any (akI b)
abbrev Gt:=(List bO)×bO×Int×Int
def sT:Gt->AS:=λ(u,j,A,B)=>⟨([Oy u,bB,bB,DE j,bB,bB,bB,aU A,aU B]++aP 10 []),[],(ag 19 [])⟩
def uj:Int->Exit×AS:=λx=>(.ret,⟨(aP 4 ([aU x]++aP 14 [])),[],(ag 19 [])⟩)
def EH:Unit->Exit×AS:=λx=>(.exit 0,⟨(aP 19 []),[],(ag 19 [])⟩)
abbrev X7:=(Int)⊕(Unit)
abbrev anB:=(Int)⊕(Unit)
def MX:X7->Out (Exit×AS):=λx=> .br x.isLeft (.get x.getLeft? λa=> .ok (uj a)) (.get x.getRight? λb=> .ok (EH b))
def nA:Gt->anB->X7:=λ(u,j,A,B) y=>match y with | .inl y=> .inl y | .inr z=> .inr (z)
abbrev aNO:=(List bO)×bO
def EG:Gt->Prop:=λ(l,v,n,i)=>aa l<=1000000000/\(True)/\n=aa l/\∃k:Nat,k<=aa l/\i=k
def sS:Gt->anB:=λ(l,v,n,i)=>Qf (ajJ v) (l.drop i.toNat) i
def aRH:aNO->Prop:=λ(l,v)=>aa l<=1000000000/\(True)
def ayG:aNO->Int:=λ(l,v)=>aC1 (ajJ v) l
def anA:=cQ.eg sT EG nA sS MX
def Vm:Gt->Option X7:=eN anA sT
def Ot:Fs prog aRH bt ayG:=eP 186 f186 (λ(j,v)=>([.d (.slice bK) j,.d bK v],[])) (λx=>⟨.d ti x,[],[]⟩) [aw (.slice bK),aw bK] [] {loops:=ko [(2,{aX:=[0,3,7,8]})],outs:=km [(2,{},{aX:=[4]})],eT:=jW [(2,anA)]}
def X6:= @dm prog (gU Ot.G) Ot.an 0 f186 0 _ sT
abbrev aht:=gr prog (gU Ot.G) Ot.an 0 f186 0 sT EG nA sS MX
def ayH:fC Vm EG nA sS:=ia (fy [.d (.slice bK),.d bK,.d ti,.d ti] λ_=>bS)
def aaU:iX @X6 sT EG nA sS MX aht:=ji
def Vn(A j I u)(J:K2 R)(B:K3 R):X6 (A,j,I,u) J B=aA (fj u I) (aA (dB u (((aa A):Nat):Int)) (aA (Ty.beq bK j (nth bK A (ae u))) (B (uj u).1 (uj u).2) (J (sT (A,j,I,(bC .i64 u (1:Int)))))) aC) (B (EH ()).1 (EH ()).2):=bS
def aZp(j v)(k:K1 R):Ot.A (j,v) k=ao (Vm (j,v,(aa j:Int),0)) λu=>aA u.isLeft (ao u.getLeft? λA=>k (Ot.out A)) (ao u.getRight? λB=>k (Ot.out (-1))):=bS
def aDS:aht:=by
 refine aaU (λ(l,v,n,i)=>aa l - i.toNat) ?_
 rintro⟨l,v,n,i⟩ ⟨B,K,rfl,k,J,rfl⟩;have B:aa l<=1000000000:=B;have J:k<=aa l:=J;by_cases h:k < aa l
 .have n1:nth bK l k=l[k]:=bG (t:=bK) h;have I:Qf (ajJ v) (l.drop k) k=if ajJ v l[k] then .inl (k:Int) else Qf (ajJ v) (l.drop (k+1)) ((k+1:Nat):Int):=by rw[ak h];rfl
  have step:∀ {R:Type} (j:AS->Option R) (u:Exit->AS->Option R),X6 (l,v,(aa l:Int),(k:Int)) j u=aA (ajJ v l[k]) (u (uj (k:Int)).1 (uj (k:Int)).2) (j (sT (l,v,(aa l:Int),((k+1:Nat):Int)))):=by intro R j u;rw[Vn,aN aq,aS aq aq,ab,n1,N.iY aq];rfl
  cases A:ajJ v l[k]
  .left;refine⟨(l,v,aa l,((k+1:Nat):Int)),⟨B,K,rfl,k+1,aq,rfl⟩,by simp only[ab];omega,?_,λj u=> ?_⟩
   .simp only[nA,sS,ab,I,A,bu,bq]
   .rw[step,A,al]
  .right;refine⟨uj (k:Int),?_,λj u=> ?_⟩
   .simp only[nA,sS,ab,I,A,bQ];rfl
   .rw[step,A,ai]
 .right;obtain rfl:k=aa l:=aq;refine⟨EH (),?_,λj u=> ?_⟩
  .simp only[nA,sS,ab,ay];rfl
  .rw[Vn,aL aq,al]
def aZq:Ot.Ok:=by rintro⟨l,v⟩ ⟨j,u⟩;rw[aZp,ayH (d:=(l,v,aa l,0)) ⟨j,u,rfl,0,aq,rfl⟩];simp only[ah,nA,sS,aW,aH,bt,ayG,aC1];cases Qf (ajJ v) l 0 <;> rfl
def aRI:Ot.RS:=rE [.d (.slice bK),.d bK] Ot
def aZr:=Ot.eQ aZq 1 ⟨.eg aDS,trivial⟩
abbrev aNK:=(List bO)×bO
def aRG:aNK->Prop:=λ(l,_)=>aa l<=1000000000
def aNM:aNK->Bool:=λ(l,v)=>l.any (ajJ v)
def ahs:Fs prog aRG bt aNM:=eP 144 f144 (λ(j,v)=>([Oy j,xJ v],[])) (λx=>⟨fA x,[],[]⟩) [aw (.slice bK),aw bK] [aZr]
def aZm(j v)(k:K1 R):ahs.A (j,v) k=ao (Ot.call (j,v)) λu=>k (ahs.out (DA u 0)):=bS
def aZn:ahs.Ok:=by rintro⟨l,v⟩ j;rw[aZm,aRI (d:=(l,v)) ⟨j,trivial⟩];simp only[ah,bt,ayG,al9];rfl
def auL:ahs.RS:=rE [.d (.slice bK),.d bK] ahs
def aDR:=ahs.eQ aZn
def aO9:(gb×cP)->Prop:=λ(_,b)=>aa b.2.2.2.2.1<=1000
def bdo:(gb×cP)->Bool:=λ(x,b)=>akI b x
def akG:Fs prog aO9 bt bdo:=eP 221 f221 (λ(x,j)=>([.d fK x,GC j],[])) (λx=>⟨fA x,[],[]⟩) [aw fK,aC] [aDR]
def aVt(x j)(k:K1 R):akG.A (x,j) k=ao (ahs.call (j.2.2.2.2.1,x.1)) λu=>k (akG.out u):=bS
def aVu:akG.Ok:=by rintro⟨x,b⟩ j;have j:aa b.2.2.2.2.1<=1000:=j;rw[aVt,auL (d:=(b.2.2.2.2.1,x.1)) (by show aa b.2.2.2.2.1<=_;omega)];rfl
def aPa:akG.RS:=rE [.d fK,.d dS] akG
def aVv:=akG.eQ aVu
abbrev Gg:=(List gb)×cP×Int×Int
def sI:Gg->AS:=λ(j,f,u,A)=>⟨([.d (.slice fK) j,.fn 221 (.cons (GC f) (.nil))]++aP 5 ((qY u A)++aP 10 [])),[],(ag 19 [])⟩
def tZ:Int->Exit×AS:=λx=>(.ret,⟨(aP 4 ([aU x]++aP 14 [])),[],(ag 19 [])⟩)
def Et:Unit->Exit×AS:=λx=>(.exit 0,⟨(aP 19 []),[],(ag 19 [])⟩)
abbrev XH:=(Int)⊕(Unit)
abbrev ame:=(Int)⊕(Unit)
def MG:XH->Out (Exit×AS):=λx=> .br x.isLeft (.get x.getLeft? λa=> .ok (tZ a)) (.get x.getRight? λb=> .ok (Et b))
def tY:Gg->ame->XH:=λ(j,f,u,A) y=>match y with | .inl y=> .inl y | .inr z=> .inr (z)
abbrev aNp:=(List gb)×cP
def Es:Gg->Prop:=λ(l,v,n,i)=>aa l<=1000000000/\(aa v.2.2.2.2.1<=1000)/\n=aa l/\∃k:Nat,k<=aa l/\i=k
def sH:Gg->ame:=λ(l,v,n,i)=>Qf (akI v) (l.drop i.toNat) i
def aQY:aNp->Prop:=λ(l,v)=>aa l<=1000000000/\(aa v.2.2.2.2.1<=1000)
def ax9:aNp->Int:=λ(l,v)=>aC1 (akI v) l
def amd:=cQ.eg sI Es tY sH MG
def Vb:Gg->Option XH:=eN amd sI
def Oq:Fs prog aQY bt ax9:=eP 238 f238 (λ(u,j)=>([.d (.slice fK) u,.fn 221 (.cons (.iU dS j) (.nil))],[])) (λx=>⟨.d ti x,[],[]⟩) [aw (.slice fK),aC] [aVv] {loops:=ko [(2,{aX:=[0,1,7,8]})],outs:=km [(2,{},{aX:=[4]})],eT:=jW [(2,amd)]}
def XG:= @dm prog (gU Oq.G) Oq.an 0 f238 0 _ sI
abbrev ag2:=gr prog (gU Oq.G) Oq.an 0 f238 0 sI Es tY sH MG
def aya:fC Vb Es tY sH:=ia (fy [.d (.slice fK),.d dS,.d ti,.d ti] λ_=>bS)
def aay:iX @XG sI Es tY sH MG ag2:=ji
theorem Vc(u f B j)(I:K2 R)(A:K3 R):XG (u,f,B,j) I A=aA (fj j B) (aA (dB j (((aa u):Nat):Int)) (ao (akG.call ((nth fK u (ae j)),f)) λJ=>aA (J) (A (tZ j).1 (tZ j).2) (I (sI (u,f,B,(bC .i64 j (1:Int)))))) aC) (A (Et ()).1 (Et ()).2):=bS
def aYf(j A)(k:K1 R):Oq.A (j,A) k=ao (Vb (j,A,(aa j:Int),0)) λu=>aA u.isLeft (ao u.getLeft? λB=>k (Oq.out B)) (ao u.getRight? λI=>k (Oq.out (-1))):=bS
def aC6:ag2:=by
 refine aay (λ(l,v,n,i)=>aa l - i.toNat) ?_
 rintro⟨l,v,n,i⟩ ⟨J,I,rfl,k,K,rfl⟩;by_cases h:k < aa l
 .have n1:=bG (t:=fK) h;have A:Qf (akI v) (l.drop k) k=if akI v l[k] then .inl (k:Int) else Qf (akI v) (l.drop (k+1)) ((k+1:Nat):Int):=by rw[ak h];rfl
  have step:∀ {R:Type} (j:AS->Option R) (u:Exit->AS->Option R),XG (l,v,(aa l:Int),(k:Int)) j u=aA (akI v l[k]) (u (tZ (k:Int)).1 (tZ (k:Int)).2) (j (sI (l,v,(aa l:Int),((k+1:Nat):Int)))):=by intro R j u;rw[Vc,aN aq,aS aq aq,ab,n1,aPa (d:=(l[k],v)) I,N.iY aq];rfl
  cases B:akI v l[k]
  .left;refine⟨(l,v,aa l,((k+1:Nat):Int)),⟨J,I,rfl,k+1,aq,rfl⟩,by grind,?_,λj u=> ?_⟩
   .simp[tY,sH,A,B]
   grind [aA]
  .right;refine⟨tZ (k:Int),?_,λj u=> ?_⟩
   .simp[sH,A,B];rfl
   grind [aA]
 .right;obtain rfl:k=aa l:=aq;refine⟨Et (),?_,λj u=> ?_⟩
  .simp[sH];rfl
  grind [Vc,aL,aA]
def aYg:Oq.Ok:=by rintro⟨l,v⟩ ⟨j,u⟩;rw[aYf,aya (d:=(l,v,aa l,0)) ⟨j,u,rfl,0,aq,rfl⟩];simp only[ah,tY,sH,aW,aH,bt,ax9,aC1];cases Qf (akI v) l 0 <;> rfl
def aQZ:Oq.RS:=rE [.d (.slice fK),.d dS] Oq
def aYh:=Oq.eQ aYg 1 ⟨.eg aC6,trivial⟩
abbrev aNn:=(List gb)×cP
def aQW:aNn->Prop:=λ(l,b)=>aa l<=1000000000/\aa b.2.2.2.2.1<=1000
def bfc:aNn->Bool:=λ(l,b)=>l.any (akI b)
def ama:Fs prog aQW bt bfc:=eP 220 f220 (λ(u,j)=>([.d (.slice fK) u,.fn 221 (.cons (GC j) (.nil))],[])) (λx=>⟨fA x,[],[]⟩) [aw (.slice fK),aC] [aYh]
def aX9(u j)(k:K1 R):ama.A (u,j) k=ao (Oq.call (u,j)) λA=>k (ama.out (DA A 0)):=bS
def aYa:ama.Ok:=by rintro⟨l,v⟩ ⟨j,u⟩;rw[aX9,aQZ (d:=(l,v)) ⟨j,u⟩];simp only[ah,bt,ax9,al9];rfl
def aQX:ama.RS:=rE [.d (.slice fK),.d dS] ama
def aYb:=ama.eQ aYa
def aHe:(di×cP)->Prop:=λ(t,b)=>mE t/\aa t.1<=1000000000/\aa b.2.2.2.2.1<=1000
def Zo:(di×cP)->Bool:=λ(t,b)=>akH b t
def WV:Fs prog aHe bt Zo:=eP 219 f219 (λ(t,j)=>([rQ t,GC j],[])) (λx=>⟨fA x,[],[]⟩) [aw eU,aC] [aYb]
def aPb(t j)(k:K1 R):WV.A (t,j) k=ao (ama.call (t.1,j)) λu=>k (WV.out u):=bS
def aPc:WV.Ok:=by rintro⟨t,b⟩ ⟨_,u,j⟩;rw[aPb,aQX (d:=(t.1,b)) ⟨u,j⟩];rfl
def aHf:WV.RS:=rE [.d eU,.d dS] WV
def aPd:=WV.eQ aPc
abbrev Cl:=(List di)×Int×cP×Int×(List di)×Int×Int×Nat×(List (bO×fh))×(List cF)×Nat×(List (bO×fh))×(List cF)
def p9:Cl->AS:=λ(oa,dd,j,u,K,L,M,J,O,T,B,I,A)=>⟨([bB,.d (.slice eU) oa,aU dd,.fn 219 (.cons (GC j) (.nil))]++aP 5 ([aU u,bB,eI 17]++aP 6 ((auW K L M)++aP 32 []))),(C8 J O T),(bz 17 ([[auY 17 1 0 17 2 0 0 0 B,fp (DD I),fp (Ib A)]]++bz 35 []))⟩
abbrev Zy:=(Nat×(List (bO×fh))×(List cF))×(Int×Int×Int)
def nZ:Zy->Exit×AS:=λ((a,b,c),e,f,g)=>(.ret,⟨(aP 8 ([aU e,aU f,aU g]++aP 42 [])),(C8 a b c),(ag 53 [])⟩)
abbrev Zz:=((List di)×Nat×(List (bO×fh))×(List cF))×(Int)
def Bh:Zz->Exit×AS:=λ((a,b,c,e),f)=>(.exit 0,⟨([bB,.d (.slice eU) a]++aP 7 ([aU f]++aP 43 [])),(C8 b c e),(ag 53 [])⟩)
abbrev PL:=(Zy)⊕(Zz)
abbrev agr:=((Int×Int×Int))⊕(Int)
def Jl:PL->Out (Exit×AS):=λx=> .br x.isLeft (.get x.getLeft? λa=> .ok (nZ a)) (.get x.getRight? λb=> .ok (Bh b))
def kZ:Cl->agr->PL:=λ(M,dd,B,I,O,T,t20,j,u,A,K,L,J) y=>match y with | .inl y=> .inl ((j,u,A),y) | .inr z=> .inr (((M,j,u,A),z))
abbrev aBt:=(List di)×Int×cP×Nat×(List (bO×fh))×(List cF)
def uU(b:cP)(h:Int):List di->Int->Int->At->(Int×Int×Int)⊕Int
 |[],_,j,_=> .inr j
 |t::l,k,j,a=>if akH b t then .inl (k,j,14) else if(dw t h a).2≠0 then .inl (k,j,(dw t h a).2) else uU b h l (k+1) (j+(dw t h a).1) (fx t h a)
def aVd(l:List di)(b:cP):Prop:=aa l<=100/\(∀t∈l,mE t/\aa t.1<=1000000)/\aa b.2.2.2.2.1<=1000
def Bg:Cl->Prop:=λ(_,_,b,j,l,u,i,_,_,_,n,a,s)=>aVd l b/\u=(aa l:Int)/\∃k:Nat,k<=aa l/\i=k/\Od (500+k) n a s/\0<=j/\j+Ck a<=1125899906842624
def mY:Cl->agr:=λ(_,h,b,j,l,_,i,_,_,_,_,a,_)=>uU b h (l.drop i.toNat) i j a
def S8(b:cP)(h:Int)(l:List di)(a:At):Int×Int×Int:=match uU b h l 0 0 (jJ a) with
 | .inl x=>x
 | .inr f=>((aa l:Int),f,0)
def aHy:aBt->Prop:=λ(l,_,b,n,a,s)=>aVd l b/\Od 500 n a s
def aBu:aBt->(Int×Int×Int×Nat×(List (bO×fh))×(List cF)):=λ(l,h,b,n,a,s)=>((S8 b h l a).1,(S8 b h l a).2.1,(S8 b h l a).2.2,n,a,s)
def agp:=cQ.eg p9 Bg kZ mY Jl
def PM:Cl->Option PL:=eN agp p9
def CX:Fs prog aHy bt aBu:=eP 222 f222 (λ(l,j,A,u,o1,B)=>([.ptr (.dx 0) 0 [] 0,.d (.slice eU) l,.d ti j,.fn 219 (.cons (.iU dS A) (.nil))],[.obj 0 aZ (.pr (.iI (.dx 1) 0) (.pr (.dq (.dx 2) 0 [] 0 0 u) (.d .unit ()))),.obj 0 aZ (.mp bK mv o1),.obj 0 aZ (.vec 243 eh B)])) (λx=>⟨.cons (.d ti x.1) (.cons (.d ti x.2.1) (.cons (.d ti x.2.2.1) (.nil))),[.obj 0 aZ (.pr (.iI (.dx 1) 0) (.pr (.dq (.dx 2) 0 [] 0 0 x.2.2.2.1) (.d .unit ()))),.obj 0 aZ (.mp bK mv x.2.2.2.2.1),.obj 0 aZ (.vec 243 eh x.2.2.2.2.2)],[]⟩) [aC,aw (.slice eU),aw ti,aC] [atU,aPd,aCf,aCb] {loops:=ko [(3,{aX:=[1,2,3,9,11,18,19,20],sites:=[17],owns:=[⟨11,[.snd,.fst],17,83⟩]})],outs:=km [(3,{aX:=[1,9]},{aX:=[8,9,10]})],eT:=jW [(3,agp)]}
def agq:= @dm prog (gU CX.G) CX.an 0 f222 0 _ p9
abbrev Zx:=gr prog (gU CX.G) CX.an 0 f222 0 p9 Bg kZ mY Jl
def arj:fC PM Bg kZ mY:=ia (fy [.d (.slice eU),.d ti,.d dS,.d ti,.d (.slice eU),.d ti,.d ti,.n,.d (.slice (.pair bK mv)),.d (.slice eh),.n,.d (.slice (.pair bK mv)),.d (.slice eh)] λ_=>bS)
def WY:iX @agq p9 Bg kZ mY Jl Zx:=ji
def yE(oa dd I j B L u A J K aY2 n17 aDC)(kn:K2 R)(kx:K3 R):agq (oa,dd,I,j,B,L,u,A,J,K,aY2,n17,aDC) kn kx=aA (fj u L) (aA (dB u (((aa B):Nat):Int)) (ao (WV.call ((nth eU B (ae u)),I)) λx1=>aA (x1) (kx (nZ ((A,J,K),(u,j,(14:Int)))).1 (nZ ((A,J,K),(u,j,(14:Int)))).2) (ao (pj.call ((nth eU B (ae u)),dd,aY2,n17,aDC)) λM=>aA (pb M.2.1 (0:Int)) (kx (nZ ((A,J,K),(u,j,M.2.1))).1 (nZ ((A,J,K),(u,j,M.2.1))).2) (ao (F3 ((nth eU B (ae u)),dd,M.2.2.1,M.2.2.2.1,M.2.2.2.2)) λx3=>aA x3.isLeft (ao x3.getLeft? λO=>kn (p9 (oa,dd,I,(bC .i64 j M.1),B,L,(bC .i64 u (1:Int)),A,J,K,O.2.1,O.2.2.1,O.2.2.2))) (ao x3.getRight? λT=>kn (p9 (oa,dd,I,(bC .i64 j M.1),B,L,(bC .i64 u (1:Int)),A,J,K,T.2.1,T.2.2.1,T.2.2.2)))))) aC) (kx (Bh ((oa,A,J,K),j)).1 (Bh ((oa,A,J,K),j)).2):=bS
def aPx(l j A u o1 K)(k:K1 R):CX.A (l,j,A,u,o1,K) k=ao (CZ.call (u,o1,K)) λI=>ao (PM (l,j,A,0,l,(aa l:Int),0,I.1,I.2.1,I.2.2.1,I.2.2.2.1,I.2.2.2.2.1,I.2.2.2.2.2)) λJ=>aA J.isLeft (ao J.getLeft? λB=>k (CX.out (B.2.1,B.2.2.1,B.2.2.2,B.1.1,B.1.2.1,B.1.2.2))) (ao J.getRight? λaO7=>k (CX.out ((aa aO7.1.1:Int),aO7.2,0,aO7.1.2.1,aO7.1.2.2.1,aO7.1.2.2.2))):=bS
def awK:Zx:=by
 refine WY (λ(_,_,_,_,l,_,i,_)=>aa l - i.toNat) ?_
 rintro⟨l0,h,b,j,l,n',i,M,L,O,n,a,s⟩ ⟨⟨h1,h2,h3⟩,rfl,k,hk,rfl,J,f0,f1⟩;have h1:aa l<=100:=h1;have hk:k<=aa l:=hk;have f0:0<=j:=f0;have f1:j+Ck a<=1125899906842624:=f1;have J:Od (500+k) n a s:=J;by_cases gF:k < aa l
 .have n1:nth eU l k=l[k]:=bG (t:=eU) gF;have hd:l.drop k=l[k]::l.drop (k+1):=ak gF;obtain⟨hv,hi⟩:=h2 _ (aD gF);have u:=aHf (d:=(l[k],b)) ⟨hv,fa hi fm,h3⟩;by_cases B:akH b l[k]=bn
  .right;refine⟨nZ ((M,L,O),((k:Int),j,14)),?_,λkn kx=> ?_⟩;rotate_left
   .rw[yE,aN aq,ai,aS aq aq,ai,ab,n1,u];simp only[ah,bt,Zo,B,ai]
   .simp only[kZ,mY,ab,hd,uU,av B];rfl
  .have I:akH b l[k]=aZ:=by simpa using B
   have hc:=J.check (t:=l[k]) (h:=h) hv;rcases J.apply (t:=l[k]) (h:=h) aq hv with⟨A,_⟩ | ⟨boi,A,ha,K⟩
   .right;refine⟨nZ ((M,L,O),((k:Int),j,(dw l[k] h a).2)),?_,λkn kx=> ?_⟩;rotate_left
    .rw[yE,aN aq,ai,aS aq aq,ai,ab,n1,u];simp only[ah,bt,Zo,I,al];rw[hc];simp only[ah];rw[dj A,ai]
    .simp only[kZ,mY,ab,hd,uU,au B,av A];rfl
   .left;have Ht:=(boi.sum J.wK.1).1;have brf:0<=(dw l[k] h a).1:=by obtain⟨_,_,_,f,_,_,hp,T⟩:=Tl A;rw[T];exact hp
    have C0:=aVi λp hp=>(K.wK.2 p hp).2.2.2.1
    refine⟨(l0,h,b,j+(dw l[k] h a).1,l,(aa l:Int),((k+1:Nat):Int),M,L,O,n+1,fx l[k] h a,s.take n++ [stepOf l[k] a]),⟨⟨h1,h2,h3⟩,rfl,k+1,aq,rfl,K,by show(0:Int)<=j+(dw l[k] h a).1;omega,by show j+(dw l[k] h a).1+Ck (fx l[k] h a)<=_;omega⟩,by simp only[ab];omega,?_,λkn kx=> ?_⟩
    .simp only[kZ,mY,ab,hd,uU,au B,au (λe=>e A:¬(dw l[k] h a).2≠0)];rfl
    .rw[yE,aN aq,ai,aS aq aq,ai,ab,n1,u];simp only[ah,bt,Zo,I,al];rw[hc];simp only[ah];rw[bU A,al,ha];simp only[ah,dh,al,cJ];rw[eS (x:=j) aq aq,N.iY aq]
 .right;obtain rfl:k=aa l:=aq;refine⟨Bh ((l0,M,L,O),j),?_,λkn kx=> ?_⟩;rotate_left
  .rw[yE,aL aq,al]
  .simp only[kZ,mY,ab,ay,uU];rfl
def aPy:CX.Ok:=by
 rintro⟨l,h,b,n,a,s⟩ ⟨B,u⟩;obtain⟨j,A⟩:=u.canon;rw[aPx,u.copy aq];simp only[ah];rw[A,arj (d:=(l,h,b,0,l,(aa l:Int),0,n,a,s,n,jJ a,s.take n)) ⟨B,rfl,0,az _,rfl,j,dT 0,by have:=j.sum;omega⟩];simp[mY,aBu,S8];cases uU b h l 0 0 (jJ a) with
 |inl x=>rfl
 |inr f=>rfl
def aHz:CX.RS:=rE [.d (.slice eU),.d ti,.d dS,.n,.d (.slice (.pair bK mv)),.d (.slice eh)] CX
def aPz:=CX.eQ aPy 1 ⟨.eg awK,trivial⟩
abbrev aBp:=cP×Nat×(List (bO×fh))×(List cF)
def nC(b:cP)(a:At):Int×Int:=if Dy b.1 b.2.2.2.1 then(if 4000 < aVK b then(0,3) else(S8 b b.1 b.2.2.1 a).2) else(0,1)
def Pg(b:cP):Prop:=aG0 b/\aa b.2.2.1<=100/\∀t∈b.2.2.1,aa t.1<=1000000
def Pg.walk{b:cP}(h:Pg b):aVd b.2.2.1 b:=⟨h.2.1,λt j=>⟨h.1.1.2 t j,h.2.2 t j⟩,h.1.2.2.1⟩
def aHu:aBp->Prop:=λ(b,n,a,s)=>Pg b/\Od 500 n a s
def aBq:aBp->(Int×Int×Nat×(List (bO×fh))×(List cF)):=λ(b,n,a,s)=>((nC b a).1,(nC b a).2,n,a,s)
def aNZ(j u A):=([.obj 0 aZ (.pr (.iI (.dx 1) 0) (.pr (.dq (.dx 2) 0 [] 0 0 j) (.d .unit ()))),.obj 0 aZ (.mp bK mv u),.obj 0 aZ (.vec 243 eh A)]:List dR)
def Jj:Fs prog aHu bt aBq:=eP 181 f181 (λ(b,j,o1,u)=>([dK,.d dS b],(aNZ j o1 u))) (λx=>⟨.cons (aU x.1) (.cons (aU x.2.1) (.nil)),(aNZ x.2.2.1 x.2.2.2.1 x.2.2.2.2),[]⟩) [aC,aw dS] [aPq,bix,aPz]
def aPr(b j o1 u)(k:K1 R):Jj.A (b,j,o1,u) k=ao (Ji.call (b.1,b.2.2.2.1)) λB=>aA (!B) (k (Jj.out (0,1,j,o1,u))) (aA (qi (aa b.2.2.1:Int) 200) (k (Jj.out (0,3,j,o1,u))) (ao (bc0.call b) λI=>aA (qi I 4000) (k (Jj.out (0,3,j,o1,u))) (ao (CX.call (b.2.2.1,b.1,b,j,o1,u)) λA=>k (Jj.out (A.2.1,A.2.2.1,A.2.2.2.1,A.2.2.2.2.1,A.2.2.2.2.2))))):=bS
def aPs:Jj.Ok:=by
 rintro⟨b,n,a,s⟩ ⟨u,I⟩;have u:Pg b:=u;have J:aa b.2.2.1<=100:=u.2.1;rw[aPr,aHq (d:=(b.1,b.2.2.2.1)) trivial];simp only[ah,bt,akS,bt,aBq,nC];cases B:Dy b.1 b.2.2.2.1 with
 |false=>rfl
 |true=>
  have j:=B;simp only[Dy,bJ]at j;rw[bW,al,ct aq,al,bdC (d:=b) ⟨u.1,j.2.2.1,by show b.2.2.2.1<=_;omega⟩];simp only[ah,bt,aVW,bQ];by_cases A:4000 < aVK b
  .rw[cW aq,ai,av A]
  .rw[ct aq,al,au A,aHz (d:=(b.2.2.1,b.1,b,n,a,s)) ⟨u.walk,I⟩];rfl
def aHv:Jj.RS:=rE [.d dS,.n,.d (.slice (.pair bK mv)),.d (.slice eh)] Jj
def aPt:=Jj.eQ aPs
abbrev aMI:=cP×Nat×(List (bO×fh))×(List cF)
def aPm:aMI->Prop:=λ(b,n,a,s)=>Pg b/\Od 500 n a s
def aMJ:aMI->(Int×Nat×(List (bO×fh))×(List cF)):=λ(b,n,a,s)=>((nC b a).2,n,a,s)
def akR:Fs prog aPm bt aMJ:=eP 138 f138 (λ(b,j,o1,u)=>([dK,.d dS b],(aNZ j o1 u))) (λx=>⟨aU x.1,(aNZ x.2.1 x.2.2.1 x.2.2.2),[]⟩) [aC,aw dS] [aPt]
def aVO(b j o1 A)(k:K1 R):akR.A (b,j,o1,A) k=ao (Jj.call (b,j,o1,A)) λu=>k (akR.out (u.2.1,u.2.2.1,u.2.2.2.1,u.2.2.2.2)):=bS
def aVP:akR.Ok:=by rintro⟨b,n,a,s⟩ h;rw[aVO,aHv (d:=(b,n,a,s)) h];rfl
def aPn:akR.RS:=rE [.d dS,.n,.d (.slice (.pair bK mv)),.d (.slice eh)] akR
def aVQ:=akR.eQ aVP
abbrev FQ:=cP×Int×(List di)×Int×Int×Nat×(List (bO×fh))×(List cF)
def rZ:FQ->AS:=λ(L,j,A,B,I,u,J,K)=>⟨([dK,bB,bB,GC L,bB,aU j]++aP 6 ((auW A B I)++aP 13 [])),(aN1 u J K),(ag 28 [])⟩
abbrev agj:=(Int)×(Nat×(List (bO×fh))×(List cF))
def DL:agj->Exit×AS:=λ(a,b,c,e)=>(.ret,⟨(aP 4 ([aU a]++aP 23 [])),(aN1 b c e),(ag 28 [])⟩)
abbrev agk:=(Int)×(Nat×(List (bO×fh))×(List cF))
def DM:agk->Exit×AS:=λ(a,b,c,e)=>(.exit 0,⟨(aP 5 ([aU a]++aP 22 [])),(aN1 b c e),(ag 28 [])⟩)
abbrev WW:=(agj)⊕(agk)
abbrev akQ:=((Nat×(List (bO×fh))×(List cF)))⊕((Nat×(List (bO×fh))×(List cF)))
def L1:WW->Out (Exit×AS):=λx=> .br x.isLeft (.get x.getLeft? λa=> .ok (DL a)) (.get x.getRight? λb=> .ok (DM b))
def kN:FQ->akQ->WW:=λ(L,j,A,B,I,u,J,K) y=>match y with | .inl y=> .inl (j,y) | .inr z=> .inr ((j,z))
abbrev aMH:=cP×Nat×(List (bO×fh))×(List cF)
abbrev aVa:=Nat×At×List cF
def WT(h:Int)(S:aVa)(t:di):aVa:=if(dw t h S.2.1).2≠0 then S else(S.1+1,fx t h S.2.1,S.2.2.take S.1++ [stepOf t S.2.1])
def aPA(b:cP)(S:aVa):aVa:=b.2.2.1.foldl (WT b.1) S
def DK:FQ->Prop:=λ(_,_,l,m,i,n,a,s)=>(aa l<=100/\∀t∈l,mE t)/\m=(aa l:Int)/\∃k:Nat,k<=aa l/\i=k/\Od (400+k) n a s
def pY:FQ->akQ:=λ(b,e,l,_,i,n,a,s)=>if e≠0/\i < (aa l:Int) then .inl (n,a,s) else .inr ((l.drop i.toNat).foldl (WT b.1) (n,a,s))
def aPk:aMH->Prop:=λ(b,n,a,s)=>Pg b/\Od 400 n a s
def awG:aMH->(Int×Nat×(List (bO×fh))×(List cF)):=λ(b,n,a,s)=>((nC b a).2,if(nC b a).2≠0 then(n,a,s) else aPA b (n,a,s))
def akO:=cQ.eg rZ DK kN pY L1
def Uy:FQ->Option WW:=eN akO rZ
def Og:Fs prog aPk bt awG:=eP 89 f89 (λ(b,j,o1,u)=>([.ptr (.dx 0) 0 [] 0,.d dS b],[.obj 0 aZ (.pr (.iI (.dx 1) 0) (.pr (.dq (.dx 2) 0 [] 0 0 j) (.d .unit ()))),.obj 0 aZ (.mp bK mv o1),.obj 0 aZ (.vec 243 eh u)])) (λx=>⟨.d ti x.1,[.obj 0 aZ (.pr (.iI (.dx 1) 0) (.pr (.dq (.dx 2) 1 [] 0 0 x.2.1) (.d .unit ()))),.obj 0 aZ (.mp bK mv x.2.2.1),.obj 1 aZ (.vec 243 eh x.2.2.2)],[]⟩) [aC,aw dS] [aVQ,aCb] {loops:=ko [(3,{aX:=[0,3,5,12,13,14],atv:=[(2,1)]})],outs:=km [(3,{aX:=[5],atv:=[(2,1)]},{aX:=[4],atv:=[(2,1)]})],eT:=jW [(3,akO)],atv:=[(2,1)]}
def akP:= @dm prog (gU Og.G) Og.an 0 f89 0 _ rZ
abbrev agi:=gr prog (gU Og.G) Og.an 0 f89 0 rZ DK kN pY L1
def awH:fC Uy DK kN pY:=ia (fy [.d dS,.d ti,.d (.slice eU),.d ti,.d ti,.n,.d (.slice (.pair bK mv)),.d (.slice eh)] λ_=>bS)
def Zs:iX @akP rZ DK kN pY L1 agi:=ji
def Bf(O j B I A u L M)(T:K2 R)(kx:K3 R):akP (O,j,B,I,A,u,L,M) T kx=aA (fj A I) (aA (dB A (((aa B):Nat):Int)) (aA (pb j (0:Int)) (kx (DL (j,(u,L,M))).1 (DL (j,(u,L,M))).2) (ao (F3 ((nth eU B (ae A)),O.1,u,L,M)) λx1=>aA x1.isLeft (ao x1.getLeft? λK=>T (rZ (O,j,B,I,(bC .i64 A (1:Int)),K.2.1,K.2.2.1,K.2.2.2))) (ao x1.getRight? λJ=>T (rZ (O,j,B,I,(bC .i64 A (1:Int)),J.2.1,J.2.2.1,J.2.2.2))))) aC) (kx (DM (j,(u,L,M))).1 (DM (j,(u,L,M))).2):=bS
def aVL(b j o1 J)(k:K1 R):Og.A (b,j,o1,J) k=ao (akR.call (b,j,o1,J)) λB=>ao (Uy (b,B.1,b.2.2.1,(aa b.2.2.1:Int),0,B.2.1,B.2.2.1,B.2.2.2)) λI=>aA I.isLeft (ao I.getLeft? λu=>k (Og.out (u.1,u.2.1,u.2.2.1,u.2.2.2))) (ao I.getRight? λA=>k (Og.out (A.1,A.2.1,A.2.2.1,A.2.2.2))):=bS
def aBk:agi:=by
 refine Zs (λ(_,_,l,_,i,_,_,_)=>aa l - i.toNat) ?_
 rintro⟨b,e,l,m,i,n,a,s⟩ ⟨⟨B,M⟩,rfl,k,hk,rfl,hg⟩;have B:aa l<=100:=B;have hk:k<=aa l:=hk;by_cases h:k < aa l
 .have n1:nth eU l k=l[k]:=bG (t:=eU) h;have L:l.drop k=l[k]::l.drop (k+1):=ak h;have u:=M _ (aD h);generalize l[k]=t at n1 L u;by_cases j:e=0
  .left;have ne:¬(e≠0/\(k:Int) < (aa l:Int)):=λx=>x.1 j
   have A:¬(e≠0/\((k+1:Nat):Int) < (aa l:Int)):=λx=>x.1 j
   rcases hg.apply (t:=t) (h:=b.1) aq u with⟨K,J⟩ | ⟨_,K,J,I⟩
   .refine⟨(b,e,l,(aa l:Int),((k+1:Nat):Int),n,a,s),⟨⟨B,M⟩,rfl,k+1,h,rfl,hg.mono aq⟩,by simp only[ab];omega,?_,λO T=> ?_⟩
    .simp only[kN,pY,au ne,au A,ab,L,bN];rw[show WT b.1 (n,a,s) t=(n,a,s) from av K]
    .rw[Bf,aN aq,ai,aS aq aq,ai,bU j,al,ab,n1,J];simp only[ah,j7,ai,iQ];rw[N.iY aq]
   .refine⟨(b,e,l,(aa l:Int),((k+1:Nat):Int),n+1,fx t b.1 a,s.take n++ [stepOf t a]),⟨⟨B,M⟩,rfl,k+1,h,rfl,I⟩,by simp only[ab];omega,?_,λO T=> ?_⟩
    .simp only[kN,pY,au ne,au A,ab,L,bN];rw[show WT b.1 (n,a,s) t=(n+1,fx t b.1 a,s.take n++ [stepOf t a]) from au (λx=>x K)]
    .rw[Bf,aN aq,ai,aS aq aq,ai,bU j,al,ab,n1,J];simp only[ah,dh,al,cJ];rw[N.iY aq]
  .right;refine⟨DL (e,(n,a,s)),?_,λO T=> ?_⟩
   .have pe:e≠0/\(k:Int) < (aa l:Int):=⟨j,aq⟩;simp only[kN,pY,av pe];rfl
   .rw[Bf,aN aq,ai,aS aq aq,ai,dj j,ai]
 .right;obtain rfl:k=aa l:=aq;refine⟨DM (e,(n,a,s)),?_,λO T=> ?_⟩
  .have ne:¬(e≠0/\(aa l:Int) < (aa l:Int)):=λx=>aq
   simp only[kN,pY,au ne,ab,ay,dr];rfl
  .rw[Bf,aL aq,al]
def aVM:Og.Ok:=by
 rintro⟨b,n,a,s⟩ ⟨A,u⟩;have u:Od 400 n a s:=u;rw[aVL,aPn (d:=(b,n,a,s)) ⟨A,u.mono fm⟩];simp only[ah,bt,aMJ,bt,awG];rw[awH (d:=(b,(nC b a).2,b.2.2.1,(aa b.2.2.1:Int),0,n,a,s)) ⟨⟨A.2.1,A.1.1.2⟩,rfl,0,az _,rfl,u⟩];simp only[ah,kN,pY,aW,aH];by_cases j:(nC b a).2=0
 .rw[au (λx=>x.1 j),au (λx=>x j)];rfl
 .rw[av j];by_cases B:(0:Int) < (aa b.2.2.1:Int)
  .rw[av ⟨j,B⟩];rfl
  .rw[au (λx=>B x.2),bV (by omega:aa b.2.2.1=0)];rfl
def aPl:Og.RS:=rE [.d dS,.n,.d (.slice (.pair bK mv)),.d (.slice eh)] Og
def aVN:=Og.eQ aVM 1 ⟨.eg aBk,trivial⟩
abbrev W4:=Nat×Nat×(List (bO×fh))×(List cF)×(List cP)
def Mf:W4->Int->((Nat×Nat×(List (bO×fh))×(List cF)×(List cP))×(Int)):=λ(j,u,A,B,I) y=>((j,u,A,B,I),y)
def awY:W4->Prop:=λ_=>True
def W5:W4->Int:=λ(n,_)=>(n:Int)
def so:Fs prog awY Mf W5:=eP 35 f35 (λ(j,u,A,B,I)=>([dK],(aeJ j u A B I))) (λx=>⟨aU x.2,(aeJ x.1.1 x.1.2.1 x.1.2.2.1 x.1.2.2.2.1 x.1.2.2.2.2),[]⟩) [aC]
def aBK(j u A B I)(k:K1 R):so.A (j,u,A,B,I) k=k (so.out ((j,u,A,B,I),((j:Nat):Int))):=bS
def aBL:so.Ok:=by rintro⟨n,_⟩ _;rw[aBK];rfl
def Mg:so.RS:=rE [.n,.n,.d (.slice (.pair bK mv)),.d (.slice eh),.d (.slice dS)] so
def HN:=so.eQ aBL
abbrev aw0:=Nat×Nat×(List (bO×fh))×(List cF)×(List cP)
def atJ:aw0->Bs->((Nat×Nat×(List (bO×fh))×(List cF)×(List cP))×(Bs)):=λ(j,u,A,B,I) y=>((j,u,A,B,I),y)
def oz(n:Nat)(bs:List cP):Bs:=if n=0 then ag 32 0 else aHo (nth dS bs (n - 1))
def aPX:aw0->Prop:=λ(n,_,_,_,bs)=>aAM n bs
def aw1:aw0->Bs:=λ(n,_,_,_,bs)=>oz n bs
def UK:Fs prog aPX atJ aw1:=eP 37 f37 (λ(j,u,A,B,I)=>([dK],(aeJ j u A B I))) (λx=>⟨fW x.2,(aeJ x.1.1 x.1.2.1 x.1.2.2.1 x.1.2.2.2.1 x.1.2.2.2.2),[]⟩) [aC] [bdA]
def aWs(j u B I A)(k:K1 R):UK.A (j,u,B,I,A) k=aA (oC ((j:Nat):Int) 0) (k (UK.out ((j,u,B,I,A),(ag 32 0)))) (aA (dB (cY .i64 ((j:Nat):Int) 1) ((j:Nat):Int)) (aA (decide ((0+(ae (cY .i64 ((j:Nat):Int) 1))) < (aa A))) (aA (decide ((((0+(ae (cY .i64 ((j:Nat):Int) 1)))*36)+0)=(0+((ae (cY .i64 ((j:Nat):Int) 1))*36)))) (ao (adE.call (nth dS A (0+(ae (cY .i64 ((j:Nat):Int) 1))))) λJ=>k (UK.out ((j,u,B,I,A),J))) aC) aC) aC):=bS
def aWt:UK.Ok:=by
 rintro⟨n,m,a,s,bs⟩ ⟨u,A,I⟩;have u:n<=aa bs:=u;have A:n<=1000000:=A;rw[aWs];cases n with
 |zero=>
  rw[dC (show((0:Nat):Int)=0 from rfl),ai];rfl
 |succ k=>
  have B:cY .i64 (((k+1:Nat):Nat):Int) (1:Int)=(k:Int):=by rw[eO aq aq];omega
  have j:k < aa bs:=aq;rw[eZ aq,al,B,aS aq aq,ai];simp only[ab,aO,bY,aK j,ai,bE];have n1:nth dS bs k=bs[k]:=bG (t:=dS) j;rw[n1,aVS (d:=bs[k]) (I _ (aD j))];simp only[ah,bt,aHr,aw1,oz,lW,n1,au (Nat.succ_ne_zero k)];rfl
def atK:UK.RS:=rE [.n,.n,.d (.slice (.pair bK mv)),.d (.slice eh),.d (.slice dS)] UK
def aBP:=UK.eQ aWt
abbrev aHU:=Nat×(List cP)
abbrev aWx:=Nat×(List cP)
def alb:aHU->aWx->(((List cP))×(Nat×(List cP))):=λ(j,o0) y=>(o0,y)
def aWw:aHU->Prop:=λ(n,l)=>n<=aa l/\n<=1000000
def aHV:aHU->aWx:=λ(n,l)=>(aa (l.take n),l.take n)
def aw3:Fs prog aWw alb aHV:=eP 141 f141 (λ(j,o0)=>([.dq (.dx 0) 0 [] 0 0 j],[.obj 0 aZ (.vec 48 dS o0)])) (λx=>⟨.dq (.new 0 0) 0 [] 0 0 x.2.1,[.obj 0 aZ (.vec 48 dS x.1)],[.obj 0 aZ (.vec 48 dS x.2.2)]⟩) [aC] [] {cd:=[5],owns:=[⟨2,[],5,41⟩]}
def bdQ(j o0)(k:K1 R):aw3.A (j,o0) k=aA (decide (0 < j)) (aA (decide (0=0/\(0+j)<=(aa o0))) (aA (cM (0+(aa (cut o0 0 j))) 96) (k (aw3.out (o0,((0+(aa (cut o0 0 j))),((aJ 0 (ag 0 (0,((ag 32 0),(([]:List di),(0,(([]:List bO),())))))))++(cut o0 0 j)))))) aC) aC) (nd (k (aw3.out (o0,(0,([]:List cP))))) (aA (decide (0=0/\(0+j)<=(aa o0))) (aA (cM (0+(aa (cut o0 0 j))) 96) (k (aw3.out (o0,((0+(aa (cut o0 0 j))),((aJ 0 (ag 0 (0,((ag 32 0),(([]:List di),(0,(([]:List bO),())))))))++(cut o0 0 j)))))) aC) aC)):=bS
def bdR:aw3.Ok:=by
 rintro⟨n,l⟩ ⟨j,u⟩;have j:n<=aa l:=j;have u:n<=1000000:=u;have A:cut l 0 n=l.take n:=by simp[cut]
 have I:aa (l.take n)<=1000000:=by rw[bw];omega
 have B:cM (aa (l.take n)) 96=bn:=cg aq aq;rw[bdQ];simp only[aO,A,B,ai,du,bf,gC,aK j,alb,aHV];by_cases h:0 < n
 .simp only[aK h,ai]
 .have:n=0:=aq;subst this;simp only[du,bl,az,bE,ai,EB,aV (jb 0),al]
def aWy:aw3.RS:=rE [.n,.d (.slice dS)] aw3
def bdS:=aw3.eQ bdR
abbrev ak4:=Nat×Nat×(List (bO×fh))×(List cF)×(List cP)
abbrev aBJ:=Nat×(List (bO×fh))×(List cF)×(List cP)×Nat×Nat×(List (bO×fh))×(List cF)×(List cP)
def ak5:ak4->aBJ->((Nat)×(Nat×(List (bO×fh))×(List cF)×(List cP)×Nat×Nat×(List (bO×fh))×(List cF)×(List cP))):=λ(j,u,A,B,I) y=>(j,y)
def aHK:ak4->Prop:=λ(nb,n,a,s,bs)=>Od 500 n a s/\aAM nb bs
def aBI:ak4->aBJ:=λ(nb,n,a,s,bs)=>(n,a,s,bs,nb,n,jJ a,s.take n,bs.take nb)
def W3:Fs prog aHK ak5 aBI:=eP 90 f90 (λ(j,u,A,B,I)=>([dK],(aeJ j u A B I))) (λx=>⟨gB 0 0 0 0,(aeJ x.1 x.2.1 x.2.2.1 x.2.2.2.1 x.2.2.2.2.1),[.obj 0 aZ (.pr (gB 0 1 0 0) (.pr (CB 0 4 0 0 0 x.2.2.2.2.2.1) (.d .unit ()))),.obj 0 aZ (.pr (QS 0 2 0) (.pr (CB 0 3 0 0 0 x.2.2.2.2.2.2.1) (.d .unit ()))),.obj 0 aZ (DD x.2.2.2.2.2.2.2.1),.obj 0 aZ (Ib x.2.2.2.2.2.2.2.2.1),.obj 0 aZ (.vec 48 dS x.2.2.2.2.2.2.2.2.2)]⟩) [aC] [atU,bdS] {cd:=[14]}
def aPT(j u I J K)(k:K1 R):W3.A (j,u,I,J,K) k=ao (CZ.call (u,I,J)) λA=>ao (aw3.call (j,K)) λB=>k (W3.out (j,(A.1,A.2.1,A.2.2.1,B.1,B.2.1,A.2.2.2.1,A.2.2.2.2.1,A.2.2.2.2.2,B.2.2))):=bS
def aPU:W3.Ok:=by
 rintro⟨nb,n,a,s,bs⟩ ⟨j,B⟩;have j:Od 500 n a s:=j;obtain⟨u,A,_⟩:=B;have u:nb<=aa bs:=u;rw[aPT,j.copy aq,j.canon.2];simp only[ah];have e:aa (bs.take nb)=nb:=by rw[bw];omega
 rw[aWy (d:=(nb,bs)) ⟨u,A⟩];simp only[ah,alb,aHV,e];rfl
def aHL:W3.RS:=rE [.n,.n,.d (.slice (.pair bK mv)),.d (.slice eh),.d (.slice dS)] W3
def aPV:=W3.eQ aPU
def aWC:(List bO)->Prop:=λl=>aa l<=1000000
def aHX:(List bO)->(List bO):=λl=>l
def aw6:Fs prog aWC bt aHX:=eP 123 f123 (λj=>([.d (.slice bK) j],[])) (λx=>⟨.d (.slice bK) x,[],[]⟩) [aw (.slice bK)] [] {cd:=[5],res:=[aw (.slice bK)]}
def bdY(j)(k:K1 R):aw6.A j k=aA (decide (0 < (aa j))) (aA (cM (0+(aa j)) 40) (aA (decide (0=0/\(0+(0+(aa j)))<=(aa ((aJ 0 (ag 0 ((ag 32 0),(0,()))))++j)))) (k (aw6.out (cut ((aJ 0 (ag 0 ((ag 32 0),(0,()))))++j) 0 (0+(aa j))))) aC) aC) (nd (k (aw6.out ([]:List bO))) (aA (cM (0+(aa j)) 40) (aA (decide (0=0/\(0+(0+(aa j)))<=(aa ((aJ 0 (ag 0 ((ag 32 0),(0,()))))++j)))) (k (aw6.out (cut ((aJ 0 (ag 0 ((ag 32 0),(0,()))))++j) 0 (0+(aa j))))) aC) aC)):=bS
def bdZ:aw6.Ok:=by
 intro l j;have j:aa l<=1000000:=j;have u:cM (aa l) 40=bn:=cg aq aq;rw[bdY];simp only[aO,u,ai,du,bf,ax,fY,bE,dM,bt,aHX];by_cases h:0 < aa l
 .simp only[aK h,ai]
 .have:l=[]:=bV aq;subst this;simp only[bl,EB,aV (jb 0),al]
def aWD:aw6.RS:=rE [.d (.slice bK)] aw6
def bd0:=aw6.eQ bdZ
abbrev W2:=Nat×(List di)×Int×Int×cP×Int×Bs×Int×(List di)
abbrev ak1:=Nat×(List di)
def DW:W2->ak1->((cP×Int×Bs×Int)×(Nat×(List di))):=λ(j,K,I,J,n1,n2,u,B,A) y=>((n1,n2,u,B),y)
def aGY(t:di):di:=(apo (aL4 t)).1
def aDX(b:cP):cP:=(b.1,(b.2.1,(b.2.2.1.map aGY,(b.2.2.2.1,(b.2.2.2.2.1,())))))
def Yx{t:di}(j:mE t)(u:ig t=bn):aGY t=t:=by unfold aGY;rw[aKQ j u]
def ayK{b:cP}(u:aG0 b)(A:∀t∈b.2.2.1,ig t=bn):aDX b=b:=by unfold aDX;rw[show b.2.2.1.map aGY=b.2.2.1 from(eE λt j=>Yx (u.1.2 t j) (A t j)).trans (List.map_id _)]
def awS:W2->Prop:=λ(L,l,n,i,u,A,B,I,j)=>aa (l)<=1000000/\∃k:Nat,k<=aa (l)/\i=k/\n=aa (l)/\L=aa (j)/\aa (j)<=1000000+k/\(∀t∈l,mE t)
def Me:W2->ak1:=λ(L,l,n,i,u,A,B,I,j)=>(L+aa (bj (ae i) l),j++(bj (ae i) l).map aGY)
def aPO:cP->Prop:=λb=>aG0 b
def awR:cP->cP:=λb=>aDX b
def yI:Ls awS DW Me:=rI (λ(j,K,A,B,n1,n2,I,J,u)=>⟨([bB,eI 1,eI 2,uJ 24 j]++aP 5 ((auW K A B)++aP 21 [])),[],([[],dp (.d dS n1),dp (.pr (aU n2) (.pr (fW I) (.pr (.fR) (.pr (aU J) (Ia)))))]++bz 21 ([dp (.vec 55 eU u)]++bz 8 []))⟩) (λx=>(.exit 0,⟨([bB,eI 1,eI 2,uJ 24 x.2.1]++aP 29 []),[],([[],dp (.d dS x.1.1),dp (.pr (aU x.1.2.1) (.pr (fW x.1.2.2.1) (.pr (.fR) (.pr (aU x.1.2.2.2) (Ia)))))]++bz 21 ([dp (.vec 55 eU x.2.2)]++bz 8 []))⟩))
def PS:Fs prog aPO bt awR:=eP 82 f82 (λb=>([.d dS b],[])) (λx=>⟨.d dS x,[],[]⟩) [aw dS] [afT,aqA,bd0] {cd:=[1],loops:=ko [(3,{aX:=[1,2,3,9,10,11],sites:=[1,2,24],owns:=[⟨3,[],24,34⟩]})],outs:=km [(3,{aX:=[1,2,3],sites:=[1,2,24]},{aX:=[2]})],eT:=jW [(3,yI.E)],res:=[aw dS]}
def awT:yI.RS:=rL [.n,.d (.slice eU),.d ti,.d ti,.d dS,.d ti,.d tB,.d ti,.d (.slice eU)] yI
def UE(j I B u n1 n2 J K A)(L:K2 R)(M:K3 R):PS.R 0 yI (j,I,B,u,n1,n2,J,K,A) L M=aA (fj u B) (aA (dB u (aa I:Int)) (ao (u6.call (nth eU I (ae u))) λO=>ao (mG.call O) λT=>aA (decide (j<=(aa A))) (aA (cM (j+1) 56) (L (yI.st ((j+1),I,B,(bC .i64 u 1),n1,n2,J,K,((aJ j A)++ [T.1])))) aC) aC) aC) (yI.go M ((n1,n2,J,K),(j,A))):=bS
def aWd(b)(k:K1 R):PS.A b k=ao (yI.call (0,b.2.2.1,(aa b.2.2.1:Int),0,b,0,(ag 32 0),0,([]:List di))) λj=>ao (aw6.call j.1.1.2.2.2.2.1) λu=>aA (decide (0=0/\(0+j.2.1)<=(aa j.2.2))) (k (PS.out (j.1.1.1,(j.1.1.2.1,((cut j.2.2 0 j.2.1),(j.1.1.2.2.2.1,(u,j.1.1.2.2.2.2.2))))))) aC:=bS
def aBD:(PS.kA 0 yI):=by
 refine(PS.lS 0 yI) (λ(L,l,n,i,I,J,K,M,u)=>aa (l) - ae i) ?_
 rintro⟨L,l,n,i,I,J,K,M,u⟩ ⟨j,k,O,rfl,rfl,rfl,T,A⟩;have j:aa (l)<=1000000:=j;have O:k<=aa (l):=O;have T:aa (u)<=1000000+k:=T;have A:∀t∈l,mE t:=A;by_cases h:k < aa (l)
 .left;have n1:nth eU l k=l[k]:=bG (t:=eU) h;have hd:bj k l=l[k]::bj (k+1) l:=ak h;refine⟨(aa (u)+1,l,(aa (l):Int),((k+1:Nat):Int),I,J,K,M,u++ [aGY l[k]]),⟨j,k+1,aq,rfl,rfl,by rw[aj];rfl,by rw[aj];show aa (u)+1<=_;omega,A⟩,by simp only[ab];omega,?_,λkn kx=> ?_⟩
  .simp only[DW,Me,ab,hd,cq,aB,aR,cv];rw[show ∀a c:Nat,a+1+c=a+(c+1) from λa c=>aq]
  .rw[UE,aN aq,aS (show(0:Int)<=(k:Int) by omega) aq,ab,n1];simp only[ai];have B:=A _ (aD h);rw[YG (d:=l[k]) B];simp only[ah,bt,Sq];rw[afW (d:=aL4 l[k]) ⟨(FC B).1,by show aa (aL4 l[k])<=_;have:=(FC B).2;omega⟩];simp only[ah,bt,az9];rw[aK (ax _),cg aq aq,N.iY aq,bI];rfl
 .right;obtain rfl:k=aa (l):=aq;intro R kn kx;rw[UE,aL aq,al];simp only[DW,Me,ab,ay,gm,bm,bl,bY]
def aWe:PS.Ok:=by rintro b ⟨⟨A,j⟩,B,I,J⟩;have u:((0:Int)).toNat=0:=rfl;rw[aWd,awT (d:=(0,b.2.2.1,(aa b.2.2.1:Int),0,b,0,ag 32 0,0,[])) ⟨by show aa b.2.2.1<=_;omega,0,az _,rfl,rfl,rfl,by show(0:Nat)<=_;omega,j⟩];simp only[ah,DW,Me,u,aH,aO,bf];rw[aWD (d:=b.2.2.2.2.1) (by show aa b.2.2.2.2.1<=_;omega)];simp only[ah,bt,aHX];rw[aK (by rw[cz];exact⟨trivial,ax _⟩),ai,dM (cz ..)];rfl
def atz:PS.RS:=rE [.d dS] PS
def aBE:=PS.eQ aWe 1 ⟨.eg aBD,trivial⟩
abbrev ZF:=(List dW)
def ak7:ZF->SA:=λouts=>([qX outs],[])
abbrev aMU:=(Unit)⊕((List (bO×fh))×(List cF)×(List cP))
abbrev awZ:=(Unit)⊕((List (bO×fh))×(List cF)×(List cP))
def Vr(j):=(fp (.vec 48 dS j):dR)
def To:awZ->hZ:=λx=>match x with | .inl x=>⟨.qW,[],[]⟩ | .inr x=>⟨eI 0,[],[fp (.pr (gB 0 1 0 0) (CA 0 4 0 0 0 0)),auY 0 2 0 0 3 0 0 0 0,fp (DD x.1),fp (Ib x.2.1),Vr x.2.2]⟩
def Tn:ZF->aMU->awZ:=λouts y=>match y with | .inl y=> .inl y | .inr y=> .inr y
def adO:ZF->Prop:=λouts=>∀o∈outs,Pj o
def Tm:ZF->aMU:=λouts=>match Gq outs with | none=> .inl () | some r=> .inr (r,[],[])
def bdO:qN:=gU (P:=prog) [aXb]
def aWp:yu:= {cd:=[10],owns:=[⟨2,[.snd,.fst],0,41⟩]}
def aMS:= @FI prog bdO aWp 0 f5 _ ak7
abbrev aWo:=WS @aMS adO Tn Tm To
def aWq(outs)(k:K1 R):aMS outs k=ao (alB outs) λu=>aA u.isLeft (ao u.getLeft? λA=>k (To (.inl ()))) (ao u.getRight? λj=>k (To (.inr (j.1,j.2,([]:List cP))))):=bS
def aWr:aWo:=by
 intro outs h;rw[aWq,aQi (d:=outs) h];simp only[ah,Z2,Tm];cases Gq outs with
 |none=>rfl
 |some r=>rfl
def aMT:=Entry.Ug [aw (.slice dI)] ak7 adO Tn Tm To
def Mh:ZF->Option awZ:=Du aMT ak7
def atD:fC Mh adO Tn Tm:=LN (Pp [.d (.slice dI)] λ_=>bS)
def aBM:SG prog:=⟨5,jh,aMT,.of (.aOE (.fn 0 bS aWr trivial)) (by rfl)⟩
abbrev aHJ:=Int×Nat×Nat×(List (bO×fh))×(List cF)×(List cP)
def aBH:aHJ->(cP×Bool)->((Nat×Nat×(List (bO×fh))×(List cF)×(List cP))×(cP×Bool)):=λ(A,j,u,B,I,J) y=>((j,u,B,I,J),y)
def bkD(h:Int)(nb:Nat)(bs:List cP):cP×Bool:=if 1<=h/\h<=nb then(aDX (nth dS bs (h.toNat - 1)),bn) else(dS.zero,aZ)
def aWm:aHJ->Prop:=λ(_,nb,_,_,_,bs)=>aAM nb bs
def ak3:aHJ->(cP×Bool):=λ(h,nb,_,_,_,bs)=>((bkD h nb bs).1,(bkD h nb bs).2)
def awX:Fs prog aWm aBH ak3:=eP 38 f38 (λ(j,u,A,B,I,J)=>([dK,aU j],(aeJ u A B I J))) (λx=>⟨.cons (.d dS x.2.1) (.cons (fA x.2.2) (.nil)),(aeJ x.1.1 x.1.2.1 x.1.2.2.1 x.1.2.2.2.1 x.1.2.2.2.2),[]⟩) [aC,aw ti] [aBE] {res:=[aw dS,aC]}
def bdL(j u A I J B)(k:K1 R):awX.A (j,u,A,I,J,B) k=aA (fj j 1) (k (awX.out ((u,A,I,J,B),((0,((ag 32 0),(([]:List di),(0,(([]:List bO),()))))),aZ)))) (aA (qi j ((u:Nat):Int)) (k (awX.out ((u,A,I,J,B),((0,((ag 32 0),(([]:List di),(0,(([]:List bO),()))))),aZ)))) (aA (dB (cY .i64 j 1) ((u:Nat):Int)) (aA (decide ((0+(ae (cY .i64 j 1))) < (aa B))) (aA (decide ((((0+(ae (cY .i64 j 1)))*36)+0)=(0+((ae (cY .i64 j 1))*36)))) (ao (PS.call (nth dS B (0+(ae (cY .i64 j 1))))) λK=>k (awX.out ((u,A,I,J,B),(K,bn)))) aC) aC) aC)):=bS
def bdM:awX.Ok:=by
 rintro⟨h,nb,n,a,s,bs⟩ ⟨B,I,L⟩;have B:nb<=aa bs:=B;have I:nb<=1000000:=I;rw[bdL];by_cases u:1<=h
 .rw[aL aq,al];by_cases A:h<=nb
  .obtain⟨k,rfl⟩:∃k:Nat,h=(k:Int)+1:=⟨(h - 1).toNat,aq⟩;have j:k < aa bs:=aq;have J:cY .i64 ((k:Int)+1) (1:Int)=(k:Int):=by rw[eO aq aq];omega
   have K:((k:Int)+1).toNat - 1=k:=aq;rw[ct aq,al,J,aS aq aq,ai];simp only[ab,aO,bY,aK j,ai,bE];have n1:nth dS bs k=bs[k]:=bG (t:=dS) j;rw[n1,atz (d:=bs[k]) (L _ (aD j))];simp only[ah,bt,awR,ak3,bkD,av (iD u A),K,n1];rfl
  .rw[cW aq,ai];simp only[ak3,bkD,au (λe:1<=h/\h<=(nb:Int)=>A e.2)];rfl
 .rw[aN aq,ai];simp only[ak3,bkD,au (λe:1<=h/\h<=(nb:Int)=>u e.1)];rfl
def aWn:awX.RS:=rE [.d ti,.n,.n,.d (.slice (.pair bK mv)),.d (.slice eh),.d (.slice dS)] awX
def bdN:=awX.eQ bdM
abbrev aMR:=cP×Nat×Nat×(List (bO×fh))×(List cF)×(List cP)
def lX(b:cP)(nb:Nat)(S:aVa)(bs:List cP):Int×Nat×Nat×At×List cF×List cP:=if b.2.1=oz nb bs/\b.1=(nb:Int)+1 then if(nC b S.2.1).2=0 then(0,nb+1,(aPA b S).1,(aPA b S).2.1,(aPA b S).2.2,bs.take nb++ [aDX b]) else((nC b S.2.1).2,nb,S.1,S.2.1,S.2.2,bs) else(1,nb,S.1,S.2.1,S.2.2,bs)
def adN:aMR->Prop:=λ(b,nb,n,a,s,bs)=>Pg b/\Od 400 n a s/\aAM nb bs
def awV:aMR->(Int×Nat×Nat×(List (bO×fh))×(List cF)×(List cP)):=λ(b,nb,n,a,s,bs)=>lX b nb (n,a,s) bs
def QT(j u A B I):=(.dq (.dx j) u [] A B I:aF)
def Oj:Fs prog adN bt awV:=eP 48 f48 (λ(b,j,u,A,B,I)=>([dK,.d dS b],(aeJ j u A B I))) (λx=>⟨aU x.1,[.obj 0 aZ (.pr (qp 1 0 0) (.pr (QT 4 1 0 0 x.2.1) (.d .unit ()))),.obj 0 aZ (.pr (zi 2 0) (.pr (QT 3 1 0 0 x.2.2.1) (.d .unit ()))),.obj 0 aZ (DD x.2.2.2.1),.obj 1 aZ (Ib x.2.2.2.2.1),.obj 1 aZ (.vec 48 dS x.2.2.2.2.2)],[]⟩) [aC,aw dS] [aBP,HN,aVN,aBE] {atv:=[(3,1),(4,1)]}
def aWi(b u A J K L)(k:K1 R):Oj.A (b,u,A,J,K,L) k=ao (UK.call (u,A,J,K,L)) λB=>aA (!(Ty.beq tH b.2.1 B.2)) (k (Oj.out (1,B.1.1,B.1.2.1,B.1.2.2.1,B.1.2.2.2.1,B.1.2.2.2.2))) (ao (so.call (B.1.1,B.1.2.1,B.1.2.2.1,B.1.2.2.2.1,B.1.2.2.2.2)) λj=>aA (pb b.1 (bC .i64 j.2 1)) (k (Oj.out (1,j.1.1,j.1.2.1,j.1.2.2.1,j.1.2.2.2.1,j.1.2.2.2.2))) (ao (Og.call (b,j.1.2.1,j.1.2.2.1,j.1.2.2.2.1)) λI=>aA (pb I.1 0) (k (Oj.out (I.1,j.1.1,I.2.1,I.2.2.1,I.2.2.2,j.1.2.2.2.2))) (ao (PS.call b) λM=>aA (decide (j.1.1<=(aa j.1.2.2.2.2))) (aA (cM (j.1.1+1) 96) (k (Oj.out (0,(j.1.1+1),I.2.1,I.2.2.1,I.2.2.2,((aJ j.1.1 j.1.2.2.2.2)++ [M])))) aC) aC))):=bS
def aWj:Oj.Ok:=by
 rintro⟨b,nb,n,a,s,bs⟩ ⟨u,L,K⟩;have u:Pg b:=u;obtain⟨I,J,_⟩:=id K;have I:nb<=aa bs:=I;have J:nb<=1000000:=J;rw[aWi,atK (d:=(nb,n,a,s,bs)) K];simp only[ah,atJ,aw1,biM,bt,awV,lX];by_cases B:b.2.1=oz nb bs
 .rw[fM B,bW,al,Mg (d:=(nb,n,a,s,bs)) trivial];simp only[ah,Mf,W5];rw[eS aq aq];by_cases A:b.1=(nb:Int)+1
  .rw[bU A,al,aPl (d:=(b,n,a,s)) ⟨u,L⟩];simp only[ah,bt,awG,av (iD B A)];by_cases j:(nC b a).2=0
   .rw[bU j,al,atz (d:=b) u.1];simp only[ah,bt,awR];rw[aK I,ai,cg aq aq,ai,av j,au (λe=>e j)]
   .rw[dj j,ai,au j,av j]
  .rw[dj A,ai,au (λe=>A e.2)]
 .rw[kC B,eJ,ai,au (λe=>B e.1)]
def atB:Oj.RS:=rE [.d dS,.n,.n,.d (.slice (.pair bK mv)),.d (.slice eh),.d (.slice dS)] Oj
def aBF:=Oj.eQ aWj
def acH(o:bO):List di->Option di
 |[]=>aC
 |t::l=>if(dG t).any (ajJ o)=bn then aw t else acH o l
def G8(o:bO):List cP->Int->Option (di×Int)
 |[],_=>aC
 |b::l,i=>match acH o b.2.2.1 with | some t=>aw (aGY t,i+1) | none=>G8 o l (i+1)
def aF6(t:di):aa (dG t)<=64:=by
 unfold dG;split
 .rename_i h;rw[cz];exact(iW h).1.2.1
 .simp
abbrev Sj:=Int×di×bO×bO×(Int×Unit)×Int×Bool
noncomputable def bh1(j u A B):=([fp (.BO (Hw prog 4294968768) (Dv ([bB,bB,bB,.iU bK j,qp 1 0 0,qp 2 0 0,qp 3 0 0]++aP 21 [])) 0),fp (w8 u),fp (aU A),fp (fA B)]:List dR)
def anV:aF:= .yl (.dx 0) 0
noncomputable def afO:Sj->SA:=λ(u,A,o,or,j,B,I)=>(([anV,aU u,rQ A,bB,bB,bB,DE o,qp 1 0 0,QU,qp 3 0 0]++aP 21 []),(bh1 or j B I))
abbrev ap3:=((bO×Int)×(di))⊕(bO×(Int×Unit)×Int×Bool)
noncomputable def NL:ap3->hZ:=λx=>match x with | .inl x=>⟨me,[fp (.BO (Hw prog 4294968768) (Dv ([bB,bB,bB,DE x.1.1,qp 1 0 0,QU,qp 3 0 0]++aP 21 [])) 2),fp (rQ x.2),fp (aU x.1.2),fp (.d .bool bn)],[]⟩ | .inr x=>⟨.d .bool bn,(bh1 x.1 x.2.1 x.2.2.1 x.2.2.2),[]⟩
def G7:Sj->((di)⊕(Unit))->ap3:=λ(u,I,o,or,j,A,B) y=>match y with | .inl y=> .inl ((or,u),y) | .inr y=> .inr (or,j,A,B)
def YD:Sj->Prop:=λ(_,t,_)=>mE t
def LQ:Sj->((di)⊕(Unit)):=λ(_,t,o,_)=>if(dG t).any (ajJ o)=bn then .inl (aGY t) else .inr ()
def bbE:qN:=gU (P:=prog) [aqG,aDR,afT,aqA]
def aTy:yu:= {lS:=aw 4294968768}
def aF4:= @FI prog bbE aTy 0 (bhp prog 4294968768) _ afO
abbrev aTx:=WS @aF4 YD G7 LQ NL
def aTz(A u o or j B I)(k:K1 R):aF4 (A,u,o,or,j,B,I) k=ao (wu.call u) λJ=>ao (ahs.call (J,o)) λK=>aA (K) (ao (u6.call u) λL=>ao (mG.call L) λM=>k (NL (.inl ((or,A),M.1)))) (k (NL (.inr (or,j,B,I)))):=bS
def aTA:aTx:=by
 rintro⟨h,t,o,B,o1,I,J⟩ j;have j:mE t:=j;rw[aTz,aiJ (d:=t) j.1];simp only[ah,bt,T6];rw[auL (d:=(dG t,o)) (by show aa (dG t)<=_;have:=aF6 t;omega)];simp only[ah,bt,aNM,LQ];by_cases u:(dG t).any (ajJ o)=bn
 .rw[av u,u,ai,YG (d:=t) j];simp only[ah,bt,Sq];rw[afW (d:=aL4 t) ⟨(FC j).1,by show aa (aL4 t)<=_;have:=(FC j).2;omega⟩];rfl
 .have A:(dG t).any (ajJ o)=aZ:=by simpa using u
  rw[au u,A,al];rfl
def aF5:=Entry.Ug [aC,aC,aC,aC,aC,aC,aC,aC,aC,aC,aC,aC,aC,aC,aC,aC,aC,aC,aC,aC,aC,aC,aC,aC,aC,aC,aC,aC,aC,aC,aC] afO YD G7 LQ NL
def ais:Sj->Option ap3:=Du aF5 afO
def aLB:fC ais YD G7 LQ:=LN (Pp [.d ti,.d eU,.d bK,.d bK,.d (.pair ti .unit),.d ti,.d .bool] λ_=>bS)
def aTB:SG prog:=⟨4294968768,jh,aF5,.bqG (Ob.fn 0 bS aTA trivial (by rfl)).aOE (by rfl)⟩
abbrev Ku:=Nat×Int×Int×bO×(Int×Unit)×Int×Bool×Nat×Nat×(List (bO×fh))×(List cF)×(List cP)
noncomputable def aR4(j u A B I J K L M):=([fp (.BO (Hw prog 4294968768) (Dv ([bB,bB,bB,.iU bK j,qp 1 0 0,qp 2 0 0,qp 3 0 0]++aP 21 [])) 0),fp (.pr (.fR) (.pr (.fR) (.d (.pair ti .unit) u))),fp (.d ti A),fp (.d .bool B),fp (qp 5 0 0),fp (.pr (qp 6 0 0) (C7 9 0 0 0 I)),fp (.pr (.iI (.dx 7) 0) (C7 8 0 0 0 J)),fp (.mp bK mv K),fp (.vec 243 eh L),fp (.vec 48 dS M)]:List dR)
noncomputable def Az:Ku->AS:=λ(A,K,L,o0,o1,M,O,I,J,j,u,B)=>⟨([anV]++aP 9 ([QT 9 0 0 0 A,aU K,aU L]++aP 19 [])),(aR4 o0 o1 M O I J j u B),(ag 32 [])⟩
abbrev aks:=bO×di×Int×Nat×Nat×(List (bO×fh))×(List cF)×(List cP)
noncomputable def aZO(j u A B I J K L):=([fp (.BO (Hw prog 4294968768) (Dv ([bB,bB,bB,.iU bK j,qp 1 0 0,qp 2 0 0,qp 3 0 0]++aP 21 [])) 2),fp (.d eU u),fp (aU A),fp (.d .bool bn),fp (qp 5 0 0),fp (.pr (qp 6 0 0) (C7 9 0 0 0 B)),fp (.pr (.iI (.dx 7) 0) (C7 8 0 0 0 I)),fp (.mp bK mv J),fp (.vec 243 eh K),fp (.vec 48 dS L)]:List dR)
noncomputable def HB:aks->Exit×AS:=λ(a,b,c,e,f,g,h,i)=>(.ret,⟨(aP 32 []),(aZO a b c e f g h i),(ag 32 [])⟩)
abbrev akt:=bO×(Int×Unit)×Int×Bool×Nat×Nat×(List (bO×fh))×(List cF)×(List cP)
noncomputable def HC:akt->Exit×AS:=λ(a,b,c,e,f,g,h,i,j)=>(.exit 0,⟨(aP 32 []),(aR4 a b c e f g h i j),(ag 32 [])⟩)
abbrev adt:=(aks)⊕(akt)
abbrev atj:=((bO×di×Int×Nat×Nat×(List (bO×fh))×(List cF)×(List cP)))⊕((bO×(Int×Unit)×Int×Bool×Nat×Nat×(List (bO×fh))×(List cF)×(List cP)))
def PC:adt->Out (Exit×AS):=λx=> .br x.isLeft (.get x.getLeft? λa=> .ok (HB a)) (.get x.getRight? λb=> .ok (HC b))
def rY:Ku->atj->adt:=λ(A,K,L,o0,o1,M,O,I,J,j,u,B) y=>match y with | .inl y=> .inl y | .inr z=> .inr (z)
abbrev Kv:=Int×Nat×Int×Int×(List di)×Int×Int×bO×(Int×Unit)×Int×Bool×Nat×Nat×(List (bO×fh))×(List cF)×(List cP)
noncomputable def AA:Kv->AS:=λ(i,T,j,u,J,K,L,iK,cm,iZ,qo,M,O,A,B,I)=>⟨([anV,bB,bB,aU i]++aP 6 ([QT 9 0 0 0 T,aU j,aU u]++aP 5 ((auW J K L)++aP 11 []))),(aR4 iK cm iZ qo M O A B I),(ag 32 [])⟩
abbrev akv:=(Nat×Nat×(List (bO×fh))×(List cF)×(List cP))×(bO×di×Int)
noncomputable def HE:akv->Exit×AS:=λ((a,b,c,e,f),g,h,i)=>(.ret,⟨(aP 32 []),(aZO g h i a b c e f),(ag 32 [])⟩)
abbrev akw:=(Nat×Int×Int×Nat×Nat×(List (bO×fh))×(List cF)×(List cP))×(bO×(Int×Unit)×Int×Bool)
noncomputable def HF:akw->Exit×AS:=λ((a,b,c,e,f,g,h,i),j,k,l,m)=>(.exit 2,⟨([anV]++aP 9 ([QT 9 0 0 0 a,aU b,aU c]++aP 19 [])),(aR4 j k l m e f g h i),(ag 32 [])⟩)
abbrev adv:=(akv)⊕(akw)
abbrev atm:=((bO×di×Int))⊕((bO×(Int×Unit)×Int×Bool))
def PD:adv->Out (Exit×AS):=λx=> .br x.isLeft (.get x.getLeft? λa=> .ok (HE a)) (.get x.getRight? λb=> .ok (HF b))
def mX:Kv->atm->adv:=λ(i,L,B,I,M,O,T,iK,cm,iZ,qo,J,K,j,u,A) y=>match y with | .inl y=> .inl ((J,K,j,u,A),y) | .inr z=> .inr (((L,B,I,J,K,j,u,A),z))
abbrev ako:=bO×(Int×Unit)×Int×Bool×Nat×Nat×(List (bO×fh))×(List cF)×(List cP)
noncomputable def awA:ako->SA:=λ(B,A,I,J,j,u,K,L,M)=>([anV,qp 4 0 0],(aR4 B A I J j u K L M))
abbrev aVg:=(bO×di×Int×Nat×Nat×(List (bO×fh))×(List cF)×(List cP))⊕(bO×(Int×Unit)×Int×Bool×Nat×Nat×(List (bO×fh))×(List cF)×(List cP))
abbrev aG9:=(bO×di×Int×Nat×Nat×(List (bO×fh))×(List cF)×(List cP))⊕(bO×(Int×Unit)×Int×Bool×Nat×Nat×(List (bO×fh))×(List cF)×(List cP))
noncomputable def Zj:aG9->hZ:=λx=>match x with | .inl x=>⟨.nil,(aZO x.1 x.2.1 x.2.2.1 x.2.2.2.1 x.2.2.2.2.1 x.2.2.2.2.2.1 x.2.2.2.2.2.2.1 x.2.2.2.2.2.2.2),[]⟩ | .inr x=>⟨.nil,(aR4 x.1 x.2.1 x.2.2.1 x.2.2.2.1 x.2.2.2.2.1 x.2.2.2.2.2.1 x.2.2.2.2.2.2.1 x.2.2.2.2.2.2.2.1 x.2.2.2.2.2.2.2.2),[]⟩
def aky:ako->aVg->aG9:=λ(B,A,I,J,j,u,K,L,M) y=>match y with | .inl y=> .inl y | .inr y=> .inr y
def HD:Kv->Prop:=λ(i,_,_,_,l,n,j,_)=>(0<=i/\i<=1000000)/\aa l<=1000000/\(∀t∈l,mE t)/\n=(aa l:Int)/\∃k:Nat,k<=aa l/\j=k
def tN:Kv->atm:=λ(i,_,_,_,l,_,j,o,o1,u,A,_)=>match acH o (l.drop j.toNat) with | some t=> .inl (o,aGY t,i+1) | none=> .inr (o,o1,u,A)
def HA:Ku->Prop:=λ(nb,n,i,_,_,_,_,_,_,_,_,bs)=>aAM nb bs/\n=(nb:Int)/\∃k:Nat,k<=nb/\i=k
def xp:Ku->atj:=λ(nb,_,i,o,o1,B,I,j,u,m,A,bs)=>match G8 o ((bs.take nb).drop i.toNat) i with
 |some x=> .inl (o,x.1,x.2,j,u,m,A,bs)
 |none=> .inr (o,o1,B,I,j,u,m,A,bs)
def akx:ako->Prop:=λ(_,_,_,_,nb,_,_,_,bs)=>aAM nb bs
def akp:ako->aVg:=λ(o,o1,A,B,nb,j,m,u,bs)=>match G8 o (bs.take nb) 0 with
 |some x=> .inl (o,x.1,x.2,nb,j,m,u,bs)
 |none=> .inr (o,o1,A,B,nb,j,m,u,bs)
def akq:qN:=gU (P:=prog) [aTB]
def ath:=cQ.eg Az HA rY xp PC
def Zg:Ku->Option adt:=eN ath Az
def atk:=cQ.eg AA HD mX tN PD
def Zh:Kv->Option adv:=eN atk AA
def Zi:yu:= {loops:=ko [(1,{aX:=[0,10,11,12]}),(4,{aX:=[0,3,10,11,12,18,19,20]})],outs:=km [(1,{},{}),(4,{aX:=[0,10,11,12]},{})],eT:=jW [(1,ath),(4,atk)]}
def aVe:= @FI prog akq Zi 0 f185 _ awA
abbrev bdc:=WS @aVe akx aky akp Zj
def ati:= @dm prog akq Zi 0 f185 0 _ Az
abbrev akr:=gr prog akq Zi 0 f185 0 Az HA rY xp PC
def atl:= @dm prog akq Zi 0 f185 1 _ AA
abbrev aku:=gr prog akq Zi 0 f185 1 AA HD mX tN PD
def aAZ:fC Zg HA rY xp:=ia (fy [.n,.d ti,.d ti,.d bK,.d (.pair ti .unit),.d ti,.d .bool,.n,.n,.d (.slice (.pair bK mv)),.d (.slice eh),.d (.slice dS)] λ_=>bS)
def adu:iX @ati Az HA rY xp PC akr:=ji
def LY(M O j o0 o1 T mc K L I J A)(kn:K2 R)(kx:K3 R):ati (M,O,j,o0,o1,T,mc,K,L,I,J,A) kn kx=aA (fj j O) (aA (dB j ((M:Nat):Int)) (aA (decide ((0+(ae j)) < (aa A))) (aA (decide ((((0+(ae j))*36)+0)=(0+((ae j)*36)))) (ao (Zh (j,M,O,j,(nth dS A (0+(ae j))).2.2.1,(((aa (nth dS A (0+(ae j))).2.2.1):Nat):Int),(0:Int),o0,o1,T,mc,K,L,I,J,A)) λx1=>aA x1.isLeft (ao x1.getLeft? λu=>kx (HB (u.2.1,u.2.2.1,u.2.2.2,u.1.1,u.1.2.1,u.1.2.2.1,u.1.2.2.2.1,u.1.2.2.2.2)).1 (HB (u.2.1,u.2.2.1,u.2.2.2,u.1.1,u.1.2.1,u.1.2.2.1,u.1.2.2.2.1,u.1.2.2.2.2)).2) (ao x1.getRight? λB=>kn (Az (B.1.1,B.1.2.1,(bC .i64 B.1.2.2.1 (1:Int)),B.2.1,B.2.2.1,B.2.2.2.1,B.2.2.2.2,B.1.2.2.2.1,B.1.2.2.2.2.1,B.1.2.2.2.2.2.1,B.1.2.2.2.2.2.2.1,B.1.2.2.2.2.2.2.2)))) aC) aC) aC) (kx (HC (o0,o1,T,mc,K,L,I,J,A)).1 (HC (o0,o1,T,mc,K,L,I,J,A)).2):=bS
def aA0:fC Zh HD mX tN:=ia (fy [.d ti,.n,.d ti,.d ti,.d (.slice eU),.d ti,.d ti,.d bK,.d (.pair ti .unit),.d ti,.d .bool,.n,.n,.d (.slice (.pair bK mv)),.d (.slice eh),.d (.slice dS)] λ_=>bS)
def adw:iX @atl AA HD mX tN PD aku:=ji
def LZ(i Sp K L M O I iK cm iZ qo T QH u A B)(kn:K2 R)(kx:K3 R):atl (i,Sp,K,L,M,O,I,iK,cm,iZ,qo,T,QH,u,A,B) kn kx=aA (fj I O) (aA (dB I (((aa M):Nat):Int)) (same (Hw prog 4294968768) (Hw prog 4294968768) (ao (ais ((bC .i64 i (1:Int)),(nth eU M (ae I)),iK,iK,cm,iZ,qo)) λx1=>aA x1.isLeft (ao x1.getLeft? λj=>kx (HE ((T,QH,u,A,B),(j.1.1,j.2,j.1.2))).1 (HE ((T,QH,u,A,B),(j.1.1,j.2,j.1.2))).2) (ao x1.getRight? λJ=>kn (AA (i,Sp,K,L,M,O,(bC .i64 I (1:Int)),J.1,J.2.1,J.2.2.1,J.2.2.2,T,QH,u,A,B))))) aC) (kx (HF ((Sp,K,L,T,QH,u,A,B),(iK,cm,iZ,qo))).1 (HF ((Sp,K,L,T,QH,u,A,B),(iK,cm,iZ,qo))).2):=bS
def bdd(J B K L j u M O T)(k:K1 R):aVe (J,B,K,L,j,u,M,O,T) k=ao (Zg (j,((j:Nat):Int),(0:Int),J,B,K,L,j,u,M,O,T)) λI=>aA I.isLeft (ao I.getLeft? λA=>k (Zj (.inl (A.1,A.2.1,A.2.2.1,A.2.2.2.1,A.2.2.2.2.1,A.2.2.2.2.2.1,A.2.2.2.2.2.2.1,A.2.2.2.2.2.2.2)))) (ao I.getRight? λb7=>k (Zj (.inr (b7.1,b7.2.1,b7.2.2.1,b7.2.2.2.1,b7.2.2.2.2.1,b7.2.2.2.2.2.1,b7.2.2.2.2.2.2.1,b7.2.2.2.2.2.2.2.1,b7.2.2.2.2.2.2.2.2)))):=bS
def aG8:aku:=by
 refine adw (λ(_,_,_,_,l,_,j,_)=>aa l - j.toNat) ?_
 rintro⟨i,nb,n0,i0,l,n,j,o,o1,K,L,M,O,m,T,bs⟩ ⟨⟨I,u⟩,J,hv,rfl,k,hk,rfl⟩;have J:aa l<=1000000:=J;have hk:k<=aa l:=hk;have I:0<=i:=I;have u:i<=1000000:=u;by_cases B:k < aa l
 .have n1:nth eU l k=l[k]:=bG (t:=eU) B;have hd:l.drop k=l[k]::l.drop (k+1):=ak B;have hw:=aLB (d:=(i+1,l[k],o,o,o1,K,L)) (hv _ (aD B));by_cases A:(dG l[k]).any (ajJ o)=bn
  .right;refine⟨HE ((M,O,m,T,bs),(o,aGY l[k],i+1)),?_,λkn kx=> ?_⟩;rotate_left
   .rw[LZ,aN aq,ai,aS aq aq,ai,ab,n1,afH,eS aq aq,hw];simp only[ah,LQ,av A,G7,j7,ai,iQ]
   .simp only[mX,tN,ab,hd,acH,av A];rfl
  .left;refine⟨(i,nb,n0,i0,l,(aa l:Int),((k+1:Nat):Int),o,o1,K,L,M,O,m,T,bs),⟨⟨I,u⟩,J,hv,rfl,k+1,aq,rfl⟩,by simp only[ab];omega,?_,λkn kx=> ?_⟩
   .simp only[mX,tN,ab,hd,acH,au A]
   .rw[LZ,aN aq,ai,aS aq aq,ai,ab,n1,afH,eS aq aq,hw];simp only[ah,LQ,au A,G7,dh,al,cJ];rw[N.iY aq]
 .right;obtain rfl:k=aa l:=aq;refine⟨HF ((nb,n0,i0,M,O,m,T,bs),(o,o1,K,L)),?_,λkn kx=> ?_⟩;rotate_left
  .rw[LZ,aL aq,al]
  .simp only[mX,tN,ab,ay,acH];rfl
def aG7:akr:=by
 refine adu (λ(nb,_,i,_)=>nb - i.toNat) ?_
 rintro⟨nb,n,i,o,o1,M,O,B,I,m,J,bs⟩ ⟨⟨K,L,h3⟩,rfl,k,hk,rfl⟩;have K:nb<=aa bs:=K;have L:nb<=1000000:=L;have hk:k<=nb:=hk;by_cases gF:k < nb
 .have j:k < aa bs:=aq;have n1:nth dS bs k=bs[k]:=bG (t:=dS) j;have u:(bs.take nb).drop k=bs[k]::(bs.take nb).drop (k+1):=by have:=ak (l:=bs.take nb) (i:=k) (by rw[bw];omega);rwa[ku]at this
  obtain⟨⟨T,q2⟩,_⟩:=h3 _ (aD j);have T:bs[k].2.2.1.length<=1000000:=fa T fm;have hw:=aA0 (d:=((k:Int),nb,(nb:Int),(k:Int),bs[k].2.2.1,(bs[k].2.2.1.length:Int),0,o,o1,M,O,B,I,m,J,bs)) ⟨⟨aq,aq⟩,T,q2,rfl,0,az _,rfl⟩;have z1:((0:Int)).toNat=0:=rfl;cases A:acH o bs[k].2.2.1 with
  |some t=>
   right;refine⟨HB (o,aGY t,(k:Int)+1,B,I,m,J,bs),?_,λkn kx=> ?_⟩;rotate_left
   .rw[LY,aN aq,ai,aS aq aq,ai,ab,aO,fM j,ai,fM aq,ai,n1,hw];simp only[ah,tN,z1,aH,A,mX,j7,ai,iQ]
   .simp only[rY,xp,ab,u,G8,A];rfl
  |none=>
   left;refine⟨(nb,(nb:Int),((k+1:Nat):Int),o,o1,M,O,B,I,m,J,bs),⟨⟨K,L,h3⟩,rfl,k+1,aq,rfl⟩,by simp only[ab];omega,?_,λkn kx=> ?_⟩
   .simp only[rY,xp,ab,u,G8,A];rfl
   .rw[LY,aN aq,ai,aS aq aq,ai,ab,aO,fM j,ai,fM aq,ai,n1,hw];simp only[ah,tN,z1,aH,A,mX,dh,al,cJ];rw[N.iY aq]
 .right;obtain rfl:k=nb:=aq;refine⟨HC (o,o1,M,O,B,I,m,J,bs),?_,λkn kx=> ?_⟩;rotate_left
  .rw[LY,aL aq,al]
  .have u:(bs.take k).drop k=[]:=List.drop_eq_nil_of_le (by rw[bw];omega);simp only[rY,xp,ab,u,G8];rfl
def bde:bdc:=by
 rintro⟨o,o1,j,u,nb,A,m,B,bs⟩ h;have h:aAM nb bs:=h;rw[bdd,aAZ (d:=(nb,(nb:Int),0,o,o1,j,u,nb,A,m,B,bs)) ⟨h,rfl,0,az _,rfl⟩];have I:((0:Int)).toNat=0:=rfl;simp only[ah,xp,I,aH,akp];cases G8 o (bs.take nb) 0 with
 |some h=>rfl
 |none=>rfl
def aVf:=Entry.Ug [aC,aC] awA akx aky akp Zj
def atn:ako->Option aG9:=Du aVf awA
def aVh:fC atn akx aky akp:=LN (Pp [.d bK,.d (.pair ti .unit),.d ti,.d .bool,.n,.n,.d (.slice (.pair bK mv)),.d (.slice eh),.d (.slice dS)] λ_=>bS)
def bdf:SG prog:=⟨185,jh,aVf,.of (.aOE (.fn 2 bS bde (iD (.eg aG7 bS) (iD (.eg aG8 bS) trivial)))) (by rfl)⟩
abbrev atI:=bO×Nat×Nat×(List (bO×fh))×(List cF)×(List cP)
def aBN:atI->Prop:=λ(_,nb,_,_,_,bs)=>aAM nb bs
def adP:atI->(di×Int×Bool×Nat×Nat×(List (bO×fh))×(List cF)×(List cP)):=λ(o,nb,n,m,j,bs)=>match G8 o (bs.take nb) 0 with
 |some x=>(x.1,x.2,bn,nb,n,m,j,bs)
 |none=>(eU.zero,0,aZ,nb,n,m,j,bs)
def Bi:Fs prog aBN bt adP:=eP 92 f92 (λ(o,j,u,A,B,I)=>([.ptr (.dx 0) 0 [] 0,.d bK o],[.obj 0 aZ (.pr (.ptr (.dx 1) 0 [] 0) (.pr (.dq (.dx 4) 0 [] 0 0 j) (.d .unit ()))),.obj 0 aZ (.pr (.iI (.dx 2) 0) (.pr (.dq (.dx 3) 0 [] 0 0 u) (.d .unit ()))),.obj 0 aZ (.mp bK mv A),.obj 0 aZ (.vec 243 eh B),.obj 0 aZ (.vec 48 dS I)])) (λx=>⟨.cons (.d eU x.1) (.cons (.d ti x.2.1) (.cons (.d .bool x.2.2.1) (.nil))),[.obj 0 aZ (.pr (.ptr (.dx 1) 0 [] 0) (.pr (.dq (.dx 4) 0 [] 0 0 x.2.2.2.1) (.d .unit ()))),.obj 0 aZ (.pr (.iI (.dx 2) 0) (.pr (.dq (.dx 3) 0 [] 0 0 x.2.2.2.2.1) (.d .unit ()))),.obj 0 aZ (.mp bK mv x.2.2.2.2.2.1),.obj 0 aZ (.vec 243 eh x.2.2.2.2.2.2.1),.obj 0 aZ (.vec 48 dS x.2.2.2.2.2.2.2)],[]⟩) [aC,aw bK] [aWh,bdf] {res:=[aw eU,aC,aC],rf:=jW [(13,(4294968768,[3,4,5,6]))]}
def aHR(o A B K L M)(k:K1 R):Bi.A (o,A,B,K,L,M) k=ao (ak2.call (A,B,K,L,M)) λI=>ao (atn (o,(0,()),0,aZ,I.1,I.2.1,I.2.2.1,I.2.2.2.1,I.2.2.2.2)) λJ=>aA J.isLeft (ao J.getLeft? λj=>k (Bi.out (j.2.1,j.2.2.1,bn,j.2.2.2.1,j.2.2.2.2.1,j.2.2.2.2.2.1,j.2.2.2.2.2.2.1,j.2.2.2.2.2.2.2))) (ao J.getRight? λu=>k (Bi.out ((([]:List gb),(([]:List dW),(0,()))),0,aZ,u.2.2.2.2.1,u.2.2.2.2.2.1,u.2.2.2.2.2.2.1,u.2.2.2.2.2.2.2.1,u.2.2.2.2.2.2.2.2))):=bS
def aHS:Bi.Ok:=by
 rintro⟨o,nb,n,m,j,bs⟩ h;have h:aAM nb bs:=h;rw[aHR,aPR (d:=(nb,n,m,j,bs)) trivial];simp only[ah,atA,aMQ];rw[aVh (d:=(o,(0,()),0,aZ,nb,n,m,j,bs)) h];simp only[ah,akp,adP];cases G8 o (bs.take nb) 0 with
 |some h=>rfl
 |none=>rfl
def aBO:Bi.RS:=rE [.d bK,.n,.n,.d (.slice (.pair bK mv)),.d (.slice eh),.d (.slice dS)] Bi
def aHT:=Bi.eQ aHS
abbrev FR:=Int×Int×Nat×(List (bO×fh))×(List cF)
def xt:FR->AS:=λ(B,I,j,u,A)=>⟨([dK]++aP 6 ((qY B I)++aP 5 [])),(C8 j u A),(ag 14 [])⟩
abbrev agm:=Nat×(List (bO×fh))×(List cF)
def DQ:agm->Exit×AS:=λ(a,b,c)=>(.ret,⟨(aP 4 ([me]++aP 9 [])),(C8 a b c),(ag 14 [])⟩)
abbrev agn:=Nat×(List (bO×fh))×(List cF)
def DR:agn->Exit×AS:=λ(a,b,c)=>(.exit 0,⟨(aP 14 []),(C8 a b c),(ag 14 [])⟩)
abbrev WX:=(agm)⊕(agn)
abbrev akV:=((Nat×(List (bO×fh))×(List cF)))⊕((Nat×(List (bO×fh))×(List cF)))
def L7:WX->Out (Exit×AS):=λx=> .br x.isLeft (.get x.getLeft? λa=> .ok (DQ a)) (.get x.getRight? λb=> .ok (DR b))
def pZ:FR->akV->WX:=λ(B,I,j,u,A) y=>match y with | .inl y=> .inl y | .inr z=> .inr (z)
abbrev aMK:=cP×Nat×(List (bO×fh))×(List cF)
def LS:Nat->aVa->Bool×aVa
 | 0,S=>(bn,S)
 |k+1,S=>if S.1=0 then(aZ,S) else LS k (S.1 - 1,yn S.2.1 (nth eh S.2.2 (S.1 - 1)),S.2.2)
def aG2(n:Nat)(s:List cF):Prop:=n<=aa s/\aa s<=1000000/\∀j∈s,awv j
def bch:∀(k:Nat) (S:aVa),aG2 S.1 S.2.2->aG2 (LS k S).2.1 (LS k S).2.2.2
 | 0,S,h=>h
 |k+1,S,h=>by
  unfold LS;split
  .exact h
  .exact bch k _ ⟨by have:=h.1;show S.1 - 1<=S.2.2.length;omega,h.2⟩
def DP:FR->Prop:=λ(d,i,n,_,s)=>aG2 n s/\∃m k:Nat,d=m/\i=k/\k<=m/\m<=1000
def r9:FR->akV:=λ(d,i,n,a,s)=>if(LS (d - i).toNat (n,a,s)).1=bn then .inr (LS (d - i).toNat (n,a,s)).2 else .inl (LS (d - i).toNat (n,a,s)).2
def aPu:aMK->Prop:=λ(b,n,_,s)=>aa b.2.2.1<=1000/\aG2 n s
def awI:aMK->(Bool×Nat×(List (bO×fh))×(List cF)):=λ(b,n,a,s)=>LS (aa b.2.2.1) (n,a,s)
def akT:=cQ.eg xt DP pZ r9 L7
def Uz:FR->Option WX:=eN akT xt
def Oh:Fs prog aPu bt awI:=eP 91 f91 (λ(b,j,o1,u)=>([.ptr (.dx 0) 0 [] 0,.d dS b],[.obj 0 aZ (.pr (.iI (.dx 1) 0) (.pr (.dq (.dx 2) 0 [] 0 0 j) (.d .unit ()))),.obj 0 aZ (.mp bK mv o1),.obj 0 aZ (.vec 243 eh u)])) (λx=>⟨.d .bool x.1,[.obj 0 aZ (.pr (.iI (.dx 1) 0) (.pr (.dq (.dx 2) 0 [] 0 0 x.2.1) (.d .unit ()))),.obj 0 aZ (.mp bK mv x.2.2.1),.obj 0 aZ (.vec 243 eh x.2.2.2)],[]⟩) [aC,aw dS] [aXe] {loops:=ko [(2,{aX:=[0,7,8]})],outs:=km [(2,{},{aX:=[4]})],eT:=jW [(2,akT)]}
def akU:= @dm prog (gU Oh.G) Oh.an 0 f91 0 _ xt
abbrev agl:=gr prog (gU Oh.G) Oh.an 0 f91 0 xt DP pZ r9 L7
def awJ:fC Uz DP pZ r9:=ia (fy [.d ti,.d ti,.n,.d (.slice (.pair bK mv)),.d (.slice eh)] λ_=>bS)
def Zv:iX @akU xt DP pZ r9 L7 agl:=ji
def Jk(J K u A B)(L:K2 R)(I:K3 R):akU (J,K,u,A,B) L I=aA (fj K J) (ao (HS.call (u,A,B)) λj=>aA (!j.1) (I (DQ (j.2.1,j.2.2.1,j.2.2.2)).1 (DQ (j.2.1,j.2.2.1,j.2.2.2)).2) (L (xt (J,(bC .i64 K (1:Int)),j.2.1,j.2.2.1,j.2.2.2)))) (I (DR (u,A,B)).1 (DR (u,A,B)).2):=bS
def aVT(b j o1 I)(k:K1 R):Oh.A (b,j,o1,I) k=ao (Uz ((aa b.2.2.1:Int),0,j,o1,I)) λB=>aA B.isLeft (ao B.getLeft? λu=>k (Oh.out (aZ,u.1,u.2.1,u.2.2))) (ao B.getRight? λA=>k (Oh.out (bn,A.1,A.2.1,A.2.2))):=bS
def aBr:agl:=by
 refine Zv (λ(d,i,_)=>(d - i).toNat) ?_
 rintro⟨d,i,n,a,s⟩ ⟨A,m,k,rfl,rfl,L,I⟩;have A:aG2 n s:=A;have L:k<=m:=L;have I:m<=1000:=I;by_cases T:k < m
 .obtain⟨j,hj⟩:∃j,m=k+1+j:=⟨m - (k+1),aq⟩;have u:((m:Int) - (k:Int)).toNat=j+1:=aq;have J:((m:Int) - ((k+1:Nat):Int)).toNat=j:=aq;have K:=aQk (d:=(n,a,s)) A;by_cases B:n=0
  .right;refine⟨DQ (n,a,s),?_,λM O=> ?_⟩;rotate_left
   .rw[Jk,aN aq,ai,K];simp only[ah,bt,ajH,av B,eJ,ai]
   .simp only[pZ,r9,u,LS,av B,bu,bq];rfl
  .left;refine⟨((m:Int),((k+1:Nat):Int),n - 1,yn a (nth eh s (n - 1)),s),⟨⟨by have:=A.1;omega,A.2⟩,m,k+1,rfl,rfl,aq,I⟩,by simp only[u,J];omega,?_,λM O=> ?_⟩
   .simp only[pZ,r9,u,J];rw[LS,au B]
   .rw[Jk,aN aq,ai,K];simp only[ah,bt,ajH,au B,bW,al];rw[N.iY aq]
 .right;obtain rfl:k=m:=aq;refine⟨DR (n,a,s),?_,λM O=> ?_⟩;rotate_left
  .rw[Jk,aL aq,al]
  .have u:((k:Int) - (k:Int)).toNat=0:=aq;simp only[pZ,r9,u,LS,bQ];rfl
def aVU:Oh.Ok:=by
 rintro⟨b,n,a,s⟩ ⟨j,u⟩;have j:aa b.2.2.1<=1000:=j;have e:((aa b.2.2.1:Int) - 0).toNat=aa b.2.2.1:=aq;rw[aVT,awJ (d:=((aa b.2.2.1:Int),0,n,a,s)) ⟨u,aa b.2.2.1,0,rfl,rfl,az _,j⟩];simp only[ah,r9,e,awI];cases A:LS (aa b.2.2.1) (n,a,s) with
 |mk r S=>
  cases r with
  |true=>rfl
  |false=>rfl
def aPv:Oh.RS:=rE [.d dS,.n,.d (.slice (.pair bK mv)),.d (.slice eh)] Oh
def aVV:=Oh.eQ aVU 1 ⟨.eg aBr,trivial⟩
abbrev yJ:=(List cP)×Int×Int×Nat×Nat×(List (bO×fh))×(List cF)×(List cP)×Nat×Nat×(List (bO×fh))×(List cF)×(List cP)
def anR(j u A B I):=([fp (.pr (qp 1 0 0) (C7 4 0 0 0 j)),fp (.pr (.iI (.dx 2) 0) (C7 3 0 0 0 u)),fp (.mp bK mv A),fp (.vec 243 eh B),fp (.vec 48 dS I)]:List dR)
def aNY(j u A B I):=([fp (.pr (gB 31 1 0 0) (CA 31 4 0 0 0 j)),fp (.pr (.iI (.new 31 2) 0) (CA 31 3 0 0 0 u)),fp (.mp bK mv A),fp (.vec 243 eh B),fp (.vec 48 dS I)]:List dR)
def K4(j):=(.d (.slice dS) j:aF)
def rb:yJ->AS:=λ(oa,I,J,A,B,T,mc,K,M,O,u,j,L)=>⟨([dK,bB,K4 oa]++aP 4 ([eI 31]++aP 24 ((qY I J)++aP 47 []))),(anR A B T mc K),(bz 31 ([(aNY M O u j L)]++bz 49 []))⟩
abbrev UG:=((List cP)×Nat×Nat×(List (bO×fh))×(List cF)×(List cP)×(List cP))×(Nat×Nat×(List (bO×fh))×(List cF))
def yL:UG->Exit×AS:=λ((a,b,c,e,f,g,h),i,j,k,l)=>(.exit 1,⟨([dK,bB,K4 a]++aP 4 ([eI 31]++aP 73 [])),(anR b c e f g),(bz 31 ([(aNY i j k l h)]++bz 49 []))⟩)
abbrev Mi:=UG
def PT:Mi->Out (Exit×AS):=λx=> .ok (yL x)
def l5:yJ->(Nat×Nat×(List (bO×fh))×(List cF))->Mi:=λ(M,O,T,j,u,J,K,A,XX,XY,L,I,B) y=>((M,j,u,J,K,A,B),y)
abbrev yM:=(List cP)×Int×Int×Nat×Nat×(List (bO×fh))×(List cF)×(List cP)×Nat×Nat×(List (bO×fh))×(List cF)×(List cP)
def re:yM->AS:=λ(I,J,K,O,ze,T,qo,B,M,L,j,u,A)=>⟨([dK]++aP 6 ([eI 31]++aP 55 ([K4 I,aU J,aU K]++aP 15 []))),(anR O ze T qo B),(bz 31 ([(aNY M L j u A)]++bz 49 []))⟩
abbrev UI:=(Nat×Nat×(List (bO×fh))×(List cF)×(List cP))×(Int)
def yO:UI->Exit×AS:=λ((a,b,c,e,f),g)=>(.ret,⟨(aP 6 ([aU g]++aP 74 [])),(anR a b c e f),(ag 81 [])⟩)
abbrev UJ:=(Nat×Nat×(List (bO×fh))×(List cF)×(List cP))×(Nat×Nat×(List (bO×fh))×(List cF)×(List cP))
def yP:UJ->Exit×AS:=λ((a,b,c,d,e),f,g,h,i,j)=>(.exit 3,⟨([dK]++aP 6 ([eI 31]++aP 73 [])),(anR a b c d e),(bz 31 ([(aNY f g h i j)]++bz 49 []))⟩)
abbrev Mj:=(UI)⊕(UJ)
abbrev ZK:=(Int)⊕((Nat×Nat×(List (bO×fh))×(List cF)×(List cP)))
def FW:Mj->Out (Exit×AS):=λx=> .br x.isLeft (.get x.getLeft? λa=> .ok (yO a)) (.get x.getRight? λb=> .ok (yP b))
def l6:yM->ZK->Mj:=λ(M,O,T,u,I,A,B,j,XZ,X0,J,K,L) y=>match y with | .inl y=> .inl ((u,I,A,B,j),y) | .inr z=> .inr (((u,I,A,B,j),z))
abbrev KE:=Int×(List cP)×Nat×Nat×(List (bO×fh))×(List cF)×(List cP)
def W6:KE->SA:=λ(depth,l,j,u,A,B,I)=>([dK,aU depth,K4 l],(anR j u A B I))
abbrev atH:=(Int×Nat×Nat×(List (bO×fh))×(List cF)×(List cP))⊕(Int×Nat×Nat×(List (bO×fh))×(List cF)×(List cP)×Nat×(List (bO×fh))×(List cF)×(List cP))
abbrev Tp:=(Int×Nat×Nat×(List (bO×fh))×(List cF)×(List cP))⊕(Int×Nat×Nat×(List (bO×fh))×(List cF)×(List cP)×Nat×(List (bO×fh))×(List cF)×(List cP))
def ph:Tp->hZ:=λx=>match x with | .inl x=>⟨aU x.1,(anR x.2.1 x.2.2.1 x.2.2.2.1 x.2.2.2.2.1 x.2.2.2.2.2),[]⟩ | .inr x=>⟨aU x.1,[fp (.pr (eI 0) (CA 0 3 0 0 0 x.2.1)),fp (.pr (zi 2 0) (C7 3 0 0 0 x.2.2.1)),fp (DD x.2.2.2.1),fp (Ib x.2.2.2.2.1),Vr x.2.2.2.2.2.1],[auY 0 1 0 0 2 0 0 0 x.2.2.2.2.2.2.1,fp (DD x.2.2.2.2.2.2.2.1),fp (Ib x.2.2.2.2.2.2.2.2.1),Vr x.2.2.2.2.2.2.2.2.2]⟩
def PU:KE->atH->Tp:=λ(depth,l,j,u,A,B,I) y=>match y with | .inl y=> .inl y | .inr y=> .inr y
abbrev bm2:=Nat×Nat×At×List cF×List cP
def Ky(bs:List cP):Nat->Nat×aVa->Nat×aVa
 | 0,X=>X
 |k+1,X=>Ky bs k (X.1 - 1,(LS (nth dS bs (X.1 - 1)).2.2.1.length X.2).2)
def j8:List cP->bm2->Int×bm2
 |[],S=>(0,S)
 |b::l,S=>if(lX b S.1 (S.2.1,S.2.2.1,S.2.2.2.1) S.2.2.2.2).1≠0 then lX b S.1 (S.2.1,S.2.2.1,S.2.2.2.1) S.2.2.2.2 else j8 l (lX b S.1 (S.2.1,S.2.2.1,S.2.2.2.1) S.2.2.2.2).2
def atf:List cP->bm2->Prop
 |[],_=>True
 |b::l,S=>adN (b,S)/\((lX b S.1 (S.2.1,S.2.2.1,S.2.2.2.1) S.2.2.2.2).1=0->atf l (lX b S.1 (S.2.1,S.2.2.1,S.2.2.2.1) S.2.2.2.2).2)
def yK:yJ->Prop:=λ(_,d,i,_,_,_,_,_,nb,n,_,s,bs)=>aG2 n s/\aAM nb bs/\∃m k:Nat,d=m/\i=k/\k<=m/\m<=1000/\m<=k+nb
def qa:yJ->(Nat×Nat×(List (bO×fh))×(List cF)):=λ(_,d,i,_,_,_,_,_,nb,n,a,s,bs)=>Ky bs (d - i).toNat (nb,n,a,s)
def yN:yM->Prop:=λ(l,m,i,_,_,_,_,_,nb,n,a,s,bs)=>aa l<=1000000/\m=(aa l:Int)/\∃k:Nat,k<=aa l/\i=k/\atf (l.drop k) (nb,n,a,s,bs)
def nc:yM->ZK:=λ(l,_,i,_,_,_,_,_,nb,n,a,s,bs)=>if(j8 (l.drop i.toNat) (nb,n,a,s,bs)).1≠0 then .inl (j8 (l.drop i.toNat) (nb,n,a,s,bs)).1 else .inr (j8 (l.drop i.toNat) (nb,n,a,s,bs)).2
def FP(d:Int)(nb n:Nat)(a:At)(s:List cF)(bs:List cP):bm2:=((Ky (bs.take nb) d.toNat (nb,n,jJ a,s.take n)).1,(Ky (bs.take nb) d.toNat (nb,n,jJ a,s.take n)).2.1,(Ky (bs.take nb) d.toNat (nb,n,jJ a,s.take n)).2.2.1,(Ky (bs.take nb) d.toNat (nb,n,jJ a,s.take n)).2.2.2,bs.take nb)
def Co:KE->Prop:=λ(d,l,nb,n,a,s,bs)=>aAM nb bs/\Od 400 n a s/\aa l<=1000000/\((1<=d/\d<=nb/\d < aa l/\d<=6)->atf l (FP d nb n a s bs))
def ky:KE->atH:=λ(d,l,nb,n,a,s,bs)=>if 1<=d/\d<=nb/\d < aa l then if d<=6 then if(j8 l (FP d nb n a s bs)).1≠0 then .inl ((j8 l (FP d nb n a s bs)).1,nb,n,a,s,bs) else .inr (0,(j8 l (FP d nb n a s bs)).2.1,n,a,s,bs,(j8 l (FP d nb n a s bs)).2.2) else .inl (25,nb,n,a,s,bs) else .inl (1,nb,n,a,s,bs)
def KF:qN:=gU (P:=prog) [HN,aPV,aVV,aBF]
def ZG:=cQ.eg rb yK l5 qa PT
def Ol:yJ->Option Mi:=eN ZG rb
def ZI:=cQ.eg re yN l6 nc FW
def On:yM->Option Mj:=eN ZI re
def FX:yu:= {loops:=ko [(7,{aX:=[0,2,7,32,33],sites:=[31]}),(13,{aX:=[0,7,63,64,65],sites:=[31],owns:=[⟨7,[.snd,.fst],31,25⟩]})],outs:=km [(7,{aX:=[0,2,7],sites:=[31]},{aX:=[6]}),(13,{aX:=[0,7],sites:=[31]},{aX:=[6]})],eT:=jW [(7,ZG),(13,ZI)]}
def atE:= @FI prog KF FX 0 f49 _ W6
abbrev aHN:=WS @atE Co PU ky ph
def ZH:= @dm prog KF FX 0 f49 0 _ rb
abbrev UF:=gr prog KF FX 0 f49 0 rb yK l5 qa PT
def ZJ:= @dm prog KF FX 0 f49 1 _ re
abbrev UH:=gr prog KF FX 0 f49 1 re yN l6 nc FW
def ak8:fC Ol yK l5 qa:=ia (fy [.d (.slice dS),.d ti,.d ti,.n,.n,.d (.slice (.pair bK mv)),.d (.slice eh),.d (.slice dS),.n,.n,.d (.slice (.pair bK mv)),.d (.slice eh),.d (.slice dS)] λ_=>bS)
def Uc:aiV @ZH rb yK l5 qa yL UF:=ark
def Om(oa J K B I T mc M j O A u L)(kn:K2 R)(kx:K3 R):ZH (oa,J,K,B,I,T,mc,M,j,O,A,u,L) kn kx=aA (fj K J) (aA (dB (cY .i64 ((j:Nat):Int) (1:Int)) ((j:Nat):Int)) (aA (decide ((0+(ae (cY .i64 ((j:Nat):Int) (1:Int)))) < (aa L))) (aA (decide ((((0+(ae (cY .i64 ((j:Nat):Int) (1:Int))))*36)+0)=(0+((ae (cY .i64 ((j:Nat):Int) (1:Int)))*36)))) (ao (Oh.call ((nth dS L (0+(ae (cY .i64 ((j:Nat):Int) (1:Int))))),O,A,u)) λx1=>aA (inc (cY .i64 ((j:Nat):Int) (1:Int)) ((j:Nat):Int)) (kn (rb (oa,J,(bC .i64 K (1:Int)),B,I,T,mc,M,((ae (cY .i64 ((j:Nat):Int) (1:Int))) - 0),x1.2.1,x1.2.2.1,x1.2.2.2,L))) aC) aC) aC) aC) (kx (yL ((oa,B,I,T,mc,M,L),(j,O,A,u))).1 (yL ((oa,B,I,T,mc,M,L),(j,O,A,u))).2):=bS
def ak9:fC On yN l6 nc:=ia (fy [.d (.slice dS),.d ti,.d ti,.n,.n,.d (.slice (.pair bK mv)),.d (.slice eh),.d (.slice dS),.n,.n,.d (.slice (.pair bK mv)),.d (.slice eh),.d (.slice dS)] λ_=>bS)
def Ud:iX @ZJ re yN l6 nc FW UH:=ji
def CY(J L u M ze O T j XZ X0 A B I)(kn:K2 R)(kx:K3 R):ZJ (J,L,u,M,ze,O,T,j,XZ,X0,A,B,I) kn kx=aA (fj u L) (aA (dB u (((aa J):Nat):Int)) (ao (Oj.call ((nth dS J (ae u)),XZ,X0,A,B,I)) λK=>aA (pb K.1 (0:Int)) (kx (yO ((M,ze,O,T,j),K.1)).1 (yO ((M,ze,O,T,j),K.1)).2) (kn (re (J,L,(bC .i64 u (1:Int)),M,ze,O,T,j,K.2.1,K.2.2.1,K.2.2.2.1,K.2.2.2.2.1,K.2.2.2.2.2)))) aC) (kx (yP ((M,ze,O,T,j),(XZ,X0,A,B,I))).1 (yP ((M,ze,O,T,j),(XZ,X0,A,B,I))).2):=bS
def aHO(depth l u A L M O)(k:K1 R):atE (depth,l,u,A,L,M,O) k=aA (fj depth (1:Int)) (k (ph (.inl ((1:Int),u,A,L,M,O)))) (ao (so.call (u,A,L,M,O)) λj=>aA (qi depth j.2) (k (ph (.inl ((1:Int),j.1.1,j.1.2.1,j.1.2.2.1,j.1.2.2.2.1,j.1.2.2.2.2)))) (aA (arD (((aa l):Nat):Int) depth) (k (ph (.inl ((1:Int),j.1.1,j.1.2.1,j.1.2.2.1,j.1.2.2.2.1,j.1.2.2.2.2)))) (aA (qi depth (6:Int)) (k (ph (.inl ((25:Int),j.1.1,j.1.2.1,j.1.2.2.1,j.1.2.2.2.1,j.1.2.2.2.2)))) (ao (W3.call (j.1.1,j.1.2.1,j.1.2.2.1,j.1.2.2.2.1,j.1.2.2.2.2)) λI=>ao (Ol (l,depth,(0:Int),I.1,I.2.1,I.2.2.1,I.2.2.2.1,I.2.2.2.2.1,I.2.2.2.2.2.1,I.2.2.2.2.2.2.1,I.2.2.2.2.2.2.2.1,I.2.2.2.2.2.2.2.2.1,I.2.2.2.2.2.2.2.2.2)) λB=>ao (On (B.1.1,(((aa B.1.1):Nat):Int),(0:Int),B.1.2.1,B.1.2.2.1,B.1.2.2.2.1,B.1.2.2.2.2.1,B.1.2.2.2.2.2.1,B.2.1,B.2.2.1,B.2.2.2.1,B.2.2.2.2,B.1.2.2.2.2.2.2)) λT=>aA T.isLeft (ao T.getLeft? λK=>k (ph (.inl (K.2,K.1.1,K.1.2.1,K.1.2.2.1,K.1.2.2.2.1,K.1.2.2.2.2)))) (ao T.getRight? λJ=>k (ph (.inr ((0:Int),J.2.1,J.1.2.1,J.1.2.2.1,J.1.2.2.2.1,J.1.2.2.2.2,J.2.2.1,J.2.2.2.1,J.2.2.2.2.1,J.2.2.2.2.2)))))))):=bS
def arn:UF:=by
 refine Uc (λ(_,d,i,_)=>(d - i).toNat) ?_
 rintro⟨l,d,i,K,n0,a0,s0,B,nb,n,a,s,bs⟩ ⟨A,⟨M,O,T⟩,m,k,rfl,rfl,hk,I,hn⟩;have A:aG2 n s:=A;have M:nb<=aa bs:=M;have O:nb<=1000000:=O;have hk:k<=m:=hk;have I:m<=1000:=I;have hn:m<=k+nb:=hn;by_cases gF:k < m
 .left;obtain⟨j,hj⟩:∃j,m=k+1+j:=⟨m - (k+1),aq⟩;obtain⟨p,rfl⟩:∃p,nb=p+1:=⟨nb - 1,aq⟩;have u:((m:Int) - (k:Int)).toNat=j+1:=aq;have L:((m:Int) - ((k+1:Nat):Int)).toNat=j:=aq;have e3:cY .i64 (((p+1:Nat):Nat):Int) (1:Int)=(p:Int):=by rw[eO aq aq];omega
  have J:p < aa bs:=aq;have n1:nth dS bs p=bs[p]:=bG (t:=dS) J;have hu:=aPv (d:=(bs[p],n,a,s)) ⟨(T _ (aD J)).1.1,A⟩;refine⟨(l,(m:Int),((k+1:Nat):Int),K,n0,a0,s0,B,p,(LS bs[p].2.2.1.length (n,a,s)).2.1,(LS bs[p].2.2.1.length (n,a,s)).2.2.1,(LS bs[p].2.2.1.length (n,a,s)).2.2.2,bs),⟨bch _ (n,a,s) A,⟨aq,aq,T⟩,m,k+1,rfl,rfl,aq,I,aq⟩,by simp only[u,L];omega,?_,λkn kx=> ?_⟩
  .simp only[l5,qa,u,L,Ky,lW,n1]
  .rw[Om,aN aq,ai,e3,aS aq aq,ai];simp only[ab,aO,bY,aK J,ai,bE,n1,mW];rw[hu];simp only[ah,bt,awI];rw[l9 aq aq,ai,N.iY aq]
 .right;obtain rfl:k=m:=aq;intro R kn kx;have u:((k:Int) - (k:Int)).toNat=0:=aq;rw[Om,aL aq,al];simp only[l5,qa,u,Ky]
def aro:UH:=by
 refine Ud (λ(l,_,i,_)=>aa l - i.toNat) ?_
 rintro⟨l,m,i,u,n0,I,O,j,nb,n,a,s,bs⟩ ⟨K,rfl,k,hk,rfl,B⟩;have K:aa l<=1000000:=K;have hk:k<=aa l:=hk;by_cases gF:k < aa l
 .have n1:nth dS l k=l[k]:=bG (t:=dS) gF;have J:l.drop k=l[k]::l.drop (k+1):=ak gF;have B:atf (l.drop k) (nb,n,a,s,bs):=B;rw[J]at B;obtain⟨g1,T⟩:=B;have M:=atB (d:=(l[k],nb,n,a,s,bs)) g1;obtain⟨r,L⟩:∃r,lX l[k] nb (n,a,s) bs=r:=⟨_,rfl⟩;simp only[bt,awV,L]at M T;by_cases A:r.1=0
  .left;refine⟨(l,(aa l:Int),((k+1:Nat):Int),u,n0,I,O,j,r.2.1,r.2.2.1,r.2.2.2.1,r.2.2.2.2.1,r.2.2.2.2.2),⟨K,rfl,k+1,aq,rfl,T A⟩,by simp only[ab];omega,?_,λkn kx=> ?_⟩
   .simp only[l6,nc,ab,J];rw[show j8 (l[k]::l.drop (k+1)) (nb,n,a,s,bs)=j8 (l.drop (k+1)) r.2 by rw[j8];simp only[L];rw[au (λe=>e A)]]
   .rw[CY,aN aq,ai,aS aq aq,ai,ab,n1,M];simp only[ah];rw[bU A,al,N.iY aq]
  .right;refine⟨yO ((u,n0,I,O,j),r.1),?_,λkn kx=> ?_⟩;rotate_left
   .rw[CY,aN aq,ai,aS aq aq,ai,ab,n1,M];simp only[ah];rw[dj A,ai]
   .simp only[l6,nc,ab,J];rw[show j8 (l[k]::l.drop (k+1)) (nb,n,a,s,bs)=r by rw[j8];simp only[L];rw[av A],av A];rfl
 .right;obtain rfl:k=aa l:=aq;refine⟨yP ((u,n0,I,O,j),(nb,n,a,s,bs)),?_,λkn kx=> ?_⟩;rotate_left
  .rw[CY,aL aq,al]
  .simp only[l6,nc,ab,ay,j8];rw[au (λe=>e rfl)];rfl
def aHP:aHN:=by
 rintro⟨d,l,nb,n,a,s,bs⟩ ⟨M,O,hl,u⟩;obtain⟨h1,h2,h3⟩:=id M;have T:=Mg (d:=(nb,n,a,s,bs)) trivial;rw[aHO];by_cases I:1<=d;rotate_left
 .rw[aN aq,ai];simp[ky];rw[au (λe=>I e.1)];rfl
 rw[aL aq,al,T];simp[ah,Mf,W5];by_cases J:d<=nb;rotate_left
 .rw[cW aq,ai];simp[ky];rw[au (λe=>J e.2.1)];rfl
 rw[ct aq,al];by_cases K:d < aa l;rotate_left
 .rw[np aq,ai];simp[ky];rw[au (λe=>K e.2.2)];rfl
 rw[jK aq,al];by_cases L:d<=6;rotate_left
 .rw[cW aq,ai];simp[ky];rw[av ⟨I,J,K⟩,au L];rfl
 have u:=u ⟨I,J,K,L⟩;obtain⟨j,_⟩:=O.canon;have e0:=aq;have z1:((0:Int)).toNat=0:=rfl;rw[ct aq,al,aHL (d:=(nb,n,a,s,bs)) ⟨O.mono fm,M⟩];simp[ah,ak5,aBI];rw[ak8 (d:=(l,d,0,nb,n,a,s,bs,nb,n,jJ a,s.take n,bs.take nb)) ⟨⟨j.le,by have:=j.len;omega,j.bc8⟩,⟨by grind,h2,λb hb=>h3 b (fw hb)⟩,d.toNat,0,aq,rfl,az _,aq,aq⟩];simp[ah,l5,qa,e0];obtain⟨B,hB⟩:∃B,Ky (bs.take nb) d.toNat (nb,n,jJ a,s.take n)=B:=⟨_,rfl⟩;have eB:FP d nb n a s bs=(B.1,B.2.1,B.2.2.1,B.2.2.2,bs.take nb):=by grind [FP]
 rw[eB]at u;rw[hB,ak9 (d:=(l,(aa l:Int),0,nb,n,a,s,bs,B.1,B.2.1,B.2.2.1,B.2.2.2,bs.take nb)) ⟨hl,rfl,0,az _,rfl,u⟩]
 have key:ky (d,l,nb,n,a,s,bs)=if(j8 l (B.1,B.2.1,B.2.2.1,B.2.2.2,bs.take nb)).1≠0 then .inl ((j8 l (B.1,B.2.1,B.2.2.1,B.2.2.2,bs.take nb)).1,nb,n,a,s,bs)
   else .inr (0,(j8 l (B.1,B.2.1,B.2.2.1,B.2.2.2,bs.take nb)).2.1,n,a,s,bs,(j8 l (B.1,B.2.1,B.2.2.1,B.2.2.2,bs.take nb)).2.2):=by
  grind [ky]
 rw[key];simp only[ah,nc,z1,aH];by_cases A:(j8 l (B.1,B.2.1,B.2.2.1,B.2.2.2,bs.take nb)).1=0
 .rw[au (λe=>e A),au (λe=>e A)];rfl
 .rw[av A,av A];rfl
def atG:=Entry.Ug [aC,aw ti,aw (.slice dS)] W6 Co PU ky ph
def jS:KE->Option Tp:=Du atG W6
def agw:fC jS Co PU ky:=LN (Pp [.d ti,.d (.slice dS),.n,.n,.d (.slice (.pair bK mv)),.d (.slice eh),.d (.slice dS)] λ_=>bS)
def aHQ:SG prog:=⟨49,jh,atG,.of (.aOE (.fn 2 bS aHP (iD (.eg arn bS) (iD (.eg aro bS) trivial)))) (by rfl)⟩
def aki:List Int:=ag 32 0
def LW(K j u:Int):Lk:=([([fH K],(j,(u,(0,()))))],())
def AW(K j u:Int):At:=[yR 0 ((100:Int),(LW K j u,()))]
def TW(K:Int):di:=([((aki,((0:Int),())),(((0:Int),(([]:List Sg),((0:Int),()))),()))],([((90:Int),(LW K 0 0,()))],((0:Int),())))
def UW(K:Int):di:=ajC (TW K) (ae 0) (asH (TW K) 0 [K] 0)
def BW(K h:Int):At:=[((mw (TW K),((0:Int),())),(((90:Int),(LW K 0 0,())),(h,())))]
def KW(K:Int):Prop:=0 < K/\K < 2305843009213688669
def bnB(K:Int){j u:Int}(A:0<=j/\j<=1048576)(B:0<=u/\u<=1048576):lN (LW K j u)=bn:=by have e:lN (LW K j u)=((Al ([fH K],j,u,0,()) && bn) && bn):=rfl;rw[e,bdD _ _ _ (fG rfl)];simp only[gX,List.all_nil,Qi,XE,aK A,aK B,Bool.and_self]
def bo9(K j u:Int):akk (LW K j u):=λb A=>by rw[bM.1 (show b∈ [([fH K],(j,(u,(0,()))))] from A)];exact⟨aIQ (aMC K) aQ3,u0⟩
def bcV:Sm aki:=⟨cT,λx j=>by rw[(pS.1 (show x∈ag 32 (0:Int) from j)).2];exact⟨fm,fm⟩⟩
def bjP(K:Int):ig (TW K)=bn:=by
 have u:C4 0 (TW K).2.1=(((wE 0 && (wE 90 && bn)) && lN (LW K 0 0)) && bn):=rfl;have j:KP [] (TW K).1=bn:=by show KP [] [((aki,((0:Int),())),(((0:Int),(([]:List Sg),((0:Int),()))),()))]=bn;rw[KP,KP];rfl
 unfold ig;rw[j,u,bnB K ⟨fm,fm⟩ ⟨fm,fm⟩];rfl
def bqT(K:Int):mE (TW K):=by
 refine⟨⟨λo j=> ?_,by show 1<=_;decide,by show 1<=_;decide⟩,λx A=> ?_,by show(0:Int)<=_;decide⟩
 .rw[bM.1 (show o∈ [((90:Int),(LW K 0 0,()))] from j)];exact⟨bo9 K 0 0,by show 1<=_;decide⟩
 .rw[bM.1 (show x∈ [((aki,((0:Int),())),(((0:Int),(([]:List Sg),((0:Int),()))),()))] from A)];exact⟨bcV,⟨λs u=>(by cases u),u0⟩,az _⟩
def bmG{K:Int}(j:KW K):NK (TW K) 0 0 [K]=bn:=by unfold NK;rw[bjP,aK ⟨fm,by show(0:Int) < ((1:Nat):Int);decide,fm,fm,fG rfl⟩];simp only[iG,List.any_nil,WU];have:=j.1;have:=j.2;rw[aV aq];rfl
def FM{K:Int}(j:KW K):ig (UW K)=bn/\mE (UW K)/\mw (UW K)=mw (TW K)/\dG (UW K)=dG (TW K)/\gI (UW K)=gI (TW K):=bbA (bqT K) (bmG j) u0
theorem bnJ{K:Int}(j:KW K):dG (UW K)=[(aki,((0:Int),()))]:=by rw[(FM j).2.2.2.1];unfold dG;rw[av (bjP K)];rfl
def bpa{K:Int}(j:KW K):gI (UW K)=[(mw (TW K),((0:Int),()))]:=by rw[(FM j).2.2.2.2];unfold gI;rw[av (bjP K)];rfl
def brZ(K:Int):(UW K).1=[((aki,((0:Int),())),(((((0:Nat):Int),([K].map (λk=>oW k (mw (TW K))),((0:Int),())))),()))]:=rfl
def bpf{K:Int}(I:KW K)(j u:Int)(A:0<=j/\j<=1048576)(B:0<=u/\u<=1048576)(m:List Int)(h a:Int):
  sR (LW K j u) (((0:Nat):Int),([K].map (λk=>oW k m),((0:Int),()))) m h a=if h < j\/a < u then 11 else 0:=
 (bfN (l:=LW K j u) (i:=0) (b:=([K].map fH,j,u,0,())) (bnB K A B) (by show 0 < 1;decide) rfl _ _ _ _ _).trans (ayF [K] (bmx I) j u 0 0 m h a (.inl rfl))
def gW(K j u:Int):bT bK (aki,((0:Int),())) (AW K j u)=aw (((100:Int),(LW K j u,())),((0:Int),())):=by unfold AW yR;rw[fU];exact av ((pc _ _).2 rfl)
def nW(K j u:Int)(m:List Int)(A:¬m=aki):bT bK (m,((0:Int),())) (AW K j u)=aC:=by unfold AW yR;rw[fU,au,uh];intro e;have:=(pc _ _).1 e;exact A (bA (λo:bO=>o.1) this)
def bmq{h:Int}{m:List Int}{a:At}{x:gb}{c:fh}(j:bT bK x.1 a=aw c):ua h m a [x] 0=if sR c.1.2.1 x.2.1 m h (h - c.2.1)≠0 then .inl (sR c.1.2.1 x.2.1 m h (h - c.2.1)) else .inr (0+c.1.1):=by simp only[ua,j]
def bqZ{K:Int}(J:KW K)(M:¬mw (TW K)=aki){j u h:Int}(ha:0<=j/\j<=1048576)(hd:0<=u/\u<=1048576)(h1:1<=h)(h2:h<=1048576):dw (UW K) h (AW K j u)=if h < j\/h < u then(0,11) else(10,0):=by
 have I:=bpa J;have B:=brZ K;have L:=(FM J).2.2.1;have T:=bpf J j u ha hd;generalize mw (TW K)=m at M I B L;unfold dw;rw[av ⟨(FM J).1,h1,h2⟩,B,L];have O:h - ((0:Int))=h:=aq;have e:ua h m (AW K j u) [((aki,((0:Int),())),(((((0:Nat):Int),([K].map (λk=>oW k m),((0:Int),())))),()))] 0=if h < j\/h < u then .inl 11 else .inr 100:=by
  refine(bmq (gW K j u)).trans ?_
  show(if sR (LW K j u) (((0:Nat):Int),([K].map (λk=>oW k m),((0:Int),()))) m h (h - 0)≠0 then(.inl (sR (LW K j u) (((0:Nat):Int),([K].map (λk=>oW k m),((0:Int),()))) m h (h - 0)):Int⊕Int) else .inr (0+100))=_;rw[O,T];by_cases A:h < j\/h < u
  .rw[av A,av A,av fm]
  .rw[au A,au A,au (λe=>e rfl)];rfl
 rw[e,I];by_cases A:h < j\/h < u
 .rw[av A,av A]
 .rw[au A,au A];have n1:([(m,((0:Int),()))]:List bO).any (mD (AW K j u))=aZ:=by simp only[iG,List.any_nil,mD,nW K j u m M,wB,Bool.or_false]
  simp only[n1,bu,bq];rfl
def bqW{K:Int}(A:KW K)(j u h:Int):fx (UW K) h (AW K j u)=BW K h:=by
 unfold fx BW;rw[bnJ A,bpa A];generalize mw (TW K)=m;have e:Cq [(aki,((0:Int),()))] (AW K j u)=[]:=by exact aCn
 rw[e];rfl
def bqP{K:Int}(A:KW K)(j u:Int):stepOf (UW K) (AW K j u)=([((aki,((0:Int),())),((((100:Int),(LW K j u,())),((0:Int),())),()))],([(mw (TW K),((0:Int),()))],())):=by unfold stepOf;rw[bnJ A,bpa A];rw[aQK (gW K j u)]
def bsh{K:Int}(A:KW K)(j u h:Int):yn (BW K h) (stepOf (UW K) (AW K j u))=AW K j u:=by
 rw[bqP A];unfold yn BW;generalize mw (TW K)=m;have e:Cq [(m,((0:Int),()))] [((m,((0:Int),())),(((90:Int),(LW K 0 0,())),(h,())))]=[]:=by exact aCn
 rw[e];rfl
def bpY(K:Int){j u:Int}(A:0<=j/\j<=1048576)(B:0<=u/\u<=1048576):Od 0 0 (AW K j u) []:=by refine⟨⟨db.2 ⟨λh=>(by cases h),gO⟩,λp I=> ?_⟩,ax _,ax _,λJ h=>(by cases h),by show(100+0:Int)<=_;decide,by show 1<=_;decide⟩;rw[bM.1 (show p∈ [yR 0 ((100:Int),(LW K j u,()))] from I)];exact⟨bcV,bnB K A B,bo9 K j u,by show(0:Int)<=100;decide,by show(100:Int)<=_;decide,dT 0,by show(0:Int)<=_;decide⟩
def bpd(K:Int){j u:Int}(B:0<=j/\j<=1048576)(I:0<=u/\u<=1048576):Mh [((100:Int),(LW K j u,()))]=aw (.inr (AW K j u,[],[])):=by
 have e:Gq [((100:Int),(LW K j u,()))]=aw (AW K j u):=by
  unfold Gq;rw[av (fG rfl)];have A:sU 0 ((100:Int),(LW K j u,()))=bn:=by unfold sU;rw[bnB K B I];rfl
  rw[EC,A];rfl
 rw[atD (d:=[((100:Int),(LW K j u,()))]) (λo J=>by
  rw[bM.1 J];exact⟨bo9 K j u,by show 1<=_;decide,by show(100:Int)<=_;decide⟩)]
 simp only[Tm,e];rfl
def bmF{K:Int}(j:KW K):Av.call (TW K,0,0,[K],0)=aw (UW K,0):=by rw[aT8 (d:=(TW K,0,0,[K],0)) ⟨bqT K,λx u=>by rw[bM.1 u];have:=j.1;have:=j.2;exact⟨aq,aq⟩,by show 1<=1000000000;decide⟩];simp only[bt,aAi,bbz,bmG j,bQ];rfl
def Fv(h:Int)(p:Bs)(l:List di)(fill:Int):cP:=(h,(p,(l,(fill,([],())))))
def awF{h:Int}{p:Bs}{l:List di}{fill:Int}(K:h<=1048576)(I:aa p=32)(J:0<=fill/\fill<=10)(L:aa l<=1)(u:∀t∈l,mE t/\ig t=bn):Pg (Fv h p l fill)/\aDX (Fv h p l fill)=Fv h p l fill:=by have A:aG0 (Fv h p l fill):=⟨⟨by show aa l<=_;omega,λt j=>(u t j).1⟩,⟨by show h<=_;omega,I,by show fill<=_;omega⟩,az _,λo B=>(by cases B)⟩;exact⟨⟨A,by show aa l<=_;omega,λt j=>fa (iW (u t j).2).1.2.1 fm⟩,ayK A λt j=>(u t j).2⟩
def blh{x:bO×fh}:jJ [x]=[x]:=List.perm_singleton.1 (Cn [x])
def bsl{K:Int}(j:KW K):Hl (UW K)=36:=by unfold Hl;rw[av (FM j).1];rfl
def bnY(h:Int)(p:Bs)(l:List di)(fill:Int)(t:di):akH (Fv h p l fill) t=aZ:=by unfold akH;rw[List.any_eq_false];intro x _ e;cases e
def bmy{h:Int}{p:Bs}{fill:Int}{a:At}(u:1<=h)(A:h<=1048576)(I:0<=fill/\fill<=10):nC (Fv h p [] fill) a=(0,0):=by
 have j:Dy h fill=bn:=by unfold Dy;exact aK ⟨u,A,aq,aq⟩
 have B:aVK (Fv h p [] fill)=fill:=rfl;unfold nC;rw[av (show Dy (Fv h p [] fill).1 (Fv h p [] fill).2.2.2.1=bn from j),B,au aq];rfl
def bmz{K:Int}(I:KW K){h:Int}{p:Bs}{fill:Int}{x:bO×fh}(A:1<=h)(B:h<=1048576)(L:0<=fill/\fill<=10):nC (Fv h p [UW K] fill) [x]=dw (UW K) h [x]:=by
 have u:Dy h fill=bn:=by unfold Dy;exact aK ⟨A,B,aq,aq⟩
 have J:aVK (Fv h p [UW K] fill)=fill+Hl (UW K):=rfl;unfold nC;rw[av (show Dy (Fv h p [UW K] fill).1 (Fv h p [UW K] fill).2.2.2.1=bn from u),J,bsl I,au aq];show(S8 (Fv h p [UW K] fill) h [UW K] [x]).2=_;unfold S8;rw[blh,uU,bnY];simp only[bu,bq];by_cases j:(dw (UW K) h [x]).2=0
 .rw[au (λe=>e j),uU];exact Prod.ext (by show(0:Int)+_=_;omega) j.symm
 .rw[av j];exact Prod.ext (aHM j).symm rfl
def bdb{h:Int}{p:Bs}{fill:Int}{nb:Nat}{S:aVa}{bs:List cP}(I:p=oz nb bs)(A:h=(nb:Int)+1)(j:h<=1048576)(B:aa p=32)(u:0<=fill/\fill<=10):lX (Fv h p [] fill) nb S bs=(0,nb+1,S.1,S.2.1,S.2.2,bs.take nb++ [Fv h p [] fill]):=by have e:=(awF (l:=[]) j B u fm (λt J=>(by cases J))).2;unfold lX;rw[av (show(Fv h p [] fill).2.1=oz nb bs/\(Fv h p [] fill).1=(nb:Int)+1 from⟨I,A⟩),bmy aq j u,av rfl,e];rfl
def bnU{K:Int}(u:KW K){h:Int}{p:Bs}{fill:Int}{nb n:Nat}{x:bO×fh}{s:List cF}{bs:List cP}(M:p=oz nb bs)(J:h=(nb:Int)+1)(A:h<=1048576)(L:aa p=32)(B:0<=fill/\fill<=10):lX (Fv h p [UW K] fill) nb (n,[x],s) bs=
  if(dw (UW K) h [x]).2=0 then(0,nb+1,n+1,fx (UW K) h [x],s.take n++ [stepOf (UW K) [x]],bs.take nb++ [Fv h p [UW K] fill]) else((dw (UW K) h [x]).2,nb,n,[x],s,bs):=by
 have e:=(awF (l:=[UW K]) A L B (by show 1<=1;decide) (λt O=>by rw[bM.1 O];exact⟨(FM u).2.1,(FM u).1⟩)).2;unfold lX;rw[av (show(Fv h p [UW K] fill).2.1=oz nb bs/\(Fv h p [UW K] fill).1=(nb:Int)+1 from⟨M,J⟩),bmz u aq A B,e];by_cases j:(dw (UW K) h [x]).2=0
 .rw[av j,av j];have I:aPA (Fv h p [UW K] fill) (n,[x],s)=WT h (n,[x],s) (UW K):=rfl;rw[I];unfold WT;rw[au (λe=>e j)]
 .rw[au j,au j]
def bdP{n nb:Nat}{a:At}{s:List cF}{bs:List cP}(h:aAM nb bs):UK.call (nb,n,a,s,bs)=aw ((nb,n,a,s,bs),oz nb bs):=atK (d:=(nb,n,a,s,bs)) h
def ak6{n nb:Nat}{a:At}{s:List cF}{bs:List cP}:so.call (nb,n,a,s,bs)=aw ((nb,n,a,s,bs),(nb:Int)):=Mg (d:=(nb,n,a,s,bs)) trivial
theorem HI(b:cP):aa (aHo b)=32:=(ap1 _ _).1
def Hc(nb:Nat)(bs:List cP):aa (oz nb bs)=32:=by
 unfold oz;split
 .exact cT
 .exact HI _
def bdK{nb:Nat}{bs:List cP}{b:cP}(h:aAM nb bs)(A:nb<=1000)(j:aG0 b):aAM (nb+1) (bs.take nb++ [b]):=by
 have u:nb<=aa bs:=h.1;refine⟨by rw[aj,bw];show nb+1<=min nb (aa bs)+1;omega,aq,λx hx=> ?_⟩;rcases bZ.1 hx with hx | hx
 .exact h.2.2 x (fw hx)
 .rw[bM.1 hx];exact j
def bqR{K:Int}(j:KW K){h:Int}{p:Bs}{fill:Int}(A:h<=1048576)(B:aa p=32)(u:0<=fill/\fill<=10):Pg (Fv h p [UW K] fill):=(awF A B u (by show 1<=1;decide) (λt I=>by rw[bM.1 I];exact⟨(FM j).2.1,(FM j).1⟩)).1
def bn3{h:Int}{p:Bs}{fill:Int}(u:h<=1048576)(A:aa p=32)(j:0<=fill/\fill<=10):Pg (Fv h p [] fill):=(awF u A j fm (λt B=>(by cases B))).1
def bsd{K:Int}(A:KW K)(j u:Int):awv (stepOf (UW K) (AW K j u)):=by rw[bqP A];exact⟨by show 1<=_;decide,by show 1<=_;decide⟩
def br1:¬mw (TW 7)=aki:=bpc
def bhA:(0:Int)<=0/\(0:Int)<=1048576:=⟨fm,fm⟩
def bc2:(0:Int)<=0/\(0:Int)<=10:=⟨fm,fm⟩
def sW(K:Int):cF:=stepOf (UW K) (AW K 0 0)
def bn0{b c:cP}(j:aG0 b)(u:aG0 c):aAM 2 [b,c]:=⟨ax _,fm,λx hx=>by
 rcases cr.1 hx with rfl | hx
 .exact j
 .rw[bM.1 hx];exact u⟩
def bqY{K:Int}(A:KW K)(B:¬mw (TW K)=aki)(h:Int)(j:1<=h)(u:h<=1048576):dw (UW K) h (AW K 0 0)=(10,0):=by rw[bqZ A B bhA bhA j u,au aq]
def bpX{K:Int}(j:KW K)(J:¬mw (TW K)=aki){h:Int}{p:Bs}{nb n:Nat}{s:List cF}{bs:List cP}(I:p=oz nb bs)(A:h=(nb:Int)+1)(u:h<=1048576)(B:aa p=32):lX (Fv h p [UW K] 0) nb (n,AW K 0 0,s) bs=(0,nb+1,n+1,BW K h,s.take n++ [sW K],bs.take nb++ [Fv h p [UW K] 0]):=by have e:=bnU j (h:=h) (p:=p) (fill:=0) (nb:=nb) (n:=n) (x:=yR 0 ((100:Int),(LW K 0 0,()))) (s:=s) (bs:=bs) I A u B bc2;rw[show([yR 0 ((100:Int),(LW K 0 0,()))]:At)=AW K 0 0 from rfl,bqY j J h aq u,av rfl,bqW j]at e;exact e
def bsa{K:Int}(j:KW K):Od 400 0 (AW K 0 0) [sW K]:=by have h:=bpY K bhA bhA;exact⟨h.wK,az _,by show 1<=_;decide,λA u=>by rw[bM.1 u];exact bsd j 0 0,h.sum,by show 1<=_;decide⟩
section
abbrev aAU:=List (di×Int)
def iV:At->aAU->At
 |a,[]=>a
 |a,x::l=>iV (fx x.1 x.2 a) l
def mu:At->aAU->List cF
 |_,[]=> []
 |a,x::l=>stepOf x.1 a::mu (fx x.1 x.2 a) l
def uW:At->aAU->Prop
 |_,[]=>True
 |a,x::l=>(dw x.1 x.2 a).2=0/\mE x.1/\uW (fx x.1 x.2 a) l
def FN:∀(l j:aAU) (a:At),iV a (l++j)=iV (iV a l) j
 |[],_,_=>rfl
 |x::l,j,a=>FN l j (fx x.1 x.2 a)
theorem G9:∀(l j:aAU) (a:At),mu a (l++j)=mu a l++mu (iV a l) j
 |[],_,_=>rfl
 |x::l,j,a=>by show stepOf x.1 a::mu (fx x.1 x.2 a) (l++j)=_;rw[G9 l j];rfl
def YE:∀(l:aAU) (a:At),aa (mu a l)=aa l
 |[],_=>rfl
 |x::l,a=>bA (· +1) (YE l (fx x.1 x.2 a))
def FZ:∀(l j:aAU) (a:At),uW a (l++j)↔uW a l/\uW (iV a l) j
 |[],_,_=>⟨λh=>⟨trivial,h⟩,λh=>h.2⟩
 |x::l,j,a=>by have u:=FZ l j (fx x.1 x.2 a);grind [uW,iV]
def Tr:∀ {l:aAU} {a:At},uW a l->∀x∈l,ig x.1=bn/\mE x.1
 |[],_,_,_,j=>(by cases j)
 |x::l,a,h,y,hy=>by
  rcases cr.1 hy with rfl | hy
  .exact⟨(Tl h.1).1,h.2.1⟩
  .exact Tr h.2.2 y hy
def alh:∀ {l:aAU} {a:At},uW a l->∀u∈mu a l,awv u
 |[],_,_,_,j=>(by cases j)
 |x::l,a,h,y,hy=>by
  rcases cr.1 hy with rfl | hy
  .exact aF8 (HO h.1)
  .exact alh h.2.2 y hy
def ali:∀(l:aAU) {n:Nat} {a:At} {s:List cF},aa s=n->Od n n a s->uW a l->Od (n+aa l) (n+aa l) (iV a l) (s++mu a l)
 |[],n,a,s,_,j,_=>by show Od n n a (s++ []);rw[bm];exact j
 |x::l,n,a,s,hs,j,hc=>by have u:=j.app (HO hc.1) hc.2.1;rw[bp aq]at u;have:=ali l (s:=s++ [stepOf x.1 a]) (by rw[aj,hs];rfl) u hc.2.2;rw[aR,show n+1+aa l=n+(aa l+1) by omega]at this;exact this
def rF.gone:∀(l:List bO) {a b:At},rF a b->(dY a).Nodup->(dY b).Nodup->Ar a l=Ar b l
 |[],_,_,_,_,_=>rfl
 |o::l,a,b,e,ha,hb=>by rw[Ar,Ar,e o,rF.gone l (a:=fV bK o a) (b:=fV bK o b) (λx=>by rw[axQ x o ha,axQ x o hb,e x]) (qg ha) (qg hb)]
def rF.step{a b:At}(e:rF a b)(j:(dY a).Nodup)(u:(dY b).Nodup)(t:di):stepOf t a=stepOf t b:=by unfold stepOf;rw[e.gone _ j u]
def tP:∀(l:aAU) {a:At},(dY a).Nodup->(dY (iV a l)).Nodup
 |[],_,h=>h
 |_::l,_,h=>tP l (fT h)
def rF.iV:∀(l:aAU) {a b:At},rF a b->(dY a).Nodup->(dY b).Nodup->rF (iV a l) (Ab.iV b l)
 |[],_,_,e,_,_=>e
 |_::l,_,_,e,ha,hb=>rF.iV l (e.apply ha hb _ _) (fT ha) (fT hb)
def rF.mu:∀(l:aAU) {a b:At},rF a b->(dY a).Nodup->(dY b).Nodup->mu a l=Ab.mu b l
 |[],_,_,_,_,_=>rfl
 |x::l,a,b,e,ha,hb=>by show stepOf x.1 a::Ab.mu (fx x.1 x.2 a) l=stepOf x.1 b::Ab.mu (fx x.1 x.2 b) l;rw[e.step ha hb,rF.mu l (e.apply ha hb _ _) (fT ha) (fT hb)]
def rF.aH0:∀(l:aAU) {a b:At},rF a b->(dY a).Nodup->(dY b).Nodup->uW a l->uW b l
 |[],_,_,_,_,_,_=>trivial
 |x::l,a,b,e,ha,hb,h=>⟨by rw[<-e.check];exact h.1,h.2.1,rF.aH0 l (e.apply ha hb _ _) (fT ha) (fT hb) h.2.2⟩
def aTK{s q:List cF}{u:cF}{n:Nat}(J:n<=aa s)(h:s.take n=q++ [u]):n=aa q+1/\nth eh s (n - 1)=u/\s.take (n - 1)=q:=by
 have I:n=aa q+1:=by have:=bA aa h;rw[bw,aj]at this;simp only[aB,bl]at this;omega
 subst I;have j:aa q < aa s:=aq;have e:s.take (aa q+1)=s.take (aa q)++ [s[aa q]]:=by rw[List.take_add_one,cS j];rfl
 rw[e]at h;obtain⟨A,B⟩:=List.append_inj' h rfl;refine⟨rfl,?_,A⟩;rw[lW,bG (t:=eh) j];exact(List.cons.inj B).1
def aqO:∀(k:Nat) (l:aAU) {j a:At} {n:Nat} {s p:List cF},aa l=k->uW j l->(dY j).Nodup->(dY a).Nodup->rF a (iV j l)->n<=aa s->s.take n=p++mu j l->
  ∃A,LS k (n,a,s)=(bn,n - k,A,s)/\rF A j/\(dY A).Nodup/\s.take (n - k)=p/\k<=n
 | 0,l,j,a,n,s,p,L,_,_,J,K,_,I=>by obtain rfl:=bV L;exact⟨a,rfl,K,J,by rw[show mu j []=[] from rfl,bm]at I;exact I,az _⟩
 |k+1,l,j,a,n,s,p,L,hc,h0,J,K,hn,I=>by
  have jV:l≠ []:=λe=>by rw[e]at L;cases L
  have O:=List.dropLast_concat_getLast jV;generalize l.getLast jV=x at O;generalize T:l.dropLast=u at O;have hk:aa u=k:=by rw[<-T,List.length_dropLast];omega
  subst O;obtain⟨c1,c2⟩:=(FZ u [x] j).1 hc;rw[G9,<-aR]at I;obtain⟨e1,e2,e3⟩:=aTK hn I;rw[FN]at K;have B:=tP u h0;have e4:rF (yn a (stepOf x.1 (iV j u))) (iV j u):=(K.bmP J (fT B) _).trans (aqP (HO c2.1) B);obtain⟨A,f1,f2,f3,f4,f5⟩:=aqO k u (a:=yn a (stepOf x.1 (iV j u))) (n:=n - 1) (s:=s) (p:=p) hk c1 h0 (Ja J _) e4 aq e3;refine⟨A,?_,f2,f3,by rw[show n - (k+1)=n - 1 - k by omega];exact f4,aq⟩;have M:¬n=0:=aq;rw[LS,au (show ¬(n,a,s).1=0 from M)];show LS k (n - 1,yn a (nth eh s (n - 1)),s)=_;rw[e2,f1,show n - 1 - k=n - (k+1) by omega]
def aAm(b:cP):aAU:=b.2.2.1.map λt=>(t,b.1)
def mF(bs:List cP):aAU:=bs.flatMap aAm
def Fy(l j:List cP):mF (l++j)=mF l++mF j:=List.flatMap_append
def Fz(b:cP):mF [b]=aAm b:=bm _
def aGH(b:cP)(h:Int):∀(l:List di) (k j:Int) (a:At) (x:Int×Int×Int),uU b h l k j a= .inl x->x.2.2≠0
 |[],_,_,_,_,e=>by grind [uU]
 |t::l,k,j,a,x,e=>by
  rw[uU]at e;split at e
  .grind
  .split at e
   .grind
   .exact aGH b h l _ _ _ x e
def aqZ(b:cP)(h:Int):∀(l:List di) (k j:Int) (a:At) (f:Int),(∀t∈l,mE t)->uU b h l k j a= .inr f->uW a (l.map λt=>(t,h))
 |[],_,_,_,_,_,_=>trivial
 |t::l,k,j,a,f,hv,e=>by
  rw[uU]at e;split at e
  .cases e
  .split at e
   .cases e
   .rename_i u;exact⟨Decidable.not_not.1 u,hv t aY,aqZ b h l _ _ _ f (λy A=>hv y (aT _ A)) e⟩
def adM{a:At}(j:(dY a).Nodup):rF (jJ a) a/\(dY (jJ a)).Nodup:=by have u:=Cn a;exact⟨aCw j u,(u.map _).nodup_iff.2 j⟩
def Yb{b:cP}{a:At}(B:Pg b)(j:(dY a).Nodup)(e:(nC b a).2=0):uW a (aAm b):=by
 obtain⟨u,A⟩:=adM j;unfold nC at e;split at e
 .split at e
  .cases e
  .have e:(S8 b b.1 b.2.2.1 a).2.2=0:=e;unfold S8 at e;split at e
   .rename_i x J;exact absurd e (aGH _ _ _ _ _ _ _ J)
   .rename_i f I;exact u.aH0 _ A j (aqZ _ _ _ _ _ _ _ B.1.1.2 I)
 .cases e
def adH(h:Int):∀(l:List di) {n:Nat} {a:At} {s:List cF},uW a (l.map λt=>(t,h))->n<=aa s->
  ∃j,l.foldl (WT h) (n,a,s)=(n+aa l,iV a (l.map λt=>(t,h)),j)/\j.take (n+aa l)=s.take n++mu a (l.map λt=>(t,h))/\n+aa l<=aa j/\(aa j<=aa s\/aa j<=n+aa l)/\∀u∈j,u∈s\/u∈mu a (l.map λt=>(t,h))
 |[],n,a,s,_,J=>⟨s,rfl,(bm _).symm,J,.inl (ax _),λu h=> .inl h⟩
 |t::l,n,a,s,hc,J=>by
  obtain⟨K,c2,L⟩:=hc;have e:WT h (n,a,s) t=(n+1,fx t h a,s.take n++ [stepOf t a]):=au (λx=>x K);have hl:aa (s.take n++ [stepOf t a])=n+1:=by rw[aj,bw];simp only[aB,bl];omega
  obtain⟨j,A,B,I,M,O⟩:=adH h l (n:=n+1) (a:=fx t h a) (s:=s.take n++ [stepOf t a]) L aq;have T:n+1+aa l=n+aa (t::l):=by rw[aB];omega
  rw[T]at A B I M;refine⟨j,?_,?_,I,.inr aq,λu u7=> ?_⟩
  .rw[bN,e];exact A
  .rw[B,bp aq,aR];rfl
  .rcases O u u7 with h1 | h1
   .rcases bZ.1 h1 with h2 | h2
    .exact .inl (fw h2)
    .exact .inr (by rw[bM.1 h2];exact aY)
   .exact .inr (aT _ h1)
structure tA(A0:At)(m nb n:Nat)(a:At)(s:List cF)(bs:List cP):Prop where
 bhL:Od 0 0 A0 []
 ch:aAM nb bs
 aRx:(dY a).Nodup
 bd8:uW A0 (mF (bs.take nb))
 eqv:rF a (iV A0 (mF (bs.take nb)))
 bc8:s.take n=mu A0 (mF (bs.take nb))
 le:n<=aa s
 len:aa s<=m
 bmL:∀st∈s,awv st
section
variable {A0:At} {m nb n:Nat} {a:At} {s:List cF} {bs:List cP}
def tA.bpz(h:tA A0 m nb n a s bs){m':Nat}(A:m<=m'):Od m' n a s:=by
 have j:=ali (mF (bs.take nb)) (n:=0) (s:=[]) rfl h.bhL h.bd8;have u:=h.eqv.perm h.aRx j.wK.1;have B:n=aa (mF (bs.take nb)):=by have:=bA aa h.bc8;rw[YE,bw]at this;have:=h.le;omega
 exact⟨j.wK.perm u.symm,h.le,fa h.len A,h.bmL,by rw[Kw u];exact j.sum,by rw[u.length_eq];have:=j.biD;have:=h.le;have:=h.len;omega⟩
def tA.mono(h:tA A0 m nb n a s bs){m':Nat}(j:m<=m'):tA A0 m' nb n a s bs:=⟨h.bhL,h.ch,h.aRx,h.bd8,h.eqv,h.bc8,h.le,fa h.len j,h.bmL⟩
def tA.new(h:Od 0 0 A0 []):tA A0 0 0 0 A0 [] []:=⟨h,⟨ax _,fm,λb j=>(by cases j)⟩,h.wK.1,trivial,rF.refl _,rfl,ax _,ax _,λu A=>(by grind)⟩
def tA.bnE(h:tA A0 m nb n a s bs){b:cP}(j:b∈bs.take nb){t:di}(u:t∈b.2.2.1):ig t=bn/\mE t:=Tr h.bd8 (t,b.1) (tK.2 ⟨b,j,dE.2 ⟨t,u,rfl⟩⟩)
def tA.pre(h:tA A0 m nb n a s bs){b:cP}(j:Pg b)(u:m<=400):adN (b,nb,n,a,s,bs):=⟨j,h.bpz u,h.ch⟩
def tA.bnV(h:tA A0 m nb n a s bs){b:cP}(j:Pg b)(u:m<=400):Oj.call (b,nb,n,a,s,bs)=aw (lX b nb (n,a,s) bs):=atB (d:=(b,nb,n,a,s,bs)) (h.pre j u)
def tA.add(h:tA A0 m nb n a s bs){b:cP}(M:Pg b){m':Nat}(hm:m+aa b.2.2.1<=m')(J:nb<=1000):
  (∃e,e≠0/\lX b nb (n,a,s) bs=(e,nb,n,a,s,bs))\/
  ∃n' T A,lX b nb (n,a,s) bs=(0,nb+1,n',T,A,bs.take nb++ [b])/\tA A0 m' (nb+1) n' T A (bs.take nb++ [b])/\b.2.1=oz nb bs/\b.1=(nb:Int)+1:=by
 have hle:nb<=aa bs:=h.ch.1;unfold lX;by_cases u:b.2.1=oz nb bs/\b.1=(nb:Int)+1;rotate_left
 .left;rw[au u];exact⟨1,fm,rfl⟩
 rw[av u];by_cases I:(nC b a).2=0;rotate_left
 .left;rw[au (show ¬(nC b (n,a,s).2.1).2=0 from I)];exact⟨_,I,rfl⟩
 right;have B:=Yb M h.aRx I;obtain⟨A,e1,e2,e3,e4,e5⟩:=adH b.1 b.2.2.1 (s:=s) B h.le;have ho:aDX b=b:=ayK M.1 λt u=>(Tr B (t,b.1) (dE.2 ⟨t,u,rfl⟩)).1
 have K:aPA b (n,a,s)=(n+aa b.2.2.1,iV a (aAm b),A):=e1;have hlen:aa (bs.take nb++ [b])=nb+1:=by rw[aj,bw];simp only[aB,bl];omega
 have j:(bs.take nb++ [b]).take (nb+1)=bs.take nb++ [b]:=bp aq;have L:=tP (mF (bs.take nb)) h.bhL.wK.1;rw[av (show(nC b (n,a,s).2.1).2=0 from I),K,ho];have hs:=h.len;refine⟨_,_,A,rfl,⟨h.bhL,bdK h.ch J M.1,tP _ h.aRx,?_,?_,?_,e3,by have:=h.le;omega,λO u7=> ?_⟩,u⟩
 .rw[j,Fy,Fz,FZ];exact⟨h.bd8,h.eqv.aH0 _ h.aRx L B⟩
 .rw[j,Fy,Fz,FN];exact h.eqv.iV _ h.aRx L
 .rw[j,Fy,Fz,G9,<-h.eqv.mu _ h.aRx L,<-h.bc8];exact e2
 .rcases e5 O u7 with h1 | h1
  .exact h.bmL O h1
  .exact alh B O h1
def tA.back:∀(d:Nat) {nb n:Nat} {a:At},tA A0 m nb n a s bs->d<=nb->∃L j,Ky bs d (nb,n,a,s)=(nb - d,L,j,s)/\tA A0 m (nb - d) L j s bs
 | 0,nb,n,a,h,_=>⟨n,a,rfl,h⟩
 |d+1,nb,n,a,h,hd=>by
  obtain⟨p,rfl⟩:∃p,nb=p+1:=⟨nb - 1,aq⟩;have hl:p+1<=aa bs:=h.ch.1;have K:p < aa bs:=aq;have T:bs.take (p+1)=bs.take p++ [bs[p]]:=by rw[List.take_add_one,cS K];rfl
  have n1:nth dS bs p=bs[p]:=bG (t:=dS) K;have J:=h.bd8;have A:=h.eqv;have B:=h.bc8;rw[T,Fy,Fz]at J A B;obtain⟨M,O⟩:=(FZ _ _ _).1 J;rw[FN]at A;rw[G9]at B;obtain⟨j,f1,f2,f3,f4,f5⟩:=aqO bs[p].2.2.1.length (aAm bs[p]) (cz _) O (tP _ h.bhL.wK.1) h.aRx A h.le B;have h':tA A0 m p (n - bs[p].2.2.1.length) j s bs:=⟨h.bhL,⟨aq,by have:=h.ch.2.1;omega,h.ch.2.2⟩,f3,M,f2,f4,by have:=h.le;omega,h.len,h.bmL⟩;obtain⟨I,u,g1,g2⟩:=tA.back d h' aq;refine⟨I,u,?_,by rw[show p+1 - (d+1)=p - d by omega];exact g2⟩;rw[Ky];show Ky bs d (p+1 - 1,(LS (nth dS bs (p+1 - 1)).2.2.1.length (n,a,s)).2)=_;rw[lW,n1,f1,g1,show p+1 - (d+1)=p - d by omega]
def oY:List cP->Nat
 |[]=>0
 |b::l=>aa b.2.2.1+oY l
def tA.bij:∀(l:List cP) {m nb n:Nat} {a:At} {s:List cF} {bs:List cP},tA A0 m nb n a s bs->(∀b∈l,Pg b)->m+oY l<=400->nb+aa l<=1000->
  atf l (nb,n,a,s,bs)/\((j8 l (nb,n,a,s,bs)).1≠0\/∃J B K j,j8 l (nb,n,a,s,bs)=(0,nb+aa l,J,B,K,j)/\tA A0 (m+oY l) (nb+aa l) J B K j/\j.take (nb+aa l)=bs.take nb++l)
 |[],m,nb,n,a,s,bs,h,_,_,_=>⟨trivial,.inr ⟨n,a,s,bs,rfl,h,(bm _).symm⟩⟩
 |b::l,m,nb,n,a,s,bs,h,hl,hm,hn=>by
  rw[oY]at hm;rw[aB]at hn;have hb:=hl b aY;have hle:nb<=aa bs:=h.ch.1;have u:=h.pre hb aq;rcases h.add hb (ax _) aq with⟨e,O,A⟩ | ⟨J,B,K,A,h',_,_⟩
  .refine⟨⟨u,λI=> ?_⟩,.inl ?_⟩
   .have I:(lX b nb (n,a,s) bs).1=0:=I;rw[A]at I;exact absurd I O
   .rw[j8];show(if(lX b nb (n,a,s) bs).1≠0 then lX b nb (n,a,s) bs else _).1≠0;rw[A,av O];exact O
  .obtain⟨i1,T⟩:=tA.bij l h' (λx hx=>hl x (aT _ hx)) aq aq;have hlen:aa (bs.take nb++ [b])=nb+1:=by rw[aj,bw];simp only[aB,bl];omega
   have L:(bs.take nb++ [b]).take (nb+1)=bs.take nb++ [b]:=bp aq;have ek:j8 (b::l) (nb,n,a,s,bs)=j8 l (nb+1,J,B,K,bs.take nb++ [b]):=by rw[j8];show(if(lX b nb (n,a,s) bs).1≠0 then lX b nb (n,a,s) bs else j8 l (lX b nb (n,a,s) bs).2)=_;rw[A,au (λe=>e rfl)]
   refine⟨⟨u,λ_=> ?_⟩,?_⟩
   .show atf l (lX b nb (n,a,s) bs).2;rw[A];exact i1
   .rw[ek,show nb+aa (b::l)=nb+1+aa l by rw[aB];omega,oY,<-fP];rcases T with T | ⟨n2,a2,s2,M,j1,j2,j3⟩
    .exact .inl T
    .refine .inr ⟨n2,a2,s2,M,j1,j2,?_⟩;rw[j3,L,aR];rfl
def tA.copy(h:tA A0 m nb n a s bs):tA A0 m nb n (jJ a) (s.take n) (bs.take nb):=by
 obtain⟨u,A⟩:=adM h.aRx;have J:=h.ch.1;have j:(bs.take nb).take nb=bs.take nb:=by grind
 have B:(s.take n).take n=s.take n:=by grind
 have M:=h.le;refine⟨h.bhL,⟨by grind,h.ch.2.1,λb I=>h.ch.2.2 b (fw I)⟩,A,by rw[j];exact h.bd8,by rw[j];exact u.trans h.eqv,by rw[j,B];exact h.bc8,by grind,by have:=h.len;grind,λK L=>h.bmL K (fw L)⟩
def PA(j:At)(p:List cP)(b:cP):Int:=if b.2.1=oz (aa p) p/\b.1=(aa p:Int)+1 then(nC b (iV j (mF p))).2 else 1
def PB(j:At):List cP->List cP->Int
 |_,[]=>0
 |p,b::l=>if PA j p b≠0 then PA j p b else PB j (p++ [b]) l
def bbV{nb:Nat}{bs:List cP}(h:nb<=aa bs):oz (aa (bs.take nb)) (bs.take nb)=oz nb bs:=by
 have e:aa (bs.take nb)=nb:=by rw[bw];omega
 rw[e];unfold oz;by_cases j:nb=0
 .rw[av j,av j]
 .rw[au j,au j];unfold nth;simp only[dH,fS];rw[av aq]
def auO{b:cP}{a j:At}(e:rF a j)(u:(dY a).Nodup)(A:(dY j).Nodup):nC b a=nC b j:=by unfold nC S8;rw[aty (e.perm u A)]
def tA.err(h:tA A0 m nb n a s bs)(b:cP):(lX b nb (n,a,s) bs).1=PA A0 (bs.take nb) b:=by
 have B:nb<=aa bs:=h.ch.1;have A:(aa (bs.take nb):Int)=nb:=by rw[bw];omega
 simp only[lX,PA];rw[bbV B,auO h.eqv h.aRx (tP _ h.bhL.wK.1),A];by_cases j:b.2.1=oz nb bs/\b.1=(nb:Int)+1
 .rw[av j,av j];by_cases u:(nC b (iV A0 (mF (bs.take nb)))).2=0
  .rw[av u,u]
  .rw[au u]
 .rw[au j,au j]
def tA.blo:∀(l:List cP) {m nb n:Nat} {a:At} {s:List cF} {bs:List cP},tA A0 m nb n a s bs->(∀b∈l,Pg b)->m+oY l<=400->nb+aa l<=1000->(j8 l (nb,n,a,s,bs)).1=PB A0 (bs.take nb) l
 |[],_,_,_,_,_,_,_,_,_,_=>rfl
 |b::l,m,nb,n,a,s,bs,h,hl,hm,hn=>by
  rw[oY]at hm;rw[aB]at hn;have K:nb<=aa bs:=h.ch.1;have j:=h.err b;rcases h.add (hl b aY) (ax _) aq with⟨e,A,u⟩ | ⟨O,M,T,u,J,_,_⟩
  .rw[u]at j;have j:e=_:=j;rw[j8,PB,<-j,av A];show(if(lX b nb (n,a,s) bs).1≠0 then lX b nb (n,a,s) bs else _).1=e;rw[u,av A]
  .rw[u]at j;have j:0=PA A0 (bs.take nb) b:=j;have B:aa (bs.take nb++ [b])=nb+1:=by rw[aj,bw];simp only[aB,bl];omega
   have I:=tA.blo l J (λx L=>hl x (aT _ L)) aq aq;rw[show(bs.take nb++ [b]).take (nb+1)=bs.take nb++ [b] from bp aq]at I;rw[PB,<-j,au (λe=>e rfl),<-I,j8];show(if(lX b nb (n,a,s) bs).1≠0 then lX b nb (n,a,s) bs else j8 l (lX b nb (n,a,s) bs).2).1=_;rw[u,au (λe=>e rfl)]
def tA.baK(h:tA A0 m nb n a s bs)(d:Int){l:List cP}(hl:∀b∈l,Pg b)(hm:m+oY l<=400)(hn:nb+aa l<=1000):
  (¬((1<=d/\d<=nb/\d < aa l/\d<=6)/\PB A0 (bs.take (nb - d.toNat)) l=0)/\∃e,e≠0/\jS (d,l,nb,n,a,s,bs)=aw (.inl (e,nb,n,a,s,bs)))\/
  ((1<=d/\d<=nb/\d < aa l/\d<=6)/\PB A0 (bs.take (nb - d.toNat)) l=0)/\∃n' a' s' j,jS (d,l,nb,n,a,s,bs)=aw (.inr (0,nb - d.toNat+aa l,n,a,s,bs,n',a',s',j))/\
   tA A0 (m+oY l) (nb - d.toNat+aa l) n' a' s' j/\j.take (nb - d.toNat+aa l)=bs.take (nb - d.toNat)++l:=by
 have key:∀(I:1<=d/\d<=nb/\d < aa l/\d<=6),∃n1 A,FP d nb n a s bs=(nb - d.toNat,n1,A,s.take n,bs.take nb)/\tA A0 m (nb - d.toNat) n1 A (s.take n) (bs.take nb):=λI=>by obtain⟨n1,A,J,B⟩:=tA.back d.toNat h.copy aq;refine⟨n1,A,?_,B⟩;unfold FP;rw[J]
 have T:Co (d,l,nb,n,a,s,bs):=⟨h.ch,h.bpz aq,by show aa l<=_;omega,λI=>by
  obtain⟨n1,A,J,B⟩:=key I;rw[J];exact(tA.bij l B hl hm aq).1⟩
 have O:=agw (d:=(d,l,nb,n,a,s,bs)) T;by_cases u:1<=d/\d<=nb/\d < aa l;rotate_left
 .left;refine⟨λx=>u ⟨x.1.1,x.1.2.1,x.1.2.2.1⟩,1,fm,O.trans (bA aw ?_)⟩;have:ky (d,l,nb,n,a,s,bs)= .inl (1,nb,n,a,s,bs):=au u;rw[this];rfl
 by_cases L:d<=6;rotate_left
 .left;refine⟨λx=>L x.1.2.2.2,25,fm,O.trans (bA aw ?_)⟩;have:ky (d,l,nb,n,a,s,bs)= .inl (25,nb,n,a,s,bs):=(av u).trans (au L);rw[this];rfl
 have I:1<=d/\d<=nb/\d < aa l/\d<=6:=⟨u.1,u.2.1,u.2.2,L⟩;obtain⟨n1,A,J,B⟩:=key I
 have hF:ky (d,l,nb,n,a,s,bs)=if(j8 l (FP d nb n a s bs)).1≠0 then .inl ((j8 l (FP d nb n a s bs)).1,nb,n,a,s,bs)
   else .inr (0,(j8 l (FP d nb n a s bs)).2.1,n,a,s,bs,(j8 l (FP d nb n a s bs)).2.2):=(av u).trans (av L)
 rw[J]at hF;have K:(bs.take nb).take (nb - d.toNat)=bs.take (nb - d.toNat):=by rw[rV,qS aq]
 have M:=tA.blo l B hl hm aq;rw[K]at M;rcases(tA.bij l B hl hm aq).2 with e3 | ⟨n2,a2,s2,bs2,f1,f2,f3⟩
 .left;refine⟨λx=>e3 (M.trans x.2),_,e3,O.trans (bA aw ?_)⟩;rw[hF,av e3];rfl
 .right;rw[f1]at M;refine⟨⟨I,M.symm⟩,n2,a2,s2,bs2,O.trans (bA aw ?_),f2,by rw[f3,K]⟩;rw[hF,f1,au (λe=>e rfl)];rfl
def tA.bh6(h:tA A0 m nb n a s bs)(d:Int){l:List cP}(L:∀b∈l,Pg b)(M:m+oY l<=400)(O:nb+aa l<=1000):
  (∃e,e≠0/\jS (d,l,nb,n,a,s,bs)=aw (.inl (e,nb,n,a,s,bs)))\/
  ∃A u B j,jS (d,l,nb,n,a,s,bs)=aw (.inr (0,nb - d.toNat+aa l,n,a,s,bs,A,u,B,j))/\(1<=d/\d<=nb/\d < aa l/\d<=6)/\
   tA A0 (m+oY l) (nb - d.toNat+aa l) A u B j/\j.take (nb - d.toNat+aa l)=bs.take (nb - d.toNat)++l:=by
 rcases h.baK d L M O with⟨_,I⟩ | ⟨I,A,u,B,j,J,K⟩
 .exact .inl I
 .exact .inr ⟨A,u,B,j,J,I.1,K⟩
def Hx(o:bO):List cP->Int->Option (di×Int)
 |[],_=>aC
 |b::l,i=>match acH o b.2.2.1 with | some t=>aw (t,i+1) | none=>Hx o l (i+1)
def azY{o:bO}:∀ {l:List di} {t:di},acH o l=aw t->t∈l
 |[],_,e=>by cases e
 |x::l,t,e=>by
  rw[acH]at e;split at e
  .grind
  .exact aT _ (azY e)
def av5{o:bO}:∀ {l:List cP} {i:Int},(∀b∈l,∀t∈b.2.2.1,ig t=bn/\mE t)->G8 o l i=Hx o l i
 |[],_,_=>rfl
 |b::l,i,h=>by
  rw[G8,Hx];cases e:acH o b.2.2.1 with
  |none=>exact av5 λx j=>h x (aT _ j)
  |some t=>
   have:=h b aY t (azY e);show aw (aGY t,i+1)=aw (t,i+1);rw[Yx this.2 this.1]
def aLz{o:bO}:∀ {l:List cP} {i:Int} {x:di×Int},Hx o l i=aw x->i+1<=x.2/\x.2<=i+aa l/\∃b∈l,x.1∈b.2.2.1
 |[],_,_,e=>by cases e
 |b::l,i,x,e=>by
  rw[Hx]at e;rw[aB];cases j:acH o b.2.2.1 with
  |none=>
   rw[j]at e;obtain⟨B,I,c,u,A⟩:=aLz e;exact⟨aq,aq,c,aT _ u,A⟩
  |some t=>
   rw[j]at e;obtain rfl:=cj e;exact⟨dT _,by show i+1<=_;omega,b,aY,azY j⟩
def aOz{o:bO}:∀(l j:List cP) (i:Int),Hx o (l++j) i=match Hx o l i with | some x=>aw x | none=>Hx o j (i+aa l)
 |[],j,i=>by show Hx o j i=Hx o j (i+((0:Nat):Int));rw[show i+((0:Nat):Int)=i by omega]
 |b::l,j,i=>by
  rw[iP,Hx,Hx];cases acH o b.2.2.1 with
  |some t=>rfl
  |none=>
   show Hx o (l++j) (i+1)=_;rw[aOz l j,aB,show i+1+(aa l:Int)=i+((aa l+1:Nat):Int) by omega]
def tA.bmJ(h:tA A0 m nb n a s bs)(o:bO):Bi.call (o,nb,n,a,s,bs)=aw (match Hx o (bs.take nb) 0 with
  |some x=>(x.1,x.2,bn,nb,n,a,s,bs)
  |none=>(eU.zero,0,aZ,nb,n,a,s,bs)):=by
 rw[aBO (d:=(o,nb,n,a,s,bs)) h.ch];simp only[bt,adP];rw[av5 λb j t u=>h.bnE j u]
 all_goals (cases Hx o (bs.take nb) 0 <;> rfl)
end
end
def S9(n:Int)(x:gb):Int:=if x.2.1.2.2.1=0 then n+8*aa x.2.1.2.1 else n+8*aa x.2.1.2.1+4
def aGJ:∀(l:List gb) (n:Int),l.foldl S9 (n+10*aa l)=l.foldl xn n
 |[],n=>by simp
 |x::l,n=>by
  have e:S9 (n+10*(aa (x::l):Nat)) x=xn n x+10*(aa l:Nat):=by unfold S9 xn;rw[aB];split <;> omega
  rw[bN,e,aGJ l];rfl
def aeO:(di×Int×Int)->Prop:=λ(t,n,i)=>aa t.1<=1000000000/\∃k:Nat,k<=aa t.1/\i=k/\(aa t.1<=64)/\(∀x∈t.1,aa x.2.1.2.1<=12)/\(0<=n)/\(n<=10000+200*(k:Int))
def zD:(di×Int×Int)->Int:=λ(t,n,i)=>(bj (ae i) t.1).foldl S9 n
def asc:di->Prop:=λt=>mE t
def Re:di->Int:=λt=>Hl t
def jX:Ls aeO bt zD:=rI (λ(j,n,i)=>⟨([bB,iL j,bB,aU n,aU i]++aP 42 []),[],(ag 47 [])⟩) (λx=>(.exit 0,⟨([bB,bB,bB,aU x]++aP 43 []),[],(ag 47 [])⟩))
def oU:Fs prog asc bt Re:=eP 178 f178 (λt=>([.d eU t],[])) (λx=>⟨.d ti x,[],[]⟩) [aw eU] [Q6] {loops:=ko [(5,{aX:=[1,3,4]})],outs:=km [(5,{aX:=[3]},{aX:=[2]})],eT:=jW [(5,jX.E)]}
def aeP:jX.RS:=rL [.d eU,.d ti,.d ti] jX
def Ii(j n i)(u:K2 R)(A:K3 R):oU.R 0 jX (j,n,i) u A=aA (fj i (aa j.1:Int)) (aA (dB i (aa j.1:Int)) (aA (dB i (aa j.1:Int)) (aA (pb (nth fK j.1 (ae i)).2.1.2.2.1 0) (u (jX.st (j,(bC .i64 (bC .i64 n (fO .i64 8 (((aa (nth fK j.1 (ae i)).2.1.2.1):Nat):Int))) 4),(bC .i64 i 1)))) (u (jX.st (j,(bC .i64 n (fO .i64 8 (((aa (nth fK j.1 (ae i)).2.1.2.1):Nat):Int))),(bC .i64 i 1))))) aC) aC) (jX.go A n):=bS
def ay3(t)(k:K1 R):oU.A t k=ao (fN.call t) λj=>aA (!j) (k (oU.out 0)) (ao (jX.call (t,(bC .i64 (bC .i64 10 (fO .i64 10 (aa t.1:Int))) (fO .i64 8 (aa t.2.1:Int))),0)) λu=>k (oU.out u)):=bS
def ajq:(oU.kA 0 jX):=by
 refine(oU.lS 0 jX) (λ(t,n,i)=>aa t.1 - ae i) ?_
 rintro⟨t,n,i⟩ ⟨j,k,K,rfl,B,u,I,J⟩;have j:aa t.1<=1000000000:=j;have K:k<=aa t.1:=K;have B:aa t.1<=64:=B;have u:∀x∈t.1,aa x.2.1.2.1<=12:=u;have I:0<=n:=I;have J:n<=10000+200*(k:Int):=J;by_cases h:k < aa t.1
 .left;have n1:nth fK t.1 k=t.1[k]:=bG (t:=fK) h;have L:bj k t.1=t.1[k]::bj (k+1) t.1:=ak h;refine⟨(t,(S9 n t.1[k]),((k+1:Nat):Int)),⟨j,k+1,aq,rfl,B,u,by unfold S9;split <;> omega,by have:=u _ (aD h);unfold S9;split <;> omega⟩,by simp only[ab];omega,?_,λM O=> ?_⟩
  .simp only[bt,zD,ab,L,bN]
  .rw[Ii,aN aq,aS aq aq,ab,n1];simp only[ai];have e:=u _ (aD h);rw[Ct (x:=8) aq aq,eS (x:=n) aq aq,N.iY aq];unfold S9;by_cases A:t.1[k].2.1.2.2.1=0
   .rw[bU A,al,av A]
   .rw[dj A,ai,au A,eS aq aq]
 .right;obtain rfl:k=aa t.1:=aq;intro R M O;rw[Ii,aL aq,al];simp only[bt,zD,ab,ay,dr]
def ay4:oU.Ok:=by
 intro t j;have j:mE t:=j;rw[ay3,Nd (d:=t) j.1];simp only[ah,bt,GJ,bt,Re,Hl];cases I:ig t
 .rfl
 .obtain⟨⟨_,u,J,_⟩,A,K⟩:=iW I;rw[bW,al,Ct (x:=10) aq aq,Ct (x:=8) aq aq,eS (x:=10) aq aq,eS aq aq,aeP (d:=(t,10+10*(aa t.1:Int)+8*(aa t.2.1:Int),0)) ⟨by show aa t.1<=_;omega,0,az _,rfl,u,λx B=>(C1 (ma _ _ A x B)).2.2.2.2,by show(0:Int)<=10+10*(aa t.1:Int)+8*(aa t.2.1:Int);omega,by show 10+10*(aa t.1:Int)+8*(aa t.2.1:Int)<=_;omega⟩];simp only[ah,bt,zD,aW,aH,bQ];rw[show(10+10*(aa t.1:Int)+8*(aa t.2.1:Int))=10+8*(aa t.2.1:Int)+10*(aa t.1:Int) by omega,aGJ]
def asd:oU.RS:=rE [.d eU] oU
def ay5:=oU.eQ ay4 1 ⟨.eg ajq,trivial⟩
def aSm:(Int×Int×Int)->Prop:=λ_=>True
def aj9:(Int×Int×Int)->Bool:=λ(n,a,b)=>decide (a<=n/\n<=b)
def abz:Fs prog aSm bt aj9:=eP 128 f128 (λ(n,u,j)=>([aU n,aU u,aU j],[])) (λx=>⟨fA x,[],[]⟩) [aw ti,aw ti,aw ti]
def aZZ(n u j)(k:K1 R):abz.A (n,u,j) k=aA (DA n u) (k (abz.out (arD n j))) (k (abz.out aZ)):=bS
def aZ0:abz.Ok:=by
 rintro⟨n,a,b⟩ _;rw[aZZ];simp only[bt,aj9];by_cases j:a<=n
 .rw[fE j,ai];by_cases u:n<=b
  .rw[np u,aK ⟨j,u⟩]
  .rw[jK u,aV λe=>u e.2]
 .rw[ed j,al,aV λe=>j e.1]
def au0:abz.RS:=rE [.d ti,.d ti,.d ti] abz
def aZ1:=abz.eQ aZ0
def aeQ:(cP×Int×Int)->Prop:=λ(b,n,i)=>aa b.2.2.1<=1000000000/\∃k:Nat,k<=aa b.2.2.1/\i=k/\(aa b.2.2.1<=1000)/\(∀t∈b.2.2.1,mE t)/\(0<=n)/\(n<=1000000+8000*(k:Int))
def zG:(cP×Int×Int)->Int:=λ(b,n,i)=>(bj (ae i) b.2.2.1).foldl aAy n
def asl:cP->Prop:=λb=>aG0 b/\0<=b.2.2.2.1/\b.2.2.2.1<=1000000
def Rs:cP->Int:=λb=>aVK b
def kR:Ls aeQ bt zG:=rI (λ(j,n,i)=>⟨([bB,GC j,bB,aU n,aU i]++aP 18 []),[],(ag 23 [])⟩) (λx=>(.exit 0,⟨([bB,bB,bB,aU x]++aP 19 []),[],(ag 23 [])⟩))
def rp:Fs prog asl bt Rs:=eP 129 f129 (λb=>([.d dS b],[])) (λx=>⟨.d ti x,[],[]⟩) [aw dS] [ay5] {loops:=ko [(3,{aX:=[1,3,4]})],outs:=km [(3,{aX:=[3]},{aX:=[2]})],eT:=jW [(3,kR.E)]}
def aeR:kR.RS:=rL [.d dS,.d ti,.d ti] kR
def Ij(j n i)(u:K2 R)(A:K3 R):rp.R 0 kR (j,n,i) u A=aA (fj i (aa j.2.2.1:Int)) (aA (dB i (aa j.2.2.1:Int)) (ao (oU.call (nth eU j.2.2.1 (ae i))) λB=>u (kR.st (j,(bC .i64 n B),(bC .i64 i 1)))) aC) (kR.go A n):=bS
def azd(b)(k:K1 R):rp.A b k=ao (kR.call (b,b.2.2.2.1,0)) λj=>k (rp.out j):=bS
def ajv:(rp.kA 0 kR):=by
 refine(rp.lS 0 kR) (λ(b,n,i)=>aa b.2.2.1 - ae i) ?_
 rintro⟨b,n,i⟩ ⟨j,k,J,rfl,A,u,B,I⟩;have j:aa b.2.2.1<=1000000000:=j;have J:k<=aa b.2.2.1:=J;have A:aa b.2.2.1<=1000:=A;have u:∀t∈b.2.2.1,mE t:=u;have B:0<=n:=B;have I:n<=1000000+8000*(k:Int):=I;by_cases h:k < aa b.2.2.1
 .left;have n1:nth eU b.2.2.1 k=b.2.2.1[k]:=bG (t:=eU) h;have K:bj k b.2.2.1=b.2.2.1[k]::bj (k+1) b.2.2.1:=ak h;refine⟨(b,(aAy n b.2.2.1[k]),((k+1:Nat):Int)),⟨j,k+1,aq,rfl,A,u,by have:=FE b.2.2.1[k];unfold aAy;omega,by have:=FE b.2.2.1[k];unfold aAy;omega⟩,by simp only[ab];omega,?_,λL M=> ?_⟩
  .simp only[bt,zG,ab,K,bN]
  .rw[Ij,aN aq,aS aq aq,ab,n1];simp only[ai];have e:=FE b.2.2.1[k];rw[asd (d:=b.2.2.1[k]) (u _ (aD h))];simp only[ah,bt,Re];rw[eS (x:=n) aq aq,N.iY aq];rfl
 .right;obtain rfl:k=aa b.2.2.1:=aq;intro R L M;rw[Ij,aL aq,al];simp only[bt,zG,ab,ay,dr]
def aze:rp.Ok:=by rintro b ⟨⟨⟨j,u⟩,_⟩,A,I⟩;have B:((0:Int)).toNat=0:=rfl;rw[azd,aeR (d:=(b,b.2.2.2.1,0)) ⟨by show aa b.2.2.1<=_;omega,0,az _,rfl,j,u,A,by show b.2.2.2.1<=_;omega⟩];simp only[ah,bt,zG,B,aH,bt,Rs,aVK]
def asm:rp.RS:=rE [.d dS] rp
def azf:=rp.eQ aze 1 ⟨.eg ajv,trivial⟩
abbrev CE:=(List bO)×di×Int
def ur:CE->AS:=λ(j,u,i)=>⟨([bB,Oy j,iL u,bB,bB,aU i]++aP 25 []),[],(ag 31 [])⟩
def BE:Unit->Exit×AS:=λx=>(.ret,⟨(aP 4 ([.d .bool bn]++aP 26 [])),[],(ag 31 [])⟩)
def BF:Unit->Exit×AS:=λx=>(.exit 0,⟨(aP 31 []),[],(ag 31 [])⟩)
abbrev Rj:=(Unit)⊕(Unit)
abbrev ahL:=(Unit)⊕(Unit)
def JX:Rj->Out (Exit×AS):=λx=> .br x.isLeft (.get x.getLeft? λa=> .ok (BE a)) (.get x.getRight? λb=> .ok (BF b))
def rk:CE->ahL->Rj:=λ(j,u,i) y=>match y with | .inl y=> .inl y | .inr z=> .inr (z)
abbrev CF:=(List bO)×di×Int×Int
def qv:CF->AS:=λ(j,B,u,A)=>⟨([bB,Oy j,iL B,bB,bB,aU u,aU A]++aP 24 []),[],(ag 31 [])⟩
def rn:Unit->Exit×AS:=λx=>(.ret,⟨(aP 4 ([.d .bool bn]++aP 26 [])),[],(ag 31 [])⟩)
abbrev abv:=(List bO)×di×Int
def BH:abv->Exit×AS:=λ(a,b,c)=>(.exit 2,⟨([bB,Oy a,iL b,bB,bB,aU c]++aP 25 []),[],(ag 31 [])⟩)
abbrev Rn:=(Unit)⊕(abv)
abbrev ahN:=(Unit)⊕(Unit)
def JY:Rn->Out (Exit×AS):=λx=> .br x.isLeft (.get x.getLeft? λa=> .ok (rn a)) (.get x.getRight? λb=> .ok (BH b))
def lB:CF->ahN->Rn:=λ(j,A,u,B) y=>match y with | .inl y=> .inl y | .inr z=> .inr ((j,A,u))
abbrev aEy:=di×(List bO)
def bdp(l:List bO)(x:gb):Bool:=l.any (ajJ x.1)
def BG:CF->Prop:=λ(l,t,i,j)=>aa l<=1000/\aa t.1<=1000000/\∃n k:Nat,n < aa t.1/\i=n/\j=k/\k<=aa l
def py:CF->ahN:=λ(l,t,i,j)=>if(l.drop j.toNat).any (ajJ (nth fK t.1 i.toNat).1)=bn then .inl () else .inr ()
def BD:CE->Prop:=λ(l,t,i)=>aa l<=1000/\aa t.1<=1000000/\∃n:Nat,n<=aa t.1/\i=n
def px:CE->ahL:=λ(l,t,i)=>if(t.1.drop i.toNat).any (bdp l)=bn then .inl () else .inr ()
def aJT:aEy->Prop:=λ(t,l)=>aa l<=1000/\aa t.1<=1000000
def aon:aEy->Bool:=λ(t,l)=>t.1.any (bdp l)
def ahJ:=cQ.eg ur BD rk px JX
def Rk:CE->Option Rj:=eN ahJ ur
def ahM:=cQ.eg qv BG lB py JY
def Ro:CF->Option Rn:=eN ahM qv
def uZ:Fs prog aJT bt aon:=eP 131 f131 (λ(t,j)=>([.d eU t,.d (.slice bK) j],[])) (λx=>⟨.d .bool x,[],[]⟩) [aw eU,aw (.slice bK)] [] {loops:=ko [(2,{aX:=[1,2,5]}),(5,{aX:=[1,2,5,6]})],outs:=km [(2,{},{aX:=[4]}),(5,{aX:=[1,2,5]},{aX:=[4]})],eT:=jW [(2,ahJ),(5,ahM)]}
def ahK:= @dm prog (gU uZ.G) uZ.an 0 f131 0 _ ur
abbrev abt:=gr prog (gU uZ.G) uZ.an 0 f131 0 ur BD rk px JX
def Rm:= @dm prog (gU uZ.G) uZ.an 0 f131 1 _ qv
abbrev abu:=gr prog (gU uZ.G) uZ.an 0 f131 1 qv BG lB py JY
def ash:fC Rk BD rk px:=ia (fy [.d (.slice bK),.d eU,.d ti] λ_=>bS)
def Yo:iX @ahK ur BD rk px JX abt:=ji
def GO(j A i)(J:K2 R)(B:K3 R):ahK (j,A,i) J B=aA (fj i (((aa A.1):Nat):Int)) (ao (Ro (j,A,i,(0:Int))) λI=>aA I.isLeft (ao I.getLeft? λK=>B (BE ()).1 (BE ()).2) (ao I.getRight? λu=>J (ur (u.1,u.2.1,(bC .i64 u.2.2 (1:Int)))))) (B (BF ()).1 (BF ()).2):=bS
def asi:fC Ro BG lB py:=ia (fy [.d (.slice bK),.d eU,.d ti,.d ti] λ_=>bS)
def Yp:iX @Rm qv BG lB py JY abu:=ji
def Rp(j A u B)(J:K2 R)(I:K3 R):Rm (j,A,u,B) J I=aA (fj B (((aa j):Nat):Int)) (aA (dB u (((aa A.1):Nat):Int)) (aA (dB B (((aa j):Nat):Int)) (aA (Ty.beq bK (nth fK A.1 (ae u)).1 (nth bK j (ae B))) (I (rn ()).1 (rn ()).2) (J (qv (j,A,u,(bC .i64 B (1:Int)))))) aC) aC) (I (BH (j,A,u)).1 (BH (j,A,u)).2):=bS
def aSf(t j)(k:K1 R):uZ.A (t,j) k=ao (Rk (j,t,0)) λu=>aA u.isLeft (ao u.getLeft? λA=>k (uZ.out bn)) (ao u.getRight? λB=>k (uZ.out aZ)):=bS
def ay9:abu:=by
 refine Yp (λ(l,_,_,j)=>aa l - j.toNat) ?_
 rintro⟨l,t,i,j⟩ ⟨I,J,n,k,B,rfl,rfl,L⟩;have I:aa l<=1000:=I;have J:aa t.1<=1000000:=J;have B:n < aa t.1:=B;have L:k<=aa l:=L;have O:((n:Int)).toNat=n:=ab n;have n2:nth fK t.1 n=t.1[n]:=bG (t:=fK) B;by_cases h:k < aa l
 .have n1:nth bK l k=l[k]:=bG (t:=bK) h;have K:l.drop k=l[k]::l.drop (k+1):=ak h;have M:∀ {R:Type} (u:AS->Option R) (A:Exit->AS->Option R),Rm (l,t,(n:Int),(k:Int)) u A=aA (ajJ t.1[n].1 l[k]) (A (rn ()).1 (rn ()).2) (u (qv (l,t,(n:Int),((k+1:Nat):Int)))):=by intro R u A;rw[Rp,aN aq,ai,aS aq aq,ai,aS aq aq,ai,O,ab,n1,n2,N.iY aq];rfl
  cases e:ajJ t.1[n].1 l[k]with
  |true=>
   right;refine⟨rn (),?_,λu A=> ?_⟩
   .simp only[lB,py,ab,K,n2,iG,e,pM,bQ];rfl
   .rw[M,e,ai]
  |false=>
   left;refine⟨(l,t,(n:Int),((k+1:Nat):Int)),⟨I,J,n,k+1,B,rfl,rfl,h⟩,by simp only[ab];omega,?_,λu A=> ?_⟩
   .simp only[lB,py,ab,K,n2,iG,e,ja]
   .rw[M,e,al]
 .right;obtain rfl:k=aa l:=aq;refine⟨BH (l,t,(n:Int)),?_,λu A=> ?_⟩
  .simp only[lB,py,ab,ay,List.any_nil,bu,bq];rfl
  .rw[Rp,aL aq,al]
def ay8:abt:=by
 refine Yo (λ(_,t,i)=>aa t.1 - i.toNat) ?_
 rintro⟨l,t,i⟩ ⟨u,A,n,L,rfl⟩;have M:((0:Int)).toNat=0:=rfl;by_cases h:n < aa t.1
 .have n2:=bG (t:=fK) h;have K:=ak h;have j:=asi (d:=(l,t,(n:Int),0)) ⟨u,A,n,0,h,rfl,rfl,az _⟩;simp[lB,py,n2]at j;cases e:bdp l t.1[n]with
  |true=>
   have J:l.any (ajJ t.1[n].1)=bn:=e;right;refine⟨BE (),?_,λB I=> ?_⟩
   .simp only[px,ab,K,iG,e,bQ];rfl
   simp_all [GO,aN]
  |false=>
   have J:l.any (ajJ t.1[n].1)=aZ:=e;rw[au (by grind)]at j;left;refine⟨(l,t,((n+1:Nat):Int)),⟨u,A,n+1,h,rfl⟩,by grind,?_,λB I=> ?_⟩
   .grind [rk,px]
   .rw[GO,aN aq,ai,j];simp only[ah,dh,al,cJ];rw[N.iY aq]
 .right;obtain rfl:n=aa t.1:=aq;refine⟨BF (),?_,λB I=> ?_⟩
  .simp[px,ab,ay,bq];rfl
  simp[GO,aL]
def aSg:uZ.Ok:=by
 rintro⟨t,l⟩ ⟨j,u⟩;rw[aSf,ash (d:=(l,t,0)) ⟨j,u,0,az _,rfl⟩];simp only[ah,rk,px,aW,aH,bt,aon];cases t.1.any (bdp l) with
 |true=>rfl
 |false=>rfl
def aJU:uZ.RS:=rE [.d eU,.d (.slice bK)] uZ
def aSh:=uZ.eQ aSg 2 ⟨.eg ay8,⟨.eg ay9,trivial⟩⟩
abbrev JZ:=cP×Bs×Int
def wm:JZ->Bs->((cP)×(Bs)):=λ(j,x,i) y=>(j,y)
def ajr:JZ->Prop:=λ(b,x,i)=>aa b.2.2.1<=1000000000/\∃k:Nat,k<=aa b.2.2.1/\i=k/\(aa b.2.2.1<=1000)/\(∀t∈b.2.2.1,mE t)/\(aa x<=1000+32*k)
def BI:JZ->Bs:=λ(b,x,i)=>(bj (ae i) b.2.2.1).foldl aNl x
def ajt:(cP×Bs×Int)->Prop:=λ(b,x,i)=>aa b.2.2.2.2.1<=1000000000/\∃k:Nat,k<=aa b.2.2.2.2.1/\i=k/\(aa b.2.2.2.2.1<=1000)/\(∀o∈b.2.2.2.2.1,aO1 o)/\(aa x<=100000+43*k)
def BJ:(cP×Bs×Int)->Bs:=λ(b,x,i)=>(bj (ae i) b.2.2.2.2.1).foldl be6 x
def aza:cP->Prop:=λb=>aG0 b
def Yq:cP->Bs:=λb=>biu b
def nP:Ls ajr wm BI:=rI (λ(j,x,i)=>⟨([bB,GC j,bB,fo x,aU i]++aP 60 []),[],(ag 65 [])⟩) (λx=>(.exit 0,⟨([bB,GC x.1,bB,fo x.2]++aP 61 []),[],(ag 65 [])⟩))
def nQ:Ls ajt bt BJ:=rI (λ(u,j,A)=>⟨([bB,GC u,bB,fo j,bB,aU A]++aP 59 []),[],(ag 65 [])⟩) (λx=>(.exit 2,⟨([bB,bB,bB,fo x]++aP 61 []),[],(ag 65 [])⟩))
def oV:Fs prog aza bt Yq:=eP 84 f84 (λb=>([.d dS b],[])) (λx=>⟨.d tB x,[],[]⟩) [aw dS] [aoF,avb,abi] {loops:=ko [(4,{aX:=[1,3,4]}),(10,{aX:=[1,3,5]})],outs:=km [(4,{aX:=[1,3]},{aX:=[2]}),(10,{aX:=[3]},{aX:=[2]})],eT:=jW [(4,nP.E),(10,nQ.E)]}
def ajs:nP.RS:=rL [.d dS,.d tB,.d ti] nP
def Lu(j x i)(u:K2 R)(A:K3 R):oV.R 0 nP (j,x,i) u A=aA (fj i (aa j.2.2.1:Int)) (aA (dB i (aa j.2.2.1:Int)) (ao (OF.call (nth eU j.2.2.1 (ae i))) λB=>ao (AP.call (x,B)) λI=>u (nP.st (j,I,(bC .i64 i 1)))) aC) (nP.go A (j,x)):=bS
def aju:nQ.RS:=rL [.d dS,.d tB,.d ti] nQ
def Lv(j u A)(B:K2 R)(I:K3 R):oV.R 1 nQ (j,u,A) B I=aA (fj A (aa j.2.2.2.2.1:Int)) (aA (dB A (aa j.2.2.2.2.1:Int)) (ao (AP.call (u,(nth bK j.2.2.2.2.1 (ae A)).1)) λJ=>aA (dB A (aa j.2.2.2.2.1:Int)) (ao (vB.call (J,(nth bK j.2.2.2.2.1 (ae A)).2.1)) λK=>B (nQ.st (j,K,(bC .i64 A 1)))) aC) aC) (nQ.go I u):=bS
def aEz(b)(k:K1 R):oV.A b k=ao (vB.call (([]:List Int),b.1)) λA=>ao (AP.call (A,b.2.1)) λB=>ao (vB.call (B,(aa b.2.2.1:Int))) λI=>ao (nP.call (b,I,0)) λj=>ao (vB.call (j.2,j.1.2.2.2.1)) λJ=>ao (vB.call (J,(aa j.1.2.2.2.2.1:Int))) λK=>ao (nQ.call (j.1,K,0)) λu=>k (oV.out u):=bS
def aoo:(oV.kA 0 nP):=by
 refine(oV.lS 0 nP) (λ(b,x,i)=>aa b.2.2.1 - ae i) ?_
 rintro⟨b,x,i⟩ ⟨j,k,I,rfl,A,u,B⟩;have j:aa b.2.2.1<=1000000000:=j;have I:k<=aa b.2.2.1:=I;have A:aa b.2.2.1<=1000:=A;have u:∀t∈b.2.2.1,mE t:=u;have B:aa x<=1000+32*k:=B;by_cases h:k < aa b.2.2.1
 .left;have n1:nth eU b.2.2.1 k=b.2.2.1[k]:=bG (t:=eU) h;have J:bj k b.2.2.1=b.2.2.1[k]::bj (k+1) b.2.2.1:=ak h;refine⟨(b,(aNl x b.2.2.1[k]),((k+1:Nat):Int)),⟨j,k+1,aq,rfl,A,u,by unfold aNl;rw[aj,Hh.1];omega⟩,by simp only[ab];omega,?_,λK L=> ?_⟩
  .simp only[wm,BI,ab,J,bN]
  .rw[Lu,aN aq,aS aq aq,ab,n1];simp only[ai];rw[Lc (d:=b.2.2.1[k]) (u _ (aD h))];simp only[ah,bt,M8];rw[No (d:=(x,mw b.2.2.1[k])) ⟨by show aa x<=_;omega,Hh.1⟩];simp only[ah,bt,Lw];rw[N.iY aq];rfl
 .right;obtain rfl:k=aa b.2.2.1:=aq;intro R K L;rw[Lu,aL aq,al];simp only[wm,BI,ab,ay,dr]
def aoq:(oV.kA 1 nQ):=by
 refine(oV.lS 1 nQ) (λ(b,x,i)=>aa b.2.2.2.2.1 - ae i) ?_
 rintro⟨b,x,i⟩ ⟨j,k,J,rfl,A,u,I⟩;have j:aa b.2.2.2.2.1<=1000000000:=j;have J:k<=aa b.2.2.2.2.1:=J;have A:aa b.2.2.2.2.1<=1000:=A;have u:∀o∈b.2.2.2.2.1,aO1 o:=u;have I:aa x<=100000+43*k:=I;by_cases h:k < aa b.2.2.2.2.1
 .left;have n1:nth bK b.2.2.2.2.1 k=b.2.2.2.2.1[k]:=bG (t:=bK) h;have M:bj k b.2.2.2.2.1=b.2.2.2.2.1[k]::bj (k+1) b.2.2.2.2.1:=ak h;refine⟨(b,(be6 x b.2.2.2.2.1[k]),((k+1:Nat):Int)),⟨j,k+1,aq,rfl,A,u,by have:=TJ [b.2.2.2.2.1[k]] x (λo K=>by rw[bM]at K;subst K;exact u _ (aD h));simp only[bN,dr,aB,bl]at this;omega⟩,by simp only[ab];omega,?_,λO T=> ?_⟩
  .simp only[bt,BJ,ab,M,bN]
  .rw[Lv,aN aq,aS aq aq,ab,n1];simp only[ai];obtain⟨B,L⟩:=u _ (aD h);rw[No (d:=(x,b.2.2.2.2.1[k].1)) ⟨by show aa x<=_;omega,B⟩];simp only[ah,bt,Lw];rw[kz (d:=(x++b.2.2.2.2.1[k].1,b.2.2.2.2.1[k].2.1)) ⟨by show aa (x++b.2.2.2.2.1[k].1)<=_;rw[aj,B];omega,L⟩];simp only[ah,bt,qA];rw[N.iY aq];rfl
 .right;obtain rfl:k=aa b.2.2.2.2.1:=aq;intro R O T;rw[Lv,aL aq,al];simp only[bt,BJ,ab,ay,dr]
def aEA:oV.Ok:=by rintro b ⟨⟨h1,h2⟩,⟨h3,I,h5⟩,h6,J⟩;have T:((0:Int)).toNat=0:=rfl;have p1:=dQ [] b.1;have K:=dQ (cZ [] b.1++b.2.1) (aa b.2.2.1);rw[aj,I]at K;have l0:aa ([]:Bs)=0:=rfl;rw[l0]at p1;have L:=ajU b.2.2.1 (cZ (cZ [] b.1++b.2.1) (aa b.2.2.1));obtain⟨M,u⟩:∃x,cZ (cZ [] b.1++b.2.1) (aa b.2.2.1)=x:=⟨_,rfl⟩;rw[u]at K L;obtain⟨j,A⟩:∃x,b.2.2.1.foldl aNl M=x:=⟨_,rfl⟩;rw[A]at L;have p7:=dQ j b.2.2.2.1;have p8:=dQ (cZ j b.2.2.2.1) (aa b.2.2.2.2.1);obtain⟨O,B⟩:∃x,cZ (cZ j b.2.2.2.1) (aa b.2.2.2.2.1)=x:=⟨_,rfl⟩;have q2:=TJ b.2.2.2.2.1 O J;rw[B]at p8;rw[aEz,kz (d:=(([]:List Int),b.1)) ⟨by show(0:Nat)<=_;omega,h3⟩];simp only[ah,bt,qA];rw[No (d:=(cZ [] b.1,b.2.1)) ⟨by show aa (cZ [] b.1)<=_;omega,I⟩];simp only[ah,bt,Lw];rw[kz (d:=(cZ [] b.1++b.2.1,(aa b.2.2.1:Int))) ⟨by show aa (cZ [] b.1++b.2.1)<=_;rw[aj,I];omega,by show(aa b.2.2.1:Int)<=_;omega⟩];simp only[ah,bt,qA];rw[u,ajs (d:=(b,M,0)) ⟨by show aa b.2.2.1<=_;omega,0,az _,rfl,h1,h2,aq⟩];simp only[ah,wm,BI,T,aH];rw[A,kz (d:=(j,b.2.2.2.1)) ⟨by show aa j<=_;omega,h5⟩];simp only[ah,bt,qA];rw[kz (d:=(cZ j b.2.2.2.1,(aa b.2.2.2.2.1:Int))) ⟨by show aa (cZ j b.2.2.2.1)<=_;omega,by show(aa b.2.2.2.2.1:Int)<=_;omega⟩];simp only[ah,bt,qA];rw[B,aju (d:=(b,O,0)) ⟨by show aa b.2.2.2.2.1<=_;omega,0,az _,rfl,h6,J,aq⟩];simp only[ah,bt,BJ,T,aH,bt,Yq,biu,u,A,B]
def azb:oV.RS:=rE [.d dS] oV
def aEB:=oV.eQ aEA 2 ⟨.eg aoo,⟨.eg aoq,trivial⟩⟩
def bdx{b:cP}(h:aG0 b):aa (biu b)<=1000000:=by obtain⟨⟨J,K⟩,⟨L,j,M⟩,O,u⟩:=h;have B:=dQ [] b.1;have I:=dQ (cZ [] b.1++b.2.1) (aa b.2.2.1);rw[aj,j]at I;have A:aa ([]:Bs)=0:=rfl;rw[A]at B;have q1:=ajU b.2.2.1 (cZ (cZ [] b.1++b.2.1) (aa b.2.2.1));have T:=dQ (b.2.2.1.foldl aNl (cZ (cZ [] b.1++b.2.1) (aa b.2.2.1))) b.2.2.2.1;have p8:=dQ (cZ (b.2.2.1.foldl aNl (cZ (cZ [] b.1++b.2.1) (aa b.2.2.1))) b.2.2.2.1) (aa b.2.2.2.2.1);have q2:=TJ b.2.2.2.2.1 (cZ (cZ (b.2.2.1.foldl aNl (cZ (cZ [] b.1++b.2.1) (aa b.2.2.1))) b.2.2.2.1) (aa b.2.2.2.2.1)) u;unfold biu;omega
def aSl:cP->Prop:=λb=>aG0 b
def aN8:cP->Bs:=λb=>aHo b
def VN:Fs prog aSl bt aN8:=eP 39 f39 (λb=>([.d dS b],[])) (λx=>⟨fW x,[],[]⟩) [aw dS] [aEB,azJ]
def aZX(b)(k:K1 R):VN.A b k=ao (oV.call b) λj=>ao (ajA.call ((⟨#[98,108,111,99,107]⟩:ByteArray),[j])) λu=>k (VN.out u):=bS
def aZY:VN.Ok:=by intro b h;rw[aZX,azb (d:=b) h];simp[Yq];rw[apL (d:=((⟨#[98,108,111,99,107]⟩:ByteArray),[biu b])) (acL fm (bdx h))];rfl
def TS:VN.RS:=rE [.d dS] VN
def aos:=VN.eQ aZY
def aGG(b:cP)(h:Int):∀(l:List di) (k f:Int) {a j:At},rF a j->(dY a).Nodup->(dY j).Nodup->uU b h l k f a=uU b h l k f j
 |[],_,_,_,_,_,_,_=>rfl
 |t::l,k,f,a,j,e,ha,hb=>by rw[uU,uU,e.check t h,aGG b h l _ _ (e.apply ha hb t h) (fT ha) (fT hb)]
def Ai.bo8{m m' n A:Nat}{a:At}{s:List cF}{l:List de}{w:List (List de)}(u:m<=m')(j:Ai m n a s l A w):Ai m' n a s l A w:=⟨j.st.mono u,j.rl,j.eq,j.le,fa j.len u,j.beN.mono u n⟩
abbrev azz:=(List de)×Nat×(List (List de))
abbrev aOn:=(List de)×Nat×(List (List de))
def aST:azz->aOn->(((List de)×Nat×(List (List de)))×((List de)×Nat×(List (List de)))):=λ(u,j,o1) y=>((u,j,o1),y)
def aSS:azz->Prop:=λ(l,n,w)=>aa l<=1000000/\n<=aa w/\aa w<=1000000
def bgi:azz->aOn:=λ(l,n,w)=>(l,n,w.take n)
def ah9:Fs prog aSS aST bgi:=eP 130 f130 (λ(u,j,o1)=>([.ptr (.dx 0) 0 [] 0],[.obj 0 aZ (.pr (.d (.slice fk) u) (.pr (.dq (.dx 1) 0 [] 0 0 j) (.d .unit ()))),.obj 0 aZ (.vec 153 (.slice fk) o1)])) (λx=>⟨.ptr (.new 0 0) 0 [] 0,[.obj 0 aZ (.pr (.d (.slice fk) x.1.1) (.pr (.dq (.dx 1) 0 [] 0 0 x.1.2.1) (.d .unit ()))),.obj 0 aZ (.vec 153 (.slice fk) x.1.2.2)],[.obj 0 aZ (.pr (.d (.slice fk) x.2.1) (.pr (.dq (.new 0 1) 1 [] 0 0 x.2.2.1) (.d .unit ()))),.obj 1 aZ (.vec 153 (.slice fk) x.2.2.2)]⟩) [aC] [] {cd:=[3,9,16],Ec:=[⟨2,[.fst],(.slice fk)⟩]}
def baD(u j o1)(k:K1 R):ah9.A (u,j,o1) k=aA (cM (0+(aa u)) 80) (aA (decide (0=0/\(0+j)<=(aa o1))) (aA (cM (0+(aa (cut o1 0 j))) 24) (aA (decide (0=0/\(0+(0+(aa u)))<=(aa ((aJ 0 (ag 0 (((ag 32 0),(0,())),(((0,((([]:List kF),()),())),(0,())),()))))++u)))) (k (ah9.out ((u,j,o1),((cut ((aJ 0 (ag 0 (((ag 32 0),(0,())),(((0,((([]:List kF),()),())),(0,())),()))))++u) 0 (0+(aa u))),(0+(aa (cut o1 0 j))),((aJ 0 (ag 0 ([]:List de)))++(cut o1 0 j)))))) aC) aC) aC) aC:=bS
def baE:ah9.Ok:=by
 rintro⟨l,n,w⟩ ⟨B,A,I⟩;have j:cut w 0 n=w.take n:=rfl;have u:aa (w.take n)=n:=by grind
 rw[baD];simp only[aO,du,bf,gC];rw[j,u,cg aq aq,aK A,cg aq aq,aK (ax _),dM rfl];rfl
def aSU:ah9.RS:=rE [.d (.slice fk),.n,.d (.slice (.slice fk))] ah9
def baF:=ah9.eQ baE
abbrev CG:=cP×Int×(List de)×Nat×(List (List de))×(List de)×Nat×(List (List de))
def qw:CG->AS:=λ(J,i,o0,B,I,A,u,j)=>⟨([bB,bB,bB,GC J,bB,eI 28,aU i]++aP 49 []),(QQ o0 B I),(bz 28 ([(auT A 28 1 0 0 0 u 153 j)]++bz 27 []))⟩
abbrev abx:=((List de)×Nat×(List (List de)))×(Int)
def jZ:abx->Exit×AS:=λ((a,b,c),e)=>(.ret,⟨(aP 4 ([aU e]++aP 51 [])),(QQ a b c),(ag 56 [])⟩)
abbrev aby:=(List de)×Nat×(List (List de))
def BL:aby->Exit×AS:=λ(a,b,c)=>(.exit 0,⟨(aP 56 []),(QQ a b c),(ag 56 [])⟩)
abbrev Rq:=(abx)⊕(aby)
abbrev ahQ:=(Int)⊕(Unit)
def J0:Rq->Out (Exit×AS):=λx=> .br x.isLeft (.get x.getLeft? λa=> .ok (jZ a)) (.get x.getRight? λb=> .ok (BL b))
def jY:CG->ahQ->Rq:=λ(J,i,o0,j,u,I,B,A) y=>match y with | .inl y=> .inl ((o0,j,u),y) | .inr z=> .inr ((o0,j,u))
abbrev aEC:=cP×(List de)×Nat×(List (List de))
def ai0(b:cP)(h:Int):List di->At->Option Int
 |[],_=>aC
 |t::ts,a=>if akH b t=bn then aw 14 else if(dw t h a).2≠0 then aw (dw t h a).2 else ai0 b h ts (fx t h a)
def bn4:(Int×Int×Int)⊕Int->Option Int
 | .inl x=>aw x.2.2
 | .inr _=>aC
def T8(b:cP)(h:Int):∀(l:List di) (k f:Int) (a:At),bn4 (uU b h l k f a)=ai0 b h l a
 |[],_,_,_=>rfl
 |t::l,k,f,a=>by
  rw[uU,ai0];by_cases e:akH b t=bn
  .rw[av e,av e];rfl
  .rw[au e,au e];by_cases j:(dw t h a).2≠0
   .rw[av j,av j];rfl
   .rw[au j,au j];exact T8 b h l _ _ _
def aCx(b:cP)(h:Int)(l:List di){a j:At}(e:rF a j)(u:(dY a).Nodup)(A:(dY j).Nodup):ai0 b h l a=ai0 b h l j:=by rw[<-T8 b h l 0 0 a,<-T8 b h l 0 0 j,aGG b h l 0 0 e u A]
def ad3(b:cP)(a:At):Int:=if Dy b.1 b.2.2.2.1=bn then(if 4000 < aVK b then 3 else(ai0 b b.1 b.2.2.1 a).getD 0) else 1
def aQt{b:cP}{a:At}(I:(dY a).Nodup):ad3 b a=(nC b a).2:=by
 unfold ad3 nC;by_cases j:Dy b.1 b.2.2.2.1=bn
 .rw[av j,av j];by_cases u:4000 < aVK b
  .rw[av u,av u]
  .rw[au u,au u];obtain⟨A,B⟩:=adM I;rw[<-aCx b b.1 b.2.2.1 A B I,<-T8 b b.1 b.2.2.1 0 0];unfold S8;cases uU b b.1 b.2.2.1 0 0 (jJ a) with
   |inl x=>rfl
   |inr f=>rfl
 .rw[au j,au j]
def bm5(m:Nat)(l:List de)(n:Nat)(w:List (List de)):Prop:=∃j a s,Ai m j a s l n w
def BK:CG->Prop:=λ(b,i,_,_,_,l,n,w)=>(Pg b/\aa b.2.2.1<=12)/\∃k:Nat,k<=aa b.2.2.1/\i=k/\bm5 (860+k) l n w
def nR:CG->ahQ:=λ(b,i,_,_,_,l,_,_)=>match ai0 b b.1 (b.2.2.1.drop i.toNat) (oG l) with | some e=> .inl e | none=> .inr ()
def aJV:aEC->Prop:=λ(b,l,n,w)=>Pg b/\bm5 860 l n w/\aa b.2.2.1<=12
def aor:aEC->(Int×(List de)×Nat×(List (List de))):=λ(b,l,n,w)=>(ad3 b (oG l),l,n,w)
def ahO:=cQ.eg qw BK jY nR J0
def Rr:CG->Option Rq:=eN ahO qw
def u5:Fs prog aJV bt aor:=eP 85 f85 (λ(b,u,j,o1)=>([.ptr (.dx 0) 0 [] 0,.d dS b],[.obj 0 aZ (.pr (.d (.slice fk) u) (.pr (.dq (.dx 1) 0 [] 0 0 j) (.d .unit ()))),.obj 0 aZ (.vec 153 (.slice fk) o1)])) (λx=>⟨.d ti x.1,[.obj 0 aZ (.pr (.d (.slice fk) x.2.1) (.pr (.dq (.dx 1) 0 [] 0 0 x.2.2.1) (.d .unit ()))),.obj 0 aZ (.vec 153 (.slice fk) x.2.2.2)],[]⟩) [aC,aw dS] [aZ1,azf,baF,aSh,aOe] {loops:=ko [(7,{aX:=[3,5,6],sites:=[28],owns:=[⟨5,[.snd,.fst],28,87⟩]})],outs:=km [(7,{},{aX:=[4]})],eT:=jW [(7,ahO)]}
def ahP:= @dm prog (gU u5.G) u5.an 0 f85 0 _ qw
abbrev abw:=gr prog (gU u5.G) u5.an 0 f85 0 qw BK jY nR J0
def asj:fC Rr BK jY nR:=ia (fy [.d dS,.d ti,.d (.slice fk),.n,.d (.slice (.slice fk)),.d (.slice fk),.n,.d (.slice (.slice fk))] λ_=>bS)
def Yr:iX @ahP qw BK jY nR J0 abw:=ji
def zF(I i o0 j B M K J)(O:K2 R)(L:K3 R):ahP (I,i,o0,j,B,M,K,J) O L=aA (fj i (((aa I.2.2.1):Nat):Int)) (aA (dB i (((aa I.2.2.1):Nat):Int)) (ao (uZ.call ((nth eU I.2.2.1 (ae i)),I.2.2.2.2.1)) λx1=>aA (x1) (L (jZ ((o0,j,B),(14:Int))).1 (jZ ((o0,j,B),(14:Int))).2) (aA (dB i (((aa I.2.2.1):Nat):Int)) (ao (TX ((nth eU I.2.2.1 (ae i)),I.1,M,K,J)) λT=>aA T.isLeft (ao T.getLeft? λu=>aA (pb u.1 (0:Int)) (L (jZ ((o0,j,B),u.1)).1 (jZ ((o0,j,B),u.1)).2) (O (qw (I,(bC .i64 i (1:Int)),o0,j,B,u.2.1,u.2.2.1,u.2.2.2)))) (ao T.getRight? λA=>aA (pb A.1 (0:Int)) (L (jZ ((o0,j,B),A.1)).1 (jZ ((o0,j,B),A.1)).2) (O (qw (I,(bC .i64 i (1:Int)),o0,j,B,A.2.1,A.2.2.1,A.2.2.2))))) aC)) aC) (L (BL (o0,j,B)).1 (BL (o0,j,B)).2):=bS
def aSi(b u j o1)(k:K1 R):u5.A (b,u,j,o1) k=ao (abz.call (b.1,1,1048576)) λJ=>aA (!J) (k (u5.out (1,u,j,o1))) (ao (abz.call (b.2.2.2.1,0,4000)) λK=>aA (!K) (k (u5.out (1,u,j,o1))) (aA (qi (aa b.2.2.1:Int) 200) (k (u5.out (3,u,j,o1))) (ao (rp.call b) λL=>aA (qi L 4000) (k (u5.out (3,u,j,o1))) (ao (ah9.call (u,j,o1)) λB=>ao (Rr (b,0,B.1.1,B.1.2.1,B.1.2.2,B.2.1,B.2.2.1,B.2.2.2)) λI=>aA I.isLeft (ao I.getLeft? λA=>k (u5.out (A.2,A.1.1,A.1.2.1,A.1.2.2))) (ao I.getRight? λaBb=>k (u5.out (0,aBb.1,aBb.2.1,aBb.2.2))))))):=bS
def azc:abw:=by
 refine Yr (λ(b,i,_,_,_,_,_,_)=>aa b.2.2.1 - i.toNat) ?_
 rintro⟨b,i,T,n0,w0,l,n,w⟩ ⟨⟨J,Kq⟩,k,hk,rfl,n',a,s,u⟩;have J:Pg b:=J;have Kq:aa b.2.2.1<=12:=Kq;have hk:k<=aa b.2.2.1:=hk;have u:Ai (860+k) n' a s l n w:=u;by_cases O:k < aa b.2.2.1
 .have n1:nth eU b.2.2.1 k=b.2.2.1[k]:=bG (t:=eU) O;have hd:b.2.2.1.drop k=b.2.2.1[k]::b.2.2.1.drop (k+1):=ak O;have hv:=J.1.1.2 _ (aD O);have hi:=J.2.2 _ (aD O);have A:=aJU (d:=(b.2.2.1[k],b.2.2.2.2.1)) ⟨J.1.2.2.1,hi⟩;have eb:aon (b.2.2.1[k],b.2.2.2.2.1)=akH b b.2.2.1[k]:=rfl;by_cases L:akH b b.2.2.1[k]=bn
  .right;refine⟨jZ ((T,n0,w0),14),?_,λkn kx=> ?_⟩;rotate_left
   .rw[zF,aN aq,ai,aS aq aq,ai,ab,n1,A,eb,L];simp only[ah,ai]
   .simp only[jY,nR,ab,hd,ai0,av L];rfl
  .have M:akH b b.2.2.1[k]=aZ:=by simpa using L
   have j:=bac u aq (t:=b.2.2.1[k]) (h:=b.1) hv;have K:=u.rl.check b.2.2.1[k] b.1;by_cases I:(dw b.2.2.1[k] b.1 a).2≠0
   .rw[av I]at j;right;refine⟨jZ ((T,n0,w0),(dw b.2.2.1[k] b.1 a).2),?_,λkn kx=> ?_⟩;rotate_left
    .rw[zF,aN aq,ai,aS aq aq,ai,ab,n1,A,eb,M];simp only[ah,al,ai];rw[j];simp only[ah,j7,ai,iQ];rw[dj I,ai]
    .simp only[jY,nR,ab,hd,ai0,au L,K,av I];rfl
   .rw[au I]at j;have e0:(dw b.2.2.1[k] b.1 a).2=0:=by simpa using I
    have boi:=HO e0;have B:=u.apply boi hv;left;refine⟨(b,((k+1:Nat):Int),T,n0,w0,akz b.2.2.1[k] b.1 l,n+1,w.take n++ [l]),⟨⟨J,Kq⟩,k+1,O,rfl,_,_,_,B⟩,by simp only[ab];omega,?_,λkn kx=> ?_⟩
    .simp only[jY,nR,ab,hd,ai0,au L,K,au I];have ev:rF (fx b.2.2.1[k] b.1 (oG l)) (oG (akz b.2.2.1[k] b.1 l)):=(u.rl.eqv.apply u.rl.nd u.st.wK.1 _ _).trans B.rl.eqv.symm;rw[aCx b b.1 _ ev (fT u.rl.nd) B.rl.nd]
    .rw[zF,aN aq,ai,aS aq aq,ai,ab,n1,A,eb,M];simp only[ah,al,ai];rw[j];simp only[ah,dh,al,cJ];rw[bU rfl,al,N.iY aq]
 .right;obtain rfl:k=aa b.2.2.1:=aq;refine⟨BL (T,n0,w0),?_,λkn kx=> ?_⟩;rotate_left
  .rw[zF,aL aq,al]
  .simp only[jY,nR,ab,ay,ai0];rfl
def Ai.br2{m n j:Nat}{a:At}{s:List cF}{l:List de}{w:List (List de)}(u:Ai m n a s l j w):Ai m n a s l j (w.take j):=by
 have A:=u.le;obtain rfl:=u.eq;have e:aa (w.take j)=j:=by rw[bw];omega
 refine⟨u.st,u.rl,rfl,by rw[e];exact ax _,by rw[e];exact fa A u.len,xo.same j u.beN (λ_ _=>rfl) λk B=> ?_⟩;rw[bG (t:= .slice fk) (show k < aa w by omega),bG (t:= .slice fk) (show k < aa (w.take j) by omega)];show w[k]=(aJ j w)[k];rw[ku]
def bgh{m n j:Nat}{a:At}{s:List cF}{l:List de}{w:List (List de)}(u:Ai m n a s l j w)(J:m<=1000):ah9.call (l,j,w)=aw ((l,j,w),(l,j,w.take j)):=by have A:=u.rl.len;have B:=u.st.biD;have I:=u.len;exact aSU (d:=(l,j,w)) ⟨by grind,by rw[u.eq];exact u.le,by grind⟩
def aSj:u5.Ok:=by
 rintro⟨b,l,n,w⟩ ⟨B,⟨L,a,s,I⟩,J⟩;have B:Pg b:=B;have J:aa b.2.2.1<=12:=J;have I:Ai 860 L a s l n w:=I;rw[aSi,au0 (d:=(b.1,1,1048576)) trivial];simp only[ah,bt,aj9,bt,aor,ad3];by_cases u:1<=b.1/\b.1<=1048576
 case neg=>
  have j:Dy b.1 b.2.2.2.1=aZ:=aV (λx=>u ⟨x.1,x.2.1⟩);rw[aV u,eJ,ai,au (by rw[j];decide)]
 rw[aK u,bW,al,au0 (d:=(b.2.2.2.1,0,4000)) trivial];simp only[ah,bt,aj9];by_cases A:0<=b.2.2.2.1/\b.2.2.2.1<=4000
 case neg=>
  have j:Dy b.1 b.2.2.2.1=aZ:=aV (λx=>A x.2.2);rw[aV A,eJ,ai,au (by rw[j];decide)]
 have j:Dy b.1 b.2.2.2.1=bn:=aK ⟨u.1,u.2,A⟩;rw[aK A,bW,al,av j,ct aq,al,asm (d:=b) ⟨B.1,A.1,by show b.2.2.2.1<=_;omega⟩];simp only[ah,bt,Rs];by_cases K:4000 < aVK b
 .rw[cW aq,ai,av K]
 rw[ct aq,al,au K,bgh I fm];simp only[ah];rw[asj (d:=(b,0,l,n,w,l,n,w.take n)) ⟨⟨B,J⟩,0,az _,rfl,L,a,s,I.br2⟩];simp only[ah,jY,nR,aW,aH];cases ai0 b b.1 b.2.2.1 (oG l) with
 |none=>rfl
 |some e=>rfl
def aJW:u5.RS:=rE [.d dS,.d (.slice fk),.n,.d (.slice (.slice fk))] u5
def aSk:=u5.eQ aSj 1 ⟨.eg azc,trivial⟩
abbrev ahI:=cP×Int×(List de)×Nat×(List (List de))
abbrev aEx:=cP×(List de)×Nat×(List (List de))
abbrev bpV:=List de×Nat×List (List de)
def Pk(h:Int)(S:bpV)(t:di):bpV:=if(dw t h (oG S.1)).2≠0 then S else(akz t h S.1,S.2.1+1,S.2.2.take S.2.1++ [S.1])
def Ai.one{m n u:Nat}{a:At}{s:List cF}{l:List de}{w:List (List de)}(A:Ai m n a s l u w)(h:Int){t:di}(B:mE t):Ai (m+1) (WT h (n,a,s) t).1 (WT h (n,a,s) t).2.1 (WT h (n,a,s) t).2.2 (Pk h (l,u,w) t).1 (Pk h (l,u,w) t).2.1 (Pk h (l,u,w) t).2.2:=by
 have j:=A.rl.check t h;unfold WT Pk;by_cases e:(dw t h a).2≠0
 .rw[av e,av (by rw[j];exact e)];exact A.mono
 .rw[au e,au (by rw[j];exact e)];exact A.apply (HO (by simpa using e)) B
def Ai.all{h:Int}:∀(j:List di) {m n u:Nat} {a:At} {s:List cF} {l:List de} {w:List (List de)},Ai m n a s l u w->(∀t∈j,mE t)->
  Ai (m+aa j) (j.foldl (WT h) (n,a,s)).1 (j.foldl (WT h) (n,a,s)).2.1 (j.foldl (WT h) (n,a,s)).2.2 (j.foldl (Pk h) (l,u,w)).1 (j.foldl (Pk h) (l,u,w)).2.1 (j.foldl (Pk h) (l,u,w)).2.2
 |[],_,_,_,_,_,_,_,A,_=>A
 |t::j,m,n,u,a,s,l,w,A,hv=>by
  have:=Ai.all (h:=h) j (A.one h (hv t aY)) λx B=>hv x (aT _ B)
  rw[bN,bN,aB,show m+(aa j+1)=m+1+aa j by omega];exact this
def asf:ahI->Prop:=λ(b,i,l,n,w)=>(Pg b/\aa b.2.2.1<=12)/\∃k:Nat,k<=aa b.2.2.1/\i=k/\bm5 (840+k) l n w
def CD:ahI->((List de)×Nat×(List (List de))):=λ(b,i,l,n,w)=>(b.2.2.1.drop i.toNat).foldl (Pk b.1) (l,n,w)
def aJR:aEx->Prop:=λ(b,l,n,w)=>Pg b/\bm5 840 l n w/\aa b.2.2.1<=12
def aom:aEx->(Int×(List de)×Nat×(List (List de))):=λ(b,l,n,w)=>(ad3 b (oG l),if ad3 b (oG l)≠0 then(l,n,w) else b.2.2.1.foldl (Pk b.1) (l,n,w))
def rj:Ls asf bt CD:=rI (λ(A,i,o0,j,u)=>⟨([dK,bB,bB,GC A,bB,bB,aU i]++aP 22 []),(anS o0 j u),(ag 29 [])⟩) (λx=>(.exit 0,⟨(aP 29 []),(anS x.1 x.2.1 x.2.2),(ag 29 [])⟩))
def GM:Fs prog aJR bt aom:=eP 41 f41 (λ(b,u,j,o1)=>([.ptr (.dx 0) 0 [] 0,.d dS b],[.obj 0 aZ (.pr (.d (.slice fk) u) (.pr (.dq (.dx 1) 0 [] 0 0 j) (.d .unit ()))),.obj 0 aZ (.vec 153 (.slice fk) o1)])) (λx=>⟨.d ti x.1,[.obj 0 aZ (.pr (.d (.slice fk) x.2.1) (.pr (.dq (.dx 1) 1 [] 0 0 x.2.2.1) (.d .unit ()))),.obj 1 aZ (.vec 153 (.slice fk) x.2.2.2)],[]⟩) [aC,aw dS] [aSk,aOe] {loops:=ko [(5,{aX:=[0,3,6],atv:=[(1,1)]})],outs:=km [(5,{atv:=[(1,1)]},{aX:=[4],atv:=[(1,1)]})],eT:=jW [(5,rj.E)],atv:=[(1,1)]}
def asg:rj.RS:=rL [.d dS,.d ti,.d (.slice fk),.n,.d (.slice (.slice fk))] rj
def GN(A i o0 B I)(J:K2 R)(L:K3 R):GM.R 0 rj (A,i,o0,B,I) J L=aA (fj i (aa A.2.2.1:Int)) (aA (dB i (aa A.2.2.1:Int)) (ao (TX ((nth eU A.2.2.1 (ae i)),A.1,o0,B,I)) λK=>aA K.isLeft (ao K.getLeft? λu=>J (rj.st (A,(bC .i64 i 1),u.2.1,u.2.2.1,u.2.2.2))) (ao K.getRight? λj=>J (rj.st (A,(bC .i64 i 1),j.2.1,j.2.2.1,j.2.2.2)))) aC) (rj.go L (o0,B,I)):=bS
def aSc(b A j o1)(k:K1 R):GM.A (b,A,j,o1) k=ao (u5.call (b,A,j,o1)) λu=>aA (pb u.1 0) (k (GM.out (u.1,u.2.1,u.2.2.1,u.2.2.2))) (ao (rj.call (b,0,u.2.1,u.2.2.1,u.2.2.2)) λB=>k (GM.out (0,B.1,B.2.1,B.2.2))):=bS
def ay7:(GM.kA 0 rj):=by
 refine(GM.lS 0 rj) (λ(b,i,_,_,_)=>aa b.2.2.1 - i.toNat) ?_
 rintro⟨b,i,l,n,w⟩ ⟨⟨I,K⟩,k,T,rfl,n',a,s,J⟩;have I:Pg b:=I;have K:aa b.2.2.1<=12:=K;have T:k<=aa b.2.2.1:=T;have J:Ai (840+k) n' a s l n w:=J;by_cases B:k < aa b.2.2.1
 .left;have n1:nth eU b.2.2.1 k=b.2.2.1[k]:=bG (t:=eU) B;have O:b.2.2.1.drop k=b.2.2.1[k]::b.2.2.1.drop (k+1):=ak B;have hv:=I.1.1.2 _ (aD B);have j:=bac J aq (t:=b.2.2.1[k]) (h:=b.1) hv;have u:=J.rl.check b.2.2.1[k] b.1;have M:=J.one b.1 hv;by_cases L:(dw b.2.2.1[k] b.1 a).2≠0
  .have A:Pk b.1 (l,n,w) b.2.2.1[k]=(l,n,w):=av (by show(dw b.2.2.1[k] b.1 (oG l)).2≠0;rw[u];exact L);rw[av L]at j;rw[A]at M;refine⟨(b,((k+1:Nat):Int),l,n,w),⟨⟨I,K⟩,k+1,B,rfl,_,_,_,M⟩,by simp only[ab];omega,?_,λkn kx=> ?_⟩
   .simp only[bt,CD,ab,O,bN,A]
   .rw[GN,aN aq,ai,aS aq aq,ai,ab,n1,j];simp only[ah,j7,ai,iQ];rw[N.iY aq]
  .have A:Pk b.1 (l,n,w) b.2.2.1[k]=(akz b.2.2.1[k] b.1 l,n+1,w.take n++ [l]):=au (by show ¬(dw b.2.2.1[k] b.1 (oG l)).2≠0;rw[u];exact L);rw[au L]at j;rw[A]at M;refine⟨(b,((k+1:Nat):Int),akz b.2.2.1[k] b.1 l,n+1,w.take n++ [l]),⟨⟨I,K⟩,k+1,B,rfl,_,_,_,M⟩,by simp only[ab];omega,?_,λkn kx=> ?_⟩
   .simp only[bt,CD,ab,O,bN,A]
   .rw[GN,aN aq,ai,aS aq aq,ai,ab,n1,j];simp only[ah,dh,al,cJ];rw[N.iY aq]
 .right;obtain rfl:k=aa b.2.2.1:=aq;intro R kn kx;rw[GN,aL aq,al];simp only[bt,CD,ab,ay,dr]
def aSd:GM.Ok:=by
 rintro⟨b,l,n,w⟩ ⟨B,⟨I,a,s,u⟩,A⟩;have u:Ai 840 I a s l n w:=u;rw[aSc,aJW (d:=(b,l,n,w)) ⟨B,⟨_,_,_,u.bo8 fm⟩,A⟩];simp only[ah,bt,aor,bt,aom];by_cases j:ad3 b (oG l)=0
 .rw[bU j,al,au (λx=>x j),asg (d:=(b,0,l,n,w)) ⟨⟨B,A⟩,0,az _,rfl,I,a,s,u⟩,j];simp only[ah,bt,CD,aW,aH]
 .rw[dj j,ai,av j]
def aJS:GM.RS:=rE [.d dS,.d (.slice fk),.n,.d (.slice (.slice fk))] GM
def aSe:=GM.eQ aSd 1 ⟨.eg ay7,trivial⟩
section
structure aGU(A0:At)(m:Nat)(p:List cP)(l:List de)(n:Nat)(w:List (List de)):Prop where
 bd8:uW A0 (mF p)
 bo:Ai m (aa (mF p)) (iV A0 (mF p)) (mu A0 (mF p)) l n w
 val:∀k (h:k < aa p),PA A0 (p.take k) p[k]=0/\Pg p[k]/\p[k].2.2.1.length<=12
section
variable {A0:At} {m n:Nat} {p:List cP} {l:List de} {w:List (List de)}
def aGU.new{outs:List dW}(j:∀o∈outs,Pj o)(e:Gq outs=aw A0):aGU A0 0 [] (A0.map CP) 0 []:=
 ⟨trivial,⟨(aeB j e).1,bj1 j e,rfl,ax _,ax _,trivial⟩,λk h=>(by cases h)⟩
def aGU.mono(h:aGU A0 m p l n w){m':Nat}(j:m<=m'):aGU A0 m' p l n w:=⟨h.bd8,h.bo.bo8 j,h.val⟩
def aGU.err(h:aGU A0 m p l n w)(b:cP):ad3 b (oG l)=(nC b (iV A0 (mF p))).2:=
 (aQt h.bo.rl.nd).trans (bA (·.2) (auO h.bo.rl.eqv h.bo.rl.nd h.bo.st.wK.1))
def aGU.aRx(h:aGU A0 m p l n w):(dY (iV A0 (mF p))).Nodup:=h.bo.st.wK.1
def aGU.add(h:aGU A0 m p l n w){b:cP}(A:Pg b)(K:aa b.2.2.1<=12)(e:PA A0 p b=0):
  aGU A0 (m+aa b.2.2.1) (p++ [b]) (b.2.2.1.foldl (Pk b.1) (l,n,w)).1 (b.2.2.1.foldl (Pk b.1) (l,n,w)).2.1 (b.2.2.1.foldl (Pk b.1) (l,n,w)).2.2:=by
 have I:(nC b (iV A0 (mF p))).2=0:=by grind [PA]
 have B:=Yb A h.aRx I;have u:=YE (mF p) A0;obtain⟨J,M,O,T,e4,_⟩:=adH b.1 b.2.2.1 (s:=mu A0 (mF p)) B (pU u.symm);have L:=Ai.all (h:=b.1) b.2.2.1 h.bo A.1.1.2;have hs:J=mu A0 (mF (p++ [b])):=by grind [G9,bp,mF,aAm]
 have hl:aa (mF (p++ [b]))=aa (mF p)+aa b.2.2.1:=by simp[mF,aAm]
 have ha:iV A0 (mF (p++ [b]))=iV (iV A0 (mF p)) (aAm b):=by simp[FN,mF]
 refine⟨?_,?_,λk hk=> ?_⟩
 .rw[Fy,Fz,FZ];exact⟨h.bd8,B⟩
 .grind [aAm]
 .by_cases j:k < aa p
  .rw[List.getElem_append_left j,iA aq];exact h.val k j
  grind
end
abbrev aq9:=List dW×Nat×List cP×List de×Nat×List (List de)
def rR(b:cP)(S:aq9):Int×aq9:=if b.2.1=oz S.2.1 S.2.2.1/\b.1=(S.2.1:Int)+1 then(ad3 b (oG S.2.2.2.1),if ad3 b (oG S.2.2.2.1)≠0 then S else(S.1,S.2.1+1,S.2.2.1.take S.2.1++ [b],b.2.2.1.foldl (Pk b.1) (S.2.2.2.1,S.2.2.2.2.1,S.2.2.2.2.2))) else(1,S)
def Zb(j:At)(m:Nat)(S:aq9):Prop:=aGU j m S.2.2.1 S.2.2.2.1 S.2.2.2.2.1 S.2.2.2.2.2/\S.2.2.1.length=S.2.1/\S.2.1<=1000
def bcY(b:cP):Prop:=Pg b/\aa b.2.2.1<=12
def Zb.mono{j:At}{m m':Nat}{S:aq9}(h:Zb j m S)(u:m<=m'):Zb j m' S:=⟨h.1.mono u,h.2⟩
def Zb.add{j:At}{m:Nat}{S:aq9}(h:Zb j m S)(L:S.2.1 < 1000){b:cP}(J:bcY b):
  (rR b S).1=PA j S.2.2.1 b/\((PA j S.2.2.1 b≠0/\(rR b S).2=S)\/(PA j S.2.2.1 b=0/\Zb j (m+aa b.2.2.1) (rR b S).2/\(rR b S).2.1=S.1/\(rR b S).2.2.2.1=S.2.2.1++ [b])):=by
 obtain⟨outs,nb,bs,l,n,w⟩:=S;obtain⟨I,B,M⟩:=h;have B:aa bs=nb:=B;subst B;have K:PA j bs b=if b.2.1=oz (aa bs) bs/\b.1=(aa bs:Int)+1 then ad3 b (oG l) else 1:=by unfold PA;rw[I.err b]
 simp only[rR,bI];rw[K];by_cases A:b.2.1=oz (aa bs) bs/\b.1=(aa bs:Int)+1
 .rw[av A,av A];refine⟨rfl,?_⟩;by_cases u:ad3 b (oG l)=0
  .right;rw[au (λx=>x u)];exact⟨u,⟨I.add J.1 J.2 (by rw[K,av A];exact u),aj,L⟩,rfl,rfl⟩
  .left;rw[av u];exact⟨u,rfl⟩
 .rw[au A,au A];exact⟨rfl,.inl ⟨fm,rfl⟩⟩
def Zb.bqX{j:At}{m:Nat}{S:aq9}(h:Zb j m S):aAM S.2.1 S.2.2.1:=by refine⟨pU h.2.1.symm,by have:=h.2.2;omega,λb u=> ?_⟩;obtain⟨k,A,rfl⟩:=List.getElem_of_mem u;exact(h.1.val k A).2.1.1
def aNH:∀(outs:List dW) (j:Int) (k:Nat) {a:At},EC j k outs=aw a->∀o∈outs,lN o.2.1=bn
 |[],_,_,_,_,o,ho=>(by cases ho)
 |x::outs,j,k,a,e,o,ho=>by
  rw[EC]at e;cases u:sU j x with
  |false=>rw[u]at e;cases e
  |true=>
   rw[u]at e;rcases cr.1 ho with rfl | ho
   .unfold sU at u;simp only[aQ]at u;exact u.1
   .simp only at e;cases A:EC (j+x.1) (k+1) outs with
    |none=>rw[A]at e;cases e
    |some r=>exact aNH outs _ _ A o ho
def bk8(outs:List dW):Prop:=aa outs<=256/\∀o∈outs,aa o.2.1.1<=1000/\∀b∈o.2.1.1,aa b.1<=1000000
def bjK{outs:List dW}{a:At}(e:Gq outs=aw a):bk8 outs:=by
 unfold Gq at e;split at e
 .rename_i u;refine⟨u,λo A=> ?_⟩;have:=Qr (aNH _ _ _ e o A);exact⟨aq,λb j=>by have:=this.2 b j;omega⟩
 .cases e
abbrev bal:=(List dW)×Nat×(List cP)×(List de)×Nat×(List (List de))
def aOh:bal->Int->(((List dW)×Nat×(List cP)×(List de)×Nat×(List (List de)))×(Int)):=λ(A,j,o1,B,u,I) y=>((A,j,o1,B,u,I),y)
def bf9:bal->Prop:=λ_=>True
def bh4:bal->Int:=λ(_,nb,_)=>(nb:Int)
def aNW(j u A B I J):=([.obj 0 aZ (.pr (.d (.slice dI) j) (.pr (.dq (.dx 1) 0 [] 0 0 u) (.pr (qp 2 0 0) (.d .unit ())))),.obj 0 aZ (.vec 48 dS A),.obj 0 aZ (.pr (.d (.slice fk) B) (.pr (.dq (.dx 3) 0 [] 0 0 I) (.d .unit ()))),.obj 0 aZ (.vec 153 (.slice fk) J)]:List dR)
def bmA:Fs prog bf9 aOh bh4:=eP 47 f47 (λ(A,j,o1,B,u,I)=>([dK],(aNW A j o1 B u I))) (λx=>⟨aU x.2,(aNW x.1.1 x.1.2.1 x.1.2.2.1 x.1.2.2.2.1 x.1.2.2.2.2.1 x.1.2.2.2.2.2),[]⟩) [aC]
def bjZ:bmA.Ok:=by rintro d _;rfl
def bga:bmA.RS:=rE [.d (.slice dI),.n,.d (.slice dS),.d (.slice fk),.n,.d (.slice (.slice fk))] bmA
def bj0:=bmA.eQ bjZ
abbrev azx:=(List dW)×Nat×(List cP)×(List de)×Nat×(List (List de))
def ae7:azx->Bs->(((List dW)×Nat×(List cP)×(List de)×Nat×(List (List de)))×(Bs)):=λ(A,j,o1,B,u,I) y=>((A,j,o1,B,u,I),y)
def aSQ:azx->Prop:=λ(_,nb,bs,_)=>aAM nb bs
def azy:azx->Bs:=λ(_,nb,bs,_)=>oz nb bs
def ah8:Fs prog aSQ ae7 azy:=eP 40 f40 (λ(A,j,o1,B,u,I)=>([dK],(aNW A j o1 B u I))) (λx=>⟨fW x.2,(aNW x.1.1 x.1.2.1 x.1.2.2.1 x.1.2.2.2.1 x.1.2.2.2.2.1 x.1.2.2.2.2.2),[]⟩) [aC] [aos]
def bax(A j o1 B u I)(k:K1 R):ah8.A (A,j,o1,B,u,I) k=aA (oC ((j:Nat):Int) 0) (k (ah8.out ((A,j,o1,B,u,I),(ag 32 0)))) (aA (dB (cY .i64 ((j:Nat):Int) 1) ((j:Nat):Int)) (aA (decide ((0+(ae (cY .i64 ((j:Nat):Int) 1))) < (aa o1))) (aA (decide ((((0+(ae (cY .i64 ((j:Nat):Int) 1)))*36)+0)=(0+((ae (cY .i64 ((j:Nat):Int) 1))*36)))) (ao (VN.call (nth dS o1 (0+(ae (cY .i64 ((j:Nat):Int) 1))))) λJ=>k (ah8.out ((A,j,o1,B,u,I),J))) aC) aC) aC):=bS
def bay:ah8.Ok:=by
 rintro⟨outs,nb,bs,l,n,w⟩ ⟨A,B,J⟩;have A:nb<=aa bs:=A;have B:nb<=1000000:=B;rw[bax];simp only[ae7,azy,oz];by_cases u:nb=0
 .rw[dC aq,ai,av u]
 .obtain⟨k,rfl⟩:∃k,nb=k+1:=⟨nb - 1,aq⟩;have j:k < aa bs:=aq;have I:cY .i64 (((k+1:Nat)):Int) 1=(k:Int):=by rw[eO aq aq];omega
  have n1:nth dS bs k=bs[k]:=bG (t:=dS) j;rw[eZ aq,al,au u,I,aS aq aq,ai];simp only[ab,aO,bY,aK j,ai,bE,lW,n1];rw[TS (d:=bs[k]) (J _ (aD j))];rfl
def aSR:ah8.RS:=rE [.d (.slice dI),.n,.d (.slice dS),.d (.slice fk),.n,.d (.slice (.slice fk))] ah8
def baz:=ah8.eQ bay
abbrev GU:=(List dW)×Int×(List de)×Nat×(List (List de))×Nat×(List dW)
def aZR(j):=(.pr (uJ 73 j) (.pr (.fR) (.pr (eI 10) Pv)):aF)
def xN:GU->AS:=λ(J,i,I,u,A,j,B)=>⟨([qX J,bB,bB,bB,eI 15,aU i]++aP 71 []),[],(bz 10 ([(auT I 10 1 0 0 0 u 153 A)]++bz 4 ([dp (aZR j)]++bz 57 [dp (vm B),[],[],[]])))⟩
abbrev Iz:=(List de)×Nat×(List (List de))×(List dW)×(List dW)
def ET:Iz->Exit×AS:=λ(a,b,c,e,f)=>(.exit 0,⟨(aP 4 ([eI 15]++aP 72 [])),[],(bz 10 ([(auT a 10 1 0 0 0 b 153 c)]++bz 4 ([dp (.pr (qX e) (.pr (.fR) (.pr (eI 10) Pv)))]++bz 57 [[.obj 0 bn (vm f)],[],[],[]])))⟩)
def abP:Iz->Out (Exit×AS):=λx=> .ok (ET x)
def uC:GU->((List de)×Nat×(List (List de))×(List dW)×(List dW))->Iz:=λ(J,i,I,u,A,j,B) y=>y
abbrev GV:=(List dW)×Int×Int×Int×Nat×(List de)×Nat×(List (List de))×Nat×(List kF)×(List dW)
def xO:GV->AS:=λ(M,L,O,n6,B,j,J,u,K,I,A)=>⟨([qX M,bB,bB,bB,eI 15,aU L,eI 6,aU O]++aP 69 []),[],(bz 6 ([dp (auU n6 63 B),[],[],[],(auT j 10 1 0 0 0 J 153 u)]++bz 4 ([dp (aZR K)]++bz 47 ([dp (Ic I)]++bz 9 [dp (vm A),[],[],[]]))))⟩
abbrev IA:=((List dW)×Int×Int×(List de)×Nat×(List (List de))×Nat×(List dW))×(Nat×(List kF))
def EV:IA->Exit×AS:=λ((a,b,c,e,f,g,h,i),j,k)=>(.exit 2,⟨([qX a,bB,bB,bB,eI 15,aU b,eI 6]++aP 70 []),[],(bz 6 ([dp (auU c 63 j),[],[],[],(auT e 10 1 0 0 0 f 153 g)]++bz 4 ([dp (aZR h)]++bz 47 ([dp (Ic k)]++bz 9 [dp (vm i),[],[],[]]))))⟩)
def abR:IA->Out (Exit×AS):=λx=> .ok (EV x)
def qB:GV->(Nat×(List kF))->IA:=λ(M,L,O,n6,J,j,B,u,I,K,A) y=>((M,L,n6,j,B,u,I,A),y)
abbrev abM:=(List dW)
def ao1:abM->SA:=λouts=>([qX outs],[])
abbrev aOj:=(Unit)⊕((List dW)×(List cP)×(List de)×Nat×(List (List de)))
abbrev akb:=(Unit)⊕((List dW)×(List cP)×(List de)×Nat×(List (List de)))
def aN6(j):=(fp (.vec 153 (.slice fk) j):dR)
def TZ:akb->hZ:=λx=>match x with | .inl x=>⟨.qW,[],[]⟩ | .inr x=>⟨eI 0,[],[fp (.pr (qX x.1) (.pr (CB 0 1 0 0 0 0) (.pr (gB 0 2 0 0) Pv))),Vr x.2.1,fp (.pr (Vs x.2.2.1) (CA 0 3 0 0 0 x.2.2.2.1)),aN6 x.2.2.2.2]⟩
def LA:abM->aOj->akb:=λouts y=>match y with | .inl y=> .inl y | .inr y=> .inr y
def EU:GV->Prop:=λ(outs,j,i,A,L,l,n,w,u,r,B)=>aa ((nth dI outs (ae j)).2.1.1)<=1000000/\∃k:Nat,k<=aa ((nth dI outs (ae j)).2.1.1)/\i=k/\L=aa (r)/\aa (r)<=1000000+k/\(0<=j/\j < (aa outs:Int))/\(∀x∈(nth dI outs (ae j)).2.1.1,aa x.1<=1000000)
def xe:GV->(Nat×(List kF)):=λ(outs,j,i,A,L,l,n,w,u,r,B)=>(L+aa (bj (ae i) (nth dI outs (ae j)).2.1.1),r++(bj (ae i) (nth dI outs (ae j)).2.1.1).map (λx:kF=>x))
def ES:GU->Prop:=λ(outs,i,_,_,_,L,r)=>bk8 outs/\∃k:Nat,k<=aa outs/\i=k/\L=aa r/\aa r=k
def AY:GU->((List de)×Nat×(List (List de))×(List dW)×(List dW)):=λ(outs,i,l,n,w,_,r)=>(l,n,w,r++outs.drop i.toNat,r++outs.drop i.toNat)
def aeY:abM->Prop:=λouts=>∀o∈outs,Pj o
def TY:abM->aOj:=λouts=>match Gq outs with | none=> .inl () | some a=> .inr (outs,[],a.map CP,0,[])
def abN:qN:=gU (P:=prog) [bgp]
def aoX:=cQ.eg xN ES uC AY abP
def VU:GU->Option Iz:=eN aoX xN
def aoZ:=cQ.eg xO EU qB xe abR
def VW:GV->Option IA:=eN aoZ xO
def RI:yu:= {cd:=[15,51],loops:=ko [(6,{aX:=[0,4,5],sites:=[10,15,73],owns:=[⟨4,[.fst],73,22⟩]}),(10,{aX:=[0,4,5,6,7],sites:=[6,10,15,63,73],owns:=[⟨6,[.snd,.fst,.fst],63,63⟩]})],outs:=km [(6,{aX:=[4],sites:=[10,15,73],Ec:=[⟨4,[.fst],(.slice dI)⟩]},{aX:=[2]}),(10,{aX:=[0,4,5,6],sites:=[6,10,15,63,73]},{aX:=[2]})],eT:=jW [(6,aoX),(10,aoZ)],owns:=[⟨2,[.snd,.fst],0,41⟩]}
def aOi:= @FI prog abN RI 0 f6 _ ao1
abbrev bam:=WS @aOi aeY LA TY TZ
def aoY:= @dm prog abN RI 0 f6 0 _ xN
abbrev ah2:=gr prog abN RI 0 f6 0 xN ES uC AY abP
def ao0:= @dm prog abN RI 0 f6 1 _ xO
abbrev ah3:=gr prog abN RI 0 f6 1 xO EU qB xe abR
def azs:fC VU ES uC AY:=ia (fy [.d (.slice dI),.d ti,.d (.slice fk),.n,.d (.slice (.slice fk)),.n,.d (.slice dI)] λ_=>bS)
def abO:aiV @aoY xN ES uC AY ET ah2:=ark
theorem VV(K i J B I A u)(L:K2 R)(M:K3 R):aoY (K,i,J,B,I,A,u) L M=aA (fj i (((aa K):Nat):Int)) (aA (dB i (((aa K):Nat):Int)) (ao (VW (K,i,(0:Int),(nth dI K (ae i)).1,0,J,B,I,A,([]:List kF),u)) λj=>aA (decide (0=0/\(0+j.2.1)<=(aa j.2.2))) (aA (decide (j.1.2.2.2.2.2.2.1<=(aa j.1.2.2.2.2.2.2.2))) (aA (cM (j.1.2.2.2.2.2.2.1+1) 32) (L (xN (j.1.1,(bC .i64 j.1.2.1 (1:Int)),j.1.2.2.2.1,j.1.2.2.2.2.1,j.1.2.2.2.2.2.1,(j.1.2.2.2.2.2.2.1+1),((aJ j.1.2.2.2.2.2.2.1 j.1.2.2.2.2.2.2.2)++ [(j.1.2.2.1,(((cut j.2.2 0 j.2.1),()),()))])))) aC) aC) aC) aC) (aA (decide (0=0/\(0+A)<=(aa u))) (M (ET (J,B,I,(cut u 0 A),u)).1 (ET (J,B,I,(cut u 0 A),u)).2) aC):=bS
def azt:fC VW EU qB xe:=ia (fy [.d (.slice dI),.d ti,.d ti,.d ti,.n,.d (.slice fk),.n,.d (.slice (.slice fk)),.n,.d (.slice iq),.d (.slice dI)] λ_=>bS)
def abQ:aiV @ao0 xO EU qB xe EV ah3:=ark
def VX(u j B n6 A J M K O I L)(T:K2 R)(kx:K3 R):ao0 (u,j,B,n6,A,J,M,K,O,I,L) T kx=aA (dB j (((aa u):Nat):Int)) (aA (fj B (((aa (nth dI u (ae j)).2.1.1):Nat):Int)) (aA (dB j (((aa u):Nat):Int)) (aA (dB B (((aa (nth dI u (ae j)).2.1.1):Nat):Int)) (aA (cM (0+(aa (nth iq (nth dI u (ae j)).2.1.1 (ae B)).1)) 8) (aA (decide (0=0/\(0+(0+(aa (nth iq (nth dI u (ae j)).2.1.1 (ae B)).1)))<=(aa ((aJ 0 (ag 0 (0:Int)))++(nth iq (nth dI u (ae j)).2.1.1 (ae B)).1)))) (aA (decide (A<=(aa I))) (aA (cM (A+1) 48) (T (xO (u,j,(bC .i64 B (1:Int)),n6,(A+1),J,M,K,O,((aJ A I)++ [((cut ((aJ 0 (ag 0 (0:Int)))++(nth iq (nth dI u (ae j)).2.1.1 (ae B)).1) 0 (0+(aa (nth iq (nth dI u (ae j)).2.1.1 (ae B)).1))),((nth iq (nth dI u (ae j)).2.1.1 (ae B)).2.1,((nth iq (nth dI u (ae j)).2.1.1 (ae B)).2.2.1,((nth iq (nth dI u (ae j)).2.1.1 (ae B)).2.2.2.1,()))))]),L))) aC) aC) aC) aC) aC) aC) (kx (EV ((u,j,n6,J,M,K,O,L),(A,I))).1 (EV ((u,j,n6,J,M,K,O,L),(A,I))).2)) aC:=bS
def ban(outs)(k:K1 R):aOi outs k=ao (avK outs) λA=>aA A.isLeft (ao A.getLeft? λB=>k (TZ (.inl ()))) (ao A.getRight? λj=>ao (VU (outs,(0:Int),j.1,0,j.2,0,([]:List dW))) λu=>k (TZ (.inr (u.2.2.2.1,([]:List cP),u.1,u.2.1,u.2.2.1)))):=bS
def aE5:ah3:=by
 refine abQ (λ(outs,j,i,J,L,l,n,w,I,r,M)=>aa ((nth dI outs (ae j)).2.1.1) - ae i) ?_
 rintro⟨outs,j,i,J,L,l,n,w,I,r,M⟩ ⟨u,k,K,rfl,rfl,O,A,B⟩;have u:aa ((nth dI outs (ae j)).2.1.1)<=1000000:=u;have K:k<=aa ((nth dI outs (ae j)).2.1.1):=K;have O:aa (r)<=1000000+k:=O;have A:0<=j/\j < (aa outs:Int):=A;have B:∀x∈(nth dI outs (ae j)).2.1.1,aa x.1<=1000000:=B;by_cases h:k < aa ((nth dI outs (ae j)).2.1.1)
 .left;have n1:nth iq (nth dI outs (ae j)).2.1.1 k=(nth dI outs (ae j)).2.1.1[k]:=bG (t:=iq) h;have T:bj k (nth dI outs (ae j)).2.1.1=(nth dI outs (ae j)).2.1.1[k]::bj (k+1) (nth dI outs (ae j)).2.1.1:=ak h;refine⟨(outs,j,((k+1:Nat):Int),J,aa (r)+1,l,n,w,I,r++ [(λx:kF=>x) (nth dI outs (ae j)).2.1.1[k]],M),⟨u,k+1,aq,rfl,by rw[aj];rfl,by rw[aj];show aa (r)+1<=_;omega,A,B⟩,by simp only[ab];omega,?_,λkn kx=> ?_⟩
  .simp only[qB,xe,ab,T,cq,aB,aR,cv];rw[show ∀a c:Nat,a+1+c=a+(c+1) from λa c=>aq]
  .rw[VX,aS A.1 A.2,ai,aN aq,aS (show(0:Int)<=(k:Int) by omega) aq,ab,n1];simp only[ai];have e:=B _ (aD h);have hr:cM (nth dI outs (ae j)).2.1.1[k].1.length 8=bn:=cg aq aq;simp only[aO,du,bf,hr,ai,ax,fY,bE,dM];rw[cg aq aq,N.iY aq,bI];rfl
 .right;obtain rfl:k=aa ((nth dI outs (ae j)).2.1.1):=aq;intro R kn kx;rw[VX,aS A.1 A.2,ai,aL aq,al];simp only[qB,xe,ab,ay,gm,bm,bl,bY]
def aE4:ah2:=by
 refine abO (λ(outs,i,_)=>aa outs - i.toNat) ?_
 rintro⟨outs,i,l,n,w,L,r⟩ ⟨⟨u,A⟩,k,B,rfl,rfl,I⟩;by_cases h:k < aa outs
 .left;have n1:=bG (t:=dI) h;have j:(nth dI outs (ae (k:Int))).2.1.1=outs[k].2.1.1:=by grind
  refine⟨(outs,((k+1:Nat):Int),l,n,w,aa r+1,r++ [outs[k]]),⟨⟨u,A⟩,k+1,h,rfl,by grind,by grind⟩,by grind,?_,λJ K=> ?_⟩
  .simp[uC,AY]
  .rw[VV,aN aq,aS aq aq,ab,n1];rw[azt (d:=(outs,(k:Int),0,outs[k].1,0,l,n,w,aa r,[],r)) ⟨by grind,0,az _,rfl,rfl,az _,⟨by grind,by grind⟩,by grind⟩];simp only[ah,qB,xe,j,bf,aO,List.map_id',ax,dM];rw[cg aq aq,N.iY aq,bI];rfl
 grind [VV,aL,al,ai,dM,uC,AY,ay]
def bao:bam:=by
 intro outs j;rw[ban,baZ (d:=outs) j];simp[RT,apv,TY];cases e:Gq outs with
 |none=>rfl
 |some a=>
  simp;rw[azs (d:=(outs,0,a.map CP,0,[],0,[])) ⟨bjK e,0,az _,rfl,rfl,rfl⟩];rfl
def aka:=Entry.Ug [aw (.slice dI)] ao1 aeY LA TY TZ
def GW:abM->Option akb:=Du aka ao1
def avl:fC GW aeY LA TY:=LN (Pp [.d (.slice dI)] λ_=>bS)
def aE6:SG prog:=⟨6,jh,aka,.of (.aOE (.fn 2 bS bao (iD (.eg aE4 bS) (iD (.eg aE5 bS) trivial)))) (by rfl)⟩
def aKH.E:Entry:=Entry.half [aw (.slice dI)] (X:=akb) (Z:=(List dW)×(List cP)×(List de)×Nat×(List (List de))) aka.run aka.out Sum.inr Sum.getRight?
def aKH.sg:SG prog:=⟨6,jh,aKH.E,yw.of (tD.half bhB (aE6.h.1 (by rfl))) (by rfl)⟩
abbrev Yv:=cP×Int×(List dW)×Nat×(List cP)×(List de)×Nat×(List (List de))×Int×Bs×Nat×Int×Nat×(List bO)×(List di)
abbrev aoW:=Nat×(List di)
def ER:Yv->aoW->(((List dW)×Nat×(List cP)×(List de)×Nat×(List (List de))×Int×Bs×Int×Nat×(List bO))×(Nat×(List di))):=λ(eC,i,o0,I,L,T,J,M,n6,u,K,j,A,B,O) y=>((o0,I,L,T,J,M,n6,u,j,A,B),y)
abbrev aOg:=cP×(List dW)×Nat×(List cP)×(List de)×Nat×(List (List de))
def azq:Yv->Prop:=λ(b,i,o1,J,K,M,O,T,j,u,L,A,B,I,r)=>aa b.2.2.1<=1000000/\∃k:Nat,k<=aa b.2.2.1/\i=k/\L=aa (r)/\aa (r)<=1000000+k/\(∀t∈b.2.2.1,aMt t)
def Nt:Yv->aoW:=λ(b,i,o1,J,K,M,O,T,j,u,L,A,B,I,r)=>(L+aa (bj (ae i) b.2.2.1),r++(bj (ae i) b.2.2.1).map (λx:di=>x))
def aSO:aOg->Prop:=λ(b,S)=>bcY b/\∃j m,Zb j m S/\m<=800
def azp:aOg->(Int×(List dW)×Nat×(List cP)×(List de)×Nat×(List (List de))):=λ(b,S)=>rR b S
def aa7(j):=(.obj 1 aZ (.vec 38 bK j):dR)
def bh2(j u A B I J):=([fp (.pr (qX j) (.pr (.dq (.dx 1) 0 [] 0 0 u) (.pr (qp 2 0 0) Pv))),Vr A,fp (.pr (.d (.slice fk) B) (C7 3 1 0 0 I)),.obj 1 aZ (.vec 153 (.slice fk) J)]:List dR)
def zO:Ls azq ER Nt:=rI (λ(O,i,o0,K,M,o2,L,T,n6,u,B,j,A,I,J)=>⟨([dK,bB,bB,GC O,bB,bB,eI 6,aU i]++aP 64 []),(bh2 o0 K M o2 L T),(bz 6 ([dp (.pr (aU n6) (.pr (fW u) (.pr (uJ 60 B) (.pr (aU j) (CA 39 0 1 0 0 A)))))]++bz 32 ([[aa7 I]]++bz 20 ([dp (.vec 55 eU J)]++bz 11 []))))⟩) (λx=>(.exit 0,⟨([dK]++aP 5 ([eI 6]++aP 65 [])),(bh2 x.1.1 x.1.2.1 x.1.2.2.1 x.1.2.2.2.1 x.1.2.2.2.2.1 x.1.2.2.2.2.2.1),(bz 6 ([dp (.pr (aU x.1.2.2.2.2.2.2.1) (.pr (fW x.1.2.2.2.2.2.2.2.1) (.pr (uJ 60 x.2.1) (.pr (aU x.1.2.2.2.2.2.2.2.2.1) (CA 39 0 1 0 0 x.1.2.2.2.2.2.2.2.2.2.1)))))]++bz 32 ([[aa7 x.1.2.2.2.2.2.2.2.2.2.2]]++bz 20 ([dp (.vec 55 eU x.2.2)]++bz 11 []))))⟩))
def GS:Fs prog aSO bt azp:=eP 11 f11 (λ(b,A,j,o1,B,u,I)=>([.ptr (.dx 0) 0 [] 0,.d dS b],[.obj 0 aZ (.pr (.d (.slice dI) A) (.pr (.dq (.dx 1) 0 [] 0 0 j) (.pr (.ptr (.dx 2) 0 [] 0) (.d .unit ())))),.obj 0 aZ (.vec 48 dS o1),.obj 0 aZ (.pr (.d (.slice fk) B) (.pr (.dq (.dx 3) 0 [] 0 0 u) (.d .unit ()))),.obj 0 aZ (.vec 153 (.slice fk) I)])) (λx=>⟨.d ti x.1,[.obj 0 aZ (.pr (.d (.slice dI) x.2.1) (.pr (.dq (.dx 1) 1 [] 0 0 x.2.2.1) (.pr (.ptr (.dx 2) 0 [] 0) (.d .unit ())))),.obj 1 aZ (.vec 48 dS x.2.2.2.1),.obj 0 aZ (.pr (.d (.slice fk) x.2.2.2.2.1) (.pr (.dq (.dx 3) 1 [] 0 0 x.2.2.2.2.2.1) (.d .unit ()))),.obj 1 aZ (.vec 153 (.slice fk) x.2.2.2.2.2.2)],[]⟩) [aC,aw dS] [baz,aSe,an6] {cd:=[39],loops:=ko [(8,{aX:=[0,3,6,7],sites:=[6,39,60],owns:=[⟨6,[.snd,.snd,.fst],60,34⟩]})],outs:=km [(8,{aX:=[0,6],sites:=[6,39,60]},{aX:=[4]})],eT:=jW [(8,zO.E)],atv:=[(1,1),(3,1)]}
def azr:zO.RS:=rL [.d dS,.d ti,.d (.slice dI),.n,.d (.slice dS),.d (.slice fk),.n,.d (.slice (.slice fk)),.d ti,.d tB,.n,.d ti,.n,.d (.slice bK),.d (.slice eU)] zO
def VT(O i o0 L T o2 M mc n6 I j B J K u)(kn:K2 R)(kx:K3 R):GS.R 0 zO (O,i,o0,L,T,o2,M,mc,n6,I,j,B,J,K,u) kn kx=aA (fj i (aa O.2.2.1:Int)) (aA (dB i (aa O.2.2.1:Int)) (ao (nH.call (nth eU O.2.2.1 (ae i))) λA=>aA (decide (0=0/\(0+A.1)<=(aa A.2.2.2.1))) (aA (decide (0=0/\(0+A.2.1)<=(aa A.2.2.2.2))) (aA (decide (j<=(aa u))) (aA (cM (j+1) 56) (kn (zO.st (O,(bC .i64 i 1),o0,L,T,o2,M,mc,n6,I,(j+1),B,J,K,((aJ j u)++ [((cut A.2.2.2.1 0 A.1),((cut A.2.2.2.2 0 A.2.1),A.2.2.1))])))) aC) aC) aC) aC) aC) (zO.go kx ((o0,L,T,o2,M,mc,n6,I,B,J,K),(j,u))):=bS
def baj(b J A o1 K B L)(k:K1 R):GS.A (b,J,A,o1,K,B,L) k=ao (ah8.call (J,A,o1,K,B,L)) λj=>aA (!(Ty.beq tH b.2.1 j.2)) (k (GS.out (1,j.1.1,j.1.2.1,j.1.2.2.1,j.1.2.2.2.1,j.1.2.2.2.2.1,j.1.2.2.2.2.2))) (aA (pb b.1 (bC .i64 ((j.1.2.1:Nat):Int) 1)) (k (GS.out (1,j.1.1,j.1.2.1,j.1.2.2.1,j.1.2.2.2.1,j.1.2.2.2.2.1,j.1.2.2.2.2.2))) (ao (GM.call (b,j.1.2.2.2.1,j.1.2.2.2.2.1,j.1.2.2.2.2.2)) λI=>aA (pb I.1 0) (k (GS.out (I.1,j.1.1,j.1.2.1,j.1.2.2.1,I.2.1,I.2.2.1,I.2.2.2))) (aA (cM (0+(aa b.2.2.2.2.1)) 40) (ao (zO.call (b,0,j.1.1,j.1.2.1,j.1.2.2.1,I.2.1,I.2.2.1,I.2.2.2,b.1,b.2.1,0,b.2.2.2.1,(0+(aa b.2.2.2.2.1)),((aJ 0 (ag 0 ((ag 32 0),(0,()))))++b.2.2.2.2.1),([]:List di))) λu=>aA (decide (0=0/\(0+u.2.1)<=(aa u.2.2))) (aA (decide (0=0/\(0+u.1.2.2.2.2.2.2.2.2.2.1)<=(aa u.1.2.2.2.2.2.2.2.2.2.2))) (aA (decide (u.1.2.1<=(aa u.1.2.2.1))) (aA (cM (u.1.2.1+1) 96) (k (GS.out (0,u.1.1,(u.1.2.1+1),((aJ u.1.2.1 u.1.2.2.1)++ [(u.1.2.2.2.2.2.2.1,(u.1.2.2.2.2.2.2.2.1,((cut u.2.2 0 u.2.1),(u.1.2.2.2.2.2.2.2.2.1,((cut u.1.2.2.2.2.2.2.2.2.2.2 0 u.1.2.2.2.2.2.2.2.2.2.1),())))))]),u.1.2.2.2.1,u.1.2.2.2.2.1,u.1.2.2.2.2.2.1))) aC) aC) aC) aC) aC))):=bS
def aE2:(GS.kA 0 zO):=by
 refine(GS.lS 0 zO) (λ(b,i,o1,O,T,o4,o5,o6,A,B,L,I,J,K,r)=>aa b.2.2.1 - ae i) ?_
 rintro⟨b,i,o1,O,T,o4,o5,o6,A,B,L,I,J,K,r⟩ ⟨j,k,M,rfl,rfl,vf,u⟩;have j:aa b.2.2.1<=1000000:=j;have M:k<=aa b.2.2.1:=M;have vf:aa (r)<=1000000+k:=vf;have u:∀t∈b.2.2.1,aMt t:=u;by_cases h:k < aa b.2.2.1
 .left;have n1:nth eU b.2.2.1 k=b.2.2.1[k]:=bG (t:=eU) h;have hd:bj k b.2.2.1=b.2.2.1[k]::bj (k+1) b.2.2.1:=ak h;refine⟨(b,((k+1:Nat):Int),o1,O,T,o4,o5,o6,A,B,aa (r)+1,I,J,K,r++ [(λx:di=>x) b.2.2.1[k]]),⟨j,k+1,aq,rfl,by rw[aj];rfl,by rw[aj];show aa (r)+1<=_;omega,u⟩,by simp only[ab];omega,?_,λkn kx=> ?_⟩
  .simp only[ER,Nt,ab,hd,cq,aB,aR,cv];rw[show ∀a c:Nat,a+1+c=a+(c+1) from λa c=>aq]
  .rw[VT,aN aq,aS (show(0:Int)<=(k:Int) by omega) aq,ab,n1];simp only[ai];rw[ahE (d:=b.2.2.1[k]) (u _ (aD h))];simp only[ah,bt,aeM,aO,ax,fY,bE,ai,dM];rw[cg aq aq,N.iY aq,bI];rfl
 .right;obtain rfl:k=aa b.2.2.1:=aq;intro R kn kx;rw[VT,aL aq,al];simp only[ER,Nt,ab,ay,gm,bm,bl,bY]
def bak:GS.Ok:=by
 rintro⟨b,outs,nb,bs,l,n,w⟩ ⟨⟨u,I⟩,O,m,j,hm⟩;have T:=j.2.1;have h3:nb<=1000:=j.2.2;rw[baj,aSR (d:=(outs,nb,bs,l,n,w)) j.bqX];simp only[ah,biM,ae7,azy,azp,rR];by_cases M:b.2.1=oz nb bs
 .rw[fM M,eS aq aq];by_cases K:b.1=(nb:Int)+1
  .rw[bU K,aJS (d:=(b,l,n,w)) ⟨u,⟨_,_,_,j.1.bo.bo8 aq⟩,I⟩];simp only[ah,aom];by_cases A:ad3 b (oG l)=0
   .have J:=λt B=>by have L:=(j.1.err b).symm.trans A;exact aBX (Tr (Yb u j.1.aRx L) (t,b.1) (dE.2 ⟨t,B,rfl⟩)).1
    rw[bU A,au (λe=>e A),cg (by have:=u.1.2.2.1;omega) (by have:=u.1.2.2.1;omega)];rw[azr (d:=(b,0,outs,nb,bs,(b.2.2.1.foldl (Pk b.1) (l,n,w)).1,(b.2.2.1.foldl (Pk b.1) (l,n,w)).2.1,(b.2.2.1.foldl (Pk b.1) (l,n,w)).2.2,b.1,b.2.1,0,b.2.2.2.1,0+aa b.2.2.2.2.1,aJ 0 (ag 0 ((ag 32 0),(0,())))++b.2.2.2.2.1,[])) ⟨by grind,0,az _,rfl,rfl,az _,J⟩];simp[ER,Nt,dM];grind [ai,cg]
   simp_all [dj]
  simp_all [dj]
 simp_all
def aeX:GS.RS:=rE [.d dS,.d (.slice dI),.n,.d (.slice dS),.d (.slice fk),.n,.d (.slice (.slice fk))] GS
def aE3:=GS.eQ bak 1 ⟨.eg aE2,trivial⟩
end
def xd:List cP->aq9->aq9
 |[],S=>S
 |b::q,S=>xd q (rR b S).2
def jM:List cP->aq9->Int×aq9
 |[],S=>(0,S)
 |b::l,S=>if(rR b S).1≠0 then rR b S else jM l (rR b S).2
def awx(j:At)(p:List cP):Prop:=∀k (h:k < aa p),PA j (p.take k) p[k]=0/\bcY p[k]
def awx.take{j:At}{p:List cP}(h:awx j p)(n:Nat):awx j (p.take n):=λk u=>by
 grind [awx]
def awx.br0{j:At}{p q:List cP}{b:cP}(h:awx j (p++b::q)):PA j p b=0/\bcY b:=by have:=h (aa p) (by rw[aj,aB];omega);rw[List.getElem_append_right (ax _),iA (ax _),bI]at this;simpa using this
def aEX{j:At}:∀(q:List cP) {m:Nat} {S:aq9},Zb j m S->awx j (S.2.2.1++q)->S.2.1+aa q<=1000->Zb j (m+oY q) (xd q S)/\(xd q S).1=S.1/\(xd q S).2.2.1=S.2.2.1++q
 |[],m,S,h,_,_=>⟨h,rfl,(bm _).symm⟩
 |b::q,m,S,h,hv,hn=>by
  rw[aB]at hn;obtain⟨B,J⟩:=hv.br0;rcases(h.add aq J).2 with⟨x,_⟩ | ⟨_,g,I,u⟩
  .exact absurd B x
  .have A:(rR b S).2.2.1=S.2.1+1:=by rw[<-g.2.1,u,aj,h.2.1];rfl
   obtain⟨K,L,M⟩:=aEX q g (by rw[u,aR];exact hv) aq;rw[xd,oY,<-fP];exact⟨K,L.trans I,by rw[M,u,aR];rfl⟩
def aOd{j:At}:∀(l:List cP) {m:Nat} {S:aq9},Zb j m S->(∀b∈l,bcY b)->S.2.1+aa l<=1000->(jM l S).1=PB j S.2.2.1 l/\(PB j S.2.2.1 l=0->Zb j (m+oY l) (jM l S).2/\(jM l S).2.1=S.1/\(jM l S).2.2.2.1=S.2.2.1++l)
 |[],m,S,h,_,_=>⟨rfl,λ_=>⟨h,rfl,(bm _).symm⟩⟩
 |b::l,m,S,h,hl,hn=>by
  rw[aB]at hn;obtain⟨I,A⟩:=h.add aq (hl b aY);rw[jM,PB];rcases A with⟨x,_⟩ | ⟨x,g,J,K⟩
  .grind
  .have u:(rR b S).2.2.1=S.2.1+1:=by grind [rR]
   obtain⟨L,M⟩:=aOd l g (λx B=>hl x (aT _ B)) aq;grind [oY]
def awd:∀p:List cP,aa (mF p)=oY p
 |[]=>rfl
 |b::p=>by rw[show b::p=[b]++p from rfl,Fy,Fz,aj,awd p];exact bA (· +oY p) (cz _)
def aqr:∀p q:List cP,oY (p++q)=oY p+oY q
 |[],q=>(aO _).symm
 |b::p,q=>by rw[iP,oY,oY,aqr p,fP]
def afV(p:List cP)(k:Nat):oY (p.take k)<=oY p:=by have:=aqr (p.take k) (p.drop k);rw[ee]at this;omega
def Zb.bqQ{j:At}{m:Nat}{S:aq9}(h:Zb j m S):oY S.2.2.1<=m:=by rw[<-awd];exact fa h.1.bo.st.le h.1.bo.st.len
def Pt(d:Int)(S:aq9):aq9:=match Gq S.1 with
 |some a=>xd (S.2.2.1.take (S.2.1 - d.toNat)) (S.1,0,[],a.map CP,0,[])
 |none=>S
abbrev GX:=Int×(List cP)×Int×(List dW)×Nat×(List cP)×(List de)×Nat×(List (List de))×(List dW)×Nat×(List cP)×(List de)×Nat×(List (List de))
def Ui(j u A B I J):=([fp (.pr (.d (.slice dI) j) (.pr (.dq (.dx 1) 0 [] 0 0 u) (.pr (.ptr (.dx 2) 0 [] 0) Pv))),fp (.vec 48 dS A),fp (.pr (.d (.slice fk) B) (C7 3 0 0 0 I)),fp (.vec 153 (.slice fk) J)]:List dR)
def aNX(j u A B I J):=([fp (.pr (.d (.slice dI) j) (.pr (.dq (.new 83 1) 0 [] 0 0 u) (.pr (gB 83 2 0 0) Pv))),fp (.vec 48 dS A),fp (.pr (.d (.slice fk) B) (CA 83 3 0 0 0 I)),fp (.vec 153 (.slice fk) J)]:List dR)
def xP:GX->AS:=λ(L,oa,i,o0,J,O,o2,K,T,I,j,u,A,M,B)=>⟨([dK,aU L,K4 oa]++aP 4 ([eI 83,aU i]++aP 75 [])),(Ui o0 J O o2 K T),(bz 83 [(aNX I j u A M B)])⟩
abbrev IB:=((List cP)×(List dW)×Nat×(List cP)×(List de)×Nat×(List (List de)))×((List dW)×Nat×(List cP)×(List de)×Nat×(List (List de)))
def EX:IB->Exit×AS:=λ((a,b,c,e,f,g,h),i,j,k,l,m,n)=>(.exit 0,⟨([dK,bB,K4 a]++aP 4 ([eI 83]++aP 76 [])),(Ui b c e f g h),(bz 83 [(aNX i j k l m n)])⟩)
def abV:IB->Out (Exit×AS):=λx=> .ok (EX x)
def qC:GX->((List dW)×Nat×(List cP)×(List de)×Nat×(List (List de)))->IB:=λ(TB,T,i,o0,j,L,O,u,M,K,A,B,I,X1,J) y=>((T,o0,j,L,O,u,M),y)
abbrev GY:=(List cP)×Int×(List dW)×Nat×(List cP)×(List de)×Nat×(List (List de))×(List dW)×Nat×(List cP)×(List de)×Nat×(List (List de))
def xQ:GY->AS:=λ(I,L,iK,M,T,O,zf,qo,j,J,u,A,K,B)=>⟨([dK,bB,K4 I]++aP 4 ([eI 83,bB,aU L]++aP 74 [])),(Ui iK M T O zf qo),(bz 83 [(aNX j J u A K B)])⟩
abbrev ah6:=((List dW)×Nat×(List cP)×(List de)×Nat×(List (List de)))×(Int)
def EZ:ah6->Exit×AS:=λ((a,b,c,e,f,g),h)=>(.ret,⟨(aP 6 ([aU h]++aP 77 [])),(Ui a b c e f g),(ag 84 [])⟩)
abbrev ah7:=((List dW)×Nat×(List cP)×(List de)×Nat×(List (List de)))×((List dW)×Nat×(List cP)×(List de)×Nat×(List (List de)))
def E0:ah7->Exit×AS:=λ((a,b,c,e,f,g),h,i,j,k,l,m)=>(.exit 2,⟨([dK]++aP 6 ([eI 83]++aP 76 [])),(Ui a b c e f g),(bz 83 [(aNX h i j k l m)])⟩)
abbrev Yw:=(ah6)⊕(ah7)
abbrev ao6:=(Int)⊕(((List dW)×Nat×(List cP)×(List de)×Nat×(List (List de))))
def Nu:Yw->Out (Exit×AS):=λx=> .br x.isLeft (.get x.getLeft? λa=> .ok (EZ a)) (.get x.getRight? λb=> .ok (E0 b))
def qD:GY->ao6->Yw:=λ(T,dD,B,j,A,u,J,I,K,X2,L,M,X3,O) y=>match y with | .inl y=> .inl ((B,j,A,u,J,I),y) | .inr z=> .inr (((B,j,A,u,J,I),z))
abbrev abS:=Int×(List cP)×(List dW)×Nat×(List cP)×(List de)×Nat×(List (List de))
def ao8:abS->SA:=λ(depth,l,A,j,o1,B,u,I)=>([dK,aU depth,K4 l],(Ui A j o1 B u I))
abbrev aOm:=(Int×(List dW)×Nat×(List cP)×(List de)×Nat×(List (List de)))⊕(Int×(List dW)×Nat×(List cP)×(List de)×Nat×(List (List de))×(List cP)×(List de)×Nat×(List (List de)))
abbrev azw:=(Int×(List dW)×Nat×(List cP)×(List de)×Nat×(List (List de)))⊕(Int×(List dW)×Nat×(List cP)×(List de)×Nat×(List (List de))×(List cP)×(List de)×Nat×(List (List de)))
def xR:azw->hZ:=λx=>match x with | .inl x=>⟨aU x.1,(Ui x.2.1 x.2.2.1 x.2.2.2.1 x.2.2.2.2.1 x.2.2.2.2.2.1 x.2.2.2.2.2.2),[]⟩ | .inr x=>⟨aU x.1,[fp (.pr (qX x.2.1) (.pr (uJ 0 x.2.2.1) (.pr (gB 0 1 0 0) Pv))),Vr x.2.2.2.1,fp (.pr (Vs x.2.2.2.2.1) (C7 3 0 0 0 x.2.2.2.2.2.1)),aN6 x.2.2.2.2.2.2.1],[Vr x.2.2.2.2.2.2.2.1,fp (.pr (Vs x.2.2.2.2.2.2.2.2.1) (CA 0 2 0 0 0 x.2.2.2.2.2.2.2.2.2.1)),aN6 x.2.2.2.2.2.2.2.2.2.2]⟩
def ae0:abS->aOm->azw:=λ(depth,l,A,j,o1,B,u,I) y=>match y with | .inl y=> .inl y | .inr y=> .inr y
def EW:GX->Prop:=λ(d,_,i,_,nb,bs,_,_,_,S)=>aa bs=nb/\nb<=1000/\∃(j:At) (m e k:Nat),d=e/\i=k/\k+e<=nb/\awx j bs/\Zb j m S/\S.2.2.1=bs.take k/\m<=oY (bs.take k)/\oY bs<=800
def xf:GX->((List dW)×Nat×(List cP)×(List de)×Nat×(List (List de))):=λ(d,_,i,_,nb,bs,_,_,_,S)=>xd ((bs.take (nb - d.toNat)).drop i.toNat) S
def EY:GY->Prop:=λ(l,i,_,_,_,_,_,_,S)=>aa l<=1000/\(∀b∈l,bcY b)/\∃(j:At) (m k:Nat),i=k/\k<=aa l/\Zb j m S/\m+oY (l.drop k)<=800/\S.2.1+aa (l.drop k)<=1000
def td:GY->ao6:=λ(l,i,_,_,_,_,_,_,S)=>if(jM (l.drop i.toNat) S).1≠0 then .inl (jM (l.drop i.toNat) S).1 else .inr (jM (l.drop i.toNat) S).2
def aeZ:abS->Prop:=λ(d,l,S)=>(∀o∈S.1,Pj o)/\(∀b∈l,bcY b)/\S.2.1+aa l<=1000/\∃j m,Gq S.1=aw j/\Zb j m S/\m+oY l<=800
def uD:abS->aOm:=λ(d,l,S)=>if 1<=d/\d<=S.2.1/\d < aa l then(if d<=6 then if(jM l (Pt d S)).1≠0 then .inl ((jM l (Pt d S)).1,S) else .inr (0,S.1,(jM l (Pt d S)).2.2.1,S.2.2.1,S.2.2.2.1,S.2.2.2.2.1,S.2.2.2.2.2,(jM l (Pt d S)).2.2.2) else .inl (25,S)) else .inl (1,S)
def abT:qN:=gU (P:=prog) [aKH.sg,aE3]
def ao2:=cQ.eg xP EW qC xf abV
def VY:GX->Option IB:=eN ao2 xP
def ao4:=cQ.eg xQ EY qD td Nu
def V0:GY->Option Yw:=eN ao4 xQ
def RJ:yu:= {loops:=ko [(7,{aX:=[0,1,2,7,8],sites:=[34,54,66,83],at4:=aw 83}),(11,{aX:=[0,2,7,9],sites:=[34,54,66,83],at4:=aw 83})],outs:=km [(7,{aX:=[0,2,7],sites:=[83]},{aX:=[6]}),(11,{aX:=[0,7],sites:=[83]},{aX:=[6]})],eT:=jW [(7,ao2),(11,ao4)]}
def aOk:= @FI prog abT RJ 0 f12 _ ao8
abbrev bap:=WS @aOk aeZ ae0 uD xR
def ao3:= @dm prog abT RJ 0 f12 0 _ xP
abbrev ah4:=gr prog abT RJ 0 f12 0 xP EW qC xf abV
def ao5:= @dm prog abT RJ 0 f12 1 _ xQ
abbrev ah5:=gr prog abT RJ 0 f12 1 xQ EY qD td Nu
def azu:fC VY EW qC xf:=ia (fy [.d ti,.d (.slice dS),.d ti,.d (.slice dI),.n,.d (.slice dS),.d (.slice fk),.n,.d (.slice (.slice fk)),.d (.slice dI),.n,.d (.slice dS),.d (.slice fk),.n,.d (.slice (.slice fk))] λ_=>bS)
def abU:aiV @ao3 xP EW qC xf EX ah4:=ark
def VZ(TB oa i o0 j L o2 K T J u A B O I)(kn:K2 R)(kx:K3 R):ao3 (TB,oa,i,o0,j,L,o2,K,T,J,u,A,B,O,I) kn kx=aA (fj i (cY .i64 ((j:Nat):Int) TB)) (aA (dB i ((j:Nat):Int)) (aA (decide ((0+(ae i)) < (aa L))) (aA (decide ((((0+(ae i))*36)+0)=(0+((ae i)*36)))) (ao (GS.call ((nth dS L (0+(ae i))),J,u,A,B,O,I)) λM=>kn (xP (TB,oa,(bC .i64 i (1:Int)),o0,j,L,o2,K,T,M.2.1,M.2.2.1,M.2.2.2.1,M.2.2.2.2.1,M.2.2.2.2.2.1,M.2.2.2.2.2.2))) aC) aC) aC) (kx (EX ((oa,o0,j,L,o2,K,T),(J,u,A,B,O,I))).1 (EX ((oa,o0,j,L,o2,K,T),(J,u,A,B,O,I))).2):=bS
def azv:fC V0 EY qD td:=ia (fy [.d (.slice dS),.d ti,.d (.slice dI),.n,.d (.slice dS),.d (.slice fk),.n,.d (.slice (.slice fk)),.d (.slice dI),.n,.d (.slice dS),.d (.slice fk),.n,.d (.slice (.slice fk))] λ_=>bS)
def abW:iX @ao5 xQ EY qD td Nu ah5:=ji
def J3(Vf dD M J L K T O j X2 u A X3 B)(kn:K2 R)(kx:K3 R):ao5 (Vf,dD,M,J,L,K,T,O,j,X2,u,A,X3,B) kn kx=aA (fj dD (((aa Vf):Nat):Int)) (aA (dB dD (((aa Vf):Nat):Int)) (ao (GS.call ((nth dS Vf (ae dD)),j,X2,u,A,X3,B)) λI=>aA (pb I.1 (0:Int)) (kx (EZ ((M,J,L,K,T,O),I.1)).1 (EZ ((M,J,L,K,T,O),I.1)).2) (kn (xQ (Vf,(bC .i64 dD (1:Int)),M,J,L,K,T,O,I.2.1,I.2.2.1,I.2.2.2.1,I.2.2.2.2.1,I.2.2.2.2.2.1,I.2.2.2.2.2.2)))) aC) (kx (E0 ((M,J,L,K,T,O),(j,X2,u,A,X3,B))).1 (E0 ((M,J,L,K,T,O),(j,X2,u,A,X3,B))).2):=bS
def baq(depth l A j o1 B u K)(k:K1 R):aOk (depth,l,A,j,o1,B,u,K) k=aA (fj depth (1:Int)) (k (xR (.inl ((1:Int),A,j,o1,B,u,K)))) (aA (qi depth ((j:Nat):Int)) (k (xR (.inl ((1:Int),A,j,o1,B,u,K)))) (aA (arD (((aa l):Nat):Int) depth) (k (xR (.inl ((1:Int),A,j,o1,B,u,K)))) (aA (qi depth (6:Int)) (k (xR (.inl ((25:Int),A,j,o1,B,u,K)))) (ao (kI Sum.getRight? (GW A)) λL=>ao (VY (depth,l,(0:Int),A,j,o1,B,u,K,L.1,0,L.2.1,L.2.2.1,L.2.2.2.1,L.2.2.2.2)) λI=>ao (V0 (I.1.1,(0:Int),I.1.2.1,I.1.2.2.1,I.1.2.2.2.1,I.1.2.2.2.2.1,I.1.2.2.2.2.2.1,I.1.2.2.2.2.2.2,I.2.1,I.2.2.1,I.2.2.2.1,I.2.2.2.2.1,I.2.2.2.2.2.1,I.2.2.2.2.2.2)) λM=>aA M.isLeft (ao M.getLeft? λJ=>k (xR (.inl (J.2,J.1.1,J.1.2.1,J.1.2.2.1,J.1.2.2.2.1,J.1.2.2.2.2.1,J.1.2.2.2.2.2)))) (ao M.getRight? λb7=>k (xR (.inr ((0:Int),b7.1.1,b7.2.2.1,b7.1.2.2.1,b7.1.2.2.2.1,b7.1.2.2.2.2.1,b7.1.2.2.2.2.2,b7.2.2.2.1,b7.2.2.2.2.1,b7.2.2.2.2.2.1,b7.2.2.2.2.2.2)))))))):=bS
def aE7:ah4:=by
 refine abU (λ(_,_,i,_,nb,_)=>nb - i.toNat) ?_
 rintro⟨d,l,i,o1,nb,bs,o2,o3,o4,S⟩ ⟨u,A,K,m,e,k,rfl,rfl,O,hv,J,B,T,I⟩;have u:aa bs=nb:=u;have A:nb<=1000:=A;have O:k+e<=nb:=O;have T:m<=oY (bs.take k):=T;have I:oY bs<=800:=I;have hSn:S.2.1=k:=by rw[<-J.2.1,B,bw];omega
 have M:cY .i64 (nb:Int) (e:Int)=((nb - e:Nat):Int):=by rw[eO aq aq];omega
 by_cases h:k < nb - e
 .left;have j:k < aa bs:=aq;have n1:nth dS bs k=bs[k]:=bG (t:=dS) j;obtain⟨v1,v2⟩:=hv k j;rw[<-B]at v1;have ht:=afV bs k;have L:bs.take (k+1)=bs.take k++ [bs[k]]:=by rw[List.take_add_one,cS j];rfl
  rcases(J.add aq v2).2 with⟨x,_⟩ | ⟨_,g,g1,g2⟩
  .exact absurd v1 x
  refine⟨((e:Int),l,((k+1:Nat):Int),o1,nb,bs,o2,o3,o4,(rR bs[k] S).2),⟨u,A,K,_,e,k+1,rfl,rfl,aq,hv,g,by rw[g2,B,L],by rw[L,aqr];show m+_<=_+(_+0);omega,I⟩,by simp only[ab];omega,?_,λkn kx=> ?_⟩
  .simp only[qC,xf,ab];rw[ak (show k < aa (bs.take (nb - e)) by rw[bw];omega),ku,xd]
  .rw[VZ,M,aN aq,ai,aS aq aq,ai];simp only[ab,aO,bY,aK j,ai,bE,n1];rw[aeX (d:=(bs[k],S)) ⟨v2,K,m,J,aq⟩,ah,N.iY aq];rfl
 .right;obtain rfl:k=nb - e:=aq;intro R kn kx;rw[VZ,M,aL aq,al];simp only[qC,xf,ab];rw[dJ (by rw[bw];omega)];rfl
def aE8:ah5:=by
 refine abW (λ(l,i,_)=>aa l - i.toNat) ?_
 rintro⟨l,i,o1,M,O,T,o5,o6,S⟩ ⟨I,hb,A0,m,k,rfl,hk,B,J,K⟩;have I:aa l<=1000:=I;have hk:k<=aa l:=hk;have J:m+oY (l.drop k)<=800:=J;have K:S.2.1+aa (l.drop k)<=1000:=K;by_cases h:k < aa l
 .have n1:nth dS l k=l[k]:=bG (t:=dS) h;have A:l.drop k=l[k]::l.drop (k+1):=ak h;rw[A,oY]at J;rw[A,aB]at K;have j:=hb _ (aD h);obtain⟨_,h0⟩:=B.add aq j;have L:=aeX (d:=(l[k],S)) ⟨j,A0,m,B,aq⟩;simp only[bt,azp]at L;by_cases u:(rR l[k] S).1=0
  .left;rcases h0 with⟨x,_⟩ | ⟨_,g,g1,g2⟩
   .exact absurd ((B.add aq j).1.symm.trans u) x
   have hlen:(rR l[k] S).2.2.1=S.2.1+1:=by rw[<-g.2.1,g2,aj,B.2.1];rfl
   refine⟨(l,((k+1:Nat):Int),o1,M,O,T,o5,o6,(rR l[k] S).2),⟨I,hb,A0,_,k+1,rfl,h,g,aq,by show(rR l[k] S).2.2.1+_<=_;omega⟩,by simp only[ab];omega,?_,λkn kx=> ?_⟩
   .simp only[qD,td,ab,A];rw[show jM (l[k]::l.drop (k+1)) S=jM (l.drop (k+1)) (rR l[k] S).2 from au (λx=>x u)]
   .rw[J3,aN aq,ai,aS aq aq,ai,ab,n1,L,ah,bU u,al,N.iY aq]
  .right;refine⟨EZ ((o1,M,O,T,o5,o6),(rR l[k] S).1),?_,λkn kx=> ?_⟩;rotate_left
   .rw[J3,aN aq,ai,aS aq aq,ai,ab,n1,L,ah,dj u,ai]
   .simp only[qD,td,ab,A];rw[show jM (l[k]::l.drop (k+1)) S=rR l[k] S by rw[jM,av u],av u];rfl
 .right;obtain rfl:k=aa l:=aq;refine⟨E0 ((o1,M,O,T,o5,o6),S),?_,λkn kx=> ?_⟩;rotate_left
  .rw[J3,aL aq,al]
  .simp only[qD,td,ab,ay];rfl
def Zb.back{j:At}{m:Nat}{S:aq9}(h:Zb j m S)(A:∀o∈S.1,Pj o)(e:Gq S.1=aw j)(k:Nat):
  Zb j (oY (S.2.2.1.take k)) (xd (S.2.2.1.take k) (S.1,0,[],j.map CP,0,[]))/\(xd (S.2.2.1.take k) (S.1,0,[],j.map CP,0,[])).1=S.1/\(xd (S.2.2.1.take k) (S.1,0,[],j.map CP,0,[])).2.2.1=S.2.2.1.take k:=by
 have u:Zb j 0 (S.1,0,[],j.map CP,0,[]):=⟨aGU.new A e,rfl,az _⟩;have B:awx j S.2.2.1:=h.1.val;have:=aEX (S.2.2.1.take k) u (B.take k) (by grind [Zb]);grind
def bas:bap:=by
 rintro⟨d,l,S⟩ ⟨T,hb,hn,j,m,e,I,hm⟩;have hT:=I.bqQ;have hB:=λk=>I.back T e k
 have hv:=I.1.val;have h0:Zb j 0 (S.1,0,[],j.map CP,0,[]):=⟨aGU.new T e,rfl,az _⟩;have er:Pt d S=xd (S.2.2.1.take (S.2.1 - d.toNat)) (S.1,0,[],j.map CP,0,[]):=by grind [Pt]
 have h2:=I.2.1;obtain⟨outs,nb,bs,u,n,w⟩:=S;rw[baq];by_cases K:1<=d;rotate_left
 .rw[aN aq,ai];simp only[uD];rw[au (λe=>K e.1)];rfl
 rw[aL aq,al];by_cases L:d<=nb;rotate_left
 .rw[cW aq,ai];simp only[uD];rw[au (λe=>L e.2.1)];rfl
 rw[ct aq,al];by_cases M:d < aa l;rotate_left
 .rw[np aq,ai];simp only[uD];rw[au (λe=>M e.2.2)];rfl
 rw[jK aq,al];by_cases a4:d<=6;rotate_left
 .rw[cW aq,ai];simp only[uD];rw[av ⟨K,L,M⟩,au a4];rfl
 obtain⟨q,rfl⟩:∃q:Nat,d=q:=⟨d.toNat,aq⟩;have z1:((0:Int)).toNat=0:=rfl
 have hF:uD ((q:Int),l,outs,nb,bs,u,n,w)=if(jM l (Pt q (outs,nb,bs,u,n,w))).1≠0 then .inl ((jM l (Pt q (outs,nb,bs,u,n,w))).1,outs,nb,bs,u,n,w)
   else .inr (0,outs,(jM l (Pt q (outs,nb,bs,u,n,w))).2.2.1,bs,u,n,w,(jM l (Pt q (outs,nb,bs,u,n,w))).2.2.2):=(av ⟨K,L,M⟩).trans (av a4)
 rw[hF,er];obtain⟨b1,b2,b3⟩:=hB (nb - q);have O:GW outs=aw (.inr (outs,[],j.map CP,0,[])):=by rw[avl (d:=outs) T];grind [LA,TY]
 rw[ct aq,al,O,aNh,ah];rw[azu (d:=((q:Int),l,0,outs,nb,bs,u,n,w,outs,0,[],j.map CP,0,[])) ⟨h2,by grind,j,0,q,0,rfl,rfl,by grind,hv,h0,rfl,az _,by grind⟩];simp only[ah,qC,xf,z1,aH,ab];have ht:=afV bs (nb - q);have A:(xd (bs.take (nb - q)) (outs,0,[],j.map CP,0,[])).2.1<=nb:=by grind [Zb]
 generalize xd (bs.take (nb - q)) (outs,0,[],j.map CP,0,[])=B at b1 A ⊢;refine(bA (λz=>ao z _) (azv (d:=(l,0,outs,nb,bs,u,n,w,B)) ⟨by grind,hb,j,_,0,rfl,az _,b1,by grind,by grind⟩)).trans ?_
 simp only[ah,td,z1,aH];by_cases J:(jM l B).1=0
 .rw[au (λx=>x J),au (λx=>x J)];rfl
 .rw[av J,av J];rfl
def aOl:=Entry.Ug [aC,aw ti,aw (.slice dS)] ao8 aeZ ae0 uD xR
def ao7:abS->Option azw:=Du aOl ao8
def aSP:fC ao7 aeZ ae0 uD:=LN (Pp [.d ti,.d (.slice dS),.d (.slice dI),.n,.d (.slice dS),.d (.slice fk),.n,.d (.slice (.slice fk))] λ_=>bS)
def bat:SG prog:=⟨12,jh,aOl,.of (.aOE (.fn 2 bS bas (iD (.eg aE7 bS) (iD (.eg aE8 bS) trivial)))) (by rfl)⟩
def agT(o:bO)(t:di):Bool:=t.1.any λx=>Ty.beq bK x.1 o
def aF3(o:bO):List cP->Int->Option (di×Int)
 |[],_=>aC
 |b::l,i=>match b.2.2.1.find? (agT o) with | some t=>aw (t,i+1) | none=>aF3 o l (i+1)
def aF2{o:bO}:∀ {l:List di},(∀t∈l,ig t=bn)->acH o l=l.find? (agT o)
 |[],_=>rfl
 |t::l,h=>by
  have e:(dG t).any (ajJ o)=agT o t:=by unfold dG agT ajJ;rw[av (h t aY),List.any_map];congr 1;funext x;exact adD _ _
  rw[acH,List.find?_cons,e];cases agT o t with
  |true=>rfl
  |false=>exact aF2 λx j=>h x (aT _ j)
def aOA{o:bO}:∀ {l:List cP} {i:Int},(∀b∈l,∀t∈b.2.2.1,ig t=bn)->aF3 o l i=Hx o l i
 |[],_,_=>rfl
 |b::l,i,h=>by rw[aF3,Hx,aF2 (h b aY),aOA λx j=>h x (aT _ j)] <;> grind
abbrev LB:=bO×Int×(List dW)×Nat×(List cP)×(List de)×Nat×(List (List de))×(Int×Unit)
def xg:LB->AS:=λ(A,i,o0,j,B,J,u,I,n4)=>⟨([dK,bB,bB,DE A,eI 4,bB,bB,aU i]++aP 55 []),(Ui o0 j B J u I),(bz 4 ([dp (w8 n4)]++bz 58 []))⟩
abbrev apa:=Int×(List dW)×Nat×(List cP)×(List de)×Nat×(List (List de))×di
def ID:apa->Exit×AS:=λ(a,b,c,e,f,g,h,i)=>(.ret,⟨(aP 4 ([eI 4,aU a,.d .bool bn]++aP 56 [])),(Ui b c e f g h),(bz 4 ([dp (rQ i)]++bz 58 []))⟩)
abbrev apb:=(List dW)×Nat×(List cP)×(List de)×Nat×(List (List de))×(Int×Unit)
def IE:apb->Exit×AS:=λ(a,b,c,e,f,g,h)=>(.exit 0,⟨(aP 4 ([eI 4]++aP 58 [])),(Ui a b c e f g),(bz 4 ([dp (w8 h)]++bz 58 []))⟩)
abbrev ae1:=(apa)⊕(apb)
abbrev avo:=((Int×(List dW)×Nat×(List cP)×(List de)×Nat×(List (List de))×di))⊕(((List dW)×Nat×(List cP)×(List de)×Nat×(List (List de))×(Int×Unit)))
def RK:ae1->Out (Exit×AS):=λx=> .br x.isLeft (.get x.getLeft? λa=> .ok (ID a)) (.get x.getRight? λb=> .ok (IE b))
def te:LB->avo->ae1:=λ(A,i,o0,j,B,J,u,I,n4) y=>match y with | .inl y=> .inl y | .inr z=> .inr (z)
abbrev LC:=bO×Int×Int×(List dW)×Nat×(List cP)×(List de)×Nat×(List (List de))×(Int×Unit)
def xh:LC->AS:=λ(j,u,K,J,A,I,B,O,L,M)=>⟨([dK,bB,bB,DE j,eI 4,bB,bB,aU u,aU K]++aP 54 []),(Ui J A I B O L),(bz 4 ([dp (w8 M)]++bz 58 []))⟩
abbrev apd:=Int×(List dW)×Nat×(List cP)×(List de)×Nat×(List (List de))×di
def IG:apd->Exit×AS:=λ(a,b,c,e,f,g,h,i)=>(.ret,⟨(aP 4 ([eI 4,aU a,.d .bool bn]++aP 56 [])),(Ui b c e f g h),(bz 4 ([dp (rQ i)]++bz 58 []))⟩)
abbrev ape:=bO×Int×(List dW)×Nat×(List cP)×(List de)×Nat×(List (List de))×(Int×Unit)
def IH:ape->Exit×AS:=λ(a,b,c,e,f,g,h,i,j)=>(.exit 2,⟨([dK,bB,bB,DE a,eI 4,bB,bB,aU b]++aP 55 []),(Ui c e f g h i),(bz 4 ([dp (w8 j)]++bz 58 []))⟩)
abbrev ae3:=(apd)⊕(ape)
abbrev avr:=((Int×(List dW)×Nat×(List cP)×(List de)×Nat×(List (List de))×di))⊕((bO×Int×(List dW)×Nat×(List cP)×(List de)×Nat×(List (List de))×(Int×Unit)))
def RL:ae3->Out (Exit×AS):=λx=> .br x.isLeft (.get x.getLeft? λa=> .ok (IG a)) (.get x.getRight? λb=> .ok (IH b))
def pA:LC->avr->ae3:=λ(j,u,K,J,A,I,B,O,L,M) y=>match y with | .inl y=> .inl y | .inr z=> .inr (z)
abbrev LD:=bO×Int×Int×Int×(List dW)×Nat×(List cP)×(List de)×Nat×(List (List de))×(Int×Unit)×di
def AZ:LD->AS:=λ(B,I,j,n,u,T,K,M,L,A,J,O)=>⟨([dK,bB,bB,DE B,eI 4,bB,bB,aU I,aU j,eI 9,aU n]++aP 52 []),(Ui u T K M L A),(bz 4 ([dp (w8 J)]++bz 4 ([dp (rQ O)]++bz 53 [])))⟩
abbrev apg:=((List dW)×Nat×(List cP)×(List de)×Nat×(List (List de))×di)×(Int)
def IJ:apg->Exit×AS:=λ((a,b,c,e,f,g,h),i)=>(.ret,⟨(aP 4 ([eI 4,aU i,.d .bool bn]++aP 56 [])),(Ui a b c e f g),(bz 4 ([dp (rQ h)]++bz 58 []))⟩)
abbrev aph:=bO×Int×Int×(List dW)×Nat×(List cP)×(List de)×Nat×(List (List de))×(Int×Unit)
def IK:aph->Exit×AS:=λ(a,b,c,e,f,g,h,i,j,k)=>(.exit 4,⟨([dK,bB,bB,DE a,eI 4,bB,bB,aU b,aU c]++aP 54 []),(Ui e f g h i j),(bz 4 ([dp (w8 k)]++bz 58 []))⟩)
abbrev ae5:=(apg)⊕(aph)
abbrev avu:=(Int)⊕(Unit)
def RM:ae5->Out (Exit×AS):=λx=> .br x.isLeft (.get x.getLeft? λa=> .ok (IJ a)) (.get x.getRight? λb=> .ok (IK b))
def xV:LD->avu->ae5:=λ(B,M,A,n,j,L,I,K,J,u,O,T) y=>match y with | .inl y=> .inl ((j,L,I,K,J,u,T),y) | .inr z=> .inr ((B,M,A,j,L,I,K,J,u,O))
abbrev bau:=bO×(List dW)×Nat×(List cP)×(List de)×Nat×(List (List de))
def II:LD->Prop:=λ(_,i,_,n,_,_,_,_,_,_,_,t)=>aa t.1<=1000000/\(0<=i/\i<=1000000)/\∃k:Nat,k<=aa t.1/\n=k
def xU:LD->avu:=λ(o,i,_,n,_,_,_,_,_,_,_,t)=>if(t.1.drop n.toNat).any (λx=>Ty.beq bK x.1 o)=bn then .inl (i+1) else .inr ()
def bnS(b:cP):Prop:=aa b.2.2.1<=1000/\∀t∈b.2.2.1,aa t.1<=1000000
def IF:LC->Prop:=λ(_,i,j,_,nb,bs,_)=>aa bs=nb/\nb<=1000/\∃k n:Nat,k < nb/\i=k/\bnS (nth dS bs k)/\j=n/\n<=(nth dS bs k).2.2.1.length
def xT:LC->avr:=λ(o,i,j,outs,nb,bs,l,n,w,u)=>match((nth dS bs i.toNat).2.2.1.drop j.toNat).find? (agT o) with
 |some t=> .inl (i+1,outs,nb,bs,l,n,w,t)
 |none=> .inr (o,i,outs,nb,bs,l,n,w,u)
def IC:LB->Prop:=λ(_,i,_,nb,bs,_)=>aa bs=nb/\nb<=1000/\(∀b∈bs,bnS b)/\∃k:Nat,k<=nb/\i=k
def xS:LB->avo:=λ(o,i,outs,nb,bs,l,n,w,u)=>match aF3 o (bs.drop i.toNat) i with
 |some x=> .inl (x.2,outs,nb,bs,l,n,w,x.1)
 |none=> .inr (outs,nb,bs,l,n,w,u)
def bav:bau->Prop:=λ(_,_,nb,bs,_)=>aa bs=nb/\nb<=1000/\∀b∈bs,bnS b
def aKI:bau->(di×Int×Bool×(List dW)×Nat×(List cP)×(List de)×Nat×(List (List de))):=λ(o,outs,nb,bs,l,n,w)=>match aF3 o bs 0 with
 |some x=>(x.1,x.2,bn,outs,nb,bs,l,n,w)
 |none=>(eU.zero,0,aZ,outs,nb,bs,l,n,w)
def avm:=cQ.eg xg IC te xS RK
def abX:LB->Option ae1:=eN avm xg
def avp:=cQ.eg xh IF pA xT RL
def abY:LC->Option ae3:=eN avp xh
def avs:=cQ.eg AZ II xV xU RM
def abZ:LD->Option ae5:=eN avs AZ
def J4:Fs prog bav bt aKI:=eP 45 f45 (λ(o,A,j,o1,B,u,I)=>([.ptr (.dx 0) 0 [] 0,.d bK o],[.obj 0 aZ (.pr (.d (.slice dI) A) (.pr (.dq (.dx 1) 0 [] 0 0 j) (.pr (.ptr (.dx 2) 0 [] 0) (.d .unit ())))),.obj 0 aZ (.vec 48 dS o1),.obj 0 aZ (.pr (.d (.slice fk) B) (.pr (.dq (.dx 3) 0 [] 0 0 u) (.d .unit ()))),.obj 0 aZ (.vec 153 (.slice fk) I)])) (λx=>⟨.cons (.d eU x.1) (.cons (.d ti x.2.1) (.cons (.d .bool x.2.2.1) (.nil))),[.obj 0 aZ (.pr (.d (.slice dI) x.2.2.2.1) (.pr (.dq (.dx 1) 0 [] 0 0 x.2.2.2.2.1) (.pr (.ptr (.dx 2) 0 [] 0) (.d .unit ())))),.obj 0 aZ (.vec 48 dS x.2.2.2.2.2.1),.obj 0 aZ (.pr (.d (.slice fk) x.2.2.2.2.2.2.1) (.pr (.dq (.dx 3) 0 [] 0 0 x.2.2.2.2.2.2.2.1) (.d .unit ()))),.obj 0 aZ (.vec 153 (.slice fk) x.2.2.2.2.2.2.2.2)],[]⟩) [aC,aw bK] [] {loops:=ko [(2,{aX:=[0,3,4,7],sites:=[4]}),(5,{aX:=[0,3,4,7,8],sites:=[4]}),(9,{aX:=[0,3,4,7,8,9,10],sites:=[4,9]})],outs:=km [(2,{aX:=[4],sites:=[4]},{aX:=[4,5,6],sites:=[4]}),(5,{aX:=[0,3,4,7],sites:=[4]},{aX:=[4,5,6],sites:=[4]}),(9,{aX:=[0,3,4,7,8],sites:=[4]},{aX:=[4,5,6],sites:=[4]})],eT:=jW [(2,avm),(5,avp),(9,avs)],res:=[aw eU,aC,aC]}
def avn:= @dm prog (gU J4.G) J4.an 0 f45 0 _ xg
abbrev ao9:=gr prog (gU J4.G) J4.an 0 f45 0 xg IC te xS RK
def avq:= @dm prog (gU J4.G) J4.an 0 f45 1 _ xh
abbrev apc:=gr prog (gU J4.G) J4.an 0 f45 1 xh IF pA xT RL
def avt:= @dm prog (gU J4.G) J4.an 0 f45 2 _ AZ
abbrev apf:=gr prog (gU J4.G) J4.an 0 f45 2 AZ II xV xU RM
def aE9:fC abX IC te xS:=ia (fy [.d bK,.d ti,.d (.slice dI),.n,.d (.slice dS),.d (.slice fk),.n,.d (.slice (.slice fk)),.d (.pair ti .unit)] λ_=>bS)
def ae2:iX @avn xg IC te xS RK ao9:=ji
def Nv(O i o0 u I K B J n4)(T:K2 R)(L:K3 R):avn (O,i,o0,u,I,K,B,J,n4) T L=aA (fj i ((u:Nat):Int)) (ao (abY (O,i,(0:Int),o0,u,I,K,B,J,n4)) λM=>aA M.isLeft (ao M.getLeft? λj=>L (ID (j.1,j.2.1,j.2.2.1,j.2.2.2.1,j.2.2.2.2.1,j.2.2.2.2.2.1,j.2.2.2.2.2.2.1,j.2.2.2.2.2.2.2)).1 (ID (j.1,j.2.1,j.2.2.1,j.2.2.2.1,j.2.2.2.2.1,j.2.2.2.2.2.1,j.2.2.2.2.2.2.1,j.2.2.2.2.2.2.2)).2) (ao M.getRight? λA=>T (xg (A.1,(bC .i64 A.2.1 (1:Int)),A.2.2.1,A.2.2.2.1,A.2.2.2.2.1,A.2.2.2.2.2.1,A.2.2.2.2.2.2.1,A.2.2.2.2.2.2.2.1,A.2.2.2.2.2.2.2.2)))) (L (IE (o0,u,I,K,B,J,n4)).1 (IE (o0,u,I,K,B,J,n4)).2):=bS
def aFa:fC abY IF pA xT:=ia (fy [.d bK,.d ti,.d ti,.d (.slice dI),.n,.d (.slice dS),.d (.slice fk),.n,.d (.slice (.slice fk)),.d (.pair ti .unit)] λ_=>bS)
def ae4:iX @avq xh IF pA xT RL apc:=ji
def Nw(B u K M J I L zf O T)(kn:K2 R)(kx:K3 R):avq (B,u,K,M,J,I,L,zf,O,T) kn kx=aA (dB u ((J:Nat):Int)) (aA (decide ((0+(ae u)) < (aa I))) (aA (decide ((((0+(ae u))*36)+33)=((0+((ae u)*36))+33))) (aA (fj K (((aa (nth dS I (0+(ae u))).2.2.1):Nat):Int)) (aA (dB u ((J:Nat):Int)) (aA (decide ((0+(ae u)) < (aa I))) (aA (decide ((((0+(ae u))*36)+33)=((0+((ae u)*36))+33))) (aA (dB K (((aa (nth dS I (0+(ae u))).2.2.1):Nat):Int)) (ao (abZ (B,u,K,(0:Int),M,J,I,L,zf,O,T,(nth eU (nth dS I (0+(ae u))).2.2.1 (ae K)))) λx1=>aA x1.isLeft (ao x1.getLeft? λj=>kx (IG (j.2,j.1.1,j.1.2.1,j.1.2.2.1,j.1.2.2.2.1,j.1.2.2.2.2.1,j.1.2.2.2.2.2.1,j.1.2.2.2.2.2.2)).1 (IG (j.2,j.1.1,j.1.2.1,j.1.2.2.1,j.1.2.2.2.1,j.1.2.2.2.2.1,j.1.2.2.2.2.2.1,j.1.2.2.2.2.2.2)).2) (ao x1.getRight? λA=>kn (xh (A.1,A.2.1,(bC .i64 A.2.2.1 (1:Int)),A.2.2.2.1,A.2.2.2.2.1,A.2.2.2.2.2.1,A.2.2.2.2.2.2.1,A.2.2.2.2.2.2.2.1,A.2.2.2.2.2.2.2.2.1,A.2.2.2.2.2.2.2.2.2)))) aC) aC) aC) aC) (kx (IH (B,u,M,J,I,L,zf,O,T)).1 (IH (B,u,M,J,I,L,zf,O,T)).2)) aC) aC) aC:=bS
def aFb:fC abZ II xV xU:=ia (fy [.d bK,.d ti,.d ti,.d ti,.d (.slice dI),.n,.d (.slice dS),.d (.slice fk),.n,.d (.slice (.slice fk)),.d (.pair ti .unit),.d eU] λ_=>bS)
def ae6:iX @avt AZ II xV xU RM apf:=ji
theorem Nx(A J B n j O K M L u T I)(kn:K2 R)(kx:K3 R):avt (A,J,B,n,j,O,K,M,L,u,T,I) kn kx=aA (fj n (((aa I.1):Nat):Int)) (aA (dB n (((aa I.1):Nat):Int)) (aA (Ty.beq bK (nth fK I.1 (ae n)).1 A) (kx (IJ ((j,O,K,M,L,u,I),(bC .i64 J (1:Int)))).1 (IJ ((j,O,K,M,L,u,I),(bC .i64 J (1:Int)))).2) (kn (AZ (A,J,B,(bC .i64 n (1:Int)),j,O,K,M,L,u,T,I)))) aC) (kx (IK (A,J,B,j,O,K,M,L,u,T)).1 (IK (A,J,B,j,O,K,M,L,u,T)).2):=bS
def bgb(o I j o1 J u L)(k:K1 R):J4.A (o,I,j,o1,J,u,L) k=ao (abX (o,0,I,j,o1,J,u,L,(0,()))) λK=>aA K.isLeft (ao K.getLeft? λA=>k (J4.out (A.2.2.2.2.2.2.2,A.1,bn,A.2.1,A.2.2.1,A.2.2.2.1,A.2.2.2.2.1,A.2.2.2.2.2.1,A.2.2.2.2.2.2.1))) (ao K.getRight? λB=>k (J4.out ((([]:List gb),(([]:List dW),(0,()))),0,aZ,B.1,B.2.1,B.2.2.1,B.2.2.2.1,B.2.2.2.2.1,B.2.2.2.2.2.1))):=bS
def aKL:apf:=by
 refine ae6 (λ(_,_,_,n,_,_,_,_,_,_,_,t)=>aa t.1 - n.toNat) ?_
 rintro⟨o,i,j,n,o1,B,I,J,K,L,u,t⟩ ⟨hl,⟨hi,A⟩,k,hk,rfl⟩;by_cases h:k < aa t.1
 .have n1:=bG (t:=fK) h;have M:=ak h;cases e:Ty.beq bK t.1[k].1 o with
  |true=>
   right;refine⟨IJ ((o1,B,I,J,K,L,t),i+1),?_,λO T=> ?_⟩;rotate_left
   .grind [Nx,aN,ai,aS,eS]
   .simp only[xU,ab,M,iG,e,bQ];rfl
  |false=>
   left;refine⟨(o,i,j,((k+1:Nat):Int),o1,B,I,J,K,L,u,t),⟨hl,⟨hi,A⟩,k+1,h,rfl⟩,by grind,?_,λO T=> ?_⟩
   .simp only[xV,xU,ab,M,iG,e,ja]
   .rw[Nx,aN aq,ai,aS aq aq,ai,ab,n1,e,al,N.iY aq]
 .right;obtain rfl:k=aa t.1:=aq;refine⟨IK (o,i,j,o1,B,I,J,K,L,u),?_,λO T=> ?_⟩;rotate_left
  .simp[Nx,aL]
  .simp[xU,bq];rfl
def aKK:apc:=by
 refine ae4 (λ(_,i,j,_,_,bs,_)=>(nth dS bs i.toNat).2.2.1.length - j.toNat) ?_
 rintro⟨o,i,j,outs,nb,bs,M,n,w,u⟩ ⟨I,J,k,m,hk,rfl,⟨O,hx⟩,rfl,hm⟩;have I:aa bs=nb:=I;have J:nb<=1000:=J;have hk:k < nb:=hk;have O:(nth dS bs k).2.2.1.length<=1000:=O;have hm:m<=(nth dS bs k).2.2.1.length:=hm;have K:k < aa bs:=aq;generalize A:nth dS bs k=B at O hx hm;by_cases h:m < B.2.2.1.length
 .have n1:nth eU B.2.2.1 m=B.2.2.1[m]:=bG (t:=eU) h;have hd:B.2.2.1.drop m=B.2.2.1[m]::B.2.2.1.drop (m+1):=ak h;have L:=aFb (d:=(o,(k:Int),(m:Int),0,outs,nb,bs,M,n,w,u,B.2.2.1[m])) ⟨hx _ (aD h),⟨by show(0:Int)<=(k:Int);omega,by show(k:Int)<=_;omega⟩,0,az _,rfl⟩;simp only[xV,xU,aW,aH]at L;cases e:agT o B.2.2.1[m]with
  |true=>
   right;have T:(B.2.2.1[m].1.any λx=>Ty.beq bK x.1 o)=bn:=e;rw[av T]at L;refine⟨IG ((k:Int)+1,outs,nb,bs,M,n,w,B.2.2.1[m]),?_,λkn kx=> ?_⟩;rotate_left
   .rw[Nw,aS aq aq,ai];simp only[ab,aO,bY,aK K,ai,bE,A];rw[aN aq,ai,aS aq aq,ai,n1,L];rfl
   .simp only[pA,xT,ab,A,hd,List.find?_cons,e];rfl
  |false=>
   left;have T:¬(B.2.2.1[m].1.any λx=>Ty.beq bK x.1 o)=bn:=λx=>by rw[show(B.2.2.1[m].1.any λx=>Ty.beq bK x.1 o)=aZ from e]at x;cases x
   rw[au T]at L;refine⟨(o,(k:Int),((m+1:Nat):Int),outs,nb,bs,M,n,w,u),⟨I,J,k,m+1,hk,rfl,by rw[A];exact⟨O,hx⟩,rfl,by rw[A];exact h⟩,by simp only[ab,A];omega,?_,λkn kx=> ?_⟩
   .simp only[pA,xT,ab,A,hd,List.find?_cons,e]
   .rw[Nw,aS aq aq,ai];simp only[ab,aO,bY,aK K,ai,bE,A];rw[aN aq,ai,aS aq aq,ai,n1,L];show kn (xh (o,(k:Int),bC .i64 (m:Int) 1,outs,nb,bs,M,n,w,u))=_;rw[N.iY aq]
 .right;obtain rfl:m=B.2.2.1.length:=aq;refine⟨IH (o,(k:Int),outs,nb,bs,M,n,w,u),?_,λkn kx=> ?_⟩;rotate_left
  .rw[Nw,aS aq aq,ai];simp only[ab,aO,bY,aK K,ai,bE,A];rw[aL aq,al]
  .simp only[pA,xT,ab,A,ay,List.find?_nil];rfl
def aKJ:ao9:=by
 refine ae2 (λ(_,i,_,nb,_)=>nb - i.toNat) ?_
 rintro⟨o,i,outs,nb,bs,J,n,w,u⟩ ⟨j,A,O,k,M,rfl⟩;have j:aa bs=nb:=j;have A:nb<=1000:=A;have M:k<=nb:=M;by_cases h:k < nb
 .have B:k < aa bs:=aq;have n1:nth dS bs k=bs[k]:=bG (t:=dS) B;have L:bs.drop k=bs[k]::bs.drop (k+1):=ak B;have I:=aFa (d:=(o,(k:Int),0,outs,nb,bs,J,n,w,u)) ⟨j,A,k,0,h,rfl,by rw[n1];exact O _ (aD B),rfl,az _⟩;simp only[pA,xT,ab,aW,aH,n1]at I;cases e:bs[k].2.2.1.find? (agT o) with
  |some t=>
   right;rw[e]at I;refine⟨ID ((k:Int)+1,outs,nb,bs,J,n,w,t),?_,λK T=> ?_⟩;rotate_left
   .rw[Nv,aN aq,ai,I];rfl
   .simp only[te,xS,ab,L,aF3,e];rfl
  |none=>
   left;rw[e]at I;refine⟨(o,((k+1:Nat):Int),outs,nb,bs,J,n,w,u),⟨j,A,O,k+1,h,rfl⟩,by simp only[ab];omega,?_,λK T=> ?_⟩
   .simp only[te,xS,ab,L,aF3,e];rw[show((k+1:Nat):Int)=(k:Int)+1 by omega]
   .rw[Nv,aN aq,ai,I];show K (xg (o,bC .i64 (k:Int) 1,outs,nb,bs,J,n,w,u))=_;rw[N.iY aq]
 .right;obtain rfl:k=nb:=aq;refine⟨IE (outs,k,bs,J,n,w,u),?_,λK T=> ?_⟩;rotate_left
  .rw[Nv,aL aq,al]
  .simp only[te,xS,ab];rw[dJ aq];rfl
def bgc:J4.Ok:=by rintro⟨o,outs,nb,bs,B,n,w⟩ ⟨j,u,A⟩;rw[bgb,aE9 (d:=(o,0,outs,nb,bs,B,n,w,(0,()))) ⟨j,u,A,0,az _,rfl⟩];simp[xS,aKI];cases aF3 o bs 0 <;> rfl
def baw:J4.RS:=rE [.d bK,.d (.slice dI),.n,.d (.slice dS),.d (.slice fk),.n,.d (.slice (.slice fk))] J4
def bgd:=J4.eQ bgc 3 ⟨.eg aKJ,⟨.eg aKK,⟨.eg aKL,trivial⟩⟩⟩
abbrev Au:Ty:=(.pair .bool (.pair eU (.pair tH (.pair ti (.pair .bool .unit)))))
abbrev kM:=(Bool×(di×(Bs×(Int×(Bool×Unit)))))
abbrev yr:Ty:=(.pair ti (.pair (.slice eU) (.pair ti (.pair bK .unit))))
abbrev Uu:=(Int×((List di)×(Int×(bO×Unit))))
abbrev Ah:Ty:=(.pair ti (.pair bK (.pair eU (.pair ti .unit))))
abbrev tI:=(Int×(bO×(di×(Int×Unit))))
abbrev Wm:=List (bO×kM)
def yt:kM:=(aZ,((([]:List gb),(([]:List dW),((0:Int),()))),((ag 32 (0:Int)),((0:Int),(aZ,())))))
def lM(o:bO)(m:Wm):kM:=(bT bK o m).getD yt
def bcI:Unit->Prop:=λ_=>True
def bcH:Unit->((List (bO×kM))):=λ_=> []
def aEc(j):=(.obj 0 aZ (.mp bK Au j):dR)
def af8:Fs prog bcI bt bcH:=eP 7 f7 (λ_=>([],[])) (λx=>⟨gB 0 0 0 0,[],[.obj 0 aZ (.pr (QS 0 1 0) (.d .unit ())),aEc x]⟩) [] [] {cd:=[3]}
def bhi(d)(k:K1 R):af8.A d k=k (af8.out ([]:List (bO×kM))):=bS
def bhj:af8.Ok:=by rintro d _;rw[bhi];rfl
def aGN:af8.RS:=rE [] af8
def aOU:=af8.eQ bhj
def aUz:di->Prop:=λt=>mE t
def aAz:di->di:=λt=>aGY t
def WA:Fs prog aUz bt aAz:=eP 51 f51 (λt=>([rQ t],[])) (λx=>⟨rQ x,[],[]⟩) [aw eU] [afT,aqA]
def bcz(t)(k:K1 R):WA.A t k=ao (u6.call t) λj=>ao (mG.call j) λu=>k (WA.out u.1):=bS
def bcA:WA.Ok:=by intro t j;have j:mE t:=j;rw[bcz,YG (d:=t) j];simp only[ah,bt,Sq];rw[afW (d:=aL4 t) ⟨(FC j).1,by show aa (aL4 t)<=_;have:=(FC j).2;omega⟩];rfl
def af5:WA.RS:=rE [.d eU] WA
def aq3:=WA.eQ bcA
abbrev aOY:=bO×(List (bO×kM))
def aUK:aOY->Prop:=λ_=>True
def aAJ:aOY->((List (bO×kM))):=λ(o,m)=>if(bT bK o m).isSome then m else fi bK o yt m
def Vq(j):=([.obj 0 aZ (.pr (.iI (.dx 1) 0) (.d .unit ())),.obj 0 aZ (.mp bK Au j)]:List dR)
def Pd:Fs prog aUK bt aAJ:=eP 29 f29 (λ(o,o1)=>([dK,xJ o],(Vq o1))) (λx=>⟨.nil,(Vq x),[]⟩) [aC,aw bK]
def bcQ(o o1)(k:K1 R):Pd.A (o,o1) k=aA (!(bT bK o o1).isSome) (k (Pd.out (fi bK o (aZ,((([]:List gb),(([]:List dW),(0,()))),((ag 32 0),(0,(aZ,()))))) o1))) (k (Pd.out o1)):=bS
def bcR:Pd.Ok:=by rintro⟨o,m⟩ _;rw[bcQ];simp only[bt,aAJ];cases(bT bK o m).isSome <;> rfl
def agb:Pd.RS:=rE [.d bK,.d (.slice (.pair bK Au))] Pd
def aGR:=Pd.eQ bcR
abbrev aOP:=bO×(List (bO×kM))
def aUv:aOP->Prop:=λ_=>True
def aOQ:aOP->((List (bO×kM))):=λ(o,m)=>fV bK o m
def adb:Fs prog aUv bt aOQ:=eP 31 f31 (λ(o,o1)=>([dK,xJ o],(Vq o1))) (λx=>⟨.nil,(Vq x),[]⟩) [aC,aw bK]
def bcv(o o1)(k:K1 R):adb.A (o,o1) k=k (adb.out (fV bK o o1)):=bS
def bcw:adb.Ok:=by rintro⟨o,m⟩ _;rw[bcv];rfl
def awl:adb.RS:=rE [.d bK,.d (.slice (.pair bK Au))] adb
def aGI:=adb.eQ bcw
abbrev aAF:=bO×(List (bO×kM))
abbrev aOW:=di×Int×Bool
def T9:aAF->aOW->(((List (bO×kM)))×(di×Int×Bool)):=λ(o,o1) y=>(o1,y)
def aUF:aAF->Prop:=λ(o,m)=>mE (lM o m).2.1
def adm:aAF->aOW:=λ(o,m)=>if(lM o m).1 then(aGY (lM o m).2.1,(lM o m).2.2.2.1,bn) else(yt.2.1,0,aZ)
def LU:Fs prog aUF T9 adm:=eP 17 f17 (λ(o,o1)=>([dK,xJ o],(Vq o1))) (λx=>⟨.cons (rQ x.2.1) (.cons (aU x.2.2.1) (.cons (fA x.2.2.2) (.nil))),(Vq x.1),[]⟩) [aC,aw bK] [aq3] {res:=[aw eU,aC,aC]}
def bcK(o o1)(k:K1 R):LU.A (o,o1) k=aA (!((bT bK o o1).getD (aZ,((([]:List gb),(([]:List dW),(0,()))),((ag 32 0),(0,(aZ,())))))).1) (k (LU.out (o1,((([]:List gb),(([]:List dW),(0,()))),0,aZ)))) (ao (WA.call ((bT bK o o1).getD (aZ,((([]:List gb),(([]:List dW),(0,()))),((ag 32 0),(0,(aZ,())))))).2.1) λj=>k (LU.out (o1,(j,((bT bK o o1).getD (aZ,((([]:List gb),(([]:List dW),(0,()))),((ag 32 0),(0,(aZ,())))))).2.2.2.1,bn)))):=bS
def bcL:LU.Ok:=by
 rintro⟨o,m⟩ j;have j:mE (lM o m).2.1:=j;rw[bcK];simp only[T9,adm];have e:(bT bK o m).getD yt=lM o m:=rfl;cases h:(lM o m).1 with
 |false=>
  rw[show((bT bK o m).getD (aZ,((([]:List gb),(([]:List dW),(0,()))),((ag 32 0),(0,(aZ,())))))).1=aZ from h];rfl
 |true=>
  rw[show((bT bK o m).getD (aZ,((([]:List gb),(([]:List dW),(0,()))),((ag 32 0),(0,(aZ,())))))).1=bn from h,bW,al];rw[show WA.call ((bT bK o m).getD (aZ,((([]:List gb),(([]:List dW),(0,()))),((ag 32 0),(0,(aZ,())))))).2.1=aw (aGY (lM o m).2.1) from af5 (d:=(lM o m).2.1) j];rfl
def af9:LU.RS:=rE [.d bK,.d (.slice (.pair bK Au))] LU
def aGP:=LU.eQ bcL
abbrev aq0:=bO×(List (bO×kM))
def aq1:aq0->Bool->(((List (bO×kM)))×(Bool)):=λ(o,o1) y=>(o1,y)
def aMh:aq0->Prop:=λ_=>True
def aGK:aq0->Bool:=λ(o,m)=>(lM o m).2.2.2.2.1
def Dr:Fs prog aMh aq1 aGK:=eP 24 f24 (λ(o,o1)=>([dK,xJ o],(Vq o1))) (λx=>⟨fA x.2,(Vq x.1),[]⟩) [aC,aw bK]
def aUw(o o1)(k:K1 R):Dr.A (o,o1) k=k (Dr.out (o1,((bT bK o o1).getD (aZ,((([]:List gb),(([]:List dW),(0,()))),((ag 32 0),(0,(aZ,())))))).2.2.2.2.1)):=bS
def aUx:Dr.Ok:=by rintro⟨o,m⟩ _;rw[aUw];rfl
def aq2:Dr.RS:=rE [.d bK,.d (.slice (.pair bK Au))] Dr
def awn:=Dr.eQ aUx
abbrev aVk:=bO×Nat×(List bO)
def aVl:aVk->Prop:=λ(_,n,l)=>n=aa l/\aa l<=1000000
def bil:aVk->(Nat×(List bO)):=λ(o,n,l)=>(n+1,l++ [o])
noncomputable def aHb:Fs prog aVl bt bil:=eP 4294969792 (bhp prog 4294969792) (λ(A,j,u)=>(([.yl (.dx 0) 0,.d bK A,.undef,.undef,.ptr (.dx 1) 0 [] 0]++aP 10 []),[.obj 0 aZ (.BO (Hw prog 4294969792) (Dv ([.undef,.undef,.ptr (.dx 1) 0 [] 0]++aP 10 [])) 0),.obj 0 aZ (.dq (.dx 2) 0 [] 0 0 j),.obj 0 aZ (.vec 38 bK u)])) (λx=>⟨.d .bool bn,[.obj 0 aZ (.BO (Hw prog 4294969792) (Dv ([.undef,.undef,.ptr (.dx 1) 0 [] 0]++aP 10 [])) 0),.obj 0 aZ (.dq (.dx 2) 1 [] 0 0 x.1),.obj 1 aZ (.vec 38 bK x.2)],[]⟩) [aC,aC,aC,aC,aC,aC,aC,aC,aC,aC,aC,aC,aC,aC,aC] [] {atv:=[(2,1)],lS:=aw 4294969792}
def bdg(A j u)(k:K1 R):aHb.A (A,j,u) k=aA (decide (j<=(aa u))) (aA (cM (j+1) 40) (k (aHb.out ((j+1),((aJ j u)++ [A])))) aC) aC:=bS
def bdh:aHb.Ok:=by rintro⟨o,n,l⟩ ⟨rfl,j⟩;have j:aa l<=1000000:=j;rw[bdg,aK (ax _),ai,cg aq aq,ai,bI];rfl
def aVm:aHb.RS:=rE [.d bK,.n,.d (.slice bK)] aHb
def bdi:=aHb.bsb bdh
abbrev Gh:=Nat×(List bO)×(List (bO×kM))×(List (bO×kM))
noncomputable def aN0:dR:=fp (.BO (Hw prog 4294969792) (Dv ([bB,bB,qp 1 0 0]++aP 10 [])) 0)
noncomputable def xD:Gh->AS:=λ(A,u,j,n5)=>⟨([anV]++aP 4 ([eI 5]++aP 8 [])),[aN0,fp (QT 2 1 0 0 A),aa7 u,fp (zi 4 0),.obj 0 bn (.mp bK Au j)],(bz 5 ([dp (.xB (.dx 4) 1 bK Au n5 aC)]++bz 8 []))⟩
abbrev H2:=((List (bO×kM)))×(Nat×(List bO))
def Ox(j):=(fp (.mp bK Au j):dR)
noncomputable def Ev:H2->Exit×AS:=λ(a,b,c)=>(.exit 0,⟨(aP 14 []),[aN0,fp (QT 2 1 0 0 b),aa7 c,fp (zi 4 0),Ox a],(ag 14 [])⟩)
def aaE:H2->Out (Exit×AS):=λx=> .ok (Ev x)
def yZ:Gh->(Nat×(List bO))->H2:=λ(A,u,j,n5) y=>(j,y)
abbrev aaC:=Nat×(List bO)×(List (bO×kM))
noncomputable def amo:aaC->SA:=λ(j,u,A)=>([anV,qp 3 0 0],[aN0,fp (QT 2 0 0 0 j),fp (K5 u),fp (zi 4 0),Ox A])
abbrev aNs:=Nat×(List bO)×(List (bO×kM))
abbrev ayf:=Nat×(List bO)×(List (bO×kM))
noncomputable def aeq:ayf->hZ:=λx=>⟨.nil,[aN0,fp (QT 2 1 0 0 x.1),aa7 x.2.1,fp (zi 4 0),Ox x.2.2],[]⟩
def aep:aaC->aNs->ayf:=λ(j,u,A) y=>y
def yY:Gh->Prop:=λ(n,l,_,j)=>n=aa l/\aa l+aa j<=1000000
def vi:Gh->(Nat×(List bO))->Prop:=λ(_,l,_,j) (m,u)=>m=aa u/\u.Perm (l++j.map (·.1))
def aeo:aaC->Prop:=λ(n,l,m)=>n=aa l/\aa l+aa m<=1000000
def XL:aaC->aNs->Prop:=λ(_,l,m) (u,j,m')=>u=aa j/\j.Perm (l++m.map (·.1))/\m'=m
def ayd:qN:=gU (P:=prog) [bdi]
def aIP:=cQ.ai7 xD yY yZ vi aaE
def aaF:Gh->H2->Prop:=bj4 xD yY yZ vi
def amn:yu:= {loops:=ko [(1,{aX:=[0,5],sites:=[5],atv:=[(2,1)],bnA:=[5]})],outs:=km [(1,{atv:=[(2,1)]},{atv:=[(2,1)]})],eT:=jW [(1,aIP)],atv:=[(2,1)]}
def aNq:= @FI prog ayd amn 0 f98 _ amo
abbrev aYp:=aMv @aNq aeo aep XL aeq
def amm:= @dm prog ayd amn 0 f98 0 _ xD
abbrev ag3:=aMx prog ayd amn 0 f98 0 xD yY yZ vi aaE
def aye:aO3 aaF yY yZ vi:=bpv (fy [.n,.d (.slice bK),.d (.slice (.pair bK Au)),.d (.slice (.pair bK Au))] λ_=>bS)
def aaD:bhq @amm xD yY yZ vi Ev ag3:=blg
def Ve(A u j n5)(I:K2 R)(J:K3 R):amm (A,u,j,n5) I J=aA (decide (0 < (aa n5))) (aXg (aa n5) λB=>same (Hw prog 4294969792) (Hw prog 4294969792) (ao (aHb.call ((ED bK Au n5 B).1,A,u)) λK=>I (xD (K.1,K.2,j,(List.eraseIdx n5 B))))) (J (Ev (j,(A,u))).1 (Ev (j,(A,u))).2):=bS
def aYq(j B u)(k:K1 R):aNq (j,B,u) k=alF (aaF (j,B,u,u)) λA=>k (aeq (A.2.1,A.2.2,A.1)):=bS
def aDc:ag3:=by
 refine aaD (λ(_,_,_,u)=>aa u) ?_
 rintro⟨n,l,m,u⟩ ⟨rfl,B⟩;have B:aa l+aa u<=1000000:=B;by_cases h:0 < aa u
 .left;refine⟨aa u,λj=>(aa l+1,l++ [(ED bK Au u j).1],m,u.eraseIdx j),h,λj A=>⟨⟨by simp,?_⟩,?_,λy K=>⟨y,?_,rfl⟩⟩,λL M=> ?_⟩
  .show aa (l++ [_])+aa (u.eraseIdx j)<=1000000;rw[aj,List.length_eraseIdx,av A];simp only[aB,bl];omega
  .show aa (u.eraseIdx j) < aa u;rw[List.length_eraseIdx,av A];omega
  .obtain⟨k,O⟩:=y;obtain⟨I,J⟩:=K;refine⟨I,J.trans ?_⟩;rw[ayA A,aR];refine List.Perm.append_left _ ?_
   have:=((alM A).map (·.1)).symm;exact this
  .rw[Ve,aK h,ai];congr 1;funext j;rw[afH,aVm (d:=((ED bK Au u j).1,aa l,l)) ⟨rfl,by show aa l<=_;omega⟩];rfl
 .right;obtain rfl:u=[]:=bV aq;refine⟨(aa l,l),⟨rfl,by simp⟩,λL M=> ?_⟩;rw[Ve,aV h,al];rfl
def aYr:aYp:=by
 rintro⟨n,l,m⟩ ⟨rfl,A⟩ k u;rw[aYq];refine aye (d:=(aa l,l,m,m)) ⟨rfl,A⟩ ⟨(aa (l++m.map (·.1)),l++m.map (·.1)),rfl,jf _⟩ λy j=> ?_
 obtain⟨I,B⟩:=y;exact u (I,B,m) ⟨j.1,j.2,rfl⟩
def aNr:=Entry.ai7 [aC,aC] amo aeo aep XL aeq
def auj:aaC->ayf->Prop:=bgI aNr amo
def aQ2:aO3 auj aeo aep XL:=bbn (Pp [.n,.d (.slice bK),.d (.slice (.pair bK Au))] λ_=>bS)
def aYs:SG prog:=⟨98,jh,aNr,.bpe (.fn 1 bS aYr (iD (.ai7 aDc bS) trivial)) (by rfl)⟩
abbrev aAA:=(List (bO×kM))
def awr:aAA->Unit->((List (bO×kM))):=λo0 y=>o0
def aUA:aAA->Prop:=λ_=>True
def bhh:aAA->Unit:=λ_=>()
def aq4:Fs prog aUA awr bhh:=eP 55 f55 (λo0=>([zi 0 0],[aEc o0])) (λx=>⟨.fn 98 (.cons (gB 0 0 0 0) (.nil)),[aEc x],[.obj 0 aZ (zi 0 0)]⟩) [aC] [] {cd:=[1]}
def bcB(o0)(k:K1 R):aq4.A o0 k=k (aq4.out o0):=bS
def bcC:aq4.Ok:=by intro d _;rw[bcB];rfl
def aUB:aq4.RS:=rE [.d (.slice (.pair bK Au))] aq4
def bcD:=aq4.eQ bcC
abbrev akA:=(List (bO×kM))
def awC:akA->SA:=λo1=>([.fR,aN7 98],[fp (zi 1 0),Ox o1])
abbrev aVp:=Nat×(List (bO×kM))×(List bO)
abbrev aHc:=Nat×(List (bO×kM))×(List bO)
def akD:aHc->hZ:=λx=>⟨CB 0 0 1 0 0 x.1,[fp (zi 1 0),Ox x.2.1],[aa7 x.2.2]⟩
def akC:akA->aVp->aHc:=λo1 y=>y
def akB:akA->Prop:=λm=>aa m<=1000000
def adx:akA->aVp->Prop:=λm (u,m',j)=>u=aa j/\j.Perm (m.map (·.1))/\m'=m
def bim:qN:=gU (P:=prog) [aYs]
def bdk:yu:= {cd:=[2],bqH:=jW [(7,[⟨2,[.arr],0,46⟩])],rf:=jW [(7,(4294969792,[2]))]}
def aVn:= @FI prog bim bdk 0 f156 _ awC
abbrev bdj:=aMv @aVn akB akC adx akD
def bdl(o1)(k:K1 R):aVn o1 k=alF (auj (0,([]:List bO),o1)) λj=>k (akD (j.1,j.2.2,j.2.1)):=bS
def bdm:bdj:=by
 intro m u k A;have u:aa m<=1000000:=u;rw[bdl];refine aQ2 (d:=(0,[],m)) ⟨rfl,by show 0+aa m<=_;omega⟩ ⟨(aa (m.map (·.1)),m.map (·.1),m),rfl,jf _,rfl⟩ λy j=> ?_
 obtain⟨I,B,m'⟩:=y;exact A (I,m',B) ⟨j.1,by simpa using j.2.1,j.2.2⟩
def aVo:=Entry.ai7 [aC,aC] awC akB akC adx akD
def aA8:akA->aHc->Prop:=bgI aVo awC
def aVq:aO3 aA8 akB akC adx:=bbn (Pp [.d (.slice (.pair bK Au))] λ_=>bS)
def bdn:SG prog:=⟨156,jh,aVo,.bpe (.fn 0 bS bdm trivial) (by rfl)⟩
abbrev ald:=(List (bO×kM))
def axc:ald->SA:=λo1=>([aN7 98],[fp (zi 1 0),Ox o1])
abbrev aWQ:=Nat×(List (bO×kM))×(List bO)
abbrev aHZ:=Nat×(List (bO×kM))×(List bO)
def alg:aHZ->hZ:=λx=>⟨CB 0 0 1 0 0 x.1,[fp (zi 1 0),Ox x.2.1],[aa7 x.2.2]⟩
def alf:ald->aWQ->aHZ:=λo1 y=>y
def ale:ald->Prop:=λm=>aa m<=1000000
def adT:ald->aWQ->Prop:=λm (u,m',j)=>u=aa j/\j.Perm (m.map (·.1))/\m'=m
def biE:qN:=gU (P:=prog) [bdn]
def bd4:yu:= {}
def aWO:= @FI prog biE bd4 0 f96 _ axc
abbrev bd3:=aMv @aWO ale alf adT alg
def bd5(o1)(k:K1 R):aWO o1 k=alF (aA8 o1) λj=>k (alg (j.1,j.2.1,j.2.2)):=bS
def bd6:bd3:=by
 intro m u k j;rw[bd5];refine aVq (d:=m) u ⟨(aa (m.map (·.1)),m,m.map (·.1)),rfl,jf _,rfl⟩ λy A=> ?_
 exact j y A
def aWP:=Entry.ai7 [aC] axc ale alf adT alg
def aBU:ald->aHZ->Prop:=bgI aWP axc
def aWR:aO3 aBU ale alf adT:=bbn (Pp [.d (.slice (.pair bK Au))] λ_=>bS)
def bd7:SG prog:=⟨96,jh,aWP,.bpe (.fn 0 bS bd6 trivial) (by rfl)⟩
def aLE{l B:List bO}(h:l.Perm B)(j:∀x∈B,CV x):acJ (t:=bK) Am l=acJ (t:=bK) Am B:=by
 have u:∀x∈l,CV x:=λx A=>j x (h.mem_iff.1 A)
 have I:=ap5 yQ u;exact NN yQ j (λx A y J a b=>AE (j x A) (j y J) a b) ⟨I.1.trans h,I.2⟩
def j4(m:Wm):List bO:=acJ (t:=bK) Am (m.map (·.1))
abbrev bbG:=(List (bO×kM))
def bbI:bbG->Prop:=λm=>aa m<=1000000/\∀p∈m,CV p.1
def bbH:bbG->(Nat×(List (bO×kM))×(List bO)):=λm=>(aa m,m,j4 m)
def aLF:Fs prog bbI bt bbH:=eP 54 f54 (λo1=>([aN7 98,K7 56],[.obj 0 aZ (zi 1 0),aEc o1])) (λx=>⟨CB 0 0 1 0 0 x.1,[.obj 0 aZ (zi 1 0),aEc x.2.1],[aa7 x.2.2]⟩) [aC,aC] [bd7,bgU]
def bgV(o1)(k:K1 R):aLF.A o1 k=alF (aBU o1) λj=>ao (afP (j.1,j.2.2)) λu=>k (aLF.out (j.1,j.2.1,u.2)):=bS
def bgW:aLF.Ok:=by
 rintro m ⟨M,hq⟩;have M:aa m<=1000000:=M;rw[bgV];refine aWR (d:=m) M ⟨(aa (m.map (·.1)),m,m.map (·.1)),rfl,jf _,rfl⟩ λy O=> ?_
 obtain⟨n',m',u⟩:=y;obtain⟨A,B,L⟩:=O;have A:n'=aa u:=A;have L:m'=m:=L;subst A L;have j:∀x∈m'.map (·.1),CV x:=λx J=>by obtain⟨p,T,rfl⟩:=dE.1 J;exact hq p T
 have I:aa u=aa m':=by rw[B.length_eq,cz]
 show ao (afP (aa u,u)) _=_;rw[bbF (d:=(aa u,u)) ⟨rfl,by show aa u < _;omega,λx J=>j x (B.mem_iff.1 J),λx J y O A K=>AE (j x (B.mem_iff.1 J)) (j y (B.mem_iff.1 O)) A K⟩];simp only[ah,bt,bbH,j4];rw[aLE B j,I];rfl
def bbJ:aLF.RS:=rE [.d (.slice (.pair bK Au))] aLF
def bgX:=aLF.eQ bgW
abbrev bct:=(List (bO×kM))
def bcu:bct->Prop:=λm=>aa m<=1000000/\∀p∈m,CV p.1
def aAw:bct->(Nat×(List (bO×kM))×(List bO)):=λm=>(aa m,m,j4 m)
def wall:Fs prog bcu bt aAw:=eP 22 f22 (λo1=>([dK],(Vq o1))) (λx=>⟨CB 0 0 1 0 0 x.1,(Vq x.2.1),[aa7 x.2.2]⟩) [aC] [bcD,bgX]
def bhb(o1)(k:K1 R):wall.A o1 k=ao (aq4.call o1) λu=>ao (aLF.call u) λj=>k (wall.out (j.1,j.2.1,j.2.2)):=bS
def bhc:wall.Ok:=by intro m h;rw[bhb,aUB (d:=m) trivial];simp only[ah,awr];rw[bbJ (d:=m) h];rfl
def ada:wall.RS:=rE [.d (.slice (.pair bK Au))] wall
def aAx:=wall.eQ bhc
abbrev aAG:=Int×di×Nat×(List tI)×bO×kM
abbrev aOX:=Nat×(List tI)
def aga:aAG->aOX->((bO×kM)×(Nat×(List tI))):=λ(u,j,A,o1,B,I) y=>((B,I),y)
def aUG:aAG->Prop:=λ(_,t,n,l,_)=>mE t/\n=aa l/\aa l<=1000000000
def aAH:aAG->aOX:=λ(d,t,_,l,o,x)=>(aa l+1,l++ [(d,(o,(aGY t,(x.2.2.2.1,()))))])
def Pc:Fs prog aUG aga aAH:=eP 93 f93 (λ(u,j,A,o1,B,I)=>([aU u,rQ j,dK,QU,qp 3 0 0],[.obj 0 aZ (QT 1 0 0 0 A),.obj 0 aZ (.vec 82 Ah o1),.obj 0 aZ (xJ B),.obj 0 aZ (.d Au I)])) (λx=>⟨.nil,[.obj 0 aZ (QT 1 1 0 0 x.2.1),.obj 1 aZ (.vec 82 Ah x.2.2),.obj 0 aZ (xJ x.1.1),.obj 0 aZ (.d Au x.1.2)],[]⟩) [aw ti,aw eU,aC,aC,aC] [aq3]
def bcM(A u j o1 B I)(k:K1 R):Pc.A (A,u,j,o1,B,I) k=ao (WA.call u) λJ=>aA (decide (j<=(aa o1))) (aA (cM (j+1) 112) (k (Pc.out ((B,I),((j+1),((aJ j o1)++ [(A,(B,(J,(I.2.2.2.1,()))))]))))) aC) aC:=bS
def bcN:Pc.Ok:=by rintro⟨d,t,n,l,o,x⟩ ⟨u,rfl,j⟩;have j:aa l<=1000000000:=j;rw[bcM,af5 (d:=t) u];simp only[ah,bt,aAz];rw[aK (ax _),ai,cg aq aq,ai,bI];rfl
def aws:Pc.RS:=rE [.d ti,.d eU,.n,.d (.slice Ah),.d bK,.d Au] Pc
def bcO:=Pc.eQ bcN
def aAS(x:kM):Prop:=mE x.2.1/\(x.1=bn->ig x.2.1=bn)
def v0:mE eU.zero:=⟨⟨λo j=>(by cases j),fm,fm⟩,λx u=>(by cases u),fm⟩
def aiU:aAS yt:=⟨v0,λh=>(by cases h)⟩
def tC(o:bO)(l:List cP):di×Int×Bool:=match Hx o l 0 with | some x=>(x.1,x.2,bn) | none=>(eU.zero,0,aZ)
def Dz(x:kM)(h:Int)(ok:Bool)(id:Bs):Bool:=x.1 && (!ok || (pb h x.2.2.2.1 || !(Ty.beq tH id x.2.2.1)))
def KR(o:bO)(x:kM)(h:Int)(ok:Bool)(id:Bs):kM×List tI:=if Dz x h ok id then(yt,[(2,(o,(x.2.1,(x.2.2.2.1,()))))]) else(x,[])
def Uf(o:bO)(t:di)(h:Int)(ok:Bool)(id:Bs)(x:kM):kM×List tI:=if ok && !x.1 then((bn,(t,(id,(h,(aZ,()))))),[(1,(o,(t,(h,()))))]) else(x,[])
def aeu(o:bO)(t:di)(h:Int)(ok:Bool)(H:Int)(x:kM):kM×List tI:=if ok && qi (H - h) 6 then((x.1,(x.2.1,(x.2.2.1,(x.2.2.2.1,(bn,()))))),[(3,(o,(t,(x.2.2.2.1,()))))]) else(x,[])
def iB(H:Int)(l:List cP)(o:bO)(x:kM):kM×List tI:=if x.2.2.2.2.1 then(x,[]) else((aeu o (tC o l).1 (tC o l).2.1 (tC o l).2.2 H (Uf o (tC o l).1 (tC o l).2.1 (tC o l).2.2 (mw (tC o l).1) (KR o x (tC o l).2.1 (tC o l).2.2 (mw (tC o l).1)).1).1).1,(KR o x (tC o l).2.1 (tC o l).2.2 (mw (tC o l).1)).2++(Uf o (tC o l).1 (tC o l).2.1 (tC o l).2.2 (mw (tC o l).1) (KR o x (tC o l).2.1 (tC o l).2.2 (mw (tC o l).1)).1).2++(aeu o (tC o l).1 (tC o l).2.1 (tC o l).2.2 H (Uf o (tC o l).1 (tC o l).2.1 (tC o l).2.2 (mw (tC o l).1) (KR o x (tC o l).2.1 (tC o l).2.2 (mw (tC o l).1)).1).1).2)
def lookW(H:Int)(l:List cP)(S:Wm×List tI)(o:bO):Wm×List tI:=if(lM o S.1).2.2.2.2.1 then S else(fi bK o (iB H l o (lM o S.1)).1 S.1,S.2++(iB H l o (lM o S.1)).2)
abbrev aq5:=Nat×Int×Int×(List (bO×kM))×Nat×Nat×(List (bO×fh))×(List cF)×(List cP)×Nat×(List tI)×(List bO)
abbrev Fp:=Int×Bool×Nat×Int×Int×Bool×(List (bO×kM))×Nat×Nat×(List (bO×fh))×(List cF)×(List cP)×Nat×(List tI)×bO×kM×di×Bs×(List bO)
def aR5(j u A B I J):=([fp (.pr (.iI (.dx 1) 0) Pv),fp (.mp bK Au j),fp (.pr (qp 3 0 0) (C7 6 0 0 0 u)),fp (.pr (.iI (.dx 4) 0) (C7 5 0 0 0 A)),fp (.mp bK mv B),fp (.vec 243 eh I),fp (.vec 48 dS J)]:List dR)
def aZQ:aF:= .fn 93 (.cons (eI 95) (.cons (gB 95 2 0 0) (.cons (gB 95 3 0 0) (.nil))))
def bh3(j u A B I):=([dK,qp 2 0 0,bB,bB,bB,eI 95,bB,gB 95 2 0 0,gB 95 3 0 0,gB 95 4 0 0,aU j,fA u,gB 95 5 0 0,aZQ,bB,CB 95 6 0 0 0 A,aU B,aU I]:List aF)
def auX(j):=(fp (CB 95 1 0 0 0 j):dR)
def anU(j):=(fp (.vec 82 Ah j):dR)
def WC:Fp->AS:=λ(h,L,Pu,M,O,T,o1,J,K,o4,o5,o6,Pr,u,jD,A,B,I,j)=>⟨((bh3 h L Pu M O)++aP 49 ([fA T]++aP 28 [])),(aR5 o1 J K o4 o5 o6),(bz 95 [[auX Pr,anU u,fp (xJ jD),fp (.d Au A),fp (rQ B),fp (fW I),fp (K5 j)]])⟩
def ade:iO:=iO.of {aX:=[0,1,5,7,8,9,10,11,12,13,15,16,17,67],sites:=[5,7,8,9,12,15,32,37,60,69,75,79,87,95],Ec:=[⟨8,[.arr],Au⟩],at4:=aw 95} WC
def Hm:Fp->Option Fp:=λx=>(ade).amf .normal (WC x)
def adf(x:Fp):Hm x=aw x:=iO.rJ (fy [.d ti,.d .bool,.n,.d ti,.d ti,.d .bool,.d (.slice (.pair bK Au)),.n,.n,.d (.slice (.pair bK mv)),.d (.slice eh),.d (.slice dS),.n,.d (.slice Ah),.d bK,.d Au,.d eU,.d tB,.d (.slice bK)] λ_=>bS) x
abbrev Fq:=Nat×Int×Int×Bool×(List (bO×kM))×Nat×Nat×(List (bO×fh))×(List cF)×(List cP)×Nat×(List tI)×bO×kM×di×(List bO)
def WD:Fq->AS:=λ(T,K,L,M,o1,I,J,o4,o5,o6,O,j,jD,u,A,B)=>⟨([dK,QU,bB,bB,bB,eI 95,bB,gB 95 2 0 0,gB 95 3 0 0,gB 95 4 0 0,bB,bB,bB,aZQ,bB,CB 95 5 0 0 0 T,aU K,aU L]++aP 65 ([fA M]++aP 12 [])),(aR5 o1 I J o4 o5 o6),(bz 95 [[auX O,anU j,fp (xJ jD),fp (.d Au u),fp (rQ A),fp (K5 B)]])⟩
def adg:iO:=iO.of {aX:=[0,1,5,7,8,9,13,15,16,17,83],sites:=[5,7,8,9,12,15,32,37,60,69,75,79,87,95],Ec:=[⟨8,[.arr],Au⟩],at4:=aw 95} WD
def Hn:Fq->Option Fq:=λx=>(adg).amf .normal (WD x)
def adh(x:Fq):Hn x=aw x:=iO.rJ (fy [.n,.d ti,.d ti,.d .bool,.d (.slice (.pair bK Au)),.n,.n,.d (.slice (.pair bK mv)),.d (.slice eh),.d (.slice dS),.n,.d (.slice Ah),.d bK,.d Au,.d eU,.d (.slice bK)] λ_=>bS) x
abbrev Ft:=Int×Bool×Nat×Int×Int×(List (bO×kM))×Nat×Nat×(List (bO×fh))×(List cF)×(List cP)×Nat×(List tI)×bO×kM×di×Bs×(List bO)
def WE:Ft->AS:=λ(h,L,Pu,M,O,o1,J,K,o4,o5,o6,T,u,jD,A,B,I,j)=>⟨((bh3 h L Pu M O)++aP 78 []),(aR5 o1 J K o4 o5 o6),(bz 95 [[auX T,anU u,fp (xJ jD),fp (.d Au A),fp (rQ B),fp (fW I),fp (K5 j)]])⟩
def adi:iO:=iO.of {aX:=[0,1,5,7,8,9,10,11,12,13,15,16,17],sites:=[5,7,8,9,12,15,32,37,60,69,75,79,87,95],Ec:=[⟨8,[.arr],Au⟩],at4:=aw 95} WE
def pa:Ft->Option Ft:=λx=>(adi).amf .normal (WE x)
def adj(x:Ft):pa x=aw x:=iO.rJ (fy [.d ti,.d .bool,.n,.d ti,.d ti,.d (.slice (.pair bK Au)),.n,.n,.d (.slice (.pair bK mv)),.d (.slice eh),.d (.slice dS),.n,.d (.slice Ah),.d bK,.d Au,.d eU,.d tB,.d (.slice bK)] λ_=>bS) x
abbrev Fu:=Int×Bool×Nat×Int×Int×(List (bO×kM))×Nat×Nat×(List (bO×fh))×(List cF)×(List cP)×Nat×(List tI)×bO×kM×di×(List bO)
def WH:Fu->AS:=λ(h,K,T,L,M,o1,I,J,o4,o5,o6,O,j,jD,u,A,B)=>⟨([dK,QU,bB,bB,bB,eI 95,bB,gB 95 2 0 0,gB 95 3 0 0,gB 95 4 0 0,aU h,fA K,bB,aZQ,bB,CB 95 5 0 0 0 T,aU L,aU M]++aP 78 []),(aR5 o1 I J o4 o5 o6),(bz 95 [[auX O,anU j,fp (xJ jD),fp (.d Au u),fp (rQ A),fp (K5 B)]])⟩
def adk:iO:=iO.of {aX:=[0,1,5,7,8,9,10,11,13,15,16,17],sites:=[5,7,8,9,12,15,32,37,60,69,75,79,87,95],Ec:=[⟨8,[.arr],Au⟩],at4:=aw 95} WH
def Ho:Fu->Option Fu:=λx=>(adk).amf .normal (WH x)
def adl(x:Fu):Ho x=aw x:=iO.rJ (fy [.d ti,.d .bool,.n,.d ti,.d ti,.d (.slice (.pair bK Au)),.n,.n,.d (.slice (.pair bK mv)),.d (.slice eh),.d (.slice dS),.n,.d (.slice Ah),.d bK,.d Au,.d eU,.d (.slice bK)] λ_=>bS) x
abbrev aOT:=(List (bO×kM))×Nat×Nat×(List (bO×fh))×(List cF)×(List cP)
def bpS(nb n:Nat)(a:At)(s:List cF)(bs:List cP):Prop:=∃j m,tA j m nb n a s bs
def aAC:aq5->Prop:=λ(u,A,i,m,nb,n,a,s,bs,B,out,j)=>bpS nb n a s bs/\aa j<=1000000/\u=aa j/\A=(aa j:Int)/\B=aa out/\(∀p∈m,aAS p.2)/\∃k:Nat,k<=aa j/\i=k/\aa out<=3*k
def N8:aq5->((List (bO×kM))×Nat×Nat×(List (bO×fh))×(List cF)×(List cP)×Nat×(List tI)×(List bO)):=λ(_,_,i,m,nb,n,a,s,bs,_,out,j)=>(((j.drop i.toNat).foldl (lookW nb (bs.take nb)) (m,out)).1,nb,n,a,s,bs,((j.drop i.toNat).foldl (lookW nb (bs.take nb)) (m,out)).2.length,((j.drop i.toNat).foldl (lookW nb (bs.take nb)) (m,out)).2,j)
def WG(m:Wm):Prop:=aa m<=1000/\(m.map (·.1)).Nodup/\∀p∈m,CV p.1/\aAS p.2
def gM(nb:Nat)(bs:List cP)(m:Wm):Wm×List tI:=(j4 m).foldl (lookW nb (bs.take nb)) (m,[])
def aUC:aOT->Prop:=λ(m,nb,n,a,s,bs)=>bpS nb n a s bs/\WG m
def aAB:aOT->(Nat×(List (bO×kM))×Nat×Nat×(List (bO×fh))×(List cF)×(List cP)×(List tI)):=λ(m,nb,n,a,s,bs)=>((gM nb bs m).2.length,(gM nb bs m).1,nb,n,a,s,bs,(gM nb bs m).2)
def tz:Ls aAC bt N8:=rI (λ(O,J,K,T,B,I,L,A,j,M,u,jD)=>⟨([dK,QU,bB,bB,bB,eI 95]++aP 9 ([CB 95 2 0 0 0 O,aU J,aU K]++aP 78 [])),(aR5 T B I L A j),(bz 95 [[auX M,anU u,fp (K5 jD)]])⟩) (λx=>(.exit 0,⟨(aP 5 ([eI 95]++aP 90 [])),(aR5 x.1 x.2.1 x.2.2.1 x.2.2.2.1 x.2.2.2.2.1 x.2.2.2.2.2.1),(bz 95 [[auX x.2.2.2.2.2.2.1,anU x.2.2.2.2.2.2.2.1,fp (K5 x.2.2.2.2.2.2.2.2)]])⟩))
def WB:Fs prog aUC bt aAB:=eP 50 f50 (λ(o1,j,u,A,B,I)=>([.ptr (.dx 0) 0 [] 0,.ptr (.dx 2) 0 [] 0],[.obj 0 aZ (.pr (.iI (.dx 1) 0) (.d .unit ())),.obj 0 aZ (.mp bK Au o1),.obj 0 aZ (.pr (.ptr (.dx 3) 0 [] 0) (.pr (.dq (.dx 6) 0 [] 0 0 j) (.d .unit ()))),.obj 0 aZ (.pr (.iI (.dx 4) 0) (.pr (.dq (.dx 5) 0 [] 0 0 u) (.d .unit ()))),.obj 0 aZ (.mp bK mv A),.obj 0 aZ (.vec 243 eh B),.obj 0 aZ (.vec 48 dS I)])) (λx=>⟨.dq (.new 0 0) 0 [] 0 0 x.1,[.obj 0 aZ (.pr (.iI (.dx 1) 0) (.d .unit ())),.obj 0 aZ (.mp bK Au x.2.1),.obj 0 aZ (.pr (.ptr (.dx 3) 0 [] 0) (.pr (.dq (.dx 6) 0 [] 0 0 x.2.2.1) (.d .unit ()))),.obj 0 aZ (.pr (.iI (.dx 4) 0) (.pr (.dq (.dx 5) 0 [] 0 0 x.2.2.2.1) (.d .unit ()))),.obj 0 aZ (.mp bK mv x.2.2.2.2.1),.obj 0 aZ (.vec 243 eh x.2.2.2.2.2.1),.obj 0 aZ (.vec 48 dS x.2.2.2.2.2.2.1)],[.obj 0 aZ (.vec 82 Ah x.2.2.2.2.2.2.2)]⟩) [aC,aC] [aAx,aHT,aqo,bcO,aq3,HN] {loops:=ko [(3,{aX:=[0,1,5,15,16,17],sites:=[5,7,8,9,12,15,32,37,60,69,75,79,87,94,95],owns:=[⟨5,[.arr],94,43⟩],at4:=aw 95})],outs:=km [(3,{aX:=[5],sites:=[95]},{aX:=[4]})],eT:=jW [(3,tz.E)],aYo:=jW [(13,ade),(16,adg)],aui:=jW [(13,adi),(16,adk)]}
def aAD:tz.RS:=rL [.n,.d ti,.d ti,.d (.slice (.pair bK Au)),.n,.n,.d (.slice (.pair bK mv)),.d (.slice eh),.d (.slice dS),.n,.d (.slice Ah),.d (.slice bK)] tz
def WI(Pu O j L o2L o3L EE ai8 aRC Pr M K)(kn:K2 R)(kx:K3 R):WB.R 0 tz (Pu,O,j,L,o2L,o3L,EE,ai8,aRC,Pr,M,K) kn kx=aA (fj j O) (aA (dB j ((Pu:Nat):Int)) (aA (decide ((0+(ae j)) < (aa K))) (aA (decide ((((0+(ae j))*33)+0)=(0+((ae j)*33)))) (aA (((bT bK (nth bK K (0+(ae j))) L).getD (aZ,((([]:List gb),(([]:List dW),(0,()))),((ag 32 0),(0,(aZ,())))))).2.2.2.2.1) (kn (tz.st (Pu,O,(bC .i64 j 1),L,o2L,o3L,EE,ai8,aRC,Pr,M,K))) (ao (Bi.call ((nth bK K (0+(ae j))),o2L,o3L,EE,ai8,aRC)) λu=>ao (tid.call u.1) λT=>ao (aA (((bT bK (nth bK K (0+(ae j))) L).getD (aZ,((([]:List gb),(([]:List dW),(0,()))),((ag 32 0),(0,(aZ,())))))).1) (aA (!u.2.2.1) (ao (Pc.call (2,((bT bK (nth bK K (0+(ae j))) L).getD (aZ,((([]:List gb),(([]:List dW),(0,()))),((ag 32 0),(0,(aZ,())))))).2.1,Pr,M,(nth bK K (0+(ae j))),((bT bK (nth bK K (0+(ae j))) L).getD (aZ,((([]:List gb),(([]:List dW),(0,()))),((ag 32 0),(0,(aZ,())))))))) λbpL=>pa (u.2.1,u.2.2.1,Pu,O,j,L,u.2.2.2.1,u.2.2.2.2.1,u.2.2.2.2.2.1,u.2.2.2.2.2.2.1,u.2.2.2.2.2.2.2,bpL.2.1,bpL.2.2,bpL.1.1,(aZ,((([]:List gb),(([]:List dW),(0,()))),((ag 32 0),(0,(aZ,()))))),u.1,T,K)) (aA (pb u.2.1 ((bT bK (nth bK K (0+(ae j))) L).getD (aZ,((([]:List gb),(([]:List dW),(0,()))),((ag 32 0),(0,(aZ,())))))).2.2.2.1) (ao (Pc.call (2,((bT bK (nth bK K (0+(ae j))) L).getD (aZ,((([]:List gb),(([]:List dW),(0,()))),((ag 32 0),(0,(aZ,())))))).2.1,Pr,M,(nth bK K (0+(ae j))),((bT bK (nth bK K (0+(ae j))) L).getD (aZ,((([]:List gb),(([]:List dW),(0,()))),((ag 32 0),(0,(aZ,())))))))) λuV=>pa (u.2.1,u.2.2.1,Pu,O,j,L,u.2.2.2.1,u.2.2.2.2.1,u.2.2.2.2.2.1,u.2.2.2.2.2.2.1,u.2.2.2.2.2.2.2,uV.2.1,uV.2.2,uV.1.1,(aZ,((([]:List gb),(([]:List dW),(0,()))),((ag 32 0),(0,(aZ,()))))),u.1,T,K)) (aA (!(Ty.beq tH T ((bT bK (nth bK K (0+(ae j))) L).getD (aZ,((([]:List gb),(([]:List dW),(0,()))),((ag 32 0),(0,(aZ,())))))).2.2.1)) (ao (Pc.call (2,((bT bK (nth bK K (0+(ae j))) L).getD (aZ,((([]:List gb),(([]:List dW),(0,()))),((ag 32 0),(0,(aZ,())))))).2.1,Pr,M,(nth bK K (0+(ae j))),((bT bK (nth bK K (0+(ae j))) L).getD (aZ,((([]:List gb),(([]:List dW),(0,()))),((ag 32 0),(0,(aZ,())))))))) λbpN=>pa (u.2.1,u.2.2.1,Pu,O,j,L,u.2.2.2.1,u.2.2.2.2.1,u.2.2.2.2.2.1,u.2.2.2.2.2.2.1,u.2.2.2.2.2.2.2,bpN.2.1,bpN.2.2,bpN.1.1,(aZ,((([]:List gb),(([]:List dW),(0,()))),((ag 32 0),(0,(aZ,()))))),u.1,T,K)) (pa (u.2.1,u.2.2.1,Pu,O,j,L,u.2.2.2.1,u.2.2.2.2.1,u.2.2.2.2.2.1,u.2.2.2.2.2.2.1,u.2.2.2.2.2.2.2,Pr,M,(nth bK K (0+(ae j))),((bT bK (nth bK K (0+(ae j))) L).getD (aZ,((([]:List gb),(([]:List dW),(0,()))),((ag 32 0),(0,(aZ,())))))),u.1,T,K))))) (pa (u.2.1,u.2.2.1,Pu,O,j,L,u.2.2.2.1,u.2.2.2.2.1,u.2.2.2.2.2.1,u.2.2.2.2.2.2.1,u.2.2.2.2.2.2.2,Pr,M,(nth bK K (0+(ae j))),((bT bK (nth bK K (0+(ae j))) L).getD (aZ,((([]:List gb),(([]:List dW),(0,()))),((ag 32 0),(0,(aZ,())))))),u.1,T,K))) λA=>ao (ao (aA (A.2.1) (Hm (A.1,A.2.1,A.2.2.1,A.2.2.2.1,A.2.2.2.2.1,(!A.2.2.2.2.2.2.2.2.2.2.2.2.2.2.1.1),A.2.2.2.2.2.1,A.2.2.2.2.2.2.1,A.2.2.2.2.2.2.2.1,A.2.2.2.2.2.2.2.2.1,A.2.2.2.2.2.2.2.2.2.1,A.2.2.2.2.2.2.2.2.2.2.1,A.2.2.2.2.2.2.2.2.2.2.2.1,A.2.2.2.2.2.2.2.2.2.2.2.2.1,A.2.2.2.2.2.2.2.2.2.2.2.2.2.1,A.2.2.2.2.2.2.2.2.2.2.2.2.2.2.1,A.2.2.2.2.2.2.2.2.2.2.2.2.2.2.2.1,A.2.2.2.2.2.2.2.2.2.2.2.2.2.2.2.2.1,A.2.2.2.2.2.2.2.2.2.2.2.2.2.2.2.2.2)) (Hm (A.1,A.2.1,A.2.2.1,A.2.2.2.1,A.2.2.2.2.1,aZ,A.2.2.2.2.2.1,A.2.2.2.2.2.2.1,A.2.2.2.2.2.2.2.1,A.2.2.2.2.2.2.2.2.1,A.2.2.2.2.2.2.2.2.2.1,A.2.2.2.2.2.2.2.2.2.2.1,A.2.2.2.2.2.2.2.2.2.2.2.1,A.2.2.2.2.2.2.2.2.2.2.2.2.1,A.2.2.2.2.2.2.2.2.2.2.2.2.2.1,A.2.2.2.2.2.2.2.2.2.2.2.2.2.2.1,A.2.2.2.2.2.2.2.2.2.2.2.2.2.2.2.1,A.2.2.2.2.2.2.2.2.2.2.2.2.2.2.2.2.1,A.2.2.2.2.2.2.2.2.2.2.2.2.2.2.2.2.2))) λB=>aA (B.2.2.2.2.2.1) (ao (WA.call B.2.2.2.2.2.2.2.2.2.2.2.2.2.2.2.2.1) λbpP=>ao (Pc.call (1,B.2.2.2.2.2.2.2.2.2.2.2.2.2.2.2.2.1,B.2.2.2.2.2.2.2.2.2.2.2.2.1,B.2.2.2.2.2.2.2.2.2.2.2.2.2.1,B.2.2.2.2.2.2.2.2.2.2.2.2.2.2.1,(bn,(bpP,(B.2.2.2.2.2.2.2.2.2.2.2.2.2.2.2.2.2.1,(B.1,(aZ,()))))))) λPf=>Ho (B.1,B.2.1,B.2.2.1,B.2.2.2.1,B.2.2.2.2.1,B.2.2.2.2.2.2.1,B.2.2.2.2.2.2.2.1,B.2.2.2.2.2.2.2.2.1,B.2.2.2.2.2.2.2.2.2.1,B.2.2.2.2.2.2.2.2.2.2.1,B.2.2.2.2.2.2.2.2.2.2.2.1,Pf.2.1,Pf.2.2,Pf.1.1,Pf.1.2,B.2.2.2.2.2.2.2.2.2.2.2.2.2.2.2.2.1,B.2.2.2.2.2.2.2.2.2.2.2.2.2.2.2.2.2.2)) (Ho (B.1,B.2.1,B.2.2.1,B.2.2.2.1,B.2.2.2.2.1,B.2.2.2.2.2.2.1,B.2.2.2.2.2.2.2.1,B.2.2.2.2.2.2.2.2.1,B.2.2.2.2.2.2.2.2.2.1,B.2.2.2.2.2.2.2.2.2.2.1,B.2.2.2.2.2.2.2.2.2.2.2.1,B.2.2.2.2.2.2.2.2.2.2.2.2.1,B.2.2.2.2.2.2.2.2.2.2.2.2.2.1,B.2.2.2.2.2.2.2.2.2.2.2.2.2.2.1,B.2.2.2.2.2.2.2.2.2.2.2.2.2.2.2.1,B.2.2.2.2.2.2.2.2.2.2.2.2.2.2.2.2.1,B.2.2.2.2.2.2.2.2.2.2.2.2.2.2.2.2.2.2))) λJ=>ao (aA (J.2.1) (ao (so.call (J.2.2.2.2.2.2.1,J.2.2.2.2.2.2.2.1,J.2.2.2.2.2.2.2.2.1,J.2.2.2.2.2.2.2.2.2.1,J.2.2.2.2.2.2.2.2.2.2.1)) λbk3=>Hn (J.2.2.1,J.2.2.2.1,J.2.2.2.2.1,(qi (cY .i64 bk3.2 J.1) 6),J.2.2.2.2.2.1,bk3.1.1,bk3.1.2.1,bk3.1.2.2.1,bk3.1.2.2.2.1,bk3.1.2.2.2.2,J.2.2.2.2.2.2.2.2.2.2.2.1,J.2.2.2.2.2.2.2.2.2.2.2.2.1,J.2.2.2.2.2.2.2.2.2.2.2.2.2.1,J.2.2.2.2.2.2.2.2.2.2.2.2.2.2.1,J.2.2.2.2.2.2.2.2.2.2.2.2.2.2.2.1,J.2.2.2.2.2.2.2.2.2.2.2.2.2.2.2.2)) (Hn (J.2.2.1,J.2.2.2.1,J.2.2.2.2.1,aZ,J.2.2.2.2.2.1,J.2.2.2.2.2.2.1,J.2.2.2.2.2.2.2.1,J.2.2.2.2.2.2.2.2.1,J.2.2.2.2.2.2.2.2.2.1,J.2.2.2.2.2.2.2.2.2.2.1,J.2.2.2.2.2.2.2.2.2.2.2.1,J.2.2.2.2.2.2.2.2.2.2.2.2.1,J.2.2.2.2.2.2.2.2.2.2.2.2.2.1,J.2.2.2.2.2.2.2.2.2.2.2.2.2.2.1,J.2.2.2.2.2.2.2.2.2.2.2.2.2.2.2.1,J.2.2.2.2.2.2.2.2.2.2.2.2.2.2.2.2))) λI=>aA (I.2.2.2.1) (ao (Pc.call (3,I.2.2.2.2.2.2.2.2.2.2.2.2.2.2.1,I.2.2.2.2.2.2.2.2.2.2.1,I.2.2.2.2.2.2.2.2.2.2.2.1,I.2.2.2.2.2.2.2.2.2.2.2.2.1,(I.2.2.2.2.2.2.2.2.2.2.2.2.2.1.1,(I.2.2.2.2.2.2.2.2.2.2.2.2.2.1.2.1,(I.2.2.2.2.2.2.2.2.2.2.2.2.2.1.2.2.1,(I.2.2.2.2.2.2.2.2.2.2.2.2.2.1.2.2.2.1,(bn,I.2.2.2.2.2.2.2.2.2.2.2.2.2.1.2.2.2.2.2))))))) λbia=>kn (tz.st (I.1,I.2.1,(bC .i64 I.2.2.1 1),(fi bK bia.1.1 bia.1.2 I.2.2.2.2.1),I.2.2.2.2.2.1,I.2.2.2.2.2.2.1,I.2.2.2.2.2.2.2.1,I.2.2.2.2.2.2.2.2.1,I.2.2.2.2.2.2.2.2.2.1,bia.2.1,bia.2.2,I.2.2.2.2.2.2.2.2.2.2.2.2.2.2.2))) (kn (tz.st (I.1,I.2.1,(bC .i64 I.2.2.1 1),(fi bK I.2.2.2.2.2.2.2.2.2.2.2.2.1 I.2.2.2.2.2.2.2.2.2.2.2.2.2.1 I.2.2.2.2.1),I.2.2.2.2.2.1,I.2.2.2.2.2.2.1,I.2.2.2.2.2.2.2.1,I.2.2.2.2.2.2.2.2.1,I.2.2.2.2.2.2.2.2.2.1,I.2.2.2.2.2.2.2.2.2.2.1,I.2.2.2.2.2.2.2.2.2.2.2.1,I.2.2.2.2.2.2.2.2.2.2.2.2.2.2.2))))) aC) aC) aC) (tz.go kx (L,o2L,o3L,EE,ai8,aRC,Pr,M,K)):=bS
def bcE(o1 j u I J K)(k:K1 R):WB.A (o1,j,u,I,J,K) k=ao (wall.call o1) λA=>ao (tz.call (A.1,((A.1:Nat):Int),0,A.2.1,j,u,I,J,K,0,([]:List tI),A.2.2)) λB=>k (WB.out (B.2.2.2.2.2.2.1,B.1,B.2.1,B.2.2.1,B.2.2.2.1,B.2.2.2.2.1,B.2.2.2.2.2.1,B.2.2.2.2.2.2.2.1)):=bS
theorem al3{m:Wm}(h:∀p∈m,aAS p.2)(o:bO):aAS (lM o m):=by
 unfold lM;cases j:bT bK o m with
 |none=>exact aiU
 |some x=>
  have:∃p∈m,p.2=x:=by
   unfold bT at j;cases A:lj bK o m with
   |none=>rw[A]at j;cases j
   |some i=>
    rw[A]at j;have j:(m[i]?).map (·.2)=aw x:=j;rw[fb]at j;obtain⟨p,u,e⟩:=j;exact⟨p,eK u,e⟩
  obtain⟨p,u,rfl⟩:=this;exact h p u
def aLA{j:At}{b nb n:Nat}{a:At}{s:List cF}{bs:List cP}(h:tA j b nb n a s bs)(o:bO):mE (tC o (bs.take nb)).1/\((tC o (bs.take nb)).2.2=bn->ig (tC o (bs.take nb)).1=bn/\1<=(tC o (bs.take nb)).2.1)/\0<=(tC o (bs.take nb)).2.1/\(tC o (bs.take nb)).2.1<=nb:=by
 unfold tC;cases e:Hx o (bs.take nb) 0 with
 |none=>exact⟨v0,λh=>(by cases h),dT _,by show(0:Int)<=nb;omega⟩
 |some x=>
  obtain⟨K,u,c,A,B⟩:=aLz e;obtain⟨I,J⟩:=h.bnE A B;rw[bw]at u;exact⟨J,λ_=>⟨I,by show 1<=x.2;omega⟩,by show 0<=x.2;omega,by show x.2<=nb;omega⟩
def aTC{j:At}{b nb n:Nat}{a:At}{s:List cF}{bs:List cP}(h:tA j b nb n a s bs)(o:bO):Bi.call (o,nb,n,a,s,bs)=aw ((tC o (bs.take nb)).1,(tC o (bs.take nb)).2.1,(tC o (bs.take nb)).2.2,nb,n,a,s,bs):=by
 rw[h.bmJ o];unfold tC
 all_goals cases Hx o (bs.take nb) 0 <;> rfl
def auy{m:Wm}{o:bO}{v:kM}{p:bO×kM}(h:p∈fi bK o v m):p=(o,v)\/p∈m:=by
 unfold fi at h;split at h
 .exact(List.mem_or_eq_of_mem_set h).symm
 .rcases bZ.1 h with h | h
  .exact .inr h
  .exact .inl (bM.1 h)
theorem aNx{J:At}{b nb n:Nat}{a:At}{s:List cF}{bs:List cP}(h:tA J b nb n a s bs)(H:Int)(o:bO){x:kM}(B:aAS x):aAS (iB H (bs.take nb) o x).1:=by
 obtain⟨A,I,_⟩:=aLA h o;unfold iB;split
 .exact B
 .generalize tC o (bs.take nb)=r at A I;have K:aAS (KR o x r.2.1 r.2.2 (mw r.1)).1:=by
   unfold KR;split
   .exact aiU
   .exact B
  have j:aAS (Uf o r.1 r.2.1 r.2.2 (mw r.1) (KR o x r.2.1 r.2.2 (mw r.1)).1).1:=by
   unfold Uf;split
   .rename_i u;exact⟨A,λ_=>(I (by simp only[aQ]at u;exact u.1)).1⟩
   .exact K
  show aAS (aeu o r.1 r.2.1 r.2.2 H _).1;unfold aeu;split
  .exact⟨j.1,j.2⟩
  .exact j
def aur(H:Int)(l:List cP)(o:bO)(x:kM):(iB H l o x).2.length<=3:=by grind [iB,KR,Uf,aeu]
def bfu{j:At}{b nb n:Nat}{a:At}{s:List cF}{bs:List cP}(h:tA j b nb n a s bs)(H:Int)(o:bO){m:Wm}(out:List tI)(u:∀p∈m,aAS p.2):
  (∀p∈(lookW H (bs.take nb) (m,out) o).1,aAS p.2)/\(lookW H (bs.take nb) (m,out) o).2.length<=aa out+3:=by
 unfold lookW;split
 .grind
 .refine⟨λp hp=> ?_,?_⟩
  .rcases auy hp with rfl | hp
   all_goals grind [aNx,al3]
  simp[aur]
def aGM:(WB.kA 0 tz):=by
 refine(WB.lS 0 tz) (λ(_,_,i,_,_,_,_,_,_,_,_,u)=>aa u - i.toNat) ?_
 rintro⟨kL,kn,i,m,nb,n,a,s,bs,oL,out,u⟩ ⟨hj,O,rfl,rfl,rfl,hm,k,hk,rfl,ho⟩;obtain⟨A0,b,hc⟩:=id hj;have O:aa u<=1000000:=O;have hk:k<=aa u:=hk;have ho:aa out<=3*k:=ho;have arz:nb<=1000000:=hc.ch.2.1;by_cases h:k < aa u
 .left;have n1:nth bK u k=u[k]:=bG (t:=bK) h;have hd:u.drop k=u[k]::u.drop (k+1):=ak h;generalize u[k]=o at n1 hd;obtain⟨g1,g2⟩:=bfu hc nb o out hm;refine⟨(aa u,(aa u:Int),((k+1:Nat):Int),(lookW nb (bs.take nb) (m,out) o).1,nb,n,a,s,bs,(lookW nb (bs.take nb) (m,out) o).2.length,(lookW nb (bs.take nb) (m,out) o).2,u),⟨hj,O,rfl,rfl,rfl,g1,k+1,h,rfl,by show _<=3*(k+1);omega⟩,by simp only[ab];omega,?_,λkn kx=> ?_⟩
  .simp only[bt,N8,ab,hd,bN]
  clear g1 g2 hd;have hx:=al3 hm o;obtain⟨M,iN,h0,hH⟩:=aLA hc o;have csp:=aTC hc o;have ex:(bT bK o m).getD (aZ,((([]:List gb),(([]:List dW),((0:Int),()))),((ag 32 (0:Int)),((0:Int),(aZ,())))))=lM o m:=rfl;have el:lookW nb (bs.take nb) (m,out) o=if(lM o m).2.2.2.2.1 then(m,out) else(fi bK o (iB nb (bs.take nb) o (lM o m)).1 m,out++(iB nb (bs.take nb) o (lM o m)).2):=rfl
  rw[WI,aN aq,ai,aS aq aq,ai,ab,aO,aK h,ai,aK aq,ai,n1,ex];generalize lM o m=x at hx el ⊢;cases hf:x.2.2.2.2.1 with
  |true=>
   rw[hf,av rfl]at el;rw[ai,el,N.iY aq]
  |false=>
   rw[hf,au fm]at el;have eX:iB nb (bs.take nb) o x=_:=au (by rw[hf];decide);rw[al,csp,el,eX];generalize tC o (bs.take nb)=r at M iN h0 hH csp;obtain⟨t,J,A⟩:=r;have M:mE t:=M;have h0:0<=J:=h0;have hH:J<=nb:=hH;rw[ah];show ao (tid.call t) _=_;rw[acR (d:=t) M];simp only[bt,aqn,adj,adf,adl,adh,ah];have c1:∀(j:List tI) (x':kM) (d:Int),aa j<=1000000000->A=bn->Pc.call (d,t,aa j,j,o,x')=aw ((o,x'),(aa j+1,j++ [(d,(o,(t,(x'.2.2.2.1,()))))])):=λj x' d hl hk=>by have:=aws (d:=(d,t,aa j,j,o,x')) ⟨M,rfl,hl⟩;simp only[aga,aAH,Yx M (iN hk).1]at this;exact this
   obtain⟨r1,T⟩:∃r,KR o x J A (mw t)=r:=⟨_,rfl⟩;refine(bA (λz=>ao z _) (?_:_=aw (J,A,aa u,(aa u:Int),(k:Int),m,nb,n,a,s,bs,aa (out++r1.2),out++r1.2,o,r1.1,t,mw t,u))).trans ?_
   .rw[<-T];unfold KR Dz;cases bjq:x.1 with
    |false=>simp only[al,cU,bu,bq,bm]
    |true=>
     have cw:=aws (d:=(2,x.2.1,aa out,out,o,x)) ⟨hx.1,rfl,by show aa out<=_;omega⟩;simp only[aga,aAH,Yx hx.1 (hx.2 bjq)]at cw;rw[cw];simp only[ah,ai,bH];cases A with
     |false=>simp only[eJ,ai,pM,bQ,aj];rfl
     |true=>
      simp only[bW,al,ja];cases pb J x.2.2.2.1 with
      |true=>simp only[ai,pM,bQ,aj];rfl
      |false=>
       simp only[al,ja];cases Ty.beq tH (mw t) x.2.2.1 with
       |true=>simp only[bW,al,bu,bq,bm]
       |false=>simp only[eJ,ai,bQ,aj];rfl
   have l1:aa (out++r1.2)<=aa out+1:=by
    rw[<-T];unfold KR;split
    .rw[aj];exact ax _
    .rw[aj];exact kW _
   rw[ah];obtain⟨B,bqr⟩:∃l,out++r1.2=l:=⟨_,rfl⟩;rw[bqr]at l1 ⊢;obtain⟨K,arB⟩:∃r,Uf o t J A (mw t) r1.1=r:=⟨_,rfl⟩;refine(bA (λz=>ao z _) (?_:_=aw (J,A,aa u,(aa u:Int),(k:Int),m,nb,n,a,s,bs,aa (B++K.2),B++K.2,o,K.1,t,u))).trans ?_
   .rw[<-arB];unfold Uf;cases L:A with
    |false=>simp only[al,ah,cU,bu,bq,bm]
    |true=>
     cases bjq:r1.1.1 with
     |true=>simp only[ai,al,ah,bW,Bool.and_false,bu,bq,bm]
     |false=>
      have cw:=c1 B (bn,(t,(mw t,(J,(aZ,()))))) 1 aq L;have ck:=af5 (d:=t) M;simp only[bt,aAz,Yx M (iN L).1]at ck;simp only[ai,ah,eJ,Bool.and_self,bQ,ck,cw,aj];rfl
   have l2:aa (B++K.2)<=aa B+1:=by
    rw[<-arB];unfold Uf;split
    .rw[aj];exact ax _
    .rw[aj];exact kW _
   rw[ah];obtain⟨I,bnp⟩:∃l,B++K.2=l:=⟨_,rfl⟩;rw[bnp]at l2 ⊢;refine(bA (λz=>ao z _) (?_:_=aw (aa u,(aa u:Int),(k:Int),A && qi (nb - J) 6,m,nb,n,a,s,bs,aa I,I,o,K.1,t,u))).trans ?_
   .cases A with
    |false=>simp only[al,cU]
    |true=>simp only[ai,bH,ak6,ah];rw[eO aq aq]
   rw[ah];simp only[T,arB];rw[<-aR,<-aR,bqr,bnp];unfold aeu;cases bi5:(A && qi (nb - J) 6) with
   |false=>
    simp only[al,bu,bq,bm];rw[N.iY aq]
   |true=>
    have L:A=bn:=by simp only[aQ]at bi5;exact bi5.1
    have cw:=c1 I (K.1.1,(K.1.2.1,(K.1.2.2.1,(K.1.2.2.2.1,(bn,()))))) 3 aq L;simp only[ai,bQ];refine(bA (λz=>ao z _) cw).trans ?_
    rw[ah,N.iY aq,aj];rfl
 .right;obtain rfl:k=aa u:=aq;intro R kn kx;rw[WI,aL aq,al];simp only[bt,N8,ab,ay,dr]
def FF{m:Wm}(h:∀p∈m,CV p.1):(j4 m).Perm (m.map (·.1)):=(ap5 yQ λx u=>by
 obtain⟨p,j,rfl⟩:=dE.1 u;exact h p j).1
def bcF:WB.Ok:=by
 rintro⟨m,nb,n,a,s,bs⟩ ⟨B,I,O,A⟩;have I:aa m<=1000:=I;have K:nb<=aa bs:=by obtain⟨M,b,J⟩:=B;exact J.ch.1
 have j:aa (j4 m)=aa m:=by rw[(FF λp u=>(A p u).1).length_eq,cz]
 have L:((0:Int)).toNat=0:=rfl;rw[bcE,ada (d:=m) ⟨by show aa m<=_;omega,λp u=>(A p u).1⟩];simp only[ah,bt,aAw];rw[aAD (d:=(aa m,(aa m:Int),0,m,nb,n,a,s,bs,0,[],j4 m)) ⟨B,by show aa (j4 m)<=_;omega,j.symm,by show(aa m:Int)=_;rw[j],rfl,λp u=>(A p u).2,0,az _,rfl,ax _⟩];simp only[ah,bt,N8,L,aH,bt,aAB,gM]
def aUD:WB.RS:=rE [.d (.slice (.pair bK Au)),.n,.n,.d (.slice (.pair bK mv)),.d (.slice eh),.d (.slice dS)] WB
def bcG:=WB.eQ bcF 1 ⟨.eg aGM,trivial⟩
abbrev apD:=Int×Int×(List di)×Nat×Int×Bs×(List cP)
abbrev aOt:=Bs×Int×Int×(List di)
def ajz(u:List di):Nat->Bs->Int->List cP
 | 0,_,_=> []
 |j+1,p,h=>Fv h p (if j=0 then u else []) 0::ajz u j (aHo (Fv h p (if j=0 then u else []) 0)) (h+1)
def akm(j:List di):Prop:=aa j<=100/\∀t∈j,mE t/\aa t.1<=1000000
def bhr{u:List di}(j:akm u){h:Int}{p:Bs}(B:h<=9223372036854775807)(I:aa p=32)(c:Prop) [Decidable c]:Pg (Fv h p (if c then u else []) 0):=by
 split
 .exact⟨⟨⟨fa j.1 fm,λt h=>(j.2 t h).1⟩,⟨B,I,by show(0:Int)<=_;decide⟩,az _,λo A=>(by cases A)⟩,j.1,λt h=>(j.2 t h).2⟩
 .exact⟨⟨⟨az _,λt j=>(by cases j)⟩,⟨B,I,by show(0:Int)<=_;decide⟩,az _,λo A=>(by cases A)⟩,az _,λt j=>(by cases j)⟩
def aK2{u:List di}(A:akm u):∀(j:Nat) (p:Bs) (h:Int),h+j<=9223372036854775807->aa p=32->∀b∈ajz u j p h,Pg b
 | 0,_,_,_,_,b,hb=>by cases hb
 |j+1,p,h,I,B,b,hb=>by
  rcases cr.1 hb with rfl | hb
  .exact bhr A aq B _
  .exact aK2 A j _ (h+1) aq (HI _) b hb
def ach(u:List di):∀(j:Nat) (p:Bs) (h:Int),aa (ajz u j p h)=j
 | 0,_,_=>rfl
 |j+1,p,h=>bA (· +1) (ach u j _ _)
def apH(u:List di):∀(j:Nat) (p:Bs) (h:Int),oY (ajz u j p h)<=aa u
 | 0,_,_=>az _
 | 1,p,h=>ax _
 |j+2,p,h=>by show 0+oY (ajz u (j+1) _ _)<=_;rw[aO];exact apH u (j+1) _ _
def azF:apD->Prop:=λ(h,m',j,u,i,p,out)=>(0<=h/\h<=1000000)/\akm j/\aa p=32/\u=aa out/\∃m k:Nat,m'=m/\k<=m/\m<=20/\i=k/\aa out=k
def NF:apD->(Nat×(List cP)):=λ(h,m,j,_,i,p,out)=>(aa (out++ajz j (m - i).toNat p (h+1+i)),out++ajz j (m - i).toNat p (h+1+i))
def aS7:aOt->Prop:=λ(p,h,m',j)=>(0<=h/\h<=1000000)/\akm j/\aa p=32/\∃m:Nat,m'=m/\m<=20
def akd:aOt->(List cP):=λ(p,h,m,j)=>ajz j m.toNat p (h+1)
def vC:Ls azF bt NF:=rI (λ(I,B,u,j,i,n4,A)=>⟨([bB,aU I,aU B,.d (.slice eU) u,eI 4]++aP 4 ([uJ 32 j,aU i]++aP 25 [])),[],(bz 4 ([dp (fW n4)]++bz 27 [dp (.vec 48 dS A),[],[],[]]))⟩) (λx=>(.exit 0,⟨(aP 9 ([uJ 32 x.1]++aP 26 [])),[],(bz 32 [dp (.vec 48 dS x.2),[],[],[]])⟩))
def OT:Fs prog aS7 bt akd:=eP 36 f36 (λ(u,j,A,B)=>([.d tH u,.d ti j,.d ti A,.d (.slice eU) B],[])) (λx=>⟨.d (.slice dS) x,[],[]⟩) [aw tH,aw ti,aw ti,aw (.slice eU)] [aos] {cd:=[4],loops:=ko [(3,{aX:=[1,2,3,4,9,10],sites:=[4,32],owns:=[⟨9,[],32,41⟩]})],outs:=km [(3,{aX:=[9],sites:=[32]},{aX:=[8]})],eT:=jW [(3,vC.E)],res:=[aw (.slice dS)]}
def azG:vC.RS:=rL [.d ti,.d ti,.d (.slice eU),.n,.d ti,.d tB,.d (.slice dS)] vC
def V4(B I A j i n4 u)(J:K2 R)(K:K3 R):OT.R 0 vC (B,I,A,j,i,n4,u) J K=aA (fj i I) (aA (oC i (cY .i64 I 1)) (aA (decide (j<=(aa u))) (aA (cM (j+1) 96) (ao (VN.call ((bC .i64 (bC .i64 B 1) i),(n4,(A,(0,(([]:List bO),())))))) λL=>J (vC.st (B,I,A,(j+1),(bC .i64 i 1),L,((aJ j u)++ [((bC .i64 (bC .i64 B 1) i),(n4,(A,(0,(([]:List bO),())))))])))) aC) aC) (aA (decide (j<=(aa u))) (aA (cM (j+1) 96) (ao (VN.call ((bC .i64 (bC .i64 B 1) i),(n4,(([]:List di),(0,(([]:List bO),())))))) λM=>J (vC.st (B,I,A,(j+1),(bC .i64 i 1),M,((aJ j u)++ [((bC .i64 (bC .i64 B 1) i),(n4,(([]:List di),(0,(([]:List bO),())))))])))) aC) aC)) (vC.go K (j,u)):=bS
def ba8(u j A B)(k:K1 R):OT.A (u,j,A,B) k=ao (vC.call (j,A,B,0,0,u,([]:List cP))) λI=>aA (decide (0=0/\(0+I.1)<=(aa I.2))) (k (OT.out (cut I.2 0 I.1))) aC:=bS
def aFt:(OT.kA 0 vC):=by
 refine(OT.lS 0 vC) (λ(_,m,_,_,i,_)=>(m - i).toNat) ?_
 rintro⟨h,m',u,oL,i,p,out⟩ ⟨⟨I,J⟩,O,hp,rfl,m,k,rfl,M,K,rfl,ho⟩;have I:0<=h:=I;have J:h<=1000000:=J;have M:k<=m:=M;have K:m<=20:=K;by_cases gF:k < m
 .left;obtain⟨j,hj⟩:∃j,m=k+1+j:=⟨m - (k+1),aq⟩;have A:((m:Int) - (k:Int)).toNat=j+1:=aq;have L:((m:Int) - ((k+1:Nat):Int)).toNat=j:=aq;have e3:h+1+((k+1:Nat):Int)=h+1+(k:Int)+1:=aq;have B:=bhr O (h:=h+1+(k:Int)) (p:=p) aq hp (j=0);refine⟨(h,(m:Int),u,aa out+1,((k+1:Nat):Int),aHo (Fv (h+1+(k:Int)) p (if j=0 then u else []) 0),out++ [Fv (h+1+(k:Int)) p (if j=0 then u else []) 0]),⟨⟨I,J⟩,O,HI _,by rw[aj];rfl,m,k+1,rfl,gF,K,rfl,by rw[aj,ho];rfl⟩,by simp only[A,L];omega,?_,λkn kx=> ?_⟩
  .simp only[bt,NF,A,L,e3,ajz,aR,cv]
  .rw[V4,aN aq,ai,eO aq aq,eS (x:=h) aq aq,eS (x:=h+1) aq aq];by_cases T:j=0
   .rw[av T]at B ⊢;rw[dC aq,ai,aK (ax _),ai,cg aq aq,ai,bI];refine(bA (λz=>ao z _) (TS (d:=Fv (h+1+(k:Int)) p u 0) B.1)).trans ?_
    rw[ah,N.iY aq];rfl
   .rw[au T]at B ⊢;rw[eZ aq,al,aK (ax _),ai,cg aq aq,ai,bI];refine(bA (λz=>ao z _) (TS (d:=Fv (h+1+(k:Int)) p [] 0) B.1)).trans ?_
    rw[ah,N.iY aq];rfl
 .right;obtain rfl:k=m:=aq;intro R kn kx;have A:((k:Int) - (k:Int)).toNat=0:=aq;rw[V4,aL aq,al];simp only[bt,NF,A,ajz,bm]
def ba9:OT.Ok:=by rintro⟨p,h,m',j⟩ ⟨A,J,I,m,rfl,B⟩;have u:((m:Int) - 0).toNat=m:=aq;rw[ba8,azG (d:=(h,(m:Int),j,0,0,p,[])) ⟨A,J,I,rfl,m,0,rfl,az _,B,rfl,rfl⟩];simp only[ah,bt,NF,u,bf,tE,aO];rw[aK (by exact⟨trivial,ax _⟩),ai,dM rfl];simp only[bt,akd,ab]
def afp:OT.RS:=rE [.d tB,.d ti,.d ti,.d (.slice eU)] OT
def bba:=OT.eQ ba9 1 ⟨.eg aFt,trivial⟩
abbrev aBv:=Uu×Nat×Nat×(List (bO×fh))×(List cF)×(List cP)
def jC(a:Uu):Int:=cE .and .i64 a.1 7
def Cm(a:Uu)(nb:Nat)(bs:List cP):List cP:=if jC a < 3 then ajz a.2.1 1 (oz nb bs) ((nb:Int)+1) else if 1<=a.2.2.1/\a.2.2.1<=nb/\a.2.2.1<=8 then ajz a.2.1 (a.2.2.1.toNat+1) (oz (nb - a.2.2.1.toNat) bs) ((nb:Int) - a.2.2.1+1) else []
def aHB:aBv->Prop:=λ(a,nb,n,j,s,bs)=>(∃u m,tA u m nb n j s bs)/\akm a.2.1
def ZA:aBv->((List cP)×Nat×Nat×(List (bO×fh))×(List cF)×(List cP)):=λ(a,nb,n,j,s,bs)=>(Cm a nb bs,nb,n,j,s,bs)
def AB:Fs prog aHB bt ZA:=eP 10 f10 (λ(a,j,u,A,B,I)=>([dK,.d yr a],(aeJ j u A B I))) (λx=>⟨K4 x.1,(aeJ x.2.1 x.2.2.1 x.2.2.2.1 x.2.2.2.2.1 x.2.2.2.2.2),[]⟩) [aC,aw yr] [HN,aBP,bba,bdN,aos] {res:=[aw (.slice dS)]}
def aPB(a A B J K L)(k:K1 R):AB.A (a,A,B,J,K,L) k=ao (so.call (A,B,J,K,L)) λj=>aA (fj (cE .and .i64 a.1 7) 3) (ao (UK.call (j.1.1,j.1.2.1,j.1.2.2.1,j.1.2.2.2.1,j.1.2.2.2.2)) λI=>ao (OT.call (I.2,j.2,1,a.2.1)) λM=>k (AB.out (M,I.1.1,I.1.2.1,I.1.2.2.1,I.1.2.2.2.1,I.1.2.2.2.2))) (aA (fj a.2.2.1 1) (k (AB.out (([]:List cP),j.1.1,j.1.2.1,j.1.2.2.1,j.1.2.2.2.1,j.1.2.2.2.2))) (aA (qi a.2.2.1 j.2) (k (AB.out (([]:List cP),j.1.1,j.1.2.1,j.1.2.2.1,j.1.2.2.2.1,j.1.2.2.2.2))) (aA (qi a.2.2.1 8) (k (AB.out (([]:List cP),j.1.1,j.1.2.1,j.1.2.2.1,j.1.2.2.2.1,j.1.2.2.2.2))) (ao (awX.call ((cY .i64 j.2 a.2.2.1),j.1.1,j.1.2.1,j.1.2.2.1,j.1.2.2.2.1,j.1.2.2.2.2)) λu=>aA (u.2.2) (ao (VN.call u.2.1) λO=>ao (OT.call (O,(cY .i64 j.2 a.2.2.1),(bC .i64 a.2.2.1 1),a.2.1)) λT=>k (AB.out (T,u.1.1,u.1.2.1,u.1.2.2.1,u.1.2.2.2.1,u.1.2.2.2.2))) (ao (OT.call ((ag 32 0),(cY .i64 j.2 a.2.2.1),(bC .i64 a.2.2.1 1),a.2.1)) λx7=>k (AB.out (x7,u.1.1,u.1.2.1,u.1.2.2.1,u.1.2.2.2.1,u.1.2.2.2.2))))))):=bS
def bjT{A:At}{m nb n:Nat}{a:At}{s:List cF}{bs:List cP}(h:tA A m nb n a s bs){k:Nat}(I:k < nb):aDX (nth dS bs k)=nth dS bs k/\aG0 (nth dS bs k):=by have J:nb<=aa bs:=h.ch.1;have j:k < aa bs:=aq;have n1:nth dS bs k=bs[k]:=bG (t:=dS) j;rw[n1];have u:=h.ch.2.2 _ (aD j);refine⟨ayK u λt B=>(h.bnE (b:=bs[k]) ?_ B).1,u⟩;have:(bs.take nb)[k]'(by rw[bw];omega)=bs[k]:=ku;rw[<-this];exact aD _
def aPC:AB.Ok:=by
 rintro⟨a,nb,n,u,s,bs⟩ ⟨⟨A0,m,h⟩,J⟩;have L:nb<=1000000:=h.ch.2.1;have z1:(1:Int).toNat=1:=rfl;have hs:∀l:List cP,aA (decide (0=0/\0+aa l<=aa l)) (aw l) aC=aw l:=λl=>by rw[aK aq];rfl
 rw[aPB,ak6,show cE .and .i64 a.1 7=jC a from rfl];simp only[ah,bt,ZA,Cm];by_cases j:jC a < 3
 .rw[av j,aN j,ai,bdP h.ch];simp only[ah];rw[afp (d:=(oz nb bs,(nb:Int),1,a.2.1)) ⟨⟨aq,aq⟩,J,Hc _ _,1,rfl,fm⟩];rfl
 .rw[au j,aL j,al];by_cases A:1<=a.2.2.1;rotate_left
  .rw[aN aq,ai,au (λe=>A e.1)]
  rw[aL aq,al];by_cases B:a.2.2.1<=nb;rotate_left
  .rw[cW aq,ai,au (λe=>B e.2.1)]
  rw[ct aq,al];by_cases I:a.2.2.1<=8;rotate_left
  .rw[cW aq,ai,au (λe=>I e.2.2)]
  rw[ct aq,al,av ⟨A,B,I⟩];generalize a.2.2.1=d at A B I;obtain⟨k,rfl⟩:∃k:Nat,d=(k:Int):=⟨d.toNat,aq⟩;have M:cY .i64 (nb:Int) (k:Int)=((nb - k:Nat):Int):=by rw[eO aq aq];omega
  have O:bC .i64 (k:Int) 1=((k+1:Nat):Int):=by rw[eS aq aq];omega
  rw[M,O,aWn (d:=(((nb - k:Nat):Int),nb,n,u,s,bs)) h.ch];simp only[ah,aBH,ak3,bkD,ab];by_cases K:nb - k=0
  .rw[au aq,al,afp (d:=(ag 32 0,((nb - k:Nat):Int),((k+1:Nat):Int),a.2.1)) ⟨⟨aq,aq⟩,J,cT,k+1,rfl,aq⟩];simp only[ah,bt,akd,ab];rw[show oz (nb - k) bs=ag 32 0 from av K,show((nb - k:Nat):Int)=(nb:Int) - (k:Int) by omega]
  .obtain⟨o1,T⟩:=bjT h (k:=nb - k - 1) aq;rw[av ⟨aq,aq⟩,o1];simp only[ai];rw[TS (d:=nth dS bs (nb - k - 1)) T];simp only[ah,bt,aN8];rw[afp (d:=(aHo (nth dS bs (nb - k - 1)),((nb - k:Nat):Int),((k+1:Nat):Int),a.2.1)) ⟨⟨aq,aq⟩,J,HI _,k+1,rfl,aq⟩];simp only[ah,bt,akd,ab];rw[show oz (nb - k) bs=aHo (nth dS bs (nb - k - 1)) from au K,show((nb - k:Nat):Int)=(nb:Int) - (k:Int) by omega]
def akW:AB.RS:=rE [.d yr,.n,.n,.d (.slice (.pair bK mv)),.d (.slice eh),.d (.slice dS)] AB
def atu:=AB.eQ aPC
abbrev Gb:=(List dW)×(List Uu)×Int
def aba(j):=(.d (.slice yr) j:aF)
def sC:Gb->AS:=λ(j,u,i)=>⟨([qX j,aba u,bB,bB,bB,aU i]++aP 56 []),[],(ag 62 [])⟩
def nj:Unit->Exit×AS:=λx=>(.ret,⟨(aP 4 ([me]++aP 57 [])),[],(ag 62 [])⟩)
abbrev agN:=(List dW)×(List Uu)
def Ej:agN->Exit×AS:=λx=>(.exit 0,⟨([qX x.1,aba x.2]++aP 60 []),[],(ag 62 [])⟩)
abbrev Xv:=(Unit)⊕(agN)
abbrev alP:=(Unit)⊕(((List dW)×(List Uu)))
def MB:Xv->Out (Exit×AS):=λx=> .br x.isLeft (.get x.getLeft? λa=> .ok (nj a)) (.get x.getRight? λb=> .ok (Ej b))
def ni:Gb->alP->Xv:=λ(j,u,i) y=>match y with | .inl y=> .inl y | .inr z=> .inr (z)
abbrev Gc:=(List dW)×(List Uu)×Int×Int
def sE:Gc->AS:=λ(A,j,u,B)=>⟨([qX A,aba j,bB,bB,bB,aU u,aU B]++aP 55 []),[],(ag 62 [])⟩
def jT:Unit->Exit×AS:=λx=>(.ret,⟨(aP 4 ([me]++aP 57 [])),[],(ag 62 [])⟩)
abbrev agP:=(List dW)×(List Uu)×Int
def El:agP->Exit×AS:=λ(a,b,c)=>(.exit 2,⟨([qX a,aba b,bB,bB,bB,aU c]++aP 56 []),[],(ag 62 [])⟩)
abbrev Xx:=(Unit)⊕(agP)
abbrev alR:=(Unit)⊕(Unit)
def MC:Xx->Out (Exit×AS):=λx=> .br x.isLeft (.get x.getLeft? λa=> .ok (jT a)) (.get x.getRight? λb=> .ok (El b))
def nk:Gc->alR->Xx:=λ(A,j,u,B) y=>match y with | .inl y=> .inl y | .inr z=> .inr ((A,j,u))
abbrev aM9:=(List dW)×(List Uu)
def as0(t:di):Bool:=decide (aa t.1<=6) && (decide (aa t.2.1<=6) && azX t)
def Uw(a:Uu):Bool:=decide (aa a.2.1<=4) && a.2.1.all as0
def ad4(outs:List dW)(j:List Uu):Bool:=j.all Uw && (decide (aa outs<=10) && decide (aa j<=20))
def Ek:Gc->Prop:=λ(_,u,i,j)=>aa u<=9223372036854775807/\∃k m:Nat,i=k/\k < aa u/\(nth yr u k).2.1.length<=4/\j=m/\m<=(nth yr u k).2.1.length
def sD:Gc->alR:=λ(_,u,i,j)=>if((nth yr u i.toNat).2.1.drop j.toNat).all as0 then .inr () else .inl ()
def Ei:Gb->Prop:=λ(_,j,i)=>aa j<=9223372036854775807/\∃k:Nat,k<=aa j/\i=k
def sB:Gb->alP:=λ(outs,j,i)=>if(j.drop i.toNat).all Uw then .inr (outs,j) else .inl ()
def aQv:aM9->Prop:=λ(_,j)=>aa j<=9223372036854775807
def axD:aM9->Bool:=λ(outs,j)=>ad4 outs j
def alO:=cQ.eg sC Ei ni sB MB
def U2:Gb->Option Xv:=eN alO sC
def alQ:=cQ.eg sE Ek nk sD MC
def U4:Gc->Option Xx:=eN alQ sE
def xy:Fs prog aQv bt axD:=eP 9 f9 (λ(outs,l)=>([.d (.slice dI) outs,.d (.slice yr) l],[])) (λx=>⟨.d .bool x,[],[]⟩) [aw (.slice dI),aw (.slice yr)] [aEw] {loops:=ko [(2,{aX:=[0,1,5]}),(7,{aX:=[0,1,5,6]})],outs:=km [(2,{aX:=[0,1]},{aX:=[4]}),(7,{aX:=[0,1,5]},{aX:=[4]})],eT:=jW [(2,alO),(7,alQ)]}
def Xu:= @dm prog (gU xy.G) xy.an 0 f9 0 _ sC
abbrev agM:=gr prog (gU xy.G) xy.an 0 f9 0 sC Ei ni sB MB
def Xw:= @dm prog (gU xy.G) xy.an 0 f9 1 _ sE
abbrev agO:=gr prog (gU xy.G) xy.an 0 f9 1 sE Ek nk sD MC
def axE:fC U2 Ei ni sB:=ia (fy [.d (.slice dI),.d (.slice yr),.d ti] λ_=>bS)
def aag:iX @Xu sC Ei ni sB MB agM:=ji
def U3(u j i)(J:K2 R)(A:K3 R):Xu (u,j,i) J A=aA (fj i (((aa j):Nat):Int)) (aA (dB i (((aa j):Nat):Int)) (aA (qi (((aa (nth yr j (ae i)).2.1):Nat):Int) (4:Int)) (A (nj ()).1 (nj ()).2) (ao (U4 (u,j,i,(0:Int))) λI=>aA I.isLeft (ao I.getLeft? λK=>A (nj ()).1 (nj ()).2) (ao I.getRight? λB=>J (sC (B.1,B.2.1,(bC .i64 B.2.2 (1:Int))))))) aC) (A (Ej (u,j)).1 (Ej (u,j)).2):=bS
def axF:fC U4 Ek nk sD:=ia (fy [.d (.slice dI),.d (.slice yr),.d ti,.d ti] λ_=>bS)
def aah:iX @Xw sE Ek nk sD MC agO:=ji
def U5(I j u A)(J:K2 R)(B:K3 R):Xw (I,j,u,A) J B=aA (dB u (((aa j):Nat):Int)) (aA (fj A (((aa (nth yr j (ae u)).2.1):Nat):Int)) (aA (dB u (((aa j):Nat):Int)) (aA (dB A (((aa (nth yr j (ae u)).2.1):Nat):Int)) (aA (qi (((aa (nth eU (nth yr j (ae u)).2.1 (ae A)).1):Nat):Int) (6:Int)) (B (jT ()).1 (jT ()).2) (aA (qi (((aa (nth eU (nth yr j (ae u)).2.1 (ae A)).2.1):Nat):Int) (6:Int)) (B (jT ()).1 (jT ()).2) (ao (gV.call (nth eU (nth yr j (ae u)).2.1 (ae A))) λK=>aA (!K) (B (jT ()).1 (jT ()).2) (J (sE (I,j,u,(bC .i64 A (1:Int)))))))) aC) aC) (B (El (I,j,u)).1 (El (I,j,u)).2)) aC:=bS
def aXv(outs l)(k:K1 R):xy.A (outs,l) k=ao (U2 (outs,l,0)) λj=>aA j.isLeft (ao j.getLeft? λu=>k (xy.out aZ)) (ao j.getRight? λb7=>aA (arD (aa b7.1:Int) 10) (k (xy.out (arD (aa b7.2:Int) 20))) (k (xy.out aZ))):=bS
def aCA:agO:=by
 refine aah (λ(_,u,i,j)=>(nth yr u i.toNat).2.1.length - j.toNat) ?_
 rintro⟨outs,u,i,j⟩ ⟨M,k,m,rfl,L,J,rfl,O⟩;have M:aa u<=9223372036854775807:=M;have L:k < aa u:=L;have J:(nth yr u k).2.1.length<=4:=J;have O:m<=(nth yr u k).2.1.length:=O;obtain⟨l,A⟩:∃l:List di,(nth yr u k).2.1=l:=⟨_,rfl⟩;rw[A]at J O;by_cases h:m < aa l
 .have n1:nth eU l m=l[m]:=bG (t:=eU) h;have hd:(l.drop m).all as0=(as0 l[m] && (l.drop (m+1)).all as0):=by rw[ak h,gX]
  have step:∀ {R:Type} (B:AS->Option R) (I:Exit->AS->Option R),Xw (outs,u,(k:Int),(m:Int)) B I=aA (as0 l[m]) (B (sE (outs,u,(k:Int),((m+1:Nat):Int)))) (I (jT ()).1 (jT ()).2):=by
   intro R B I;rw[U5,aS aq aq,ai,ab,A,aN aq,ai,ai,aS aq aq,ai,ab,n1,ay2 (d:=l[m]) trivial,N.iY aq];simp only[ah,bt,Ym];unfold as0;by_cases T:l[m].1.length<=6
   .rw[ct aq,aK T,bH,al];by_cases h2:l[m].2.1.length<=6
    .rw[ct aq,aK h2,bH,al];cases azX l[m] <;> rfl
    .rw[cW aq,aV h2];rfl
   .rw[cW aq,aV T];rfl
  cases K:as0 l[m]
  .right;refine⟨jT (),?_,λB I=> ?_⟩
   .simp only[nk,sD,ab,A,hd,K,cU,bu,bq];rfl
   .rw[step,K,al]
  .left;refine⟨(outs,u,(k:Int),((m+1:Nat):Int)),⟨M,k,m+1,rfl,L,by rw[A];exact J,rfl,by rw[A];exact h⟩,by simp only[ab,A];omega,?_,λB I=> ?_⟩
   .simp only[nk,sD,ab,A,hd,K,bH]
   .rw[step,K,ai]
 .right;obtain rfl:m=aa l:=aq;refine⟨El (outs,u,(k:Int)),?_,λB I=> ?_⟩
  .simp only[nk,sD,ab,A,ay];rfl
  .rw[U5,aS aq aq,ai,ab,A,aL aq,al]
def aCz:agM:=by
 refine aag (λ(_,j,i)=>aa j - i.toNat) ?_
 rintro⟨outs,j,i⟩ ⟨B,k,L,rfl⟩;have B:aa j<=9223372036854775807:=B;have L:k<=aa j:=L;by_cases h:k < aa j
 .have n1:nth yr j k=j[k]:=bG (t:=yr) h;have K:(j.drop k).all Uw=(Uw j[k] && (j.drop (k+1)).all Uw):=by rw[ak h,gX]
  have step:∀ {R:Type} (u:AS->Option R) (A:Exit->AS->Option R),Xu (outs,j,(k:Int)) u A=aA (Uw j[k]) (u (sC (outs,j,((k+1:Nat):Int)))) (A (nj ()).1 (nj ()).2):=by
   intro R u A;rw[U3,aN aq,ai,aS aq aq,ai,ab,n1];unfold Uw;by_cases J:j[k].2.1.length<=4
   .rw[ct aq,al,aK J,bH,axF (d:=(outs,j,(k:Int),0)) ⟨B,k,0,rfl,h,by rw[n1];exact J,rfl,az _⟩];simp only[ah,sD,ab,n1,aW,aH];cases j[k].2.1.all as0 with
    |false=>rfl
    |true=>
     simp only[bQ,nk,dh,al,cJ,ah,ai];rw[N.iY aq]
   .rw[cW aq,aV J];rfl
  cases I:Uw j[k]
  .right;refine⟨nj (),?_,λu A=> ?_⟩
   .simp only[ni,sB,ab,K,I,cU,bu,bq];rfl
   .rw[step,I,al]
  .left;refine⟨(outs,j,((k+1:Nat):Int)),⟨B,k+1,aq,rfl⟩,by simp only[ab];omega,?_,λu A=> ?_⟩
   .simp only[ni,sB,ab,K,I,bH]
   .rw[step,I,ai]
 .right;obtain rfl:k=aa j:=aq;refine⟨Ej (outs,j),?_,λu A=> ?_⟩
  .simp only[ni,sB,ab,ay];rfl
  .rw[U3,aL aq,al]
def aXw:xy.Ok:=by
 rintro⟨outs,j⟩ B;rw[aXv,axE (d:=(outs,j,0)) ⟨B,0,az _,rfl⟩];simp only[ah,sB,aW,aH,bt,axD,ad4];cases j.all Uw with
 |false=>rfl
 |true=>
  simp only[bQ,ni,dh,al,cJ,ah,bH];by_cases u:aa outs<=10
  .rw[np aq,ai,aK u,bH];by_cases A:aa j<=20
   .rw[np aq,aK A]
   .rw[jK aq,aV A]
  .rw[jK aq,al,aV u,cU]
def aQw:xy.RS:=rE [.d (.slice dI),.d (.slice yr)] xy
def aXx:=xy.eQ aXw 2 ⟨.eg aCz,⟨.eg aCA,trivial⟩⟩
abbrev Ee:=Uu×(List cP)×Int×Bool×Nat×Nat×(List (bO×fh))×(List cF)×(List cP)×(List (bO×kM))
def aZP(j u A B I J):=([fp (.pr (qp 1 0 0) (C7 4 0 0 0 j)),fp (.pr (.iI (.dx 2) 0) (C7 3 0 0 0 u)),fp (.mp bK mv A),fp (.vec 243 eh B),fp (.vec 48 dS I),fp (.pr (.iI (.dx 6) 0) Pv),fp (.mp bK Au J)]:List dR)
def UZ:Ee->AS:=λ(a,l,A,B,j,u,I,J,K,L)=>⟨([dK,qp 5 0 0,bB,bB,bB,.iU yr a,bB,K4 l]++aP 5 ([aU A,fA B]++aP 33 [])),(aZP j u I J K L),(ag 48 [])⟩
def Z8:iO:=iO.of {aX:=[0,1,5,7,13,14]} UZ
def yV:Ee->Option Ee:=λx=>(Z8).amf .normal (UZ x)
def Z9(x:Ee):yV x=aw x:=iO.rJ (fy [.d yr,.d (.slice dS),.d ti,.d .bool,.n,.n,.d (.slice (.pair bK mv)),.d (.slice eh),.d (.slice dS),.d (.slice (.pair bK Au))] λ_=>bS) x
abbrev Ef:=Uu×(List cP)×Int×Bool×Nat×Nat×(List (bO×fh))×(List cF)×(List cP)×(List (bO×kM))
def U0:Ef->AS:=λ(a,l,A,B,j,u,I,J,K,L)=>⟨([dK,qp 5 0 0,bB,bB,bB,.iU yr a,bB,K4 l]++aP 5 ([aU A]++aP 9 ([fA B]++aP 24 []))),(aZP j u I J K L),(ag 48 [])⟩
def aaa:iO:=iO.of {aX:=[0,1,5,7,13,23]} U0
def F9:Ef->Option Ef:=λx=>(aaa).amf .normal (U0 x)
def aab(x:Ef):F9 x=aw x:=iO.rJ (fy [.d yr,.d (.slice dS),.d ti,.d .bool,.n,.n,.d (.slice (.pair bK mv)),.d (.slice eh),.d (.slice dS),.d (.slice (.pair bK Au))] λ_=>bS) x
abbrev P6:=Uu×Nat×Nat×(List (bO×fh))×(List cF)×(List cP)×(List (bO×kM))
def adZ:P6->SA:=λ(a,j,u,A,B,I,J)=>([dK,qp 5 0 0,.d yr a],(aZP j u A B I J))
abbrev alG:=((List tI)×Nat×Nat×(List (bO×fh))×(List cF)×(List cP)×(List (bO×kM)))⊕((List tI)×Nat×Nat×(List (bO×fh))×(List cF)×(List cP)×(List (bO×kM))×Nat×(List (bO×fh))×(List cF)×(List cP))
abbrev P7:=((List tI)×Nat×Nat×(List (bO×fh))×(List cF)×(List cP)×(List (bO×kM)))⊕((List tI)×Nat×Nat×(List (bO×fh))×(List cF)×(List cP)×(List (bO×kM))×Nat×(List (bO×fh))×(List cF)×(List cP))
def abb(j):=(.d (.slice Ah) j:aF)
def qf:P7->hZ:=λx=>match x with | .inl x=>⟨abb x.1,[fp (.pr (qp 1 0 0) (C7 4 1 0 0 x.2.1)),fp (.pr (zi 2 0) (C7 3 1 0 0 x.2.2.1)),fp (DD x.2.2.2.1),.obj 1 aZ (Ib x.2.2.2.2.1),.obj 1 aZ (.vec 48 dS x.2.2.2.2.2.1),fp (.pr (zi 6 0) Pv),Ox x.2.2.2.2.2.2],[]⟩ | .inr x=>⟨abb x.1,[fp (.pr (eI 0) (CA 0 3 0 0 0 x.2.1)),fp (.pr (zi 2 0) (C7 3 1 0 0 x.2.2.1)),fp (DD x.2.2.2.1),.obj 1 aZ (Ib x.2.2.2.2.1),.obj 1 aZ (.vec 48 dS x.2.2.2.2.2.1),fp (.pr (zi 6 0) Pv),Ox x.2.2.2.2.2.2.1],[auY 0 1 0 0 2 0 0 0 x.2.2.2.2.2.2.2.1,fp (DD x.2.2.2.2.2.2.2.2.1),fp (Ib x.2.2.2.2.2.2.2.2.2.1),Vr x.2.2.2.2.2.2.2.2.2.2]⟩
def Xp:P6->alG->P7:=λ(a,j,u,A,B,I,J) y=>match y with | .inl y=> .inl y | .inr y=> .inr y
def aU0(v:Int):Bool:=oC v 0 || (oC v 1 || oC v 2)
def bfh(v:Int):Bool:=oC v 3 || oC v 4
def ajy(d:Int)(l:List cP)(nb n:Nat)(a:At)(s:List cF)(bs:List cP):Tp:=(jS (d,l,nb,n,a,s,bs)).getD (.inl (0,nb,n,a,s,bs))
def Pa(o:bO)(m:Wm):Wm:=if(bT bK o m).isSome then m else fi bK o yt m
def aLm(a:Uu)(nb:Nat)(bs:List cP)(m:Wm):Wm×List tI:=if jC a=5 then(Pa a.2.2.2.1 m,[]) else if jC a=6 then(fV bK a.2.2.2.1 m,[]) else if jC a=7 then gM nb bs m else(m,[])
def Xo:P6->Prop:=λ(a,nb,n,j,s,bs,m)=>(∃u b,tA u b nb n j s bs/\b+aa a.2.1<=400)/\nb<=900/\akm a.2.1/\WG m
def kH:P6->alG:=λ(a,nb,n,j,s,bs,m)=>
 if aU0 (jC a) then .inl ([],(lX (nth dS (Cm a nb bs) 0) nb (n,j,s) bs).2.1,(lX (nth dS (Cm a nb bs) 0) nb (n,j,s) bs).2.2.1,(lX (nth dS (Cm a nb bs) 0) nb (n,j,s) bs).2.2.2.1,(lX (nth dS (Cm a nb bs) 0) nb (n,j,s) bs).2.2.2.2.1,(lX (nth dS (Cm a nb bs) 0) nb (n,j,s) bs).2.2.2.2.2,m)
 else if bfh (jC a) then match ajy a.2.2.1 (Cm a nb bs) nb n j s bs with
  | .inl x=> .inl ([],x.2.1,x.2.2.1,x.2.2.2.1,x.2.2.2.2.1,x.2.2.2.2.2,m)
  | .inr x=> .inr ([],x.2.1,x.2.2.1,x.2.2.2.1,x.2.2.2.2.1,x.2.2.2.2.2.1,m,x.2.2.2.2.2.2.1,x.2.2.2.2.2.2.2.1,x.2.2.2.2.2.2.2.2.1,x.2.2.2.2.2.2.2.2.2)
 else .inl ((aLm a nb bs m).2,nb,n,j,s,bs,(aLm a nb bs m).1)
def aXn:qN:=gU (P:=prog) [atu,aBF,aHQ,aGR,aGI,bcG]
def aQn:yu:= {res:=[aw (.slice Ah)],atv:=[(3,1),(4,1)],aui:=jW [(6,Z8),(9,aaa)]}
def aCs:= @FI prog aXn aQn 0 f16 _ adZ
abbrev aQm:=WS @aCs Xo Xp kH qf
def aQo(a L M o2 o3 o4 O)(k:K1 R):aCs (a,L,M,o2,o3,o4,O) k=ao (AB.call (a,L,M,o2,o3,o4)) λI=>ao (aA (oC (cE .and .i64 a.1 (7:Int)) (0:Int)) (yV (a,I.1,(cE .and .i64 a.1 (7:Int)),(oC (cE .and .i64 a.1 (7:Int)) (0:Int)),I.2.1,I.2.2.1,I.2.2.2.1,I.2.2.2.2.1,I.2.2.2.2.2,O)) (aA (oC (cE .and .i64 a.1 (7:Int)) (1:Int)) (yV (a,I.1,(cE .and .i64 a.1 (7:Int)),(oC (cE .and .i64 a.1 (7:Int)) (1:Int)),I.2.1,I.2.2.1,I.2.2.2.1,I.2.2.2.2.1,I.2.2.2.2.2,O)) (yV (a,I.1,(cE .and .i64 a.1 (7:Int)),(oC (cE .and .i64 a.1 (7:Int)) (2:Int)),I.2.1,I.2.2.1,I.2.2.2.1,I.2.2.2.2.1,I.2.2.2.2.2,O)))) λu=>aA (u.2.2.2.1) (aA (dB (0:Int) (((aa u.2.1):Nat):Int)) (ao (Oj.call ((nth dS u.2.1 0),u.2.2.2.2.1,u.2.2.2.2.2.1,u.2.2.2.2.2.2.1,u.2.2.2.2.2.2.2.1,u.2.2.2.2.2.2.2.2.1)) λK=>k (qf (.inl (([]:List tI),K.2.1,K.2.2.1,K.2.2.2.1,K.2.2.2.2.1,K.2.2.2.2.2,u.2.2.2.2.2.2.2.2.2)))) aC) (ao (aA (oC u.2.2.1 (3:Int)) (F9 (u.1,u.2.1,u.2.2.1,(oC u.2.2.1 (3:Int)),u.2.2.2.2.1,u.2.2.2.2.2.1,u.2.2.2.2.2.2.1,u.2.2.2.2.2.2.2.1,u.2.2.2.2.2.2.2.2.1,u.2.2.2.2.2.2.2.2.2)) (F9 (u.1,u.2.1,u.2.2.1,(oC u.2.2.1 (4:Int)),u.2.2.2.2.1,u.2.2.2.2.2.1,u.2.2.2.2.2.2.1,u.2.2.2.2.2.2.2.1,u.2.2.2.2.2.2.2.2.1,u.2.2.2.2.2.2.2.2.2))) λj=>aA (j.2.2.2.1) (ao (jS (j.1.2.2.1,j.2.1,j.2.2.2.2.1,j.2.2.2.2.2.1,j.2.2.2.2.2.2.1,j.2.2.2.2.2.2.2.1,j.2.2.2.2.2.2.2.2.1)) λT=>aA T.isLeft (ao T.getLeft? λJ=>k (qf (.inl (([]:List tI),J.2.1,J.2.2.1,J.2.2.2.1,J.2.2.2.2.1,J.2.2.2.2.2,j.2.2.2.2.2.2.2.2.2)))) (ao T.getRight? λB=>k (qf (.inr (([]:List tI),B.2.1,B.2.2.1,B.2.2.2.1,B.2.2.2.2.1,B.2.2.2.2.2.1,j.2.2.2.2.2.2.2.2.2,B.2.2.2.2.2.2.1,B.2.2.2.2.2.2.2.1,B.2.2.2.2.2.2.2.2.1,B.2.2.2.2.2.2.2.2.2))))) (aA (oC j.2.2.1 (5:Int)) (ao (Pd.call (j.1.2.2.2.1,j.2.2.2.2.2.2.2.2.2)) λWO=>k (qf (.inl (([]:List tI),j.2.2.2.2.1,j.2.2.2.2.2.1,j.2.2.2.2.2.2.1,j.2.2.2.2.2.2.2.1,j.2.2.2.2.2.2.2.2.1,WO)))) (aA (oC j.2.2.1 (6:Int)) (ao (adb.call (j.1.2.2.2.1,j.2.2.2.2.2.2.2.2.2)) λHs=>k (qf (.inl (([]:List tI),j.2.2.2.2.1,j.2.2.2.2.2.1,j.2.2.2.2.2.2.1,j.2.2.2.2.2.2.2.1,j.2.2.2.2.2.2.2.2.1,Hs)))) (aA (oC j.2.2.1 (7:Int)) (ao (WB.call (j.2.2.2.2.2.2.2.2.2,j.2.2.2.2.1,j.2.2.2.2.2.1,j.2.2.2.2.2.2.1,j.2.2.2.2.2.2.2.1,j.2.2.2.2.2.2.2.2.1)) λA=>aA (decide (0=0/\(0+A.1)<=(aa A.2.2.2.2.2.2.2))) (k (qf (.inl ((cut A.2.2.2.2.2.2.2 0 A.1),A.2.2.1,A.2.2.2.1,A.2.2.2.2.1,A.2.2.2.2.2.1,A.2.2.2.2.2.2.1,A.2.1)))) aC) (k (qf (.inl (([]:List tI),j.2.2.2.2.1,j.2.2.2.2.2.1,j.2.2.2.2.2.2.1,j.2.2.2.2.2.2.2.1,j.2.2.2.2.2.2.2.2.1,j.2.2.2.2.2.2.2.2.2)))))))):=bS
def aHA{a:Uu}(u:akm a.2.1){nb:Nat}(I:nb<=1000000)(bs:List cP):(∀b∈Cm a nb bs,Pg b)/\oY (Cm a nb bs)<=aa a.2.1/\aa (Cm a nb bs)<=9/\(jC a < 3->aa (Cm a nb bs)=1):=by
 unfold Cm;split
 .exact⟨aK2 u 1 _ _ aq (Hc _ _),apH _ _ _ _,by rw[ach];decide,λ_=>ach _ _ _ _⟩
 .rename_i j;split
  .rename_i B;exact⟨aK2 u _ _ _ aq (Hc _ _),apH _ _ _ _,by rw[ach];omega,λh=>absurd h j⟩
  .exact⟨λb A=>(by cases A),az _,by show 0<=9;decide,λh=>absurd h j⟩
def acS:∀ {l:List cP} {b:cP},b∈l->aa b.2.2.1<=oY l
 |x::l,b,h=>by
  rw[oY];rcases cr.1 h with rfl | h
  .omega
  .have:=acS h;omega
def tA.ajy{u:At}{m nb n:Nat}{a:At}{s:List cF}{bs:List cP}(h:tA u m nb n a s bs)(d:Int){l:List cP}(B:∀b∈l,Pg b)(I:m+oY l<=400)(J:nb+aa l<=1000):
  jS (d,l,nb,n,a,s,bs)=aw (Ab.ajy d l nb n a s bs):=by
 unfold Ab.ajy;rcases h.bh6 d B I J with⟨e,_,j⟩ | ⟨L,K,M,A,j,_⟩
 .rw[j];rfl
 .rw[j];rfl
def aQp:aQm:=by
 rintro⟨a,nb,n,j,s,bs,m⟩ ⟨⟨M,b,h,O⟩,u,T,hw⟩;have O:b+aa a.2.1<=400:=O;have u:nb<=900:=u;obtain⟨K,g2,g3,L⟩:=aHA T (nb:=nb) aq bs;rw[aQo,akW (d:=(a,nb,n,j,s,bs)) ⟨⟨M,b,h⟩,T⟩];simp only[ah,bt,ZA,Z9,aab];rw[show cE .and .i64 a.1 7=jC a from rfl];refine(bA (λz=>ao z _) (?_:_=aw (a,Cm a nb bs,jC a,aU0 (jC a),nb,n,j,s,bs,m))).trans ?_
 .unfold aU0;cases oC (jC a) 0 <;> cases oC (jC a) 1 <;> cases oC (jC a) 2 <;> rfl
 rw[ah];simp only[kH];generalize hl:Cm a nb bs=l at K g2 g3 L ⊢;cases h3:aU0 (jC a) with
 |true=>
  have hv:jC a < 3:=by unfold aU0 oC at h3;simp only[vI,lZ]at h3;rcases h3 with h3 | h3 | h3 <;> rw[h3] <;> decide
  have L:=L hv;have J:nth dS l 0∈l:=by rw[bG (t:=dS) (show 0 < aa l by omega)];exact aD _
  rw[ai,av rfl,aS fm aq,ai,h.bnV (K _ J) aq];rfl
 |false=>
  rw[al,au fm];refine(bA (λz=>ao z _) (?_:_=aw (a,l,jC a,bfh (jC a),nb,n,j,s,bs,m))).trans ?_
  .unfold bfh;cases oC (jC a) 3 <;> cases oC (jC a) 4 <;> rfl
  rw[ah];simp only[];cases h4:bfh (jC a) with
  |true=>
   rw[ai,av rfl,h.ajy a.2.2.1 K aq aq];simp only[ah];cases ajy a.2.2.1 l nb n j s bs <;> rfl
  |false=>
   rw[al,au fm];unfold aLm;by_cases A:jC a=5
   .rw[dC A,ai,av A,agb (d:=(a.2.2.2.1,m)) trivial];rfl
   rw[eZ A,al,au A];by_cases B:jC a=6
   .rw[dC B,ai,av B,awl (d:=(a.2.2.2.1,m)) trivial];rfl
   rw[eZ B,al,au B];by_cases I:jC a=7
   .rw[dC I,ai,av I,aUD (d:=(m,nb,n,j,s,bs)) ⟨⟨M,b,h⟩,hw⟩];simp only[ah,bt,aAB];rw[aK (⟨trivial,pU (aO _)⟩:True/\0+(gM nb bs m).2.length<=(gM nb bs m).2.length),ai,dM rfl];rfl
   rw[eZ I,al,au I];rfl
def KJ:=Entry.Ug [aC,aC,aw yr] adZ Xo Xp kH qf
def fg:P6->Option P7:=Du KJ adZ
def Mx:fC fg Xo Xp kH:=LN (Pp [.d yr,.n,.n,.d (.slice (.pair bK mv)),.d (.slice eh),.d (.slice dS),.d (.slice (.pair bK Au))] λ_=>bS)
def adY:SG prog:=⟨16,jh,KJ,.of (.aOE (.fn 0 bS aQp trivial)) (by rfl)⟩
end Go.Ab
end
