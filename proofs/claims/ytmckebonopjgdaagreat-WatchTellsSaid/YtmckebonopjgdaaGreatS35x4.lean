/-
  Made short by a program of mine (wip/tools/mini.py).
-/
import Derived.Test.YtmckebonopjgdaaGreatS35x3
import Derived.Shelf.SlSortCmp.NoneTotal
import Derived.Test.YtmckebonopjgdaaGreatProg
set_option linter.defProp false
set_option linter.unusedVariables false
set_option linter.unusedSimpArgs false
set_option maxRecDepth 100000
set_option synthInstance.maxSize 5000
open Go.Proofs.Tryz
open List renaming replicate->ag,length->aa,set->gq,take->aJ,drop->bj
open Go renaming FuncId->fX,TypeId->bk,Value->bh,Program->bg,World->cG
open Go.World renaming cell?->gh
open Int renaming toNat->ae
open Or renaming inr->eF,inl->ju
open And renaming intro->iD
open Option renaming some->aw,none->aC
open Bool renaming true->bn,false->aZ
noncomputable section
variable {R:Type}
namespace Go.Ab
open Go.Proofs
def aWA:(List gb)->Prop:=λl=>aa l<=1000000
def aHW:(List gb)->(Nat×(List gb)):=λl=>(aa l,l)
def aw5:Fs prog aWA bt aHW:=eP 112 f112 (λj=>([.d (.slice fK) j],[])) (λx=>⟨.dq (.new 0 0) 0 [] 0 0 x.1,[],[.obj 0 aZ (.vec 79 fK x.2)]⟩) [aw (.slice fK)] [] {cd:=[5],owns:=[⟨2,[],5,53⟩]}
def bdV(j)(k:K1 R):aw5.A j k=aA (decide (0 < (aa j))) (aA (cM (0+(aa j)) 80) (k (aw5.out ((0+(aa j)),((aJ 0 (ag 0 (((ag 32 0),(0,())),((0,(([]:List Sg),(0,()))),()))))++j)))) aC) (nd (k (aw5.out (0,([]:List gb)))) (aA (cM (0+(aa j)) 80) (k (aw5.out ((0+(aa j)),((aJ 0 (ag 0 (((ag 32 0),(0,())),((0,(([]:List Sg),(0,()))),()))))++j)))) aC)):=bS
def bdW:aw5.Ok:=by
 intro l j;have j:aa l<=1000000:=j;have u:cM (aa l) 80=bn:=cg aq aq;rw[bdV];simp only[aO,u,ai,du,bf,bt,aHW];by_cases h:0 < aa l
 .simp only[aK h,ai]
 .have:l=[]:=bV aq;subst this;simp only[bl,EB,aV (jb 0),al]
def aWB:aw5.RS:=rE [.d (.slice fK)] aw5
def bdX:=aw5.eQ bdW
def aP0:(List dW)->Prop:=λl=>aa l<=1000000
def aw7:(List dW)->(Nat×(List dW)):=λl=>(aa l,l)
def ZM:Fs prog aP0 bt aw7:=eP 113 f113 (λj=>([.d (.slice dI) j],[])) (λx=>⟨.dq (.new 0 0) 0 [] 0 0 x.1,[],[.obj 0 aZ (.vec 72 dI x.2)]⟩) [aw (.slice dI)] [] {cd:=[5],owns:=[⟨2,[],5,22⟩]}
def aWE(j)(k:K1 R):ZM.A j k=aA (decide (0 < (aa j))) (aA (cM (0+(aa j)) 32) (k (ZM.out ((0+(aa j)),((aJ 0 (ag 0 (0,((([]:List kF),()),()))))++j)))) aC) (nd (k (ZM.out (0,([]:List dW)))) (aA (cM (0+(aa j)) 32) (k (ZM.out ((0+(aa j)),((aJ 0 (ag 0 (0,((([]:List kF),()),()))))++j)))) aC)):=bS
def aWF:ZM.Ok:=by
 intro l j;have j:aa l<=1000000:=j;have u:cM (aa l) 32=bn:=cg aq aq;rw[aWE];simp only[aO,u,ai,du,bf,bt,aw7];by_cases h:0 < aa l
 .simp only[aK h,ai]
 .have:l=[]:=bV aq;subst this;simp only[bl,EB,aV (jb 0),al]
def aP1:ZM.RS:=rE [.d (.slice dI)] ZM
def aWG:=ZM.eQ aWF
def aWz:(List kF)->Prop:=λl=>aa l<=1000000
def aw4:(List kF)->(Nat×(List kF)):=λl=>(aa l,l)
def arp:Fs prog aWz bt aw4:=eP 115 f115 (λj=>([.d (.slice iq) j],[])) (λx=>⟨.dq (.new 0 0) 0 [] 0 0 x.1,[],[.obj 0 aZ (.vec 93 iq x.2)]⟩) [aw (.slice iq)] [] {cd:=[5],owns:=[⟨2,[],5,63⟩]}
def bdT(j)(k:K1 R):arp.A j k=aA (decide (0 < (aa j))) (aA (cM (0+(aa j)) 48) (k (arp.out ((0+(aa j)),((aJ 0 (ag 0 (([]:List Int),(0,(0,(0,()))))))++j)))) aC) (nd (k (arp.out (0,([]:List kF)))) (aA (cM (0+(aa j)) 48) (k (arp.out ((0+(aa j)),((aJ 0 (ag 0 (([]:List Int),(0,(0,(0,()))))))++j)))) aC)):=bS
def bdU:arp.Ok:=by
 intro l j;have j:aa l<=1000000:=j;have u:cM (aa l) 48=bn:=cg aq aq;rw[bdT];simp only[aO,u,ai,du,bf,bt,aw4];by_cases h:0 < aa l
 .simp only[aK h,ai]
 .have:l=[]:=bV aq;subst this;simp only[bl,EB,aV (jb 0),al]
def aBQ:arp.RS:=rE [.d (.slice iq)] arp
def aMV:=arp.eQ bdU
def aP2:(List Sg)->Prop:=λl=>aa l<=1000000
def aw8:(List Sg)->(List Sg):=λl=>l
def ZN:Fs prog aP2 bt aw8:=eP 114 f114 (λj=>([.d (.slice yk) j],[])) (λx=>⟨.d (.slice yk) x,[],[]⟩) [aw (.slice yk)] [] {cd:=[5],res:=[aw (.slice yk)]}
def aWH(j)(k:K1 R):ZN.A j k=aA (decide (0 < (aa j))) (aA (cM (0+(aa j)) 16) (aA (decide (0=0/\(0+(0+(aa j)))<=(aa ((aJ 0 (ag 0 (0,(0,()))))++j)))) (k (ZN.out (cut ((aJ 0 (ag 0 (0,(0,()))))++j) 0 (0+(aa j))))) aC) aC) (nd (k (ZN.out ([]:List Sg))) (aA (cM (0+(aa j)) 16) (aA (decide (0=0/\(0+(0+(aa j)))<=(aa ((aJ 0 (ag 0 (0,(0,()))))++j)))) (k (ZN.out (cut ((aJ 0 (ag 0 (0,(0,()))))++j) 0 (0+(aa j))))) aC) aC)):=bS
def aWI:ZN.Ok:=by
 intro l j;have j:aa l<=1000000:=j;have u:cM (aa l) 16=bn:=cg aq aq;rw[aWH];simp only[aO,u,ai,du,bf,ax,fY,bE,dM,bt,aw8];by_cases h:0 < aa l
 .simp only[aK h,ai]
 .have:l=[]:=bV aq;subst this;simp only[bl,EB,aV (jb 0),al]
def aP3:ZN.RS:=rE [.d (.slice yk)] ZN
def aWJ:=ZN.eQ aWI
abbrev NP:=Int×Int×Nat×Nat×(Int×Unit)×(Int×Unit)×(List gb)×(List dW)
def Sw:NP->(List gb)->((Nat×Nat×(Int×Unit)×(Int×Unit)×(List dW))×((List gb))):=λ(B,I,u,j,n1,n2,J,A) y=>((u,j,n1,n2,A),y)
abbrev acN:=Int×Int×Nat×Nat×(Int×Unit)×(Int×Unit)×(List gb)×(List dW)
abbrev NQ:=Int×Nat×Int×Int×Int×Int×Nat×Nat×(Int×Unit)×(Int×Unit)×(List gb)×(List dW)×(List kF)
abbrev acQ:=(List kF)×(List kF)
def Sx:NQ->acQ->((Int×Int×Int×Nat×Nat×(Int×Unit)×(Int×Unit)×(List gb)×(List dW))×((List kF)×(List kF))):=λ(L,lL,J,K,T,t52,B,I,j,O,u,A,M) y=>((L,J,K,B,I,j,O,u,A),y)
def aqh:NP->Prop:=λ(m,i,L,j,u,v,l,os)=>(aa l<=1000/\∀x∈l,aa x.2.1.2.1<=1000000)/\∃k:Nat,k<=aa l/\i=k/\m=aa l/\L=aa l
def acM:NP->(List gb):=λ(m,i,L,j,u,v,l,os)=>l
def aql:NQ->Prop:=λ(I,L,K,B,m,i,j,A,u,v,J,os,bs)=>(aa bs<=1000/\∀x∈bs,aa x.1<=1000000)/\∃k:Nat,k<=aa bs/\i=k/\m=aa bs/\L=aa bs
def acP:NQ->acQ:=λ(I,L,K,B,m,i,j,A,u,v,J,os,bs)=>(bs,bs)
def aqj:acN->Prop:=λ(m,i,j,L,u,v,A,os)=>(aa os<=1000/\∀x∈os,aa x.2.1.1<=1000/\∀b∈x.2.1.1,aa b.1<=1000000)/\∃k:Nat,k<=aa os/\i=k/\m=aa os/\L=aa os
def acO:acN->(Nat×Nat×(Int×Unit)×(Int×Unit)×(List gb)×(List dW)):=λ(m,i,j,L,u,v,A,os)=>(j,L,u,v,A,os)
def aGe:di->Prop:=λt=>ig t=bn
def awb:di->(Nat×((List dW)×(Int×Unit))×(List gb)):=λt=>(aa t.1,(t.2.1,t.2.2),t.1)
def w8(j):=(.pr (.fR) (.pr (.fR) (.d (.pair ti .unit) j)):aF)
def DC(j u A B I):=(.pr (uJ j u) (.pr (uJ A B) (.d (.pair ti .unit) I)):aF)
def vm(j):=(.vec 72 dI j:aF)
def K6(j):=(.vec 79 fK j:aF)
def ou:Ls aqh Sw acM:=rI (λ(B,I,u,j,n1,n2,J,A)=>⟨([bB,eI 1,eI 2]++aP 14 ((qY B I)++aP 56 [])),[],([[],dp (DC 9 u 12 j n1),dp (w8 n2)]++bz 6 ([dp (K6 J),[],[],dp (vm A)]++bz 62 []))⟩) (λx=>(.exit 0,⟨([bB,eI 1,eI 2]++aP 72 []),[],([[],dp (DC 9 x.1.1 12 x.1.2.1 x.1.2.2.1),dp (w8 x.1.2.2.2.1)]++bz 6 ([dp (K6 x.2),[],[],dp (vm x.1.2.2.2.2)]++bz 62 []))⟩))
def ov:Ls aqj bt acO:=rI (λ(I,J,j,B,u,L,K,A)=>⟨([bB,eI 1,eI 2]++aP 35 ((qY I J)++aP 35 [])),[],([[],dp (DC 9 j 12 B u),dp (w8 L)]++bz 6 ([dp (K6 K),[],[],dp (vm A)]++bz 62 []))⟩) (λx=>(.exit 2,⟨([bB,eI 1,eI 2]++aP 72 []),[],([[],dp (DC 9 x.1 12 x.2.1 x.2.2.1),dp (w8 x.2.2.2.1)]++bz 6 ([dp (K6 x.2.2.2.2.1),[],[],dp (vm x.2.2.2.2.2)]++bz 62 []))⟩))
def ow:Ls aql Sx acP:=rI (λ(T,lL,J,K,M,O,B,I,j,qn,u,A,L)=>⟨([bB,eI 1,eI 2,bB,aU T,uJ 49 lL]++aP 32 ((qY J K)++aP 11 ((qY M O)++aP 22 []))),[],([[],dp (DC 9 B 12 I j),dp (w8 qn)]++bz 6 ([dp (K6 u),[],[],dp (vm A)]++bz 36 ([dp (Ic L)]++bz 25 [])))⟩) (λx=>(.exit 4,⟨([bB,eI 1,eI 2,bB,aU x.1.1,ahD x.2.1]++aP 32 ((qY x.1.2.1 x.1.2.2.1)++aP 35 [])),[],([[],dp (DC 9 x.1.2.2.2.1 12 x.1.2.2.2.2.1 x.1.2.2.2.2.2.1),dp (w8 x.1.2.2.2.2.2.2.1)]++bz 6 ([dp (K6 x.1.2.2.2.2.2.2.2.1),[],[],dp (vm x.1.2.2.2.2.2.2.2.2)]++bz 36 ([[.obj 0 bn (Ic x.2.2)]]++bz 25 [])))⟩))
def oH:Fs prog aGe bt awb:=eP 69 f69 (λt=>([.d eU t],[])) (λx=>⟨.pr (.dq (.new 0 0) 0 [] 0 0 x.1) (.d (.pair (.slice dI) (.pair ti .unit)) x.2.1),[],[.obj 0 aZ (.vec 79 fK x.2.2)]⟩) [aw eU] [bdX,aWG,aWJ,aMV,aeE] {cd:=[1],loops:=ko [(3,{aX:=[1,2,17,18],sites:=[1,2,9,12]}),(8,{aX:=[1,2,38,39],sites:=[1,2,9,12]}),(12,{aX:=[1,2,4,5,38,39,51,52],sites:=[1,2,9,12,49]})],outs:=km [(3,{aX:=[1,2],sites:=[1,2,9,12]},{aX:=[2]}),(8,{aX:=[1,2],sites:=[1,2,9,12]},{aX:=[2]}),(12,{aX:=[1,2,4,5,38,39],sites:=[1,2,9,12,49],data:=[(5,(.slice iq))]},{aX:=[2]})],eT:=jW [(3,ou.E),(8,ov.E),(12,ow.E)],Ec:=[⟨2,[.snd,.fst],(.slice dI)⟩]}
def aqi:ou.RS:=rL [.d ti,.d ti,.n,.n,.d (.pair ti .unit),.d (.pair ti .unit),.d (.slice fK),.d (.slice dI)] ou
def O3(J j u B n1 n2 A I)(K:K2 R)(L:K3 R):oH.R 0 ou (J,j,u,B,n1,n2,A,I) K L=aA (fj j J) (aA (dB j ((u:Nat):Int)) (aA (decide ((0+(ae j)) < (aa A))) (aA (decide ((((0+(ae j))*36)+34)=(((0+((ae j)*36))+33)+1))) (ao (ZN.call (nth fK A (0+(ae j))).2.1.2.1) λM=>aA (dB j ((u:Nat):Int)) (aA (decide ((0+(ae j)) < (aa A))) (aA (decide ((((0+(ae j))*36)+34)=(((0+((ae j)*36))+33)+1))) (aA (decide ((0+(ae j)) < (aa A))) (K (ou.st (J,(bC .i64 j 1),u,B,n1,n2,(gq A (0+(ae j)) ((nth fK A (0+(ae j))).1,(((nth fK A (0+(ae j))).2.1.1,(M,(nth fK A (0+(ae j))).2.1.2.2)),(nth fK A (0+(ae j))).2.2))),I))) aC) aC) aC) aC) aC) aC) aC) (ou.go L ((u,B,n1,n2,I),A)):=bS
def aqk:ov.RS:=rL [.d ti,.d ti,.n,.n,.d (.pair ti .unit),.d (.pair ti .unit),.d (.slice fK),.d (.slice dI)] ov
def O4(K u I B J M L A)(T:K2 R)(kx:K3 R):oH.R 1 ov (K,u,I,B,J,M,L,A) T kx=aA (fj u K) (aA (dB u ((B:Nat):Int)) (aA (decide ((0+(ae u)) < (aa A))) (aA (decide ((((0+(ae u))*2)+1)=(((0+((ae u)*2))+1)+0))) (ao (arp.call (nth dI A (0+(ae u))).2.1.1) λO=>ao (ow.call (u,O.1,K,u,((O.1:Nat):Int),0,I,B,J,M,L,A,O.2)) λj=>aA (dB j.1.1 ((j.1.2.2.2.2.1:Nat):Int)) (aA (decide ((0+(ae j.1.1)) < (aa j.1.2.2.2.2.2.2.2.2))) (aA (decide ((((0+(ae j.1.1))*2)+1)=(((0+((ae j.1.1)*2))+1)+0))) (aA (decide ((0+(ae j.1.1)) < (aa j.1.2.2.2.2.2.2.2.2))) (T (ov.st (j.1.2.1,(bC .i64 j.1.2.2.1 1),j.1.2.2.2.1,j.1.2.2.2.2.1,j.1.2.2.2.2.2.1,j.1.2.2.2.2.2.2.1,j.1.2.2.2.2.2.2.2.1,(gq j.1.2.2.2.2.2.2.2.2 (0+(ae j.1.1)) ((nth dI j.1.2.2.2.2.2.2.2.2 (0+(ae j.1.1))).1,((j.2.1,(nth dI j.1.2.2.2.2.2.2.2.2 (0+(ae j.1.1))).2.1.2),(nth dI j.1.2.2.2.2.2.2.2.2 (0+(ae j.1.1))).2.2)))))) aC) aC) aC) aC) aC) aC) aC) (ov.go kx (I,B,J,M,L,A)):=bS
def aqm:ow.RS:=rL [.d ti,.n,.d ti,.d ti,.d ti,.d ti,.n,.n,.d (.pair ti .unit),.d (.pair ti .unit),.d (.slice fK),.d (.slice dI),.d (.slice iq)] ow
def O5(kv T L M O j J K A qn B I u)(kn:K2 R)(kx:K3 R):oH.R 2 ow (kv,T,L,M,O,j,J,K,A,qn,B,I,u) kn kx=aA (fj j O) (aA (dB j ((T:Nat):Int)) (aA (decide ((0+(ae j)) < (aa u))) (aA (decide ((((0+(ae j))*4)+0)=((0+((ae j)*4))+0))) (ao (Gx.call (nth iq u (0+(ae j))).1) λx1=>aA (dB j ((T:Nat):Int)) (aA (decide ((0+(ae j)) < (aa u))) (aA (decide ((((0+(ae j))*4)+0)=((0+((ae j)*4))+0))) (aA (decide ((0+(ae j)) < (aa u))) (kn (ow.st (kv,T,L,M,O,(bC .i64 j 1),J,K,A,qn,B,I,(gq u (0+(ae j)) (x1,(nth iq u (0+(ae j))).2))))) aC) aC) aC) aC) aC) aC) aC) (aA (decide (0=0/\(0+T)<=(aa u))) (ow.go kx ((kv,L,M,J,K,A,qn,B,I),((cut u 0 T),u))) aC):=bS
def aLM(t)(k:K1 R):oH.A t k=ao (aw5.call t.1) λA=>ao (ZM.call t.2.1) λB=>ao (ou.call (((A.1:Nat):Int),0,A.1,B.1,t.2.2,(0,()),A.2,B.2)) λj=>ao (ov.call (((j.1.2.1:Nat):Int),0,j.1.1,j.1.2.1,j.1.2.2.1,j.1.2.2.2.1,j.2,j.1.2.2.2.2)) λu=>aA (decide (0=0/\(0+u.2.1)<=(aa u.2.2.2.2.2))) (k (oH.out (u.1,((cut u.2.2.2.2.2 0 u.2.1),u.2.2.1),u.2.2.2.2.1))) aC:=bS
def asO:(oH.kA 0 ou):=by
 refine(oH.lS 0 ou) (λ(m,i,L,A,u,v,l,os)=>aa l - ae i) ?_
 rintro⟨m,i,L,A,u,v,l,os⟩ ⟨⟨j,I⟩,k,B,rfl,rfl,rfl⟩;have j:aa l<=1000:=j;have B:k<=aa l:=B;by_cases h:k < aa l
 .left;have n1:nth fK l k=l[k]:=bG (t:=fK) h;have K:l.set k l[k]=l:=iE h;have e:=I _ (aD h);refine⟨((aa l:Int),((k+1:Nat):Int),aa l,A,u,v,l,os),⟨⟨j,I⟩,k+1,aq,rfl,rfl,rfl⟩,by simp only[ab];omega,rfl,λJ M=> ?_⟩;rw[O3,aN aq,aS aq aq];simp only[ab,aO,bY,fP,Nat.reduceAdd,ai,aK h,bE,n1];rw[aP3 (d:=l[k].2.1.2.1) e];simp only[ah,bt,aw8];rw[N.iY aq];exact bA (λz=>J (ou.st (_,_,_,_,_,_,z,_))) K
 .right;obtain rfl:k=aa l:=aq;intro R J M;rw[O3,aL aq,al];rfl
def asQ:(oH.kA 2 ow):=by
 refine(oH.lS 2 ow) (λ(O,L,m1,K,m,i,A,B,u,v,T,os,bs)=>aa bs - ae i) ?_
 rintro⟨O,L,m1,K,m,i,A,B,u,v,T,os,bs⟩ ⟨⟨j,J⟩,k,I,rfl,rfl,rfl⟩;have j:aa bs<=1000:=j;have I:k<=aa bs:=I;by_cases h:k < aa bs
 .left;have n1:nth iq bs k=bs[k]:=bG (t:=iq) h;have hs:bs.set k bs[k]=bs:=iE h;have e:=J _ (aD h);refine⟨(O,aa bs,m1,K,(aa bs:Int),((k+1:Nat):Int),A,B,u,v,T,os,bs),⟨⟨j,J⟩,k+1,aq,rfl,rfl,rfl⟩,by simp only[ab];omega,rfl,λM kx=> ?_⟩;rw[O5,aN aq,aS aq aq];simp only[ab,aO,bY,fP,Nat.reduceAdd,ai,aK h,bE,n1];rw[Yc (d:=bs[k].1) e];simp only[ah,bt,aa2];rw[N.iY aq];exact bA (λz=>M (ow.st (_,_,_,_,_,_,_,_,_,_,_,_,z))) hs
 .right;obtain rfl:k=aa bs:=aq;intro R M kx;rw[O5,aL aq,al];simp only[aO,ax,fY,bE,ai,dM];rfl
def asP:(oH.kA 1 ov):=by
 refine(oH.lS 1 ov) (λ(m,i,A,L,u,v,B,os)=>aa os - ae i) ?_
 rintro⟨m,i,A,L,u,v,B,os⟩ ⟨⟨j,J⟩,k,I,rfl,rfl,rfl⟩;have j:aa os<=1000:=j;have I:k<=aa os:=I;by_cases h:k < aa os
 .left;have n1:nth dI os k=os[k]:=bG (t:=dI) h;have M:os.set k os[k]=os:=iE h;have e:=J _ (aD h);refine⟨((aa os:Int),((k+1:Nat):Int),A,aa os,u,v,B,os),⟨⟨j,J⟩,k+1,aq,rfl,rfl,rfl⟩,by simp only[ab];omega,rfl,λK O=> ?_⟩;rw[O4,aN aq,aS aq aq];simp only[ab,aO,bY,fP,Nat.reduceAdd,ai,aK h,bE,n1];rw[aBQ (d:=os[k].2.1.1) (by show os[k].2.1.1.length<=_;have:=e.1;omega)];simp only[ah,bt,aw4];rw[aqm (d:=((k:Int),os[k].2.1.1.length,(aa os:Int),(k:Int),(os[k].2.1.1.length:Int),0,A,aa os,u,v,B,os,os[k].2.1.1)) ⟨e,0,az _,rfl,rfl,rfl⟩];simp only[ah,Sx,acP,ab,n1,ai,aK h,aS (show(0:Int)<=(k:Int) by omega) (show(k:Int) < (aa os:Int) by omega)];rw[N.iY aq];exact bA (λz=>K (ov.st (_,_,_,_,_,_,_,z))) M
 .right;obtain rfl:k=aa os:=aq;intro R K O;rw[O4,aL aq,al];rfl
def Qr{l:Lk}(h:lN l=bn):aa l.1<=4/\∀b∈l.1,aa b.1<=12:=by unfold lN at h;simp only[aQ,eA,bJ]at h;refine⟨h.2.2,λb j=> ?_⟩;have:=h.1 b j;unfold Al at this;simp only[aQ,bJ]at this;exact this.1
def aLO:oH.Ok:=by
 rintro⟨is,os,I,u⟩ M;obtain⟨⟨_,A,B,_⟩,J,K⟩:=iW M;have A:aa is<=64:=A;have B:aa os<=64:=B;rw[aLM,aWB (d:=is) (by show aa is<=_;omega),aP1 (d:=os) (by show aa os<=_;omega)];simp only[ah,bt,aHW,bt,aw7];rw[aqi (d:=(aa is,0,aa is,aa os,(I,u),(0,()),is,os)) ⟨⟨by show aa is<=_;omega,λx j=>by have:=(C1 (ma _ _ J x j)).2.2.2.2;omega⟩,0,az _,rfl,rfl,rfl⟩];simp only[ah,Sw,acM];rw[aqk (d:=(aa os,0,aa is,aa os,(I,u),(0,()),is,os)) ⟨⟨by show aa os<=_;omega,λx j=>by
  have:=Qr (jL _ _ K x j).2;exact⟨aq,λb L=>by have:=this.2 b L;omega⟩⟩,0,az _,rfl,rfl,rfl⟩]
 simp only[ah,bt,acO,aO,ax,fY,bE,ai,dM];rfl
def aGf:oH.RS:=rE [.d eU] oH
def aLP:=oH.eQ aLO 3 ⟨.eg asO,⟨.eg asP,⟨.eg asQ,trivial⟩⟩⟩
def pm(m:Nat):Nat->Nat->Nat->Nat->Nat
 | 0,_,_,out=>out%m
 |f+1,a,n,out=>if n=0 then out%m else pm m f (a*a%m) (n / 2) (if n%2=1 then out*a%m else out)
def bh0(m:Nat):∀(f a n out:Nat),n < 2^f->pm m f a n out=out*a^n%m
 | 0,a,n,out,h=>by obtain rfl:n=0:=aq;rw[pm,Nat.pow_zero,j6]
 |f+1,a,n,out,h=>by
  have e:(2:Nat)^(f+1)=2^f*2:=Nat.pow_succ (n:=2) (m:=f);rw[pm];split
  .rename_i I;subst I;rw[Nat.pow_zero,j6]
  .rw[bh0 m f _ _ _ aq,mV];have u:(a*a%m)^(n / 2)%m=a^(2*(n / 2))%m:=by rw[<-Nat.pow_mod,Nat.pow_mul,Nat.pow_two]
   have A:(if n%2=1 then out*a%m else out)%m=(out*a^(n%2))%m:=by
    split
    .rename_i j;rw[j,Nat.pow_one,Nat.mod_mod]
    .have j:n%2=0:=aq;rw[j,Nat.pow_zero,j6]
   rw[u,A,<-mV,Nat.mul_assoc,<-rX];have B:n%2+2*(n / 2)=n:=aq;rw[B]
def aXU:∀(r q:Nat) (f:Nat->Nat),(∀i,i < q->f i < r)->(∀i j,i < j->j < q->f i≠f j)->q<=r
 | 0,q,f,h,_=>by
  rcases wA q with h0 | h0
  .omega
  .exact absurd (h 0 h0) (Nat.not_lt_zero _)
 |r+1,q,f,h,g=>by
  by_cases J:∃i,i < q/\f i=r
  .obtain⟨i,B,M⟩:=J;have e:=aXU r (q - 1) (λj=>if j < i then f j else f (j+1)) (λj K=>by
    by_cases u:j < i
    .have a:=h j aq;have b:=g j i u B;simp only[u,bQ];omega
    .have a:=h (j+1) aq;have b:=g i (j+1) aq aq;simp only[u,bq];omega) (λj k I L=>by
    by_cases u:j < i
    .by_cases A:k < i
     .simp only[u,A,bQ];exact g j k I aq
     .simp only[u,A,bQ,bq];exact g j (k+1) aq aq
    .have A:¬k < i:=aq;simp only[u,A,bq];exact g (j+1) (k+1) aq aq)
   omega
  .have e:=aXU r q f (λi B=>by
    have a:=h i B;have b:f i≠r:=λx=>J ⟨i,B,x⟩
    omega) g
   omega
def aNU(a m:Nat)(B:1%m=1):∀i j:Nat,a^i%m=1->a^j%m=1->a^(Nat.gcd i j)%m=1:=by
 intro i
 induction i using Nat.strongRecOn with
 |ind i I=>
  intro j A u;rcases wA i with h0 | h0
  .subst h0;rw[Nat.gcd_zero_left];exact u
  .rw[Nat.gcd_rec];refine I (j%i) (Nat.mod_lt _ h0) i ?_ A
   have e:a^j=(a^i)^(j / i)*a^(j%i):=by rw[<-Nat.pow_mul,<-rX,Nat.div_add_mod]
   rw[e,mV,Nat.pow_mod,A,Nat.one_pow,B,rW,Nat.mod_mod]at u;exact u
def aU8(n:Nat):Prop:=∀d,d∣n->d=1\/d=n
def aNV{n k:Nat}(h:aU8 n)(j:0 < k)(u:k < n):Nat.gcd k n=1:=by
 rcases h _ (Nat.gcd_dvd_right k n) with h1 | h1
 .exact h1
 .have:=Nat.le_of_dvd j (Nat.gcd_dvd_left k n);omega
def aDL{n:Nat}(K:1 < n)(h:∀r,1 < r->r*r<=n->¬r∣n):aU8 n:=by
 intro d J;obtain⟨e,j⟩:=J;have A:0 < d:=Nat.pos_of_ne_zero (by intro x;rw[x,tM]at j;omega);have u:0 < e:=Nat.pos_of_ne_zero (by intro x;rw[x,Nat.mul_zero]at j;omega);by_cases B:d=1
 .exact .inl B
 by_cases I:e=1
 .right;rw[j,I,j6]
 exfalso;rcases Nat.le_total d e with hle | hle
 .exact h d aq (by rw[j];exact Nat.mul_le_mul_left d hle) ⟨e,j⟩
 .exact h e aq (by rw[j];exact eL e hle) ⟨d,by rw[j,Nat.mul_comm]⟩
def bjY{n q b:Nat}(hn:1 < n)(hq:aU8 q)(K:1 < q)(O:n < q*q)(hb:b^q%n=1)(hg:Nat.gcd (b - 1) n=1)(L:0 < b):aU8 n:=by
 refine aDL hn λr hr M u=> ?_
 have A:1%r=1:=lI hr;have B:b^q%r=1:=by have:=Nat.mod_mod_of_dvd (b^q) u;rw[<-this,hb,A]
 have jV:b%r≠1:=by
  intro hx;have hd:r∣b - 1:=by have e:=Nat.dvd_sub_mod (n:=r) b;rw[hx]at e;exact e
  have:=Nat.dvd_gcd hd u;rw[hg]at this;have:=Nat.le_of_dvd aq this;omega
 have key:q<=r:=by
  refine aXU r q (λi=>b^i%r) (λi _=>Nat.mod_lt _ aq) λi j T hj he=> ?_
  have e1:b^(j - i)%r=1:=by
   have J:b^(q - i)*b^i%r=b^(q - i)*b^j%r:=by rw[mV,he,<-mV]
   rw[<-rX,<-rX,show q - i+i=q by omega,show q - i+j=q+(j - i) by omega,rX,mV,B,rW,Nat.mod_mod]at J;exact J.symm
  have I:=aNU b r A (j - i) q e1 B;rw[aNV hq aq aq,Nat.pow_one]at I;exact jV I
 have:q*q<=r*r:=Nat.mul_le_mul key key;omega
def aZa(n:Nat):Nat->Bool
 | 0=>bn
 |k+1=>n%(k+2) !=0 && aZa n k
def aDK(n:Nat):∀k,aZa n k=bn->∀d,1 < d->d<=k+1->¬d∣n
 | 0,_,d,j,u=>aq
 |k+1,h,d,j,u=>by
  rw[aZa,aQ]at h;by_cases A:d=k+2
  .intro B;have:=Nat.mod_eq_zero_of_dvd B;rw[A]at this;rw[this]at h;exact absurd h.1 fm
  .exact aDK n k h.2 d j aq
def bpj:aU8 7930907:=by
 refine aDL fm λr u j=>aDK 7930907 2820 (by decide+kernel) r u ?_
 apply Nat.le_of_not_lt;intro h;have:2822*2822<=r*r:=Nat.mul_le_mul aq aq;omega
def aa5{n q:Nat}(a e:Nat)(L:aU8 q)(u:1 < q)(K:1 < n)(A:n < q*q)(M:e < 2^64)(j:q < 2^64)(B:pm n 64 (pm n 64 a e 1) q 1=1)(I:Nat.gcd (pm n 64 a e 1 - 1) n=1)(J:0 < pm n 64 a e 1):aU8 n:=by generalize pm n 64 a e 1=b at*;rw[bh0 _ _ _ _ _ j,rW]at B;exact bjY K L u A B I J
def bpi:aU8 11864636873:=aa5 (q:=7930907) 2 1496 bpj fm fm fm fm fm (by decide+kernel) (by decide+kernel) (by decide+kernel)
def bph:aU8 1732236983459:=aa5 (q:=11864636873) 2 146 bpi fm fm fm fm fm (by decide+kernel) (by decide+kernel) (by decide+kernel)
def bpg:aU8 249442125618097:=aa5 (q:=1732236983459) 2 144 bph fm fm fm fm fm (by decide+kernel) (by decide+kernel) (by decide+kernel)
def bpk:aU8 2305843009213688669:=aa5 (q:=249442125618097) 2 9244 bpg fm fm fm fm fm (by decide+kernel) (by decide+kernel) (by decide+kernel)
def gP(n:Nat):Int:=((4^n%4611686018427377339:Nat):Int)
def arX(a m q:Nat)(j:1%m=1)(h:a^q%m=1)(n:Nat):a^(n%q)%m=a^n%m:=by
 have e:a^n=(a^q)^(n / q)*a^(n%q):=by rw[<-Nat.pow_mul,<-rX,Nat.div_add_mod]
 rw[e,mV,Nat.pow_mod (a^q),h,Nat.one_pow,j,rW,Nat.mod_mod]
def bhx:∀q:Nat,q=2305843009213688669->4^q%4611686018427377339=1:=by
 intro q j;have h:=at5;rw[anP _ _ fm]at h;rw[<-j]at h;have e:(((4^q%4611686018427377339:Nat)):Int)=1:=by rw[tF,mI];exact h
 omega
def axN(n:Nat):gP (n%2305843009213688669)=gP n:=by unfold gP;obtain⟨q,j⟩:∃q:Nat,q=2305843009213688669:=⟨_,rfl⟩;rw[<-j,arX 4 4611686018427377339 q fm (bhx q j)]
def blv(n:Nat)(h:n < 18446744073709551616):pw 4 n=gP n:=by rw[anP _ _ h];unfold gP;rw[tF,mI];rfl
def aXN(k:Int)(h:0<=k):(k%2305843009213688669).toNat=k.toNat%2305843009213688669:=aq
def ajE(k:Int)(h:0<=k):fH k=gP k.toNat:=by show pw (tk 4) _=_;rw[Wa bfi,blv _ aq,aXN k h,axN]
def bez(n:Nat):gP n=fH n:=by rw[ajE _ aq,ab]
def al0(n:Nat):u9 (gP n)=bn:=by rw[bez];exact Qi _
def aIn(a b:Nat):lP (gP a) (gP b)=gP (a+b):=by unfold lP gP;rw[<-qP,rX];have e:(4611686018427377339:Int)=((4611686018427377339:Nat):Int):=rfl;rw[e,<-tF,<-mV]
def aXO(a:Nat)(c:Int)(h:0<=c):zR (gP a) c=gP (a*c.toNat):=by
 show pw (tk (gP a)) _=_;rw[Wa (al0 a),anP _ _ aq,aXN c h];obtain⟨b,u⟩:∃b:Nat,b=c.toNat:=⟨_,rfl⟩;rw[<-u];obtain⟨d,j⟩:∃d:Nat,d=b%2305843009213688669:=⟨_,rfl⟩;have A:gP (a*b)=gP (a*d):=by rw[<-axN (a*b),<-axN (a*d),mV a b,mV a d,j,Nat.mod_mod]
 rw[A,<-j];unfold gP;have e:(4611686018427377339:Int)=((4611686018427377339:Nat):Int):=rfl;rw[e,<-mI,<-tF,<-Nat.pow_mod,<-Nat.pow_mul]
def aNc:gP 0=1:=fm
def blu{n:Nat}(h:0 < n)(A:n < 2305843009213688669):gP n≠1:=by intro j;unfold gP at j;have j:4^n%4611686018427377339=1:=aq;obtain⟨q,u⟩:∃q:Nat,q=2305843009213688669:=⟨_,rfl⟩;have e:=aNU 4 4611686018427377339 fm n q j (bhx q u);rw[aNV (by rw[u];exact bpk) h aq]at e;exact absurd e fm
def bgP(k:Int)(m:List Int)(h0:0 < k)(O:k < 2305843009213688669):sm (fH k) m 1 (oW k m)=bn:=by
 obtain⟨j,L⟩:∃j:Nat,j=k.toNat:=⟨_,rfl⟩;have hb:fH k=gP j:=by rw[L];exact ajE k aq
 have M:=alY (bbS aJf [jI k,m]);unfold oW aZb;rw[av ⟨O,aq⟩];obtain⟨n,jV⟩:∃n,Qc (bbS aJf [jI k,m])=n:=⟨_,rfl⟩;rw[jV]at M ⊢;unfold awB;have hr:Ha [fH n,1]=gP n.toNat:=by show lP (lP 1 (tk (fH n))) (tk 1)=_;rw[Wa (Qi n),Wa MI,aaQ (vN _ _),ajE n aq,<-aNc,aIn,aO]
 rw[hr,hb];have J:=ZE (gP n.toNat) (gP j) m;obtain⟨c,u⟩:∃c,Aq (gP n.toNat) (gP j) m=c:=⟨_,rfl⟩;rw[u]at J ⊢;have K:=aMA n (ayy c k);have I:=J.1;have h2:=K.1;have h3:=K.2;unfold sm;rw[au (by
  intro h;rcases h with h | h | h | h | h
  .exact blu aq aq h
  .rw[al0]at h;cases h
  .rw[MI]at h;cases h
  .have h:u9 (gP n.toNat)=aZ:=h;rw[al0]at h;cases h
  .exact h h3)]
 have e:fH (aG6 n (ayy c k))=Ha [gP n.toNat,zR (gP j) c,anr 1]:=by
  show _=lP (lP (lP 1 (tk (gP n.toNat))) (tk (zR (gP j) c))) (tk (anr 1));rw[aNF,Wa MI,aaQ (vN _ _),Wa (al0 _),aXO _ _ I,Wa (al0 _)];rw[show(lP 1 (gP n.toNat))=gP n.toNat by rw[<-aNc,aIn,aO]];rw[aIn,ajE _ h2];have hx:(aG6 n (ayy c k)).toNat=(n.toNat+j*c.toNat)%2305843009213688669:=by
   unfold aG6 ayy aZf;have g1:c%2305843009213688669=c:=fv I J.2;have g2:k%2305843009213688669=k:=fv aq O;have g3:n%2305843009213688669=n:=fv aq M.2;rw[g1,g2,g3,gN _ (pO _)];have B:((j*c.toNat:Nat):Int)=c*k:=by rw[qP,L,Int.toNat_of_nonneg aq,Int.toNat_of_nonneg I,yx]
   have g5:0<=c*k:=by rw[<-B];exact lV _
   obtain⟨z,hz⟩:∃z,c*k=z:=⟨_,rfl⟩;rw[hz]at B g5 ⊢;obtain⟨T,A⟩:∃T,j*c.toNat=T:=⟨_,rfl⟩;rw[A]at B ⊢;omega
  rw[hx,axN]
 show decide (fH (aG6 n (ayy c k))=Ha [gP n.toNat,zR (gP j) (Aq (gP n.toNat) (gP j) m),anr 1])=bn;rw[u];exact fM e
def Qf{α:Type}(p:α->Bool):List α->Int->Int⊕Unit
 |[],_=> .inr ()
 |x::xs,i=>if p x then .inl i else Qf p xs (i+1)
def aC1{α:Type}(p:α->Bool)(l:List α):Int:=match Qf p l 0 with | .inl i=>i | .inr _=> -1
def aC2{α:Type}(p:α->Bool):∀(l:List α) (i:Int),0<=i->(match Qf p l i with | .inl i=>decide (i>=0) | .inr _=>aZ)=l.any p
 |[],_,_=>rfl
 |x::l,i,h=>by
  rw[Qf,iG];cases j:p x
  .simp only[bu,bq,ja];exact aC2 p l (i+1) aq
  .simp[h]
def al9{α:Type}(p:α->Bool)(l:List α):DA (aC1 p l) 0=l.any p:=by
 have:=aC2 p l 0 aq;unfold aC1 DA;cases h:Qf p l 0
 .rw[h]at this;exact this
 .rw[h]at this;rw[<-this];rfl
def WU(k:Int):Bool:=decide (¬(k < 2305843009213688669/\k≠0))
def NK(t:di)(i j:Int)(u:List Int):Bool:=ig t && (decide (0<=i/\i < aa t.1/\0<=j/\j < 4/\aa u<=12) && !(u.any WU))
def bby(t:di)(i j:Int)(u:List Int)(A:Int):di×Int:=if NK t i j u then((t.1.set i.toNat ((nth fK t.1 i.toNat).1,(j,u.map (λk=>oW k (mw t)),A,()),()),t.2),0) else(([],[],0,()),1)
def Hh{t:di}:Sm (mw t):=by
 unfold mw;split
 .exact ap1 _ _
 .exact⟨by rw[cT],λx j=>by obtain rfl:=(pS.1 j).2;exact⟨fm,fm⟩⟩
def aT5:Int->Prop:=λ_=>True
def aOG:Int->Bool:=λk=>WU k
def aiI:Fs prog aT5 bt aOG:=eP 62 f62 (λj=>([cK j],[])) (λx=>⟨fA x,[],[]⟩) [aw tu] [ad8]
def bb4(j)(k:K1 R):aiI.A j k=aA (oC j 0) (k (aiI.out bn)) (ao (MF.call j) λu=>k (aiI.out (!u))):=bS
def bb5:aiI.Ok:=by
 intro(k:Int) _;rw[bb4,XB (d:=k) trivial];simp only[bt,aOG,WU,ah,bt,aai];by_cases h:k=0
 .rw[dC h,ai,aK aq]
 .rw[eZ h,al];by_cases j:k < 2305843009213688669
  .rw[aN j,aV aq];rfl
  .rw[aL j,aK aq];rfl
def aT6:aiI.RS:=rE [.d tu] aiI
def bb6:=aiI.eQ bb5
abbrev CN:=Bs×Int×Int
def qG:CN->AS:=λ(j,u,A)=>⟨([.d tU j,K7 62]++aP 5 ((qY u A)++aP 10 [])),[],(ag 19 [])⟩
def rz:Int->Exit×AS:=λx=>(.ret,⟨(aP 4 ([aU x]++aP 14 [])),[],(ag 19 [])⟩)
def BV:Unit->Exit×AS:=λx=>(.exit 0,⟨(aP 19 []),[],(ag 19 [])⟩)
abbrev Sd:=(Int)⊕(Unit)
abbrev air:=(Int)⊕(Unit)
def Ke:Sd->Out (Exit×AS):=λx=> .br x.isLeft (.get x.getLeft? λa=> .ok (rz a)) (.get x.getRight? λb=> .ok (BV b))
def lD:CN->air->Sd:=λ(j,u,A) y=>match y with | .inl y=> .inl y | .inr z=> .inr (z)
def BU:CN->Prop:=λ(l,n,i)=>(∀x∈l,True)/\aa l<=1000000000/\n=aa l/\∃k:Nat,k<=aa l/\i=k
def pI:CN->air:=λ(l,n,i)=>Qf WU (l.drop i.toNat) i
def aLr:Bs->Prop:=λl=>(∀x∈l,True)/\aa l<=1000000000
def apY:Bs->Int:=λl=>aC1 WU l
def aiq:=cQ.eg qG BU lD pI Ke
def Se:CN->Option Sd:=eN aiq qG
def Dh:Fs prog aLr bt apY:=eP 105 f105 (λj=>([.d tU j,.fn 62 (.nil)],[])) (λx=>⟨.d ti x,[],[]⟩) [aw tU,aC] [bb6] {loops:=ko [(2,{aX:=[0,1,7,8]})],outs:=km [(2,{},{aX:=[4]})],eT:=jW [(2,aiq)]}
def Sc:= @dm prog (gU Dh.G) Dh.an 0 f105 0 _ qG
abbrev acF:=gr prog (gU Dh.G) Dh.an 0 f105 0 qG BU lD pI Ke
def asI:fC Se BU lD pI:=ia (fy [.d tU,.d ti,.d ti] λ_=>bS)
def YB:iX @Sc qG BU lD pI Ke acF:=ji
def Sf(u B j)(I:K2 R)(A:K3 R):Sc (u,B,j) I A=aA (fj j B) (aA (dB j (((aa u):Nat):Int)) (ao (aiI.call (nth tu u (ae j))) λJ=>aA (J) (A (rz j).1 (rz j).2) (I (qG (u,B,(bC .i64 j (1:Int)))))) aC) (A (BV ()).1 (BV ()).2):=bS
def aTu(j)(k:K1 R):Dh.A j k=ao (Se (j,(aa j:Int),0)) λu=>aA u.isLeft (ao u.getLeft? λA=>k (Dh.out A)) (ao u.getRight? λB=>k (Dh.out (-1))):=bS
def azU:acF:=by
 refine YB (λ(l,n,i)=>aa l - i.toNat) ?_
 rintro⟨l,n,i⟩ ⟨K,B,rfl,k,J,rfl⟩;have B:aa l<=1000000000:=B;have J:k<=aa l:=J;by_cases h:k < aa l
 .have L:=K _ (aD h);have n1:nth tu l k=l[k]:=bG (t:=tu) h;have I:Qf WU (l.drop k) k=if WU l[k] then .inl (k:Int) else Qf WU (l.drop (k+1)) ((k+1:Nat):Int):=by rw[ak h];rfl
  have step:∀ {R:Type} (j:AS->Option R) (u:Exit->AS->Option R),Sc (l,(aa l:Int),(k:Int)) j u=aA (WU l[k]) (u (rz (k:Int)).1 (rz (k:Int)).2) (j (qG (l,(aa l:Int),((k+1:Nat):Int)))):=by intro R j u;rw[Sf,aN aq,aS aq aq,ab,n1,aT6 (d:=l[k]) L,N.iY aq];rfl
  cases A:WU l[k]
  .left;refine⟨(l,aa l,((k+1:Nat):Int)),⟨K,B,rfl,k+1,aq,rfl⟩,by simp only[ab];omega,?_,λj u=> ?_⟩
   .simp only[lD,pI,ab,I,A,bu,bq]
   .rw[step,A,al]
  .right;refine⟨rz (k:Int),?_,λj u=> ?_⟩
   .simp only[lD,pI,ab,I,A,bQ];rfl
   .rw[step,A,ai]
 .right;obtain rfl:k=aa l:=aq;refine⟨BV (),?_,λj u=> ?_⟩
  .simp only[lD,pI,ab,ay];rfl
  .rw[Sf,aL aq,al]
def aTv:Dh.Ok:=by rintro l ⟨u,j⟩;rw[aTu,asI (d:=(l,aa l,0)) ⟨u,j,rfl,0,aq,rfl⟩];simp only[ah,lD,pI,aW,aH,bt,apY,aC1];cases Qf WU l 0 <;> rfl
def aLs:Dh.RS:=rE [.d tU] Dh
def aTw:=Dh.eQ aTv 1 ⟨.eg azU,trivial⟩
def asF:Bs->Prop:=λl=>(∀x∈l,True)/\aa l<=1000000000
def aip:Bs->Bool:=λl=>l.any WU
def A9:Fs prog asF bt aip:=eP 66 f66 (λj=>([.d tU j,K7 62],[])) (λx=>⟨fA x,[],[]⟩) [aw tU,aC] [aTw]
def azP(j)(k:K1 R):A9.A j k=ao (Dh.call j) λu=>k (A9.out (DA u 0)):=bS
def azQ:A9.Ok:=by rintro l ⟨u,j⟩;rw[azP,aLs (d:=l) ⟨u,j⟩];simp only[ah,bt,apY,al9];rfl
def asG:A9.RS:=rE [.d tU] A9
def azR:=A9.eQ azQ
abbrev YQ:=Int×Bs×Int×Int×di×(Int×Unit)×Int×Nat×(Int×Unit)×Bs×(List Sg)
def Fj:YQ->(Ua×(List Sg))->((Int×di×(Int×Unit))×(Ua×(List Sg))):=λ(j,J,K,L,n5,u,I,M,A,n14,B) y=>((j,n5,u),y)
abbrev aOH:=di×Int×Int×Bs×Int
def aAj:YQ->Prop:=λ(u,l,n,i,t,e,j,L,A,id,r)=>aa l<=1000/\(∀x∈l,mC x)/\Sm id/\∃k:Nat,k<=aa l/\i=k/\n=aa l/\L=aa r/\aa r<=1000+k
def NX:YQ->(Ua×(List Sg)):=λ(A,l,n,i,t,e,j,L,u,id,r)=>((j,r++(l.drop i.toNat).map (λk=>oW k id),u),r++(l.drop i.toNat).map (λk=>oW k id))
def aT7:aOH->Prop:=λ(t,i,u,j,A)=>mE t/\(∀x∈j,mC x)/\aa j<=1000000000
def aAi:aOH->(di×Int):=λ(t,i,j,u,A)=>bby t i j u A
def zZ:Ls aAj Fj NX:=rI (λ(j,J,K,L,n5,B,I,M,u,n14,A)=>⟨([bB,aU j,bB,bB,bB,eI 5]++aP 4 ([eI 10,bB,bB,eI 13,eI 14]++aP 37 ([.d tU J,aU K,aU L]++aP 21 []))),[],(bz 5 ([dp (rQ n5)]++bz 4 ([dp (w8 B),[],[],dp (.pr (aU I) (.pr (uJ 64 M) (.d (.pair tu .unit) u))),dp (fW n14)]++bz 49 ([dp (.vec 134 yk A)]++bz 11 []))))⟩) (λx=>(.exit 0,⟨([bB,aU x.1.1,bB,bB,bB,eI 5]++aP 4 ([eI 10,bB,bB,eI 13]++aP 62 [])),[],(bz 5 ([dp (rQ x.1.2.1)]++bz 4 ([dp (w8 x.1.2.2),[],[],dp (.d adr x.2.1)]++bz 50 ([[.obj 0 bn (.vec 134 yk x.2.2)]]++bz 11 []))))⟩))
def Av:Fs prog aT7 bt aAi:=eP 28 f28 (λ(t,B,j,A,u)=>([.d eU t,.d ti B,.d ti j,.d tU A,.d tu u],[])) (λx=>⟨.cons (.d eU x.1) (.cons (.d ti x.2) (.nil)),[],[]⟩) [aw eU,aw ti,aw ti,aw tU,aw tu] [ym,aOI,azR,aqo,bbN,aLP] {cd:=[5],loops:=ko [(7,{aX:=[1,5,10,13,14,52,53,54],sites:=[5,10,13,14,64],owns:=[⟨13,[.snd,.fst],64,75⟩]})],outs:=km [(7,{aX:=[1,5,10,13],sites:=[5,10,13,64],Ec:=[⟨13,[.snd,.fst],(.slice yk)⟩]},{aX:=[10,11]})],eT:=jW [(7,zZ.E)],res:=[aw eU,aC]}
def aAk:zZ.RS:=rL [.d ti,.d tU,.d ti,.d ti,.d eU,.d (.pair ti .unit),.d ti,.n,.d (.pair tu .unit),.d tB,.d (.slice yk)] zZ
def Wk(I A M u n5 K L B J n14 j)(O:K2 R)(T:K3 R):Av.R 0 zZ (I,A,M,u,n5,K,L,B,J,n14,j) O T=aA (fj u M) (aA (dB u (aa A:Int)) (ao (aiu.call ((nth tu A (ae u)),n14)) λx4=>aA (decide (B<=(aa j))) (aA (cM (B+1) 16) (O (zZ.st (I,A,M,(bC .i64 u 1),n5,K,L,(B+1),J,n14,((aJ B j)++ [x4])))) aC) aC) aC) (aA (decide (0=0/\(0+B)<=(aa j))) (zZ.go T ((I,n5,K),((L,((cut j 0 B),J)),j))) aC):=bS
def bb7(t J u B A)(k:K1 R):Av.A (t,J,u,B,A) k=ao (jv.call t) λK=>aA (!K) (k (Av.out ((([]:List gb),(([]:List dW),(0,()))),1))) (aA (fj J 0) (k (Av.out ((([]:List gb),(([]:List dW),(0,()))),1))) (aA (DA J (aa t.1:Int)) (k (Av.out ((([]:List gb),(([]:List dW),(0,()))),1))) (ao (asZ.call (u,(([]:List Sg),(A,())))) λL=>aA (!L) (k (Av.out ((([]:List gb),(([]:List dW),(0,()))),1))) (aA (qi (aa B:Int) 12) (k (Av.out ((([]:List gb),(([]:List dW),(0,()))),1))) (ao (A9.call B) λO=>aA (O) (k (Av.out ((([]:List gb),(([]:List dW),(0,()))),1))) (ao (tid.call t) λM=>ao (zZ.call (J,B,(aa B:Int),0,t,(0,()),u,0,(A,()),M,([]:List Sg))) λI=>ao (oH.call I.1.2.1) λj=>aA (dB I.1.1 ((j.1:Nat):Int)) (aA (decide ((0+(ae I.1.1)) < (aa j.2.2))) (aA (decide ((((0+(ae I.1.1))*36)+33)=((0+((ae I.1.1)*36))+33))) (aA (decide ((0+(ae I.1.1)) < (aa j.2.2))) (aA (decide (0=0/\(0+j.1)<=(aa (gq j.2.2 (0+(ae I.1.1)) ((nth fK j.2.2 (0+(ae I.1.1))).1,(I.2.1,(nth fK j.2.2 (0+(ae I.1.1))).2.2)))))) (k (Av.out (((cut (gq j.2.2 (0+(ae I.1.1)) ((nth fK j.2.2 (0+(ae I.1.1))).1,(I.2.1,(nth fK j.2.2 (0+(ae I.1.1))).2.2))) 0 j.1),j.2.1),0))) aC) aC) aC) aC) aC)))))):=bS
def aGo:(Av.kA 0 zZ):=by
 refine(Av.lS 0 zZ) (λ(K,l,n,i,t,e,u,L,M,id,r)=>aa l - i.toNat) ?_
 rintro⟨K,l,n,i,t,e,u,L,M,id,r⟩ ⟨j,J,B,k,A,rfl,rfl,rfl,I⟩;have j:aa l<=1000:=j;have A:k<=aa l:=A;have I:aa r<=1000+k:=I;by_cases h:k < aa l
 .left;have n1:nth tu l k=l[k]:=bG (t:=tu) h;have O:bj k l=l[k]::bj (k+1) l:=ak h;refine⟨(K,l,aa l,((k+1:Nat):Int),t,e,u,aa r+1,M,id,r++ [oW l[k] id]),⟨j,J,B,k+1,aq,rfl,rfl,by rw[aj];rfl,by rw[aj];show aa r+1<=_;omega⟩,by simp only[ab];omega,?_,λT kx=> ?_⟩
  .simp only[Fj,NX,ab,O,cq,aR,cv]
  .rw[Wk,aN aq,aS aq aq,ab,n1,aTF (d:=(l[k],id)) ⟨J _ (aD h),B⟩];simp only[ai,ah,bt,az0];rw[aK (ax _),cg aq aq,N.iY aq,bI];rfl
 .right;obtain rfl:k=aa l:=aq;intro R T kx;rw[Wk,aL aq,al];simp only[Fj,NX,ab,ay,gm,bm,aO,ax,fY,bE,ai,dM]
def bb8:Av.Ok:=by
 rintro⟨⟨is,os,B,u⟩,i,j,A,T⟩ ⟨I,hu,J⟩;have I:mE (is,os,B,u):=I;have J:aa A<=1000000000:=J;rw[bb7,tv (d:=(is,os,B,u)) I.1];simp only[ah,bt,vG,bt,aAi,bby,NK];rcases jQ (ig (is,os,B,u)) with iN | iN;rotate_left
 .simp only[iN];rfl
 obtain⟨⟨_,K,a3,_⟩,b1,b2⟩:=iW iN;have K:aa is<=64:=K;simp only[iN,bW,al,bH];by_cases L:i < 0
 .rw[aN L,ai,aV aq];rfl
 rw[aL L,al];by_cases M:i>=(aa is:Int)
 .rw[fE M,ai,aV aq];rfl
 rw[ed M,al,aGs (d:=(j,([],(T,())))) trivial];simp only[ah,bt,aAl,DF];by_cases O:0<=j/\j < 4
 .rw[aK O];by_cases h4:aa A > 12
  .rw[cW aq,aV (p:=0<=i/\i < (aa is:Int)/\0<=j/\j < 4/\aa A<=12) aq];rfl
  .rw[ct aq,aK (p:=0<=i/\i < (aa is:Int)/\0<=j/\j < 4/\aa A<=12) aq,asG (d:=A) ⟨λ_ _=>trivial,J⟩];simp only[ah,bt,aip];rcases jQ (A.any WU) with hb | hb;rotate_left
   .simp only[hb];obtain⟨k,rfl⟩:∃k:Nat,i=k:=⟨i.toNat,aq⟩;have hk:k < aa is:=aq;simp only[show(aa ([]:List Sg)<=12)=True from eq_true (az _),bE,Bool.and_self,bW,eJ,al,bH,bQ];rw[acR (d:=(is,os,B,u)) I];simp only[ah,bt,aqn];rw[aAk (d:=((k:Int),A,aa A,0,(is,os,B,u),(0,()),j,0,(T,()),mw (is,os,B,u),[])) ⟨by show aa A<=_;omega,hu,Hh,0,az _,rfl,rfl,rfl,az _⟩];simp only[ah,Fj,NX,aW,aH,bf];rw[aGf (d:=(is,os,B,u)) iN];simp only[ah,bt,awb,ab,aO,bY,aS (show(0:Int)<=(k:Int) by omega) (show(k:Int) < (aa is:Int) by omega),ai,aK hk,bE,qQ,ax,fY];rw[dM (by rw[qQ])]
   .simp only[hb];rfl
 .rw[aV O,aV (p:=0<=i/\i < (aa is:Int)/\0<=j/\j < 4/\aa A<=12) aq];rfl
def aT8:Av.RS:=rE [.d eU,.d ti,.d ti,.d tU,.d tu] Av
def bb9:=Av.eQ bb8 1 ⟨.eg aGo,trivial⟩
abbrev mv:Ty:=(.pair dI (.pair ti .unit))
abbrev fh:=(dW×(Int×Unit))
abbrev fk:Ty:=(.pair bK (.pair mv .unit))
abbrev de:=(bO×(fh×Unit))
abbrev eh:Ty:=(.pair (.slice fk) (.pair (.slice bK) .unit))
abbrev cF:=((List de)×((List bO)×Unit))
def aVx:(Bs×Bs)->Prop:=λ_=>True
def aVw:(Bs×Bs)->Int:=λ(a,b)=>arq a b
def aHg:Fs prog aVx bt aVw:=eP 58 f58 (λ(a,b)=>([fo a,fo b],[])) (λx=>⟨aU x,[],[]⟩) [aw tB,aw tB] [⟨99,jh,aMD,.of (bio (fn:=f99) bS bS bS bS bS) (by rfl)⟩]
def bdr(a b)(k:K1 R):aHg.A (a,b) k=ao (aBe (a,b)) λj=>k (aHg.out j):=bS
def bds:aHg.Ok:=by rintro⟨a,b⟩ _;rw[bdr,aME];rfl
def aVy:aHg.RS:=rE [.d tB,.d tB] aHg
def bdt:=aHg.eQ bds
def aX8:Int->Prop:=λ_=>True
def ax7:Int->Bool:=λ_=>aZ
def aC3:Fs prog aX8 bt ax7:=eP 100 f100 (λx=>([aU x],[])) (λx=>⟨fA x,[],[]⟩) [aw ti]
def be9(x)(k:K1 R):aC3.A x k=k (aC3.out (pb x x)):=bS
def bfa:aC3.Ok:=by intro x _;rw[be9];simp only[bt,ax7,bU rfl]
def aC4:aC3.RS:=rE [.d ti] aC3
def bfb:=aC3.eQ bfa
def axb(x y:Int):Int:=if x < y then -1 else if x > y then 1 else 0
def aX5:(Int×Int)->Prop:=λ_=>True
def aIH:(Int×Int)->Int:=λ(x,y)=>axb x y
def ai4:Fs prog aX5 bt aIH:=eP 59 f59 (λ(x,j)=>((qY x j),[])) (λx=>⟨aU x,[],[]⟩) [aw ti,aw ti] [bfb]
def be1(x j)(k:K1 R):ai4.A (x,j) k=ao (aC3.call x) λA=>ao (aC3.call j) λu=>aA (A) (aA (u) (k (ai4.out 0)) (k (ai4.out (-1)))) (aA (u) (k (ai4.out 1)) (aA (fj x j) (k (ai4.out (-1))) (aA (qi x j) (k (ai4.out 1)) (k (ai4.out 0))))):=bS
def be2:ai4.Ok:=by
 rintro⟨x,y⟩ _;rw[be1,aC4 (d:=x) trivial];simp only[ah,bt,ax7];rw[aC4 (d:=y) trivial];simp only[ah,bt,ax7,al,bt,aIH,axb];by_cases h:x < y
 .rw[aN h,ai,av h]
 .rw[aL h,al,au h];by_cases j:x > y
  .rw[cW j,ai,av j]
  .rw[ct j,al,au j]
def aX6:ai4.RS:=rE [.d ti,.d ti] ai4
def be3:=ai4.eQ be2
abbrev PY:=Int×(List Int)×Int×Int
def Fw:PY->AS:=λ(zero,j,u,A)=>⟨([bB,bB,bB,aU zero,bB,bB,.d (.slice ti) j,aU u,aU A]++aP 9 []),[],(ag 18 [])⟩
def Mm:Int->Exit×AS:=λx=>(.ret,⟨([bB,bB,aU x]++aP 15 []),[],(ag 18 [])⟩)
def Mn:Int->Exit×AS:=λx=>(.exit 0,⟨([bB,bB,bB,aU x]++aP 14 []),[],(ag 18 [])⟩)
abbrev alj:=(Int)⊕(Int)
abbrev aB0:=(Int)⊕(Unit)
def Xc:alj->Out (Exit×AS):=λx=> .br x.isLeft (.get x.getLeft? λa=> .ok (Mm a)) (.get x.getRight? λb=> .ok (Mn b))
def sq:PY->aB0->alj:=λ(zero,j,u,A) y=>match y with | .inl y=> .inl y | .inr z=> .inr (zero)
def bkU:List Int->Int
 |[]=>0
 |x::l=>if x≠0 then x else bkU l
def bhY:List Int->Int⊕Unit
 |[]=> .inr ()
 |x::l=>if x≠0 then .inl x else bhY l
def bhZ:∀l:List Int,bkU l=match bhY l with | .inl x=>x | .inr _=>0
 |[]=>rfl
 |x::l=>by
  simp only[bkU,bhY];split
  .rfl
  .exact bhZ l
def Ml:PY->Prop:=λ(z,l,n,i)=>z=0/\aa l<=1000000000/\n=aa l/\∃k:Nat,k<=aa l/\i=k
def Cp:PY->aB0:=λ(z,l,n,i)=>bhY (l.drop i.toNat)
def bd9:(List Int)->Prop:=λl=>aa l<=1000000000
def aWS:(List Int)->Int:=λl=>bkU l
def aBY:=cQ.eg Fw Ml sq Cp Xc
def agy:PY->Option alj:=eN aBY Fw
def aUU:Fs prog bd9 bt aWS:=eP 57 f57 (λj=>([.d (.slice ti) j],[])) (λx=>⟨.d ti x,[],[]⟩) [aw (.slice ti)] [] {loops:=ko [(3,{aX:=[3,6,7,8]})],outs:=km [(3,{aX:=[3]},{aX:=[2]})],eT:=jW [(3,aBY)]}
def aBZ:= @dm prog (gU aUU.G) aUU.an 0 f57 0 _ Fw
abbrev atP:=gr prog (gU aUU.G) aUU.an 0 f57 0 Fw Ml sq Cp Xc
def aH2:fC agy Ml sq Cp:=ia (fy [.d ti,.d (.slice ti),.d ti,.d ti] λ_=>bS)
def aiY:iX @aBZ Fw Ml sq Cp Xc atP:=ji
def PZ(zero u B j)(I:K2 R)(A:K3 R):aBZ (zero,u,B,j) I A=aA (fj j B) (aA (dB j (((aa u):Nat):Int)) (aA (pb (nth ti u (ae j)) zero) (A (Mm (nth ti u (ae j))).1 (Mm (nth ti u (ae j))).2) (I (Fw (zero,u,B,(bC .i64 j (1:Int)))))) aC) (A (Mn zero).1 (Mn zero).2):=bS
def biF(j)(k:K1 R):aUU.A j k=ao (agy (0,j,(aa j:Int),0)) λu=>aA u.isLeft (ao u.getLeft? λA=>k (aUU.out A)) (ao u.getRight? λB=>k (aUU.out B)):=bS
def aP8:atP:=by
 refine aiY (λ(z,l,n,i)=>aa l - i.toNat) ?_
 rintro⟨z,l,n,i⟩ ⟨rfl,I,rfl,k,J,rfl⟩;by_cases h:k < aa l
 .have u:l.drop k=l[k]::l.drop (k+1):=ak h;have n1:nth ti l k=l[k]:=bG (t:=ti) h;by_cases j:l[k]≠0
  .right;refine⟨Mm l[k],?_,λA B=> ?_⟩;rotate_left
   .rw[PZ,aN aq,ai,aS aq aq,ai,ab,n1,dj j,ai]
   .simp only[sq,Cp,ab,u,bhY,av j];rfl
  .left;refine⟨(0,l,(aa l:Int),((k+1:Nat):Int)),⟨rfl,I,rfl,k+1,aq,rfl⟩,by simp only[ab];omega,?_,λA B=> ?_⟩
   .simp only[sq,Cp,ab,u,bhY,au j]
   .rw[PZ,aN aq,ai,aS aq aq,ai,ab,n1,bU aq,al,N.iY aq]
 .right;obtain rfl:k=aa l:=aq;refine⟨Mn 0,?_,λA B=> ?_⟩;rotate_left
  .rw[PZ,aL aq,al]
  .simp only[sq,Cp,ab,ay,bhY];rfl
def biG:aUU.Ok:=by intro l j;rw[biF,aH2 (d:=(0,l,(aa l:Int),0)) ⟨rfl,j,rfl,0,az _,rfl⟩];simp only[ah,sq,Cp,aW,aH,bt,aWS];rw[bhZ];cases bhY l <;> rfl
def bea:aUU.RS:=rE [.d (.slice ti)] aUU
def biH:=aUU.eQ biG 1 ⟨.eg aP8,trivial⟩
end Go.Ab
namespace Go.Ab
open Go.Sort (grow)
structure bkx(P:bg)(t:Ty)(g:fX)(Q:t.den->Prop)(cf:t.den->t.den->Int):Prop where
 cH:∃en,tD P g en/\∀x y,Q x->Q y->∃X,en.run [.d t x,.d t y] []=aw X/\en.out [.d t x,.d t y] [] X=⟨.d (.int .i64) (cf x y),[],[]⟩
 enters:∀args w,(callFunc g args).run P w= .ok (.enter g args) w
 irrefl:∀x,Q x->¬cf x x < 0
 trans:∀x y z,Q x->Q y->Q z->cf x y < 0->cf y z < 0->cf x z < 0
 ntrans:∀x y z,Q x->Q y->Q z->¬cf x y < 0->¬cf y z < 0->¬cf x z < 0
def beD{w w':cG}(B:w'.os=w.os)(I:w'.tape=w.tape)(u:w'.output=w.output/\w.drawn<=w'.drawn)(T:w.heap.size<=w'.heap.size)(M:∀b:Nat,b < w.heap.size->w'.heap[b]? =w.heap[b]?):
  ∃q os,w'=grow (w.drewN q) os:=by
 obtain⟨A,t1,K,o1,p1⟩:=w;obtain⟨j,t2,L,o2,p2⟩:=w';simp only at*;obtain⟨u,hd⟩:=u;subst B I u;obtain⟨q,rfl⟩:∃q,L=K+q:=⟨L - K,aq⟩;refine⟨q,j.extract A.size j.size,?_⟩;have O:j=A++j.extract A.size j.size:=by
  apply Array.ext_getElem?;intro i;rw[Array.getElem?_append];by_cases J:i < A.size
  .rw[av J,M i J]
  .rw[au J,Array.getElem?_extract];by_cases h3:i < j.size
   .rw[av aq];congr 1;omega
   .rw[au aq,Array.getElem?_eq_none aq]
 show({heap:=j,tape:=_,drawn:=_,os:=_,output:=_}:cG)= {heap:=A++j.extract A.size j.size,tape:=_,drawn:=_,os:=_,output:=_};rw[<-O];rfl
section
variable {P:bg} {t:Ty} {g:fX} {Q:t.den->Prop} {cf:t.den->t.den->Int}
def bkx.blx(h:bkx P t g Q cf)(T:t.agg=bn){W:cG}{J K:List bh}{x y:t.den}(hx:dU ((gz []).env W (λ_=> .free) (λ_=>aC)) t J x)
  (hy:dU ((gz []).env W (λ_=> .free) (λ_=>aC)) t K y) (qx:Q x) (qy:Q y):
  Calls P g #[.agg J.toArray,.agg K.toArray] W λe w'=>e= .returned (.int .i64 (cf x y))/\∃q os,w'=grow (W.drewN q) os:=by
 obtain⟨en,hd,vg⟩:=h.cH;obtain⟨X,L,M⟩:=vg x y qx qy;have A:∀ {c:List bh} {z:t.den},dU ((gz []).env W (λ_=> .free) (λ_=>aC)) t c z->VS ((gz []).env W (λ_=> .free) (λ_=>aC)) (.d t z) (.agg c.toArray):=λhz=>
  ⟨_,by simpa only[V]using hz,by show gv t.agg _ _;rw[T];rfl⟩
 have ho:jH ((gz []).env W (λ_=> .free) (λ_=>aC)):=λid ver fr c h=>by
  exfalso;cases id with
  |dx k=>simp[AS.env,AS.cH,gz]at h
  |new i j=>simp[AS.env,AS.cH,gz]at h
 rcases hd W (λ_=> .free) (λ_=>aC) [.d t x,.d t y] [] [.agg J.toArray,.agg K.toArray] X ⟨A hx,A hy,trivial⟩ ho L with⟨_,B⟩ | ⟨v,w',B,_⟩
 .refine B.mono λe w' he=> ?_
  obtain⟨v,rfl,g',β',I,_,u,_⟩:=he;rw[M]at I;obtain⟨cs,k1,O⟩:=I;have k1:cs=[.int .i64 (cf x y)]:=k1;subst k1;have O: [Value.int .i64 (cf x y)]=[v]:=O;have I:v= .int .i64 (cf x y):=by simpa using O.symm
  exact⟨by rw[I],beD u.os u.tape u.output u.size λb hb=>(u.aiW b hb).2⟩
 .rw[h.enters]at B;cases B
def aU9(u:t.den->t.den->Int)(l j:List t.den):Prop:=j.Perm l/\j.Pairwise λx y=>¬u y x < 0
open Classical in
def acJ(j:t.den->t.den->Int)(l:List t.den):List t.den:=if h:∃u,aU9 j l u then h.choose else l
def ap5(h:bkx P t g Q cf){l:List t.den}(A:∀x∈l,Q x):aU9 cf l (acJ cf l):=by
 have B:∃J,aU9 cf l J:=by
  let le: {x // Q x}-> {x // Q x}->Bool:=λx y=> !decide (cf y.1 x.1 < 0)
  refine⟨((l.attachWith Q A).mergeSort le).map (·.1),?_,?_⟩
  .have j:=(List.mergeSort_perm (l.attachWith Q A) le).map (·.1);rwa[List.attachWith_map_subtype_val]at j
  .have u:=List.pairwise_mergeSort (le:=le) (λa b c j u=>by
    simp only[le,fu,iR]at*;exact h.ntrans _ _ _ c.2 b.2 a.2 u j) (λa b=>by
    simp only[le,vI,fu,iR];by_cases j:cf b.1 a.1 < 0
    .exact .inr λu=>h.irrefl _ a.2 (h.trans _ _ _ a.2 b.2 a.2 u j)
    .exact .inl j) (l.attachWith Q A)
   rw[List.pairwise_map];exact u.imp λ {a b} I=>by simpa[le]using I
 unfold acJ;rw[Ed B];exact B.choose_spec
def NN(h:bkx P t g Q cf){l A:List t.den}(J:∀x∈l,Q x)(K:∀x∈l,∀y∈l,¬cf x y < 0->¬cf y x < 0->x=y)(u:aU9 cf l A):A=acJ cf l:=by have j:=ap5 h J;exact List.Perm.eq_of_pairwise (λa b L M B I=>K a (u.1.mem_iff.1 L) b (j.1.mem_iff.1 M) I B) u.2 j.2 (u.1.trans j.1.symm)
def acK(g:fX)(e:bk)(t:Ty):Nat×List t.den->List aF×List dR:=λd=>([.dq (.dx 0) 0 [] 0 0 d.1,.fn g .nil],[.obj 0 aZ (.vec e t d.2)])
def ap4(Q:t.den->Prop)(j:t.den->t.den->Int):Nat×List t.den->Prop:=λd=>d.1=aa d.2/\aa d.2 < 4611686018427387904/\(∀x∈d.2,Q x)/\∀x∈d.2,∀y∈d.2,¬j x y < 0->¬j y x < 0->x=y
def bkg(e:bk)(t:Ty):Nat×List t.den->hZ:=λx=>⟨.nil,[.obj 0 aZ (.vec e t x.2)],[]⟩
def bgT(g:fX)(e:bk)(t:Ty)(Q:t.den->Prop)(j:t.den->t.den->Int):Entry:=Entry.of [aC,aC] (acK g e t) (ap4 Q j) (λd=>(d.1,acJ j d.2)) (bkg e t)
def bgY{g:fX}{e:bk}{t:Ty}(d j:Nat×List t.den)(h:acK g e t d=acK g e t j):d=j:=by obtain⟨n,l⟩:=d;obtain⟨B,A⟩:=j;simp only[acK,kX,da,aF.dq.injEq,dR.obj.injEq,gC,lY]at h;obtain⟨rfl,u⟩:=h;rw[bg9 u]
def azZ(g:fX)(e:bk)(t:Ty)(Q:t.den->Prop)(j:t.den->t.den->Int):Nat×List t.den->Option (Nat×List t.den):=λd=>(bgT g e t Q j).run (acK g e t d).1 (acK g e t d).2
def aOC{g:fX}{e:bk}{t:Ty}{Q:t.den->Prop}{j:t.den->t.den->Int}{d:Nat×List t.den}(h:ap4 Q j d):azZ g e t Q j d=aw (d.1,acJ j d.2):=Entry.AI bgY h
def ZL{R:List bh->t.den->Prop}:∀ {cs:List bh} {l:List t.den},bR R cs l->(∀x∈l,Q x)->∃j:List {p:List bh×t.den // R p.1 p.2/\Q p.2},j.map (·.1.2)=l/\(j.map (·.1.1)).flatten=cs
 |cs,[],h,_=>⟨[],rfl,by have h:cs=[]:=h;rw[h];rfl⟩
 |cs,x::l,⟨c,cs',h1,h2,h3⟩,hq=>by
  obtain⟨j,u,A⟩:=ZL h3 λy B=>hq y (aT _ B)
  exact⟨⟨(c,x),h2,hq x (aY ..)⟩::j,by simp[u],by simp[A,h1]⟩
def aaY{R u:List bh->t.den->Prop}(A:∀c x,R c x->u c x):∀j:List {p:List bh×t.den // R p.1 p.2/\Q p.2},bR u (j.map (·.1.1)).flatten (j.map (·.1.2))
 |[]=>rfl
 |p::j=>⟨p.1.1,(j.map (·.1.1)).flatten,by simp,A _ _ p.2.1,aaY A j⟩
def aCF{α:Type} [Inhabited α] (u:α->List bh) {k:Nat} (B:∀x,aa (u x)=k):∀(A:List α) (j:Nat),j < aa A*k->((A.map u).flatten)[j]? =(u (A.toArray[j / k]!))[j%k]?
 |[],j,h=>by simp at h
 |p::A,j,h=>by
  have k0:0 < k:=by
   rcases wA k with h0 | h0
   .subst h0;simp at h
   .exact h0
  simp only[cq,kr];by_cases I:j < k
  .rw[jx (by rw[B];exact I),Nat.div_eq_of_lt I,lI I];rfl
  .have J:j / k=(j - k) / k+1:=by rw[Nat.div_eq_sub_div k0 aq]
   have K:j%k=(j - k)%k:=by rw[Nat.mod_eq_sub_mod aq]
   rw[List.getElem?_append_right (by rw[B];omega),B,aCF u B A (j - k) (by simp only[aB,gT,rW]at h;omega),J,K];congr 2;simp
def XA{α:Type} [Inhabited α] (u:α->List bh) {k:Nat} (B:∀x,aa (u x)=k) (d:Array α):(Go.Sort.flatK u k d).toList=(d.toList.map u).flatten:=by
 have L:aa ((d.toList.map u).flatten)=d.size*k:=by
  rw[List.length_flatten,yz];have:(d.toList.map (aa∘u))=ag d.size k:=by rw[List.eq_replicate_iff];exact⟨by simp,λx M=>by obtain⟨y,_,rfl⟩:=dE.1 M;exact B y⟩
  rw[this,List.sum_replicate_nat]
 apply mU;intro j;by_cases A:j < d.size*k
 .rw[aCF u B d.toList j (by simpa using A)];have K:(Go.Sort.flatK u k d).toList[j]? =aw ((Go.Sort.flatK u k d)[j]!):=by rw[jA,qh _ j (by rw[Go.Sort.size_flatK];exact A)];simp[A]
  rw[K,Go.Sort.get_flatK _ _ _ _ A];have I:0 < k:=by
   rcases wA k with h0 | h0
   .subst h0;simp at A
   .exact h0
  have J:j%k < k:=Nat.mod_lt _ I;simp only[Array.toArray_toList];rw[cS (by rw[B];exact J),qh _ _ (by rw[B];exact J)]
 .rw[List.getElem?_eq_none (by simpa using A),List.getElem?_eq_none (by rw[L];omega)]
def aZJ{F cur:Array bh}(h:F.size<=cur.size):(Go.Sort.putCells id 0 F cur).toList=F.toList++cur.toList.drop F.size:=by
 apply mU;intro j;simp only[Go.Sort.putCells,jA,Array.getElem?_mapIdx,az,gC,aO,mW,id];by_cases u:j < F.size
 .rw[jx (by simpa using u),jA,Array.getElem?_eq_getElem u,Array.getElem?_eq_getElem aq,kB,av u,qh F j u]
 .rw[List.getElem?_append_right (by simpa using u),pR,jA,jl,show F.size+(j - F.size)=j by omega];cases cur[j]? with
  |none=>rfl
  |some y=>rw[kB,au u]
end
section
open Go.Proofs Go.Shelf Go.Lib Go.Sort
variable {P:bg} {ρ:Go.Shelf.Ren} {t:Ty} {g:fX} {Q:t.den->Prop} {cf:t.den->t.den->Int}
def ap7{α:Type} [Inhabited α] (u:α->List bh) (k:Nat) (w:cG) (j m:Nat) (A:Array α) (os:Array Obj) {b:Nat} (B:b < w.heap.size) (I:b≠j):(sortWorldK u k w j 0 m A os).heap[b]? =w.heap[b]? :=by
 show((w.heap.modify j _)++os)[b]? =_
 rw[Array.getElem?_append,av (by simpa using B),Array.getElem?_modify,au (λe=>I e.symm)]
def bg2{α:Type} [Inhabited α] (u:α->List bh) (k:Nat) (w:cG) (j m:Nat) (A:Array α) (os:Array Obj) {cur:Array bh} {e:bk} {fr:Nat×Nat} (B:w.heap[j]? =aw (.cells cur e fr)):
  (sortWorldK u k w j 0 m A os).heap[j]? =aw (.cells (putCells id 0 (flatK u k A) cur) e fr):=by
 have I:j < w.heap.size:=(dV.1 B).1;show((w.heap.modify j _)++os)[j]? =_
 rw[Array.getElem?_append,av (by simpa using I),Array.getElem?_modify,av rfl,B];rfl
set_option maxHeartbeats 1000000 in
def bbK(L:SlLaysF0.n6 P ρ){e:bk}(ha:t.agg=bn)(aE:∀w,(isAgg (ρ.t 24)).run P w= .ok bn w)(zE:∀w,(Go.sizeOf (ρ.t 24)).run P w= .ok t.size w)(hc:bkx P t g Q cf):
  tD P (ρ.f 6) (bgT g e t Q cf):=by
 intro w γ β args cO kK x hv ho hx;obtain⟨d0,bnc,ax0⟩:∃d,acK g e t d=(args,cO)/\ap4 Q cf d:=by
  by_cases hh:∃d,acK g e t d=(args,cO)/\ap4 Q cf d
  .exact hh
  .exfalso;have hn:(bgT g e t Q cf).run args cO=aC:=dif_neg hh;rw[hn]at hx;cases hx
 have hr:=aOC (g:=g) (e:=e) ax0;unfold azZ at hr;rw[bnc]at hr;obtain rfl:x=(d0.1,acJ cf d0.2):=cj (hx.symm.trans hr);obtain⟨n,l⟩:=d0;simp only[acK,kX]at bnc;obtain⟨rfl,rfl⟩:=bnc;obtain⟨hn,Hu,hQ,hT⟩:=ax0;have hn:n=aa l:=hn;subst hn
 match kK,hv with
 |[y1,y2],⟨bo0,aue,_⟩=>
 obtain⟨vs,rfl,aCZ⟩:=alU aue;have aCZ:vs=[]:=by simpa only[VC]using aCZ
 subst aCZ;have B:=bo0.single rfl rfl;simp only[V]at B;obtain⟨a,cap,B,aIv,Gf,_,jU⟩:=B;have B:y1= .slice a (aa l) cap:=by simpa using B
 subst B;have eG:(gz [dR.obj 0 aZ (.vec e t l)]).cH (.dx 0)=aw (.obj 0 aZ (.vec e t l)):=rfl;obtain⟨hz,hO⟩:bk9 ((gz [dR.obj 0 aZ (.vec e t l)]).env w γ β) (.dx 0) aZ e t l:=ho (.dx 0) 0 aZ _ eG;have jU:=jU ⟨aZ,_,eG⟩;refine .inl ⟨L.f6.enters rfl _ _,?_⟩;have brx:∀v:bh,v= .tuple #[]->VS ((hZ.st ⟨.nil,[.obj 0 aZ (.vec e t (acJ cf l))],[]⟩).env w γ β) .nil v:=λv hv=>by rw[hv];exact rfl
 have hS:=ap5 hc hQ;by_cases hl:l=[]
 .subst hl;have hs:acJ cf ([]:List t.den)=[]:=bV hS.1.length_eq;refine(AnyF.slices_SortFunc_none L a cap _ w).mono λe' w' he=> ?_
  obtain⟨rfl,rfl⟩:=he;refine⟨_,rfl,?_⟩;show Ao _ (⟨.nil,[.obj 0 aZ (.vec e t (acJ cf []))],[]⟩:hZ) _ _;rw[hs];exact Ao.same rfl ho
 .have C0:0 < aa l:=List.length_pos_iff.2 hl
  change (match β (.dx 0) with | none=>l=[] | some pl=>∃cur k,w.heap[pl.b]? =aw (.cells cur e (0,0))/\cur.size=pl.cap*t.size/\l.length<=pl.cap/\pl.cap<=maxLen/\γ pl.b= .own (.id (.dx 0)) k/\
   k<=l.length*t.size/\(aZ=aZ->k=0)/\bR (dU ((gz [dR.obj 0 aZ (.vec e t l)]).env w γ β) t) (cur.toList.take (l.length*t.size)) l) at hO
  change (match β (.dx 0) with | some pl=>(0 < l.length\/True->a=aw ⟨pl.b,0,aC⟩)/\(True->True->cap=pl.cap) | none=>a=aC/\l.length=0/\cap=0) at jU;cases hβ:β (.dx 0) with
  |none=>rw[hβ]at hO;exact absurd hO hl
  |some pl=>
  rw[hβ]at hO jU;obtain⟨cur,k0,q1,q2,q3,q4,q5,_,q7,q8⟩:=hO;obtain rfl:=q7 rfl;obtain rfl:=jU.1 (.inl C0);have hblk:pl.b < w.heap.size:=(dV.1 q1).1;obtain⟨R,hR⟩:∃R:List bh->t.den->Prop,R=dU ((gz [dR.obj 0 aZ (.vec e t l)]).env w γ β) t:=⟨_,rfl⟩;have T:∀c x,R c x->dU ((gz [dR.obj 0 aZ (.vec e t l)]).env w γ β) t c x:=by rw[hR];exact λ_ _ h=>h
  rw[<-hR]at q8;obtain⟨J,p1,p2⟩:=ZL (Q:=Q) q8 hQ;have M:aa J=aa l:=by rw[<-p1,cz]
  let α:= {p:List bh×t.den // R p.1 p.2/\Q p.2}
  have:0 < aa J:=aq
  letI:Inhabited α:=⟨J[0]⟩
  let u:α->List bh:=λp=>p.1.1
  let I:α->α->Int:=λp q=>cf p.1.2 q.1.2
  have hk:∀x,aa (u x)=t.size:=λx=>(T _ _ x.2.1).size
  have hO:SWO (ltOf I):=⟨λx=>by simpa[ltOf,I]using hc.irrefl _ x.2.2,λx y z B O=>by
   simp only[ltOf,bJ,I]at*;exact hc.trans _ _ _ x.2.2 y.2.2 z.2.2 B O,λx y z B O=>by
   simp only[ltOf,iR,I]at*;exact hc.ntrans _ _ _ x.2.2 y.2.2 z.2.2 B O⟩
  have agU:∀j,j < aa l*t.size->cur[j]? =((J.map u).flatten)[j]? :=λj hj=>by have:(J.map u).flatten=cur.toList.take (aa l*t.size):=p2;rw[this,fS,av hj,jA]
  have hH:HoldsK u t.size w pl.b 0 J.toArray:=λj hj=>by
   rw[size_flatK]at hj;have hj:j < aa J*t.size:=by simpa using hj
   have O:=agU j (by rw[<-M];exact hj);have h3:((flatK u t.size J.toArray).toList)[j]? =((J.map u).flatten)[j]? :=by rw[XA u hk]
   rw[jA,Array.getElem?_eq_getElem (by rw[size_flatK];simpa using hj)]at h3;refine⟨?_,?_⟩
   .show(match w.heap[pl.b]? with | some (.cells c _ _)=>if(aC:Option _).isSome then aC else c[0+j]? | _=>aC)=_;rw[q1];simp only[wB,bu,bq,aO];rw[O,<-h3,qh _ j (by rw[size_flatK];simpa using hj)];rfl
   .show(match w.heap[pl.b]? with | some (.cells _ _ (lo,hi))=>decide (lo<=0+j) && decide (0+j < hi) | _=>aZ)=aZ;rw[q1];simp
  have Ge:∀(m:Nat) (dk:Array α) (os:Array Obj),yA ((gz [dR.obj 0 aZ (.vec e t l)]).env w γ β) ((gz []).env (sortWorldK u t.size w pl.b 0 m dk os) (λ_=> .free) (λ_=>aC)):=λm dk os=>by
   refine⟨λb off v hh=>⟨?_,trivial⟩,λb ob hf tW=>⟨rfl,?_⟩⟩
   .obtain⟨B,O⟩:=hh;have K:b < w.heap.size:=World.block_lt_of_cell? _ _ B;have jV:b≠pl.b:=λe=>by have O:EF γ b off:=O;unfold EF at O;rw[e,q5]at O;exact Nat.not_lt_zero _ O
    have B:w.cell? ⟨b,off,aC⟩=aw v:=B;show(sortWorldK u t.size w pl.b 0 m dk os).cell? ⟨b,off,aC⟩=aw v;simpa only[gh,ap7 u t.size w pl.b m dk os K jV]using B
   .have tW:w.heap[b]? =aw ob:=tW
    have K:b < w.heap.size:=(dV.1 tW).1;have jV:b≠pl.b:=λe=>by have hf:γ b= .free:=hf;rw[e,q5]at hf;cases hf
    exact(ap7 u t.size w pl.b m dk os K jV).trans tW
  have boj:CmpLays P g #[] u t.size I pl.b 0 J.toArray.size w:=λm os dk _ p q=>
   hc.blx ha ((T _ _ p.2.1).mono (Ge m dk os)) ((T _ _ q.2.1).mono (Ge m dk os)) p.2.2 q.2.2
  have blK:=AnyQ.slices_SortFunc L t.size aE zE u hk (λp=>(T _ _ p.2.1).one) I hO g #[] pl.b 0 cap J.toArray w hc.enters boj hH hblk (by simpa[M]using Hu);rw[show J.toArray.size=aa l by simpa using M]at blK;refine blK.mono λe' w' he=> ?_
  obtain⟨rfl,A,m,os,hp,hs,rfl⟩:=he;refine⟨_,rfl,?_⟩;obtain⟨s1,_,s2⟩:=hp;have hd:A.size=aa l:=by rw[s1];simpa using M
  have aCS:A.toList.Perm J:=by
   have e1:(A.extract 0 (aa l))=A:=by rw[<-hd];simp
   have e2:(J.toArray.extract 0 (aa l))=J.toArray:=by rw[<-M];simp
   rw[e1,e2]at s2;exact s2
  have hl':aU9 cf l (A.toList.map (·.1.2)):=by refine⟨by rw[<-p1];exact aCS.map _,?_⟩;rw[List.pairwise_map,List.pairwise_iff_getElem];intro i j hi hj bqj;have:=hs i j (az _) bqj (by rw[<-hd];simpa using hj);rw[qh A i (by simpa using hi),qh A j (by simpa using hj)]at this;simpa[ltOf,I]using this
  have heq:=NN hc hQ hT hl';show Ao _ (⟨.nil,[.obj 0 aZ (.vec e t (acJ cf l))],[]⟩:hZ) _ _;rw[<-heq];have vh:=bg2 u t.size w pl.b m A os q1;have hFs:(flatK u t.size A).size<=cur.size:=by rw[size_flatK,hd,q2];exact eL _ q3
  have ai3:∀b,b < w.heap.size->b≠pl.b->(sortWorldK u t.size w pl.b 0 m A os).heap[b]? =w.heap[b]? :=λb K jV=>ap7 u t.size w pl.b m A os K jV
  have bhI:w.heap.size<=(sortWorldK u t.size w pl.b 0 m A os).heap.size:=size_sortWorldK_c u t.size w pl.b 0 m A os;have hw:(sortWorldK u t.size w pl.b 0 m A os).os=w.os/\(sortWorldK u t.size w pl.b 0 m A os).tape=w.tape/\((sortWorldK u t.size w pl.b 0 m A os).output=w.output/\w.drawn<=(sortWorldK u t.size w pl.b 0 m A os).drawn):=⟨rfl,rfl,rfl,Nat.le_add_right _ _⟩;generalize sortWorldK u t.size w pl.b 0 m A os=w' at vh ai3 bhI hw;have ht:Trans w w' γ γ:=by
   refine⟨hw.1,hw.2.1,hw.2.2,bhI,λb K=> ?_⟩;by_cases bof:b=pl.b
   .subst bof;rw[q5];exact⟨.inr ⟨_,0,rfl,ax _⟩,λ_ _ hh=>aq⟩
   .rw[ai3 b K bof];cases bjb:γ b with
    |free=>exact⟨rfl,rfl⟩
    |own o' k=>cases o' with
     |gK=>exact⟨rfl,rfl⟩
     |id i'=>exact⟨.inr ⟨i',k,rfl,ax _⟩,λoff v _ hv=>by simpa only[gh,ai3 b K bof]using hv⟩
  have hle:df ((gz [dR.obj 0 aZ (.vec e t l)]).env w γ β) ((hZ.st ⟨.nil,[.obj 0 aZ (.vec e t (A.toList.map (·.1.2)))],[]⟩).env w' γ β):=by
   have e0:∀id,(∃c,(gz [dR.obj 0 aZ (.vec e t l)]).cH id=aw (.obj 0 aZ c)/\id= .dx 0)\/((gz [dR.obj 0 aZ (.vec e t l)]).cH id=aC/\(hZ.st ⟨.nil,[.obj 0 aZ (.vec e t (A.toList.map (·.1.2)))],[]⟩).cH id=aC):=λid=>by
    cases id with
    |dx k=>cases k with
     |zero=>exact .inl ⟨_,rfl,rfl⟩
     |succ k=>exact .inr ⟨rfl,rfl⟩
    |new i j=>refine .inr ⟨?_,?_⟩ <;> cases i <;> rfl
   refine⟨Trans.mem (E:=(gz [dR.obj 0 aZ (.vec e t l)]).env w γ β) (E':=(hZ.st ⟨.nil,[.obj 0 aZ (.vec e t (A.toList.map (·.1.2)))],[]⟩).env w' γ β) ht,λid ver K=> ?_,λid ver K bq9=> ?_⟩
   .rcases e0 id with⟨c,_,rfl⟩ | ⟨B,_⟩
    .refine⟨by show(aw _:Option dR)≠aC;simp,λv fr c h=> ?_⟩;have h:aw (dR.obj 0 aZ (.vec e t (A.toList.map (·.1.2))))=aw (.obj v fr c):=h;simp only[cn,dR.obj.injEq]at h;have:=K.2 0 aZ _ rfl;omega
    .exact absurd B K.1
   .rcases e0 id with⟨c,_,rfl⟩ | ⟨B,_⟩
    .obtain⟨fr,c,h⟩:=bq9;have h:aw (dR.obj 0 aZ (.vec e t (A.toList.map (·.1.2))))=aw (.obj ver fr c):=h;simp only[cn,dR.obj.injEq]at h;obtain⟨rfl,rfl,_⟩:=h;exact⟨⟨aZ,_,rfl⟩,rfl⟩
    .exact absurd B K.1
  refine⟨γ,β,rfl,λid ver fr c h=> ?_,ht,hle⟩;have eH:id= .dx 0/\ver=0/\fr=aZ/\c= .vec e t (A.toList.map (·.1.2)):=by
   cases id with
   |dx k=>cases k with
    |zero=>
     have h:aw (dR.obj 0 aZ (.vec e t (A.toList.map (·.1.2))))=aw (.obj ver fr c):=h;simp only[cn,dR.obj.injEq]at h;obtain⟨rfl,rfl,rfl⟩:=h;exact⟨rfl,rfl,rfl,rfl⟩
    |succ k=>cases h
   |new i j=>cases i <;> cases h
  obtain⟨rfl,rfl,rfl,rfl⟩:=eH;refine⟨hz,?_⟩;show(match β (.dx 0) with | none=>(A.toList.map (·.1.2))=[] | some pl=>_);rw[hβ];have hlen:aa (A.toList.map (λp:α=>p.1.2))=aa l:=by simpa using hd
  refine⟨_,0,vh,?_,by rw[hlen];exact q3,q4,q5,az _,λ_=>rfl,?_⟩
  .rw[<-q2];simp[putCells]
  .have e3:(putCells id 0 (flatK u t.size A) cur).toList.take (aa (A.toList.map (λp:α=>p.1.2))*t.size)=(A.toList.map u).flatten:=by
    rw[aZJ hFs,XA u hk,hlen];have e4:aa ((A.toList.map u).flatten)=aa l*t.size:=by rw[<-XA u hk,jl,size_flatK,hd]
    rw[<-e4,List.take_left]
   rw[e3];exact aaY (Q:=Q) (λc x h=>(T c x h).mono hle.mem) A.toList
end
end Go.Ab
namespace Go.Ab
open Go.Proofs
def aVD(t:Ty)(x:t.den)(h:t.comp=bn):t.beq x x=bn:=beq_refl t x h
def aMF(t:Ty)(j:t.comp=bn)(x y:t.den) [Decidable (x=y)]:t.beq x y=decide (x=y):=by
 by_cases h:x=y
 .subst h;rw[aK rfl,aVD t x j]
 .rw[aV h];cases u:t.beq x y
  .rfl
  .exact absurd (beq_eq t x y j u) h
def aVE(x y:Sg):Ty.beq yk x y=decide (x=y):= @aMF yk rfl x y (inferInstanceAs (Decidable (x=y)))
def aVC(x y:bO):Ty.beq bK x y=decide (x=y):= @aMF bK rfl x y (inferInstanceAs (Decidable (x=y)))
abbrev LP:=(List Sg)×(List Sg)×Int×Int
def xl:LP->AS:=λ(A,B,j,u)=>⟨([.d (.slice yk) A,.d (.slice yk) B]++aP 10 ((qY j u)++aP 12 [])),[],(ag 26 [])⟩
def yi:Unit->Exit×AS:=λx=>(.ret,⟨(aP 4 ([me]++aP 21 [])),[],(ag 26 [])⟩)
def I6:Unit->Exit×AS:=λx=>(.exit 0,⟨(aP 26 []),[],(ag 26 [])⟩)
abbrev afK:=(Unit)⊕(Unit)
abbrev av2:=(Unit)⊕(Unit)
def Sa:afK->Out (Exit×AS):=λx=> .br x.isLeft (.get x.getLeft? λa=> .ok (yi a)) (.get x.getRight? λb=> .ok (I6 b))
def pH:LP->av2->afK:=λ(A,B,j,u) y=>match y with | .inl y=> .inl y | .inr z=> .inr (z)
abbrev bbv:=(List Sg)×(List Sg)
def I5:LP->Prop:=λ(a,b,m,i)=>aa a<=1000000000/\aa a=aa b/\m=aa a/\∃k:Nat,k<=aa a/\i=k
def yh:LP->av2:=λ(a,b,m,i)=>if a.drop i.toNat=b.drop i.toNat then .inr () else .inl ()
def bbw:bbv->Prop:=λ(a,b)=>aa a<=1000000000
def aLn:bbv->Bool:=λ(a,b)=>decide (a=b)
def av1:=cQ.eg xl I5 pH yh Sa
def acD:LP->Option afK:=eN av1 xl
def afI:Fs prog bbw bt aLn:=eP 71 f71 (λ(j,u)=>([.d (.slice yk) j,.d (.slice yk) u],[])) (λx=>⟨.d .bool x,[],[]⟩) [aw (.slice yk),aw (.slice yk)] [] {loops:=ko [(4,{aX:=[0,1,12,13]})],outs:=km [(4,{},{aX:=[4]})],eT:=jW [(4,av1)]}
def afJ:= @dm prog (gU afI.G) afI.an 0 f71 0 _ xl
abbrev apU:=gr prog (gU afI.G) afI.an 0 f71 0 xl I5 pH yh Sa
def aFR:fC acD I5 pH yh:=ia (fy [.d (.slice yk),.d (.slice yk),.d ti,.d ti] λ_=>bS)
def afL:iX @afJ xl I5 pH yh Sa apU:=ji
def acE(A B u j)(J:K2 R)(I:K3 R):afJ (A,B,u,j) J I=aA (fj j u) (aA (dB j (((aa A):Nat):Int)) (aA (dB j (((aa B):Nat):Int)) (aA (!(Ty.beq yk (nth yk A (ae j)) (nth yk B (ae j)))) (I (yi ()).1 (yi ()).2) (J (xl (A,B,u,(bC .i64 j (1:Int)))))) aC) aC) (I (I6 ()).1 (I6 ()).2):=bS
def bgL(j u)(k:K1 R):afI.A (j,u) k=aA (pb (aa j:Int) (aa u:Int)) (k (afI.out aZ)) (ao (acD (j,u,(aa j:Int),0)) λA=>aA A.isLeft (ao A.getLeft? λB=>k (afI.out aZ)) (ao A.getRight? λI=>k (afI.out bn))):=bS
def aLo:apU:=by
 refine afL (λ(a,b,m,i)=>aa a - i.toNat) ?_
 rintro⟨a,b,m,i⟩ ⟨I,B,rfl,k,L,rfl⟩;have I:aa a<=1000000000:=I;have B:aa a=aa b:=B;have L:k<=aa a:=L;by_cases h:k < aa a
 .have J:k < aa b:=aq;have n1:nth yk a k=a[k]:=bG (t:=yk) h;have n2:nth yk b k=b[k]:=bG (t:=yk) J;have K:(a.drop k=b.drop k)=(a[k]=b[k]/\a.drop (k+1)=b.drop (k+1)):=by rw[ak h,ak J,da]
  have step:∀ {R:Type} (u:AS->Option R) (A:Exit->AS->Option R),afJ (a,b,(aa a:Int),(k:Int)) u A=if a[k]=b[k] then u (xl (a,b,(aa a:Int),((k+1:Nat):Int))) else A (yi ()).1 (yi ()).2:=by
   intro R u A;rw[acE,aN aq,aS aq aq,aS aq aq,ab,n1,n2,N.iY aq];simp only[ai];rw[aVE];by_cases j:a[k]=b[k]
   .rw[aK j,av j];rfl
   .rw[aV j,au j];rfl
  by_cases j:a[k]=b[k]
  .left;refine⟨(a,b,(aa a:Int),((k+1:Nat):Int)),⟨I,B,rfl,k+1,aq,rfl⟩,by simp only[ab];omega,?_,λu A=> ?_⟩
   .simp only[pH,yh,ab,K,j,gC]
   .rw[step,av j]
  .right;refine⟨yi (),?_,λu A=> ?_⟩
   .simp only[pH,yh,ab,K,j,oM,bq];rfl
   .rw[step,au j]
 .right;obtain rfl:k=aa a:=aq;refine⟨I6 (),?_,λu A=> ?_⟩
  .simp only[pH,yh,ab,ay];rw[B,ay,av rfl];rfl
  .rw[acE,aL aq,al]
def bgM:afI.Ok:=by
 rintro⟨a,b⟩ j;rw[bgL];simp[aLn];by_cases h:aa a=aa b
 .rw[bU aq,aFR (d:=(a,b,(aa a:Int),0)) ⟨j,h,rfl,0,az _,rfl⟩];simp[pH,yh];by_cases u:a=b
  all_goals simp_all
 .rw[dj aq,aV (λx=>h (by rw[x]))];rfl
def bbx:afI.RS:=rE [.d (.slice yk),.d (.slice yk)] afI
def bgN:=afI.eQ bgM 1 ⟨.eg aLo,trivial⟩
def aLT:(gb×gb)->Prop:=λ(x,y)=>aa x.2.1.2.1<=1000000000
def aqB:(gb×gb)->Bool:=λ(x,y)=>decide (x=y)
def Kj:Fs prog aLT bt aqB:=eP 70 f70 (λ(x,j)=>([.d fK x,.d fK j],[])) (λx=>⟨fA x,[],[]⟩) [aw fK,aw fK] [bgN]
def aTU(x j)(k:K1 R):Kj.A (x,j) k=aA (Ty.beq bK x.1 j.1) (aA (oC x.2.1.1 j.2.1.1) (aA (oC x.2.1.2.2.1 j.2.1.2.2.1) (ao (afI.call (x.2.1.2.1,j.2.1.2.1)) λu=>k (Kj.out u)) (k (Kj.out aZ))) (k (Kj.out aZ))) (k (Kj.out aZ)):=bS
def aTV:Kj.Ok:=by
 rintro⟨⟨T,⟨J,A,L,u1⟩,v1⟩,⟨f2,⟨K,I,M,u2⟩,v2⟩⟩ h;have h:aa A<=1000000000:=h;rw[aTU,bbx (d:=(A,I)) h,aVC];simp only[ah,bt,aLn,bt,aqB];by_cases j:T=f2
 .by_cases u:J=K
  .by_cases B:L=M
   .by_cases O:A=I
    .rw[aK j,dC u,dC B,aK O,aK (by rw[j,u,B,O])];rfl
    .rw[aK j,dC u,dC B,aV O,aV (by rintro⟨⟩;exact O rfl)];rfl
   .rw[aK j,dC u,eZ B,aV (p:=(T,(J,A,L,u1),v1)=(f2,(K,I,M,u2),v2)) (by rintro⟨⟩;exact B rfl)];rfl
  .rw[aK j,eZ u,aV (p:=(T,(J,A,L,u1),v1)=(f2,(K,I,M,u2),v2)) (by rintro⟨⟩;exact u rfl)];rfl
 .rw[aV j,aV (p:=(T,(J,A,L,u1),v1)=(f2,(K,I,M,u2),v2)) (by rintro⟨⟩;exact j rfl)];rfl
def aLU:Kj.RS:=rE [.d fK,.d fK] Kj
def aTW:=Kj.eQ aTV
def aLV:(kF×kF)->Prop:=λ(x,z)=>aa x.1<=1000000000
def aqC:(kF×kF)->Bool:=λ(x,z)=>decide (x=z)
def Kk:Fs prog aLV bt aqC:=eP 72 f72 (λ(x,j)=>([.d iq x,.d iq j],[])) (λx=>⟨fA x,[],[]⟩) [aw iq,aw iq] [bjX]
def aTX(x j)(k:K1 R):Kk.A (x,j) k=aA (oC x.2.1 j.2.1) (aA (oC x.2.2.1 j.2.2.1) (aA (oC x.2.2.2.1 j.2.2.2.1) (ao (peq.call (x.1,j.1)) λu=>k (Kk.out u)) (k (Kk.out aZ))) (k (Kk.out aZ))) (k (Kk.out aZ)):=bS
def aTY:Kk.Ok:=by
 rintro⟨⟨k1,j,A,K,u1⟩,⟨J,u,B,L,u2⟩⟩ h;have h:aa k1<=1000000000:=h;rw[aTX,bfY (d:=(k1,J)) h];simp only[ah,bt,aZB,bt,aqC];by_cases O:k1=J
 .by_cases I:j=u
  .by_cases M:A=B
   .by_cases T:K=L
    .rw[aK O,dC I,dC M,dC T,aK (by rw[O,I,M,T])];rfl
    .rw[dC I,dC M,eZ T,aV (p:=(k1,j,A,K,u1)=(J,u,B,L,u2)) (by rintro⟨⟩;exact T rfl)];rfl
   .rw[dC I,eZ M,aV (p:=(k1,j,A,K,u1)=(J,u,B,L,u2)) (by rintro⟨⟩;exact M rfl)];rfl
  .rw[eZ I,aV (p:=(k1,j,A,K,u1)=(J,u,B,L,u2)) (by rintro⟨⟩;exact I rfl)];rfl
 .rw[aV O,aV (p:=(k1,j,A,K,u1)=(J,u,B,L,u2)) (by rintro⟨⟩;exact O rfl)];cases oC j u <;> cases oC A B <;> cases oC K L <;> rfl
def aLW:Kk.RS:=rE [.d iq,.d iq] Kk
def aTZ:=Kk.eQ aTY
abbrev FU:=(List kF)×(List kF)×Int×Int
def sh:FU->AS:=λ(B,j,u,A)=>⟨([bB,ahD B,K7 72]++aP 12 ([ahD j,aU u,aU A]++aP 14 [])),[],(ag 32 [])⟩
def tR:Unit->Exit×AS:=λx=>(.ret,⟨(aP 6 ([me]++aP 25 [])),[],(ag 32 [])⟩)
def DU:Unit->Exit×AS:=λx=>(.exit 0,⟨(aP 32 []),[],(ag 32 [])⟩)
abbrev W1:=(Unit)⊕(Unit)
abbrev ak0:=(Unit)⊕(Unit)
def Mb:W1->Out (Exit×AS):=λx=> .br x.isLeft (.get x.getLeft? λa=> .ok (tR a)) (.get x.getRight? λb=> .ok (DU b))
def mZ:FU->ak0->W1:=λ(B,j,u,A) y=>match y with | .inl y=> .inl y | .inr z=> .inr (z)
abbrev aMN:=(List kF)×(List kF)
def DT:FU->Prop:=λ(b,a,m,i)=>(aa a<=1000000000/\∀x∈a,aa x.1<=1000000000)/\aa a=aa b/\m=aa a/\∃k:Nat,k<=aa a/\i=k
def sa:FU->ak0:=λ(b,a,m,i)=>if a.drop i.toNat=b.drop i.toNat then .inr () else .inl ()
def aPI:aMN->Prop:=λ(a,b)=>aa a<=1000000000/\∀x∈a,aa x.1<=1000000000
def awO:aMN->Bool:=λ(a,b)=>decide (a=b)
def akZ:=cQ.eg sh DT mZ sa Mb
def UB:FU->Option W1:=eN akZ sh
def KB:Fs prog aPI bt awO:=eP 75 f75 (λ(j,u)=>([.d (.slice iq) j,.d (.slice iq) u,.fn 72 (.nil)],[])) (λx=>⟨.d .bool x,[],[]⟩) [aw (.slice iq),aw (.slice iq),aC] [aTZ] {loops:=ko [(4,{aX:=[1,2,15,16,17]})],outs:=km [(4,{},{aX:=[6]})],eT:=jW [(4,akZ)]}
def W0:= @dm prog (gU KB.G) KB.an 0 f75 0 _ sh
abbrev ags:=gr prog (gU KB.G) KB.an 0 f75 0 sh DT mZ sa Mb
def awP:fC UB DT mZ sa:=ia (fy [.d (.slice iq),.d (.slice iq),.d ti,.d ti] λ_=>bS)
def ZB:iX @W0 sh DT mZ sa Mb ags:=ji
def UC(B u A j)(J:K2 R)(I:K3 R):W0 (B,u,A,j) J I=aA (fj j A) (aA (dB j (((aa u):Nat):Int)) (aA (dB j (((aa B):Nat):Int)) (ao (Kk.call ((nth iq u (ae j)),(nth iq B (ae j)))) λK=>aA (!K) (I (tR ()).1 (tR ()).2) (J (sh (B,u,A,(bC .i64 j (1:Int)))))) aC) aC) (I (DU ()).1 (DU ()).2):=bS
def aV2(j u)(k:K1 R):KB.A (j,u) k=aA (pb (aa j:Int) (aa u:Int)) (k (KB.out aZ)) (ao (UB (u,j,(aa j:Int),0)) λA=>aA A.isLeft (ao A.getLeft? λB=>k (KB.out aZ)) (ao A.getRight? λI=>k (KB.out bn))):=bS
def aBx:ags:=by
 refine ZB (λ(b,a,m,i)=>aa a - i.toNat) ?_
 rintro⟨b,a,m,i⟩ ⟨⟨I,L⟩,B,rfl,k,M,rfl⟩;have I:aa a<=1000000000:=I;have B:aa a=aa b:=B;have M:k<=aa a:=M;by_cases h:k < aa a
 .have J:k < aa b:=aq;have n1:nth iq a k=a[k]:=bG (t:=iq) h;have n2:nth iq b k=b[k]:=bG (t:=iq) J;have K:(a.drop k=b.drop k)=(a[k]=b[k]/\a.drop (k+1)=b.drop (k+1)):=by rw[ak h,ak J,da]
  have step:∀ {R:Type} (u:AS->Option R) (A:Exit->AS->Option R),W0 (b,a,(aa a:Int),(k:Int)) u A=if a[k]=b[k] then u (sh (b,a,(aa a:Int),((k+1:Nat):Int))) else A (tR ()).1 (tR ()).2:=by
   intro R u A;rw[UC,aN aq,aS aq aq,aS aq aq,ab,n1,n2,N.iY aq,aLW (d:=(a[k],b[k])) (L _ (aD h))];simp only[ai,ah,bt,aqC];by_cases j:a[k]=b[k]
   .rw[aK j,av j];rfl
   .rw[aV j,au j];rfl
  by_cases j:a[k]=b[k]
  .left;refine⟨(b,a,(aa a:Int),((k+1:Nat):Int)),⟨⟨I,L⟩,B,rfl,k+1,aq,rfl⟩,by simp only[ab];omega,?_,λu A=> ?_⟩
   .simp only[mZ,sa,ab,K,j,gC]
   .rw[step,av j]
  .right;refine⟨tR (),?_,λu A=> ?_⟩
   .simp only[mZ,sa,ab,K,j,oM,bq];rfl
   .rw[step,au j]
 .right;obtain rfl:k=aa a:=aq;refine⟨DU (),?_,λu A=> ?_⟩
  .simp only[mZ,sa,ab,ay];rw[B,ay,av rfl];rfl
  .rw[UC,aL aq,al]
def aV3:KB.Ok:=by
 rintro⟨a,b⟩ u;have A:aa a<=1000000000:=u.1;rw[aV2];simp only[bt,awO];by_cases h:aa a=aa b
 .rw[bU aq,al,awP (d:=(b,a,(aa a:Int),0)) ⟨u,h,rfl,0,az _,rfl⟩];simp only[ah,mZ,sa,aW,aH];by_cases j:a=b
  .rw[av j,aK j];rfl
  .rw[au j,aV j];rfl
 .rw[dj aq,aV (λx=>h (by rw[x]))];rfl
def aPJ:KB.RS:=rE [.d (.slice iq),.d (.slice iq)] KB
def aV4:=KB.eQ aV3 1 ⟨.eg aBx,trivial⟩
def aLX:(dW×dW)->Prop:=λ(x,y)=>aa x.2.1.1<=1000000000/\∀b∈x.2.1.1,aa b.1<=1000000000
def aqD:(dW×dW)->Bool:=λ(x,y)=>decide (x=y)
def SN:Fs prog aLX bt aqD:=eP 74 f74 (λ(x,j)=>([.d dI x,.d dI j,dK],[.obj 0 aZ (K7 72)])) (λx=>⟨fA x,[.obj 0 aZ (K7 72)],[]⟩) [aw dI,aw dI,aC] [aV4]
def aT0(x j)(k:K1 R):SN.A (x,j) k=aA (oC x.1 j.1) (ao (KB.call (x.2.1.1,j.2.1.1)) λu=>k (SN.out u)) (k (SN.out aZ)):=bS
def aT1:SN.Ok:=by
 rintro⟨⟨n1,⟨A,K⟩,I⟩,⟨n2,⟨B,L⟩,J⟩⟩ h;rw[aT0,aPJ (d:=(A,B)) h];simp only[ah,bt,awO,bt,aqD];by_cases j:n1=n2
 .by_cases u:A=B
  .rw[dC j,aK u,aK (by rw[j,u])];rfl
  .rw[dC j,aV u,aV (by rintro⟨⟩;exact u rfl)];rfl
 .rw[eZ j,aV (p:=(n1,(A,K),I)=(n2,(B,L),J)) (by rintro⟨⟩;exact j rfl)];rfl
def aLY:SN.RS:=rE [.d dI,.d dI] SN
def aT2:=SN.eQ aT1
abbrev KO:=(List gb)×(List gb)×Int×Int
def wO:KO->AS:=λ(B,j,u,A)=>⟨([bB,.d (.slice fK) B,K7 70]++aP 12 ((aa8 j u A)++aP 14 [])),[],(ag 32 [])⟩
def xA:Unit->Exit×AS:=λx=>(.ret,⟨(aP 6 ([me]++aP 25 [])),[],(ag 32 [])⟩)
def H0:Unit->Exit×AS:=λx=>(.exit 0,⟨(aP 32 []),[],(ag 32 [])⟩)
abbrev aem:=(Unit)⊕(Unit)
abbrev aug:=(Unit)⊕(Unit)
def Qg:aem->Out (Exit×AS):=λx=> .br x.isLeft (.get x.getLeft? λa=> .ok (xA a)) (.get x.getRight? λb=> .ok (H0 b))
def pn:KO->aug->aem:=λ(B,j,u,A) y=>match y with | .inl y=> .inl y | .inr z=> .inr (z)
abbrev aYc:=(List gb)×(List gb)
def HZ:KO->Prop:=λ(b,a,m,i)=>(aa a<=1000000000/\∀x∈a,aa x.2.1.2.1<=1000000000)/\aa a=aa b/\m=aa a/\∃k:Nat,k<=aa a/\i=k
def xz:KO->aug:=λ(b,a,m,i)=>if a.drop i.toNat=b.drop i.toNat then .inr () else .inl ()
def aYd:aYc->Prop:=λ(a,b)=>aa a<=1000000000/\∀x∈a,aa x.2.1.2.1<=1000000000
def aIK:aYc->Bool:=λ(a,b)=>decide (a=b)
def auf:=cQ.eg wO HZ pn xz Qg
def aaw:KO->Option aem:=eN auf wO
def aek:Fs prog aYd bt aIK:=eP 76 f76 (λ(j,u)=>([.d (.slice fK) j,.d (.slice fK) u,.fn 70 (.nil)],[])) (λx=>⟨.d .bool x,[],[]⟩) [aw (.slice fK),aw (.slice fK),aC] [aTW] {loops:=ko [(4,{aX:=[1,2,15,16,17]})],outs:=km [(4,{},{aX:=[6]})],eT:=jW [(4,auf)]}
def ael:= @dm prog (gU aek.G) aek.an 0 f76 0 _ wO
abbrev amc:=gr prog (gU aek.G) aek.an 0 f76 0 wO HZ pn xz Qg
def aC5:fC aaw HZ pn xz:=ia (fy [.d (.slice fK),.d (.slice fK),.d ti,.d ti] λ_=>bS)
def aen:iX @ael wO HZ pn xz Qg amc:=ji
def aax(B u A j)(J:K2 R)(I:K3 R):ael (B,u,A,j) J I=aA (fj j A) (aA (dB j (((aa u):Nat):Int)) (aA (dB j (((aa B):Nat):Int)) (ao (Kj.call ((nth fK u (ae j)),(nth fK B (ae j)))) λK=>aA (!K) (I (xA ()).1 (xA ()).2) (J (wO (B,u,A,(bC .i64 j (1:Int)))))) aC) aC) (I (H0 ()).1 (H0 ()).2):=bS
def bfd(j u)(k:K1 R):aek.A (j,u) k=aA (pb (aa j:Int) (aa u:Int)) (k (aek.out aZ)) (ao (aaw (u,j,(aa j:Int),0)) λA=>aA A.isLeft (ao A.getLeft? λB=>k (aek.out aZ)) (ao A.getRight? λI=>k (aek.out bn))):=bS
def aIL:amc:=by
 refine aen (λ(b,a,m,i)=>aa a - i.toNat) ?_
 rintro⟨b,a,m,i⟩ ⟨⟨I,L⟩,B,rfl,k,M,rfl⟩;have I:aa a<=1000000000:=I;have B:aa a=aa b:=B;have M:k<=aa a:=M;by_cases h:k < aa a
 .have J:k < aa b:=aq;have n1:nth fK a k=a[k]:=bG (t:=fK) h;have n2:nth fK b k=b[k]:=bG (t:=fK) J;have K:(a.drop k=b.drop k)=(a[k]=b[k]/\a.drop (k+1)=b.drop (k+1)):=by rw[ak h,ak J,da]
  have step:∀ {R:Type} (u:AS->Option R) (A:Exit->AS->Option R),ael (b,a,(aa a:Int),(k:Int)) u A=if a[k]=b[k] then u (wO (b,a,(aa a:Int),((k+1:Nat):Int))) else A (xA ()).1 (xA ()).2:=by
   intro R u A;rw[aax,aN aq,aS aq aq,aS aq aq,ab,n1,n2,N.iY aq,aLU (d:=(a[k],b[k])) (L _ (aD h))];simp only[ai,ah,bt,aqB];by_cases j:a[k]=b[k]
   .rw[aK j,av j];rfl
   .rw[aV j,au j];rfl
  by_cases j:a[k]=b[k]
  .left;refine⟨(b,a,(aa a:Int),((k+1:Nat):Int)),⟨⟨I,L⟩,B,rfl,k+1,aq,rfl⟩,by simp only[ab];omega,?_,λu A=> ?_⟩
   .simp only[pn,xz,ab,K,j,gC]
   .rw[step,av j]
  .right;refine⟨xA (),?_,λu A=> ?_⟩
   .simp only[pn,xz,ab,K,j,oM,bq];rfl
   .rw[step,au j]
 .right;obtain rfl:k=aa a:=aq;refine⟨H0 (),?_,λu A=> ?_⟩
  .simp only[pn,xz,ab,ay];rw[B,ay,av rfl];rfl
  .rw[aax,aL aq,al]
def bfe:aek.Ok:=by
 rintro⟨a,b⟩ u;have A:aa a<=1000000000:=u.1;rw[bfd];simp only[bt,aIK];by_cases h:aa a=aa b
 .rw[bU aq,al,aC5 (d:=(b,a,(aa a:Int),0)) ⟨u,h,rfl,0,az _,rfl⟩];simp only[ah,pn,xz,aW,aH];by_cases j:a=b
  .rw[av j,aK j];rfl
  .rw[au j,aV j];rfl
 .rw[dj aq,aV (λx=>h (by rw[x]))];rfl
def aYe:aek.RS:=rE [.d (.slice fK),.d (.slice fK)] aek
def bff:=aek.eQ bfe 1 ⟨.eg aIL,trivial⟩
abbrev Gv:=(List dW)×(List dW)×Int×Int
def aN7(j):=(.fn j (.cons (dK) (.nil)):aF)
def sY:Gv->AS:=λ(B,j,u,A)=>⟨([bB,qX B,aN7 74]++aP 12 ([qX j,aU u,aU A]++aP 14 [])),dp (K7 72),(ag 32 [])⟩
def uk:Unit->Exit×AS:=λx=>(.ret,⟨(aP 6 ([me]++aP 25 [])),dp (K7 72),(ag 32 [])⟩)
def EJ:Unit->Exit×AS:=λx=>(.exit 0,⟨(aP 32 []),dp (K7 72),(ag 32 [])⟩)
abbrev Ya:=(Unit)⊕(Unit)
abbrev anE:=(Unit)⊕(Unit)
def MY:Ya->Out (Exit×AS):=λx=> .br x.isLeft (.get x.getLeft? λa=> .ok (uk a)) (.get x.getRight? λb=> .ok (EJ b))
def nB:Gv->anE->Ya:=λ(B,j,u,A) y=>match y with | .inl y=> .inl y | .inr z=> .inr (z)
abbrev aNR:=(List dW)×(List dW)
def EI:Gv->Prop:=λ(b,a,m,i)=>(aa a<=1000000000/\∀x∈a,aa x.2.1.1<=1000000000/\∀b∈x.2.1.1,aa b.1<=1000000000)/\aa a=aa b/\m=aa a/\∃k:Nat,k<=aa a/\i=k
def sX:Gv->anE:=λ(b,a,m,i)=>if a.drop i.toNat=b.drop i.toNat then .inr () else .inl ()
def aRJ:aNR->Prop:=λ(a,b)=>aa a<=1000000000/\∀x∈a,aa x.2.1.1<=1000000000/\∀b∈x.2.1.1,aa b.1<=1000000000
def ayI:aNR->Bool:=λ(a,b)=>decide (a=b)
def anD:=cQ.eg sY EI nB sX MY
def Vo:Gv->Option Ya:=eN anD sY
def KY:Fs prog aRJ bt ayI:=eP 77 f77 (λ(j,u)=>([.d (.slice dI) j,.d (.slice dI) u,.fn 74 (.cons (.ptr (.dx 0) 0 [] 0) (.nil))],[.obj 0 aZ (.fn 72 (.nil))])) (λx=>⟨.d .bool x,[.obj 0 aZ (.fn 72 (.nil))],[]⟩) [aw (.slice dI),aw (.slice dI),aC] [aT2] {loops:=ko [(4,{aX:=[1,2,15,16,17]})],outs:=km [(4,{},{aX:=[6]})],eT:=jW [(4,anD)]}
def X9:= @dm prog (gU KY.G) KY.an 0 f77 0 _ sY
abbrev ahu:=gr prog (gU KY.G) KY.an 0 f77 0 sY EI nB sX MY
def ayJ:fC Vo EI nB sX:=ia (fy [.d (.slice dI),.d (.slice dI),.d ti,.d ti] λ_=>bS)
def aaW:iX @X9 sY EI nB sX MY ahu:=ji
def Vp(B u A j)(J:K2 R)(I:K3 R):X9 (B,u,A,j) J I=aA (fj j A) (aA (dB j (((aa u):Nat):Int)) (aA (dB j (((aa B):Nat):Int)) (ao (SN.call ((nth dI u (ae j)),(nth dI B (ae j)))) λK=>aA (!K) (I (uk ()).1 (uk ()).2) (J (sY (B,u,A,(bC .i64 j (1:Int)))))) aC) aC) (I (EJ ()).1 (EJ ()).2):=bS
def aZs(j u)(k:K1 R):KY.A (j,u) k=aA (pb (aa j:Int) (aa u:Int)) (k (KY.out aZ)) (ao (Vo (u,j,(aa j:Int),0)) λA=>aA A.isLeft (ao A.getLeft? λB=>k (KY.out aZ)) (ao A.getRight? λI=>k (KY.out bn))):=bS
def aDU:ahu:=by
 refine aaW (λ(b,a,m,i)=>aa a - i.toNat) ?_
 rintro⟨b,a,m,i⟩ ⟨⟨I,L⟩,B,rfl,k,M,rfl⟩;have I:aa a<=1000000000:=I;have B:aa a=aa b:=B;have M:k<=aa a:=M;by_cases h:k < aa a
 .have J:k < aa b:=aq;have n1:nth dI a k=a[k]:=bG (t:=dI) h;have n2:nth dI b k=b[k]:=bG (t:=dI) J;have K:(a.drop k=b.drop k)=(a[k]=b[k]/\a.drop (k+1)=b.drop (k+1)):=by rw[ak h,ak J,da]
  have step:∀ {R:Type} (u:AS->Option R) (A:Exit->AS->Option R),X9 (b,a,(aa a:Int),(k:Int)) u A=if a[k]=b[k] then u (sY (b,a,(aa a:Int),((k+1:Nat):Int))) else A (uk ()).1 (uk ()).2:=by
   intro R u A;rw[Vp,aN aq,aS aq aq,aS aq aq,ab,n1,n2,N.iY aq,aLY (d:=(a[k],b[k])) (L _ (aD h))];simp only[ai,ah,bt,aqD];by_cases j:a[k]=b[k]
   .rw[aK j,av j];rfl
   .rw[aV j,au j];rfl
  by_cases j:a[k]=b[k]
  .left;refine⟨(b,a,(aa a:Int),((k+1:Nat):Int)),⟨⟨I,L⟩,B,rfl,k+1,aq,rfl⟩,by simp only[ab];omega,?_,λu A=> ?_⟩
   .simp only[nB,sX,ab,K,j,gC]
   .rw[step,av j]
  .right;refine⟨uk (),?_,λu A=> ?_⟩
   .simp only[nB,sX,ab,K,j,oM,bq];rfl
   .rw[step,au j]
 .right;obtain rfl:k=aa a:=aq;refine⟨EJ (),?_,λu A=> ?_⟩
  .simp only[nB,sX,ab,ay];rw[B,ay,av rfl];rfl
  .rw[Vp,aL aq,al]
def aZt:KY.Ok:=by
 rintro⟨a,b⟩ u;have A:aa a<=1000000000:=u.1;rw[aZs];simp only[bt,ayI];by_cases h:aa a=aa b
 .rw[bU aq,al,ayJ (d:=(b,a,(aa a:Int),0)) ⟨u,h,rfl,0,az _,rfl⟩];simp only[ah,nB,sX,aW,aH];by_cases j:a=b
  .rw[av j,aK j];rfl
  .rw[au j,aV j];rfl
 .rw[dj aq,aV (λx=>h (by rw[x]))];rfl
def aRK:KY.RS:=rE [.d (.slice dI),.d (.slice dI)] KY
def aZu:=KY.eQ aZt 1 ⟨.eg aDU,trivial⟩
def aT3:(di×di)->Prop:=λ(a,b)=>FL a
def aOF:(di×di)->Bool:=λ(a,b)=>decide (a=b)
def Wj:Fs prog aT3 bt aOF:=eP 30 f30 (λ(a,b)=>([rQ a,rQ b],[])) (λx=>⟨fA x,[],[]⟩) [aw eU,aw eU] [bff,aZu]
def bb1(a b)(k:K1 R):Wj.A (a,b) k=aA (oC a.2.2.1 b.2.2.1) (ao (aek.call (a.1,b.1)) λj=>aA (j) (ao (KY.call (a.2.1,b.2.1)) λu=>k (Wj.out u)) (k (Wj.out aZ))) (k (Wj.out aZ)):=bS
def bb2:Wj.Ok:=by
 rintro⟨⟨A,o1,n1,K⟩,⟨I,J,n2,L⟩⟩ h;have h:FL (A,o1,n1,K):=h;rw[bb1,aYe (d:=(A,I)) h.1,aRK (d:=(o1,J)) h.2];simp only[ah,bt,aIK,bt,ayI,bt,aOF];by_cases j:n1=n2
 .by_cases u:A=I
  .by_cases B:o1=J
   .rw[dC j,aK u,aK B,aK (by rw[j,u,B])];rfl
   .rw[dC j,aK u,aV B,aV (by rintro⟨⟩;exact B rfl)];rfl
  .rw[dC j,aV u,aV (p:=(A,o1,n1,K)=(I,J,n2,L)) (by rintro⟨⟩;exact u rfl)];rfl
 .rw[eZ j,aV (p:=(A,o1,n1,K)=(I,J,n2,L)) (by rintro⟨⟩;exact j rfl)];rfl
def aT4:Wj.RS:=rE [.d eU,.d eU] Wj
def bb3:=Wj.eQ bb2
def E9(x:gb):Bool:=decide (aa x.2.1.2.1<=14)
def E8(b:kF):Bool:=decide (aa b.1<=14)
def zU(o:dW):Bool:=decide (aa o.2.1.1<=6) && o.2.1.1.all E8
def azX(t:di):Bool:=decide (aa t.1<=66/\aa t.2.1<=66) && (t.1.all E9 && t.2.1.all zU)
abbrev vy:=di×Int
def mj:vy->AS:=λ(j,i)=>⟨([bB,iL j,bB,aU i]++aP 69 []),[],(ag 73 [])⟩
def mN:Unit->Exit×AS:=λx=>(.ret,⟨([bB,bB,me]++aP 70 []),[],(ag 73 [])⟩)
def we:di->Exit×AS:=λx=>(.exit 0,⟨([bB,iL x]++aP 71 []),[],(ag 73 [])⟩)
abbrev JR:=(Unit)⊕(di)
abbrev VI:=(Unit)⊕(Unit)
def Dd:JR->Out (Exit×AS):=λx=> .br x.isLeft (.get x.getLeft? λa=> .ok (mN a)) (.get x.getRight? λb=> .ok (we b))
def mM:vy->VI->JR:=λ(j,i) y=>match y with | .inl y=> .inl y | .inr z=> .inr (j)
abbrev vz:=di×Int
def mm:vz->AS:=λ(u,j)=>⟨([bB,iL u,bB,bB,aU j]++aP 68 []),[],(ag 73 [])⟩
def jt:Unit->Exit×AS:=λx=>(.ret,⟨([bB,bB,me]++aP 70 []),[],(ag 73 [])⟩)
def wi:Unit->Exit×AS:=λx=>(.exit 2,⟨(aP 73 []),[],(ag 73 [])⟩)
abbrev JT:=(Unit)⊕(Unit)
abbrev VK:=(Unit)⊕(Unit)
def De:JT->Out (Exit×AS):=λx=> .br x.isLeft (.get x.getLeft? λa=> .ok (jt a)) (.get x.getRight? λb=> .ok (wi b))
def js:vz->VK->JT:=λ(u,j) y=>match y with | .inl y=> .inl y | .inr z=> .inr (z)
abbrev vA:=di×Int×Int
def mn:vA->AS:=λ(u,j,A)=>⟨([bB,iL u,bB,bB,aU j,aU A]++aP 67 []),[],(ag 73 [])⟩
def mP:Unit->Exit×AS:=λx=>(.ret,⟨([bB,bB,me]++aP 70 []),[],(ag 73 [])⟩)
def wk:(di×Int)->Exit×AS:=λx=>(.exit 4,⟨([bB,iL x.1,bB,bB,aU x.2]++aP 68 []),[],(ag 73 [])⟩)
abbrev JV:=(Unit)⊕((di×Int))
abbrev VM:=(Unit)⊕(Unit)
def Df:JV->Out (Exit×AS):=λx=> .br x.isLeft (.get x.getLeft? λa=> .ok (mP a)) (.get x.getRight? λb=> .ok (wk b))
def mO:vA->VM->JV:=λ(u,j,A) y=>match y with | .inl y=> .inl y | .inr z=> .inr ((u,j))
def wc:vy->Prop:=λ(t,i)=>aa t.1<=1000000000/\∃k:Nat,k<=aa t.1/\i=k
def lu:vy->VI:=λ(t,i)=>if(bj (ae i) t.1).all E9 then .inr () else .inl ()
def wj:vA->Prop:=λ(t,j,i)=>(nth dI t.2.1 (ae j)).2.1.1.length<=1000000000/\∃k:Nat,k<=(nth dI t.2.1 (ae j)).2.1.1.length/\i=k/\(0<=j/\j < (aa t.2.1:Int))
def lz:vA->VM:=λ(t,j,i)=>if(bj (ae i) (nth dI t.2.1 (ae j)).2.1.1).all E8 then .inr () else .inl ()
def wh:vz->Prop:=λ(t,i)=>aa t.2.1<=1000000000/\∃k:Nat,k<=aa t.2.1/\i=k
def lv:vz->VK:=λ(t,i)=>if(bj (ae i) t.2.1).all zU then .inr () else .inl ()
def ay1:di->Prop:=λ_=>True
def Ym:di->Bool:=λt=>azX t
def VH:=cQ.eg mj wc mM lu Dd
def Ln:vy->Option JR:=eN VH mj
def VJ:=cQ.eg mm wh js lv De
def Lp:vz->Option JT:=eN VJ mm
def VL:=cQ.eg mn wj mO lz Df
def Lr:vA->Option JV:=eN VL mn
def gV:Fs prog ay1 bt Ym:=eP 34 f34 (λt=>([.d eU t],[])) (λx=>⟨.d .bool x,[],[]⟩) [aw eU] [] {loops:=ko [(4,{aX:=[1,3]}),(9,{aX:=[1,4]}),(14,{aX:=[1,4,5]})],outs:=km [(4,{aX:=[1]},{aX:=[2]}),(9,{},{aX:=[2]}),(14,{aX:=[1,4]},{aX:=[2]})],eT:=jW [(4,VH),(9,VJ),(14,VL)]}
def JQ:= @dm prog (gU gV.G) gV.an 0 f34 0 _ mj
abbrev Q7:=gr prog (gU gV.G) gV.an 0 f34 0 mj wc mM lu Dd
def JS:= @dm prog (gU gV.G) gV.an 0 f34 1 _ mm
abbrev Q9:=gr prog (gU gV.G) gV.an 0 f34 1 mm wh js lv De
def JU:= @dm prog (gU gV.G) gV.an 0 f34 2 _ mn
abbrev Rb:=gr prog (gU gV.G) gV.an 0 f34 2 mn wj mO lz Df
def ajn:fC Ln wc mM lu:=ia (fy [.d eU,.d ti] λ_=>bS)
def Q8:iX @JQ mj wc mM lu Dd Q7:=ji
theorem Lo(j i)(A:K2 R)(u:K3 R):JQ (j,i) A u=aA (fj i (((aa j.1):Nat):Int)) (aA (dB i (((aa j.1):Nat):Int)) (aA (qi (((aa (nth fK j.1 (ae i)).2.1.2.1):Nat):Int) (14:Int)) (u (mN ()).1 (mN ()).2) (A (mj (j,(bC .i64 i (1:Int)))))) aC) (u (we j).1 (we j).2):=bS
def ajo:fC Lp wh js lv:=ia (fy [.d eU,.d ti] λ_=>bS)
def Ra:iX @JS mm wh js lv De Q9:=ji
def Lq(u j)(J:K2 R)(A:K3 R):JS (u,j) J A=aA (fj j (((aa u.2.1):Nat):Int)) (aA (dB j (((aa u.2.1):Nat):Int)) (aA (qi (((aa (nth dI u.2.1 (ae j)).2.1.1):Nat):Int) (6:Int)) (A (jt ()).1 (jt ()).2) (ao (Lr (u,j,(0:Int))) λB=>aA B.isLeft (ao B.getLeft? λK=>A (jt ()).1 (jt ()).2) (ao B.getRight? λI=>J (mm (I.1,(bC .i64 I.2 (1:Int))))))) aC) (A (wi ()).1 (wi ()).2):=bS
def ajp:fC Lr wj mO lz:=ia (fy [.d eU,.d ti,.d ti] λ_=>bS)
def Rc:iX @JU mn wj mO lz Df Rb:=ji
theorem Lt(u j A)(I:K2 R)(B:K3 R):JU (u,j,A) I B=aA (dB j (((aa u.2.1):Nat):Int)) (aA (fj A (((aa (nth dI u.2.1 (ae j)).2.1.1):Nat):Int)) (aA (dB j (((aa u.2.1):Nat):Int)) (aA (dB A (((aa (nth dI u.2.1 (ae j)).2.1.1):Nat):Int)) (aA (qi (((aa (nth iq (nth dI u.2.1 (ae j)).2.1.1 (ae A)).1):Nat):Int) (14:Int)) (B (mP ()).1 (mP ()).2) (I (mn (u,j,(bC .i64 A (1:Int)))))) aC) aC) (B (wk (u,j)).1 (wk (u,j)).2)) aC:=bS
def aEu(t)(k:K1 R):gV.A t k=aA (qi (aa t.1:Int) 66) (k (gV.out aZ)) (aA (qi (aa t.2.1:Int) 66) (k (gV.out aZ)) (ao (Ln (t,0)) λj=>aA j.isLeft (ao j.getLeft? λB=>k (gV.out aZ)) (ao j.getRight? λA=>ao (Lp (A,0)) λu=>aA u.isLeft (ao u.getLeft? λI=>k (gV.out aZ)) (ao u.getRight? λJ=>k (gV.out bn))))):=bS
def aoi:Q7:=by
 refine Q8 (λ(t,i)=>aa t.1 - ae i) ?_
 rintro⟨t,i⟩ ⟨A,k,J,rfl⟩;by_cases h:k < aa t.1
 .have n1:=bG (t:=fK) h;have B:(bj k t.1).all E9=(E9 t.1[k] && (bj (k+1) t.1).all E9):=by grind [ak]
  have step:∀ {R:Type} (j:AS->Option R) (u:Exit->AS->Option R),JQ (t,(k:Int)) j u=aA (E9 t.1[k]) (j (mj (t,((k+1:Nat):Int)))) (u (mN ()).1 (mN ()).2):=by intro R j u;rw[Lo,aN aq,aS (show(0:Int)<=(k:Int) by omega) aq,ab];rw[N.iY aq];grind [E9,ct,cW,aA]
  cases I:E9 t.1[k]
  .right;refine⟨mN (),?_,λj u=> ?_⟩
   .simp[lu,ab,B,I,bq];rfl
   grind [aA]
  .left;refine⟨(t,((k+1:Nat):Int)),⟨A,k+1,aq,rfl⟩,by grind,?_,λj u=> ?_⟩
   all_goals grind [mM,lu,aA]
 .right;obtain rfl:k=aa t.1:=aq;refine⟨we t,?_,λj u=> ?_⟩
  .simp[lu,ab,ay];rfl
  grind [Lo,aL,aA]
def aok:Rb:=by
 refine Rc (λ(t,j,i)=>(nth dI t.2.1 (ae j)).2.1.1.length - ae i) ?_
 rintro⟨t,j,i⟩ ⟨B,k,L,rfl,I⟩;by_cases h:k < (nth dI t.2.1 (ae j)).2.1.1.length
 .have n1:=bG (t:=iq) h;have J:(bj k (nth dI t.2.1 (ae j)).2.1.1).all E8=(E8 (nth dI t.2.1 (ae j)).2.1.1[k] && (bj (k+1) (nth dI t.2.1 (ae j)).2.1.1).all E8):=by grind [ak]
  have step:∀ {R:Type} (u:AS->Option R) (A:Exit->AS->Option R),JU (t,j,(k:Int)) u A=aA (E8 (nth dI t.2.1 (ae j)).2.1.1[k]) (u (mn (t,j,((k+1:Nat):Int)))) (A (mP ()).1 (mP ()).2):=by intro R u A;rw[Lt,aS I.1 I.2,aN aq,aS (show(0:Int)<=(k:Int) by omega) aq,ab];rw[N.iY aq];grind [E8,ct,cW,aA]
  cases K:E8 (nth dI t.2.1 (ae j)).2.1.1[k]
  .right;refine⟨mP (),?_,λu A=> ?_⟩
   .simp[lz,ab,J,K,bq];rfl
   grind [aA]
  .left;refine⟨(t,j,((k+1:Nat):Int)),⟨B,k+1,aq,rfl,I⟩,by grind,?_,λu A=> ?_⟩
   all_goals grind [mO,lz,aA]
 .right;obtain rfl:k=(nth dI t.2.1 (ae j)).2.1.1.length:=aq;refine⟨wk (t,j),?_,λu A=> ?_⟩
  .simp[lz,ab,ay];rfl
  grind [Lt,aS,aL,aA]
def aoj:Q9:=by
 refine Ra (λ(t,i)=>aa t.2.1 - ae i) ?_
 rintro⟨t,i⟩ ⟨j,k,J,rfl⟩;have j:aa t.2.1<=1000000000:=j;have J:k<=aa t.2.1:=J;by_cases h:k < aa t.2.1
 .have n1:nth dI t.2.1 k=t.2.1[k]:=bG (t:=dI) h;have I:(bj k t.2.1).all zU=(zU t.2.1[k] && (bj (k+1) t.2.1).all zU):=by rw[ak h,gX]
  have step:∀ {R:Type} (u:AS->Option R) (A:Exit->AS->Option R),JS (t,(k:Int)) u A=aA (zU t.2.1[k]) (u (mm (t,((k+1:Nat):Int)))) (A (jt ()).1 (jt ()).2):=by
   intro R u A;rw[Lq,aN aq,aS (show(0:Int)<=(k:Int) by omega) aq,ab,n1];simp only[ai];unfold zU;by_cases K:t.2.1[k].2.1.1.length<=6
   .rw[ct aq,aK K,al,ajp (d:=(t,(k:Int),0)) ⟨by rw[ab,n1];show t.2.1[k].2.1.1.length<=_;omega,0,az _,rfl,by show(0:Int)<=(k:Int);omega,by show(k:Int) < (aa t.2.1:Int);omega⟩];simp only[ah,mO,lz,ab,n1,aW,aH,bH];cases t.2.1[k].2.1.1.all E8
    .rfl
    .simp only[bQ,dh,cJ,al,ah,ai];rw[N.iY aq]
   .rw[cW aq,aV K];rfl
  cases B:zU t.2.1[k]
  .right;refine⟨jt (),?_,λu A=> ?_⟩
   .simp only[js,lv,ab,I,B,cU,bu,bq];rfl
   .rw[step,B,al]
  .left;refine⟨(t,((k+1:Nat):Int)),⟨j,k+1,aq,rfl⟩,by simp only[ab];omega,?_,λu A=> ?_⟩
   .simp only[js,lv,ab,I,B,bH]
   .rw[step,B,ai]
 .right;obtain rfl:k=aa t.2.1:=aq;refine⟨wi (),?_,λu A=> ?_⟩
  .simp only[js,lv,ab,ay];rfl
  .rw[Lq,aL aq,al]
def aEv:gV.Ok:=by
 intro t _;rw[aEu];simp only[bt,Ym,azX];by_cases j:aa t.1<=66
 .by_cases u:aa t.2.1<=66
  .rw[ct aq,ct aq,al,al,aK ⟨j,u⟩,ajn (d:=(t,0)) ⟨by show aa t.1<=_;omega,0,az _,rfl⟩];simp only[ah,mM,lu,aW,aH,bH];cases t.1.all E9
   .rfl
   .simp only[bQ,dh,cJ,al,ah,bH];rw[ajo (d:=(t,0)) ⟨by show aa t.2.1<=_;omega,0,az _,rfl⟩];simp only[ah,js,lv,aW,aH];cases t.2.1.all zU <;> rfl
  .rw[ct aq,cW aq,aV (λx=>u x.2)];rfl
 .rw[cW aq,aV (λx=>j x.1)];rfl
def ay2:gV.RS:=rE [.d eU] gV
def aEw:=gV.eQ aEv 3 ⟨.eg aoi,⟨.eg aoj,⟨.eg aok,trivial⟩⟩⟩
abbrev CC:=Ua×Ua×Int
def qu:CC->AS:=λ(u,j,i)=>⟨([bB,bB,.iU adr u,.iU adr j,bB,aU i]++aP 39 []),[],(ag 45 [])⟩
def ri:Unit->Exit×AS:=λx=>(.ret,⟨(aP 4 ([me]++aP 40 [])),[],(ag 45 [])⟩)
def BC:Unit->Exit×AS:=λx=>(.exit 0,⟨(aP 45 []),[],(ag 45 [])⟩)
abbrev Rg:=(Unit)⊕(Unit)
abbrev ahH:=(Unit)⊕(Unit)
def JW:Rg->Out (Exit×AS):=λx=> .br x.isLeft (.get x.getLeft? λa=> .ok (ri a)) (.get x.getRight? λb=> .ok (BC b))
def lA:CC->ahH->Rg:=λ(u,j,i) y=>match y with | .inl y=> .inl y | .inr z=> .inr (z)
def BB:CC->Prop:=λ(a,b,i)=>aa a.2.1<=1000000000/\aa a.2.1=aa b.2.1/\∃k:Nat,k<=aa a.2.1/\i=k
def pv:CC->ahH:=λ(a,b,i)=>if bj (ae i) a.2.1=bj (ae i) b.2.1 then .inr () else .inl ()
def aJP:(Ua×Ua)->Prop:=λ(a,b)=>aa a.2.1<=1000000000
def aol:(Ua×Ua)->Bool:=λ(a,b)=>decide (a=b)
def ahG:=cQ.eg qu BB lA pv JW
def Rh:CC->Option Rg:=eN ahG qu
def xc:Fs prog aJP bt aol:=eP 52 f52 (λ(a,b)=>([.d adr a,.d adr b],[])) (λx=>⟨.d .bool x,[],[]⟩) [aw adr,aw adr] [] {loops:=ko [(4,{aX:=[2,3,5]})],outs:=km [(4,{},{aX:=[4]})],eT:=jW [(4,ahG)]}
def Rf:= @dm prog (gU xc.G) xc.an 0 f52 0 _ qu
abbrev abr:=gr prog (gU xc.G) xc.an 0 f52 0 qu BB lA pv JW
def ase:fC Rh BB lA pv:=ia (fy [.d adr,.d adr,.d ti] λ_=>bS)
def Yn:iX @Rf qu BB lA pv JW abr:=ji
def Ri(j u i)(B:K2 R)(A:K3 R):Rf (j,u,i) B A=aA (fj i (((aa j.2.1):Nat):Int)) (aA (dB i (((aa j.2.1):Nat):Int)) (aA (dB i (((aa u.2.1):Nat):Int)) (aA (!(Ty.beq yk (nth yk j.2.1 (ae i)) (nth yk u.2.1 (ae i)))) (A (ri ()).1 (ri ()).2) (B (qu (j,u,(bC .i64 i (1:Int)))))) aC) aC) (A (BC ()).1 (BC ()).2):=bS
def aR9(a b)(k:K1 R):xc.A (a,b) k=aA (pb a.1 b.1) (k (xc.out aZ)) (aA (pb a.2.2.1 b.2.2.1) (k (xc.out aZ)) (aA (pb (aa a.2.1:Int) (aa b.2.1:Int)) (k (xc.out aZ)) (ao (Rh (a,b,0)) λj=>aA j.isLeft (ao j.getLeft? λu=>k (xc.out aZ)) (ao j.getRight? λA=>k (xc.out bn))))):=bS
def ay6:abr:=by
 refine Yn (λ(a,b,i)=>aa a.2.1 - ae i) ?_
 rintro⟨a,b,i⟩ ⟨j,I,k,L,rfl⟩;have j:aa a.2.1<=1000000000:=j;have I:aa a.2.1=aa b.2.1:=I;have L:k<=aa a.2.1:=L;by_cases h:k < aa a.2.1
 .have J:k < aa b.2.1:=aq;have n1:nth yk a.2.1 k=a.2.1[k]:=bG (t:=yk) h;have n2:nth yk b.2.1 k=b.2.1[k]:=bG (t:=yk) J;have K:(bj k a.2.1=bj k b.2.1)=(a.2.1[k]=b.2.1[k]/\bj (k+1) a.2.1=bj (k+1) b.2.1):=by rw[ak h,ak J,da]
  have step:∀ {R:Type} (A:AS->Option R) (B:Exit->AS->Option R),Rf (a,b,(k:Int)) A B=if a.2.1[k]=b.2.1[k] then A (qu (a,b,((k+1:Nat):Int))) else B (ri ()).1 (ri ()).2:=by
   intro R A B;rw[Ri,aN aq,aS aq aq,aS aq aq,ab,n1,n2];simp only[ai];rw[aVE,N.iY aq];by_cases u:a.2.1[k]=b.2.1[k]
   .rw[aK u,av u];rfl
   .rw[aV u,au u];rfl
  by_cases u:a.2.1[k]=b.2.1[k]
  .left;refine⟨(a,b,((k+1:Nat):Int)),⟨j,I,k+1,aq,rfl⟩,by simp only[ab];omega,?_,λA B=> ?_⟩
   .simp only[lA,pv,ab,K,u,gC]
   .rw[step,av u]
  .right;refine⟨ri (),?_,λA B=> ?_⟩
   .simp only[lA,pv,ab,K,u,oM,bq];rfl
   .rw[step,au u]
 .right;obtain rfl:k=aa a.2.1:=aq;refine⟨BC (),?_,λA B=> ?_⟩
  .simp only[lA,pv,ab,ay];rw[I,ay,av rfl];rfl
  .rw[Ri,aL aq,al]
def aSa:xc.Ok:=by
 rintro⟨⟨J,B,L,T⟩,⟨K,I,M,u2⟩⟩ h;have h:aa B<=1000000000:=h;rw[aR9];simp only[bt,aol];by_cases j:J=K
 .by_cases u:L=M
  .by_cases O:aa B=aa I
   .rw[bU j,bU u,bU aq,ase (d:=((J,B,L,T),(K,I,M,u2),0)) ⟨h,O,0,az _,rfl⟩];simp only[ah,lA,pv,aW,aH,al];by_cases A:B=I
    .rw[av A,aK (by rw[j,u,A])];rfl
    .rw[au A,aV (by rintro⟨⟩;exact A rfl)];rfl
   .rw[bU j,bU u,dj aq,aV (by rintro⟨⟩;exact O rfl)];rfl
  .rw[bU j,dj u,aV (by rintro⟨⟩;exact u rfl)];rfl
 .rw[dj j,aV (by rintro⟨⟩;exact j rfl)];rfl
def aJQ:xc.RS:=rE [.d adr,.d adr] xc
def aSb:=xc.eQ aSa 1 ⟨.eg ay6,trivial⟩
abbrev zq:=Lk×Lk×Int
def oe:zq->AS:=λ(u,j,i)=>⟨([bB,bB,Oz u,Oz j,bB,aU i]++aP 73 []),[],(ag 79 [])⟩
def fB:Unit->Exit×AS:=λx=>(.ret,⟨(aP 4 ([me]++aP 74 [])),[],(ag 79 [])⟩)
def zs:Unit->Exit×AS:=λx=>(.exit 0,⟨(aP 79 []),[],(ag 79 [])⟩)
abbrev Na:=(Unit)⊕(Unit)
abbrev abk:=(Unit)⊕(Unit)
def GH:Na->Out (Exit×AS):=λx=> .br x.isLeft (.get x.getLeft? λa=> .ok (fB a)) (.get x.getRight? λb=> .ok (zs b))
def kf:zq->abk->Na:=λ(u,j,i) y=>match y with | .inl y=> .inl y | .inr z=> .inr (z)
abbrev zt:=Lk×Lk×Int×Int×kF×kF
def oh:zt->AS:=λ(j,u,A,B,n6,n7)=>⟨([bB,bB,Oz j,Oz u,bB,aU A,eI 6,eI 7,aU B]++aP 70 []),[],(bz 6 ([dp (.d iq n6),dp (.d iq n7)]++bz 71 []))⟩
def oS:Unit->Exit×AS:=λx=>(.ret,⟨(aP 4 ([me]++aP 74 [])),[],(ag 79 [])⟩)
def zw:(Lk×Lk×Int)->Exit×AS:=λ(a,b,c)=>(.exit 2,⟨([bB,bB,Oz a,Oz b,bB,aU c]++aP 73 []),[],(ag 79 [])⟩)
abbrev Nc:=(Unit)⊕((Lk×Lk×Int))
abbrev abm:=(Unit)⊕(Unit)
def GI:Nc->Out (Exit×AS):=λx=> .br x.isLeft (.get x.getLeft? λa=> .ok (oS a)) (.get x.getRight? λb=> .ok (zw b))
def kg:zt->abm->Nc:=λ(j,u,A,B,n6,n7) y=>match y with | .inl y=> .inl y | .inr z=> .inr ((j,u,A))
def zu:zt->Prop:=λ(a,b,j,i,x,y)=>aa x.1<=1000000000/\aa x.1=aa y.1/\∃k:Nat,k<=aa x.1/\i=k
def nK:zt->abm:=λ(a,b,j,i,x,y)=>if bj (ae i) x.1=bj (ae i) y.1 then .inr () else .inl ()
def zr:zq->Prop:=λ(a,b,i)=>aa a.1<=1000000000/\aa a.1=aa b.1/\(∀x∈a.1,aa x.1<=1000000000)/\∃k:Nat,k<=aa a.1/\i=k
def nJ:zq->abk:=λ(a,b,i)=>if bj (ae i) a.1=bj (ae i) b.1 then .inr () else .inl ()
def aEm:(Lk×Lk)->Prop:=λ(a,b)=>aa a.1<=1000000000/\∀x∈a.1,aa x.1<=1000000000
def aeN:(Lk×Lk)->Bool:=λ(a,b)=>decide (a.1=b.1)
def abj:=cQ.eg oe zr kf nJ GH
def OG:zq->Option Na:=eN abj oe
def abl:=cQ.eg oh zu kg nK GI
def OI:zt->Option Nc:=eN abl oh
def nI:Fs prog aEm bt aeN:=eP 53 f53 (λ(a,b)=>([.d O2 a,.d O2 b],[])) (λx=>⟨.d .bool x,[],[]⟩) [aw O2,aw O2] [] {loops:=ko [(4,{aX:=[2,3,5]}),(11,{aX:=[2,3,5,6,7,8],sites:=[6,7]})],outs:=km [(4,{},{aX:=[4]}),(11,{aX:=[2,3,5]},{aX:=[4]})],eT:=jW [(4,abj),(11,abl)]}
def M9:= @dm prog (gU nI.G) nI.an 0 f53 0 _ oe
abbrev Vw:=gr prog (gU nI.G) nI.an 0 f53 0 oe zr kf nJ GH
def Nb:= @dm prog (gU nI.G) nI.an 0 f53 1 _ oh
abbrev Vx:=gr prog (gU nI.G) nI.an 0 f53 1 oh zu kg nK GI
def an7:fC OG zr kf nJ:=ia (fy [.d O2,.d O2,.d ti] λ_=>bS)
def Uk:iX @M9 oe zr kf nJ GH Vw:=ji
def OH(j u i)(J:K2 R)(A:K3 R):M9 (j,u,i) J A=aA (fj i (((aa j.1):Nat):Int)) (aA (dB i (((aa j.1):Nat):Int)) (aA (dB i (((aa u.1):Nat):Int)) (aA (pb (nth iq j.1 (ae i)).2.1 (nth iq u.1 (ae i)).2.1) (A (fB ()).1 (fB ()).2) (aA (pb (nth iq j.1 (ae i)).2.2.1 (nth iq u.1 (ae i)).2.2.1) (A (fB ()).1 (fB ()).2) (aA (pb (nth iq j.1 (ae i)).2.2.2.1 (nth iq u.1 (ae i)).2.2.2.1) (A (fB ()).1 (fB ()).2) (aA (pb (((aa (nth iq j.1 (ae i)).1):Nat):Int) (((aa (nth iq u.1 (ae i)).1):Nat):Int)) (A (fB ()).1 (fB ()).2) (ao (OI (j,u,i,(0:Int),(nth iq j.1 (ae i)),(nth iq u.1 (ae i)))) λI=>aA I.isLeft (ao I.getLeft? λK=>A (fB ()).1 (fB ()).2) (ao I.getRight? λB=>J (oe (B.1,B.2.1,(bC .i64 B.2.2 (1:Int)))))))))) aC) aC) (A (zs ()).1 (zs ()).2):=bS
def an8:fC OI zu kg nK:=ia (fy [.d O2,.d O2,.d ti,.d ti,.d iq,.d iq] λ_=>bS)
def Ul:iX @Nb oh zu kg nK GI Vx:=ji
def OJ(j A B u n6 n7)(J:K2 R)(I:K3 R):Nb (j,A,B,u,n6,n7) J I=aA (fj u (((aa n6.1):Nat):Int)) (aA (dB u (((aa n6.1):Nat):Int)) (aA (dB u (((aa n7.1):Nat):Int)) (aA (pb (nth tu n6.1 (ae u)) (nth tu n7.1 (ae u))) (I (oS ()).1 (oS ()).2) (J (oh (j,A,B,(bC .i64 u (1:Int)),n6,n7)))) aC) aC) (I (zw (j,A,B)).1 (zw (j,A,B)).2):=bS
def aJK(a b)(k:K1 R):nI.A (a,b) k=aA (pb (aa a.1:Int) (aa b.1:Int)) (k (nI.out aZ)) (ao (OG (a,b,0)) λj=>aA j.isLeft (ao j.getLeft? λu=>k (nI.out aZ)) (ao j.getRight? λA=>k (nI.out bn))):=bS
def ar9:Vx:=by
 refine Ul (λ(a,b,j,i,x,y)=>aa x.1 - ae i) ?_
 rintro⟨a,b,j,i,x,y⟩ ⟨u,J,k,M,rfl⟩;have u:aa x.1<=1000000000:=u;have J:aa x.1=aa y.1:=J;have M:k<=aa x.1:=M;by_cases h:k < aa x.1
 .have K:k < aa y.1:=aq;have n1:nth tu x.1 k=x.1[k]:=bG (t:=tu) h;have n2:nth tu y.1 k=y.1[k]:=bG (t:=tu) K;have L:(bj k x.1=bj k y.1)=(x.1[k]=y.1[k]/\bj (k+1) x.1=bj (k+1) y.1):=by rw[ak h,ak K,da]
  have step:∀ {R:Type} (B:AS->Option R) (I:Exit->AS->Option R),Nb (a,b,j,(k:Int),x,y) B I=if x.1[k]=y.1[k] then B (oh (a,b,j,((k+1:Nat):Int),x,y)) else I (oS ()).1 (oS ()).2:=by
   intro R B I;rw[OJ,aN aq,aS aq aq,aS aq aq,ab,n1,n2];simp only[ai];rw[N.iY aq];by_cases A:x.1[k]=y.1[k]
   .rw[bU A,av A];rfl
   .rw[dj A,au A];rfl
  by_cases A:x.1[k]=y.1[k]
  .left;refine⟨(a,b,j,((k+1:Nat):Int),x,y),⟨u,J,k+1,aq,rfl⟩,by simp only[ab];omega,?_,λB I=> ?_⟩
   .simp only[kg,nK,ab,L,A,gC]
   .rw[step,av A]
  .right;refine⟨oS (),?_,λB I=> ?_⟩
   .simp only[kg,nK,ab,L,A,oM,bq];rfl
   .rw[step,au A]
 .right;obtain rfl:k=aa x.1:=aq;refine⟨zw (a,b,j),?_,λB I=> ?_⟩
  .simp only[kg,nK,ab,ay];rw[J,ay,av rfl];rfl
  .rw[OJ,aL aq,al]
def ar8:Vw:=by
 refine Uk (λ(a,b,i)=>aa a.1 - ae i) ?_
 rintro⟨a,b,i⟩ ⟨j,T,L,k,hk,rfl⟩;have j:aa a.1<=1000000000:=j;have T:aa a.1=aa b.1:=T;have hk:k<=aa a.1:=hk;have L:∀x∈a.1,aa x.1<=1000000000:=L;by_cases h:k < aa a.1
 .have h2:k < aa b.1:=aq;have n1:nth iq a.1 k=a.1[k]:=bG (t:=iq) h;have n2:nth iq b.1 k=b.1[k]:=bG (t:=iq) h2;have hd:(bj k a.1=bj k b.1)=(a.1[k]=b.1[k]/\bj (k+1) a.1=bj (k+1) b.1):=by rw[ak h,ak h2,da]
  have step:∀ {R:Type} (B:AS->Option R) (I:Exit->AS->Option R),M9 (a,b,(k:Int)) B I=if a.1[k]=b.1[k] then B (oe (a,b,((k+1:Nat):Int))) else I (fB ()).1 (fB ()).2:=by
   intro R B I;rw[OH,aN aq,aS aq aq,aS aq aq,ab,n1,n2];simp only[ai];have u:=L _ (aD h);obtain⟨⟨k1,a1,d1,s1,u1⟩,e1⟩:∃x,a.1[k]=x:=⟨_,rfl⟩;obtain⟨⟨k2,a2,d2,s2,u2⟩,e2⟩:∃x,b.1[k]=x:=⟨_,rfl⟩;rw[e1]at u ⊢;rw[e2];dsimp only;have u:aa k1<=1000000000:=u;by_cases A:a1=a2
   .by_cases J:d1=d2
    .by_cases K:s1=s2
     .by_cases q1:aa k1=aa k2
      .rw[bU A,bU J,bU K,bU aq,an8 (d:=(a,b,(k:Int),0,(k1,a1,d1,s1,u1),(k2,a2,d2,s2,u2))) ⟨u,q1,0,az _,rfl⟩];simp only[al,ah,kg,nK,aW,aH];by_cases O:k1=k2
       .rw[av O,av (by rw[O,A,J,K])];simp only[dh,cJ,al,ah];rw[N.iY aq]
       .rw[au O,au (by rintro⟨⟩;exact O rfl)];rfl
      .rw[bU A,bU J,bU K,dj aq,au (by rintro⟨⟩;exact q1 rfl)];rfl
     .rw[bU A,bU J,dj K,au (by rintro⟨⟩;exact K rfl)];rfl
    .rw[bU A,dj J,au (by rintro⟨⟩;exact J rfl)];rfl
   .rw[dj A,au (by rintro⟨⟩;exact A rfl)];rfl
  by_cases M:a.1[k]=b.1[k]
  .left;refine⟨(a,b,((k+1:Nat):Int)),⟨j,T,L,k+1,aq,rfl⟩,by simp only[ab];omega,?_,λB I=> ?_⟩
   .simp only[kf,nJ,ab,hd,M,gC]
   .rw[step,av M]
  .right;refine⟨fB (),?_,λB I=> ?_⟩
   .simp only[kf,nJ,ab,hd,M,oM,bq];rfl
   .rw[step,au M]
 .right;obtain rfl:k=aa a.1:=aq;refine⟨zs (),?_,λB I=> ?_⟩
  .simp only[kf,nJ,ab,ay];rw[T,ay,av rfl];rfl
  .rw[OH,aL aq,al]
def aJL:nI.Ok:=by
 rintro⟨a,b⟩ ⟨h,u⟩;rw[aJK];simp[aeN];by_cases j:aa a.1=aa b.1
 .rw[bU aq,an7 (d:=(a,b,0)) ⟨h,j,u,0,az _,rfl⟩];simp[kf,nJ];by_cases A:a.1=b.1
  all_goals simp_all
 .rw[dj aq,aV (λx=>j (by rw[x]))];rfl
def aEn:nI.RS:=rE [.d O2,.d O2] nI
def aJM:=nI.eQ aJL 2 ⟨.eg ar8,⟨.eg ar9,trivial⟩⟩
abbrev zx:=di×di×Int
def om:zx->AS:=λ(u,j,i)=>⟨([bB,bB,iL u,iL j,bB,aU i]++aP 96 []),[],(ag 102 [])⟩
def ki:Unit->Exit×AS:=λx=>(.ret,⟨(aP 4 ([me]++aP 97 [])),[],(ag 102 [])⟩)
def zz:(di×di)->Exit×AS:=λx=>(.exit 0,⟨([bB,bB,iL x.1,iL x.2]++aP 98 []),[],(ag 102 [])⟩)
abbrev Ng:=(Unit)⊕((di×di))
abbrev abo:=(Unit)⊕(Unit)
def GK:Ng->Out (Exit×AS):=λx=> .br x.isLeft (.get x.getLeft? λa=> .ok (ki a)) (.get x.getRight? λb=> .ok (zz b))
def kh:zx->abo->Ng:=λ(u,j,i) y=>match y with | .inl y=> .inl y | .inr z=> .inr ((u,j))
abbrev zA:=di×di×Int
def oo:zA->AS:=λ(j,u,A)=>⟨([bB,bB,iL j,iL u,bB,bB,aU A]++aP 95 []),[],(ag 102 [])⟩
def kk:Unit->Exit×AS:=λx=>(.ret,⟨(aP 4 ([me]++aP 97 [])),[],(ag 102 [])⟩)
def zC:Unit->Exit×AS:=λx=>(.exit 2,⟨(aP 102 []),[],(ag 102 [])⟩)
abbrev Ni:=(Unit)⊕(Unit)
abbrev abq:=(Unit)⊕(Unit)
def GL:Ni->Out (Exit×AS):=λx=> .br x.isLeft (.get x.getLeft? λa=> .ok (kk a)) (.get x.getRight? λb=> .ok (zC b))
def kj:zA->abq->Ni:=λ(j,u,A) y=>match y with | .inl y=> .inl y | .inr z=> .inr (z)
def zy:zx->Prop:=λ(a,b,i)=>aa a.1<=1000000000/\aa a.1=aa b.1/\(∀x∈a.1,aa x.2.1.2.1<=1000000000)/\∃k:Nat,k<=aa a.1/\i=k
def nN:zx->abo:=λ(a,b,i)=>if bj (ae i) a.1=bj (ae i) b.1 then .inr () else .inl ()
def zB:zA->Prop:=λ(a,b,i)=>aa a.2.1<=1000000000/\aa a.2.1=aa b.2.1/\(∀x∈a.2.1,aa x.2.1.1<=1000000000/\∀b∈x.2.1.1,aa b.1<=1000000000)/\∃k:Nat,k<=aa a.2.1/\i=k
def nO:zA->abq:=λ(a,b,i)=>if bj (ae i) a.2.1=bj (ae i) b.2.1 then .inr () else .inl ()
def aEt:(di×di)->Prop:=λ(a,b)=>FL a
def TR:(di×di)->Bool:=λ(a,b)=>decide (a=b)
def abn:=cQ.eg om zy kh nN GK
def OK:zx->Option Ng:=eN abn om
def abp:=cQ.eg oo zB kj nO GL
def OM:zA->Option Ni:=eN abp oo
def jy:Fs prog aEt bt TR:=eP 19 f19 (λ(a,b)=>([.d eU a,.d eU b],[])) (λx=>⟨.d .bool x,[],[]⟩) [aw eU,aw eU] [aSb,aJM] {loops:=ko [(4,{aX:=[2,3,5]}),(9,{aX:=[2,3,6]})],outs:=km [(4,{aX:=[2,3]},{aX:=[4]}),(9,{},{aX:=[4]})],eT:=jW [(4,abn),(9,abp)]}
def Nf:= @dm prog (gU jy.G) jy.an 0 f19 0 _ om
abbrev VF:=gr prog (gU jy.G) jy.an 0 f19 0 om zy kh nN GK
def Nh:= @dm prog (gU jy.G) jy.an 0 f19 1 _ oo
abbrev VG:=gr prog (gU jy.G) jy.an 0 f19 1 oo zB kj nO GL
def aof:fC OK zy kh nN:=ia (fy [.d eU,.d eU,.d ti] λ_=>bS)
def Um:iX @Nf om zy kh nN GK VF:=ji
def OL(j u i)(B:K2 R)(A:K3 R):Nf (j,u,i) B A=aA (fj i (((aa j.1):Nat):Int)) (aA (dB i (((aa j.1):Nat):Int)) (aA (dB i (((aa u.1):Nat):Int)) (aA (!(Ty.beq bK (nth fK j.1 (ae i)).1 (nth fK u.1 (ae i)).1)) (A (ki ()).1 (ki ()).2) (aA (dB i (((aa j.1):Nat):Int)) (aA (dB i (((aa u.1):Nat):Int)) (ao (xc.call ((nth fK j.1 (ae i)).2.1,(nth fK u.1 (ae i)).2.1)) λI=>aA (!I) (A (ki ()).1 (ki ()).2) (B (om (j,u,(bC .i64 i (1:Int)))))) aC) aC)) aC) aC) (A (zz (j,u)).1 (zz (j,u)).2):=bS
def aog:fC OM zB kj nO:=ia (fy [.d eU,.d eU,.d ti] λ_=>bS)
def Un:iX @Nh oo zB kj nO GL VG:=ji
def ON(j A u)(I:K2 R)(B:K3 R):Nh (j,A,u) I B=aA (fj u (((aa j.2.1):Nat):Int)) (aA (dB u (((aa j.2.1):Nat):Int)) (aA (dB u (((aa A.2.1):Nat):Int)) (aA (pb (nth dI j.2.1 (ae u)).1 (nth dI A.2.1 (ae u)).1) (B (kk ()).1 (kk ()).2) (aA (dB u (((aa j.2.1):Nat):Int)) (aA (dB u (((aa A.2.1):Nat):Int)) (ao (nI.call ((nth dI j.2.1 (ae u)).2.1,(nth dI A.2.1 (ae u)).2.1)) λJ=>aA (!J) (B (kk ()).1 (kk ()).2) (I (oo (j,A,(bC .i64 u (1:Int)))))) aC) aC)) aC) aC) (B (zC ()).1 (zC ()).2):=bS
def aJN(a b)(k:K1 R):jy.A (a,b) k=aA (pb a.2.2.1 b.2.2.1) (k (jy.out aZ)) (aA (pb (aa a.1:Int) (aa b.1:Int)) (k (jy.out aZ)) (aA (pb (aa a.2.1:Int) (aa b.2.1:Int)) (k (jy.out aZ)) (ao (OK (a,b,0)) λj=>aA j.isLeft (ao j.getLeft? λB=>k (jy.out aZ)) (ao j.getRight? λA=>ao (OM (A.1,A.2,0)) λu=>aA u.isLeft (ao u.getLeft? λI=>k (jy.out aZ)) (ao u.getRight? λJ=>k (jy.out bn)))))):=bS
def asa:VF:=by
 refine Um (λ(a,b,i)=>aa a.1 - ae i) ?_
 rintro⟨a,b,i⟩ ⟨j,L,I,k,T,rfl⟩;have j:aa a.1<=1000000000:=j;have L:aa a.1=aa b.1:=L;have T:k<=aa a.1:=T;have I:∀x∈a.1,aa x.2.1.2.1<=1000000000:=I;by_cases h:k < aa a.1
 .have M:k < aa b.1:=aq;have n1:nth fK a.1 k=a.1[k]:=bG (t:=fK) h;have n2:nth fK b.1 k=b.1[k]:=bG (t:=fK) M;have O:(bj k a.1=bj k b.1)=(a.1[k]=b.1[k]/\bj (k+1) a.1=bj (k+1) b.1):=by rw[ak h,ak M,da]
  have step:∀ {R:Type} (u:AS->Option R) (A:Exit->AS->Option R),Nf (a,b,(k:Int)) u A=if a.1[k]=b.1[k] then u (om (a,b,((k+1:Nat):Int))) else A (ki ()).1 (ki ()).2:=by
   intro R u A;rw[OL,aN aq,aS aq aq,aS aq aq,ab,n1,n2];simp only[ai];have e:=I _ (aD h);rw[aVC,N.iY aq,aJQ (d:=(a.1[k].2.1,b.1[k].2.1)) e];simp only[ah,bt,aol];obtain⟨⟨f1,w1,u1⟩,e1⟩:∃x,a.1[k]=x:=⟨_,rfl⟩;obtain⟨⟨f2,w2,u2⟩,e2⟩:∃x,b.1[k]=x:=⟨_,rfl⟩;rw[e1,e2];by_cases B:f1=f2
   .by_cases K:w1=w2
    .rw[aK B,aK K,av (by rw[B,K])];rfl
    .rw[aK B,aV K,au (by rintro⟨⟩;exact K rfl)];rfl
   .rw[aV B,au (by rintro⟨⟩;exact B rfl)];rfl
  by_cases J:a.1[k]=b.1[k]
  .left;refine⟨(a,b,((k+1:Nat):Int)),⟨j,L,I,k+1,aq,rfl⟩,by simp only[ab];omega,?_,λu A=> ?_⟩
   .simp only[kh,nN,ab,O,J,gC]
   .rw[step,av J]
  .right;refine⟨ki (),?_,λu A=> ?_⟩
   .simp only[kh,nN,ab,O,J,oM,bq];rfl
   .rw[step,au J]
 .right;obtain rfl:k=aa a.1:=aq;refine⟨zz (a,b),?_,λu A=> ?_⟩
  .simp only[kh,nN,ab,ay];rw[L,ay,av rfl];rfl
  .rw[OL,aL aq,al]
def asb:VG:=by
 refine Un (λ(a,b,i)=>aa a.2.1 - ae i) ?_
 rintro⟨a,b,i⟩ ⟨j,L,I,k,T,rfl⟩;have j:aa a.2.1<=1000000000:=j;have L:aa a.2.1=aa b.2.1:=L;have T:k<=aa a.2.1:=T;have I:∀x∈a.2.1,aa x.2.1.1<=1000000000/\∀b∈x.2.1.1,aa b.1<=1000000000:=I;by_cases h:k < aa a.2.1
 .have M:k < aa b.2.1:=aq;have n1:nth dI a.2.1 k=a.2.1[k]:=bG (t:=dI) h;have n2:nth dI b.2.1 k=b.2.1[k]:=bG (t:=dI) M;have O:(bj k a.2.1=bj k b.2.1)=(a.2.1[k]=b.2.1[k]/\bj (k+1) a.2.1=bj (k+1) b.2.1):=by rw[ak h,ak M,da]
  have step:∀ {R:Type} (u:AS->Option R) (A:Exit->AS->Option R),Nh (a,b,(k:Int)) u A=if a.2.1[k]=b.2.1[k] then u (oo (a,b,((k+1:Nat):Int))) else A (kk ()).1 (kk ()).2:=by
   intro R u A;rw[ON,aN aq,aS aq aq,aS aq aq,ab,n1,n2];simp only[ai];have e:=I _ (aD h);rw[N.iY aq,aEn (d:=(a.2.1[k].2.1,b.2.1[k].2.1)) e];simp only[ah,bt,aeN];obtain⟨⟨n1,⟨l1,v1⟩,u1⟩,e1⟩:∃x,a.2.1[k]=x:=⟨_,rfl⟩;obtain⟨⟨n2,⟨l2,v2⟩,u2⟩,e2⟩:∃x,b.2.1[k]=x:=⟨_,rfl⟩;rw[e1,e2];by_cases B:n1=n2
   .by_cases K:l1=l2
    .rw[bU B,aK K,av (by rw[B,K])];rfl
    .rw[bU B,aV K,au (by rintro⟨⟩;exact K rfl)];rfl
   .rw[dj B,au (by rintro⟨⟩;exact B rfl)];rfl
  by_cases J:a.2.1[k]=b.2.1[k]
  .left;refine⟨(a,b,((k+1:Nat):Int)),⟨j,L,I,k+1,aq,rfl⟩,by simp only[ab];omega,?_,λu A=> ?_⟩
   .simp only[kj,nO,ab,O,J,gC]
   .rw[step,av J]
  .right;refine⟨kk (),?_,λu A=> ?_⟩
   .simp only[kj,nO,ab,O,J,oM,bq];rfl
   .rw[step,au J]
 .right;obtain rfl:k=aa a.2.1:=aq;refine⟨zC (),?_,λu A=> ?_⟩
  .simp only[kj,nO,ab,ay];rw[L,ay,av rfl];rfl
  .rw[ON,aL aq,al]
def aJO:jy.Ok:=by
 rintro⟨⟨j,o1,n1,I⟩,⟨u,A,n2,J⟩⟩ h;have O:=h.1.1;have T:=h.2.1;rw[aJN];simp only[TR];by_cases B:n1=n2
 .by_cases K:aa j=aa u
  .by_cases L:aa o1=aa A
   .rw[bU B,bU aq,bU aq,aof (d:=((j,o1,n1,I),(u,A,n2,J),0)) ⟨O,K,h.1.2,0,az _,rfl⟩];simp[kh,nN];by_cases M:j=u
    .rw[av M];simp;rw[aog (d:=((j,o1,n1,I),(u,A,n2,J),0)) ⟨T,L,h.2.2,0,az _,rfl⟩];simp[kj,nO];by_cases e5:o1=A
     all_goals simp_all
    simp_all
   .rw[bU B,bU aq,dj aq,aV (by grind)];rfl
  .rw[bU B,dj aq,aV (by grind)];rfl
 simp_all [dj]
def ahF:jy.RS:=rE [.d eU,.d eU] jy
def aoh:=jy.eQ aJO 2 ⟨.eg asa,⟨.eg asb,trivial⟩⟩
def aMt(t:di):Prop:=(aa t.1<=1000/\∀x∈t.1,aa x.2.1.2.1<=1000000)/\aa t.2.1<=1000/\∀x∈t.2.1,aa x.2.1.1<=1000/\∀b∈x.2.1.1,aa b.1<=1000000
abbrev M6:=di×Int×(Int×Unit)×Nat×(Int×Unit)×(List gb)
abbrev abf:=Nat×(List gb)
def zo:M6->abf->((di×(Int×Unit)×(Int×Unit))×(Nat×(List gb))):=λ(u,i,n2,j,n3,A) y=>((u,n2,n3),y)
abbrev abg:=di×Int×(Int×Unit)×Nat×Nat×(Int×Unit)×(List gb)×(List dW)
abbrev M7:=di×Int×Int×(Int×Unit)×Nat×Nat×(Int×Unit)×Int×Nat×(List gb)×(List kF)×(List dW)
abbrev abh:=Nat×(List kF)
def zp:M7->abh->((di×Int×(Int×Unit)×Nat×Nat×(Int×Unit)×Int×(List gb)×(List dW))×(Nat×(List kF))):=λ(K,J,T,O,A,B,j,n7,L,u,M,I) y=>((K,J,O,A,B,j,n7,u,I),y)
def an0:M6->Prop:=λ(t,i,u,L,v,r)=>aa t.1<=1000000/\∃k:Nat,k<=aa t.1/\i=k/\L=aa (r)/\aa (r)<=1000000+k/\(∀x∈t.1,aa x.2.1.2.1<=1000000)
def EL:M6->abf:=λ(t,i,u,L,v,r)=>(L+aa (bj (ae i) t.1),r++(bj (ae i) t.1).map (λx:gb=>x))
def an4:M7->Prop:=λ(t,j,i,u,A,B,v,I,L,is,r,os)=>aa ((nth dI t.2.1 (ae j)).2.1.1)<=1000000/\∃k:Nat,k<=aa ((nth dI t.2.1 (ae j)).2.1.1)/\i=k/\L=aa (r)/\aa (r)<=1000000+k/\(0<=j/\j < (aa t.2.1:Int))/\(∀x∈(nth dI t.2.1 (ae j)).2.1.1,aa x.1<=1000000)
def EN:M7->abh:=λ(t,j,i,u,A,B,v,I,L,is,r,os)=>(L+aa (bj (ae i) (nth dI t.2.1 (ae j)).2.1.1),r++(bj (ae i) (nth dI t.2.1 (ae j)).2.1.1).map (λx:kF=>x))
def an2:abg->Prop:=λ(t,i,u,j,L,v,is,r)=>(aa t.2.1<=1000/\∀x∈t.2.1,aa x.2.1.1<=1000/\∀b∈x.2.1.1,aa b.1<=1000000)/\∃k:Nat,k<=aa t.2.1/\i=k/\L=aa r/\aa r=k
def EM:abg->((Int×Unit)×Nat×Nat×(Int×Unit)×(List gb)×(List dW)):=λ(t,i,u,j,L,v,is,r)=>(u,j,L+aa (t.2.1.drop i.toNat),v,is,r++t.2.1.drop i.toNat)
def aEl:di->Prop:=λt=>aMt t
def aeM:di->(Nat×Nat×(Int×Unit)×(List gb)×(List dW)):=λt=>(aa t.1,aa t.2.1,(t.2.2.1,()),t.1,t.2.1)
def aN4(j u A):=(.pr (uJ j u) (.pr (.fR) (.d (.pair ti .unit) A)):aF)
def qq:Ls an0 zo EL:=rI (λ(A,i,n2,j,n3,u)=>⟨([bB,iL A,eI 2,eI 3,aU i]++aP 89 []),[],([[],[],dp (w8 n2),dp (aN4 36 j n3)]++bz 32 ([dp (K6 u)]++bz 57 []))⟩) (λx=>(.exit 0,⟨([bB,iL x.1.1,eI 2,eI 3]++aP 90 []),[],([[],[],dp (w8 x.1.2.1),dp (aN4 36 x.2.1 x.1.2.2)]++bz 32 ([dp (K6 x.2.2)]++bz 57 []))⟩))
def qs:Ls an2 bt EM:=rI (λ(L,J,K,u,A,B,j,I)=>⟨([bB,iL L,eI 2,eI 3,bB,bB,aU J]++aP 87 []),[],([[],[],dp (w8 K),dp (DC 36 u 91 A B)]++bz 32 ([dp (K6 j)]++bz 54 [dp (vm I),[],[]]))⟩) (λx=>(.exit 2,⟨([bB,bB,eI 2,eI 3]++aP 90 []),[],([[],[],dp (w8 x.1),dp (DC 36 x.2.1 91 x.2.2.1 x.2.2.2.1)]++bz 32 ([dp (K6 x.2.2.2.2.1)]++bz 54 [dp (vm x.2.2.2.2.2),[],[]]))⟩))
def auU(j u A):=(.pr (aU j) (.pr (.pr (uJ u A) Pv) Pv):aF)
def qt:Ls an4 zp EN:=rI (λ(M,L,O,T,A,B,j,n7,J,u,K,I)=>⟨([bB,iL M,eI 2,eI 3,bB,bB,aU L,eI 7,aU O]++aP 85 []),[],([[],[],dp (w8 T),dp (DC 36 A 91 B j),[],[],[],dp (auU n7 84 J)]++bz 28 ([dp (K6 u)]++bz 47 ([dp (Ic K)]++bz 6 [dp (vm I),[],[]])))⟩) (λx=>(.exit 4,⟨([bB,iL x.1.1,eI 2,eI 3,bB,bB,aU x.1.2.1,eI 7]++aP 86 []),[],([[],[],dp (w8 x.1.2.2.1),dp (DC 36 x.1.2.2.2.1 91 x.1.2.2.2.2.1 x.1.2.2.2.2.2.1),[],[],[],dp (auU x.1.2.2.2.2.2.2.1 84 x.2.1)]++bz 28 ([dp (K6 x.1.2.2.2.2.2.2.2.1)]++bz 47 ([dp (Ic x.2.2)]++bz 6 [dp (vm x.1.2.2.2.2.2.2.2.2),[],[]])))⟩))
def nH:Fs prog aEl bt aeM:=eP 42 f42 (λt=>([.d eU t],[])) (λx=>⟨.pr (.dq (.new 0 0) 0 [] 0 0 x.1) (.pr (.dq (.new 0 1) 0 [] 0 0 x.2.1) (.d (.pair ti .unit) x.2.2.1)),[],[.obj 0 aZ (.vec 79 fK x.2.2.2.1),.obj 0 aZ (.vec 72 dI x.2.2.2.2)]⟩) [aw eU] [] {cd:=[25,74],loops:=ko [(3,{aX:=[1,2,3,4],sites:=[2,3,36],owns:=[⟨3,[.fst],36,53⟩]}),(9,{aX:=[1,2,3,6],sites:=[2,3,36,91],owns:=[⟨3,[.snd,.fst],91,22⟩]}),(13,{aX:=[1,2,3,6,7,8],sites:=[2,3,7,36,84,91],owns:=[⟨7,[.snd,.fst,.fst],84,63⟩]})],outs:=km [(3,{aX:=[1,2,3],sites:=[2,3,36]},{aX:=[2]}),(9,{aX:=[2,3],sites:=[2,3,36,91]},{aX:=[2]}),(13,{aX:=[1,2,3,6,7],sites:=[2,3,7,36,84,91]},{aX:=[2]})],eT:=jW [(3,qq.E),(9,qs.E),(13,qt.E)]}
def an1:qq.RS:=rL [.d eU,.d ti,.d (.pair ti .unit),.n,.d (.pair ti .unit),.d (.slice fK)] qq
def OC(j i n2 u n3 A)(B:K2 R)(I:K3 R):nH.R 0 qq (j,i,n2,u,n3,A) B I=aA (fj i (aa j.1:Int)) (aA (dB i (aa j.1:Int)) (aA (cM (0+(aa (nth fK j.1 (ae i)).2.1.2.1)) 16) (aA (decide (0=0/\(0+(0+(aa (nth fK j.1 (ae i)).2.1.2.1)))<=(aa ((aJ 0 (ag 0 (0,(0,()))))++(nth fK j.1 (ae i)).2.1.2.1)))) (aA (decide (u<=(aa A))) (aA (cM (u+1) 80) (B (qq.st (j,(bC .i64 i 1),n2,(u+1),n3,((aJ u A)++ [((nth fK j.1 (ae i)).1,(((nth fK j.1 (ae i)).2.1.1,((cut ((aJ 0 (ag 0 (0,(0,()))))++(nth fK j.1 (ae i)).2.1.2.1) 0 (0+(aa (nth fK j.1 (ae i)).2.1.2.1))),(nth fK j.1 (ae i)).2.1.2.2)),(nth fK j.1 (ae i)).2.2))])))) aC) aC) aC) aC) aC) (qq.go I ((j,n2,n3),(u,A))):=bS
def an3:qs.RS:=rL [.d eU,.d ti,.d (.pair ti .unit),.n,.n,.d (.pair ti .unit),.d (.slice fK),.d (.slice dI)] qs
def OD(L K M A B I u J)(O:K2 R)(T:K3 R):nH.R 1 qs (L,K,M,A,B,I,u,J) O T=aA (fj K (aa L.2.1:Int)) (aA (dB K (aa L.2.1:Int)) (ao (qt.call (L,K,0,M,A,B,I,(nth dI L.2.1 (ae K)).1,0,u,([]:List kF),J)) λj=>aA (decide (0=0/\(0+j.2.1)<=(aa j.2.2))) (aA (decide (j.1.2.2.2.2.1<=(aa j.1.2.2.2.2.2.2.2.2))) (aA (cM (j.1.2.2.2.2.1+1) 32) (O (qs.st (j.1.1,(bC .i64 j.1.2.1 1),j.1.2.2.1,j.1.2.2.2.1,(j.1.2.2.2.2.1+1),j.1.2.2.2.2.2.1,j.1.2.2.2.2.2.2.2.1,((aJ j.1.2.2.2.2.1 j.1.2.2.2.2.2.2.2.2)++ [(j.1.2.2.2.2.2.2.1,(((cut j.2.2 0 j.2.1),()),()))])))) aC) aC) aC) aC) (qs.go T (M,A,B,I,u,J)):=bS
def an5:qt.RS:=rL [.d eU,.d ti,.d ti,.d (.pair ti .unit),.n,.n,.d (.pair ti .unit),.d ti,.n,.d (.slice fK),.d (.slice iq),.d (.slice dI)] qt
def OE(u j B T L M J n7 A K I O)(kn:K2 R)(kx:K3 R):nH.R 2 qt (u,j,B,T,L,M,J,n7,A,K,I,O) kn kx=aA (dB j (aa u.2.1:Int)) (aA (fj B (((aa (nth dI u.2.1 (ae j)).2.1.1):Nat):Int)) (aA (dB j (aa u.2.1:Int)) (aA (dB B (((aa (nth dI u.2.1 (ae j)).2.1.1):Nat):Int)) (aA (cM (0+(aa (nth iq (nth dI u.2.1 (ae j)).2.1.1 (ae B)).1)) 8) (aA (decide (0=0/\(0+(0+(aa (nth iq (nth dI u.2.1 (ae j)).2.1.1 (ae B)).1)))<=(aa ((aJ 0 (ag 0 0))++(nth iq (nth dI u.2.1 (ae j)).2.1.1 (ae B)).1)))) (aA (decide (A<=(aa I))) (aA (cM (A+1) 48) (kn (qt.st (u,j,(bC .i64 B 1),T,L,M,J,n7,(A+1),K,((aJ A I)++ [((cut ((aJ 0 (ag 0 0))++(nth iq (nth dI u.2.1 (ae j)).2.1.1 (ae B)).1) 0 (0+(aa (nth iq (nth dI u.2.1 (ae j)).2.1.1 (ae B)).1))),(nth iq (nth dI u.2.1 (ae j)).2.1.1 (ae B)).2)]),O))) aC) aC) aC) aC) aC) aC) (qt.go kx ((u,j,T,L,M,J,n7,K,O),(A,I)))) aC:=bS
def aJI(t)(k:K1 R):nH.A t k=ao (qq.call (t,0,(0,()),0,(t.2.2.1,()),([]:List gb))) λj=>ao (qs.call (j.1.1,0,j.1.2.1,j.2.1,0,j.1.2.2,j.2.2,([]:List dW))) λu=>k (nH.out (u.2.1,u.2.2.1,u.2.2.2.1,u.2.2.2.2.1,u.2.2.2.2.2)):=bS
def ar5:(nH.kA 0 qq):=by
 refine(nH.lS 0 qq) (λ(t,i,u,L,v,r)=>aa t.1 - ae i) ?_
 rintro⟨t,i,u,L,v,r⟩ ⟨j,k,B,rfl,rfl,I,A⟩;have j:aa t.1<=1000000:=j;have B:k<=aa t.1:=B;have I:aa (r)<=1000000+k:=I;have A:∀x∈t.1,aa x.2.1.2.1<=1000000:=A;by_cases h:k < aa t.1
 .left;have n1:nth fK t.1 k=t.1[k]:=bG (t:=fK) h;have J:bj k t.1=t.1[k]::bj (k+1) t.1:=ak h;refine⟨(t,((k+1:Nat):Int),u,aa (r)+1,v,r++ [(λx:gb=>x) t.1[k]]),⟨j,k+1,aq,rfl,by rw[aj];rfl,by rw[aj];show aa (r)+1<=_;omega,A⟩,by simp only[ab];omega,?_,λM O=> ?_⟩
  .simp only[zo,EL,ab,J,cq,aB,aR,cv];rw[show ∀a c:Nat,a+1+c=a+(c+1) from λa c=>aq]
  .rw[OC,aN aq,aS (show(0:Int)<=(k:Int) by omega) aq,ab,n1];simp only[ai];have e:=A _ (aD h);have K:cM t.1[k].2.1.2.1.length 16=bn:=cg aq aq;simp only[aO,du,bf,K,ai,ax,fY,bE,dM];rw[cg aq aq,N.iY aq,bI];rfl
 .right;obtain rfl:k=aa t.1:=aq;intro R M O;rw[OC,aL aq,al];simp only[zo,EL,ab,ay,gm,bm,bl,bY]
def ar7:(nH.kA 2 qt):=by
 refine(nH.lS 2 qt) (λ(t,j,i,u,J,K,v,M,L,is,r,os)=>aa ((nth dI t.2.1 (ae j)).2.1.1) - ae i) ?_
 rintro⟨t,j,i,u,J,K,v,M,L,is,r,os⟩ ⟨A,k,O,rfl,rfl,T,B,I⟩;have A:aa ((nth dI t.2.1 (ae j)).2.1.1)<=1000000:=A;have O:k<=aa ((nth dI t.2.1 (ae j)).2.1.1):=O;have T:aa (r)<=1000000+k:=T;have B:0<=j/\j < (aa t.2.1:Int):=B;have I:∀x∈(nth dI t.2.1 (ae j)).2.1.1,aa x.1<=1000000:=I;by_cases h:k < aa ((nth dI t.2.1 (ae j)).2.1.1)
 .left;have n1:nth iq (nth dI t.2.1 (ae j)).2.1.1 k=(nth dI t.2.1 (ae j)).2.1.1[k]:=bG (t:=iq) h;have hd:bj k (nth dI t.2.1 (ae j)).2.1.1=(nth dI t.2.1 (ae j)).2.1.1[k]::bj (k+1) (nth dI t.2.1 (ae j)).2.1.1:=ak h;refine⟨(t,j,((k+1:Nat):Int),u,J,K,v,M,aa (r)+1,is,r++ [(λx:kF=>x) (nth dI t.2.1 (ae j)).2.1.1[k]],os),⟨A,k+1,aq,rfl,by rw[aj];rfl,by rw[aj];show aa (r)+1<=_;omega,B,I⟩,by simp only[ab];omega,?_,λkn kx=> ?_⟩
  .simp only[zp,EN,ab,hd,cq,aB,aR,cv];rw[show ∀a c:Nat,a+1+c=a+(c+1) from λa c=>aq]
  .rw[OE,aS B.1 B.2,ai,aN aq,aS (show(0:Int)<=(k:Int) by omega) aq,ab,n1];simp only[ai];have e:=I _ (aD h);have hr:cM (nth dI t.2.1 (ae j)).2.1.1[k].1.length 8=bn:=cg aq aq;simp only[aO,du,bf,hr,ai,ax,fY,bE,dM];rw[cg aq aq,N.iY aq,bI];rfl
 .right;obtain rfl:k=aa ((nth dI t.2.1 (ae j)).2.1.1):=aq;intro R kn kx;rw[OE,aS B.1 B.2,ai,aL aq,al];simp only[zp,EN,ab,ay,gm,bm,bl,bY]
def ar6:(nH.kA 1 qs):=by
 refine(nH.lS 1 qs) (λ(t,i,u,A,L,v,is,r)=>aa t.2.1 - i.toNat) ?_
 rintro⟨t,i,u,A,L,v,is,r⟩ ⟨⟨I,K⟩,k,J,rfl,rfl,j⟩;have I:aa t.2.1<=1000:=I;have J:k<=aa t.2.1:=J;have j:aa r=k:=j;by_cases h:k < aa t.2.1
 .left;have e:=K _ (aD h);have n1:nth dI t.2.1 k=t.2.1[k]:=bG (t:=dI) h;have M:t.2.1.drop k=t.2.1[k]::t.2.1.drop (k+1):=ak h;have B:(nth dI t.2.1 (ae (k:Int))).2.1.1=t.2.1[k].2.1.1:=by rw[ab,n1]
  refine⟨(t,((k+1:Nat):Int),u,A,aa r+1,v,is,r++ [t.2.1[k]]),⟨⟨I,K⟩,k+1,aq,rfl,by rw[aj];rfl,by rw[aj];show aa r+1=_;omega⟩,by simp only[ab];omega,?_,λO T=> ?_⟩
  .simp only[bt,EM,ab,M,aB,aR,cv];rw[show ∀a c:Nat,a+1+c=a+(c+1) from λa c=>aq]
  .rw[OD,aN aq,aS aq aq,ab,n1];simp only[ai];rw[an5 (d:=(t,(k:Int),0,u,A,aa r,v,t.2.1[k].1,0,is,[],r)) ⟨by rw[B];omega,0,az _,rfl,rfl,az _,⟨by show(0:Int)<=(k:Int);omega,by show(k:Int) < (aa t.2.1:Int);omega⟩,by rw[B];exact e.2⟩];simp only[ah,zp,EN,B,aW,aH,bf,aO,List.map_id',ax,fY,bE,ai,dM];rw[cg aq aq,N.iY aq,bI];rfl
 .right;obtain rfl:k=aa t.2.1:=aq;intro R O T;rw[OD,aL aq,al];simp only[bt,EM,ab,ay,bm,bl,bY]
def aJJ:nH.Ok:=by rintro⟨is,os,j,u⟩ ⟨⟨B,I⟩,A,J⟩;have B:aa is<=1000:=B;have A:aa os<=1000:=A;rw[aJI,an1 (d:=((is,os,j,u),0,(0,()),0,(j,()),[])) ⟨by show aa is<=_;omega,0,az _,rfl,rfl,az _,I⟩];simp only[ah,zo,EL,aW,aH,bf,aO,List.map_id'];rw[an3 (d:=((is,os,j,u),0,(0,()),aa is,0,(j,()),is,[])) ⟨⟨A,J⟩,0,az _,rfl,rfl,rfl⟩];simp only[ah,bt,EM,aW,aH,bf,aO];rfl
def ahE:nH.RS:=rE [.d eU] nH
def an6:=nH.eQ aJJ 3 ⟨.eg ar5,⟨.eg ar6,⟨.eg ar7,trivial⟩⟩⟩
def Am(a b:bO):Int:=bkU [arq a.1 b.1,axb a.2.1 b.2.1]
def aWa:(bO×bO)->Prop:=λ(a,b)=>aa a.1=32/\aa b.1=32
def aV9:(bO×bO)->Int:=λ(a,b)=>Am a b
def xJ(j):=(.d bK j:aF)
def aHF:Fs prog aWa bt aV9:=eP 56 f56 (λ(a,b)=>([xJ a,xJ b],[])) (λx=>⟨aU x,[],[]⟩) [aw bK,aw bK] [bdt,be3,biH]
def bdH(a b)(k:K1 R):aHF.A (a,b) k=ao (aHg.call ((cut a.1 0 32),(cut b.1 0 32))) λj=>ao (ai4.call (a.2.1,b.2.1)) λu=>ao (aUU.call [j,u]) λA=>k (aHF.out A):=bS
def bdI:aHF.Ok:=by rintro⟨a,b⟩ ⟨j,u⟩;have j:aa a.1=32:=j;have u:aa b.1=32:=u;have A:cut a.1 0 32=a.1:=dM j;have B:cut b.1 0 32=b.1:=dM u;rw[bdH,A,B,aVy (d:=(a.1,b.1)) trivial];simp only[ah,bt,aVw];rw[aX6 (d:=(a.2.1,b.2.1)) trivial];simp only[ah,bt,aIH];rw[bea (d:=[arq a.1 b.1,axb a.2.1 b.2.1]) (by show 2<=_;decide)];simp only[ah,bt,aWS,bt,aV9,Am]
def aWb:aHF.RS:=rE [.d bK,.d bK] aHF
def bdJ:=aHF.eQ bdI
def lx:List Int->List Int->Int
 |x::xs,y::ys=>if x≠y then(if x < y then -1 else 1) else lx xs ys
 |_,_=>0
def aNB:∀a,lx a a=0
 |[]=>rfl
 |x::a=>by simp[lx,aNB a]
def bhQ:∀ {a b:List Int},aa a=aa b->lx a b=0->a=b
 |[],[],_,_=>rfl
 |[],_::_,h,_=>by simp at h
 |_::_,[],h,_=>by simp at h
 |x::a,y::b,h,h2=>by
  simp only[lx]at h2;split at h2
  .split at h2 <;> omega
  .rename_i e;have e:x=y:=aq;rw[e,bhQ (by simpa using h) h2]
def aew:∀a b:List Int,lx b a= - lx a b
 |[],[]=>rfl
 |[],_::_=>rfl
 |_::_,[]=>rfl
 |x::a,y::b=>by
  simp only[lx];by_cases h:x=y
  .rw[au aq,au aq,aew a b]
  .rw[av aq,av h];by_cases j:x < y
   .rw[au aq,av j];rfl
   .rw[av aq,au j]
def amC:∀ {a b c:List Int},aa a=aa b->aa b=aa c->lx a b<=0->lx b c<=0->lx a c<=0/\(lx a c=0->lx a b=0/\lx b c=0)
 |[],[],[],_,_,_,_=>by simp[lx]
 |x::a,y::b,z::c,h1,h2,h3,h4=>by
  have I:=amC (a:=a) (b:=b) (c:=c) (by simpa using h1) (by simpa using h2);simp only[lx]at h3 h4 ⊢;by_cases A:x=y
  .by_cases j:y=z
   .rw[au aq]at h3 h4;rw[au aq,au aq,au aq];exact I h3 h4
   .rw[au aq]at h3;rw[av j]at h4;rw[av aq];by_cases u:y < z
    .rw[av aq];exact⟨aq,λh=>aq⟩
    .rw[au u]at h4;omega
  .rw[av A]at h3;by_cases u:x < y
   .by_cases j:y=z
    .rw[av aq,av aq];exact⟨aq,λh=>aq⟩
    .rw[av j]at h4;by_cases B:y < z
     .rw[av aq,av aq];exact⟨aq,λh=>aq⟩
     .rw[au B]at h4;omega
   .rw[au u]at h3;omega
 |[],_::_,_,h,_,_,_=>by simp at h
 |_::_,[],_,h,_,_,_=>by simp at h
 |_,[],_::_,_,h,_,_=>by simp at h
 |_,_::_,[],_,h,_,_=>by simp at h
def bkV(a b:Int):Int:=if a=0 then b else a
def ayt{p:Int}{a b:List Int}:lx (p::a) (p::b)=lx a b:=by simp[lx]
def aex{p q:Int}{a b:List Int}(h:¬p=q):lx (p::a) (q::b)=if p < q then -1 else 1:=by simp[lx,h]
def aj2:∀ {a b:List Int} (x y:Int),aa a=aa b->lx (a++ [x]) (b++ [y])=bkV (lx a b) (axb x y)
 |[],[],x,y,_=>by
  show lx [x] [y]=bkV 0 (axb x y);simp only[bkV,bQ];unfold axb;by_cases h:x=y
  .subst h;rw[ayt,au aq,au aq];rfl
  .rw[aex h];by_cases j:x < y
   .rw[av j,av j]
   .rw[au j,au j,av aq]
 |[],_::_,_,_,h=>by simp at h
 |_::_,[],_,_,h=>by simp at h
 |p::a,q::b,x,y,h=>by
  show lx (p::(a++ [x])) (q::(b++ [y]))=_;by_cases j:p=q
  .subst j;rw[ayt,ayt];exact aj2 x y (by simpa using h)
  .rw[aex j,aex j];by_cases u:p < q
   .rw[av u];rfl
   .rw[au u];rfl
def aWN:List UInt8->List UInt8->Int
 |x::xs,y::ys=>if x !=y then(if x < y then -1 else 1) else aWN xs ys
 |_,_=>0
def aBT:∀(j u:List UInt8),aa j=aa u->(match(List.range (aa j)).find? λi=>j[i]! !=u[i]! with | some i=>if j[i]! < u[i]! then(-1:Int) else 1 | none=>0)=aWN j u
 |[],[],_=>rfl
 |[],_::_,h=>by simp at h
 |_::_,[],h=>by simp at h
 |x::j,y::u,h=>by
  have A:=aBT j u (by simpa using h);rw[aB,List.range_succ_eq_map,List.find?_cons];simp only[List.getElem!_cons_zero,aWN];cases B:(x !=y) with
  |true=>simp
  |false=>
   simp only[bu,bq];rw[List.find?_map,<-A];have e:((λi=>(x::j)[i]! !=(y::u)[i]!)∘Nat.succ)=λi=>j[i]! !=u[i]! :=by funext i;simp
   rw[e];cases(List.range (aa j)).find? λi=>j[i]! !=u[i]! <;> simp
def aMX:∀ {a b:List Int},(∀x∈a,0<=x/\x < 256)->(∀x∈b,0<=x/\x < 256)->aWN (a.map λn=>UInt8.ofNat n.toNat) (b.map λn=>UInt8.ofNat n.toNat)=lx a b
 |[],_,_,_=>by cases ‹List Int› <;> rfl
 |_::_,[],_,_=>rfl
 |x::a,y::b,ha,hb=>by
  have L:=ha x (aY ..);have M:=hb y (aY ..);have J:=aMX (a:=a) (b:=b) (λz u=>ha z (aT _ u)) (λz u=>hb z (aT _ u));simp only[cq,aWN,lx,J];have A:(UInt8.ofNat x.toNat).toNat=x.toNat:=by simp[UInt8.toNat_ofNat];omega
  have B:(UInt8.ofNat y.toNat).toNat=y.toNat:=by simp[UInt8.toNat_ofNat];omega
  by_cases h:x=y
  .subst h;simp
  .have K:(UInt8.ofNat x.toNat !=UInt8.ofNat y.toNat)=bn:=by rw[bne_iff_ne];intro e;have:=bA UInt8.toNat e;rw[A,B]at this;omega
   rw[K,av rfl,av h];have I:UInt8.ofNat x.toNat < UInt8.ofNat y.toNat↔x < y:=by rw[UInt8.lt_iff_toNat_lt,A,B];omega
   by_cases j:x < y
   .rw[av (I.2 j),av j]
   .rw[au (λe=>j (I.1 e)),au j]
def bd1{a b:List Int}(u:aa a=aa b)(B:∀x∈a,0<=x/\x < 256)(I:∀x∈b,0<=x/\x < 256):arq a b=lx a b:=by
 rw[<-aMX B I,<-aBT _ _ (by simpa using u)];unfold arq Extern.BytealgCompare.cmp;have J:∀l:List Int,(kE l).size=aa l:=λl=>by simp[kE,ByteArray.size]
 have A:∀(l:List Int) (i:Nat),(kE l)[i]! =(l.map λn=>UInt8.ofNat n.toNat)[i]! :=λl i=>by
  by_cases h:i < (kE l).size
  .rw[qh _ i h];have j:i < aa (l.map λn=>UInt8.ofNat n.toNat):=by simpa[kE,ByteArray.size]using h
   rw[qh _ i j];rfl
  .rw[getElem!_neg _ i h];have j:¬i < aa (l.map λn=>UInt8.ofNat n.toNat):=by simpa[kE,ByteArray.size]using h
   rw[getElem!_neg _ i j]
 simp only[J,A,u,Nat.min_self,cz];cases(List.range (aa b)).find? λi=>(a.map λn=>UInt8.ofNat n.toNat)[i]! !=(b.map λn=>UInt8.ofNat n.toNat)[i]! <;> simp
def CV(o:bO):Prop:=aa o.1=32/\∀x∈o.1,0<=x/\x < 256
def C3(o:bO):List Int:=o.1++ [o.2.1]
def vl{o:bO}(h:CV o):aa (C3 o)=33:=by simp[C3,h.1]
def aZj{a b:bO}(I:CV a)(J:CV b)(h:C3 a=C3 b):a=b:=by obtain⟨A,j,_⟩:=a;obtain⟨B,u,_⟩:=b;have h:A++ [j]=B++ [u]:=h;have:=List.append_inj' h rfl;rw[this.1,show j=u by simpa using this.2]
def rO{a b:bO}(j:CV a)(u:CV b):Am a b=lx (C3 a) (C3 b):=by
 unfold C3 Am;rw[aj2 _ _ (j.1.trans u.1.symm),bd1 (j.1.trans u.1.symm) j.2 u.2];simp only[bkU,bkV];by_cases h:lx a.1 b.1=0
 .rw[av h,au (λe=>e h)];split
  .rfl
  .omega
 .rw[au h,av h]
def aBR{x:bO}(j:CV x):¬Am x x < 0:=by rw[rO j j,aNB];decide
def aHY{x y z:bO}(u:CV x)(j:CV y)(A:CV z)(B:Am x y < 0)(I:Am y z < 0):Am x z < 0:=by
 rw[rO u j]at B;rw[rO j A]at I;rw[rO u A];have:=amC (by rw[vl u,vl j]) (by rw[vl j,vl A]) (by omega:lx (C3 x) (C3 y)<=0) (by omega:lx (C3 y) (C3 z)<=0);have K:=this.1;by_cases J:lx (C3 x) (C3 z)=0
 .have:=(this.2 J).1;omega
 .omega
def aBS{x y z:bO}(u:CV x)(j:CV y)(A:CV z)(B:¬Am x y < 0)(I:¬Am y z < 0):¬Am x z < 0:=by rw[rO u j]at B;rw[rO j A]at I;rw[rO u A];have J:=aew (C3 x) (C3 y);have K:=aew (C3 y) (C3 z);have L:=aew (C3 x) (C3 z);have:=(amC (by rw[vl A,vl j]) (by rw[vl j,vl u]) (by omega:lx (C3 z) (C3 y)<=0) (by omega:lx (C3 y) (C3 x)<=0)).1;omega
def yQ:bkx prog bK 56 CV Am:= {
 cH:=⟨aHF.E,bdJ.h.1 (by rfl),λx y j u=>⟨_,aWb (d:=(x,y)) ⟨j.1,u.1⟩,rfl⟩⟩
 enters:=enters_of Tryz.func56 bS rfl
 irrefl:=λ_=>aBR
 trans:=λ_ _ _=>aHY
 ntrans:=λ_ _ _=>aBS}
def AE{x y:bO}(j:CV x)(u:CV y)(A:¬Am x y < 0)(B:¬Am y x < 0):x=y:=by rw[rO j u]at A;rw[rO u j,aew]at B;exact aZj j u (bhQ (by rw[vl j,vl u]) aq)
end Go.Ab
namespace Go.Proofs
open Go.Shelf
def Tryz.aLy:Go.Shelf.Ren:=⟨λ | 6=>97 | 15=>158 | 14=>157 | 28=>200 | 29=>201 | 20=>192 | 21=>193 | 22=>194 | 23=>195 | 24=>196 | 25=>197 | 26=>198 | 27=>199 | 46=>224 | 47=>225 | 48=>226 | 49=>227 | 50=>228 | 57=>240 | n=>n,λ | 22=>46 | 24=>38 | 25=>127 | 3=>3 | 39=>225 | 0=>0 | 53=>237 | 55=>67 | 4=>4 | 46=>255 | 45=>254 | 50=>178 | 5=>5 | 9=>9 | 66=>283 | 70=>286 | 76=>295 | 77=>296 | n=>n,λ | n=>n⟩
def Tryz.bkc:Go.Proofs.SlLaysF0.n6 prog Tryz.aLy:= {
 mixed:=by kernel_rfl
 f6:=⟨f97.name,by decide,Tryz.func97.trans (congrArg some (by kernel_rfl))⟩
 f14:=⟨f157.name,by decide,Tryz.func157.trans (congrArg some (by kernel_rfl))⟩
 f15:=Tryz.func158.trans (congrArg some (by kernel_rfl))
 f20:=⟨f192.name,by decide,Tryz.func192.trans (congrArg some (by kernel_rfl))⟩
 f21:=⟨f193.name,by decide,Tryz.func193.trans (congrArg some (by kernel_rfl))⟩
 f22:=⟨f194.name,by decide,Tryz.func194.trans (congrArg some (by kernel_rfl))⟩
 f23:=⟨f195.name,by decide,Tryz.func195.trans (congrArg some (by kernel_rfl))⟩
 f24:=⟨f196.name,by decide,Tryz.func196.trans (congrArg some (by kernel_rfl))⟩
 f25:=⟨f197.name,by decide,Tryz.func197.trans (congrArg some (by kernel_rfl))⟩
 f26:=⟨f198.name,by decide,Tryz.func198.trans (congrArg some (by kernel_rfl))⟩
 f27:=⟨f199.name,by decide,Tryz.func199.trans (congrArg some (by kernel_rfl))⟩
 f28:=Tryz.func200.trans (congrArg some (by kernel_rfl))
 f29:=Tryz.func201.trans (congrArg some (by kernel_rfl))
 f46:=⟨f224.name,by decide,Tryz.func224.trans (congrArg some (by kernel_rfl))⟩
 f47:=Tryz.func225.trans (congrArg some (by kernel_rfl))
 f48:=Tryz.func226.trans (congrArg some (by kernel_rfl))
 f49:=⟨f227.name,by decide,Tryz.func227.trans (congrArg some (by kernel_rfl))⟩
 f50:=⟨f228.name,by decide,Tryz.func228.trans (congrArg some (by kernel_rfl))⟩
 f57:=⟨f240.name,by decide,Tryz.func240.trans (congrArg some (by kernel_rfl))⟩
 t0:=Tryz.underlying0
 a0:=Tryz.isAgg0
 z0:=Tryz.sizeOf0
 v0:=Tryz.zeroValue0
 t3:=Tryz.underlying3
 a3:=Tryz.isAgg3
 z3:=Tryz.sizeOf3
 v3:=Tryz.zeroValue3
 t4:=Tryz.underlying4
 a4:=Tryz.isAgg4
 z4:=Tryz.sizeOf4
 v4:=Tryz.zeroValue4
 t5:=Tryz.underlying5
 a5:=Tryz.isAgg5
 z5:=Tryz.sizeOf5
 v5:=Tryz.zeroValue5
 t9:=Tryz.underlying9
 a9:=Tryz.isAgg9
 z9:=Tryz.sizeOf9
 v9:=Tryz.zeroValue9
 t22:=Tryz.underlying46
 a22:=Tryz.isAgg46
 z22:=Tryz.sizeOf46
 v22:=Tryz.zeroValue46
 t25:=Tryz.underlying127
 a25:=Tryz.isAgg127
 z25:=Tryz.sizeOf127
 v25:=Tryz.zeroValue127
 t39:=Tryz.underlying225
 a39:=Tryz.isAgg225
 z39:=Tryz.sizeOf225
 v39:=Tryz.zeroValue225
 t45:=Tryz.underlying254
 a45:=Tryz.isAgg254
 z45:=Tryz.sizeOf254
 v45:=Tryz.zeroValue254
 t46:=Tryz.underlying255
 a46:=Tryz.isAgg255
 z46:=Tryz.sizeOf255
 v46:=Tryz.zeroValue255
 t50:=Tryz.underlying178
 a50:=Tryz.isAgg178
 z50:=Tryz.sizeOf178
 v50:=Tryz.zeroValue178
 t53:=Tryz.underlying237
 a53:=Tryz.isAgg237
 z53:=Tryz.sizeOf237
 v53:=Tryz.zeroValue237
 t55:=Tryz.underlying67
 a55:=Tryz.isAgg67
 z55:=Tryz.sizeOf67
 v55:=Tryz.zeroValue67
 t66:=Tryz.underlying283
 a66:=Tryz.isAgg283
 z66:=Tryz.sizeOf283
 v66:=Tryz.zeroValue283
 t70:=Tryz.underlying286
 a70:=Tryz.isAgg286
 z70:=Tryz.sizeOf286
 v70:=Tryz.zeroValue286
 t76:=Tryz.underlying295
 a76:=Tryz.isAgg295
 z76:=Tryz.sizeOf295
 v76:=Tryz.zeroValue295
 t77:=Tryz.underlying296
 a77:=Tryz.isAgg296
 z77:=Tryz.sizeOf296
 v77:=Tryz.zeroValue296}
end Go.Proofs
namespace Go.Ab
open Go.Proofs
def bkf:Entry:=bgT 56 38 bK CV Am
def afP:Nat×List bO->Option (Nat×List bO):=azZ 56 38 bK CV Am
def bbF{d:Nat×List bO}(h:ap4 (t:=bK) CV Am d):afP d=aw (d.1,acJ (t:=bK) Am d.2):=aOC h
def bgU:SG prog:=⟨97,jh,bkf,.of (bbK Tryz.bkc (by rfl) (λw=>Tryz.isAgg38 w) (λw=>Tryz.sizeOf38 w) yQ) (by rfl)⟩
def Cv{β:Type}{j:Ty}(u:j.comp=bn){x:j.den}{v:β}:∀ {l:List (j.den×β)},x ∉ l.map (·.1)->fi j x v l=l++ [(x,v)]
 |[],_=>rfl
 |p::l,h=>by
  rw[sP];have A:¬j.beq x p.1=bn:=λe=>h (by rw[beq_eq j _ _ u e];simp)
  rw[au A,Cv u λe=>h (by simp[e])];rfl
def eY:bK.comp=bn:=rfl
def Ck(l:List (bO×fh)):Int:=(l.map λp=>p.2.1.1).sum
def tO(p:bO×fh)(l:List (bO×fh)):Ck (p::l)=p.2.1.1+Ck l:=by simp[Ck]
def aA2(l j:List (bO×fh)):Ck (l++j)=Ck l+Ck j:=by simp[Ck]
def Kw{l j:List (bO×fh)}(h:l.Perm j):Ck l=Ck j:=by
 induction h with
 |nil=>rfl
 |cons x _ B=>rw[tO,tO,B]
 |swap x y l=>rw[tO,tO,tO,tO];omega
 |trans _ _ u A=>rw[u,A]
def alM{α:Type}{l:List α}{j:Nat}(h:j < aa l):l.Perm (l[j]::l.eraseIdx j):=by
 induction l generalizing j with
 |nil=>simp at h
 |cons x l u=>
  cases j with
  |zero=>exact jf _
  |succ j=>
   have h:j < aa l:=by simpa using h
   simp only[List.getElem_cons_succ,List.eraseIdx_cons_succ];exact((u h).cons x).trans (List.Perm.swap _ _ _)
def ayA{u vt:Ty}{l:List (u.den×vt.den)}{j:Nat}(h:j < aa l):ED u vt l j=l[j]:=by simp[ED,dH,cS h]
abbrev aw9:=Nat×(List cF)
abbrev aMW:=Nat×(List cF)
def adR:aw9->aMW->(((List cF))×(Nat×(List cF))):=λ(j,o0) y=>(o0,y)
def aP4:aw9->Prop:=λ(n,l)=>n<=aa l/\aa l<=1000000
def axa:aw9->aMW:=λ(n,l)=>(aa (l.take n),l.take n)
def ZO:Fs prog aP4 adR axa:=eP 184 f184 (λ(j,o0)=>([.dq (.dx 0) 0 [] 0 0 j],[.obj 0 aZ (.vec 243 eh o0)])) (λx=>⟨.dq (.new 0 0) 0 [] 0 0 x.2.1,[.obj 0 aZ (.vec 243 eh x.1)],[.obj 0 aZ (.vec 243 eh x.2.2)]⟩) [aC] [] {cd:=[5],owns:=[⟨2,[],5,146⟩]}
def aWK(j o0)(k:K1 R):ZO.A (j,o0) k=aA (decide (0 < j)) (aA (decide (0=0/\(0+j)<=(aa o0))) (aA (cM (0+(aa (cut o0 0 j))) 48) (k (ZO.out (o0,((0+(aa (cut o0 0 j))),((aJ 0 (ag 0 (([]:List de),(([]:List bO),()))))++(cut o0 0 j)))))) aC) aC) (nd (k (ZO.out (o0,(0,([]:List cF))))) (aA (decide (0=0/\(0+j)<=(aa o0))) (aA (cM (0+(aa (cut o0 0 j))) 48) (k (ZO.out (o0,((0+(aa (cut o0 0 j))),((aJ 0 (ag 0 (([]:List de),(([]:List bO),()))))++(cut o0 0 j)))))) aC) aC)):=bS
def aWL:ZO.Ok:=by
 rintro⟨n,l⟩ ⟨j,u⟩;have j:n<=aa l:=j;have u:aa l<=1000000:=u;have A:cut l 0 n=l.take n:=by simp[cut]
 have I:aa (l.take n)<=1000000:=by rw[bw];omega
 have B:cM (aa (l.take n)) 48=bn:=cg aq aq;rw[aWK];simp only[aO,A,B,ai,du,bf,gC,aK j,adR,axa];by_cases h:0 < n
 .simp only[aK h,ai]
 .have:n=0:=aq;subst this;simp only[du,bl,az,bE,ai,EB,aV (jb 0),al]
def aP5:ZO.RS:=rE [.n,.d (.slice eh)] ZO
def aWM:=ZO.bnI av6 aWL
abbrev P4:=Nat×(List (bO×fh))×(List cF)×(List (bO×fh))×(List cF)×Nat×(List (bO×fh))
abbrev agI:=(List (bO×fh))
def Bk:P4->agI->((Nat×(List (bO×fh))×(List cF)×(List cF)×Nat)×((List (bO×fh)))):=λ(u,B,I,n6,j,A,J) y=>((u,B,I,j,A),y)
abbrev aCg:=Nat×(List (bO×fh))×(List cF)
def art:P4->Prop:=λ(_,_,_,m,_,_,j)=>((m++j).map (·.1)).Nodup
def HR:P4->agI:=λ(_,_,_,m,_,_,j)=>jJ (m++j)
def aH7:aCg->Prop:=λ(n,a,s)=>n<=aa s/\aa s<=1000000/\(a.map (·.1)).Nodup
def aCh:aCg->(Nat×(List (bO×fh))×(List cF)×Nat×(List (bO×fh))×(List cF)):=λ(n,a,s)=>(n,a,s,aa (s.take n),jJ a,s.take n)
def C7(j u A B I):=(.pr (.dq (.dx j) u [] A B I) Pv:aF)
def C8(j u A):=([fp (.pr (.iI (.dx 1) 0) (C7 2 0 0 0 j)),fp (.mp bK mv u),fp (.vec 243 eh A)]:List dR)
def zi(j u):=(.iI (.dx j) u:aF)
def DD(j):=(.mp bK mv j:aF)
def Ib(j):=(.vec 243 eh j:aF)
def tS:Ls art Bk HR:=rI (λ(A,I,J,n6,j,B,u)=>⟨([bB,bB,bB,eI 13]++aP 14 ([eI 18]++aP 12 [])),[fp (.pr (zi 1 0) (C7 2 0 0 0 A)),.obj 0 bn (DD I),fp (Ib J)],(bz 6 ([dp (DD n6)]++bz 4 ([dp (Ib j),[],dp (.pr (QS 6 0 0) (.pr (uJ 11 B) Pv))]++bz 4 ([dp (.xB (.dx 1) 1 bK mv u aC)]++bz 12 []))))⟩) (λx=>(.exit 0,⟨([bB,bB,bB,eI 13]++aP 27 []),(C8 x.1.1 x.1.2.1 x.1.2.2.1),(bz 6 ([dp (DD x.2)]++bz 4 ([dp (Ib x.1.2.2.2.1),[],dp (.pr (QS 6 0 0) (.pr (uJ 11 x.1.2.2.2.2) Pv))]++bz 17 [])))⟩))
def CZ:Fs prog aH7 bt aCh:=eP 140 f140 (λ(j,o1,u)=>([.ptr (.dx 0) 0 [] 0],[.obj 0 aZ (.pr (.iI (.dx 1) 0) (.pr (.dq (.dx 2) 0 [] 0 0 j) (.d .unit ()))),.obj 0 aZ (.mp bK mv o1),.obj 0 aZ (.vec 243 eh u)])) (λx=>⟨.ptr (.new 0 0) 0 [] 0,[.obj 0 aZ (.pr (.iI (.dx 1) 0) (.pr (.dq (.dx 2) 0 [] 0 0 x.1) (.d .unit ()))),.obj 0 aZ (.mp bK mv x.2.1),.obj 0 aZ (.vec 243 eh x.2.2.1)],[.obj 0 aZ (.pr (.iI (.new 0 1) 0) (.pr (.dq (.new 0 2) 0 [] 0 0 x.2.2.2.1) (.d .unit ()))),.obj 0 aZ (.mp bK mv x.2.2.2.2.1),.obj 0 aZ (.vec 243 eh x.2.2.2.2.2)]⟩) [aC] [aWM] {cd:=[13],loops:=ko [(3,{aX:=[3,18],sites:=[6,11,13,18],bnA:=[18]})],outs:=km [(3,{aX:=[3],sites:=[6,11,13],biC:=[(.new 6 0)]},{aX:=[2]})],eT:=jW [(3,tS.E)]}
def aru:tS.RS:=rL [.n,.d (.slice (.pair bK mv)),.d (.slice eh),.d (.slice (.pair bK mv)),.d (.slice eh),.n,.d (.slice (.pair bK mv))] tS
def P5(A I J n6 u B j)(L:K2 R)(M:K3 R):CZ.R 0 tS (A,I,J,n6,u,B,j) L M=aA (decide (0 < (aa j))) (aXg (aa j) λK=>L (tS.st (A,I,J,(fi bK (ED bK mv j K).1 (ED bK mv j K).2 n6),u,B,(List.eraseIdx j K)))) (tS.go M ((A,I,J,u,B),(jJ n6))):=bS
def aQg(j o1 B)(k:K1 R):CZ.A (j,o1,B) k=ao (ZO.call (j,B)) λA=>ao (tS.call (j,o1,A.1,([]:List (bO×fh)),A.2.2,A.2.1,o1)) λu=>k (CZ.out (u.1.1,u.1.2.1,u.1.2.2.1,u.1.2.2.2.2,u.2,u.1.2.2.2.1)):=bS
def axn:(CZ.kA 0 tS):=by
 refine(CZ.bpu 0 tS) (λ(_,_,_,_,_,_,A)=>aa A) ?_
 rintro⟨n,a,s,m,u,k0,A⟩ I;have I:((m++A).map (·.1)).Nodup:=I;by_cases h:0 < aa A
 .left;have J:∀j,j < aa A->fi bK (ED bK mv A j).1 (ED bK mv A j).2 m=m++ [ED bK mv A j]:=λj B=>by rw[Cv eY];intro L;rw[qR,List.nodup_append]at I;exact I.2.2 _ L _ (dE.2 ⟨_,aD B,by rw[ayA B]⟩) rfl
  have K:∀j,j < aa A->(m++ [ED bK mv A j]++A.eraseIdx j).Perm (m++A):=λj B=>by rw[aR,ayA B];exact List.Perm.append_left _ (alM B).symm
  refine⟨aa A,λj=>(n,a,s,fi bK (ED bK mv A j).1 (ED bK mv A j).2 m,u,k0,A.eraseIdx j),h,λj B=>⟨?_,?_,?_⟩,λM O=> ?_⟩
  .show((fi bK (ED bK mv A j).1 (ED bK mv A j).2 m++A.eraseIdx j).map (·.1)).Nodup;rw[J j B];exact(((K j B).map _).nodup_iff).2 I
  .show aa (A.eraseIdx j) < aa A;rw[List.length_eraseIdx,av B];omega
  .simp only[Bk,HR,J j B];rw[aty (K j B)]
  .rw[P5,aK h,ai]
 .right;obtain rfl:A=[]:=bV aq;intro T M O;rw[P5,aV h,al];simp only[Bk,HR,bm]
def aQh:CZ.Ok:=by rintro⟨n,a,s⟩ ⟨j,u,A⟩;have j:n<=aa s:=j;have u:aa s<=1000000:=u;rw[aQg,aP5 (d:=(n,s)) ⟨j,u⟩];simp only[ah,adR,axa];rw[aru (d:=(n,a,s,[],s.take n,aa (s.take n),a)) A];simp only[ah,Bk,HR,bt,aCh,bf]
def aH8:CZ.RS:=rE [.n,.d (.slice (.pair bK mv)),.d (.slice eh)] CZ
def atU:=CZ.eQ aQh 1 ⟨.eg axn,trivial⟩
abbrev adV:=dW×Nat×Nat×Int×Int×Int×(List kF)
abbrev atQ:=(List kF)×(List kF)
def aB2:adV->atQ->((dW×Int)×((List kF)×(List kF))):=λ(j,I,u,A,B,n2,J) y=>((j,n2),y)
def bpU(l:Lk):Prop:=aa l.1<=1000/\∀b∈l.1,aa b.1<=1000000
def aB1:adV->Prop:=λ(_,n,m,t,i,_,l)=>(aa l<=1000/\∀b∈l,aa b.1<=1000000)/\∃k:Nat,k<=aa l/\i=k/\n=aa l/\m=aa l/\t=aa l
def aP9:adV->atQ:=λ(_,_,_,_,_,_,l)=>(l,l)
def aWT:dW->Prop:=λo=>bpU o.2.1
def aH3:dW->dW:=λo=>o
def Bj:Ls aB1 aB2 aP9:=rI (λ(B,I,j,u,A,n2,J)=>⟨([bB,.iU dI B,eI 2,uJ 9 I]++aP 6 ([uJ 9 j,aU u,aU A]++aP 17 [])),[],([[],[],dp (.pr (aU n2) (.pr (Ia) Pv))]++bz 6 ([dp (Ic J)]++bz 20 []))⟩) (λx=>(.exit 0,⟨([bB,.iU dI x.1.1,eI 2,ahD x.2.1]++aP 26 []),[],([[],[],dp (.pr (aU x.1.2) (.pr (Ia) Pv))]++bz 6 ([[.obj 0 bn (Ic x.2.2)]]++bz 20 []))⟩))
def aiZ:Fs prog aWT bt aH3:=eP 79 f79 (λo=>([.d dI o],[])) (λx=>⟨.d dI x,[],[]⟩) [aw dI] [aMV,aeE] {loops:=ko [(3,{aX:=[1,2,3,10,11,12],sites:=[2,9]})],outs:=km [(3,{aX:=[1,2,3],sites:=[2,9],data:=[(3,(.slice iq))]},{aX:=[2]})],eT:=jW [(3,Bj.E)],res:=[aw dI]}
def aB3:Bj.RS:=rL [.d dI,.n,.n,.d ti,.d ti,.d ti,.d (.slice iq)] Bj
def ZP(J I A B j n2 u)(K:K2 R)(L:K3 R):aiZ.R 0 Bj (J,I,A,B,j,n2,u) K L=aA (fj j B) (aA (dB j ((A:Nat):Int)) (aA (decide ((0+(ae j)) < (aa u))) (aA (decide ((((0+(ae j))*4)+0)=(0+((ae j)*4)))) (ao (Gx.call (nth iq u (0+(ae j))).1) λM=>aA (dB j ((I:Nat):Int)) (aA (decide ((0+(ae j)) < (aa u))) (aA (decide ((((0+(ae j))*4)+0)=((0+((ae j)*4))+0))) (aA (decide ((0+(ae j)) < (aa u))) (K (Bj.st (J,I,A,B,(bC .i64 j 1),n2,(gq u (0+(ae j)) (M,(nth iq u (0+(ae j))).2))))) aC) aC) aC) aC) aC) aC) aC) (aA (decide (0=0/\(0+I)<=(aa u))) (Bj.go L ((J,n2),((cut u 0 I),u))) aC):=bS
def beb(o)(k:K1 R):aiZ.A o k=ao (arp.call o.2.1.1) λj=>ao (Bj.call (o,j.1,j.1,((j.1:Nat):Int),0,0,j.2)) λu=>k (aiZ.out (u.1.1.1,((u.2.1,()),()))):=bS
def aH4:(aiZ.kA 0 Bj):=by
 refine(aiZ.lS 0 Bj) (λ(_,_,_,_,i,_,l)=>aa l - i.toNat) ?_
 rintro⟨o,n,m,t,i,u,l⟩ ⟨⟨j,B⟩,k,A,rfl,rfl,rfl,rfl⟩;have j:aa l<=1000:=j;have A:k<=aa l:=A;by_cases h:k < aa l
 .left;have n1:nth iq l k=l[k]:=bG (t:=iq) h;have J:l.set k l[k]=l:=iE h;have e:=B _ (aD h);refine⟨(o,aa l,aa l,(aa l:Int),((k+1:Nat):Int),u,l),⟨⟨j,B⟩,k+1,aq,rfl,rfl,rfl,rfl⟩,by simp only[ab];omega,rfl,λI K=> ?_⟩;rw[ZP,aN aq,aS aq aq];simp only[ab,aO,bY,ai,aK h,bE,n1];rw[Yc (d:=l[k].1) e];simp only[ah,bt,aa2];rw[N.iY aq];exact bA (λz=>I (Bj.st (_,_,_,_,_,_,z))) J
 .right;obtain rfl:k=aa l:=aq;intro R I K;rw[ZP,aL aq,al,aK aq,ai,dM rfl];rfl
def bec:aiZ.Ok:=by rintro⟨a,⟨l,u⟩,v⟩ ⟨j,A⟩;have j:aa l<=1000:=j;rw[beb,aBQ (d:=l) (by show aa l<=_;omega)];simp only[ah,bt,aw4];rw[aB3 (d:=((a,(l,u),v),aa l,aa l,(aa l:Int),0,0,l)) ⟨⟨j,A⟩,0,az _,rfl,rfl,rfl,rfl⟩];rfl
def aB4:aiZ.RS:=rE [.d dI] aiZ
def aMY:=aiZ.eQ bec 1 ⟨.eg aH4,trivial⟩
abbrev F6:=Int×(List dW)×Int×Int×(List (bO×fh))
def sz:F6->AS:=λ(u,A,B,I,j)=>⟨([bB,bB,bB,eI 12,aU u]++aP 8 ([qX A,aU B,aU I]++aP 35 [])),[],(bz 10 ([dp (DD j),[],dp (.pr (QS 10 0 0) (Ia))]++bz 38 []))⟩
def gw:Unit->Exit×AS:=λx=>(.ret,⟨([bB,bB,.qW]++aP 48 []),[],(ag 51 [])⟩)
abbrev agK:=(List (bO×fh))
def D9:agK->Exit×AS:=λx=>(.exit 0,⟨([bB,bB,bB,eI 12]++aP 47 []),[],(bz 10 ([dp (DD x),[],dp (.pr (QS 10 0 0) (Ia))]++bz 38 []))⟩)
abbrev Xi:=(Unit)⊕(agK)
abbrev alz:=(Unit)⊕(((List (bO×fh))))
def Mr:Xi->Out (Exit×AS):=λx=> .br x.isLeft (.get x.getLeft? λa=> .ok (gw a)) (.get x.getRight? λb=> .ok (D9 b))
def ng:F6->alz->Xi:=λ(u,A,B,I,j) y=>match y with | .inl y=> .inl y | .inr z=> .inr (z)
abbrev Z1:=(List dW)
def alC:Z1->SA:=λouts=>([qX outs],[])
abbrev aM6:=(Unit)⊕((List (bO×fh))×(List cF))
abbrev axq:=(Unit)⊕((List (bO×fh))×(List cF))
def CA(j u A B I J):=(.pr (.dq (.new j u) A [] B I J) Pv:aF)
def auY(j u A B I J K L M):=(fp (.pr (QS j u A) (CA B I J K L M)):dR)
def KI:axq->hZ:=λx=>match x with | .inl x=>⟨.qW,[],[]⟩ | .inr x=>⟨eI 0,[],[auY 0 1 0 0 2 0 0 0 0,fp (DD x.1),fp (Ib x.2)]⟩
def Tx:Z1->aM6->axq:=λouts y=>match y with | .inl y=> .inl y | .inr y=> .inr y
def yR(k:Nat)(o:dW):bO×fh:=((ag 32 (0:Int),((k:Int),())),(o,((0:Int),())))
def sU(j:Int)(o:dW):Bool:=lN o.2.1 && decide (0<=o.1/\o.1<=1125899906842624 - j)
def EC(j:Int)(k:Nat):List dW->Option (List (bO×fh))
 |[]=>aw []
 |o::l=>match sU j o with | true=>(EC (j+o.1) (k+1) l).map (yR k o:: ·) | false=>aC
def Gq(outs:List dW):Option (List (bO×fh)):=if aa outs<=256 then EC 0 0 outs else aC
def Pj(o:dW):Prop:=akk o.2.1/\aa o.2.1.1<=9223372036854775807/\o.1<=9223372036854775807
def D8:F6->Prop:=λ(j,outs,n,i,a)=>(∀o∈outs,Pj o)/\aa outs<=256/\0<=j/\j<=1125899906842624/\∃k:Nat,k<=aa outs/\i=k/\n=aa outs/\∀p∈a,p.1.2.1 < (k:Int)
def sy:F6->alz:=λ(j,outs,_,i,a)=>match EC j i.toNat (outs.drop i.toNat) with | none=> .inl () | some r=> .inr (a++r)
def adX:Z1->Prop:=λouts=>∀o∈outs,Pj o
def Z2:Z1->aM6:=λouts=>match Gq outs with | none=> .inl () | some r=> .inr (r,[])
def axo:qN:=gU (P:=prog) [KT,aMY]
def aly:=cQ.eg sz D8 ng sy Mr
def UT:F6->Option Xi:=eN aly sz
def alA:yu:= {cd:=[12],loops:=ko [(5,{aX:=[3,4,13,14,15],sites:=[10,12]})],outs:=km [(5,{aX:=[3],sites:=[10,12]},{aX:=[2]})],eT:=jW [(5,aly)],owns:=[⟨2,[.snd,.fst],0,146⟩]}
def aM4:= @FI prog axo alA 0 f32 _ alC
abbrev aW8:=WS @aM4 adX Tx Z2 KI
def Xh:= @dm prog axo alA 0 f32 0 _ sz
abbrev agJ:=gr prog axo alA 0 f32 0 sz D8 ng sy Mr
def axp:fC UT D8 ng sy:=ia (fy [.d ti,.d (.slice dI),.d ti,.d ti,.d (.slice (.pair bK mv))] λ_=>bS)
def Z3:iX @Xh sz D8 ng sy Mr agJ:=ji
def UU(B u I j A)(K:K2 R)(J:K3 R):Xh (B,u,I,j,A) K J=aA (fj j I) (aA (dB j (((aa u):Nat):Int)) (ao (sO.call (nth dI u (ae j)).2.1) λL=>aA (!L) (J (gw ()).1 (gw ()).2) (aA (fj (nth dI u (ae j)).1 (0:Int)) (J (gw ()).1 (gw ()).2) (aA (qi (nth dI u (ae j)).1 (cY .i64 (1125899906842624:Int) B)) (J (gw ()).1 (gw ()).2) (ao (aiZ.call (nth dI u (ae j))) λM=>K (sz ((bC .i64 B (nth dI u (ae j)).1),u,I,(bC .i64 j (1:Int)),(fi bK ((ag 32 (0:Int)),(j,())) (M,((0:Int),())) A))))))) aC) (J (D9 A).1 (D9 A).2):=bS
def aW9(outs)(k:K1 R):aM4 outs k=aA (qi (((aa outs):Nat):Int) (256:Int)) (k (KI (.inl ()))) (ao (UT ((0:Int),outs,(((aa outs):Nat):Int),(0:Int),([]:List (bO×fh)))) λj=>aA j.isLeft (ao j.getLeft? λA=>k (KI (.inl ()))) (ao j.getRight? λu=>k (KI (.inr (u,([]:List cF)))))):=bS
def aCi:agJ:=by
 refine Z3 (λ(_,outs,_,i,_)=>aa outs - i.toNat) ?_
 rintro⟨j,outs,n,i,a⟩ ⟨hg,K,O,T,k,hk,rfl,rfl,hf⟩;have O:0<=j:=O;have T:j<=1125899906842624:=T;have K:aa outs<=256:=K;have hk:k<=aa outs:=hk;by_cases h:k < aa outs
 .obtain⟨g1,g2,g3⟩:=hg _ (aD h);have n1:nth dI outs k=outs[k]:=bG (t:=dI) h;have hd:outs.drop k=outs[k]::outs.drop (k+1):=ak h
  have hs:∀ {R:Type} (I:AS->Option R) (B:Exit->AS->Option R),Xh (j,outs,(aa outs:Int),(k:Int),a) I B=
    aA (!(lN outs[k].2.1)) (B (gw ()).1 (gw ()).2) (aA (fj outs[k].1 0) (B (gw ()).1 (gw ()).2) (aA (qi outs[k].1 (1125899906842624 - j)) (B (gw ()).1 (gw ()).2)
     (ao (aiZ.call outs[k]) λx2=>I (sz ((bC .i64 j outs[k].1),outs,(aa outs:Int),(bC .i64 (k:Int) (1:Int)),(fi bK ((ag 32 (0:Int)),((k:Int),())) (x2,((0:Int),())) a)))))):=λI B=>by
   rw[UU,aN aq,ai,aS aq aq,ai,ab,n1,Gm (d:=outs[k].2.1) ⟨g1,g2⟩,eO aq aq];rfl
  by_cases L:sU j outs[k]=bn
  .left;have u:=L;unfold sU at u;simp only[aQ,bJ]at u;obtain⟨k1,M,k3⟩:=u;have axU:=Qr k1;refine⟨(j+outs[k].1,outs,(aa outs:Int),((k+1:Nat):Int),a++ [yR k outs[k]]),⟨hg,K,by show 0<=j+outs[k].1;omega,by show j+outs[k].1<=_;omega,k+1,aq,rfl,rfl,λp hp=> ?_⟩,by simp only[ab];omega,?_,λI B=> ?_⟩
   .rcases bZ.1 hp with hp | hp
    .have:=hf p hp;omega
    .rw[bM.1 hp];show(k:Int) < _;omega
   .simp only[ng,sy,ab,hd,EC,L];cases EC (j+outs[k].1) (k+1) (outs.drop (k+1)) with
    |none=>rfl
    |some r=>simp only[kB,aR,cv]
   .rw[hs,k1,bW,al,aL aq,al,ct aq,al,aB4 (d:=outs[k]) ⟨aq,λb hb=>by have:=axU.2 b hb;omega⟩];simp only[ah,bt,aH3];rw[eS aq aq,N.iY aq,Cv eY]
    .rfl
    .intro hm;obtain⟨p,hp,J⟩:=dE.1 hm;have:=hf p hp;have J:p.1=_:=J;rw[J]at this;have this:(k:Int) < k:=this;omega
  .right;have A:sU j outs[k]=aZ:=by simpa using L
   refine⟨gw (),?_,λI B=> ?_⟩;rotate_left
   .rw[hs];unfold sU at A;cases k1:lN outs[k].2.1 with
    |false=>rw[eJ,ai]
    |true=>
     rw[k1]at A;simp only[bH,iR]at A;rw[bW,al];by_cases M:outs[k].1 < 0
     .rw[aN M,ai]
     .rw[aL M,al,cW aq,ai]
   .simp only[ng,sy,ab,hd,EC,A];rfl
 .right;obtain rfl:k=aa outs:=aq;refine⟨D9 a,?_,λI B=> ?_⟩;rotate_left
  .rw[UU,aL aq,al]
  .simp only[ng,sy,ab,ay,EC,bm];rfl
def aXa:aW8:=by
 intro outs j;rw[aW9];simp only[Tx,Z2,Gq];by_cases h:aa outs<=256
 .rw[ct aq,al,axp (d:=(0,outs,(aa outs:Int),0,[])) ⟨j,h,fm,fm,0,az _,rfl,rfl,λp u=>by cases u⟩,av h];simp only[ah,ng,sy,aW,aH];cases EC 0 0 outs with
  |none=>rfl
  |some r=>rfl
 .rw[cW aq,ai,au h]
def aM5:=Entry.Ug [aw (.slice dI)] alC adX Tx Z2 KI
def alB:Z1->Option axq:=Du aM5 alC
def aQi:fC alB adX Tx Z2:=LN (Pp [.d (.slice dI)] λ_=>bS)
def aXb:SG prog:=⟨32,jh,aM5,.of (.aOE (.fn 1 bS aXa (iD (.eg aCi bS) trivial))) (by rfl)⟩
def bnO(c:fh):Prop:=lN c.1.2.1=bn/\akk c.1.2.1/\0<=c.1.1/\c.1.1<=1125899906842624/\0<=c.2.1/\c.2.1<=1048576
def aq8(a:List (bO×fh)):Prop:=(a.map (·.1)).Nodup/\∀p∈a,CV p.1/\bnO p.2
def aq8.get{a:List (bO×fh)}(h:aq8 a){o:bO}{c:fh}(j:bT bK o a=aw c):bnO c:=(h.2 _ ((lO eY h.1).1 j)).2
def bcX:fh:=((0,(([],()),())),(0,()))
abbrev F4:=Int×di×Int×(List gb)×Int×Int×Nat×(List (bO×fh))×(List cF)×Bs
def sw:F4->AS:=λ(K,L,M,u,A,B,j,I,J,O)=>⟨([dK,bB,aU K,bB,iL L,bB,bB,bB,eI 8,aU M]++aP 25 ((aa8 u A B)++aP 69 [])),(C8 j I J),(bz 8 ([dp (fW O)]++bz 98 []))⟩
abbrev agD:=(Nat×(List (bO×fh))×(List cF))×(Int)
def kP:agD->Exit×AS:=λ((a,b,c),e)=>(.ret,⟨(aP 6 ([aa9 0,aU e]++aP 99 [])),(C8 a b c),(ag 107 [])⟩)
abbrev agE:=(di×Nat×(List (bO×fh))×(List cF))×(Int)
def D3:agE->Exit×AS:=λ((a,b,c,e),f)=>(.exit 0,⟨([dK,bB,bB,bB,iL a]++aP 4 ([aU f]++aP 97 [])),(C8 b c e),(ag 107 [])⟩)
abbrev Xe:=(agD)⊕(agE)
abbrev alu:=(Int)⊕(Int)
def Mo:Xe->Out (Exit×AS):=λx=> .br x.isLeft (.get x.getLeft? λa=> .ok (kP a)) (.get x.getRight? λb=> .ok (D3 b))
def kO:F4->alu->Xe:=λ(L,B,M,I,J,K,j,u,A,O) y=>match y with | .inl y=> .inl ((j,u,A),y) | .inr z=> .inr (((B,j,u,A),z))
abbrev F5:=di×Int×(List bO)×Int×Int×Nat×(List (bO×fh))×(List cF)
def Oy(j):=(.d (.slice bK) j:aF)
def xw:F5->AS:=λ(L,B,j,u,A,I,J,K)=>⟨([dK,bB,bB,bB,iL L]++aP 4 ([aU B]++aP 65 ([Oy j,aU u,aU A]++aP 29 []))),(C8 I J K),(ag 107 [])⟩
abbrev agG:=Nat×(List (bO×fh))×(List cF)
def D5:agG->Exit×AS:=λ(a,b,c)=>(.ret,⟨(aP 6 ([aa9 0,aa9 4]++aP 99 [])),(C8 a b c),(ag 107 [])⟩)
abbrev agH:=di×Int×Nat×(List (bO×fh))×(List cF)
def D6:agH->Exit×AS:=λ(a,b,c,e,f)=>(.exit 2,⟨(aP 4 ([iL a]++aP 4 ([aU b]++aP 97 []))),(C8 c e f),(ag 107 [])⟩)
abbrev Xf:=(agG)⊕(agH)
abbrev alx:=(Unit)⊕(Unit)
def Mp:Xf->Out (Exit×AS):=λx=> .br x.isLeft (.get x.getLeft? λa=> .ok (D5 a)) (.get x.getRight? λb=> .ok (D6 b))
def nf:F5->alx->Xf:=λ(I,B,J,K,L,j,u,A) y=>match y with | .inl y=> .inl (j,u,A) | .inr z=> .inr ((I,B,j,u,A))
abbrev Xg:=Int×(List dW)×Int×Int×Nat×(List (bO×fh))×(List cF)
def D7:Xg->Int->((Nat×(List (bO×fh))×(List cF))×(Int)):=λ(A,B,I,J,K,u,j) y=>((K,u,j),y)
abbrev aM3:=di×Int×Nat×(List (bO×fh))×(List cF)
def ua(h:Int)(id:List Int)(a:List (bO×fh)):List gb->Int->Int⊕Int
 |[],j=> .inr j
 |x::l,j=>match bT bK x.1 a with
  |none=> .inl 5
  |some c=>if sR c.1.2.1 x.2.1 id h (h - c.2.1)≠0 then .inl (sR c.1.2.1 x.2.1 id h (h - c.2.1)) else ua h id a l (j+c.1.1)
def mD(a:List (bO×fh))(o:bO):Bool:=(bT bK o a).isSome
def il(l:List dW):Int:=(l.map (·.1)).sum
def dw(t:di)(h:Int)(a:List (bO×fh)):Int×Int:=
 if ig t=bn/\1<=h/\h<=1048576 then
  match ua h (mw t) a t.1 0 with
  | .inl e=>(0,e)
  | .inr j=>if(gI t).any (mD a)=bn then(0,4) else if j - il t.2.1 < 0 then(0,8) else(j - il t.2.1,0)
 else(0,1)
def D2:F4->Prop:=λ(h,_,j,l,n,i,_,a,_,id)=>(0<=h/\h<=1048576)/\Sm id/\aa l<=64/\(∀x∈l,bnP x)/\aq8 a/\∃k:Nat,k<=aa l/\i=k/\n=aa l/\0<=j/\j<=(k:Int)*1125899906842624
def qe:F4->alu:=λ(h,_,j,l,_,i,_,a,_,id)=>ua h id a (l.drop i.toNat) j
def D4:F5->Prop:=λ(_,_,l,n,i,_,_,_)=>aa l<=1000/\∃k:Nat,k<=aa l/\i=k/\n=aa l
def sx:F5->alx:=λ(_,_,l,_,i,_,a,_)=>if(l.drop i.toNat).any (mD a)=bn then .inl () else .inr ()
def axl:Xg->Prop:=λ(j,l,n,i,_,_,_)=>aa l<=64/\(∀o∈l,0<=o.1/\o.1<=1125899906842624)/\∃k:Nat,k<=aa l/\i=k/\n=aa l/\ -((k:Int)*1125899906842624)<=j/\j<=1000000000000000000
def Mq:Xg->Int:=λ(j,l,_,i,_,_,_)=>j - il (l.drop i.toNat)
def aQf:aM3->Prop:=λ(t,_,_,a,_)=>mE t/\aq8 a
def axi:aM3->(Int×Int×Nat×(List (bO×fh))×(List cF)):=λ(t,h,n,a,s)=>((dw t h a).1,(dw t h a).2,n,a,s)
def als:=cQ.eg sw D2 kO qe Mo
def UQ:F4->Option Xe:=eN als sw
def alv:=cQ.eg xw D4 nf sx Mp
def UR:F5->Option Xf:=eN alv xw
def yS:Ls axl D7 Mq:=rI (λ(u,A,B,I,K,J,j)=>⟨(aP 9 ([aU u]++aP 83 ([qX A,aU B,aU I]++aP 11 []))),(C8 K J j),(ag 107 [])⟩) (λx=>(.exit 4,⟨(aP 9 ([aU x.2]++aP 97 [])),(C8 x.1.1 x.1.2.1 x.1.2.2),(ag 107 [])⟩))
def pj:Fs prog aQf bt axi:=eP 182 f182 (λ(t,j,u,o1,A)=>([.ptr (.dx 0) 0 [] 0,.d eU t,.d ti j],[.obj 0 aZ (.pr (.iI (.dx 1) 0) (.pr (.dq (.dx 2) 0 [] 0 0 u) (.d .unit ()))),.obj 0 aZ (.mp bK mv o1),.obj 0 aZ (.vec 243 eh A)])) (λx=>⟨.cons (.d ti x.1) (.cons (.d ti x.2.1) (.nil)),[.obj 0 aZ (.pr (.iI (.dx 1) 0) (.pr (.dq (.dx 2) 0 [] 0 0 x.2.2.1) (.d .unit ()))),.obj 0 aZ (.mp bK mv x.2.2.2.1),.obj 0 aZ (.vec 243 eh x.2.2.2.2)],[]⟩) [aC,aw eU,aw ti] [ym,aqo,aYP,aGh] {loops:=ko [(5,{aX:=[0,2,4,8,9,35,36,37],sites:=[8]}),(16,{aX:=[0,4,9,75,76,77]}),(23,{aX:=[9,93,94,95]})],outs:=km [(5,{aX:=[0,4,9]},{aX:=[6,7]}),(16,{aX:=[4,9]},{aX:=[6,7]}),(23,{aX:=[9]},{aX:=[6,7]})],eT:=jW [(5,als),(16,alv),(23,yS.E)]}
def Xd:= @dm prog (gU pj.G) pj.an 0 f182 0 _ sw
abbrev agC:=gr prog (gU pj.G) pj.an 0 f182 0 sw D2 kO qe Mo
def alw:= @dm prog (gU pj.G) pj.an 0 f182 1 _ xw
abbrev agF:=gr prog (gU pj.G) pj.an 0 f182 1 xw D4 nf sx Mp
def axj:fC UQ D2 kO qe:=ia (fy [.d ti,.d eU,.d ti,.d (.slice fK),.d ti,.d ti,.n,.d (.slice (.pair bK mv)),.d (.slice eh),.d tB] λ_=>bS)
def ZZ:iX @Xd sw D2 kO qe Mo agC:=ji
def Jn(K L M A J j u B I T)(kn:K2 R)(O:K3 R):Xd (K,L,M,A,J,j,u,B,I,T) kn O=aA (fj j J) (aA (dB j (((aa A):Nat):Int)) (aA (!(bT bK (nth fK A (ae j)).1 B).isSome) (O (kP ((u,B,I),(5:Int))).1 (kP ((u,B,I),(5:Int))).2) (ao (po.call (((bT bK (nth fK A (ae j)).1 B).getD (((0:Int),((([]:List kF),()),())),((0:Int),()))).1.2.1,(nth fK A (ae j)).2.1,T,K,(cY .i64 K ((bT bK (nth fK A (ae j)).1 B).getD (((0:Int),((([]:List kF),()),())),((0:Int),()))).2.1))) λx1=>aA (pb x1 (0:Int)) (O (kP ((u,B,I),x1)).1 (kP ((u,B,I),x1)).2) (kn (sw (K,L,(bC .i64 M ((bT bK (nth fK A (ae j)).1 B).getD (((0:Int),((([]:List kF),()),())),((0:Int),()))).1.1),A,J,(bC .i64 j (1:Int)),u,B,I,T))))) aC) (O (D3 ((L,u,B,I),M)).1 (D3 ((L,u,B,I),M)).2):=bS
def axk:fC UR D4 nf sx:=ia (fy [.d eU,.d ti,.d (.slice bK),.d ti,.d ti,.n,.d (.slice (.pair bK mv)),.d (.slice eh)] λ_=>bS)
def Z0:iX @alw xw D4 nf sx Mp agF:=ji
def Jo(L K u B j I A J)(O:K2 R)(M:K3 R):alw (L,K,u,B,j,I,A,J) O M=aA (fj j B) (aA (dB j (((aa u):Nat):Int)) (aA ((bT bK (nth bK u (ae j)) A).isSome) (M (D5 (I,A,J)).1 (D5 (I,A,J)).2) (O (xw (L,K,u,B,(bC .i64 j (1:Int)),I,A,J)))) aC) (M (D6 (L,K,I,A,J)).1 (D6 (L,K,I,A,J)).2):=bS
def axm:yS.RS:=rL [.d ti,.d (.slice dI),.d ti,.d ti,.n,.d (.slice (.pair bK mv)),.d (.slice eh)] yS
def US(B u I j K J A)(L:K2 R)(M:K3 R):pj.R 2 yS (B,u,I,j,K,J,A) L M=aA (fj j I) (aA (dB j (aa u:Int)) (L (yS.st ((cY .i64 B (nth dI u (ae j)).1),u,I,(bC .i64 j 1),K,J,A))) aC) (yS.go M ((K,J,A),B)):=bS
def aW6(t j u o1 I)(k:K1 R):pj.A (t,j,u,o1,I) k=ao (jv.call t) λT=>aA (!T) (k (pj.out (0,1,u,o1,I))) (aA (fj j 1) (k (pj.out (0,1,u,o1,I))) (aA (qi j 1048576) (k (pj.out (0,1,u,o1,I))) (ao (tid.call t) λx2=>ao (UQ (j,t,0,t.1,(aa t.1:Int),0,u,o1,I,x2)) λL=>aA L.isLeft (ao L.getLeft? λJ=>k (pj.out (0,J.2,J.1.1,J.1.2.1,J.1.2.2))) (ao L.getRight? λB=>ao (O6.call B.1.1) λO=>ao (UR (B.1.1,B.2,O,(aa O:Int),0,B.1.2.1,B.1.2.2.1,B.1.2.2.2)) λM=>aA M.isLeft (ao M.getLeft? λK=>k (pj.out (0,4,K.1,K.2.1,K.2.2))) (ao M.getRight? λaO7=>ao (yS.call (aO7.2.1,aO7.1.2.1,(aa aO7.1.2.1:Int),0,aO7.2.2.1,aO7.2.2.2.1,aO7.2.2.2.2)) λA=>aA (fj A.2 0) (k (pj.out (0,8,A.1.1,A.1.2.1,A.1.2.2))) (k (pj.out (A.2,0,A.1.1,A.1.2.1,A.1.2.2)))))))):=bS
def aCc:agC:=by
 refine ZZ (λ(_,_,_,l,_,i,_,_,_,_)=>aa l - i.toNat) ?_
 rintro⟨h,t,j,l,n,i,o,a,s,id⟩ ⟨⟨u,A⟩,eH,hl,hu,ha,k,hk,rfl,rfl,L,K⟩;have u:0<=h:=u;have A:h<=1048576:=A;have hl:aa l<=64:=hl;have L:0<=j:=L;have K:j<=(k:Int)*1125899906842624:=K;have hk:k<=aa l:=hk;by_cases O:k < aa l
 .have hx:=hu _ (aD O);have n1:nth fK l k=l[k]:=bG (t:=fK) O;have T:l.drop k=l[k]::l.drop (k+1):=ak O;cases J:bT bK l[k].1 a with
  |none=>
   right;refine⟨kP ((o,a,s),5),?_,λB I=> ?_⟩;rotate_left
   .rw[Jn,aN aq,ai,aS aq aq,ai,ab,n1,J];simp only[wB,eJ,ai]
   .simp only[kO,qe,ab,T,ua,J];rfl
  |some c=>
   have hc:=ha.get J;obtain⟨c1,c2,c3,c4,c5,c6⟩:=hc
   have u7:∀ {R:Type} (B:AS->Option R) (I:Exit->AS->Option R),Xd (h,t,j,l,(aa l:Int),(k:Int),o,a,s,id) B I=
     aA (pb (sR c.1.2.1 l[k].2.1 id h (h - c.2.1)) 0) (I (kP ((o,a,s),sR c.1.2.1 l[k].2.1 id h (h - c.2.1))).1 (kP ((o,a,s),sR c.1.2.1 l[k].2.1 id h (h - c.2.1))).2)
      (B (sw (h,t,j+c.1.1,l,(aa l:Int),((k+1:Nat):Int),o,a,s,id))):=λB I=>by
    rw[Jn,aN aq,ai,aS aq aq,ai,ab,n1,J];simp only[Option.isSome_some,bW,al,lJ];rw[eO aq aq,aRf (d:=(c.1.2.1,l[k].2.1,id,h,h - c.2.1)) ⟨c2,by have:=Qr c1;omega,hx.2.1,eH⟩];simp only[ah,bt,aym];rw[eS aq aq,N.iY aq]
   by_cases M:sR c.1.2.1 l[k].2.1 id h (h - c.2.1)=0
   .left;refine⟨(h,t,j+c.1.1,l,(aa l:Int),((k+1:Nat):Int),o,a,s,id),⟨⟨u,A⟩,eH,hl,hu,ha,k+1,aq,rfl,rfl,by show 0<=j+c.1.1;omega,by show j+c.1.1<=_;omega⟩,by simp only[ab];omega,?_,λB I=> ?_⟩
    .simp only[kO,qe,ab,T,ua,J,M,ne_eq,not_true_eq_false,bq]
    .rw[u7,bU M,al]
   .right;refine⟨kP ((o,a,s),sR c.1.2.1 l[k].2.1 id h (h - c.2.1)),?_,λB I=> ?_⟩;rotate_left
    .rw[u7,dj M,ai]
    .simp only[kO,qe,ab,T,ua,J];rw[av M];rfl
 .right;obtain rfl:k=aa l:=aq;refine⟨D3 ((t,o,a,s),j),?_,λB I=> ?_⟩;rotate_left
  .rw[Jn,aL aq,al]
  .simp only[kO,qe,ab,ay,ua];rfl
def aCd:agF:=by
 refine Z0 (λ(_,_,l,_,i,_,_,_)=>aa l - i.toNat) ?_
 rintro⟨t,J,l,n,i,o,a,s⟩ ⟨u,k,I,rfl,rfl⟩;have u:aa l<=1000:=u;have I:k<=aa l:=I;by_cases A:k < aa l
 .have n1:nth bK l k=l[k]:=bG (t:=bK) A;have B:l.drop k=l[k]::l.drop (k+1):=ak A;cases j:(bT bK l[k] a).isSome with
  |true=>
   right;refine⟨D5 (o,a,s),?_,λK L=> ?_⟩;rotate_left
   .rw[Jo,aN aq,ai,aS aq aq,ai,ab,n1,j,ai]
   .simp only[nf,sx,ab,B,iG,mD,j,pM,bQ];rfl
  |false=>
   left;refine⟨(t,J,l,(aa l:Int),((k+1:Nat):Int),o,a,s),⟨u,k+1,aq,rfl,rfl⟩,by simp only[ab];omega,?_,λK L=> ?_⟩
   .simp only[nf,sx,ab,B,iG,mD,j,ja]
   .rw[Jo,aN aq,ai,aS aq aq,ai,ab,n1,j,al,N.iY aq]
 .right;obtain rfl:k=aa l:=aq;refine⟨D6 (t,J,o,a,s),?_,λK L=> ?_⟩;rotate_left
  .rw[Jo,aL aq,al]
  .simp only[nf,sx,ab,ay,List.any_nil,bu,bq];rfl
def aCe:(pj.kA 2 yS):=by
 refine(pj.lS 2 yS) (λ(_,l,_,i,_,_,_)=>aa l - i.toNat) ?_
 rintro⟨A,l,n,i,o,a,s⟩ ⟨I,K,k,J,rfl,rfl,u,j⟩;have I:aa l<=64:=I;have J:k<=aa l:=J;have u: -((k:Int)*1125899906842624)<=A:=u;have j:A<=1000000000000000000:=j;by_cases B:k < aa l
 .left;have n1:nth dI l k=l[k]:=bG (t:=dI) B;have L:l.drop k=l[k]::l.drop (k+1):=ak B;have T:=K _ (aD B);refine⟨(A - l[k].1,l,(aa l:Int),((k+1:Nat):Int),o,a,s),⟨I,K,k+1,aq,rfl,rfl,by show _<=A - l[k].1;omega,by show A - l[k].1<=_;omega⟩,by simp only[ab];omega,?_,λM O=> ?_⟩
  .simp only[D7,Mq,ab,L,il,cq,List.sum_cons];rw[Int.sub_sub]
  .rw[US,aN aq,ai,aS aq aq,ai,ab,n1,eO aq aq,N.iY aq]
 .right;obtain rfl:k=aa l:=aq;intro R M O;rw[US,aL aq,al];simp only[D7,Mq,ab,ay,il,gm,List.sum_nil,tG]
def xH{t:di}(h:ig t=bn):aa (gI t)=aa t.2.1:=by unfold gI;rw[av h];simp[y8]
def XI{h:Int}{id:List Int}{a:List (bO×fh)}(A:aq8 a):∀(l:List gb) (j f:Int),ua h id a l j= .inr f->j<=f/\f<=j+(aa l:Int)*1125899906842624
 |[],j,f,e=>by simp only[ua,Sum.inr.injEq]at e;subst e;simp
 |x::l,j,f,e=>by
  simp only[ua]at e;cases u:bT bK x.1 a with
  |none=>rw[u]at e;cases e
  |some c=>
   rw[u]at e;simp only at e;split at e
   .cases e
   .have B:=A.get u;have:=XI A l _ _ e;obtain⟨_,_,I,J,_⟩:=B;rw[aB];omega
def aW7:pj.Ok:=by
 rintro⟨t,h,n,a,s⟩ ⟨j,B⟩;have j:mE t:=j;have B:aq8 a:=B;rw[aW6,tv (d:=t) j.1];simp only[ah,bt,vG,bt,axi,dw];by_cases K:ig t=bn
 .rw[K,bW,al];obtain⟨⟨_,O,T,_⟩,b1,b2⟩:=iW K;by_cases M:1<=h
  .rw[aL aq,al];by_cases L:h<=1048576
   .rw[ct aq,al,av ⟨rfl,M,L⟩,acR (d:=t) j];simp only[ah,bt,aqn];rw[axj (d:=(h,t,0,t.1,(aa t.1:Int),0,n,a,s,mw t)) ⟨⟨by show 0<=h;omega,L⟩,Hh,O,j.2.1,B,0,az _,rfl,rfl,fm,fm⟩];simp only[ah,kO,qe,aW,aH];cases hi:ua h (mw t) a t.1 0 with
    |inl e=>
     simp only[j7,ai,iQ,ah]
    |inr A=>
     have hb:=XI B _ _ _ hi;simp only[dh,al,cJ,ah];rw[awc (d:=t) j];simp only[ah,bt,akg];rw[axk (d:=(t,A,gI t,(aa (gI t):Int),0,n,a,s)) ⟨by rw[xH K];omega,0,az _,rfl,rfl⟩];simp only[ah,nf,sx,aW,aH];by_cases J:(gI t).any (mD a)=bn
     .rw[av J];simp only[j7,ai,iQ,ah,bQ,J]
     .rw[au J];simp only[dh,al,cJ,ah];rw[axm (d:=(A,t.2.1,(aa t.2.1:Int),0,n,a,s)) ⟨T,λo ho=>(jL _ _ b2 o ho).1,0,az _,rfl,rfl,by show -((0:Int)*_)<=A;omega,by show A<=_;omega⟩];simp only[ah,D7,Mq,aW,aH];rw[au J];by_cases I:A - il t.2.1 < 0
      .rw[aN I,ai,av I]
      .rw[aL I,al,au I]
   .rw[cW aq,ai,au (λe=>L e.2.2)]
  .rw[aN aq,ai,au (λe=>M e.2.1)]
 .have u:ig t=aZ:=by simpa using K
  rw[u,eJ,ai,au (λe=>by cases e.1)]
def atT:pj.RS:=rE [.d eU,.d ti,.n,.d (.slice (.pair bK mv)),.d (.slice eh)] pj
def aCf:=pj.eQ aW7 3 ⟨.eg aCc,⟨.eg aCd,⟨.eg aCe,trivial⟩⟩⟩
def Cq(l:List bO)(a:List (bO×fh)):List (bO×fh):=l.foldl (λm o=>fV bK o m) a
def anM(l:List de)(a:List (bO×fh)):List (bO×fh):=l.foldl (λm e=>fi bK e.1 e.2.1 m) a
def yn(a:List (bO×fh))(j:cF):List (bO×fh):=anM j.1 (Cq j.2.1 a)
def awv(j:cF):Prop:=aa j.1<=1000/\aa j.2.1<=1000
abbrev Xj:=Int×(List bO)×Int×Int×Nat×(List (bO×fh))×(List cF)
abbrev alD:=(List (bO×fh))
def Ea:Xj->alD->((Int×Nat×(List cF))×((List (bO×fh)))):=λ(n,A,B,I,j,J,u) y=>((n,j,u),y)
abbrev Xk:=Int×(List de)×Int×Int×Nat×(List (bO×fh))×(List cF)
abbrev alE:=(List (bO×fh))
def Eb:Xk->alE->((Int×Nat×(List cF))×((List (bO×fh)))):=λ(j,B,I,J,u,K,A) y=>((j,u,A),y)
abbrev aM7:=Nat×(List (bO×fh))×(List cF)
def axr:Xj->Prop:=λ(_,l,n,i,_,_,_)=>aa l<=1000/\∃k:Nat,k<=aa l/\i=k/\n=aa l
def Ms:Xj->alD:=λ(_,l,_,i,_,a,_)=>Cq (l.drop i.toNat) a
def axt:Xk->Prop:=λ(_,l,n,i,_,_,_)=>aa l<=1000/\∃k:Nat,k<=aa l/\i=k/\n=aa l
def Mt:Xk->alE:=λ(_,l,_,i,_,a,_)=>anM (l.drop i.toNat) a
def aQj:aM7->Prop:=λ(n,_,s)=>n<=aa s/\aa s<=1000000/\∀j∈s,awv j
def ajH:aM7->(Bool×Nat×(List (bO×fh))×(List cF)):=λ(n,a,s)=>if n=0 then(aZ,n,a,s) else(bn,n - 1,yn a (nth eh s (n - 1)),s)
def yT:Ls axr Ea Ms:=rI (λ(n,u,A,B,j,I,J)=>⟨([dK,bB,bB,aU n]++aP 19 ([Oy u,aU A,aU B]++aP 40 [])),(C8 j I J),(ag 66 [])⟩) (λx=>(.exit 0,⟨([dK,bB,bB,aU x.1.1]++aP 62 []),(C8 x.1.2.1 x.2 x.1.2.2),(ag 66 [])⟩))
def Vs(j):=(.d (.slice fk) j:aF)
def yU:Ls axt Eb Mt:=rI (λ(B,j,u,A,I,J,K)=>⟨([dK,bB,bB,aU B]++aP 38 ([Vs j,aU u,aU A]++aP 21 [])),(C8 I J K),(ag 66 [])⟩) (λx=>(.exit 2,⟨([dK,bB,bB,aU x.1.1]++aP 62 []),(C8 x.1.2.1 x.2 x.1.2.2),(ag 66 [])⟩))
def HS:Fs prog aQj bt ajH:=eP 142 f142 (λ(j,o1,u)=>([.ptr (.dx 0) 0 [] 0],[.obj 0 aZ (.pr (.iI (.dx 1) 0) (.pr (.dq (.dx 2) 0 [] 0 0 j) (.d .unit ()))),.obj 0 aZ (.mp bK mv o1),.obj 0 aZ (.vec 243 eh u)])) (λx=>⟨.d .bool x.1,[.obj 0 aZ (.pr (.iI (.dx 1) 0) (.pr (.dq (.dx 2) 0 [] 0 0 x.2.1) (.d .unit ()))),.obj 0 aZ (.mp bK mv x.2.2.1),.obj 0 aZ (.vec 243 eh x.2.2.2)],[]⟩) [aC] [] {loops:=ko [(5,{aX:=[0,3,23,24,25]}),(10,{aX:=[0,3,42,43,44]})],outs:=km [(5,{aX:=[0,3]},{aX:=[2]}),(10,{aX:=[0,3]},{aX:=[2]})],eT:=jW [(5,yT.E),(10,yU.E)]}
def axs:yT.RS:=rL [.d ti,.d (.slice bK),.d ti,.d ti,.n,.d (.slice (.pair bK mv)),.d (.slice eh)] yT
def UX(n u B j A I J)(K:K2 R)(L:K3 R):HS.R 0 yT (n,u,B,j,A,I,J) K L=aA (fj j B) (aA (dB j (aa u:Int)) (K (yT.st (n,u,B,(bC .i64 j 1),A,(fV bK (nth bK u (ae j)) I),J))) aC) (yT.go L ((n,A,J),I)):=bS
def axu:yU.RS:=rL [.d ti,.d (.slice fk),.d ti,.d ti,.n,.d (.slice (.pair bK mv)),.d (.slice eh)] yU
def UY(B u A j I J K)(L:K2 R)(M:K3 R):HS.R 1 yU (B,u,A,j,I,J,K) L M=aA (fj j A) (aA (dB j (aa u:Int)) (L (yU.st (B,u,A,(bC .i64 j 1),I,(fi bK (nth fk u (ae j)).1 (nth fk u (ae j)).2.1 J),K))) aC) (yU.go M ((B,I,K),J)):=bS
def aXc(j o1 A)(k:K1 R):HS.A (j,o1,A) k=aA (fj (cY .i64 ((j:Nat):Int) 1) 0) (k (HS.out (aZ,j,o1,A))) (aA (dB (cY .i64 ((j:Nat):Int) 1) ((j:Nat):Int)) (aA (decide ((0+(ae (cY .i64 ((j:Nat):Int) 1))) < (aa A))) (aA (decide ((((0+(ae (cY .i64 ((j:Nat):Int) 1)))*2)+1)=((0+((ae (cY .i64 ((j:Nat):Int) 1))*2))+1))) (ao (yT.call ((cY .i64 ((j:Nat):Int) 1),(nth eh A (0+(ae (cY .i64 ((j:Nat):Int) 1)))).2.1,(((aa (nth eh A (0+(ae (cY .i64 ((j:Nat):Int) 1)))).2.1):Nat):Int),0,j,o1,A)) λu=>aA (dB u.1.1 ((u.1.2.1:Nat):Int)) (aA (decide ((0+(ae u.1.1)) < (aa u.1.2.2))) (aA (decide ((((0+(ae u.1.1))*2)+0)=((0+((ae u.1.1)*2))+0))) (ao (yU.call (u.1.1,(nth eh u.1.2.2 (0+(ae u.1.1))).1,(((aa (nth eh u.1.2.2 (0+(ae u.1.1))).1):Nat):Int),0,u.1.2.1,u.2,u.1.2.2)) λB=>aA (inc B.1.1 ((B.1.2.1:Nat):Int)) (k (HS.out (bn,((ae B.1.1) - 0),B.2,B.1.2.2))) aC) aC) aC) aC) aC) aC) aC):=bS
def aCj:(HS.kA 0 yT):=by
 refine(HS.lS 0 yT) (λ(_,l,_,i,_,_,_)=>aa l - i.toNat) ?_
 rintro⟨u,l,n,i,o,a,s⟩ ⟨j,k,B,rfl,rfl⟩;have j:aa l<=1000:=j;have B:k<=aa l:=B;by_cases A:k < aa l
 .left;have n1:nth bK l k=l[k]:=bG (t:=bK) A;have I:l.drop k=l[k]::l.drop (k+1):=ak A;refine⟨(u,l,(aa l:Int),((k+1:Nat):Int),o,Cq [l[k]] a,s),⟨j,k+1,aq,rfl,rfl⟩,by simp only[ab];omega,?_,λJ K=> ?_⟩
  .simp only[Ea,Ms,ab,I,Cq,bN,dr]
  .rw[UX,aN aq,ai,aS aq aq,ai,ab,n1,N.iY aq];rfl
 .right;obtain rfl:k=aa l:=aq;intro R J K;rw[UX,aL aq,al];simp only[Ea,Ms,ab,ay,Cq,dr]
def aCk:(HS.kA 1 yU):=by
 refine(HS.lS 1 yU) (λ(_,l,_,i,_,_,_)=>aa l - i.toNat) ?_
 rintro⟨u,l,n,i,o,a,s⟩ ⟨j,k,B,rfl,rfl⟩;have j:aa l<=1000:=j;have B:k<=aa l:=B;by_cases A:k < aa l
 .left;have n1:nth fk l k=l[k]:=bG (t:=fk) A;have I:l.drop k=l[k]::l.drop (k+1):=ak A;refine⟨(u,l,(aa l:Int),((k+1:Nat):Int),o,anM [l[k]] a,s),⟨j,k+1,aq,rfl,rfl⟩,by simp only[ab];omega,?_,λJ K=> ?_⟩
  .simp only[Eb,Mt,ab,I,anM,bN,dr]
  .rw[UY,aN aq,ai,aS aq aq,ai,ab,n1,N.iY aq];rfl
 .right;obtain rfl:k=aa l:=aq;intro R J K;rw[UY,aL aq,al];simp only[Eb,Mt,ab,ay,anM,dr]
def aXd:HS.Ok:=by
 rintro⟨n,a,s⟩ ⟨A,B,u⟩;have A:n<=aa s:=A;have B:aa s<=1000000:=B;have u:∀K∈s,awv K:=u;rw[aXc];simp only[bt,ajH];cases n with
 |zero=>
  rw[aN fm,ai];rfl
 |succ m=>
  have J:cY .i64 (((m+1:Nat):Nat):Int) (1:Int)=(m:Int):=by rw[eO aq aq];omega
  have j:m < aa s:=aq;have n1:nth eh s m=s[m]:=bG (t:=eh) j;have I:=u _ (aD j);rw[J,aL aq,al,aS aq aq,ai];simp only[ab,aO,bY,aK j,ai,bE,n1];rw[axs (d:=((m:Int),s[m].2.1,(s[m].2.1.length:Int),0,m+1,a,s)) ⟨I.2,0,az _,rfl,rfl⟩];simp only[ah,Ea,Ms,aW,aH];rw[aS aq aq,ai];simp only[ab,aO,bY,aK j,ai,bE,n1];rw[axu (d:=((m:Int),s[m].1,(s[m].1.length:Int),0,m+1,Cq s[m].2.1 a,s)) ⟨I.1,0,az _,rfl,rfl⟩];simp only[ah,Eb,Mt,aW,aH];rw[l9 aq aq,ai,au aq];simp only[ab,mW,lW,n1,yn]
def aQk:HS.RS:=rE [.n,.d (.slice (.pair bK mv)),.d (.slice eh)] HS
def aXe:=HS.eQ aXd 2 ⟨.eg aCj,⟨.eg aCk,trivial⟩⟩
abbrev F1:=Int×di×(List bO)×Int×Int×Nat×(List (bO×fh))×(List cF)×Nat×((List bO)×Unit)×(List de)
def aN5(j u):=(.pr (uJ 45 j) (.d (.pair (.slice bK) .unit) u):aF)
def auV(j u):=([dK,bB,aU j,bB,iL u]:List aF)
def xu:F1->AS:=λ(M,O,B,I,J,A,K,L,j,T,u)=>⟨((auV M O)++aP 4 ([eI 9]++aP 18 ([Oy B,aU I,aU J]++aP 54 []))),(C8 A K L),(bz 9 ([dp (aN5 j T)]++bz 35 ([dp (.vec 245 fk u)]++bz 39 [])))⟩
abbrev HP:=(Int×di×Nat×(List cF)×((List bO)×Unit))×((List (bO×fh))×Nat×(List de))
def DZ:HP->Exit×AS:=λ((a,b,c,e,f),g,h,i)=>(.exit 0,⟨((auV a b)++aP 4 ([eI 9]++aP 75 [])),(C8 c g e),(bz 9 ([dp (aN5 h f)]++bz 35 ([dp (.vec 245 fk i)]++bz 39 [])))⟩)
def ZW:HP->Out (Exit×AS):=λx=> .ok (DZ x)
def qc:F1->((List (bO×fh))×Nat×(List de))->HP:=λ(B,I,L,M,O,j,T,A,u,K,J) y=>((B,I,j,A,K),y)
abbrev F2:=Int×di×(List bO)×Int×Int×Nat×(List (bO×fh))×(List cF)×Nat×((List bO)×Unit)×(List de)
def xv:F2->AS:=λ(T,O,A,B,I,K,L,M,u,J,j)=>⟨((auV T O)++aP 4 ([eI 9]++aP 44 ([Oy A,aU B,aU I]++aP 28 []))),(C8 K L M),(bz 9 ([dp (aN5 u J)]++bz 35 ([dp (.vec 245 fk j)]++bz 39 [])))⟩
abbrev HQ:=(Nat×(List cF)×Nat×((List bO)×Unit)×(List de))×((List (bO×fh)))
def D1:HQ->Exit×AS:=λ((a,b,c,e,f),g)=>(.exit 2,⟨([dK]++aP 8 ([eI 9]++aP 75 [])),(C8 a g b),(bz 9 ([dp (aN5 c e)]++bz 35 ([dp (.vec 245 fk f)]++bz 39 [])))⟩)
def ZY:HQ->Out (Exit×AS):=λx=> .ok (D1 x)
def qd:F2->((List (bO×fh)))->HQ:=λ(T,O,J,K,L,B,M,I,u,A,j) y=>((B,I,u,A,j),y)
abbrev ZT:=di×Int×Nat×(List (bO×fh))×(List cF)
def alr:ZT->SA:=λ(t,j,u,o1,A)=>([dK,rQ t,aU j],(C8 u o1 A))
abbrev aM2:=(Int×Nat×(List (bO×fh))×(List cF))⊕(Int×Nat×(List (bO×fh))×(List cF))
abbrev axh:=(Int×Nat×(List (bO×fh))×(List cF))⊕(Int×Nat×(List (bO×fh))×(List cF))
def aN1(j u A):=([fp (.pr (.iI (.dx 1) 0) (C7 2 1 0 0 j)),fp (.mp bK mv u),.obj 1 aZ (.vec 243 eh A)]:List dR)
def Tw:axh->hZ:=λx=>match x with | .inl x=>⟨aU x.1,(C8 x.2.1 x.2.2.1 x.2.2.2),[]⟩ | .inr x=>⟨aU x.1,(aN1 x.2.1 x.2.2.1 x.2.2.2),[]⟩
def Fx:ZT->aM2->axh:=λ(t,j,u,o1,A) y=>match y with | .inl y=> .inl y | .inr y=> .inr y
def Ar(a:List (bO×fh)):List bO->List de
 |[]=> []
 |o::l=>(o,((bT bK o a).getD bcX,()))::Ar (fV bK o a) l
def Ub(h:Int):List bO->List dW->List (bO×fh)->List (bO×fh)
 |o::l,x::xs,a=>Ub h l xs (fi bK o (x,(h,())) a)
 |_,_,a=>a
def stepOf(t:di)(a:List (bO×fh)):cF:=(Ar a (dG t),(gI t,()))
def fx(t:di)(h:Int)(a:List (bO×fh)):List (bO×fh):=Ub h (gI t) t.2.1 (Cq (dG t) a)
def DY:F1->Prop:=λ(_,_,l,n,i,_,_,_,j,_,g)=>aa l<=1000/\∃k:Nat,k<=aa l/\i=k/\n=aa l/\j=aa g/\aa g=k
def wF:F1->((List (bO×fh))×Nat×(List de)):=λ(_,_,l,_,i,_,a,_,j,_,g)=>(Cq (l.drop i.toNat) a,j+aa (l.drop i.toNat),g++Ar a (l.drop i.toNat))
def D0:F2->Prop:=λ(_,t,l,n,i,_,_,_,_,_,_)=>aa l<=1000/\aa l=aa t.2.1/\(∀o∈t.2.1,bpU o.2.1)/\∃k:Nat,k<=aa l/\i=k/\n=aa l
def wG:F2->((List (bO×fh))):=λ(h,t,l,_,i,_,a,_,_,_,_)=>Ub h (l.drop i.toNat) (t.2.1.drop i.toNat) a
def adW:ZT->Prop:=λ(t,_,n,a,s)=>mE t/\aq8 a/\n<=aa s/\aa s<=1000000
def Tv:ZT->aM2:=λ(t,h,n,a,s)=>if(dw t h a).2≠0 then .inl ((dw t h a).2,n,a,s) else .inr (0,n+1,fx t h a,s.take n++ [stepOf t a])
def ZU:qN:=gU (P:=prog) [aCf,aGh,aqG,aMY]
def aln:=cQ.eg xu DY qc wF ZW
def UM:F1->Option HP:=eN aln xu
def alp:=cQ.eg xv D0 qd wG ZY
def UO:F2->Option HQ:=eN alp xv
def P3:yu:= {loops:=ko [(6,{aX:=[0,2,4,9,28,29,30],sites:=[9,45],owns:=[⟨9,[.fst],45,241⟩]}),(12,{aX:=[0,2,4,9,54,55,56],sites:=[9,45]})],outs:=km [(6,{aX:=[0,2,4,9],sites:=[9,45]},{aX:=[6]}),(12,{aX:=[0,9],sites:=[9,45]},{aX:=[6]})],eT:=jW [(6,aln),(12,alp)]}
def aM0:= @FI prog ZU P3 0 f139 _ alr
abbrev aW3:=WS @aM0 adW Fx Tv Tw
def alo:= @dm prog ZU P3 0 f139 0 _ xu
abbrev agA:=gr prog ZU P3 0 f139 0 xu DY qc wF ZW
def alq:= @dm prog ZU P3 0 f139 1 _ xv
abbrev agB:=gr prog ZU P3 0 f139 1 xv D0 qd wG ZY
def axf:fC UM DY qc wF:=ia (fy [.d ti,.d eU,.d (.slice bK),.d ti,.d ti,.n,.d (.slice (.pair bK mv)),.d (.slice eh),.n,.d (.pair (.slice bK) .unit),.d (.slice fk)] λ_=>bS)
def ZV:aiV @alo xu DY qc wF DZ agA:=ark
def UN(M O A J u I K L j T B)(kn:K2 R)(kx:K3 R):alo (M,O,A,J,u,I,K,L,j,T,B) kn kx=aA (fj u J) (aA (dB u (((aa A):Nat):Int)) (aA (decide (j<=(aa B))) (aA (cM (j+1) 80) (kn (xu (M,O,A,J,(bC .i64 u (1:Int)),I,(fV bK (nth bK A (ae u)) K),L,(j+1),T,((aJ j B)++ [((nth bK A (ae u)),(((bT bK (nth bK A (ae u)) K).getD (((0:Int),((([]:List kF),()),())),((0:Int),()))),()))])))) aC) aC) aC) (kx (DZ ((M,O,I,L,T),(K,j,B))).1 (DZ ((M,O,I,L,T),(K,j,B))).2):=bS
def axg:fC UO D0 qd wG:=ia (fy [.d ti,.d eU,.d (.slice bK),.d ti,.d ti,.n,.d (.slice (.pair bK mv)),.d (.slice eh),.n,.d (.pair (.slice bK) .unit),.d (.slice fk)] λ_=>bS)
def ZX:aiV @alq xv D0 qd wG D1 agB:=ark
def UP(T O B I j K L M A J u)(kn:K2 R)(kx:K3 R):alq (T,O,B,I,j,K,L,M,A,J,u) kn kx=aA (fj j I) (aA (dB j (((aa B):Nat):Int)) (aA (dB j (((aa O.2.1):Nat):Int)) (ao (aiZ.call (nth dI O.2.1 (ae j))) λx1=>kn (xv (T,O,B,I,(bC .i64 j (1:Int)),K,(fi bK (nth bK B (ae j)) (x1,(T,())) L),M,A,J,u))) aC) aC) (kx (D1 ((K,M,A,J,u),L)).1 (D1 ((K,M,A,J,u),L)).2):=bS
def aW4(t j A o1 J)(k:K1 R):aM0 (t,j,A,o1,J) k=ao (pj.call (t,j,A,o1,J)) λI=>aA (pb I.2.1 (0:Int)) (k (Tw (.inl (I.2.1,I.2.2.1,I.2.2.2.1,I.2.2.2.2)))) (ao (O6.call t) λL=>ao (wu.call t) λK=>ao (UM (j,t,K,(((aa K):Nat):Int),(0:Int),I.2.2.1,I.2.2.2.1,I.2.2.2.2,0,(L,()),([]:List de))) λB=>ao (UO (B.1.1,B.1.2.1,B.1.2.2.2.2.1,(((aa B.1.2.2.2.2.1):Nat):Int),(0:Int),B.1.2.2.1,B.2.1,B.1.2.2.2.1,B.2.2.1,B.1.2.2.2.2,B.2.2.2)) λu=>aA (decide (0=0/\(0+u.1.2.2.1)<=(aa u.1.2.2.2.2))) (aA (decide (u.1.1<=(aa u.1.2.1))) (aA (cM (u.1.1+1) 48) (k (Tw (.inr ((0:Int),(u.1.1+1),u.2,((aJ u.1.1 u.1.2.1)++ [((cut u.1.2.2.2.2 0 u.1.2.2.1),u.1.2.2.2.1)]))))) aC) aC) aC):=bS
def aB9:agA:=by
 refine ZV (λ(_,_,l,_,i,_,_,_,_,_,_)=>aa l - i.toNat) ?_
 rintro⟨h,t,l,n,i,o,a,s,M,u,g⟩ ⟨A,k,I,rfl,rfl,rfl,j⟩;have A:aa l<=1000:=A;have I:k<=aa l:=I;have j:aa g=k:=j;by_cases B:k < aa l
 .left;have n1:nth bK l k=l[k]:=bG (t:=bK) B;have J:l.drop k=l[k]::l.drop (k+1):=ak B;refine⟨(h,t,l,(aa l:Int),((k+1:Nat):Int),o,fV bK l[k] a,s,aa g+1,u,g++ [(l[k],((bT bK l[k] a).getD bcX,()))]),⟨A,k+1,aq,rfl,rfl,by simp,by simp[j]⟩,by simp only[ab];omega,?_,λK L=> ?_⟩
  .simp only[qc,wF,ab,J,Cq,bN,Ar,aR,cv,aB];rw[show aa g+1+aa (l.drop (k+1))=aa g+(aa (l.drop (k+1))+1) by omega]
  .rw[UN,aN aq,ai,aS aq aq,ai,aK (ax _),ai,cg aq aq,ai,ab,n1,N.iY aq,bI];rfl
 .right;obtain rfl:k=aa l:=aq;intro R K L;rw[UN,aL aq,al];simp only[qc,wF,ab,ay,Cq,dr,Ar,bm,bl,bY]
def aCa:agB:=by
 refine ZX (λ(_,_,l,_,i,_,_,_,_,_,_)=>aa l - i.toNat) ?_
 rintro⟨h,t,l,n,i,o,a,s,M,u,g⟩ ⟨I,B,K,k,L,rfl,rfl⟩;have I:aa l<=1000:=I;have B:aa l=aa t.2.1:=B;have L:k<=aa l:=L;by_cases J:k < aa l
 .left;have j:k < aa t.2.1:=aq;have n1:nth bK l k=l[k]:=bG (t:=bK) J;have n2:nth dI t.2.1 k=t.2.1[k]:=bG (t:=dI) j;have O:l.drop k=l[k]::l.drop (k+1):=ak J;have A:t.2.1.drop k=t.2.1[k]::t.2.1.drop (k+1):=ak j;refine⟨(h,t,l,(aa l:Int),((k+1:Nat):Int),o,fi bK l[k] (t.2.1[k],(h,())) a,s,M,u,g),⟨I,B,K,k+1,aq,rfl,rfl⟩,by simp only[ab];omega,?_,λT kx=> ?_⟩
  .simp only[qd,wG,ab,O,A,Ub]
  .rw[UP,aN aq,ai,aS aq aq,ai,aS aq aq,ai,ab,n1,n2,aB4 (d:=t.2.1[k]) (K _ (aD j))];simp only[ah,bt,aH3];rw[N.iY aq]
 .right;obtain rfl:k=aa l:=aq;intro R T kx;rw[UP,aL aq,al];simp only[qd,wG,ab,ay,Ub]
def Tl{t:di}{h:Int}{a:List (bO×fh)}(e:(dw t h a).2=0):ig t=bn/\1<=h/\h<=1048576/\∃A,ua h (mw t) a t.1 0= .inr A/\(gI t).any (mD a)=aZ/\0<=A - il t.2.1/\dw t h a=(A - il t.2.1,0):=by
 unfold dw at e ⊢;by_cases u:ig t=bn/\1<=h/\h<=1048576
 .rw[av u]at e;rw[av u];refine⟨u.1,u.2.1,u.2.2,?_⟩;cases I:ua h (mw t) a t.1 0 with
  |inl x=>
   exfalso;rw[I]at e;simp only at e;subst e;have key:∀(l:List gb) (f:Int),ua h (mw t) a l f≠ .inl 0:=by
    intro l
    induction l with
    |nil=>intro f j;cases j
    |cons x l K=>
     intro f j;simp only[ua]at j;cases J:bT bK x.1 a with
     |none=>rw[J]at j;simp at j
     |some c=>
      rw[J]at j;simp only at j;split at j
      .rename_i L;exact L (by injection j)
      .exact K _ j
   exact key _ _ I
  |inr A=>
   rw[I]at e;simp only at e ⊢;by_cases B:(gI t).any (mD a)=bn
   .rw[av B]at e;cases e
   .rw[au B]at e;rw[au B];by_cases j:A - il t.2.1 < 0
    .rw[av j]at e;cases e
    .rw[au j];exact⟨A,rfl,by simpa using B,aq,rfl⟩
 .rw[au u]at e;cases e
def amh{t:di}(h:ig t=bn):aa (dG t)=aa t.1:=by unfold dG;rw[av h,cz]
def aW5:aW3:=by
 rintro⟨t,h,n,a,s⟩ ⟨A,I,J,K⟩;have A:mE t:=A;have I:aq8 a:=I;have J:n<=aa s:=J;have K:aa s<=1000000:=K;rw[aW4,atT (d:=(t,h,n,a,s)) ⟨A,I⟩];simp only[ah,bt,axi,Fx,Tv];by_cases u:(dw t h a).2=0
 .rw[bU u,al,au (λe=>e u)];obtain⟨B,_,_,_⟩:=Tl u;obtain⟨⟨_,a2,a3,_⟩,b1,L⟩:=iW B;rw[awc (d:=t) A];simp only[ah,bt,akg];rw[aiJ (d:=t) A.1];simp only[ah,bt,T6];rw[axf (d:=(h,t,dG t,(aa (dG t):Int),0,n,a,s,0,(gI t,()),[])) ⟨by rw[amh B];omega,0,az _,rfl,rfl,rfl,rfl⟩];simp only[ah,qc,wF,aW,aH,bf,aO];rw[axg (d:=(h,t,gI t,(aa (gI t):Int),0,n,Cq (dG t) a,s,aa (dG t),(gI t,()),Ar a (dG t))) ⟨by rw[xH B];omega,xH B,λo O=>by
   have:=Qr (jL _ _ L o O).2;exact⟨aq,λb M=>by have:=this.2 b M;omega⟩,0,az _,rfl,rfl⟩]
  simp only[ah,qd,wG,aW,aH];have j:∀(l:List bO) (a:List (bO×fh)),aa (Ar a l)=aa l:=by
   intro l
   induction l with
   |nil=>intro a;rfl
   |cons o l T=>intro a;simp[Ar,T]
  rw[aK (by rw[j];exact⟨trivial,aq⟩),ai,aK J,ai,cg aq aq,ai,dM (j _ _)];rfl
 .rw[dj u,ai,av u]
def aM1:=Entry.Ug [aC,aw eU,aw ti] alr adW Fx Tv Tw
def F3:ZT->Option axh:=Du aM1 alr
def aQe:fC F3 adW Fx Tv:=LN (Pp [.d eU,.d ti,.n,.d (.slice (.pair bK mv)),.d (.slice eh)] λ_=>bS)
def aCb:SG prog:=⟨139,jh,aM1,.of (.aOE (.fn 2 bS aW5 (iD (.eg aB9 bS) (iD (.eg aCa bS) trivial)))) (by rfl)⟩
def bbu(k:Int)(m:List Int):bcZ (oW k m):=by
 unfold oW;split
 .exact⟨(bg0 _).u,(aMA _ _).u⟩
 .exact⟨⟨dT 0,fm⟩,dT 0,fm⟩
def aCG:∀(l j:List gb) (b:List Int),l.map (·.1)=j.map (·.1)->l.foldl XF b=j.foldl XF b
 |[],[],_,_=>rfl
 |[],_::_,_,h=>by cases h
 |_::_,[],_,h=>by cases h
 |x::l,y::j,b,h=>by
  rw[cq,cq,da]at h;have e:XF b x=XF b y:=by unfold XF;rw[h.1]
  rw[bN,bN,e,aCG l j _ h.2]
def aRT{l j:List gb}(t:List dW×Int×Unit)(h:l.map (·.1)=j.map (·.1)):zg (l,t)=zg (j,t):=by
 have u:aa l=aa j:=by have:=bA aa h;simpa using this
 unfold zg;simp only[u];rw[aCG l j _ h]
def aC7:∀(l j:List gb) (m:List (bO×Bool)),l.map (·.1)=j.map (·.1)->KP m l=bn->(∀x∈j,DF x.2.1=bn)->KP m j=bn
 |[],[],_,_,_,_=>rfl
 |[],_::_,_,h,_,_=>by cases h
 |_::_,[],_,h,_,_=>by cases h
 |x::l,y::j,m,h,hi,hw=>by
  rw[cq,cq,da]at h;rw[KP,aQ,aQ]at hi ⊢;have u:=hi.1.2;unfold Po at u;rw[aQ]at u;refine⟨⟨?_,?_⟩,?_⟩
  .have:=hi.1.1;unfold aal at this ⊢;rw[<-h.1];exact this
  .unfold Po;rw[<-h.1,u.1,hw y aY];rfl
  .rw[<-h.1];exact aC7 l j _ h.2 hi.2 λz A=>hw z (aT _ A)
def bcg{l u:List gb}{t:List dW×Int×Unit}(h:l.map (·.1)=u.map (·.1))(j:ig (l,t)=bn)(B:∀x∈u,DF x.2.1=bn):ig (u,t)=bn:=by
 have A:aa l=aa u:=by have:=bA aa h;simpa using this
 unfold ig aqK at j ⊢;rw[aQ,aQ]at j ⊢;simp only[A]at j;exact⟨j.1,aC7 l u _ h j.2.1 B,j.2.2⟩
def aOJ{l j:List gb}{t:List dW×Int×Unit}(h:l.map (·.1)=j.map (·.1))(u:ig (l,t)=bn)(A:ig (j,t)=bn):mw (j,t)=mw (l,t):=by unfold mw;rw[u,A,aRT t h]
def aLC{l j:List gb}{t:List dW×Int×Unit}(h:l.map (·.1)=j.map (·.1))(u:ig (l,t)=bn)(A:ig (j,t)=bn):dG (j,t)=dG (l,t):=by unfold dG;rw[u,A];exact h.symm
def aYY{l j:List gb}{t:List dW×Int×Unit}(h:l.map (·.1)=j.map (·.1))(u:ig (l,t)=bn)(A:ig (j,t)=bn):gI (j,t)=gI (l,t):=by unfold gI;rw[u,A,aOJ h u A]
def ajC(t:di)(k:Nat)(w:Ua):di:=(t.1.set k ((nth fK t.1 k).1,w,()),t.2)
def acC(l:List gb)(k:Nat)(w:Ua)(h:k < aa l):l.map (·.1)=(l.set k ((nth fK l k).1,w,())).map (·.1):=by
 have n1:nth fK l k=l[k]:=bG (t:=fK) h;rw[n1,List.map_set];have e:(l[k].1:bO)=(l.map (·.1))[k]'(by rw[cz];exact h):=by rw[List.getElem_map]
 show _=(l.map (·.1)).set k l[k].1;rw[e,iE]
def aFQ{l:List gb}{k:Nat}{w:Ua}{x:gb}(h:k < aa l)(j:x∈l.set k ((nth fK l k).1,w,())):x∈l\/(x.1=l[k].1/\x.2.1=w):=by
 have n1:nth fK l k=l[k]:=bG (t:=fK) h;rw[n1]at j;rcases List.mem_or_eq_of_mem_set j with h1 | h1
 .exact .inl h1
 .exact .inr ⟨by rw[h1],by rw[h1]⟩
def akf{t:di}{k:Nat}{w:Ua}(h:k < aa t.1)(j:ig t=bn)(A:DF w=bn):ig (ajC t k w)=bn:=by
 obtain⟨_,u,_⟩:=iW j;refine bcg (l:=t.1) (acC t.1 k w h) j λx B=> ?_
 rcases aFQ h B with h1 | h1
 .have:=ma _ _ u x h1;unfold Po at this;rw[aQ]at this;exact this.2
 .rw[h1.2];exact A
def bj5{t:di}{k:Nat}{w:Ua}(h:k < aa t.1)(j:mE t)(A:Ze w)(u:aa w.2.1<=9223372036854775807):mE (ajC t k w):=by
 refine⟨⟨j.1.1,by show aa (t.1.set k _)<=_;rw[qQ];exact j.1.2.1,j.1.2.2⟩,λx B=> ?_,j.2.2⟩;rcases aFQ h B with h1 | h1
 .exact j.2.1 x h1
 .refine⟨?_,by rw[h1.2];exact A,by rw[h1.2];exact u⟩;rw[h1.1];exact(j.2.1 _ (aD h)).1
def bgJ{t:di}{k:Nat}{w:Ua}(h:k < aa t.1)(j:ig t=bn)(u:DF w=bn):mw (ajC t k w)=mw t/\dG (ajC t k w)=dG t/\gI (ajC t k w)=gI t:=⟨aOJ (l:=t.1) (acC t.1 k w h) j (akf h j u),aLC (l:=t.1) (acC t.1 k w h) j (akf h j u),aYY (l:=t.1) (acC t.1 k w h) j (akf h j u)⟩
def asH(t:di)(j:Int)(u:List Int)(A:Int):Ua:=(j,u.map (λk=>oW k (mw t)),A,())
def bbz(t:di)(i j:Int)(u:List Int)(A:Int):bby t i j u A=if NK t i j u then(ajC t i.toNat (asH t j u A),0) else(([],[],0,()),1):=rfl
def aFV{t:di}{i j:Int}{u:List Int}(h:NK t i j u=bn):ig t=bn/\(0<=i/\i < aa t.1/\0<=j/\j < 4/\aa u<=12)/\∀k∈u,k < 2305843009213688669/\k≠0:=by unfold NK at h;simp only[aQ,bJ,fu]at h;refine⟨h.1,h.2.1,λk A=> ?_⟩;have:=h.2.2;rw[List.any_eq_false]at this;have:=this k A;unfold WU at this;simpa using this
def bgO{t:di}{i j:Int}{u:List Int}(A:Int)(h:NK t i j u=bn):DF (asH t j u A)=bn:=by have e:=(aFV h).2.1;unfold DF asH;rw[aK ⟨e.2.2.1,e.2.2.2.1⟩,aK (by rw[cz];exact e.2.2.2.2)];rfl
def bj9(t:di)(A:Int)(j:List Int){u:Int}(h:mC u):Ze (asH t A j u):=⟨λs B=>by
  obtain⟨k,_,rfl⟩:=dE.1 (show s∈j.map λk=>oW k (mw t) from B);exact bbu k _,h⟩
def bbA{t:di}{i u A:Int}{j:List Int}(L:mE t)(h:NK t i u j=bn)(K:mC A):
  ig (ajC t i.toNat (asH t u j A))=bn/\mE (ajC t i.toNat (asH t u j A))/\mw (ajC t i.toNat (asH t u j A))=mw t/\dG (ajC t i.toNat (asH t u j A))=dG t/\gI (ajC t i.toNat (asH t u j A))=gI t:=by
 obtain⟨J,e,_⟩:=aFV h;have B:i.toNat < aa t.1:=aq;have I:=bgO A h;exact⟨akf B J I,bj5 B L (bj9 t u j K) (by show aa (j.map _)<=_;rw[cz];omega),bgJ B J I⟩
def Qd(r:iM):List Int×iM:=((oX 32 r).1++bj (oX 32 r).1.length (ag 32 (0:Int)),(oX 32 r).2)
def Pm(r:iM):List Int×iM:=if(dX r).2.2.1=bn then([],(dX r).2) else oX (dX r).1.toNat (dX r).2
def YS(j:Int)(r:iM):Int×iM:=(if(dX r).1 > j then -1 else(dX r).1,(dX r).2)
def bhX(r:iM):bO×iM:=(((Qd r).1,(dX (Qd r).2).1,()),(dX (Qd r).2).2)
def Uh:Nat->iM->List bO×iM
 | 0,r=>([],r)
 |k+1,r=>((bhX r).1::(Uh k (bhX r).2).1,(Uh k (bhX r).2).2)
def arT(r:iM):dW×iM:=(((dX r).1,(OS (Pm (dX r).2).1).1,()),(Pm (dX r).2).2)
def QJ:Nat->iM->Option (List dW×iM)
 | 0,r=>aw ([],r)
 |k+1,r=>if(OS (Pm (dX r).2).1).2=bn then(match QJ k (arT r).2 with
  |some x=>aw ((arT r).1::x.1,x.2)
  |none=>aC) else aC
def bh7(r:iM):Sg×iM:=(((vH r).1,(vH (vH r).2).1,()),(vH (vH r).2).2)
def NJ:Nat->iM->List Sg×iM
 | 0,r=>([],r)
 |k+1,r=>((bh7 r).1::(NJ k (bh7 r).2).1,(NJ k (bh7 r).2).2)
def Bc(r:iM):List Sg×iM:=NJ (YS 12 (dX r).2).1.toNat (YS 12 (dX r).2).2
def aMj(r:iM):Option (Ua×iM):=if(YS 12 (dX r).2).1 < 0 then aC else aw (((dX r).1,(Bc r).1,(vH (Bc r).2).1,()),(vH (Bc r).2).2)
def Pb:List bO->iM->Option (List gb×iM)
 |[],r=>aw ([],r)
 |o::l,r=>match aMj r with
  |none=>aC
  |some w=>match Pb l w.2 with
   |none=>aC
   |some x=>aw ((o,w.1,())::x.1,x.2)
def bjL:di×Bool:=(([],[],0,()),aZ)
def aXp(n m:Int)(t:di)(r:iM):di×Bool:=if n < 0\/m < 0\/r.2.1=bn\/0 < aa r.1\/ig t=aZ then bjL else(t,bn)
def aYZ(n m:Int)(ops:List bO)(os:List dW)(r:iM):di×Bool:=match Pb ops (dX r).2 with
 |none=>bjL
 |some x=>aXp n m (x.1,os,(dX r).1,()) x.2
def apo(b:List Int):di×Bool:=
 let n:=YS 64 (b,aZ,())
 let ops:=Uh n.1.toNat n.2
 let m:=YS 64 ops.2
 match QJ m.1.toNat m.2 with
 |none=>bjL
 |some x=>aYZ n.1 m.1 ops.1 x.1 x.2
def aJn(o:bO):List Int:=o.1++iy o.2.1
def KX(o:dW):List Int:=iy o.1++(iy (aa (XN o.2.1))++XN o.2.1)
def aU1(s:Sg):List Int:=jI s.1++jI s.2.1
def Kn(w:Ua):List Int:=iy w.1++(iy (aa w.2.1)++(w.2.1.flatMap aU1++jI w.2.2.1))
def bnK(t:di):List Int:=iy (aa t.1)++(t.1.flatMap (λx=>aJn x.1)++(iy (aa t.2.1)++(t.2.1.flatMap KX++(iy t.2.2.1++t.1.flatMap λx=>Kn x.2.1))))
def KL{α:Type}(f:List Int->α->List Int)(w:α->List Int):∀(l:List α) (b:List Int),(∀x∈l,∀b,f b x=b++w x)->l.foldl f b=b++l.flatMap w
 |[],b,_=>by simp
 |x::l,b,h=>by rw[bN,h x aY,KL f w l _ λy j=>h y (aT _ j),c9,aR]
def GA(b:List Int){n:Int}(h:0<=n):cZ b n=b++iy n:=by unfold cZ;rw[au aq]
def bcf{t:di}(A:ig t=bn):aL4 t=bnK t:=by
 obtain⟨⟨_,T,a3,B⟩,u,I⟩:=iW A;have J:∀b,t.1.foldl XF b=b++t.1.flatMap λx=>aJn x.1:=λb=>KL _ _ _ _ λx j b=>by have:=C1 (ma _ _ u x j);unfold XF aJn;rw[GA _ this.1,aR]
 have K:∀b,t.2.1.foldl X8 b=b++t.2.1.flatMap KX:=λb=>KL _ _ _ _ λo O b=>by have:=(jL _ _ I o O).1;unfold X8 KX;rw[GA _ this.1,aR]
 have L:∀(l:List Sg) b,l.foldl apV b=b++l.flatMap aU1:=λl b=>KL _ _ _ _ λs _ b=>by unfold apV aU1;rw[aR]
 have M:∀b,t.1.foldl aMi b=b++t.1.flatMap λx=>Kn x.2.1:=λb=>KL _ _ _ _ λx j b=>by have:=C1 (ma _ _ u x j);unfold aMi Kn;rw[L,GA _ this.2.2.1,GA _ aq];simp only[aR]
 unfold aL4 zg bnK;rw[av A,M,GA _ B,K,GA _ aq,J,GA _ aq,bf];simp only[aR]
def awa{n:Nat}(a j:List Int)(h:aa a=n):oX n (a++j,aZ,())=(a,(j,aZ,())):=by
 unfold oX;rw[au (by
  intro x;rcases x with x | x
  .cases x
  .have x:aa (a++j) < n:=x;rw[aj]at x;omega)]
 show((a++j).take n,((a++j).drop n,aZ,()))=_;rw[vJ h,mJ h]
def aQO(a j:List Int)(h:aa a=32):Qd (a++j,aZ,())=(a,(j,aZ,())):=by unfold Qd;rw[awa a j h];simp only[h];rw[show bj 32 (ag 32 (0:Int))=[] from rfl,bm]
def KV(n:Int)(h:Ph n)(j:List Int):dX (iy n++j,aZ,())=(n,(j,aZ,())):=QE n h j _
def aV8(a j:List Int)(h:aa a<=1000000000):Pm (iy (aa a)++(a++j),aZ,())=(a,(j,aZ,())):=by unfold Pm;rw[KV _ (za aq)];simp only[bu,bq,ab];exact awa a j rfl
def aAn{n m:Int}(h:Ph n)(u:n<=m)(j:List Int):YS m (iy n++j,aZ,())=(n,(j,aZ,())):=by unfold YS;rw[KV n h];simp only[au (show ¬n > m by omega)]
def aDT:∀(l:List bO) (j:List Int),(∀o∈l,aa o.1=32/\Ph o.2.1)->Uh (aa l) (l.flatMap aJn++j,aZ,())=(l,(j,aZ,()))
 |[],j,_=>rfl
 |o::l,j,h=>by
  obtain⟨u,A⟩:=h o aY;have e:bhX ((o::l).flatMap aJn++j,aZ,())=(o,(l.flatMap aJn++j,aZ,())):=by unfold bhX aJn;rw[c9,aR,aR,aQO _ _ u];simp only[];rw[KV _ A]
  rw[aB,Uh,e,aDT l j λx B=>h x (aT _ B)]
def auM:∀(l:List dW) (j:List Int),(∀o∈l,Ph o.1/\lN o.2.1=bn/\akk o.2.1)->QJ (aa l) (l.flatMap KX++j,aZ,())=aw (l,(j,aZ,()))
 |[],j,_=>rfl
 |o::l,j,h=>by
  obtain⟨K,B,I⟩:=h o aY;have M:=TN o.2.1;have u:dX ((o::l).flatMap KX++j,aZ,())=(o.1,(iy (aa (XN o.2.1))++(XN o.2.1++(l.flatMap KX++j)),aZ,())):=by rw[c9];unfold KX;simp only[aR];exact KV _ K _
  have A:Pm (dX ((o::l).flatMap KX++j,aZ,())).2=(XN o.2.1,(l.flatMap KX++j,aZ,())):=by rw[u];exact aV8 _ _ aq
  have J:arT ((o::l).flatMap KX++j,aZ,())=(o,(l.flatMap KX++j,aZ,())):=by unfold arT;rw[A,u,avA I B]
  rw[aB,QJ,A,avA I B,av rfl,J,auM l j λx L=>h x (aT _ L)]
def aFS:∀(l:List Sg) (j:List Int),(∀s∈l,mC s.1/\mC s.2.1)->NJ (aa l) (l.flatMap aU1++j,aZ,())=(l,(j,aZ,()))
 |[],j,_=>rfl
 |s::l,j,h=>by
  obtain⟨u,A⟩:=h s aY;have e:bh7 ((s::l).flatMap aU1++j,aZ,())=(s,(l.flatMap aU1++j,aZ,())):=by unfold bh7 aU1;rw[c9,aR,aR,SO _ u];simp only[];rw[SO _ A]
  rw[aB,NJ,e,aFS l j λx B=>h x (aT _ B)]
def bcy(w:Ua)(j:List Int)(B:Ze w)(J:Ph w.1)(K:aa w.2.1<=12):aMj (Kn w++j,aZ,())=aw (w,(j,aZ,())):=by
 have u:dX (Kn w++j,aZ,())=(w.1,(iy (aa w.2.1)++(w.2.1.flatMap aU1++(jI w.2.2.1++j)),aZ,())):=by unfold Kn;simp only[aR];exact KV _ J _
 have A:YS 12 (dX (Kn w++j,aZ,())).2=((aa w.2.1:Int),(w.2.1.flatMap aU1++(jI w.2.2.1++j),aZ,())):=by rw[u];exact aAn (za aq) aq _
 have I:Bc (Kn w++j,aZ,())=(w.2.1,(jI w.2.2.1++j,aZ,())):=by unfold Bc;rw[A];exact aFS _ _ B.1
 unfold aMj;rw[A,au (by show ¬(aa w.2.1:Int) < 0;omega),I,u];simp only[];rw[SO _ B.2]
def awq:∀(l:List gb) (j:List Int),(∀x∈l,Ze x.2.1/\Ph x.2.1.1/\aa x.2.1.2.1<=12)->Pb (l.map (·.1)) (l.flatMap (λx=>Kn x.2.1)++j,aZ,())=aw (l,(j,aZ,()))
 |[],j,_=>rfl
 |x::l,j,h=>by obtain⟨u,A,B⟩:=h x aY;rw[c9,aR,cq,Pb,bcy _ _ u A B];simp only[];rw[awq l j λy I=>h y (aT _ I)]
def aKQ{t:di}(B:mE t)(J:ig t=bn):apo (aL4 t)=(t,bn):=by
 obtain⟨⟨a1,a2,a3,M⟩,O,T⟩:=iW J;have j:∀x∈t.1,_:=λx u=>C1 (ma _ _ O x u)
 have I:=B.2.2;rw[bcf J];have e1:=aAn (n:=(aa t.1:Int)) (m:=64) (za aq) aq (t.1.flatMap (λx=>aJn x.1)++(iy (aa t.2.1)++(t.2.1.flatMap KX++(iy t.2.2.1++t.1.flatMap λx=>Kn x.2.1))));have ef:t.1.flatMap (λx=>aJn x.1)=(t.1.map (·.1)).flatMap aJn:=by rw[List.flatMap_map]
 have K:=aDT (t.1.map (·.1)) (iy (aa t.2.1)++(t.2.1.flatMap KX++(iy t.2.2.1++t.1.flatMap λx=>Kn x.2.1))) λo A=>by obtain⟨x,u,rfl⟩:=dE.1 A;exact⟨(B.2.1 x u).1.1,(j x u).1,by have:=(j x u).2.1;omega⟩
 rw[<-ef,cz]at K;have e3:=aAn (n:=(aa t.2.1:Int)) (m:=64) (za aq) aq (t.2.1.flatMap KX++(iy t.2.2.1++t.1.flatMap λx=>Kn x.2.1));have e4:=auM t.2.1 (iy t.2.2.1++t.1.flatMap λx=>Kn x.2.1) λo A=>by have:=jL _ _ T o A;exact⟨⟨this.1.1,aq⟩,this.2,(B.1.1 o A).1⟩
 have e5:=KV t.2.2.1 ⟨M,I⟩ (t.1.flatMap λx=>Kn x.2.1);have L:=awq t.1 [] λx u=>⟨(B.2.1 x u).2.1,⟨(j x u).2.2.1,by have:=(j x u).2.2.2.1;omega⟩,(j x u).2.2.2.2⟩
 rw[bm]at L;unfold apo bnK;simp only[e1,ab,K,e3,e4];unfold aYZ;simp only[e5,L];unfold aXp;rw[au];rintro(x | x | x | x | x)
 .omega
 .omega
 .cases x
 .simp at x
 .rw[show((t.1,t.2.1,t.2.2.1,()):di)=t from rfl,J]at x;cases x
def Aj(r:iM):Prop:=yo r/\(r.2.1=bn->r.1=[])
def Ov(r j:iM)(e:List Int):Prop:=Aj j/\(j.2.1=aZ->r.2.1=aZ/\r.1=e++j.1)
def Ov.trans{r I J:iM}{u A:List Int}(B:Ov r I u)(j:Ov I J A):Ov r J (u++A):=
 ⟨j.1,λh=>⟨(B.2 (j.2 h).1).1,by rw[(B.2 (j.2 h).1).2,(j.2 h).2,aR]⟩⟩
def Ov.of{r j:iM}{e u:List Int}(h:Ov r j e)(B:j.2.1=aZ->e=u):Ov r j u:=⟨h.1,λA=>by rw[<-B A];exact h.2 A⟩
def Ov.refl{r:iM}(h:Aj r):Ov r r []:=⟨h,λj=>⟨j,rfl⟩⟩
def ber:Aj aaf:=⟨axC,λ_=>rfl⟩
def aCy(r:iM)(e:List Int):Ov r aaf e:=⟨ber,λh=>by cases h⟩
def bgj{b:List Int}(j:Bytes b)(u:aa b<=1000000000):Aj (b,aZ,()):=⟨aKP j u (aZ,()),λh=>by cases h⟩
def aqg{r:iM}(h:Aj r)(n:Nat):Ov r (oX n r).2 (oX n r).1/\((oX n r).2.2.1=aZ->(oX n r).1.length=n):=by
 have j:=(Fb (n:=n) h.1).2.2
 revert j
 unfold oX;split
 .exact λ_=>⟨aCy _ _,λh=>by cases h⟩
 .rename_i A;intro j;have u:r.2.1=aZ:=by cases I:r.2.1 with | false=>rfl | true=>exact absurd (ju I) A
  have J:¬(aa r.1) < n:=λx=>A (eF x)
  exact⟨⟨⟨j,λ(B:r.2.1=bn)=>by rw[u]at B;cases B⟩,λ_=>⟨u,(ee n r.1).symm⟩⟩,λ_=>by show aa (r.1.take n)=n;rw[bw];omega⟩
def apG(f:Nat){d:Int}(h:d < 128):iJ f d=([],d):=by
 cases f with
 |zero=>rfl
 |succ f=>rw[iJ,au aq]
def aDN:∀(l:List Int) (a:Nat) (n:Int) (v:Int×Nat),Bytes l->a<=9->Gs l a n= .inl v->
  ∃w j,v.1=n+w*128^a/\0<=w/\(a=0\/0 < w)/\w < 128^(9 - a)/\l=(iJ (8 - a) w).1++(iJ (8 - a) w).2::j/\v.2=a+(iJ (8 - a) w).1.length+1
 |[],a,n,v,_,_,h=>by cases h
 |d::l,a,n,v,hb,ha,h=>by
  obtain⟨I,x2⟩:=hb d aY;rw[Gs]at h;split at h
  .cases h
  rename_i hc;have J:a<=8:=aq;have e9:(128:Int)^(9 - a)=128^(8 - a)*128:=by rw[show 9 - a=(8 - a)+1 by omega];exact gl 128 (8 - a)
  have p8:(0:Int) < 128^(8 - a):=Int.pow_pos fm;split at h
  .rename_i u;cases h;refine⟨d,l,by rw[fv I u],I,aq,aq,?_,?_⟩
   .rw[apG _ u];rfl
   .rw[apG _ u];rfl
  .rename_i u;obtain⟨w,j,L,w0,w1,B,M,O⟩:=aDN l (a+1) _ v (λx hx=>hb x (aT _ hx)) aq h;have w1:0 < w:=aq;rw[show 9 - (a+1)=8 - a by omega]at B;have K:a<=7:=by
    by_cases T:a=8
    .rw[T]at B;have:(128:Int)^(8 - 8)=1:=rfl;omega
    .omega
   have A:iJ (8 - a) (d%128+128*w)=((d%128+128)::(iJ (8 - (a+1)) w).1,(iJ (8 - (a+1)) w).2):=by rw[show 8 - a=(8 - (a+1))+1 by omega,iJ,av aq,show(d%128+128*w)%128=d%128 by omega,show(d%128+128*w) / 128=w by omega]
   refine⟨d%128+128*w,j,?_,aq,aq,aq,?_,?_⟩
   .rw[L,gl,Int.add_mul,Int.add_assoc,yx 128 w,va w,yx 128]
   .rw[A,M,show d%128+128=d by omega];rfl
   .rw[A,O];simp only[aB];omega
def vQ{r:iM}(h:Aj r):Ov r (dX r).2 (iy (dX r).1)/\((dX r).2.2.1=aZ->Ph (dX r).1):=by
 have j:=vP h.1
 revert j
 unfold dX;cases A:Gs r.1 0 0 with
 |inr _=>exact λ_=>⟨aCy _ _,λh=>by cases h⟩
 |inl v=>
  intro j;obtain⟨w,K,L,w0,_,w2,B,M⟩:=aDN r.1 0 0 v h.1.2 fm A;have I:r.2.1=aZ:=by
   cases hr:r.2.1 with
   |false=>rfl
   |true=>rw[h.2 hr]at A;cases A
  have ew:v.1=w:=by rw[L,mR];omega
  have e9:(128:Int)^(9 - 0)=9223372036854775808:=rfl;have O:(128:Int)^(8+1)=9223372036854775808:=rfl;have u:(128:Int)^(10+1)=151115727451828646838272:=rfl;have er:iJ 10 w=iJ 8 w:=T0 10 8 w (by rw[u];omega) (by rw[O];omega);have T:iy v.1=(iJ 8 w).1++ [(iJ 8 w).2]:=by rw[ew];unfold iy;rw[er]
  refine⟨⟨⟨j.2.2,λ(J:r.2.1=bn)=>by rw[I]at J;cases J⟩,λ_=>⟨I,?_⟩⟩,λ_=>⟨j.1,j.2.1⟩⟩;show r.1=iy v.1++r.1.drop v.2;rw[T,M,aR]
  conv=>rhs;rw[B]
  rw[List.append_cons,aO,mJ (by rw[aj];rfl)];exact B
def aVz{l:List Int}(h:aa l=8)(j:Bytes l):jI (X4 l)=l:=by
 match l,h with
 |[a,b,c,d,e,f,g,i],_=>
  have u:=j a (by simp);have A:=j b (by simp);have B:=j c (by simp);have I:=j d (by simp);have J:=j e (by simp);have K:=j f (by simp);have L:=j g (by simp);have M:=j i (by simp);unfold akj at u A B I J K L M;unfold jI X4;simp only[bN,dr];congr 1
  .omega
  congr 1
  .omega
  congr 1
  .omega
  congr 1
  .omega
  congr 1
  .omega
  congr 1
  .omega
  congr 1
  .omega
  congr 1;omega
def T7{r:iM}(h:Aj r):Ov r (vH r).2 (jI (vH r).1):=by have e:=aqg h 8;exact e.1.of λj=>(aVz (e.2 j) (Fb h.1).2.1).symm
def aCM{r:iM}(h:Aj r):Ov r (Qd r).2 (Qd r).1:=by
 have e:=aqg h 32;refine e.1.of λj=> ?_
 unfold Qd;simp only[e.2 j];rw[show bj 32 (ag 32 (0:Int))=[] from rfl,bm]
def aXP{r:iM}(h:yo r):Sm (Qd r).1:=by
 have e:=Fb (n:=32) h;refine⟨?_,ij e.2.1 λx j=> ?_⟩
 .show aa ((oX 32 r).1++bj (oX 32 r).1.length (ag 32 (0:Int)))=32;rw[aj,dy,cT];have:=e.1;omega
 .obtain rfl:=(pS.1 (List.mem_of_mem_drop j)).2;exact⟨fm,fm⟩
def awQ{r:iM}(h:Aj r):Ov r (Pm r).2 (iy (Pm r).1.length++(Pm r).1)/\Bytes (Pm r).1/\(Pm r).1.length<=1000000000:=by
 have e:=vQ h;unfold Pm;split
 .rename_i j;exact⟨⟨e.1.1,λu=>by rw[j]at u;cases u⟩,λx A=>(by cases A),az _⟩
 .rename_i j;have j:(dX r).2.2.1=aZ:=by simpa using j
  have t:=aqg e.1.1 (dX r).1.toNat;have tb:=Fb (n:=(dX r).1.toNat) e.1.1.1;have n0:=(e.2 j).1;refine⟨(e.1.trans t.1).of λu=> ?_,tb.2.1,?_⟩
  .rw[t.2 u,Int.toNat_of_nonneg n0]
  .have B:(oX (dX r).1.toNat (dX r).2).1.length<=(dX r).2.1.length:=by
    unfold oX;split
    .exact az _
    .show aa ((dX r).2.1.take _)<=_;rw[bw];omega
   have:=e.1.1.1.1;omega
def bkn{r:iM}(h:Aj r){m:Int}(j:0<=(YS m r).1):Ov r (YS m r).2 (iy (YS m r).1)/\(YS m r).1<=m:=by
 have e:=vQ h;unfold YS at j ⊢;by_cases u:(dX r).1 > m
 .simp only[av u]at j;omega
 .simp only[au u];exact⟨e.1,aq⟩
def aOM{r:iM}(h:Aj r)(m:Int):Aj (YS m r).2:=(vQ h).1.1
def aOL{r:iM}(h:yo r){m:Int}(u:0<=m): -1<=(YS m r).1/\(YS m r).1<=m:=by
 have:=(vP h).1;unfold YS;split
 .exact⟨aq,by show(-1:Int)<=m;omega⟩
 .rename_i j;have j:¬(dX r).1 > m:=j;exact⟨by show -1<=(dX r).1;omega,by show(dX r).1<=m;omega⟩
def aNP:∀(k:Nat) {r:iM},Aj r->Ov r (Uh k r).2 ((Uh k r).1.flatMap aJn)/\(Uh k r).1.length=k/\∀o∈(Uh k r).1,Sm o.1
 | 0,r,h=>⟨Ov.refl h,rfl,λx B=>by cases B⟩
 |k+1,r,h=>by
  have u:=aCM h;have A:=vQ u.1;have j:=aNP k (r:=(bhX r).2) A.1.1;refine⟨?_,by rw[Uh,aB,j.2.1],λo ho=> ?_⟩
  .have:=(u.trans A.1).trans j.1;rw[Uh,c9];exact this
  .rcases cr.1 ho with rfl | ho
   .exact aXP h.1
   .exact j.2.2 o ho
def bjS{r:iM}(h:Aj r):Aj (arT r).2:=(awQ (vQ h).1.1).1.1
def aDW:∀(k:Nat) {r:iM} {x:List dW×iM},Aj r->QJ k r=aw x->Ov r x.2 (x.1.flatMap KX)/\aa x.1=k/\∀o∈x.1,o.1<=9223372036854775807/\lN o.2.1=bn/\bie o.2.1
 | 0,r,x,h,j=>by cases j;exact⟨Ov.refl h,rfl,λx j=>by cases j⟩
 |k+1,r,x,h,j=>by
  rw[QJ]at j;split at j
  .rename_i O;split at j
   .rename_i y hy;cases j;have K:=vQ h;have A:=awQ K.1.1;have J:=aDW k (bjS h) hy;obtain⟨l,M,u,L,I⟩:=baG O;have T:=aOo A.2.1 A.2.2;have B:(arT r).1.2.1=l:=by show(OS (Pm (dX r).2).1).1=l;rw[L]
    refine⟨?_,by rw[aB,J.2.1],λo ho=> ?_⟩
    .have:=(K.1.trans A.1).trans J.1;rw[c9];unfold KX;rw[B,u];exact this
    .rcases cr.1 ho with rfl | ho
     .refine⟨(vP h.1).2.1,by rw[B];exact M,?_⟩;rw[B,I];exact⟨T.1,by show aa (xY _)<=_;omega⟩
     .exact J.2.2 o ho
   .cases j
  .cases j
def azS:∀(k:Nat) {r:iM},Aj r->Ov r (NJ k r).2 ((NJ k r).1.flatMap aU1)/\(NJ k r).1.length=k/\∀s∈(NJ k r).1,bcZ s
 | 0,r,h=>⟨Ov.refl h,rfl,λx B=>by cases B⟩
 |k+1,r,h=>by
  have j:=T7 h;have A:=T7 j.1;have u:=azS k (r:=(bh7 r).2) A.1;refine⟨?_,by rw[NJ,aB,u.2.1],λo ho=> ?_⟩
  .have:=(j.trans A).trans u.1;rw[NJ,c9];exact this
  .rcases cr.1 ho with rfl | ho
   .exact⟨(afZ h.1).1,(afZ j.1.1).1⟩
   .exact u.2.2 o ho
def aOR{r:iM}(h:Aj r):Aj (Bc r).2/\(Bc r).1.length<=12/\∀s∈(Bc r).1,bcZ s:=by have u:=vQ h;have j:=azS (YS 12 (dX r).2).1.toNat (aOM u.1.1 12);have:=aOL u.1.1.1 (m:=12) fm;exact⟨j.1.1,by show(NJ _ _).1.length<=12;rw[j.2.1];omega,j.2.2⟩
def bhf{r:iM}{w:Ua×iM}(h:Aj r)(j:aMj r=aw w):Ov r w.2 (Kn w.1)/\Ze w.1/\aa w.1.2.1<=12:=by
 unfold aMj at j;split at j
 .cases j
 .rename_i I;cases j;have u:=vQ h;have I:0<=(YS 12 (dX r).2).1:=aq;have A:=bkn u.1.1 I;have B:=azS (YS 12 (dX r).2).1.toNat A.1.1;have g:=aOR h;have J:=T7 g.1;have K:((Bc r).1.length:Int)=(YS 12 (dX r).2).1:=by show((NJ _ _).1.length:Int)=_;rw[B.2.1];omega
  have:=((u.1.trans A.1).trans B.1).trans J;refine⟨this.of λ_=> ?_,⟨g.2.2,(afZ g.1.1).1⟩,g.2.1⟩;unfold Kn;simp only[K,aR];rfl
def aGL:∀(l:List bO) {r:iM} {x:List gb×iM},Aj r->Pb l r=aw x->Ov r x.2 (x.1.flatMap λy=>Kn y.2.1)/\x.1.map (·.1)=l/\∀y∈x.1,Ze y.2.1/\aa y.2.1.2.1<=12
 |[],r,x,h,j=>by cases j;exact⟨Ov.refl h,rfl,λx j=>by cases j⟩
 |o::l,r,x,h,j=>by
  rw[Pb]at j;split at j
  .cases j
  .rename_i w A;have e:=bhf h A;split at j
   .cases j
   .rename_i y B;cases j;have u:=aGL l e.1.1 B;refine⟨?_,by rw[cq,u.2.1],λz hz=> ?_⟩
    .have:=e.1.trans u.1;rw[c9];exact this
    .rcases cr.1 hz with rfl | hz
     .exact e.2
     .exact u.2.2 z hz
def aZl(o:bO):Kt:=(o,(0,aC,0,()),())
def bnz(x:gb):Kt:=(x.1,(x.2.1.1,aw x.2.1.2.1,x.2.1.2.2),())
def bpB(x:Kt):gb:=(x.1,(x.2.1.1,x.2.1.2.1.getD [],x.2.1.2.2),())
def biI(l:List Kt):bkG (.slice vF) (.slice fK) l=l.map bpB:=bS
def bkl(l:List gb):(l.map bnz).map bpB=l:=by rw[yz];have:(bpB∘bnz)=id:=rfl;rw[this,List.map_id]
def bfL{t:Ty}{l:List t.den}{k:Nat}{y:t.den}(h:k < aa l):nth t (l.set k y) k=y:=by simp[nth,h]
def bfK{t:Ty}{a b:List t.den}{k:Nat}{y:t.den}(h:aa a=k):nth t (a++y::b) k=y:=by grind [nth]
def bgK{α:Type}{a b:List α}{k:Nat}{y z:α}(h:aa a=k):(a++y::b).set k z=a++z::b:=by simp_all
def aTJ{α:Type}{l:List α}{k:Nat}{y:α}:(l.set k y).take k=l.take k:=by rw[List.take_set,List.set_eq_of_length_le (by rw[bw];omega)]
def aQq{α:Type}{l:List α}{k:Nat}{y:α}:(l.set k y).drop (k+1)=l.drop (k+1):=List.drop_set_of_lt aq
def aSZ:iM->Prop:=λr=>yo r
def aOq:iM->(Bs×iM):=λr=>Qd r
def aps:Fs prog aSZ bt aOq:=eP 149 f149 (λo0=>([dK],[Ow o0])) (λx=>⟨fW x.1,[Ow x.2],[]⟩) [aC] [apM]
def baO(o0)(k:K1 R):aps.A o0 k=ao (R1.call (32,o0)) λj=>aA (decide ((aa j.1)<=32)) (k (aps.out ((j.1++(bj (aa j.1) (ag 32 0))),j.2))) aC:=bS
def baP:aps.Ok:=by intro r h;have h:yo r:=h;have e:=(Fb (n:=32) h).1;rw[baO,afB (d:=(32,r)) ⟨fm,h.1⟩];simp only[ah,bt,ake];rw[show ae 32=32 from rfl,aK e];rfl
def aS0:aps.RS:=rE [.d Fa] aps
def baQ:=aps.eQ baP
def aKF:iM->Prop:=λr=>yo r
def aoV:iM->(Bs×iM):=λr=>Pm r
def RH:Fs prog aKF bt aoV:=eP 151 f151 (λo0=>([.ptr (.dx 0) 0 [] 0],[.obj 0 aZ (.d Fa o0)])) (λx=>⟨.d tB x.1,[.obj 0 aZ (.d Fa x.2)],[]⟩) [aC] [akc,apM] {res:=[aw tB],Ec:=[⟨0,[.arr],Fa⟩]}
def aSL(o0)(k:K1 R):RH.A o0 k=ao (J8.call o0) λj=>aA (j.2.2.1) (k (RH.out (([]:List Int),j.2))) (ao (R1.call (j.1,j.2)) λu=>k (RH.out (u.1,u.2))):=bS
def aSM:RH.Ok:=by
 intro r h;have e:=vP h;rw[aSL,tg (d:=r) h];simp[A6,aoV,Pm];cases j:(dX r).2.2.1
 .rw[afB (d:=((dX r).1,(dX r).2)) ⟨e.1,e.2.2.1⟩];rfl
 .rfl
def aKG:RH.RS:=rE [.d Fa] RH
def aSN:=RH.eQ aSM
def aUa:(Int×iM)->Prop:=λ(m,r)=>yo r
def acY:(Int×iM)->(Int×iM):=λ(m,r)=>YS m r
def Wl:Fs prog aUa bt acY:=eP 147 f147 (λ(j,o1)=>([aU j,dK],[.obj 0 aZ (qp 1 0 0),Ow o1])) (λx=>⟨aU x.1,[.obj 0 aZ (qp 1 0 0),Ow x.2],[]⟩) [aw ti,aC] [akc]
def bca(j o1)(k:K1 R):Wl.A (j,o1) k=ao (J8.call o1) λu=>aA (qi u.1 j) (k (Wl.out ((-1),u.2))) (k (Wl.out (u.1,u.2))):=bS
def bcb:Wl.Ok:=by
 rintro⟨m,r⟩ h;rw[bca,tg (d:=r) h];simp[A6,acY,YS];by_cases j:(dX r).1 > m
 all_goals simp_all [cW,ct,au]
def afX:Wl.RS:=rE [.d ti,.d Fa] Wl
def bcc:=Wl.eQ bcb
abbrev YH:=Int×Int×Int×(Int×Unit)×Nat×(Int×Unit)×iM×(List Kt)
abbrev aqu:=Nat×iM×(List Kt)
def Fc:YH->aqu->((Int×(Int×Unit)×(Int×Unit))×(Nat×iM×(List Kt))):=λ(n,B,I,n2,j,n4,u,A) y=>((n,n2,n4),y)
abbrev He:=Int×Int×Int×Int×(Int×Unit)×Nat×Nat×(Int×Unit)×iM×(List Kt)×(List dW)
def anT:aF:= .fn 147 (.cons (eI 5) (.nil))
def tq:He->AS:=λ(K,m,I,J,M,u,L,O,A,j,B)=>⟨([bB,bB,eI 2,bB,eI 4,eI 5,anT,aU K,aU m]++aP 28 ((qY I J)++aP 93 [])),[],([[],[],dp (w8 M),[],dp (DC 32 u 58 L O),dp (eI 16)]++bz 10 ([dp (.d Fa A)]++bz 15 ([dp (.vec 79 vF j)]++bz 25 ([dp (vm B)]++bz 73 []))))⟩
def uP:(Int×Unit)->Exit×AS:=λx=>(.ret,⟨([bB,bB,eI 2,me]++aP 128 []),[],([[],[],dp (w8 x)]++bz 129 [])⟩)
abbrev aiB:=(Int×Int×(Int×Unit)×Nat×(Int×Unit)×(List Kt))×(Nat×iM×(List dW))
def Ff:aiB->Exit×AS:=λ((a,b,c,e,f,g),h,i,j)=>(.exit 2,⟨([bB,bB,eI 2,bB,eI 4,eI 5,anT,aU a,aU b]++aP 123 []),[],([[],[],dp (w8 c),[],dp (DC 32 e 58 h f),dp (eI 16)]++bz 10 ([dp (.d Fa i)]++bz 15 ([dp (.vec 79 vF g)]++bz 25 ([dp (vm j)]++bz 73 []))))⟩)
abbrev YJ:=((Int×Unit))⊕(aiB)
abbrev aqw:=((Int×Unit))⊕((Nat×iM×(List dW)))
def NU:YJ->Out (Exit×AS):=λx=> .br x.isLeft (.get x.getLeft? λa=> .ok (uP a)) (.get x.getRight? λb=> .ok (Ff b))
def uO:He->aqw->YJ:=λ(A,m,K,L,J,u,O,M,B,j,I) y=>match y with | .inl y=> .inl y | .inr z=> .inr (((A,m,J,u,M,j),z))
abbrev Hf:=Int×Int×Int×Int×(Int×Unit)×Nat×Nat×(Int×Unit)×iM×(List Kt)×(List dW)
def tt:Hf->AS:=λ(J,I,K,L,T,j,u,M,B,O,A)=>⟨([bB,bB,eI 2,bB,eI 4,eI 5,anT,aU J,aU I]++aP 57 ((qY K L)++aP 64 [])),[],([[],[],dp (w8 T),[],dp (DC 32 j 58 u M),dp (eI 16)]++bz 10 ([dp (.d Fa B)]++bz 15 ([dp (.vec 79 vF O)]++bz 25 ([dp (vm A)]++bz 73 []))))⟩
def uQ:(Int×Unit)->Exit×AS:=λx=>(.ret,⟨([bB,bB,eI 2,me]++aP 128 []),[],([[],[],dp (w8 x)]++bz 129 [])⟩)
abbrev aiD:=Int×Int×(Int×Unit)×Nat×Nat×(Int×Unit)×iM×(List Kt)×(List dW)
def Fh:aiD->Exit×AS:=λ(a,b,c,e,f,g,h,i,j)=>(.exit 4,⟨([bB,bB,eI 2,bB,eI 4,eI 5,bB,aU a,aU b]++aP 123 []),[],([[],[],dp (w8 c),[],dp (DC 32 e 58 f g),dp (eI 16)]++bz 10 ([dp (.d Fa h)]++bz 15 ([dp (.vec 79 vF i)]++bz 25 ([dp (vm j)]++bz 73 []))))⟩)
abbrev YL:=((Int×Unit))⊕(aiD)
abbrev aqy:=((Int×Unit))⊕((Int×Int×(Int×Unit)×Nat×Nat×(Int×Unit)×iM×(List Kt)×(List dW)))
def NV:YL->Out (Exit×AS):=λx=> .br x.isLeft (.get x.getLeft? λa=> .ok (uQ a)) (.get x.getRight? λb=> .ok (Fh b))
def nV:Hf->aqy->YL:=λ(J,I,K,L,T,j,u,M,B,O,A) y=>match y with | .inl y=> .inl y | .inr z=> .inr (z)
abbrev YM:=Int×Int×Int×Int×Int×Int×(Int×Unit)×Nat×Nat×(Int×Unit)×iM×(List Kt)×bO×Int×Nat×(Int×Unit)×(List Kt)×(List dW)×(List Sg)
abbrev aqz:=iM×(List Kt)×(List Sg)
def Fi:YM->aqz->((Int×Int×Int×Int×(Int×Unit)×Nat×Nat×(Int×Unit)×(List dW))×(iM×(List Kt)×(List Sg))):=λ(J,K,I,L,t85,t86,M,u,A,j,auC,auE,auF,auG,T,auH,O,B,n99) y=>((J,K,I,L,M,u,A,j,B),y)
def aAa:YH->Prop:=λ(n,m,i,u,L,v,r,l)=>Aj r/\m<=64/\∃k:Nat,i=k/\k<=64/\L=aa l/\aa l=k
def NT:YH->aqu:=λ(n,m,i,u,L,v,r,l)=>(L+(m - i).toNat,(Uh (m - i).toNat r).2,l++(Uh (m - i).toNat r).1.map aZl)
def Fe:He->Prop:=λ(n,A,m,i,u,L,j,v,r,l,os)=>Aj r/\m<=64/\∃k:Nat,i=k/\k<=64/\j=aa os/\aa os=k
def tp:He->aqw:=λ(n,A,m,i,u,L,j,v,r,l,os)=>match QJ (m - i).toNat r with | none=> .inl (0,()) | some x=> .inr (j+aa x.1,x.2,os++x.1)
def aAe:YM->Prop:=λ(n,M,O,I,m,i,u,L,A,v,r,J,T,B,Ls,sc,K,os,j)=>Aj r/\m<=12/\∃k:Nat,i=k/\k<=12/\Ls=aa j/\aa j=k
def NW:YM->aqz:=λ(n,T,mo,O,m,i,u,L,M,v,r,B,J,A,Ls,K,I,os,j)=>((NJ (m - i).toNat r).2,B++(J,(A,aw (j++(NJ (m - i).toNat r).1),K),())::I,j++(NJ (m - i).toNat r).1)
def Fg:Hf->Prop:=λ(n,A,m,i,u,L,j,v,r,l,os)=>Aj r/\aa l<=64/\∃k:Nat,i=k/\k<=aa l/\m=aa l/\L=aa l/\∀x∈l.drop k,x=aZl x.1
def tr:Hf->aqy:=λ(n,A,m,i,u,L,j,v,r,l,os)=>match Pb ((l.drop i.toNat).map (·.1)) r with | none=> .inl (0,()) | some x=> .inr (n,A,u,L,j,v,x.2,l.take i.toNat++x.1.map bnz,os)
def aTR:Bs->Prop:=λb=>Bytes b/\aa b<=1000000000
def az9:Bs->(di×Bool):=λb=>apo b
def zX:Ls aAa Fc NT:=rI (λ(n,B,I,n2,j,n4,u,A)=>⟨([bB,bB,eI 2,bB,eI 4,eI 5,anT,aU n]++aP 12 ((qY B I)++aP 110 [])),[],([[],[],dp (w8 n2),[],dp (aN4 32 j n4),dp (eI 16)]++bz 10 ([dp (.d Fa u)]++bz 15 ([dp (.vec 79 vF A)]++bz 99 [])))⟩) (λx=>(.exit 0,⟨([bB,bB,eI 2,bB,eI 4,eI 5,anT,aU x.1.1]++aP 124 []),[],([[],[],dp (w8 x.1.2.1),[],dp (aN4 32 x.2.1 x.1.2.2),dp (eI 16)]++bz 10 ([dp (.d Fa x.2.2.1)]++bz 15 ([dp (.vec 79 vF x.2.2.2)]++bz 99 [])))⟩))
def aqv:=cQ.eg tq Fe uO tp NU
def Wd:He->Option YJ:=eN aqv tq
def aqx:=cQ.eg tt Fg nV tr NV
def Wf:Hf->Option YL:=eN aqx tt
def zY:Ls aAe Fi NW:=rI (λ(bjI,bjy,K,u,t85,t86,XW,B,I,A,M,O,T,auG,L,auH,j,J,n99)=>⟨([bB,bB,eI 2,bB,eI 4,eI 5,anT,aU bjI,aU bjy]++aP 4 ([.ptr (.new 32 0) 0 [.snd,.fst,.snd,.fst] ((0+((ae u)*36))+33)]++aP 52 ((qY K u)++aP 17 ((qY t85 t86)++aP 45 [])))),[],([[],[],dp (w8 XW),[],dp (DC 32 B 58 I A),dp (eI 16)]++bz 10 ([dp (.d Fa M)]++bz 15 ([dp (.bx 79 36 (.pr (.d (.arr (0+(ae u)) vF) O) (.pr (.pr (xJ T) (.pr (.pr (aU auG) (.pr (uJ 99 L) (.d (.pair tu .unit) auH))) Pv)) (.d (.arr (aa j) vF) j))))]++bz 25 ([dp (vm J)]++bz 40 ([dp (.vec 134 yk n99)]++bz 32 [])))))⟩) (λx=>(.exit 6,⟨([bB,bB,eI 2,bB,eI 4,eI 5,anT,aU x.1.1,aU x.1.2.1]++aP 4 ([.ptr (.new 32 0) 0 [.idx (0+(ae x.1.2.2.2.1)),.snd,.fst] ((0+((ae x.1.2.2.2.1)*36))+33)]++aP 52 ((qY x.1.2.2.1 x.1.2.2.2.1)++aP 64 []))),[],([[],[],dp (w8 x.1.2.2.2.2.1),[],dp (DC 32 x.1.2.2.2.2.2.1 58 x.1.2.2.2.2.2.2.1 x.1.2.2.2.2.2.2.2.1),dp (eI 16)]++bz 10 ([dp (.d Fa x.2.1)]++bz 15 ([dp (.vec 79 vF x.2.2.1)]++bz 25 ([dp (vm x.1.2.2.2.2.2.2.2.2)]++bz 40 ([[.obj 0 bn (.vec 134 yk x.2.2.2)]]++bz 32 [])))))⟩))
def mG:Fs prog aTR bt az9:=eP 94 f94 (λb=>([.d tB b],[])) (λx=>⟨.cons (.d eU x.1) (.cons (.d .bool x.2) (.nil)),[],[]⟩) [aw tB] [aFs,bcc,baQ,akc,aSN,aYS,aOv,bgu,baT,ym] {cd:=[100031,100032],loops:=ko [(6,{aX:=[2,4,5,6,7,20,21],sites:=[2,4,5,16,32],owns:=[⟨4,[.fst],32,100053⟩]}),(11,{aX:=[2,4,5,6,7,8,37,38],sites:=[2,4,5,16,32,58],owns:=[⟨4,[.snd,.fst],58,22⟩]}),(21,{aX:=[2,4,5,6,7,8,66,67],sites:=[2,4,5,16,32,58]}),(29,{aX:=[2,4,5,6,7,8,13,66,67,85,86],sites:=[2,4,5,16,32,58,99],owns:=[⟨13,[.snd,.fst],99,75⟩],bp0:=[13]})],outs:=km [(6,{aX:=[2,4,5,6,7],sites:=[2,4,5,16,32]},{aX:=[2,3]}),(11,{aX:=[2,4,5,6,7,8],sites:=[2,4,5,16,32,58]},{aX:=[2,3],sites:=[2]}),(21,{aX:=[2,4,5,7,8],sites:=[2,4,5,16,32,58]},{aX:=[2,3],sites:=[2]}),(29,{aX:=[2,4,5,6,7,8,13,66,67],sites:=[2,4,5,16,32,58,99],bqS:=[13]},{aX:=[2,3]})],eT:=jW [(6,zX.E),(11,aqv),(21,aqx),(29,zY.E)],res:=[aw eU,aC]}
def YI:= @dm prog (gU mG.G) mG.an 0 f94 1 _ tq
abbrev aiA:=gr prog (gU mG.G) mG.an 0 f94 1 tq Fe uO tp NU
def YK:= @dm prog (gU mG.G) mG.an 0 f94 2 _ tt
abbrev aiC:=gr prog (gU mG.G) mG.an 0 f94 2 tt Fg nV tr NV
def aAb:zX.RS:=rL [.d ti,.d ti,.d ti,.d (.pair ti .unit),.n,.d (.pair ti .unit),.d Fa,.d (.slice vF)] zX
def Wc(n B I n2 j n4 A u)(J:K2 R)(K:K3 R):mG.R 0 zX (n,B,I,n2,j,n4,A,u) J K=aA (fj I B) (ao (aps.call A) λL=>ao (J8.call L.2) λM=>aA (decide (j<=(aa u))) (aA (cM (j+1) 80) (J (zX.st (n,B,(bC .i64 I 1),n2,(j+1),n4,M.2,((aJ j u)++ [((L.1,(M.1,())),((0,(aC,(0,()))),()))])))) aC) aC) (zX.go K ((n,n2,n4),(j,A,u))):=bS
def aAc:fC Wd Fe uO tp:=ia (fy [.d ti,.d ti,.d ti,.d ti,.d (.pair ti .unit),.n,.n,.d (.pair ti .unit),.d Fa,.d (.slice vF),.d (.slice dI)] λ_=>bS)
def acT:iX @YI tq Fe uO tp NU aiA:=ji
theorem We(M m J K O A I T B u j)(kn:K2 R)(kx:K3 R):YI (M,m,J,K,O,A,I,T,B,u,j) kn kx=aA (fj K J) (ao (J8.call B) λL=>ao (RH.call L.2) λUt=>ao (Gk.call Ut.1) λWO=>aA (!WO.2) (kx (uP ((0:Int),())).1 (uP ((0:Int),())).2) (aA (decide (I<=(aa j))) (aA (cM (I+1) 32) (kn (tq (M,m,J,(bC .i64 K (1:Int)),O,A,(I+1),T,Ut.2,u,((aJ I j)++ [(L.1,(WO.1,()))])))) aC) aC)) (kx (Ff ((M,m,O,A,T,u),(I,B,j))).1 (Ff ((M,m,O,A,T,u),(I,B,j))).2):=bS
def aAd:fC Wf Fg nV tr:=ia (fy [.d ti,.d ti,.d ti,.d ti,.d (.pair ti .unit),.n,.n,.d (.pair ti .unit),.d Fa,.d (.slice vF),.d (.slice dI)] λ_=>bS)
def acU:iX @YK tt Fg nV tr NV aiC:=ji
def Wg(O M T j qn I J Gp L u K)(kn:K2 R)(kx:K3 R):YK (O,M,T,j,qn,I,J,Gp,L,u,K) kn kx=aA (fj j T) (aA (dB j ((I:Nat):Int)) (ao (J8.call L) λB=>aA (decide ((0+(ae j)) < (aa u))) (aA (decide ((((0+(ae j))*36)+33)=(((0+((ae j)*36))+33)+0))) (aA (decide ((0+(ae j)) < (aa u))) (ao (Wl.call ((12:Int),B.2)) λoD=>aA (fj oD.1 (0:Int)) (kx (uQ ((0:Int),())).1 (uQ ((0:Int),())).2) (aA (decide ((0+(ae j)) < (aa (gq u (0+(ae j)) ((nth vF u (0+(ae j))).1,((B.1,(nth vF u (0+(ae j))).2.1.2),(nth vF u (0+(ae j))).2.2)))))) (aA (Option.isNone (nth vF (gq u (0+(ae j)) ((nth vF u (0+(ae j))).1,((B.1,(nth vF u (0+(ae j))).2.1.2),(nth vF u (0+(ae j))).2.2))) (0+(ae j))).2.1.2.1) (ao (zY.call (O,M,T,j,oD.1,(0:Int),qn,I,J,Gp,oD.2,(aJ (0+(ae j)) (gq u (0+(ae j)) ((nth vF u (0+(ae j))).1,((B.1,(nth vF u (0+(ae j))).2.1.2),(nth vF u (0+(ae j))).2.2)))),((nth vF (gq u (0+(ae j)) ((nth vF u (0+(ae j))).1,((B.1,(nth vF u (0+(ae j))).2.1.2),(nth vF u (0+(ae j))).2.2))) (0+(ae j))).1.1,((nth vF (gq u (0+(ae j)) ((nth vF u (0+(ae j))).1,((B.1,(nth vF u (0+(ae j))).2.1.2),(nth vF u (0+(ae j))).2.2))) (0+(ae j))).1.2.1,(nth vF (gq u (0+(ae j)) ((nth vF u (0+(ae j))).1,((B.1,(nth vF u (0+(ae j))).2.1.2),(nth vF u (0+(ae j))).2.2))) (0+(ae j))).1.2.2)),(nth vF (gq u (0+(ae j)) ((nth vF u (0+(ae j))).1,((B.1,(nth vF u (0+(ae j))).2.1.2),(nth vF u (0+(ae j))).2.2))) (0+(ae j))).2.1.1,0,((nth vF (gq u (0+(ae j)) ((nth vF u (0+(ae j))).1,((B.1,(nth vF u (0+(ae j))).2.1.2),(nth vF u (0+(ae j))).2.2))) (0+(ae j))).2.1.2.2.1,(nth vF (gq u (0+(ae j)) ((nth vF u (0+(ae j))).1,((B.1,(nth vF u (0+(ae j))).2.1.2),(nth vF u (0+(ae j))).2.2))) (0+(ae j))).2.1.2.2.2),(bj ((0+(ae j))+1) (gq u (0+(ae j)) ((nth vF u (0+(ae j))).1,((B.1,(nth vF u (0+(ae j))).2.1.2),(nth vF u (0+(ae j))).2.2)))),K,([]:List Sg))) λA=>ao (acv.call A.2.1) λWO=>aA (decide ((0+(ae A.1.2.2.2.1)) < (aa A.2.2.1))) (aA (decide ((((0+(ae A.1.2.2.2.1))*36)+35)=(((0+((ae A.1.2.2.2.1)*36))+33)+2))) (aA (decide ((0+(ae A.1.2.2.2.1)) < (aa A.2.2.1))) (kn (tt (A.1.1,A.1.2.1,A.1.2.2.1,(bC .i64 A.1.2.2.2.1 (1:Int)),A.1.2.2.2.2.1,A.1.2.2.2.2.2.1,A.1.2.2.2.2.2.2.1,A.1.2.2.2.2.2.2.2.1,WO.2,(gq A.2.2.1 (0+(ae A.1.2.2.2.1)) ((nth vF A.2.2.1 (0+(ae A.1.2.2.2.1))).1,(((nth vF A.2.2.1 (0+(ae A.1.2.2.2.1))).2.1.1,((nth vF A.2.2.1 (0+(ae A.1.2.2.2.1))).2.1.2.1,(WO.1,(nth vF A.2.2.1 (0+(ae A.1.2.2.2.1))).2.1.2.2.2))),(nth vF A.2.2.1 (0+(ae A.1.2.2.2.1))).2.2))),A.1.2.2.2.2.2.2.2.2))) aC) aC) aC) aC) aC)) aC) aC) aC) aC) (kx (Fh (O,M,qn,I,J,Gp,L,u,K)).1 (Fh (O,M,qn,I,J,Gp,L,u,K)).2):=bS
def aAf:zY.RS:=rL [.d ti,.d ti,.d ti,.d ti,.d ti,.d ti,.d (.pair ti .unit),.n,.n,.d (.pair ti .unit),.d Fa,.d (.slice vF),.d bK,.d ti,.n,.d (.pair tu .unit),.d (.slice vF),.d (.slice dI),.d (.slice yk)] zY
def Wh(bjI bjy M A t85 t86 XW I J B O T auF auG j auH L K u)(kn:K2 R)(kx:K3 R):mG.R 3 zY (bjI,bjy,M,A,t85,t86,XW,I,J,B,O,T,auF,auG,j,auH,L,K,u) kn kx=aA (fj t86 t85) (aA (decide ((((0+(ae A))*36)+34)=(((0+((ae A)*36))+33)+1))) (ao (acv.call O) λx7=>ao (acv.call x7.2) λx8=>aA (decide (j<=(aa u))) (aA (cM (j+1) 16) (aA (decide ((((0+(ae A))*36)+34)=(((0+((ae A)*36))+33)+1))) (kn (zY.st (bjI,bjy,M,A,t85,(bC .i64 t86 1),XW,I,J,B,x8.2,T,auF,auG,(j+1),auH,L,K,((aJ j u)++ [(x7.1,(x8.1,()))])))) aC) aC) aC) aC) (aA (decide (0=0/\(0+j)<=(aa u))) (zY.go kx ((bjI,bjy,M,A,XW,I,J,B,K),(O,(T++(auF,((auG,((aw (cut u 0 j)),auH)),()))::L),u))) aC):=bS
def bbZ(b)(k:K1 R):mG.A b k=ao (aie.call b) λx4=>ao (Wl.call (64,x4)) λx8=>ao (zX.call (x8.1,x8.1,0,(0,()),0,(0,()),x8.2,([]:List Kt))) λJ=>ao (Wl.call (64,J.2.2.1)) λB=>ao (Wd (J.1.1,B.1,B.1,0,J.1.2.1,J.2.1,0,J.1.2.2,B.2,J.2.2.2,([]:List dW))) λI=>aA I.isLeft (ao I.getLeft? λO=>k (mG.out ((([]:List gb),(([]:List dW),O)),aZ))) (ao I.getRight? λu=>ao (J8.call u.2.2.1) λM=>ao (Wf (u.1.1,u.1.2.1,((u.1.2.2.2.1:Nat):Int),0,u.1.2.2.1,u.1.2.2.2.1,u.2.1,(M.1,u.1.2.2.2.2.1.2),M.2,u.1.2.2.2.2.2,u.2.2.2)) λA=>aA A.isLeft (ao A.getLeft? λK=>k (mG.out ((([]:List gb),(([]:List dW),K)),aZ))) (ao A.getRight? λj=>aA (fj j.1 0) (k (mG.out ((([]:List gb),(([]:List dW),(0,()))),aZ))) (aA (fj j.2.1 0) (k (mG.out ((([]:List gb),(([]:List dW),(0,()))),aZ))) (ao (aK0.call j.2.2.2.2.2.2.1) λL=>aA (!L.2) (k (mG.out ((([]:List gb),(([]:List dW),(0,()))),aZ))) (ao (apt.call L.1) λra=>aA (qi ra.2 0) (k (mG.out ((([]:List gb),(([]:List dW),(0,()))),aZ))) (aA (decide (0=0/\(0+j.2.2.2.1)<=(aa j.2.2.2.2.2.2.2.1))) (aA (decide (0=0/\(0+j.2.2.2.2.1)<=(aa j.2.2.2.2.2.2.2.2))) (ao (jv.call ((bkG (.slice vF) (.slice fK) (cut j.2.2.2.2.2.2.2.1 0 j.2.2.2.1)),((cut j.2.2.2.2.2.2.2.2 0 j.2.2.2.2.1),j.2.2.2.2.2.1))) λT=>aA (!T) (k (mG.out ((([]:List gb),(([]:List dW),(0,()))),aZ))) (aA (decide (0=0/\(0+j.2.2.2.1)<=(aa j.2.2.2.2.2.2.2.1))) (aA (decide (0=0/\(0+j.2.2.2.2.1)<=(aa j.2.2.2.2.2.2.2.2))) (k (mG.out (((bkG (.slice vF) (.slice fK) (cut j.2.2.2.2.2.2.2.1 0 j.2.2.2.1)),((cut j.2.2.2.2.2.2.2.2 0 j.2.2.2.2.1),j.2.2.2.2.2.1)),bn))) aC) aC)) aC) aC)))))):=bS
def aGk:(mG.kA 0 zX):=by
 refine(mG.lS 0 zX) (λ(n,m,i,u,L,v,r,l)=>(m - i).toNat) ?_
 rintro⟨n,m,i,u,L,v,r,l⟩ ⟨j,B,k,rfl,M,rfl,axU⟩;have j:Aj r:=j;have B:m<=64:=B;have axU:aa l=k:=axU;by_cases h:(k:Int) < m
 .left;have A:(m - (k:Int)).toNat=(m - ((k+1:Nat):Int)).toNat+1:=aq;have I:=aCM j;refine⟨(n,m,((k+1:Nat):Int),u,aa l+1,v,(bhX r).2,l++ [aZl (bhX r).1]),⟨(vQ I.1).1.1,B,k+1,rfl,aq,by rw[aj];rfl,by rw[aj];show aa l+1=_;omega⟩,by show(m - ((k+1:Nat):Int)).toNat < (m - (k:Int)).toNat;omega,?_,λJ K=> ?_⟩
  .simp only[Fc,NT,A,Uh,cq,aR,cv];rw[show ∀a c:Nat,a+1+c=a+(c+1) from λa c=>aq]
  .rw[Wc,aN h,aS0 (d:=r) j.1];simp only[ai,ah,bt,aOq];rw[tg (d:=(Qd r).2) I.1.1];simp only[ah,bt,A6];rw[aK (ax _),cg aq aq,N.iY aq,bI];rfl
 .right;intro R J K;have A:(m - (k:Int)).toNat=0:=aq;rw[Wc,aL h,al];simp only[Fc,NT,A,Uh,gm,bm,bY]
def aGl:aiA:=by
 refine acT (λ(n,B,m,i,u,L,O,v,r,l,os)=>(m - i).toNat) ?_
 rintro⟨n,B,m,i,u,L,O,v,r,l,os⟩ ⟨M,T,k,rfl,hk,rfl,axU⟩;by_cases h:(k:Int) < m
 .have I:(m - (k:Int)).toNat=(m - ((k+1:Nat):Int)).toNat+1:=aq;have K:=vQ M;have J:=awQ K.1.1;have step:∀ {R:Type} (j:AS->Option R) (A:Exit->AS->Option R),YI (n,B,m,(k:Int),u,L,aa os,v,r,l,os) j A=aA (!(OS (Pm (dX r).2).1).2) (A (uP (0,())).1 (uP (0,())).2) (j (tq (n,B,m,((k+1:Nat):Int),u,L,aa os+1,v,(arT r).2,l,os++ [(arT r).1]))):=by intro R j A;rw[We,aN h,tg (d:=r) M.1];simp only[ah,A6];rw[aKG (d:=(dX r).2) K.1.1.1];simp only[ah,aoV];rw[aRh (d:=(Pm (dX r).2).1) ⟨J.2.1,J.2.2⟩];rw[aK (ax _),cg aq aq,N.iY aq,bI];rfl
  cases hp:(OS (Pm (dX r).2).1).2
  .right;refine⟨uP (0,()),?_,λj A=> ?_⟩
   .simp[tp,I,QJ,hp,bq];rfl
   simp_all
  .left;refine⟨(n,B,m,((k+1:Nat):Int),u,L,aa os+1,v,(arT r).2,l,os++ [(arT r).1]),⟨J.1.1,T,k+1,rfl,aq,by grind,by grind⟩,by grind,?_,λj A=> ?_⟩
   .grind [uO,tp,QJ]
   simp_all
 .right;have I:(m - (k:Int)).toNat=0:=aq;refine⟨Ff ((n,B,u,L,v,l),(aa os,r,os)),?_,λj A=> ?_⟩
  .simp[tp,I,QJ];rfl
  grind [We,aL,aA]
def aGn:(mG.kA 3 zY):=by
 refine(mG.lS 3 zY) (λ(n,m1,mo,O,m,i,u,L,J,v,r,T,op,K,Ls,sc,lb,os,j)=>(m - i).toNat) ?_
 rintro⟨n,m1,mo,O,m,i,u,L,J,v,r,T,op,K,Ls,sc,lb,os,j⟩ ⟨A,I,k,rfl,hk,rfl,axU⟩;have A:Aj r:=A;have I:m<=12:=I;have axU:aa j=k:=axU;by_cases h:(k:Int) < m
 .left;have B:(m - (k:Int)).toNat=(m - ((k+1:Nat):Int)).toNat+1:=aq;have M:=T7 A;have h2:=T7 M.1;refine⟨(n,m1,mo,O,m,((k+1:Nat):Int),u,L,J,v,(bh7 r).2,T,op,K,aa j+1,sc,lb,os,j++ [(bh7 r).1]),⟨h2.1,I,k+1,rfl,aq,by rw[aj];rfl,by rw[aj];show aa j+1=_;omega⟩,by show(m - ((k+1:Nat):Int)).toNat < (m - (k:Int)).toNat;omega,?_,λkn kx=> ?_⟩
  .simp only[Fi,NW,B,NJ,aR,cv]
  .rw[Wh,aN h,aK aq,R2 (d:=r) A.1];simp only[ai,ah,bt,afC];rw[R2 (d:=(vH r).2) M.1.1];simp only[ah,bt,afC];rw[aK (ax _),cg aq aq,N.iY aq,bI];rfl
 .right;intro R kn kx;have B:(m - (k:Int)).toNat=0:=aq;rw[Wh,aL h,al];simp only[Fi,NW,B,NJ,bm,aO,ax,fY,bE,ai,dM]
def aGm:aiC:=by
 refine acU (λ(n,K,m,i,u,L,B,v,r,l,os)=>aa l - i.toNat) ?_
 rintro⟨n,K,m,i,u,L,B,v,r,l,os⟩ ⟨hr,hl,k,rfl,hk,rfl,rfl,hg⟩;have hr:Aj r:=hr;have hl:aa l<=64:=hl;have hk:k<=aa l:=hk;by_cases h:k < aa l
 .have n1:nth vF l k=l[k]:=bG (t:=vF) h;have hd:l.drop k=l[k]::l.drop (k+1):=ak h;have gE:l[k]=aZl l[k].1:=hg _ (by rw[hd];exact aY);obtain⟨A,O⟩:∃A,l[k].1=A:=⟨_,rfl⟩;rw[O]at gE;have h1:=vQ hr;have h2:=aOM h1.1.1 12;have h3:=aOL h1.1.1.1 (m:=12) fm;have hw:=aOR hr;have hu:=T7 hw.1;have M:aa (l.take k)=k:=by rw[bw];omega
  have step:∀ {R:Type} (I:AS->Option R) (J:Exit->AS->Option R),YK (n,K,(aa l:Int),(k:Int),u,aa l,B,v,r,l,os) I J=aA (fj (YS 12 (dX r).2).1 0) (J (uQ (0,())).1 (uQ (0,())).2) (I (tt (n,K,(aa l:Int),((k+1:Nat):Int),u,aa l,B,v,(vH (Bc r).2).2,l.take k++(A,((dX r).1,aw (Bc r).1,(vH (Bc r).2).1,()),())::l.drop (k+1),os))):=by
   intro R I J;rw[Wg,aN aq,aS aq aq,tg (d:=r) hr.1];have ns:∀y:Kt,nth vF (l.set k y) k=y:=λy=>bfL (t:=vF) h
   have nm:∀(y:Kt) (b:List Kt),nth vF (l.take k++y::b) k=y:=λy b=>bfK (t:=vF) M
   simp only[ai,ah,bt,A6,ab,aO,bY,n1,gE,aK h,bE];rw[afX (d:=(12,(dX r).2)) h1.1.1.1];simp only[ai,ah,bt,acY];refine bA (λz=>aA _ _ z) ?_
   simp only[qQ,aK h,ai,aZl,ns,aTJ,aQq,Option.isNone_none];rw[aAf (d:=(n,K,(aa l:Int),(k:Int),(YS 12 (dX r).2).1,0,u,aa l,B,v,(YS 12 (dX r).2).2,l.take k,A,(dX r).1,0,(0,()),l.drop (k+1),os,[])) ⟨h2,h3.2,0,rfl,fm,rfl,rfl⟩];simp only[ah,Fi,NW,tG,bf];rw[show NJ (YS 12 (dX r).2).1.toNat (YS 12 (dX r).2).2=Bc r from rfl,R2 (d:=(Bc r).2) hw.1.1];simp only[ah,bt,afC,ab,nm,bgK M,aK (show k < aa (l.take k++(A,((dX r).1,aw (Bc r).1,0,()),())::l.drop (k+1)) by rw[aj,aB];omega),fP,Nat.reduceAdd,bE,ai];rw[N.iY aq]
  by_cases hp:(YS 12 (dX r).2).1 < 0
  .right;refine⟨uQ (0,()),?_,λI J=> ?_⟩
   .simp only[nV,tr,ab,hd,cq,Pb,aMj,av hp];rfl
   .rw[step,aN hp,ai]
  .left;have j:aa (l.take k++(A,((dX r).1,aw (Bc r).1,(vH (Bc r).2).1,()),())::l.drop (k+1))=aa l:=by rw[aj,aB,dy];omega
   have T:(l.take k++(A,((dX r).1,aw (Bc r).1,(vH (Bc r).2).1,()),())::l.drop (k+1)).drop (k+1)=l.drop (k+1):=by rw[List.append_cons,mJ (by rw[aj];show aa (l.take k)+1=_;omega)]
   have bqx:(l.take k++(A,((dX r).1,aw (Bc r).1,(vH (Bc r).2).1,()),())::l.drop (k+1)).take (k+1)=l.take k++ [(A,((dX r).1,aw (Bc r).1,(vH (Bc r).2).1,()),())]:=by rw[List.append_cons,vJ (by rw[aj];show aa (l.take k)+1=_;omega)]
   refine⟨(n,K,(aa l:Int),((k+1:Nat):Int),u,aa l,B,v,(vH (Bc r).2).2,l.take k++(A,((dX r).1,aw (Bc r).1,(vH (Bc r).2).1,()),())::l.drop (k+1),os),⟨hu.1,by rw[j];exact hl,k+1,rfl,by rw[j];omega,by rw[j],by rw[j],by rw[T];exact λx hx=>hg x (by rw[hd];exact aT _ hx)⟩,by simp only[ab,j];omega,?_,λI J=> ?_⟩
   .simp only[nV,tr,ab,T,bqx,hd,cq,Pb,aMj,au hp,O];cases Pb ((l.drop (k+1)).map (·.1)) (vH (Bc r).2).2 with
    |none=>rfl
    |some x=>
     simp only[cq,aR,cv];rfl
   .rw[step,aL hp,al]
 .right;obtain rfl:k=aa l:=aq;refine⟨Fh (n,K,u,aa l,B,v,r,l,os),?_,λI J=> ?_⟩
  .simp only[nV,tr,ab,ay,gm,Pb,bI,bm];rfl
  .rw[Wg,aL aq,al]
def bfz(l:List bO):(l.map aZl).map (·.1)=l:=by have:((λx=>x.1)∘aZl)=id:=rfl;simp_all
def bb0:mG.Ok:=by
 rintro b ⟨T,J⟩;have k0:=bgj T J;have k1:=aOM k0 64;have u1:=aOL k0.1 (m:=64) fm;rw[bbZ,avN (d:=b) J];simp only[ah,bt,azE,bt,az9,apo];rw[afX (d:=(64,(b,aZ,()))) k0.1];simp only[ah,bt,acY];generalize YS 64 (b,aZ,())=n at*;have A:=aNP n.1.toNat k1;rw[aAb (d:=(n.1,n.1,0,(0,()),0,(0,()),n.2,[])) ⟨k1,u1.2,0,rfl,fm,rfl,rfl⟩];simp only[ah,Fc,NT,tG,bf,aO];generalize Uh n.1.toNat n.2=ops at*;have K:=aOM A.1.1 64;have u3:=aOL A.1.1.1 (m:=64) fm;rw[afX (d:=(64,ops.2)) A.1.1.1];simp only[ah,bt,acY];generalize YS 64 ops.2=m at*;rw[aAc (d:=(n.1,m.1,m.1,0,(0,()),n.1.toNat,0,(0,()),m.2,ops.1.map aZl,[])) ⟨K,u3.2,0,rfl,fm,rfl,rfl⟩];simp only[ah,uO,tp,tG,bf,aO];cases hx:QJ m.1.toNat m.2 with
 |none=>rfl
 |some x=>
  have B:=aDW _ K hx;have L:=vQ B.1.1;have M:aa (ops.1.map aZl)=n.1.toNat:=by grind
  simp only[dh,cJ,al,ah];rw[tg (d:=x.2) B.1.1.1];simp only[ah,bt,A6];rw[aAd (d:=(n.1,m.1,(n.1.toNat:Int),0,(0,()),n.1.toNat,aa x.1,((dX x.2).1,()),(dX x.2).2,ops.1.map aZl,x.1)) ⟨L.1.1,by grind,0,rfl,az _,by rw[M],by rw[M],λz hz=>by
   grind [aZl]⟩]
  simp only[ah,nV,tr,aW,aH,du,bf,bfz,aYZ];cases hy:Pb ops.1 (dX x.2).2 with
  |none=>rfl
  |some y=>
   have o6:=aGL _ L.1.1 hy;have I:aa (y.1.map bnz)=n.1.toNat:=by grind
   simp only[dh,cJ,al,ah,aXp];by_cases j:n.1 < 0
   .rw[aN j,ai,av (ju j)];rfl
   rw[aL j,al];by_cases u:m.1 < 0
   .rw[aN u,ai,av (eF (ju u))];rfl
   rw[aL u,al,ba3 (d:=y.2) trivial];simp only[ah,aFr,ba1,Bool.not_not];cases c3:y.2.2.1
   .rw[al,aS2 (d:=y.2) trivial];simp only[ah,avD,aOr];by_cases O:0 < aa y.2.1
    .rw[cW aq,ai,av (eF (eF (eF (ju O))))];rfl
    .rw[ct aq,al,aK ⟨by trivial,aq⟩,aK ⟨by trivial,aq⟩,dM I,dM rfl,biI,bkl];rw[tv (d:=(y.1,x.1,(dX x.2).1,())) ⟨λo ho=>(B.2.2 o ho).2.2,by grind,by grind⟩];simp only[ah,bt,vG];cases c5:ig (y.1,x.1,(dX x.2).1,())
     .rw[av (eF (eF (eF (eF (by trivial)))))];rfl
     simp_all [au]
   .rw[ai,av (eF (eF (ju (by trivial))))];rfl
def afW:mG.RS:=rE [.d tB] mG
def aqA:=mG.eQ bb0 4 ⟨.eg aGk,⟨.eg aGl,⟨.eg aGm,⟨.eg aGn,trivial⟩⟩⟩⟩
def Sb{t:di}(h:ig t=bn):FL t:=by
 obtain⟨⟨_,J,K,_⟩,j,u⟩:=iW h;exact⟨⟨aq,λx I=>by have:=C1 (ma _ _ j x I);omega⟩,aq,λo B=>by
  have:=Qr (jL _ _ u o B).2;exact⟨aq,λb A=>by have:=this.2 b A;omega⟩⟩
def Md{α:Type}{f:α->List Int}{l:List α}(h:∀x∈l,Bytes (f x)):Bytes (l.flatMap f):=λb j=>by obtain⟨x,u,j⟩:=tK.1 j;exact h x u b j
def Qq{α:Type}{f:α->List Int}{n:Nat}:∀ {l:List α},(∀x∈l,aa (f x)<=n)->aa (l.flatMap f)<=n*aa l
 |[],_=>az _
 |x::l,h=>by
  rw[c9,aj,aB,Nat.mul_add,j6];have u:=h x aY;have A:=Qq (l:=l) λy j=>h y (aT _ j)
  omega
def FC{t:di}(T:mE t):Bytes (aL4 t)/\aa (aL4 t)<=1000000:=by
 cases I:ig t
 .unfold aL4;rw[I];exact⟨λx j=>(by cases j),az _⟩
 obtain⟨⟨a1,a2,a3,a4⟩,b1,b2⟩:=iW I;have u:∀x∈t.1,_:=λx j=>C1 (ma _ _ b1 x j)
 rw[bcf I];have n0:∀ {n:Nat},n<=1000->Ph (n:Int):=λh=>za aq
 have J:∀x∈t.1,Bytes (aJn x.1)/\aa (aJn x.1)<=43:=λx j=>by have A:=u x j;have M:=mq x.1.2.1;have O:=(T.2.1 x j).1;exact⟨ij O.2 (mQ ⟨A.1,aq⟩),by unfold aJn;rw[aj,O.1];omega⟩
 have K:∀o∈t.2.1,Bytes (KX o)/\aa (KX o)<=1022:=λo ho=>by have A:=(jL _ _ b2 o ho).1;have M:=mq o.1;have B:=mq (aa (XN o.2.1));have hl:=TN o.2.1;exact⟨ij (mQ ⟨A.1,aq⟩) (ij (mQ (n0 hl)) (aRa _)),by unfold KX;rw[aj,aj];omega⟩
 have L:∀x∈t.1,Bytes (Kn x.2.1)/\aa (Kn x.2.1)<=300:=λx j=>by
  have A:=u x j;have M:=mq x.2.1.1;have B:=mq (aa x.2.1.2.1);have hf:=Qq (f:=aU1) (n:=16) (l:=x.2.1.2.1) λs _=>by unfold aU1;rw[aj,cC,cC];omega
  refine⟨ij (mQ ⟨A.2.2.1,aq⟩) (ij (mQ (n0 aq)) (ij (Md λs _=>ij (KD _) (KD _)) (KD _))),?_⟩;unfold Kn;simp only[aj,cC];omega
 have f1:=Qq (f:=λx:gb=>aJn x.1) (n:=43) (l:=t.1) λx j=>(J x j).2
 have f2:=Qq (f:=KX) (n:=1022) (l:=t.2.1) λx j=>(K x j).2
 have f3:=Qq (f:=λx:gb=>Kn x.2.1) (n:=300) (l:=t.1) λx j=>(L x j).2
 have r1:=mq (aa t.1);have r2:=mq (aa t.2.1);have r3:=mq t.2.2.1;refine⟨ij (mQ (n0 aq)) (ij (Md λx j=>(J x j).1) (ij (mQ (n0 aq)) (ij (Md λx j=>(K x j).1) (ij (mQ ⟨a4,T.2.2⟩) (Md λx j=>(L x j).1))))),?_⟩;unfold bnK;simp only[aj];omega
section
section
variable {β:Type} {kt:Ty}
def HU(B:kt.comp=bn)(o A:kt.den)(v:β):∀l:List (kt.den×β),bT kt o (fi kt A v l)=if kt.beq o A=bn then aw v else bT kt o l
 |[]=>by rw[aRq,fU,uh]
 |p::l=>by
  rw[sP];by_cases h:kt.beq A p.1=bn
  .rw[av h,fU,fU];have e:=beq_eq kt _ _ B h;by_cases j:kt.beq o A=bn
   .rw[av j,av j]
   .rw[au j,au j,au (by rw[<-e];exact j)]
  .rw[au h,fU,fU,HU B o A v l];by_cases u:kt.beq o p.1=bn
   .rw[av u,av u,au];intro I;apply h;rw[<-beq_eq kt _ _ B I];exact u
   .rw[au u,au u]
def ajL(u:kt.comp=bn)(o A:kt.den):∀ {l:List (kt.den×β)},(l.map (·.1)).Nodup->bT kt o (fV kt A l)=if kt.beq o A=bn then aC else bT kt o l
 |[],_=>by rw[aRp,uh];split <;> rfl
 |p::l,hn=>by
  rw[cq,db]at hn;rw[wS];by_cases h:kt.beq A p.1=bn
  .rw[av h,fU];have e:=beq_eq kt _ _ u h;by_cases B:kt.beq o A=bn
   .rw[av B];have I:=beq_eq kt _ _ u B;cases K:bT kt o l with
    |none=>rfl
    |some v=>exact absurd (dE.2 ⟨_,(lO u hn.2).1 K,rfl⟩) (by rw[I,e];exact hn.1)
   .rw[au B,au (by rw[<-e];exact B)]
  .rw[au h,fU,fU,ajL u o A hn.2];by_cases j:kt.beq o p.1=bn
   .rw[av j,av j,au];intro J;apply h;rw[<-beq_eq kt _ _ u J];exact j
   .rw[au j,au j]
def get_none(j:kt.comp=bn){o:kt.den}{l:List (kt.den×β)}(u:(l.map (·.1)).Nodup):bT kt o l=aC↔o ∉ l.map (·.1):=by
 constructor
 .intro h B;obtain⟨p,I,e⟩:=dE.1 B;have e:p.1=o:=e;have:=(lO j u (x:=o) (v:=p.2)).2 (by rw[<-e];exact I);rw[h]at this;cases this
 .intro h;cases A:bT kt o l with
  |none=>rfl
  |some v=>exact absurd (dE.2 ⟨_,(lO j u).1 A,rfl⟩) h
def Vl{l:List (kt.den×β)}(j:(l.map (·.1)).Nodup):l.Nodup:=by
 induction l with
 |nil=>exact gO
 |cons p l u=>
  rw[cq,db]at j;exact db.2 ⟨λh=>j.1 (dE.2 ⟨p,h,rfl⟩),u j.2⟩
def aD5(A:kt.comp=bn){l u:List (kt.den×β)}(B:(l.map (·.1)).Nodup)(j:(u.map (·.1)).Nodup)(h:∀o,bT kt o l=bT kt o u):l.Perm u:=by rw[List.perm_ext_iff_of_nodup (Vl B) (Vl j)];rintro⟨o,v⟩;rw[<-lO A B,<-lO A j,h]
end
theorem pc(a b:bO):(Ty.beq bK a b=bn)↔a=b:=⟨beq_eq bK a b rfl,λh=>by rw[h];exact beq_refl bK b rfl⟩
abbrev At:=List (bO×fh)
abbrev dY(a:At):List bO:=a.map (·.1)
def aIr(o j:bO)(v:fh)(a:At):bT bK o (fi bK j v a)=if o=j then aw v else bT bK o a:=by
 rw[HU eY];by_cases h:o=j
 .rw[av ((pc _ _).2 h),av h]
 .rw[au (λe=>h ((pc _ _).1 e)),au h]
theorem axQ(o j:bO){a:At}(u:(dY a).Nodup):bT bK o (fV bK j a)=if o=j then aC else bT bK o a:=by
 rw[ajL eY _ _ u];by_cases h:o=j
 .rw[av ((pc _ _).2 h),av h]
 .rw[au (λe=>h ((pc _ _).1 e)),au h]
def XD{o:bO}{v:fh}{a:At}(j:(dY a).Nodup):(dY (fi bK o v a)).Nodup:=Qz eY j
theorem qg{o:bO}{a:At}(j:(dY a).Nodup):(dY (fV bK o a)).Nodup:=Qy eY j
def bhy{a j:At}(A:(dY a).Nodup)(u:(dY j).Nodup)(h:∀o,bT bK o a=bT bK o j):a.Perm j:=aD5 eY A u h
def aZC{a j:At}(u:(dY a).Nodup)(h:j.Perm a)(o:bO):bT bK o j=bT bK o a:=amK eY u h
def aLQ{o:bO}{c:fh}{a:At}(j:(dY a).Nodup)(u:bT bK o a=aw c):a.Perm ((o,c)::fV bK o a):=by
 refine bhy j ?_ λx=> ?_
 .show(o::dY (fV bK o a)).Nodup;refine db.2 ⟨?_,qg j⟩;have:=(get_none eY (qg (o:=o) j)).1 (by rw[axQ o o j,av rfl]);exact this
 .rw[fU,axQ x o j];by_cases h:x=o
  .subst h;rw[av ((pc _ _).2 rfl),u]
  .rw[au (λe=>h ((pc _ _).1 e)),au h]
def TA(o:bO)(l:List bO)(a:At):Cq (o::l) a=Cq l (fV bK o a):=rfl
def F8:∀(l:List bO) {a:At},(dY a).Nodup->(dY (Cq l a)).Nodup
 |[],_,h=>h
 |o::l,a,h=>by rw[TA];exact F8 l (qg h)
def agR(x:bO):∀(l:List bO) {a:At},(dY a).Nodup->bT bK x (Cq l a)=if x∈l then aC else bT bK x a
 |[],a,_=>by rw[au (by simp)];rfl
 |o::l,a,h=>by
  rw[TA,agR x l (qg h),axQ x o h];by_cases j:x∈l
  .rw[av j,av (aT _ j)]
  .rw[au j];by_cases u:x=o
   .rw[av u,av (by rw[u];exact aY ..)]
   .rw[au u,au (by simp[j,u])]
def Ay(h:Int)(o:bO)(l:List bO)(x:dW)(j:List dW)(a:At):Ub h (o::l) (x::j) a=Ub h l j (fi bK o (x,(h,())) a):=rfl
def akn(h:Int):∀(l:List bO) (u:List dW) {a:At},(dY a).Nodup->(dY (Ub h l u a)).Nodup
 |[],[],_,j=>j
 |[],_::_,_,j=>j
 |_::_,[],_,j=>j
 |o::l,x::u,a,j=>by rw[Ay];exact akn h l u (XD j)
def aNd(h:Int)(x:bO):∀(l:List bO) (j:List dW) (a:At),x ∉ l->bT bK x (Ub h l j a)=bT bK x a
 |[],[],_,_=>rfl
 |[],_::_,_,_=>rfl
 |_::_,[],_,_=>rfl
 |o::l,y::j,a,hx=>by rw[Ay,aNd h x l j _ (λe=>hx (aT _ e)),aIr,au (λe=>hx (by rw[e];exact aY ..))]
def aCI(h:Int):∀(l:List bO) (u:List dW) (a:At),l.Nodup->∀(k:Nat) (j:k < aa l) (A:k < aa u),bT bK l[k] (Ub h l u a)=aw (u[k],(h,()))
 |[],_,_,_,k,j,_=>by simp at j
 |_::_,[],_,_,k,_,j=>by simp at j
 |o::l,y::u,a,hn,k,j,A=>by
  rw[db]at hn;rw[Ay];cases k with
  |zero=>
   show bT bK o _=aw (y,(h,()));rw[aNd h o l u _ hn.1,aIr,av rfl]
  |succ k=>
   simp only[List.getElem_cons_succ];exact aCI h l u _ hn.2 k (by simpa using j) (by simpa using A)
def Di(a:At)(l:List bO):Int:=(l.map λo=>((bT bK o a).getD bcX).1.1).sum
def aCm:∀(l:List bO) {a:At},(dY a).Nodup->l.Nodup->(∀o∈l,(bT bK o a).isSome=bn)->Ck (Cq l a)=Ck a - Di a l/\aa (Cq l a)+aa l=aa a
 |[],a,_,_,_=>by simp[Cq,Di]
 |o::l,a,hn,hl,ht=>by
  rw[db]at hl;obtain⟨c,A⟩:=dA.1 (ht o (aY ..));have B:∀x∈l,bT bK x (fV bK o a)=bT bK x a:=λx j=>by rw[axQ x o hn,au (λe=>hl.1 (by rw[<-e];exact j))]
  obtain⟨J,O⟩:=aCm l (qg (o:=o) hn) hl.2 λx j=>by rw[B x j];exact ht x (aT _ j)
  have I:=aLQ hn A;have u:=Kw I;have K:=I.length_eq;have L:Di (fV bK o a) l=Di a l:=by unfold Di;congr 1;exact eE λx j=>by rw[B x j]
  rw[tO]at u;rw[aB]at K;rw[TA,J,L,aB];have M:Di a (o::l)=c.1.1+Di a l:=by simp[Di,A]
  rw[M];exact⟨by have u:Ck a=c.1.1+Ck (fV bK o a):=u;omega,aq⟩
def sV(x:dW)(j:List dW):il (x::j)=x.1+il j:=by simp[il]
def aAW(h:Int):∀(l:List bO) (j:List dW) {a:At},(dY a).Nodup->l.Nodup->aa l=aa j->(∀o∈l,bT bK o a=aC)->Ck (Ub h l j a)=Ck a+il j/\aa (Ub h l j a)=aa a+aa l
 |[],[],a,_,_,_,_=>by simp[Ub,il]
 |[],_::_,_,_,_,he,_=>by simp at he
 |_::_,[],_,_,_,he,_=>by simp at he
 |o::l,x::j,a,hn,hl,he,ht=>by
  rw[db]at hl;have A:=(get_none eY hn).1 (ht o (aY ..));have e:fi bK o (x,(h,())) a=a++ [(o,(x,(h,())))]:=Cv eY A;obtain⟨B,I⟩:=aAW h l j (XD (o:=o) (v:=(x,(h,()))) hn) hl.2 (by simpa using he) λy u=>by rw[aIr,au (λe=>hl.1 (by rw[<-e];exact u))];exact ht y (aT _ u)
  rw[Ay,B,I,e,aA2,sV,aj];simp only[Ck,cq,gm,List.sum_cons,List.sum_nil,aB,bl];omega
def ami:∀(l:List gb) (m:List (bO×Bool)),KP m l=bn->(l.map (·.1)).Nodup/\∀x∈l,bT bK x.1 m≠aw bn
 |[],_,_=>⟨gO,λ_ h=>by cases h⟩
 |x::l,m,h=>by
  rw[KP,aQ,aQ]at h;obtain⟨⟨j,_⟩,B⟩:=h;obtain⟨I,J⟩:=ami l _ B;have u:∀y∈l,bT bK y.1 (fi bK x.1 bn m)≠aw bn:=J;have A:∀y∈l,y.1≠x.1:=λy hy e=>u y hy (by rw[HU eY,av ((pc _ _).2 e)])
  refine⟨?_,λy hy=> ?_⟩
  .rw[cq,db];refine⟨λK=> ?_,I⟩;obtain⟨y,hy,e⟩:=dE.1 K;exact A y hy e
  .rcases cr.1 hy with rfl | hy
   .intro e;unfold aal at j;rw[e]at j;cases j
   .have:=u y hy;rw[HU eY,au (λe=>A y hy ((pc _ _).1 e))]at this;exact this
def NM(t:di):(dG t).Nodup:=by
 unfold dG;split
 .rename_i h;exact(ami _ _ (iW h).2.1).1
 .exact gO
def XT(t:di):(gI t).Nodup:=by
 unfold gI;split
 .unfold y8;refine List.Pairwise.map _ (λa b j e=> ?_) (List.nodup_range' (s:=0) (n:=aa t.2.1) (step:=1));have:(a:Int)=b:=bA (λo:bO=>o.2.1) e;exact j aq
 .exact gO
def amg{h:Int}{id:List Int}{a:At}:∀(l:List gb) (j f:Int),ua h id a l j= .inr f->(∀o∈l.map (·.1),(bT bK o a).isSome=bn)/\f=j+Di a (l.map (·.1))
 |[],j,f,e=>by simp only[ua,Sum.inr.injEq]at e;subst e;simp[Di]
 |x::l,j,f,e=>by
  simp only[ua]at e;cases u:bT bK x.1 a with
  |none=>rw[u]at e;cases e
  |some c=>
   rw[u]at e;simp only at e;split at e
   .cases e
   .obtain⟨A,B⟩:=amg l _ _ e;refine⟨λo ho=> ?_,?_⟩
    .rw[cq]at ho;rcases cr.1 ho with rfl | ho
     .rw[u];rfl
     .exact A o ho
    .rw[B];simp only[Di,cq,List.sum_cons,u,lJ];omega
structure wz(t:di)(h:Int)(a:At)(jm:Int):Prop where
 ok:ig t=bn
 h1:1<=h
 h2:h<=1048576
 ins:∃f,ua h (mw t) a t.1 0= .inr f/\jm=f - il t.2.1
 there:∀o∈dG t,(bT bK o a).isSome=bn
 made:∀o∈gI t,bT bK o a=aC
 blq:jm=Di a (dG t) - il t.2.1
 pos:0<=jm
def HO{t:di}{h:Int}{a:At}(e:(dw t h a).2=0):wz t h a (dw t h a).1:=by
 obtain⟨A,B,I,f,j,L,O,J⟩:=Tl e;obtain⟨T,i2⟩:=amg _ _ _ j;have u:dG t=t.1.map (·.1):=by unfold dG;rw[av A]
 rw[J];refine⟨A,B,I,⟨f,j,rfl⟩,by rw[u];exact T,λo M=> ?_,by rw[u,i2];show 0+_ - _=_;omega,O⟩;have:=List.any_eq_false.1 L o M;unfold mD at this;cases K:bT bK o a with
 |none=>rfl
 |some c=>rw[K]at this;simp at this
def aHM{t:di}{h:Int}{a:At}(e:(dw t h a).2≠0):(dw t h a).1=0:=by
 unfold dw at e ⊢;split
 .rename_i j;rw[av j]at e;cases B:ua h (mw t) a t.1 0 with
  |inl x=>rfl
  |inr f=>
   rw[B]at e;simp only at e ⊢;split
   .rfl
   .rename_i u;rw[au u]at e;split
    .rfl
    .rename_i A;rw[au A]at e;exact absurd rfl e
 .rfl
section
variable {t:di} {h jm:Int} {a:At}
def wz.bmK(j:wz t h a jm)(A:(dY a).Nodup){o:bO}(u:o∈dG t):bT bK o (fx t h a)=aC:=by
 have B:o ∉ gI t:=λe=>by have:=j.there o u;rw[j.made o e]at this;cases this
 unfold fx;rw[aNd h o _ _ _ B,agR o _ A,av u]
def wz.new(A:wz t h a jm){k:Nat}(u:k < aa (gI t))(j:k < aa t.2.1):bT bK (gI t)[k] (fx t h a)=aw (t.2.1[k],(h,())):=by unfold fx;exact aCI h _ _ _ (XT t) k u j
def Zk(A:(dY a).Nodup){o:bO}(j:o ∉ dG t)(u:o ∉ gI t):bT bK o (fx t h a)=bT bK o a:=by unfold fx;rw[aNd h o _ _ _ u,agR o _ A,au j]
def fT(j:(dY a).Nodup):(dY (fx t h a)).Nodup:=akn h _ _ (F8 _ j)
def wz.sum(j:wz t h a jm)(u:(dY a).Nodup):Ck (fx t h a)=Ck a - jm/\aa (fx t h a)+aa t.1=aa a+aa t.2.1:=by
 obtain⟨A,K⟩:=aCm (dG t) u (NM t) j.there;obtain⟨B,I⟩:=aAW h (gI t) t.2.1 (F8 (dG t) u) (XT t) (xH j.ok) λo J=>by
  rw[agR o _ u];split
  .rfl
  .exact j.made o J
 have L:=j.blq;have M:=amh j.ok;have O:=xH j.ok;unfold fx;rw[B,I,A];exact⟨aq,aq⟩
def wz.wK(A:wz t h a jm)(B:aq8 a)(hv:mE t):aq8 (fx t h a):=by
 refine⟨fT B.1,λp T=> ?_⟩;have j:=(lO eY (fT (t:=t) (h:=h) B.1) (x:=p.1) (v:=p.2)).2 T;by_cases K:p.1∈gI t
 .obtain⟨k,L,e⟩:=List.getElem_of_mem K;have u:k < aa t.2.1:=by rw[<-xH A.ok];exact L
  rw[<-e,A.new L u]at j;have j:=(cj j).symm;have J:=jL _ _ (iW A.ok).2.2 _ (aD u);have hu:=hv.1.1 _ (aD u);have I:=A.h1;have M:=A.h2;refine⟨?_,?_⟩
  .rw[<-e];have O:gI t=y8 (mw t) 0 (aa t.2.1):=by unfold gI;rw[av A.ok]
   simp only[O,y8,List.getElem_map];have:=(Hh (t:=t));exact⟨this.1,λx hx=>this.2 x hx⟩
  .rw[j];exact⟨J.2,hu.1,J.1.1,J.1.2,by show 0<=h;omega,M⟩
 .by_cases I:p.1∈dG t
  .rw[A.bmK B.1 I]at j;cases j
  .rw[Zk B.1 I K]at j;exact B.2 p ((lO eY B.1).1 j)
end
end
abbrev ahV:=Bs×Nat×Int×(List Int)
def ass:ahV->Prop:=λ(h,m,i,l)=>aa h=32/\m=aa l/\∃k:Nat,k<=32/\i=k/\aa l<=100000000+k
def Io:ahV->(Nat×(List Int)):=λ(h,m,i,l)=>(aa (l++h.drop i.toNat),l++h.drop i.toNat)
def aKr:(Bs×Bs)->Prop:=λ(b,h)=>aa b<=90000000/\aa h=32
def Lw:(Bs×Bs)->Bs:=λ(b,h)=>b++h
def uz:Ls ass bt Io:=rI (λ(u,j,i,n7)=>⟨([bB,bB,bB,.iU tH u,bB,uJ 7 j,aU i]++aP 14 []),[],(bz 7 ([dp (vn n7)]++bz 13 []))⟩) (λx=>(.exit 0,⟨(aP 5 ([uJ 7 x.1]++aP 15 [])),[],(bz 7 ([dp (vn x.2)]++bz 13 []))⟩))
def AP:Fs prog aKr bt Lw:=eP 126 f126 (λ(b,h)=>([.d tB b,.d tH h],[])) (λx=>⟨.d tB x,[],[]⟩) [aw tB,aw tH] [] {cd:=[7],loops:=ko [(3,{aX:=[3,5,6],sites:=[7],owns:=[⟨5,[],7,125⟩]})],outs:=km [(3,{aX:=[5],sites:=[7]},{aX:=[4]})],eT:=jW [(3,uz.E)],res:=[aw tB]}
def ast:uz.RS:=rL [.d tH,.n,.d ti,.d tB] uz
theorem Rx(u j i n7)(A:K2 R)(B:K3 R):AP.R 0 uz (u,j,i,n7) A B=aA (fj i 32) (aA (dB i 32) (aA (decide (j<=(aa n7))) (aA (cM (j+1) 1) (A (uz.st (u,(j+1),(bC .i64 i 1),((aJ j n7)++ [(nth tb u (ae i))])))) aC) aC) aC) (uz.go B (j,n7)):=bS
def aSy(b h)(k:K1 R):AP.A (b,h) k=aA (cM (0+(aa b)) 1) (ao (uz.call (h,(0+(aa b)),0,((aJ 0 (ag 0 0))++b))) λj=>aA (decide (0=0/\(0+j.1)<=(aa j.2))) (k (AP.out (cut j.2 0 j.1))) aC) aC:=bS
def azk:(AP.kA 0 uz):=by
 refine(AP.lS 0 uz) (λ(_,_,i,_)=>(32 - i).toNat) ?_
 rintro⟨h,m,i,l⟩ ⟨j,rfl,k,B,rfl,I⟩;by_cases A:k < 32
 .left;have n1:nth tb h k=h[k]:=bG (t:=tb) aq;have u:aa (l++ [h[k]])=aa l+1:=by grind
  refine⟨(h,aa l+1,((k+1:Nat):Int),l++ [h[k]]),⟨j,u.symm,k+1,aq,rfl,by grind⟩,by grind,?_,λJ K=> ?_⟩
  .simp[Io]
  .rw[Rx,aN aq,ai,aS aq aq,ai,aK (ax _),ai,cg aq aq,ai,N.iY aq,ab,n1,bI]
 grind [Rx,aL,al,Io]
def aSz:AP.Ok:=by rintro⟨b,h⟩ ⟨u,j⟩;rw[aSy];simp;rw[cg aq aq,ast (d:=(h,aa b,0,b)) ⟨j,rfl,0,aq,rfl,aq⟩];simp[Io,dM,Lw]
def No:AP.RS:=rE [.d tB,.d tB] AP
def avb:=AP.eQ aSz 1 ⟨.eg azk,trivial⟩
def aKs:(Bs×Int)->Prop:=λ(b,n)=>aa b<=90000000/\n<=9223372036854775807
def aoG:(Bs×Int)->(Nat×(List Int)):=λ(b,n)=>(aa (cZ b n),cZ b n)
def Ry:Fs prog aKs bt aoG:=eP 127 f127 (λ(b,n)=>([.d tB b,.d ti n],[])) (λx=>⟨.dq (.new 0 0) 0 [] 0 0 x.1,[],[.obj 0 aZ (.vec 5 tb x.2)]⟩) [aw tB,aw ti] [aEW] {cd:=[6],owns:=[⟨4,[],6,125⟩]}
def aSA(b n)(k:K1 R):Ry.A (b,n) k=aA (cM (0+(aa b)) 1) (aA (DA n 0) (ao (Yu n) λj=>aA (decide ((0+(aa b))<=(aa ((aJ 0 (ag 0 0))++b)))) (aA (cM ((0+(aa b))+(aa j)) 1) (k (Ry.out (((0+(aa b))+(aa j)),((aJ (0+(aa b)) ((aJ 0 (ag 0 0))++b))++j)))) aC) aC) (k (Ry.out ((0+(aa b)),((aJ 0 (ag 0 0))++b))))) aC:=bS
def aSB:Ry.Ok:=by
 rintro⟨b,n⟩ ⟨u,j⟩;rw[aSA];simp[aoG,cZ];rw[cg aq aq];by_cases h:n>=0
 .have A:=mq n;rw[fE h,au aq,avd (d:=n) ⟨h,j,by grind⟩];simp only[ah,xL,Iq];rw[cg aq aq,aj];rfl
 simp_all [ed]
def aKt:Ry.RS:=rE [.d tB,.d ti] Ry
def aSC:=Ry.eQ aSB
def aKp:(Bs×Bs)->Prop:=λ(b,c)=>aa b+aa c<=80000000
def aEV:(Bs×Bs)->Bs:=λ(b,c)=>b++(iy (aa c)++c)
def Yt:Fs prog aKp bt aEV:=eP 136 f136 (λ(b,c)=>([fo b,fo c],[])) (λx=>⟨fo x,[],[]⟩) [aw tB,aw tB] [aSC] {res:=[aw tB]}
def aSv(b c)(k:K1 R):Yt.A (b,c) k=ao (Ry.call (b,(aa c:Int))) λj=>aA (decide (j.1<=(aa j.2))) (aA (cM (j.1+(aa c)) 1) (aA (decide (0=0/\(0+(j.1+(aa c)))<=(aa ((aJ j.1 j.2)++c)))) (k (Yt.out (cut ((aJ j.1 j.2)++c) 0 (j.1+(aa c))))) aC) aC) aC:=bS
def aSw:Yt.Ok:=by
 rintro⟨b,c⟩ h;have h:aa b+aa c<=80000000:=h;have j:=dQ b (aa c);have e:cZ b (aa c)=b++iy (aa c):=by grind [cZ]
 rw[aSv,aKt (d:=(b,(aa c:Int))) ⟨by grind,by grind⟩];simp[aoG];grind [cg,ai,dM,aEV]
def aKq:Yt.RS:=rE [.d tB,.d tB] Yt
def aSx:=Yt.eQ aSw
def aR6:Ua->Prop:=λ_=>True
def ayX:Ua->Bool:=λw=>DF w
def abe:Fs prog aR6 bt ayX:=eP 135 f135 (λj=>([.d adr j],[])) (λx=>⟨fA x,[],[]⟩) [aw adr]
def aZS(j)(k:K1 R):abe.A j k=aA (DA j.1 0) (aA (arD j.1 3) (k (abe.out (arD (aa j.2.1:Int) 12))) (k (abe.out aZ))) (k (abe.out aZ)):=bS
def aZT:abe.Ok:=by
 rintro⟨b,B,I,u⟩ _;rw[aZS];simp only[bt,ayX,DF];by_cases h:0<=b
 .rw[fE h,ai];by_cases j:b < 4
  .rw[np aq,ai,aK ⟨h,j⟩,bH];by_cases A:aa B<=12
   .rw[np aq,aK A]
   .rw[jK aq,aV A]
  .rw[jK aq,al,aV (λx=>j x.2),cU]
 .rw[ed h,al,aV (λx=>h x.1),cU]
def aR7:abe.RS:=rE [.d adr] abe
def aZU:=abe.eQ aZT
def al5(j:List gb)(o:bO):Bool:=j.any λy=>Ty.beq bK y.1 o
def aC8:List gb->List gb->Bool
 |_,[]=>bn
 |j,x::l=>(Po x && !(al5 j x.1)) && aC8 (j++ [x]) l
def aYj:∀(l:List gb) (m:List (bO×Bool)) (j:List gb),(∀o,(bT bK o m).getD aZ=al5 j o)->KP m l=aC8 j l
 |[],_,_,_=>rfl
 |x::l,m,j,h=>by
  have e:aal m x=al5 j x.1:=h x.1;rw[KP,aC8,e,aYj l (fi bK x.1 bn m) (j++ [x]) λo=> ?_,Bool.and_comm (Po x)];rw[HU eY];unfold al5;rw[List.any_append];simp only[iG,List.any_nil,Bool.or_false];by_cases u:o=x.1
  .rw[av ((pc _ _).2 u),(pc x.1 o).2 u.symm,Bool.or_true];rfl
  .rw[au (λe=>u ((pc _ _).1 e)),h o];have:Ty.beq bK x.1 o=aZ:=by
    cases A:Ty.beq bK x.1 o with
    |false=>rfl
    |true=>exact absurd ((pc _ _).1 A).symm u
   rw[this,Bool.or_false];rfl
def Gu(o:dW):Bool:=wE o.1 && lN o.2.1
def aDV:∀(l:List dW) (s:Int),0<=s->s<=1125899906842624->C4 s l=(l.all Gu && decide (s+il l<=1125899906842624))
 |[],s,A,j=>by rw[aK (show s+il []<=1125899906842624 by show s+0<=_;omega)];rfl
 |o::l,s,A,j=>by
  have I:wE s=bn:=aK ⟨A,j⟩;rw[C4,gX,sV];unfold Ux;rw[I,bH,show Gu o=(wE o.1 && lN o.2.1) from rfl];cases B:wE o.1 with
  |false=>rfl
  |true=>
   have L:0<=o.1/\o.1<=1125899906842624:=nw B;rw[bH,bH];by_cases u:s+o.1<=1125899906842624
   .rw[aK u,bH,aDV l (s+o.1) aq u,Int.add_assoc,Bool.and_assoc]
   .rw[aV u,cU,cU];cases J:l.all Gu with
    |false=>cases lN o.2.1 <;> rfl
    |true=>
     have key:∀l:List dW,l.all Gu=bn->0<=il l:=by
      intro l
      induction l with
      |nil=>intro _;exact dT 0
      |cons x l K=>
       intro h;rw[gX,aQ]at h;have j:=h.1;unfold Gu at j;rw[aQ]at j;have M:0<=x.1/\x.1<=1125899906842624:=nw j.1;have:=K h.2;rw[sV];omega
     have:=key l J;rw[aV (show ¬s+(o.1+il l)<=1125899906842624 by omega)];cases lN o.2.1 <;> rfl
abbrev vp:=di×Int
def mg:vp->AS:=λ(j,i)=>⟨([bB,iL j,bB,aU i]++aP 100 []),[],(ag 104 [])⟩
def fJ:Unit->Exit×AS:=λx=>(.ret,⟨([bB,bB,me]++aP 101 []),[],(ag 104 [])⟩)
def vZ:di->Exit×AS:=λx=>(.exit 0,⟨([bB,iL x]++aP 102 []),[],(ag 104 [])⟩)
abbrev JL:=(Unit)⊕(di)
abbrev Vz:=(Unit)⊕(di)
def Da:JL->Out (Exit×AS):=λx=> .br x.isLeft (.get x.getLeft? λa=> .ok (fJ a)) (.get x.getRight? λb=> .ok (vZ b))
def jo:vp->Vz->JL:=λ(j,i) y=>match y with | .inl y=> .inl y | .inr z=> .inr (z)
abbrev vu:=di×Int×Int×gb
def mh:vu->AS:=λ(A,j,u,n4)=>⟨([bB,iL A,bB,aU j,eI 4,aU u]++aP 98 []),[],(bz 4 ([dp (.d fK n4)]++bz 99 []))⟩
def mL:Unit->Exit×AS:=λx=>(.ret,⟨([bB,bB,me]++aP 101 []),[],(ag 104 [])⟩)
def v8:(di×Int)->Exit×AS:=λx=>(.exit 2,⟨([bB,iL x.1,bB,aU x.2]++aP 100 []),[],(ag 104 [])⟩)
abbrev JN:=(Unit)⊕((di×Int))
abbrev VB:=(Unit)⊕(Unit)
def Db:JN->Out (Exit×AS):=λx=> .br x.isLeft (.get x.getLeft? λa=> .ok (mL a)) (.get x.getRight? λb=> .ok (v8 b))
def jq:vu->VB->JN:=λ(u,j,A,n4) y=>match y with | .inl y=> .inl y | .inr z=> .inr ((u,j))
abbrev vv:=di×Int×Int
def mi:vv->AS:=λ(A,j,u)=>⟨([bB,iL A]++aP 4 ((qY j u)++aP 96 [])),[],(ag 104 [])⟩
def gY:Unit->Exit×AS:=λx=>(.ret,⟨([bB,bB,me]++aP 101 []),[],(ag 104 [])⟩)
def wb:Int->Exit×AS:=λx=>(.exit 4,⟨(aP 6 ([aU x]++aP 97 [])),[],(ag 104 [])⟩)
abbrev JP:=(Unit)⊕(Int)
abbrev VE:=(Unit)⊕(Int)
def Dc:JP->Out (Exit×AS):=λx=> .br x.isLeft (.get x.getLeft? λa=> .ok (gY a)) (.get x.getRight? λb=> .ok (wb b))
def jr:vv->VE->JP:=λ(A,j,u) y=>match y with | .inl y=> .inl y | .inr z=> .inr (z)
def v7:vu->Prop:=λ(t,i,j,x)=>∃(n k:Nat),n<=aa t.1/\k<=n/\n<=1000/\i=n/\j=k
def lq:vu->VB:=λ(t,i,j,x)=>if al5 ((t.1.take i.toNat).drop j.toNat) x.1 then .inl () else .inr ()
def vY:vp->Prop:=λ(t,i)=>aa t.1<=64/\∃k:Nat,k<=aa t.1/\i=k
def lp:vp->Vz:=λ(t,i)=>if aC8 (t.1.take i.toNat) (t.1.drop i.toNat) then .inr t else .inl ()
def wa:vv->Prop:=λ(t,s,i)=>aa t.2.1<=64/\(∀o∈t.2.1,akk o.2.1)/\∃k:Nat,k<=aa t.2.1/\i=k/\0<=s/\s<=(k:Int)*1125899906842624
def lr:vv->VE:=λ(t,s,i)=>if(t.2.1.drop i.toNat).all Gu then .inr (s+il (t.2.1.drop i.toNat)) else .inl ()
def ay0:di->Prop:=λt=>bkz t
def GJ:di->Bool:=λt=>ig t
def Vy:=cQ.eg mg vY jo lp Da
def Lg:vp->Option JL:=eN Vy mg
def VA:=cQ.eg mh v7 jq lq Db
def Li:vu->Option JN:=eN VA mh
def VD:=cQ.eg mi wa jr lr Dc
def Ll:vv->Option JP:=eN VD mi
def fN:Fs prog ay0 bt GJ:=eP 87 f87 (λt=>([.d eU t],[])) (λx=>⟨.d .bool x,[],[]⟩) [aw eU] [aZU,Ih] {loops:=ko [(4,{aX:=[1,3]}),(10,{aX:=[1,3,4,5],sites:=[4]}),(16,{aX:=[1,6,7]})],outs:=km [(4,{aX:=[1]},{aX:=[2]}),(10,{aX:=[1,3]},{aX:=[2]}),(16,{aX:=[6]},{aX:=[2]})],eT:=jW [(4,Vy),(10,VA),(16,VD)]}
def JK:= @dm prog (gU fN.G) fN.an 0 f87 0 _ mg
abbrev Q0:=gr prog (gU fN.G) fN.an 0 f87 0 mg vY jo lp Da
def JM:= @dm prog (gU fN.G) fN.an 0 f87 1 _ mh
abbrev Q2:=gr prog (gU fN.G) fN.an 0 f87 1 mh v7 jq lq Db
def JO:= @dm prog (gU fN.G) fN.an 0 f87 2 _ mi
abbrev Q4:=gr prog (gU fN.G) fN.an 0 f87 2 mi wa jr lr Dc
def ajk:fC Lg vY jo lp:=ia (fy [.d eU,.d ti] λ_=>bS)
def Q1:iX @JK mg vY jo lp Da Q0:=ji
def Lh(j i)(I:K2 R)(u:K3 R):JK (j,i) I u=aA (fj i (((aa j.1):Nat):Int)) (aA (dB i (((aa j.1):Nat):Int)) (aA (fj (nth fK j.1 (ae i)).1.2.1 (0:Int)) (u (fJ ()).1 (fJ ()).2) (aA (qi (nth fK j.1 (ae i)).1.2.1 (63:Int)) (u (fJ ()).1 (fJ ()).2) (ao (abe.call (nth fK j.1 (ae i)).2.1) λJ=>aA (!J) (u (fJ ()).1 (fJ ()).2) (ao (Li (j,i,(0:Int),(nth fK j.1 (ae i)))) λA=>aA A.isLeft (ao A.getLeft? λK=>u (fJ ()).1 (fJ ()).2) (ao A.getRight? λB=>I (mg (B.1,(bC .i64 B.2 (1:Int))))))))) aC) (u (vZ j).1 (vZ j).2):=bS
def ajl:fC Li v7 jq lq:=ia (fy [.d eU,.d ti,.d ti,.d fK] λ_=>bS)
def Q3:iX @JM mh v7 jq lq Db Q2:=ji
def Lj(j u A n4)(I:K2 R)(B:K3 R):JM (j,u,A,n4) I B=aA (fj A u) (aA (dB A (((aa j.1):Nat):Int)) (aA (Ty.beq bK (nth fK j.1 (ae A)).1 n4.1) (B (mL ()).1 (mL ()).2) (I (mh (j,u,(bC .i64 A (1:Int)),n4)))) aC) (B (v8 (j,u)).1 (v8 (j,u)).2):=bS
def ajm:fC Ll wa jr lr:=ia (fy [.d eU,.d ti,.d ti] λ_=>bS)
def Q5:iX @JO mi wa jr lr Dc Q4:=ji
def Lm(A j u)(I:K2 R)(B:K3 R):JO (A,j,u) I B=aA (fj u (((aa A.2.1):Nat):Int)) (aA (dB u (((aa A.2.1):Nat):Int)) (aA (fj (nth dI A.2.1 (ae u)).1 (0:Int)) (B (gY ()).1 (gY ()).2) (aA (qi (nth dI A.2.1 (ae u)).1 (1125899906842624:Int)) (B (gY ()).1 (gY ()).2) (ao (ke.call (nth dI A.2.1 (ae u)).2.1) λJ=>aA (!J) (B (gY ()).1 (gY ()).2) (I (mi (A,(bC .i64 j (nth dI A.2.1 (ae u)).1),(bC .i64 u (1:Int)))))))) aC) (B (wb j).1 (wb j).2):=bS
def aEr(t)(k:K1 R):fN.A t k=aA (fj (aa t.1:Int) 1) (k (fN.out aZ)) (aA (qi (aa t.1:Int) 64) (k (fN.out aZ)) (aA (qi (aa t.2.1:Int) 64) (k (fN.out aZ)) (aA (fj t.2.2.1 0) (k (fN.out aZ)) (ao (Lg (t,0)) λj=>aA j.isLeft (ao j.getLeft? λB=>k (fN.out aZ)) (ao j.getRight? λb7=>ao (Ll (b7,0,0)) λu=>aA u.isLeft (ao u.getLeft? λA=>k (fN.out aZ)) (ao u.getRight? λaBb=>k (fN.out (arD aBb 1125899906842624)))))))):=bS
def aod:Q2:=by
 refine Q3 (λ(_,i,j,_)=>(i - j).toNat) ?_
 rintro⟨t,i,j,x⟩ ⟨n,k,M,T,L,rfl,rfl⟩;by_cases O:k < n
 .have I:k < aa (t.1.take n):=by rw[bw];omega
  have n1:nth fK t.1 k=t.1[k]:=bG (t:=fK) aq;have K:(t.1.take n).drop k=t.1[k]::(t.1.take n).drop (k+1):=by rw[ak I,ku]
  have J:al5 ((t.1.take n).drop k) x.1=(Ty.beq bK t.1[k].1 x.1 || al5 ((t.1.take n).drop (k+1)) x.1):=by rw[K];rfl
  have step:∀ {R:Type} (u:AS->Option R) (A:Exit->AS->Option R),JM (t,(n:Int),(k:Int),x) u A=aA (Ty.beq bK t.1[k].1 x.1) (A (mL ()).1 (mL ()).2) (u (mh (t,(n:Int),((k+1:Nat):Int),x))):=by intro R u A;rw[Lj,aN aq,ai,aS aq aq,ai,ab,n1,N.iY aq]
  cases B:Ty.beq bK t.1[k].1 x.1 with
  |true=>
   right;refine⟨mL (),?_,λu A=> ?_⟩
   .simp only[jq,lq,ab,J,B,pM,bQ];rfl
   .rw[step,B,ai]
  |false=>
   left;refine⟨(t,(n:Int),((k+1:Nat):Int),x),⟨n,k+1,M,aq,L,rfl,rfl⟩,by show((n:Int) - ((k+1:Nat):Int)).toNat < ((n:Int) - (k:Int)).toNat;omega,?_,λu A=> ?_⟩
   .simp only[jq,lq,ab,J,B,ja]
   .rw[step,B,al]
 .right;obtain rfl:k=n:=aq;have e:(t.1.take k).drop k=[]:=dJ (by rw[bw];omega);refine⟨v8 (t,(k:Int)),?_,λu A=> ?_⟩
  .simp only[jq,lq,ab,e];rfl
  .rw[Lj,aL aq,al]
def aoc:Q0:=by
 refine Q1 (λ(t,i)=>aa t.1 - i.toNat) ?_
 rintro⟨t,i⟩ ⟨B,k,J,rfl⟩;have B:aa t.1<=64:=B;have J:k<=aa t.1:=J;by_cases I:k < aa t.1
 .have n1:nth fK t.1 k=t.1[k]:=bG (t:=fK) I;have M:aC8 (t.1.take k) (t.1.drop k)=((Po t.1[k] && !(al5 (t.1.take k) t.1[k].1)) && aC8 (t.1.take (k+1)) (t.1.drop (k+1))):=by rw[ak I,aC8,jg I]
  have step:∀ {R:Type} (j:AS->Option R) (u:Exit->AS->Option R),JK (t,(k:Int)) j u=aA (Po t.1[k] && !(al5 (t.1.take k) t.1[k].1)) (j (mg (t,((k+1:Nat):Int)))) (u (fJ ()).1 (fJ ()).2):=by
   intro R j u;rw[Lh,aN aq,ai,aS aq aq,ai,ab,n1];unfold Po;by_cases K:t.1[k].1.2.1 < 0
   .rw[aN K,ai,aV aq];rfl
   rw[aL K,al];by_cases L:t.1[k].1.2.1 > 63
   .rw[cW L,ai,aV aq];rfl
   rw[ct L,al,aK aq,aR7 (d:=t.1[k].2.1) trivial];simp only[ah,bt,ayX,bH];cases DF t.1[k].2.1 with
   |false=>rfl
   |true=>
    rw[bW,al,bH,ajl (d:=(t,(k:Int),0,t.1[k])) ⟨k,0,J,az _,aq,rfl,rfl⟩];simp only[ah,jq,lq,ab,aW,aH];cases al5 (t.1.take k) t.1[k].1 with
    |true=>rfl
    |false=>
     simp only[bu,bq,dh,al,cJ,ah,eJ,ai];rw[N.iY aq]
  cases A:Po t.1[k] && !(al5 (t.1.take k) t.1[k].1)
  .right;refine⟨fJ (),?_,λj u=> ?_⟩
   .simp only[jo,lp,ab,M,A,cU,bu,bq];rfl
   .rw[step,A,al]
  .left;refine⟨(t,((k+1:Nat):Int)),⟨B,k+1,aq,rfl⟩,by simp only[ab];omega,?_,λj u=> ?_⟩
   .simp only[jo,lp,ab,M,A,bH]
   .rw[step,A,ai]
 .right;obtain rfl:k=aa t.1:=aq;refine⟨vZ t,?_,λj u=> ?_⟩
  .simp only[jo,lp,ab,ay];rfl
  .rw[Lh,aL aq,al]
def aoe:Q4:=by
 refine Q5 (λ(t,_,i)=>aa t.2.1 - i.toNat) ?_
 rintro⟨t,s,i⟩ ⟨I,hu,k,hk,rfl,M,O⟩;have I:aa t.2.1<=64:=I;have hk:k<=aa t.2.1:=hk;have M:0<=s:=M;have O:s<=(k:Int)*1125899906842624:=O;by_cases J:k < aa t.2.1
 .have n1:nth dI t.2.1 k=t.2.1[k]:=bG (t:=dI) J;have T:t.2.1.drop k=t.2.1[k]::t.2.1.drop (k+1):=ak J;have step:∀ {R:Type} (u:AS->Option R) (A:Exit->AS->Option R),JO (t,s,(k:Int)) u A=aA (Gu t.2.1[k]) (u (mi (t,s+t.2.1[k].1,((k+1:Nat):Int)))) (A (gY ()).1 (gY ()).2):=by
   intro R u A;rw[Lm,aN aq,ai,aS aq aq,ai,ab,n1];unfold Gu wE;by_cases K:t.2.1[k].1 < 0
   .rw[aN K,ai,aV aq];rfl
   rw[aL K,al];by_cases L:t.2.1[k].1 > 1125899906842624
   .rw[cW L,ai,aV aq];rfl
   rw[ct L,al,aK aq,zm (d:=t.2.1[k].2.1) (hu _ (aD J))];simp only[ah,bt,w9,bH];rw[eS aq aq,N.iY aq];cases lN t.2.1[k].2.1 <;> rfl
  cases B:Gu t.2.1[k]
  .right;refine⟨gY (),?_,λu A=> ?_⟩
   .simp only[jr,lr,ab,T,gX,B,cU,bu,bq];rfl
   .rw[step,B,al]
  .left;have j:=B;unfold Gu at j;rw[aQ]at j;have c:0<=t.2.1[k].1/\t.2.1[k].1<=1125899906842624:=nw j.1;refine⟨(t,s+t.2.1[k].1,((k+1:Nat):Int)),⟨I,hu,k+1,aq,rfl,by show 0<=s+t.2.1[k].1;omega,by show s+t.2.1[k].1<=((k+1:Nat):Int)*1125899906842624;omega⟩,by simp only[ab];omega,?_,λu A=> ?_⟩
   .simp only[jr,lr,ab,T,gX,B,bH,sV,Int.add_assoc]
   .rw[step,B,ai]
 .right;obtain rfl:k=aa t.2.1:=aq;refine⟨wb s,?_,λu A=> ?_⟩
  .simp only[jr,lr,ab,ay];rw[show s+il ([]:List dW)=s+0 from rfl,tE];rfl
  .rw[Lm,aL aq,al]
def aEs:fN.Ok:=by
 intro t u;have u:bkz t:=u;rw[aEr];simp only[bt,GJ,ig,aqK];by_cases I:aa t.1 < 1
 .rw[aN aq,aV aq];rfl
 by_cases J:aa t.1 > 64
 .rw[aL aq,al,cW aq,aV aq];rfl
 by_cases K:aa t.2.1 > 64
 .rw[aL aq,al,ct aq,al,cW aq,aV aq];rfl
 rw[aL aq,al,ct aq,al,ct aq,al];by_cases A:t.2.2.1 < 0
 .rw[aN A,aV aq];rfl
 rw[aL A,al,aK aq,bH,ajk (d:=(t,0)) ⟨by show aa t.1<=64;omega,0,az _,rfl⟩];simp only[ah,jo,lp,aW,aH,du];rw[aYj t.1 [] [] (λo=>by rw[uh];rfl),aDV t.2.1 0 fm fm];cases aC8 [] t.1 with
 |false=>rfl
 |true=>
  simp only[bQ,dh,al,cJ,ah,bH];rw[ajm (d:=(t,0,0)) ⟨by show aa t.2.1<=64;omega,λo B=>(u.1 o B).1,0,az _,rfl,dT 0,aq⟩];simp only[ah,jr,lr,aW,aH];cases t.2.1.all Gu with
  |false=>rfl
  |true=>
   simp only[bQ,dh,al,cJ,ah,bH];by_cases j:0+il t.2.1<=1125899906842624
   .rw[np j,aK j]
   .rw[jK j,aV j]
def Nd:fN.RS:=rE [.d eU] fN
def Q6:=fN.eQ aEs 3 ⟨.eg aoc,⟨.eg aod,⟨.eg aoe,trivial⟩⟩⟩
abbrev JI:=di×Bs×Int
def vW:JI->Bs->((di)×(Bs)):=λ(j,b,i) y=>(j,y)
abbrev JJ:=di×Bs×Int
def vX:JJ->Bs->((di)×(Bs)):=λ(j,A,u) y=>(j,y)
def ajg:JI->Prop:=λ(t,b,i)=>aa t.1<=1000000000/\∃k:Nat,k<=aa t.1/\i=k/\(aa t.1<=64)/\(∀x∈t.1,aa x.1.1=32/\x.1.2.1<=9223372036854775807)/\(aa b<=100+50*k)
def Bz:JI->Bs:=λ(t,b,i)=>(bj (ae i) t.1).foldl XF b
def aji:JJ->Prop:=λ(t,b,i)=>aa t.2.1<=1000000000/\∃k:Nat,k<=aa t.2.1/\i=k/\(aa t.2.1<=64)/\(∀o∈t.2.1,o.1<=9223372036854775807/\akk o.2.1)/\(aa b<=4000+1100*k)
def BA:JJ->Bs:=λ(t,b,i)=>(bj (ae i) t.2.1).foldl X8 b
def ayY:di->Prop:=λt=>ig t=bn/\mE t
def an9:di->Bs:=λt=>zg t
def nL:Ls ajg vW Bz:=rI (λ(j,b,i)=>⟨([bB,iL j,bB,fo b,aU i]++aP 63 []),[],(ag 68 [])⟩) (λx=>(.exit 0,⟨([bB,iL x.1,bB,fo x.2]++aP 64 []),[],(ag 68 [])⟩))
def nM:Ls aji vX BA:=rI (λ(A,u,j)=>⟨([bB,iL A,bB,fo u,bB,aU j]++aP 62 []),[],(ag 68 [])⟩) (λx=>(.exit 2,⟨([bB,iL x.1,bB,fo x.2]++aP 64 []),[],(ag 68 [])⟩))
def oT:Fs prog ayY bt an9:=eP 88 f88 (λt=>([.d eU t],[])) (λx=>⟨.d tB x,[],[]⟩) [aw eU] [aoF,avb,aEg,aSx] {loops:=ko [(3,{aX:=[1,3,4]}),(9,{aX:=[1,3,5]})],outs:=km [(3,{aX:=[1,3]},{aX:=[2]}),(9,{aX:=[1,3]},{aX:=[2]})],eT:=jW [(3,nL.E),(9,nM.E)],res:=[aw tB]}
def ajh:nL.RS:=rL [.d eU,.d tB,.d ti] nL
def Ld(j b i)(u:K2 R)(A:K3 R):oT.R 0 nL (j,b,i) u A=aA (fj i (aa j.1:Int)) (aA (dB i (aa j.1:Int)) (ao (AP.call (b,(nth fK j.1 (ae i)).1.1)) λB=>aA (dB i (aa j.1:Int)) (ao (vB.call (B,(nth fK j.1 (ae i)).1.2.1)) λI=>u (nL.st (j,I,(bC .i64 i 1)))) aC) aC) (nL.go A (j,b)):=bS
def ajj:nM.RS:=rL [.d eU,.d tB,.d ti] nM
theorem Le(j A u)(B:K2 R)(I:K3 R):oT.R 1 nM (j,A,u) B I=aA (fj u (aa j.2.1:Int)) (aA (dB u (aa j.2.1:Int)) (ao (vB.call (A,(nth dI j.2.1 (ae u)).1)) λJ=>aA (dB u (aa j.2.1:Int)) (ao (nD.call (nth dI j.2.1 (ae u)).2.1) λK=>ao (Yt.call (J,K)) λL=>B (nM.st (j,L,(bC .i64 u 1)))) aC) aC) (nM.go I (j,A)):=bS
def aEo(t)(k:K1 R):oT.A t k=ao (vB.call (([]:List Int),(aa t.1:Int))) λB=>ao (nL.call (t,B,0)) λu=>ao (vB.call (u.2,(aa u.1.2.1:Int))) λI=>ao (nM.call (u.1,I,0)) λA=>ao (vB.call (A.2,A.1.2.2.1)) λj=>k (oT.out j):=bS
def aoa:(oT.kA 0 nL):=by
 refine(oT.lS 0 nL) (λ(t,b,i)=>aa t.1 - ae i) ?_
 rintro⟨t,b,i⟩ ⟨j,k,I,rfl,A,u,B⟩;have j:aa t.1<=1000000000:=j;have I:k<=aa t.1:=I;have A:aa t.1<=64:=A;have u:∀x∈t.1,aa x.1.1=32/\x.1.2.1<=9223372036854775807:=u;have B:aa b<=100+50*k:=B;by_cases h:k < aa t.1
 .left;have n1:nth fK t.1 k=t.1[k]:=bG (t:=fK) h;have J:bj k t.1=t.1[k]::bj (k+1) t.1:=ak h;refine⟨(t,(XF b t.1[k]),((k+1:Nat):Int)),⟨j,k+1,aq,rfl,A,u,by have:=ax6 b t.1[k];have:=(u _ (aD h)).1;omega⟩,by simp only[ab];omega,?_,λK L=> ?_⟩
  .simp only[vW,Bz,ab,J,bN]
  .rw[Ld,aN aq,aS aq aq,ab,n1];simp only[ai];have e:=u _ (aD h);have M:aa (b++t.1[k].1.1)=aa b+t.1[k].1.1.length:=aj;rw[No (d:=(b,t.1[k].1.1)) ⟨by show aa b<=_;omega,e.1⟩];simp only[ah,bt,Lw];rw[kz (d:=(b++t.1[k].1.1,t.1[k].1.2.1)) ⟨by show aa (b++t.1[k].1.1)<=_;omega,e.2⟩];simp only[ah,bt,qA];rw[N.iY aq];rfl
 .right;obtain rfl:k=aa t.1:=aq;intro R K L;rw[Ld,aL aq,al];simp only[vW,Bz,ab,ay,dr]
def aob:(oT.kA 1 nM):=by
 refine(oT.lS 1 nM) (λ(t,b,i)=>aa t.2.1 - ae i) ?_
 rintro⟨t,b,i⟩ ⟨j,k,L,rfl,A,u,J⟩;by_cases h:k < aa t.2.1
 .left;have n1:=bG (t:=dI) h;have K:=ak h;refine⟨(t,(X8 b t.2.1[k]),((k+1:Nat):Int)),⟨j,k+1,aq,rfl,A,u,by grind [anC]⟩,by grind,?_,λM O=> ?_⟩
  .grind [vX,BA]
  .rw[Le,aN aq,aS aq aq,ab,n1];have e:=u _ (aD h);have B:=dQ b t.2.1[k].1;have I:=TN t.2.1[k].2.1;rw[kz (d:=(b,t.2.1[k].1)) ⟨by grind,e.1⟩];simp[ah,bt,qA];rw[ayV (d:=t.2.1[k].2.1) e.2];simp[ah,bt,Yl];rw[aKq (d:=(cZ b t.2.1[k].1,XN t.2.1[k].2.1)) (by show aa (cZ b t.2.1[k].1)+aa (XN t.2.1[k].2.1)<=_;omega)];rw[N.iY aq];rfl
 grind [Le,aL,al,vX,BA,ay]
def aEp:oT.Ok:=by
 rintro t ⟨L,j⟩;obtain⟨⟨_,B,I,_⟩,J,K⟩:=iW L;have M:=dQ [] (aa t.1);have O:=ajV t.1 (cZ [] (aa t.1)) λx u=>(j.2.1 x u).1.1
 have T:=dQ (t.1.foldl XF (cZ [] (aa t.1))) (aa t.2.1);have l3:=aaX t.2.1 (cZ (t.1.foldl XF (cZ [] (aa t.1))) (aa t.2.1));rw[aEo,kz (d:=([],(aa t.1:Int))) ⟨by grind,by grind⟩];simp[qA];rw[ajh (d:=(t,cZ [] (aa t.1),0)) ⟨by grind,0,az _,rfl,B,λx u=>⟨(j.2.1 x u).1.1,by have:=C1 (ma _ _ J x u);omega⟩,by grind⟩];simp[vW,Bz];rw[kz (d:=(t.1.foldl XF (cZ [] (aa t.1)),(aa t.2.1:Int))) ⟨by grind,by grind⟩];simp[qA];rw[ajj (d:=(t,cZ (t.1.foldl XF (cZ [] (aa t.1))) (aa t.2.1),0)) ⟨by grind,0,az _,rfl,I,λo A=>⟨by have:=(jL _ _ K o A).1;omega,(j.1.1 o A).1⟩,by grind⟩];simp[vX,BA];rw[kz (d:=(t.2.1.foldl X8 (cZ (t.1.foldl XF (cZ [] (aa t.1))) (aa t.2.1)),t.2.2.1)) ⟨by grind,j.2.2⟩];rfl
def ayZ:oT.RS:=rE [.d eU] oT
def aEq:=oT.eQ aEp 2 ⟨.eg aoa,⟨.eg aob,trivial⟩⟩
def aR8:di->Prop:=λt=>mE t
def M8:di->Bs:=λt=>mw t
def OF:Fs prog aR8 bt M8:=eP 46 f46 (λt=>([rQ t],[])) (λx=>⟨fW x,[],[]⟩) [aw eU] [Q6,aEq,azJ]
def aZV(t)(k:K1 R):OF.A t k=ao (fN.call t) λj=>aA (!j) (k (OF.out (ag 32 0))) (ao (oT.call t) λu=>ao (ajA.call ((⟨#[116,120]⟩:ByteArray),[u])) λA=>k (OF.out A)):=bS
def aZW:OF.Ok:=by
 intro t j;have j:mE t:=j;rw[aZV,Nd (d:=t) j.1];simp only[ah,bt,GJ,bt,M8,mw];cases u:ig t
 .rfl
 .have A:=Yg u j;rw[ayZ (d:=t) ⟨u,j⟩];simp only[bW,al,bQ,ah,bt,an9];rw[apL (d:=((⟨#[116,120]⟩:ByteArray),[zg t])) (acL fm aq)];rfl
def Lc:OF.RS:=rE [.d eU] OF
def abi:=OF.eQ aZW
def aMC(k:Int):mC (fH k):=(anQ _ _).u
def mT:List Int:=[152,45,158,62,185,150,245,89,230,51,244,209,148,222,243,118,29,144,159,90,59,100,125,26,133,31,234,214,124,50,201,209]
def s3:oW 3 mT=(2066670005889522986,1913675330412042729,()):=by decide+kernel
def s5:oW 5 mT=(1601457595092860225,1871270319440231866,()):=by decide+kernel
def u0:mC 0:=⟨dT 0,fm⟩
def aIQ{x:Int}{l:List Int}(h:mC x)(j:Hy l):Hy (x::l):=λp hp=>by
 rcases cr.1 hp with rfl | hp
 .exact h
 .exact j p hp
def aQ3:Hy []:=λp j=>by cases j
def boV:XE 0=bn:=rfl
def bdD(j:List Int)(a d:Int)(h:aa j<=12):Al (j,a,d,0,())=(j.all u9 && (XE a && XE d)):=by have e:Al (j,a,d,0,())=(decide (aa j<=12) && (j.all u9 && (XE a && (XE d && bn)))):=rfl;rw[e,aK h,bH,Bool.and_true]
def aZo(b:kF)(A:List Sg)(s:Int)(m:List Int)(j u:Int):Int:=if j < b.2.1\/u < b.2.2.1 then 11 else if b.2.2.2.1≠0/\fH s≠b.2.2.2.1 then 23 else if aa A≠aa b.1 then 7 else if xm m b.1 A then 0 else 7
def bfN{l:Lk}{i:Nat}{b:kF}(B:lN l=bn)(A:i < aa l.1)(u:l.1[i]=b)(j:List Sg)(s:Int)(m:List Int)(h a:Int):sR l ((i:Int),j,s,()) m h a=aZo b j s m h a:=by
 have n1:nth (.pair (.slice (.int .u64)) (.pair (.int .i64) (.pair (.int .i64) (.pair (.int .u64) .unit)))) l.1 i=l.1[i]:=bG (t:=(.pair (.slice (.int .u64)) (.pair (.int .i64) (.pair (.int .i64) (.pair (.int .u64) .unit))))) A;unfold sR;rw[au (by
  intro hh;rcases hh with hh | hh | hh
  .rw[B]at hh;cases hh
  .have hh:(i:Int) < 0:=hh;omega
  .have hh:(i:Int)>=aa l.1:=hh;omega)]
 show(if h < (nth (.pair (.slice (.int .u64)) (.pair (.int .i64) (.pair (.int .i64) (.pair (.int .u64) .unit)))) l.1 i).2.1\/a < (nth (.pair (.slice (.int .u64)) (.pair (.int .i64) (.pair (.int .i64) (.pair (.int .u64) .unit)))) l.1 i).2.2.1 then 11 else if(nth (.pair (.slice (.int .u64)) (.pair (.int .i64) (.pair (.int .i64) (.pair (.int .u64) .unit)))) l.1 i).2.2.2.1≠0/\fH s≠(nth (.pair (.slice (.int .u64)) (.pair (.int .i64) (.pair (.int .i64) (.pair (.int .u64) .unit)))) l.1 i).2.2.2.1 then 23 else if aa j≠(nth (.pair (.slice (.int .u64)) (.pair (.int .i64) (.pair (.int .i64) (.pair (.int .u64) .unit)))) l.1 i).1.length then 7 else if xm m (nth (.pair (.slice (.int .u64)) (.pair (.int .i64) (.pair (.int .i64) (.pair (.int .u64) .unit)))) l.1 i).1 j then 0 else 7)=_;rw[n1,u];rfl
def aqY(m:List Int):∀j:List Int,(∀k∈j,0 < k/\k < 2305843009213688669)->xm m (j.map fH) (j.map λk=>oW k m)=bn
 |[],_=>rfl
 |k::j,h=>by have u:=h k aY;show(sm (fH k) m 1 (oW k m) && xm m (j.map fH) (j.map λk=>oW k m))=bn;rw[bgP k m u.1 u.2,aqY m j λx A=>h x (aT _ A)];rfl
def ayF(j:List Int)(K:∀k∈j,0 < k/\k < 2305843009213688669)(A B u s:Int)(m:List Int)(h a:Int)(L:u=0\/fH s=u):
  aZo (j.map fH,A,B,u,()) (j.map λk=>oW k m) s m h a=if h < A\/a < B then 11 else 0:=by
 have e:aZo (j.map fH,A,B,u,()) (j.map λk=>oW k m) s m h a=if h < A\/a < B then 11 else if u≠0/\fH s≠u then 23 else if aa (j.map λk=>oW k m)≠aa (j.map fH) then 7 else if xm m (j.map fH) (j.map λk=>oW k m) then 0 else 7:=rfl
 rw[e,aqY m j K,au (c:=u≠0/\fH s≠u) (by rintro⟨I,J⟩;exact L.elim I J),au (c:=aa (j.map λk=>oW k m)≠aa (j.map fH)) (by rw[cz,cz];exact λx=>x rfl)];rfl
def bmx{k:Int}(h:0 < k/\k < 2305843009213688669):∀x∈ [k],0 < x/\x < 2305843009213688669:=λx j=>by rw[bM]at j;subst j;exact h
def z32:List Int:=ag 32 0
def bpT:Lk:=bik [fH 7]
def bqV:di:=([((z32,((0:Int),())),(((0:Int),(([]:List Sg),((0:Int),()))),()))],([((90:Int),(bpT,()))],((0:Int),())))
def bpR:At:=[yR 0 ((100:Int),(bpT,()))]
def bpc:¬mw bqV=z32:=by decide+kernel
def b7:mC (fH 7):=aMC 7
def n14(m:List Int)(j:¬m=z32):bT bK (m,((0:Int),())) bpR=aC:=by unfold bpR yR;rw[fU,au,uh];intro e;have:=(pc _ _).1 e;exact j (bA (λo:bO=>o.1) this)
def aCn{o:bO}{c:fh}:Cq [o] [(o,c)]=[]:=by show fV bK o [(o,c)]=[];rw[wS];exact av ((pc _ _).2 rfl)
def aQK{o:bO}{c:fh}{a:At}(j:bT bK o a=aw c):Ar a [o]=[(o,(c,()))]:=by simp only[Ar,j,lJ]
section
abbrev LM:=(List bO)×(List bO)×Int
def xk:LM->AS:=λ(u,j,i)=>⟨([Oy u,Oy j,bB,bB,bB,aU i]++aP 20 []),[],(ag 26 [])⟩
def yf:Unit->Exit×AS:=λx=>(.ret,⟨(aP 4 ([me]++aP 21 [])),[],(ag 26 [])⟩)
def IZ:Unit->Exit×AS:=λx=>(.exit 0,⟨(aP 26 []),[],(ag 26 [])⟩)
abbrev afv:=(Unit)⊕(Unit)
abbrev avU:=(Unit)⊕(Unit)
def R0:afv->Out (Exit×AS):=λx=> .br x.isLeft (.get x.getLeft? λa=> .ok (yf a)) (.get x.getRight? λb=> .ok (IZ b))
def pG:LM->avU->afv:=λ(u,j,i) y=>match y with | .inl y=> .inl y | .inr z=> .inr (z)
abbrev bbc:=(List bO)×(List bO)
def IY:LM->Prop:=λ(a,b,i)=>aa a<=1000000000/\aa a=aa b/\∃k:Nat,k<=aa a/\i=k
def ye:LM->avU:=λ(a,b,i)=>if bj (ae i) a=bj (ae i) b then .inr () else .inl ()
def bbd:bbc->Prop:=λ(a,_)=>aa a<=1000000000
def azI:bbc->Bool:=λ(a,b)=>decide (a=b)
def avT:=cQ.eg xk IY pG ye R0
def acp:LM->Option afv:=eN avT xk
def aft:Fs prog bbd bt azI:=eP 21 f21 (λ(a,b)=>([.d (.slice bK) a,.d (.slice bK) b],[])) (λx=>⟨.d .bool x,[],[]⟩) [aw (.slice bK),aw (.slice bK)] [] {loops:=ko [(4,{aX:=[0,1,5]})],outs:=km [(4,{},{aX:=[4]})],eT:=jW [(4,avT)]}
def afu:= @dm prog (gU aft.G) aft.an 0 f21 0 _ xk
abbrev apK:=gr prog (gU aft.G) aft.an 0 f21 0 xk IY pG ye R0
def aFx:fC acp IY pG ye:=ia (fy [.d (.slice bK),.d (.slice bK),.d ti] λ_=>bS)
def afw:iX @afu xk IY pG ye R0 apK:=ji
def acq(j u i)(B:K2 R)(A:K3 R):afu (j,u,i) B A=aA (fj i (((aa j):Nat):Int)) (aA (dB i (((aa j):Nat):Int)) (aA (dB i (((aa u):Nat):Int)) (aA (!(Ty.beq bK (nth bK j (ae i)) (nth bK u (ae i)))) (A (yf ()).1 (yf ()).2) (B (xk (j,u,(bC .i64 i (1:Int)))))) aC) aC) (A (IZ ()).1 (IZ ()).2):=bS
def bgv(a b)(k:K1 R):aft.A (a,b) k=aA (pb (aa a:Int) (aa b:Int)) (k (aft.out aZ)) (ao (acp (a,b,0)) λj=>aA j.isLeft (ao j.getLeft? λu=>k (aft.out aZ)) (ao j.getRight? λA=>k (aft.out bn))):=bS
def aK9:apK:=by
 refine afw (λ(a,b,i)=>aa a - ae i) ?_
 rintro⟨a,b,i⟩ ⟨j,I,k,L,rfl⟩;have j:aa a<=1000000000:=j;have I:aa a=aa b:=I;have L:k<=aa a:=L;by_cases h:k < aa a
 .have J:k < aa b:=aq;have n1:nth bK a k=a[k]:=bG (t:=bK) h;have n2:nth bK b k=b[k]:=bG (t:=bK) J;have K:(bj k a=bj k b)=(a[k]=b[k]/\bj (k+1) a=bj (k+1) b):=by rw[ak h,ak J,da]
  have step:∀ {R:Type} (A:AS->Option R) (B:Exit->AS->Option R),afu (a,b,(k:Int)) A B=if a[k]=b[k] then A (xk (a,b,((k+1:Nat):Int))) else B (yf ()).1 (yf ()).2:=by
   intro R A B;rw[acq,aN aq,aS aq aq,aS aq aq,ab,n1,n2];simp only[ai];rw[N.iY aq];by_cases u:a[k]=b[k]
   .rw[(pc _ _).2 u,av u];rfl
   .rw[au u,show Ty.beq bK a[k] b[k]=aZ by cases M:Ty.beq bK a[k] b[k]with | false=>rfl | true=>exact absurd ((pc _ _).1 M) u];rfl
  by_cases u:a[k]=b[k]
  .left;refine⟨(a,b,((k+1:Nat):Int)),⟨j,I,k+1,aq,rfl⟩,by simp only[ab];omega,?_,λA B=> ?_⟩
   .simp only[pG,ye,ab,K,u,gC]
   .rw[step,av u]
  .right;refine⟨yf (),?_,λA B=> ?_⟩
   .simp only[pG,ye,ab,K,u,oM,bq];rfl
   .rw[step,au u]
 .right;obtain rfl:k=aa a:=aq;refine⟨IZ (),?_,λA B=> ?_⟩
  .simp only[pG,ye,ab,ay];rw[I,ay,av rfl];rfl
  .rw[acq,aL aq,al]
def bgw:aft.Ok:=by
 rintro⟨a,b⟩ j;have j:aa a<=1000000000:=j;rw[bgv];by_cases h:aa a=aa b
 .rw[bU aq,al,aFx (d:=(a,b,0)) ⟨j,h,0,az _,rfl⟩];simp only[ah,pG,ye,aW,aH,bt,azI];by_cases e:a=b
  .rw[av e,aK e];rfl
  .rw[au e,aV e];rfl
 .rw[dj aq,ai];simp only[bt,azI,aV (λe:a=b=>h (by rw[e]))]
def bbe:aft.RS:=rE [.d (.slice bK),.d (.slice bK)] aft
def bgx:=aft.eQ bgw 1 ⟨.eg aK9,trivial⟩
structure Od(m n:Nat)(a:At)(s:List cF):Prop where
 wK:aq8 a
 le:n<=aa s
 len:aa s<=m
 bc8:∀st∈s,awv st
 sum:Ck a<=1125899906842624
 biD:aa a<=256+64*m
def Od.mono{m m' n:Nat}{a:At}{s:List cF}(h:Od m n a s)(j:m<=m'):Od m' n a s:=⟨h.wK,h.le,fa h.len j,h.bc8,h.sum,by have:=h.biD;omega⟩
def aVi{a:At}(h:∀p∈a,0<=p.2.1.1):0<=Ck a:=by
 induction a with
 |nil=>exact dT 0
 |cons p a u=>
  rw[tO];have:=h p aY;have:=u λq j=>h q (aT _ j)
  omega
def aeC:∀(l:List dW) (j:Int) (k:Nat) {a:At},0<=j->j<=1125899906842624->(∀o∈l,Pj o)->EC j k l=aw a->
  aa a=aa l/\Ck a=il l/\j+il l<=1125899906842624/\(∀o∈l,0<=o.1)/\(∀p∈a,CV p.1/\bnO p.2/\(k:Int)<=p.1.2.1)/\(dY a).Nodup
 |[],j,k,a,L,M,_,e=>by obtain rfl:=cj e;exact⟨rfl,rfl,by show j+0<=_;omega,λo A=>(by cases A),λp hp=>(by cases hp),gO⟩
 |o::l,j,k,a,L,M,hg,e=>by
  rw[EC]at e;cases A:sU j o with
  |false=>rw[A]at e;cases e
  |true=>
   rw[A]at e;simp only at e;cases I:EC (j+o.1) (k+1) l with
   |none=>rw[I]at e;cases e
   |some r=>
    rw[I]at e;obtain rfl:=cj e;have u:=A;unfold sU at u;simp only[aQ,bJ]at u;obtain⟨k1,K,k3⟩:=u;obtain⟨i1,i2,i3,i4,J,i6⟩:=aeC l (j+o.1) (k+1) aq aq (λx hx=>hg x (aT _ hx)) I;have T:=hg o aY;refine⟨by rw[aB,aB,i1],?_,by rw[sV];omega,λx hx=> ?_,λp hp=> ?_,?_⟩
    .rw[tO,sV,i2];rfl
    .rcases cr.1 hx with rfl | hx
     .exact K
     .exact i4 x hx
    .rcases cr.1 hp with rfl | hp
     .refine⟨⟨by show aa (ag 32 (0:Int))=32;rw[cT],λx hx=> ?_⟩,⟨k1,T.1,K,by show o.1<=_;omega,dT 0,by show(0:Int)<=_;decide⟩,by show(k:Int)<=k;omega⟩;have hx:x∈ag 32 (0:Int):=hx;obtain rfl:=(pS.1 hx).2;exact⟨fm,fm⟩
     .have:=J p hp;exact⟨this.1,this.2.1,aq⟩
    .show((yR k o).1::dY r).Nodup;refine db.2 ⟨λO=> ?_,i6⟩;obtain⟨p,hp,B⟩:=dE.1 O;have:=(J p hp).2.2;have B:p.1=(yR k o).1:=B;rw[B]at this;have this:((k+1:Nat):Int)<=(k:Int):=this;omega
def aeB{outs:List dW}{a:At}(B:∀o∈outs,Pj o)(e:Gq outs=aw a):Od 0 0 a []/\Ck a=il outs/\aa a=aa outs/\aa outs<=256/\(∀o∈outs,0<=o.1)/\il outs<=1125899906842624:=by
 unfold Gq at e;by_cases j:aa outs<=256
 .rw[av j]at e;obtain⟨I,J,O,K,A,L⟩:=aeC outs 0 0 fm fm B e;exact⟨⟨⟨L,λp u=>⟨(A p u).1,(A p u).2.1⟩⟩,ax _,ax _,λT M=>(by cases M),aq,aq⟩,J,I,j,K,aq⟩
 .rw[au j]at e;cases e
def at6:∀(l:List bO) (a:At),aa (Ar a l)=aa l
 |[],_=>rfl
 |o::l,a=>by rw[Ar,aB,aB,at6 l]
def aF8{t:di}{h u:Int}{a:At}(j:wz t h a u):awv (stepOf t a):=by have A:=(iW j.ok).1;have B:=xH j.ok;have I:=amh j.ok;unfold awv stepOf;rw[at6];exact⟨aq,by show aa (gI t)<=1000;omega⟩
section
variable {m n:Nat} {t:di} {h:Int} {a:At} {s:List cF}
def Od.app(j:Od m n a s)(u:wz t h a (dw t h a).1)(A:mE t):Od (m+1) (n+1) (fx t h a) (s.take n++ [stepOf t a]):=by
 have J:=j.le;have K:=j.len;have M:=u.sum j.wK.1;have L:=u.pos;have I:=(iW u.ok).1;have e:aa (s.take n)=n:=by rw[bw];omega
 refine⟨u.wK j.wK A,by rw[aj,e];exact ax _,by rw[aj,e];show n+1<=_;omega,λB u7=> ?_,?_,?_⟩
 .rcases bZ.1 u7 with u7 | u7
  .exact j.bc8 B (fw u7)
  .rw[bM.1 u7];exact aF8 u
 .have:=j.sum;omega
 .have:=j.biD;omega
def Od.apply(u:Od m n a s)(I:m<=1000)(B:mE t):((dw t h a).2≠0/\F3 (t,h,n,a,s)=aw (.inl ((dw t h a).2,n,a,s)))\/
  (wz t h a (dw t h a).1/\(dw t h a).2=0/\F3 (t,h,n,a,s)=aw (.inr (0,n+1,fx t h a,s.take n++ [stepOf t a]))/\Od (m+1) (n+1) (fx t h a) (s.take n++ [stepOf t a])):=by
 have A:=aQe (d:=(t,h,n,a,s)) ⟨B,u.wK,u.le,by have:=u.len;show aa s<=_;omega⟩;by_cases j:(dw t h a).2=0
 .right;refine⟨HO j,j,?_,u.app (HO j) B⟩;rw[A];simp only[Fx,Tv,j,ne_eq,not_true_eq_false,bq]
 .left;refine⟨j,?_⟩;rw[A];simp only[Fx,Tv,ne_eq,j,not_false_eq_true,bQ]
def Od.check(j:Od m n a s)(u:mE t):pj.call (t,h,n,a,s)=aw ((dw t h a).1,(dw t h a).2,n,a,s):=atT (d:=(t,h,n,a,s)) ⟨u,j.wK⟩
def Od.copy(j:Od m n a s)(u:m<=1000):CZ.call (n,a,s)=aw (n,a,s,aa (s.take n),jJ a,s.take n):=aH8 (d:=(n,a,s)) ⟨j.le,by have:=j.len;show aa s<=_;omega,j.wK.1⟩
def aq8.perm{j:At}(h:aq8 a)(u:a.Perm j):aq8 j:=⟨(u.map _).nodup_iff.1 h.1,λp A=>h.2 p (u.mem_iff.2 A)⟩
def Od.canon(j:Od m n a s):Od m n (jJ a) (s.take n)/\aa (s.take n)=n:=by
 have u:=Cn a;have e:aa (s.take n)=n:=by rw[bw];have:=j.le;omega
 exact⟨⟨j.wK.perm u.symm,aq,by have:=j.le;have:=j.len;omega,λA B=>j.bc8 A (fw B),by rw[Kw u];exact j.sum,by rw[u.length_eq];exact j.biD⟩,e⟩
end
end
def rF(a j:At):Prop:=∀o,bT bK o a=bT bK o j
def rF.refl(a:At):rF a a:=λ_=>rfl
def rF.symm{a b:At}(h:rF a b):rF b a:=λo=>(h o).symm
def rF.trans{a b c:At}(h:rF a b)(j:rF b c):rF a c:=λo=>(h o).trans (j o)
def rF.perm{a b:At}(h:rF a b)(j:(dY a).Nodup)(u:(dY b).Nodup):a.Perm b:=bhy j u h
def aCw{a b:At}(j:(dY b).Nodup)(h:a.Perm b):rF a b:=λo=>aZC j h o
def rF.del{a b:At}(h:rF a b)(j:(dY a).Nodup)(u:(dY b).Nodup)(l:List bO):rF (Cq l a) (Cq l b):=λo=>by
 rw[agR o l j,agR o l u,h o]
def TQ(e:de)(l:List de)(a:At):anM (e::l) a=anM l (fi bK e.1 e.2.1 a):=rfl
def rF.set{a b:At}(h:rF a b)(o:bO)(c:fh):rF (fi bK o c a) (fi bK o c b):=λx=>by rw[aIr,aIr,h x]
def rF.put:∀(l:List de) {a b:At},rF a b->rF (anM l a) (anM l b)
 |[],_,_,h=>h
 |e::l,a,b,h=>by rw[TQ,TQ];exact rF.put l (h.set _ _)
def anN:∀(l:List de) {a:At},(dY a).Nodup->(dY (anM l a)).Nodup
 |[],_,h=>h
 |e::l,a,h=>by rw[TQ];exact anN l (XD h)
def Ja{a:At}(h:(dY a).Nodup)(j:cF):(dY (yn a j)).Nodup:=anN _ (F8 _ h)
def rF.bmP{a b:At}(h:rF a b)(u:(dY a).Nodup)(A:(dY b).Nodup)(j:cF):rF (yn a j) (yn b j):=rF.put _ (h.del u A _)
def rF.add(h:Int):∀(l:List bO) (j:List dW) {a b:At},rF a b->rF (Ub h l j a) (Ub h l j b)
 |[],[],_,_,e=>e
 |[],_::_,_,_,e=>e
 |_::_,[],_,_,e=>e
 |o::l,x::j,a,b,e=>by rw[Ay,Ay];exact rF.add h l j (e.set _ _)
def rF.apply{a b:At}(e:rF a b)(j:(dY a).Nodup)(u:(dY b).Nodup)(t:di)(h:Int):rF (fx t h a) (fx t h b):=rF.add h _ _ (e.del j u _)
def rF.ins{a b:At}(e:rF a b)(h:Int)(id:List Int):∀(l:List gb) (f:Int),ua h id a l f=ua h id b l f
 |[],_=>rfl
 |x::l,f=>by
  simp only[ua,e x.1];cases bT bK x.1 b with
  |none=>rfl
  |some c=>simp only[rF.ins e h id l]
def rF.check{a b:At}(e:rF a b)(t:di)(h:Int):dw t h a=dw t h b:=by
 have j:mD a=mD b:=funext λo=>by unfold mD;rw[e o]
 unfold dw;rw[e.ins,j]
def bhz(x:bO):∀(l:List bO) {a:At} (b:At),(dY a).Nodup->l.Nodup->(∀o∈l,(bT bK o a).isSome=bn)->bT bK x (anM (Ar a l) b)=if x∈l then bT bK x a else bT bK x b
 |[],a,b,_,_,_=>by rw[au (by simp)];rfl
 |o::l,a,b,hn,hl,ht=>by
  rw[db]at hl;obtain⟨c,B⟩:=dA.1 (ht o aY);have A:∀y∈l,(bT bK y (fV bK o a)).isSome=bn:=λy I=>by rw[axQ y o hn,au (λe=>hl.1 (by rw[<-e];exact I))];exact ht y (aT _ I)
  rw[Ar,TQ,bhz x l _ (qg hn) hl.2 A,axQ x o hn,B];by_cases j:x∈l
  .have u:¬x=o:=λe=>hl.1 (by rw[<-e];exact j)
   rw[av j,au u,av (aT _ j)]
  .rw[au j];show bT bK x (fi bK o c b)=_;rw[aIr];by_cases u:x=o
   .subst u;rw[av rfl,av aY,B]
   .rw[au u,au (by simp[j,u])]
def aqP{t:di}{h I:Int}{a:At}(B:wz t h a I)(A:(dY a).Nodup):rF (yn (fx t h a) (stepOf t a)) a:=λo=>by
 unfold yn stepOf;rw[bhz o (dG t) _ A (NM t) B.there];by_cases u:o∈dG t
 .rw[av u]
 .rw[au u];show bT bK o (Cq (gI t) (fx t h a))=_;rw[agR o _ (fT A)];by_cases j:o∈gI t
  .rw[av j,B.made o j]
  .rw[au j,Zk A u j]
def aZd{s:List cF}{x:cF}{n k:Nat}(A:n<=aa s)(u:k < n):nth eh (s.take n++ [x]) k=nth eh s k:=by
 have j:k < aa (s.take n++ [x]):=by rw[aj,bw];omega
 rw[bG (t:=eh) j,bG (t:=eh) (show k < aa s by omega)];show(aJ n s++ [x])[k]=s[k];rw[List.getElem_append_left (by rw[bw];omega),ku]
def aZc{s:List cF}{x:cF}{n:Nat}(u:n<=aa s):nth eh (s.take n++ [x]) n=x:=by
 have e:aa (s.take n)=n:=by rw[bw];omega
 have j:n < aa (s.take n++ [x]):=by rw[aj,e];exact Nat.lt_succ_self n
 rw[bG (t:=eh) j];show(aJ n s++ [x])[n]=x;rw[List.getElem_append_right aq];simp[e]
section
def oG(l:List de):At:=l.map λe=>(e.1,e.2.1)
def DS(a b:bO):Bool:=decide (lx a.1 b.1 < 0\/lx a.1 b.1=0/\a.2.1 < b.2.1)
def w6:List de->bO->Int->Int
 |[],_,_=> -1
 |e::l,o,i=>if Ty.beq bK e.1 o=bn then i else w6 l o (i+1)
def Jp:List de->bO->List de
 |[],_=> []
 |e::l,o=>if Ty.beq bK e.1 o=bn then l else e::Jp l o
def Aw:List de->de->List de
 |[],c=> [c]
 |e::l,c=>if DS e.1 c.1=bn then e::Aw l c else c::e::l
def adD(a b:bO):Ty.beq bK a b=Ty.beq bK b a:=by
 cases h:Ty.beq bK a b with
 |true=>rw[(pc b a).2 ((pc a b).1 h).symm]
 |false=>
  cases j:Ty.beq bK b a with
  |false=>rfl
  |true=>rw[(pc a b).2 ((pc b a).1 j).symm]at h;cases h
def Yf:∀(l:List de) (o:bO) (i:Int),0<=i->(w6 l o i= -1/\bT bK o (oG l)=aC/\Jp l o=l)\/
  ∃(k:Nat) (h:k < aa l),w6 l o i=i+k/\bT bK o (oG l)=aw l[k].2.1/\Jp l o=l.take k++l.drop (k+1)/\l[k].1=o
 |[],o,i,_=> .inl ⟨rfl,rfl,rfl⟩
 |e::l,o,i,h0=>by
  have I:bT bK o (oG (e::l))=if Ty.beq bK o e.1=bn then aw e.2.1 else bT bK o (oG l):=fU
  rw[I,w6,Jp,adD o e.1];by_cases h:Ty.beq bK e.1 o=bn
  .right;refine⟨0,Nat.zero_lt_succ _,?_,?_,?_,(pc _ _).1 h⟩
   .rw[av h];show i=i+0;omega
   .rw[av h];rfl
   .rw[av h];rfl
  .rw[au h,au h,au h];rcases Yf l o (i+1) aq with⟨j,u,A⟩ | ⟨k,J,j,u,A,B⟩
   .left;exact⟨j,u,by rw[A]⟩
   .right;refine⟨k+1,Nat.succ_lt_succ J,by rw[j];omega,u,by rw[A];rfl,B⟩
def aJx{l:List de}{o:bO}{i:Int}(j:0<=i):w6 l o i= -1\/i<=w6 l o i/\w6 l o i < i+aa l:=by
 rcases Yf l o i j with⟨h,_⟩ | ⟨k,u,h,_⟩
 .exact .inl h
 .right;rw[h];omega
theorem akh:∀(l:List de) (o:bO),oG (Jp l o)=fV bK o (oG l)
 |[],o=>by rfl
 |e::l,o=>by
  have j:fV bK o (oG (e::l))=if Ty.beq bK o e.1=bn then oG l else(e.1,e.2.1)::fV bK o (oG l):=wS
  rw[j,Jp,adD o e.1];by_cases h:Ty.beq bK e.1 o=bn
  .grind
  .rw[au h,au h,<-akh l o];rfl
theorem Bd:∀(l:List de) (c:de),(Aw l c).Perm (c::l)
 |[],c=>jf _
 |e::l,c=>by
  rw[Aw];split
  .exact((Bd l c).cons e).trans (List.Perm.swap c e l)
  .exact jf _
def aXf(l:List de)(o:bO):(Jp l o).Sublist l:=by
 induction l with
 |nil=>exact List.Sublist.refl _
 |cons e l j=>
  rw[Jp];split
  .exact List.sublist_cons_self e l
  .exact j.cons_cons e
def big(l:List de):Prop:=l.Pairwise λx y=>¬Am y.1 x.1 < 0
def HM{a b:bO}(u:CV a)(A:CV b):DS a b=decide (Am a b < 0):=by
 unfold DS;rw[rO u A];unfold C3;rw[aj2 _ _ (u.1.trans A.1.symm)];unfold bkV;by_cases h:lx a.1 b.1=0
 .rw[av h];unfold axb;by_cases j:a.2.1 < b.2.1
  .rw[av j,aK (.inr ⟨h,j⟩),aK fm]
  .rw[au j,aV aq];split
   .rw[aV fm]
   .rw[aV fm]
 .rw[au h];by_cases j:lx a.1 b.1 < 0
  .rw[aK (.inl j),aK j]
  .rw[aV aq,aV j]
theorem adS{a b:bO}(j:CV a)(u:CV b)(h:Am a b < 0):¬Am b a < 0:=λA=>by rw[rO j u]at h;rw[rO u j,aew]at A;omega
def awp:∀(l:List de) (c:de),(∀e∈l,CV e.1)->CV c.1->big l->big (Aw l c)
 |[],c,_,_,_=>List.pairwise_singleton _ _
 |e::l,c,hq,hc,hs=>by
  have u:=hq e aY;have j:=gQ.1 hs;rw[Aw,HM u hc];by_cases h:Am e.1 c.1 < 0
  .rw[aK h];refine gQ.2 ⟨λy hy=> ?_,awp l c (λx A=>hq x (aT _ A)) hc j.2⟩;grind [Bd,adS]
  .rw[aV h];refine gQ.2 ⟨λy hy=> ?_,hs⟩;rcases cr.1 hy with rfl | hy
   .exact h
   .exact yQ.ntrans _ _ _ (hq y (aT _ hy)) u hc (j.1 y hy) h
structure Rl(a:At)(l:List de):Prop where
 wK:aq8 a
 bqO:big l
 nd:(dY (oG l)).Nodup
 eqv:rF (oG l) a
section
variable {a:At} {l:List de}
def Rl.perm(h:Rl a l):(oG l).Perm a:=h.eqv.perm h.nd h.wK.1
def Rl.bpZ(h:Rl a l):aq8 (oG l):=h.wK.perm h.perm.symm
def Rl.q(h:Rl a l):∀e∈l,CV e.1:=λe j=>(h.bpZ.2 (e.1,e.2.1) (dE.2 ⟨e,j,rfl⟩)).1
def Rl.len(h:Rl a l):aa l=aa a:=by have:=h.perm.length_eq;unfold oG at this;rwa[cz]at this
def Rl.bln{b:At}(h:Rl a l)(j:aq8 b)(e:rF a b):Rl b l:=⟨j,h.bqO,h.nd,h.eqv.trans e⟩
end
abbrev Lz:=bO×bO×Int
def DE(j):=(.iU bK j:aF)
def AX:Lz->AS:=λ(u,j,i)=>⟨([bB,bB,DE u,DE j,bB,aU i]++aP 27 []),[],(ag 33 [])⟩
def Ix:Bool->Exit×AS:=λx=>(.ret,⟨(aP 4 ([fA x]++aP 28 [])),[],(ag 33 [])⟩)
def Iy:(bO×bO)->Exit×AS:=λx=>(.exit 0,⟨([bB,bB,DE x.1,DE x.2]++aP 29 []),[],(ag 33 [])⟩)
abbrev aeV:=(Bool)⊕((bO×bO))
abbrev avk:=(Bool)⊕(Unit)
def RG:aeV->Out (Exit×AS):=λx=> .br x.isLeft (.get x.getLeft? λa=> .ok (Ix a)) (.get x.getRight? λb=> .ok (Iy b))
def pz:Lz->avk->aeV:=λ(u,j,i) y=>match y with | .inl y=> .inl y | .inr z=> .inr ((u,j))
def Iw:Lz->Prop:=λ(a,b,i)=>aa a.1=32/\aa b.1=32/\∃k:Nat,k<=32/\i=k
def xM:Lz->avk:=λ(a,b,i)=>if lx (a.1.drop i.toNat) (b.1.drop i.toNat)=0 then .inr () else .inl (decide (lx (a.1.drop i.toNat) (b.1.drop i.toNat) < 0))
def bai:(bO×bO)->Prop:=λ(a,b)=>aa a.1=32/\aa b.1=32
def aKD:(bO×bO)->Bool:=λ(a,b)=>DS a b
def avi:=cQ.eg AX Iw pz xM RG
def abL:Lz->Option aeV:=eN avi AX
def abK:Fs prog bai bt aKD:=eP 44 f44 (λ(a,b)=>([.d bK a,.d bK b],[])) (λx=>⟨.d .bool x,[],[]⟩) [aw bK,aw bK] [] {loops:=ko [(2,{aX:=[2,3,5]})],outs:=km [(2,{aX:=[2,3]},{aX:=[4]})],eT:=jW [(2,avi)]}
def avj:= @dm prog (gU abK.G) abK.an 0 f44 0 _ AX
abbrev aoU:=gr prog (gU abK.G) abK.an 0 f44 0 AX Iw pz xM RG
def aE0:fC abL Iw pz xM:=ia (fy [.d bK,.d bK,.d ti] λ_=>bS)
def aeW:iX @avj AX Iw pz xM RG aoU:=ji
def Ns(u j i)(B:K2 R)(A:K3 R):avj (u,j,i) B A=aA (fj i (32:Int)) (aA (dB i (32:Int)) (aA (dB i (32:Int)) (aA (pb (nth tb u.1 (ae i)) (nth tb j.1 (ae i))) (aA (dB i (32:Int)) (aA (dB i (32:Int)) (A (Ix (fj (nth tb u.1 (ae i)) (nth tb j.1 (ae i)))).1 (Ix (fj (nth tb u.1 (ae i)) (nth tb j.1 (ae i)))).2) aC) aC) (B (AX (u,j,(bC .i64 i (1:Int)))))) aC) aC) (A (Iy (u,j)).1 (Iy (u,j)).2):=bS
def bf7(a b)(k:K1 R):abK.A (a,b) k=ao (abL (a,b,0)) λj=>aA j.isLeft (ao j.getLeft? λA=>k (abK.out A)) (ao j.getRight? λu=>k (abK.out (fj u.1.2.1 u.2.2.1))):=bS
def aKE:aoU:=by
 refine aeW (λ(_,_,i)=>(32 - i).toNat) ?_
 rintro⟨a,b,i⟩ ⟨A,B,k,L,rfl⟩;have A:aa a.1=32:=A;have B:aa b.1=32:=B;by_cases K:k < 32
 .have n1:nth tb a.1 k=a.1[k]:=bG (t:=tb) aq;have n2:nth tb b.1 k=b.1[k]:=bG (t:=tb) aq;have u:lx (a.1.drop k) (b.1.drop k)=if a.1[k]≠b.1[k] then(if a.1[k] < b.1[k] then -1 else 1) else lx (a.1.drop (k+1)) (b.1.drop (k+1)):=by rw[ak (show k < aa a.1 by omega),ak (show k < aa b.1 by omega),lx]
  by_cases h:a.1[k]=b.1[k]
  .left;refine⟨(a,b,((k+1:Nat):Int)),⟨A,B,k+1,aq,rfl⟩,by show(32 - ((k+1:Nat):Int)).toNat < (32 - (k:Int)).toNat;omega,?_,λI J=> ?_⟩
   .rw[au (λe=>e h)]at u;simp only[pz,xM,ab,u]
   .rw[Ns,aN aq,ai,aS aq aq,ai,ai,ab,n1,n2,bU h,al,N.iY aq]
  .right;rw[av h]at u;refine⟨Ix (decide (a.1[k] < b.1[k])),?_,λI J=> ?_⟩
   .simp only[pz,xM,ab,u];by_cases j:a.1[k] < b.1[k]
    .simp only[j,bQ];rfl
    .simp only[j,bq];rfl
   .rw[Ns,aN aq,ai,aS aq aq,ai,ai,ab,n1,n2,dj h,ai,ai,ai];by_cases j:a.1[k] < b.1[k]
    .rw[aN j,aK j]
    .rw[aL j,aV j]
 .right;obtain rfl:k=32:=aq;refine⟨Iy (a,b),?_,λI J=> ?_⟩
  .have e:lx (a.1.drop 32) (b.1.drop 32)=0:=by rw[dJ aq,dJ aq];rfl
   simp only[pz,xM,ab,e];rfl
  .rw[Ns,aL aq,al]
def bf8:abK.Ok:=by
 rintro⟨a,b⟩ ⟨u,A⟩;rw[bf7,aE0 (d:=(a,b,0)) ⟨u,A,0,aq,rfl⟩];simp only[ah,pz,xM,aW,aH,bt,aKD,DS];by_cases h:lx a.1 b.1=0
 .simp only[h,bQ,dh,al,cJ,ah];by_cases j:a.2.1 < b.2.1
  .rw[aN j,aK (.inr ⟨by trivial,j⟩)]
  .rw[aL j,aV (by rintro(h3 | h3);exact absurd h3 fm;exact j h3.2)]
 .simp only[h,bq,j7,ai,iQ,ah];by_cases j:lx a.1 b.1 < 0
  .rw[aK j,aK (.inl j)]
  .rw[aV j,aV (by rintro(h3 | h3);exact j h3;exact h3.1)]
def aE1:abK.RS:=rE [.d bK,.d bK] abK
def aOf:=abK.eQ bf8 1 ⟨.eg aKE,trivial⟩
abbrev Yz:=(List de)×de×Int
def zQ:Yz->Int->(((List de)×de)×(Int)):=λ(u,j,A) y=>((u,j),y)
abbrev aOw:=(List de)×de
def Xl{l:List de}{n:Nat}(h:aa l=n):cut l 0 n=l:=by subst h;simp[cut]
def ars(l:List de)(o:bO):Nat:=aa (l.takeWhile λe=>DS e.1 o)
def awo:∀(l:List de) (c:de),Aw l c=l.take (ars l c.1)++(c::l.drop (ars l c.1))
 |[],c=>rfl
 |e::l,c=>by
  unfold ars;rw[Aw,uY];by_cases h:DS e.1 c.1=bn
  .rw[av h,av h,awo l c];rfl
  .rw[au h,au h];rfl
def bd2(l:List de)(o:bO):ars l o<=aa l:=(pT _).length_le
def azK:Yz->Prop:=λ(l,c,i)=>aa l<=1000000/\(∀e∈l,aa e.1.1=32)/\aa c.1.1=32/\∃k:Nat,k<=aa l/\i=k
def G1:Yz->Int:=λ(l,c,i)=>i+(ars (l.drop i.toNat) c.1:Int)
def aTi:aOw->Prop:=λ(l,c)=>aa l<=1000000/\(∀e∈l,aa e.1.1=32)/\aa c.1.1=32
def aOx:aOw->(List de):=λ(l,c)=>Aw l c
def vD:Ls azK zQ G1:=rI (λ(A,j,u)=>⟨([Vs A,bB,bB,.iU fk j,bB,aU u]++aP 32 []),[],(ag 38 [])⟩) (λx=>(.exit 0,⟨([Vs x.1.1,bB,bB,.iU fk x.1.2,bB,aU x.2]++aP 32 []),[],(ag 38 [])⟩))
def R4:Fs prog aTi bt aOx:=eP 134 f134 (λ(l,c)=>([.d (.slice fk) l,.d fk c],[])) (λx=>⟨.d (.slice fk) x,[],[]⟩) [aw (.slice fk),aw fk] [aOf] {cd:=[23],loops:=ko [(2,{aX:=[0,3,5]})],outs:=km [(2,{aX:=[0,3,5]},{aX:=[4]})],eT:=jW [(2,vD.E)],res:=[aw (.slice fk)]}
def azL:vD.RS:=rL [.d (.slice fk),.d fk,.d ti] vD
theorem Ka(A j u)(I:K2 R)(B:K3 R):R4.R 0 vD (A,j,u) I B=aA (fj u (aa A:Int)) (aA (dB u (aa A:Int)) (ao (abK.call ((nth fk A (ae u)).1,j.1)) λJ=>aA (J) (I (vD.st (A,j,(bC .i64 u 1)))) (vD.go B ((A,j),u))) aC) (vD.go B ((A,j),u)):=bS
def bbo(l c)(k:K1 R):R4.A (l,c) k=ao (vD.call (l,c,0)) λj=>aA (inc j.2 (aa j.1.1:Int)) (aA (cM (0+(aa (cut j.1.1 0 ((ae j.2) - 0)))) 80) (aA (decide ((0+(aa (cut j.1.1 0 ((ae j.2) - 0))))<=(aa ((aJ 0 (ag 0 (((ag 32 0),(0,())),(((0,((([]:List kF),()),())),(0,())),()))))++(cut j.1.1 0 ((ae j.2) - 0)))))) (aA (cM ((0+(aa (cut j.1.1 0 ((ae j.2) - 0))))+1) 80) (aA (inc j.2 (aa j.1.1:Int)) (aA (decide (((0+(aa (cut j.1.1 0 ((ae j.2) - 0))))+1)<=(aa ((aJ (0+(aa (cut j.1.1 0 ((ae j.2) - 0)))) ((aJ 0 (ag 0 (((ag 32 0),(0,())),(((0,((([]:List kF),()),())),(0,())),()))))++(cut j.1.1 0 ((ae j.2) - 0))))++ [j.1.2])))) (aA (cM (((0+(aa (cut j.1.1 0 ((ae j.2) - 0))))+1)+(aa (cut j.1.1 (ae j.2) ((aa j.1.1) - (ae j.2))))) 80) (aA (decide (0=0/\(0+(((0+(aa (cut j.1.1 0 ((ae j.2) - 0))))+1)+(aa (cut j.1.1 (ae j.2) ((aa j.1.1) - (ae j.2))))))<=(aa ((aJ ((0+(aa (cut j.1.1 0 ((ae j.2) - 0))))+1) ((aJ (0+(aa (cut j.1.1 0 ((ae j.2) - 0)))) ((aJ 0 (ag 0 (((ag 32 0),(0,())),(((0,((([]:List kF),()),())),(0,())),()))))++(cut j.1.1 0 ((ae j.2) - 0))))++ [j.1.2]))++(cut j.1.1 (ae j.2) ((aa j.1.1) - (ae j.2))))))) (k (R4.out (cut ((aJ ((0+(aa (cut j.1.1 0 ((ae j.2) - 0))))+1) ((aJ (0+(aa (cut j.1.1 0 ((ae j.2) - 0)))) ((aJ 0 (ag 0 (((ag 32 0),(0,())),(((0,((([]:List kF),()),())),(0,())),()))))++(cut j.1.1 0 ((ae j.2) - 0))))++ [j.1.2]))++(cut j.1.1 (ae j.2) ((aa j.1.1) - (ae j.2)))) 0 (((0+(aa (cut j.1.1 0 ((ae j.2) - 0))))+1)+(aa (cut j.1.1 (ae j.2) ((aa j.1.1) - (ae j.2)))))))) aC) aC) aC) aC) aC) aC) aC) aC:=bS
def aFI:(R4.kA 0 vD):=by
 refine(R4.lS 0 vD) (λ(l,_,i)=>aa l - i.toNat) ?_
 rintro⟨l,c,i⟩ ⟨I,A,u,k,M,rfl⟩;by_cases j:k < aa l
 .have n1:=bG (t:=fk) j;have B:abK.call (l[k].1,c.1)=aw (DS l[k].1 c.1):=aE1 (d:=(l[k].1,c.1)) ⟨A _ (aD j),u⟩;have L:ars (l.drop k) c.1=if DS l[k].1 c.1=bn then ars (l.drop (k+1)) c.1+1 else 0:=by grind [ars,ak,uY]
  cases h:DS l[k].1 c.1 with
  |true=>
   left;refine⟨(l,c,((k+1:Nat):Int)),⟨I,A,u,k+1,aq,rfl⟩,by grind,?_,λJ K=> ?_⟩
   .grind [zQ,G1]
   .rw[Ka,aN aq,ai,aS aq aq,ai,ab,n1,B,ah,h,ai,N.iY aq]
  |false=>
   grind [Ka,aN,ai,aS,ah,al,zQ,G1]
 .right;obtain rfl:k=aa l:=aq;intro T J K;rw[Ka,aL aq];simp[zQ,G1,ars]
def bbp:R4.Ok:=by
 rintro⟨l,c⟩ ⟨j,O,L⟩;have j:aa l<=1000000:=j;have M:=bd2 l c.1;rw[bbo,azL (d:=(l,c,0)) ⟨j,O,L,0,az _,rfl⟩];simp only[ah,zQ,G1,aW,aH,bt,aOx,je,ab,mW,aO,du,bf];rw[awo];generalize ars l c.1=m at M ⊢;have J:cut l 0 m=l.take m:=by simp[cut]
 have K:cut l m (aa l - m)=l.drop m:=by unfold cut;rw[bp (by rw[dy];omega)]
 have u:aa (l.take m)=m:=by rw[bw];omega
 have A:aa (l.drop m)=aa l - m:=dy;have T:aJ m (l.take m)=l.take m:=bp aq;have B:aa (l.take m++ [c])=m+1:=by rw[aj,u];rfl
 have t2:aJ (m+1) (l.take m++ [c])=l.take m++ [c]:=bp aq;have I:aa (l.take m++ [c]++l.drop m)=m+1+(aa l - m):=by rw[aj,B,A]
 simp only[J,K,u,A,T,B,t2,I,ax,bE,ai,fY];rw[l9 aq aq,ai,cg aq aq,ai,cg aq aq,ai,ai,cg aq aq,ai,Xl I];simp only[aR,cv]
def aTj:R4.RS:=rE [.d (.slice fk),.d fk] R4
def bbq:=R4.eQ bbp 1 ⟨.eg aFI,trivial⟩
abbrev CL:=(List de)×bO×Int
def uG:CL->AS:=λ(u,j,i)=>⟨([Vs u,bB,bB,DE j,bB,aU i]++aP 14 []),[],(ag 20 [])⟩
def BR:Int->Exit×AS:=λx=>(.ret,⟨(aP 4 ([aU x]++aP 15 [])),[],(ag 20 [])⟩)
def BS:Unit->Exit×AS:=λx=>(.exit 0,⟨(aP 20 []),[],(ag 20 [])⟩)
abbrev RY:=(Int)⊕(Unit)
abbrev aij:=(Int)⊕(Unit)
def J9:RY->Out (Exit×AS):=λx=> .br x.isLeft (.get x.getLeft? λa=> .ok (BR a)) (.get x.getRight? λb=> .ok (BS b))
def ru:CL->aij->RY:=λ(u,j,i) y=>match y with | .inl y=> .inl y | .inr z=> .inr (z)
abbrev aFv:=(List de)×bO
def BQ:CL->Prop:=λ(l,o,i)=>aa l<=1000000/\∃k:Nat,k<=aa l/\i=k
def pF:CL->aij:=λ(l,o,i)=>if w6 (l.drop i.toNat) o i < 0 then .inr () else .inl (w6 (l.drop i.toNat) o i)
def aK7:aFv->Prop:=λ(l,o)=>aa l<=1000000
def aFw:aFv->Int:=λ(l,o)=>w6 l o 0
def aih:=cQ.eg uG BQ ru pF J9
def RZ:CL->Option RY:=eN aih uG
def tj:Fs prog aK7 bt aFw:=eP 133 f133 (λ(l,o)=>([.d (.slice fk) l,.d bK o],[])) (λx=>⟨.d ti x,[],[]⟩) [aw (.slice fk),aw bK] [] {loops:=ko [(2,{aX:=[0,3,5]})],outs:=km [(2,{},{aX:=[4]})],eT:=jW [(2,aih)]}
def aii:= @dm prog (gU tj.G) tj.an 0 f133 0 _ uG
abbrev acn:=gr prog (gU tj.G) tj.an 0 f133 0 uG BQ ru pF J9
def asC:fC RZ BQ ru pF:=ia (fy [.d (.slice fk),.d bK,.d ti] λ_=>bS)
def Yy:iX @aii uG BQ ru pF J9 acn:=ji
def GZ(j u i)(B:K2 R)(A:K3 R):aii (j,u,i) B A=aA (fj i (((aa j):Nat):Int)) (aA (dB i (((aa j):Nat):Int)) (aA (Ty.beq bK (nth fk j (ae i)).1 u) (A (BR i).1 (BR i).2) (B (uG (j,u,(bC .i64 i (1:Int)))))) aC) (A (BS ()).1 (BS ()).2):=bS
def aTc(l o)(k:K1 R):tj.A (l,o) k=ao (RZ (l,o,0)) λj=>aA j.isLeft (ao j.getLeft? λu=>k (tj.out u)) (ao j.getRight? λA=>k (tj.out (-1))):=bS
def azH:acn:=by
 refine Yy (λ(l,_,i)=>aa l - i.toNat) ?_
 rintro⟨l,o,i⟩ ⟨I,k,J,rfl⟩;by_cases B:k < aa l
 .have n1:=bG (t:=fk) B;have j:w6 (l.drop k) o k=if Ty.beq bK l[k].1 o=bn then(k:Int) else w6 (l.drop (k+1)) o ((k+1:Nat):Int):=by grind [ak,w6]
  cases h:Ty.beq bK l[k].1 o with
  |true=>
   right;rw[h]at j;refine⟨BR (k:Int),?_,λu A=> ?_⟩
   .simp[pF,j];rfl
   simp_all [GZ,aN,aS]
  |false=>
   left;refine⟨(l,o,((k+1:Nat):Int)),⟨I,k+1,aq,rfl⟩,by grind,?_,λu A=> ?_⟩
   .grind [ru,pF]
   .rw[GZ,aN aq,ai,aS aq aq,ai,ab,n1,h,al,N.iY aq]
 .right;obtain rfl:k=aa l:=aq;refine⟨BS (),?_,λu A=> ?_⟩
  .simp[pF,ay];rfl
  simp[GZ,aL]
def aTd:tj.Ok:=by
 rintro⟨l,o⟩ j;rw[aTc,asC (d:=(l,o,0)) ⟨j,0,az _,rfl⟩];simp only[ah,ru,pF,aW,aH,bt,aFw];rcases aJx (l:=l) (o:=o) (dT 0) with h | ⟨h,_⟩
 .simp only[h];rfl
 .simp only[show ¬w6 l o 0 < 0 by omega,bq];rfl
def aK8:tj.RS:=rE [.d (.slice fk),.d bK] tj
def avS:=tj.eQ aTd 1 ⟨.eg azH,trivial⟩
def aeF{l:List de}(I:aa l<=1000000)(o:bO):(tj.call (l,o)=aw (-1)/\bT bK o (oG l)=aC)\/
  ∃(k:Nat) (h:k < aa l),tj.call (l,o)=aw (k:Int)/\bT bK o (oG l)=aw l[k].2.1/\Jp l o=l.take k++l.drop (k+1)/\nth fk l k=l[k]:=by
 have J:tj.call (l,o)=aw (w6 l o 0):=aK8 (d:=(l,o)) I;rw[J];rcases Yf l o 0 (dT 0) with⟨j,u,_⟩ | ⟨k,A,j,u,B,_⟩
 .exact .inl ⟨by rw[j],u⟩
 .exact .inr ⟨k,A,by rw[j,je],u,B,bG (t:=fk) A⟩
end
end Go.Ab
end
