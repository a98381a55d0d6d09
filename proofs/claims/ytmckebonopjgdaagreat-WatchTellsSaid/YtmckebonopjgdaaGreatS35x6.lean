/-
  Made short by a program of mine (wip/tools/mini.py).
-/
import Derived.Test.YtmckebonopjgdaaGreatS35x5
set_option linter.defProp false
set_option linter.unusedVariables false
set_option linter.unusedSimpArgs false
set_option maxRecDepth 100000
set_option synthInstance.maxSize 5000
open Go.Proofs.Tryz
open List renaming replicate->ag,length->aa,set->gq,take->aJ
open Int renaming toNat->ae
open Sum renaming getLeft?->dv
open And renaming intro->iD
open Option renaming some->aw,none->aC
open Bool renaming true->bn,false->aZ
noncomputable section
variable {R:Type}
namespace Go.Ab
open Go.Proofs
section
def bhO:List aF->Bool:=λvs=>match vs with | [_,_,.d (.pair (.int .i64) _) x]=>decide ((x.1:Int)=3) | _=>aZ
def bmw:List aF->Bool:=λvs=> !bhO vs
def bn1.E:Entry:=Entry.half [aC,aC,aw yr] (X:=P7) (Z:=(List tI)×Nat×Nat×(List (bO×fh))×(List cF)×(List cP)×(List (bO×kM))) KJ.run KJ.out Sum.inl dv
def bn1.sg:SG prog:=⟨16,bmw,bn1.E,yw.of (tD.half blA (adY.h.1 (by rfl))) (by rfl)⟩
def bn2.E:Entry:=Entry.half [aC,aC,aw yr] (X:=P7) (Z:=(List tI)×Nat×Nat×(List (bO×fh))×(List cF)×(List cP)×(List (bO×kM))×Nat×(List (bO×fh))×(List cF)×(List cP)) KJ.run KJ.out Sum.inr Sum.getRight?
def bn2.sg:SG prog:=⟨16,bhO,bn2.E,yw.of (tD.half bhB (adY.h.1 (by rfl))) (by rfl)⟩
abbrev tm:=(List tI)×(List tI)×Bool×bO×(List (bO×kM))
def O0:tm->AS:=λ(d,e,u,n6,j)=>⟨([bB,bB,bB,eI 29,bB,bB,eI 6]++aP 6 ([abb d,bB,abb e,bB,fA u]++aP 235 [])),[],(bz 6 ([dp (xJ n6)]++bz 22 ([[fp (.pr (QS 29 1 0) Pv),Ox j]]++bz 223 [])))⟩
def Sh:iO:=iO.of {aX:=[3,6,13,15,17],sites:=[6,29]} O0
def jN:tm->Option tm:=λx=>(Sh).amf .normal (O0 x)
def Up(x:tm):jN x=aw x:=iO.rJ (fy [.d (.slice Ah),.d (.slice Ah),.d .bool,.d bK,.d (.slice (.pair bK Au))] λ_=>bS) x
abbrev tn:=Bool×Bool×bO×(List (bO×kM))
def O1:tn->AS:=λ(u,A,n6,j)=>⟨([bB,bB,bB,eI 29,bB,bB,eI 6]++aP 10 ([fA u,fA A]++aP 234 [])),[],(bz 6 ([dp (xJ n6)]++bz 22 ([[fp (.pr (QS 29 1 0) Pv),Ox j]]++bz 223 [])))⟩
def Si:iO:=iO.of {aX:=[3,6,17,18],sites:=[6,29]} O1
def im:tn->Option tn:=λx=>(Si).amf .normal (O1 x)
def Uq(x:tn):im x=aw x:=iO.rJ (fy [.d .bool,.d .bool,.d bK,.d (.slice (.pair bK Au))] λ_=>bS) x
def aF0:Unit->Prop:=λ_=>True
def av4:Unit->Bool:=λ_=>bn
def kT:Fs prog aF0 bt av4:=eP 4 f4 (λ_=>([],[])) (λx=>⟨.d .bool x,[],[]⟩) [] [aa1,bfs,aBM,aOU,bb9,aGR,bn1.sg,aGP,bn2.sg,bb3,awn,aAx,aGI] {loops:=ko [(19,{aX:=[2,3,4,6,7,8,9,11,12,13,14],sites:=[1,4,6,7,10,20,23,24,28,29,44,50,53,58,62,68,72,76,85,89,97,101,105,155,207,212,216,219,223,249]})],outs:=km [(19,{aX:=[2,3,4,6,7,8,9,11,12,13],sites:=[1,4,6,7,10,20,23,24,28,29,44,50,53,58,62,68,72,76,85,89,97,101,105,155,207,212,216,219,223,249]},{aX:=[0],sites:=[1,4,6,7,10,20,23,24,28,29,44,50,53,58,62,68,72,76,85,89,97,101,105,155,207,212,216,219,223,249]})],aui:=jW [(27,Sh),(28,Si)]} 8
def aLv(d)(k:K1 R):kT.A d k=ao (Ou.call 7) λx7=>ao (aDj.call x7) λx8=>ao (Mh [(100,(x8,()))]) λoD=>aA oD.isLeft (ao oD.getLeft? λbsn=>ao (af8.call ()) λWO=>k (kT.out aZ)) (ao oD.getRight? λbkt=>ao (af8.call ()) λaU2=>ao (Av.call (([(((ag 32 0),(0,())),((0,(([]:List Sg),(0,()))),()))],([(90,(x8,()))],(0,()))),0,0,[7],0)) λbkZ=>ao (Pd.call (((ag 32 0),(1,())),aU2)) λbnM=>ao (Pd.call (((ag 32 0),(0,())),bnM)) λbsq=>ao (kI dv (fg ((7,(([]:List di),(0,(((ag 32 0),(0,())),())))),0,0,bkt.1,bkt.2.1,bkt.2.2,bsq))) λJ=>ao (kI dv (fg ((0,(([]:List di),(0,(((ag 32 0),(0,())),())))),J.2.1,J.2.2.1,J.2.2.2.1,J.2.2.2.2.1,J.2.2.2.2.2.1,J.2.2.2.2.2.2))) λbk0=>ao (kI dv (fg ((0,([bkZ.1],(0,(((ag 32 0),(0,())),())))),bk0.2.1,bk0.2.2.1,bk0.2.2.2.1,bk0.2.2.2.2.1,bk0.2.2.2.2.2.1,bk0.2.2.2.2.2.2))) λbk2=>ao (kI dv (fg ((7,(([]:List di),(0,(((ag 32 0),(0,())),())))),bk2.2.1,bk2.2.2.1,bk2.2.2.2.1,bk2.2.2.2.2.1,bk2.2.2.2.2.2.1,bk2.2.2.2.2.2.2))) λu=>ao (LU.call (((ag 32 0),(0,())),u.2.2.2.2.2.2)) λarc=>ao (kI Sum.getRight? (fg ((3,([bkZ.1],(1,(((ag 32 0),(0,())),())))),u.2.1,u.2.2.1,u.2.2.2.1,u.2.2.2.2.1,u.2.2.2.2.2.1,arc.1))) λgD=>ao (kI dv (fg ((7,(([]:List di),(0,(((ag 32 0),(0,())),())))),gD.2.1,gD.2.2.2.2.2.2.2.1,gD.2.2.2.2.2.2.2.2.1,gD.2.2.2.2.2.2.2.2.2.1,gD.2.2.2.2.2.2.2.2.2.2,gD.2.2.2.2.2.2.1))) λA=>ao (kI dv (fg ((0,(([]:List di),(0,(((ag 32 0),(0,())),())))),A.2.1,A.2.2.1,A.2.2.2.1,A.2.2.2.2.1,A.2.2.2.2.2.1,A.2.2.2.2.2.2))) λK=>ao (kI dv (fg ((0,(([]:List di),(0,(((ag 32 0),(0,())),())))),K.2.1,K.2.2.1,K.2.2.2.1,K.2.2.2.2.1,K.2.2.2.2.2.1,K.2.2.2.2.2.2))) λL=>ao (kI dv (fg ((0,(([]:List di),(0,(((ag 32 0),(0,())),())))),L.2.1,L.2.2.1,L.2.2.2.1,L.2.2.2.2.1,L.2.2.2.2.2.1,L.2.2.2.2.2.2))) λT=>ao (kI dv (fg ((0,(([]:List di),(0,(((ag 32 0),(0,())),())))),T.2.1,T.2.2.1,T.2.2.2.1,T.2.2.2.2.1,T.2.2.2.2.2.1,T.2.2.2.2.2.2))) λas9=>ao (kI dv (fg ((0,(([]:List di),(0,(((ag 32 0),(0,())),())))),as9.2.1,as9.2.2.1,as9.2.2.2.1,as9.2.2.2.2.1,as9.2.2.2.2.2.1,as9.2.2.2.2.2.2))) λZa=>ao (kI dv (fg ((0,(([]:List di),(0,(((ag 32 0),(0,())),())))),Za.2.1,Za.2.2.1,Za.2.2.2.1,Za.2.2.2.2.1,Za.2.2.2.2.2.1,Za.2.2.2.2.2.2))) λM=>ao (kI dv (fg ((0,(([]:List di),(0,(((ag 32 0),(0,())),())))),M.2.1,M.2.2.1,M.2.2.2.1,M.2.2.2.2.1,M.2.2.2.2.2.1,M.2.2.2.2.2.2))) λata=>ao (kI dv (fg ((7,(([]:List di),(0,(((ag 32 0),(0,())),())))),ata.2.1,ata.2.2.1,ata.2.2.2.1,ata.2.2.2.2.1,ata.2.2.2.2.2.1,ata.2.2.2.2.2.2))) λB=>ao (kI dv (fg ((7,(([]:List di),(0,(((ag 32 0),(0,())),())))),B.2.1,B.2.2.1,B.2.2.2.1,B.2.2.2.2.1,B.2.2.2.2.2.1,B.2.2.2.2.2.2))) λI=>aA (pb (aa J.1:Int) 0) (k (kT.out aZ)) (aA (pb (aa u.1:Int) 1) (k (kT.out aZ)) (aA (pb (aa A.1:Int) 2) (k (kT.out aZ)) (aA (pb (aa B.1:Int) 1) (k (kT.out aZ)) (aA (pb (aa I.1:Int) 0) (k (kT.out aZ)) (ao (aA (dB 0 (aa u.1:Int)) (aA (oC (nth Ah u.1 0).1 1) (aA (dB 0 (aa u.1:Int)) (aA (oC (nth Ah u.1 0).2.2.2.1 2) (aA (dB 0 (aa u.1:Int)) (aA (Ty.beq bK (nth Ah u.1 0).2.1 ((ag 32 0),(0,()))) (aA (dB 0 (aa u.1:Int)) (ao (Wj.call ((nth Ah u.1 0).2.2.1,bkZ.1)) λbhn=>aA (bhn) (aA (arc.2.2.2) (jN (A.1,B.1,(oC arc.2.2.1 2),((ag 32 0),(0,())),I.2.2.2.2.2.2)) (jN (A.1,B.1,aZ,((ag 32 0),(0,())),I.2.2.2.2.2.2))) (jN (A.1,B.1,aZ,((ag 32 0),(0,())),I.2.2.2.2.2.2))) aC) (jN (A.1,B.1,aZ,((ag 32 0),(0,())),I.2.2.2.2.2.2))) aC) (jN (A.1,B.1,aZ,((ag 32 0),(0,())),I.2.2.2.2.2.2))) aC) (jN (A.1,B.1,aZ,((ag 32 0),(0,())),I.2.2.2.2.2.2))) aC) λj=>ao (aA (dB 0 (aa j.1:Int)) (aA (oC (nth Ah j.1 0).1 2) (aA (dB 0 (aa j.1:Int)) (aA (oC (nth Ah j.1 0).2.2.2.1 2) (aA (dB 1 (aa j.1:Int)) (aA (oC (nth Ah j.1 1).1 1) (aA (dB 1 (aa j.1:Int)) (aA (oC (nth Ah j.1 1).2.2.2.1 3) (aA (dB 0 (aa j.2.1:Int)) (aA (oC (nth Ah j.2.1 0).1 3) (aA (dB 0 (aa j.2.1:Int)) (aA (oC (nth Ah j.2.1 0).2.2.2.1 3) (ao (Dr.call (j.2.2.2.1,j.2.2.2.2)) λbkq=>aA (bkq.2) (ao (Dr.call (((ag 32 0),(1,())),bkq.1)) λbmV=>im (j.2.2.1,(!bmV.2),j.2.2.2.1,bmV.1)) (im (j.2.2.1,aZ,j.2.2.2.1,bkq.1))) (im (j.2.2.1,aZ,j.2.2.2.1,j.2.2.2.2))) aC) (im (j.2.2.1,aZ,j.2.2.2.1,j.2.2.2.2))) aC) (im (j.2.2.1,aZ,j.2.2.2.1,j.2.2.2.2))) aC) (im (j.2.2.1,aZ,j.2.2.2.1,j.2.2.2.2))) aC) (im (j.2.2.1,aZ,j.2.2.2.1,j.2.2.2.2))) aC) (im (j.2.2.1,aZ,j.2.2.2.1,j.2.2.2.2))) aC) λO=>ao (wall.call O.2.2.2) λbcS=>ao (adb.call (O.2.2.1,bcS.2.1)) λbpG=>ao (LU.call (O.2.2.1,bpG)) λbmW=>aA (O.1) (aA (O.2.1) (aA (oC ((bcS.1:Nat):Int) 2) (aA (dB 0 ((bcS.1:Nat):Int)) (aA (decide (0 < (aa bcS.2.2))) (aA (Ty.beq bK (nth bK bcS.2.2 0) O.2.2.1) (aA (!bmW.2.2.2) (ao (wall.call bmW.1) λbpH=>k (kT.out (oC ((bpH.1:Nat):Int) 1))) (k (kT.out aZ))) (k (kT.out aZ))) aC) aC) (k (kT.out aZ))) (k (kT.out aZ))) (k (kT.out aZ)))))))):=bS
def o0:bO:=(aki,((0:Int),()))
def o1:bO:=(aki,((1:Int),()))
def Zf(d:Int)(l:List di)(dep:Int):Uu:=(d,(l,(dep,(o0,()))))
def LV(x:kM):Wm:=[(o1,yt),(o0,x)]
def bjQ{k:Int}:CV (aki,(k,())):=⟨cT,λx j=>by grind [aki]⟩
def bqE:¬o0=o1:=λh=>absurd (bA (λo=>o.2.1) h:(0:Int)=1) fm
def bqF:¬o1=o0:=λh=>bqE h.symm
theorem bkF:Ty.beq bK o0 o1=aZ:=by
 cases h:Ty.beq bK o0 o1 with
 |false=>rfl
 |true=>exact absurd ((pc _ _).1 h) bqE
def aO7:Ty.beq bK o1 o0=aZ:=by
 cases h:Ty.beq bK o1 o0 with
 |false=>rfl
 |true=>exact absurd ((pc _ _).1 h) bqF
theorem bkE:Ty.beq bK o0 o0=bn:=(pc _ _).2 rfl
theorem aBb:Ty.beq bK o1 o1=bn:=(pc _ _).2 rfl
theorem bn6(x:kM):bT bK o0 (LV x)=aw x:=by grind [LV,fU,bkF,bkE]
theorem bp1(x:kM):bT bK o1 (LV x)=aw yt:=by grind [LV,fU,aBb]
theorem bse(x y:kM):fi bK o0 y (LV x)=LV y:=by unfold LV;rw[sP,au (by rw[bkF];decide),sP,av bkE]
theorem bsf(x:kM):fi bK o1 yt (LV x)=LV x:=by unfold LV;rw[sP,av aBb]
def blj:Am o1 o0=1:=by rw[rO (a:=o1) (b:=o0) bjQ bjQ];decide+kernel
theorem bmT(x:kM):j4 (LV x)=[o0,o1]:=by
 have j:∀y∈([o1,o0]:List bO),CV y:=λy hy=>by
  rcases cr.1 hy with rfl | hy
  .exact bjQ
  .rw[bM.1 hy];exact bjQ
 refine(NN yQ j (λx u y hy a b=>AE (j x u) (j y hy) a b) ⟨List.Perm.swap o1 o0 [],?_⟩).symm;refine gQ.2 ⟨λy hy=> ?_,List.pairwise_singleton _ _⟩;rw[bM.1 hy,blj];decide
def bkY{x:kM}(h:aAS x):WG (LV x):=⟨by show 2<=_;decide,db.2 ⟨λh=>bqF (bM.1 h),db.2 ⟨λh=>(by cases h),gO⟩⟩,λp hp=>by
 rcases cr.1 hp with rfl | hp
 .exact⟨bjQ,aiU⟩
 .rw[bM.1 hp];exact⟨bjQ,h⟩⟩
theorem aDo{H:Int}{l:List cP}{o:bO}(h:Hx o l 0=aC):iB H l o yt=(yt,[]):=by grind [tC,KR,yt,Dz,Uf,aeu,iB]
def aYL{nb:Nat}{bs:List cP}(x:kM)(j:Hx o1 (bs.take nb) 0=aC):gM nb bs (LV x)=(LV (iB nb (bs.take nb) o0 x).1,(iB nb (bs.take nb) o0 x).2):=by grind [lM,bn6,lookW,iB,bse,gM,bmT,bp1,aDo,bsf]
def bkk:akm []:=⟨az _,λt j=>(by cases j)⟩
def bmN{K:Int}(j:KW K):akm [UW K]:=⟨by show 1<=_;decide,λt u=>by
 rw[bM.1 u];exact⟨(FM j).2.1,fa (iW (FM j).1).1.2.1 fm⟩⟩
section
variable {A0:At} {b nb n:Nat} {a:At} {s:List cF} {bs:List cP}
def aCl(h:tA A0 b nb n a s bs)(A:b<=400)(B:nb<=900)(u:Hx o1 (bs.take nb) 0=aC){x:kM}(I:aAS x):
  fg (Zf 7 [] 0,nb,n,a,s,bs,LV x)=aw (.inl ((iB nb (bs.take nb) o0 x).2,nb,n,a,s,bs,LV (iB nb (bs.take nb) o0 x).1)):=by
 have j:jC (Zf 7 [] 0)=7:=by unfold jC Zf;decide
 rw[Mx (d:=(Zf 7 [] 0,nb,n,a,s,bs,LV x)) ⟨⟨A0,b,h,A⟩,B,bkk,bkY I⟩];simp only[kH,j,aLm,aYL x u];rfl
def biJ(h:tA A0 b nb n a s bs){l:List di}(B:akm l)(A:b+aa l<=400)(J:nb<=900){m:Wm}(I:WG m){r:Int×Nat×Nat×At×List cF×List cP}(K:lX (Fv ((nb:Int)+1) (oz nb bs) l 0) nb (n,a,s) bs=r):
  fg (Zf 0 l 0,nb,n,a,s,bs,m)=aw (.inl ([],r.2.1,r.2.2.1,r.2.2.2.1,r.2.2.2.2.1,r.2.2.2.2.2,m)):=by
 have j:jC (Zf 0 l 0)=0:=by show cE .and .i64 0 7=0;decide
 have u:nth dS (Cm (Zf 0 l 0) nb bs) 0=Fv ((nb:Int)+1) (oz nb bs) l 0:=by unfold Cm;rw[av (by rw[j];decide)];rfl
 rw[Mx (d:=(Zf 0 l 0,nb,n,a,s,bs,m)) ⟨⟨A0,b,h,A⟩,J,B,I⟩];simp only[kH,j,u,K];rfl
def bii(h:tA A0 b nb n a s bs){c:cP}(L:Pg c)(T:nb<=1000){A I:Nat}{B:At}{J:List cF}{u:List cP}(e:lX c nb (n,a,s) bs=(0,A,I,B,J,u)){m':Nat}(O:b+aa c.2.2.1<=m'):tA A0 m' A I B J u:=by
 rcases h.add L O T with⟨e',M,j⟩ | ⟨n2,a2,s2,j,K,_,_⟩
 .rw[e]at j;exact absurd (bA (λz=>z.1) j).symm M
 .rw[e]at j;simp only[kX]at j;obtain⟨_,rfl,rfl,rfl,rfl,rfl⟩:=j;exact K
end
def yq:cP:=Fv 1 aki [] 0
def Zn(K:Int)(j:Bs):cP:=Fv 2 j [UW K] 0
def Tz(j:Bs):cP:=Fv 2 j [] 0
def aac(K:Int)(j:Bs):cP:=Fv 3 j [UW K] 0
theorem aVs{K:Int}(u:KW K)(j:Bs):FP 1 2 1 (BW K 2) [sW K] [yq,Zn K j]=(1,0,AW K 0 0,[sW K],[yq,Zn K j]):=by have A:jJ (BW K 2)=BW K 2:=blh;have B:=bsh u 0 0 2;have e:Ky [yq,Zn K j] 1 (2,1,BW K 2,[sW K])=(1,0,yn (BW K 2) (sW K),[sW K]):=rfl;grind [FP,sW]
def bpo{K:Int}(A:KW K)(jV:¬mw (TW K)=aki){j u:Bs}(hP:aHo yq=j)(hQ:aHo (Tz j)=u)(h:tA (AW K 0 0) 1 2 1 (BW K 2) [sW K] [yq,Zn K j]):
  jS (1,[Tz j,aac K u],2,1,BW K 2,[sW K],[yq,Zn K j])=aw (.inr (0,3,1,BW K 2,[sW K],[yq,Zn K j],1,BW K 3,[sW K],[yq,Tz j,aac K u]))/\tA (AW K 0 0) 2 3 1 (BW K 3) [sW K] [yq,Tz j,aac K u]:=by
 have J:j.length=32:=by grind [HI]
 have L:u.length=32:=by grind [HI]
 have O:Pg (Tz j):=bn3 fm J bc2;have v3:Pg (aac K u):=bqR A fm L bc2;have e1:lX (Tz j) 1 (0,AW K 0 0,[sW K]) [yq,Zn K j]=(0,2,0,AW K 0 0,[sW K],[yq,Tz j]):=bdb (h:=2) (p:=j) (fill:=0) (nb:=1) (S:=(0,AW K 0 0,[sW K])) (bs:=[yq,Zn K j]) hP.symm rfl fm J bc2;have e2:lX (aac K u) 2 (0,AW K 0 0,[sW K]) [yq,Tz j]=(0,3,1,BW K 3,[sW K],[yq,Tz j,aac K u]):=bpX A jV (h:=3) (p:=u) (nb:=2) (n:=0) (s:=[sW K]) (bs:=[yq,Tz j]) hQ.symm rfl fm L;have hl:∀b∈ [Tz j,aac K u],Pg b:=λb hb=>by grind
 have hF:ky (1,[Tz j,aac K u],2,1,BW K 2,[sW K],[yq,Zn K j])= .inr (0,3,1,BW K 2,[sW K],[yq,Zn K j],1,BW K 3,[sW K],[yq,Tz j,aac K u]):=by grind [j8,ky,aVs]
 have key:jS (1,[Tz j,aac K u],2,1,BW K 2,[sW K],[yq,Zn K j])=aw (.inr (0,3,1,BW K 2,[sW K],[yq,Zn K j],1,BW K 3,[sW K],[yq,Tz j,aac K u])):=by
  have B:Co (1,[Tz j,aac K u],2,1,BW K 2,[sW K],[yq,Zn K j]):=⟨h.ch,h.bpz fm,by grind,λ_=>by
   rw[aVs A j];have M:=bsa A;refine⟨⟨O,M,kW 1,fm,h.ch.2.2⟩,λ_=> ?_⟩;rw[e1];refine⟨⟨v3,M,bn0 (h.ch.2.2 yq (by simp)) O.1⟩,λ_=>trivial⟩⟩
  rw[agw (d:=(1,[Tz j,aac K u],2,1,BW K 2,[sW K],[yq,Zn K j])) B,hF];rfl
 refine⟨key,?_⟩;rcases h.bh6 1 hl (by show 2<=400;decide) (by grind) with⟨e,_,I⟩ | ⟨n',a',s',T,I,_,h2,_⟩
 .grind
 .rw[key]at I;obtain⟨_,_,_,_,_,_,rfl,rfl,rfl,rfl⟩:=I;exact h2
def ajM(l:List cP):Nat->List cP
 | 0=>l
 |j+1=>ajM l j++ [Fv (((j+3:Nat):Int)+1) (oz (j+3) (ajM l j)) [] 0]
def ajN(l:List cP)(u:aa l=3):∀j,aa (ajM l j)=j+3
 | 0=>by show aa l=0+3;omega
 |j+1=>by show aa (ajM l j++ [_])=_;rw[aj,ajN l u j];show j+3+1=_;omega
def aIq{o:bO}(l:List cP):∀j,Hx o (ajM l j) 0=Hx o l 0
 | 0=>rfl
 |j+1=>by
  show Hx o (ajM l j++ [_]) 0=_;rw[aOz,aIq l j]
  all_goals cases Hx o l 0 <;> rfl
def bn5{u:At}{b n:Nat}{a:At}{s:List cF}{l:List cP}(A:aa l=3)(h:tA u b 3 n a s l):∀j,j<=100->tA u b (j+3) n a s (ajM l j)
 | 0,_=>by rw[aO];exact h
 |j+1,J=>by have I:=bn5 A h j aq;have B:(ajM l j).take (j+3)=ajM l j:=bp (by rw[ajN l A];exact ax _);have e:=bdb (h:=((j+3:Nat):Int)+1) (p:=oz (j+3) (ajM l j)) (fill:=0) (nb:=j+3) (S:=(n,a,s)) (bs:=ajM l j) rfl rfl aq (Hc _ _) bc2;rw[B]at e;have:=bii I (bn3 (h:=((j+3:Nat):Int)+1) (p:=oz (j+3) (ajM l j)) (fill:=0) aq (Hc _ _) bc2) aq e (ax _);rw[show j+3+1=j+1+3 by omega]at this;exact this
def bq0{A:At}{b n:Nat}{a:At}{s:List cF}{l:List cP}(u:aa l=3)(h:tA A b 3 n a s l)(I:b<=400){m:Wm}(K:WG m)(j:Nat)(J:j<=100):
  fg (Zf 0 [] 0,j+3,n,a,s,ajM l j,m)=aw (.inl ([],j+1+3,n,a,s,ajM l (j+1),m)):=by
 have L:=bn5 u h j J;have B:(ajM l j).take (j+3)=ajM l j:=bp (by rw[ajN l u];exact ax _);have e:=bdb (h:=((j+3:Nat):Int)+1) (p:=oz (j+3) (ajM l j)) (fill:=0) (nb:=j+3) (S:=(n,a,s)) (bs:=ajM l j) rfl rfl aq (Hc _ _) bc2;rw[B]at e;rw[biJ L bkk I aq K e,show j+3+1=j+1+3 by omega];rfl
def bmH{K:Int}(j:KW K):acH o0 [UW K]=aw (UW K):=by rw[acH,bnJ j,av];show(Ty.beq bK o0 o0 || _)=bn;rw[bkE];rfl
def bmI{K:Int}(j:KW K):acH o1 [UW K]=aC:=by grind [acH,bnJ,ajJ,o1,pc]
def Pw(K:Int)(h:Int)(f:Bool):kM:=(bn,(UW K,(mw (TW K),(h,(f,())))))
def ap2{K:Int}(j:KW K)(h:Int)(f:Bool):aAS (Pw K h f):=⟨(FM j).2.1,λ_=>(FM j).1⟩
def aYM{K:Int}(M:KW K){l:List cP}{h H:Int}(O:Hx o0 l 0=aw (UW K,h)):
  (H - h<=6->iB H l o0 yt=(Pw K h aZ,[(1,(o0,(UW K,(h,()))))]))/\
  (∀j,j≠h->H - h<=6->iB H l o0 (Pw K j aZ)=(Pw K h aZ,[(2,(o0,(UW K,(j,())))),(1,(o0,(UW K,(h,()))))]))/\
  (6 < H - h->iB H l o0 (Pw K h aZ)=(Pw K h bn,[(3,(o0,(UW K,(h,()))))])):=by
 have L:tC o0 l=(UW K,h,bn):=by unfold tC;rw[O]
 have J:=(FM M).2.2.1;have A:Uf o0 (UW K) h bn (mw (TW K)) yt=(Pw K h aZ,[(1,(o0,(UW K,(h,()))))]):=av rfl;have B:∀x:kM,H - h<=6->aeu o0 (UW K) h bn H x=(x,[]):=λx hx=>au (by rw[bH,ct aq];decide)
 refine⟨λI=> ?_,λj T I=> ?_,λI=> ?_⟩
 .have u:KR o0 yt h bn (mw (TW K))=(yt,[]):=au (show ¬Dz yt h bn _=bn from λh=>(by cases h));unfold iB;rw[au (show ¬yt.2.2.2.2.1=bn from λh=>(by cases h)),L];simp only[J,u,A,B _ I,bm,bf]
 .have u:KR o0 (Pw K j aZ) h bn (mw (TW K))=(yt,[(2,(o0,(UW K,(j,()))))]):=av (by
   unfold Dz;rw[show pb h (Pw K j aZ).2.2.2.1=bn from dj (λe:h=j=>T e.symm)];rfl)
  unfold iB;rw[au (show ¬(Pw K j aZ).2.2.2.2.1=bn from λh=>(by cases h)),L];simp only[J,u,A,B _ I,bm,iP,bf]
 .have u:KR o0 (Pw K h aZ) h bn (mw (TW K))=(Pw K h aZ,[]):=au (by
   unfold Dz;rw[show pb h (Pw K h aZ).2.2.2.1=aZ from bU rfl,show Ty.beq tH (mw (TW K)) (Pw K h aZ).2.2.1=bn by rw[biM];exact fM rfl];show ¬(aZ=bn);decide)
  have A:Uf o0 (UW K) h bn (mw (TW K)) (Pw K h aZ)=(Pw K h aZ,[]):=au (λh=>(by cases h));have B:aeu o0 (UW K) h bn H (Pw K h aZ)=(Pw K h bn,[(3,(o0,(UW K,(h,()))))]):=av (by rw[bH];exact cW aq);unfold iB;rw[au (show ¬(Pw K h aZ).2.2.2.2.1=bn from λh=>(by cases h)),L];simp only[J,u,A,B,bf]
def bgG{x:kM}(j:aAS x)(A:x.1=bn):LU.call (o0,LV x)=aw (LV x,(x.2.1,(x.2.2.2.1,bn))):=by
 have u:lM o0 (LV x)=x:=by unfold lM;rw[bn6];rfl
 rw[af9 (d:=(o0,LV x)) (by show mE (lM o0 (LV x)).2.1;rw[u];exact j.1)];simp only[T9,adm,u,A,bQ,Yx j.1 (j.2 A)]
def aCD(o:bO)(m:Wm):Dr.call (o,m)=aw (m,(lM o m).2.2.2.2.1):=aq2 (d:=(o,m)) trivial
def aLw:kT.Ok:=by
 rintro⟨⟩ _;obtain⟨K,hK,B,jV⟩:∃K:Int,(7:Int)=K/\KW K/\¬mw (TW K)=aki:=⟨7,rfl,⟨fm,fm⟩,br1⟩;obtain⟨u,hP⟩:∃x,aHo yq=x:=⟨_,rfl⟩;obtain⟨I,hQ⟩:∃x,aHo (Tz u)=x:=⟨_,rfl⟩;have l1:u.length=32:=by rw[<-hP];exact HI _
 have l2:I.length=32:=by rw[<-hQ];exact HI _
 have c1:Ou.call 7=aw (fH K):=by rw[hK];exact KZ (d:=K) ⟨by have:=B.1;omega,by have:=B.2;omega⟩
 have c2:aDj.call (fH K)=aw (LW K 0 0):=aYF (d:=fH K) trivial;have c3:=bpd K bhA bhA;have c4:af8.call ()=aw []:=aGN (d:=()) trivial;have c5:Av.call (TW K,0,0,[7],0)=aw (UW K,0):=by rw[hK];exact bmF B
 have c6:Pd.call (o1,[])=aw [(o1,yt)]:=agb (d:=(o1,[])) trivial;have c7:Pd.call (o0,[(o1,yt)])=aw (LV yt):=by
  rw[agb (d:=(o0,[(o1,yt)])) trivial];have e1:bT bK o0 [(o1,yt)]=aC:=by rw[fU,au (by rw[bkF];decide),uh]
  have e2:fi bK o0 yt [(o1,yt)]=LV yt:=by rw[sP,au (by rw[bkF];decide)];rfl
  simp only[bt,aAJ,e1,e2];rfl
 have i0:tA (AW K 0 0) 0 0 0 (AW K 0 0) [] []:=tA.new (bpY K bhA bhA);have a1:lX (Fv (((0:Nat):Int)+1) (oz 0 []) [] 0) 0 (0,AW K 0 0,[]) []=(0,1,0,AW K 0 0,[],[yq]):=bdb (h:=1) (p:=aki) (fill:=0) (nb:=0) (S:=(0,AW K 0 0,[])) (bs:=[]) rfl rfl fm cT bc2;have i1:=bii i0 (bn3 (h:=1) (p:=aki) (fill:=0) fm cT bc2) fm a1 (ax 0);have a2:lX (Fv (((1:Nat):Int)+1) (oz 1 [yq]) [UW K] 0) 1 (0,AW K 0 0,[]) [yq]=(0,2,1,BW K 2,[sW K],[yq,Zn K u]):=by have:=bpX B jV (h:=2) (p:=u) (nb:=1) (n:=0) (s:=[]) (bs:=[yq]) hP.symm rfl fm l1;rw[show oz 1 [yq]=u from hP];exact this
 have i2:=bii i1 (c:=Fv (((1:Nat):Int)+1) (oz 1 [yq]) [UW K] 0) (bqR B fm (Hc _ _) bc2) fm a2 (show 0+1<=1 by decide);obtain⟨r3,i3⟩:=bpo B jV hP hQ i2;have l3:aa ([yq,Tz u,aac K I]:List cP)=3:=rfl;have br6:Hx o0 [yq,Zn K u] 0=aw (UW K,2):=by rw[Hx,show acH o0 yq.2.2.1=aC from rfl,Hx,show acH o0 (Zn K u).2.2.1=aw (UW K) from bmH B];rfl
 have br8:Hx o1 [yq,Zn K u] 0=aC:=by rw[Hx,show acH o1 yq.2.2.1=aC from rfl,Hx,show acH o1 (Zn K u).2.2.1=aC from bmI B];rfl
 have M:Hx o0 [yq,Tz u,aac K I] 0=aw (UW K,3):=by rw[Hx,show acH o0 yq.2.2.1=aC from rfl,Hx,show acH o0 (Tz u).2.2.1=aC from rfl,Hx,show acH o0 (aac K I).2.2.1=aw (UW K) from bmH B];rfl
 have O:Hx o1 [yq,Tz u,aac K I] 0=aC:=by rw[Hx,show acH o1 yq.2.2.1=aC from rfl,Hx,show acH o1 (Tz u).2.2.1=aC from rfl,Hx,show acH o1 (aac K I).2.2.1=aC from bmI B];rfl
 have d9:=aCl i0 fm fm rfl aiU;rw[show iB ((0:Nat):Int) (([]:List cP).take 0) o0 yt=(yt,[]) from aDo rfl]at d9;have d10:=biJ i0 bkk fm fm (bkY aiU) a1;have d11:=biJ i1 (bmN B) (show 0+1<=400 by decide) fm (bkY aiU) a2;have d12:=aCl i2 fm fm br8 aiU;rw[(aYM B (H:=((2:Nat):Int)) (l:=[yq,Zn K u].take 2) br6).1 fm]at d12;have d13:=bgG (ap2 B 2 aZ) rfl;have d14:fg (Zf 3 [UW K] 1,2,1,BW K 2,[sW K],[yq,Zn K u],LV (Pw K 2 aZ))=aw (.inr ([],3,1,BW K 2,[sW K],[yq,Zn K u],LV (Pw K 2 aZ),1,BW K 3,[sW K],[yq,Tz u,aac K I])):=by
  have e7:jC (Zf 3 [UW K] 1)=3:=by show cE .and .i64 3 7=3;decide
  have eb:Cm (Zf 3 [UW K] 1) 2 [yq,Zn K u]=[Tz u,aac K I]:=by unfold Cm;rw[au (by rw[e7];decide),av ⟨by show(1:Int)<=1;decide,by show(1:Int)<=((2:Nat):Int);decide,by show(1:Int)<=8;decide⟩];show [Fv 2 (oz 1 [yq,Zn K u]) [] 0,Fv 3 (aHo (Fv 2 (oz 1 [yq,Zn K u]) [] 0)) [UW K] 0]=_;rw[show oz 1 [yq,Zn K u]=u from hP,show aHo (Fv 2 u [] 0)=I from hQ];rfl
  have er:ajy 1 [Tz u,aac K I] 2 1 (BW K 2) [sW K] [yq,Zn K u]= .inr (0,3,1,BW K 2,[sW K],[yq,Zn K u],1,BW K 3,[sW K],[yq,Tz u,aac K I]):=by unfold ajy;rw[r3];rfl
  rw[Mx (d:=(Zf 3 [UW K] 1,2,1,BW K 2,[sW K],[yq,Zn K u],LV (Pw K 2 aZ))) ⟨⟨AW K 0 0,1,i2,by show 1+1<=400;decide⟩,by show 2<=900;decide,bmN B,bkY (ap2 B 2 aZ)⟩];simp only[kH,e7,eb];rw[show(Zf 3 [UW K] 1).2.2.1=1 from rfl,er];rfl
 have d15:=aCl i3 fm fm O (ap2 B 2 aZ);rw[(aYM B (H:=((3:Nat):Int)) (l:=[yq,Tz u,aac K I].take 3) M).2.1 2 fm fm]at d15;have J:=λj hj=>bq0 l3 i3 fm (bkY (ap2 B 3 aZ)) j hj
 have i10:=bn5 l3 i3 7 fm;have e10:(ajM [yq,Tz u,aac K I] 7).take 10=ajM [yq,Tz u,aac K I] 7:=bp (by rw[ajN _ l3];decide);have br7:Hx o0 ((ajM [yq,Tz u,aac K I] 7).take 10) 0=aw (UW K,3):=by rw[e10,aIq];exact M
 have T:Hx o1 ((ajM [yq,Tz u,aac K I] 7).take 10) 0=aC:=by rw[e10,aIq];exact O
 have d23:=aCl i10 fm fm T (ap2 B 3 aZ);rw[(aYM B (H:=((7+3:Nat):Int)) (l:=(ajM [yq,Tz u,aac K I] 7).take (7+3)) br7).2.2 fm]at d23;have d24:=aCl i10 fm fm T (ap2 B 3 bn);rw[show iB ((7+3:Nat):Int) ((ajM [yq,Tz u,aac K I] 7).take (7+3)) o0 (Pw K 3 bn)=(Pw K 3 bn,[]) from av rfl]at d24;have L:Wj.call (UW K,UW K)=aw bn:=(aT4 (d:=(UW K,UW K)) (Sb (FM B).1)).trans (bA aw (fM rfl));have f0:Dr.call (o0,LV (Pw K 3 bn))=aw (LV (Pw K 3 bn),bn):=by rw[aCD];unfold lM;rw[bn6];rfl
 have f1:Dr.call (o1,LV (Pw K 3 bn))=aw (LV (Pw K 3 bn),aZ):=by rw[aCD];unfold lM;rw[bp1];rfl
 have w1:wall.call (LV (Pw K 3 bn))=aw (2,LV (Pw K 3 bn),[o0,o1]):=by rw[ada (d:=LV (Pw K 3 bn)) ⟨by show 2<=_;decide,λp hp=>((bkY (ap2 B 3 bn)).2.2 p hp).1⟩];simp only[bt,aAw,bmT];rfl
 have w2:adb.call (o0,LV (Pw K 3 bn))=aw [(o1,yt)]:=by
  rw[awl (d:=(o0,LV (Pw K 3 bn))) trivial];have:fV bK o0 (LV (Pw K 3 bn))=[(o1,yt)]:=by unfold LV;rw[wS,au (by rw[bkF];decide),wS,av bkE]
  simp only[bt,aOQ,this]
 have w3:∃y,LU.call (o0,[(o1,yt)])=aw ([(o1,yt)],y)/\y.2.2=aZ:=by
  have e1:bT bK o0 [(o1,yt)]=aC:=by rw[fU,au (by rw[bkF];decide),uh]
  have g0:lM o0 [(o1,yt)]=yt:=by unfold lM;rw[e1];rfl
  refine⟨_,af9 (d:=(o0,[(o1,yt)])) (by show mE (lM o0 [(o1,yt)]).2.1;rw[g0];exact v0),?_⟩;simp only[adm,g0];rfl
 obtain⟨y3,w3,y3f⟩:=w3;have w4:∃l,wall.call [(o1,yt)]=aw (1,[(o1,yt)],l):=⟨_,ada (d:=[(o1,yt)]) ⟨by show 1<=_;decide,λp hp=>by rw[bM.1 hp];exact bjQ⟩⟩;obtain⟨l4,w4⟩:=w4;rw[aLv];refine(bA (λz=>ao z _) c1).trans ?_
 rw[ah];refine(bA (λz=>ao z _) c2).trans ?_
 rw[ah];refine(bA (λz=>ao z _) c3).trans ?_
 rw[ah];simp only[dh,al,cJ,ah];refine(bA (λz=>ao z _) (c4)).trans ?_
 rw[ah];refine(bA (λz=>ao z _) (c5)).trans ?_
 rw[ah];refine(bA (λz=>ao z _) (c6)).trans ?_
 rw[ah];refine(bA (λz=>ao z _) (c7)).trans ?_
 rw[ah];refine(bA (λz=>ao (kI dv z) _) (d9)).trans ?_
 rw[rP,ah];refine(bA (λz=>ao (kI dv z) _) (d10)).trans ?_
 rw[rP,ah];refine(bA (λz=>ao (kI dv z) _) (d11)).trans ?_
 rw[rP,ah];refine(bA (λz=>ao (kI dv z) _) (d12)).trans ?_
 rw[rP,ah];refine(bA (λz=>ao z _) (d13)).trans ?_
 rw[ah];refine(bA (λz=>ao (kI Sum.getRight? z) _) (d14)).trans ?_
 rw[aNh,ah];refine(bA (λz=>ao (kI dv z) _) (d15)).trans ?_
 rw[rP,ah];refine(bA (λz=>ao (kI dv z) _) (J 0 fm)).trans ?_
 rw[rP,ah];refine(bA (λz=>ao (kI dv z) _) (J 1 fm)).trans ?_
 rw[rP,ah];refine(bA (λz=>ao (kI dv z) _) (J 2 fm)).trans ?_
 rw[rP,ah];refine(bA (λz=>ao (kI dv z) _) (J 3 fm)).trans ?_
 rw[rP,ah];refine(bA (λz=>ao (kI dv z) _) (J 4 fm)).trans ?_
 rw[rP,ah];refine(bA (λz=>ao (kI dv z) _) (J 5 fm)).trans ?_
 rw[rP,ah];refine(bA (λz=>ao (kI dv z) _) (J 6 fm)).trans ?_
 rw[rP,ah];refine(bA (λz=>ao (kI dv z) _) (d23)).trans ?_
 rw[rP,ah];refine(bA (λz=>ao (kI dv z) _) (d24)).trans ?_
 rw[rP,ah];have A:∀ {α:Type} {c:Bool} {x y z:Option α},c=bn->x=z->aA c x y=z:=λh1 h2=>by rw[h1];exact h2
 have sf:∀ {α:Type} {c:Bool} {x y z:Option α},c=aZ->y=z->aA c x y=z:=λh1 h2=>by rw[h1];exact h2
 refine sf (bU rfl) (sf (bU rfl) (sf (bU rfl) (sf (bU rfl) (sf (bU rfl) ?_))));refine(bA (λz=>ao z _) (?_:_=aw (([(2,(o0,(UW K,(2,())))),(1,(o0,(UW K,(3,()))))],[(3,(o0,(UW K,(3,()))))],bn,o0,LV (Pw K 3 bn)):tm))).trans ?_
 .refine A rfl (A (dC rfl) (A rfl (A (dC rfl) (A rfl (A bkE (A rfl ?_))))));refine(bA (λz=>ao z _) L).trans ?_
  rw[ah];refine A rfl (A rfl ?_);exact(Up _).trans rfl
 rw[ah];refine(bA (λz=>ao z _) (?_:_=aw ((bn,bn,o0,LV (Pw K 3 bn)):tn))).trans ?_
 .refine A rfl (A (dC rfl) (A rfl (A (dC rfl) (A rfl (A (dC rfl) (A rfl (A (dC rfl) (A rfl (A (dC rfl) (A rfl (A (dC rfl) ?_)))))))))));refine(bA (λz=>ao z _) f0).trans ?_
  rw[ah];refine A rfl ?_
  refine(bA (λz=>ao z _) f1).trans ?_
  rw[ah];exact(Uq _).trans rfl
 rw[ah];refine(bA (λz=>ao z _) (w1)).trans ?_
 rw[ah];refine(bA (λz=>ao z _) (w2)).trans ?_
 rw[ah];refine(bA (λz=>ao z _) (w3)).trans ?_
 rw[ah];refine A rfl (A rfl (A (dC rfl) (A rfl (A rfl (A bkE (A (by show(!y3.2.2)=bn;rw[y3f];rfl) ?_))))));refine(bA (λz=>ao z _) (w4)).trans ?_
 rw[ah];exact bA (λz=>aw (kT.out z)) (dC rfl)
def aF1:kT.RS:=rE [] kT
def aLx:=kT.eQ aLw 1 ⟨.none bS,trivial⟩
end
abbrev qM:Ty:=(.pair bK (.pair .bool (.pair eU (.pair ti (.pair .bool .unit)))))
abbrev mS:=(bO×(Bool×(di×(Int×(Bool×Unit)))))
def afU(x:mS):kM:=(x.2.1,(x.2.2.1,(mw x.2.2.1,(x.2.2.2.1,(x.2.2.2.2.1,())))))
def X5(o:bO)(c:kM):mS:=(o,(c.1,(c.2.1,(c.2.2.2.1,(c.2.2.2.2.1,())))))
def gH:List mS->bO->Int->Int
 |[],_,_=> -1
 |e::l,o,i=>if Ty.beq bK e.1 o=bn then i else gH l o (i+1)
def K0:∀(l:List mS) (o:bO) (i:Int),0<=i->(gH l o i= -1/\∀x∈l,¬x.1=o)\/∃(k:Nat) (h:k < aa l),gH l o i=i+k/\l[k].1=o
 |[],o,i,_=> .inl ⟨rfl,λx I=>(by cases I)⟩
 |e::l,o,i,hi=>by
  rw[gH];by_cases u:Ty.beq bK e.1 o=bn
  .rw[av u];exact .inr ⟨0,Nat.zero_lt_succ _,(tE i).symm,(pc _ _).1 u⟩
  .rcases K0 l o (i+1) aq with⟨A,j⟩ | ⟨k,B,A,j⟩
   .grind [pc]
   .exact .inr ⟨k+1,Nat.succ_lt_succ B,by grind,j⟩
def aIM(l:List mS)(o:bO):List mS:=l.take (aa (l.takeWhile λx=>DS x.1 o))++X5 o yt::l.drop (aa (l.takeWhile λx=>DS x.1 o))
def aCo(l:List mS)(k:Nat):List mS:=l.take k++l.drop (k+1)
def aUm:Unit->Prop:=λ_=>True
def aOO:Unit->Unit:=λ_=>()
def aiM:Fs prog aUm bt aOO:=eP 8 f8 (λ_=>([],[])) (λx=>⟨gB 0 0 0 0,[],[.obj 0 aZ (.pr (.fR) (.d .unit ()))]⟩) [] [] {cd:=[2]}
def bcp:aiM.Ok:=by rintro d _;rfl
def aUn:aiM.RS:=rE [] aiM
def bcq:=aiM.eQ bcp
abbrev Ad:=bO×Int×Nat×(List mS)
def QR(j u):=([fp (C7 1 0 0 0 j),fp (.vec 112 qM u)]:List dR)
def rB:Ad->AS:=λ(u,i,j,A)=>⟨([dK,bB,bB,DE u,bB,aU i]++aP 20 []),(QR j A),(ag 26 [])⟩
abbrev Wx:=(Nat×(List mS))×(Int)
def Af:Wx->Exit×AS:=λx=>(.ret,⟨(aP 4 ([aU x.2]++aP 21 [])),(QR x.1.1 x.1.2),(ag 26 [])⟩)
abbrev Wy:=Nat×(List mS)
def Ag:Wy->Exit×AS:=λx=>(.exit 0,⟨(aP 26 []),(QR x.1 x.2),(ag 26 [])⟩)
abbrev N4:=(Wx)⊕(Wy)
abbrev ac7:=(Int)⊕(Unit)
def Hi:N4->Out (Exit×AS):=λx=> .br x.isLeft (.get x.getLeft? λa=> .ok (Af a)) (.get x.getRight? λb=> .ok (Ag b))
def mz:Ad->ac7->N4:=λ(A,i,j,u) y=>match y with | .inl y=> .inl ((j,u),y) | .inr z=> .inr ((j,u))
abbrev awj:=bO×Nat×(List mS)
def akl(n:Nat)(l:List mS):Prop:=aa l=n/\n<=1000000
def Ae:Ad->Prop:=λ(_,i,n,l)=>akl n l/\∃k:Nat,k<=n/\i=k
def kV:Ad->ac7:=λ(o,i,_,l)=>if gH (l.drop i.toNat) o i= -1 then .inr () else .inl (gH (l.drop i.toNat) o i)
def aGB:awj->Prop:=λ(_,n,l)=>akl n l
def FD:awj->(Int×Nat×(List mS)):=λ(o,n,l)=>(gH l o 0,n,l)
def ac5:=cQ.eg rB Ae mz kV Hi
def O9:Ad->Option N4:=eN ac5 rB
def qK:Fs prog aGB bt FD:=eP 43 f43 (λ(o,j,o1)=>([.ptr (.dx 0) 0 [] 0,.d bK o],[.obj 0 aZ (.pr (.dq (.dx 1) 0 [] 0 0 j) (.d .unit ())),.obj 0 aZ (.vec 112 qM o1)])) (λx=>⟨.d ti x.1,[.obj 0 aZ (.pr (.dq (.dx 1) 0 [] 0 0 x.2.1) (.d .unit ())),.obj 0 aZ (.vec 112 qM x.2.2)],[]⟩) [aC,aw bK] [] {loops:=ko [(2,{aX:=[0,3,5]})],outs:=km [(2,{},{aX:=[4]})],eT:=jW [(2,ac5)]}
def ac6:= @dm prog (gU qK.G) qK.an 0 f43 0 _ rB
abbrev Ww:=gr prog (gU qK.G) qK.an 0 f43 0 rB Ae mz kV Hi
def aqU:fC O9 Ae mz kV:=ia (fy [.d bK,.d ti,.n,.d (.slice qM)] λ_=>bS)
def Ur:iX @ac6 rB Ae mz kV Hi Ww:=ji
def Dq(A i j u)(I:K2 R)(B:K3 R):ac6 (A,i,j,u) I B=aA (fj i ((j:Nat):Int)) (aA (dB i ((j:Nat):Int)) (aA (decide ((0+(ae i)) < (aa u))) (aA (decide ((((0+(ae i))*39)+0)=((0+((ae i)*39))+0))) (aA (Ty.beq bK (nth qM u (0+(ae i))).1 A) (B (Af ((j,u),i)).1 (Af ((j,u),i)).2) (I (rB (A,(bC .i64 i (1:Int)),j,u)))) aC) aC) aC) (B (Ag (j,u)).1 (Ag (j,u)).2):=bS
def aMc(o j o1)(k:K1 R):qK.A (o,j,o1) k=ao (O9 (o,0,j,o1)) λA=>aA A.isLeft (ao A.getLeft? λu=>k (qK.out (u.2,u.1.1,u.1.2))) (ao A.getRight? λB=>k (qK.out ((-1),B.1,B.2))):=bS
def as5:Ww:=by
 refine Ur (λ(_,i,n,_)=>n - i.toNat) ?_
 rintro⟨o,i,n,l⟩ ⟨⟨rfl,j⟩,k,A,rfl⟩;have j:aa l<=1000000:=j;have A:k<=aa l:=A;by_cases h:k < aa l
 .have n1:nth qM l k=l[k]:=bG (t:=qM) h;have J:l.drop k=l[k]::l.drop (k+1):=ak h;have u:kV (o,(k:Int),aa l,l)=if gH (l[k]::l.drop (k+1)) o k= -1 then .inr () else .inl (gH (l[k]::l.drop (k+1)) o k):=by simp only[kV,ab,J]
  cases e:Ty.beq bK l[k].1 o with
  |true=>
   right;refine⟨Af ((aa l,l),(k:Int)),?_,λB I=> ?_⟩;rotate_left
   .rw[Dq,aN aq,ai,aS aq aq,ai];simp only[ab,aO,bY,aK h,ai,bE,n1,e]
   .rw[u,gH,av e,au aq];rfl
  |false=>
   left;refine⟨(o,((k+1:Nat):Int),aa l,l),⟨⟨rfl,j⟩,k+1,h,rfl⟩,by simp only[ab];omega,?_,λB I=> ?_⟩
   .rw[u,show gH (l[k]::l.drop (k+1)) o k=gH (l.drop (k+1)) o ((k:Int)+1) from au (by rw[e];decide)];simp only[mz,kV,ab];rw[show((k+1:Nat):Int)=(k:Int)+1 by omega]
   .rw[Dq,aN aq,ai,aS aq aq,ai];simp only[ab,aO,bY,aK h,ai,bE,n1,e,al];rw[N.iY aq]
 .right;obtain rfl:k=aa l:=aq;refine⟨Ag (aa l,l),?_,λB I=> ?_⟩;rotate_left
  .rw[Dq,aL aq,al]
  .simp only[mz,kV,ab,ay];rfl
def aMd:qK.Ok:=by
 rintro⟨o,n,l⟩ j;rw[aMc,aqU (d:=(o,0,n,l)) ⟨j,0,az _,rfl⟩];simp only[ah,mz,kV,aW,aH,FD];by_cases h:gH l o 0= -1
 .rw[av h,h];rfl
 .rw[au h];rfl
def Jd:qK.RS:=rE [.d bK,.n,.d (.slice qM)] qK
def N5:=qK.eQ aMd 1 ⟨.eg as5,trivial⟩
abbrev CS:=bO×Int×Nat×(List mS)
def uS:CS->AS:=λ(u,B,j,A)=>⟨([dK,bB,bB,DE u,aU B]++aP 49 []),(QR j A),(ag 54 [])⟩
abbrev ac9:=(bO×Nat×(List mS))×(Int)
def rC:ac9->Exit×AS:=λ((a,b,c),e)=>(.exit 0,⟨([dK,bB,bB,DE a,aU e]++aP 49 []),(QR b c),(ag 54 [])⟩)
abbrev S6:=ac9
def Wz:S6->Out (Exit×AS):=λx=> .ok (rC x)
def lH:CS->Int->S6:=λ(u,B,j,A) y=>((u,j,A),y)
abbrev S4:=bO×Nat×(List mS)
def af3:S4->SA:=λ(o,j,o1)=>([dK,xJ o],(QR j o1))
abbrev aGF:=(Nat×(List mS))⊕(Nat×(List mS)×(List mS))
abbrev aqX:=(Nat×(List mS))⊕(Nat×(List mS)×(List mS))
def N6:aqX->hZ:=λx=>match x with | .inl x=>⟨.nil,(QR x.1 x.2),[]⟩ | .inr x=>⟨.nil,[fp (CA 0 0 2 0 0 x.1),fp (.vec 112 qM x.2.1)],[.obj 2 aZ (.vec 112 qM x.2.2)]⟩
def Y3:S4->aGF->aqX:=λ(o,j,o1) y=>match y with | .inl y=> .inl y | .inr y=> .inr y
def Ca:CS->Prop:=λ(o,i,n,l)=>akl n l/\(aa o.1=32/\∀x∈l,aa x.1.1=32)/\∃k:Nat,k<=n/\i=k
def pL:CS->Int:=λ(o,i,_,l)=>i+(aa ((l.drop i.toNat).takeWhile λx=>DS x.1 o):Int)
def Y2:S4->Prop:=λ(o,n,l)=>akl n l/\n<=1000/\aa o.1=32/\∀x∈l,aa x.1.1=32
def S5:S4->aGF:=λ(o,n,l)=>if gH l o 0= -1 then .inr (aa (aIM l o),l,aIM l o) else .inl (n,l)
def aqW:qN:=gU (P:=prog) [N5,aOf]
def aiN:=cQ.eg uS Ca lH pL Wz
def S7:CS->Option S6:=eN aiN uS
def af2:yu:= {cd:=[33,42],loops:=ko [(3,{aX:=[0,3,4]})],outs:=km [(3,{aX:=[0,3,4]},{})],eT:=jW [(3,aiN)]}
def aGD:= @FI prog aqW af2 0 f13 _ af3
abbrev aUr:=WS @aGD Y2 Y3 S5 N6
def aiO:= @dm prog aqW af2 0 f13 0 _ uS
abbrev ac8:=gr prog aqW af2 0 f13 0 uS Ca lH pL Wz
def as6:fC S7 Ca lH pL:=ia (fy [.d bK,.d ti,.n,.d (.slice qM)] λ_=>bS)
def Y1:aiV @aiO uS Ca lH pL rC ac8:=ark
def Hj(B u j A)(J:K2 R)(I:K3 R):aiO (B,u,j,A) J I=aA (fj u ((j:Nat):Int)) (aA (dB u ((j:Nat):Int)) (aA (decide ((0+(ae u)) < (aa A))) (aA (decide ((((0+(ae u))*39)+0)=((0+((ae u)*39))+0))) (ao (abK.call ((nth qM A (0+(ae u))).1,B)) λK=>aA (K) (J (uS (B,(bC .i64 u (1:Int)),j,A))) (I (rC ((B,j,A),u)).1 (rC ((B,j,A),u)).2)) aC) aC) aC) (I (rC ((B,j,A),u)).1 (rC ((B,j,A),u)).2):=bS
def aUs(o u o1)(k:K1 R):aGD (o,u,o1) k=ao (qK.call (o,u,o1)) λA=>aA (DA A.1 (0:Int)) (k (N6 (.inl (A.2.1,A.2.2)))) (ao (S7 (o,(0:Int),A.2.1,A.2.2)) λj=>aA (inc j.2 ((j.1.2.1:Nat):Int)) (aA (decide ((0+((0+(ae j.2))*39))=(0+((ae j.2)*39))/\((0+(ae j.2))+(j.1.2.1 - (ae j.2)))<=(aa j.1.2.2))) (aA (cM (1+(aa (cut j.1.2.2 (0+(ae j.2)) (j.1.2.1 - (ae j.2))))) 120) (aA (inc j.2 ((j.1.2.1:Nat):Int)) (aA (decide (0=0/\(0+((ae j.2) - 0))<=(aa j.1.2.2))) (aA (cM (0+(aa (cut j.1.2.2 0 ((ae j.2) - 0)))) 120) (aA (decide (0=0/\(0+(1+(aa (cut j.1.2.2 (0+(ae j.2)) (j.1.2.1 - (ae j.2))))))<=(aa ([(j.1.1,(aZ,((([]:List gb),(([]:List dW),((0:Int),()))),((0:Int),(aZ,())))))]++(cut j.1.2.2 (0+(ae j.2)) (j.1.2.1 - (ae j.2))))))) (aA (decide ((0+(aa (cut j.1.2.2 0 ((ae j.2) - 0))))<=(aa ((aJ 0 (ag 0 (((ag 32 (0:Int)),((0:Int),())),(aZ,((([]:List gb),(([]:List dW),((0:Int),()))),((0:Int),(aZ,())))))))++(cut j.1.2.2 0 ((ae j.2) - 0)))))) (aA (cM ((0+(aa (cut j.1.2.2 0 ((ae j.2) - 0))))+(aa (cut ([(j.1.1,(aZ,((([]:List gb),(([]:List dW),((0:Int),()))),((0:Int),(aZ,())))))]++(cut j.1.2.2 (0+(ae j.2)) (j.1.2.1 - (ae j.2)))) 0 (1+(aa (cut j.1.2.2 (0+(ae j.2)) (j.1.2.1 - (ae j.2)))))))) 120) (k (N6 (.inr (((0+(aa (cut j.1.2.2 0 ((ae j.2) - 0))))+(aa (cut ([(j.1.1,(aZ,((([]:List gb),(([]:List dW),((0:Int),()))),((0:Int),(aZ,())))))]++(cut j.1.2.2 (0+(ae j.2)) (j.1.2.1 - (ae j.2)))) 0 (1+(aa (cut j.1.2.2 (0+(ae j.2)) (j.1.2.1 - (ae j.2)))))))),j.1.2.2,((aJ (0+(aa (cut j.1.2.2 0 ((ae j.2) - 0)))) ((aJ 0 (ag 0 (((ag 32 (0:Int)),((0:Int),())),(aZ,((([]:List gb),(([]:List dW),((0:Int),()))),((0:Int),(aZ,())))))))++(cut j.1.2.2 0 ((ae j.2) - 0))))++(cut ([(j.1.1,(aZ,((([]:List gb),(([]:List dW),((0:Int),()))),((0:Int),(aZ,())))))]++(cut j.1.2.2 (0+(ae j.2)) (j.1.2.1 - (ae j.2)))) 0 (1+(aa (cut j.1.2.2 (0+(ae j.2)) (j.1.2.1 - (ae j.2))))))))))) aC) aC) aC) aC) aC) aC) aC) aC) aC):=bS
def aAu:ac8:=by
 refine Y1 (λ(_,i,n,_)=>n - i.toNat) ?_
 rintro⟨o,i,n,l⟩ ⟨⟨rfl,j⟩,⟨I,J⟩,k,B,rfl⟩;have j:aa l<=1000000:=j;have B:k<=aa l:=B;by_cases h:k < aa l
 .have n1:nth qM l k=l[k]:=bG (t:=qM) h;have A:l.drop k=l[k]::l.drop (k+1):=ak h;have u:=aE1 (d:=(l[k].1,o)) ⟨J _ (aD h),I⟩;simp only[bt,aKD]at u;cases e:DS l[k].1 o with
  |true=>
   left;refine⟨(o,((k+1:Nat):Int),aa l,l),⟨⟨rfl,j⟩,⟨I,J⟩,k+1,h,rfl⟩,by simp only[ab];omega,?_,λK L=> ?_⟩
   .simp only[lH,pL,ab,A,uY,e,bQ,aB];rw[show(k:Int)+(aa ((l.drop (k+1)).takeWhile λx=>DS x.1 o)+1:Nat)=((k+1:Nat):Int)+aa ((l.drop (k+1)).takeWhile λx=>DS x.1 o) by omega]
   .rw[Hj,aN aq,ai,aS aq aq,ai];simp only[ab,aO,bY,aK h,ai,bE,n1,u,ah,e];rw[N.iY aq]
  |false=>
   right;intro R K L;rw[Hj,aN aq,ai,aS aq aq,ai];simp only[ab,aO,bY,aK h,ai,bE,n1,u,ah,e,al,lH,pL,A,uY,bu,bq,bl];rw[show(k:Int)+((0:Nat):Int)=k by omega]
 .right;obtain rfl:k=aa l:=aq;intro R K L;rw[Hj,aL aq,al];simp only[lH,pL,ab,ay,List.takeWhile_nil,bl];rw[show(aa l:Int)+((0:Nat):Int)=aa l by omega]
def bbU(l:List mS)(o:bO):aa (l.takeWhile λx=>DS x.1 o)<=aa l:=(pT _).length_le
def aUt:aUr:=by
 rintro⟨o,n,l⟩ ⟨⟨rfl,B⟩,hm,T,hx⟩;rw[aUs,Jd (d:=(o,aa l,l)) ⟨rfl,B⟩];simp only[ah,bt,FD,S5];rcases K0 l o 0 (dT 0) with⟨A,_⟩ | ⟨k,hk,A,_⟩
 .rw[A,ed fm,al,av rfl,as6 (d:=(o,0,aa l,l)) ⟨⟨rfl,B⟩,⟨T,hx⟩,0,az _,rfl⟩];have hp:=bbU l o;obtain⟨p,u⟩:∃p,aa (l.takeWhile λx=>DS x.1 o)=p:=⟨_,rfl⟩;simp only[ah,lH,pL,aW,aH,u,aIM,je]at hp ⊢;have L:cut l 0 (p - 0)=l.take p:=rfl;have M:cut l p (aa l - p)=l.drop p:=by grind [cut,dy]
  have J:aa (l.take p)=p:=by grind
  have l2:aa (l.drop p)=aa l - p:=dy;rw[l9 aq aq,ai];simp only[ab,aO,L,M,J,l2,du,bf,cv,aB];obtain⟨z,I⟩:∃z:mS,(o,aZ,(([]:List gb),([]:List dW),(0:Int),()),(0:Int),aZ,())=z:=⟨_,rfl⟩;have K:aa (z::l.drop p)=aa l - p+1:=by grind
  have O:cut (z::l.drop p) 0 (1+(aa l - p))=z::l.drop p:=by grind [cut]
  have j:X5 o yt=z:=I;rw[I,O,K,aK (⟨trivial,aq⟩:True/\p+(aa l - p)<=aa l),ai,cg aq aq,ai,ai,aK (⟨trivial,aq⟩:True/\p - 0<=aa l),ai,cg aq aq,ai,aK (⟨trivial,aq⟩:True/\1+(aa l - p)<=aa l - p+1),ai,aK (ax _),ai,cg aq aq,ai,rV,Nat.min_self,j,aj,J,K];rfl
 .rw[A,fE aq,ai,au aq];rfl
def aGE:=Entry.Ug [aC,aw bK] af3 Y2 Y3 S5 N6
def aiP:S4->Option aqX:=Du aGE af3
def aMg:fC aiP Y2 Y3 S5:=LN (Pp [.d bK,.n,.d (.slice qM)] λ_=>bS)
def aUu:SG prog:=⟨13,jh,aGE,.of (.aOE (.fn 1 bS aUt (iD (.eg aAu bS) trivial))) (by rfl)⟩
abbrev SS:=bO×Nat×(List mS)
def af0:SS->SA:=λ(o,j,o1)=>([dK,xJ o],(QR j o1))
abbrev aGx:=(Nat×(List mS)×(List mS))⊕(Nat×(List mS))
abbrev aqS:=(Nat×(List mS)×(List mS))⊕(Nat×(List mS))
def N3:aqS->hZ:=λx=>match x with | .inl x=>⟨.nil,[fp (CA 0 0 2 0 0 x.1),fp (.vec 112 qM x.2.1)],[.obj 2 aZ (.vec 112 qM x.2.2)]⟩ | .inr x=>⟨.nil,(QR x.1 x.2),[]⟩
def YV:SS->aGx->aqS:=λ(o,j,o1) y=>match y with | .inl y=> .inl y | .inr y=> .inr y
def YU:SS->Prop:=λ(_,n,l)=>akl n l/\n<=2000
def SU:SS->aGx:=λ(o,n,l)=>if gH l o 0= -1 then .inr (n,l) else .inl (aa (aCo l (gH l o 0).toNat),l,aCo l (gH l o 0).toNat)
def bco:qN:=gU (P:=prog) [N5]
def aUf:yu:= {cd:=[11]}
def aGv:= @FI prog bco aUf 0 f14 _ af0
abbrev aUe:=WS @aGv YU YV SU N3
def aUg(o u o1)(k:K1 R):aGv (o,u,o1) k=ao (qK.call (o,u,o1)) λj=>aA (DA j.1 (0:Int)) (aA (inc j.1 ((j.2.1:Nat):Int)) (aA (decide (0=0/\(0+((ae j.1) - 0))<=(aa j.2.2))) (aA (cM (0+(aa (cut j.2.2 0 ((ae j.1) - 0)))) 120) (aA (inc (bC .i64 j.1 (1:Int)) ((j.2.1:Nat):Int)) (aA (decide ((0+((0+(ae (bC .i64 j.1 (1:Int))))*39))=(0+((ae (bC .i64 j.1 (1:Int)))*39))/\((0+(ae (bC .i64 j.1 (1:Int))))+(j.2.1 - (ae (bC .i64 j.1 (1:Int)))))<=(aa j.2.2))) (aA (decide ((0+(aa (cut j.2.2 0 ((ae j.1) - 0))))<=(aa ((aJ 0 (ag 0 (((ag 32 (0:Int)),((0:Int),())),(aZ,((([]:List gb),(([]:List dW),((0:Int),()))),((0:Int),(aZ,())))))))++(cut j.2.2 0 ((ae j.1) - 0)))))) (aA (cM ((0+(aa (cut j.2.2 0 ((ae j.1) - 0))))+(aa (cut j.2.2 (0+(ae (bC .i64 j.1 (1:Int)))) (j.2.1 - (ae (bC .i64 j.1 (1:Int))))))) 120) (k (N3 (.inl (((0+(aa (cut j.2.2 0 ((ae j.1) - 0))))+(aa (cut j.2.2 (0+(ae (bC .i64 j.1 (1:Int)))) (j.2.1 - (ae (bC .i64 j.1 (1:Int))))))),j.2.2,((aJ (0+(aa (cut j.2.2 0 ((ae j.1) - 0)))) ((aJ 0 (ag 0 (((ag 32 (0:Int)),((0:Int),())),(aZ,((([]:List gb),(([]:List dW),((0:Int),()))),((0:Int),(aZ,())))))))++(cut j.2.2 0 ((ae j.1) - 0))))++(cut j.2.2 (0+(ae (bC .i64 j.1 (1:Int)))) (j.2.1 - (ae (bC .i64 j.1 (1:Int)))))))))) aC) aC) aC) aC) aC) aC) aC) (k (N3 (.inr (j.2.1,j.2.2)))):=bS
def aUh:aUe:=by
 rintro⟨o,n,l⟩ ⟨⟨rfl,K⟩,u⟩;have u:aa l<=2000:=u;rw[aUg,Jd (d:=(o,aa l,l)) ⟨rfl,K⟩];simp only[ah,bt,FD,SU];rcases K0 l o 0 (dT 0) with⟨j,_⟩ | ⟨k,L,j,_⟩
 .rw[j,ed fm,al,av rfl];rfl
 .rw[je]at j;have I:cut l 0 (k - 0)=l.take k:=rfl;have J:cut l (k+1) (aa l - (k+1))=l.drop (k+1):=by unfold cut;rw[bp (by rw[dy];omega)]
  have A:aa (l.take k)=k:=by rw[bw];omega
  have B:aa (l.drop (k+1))=aa l - (k+1):=dy;have lt:aa (aCo l k)=k+(aa l - (k+1)):=by unfold aCo;rw[aj,A,B]
  rw[j,fE aq,ai,au aq,N.iY aq,l9 aq aq,ai];simp only[ab,aO,I,J,A,B,du,bf,lt];rw[aK (⟨trivial,aq⟩:True/\k - 0<=aa l),ai,cg aq aq,ai,l9 aq aq,ai,aK (⟨trivial,aq⟩:True/\k+1+(aa l - (k+1))<=aa l),ai,aK (ax _),ai,cg aq aq,ai,rV,Nat.min_self];rfl
def aGw:=Entry.Ug [aC,aw bK] af0 YU YV SU N3
def aiK:SS->Option aqS:=Du aGw af0
def aL6:fC aiK YU YV SU:=LN (Pp [.d bK,.n,.d (.slice qM)] λ_=>bS)
def aUi:SG prog:=⟨14,jh,aGw,.of (.aOE (.fn 0 bS aUh trivial)) (by rfl)⟩
abbrev YT:=Nat×Int×Nat×(List mS)×(List bO)
abbrev aqR:=Nat×(List bO)
def Fm:YT->aqR->((Nat×(List mS))×(Nat×(List bO))):=λ(u,i,j,A,B) y=>((j,A),y)
abbrev aON:=Nat×(List mS)
def aAr:YT->Prop:=λ(L,i,n,l,r)=>akl n l/\L=aa r/\∃k:Nat,k<=n/\i=k/\aa r=k
def N0:YT->aqR:=λ(_,i,_,l,r)=>(aa (r++(l.drop i.toNat).map (·.1)),r++(l.drop i.toNat).map (·.1))
def aUc:aON->Prop:=λ(n,l)=>akl n l
def aAq:aON->((List bO)×Nat×(List mS)):=λ(n,l)=>(l.map (·.1),n,l)
def Ac:Ls aAr Fm N0:=rI (λ(j,i,A,B,u)=>⟨([dK,bB,bB,uJ 24 j,aU i]++aP 21 []),(QR A B),(bz 24 [dp (K5 u),[]])⟩) (λx=>(.exit 0,⟨([bB,bB,bB,uJ 24 x.2.1]++aP 22 []),(QR x.1.1 x.1.2),(bz 24 [dp (K5 x.2.2),[]])⟩))
def Wo:Fs prog aUc bt aAq:=eP 23 f23 (λ(j,o1)=>([.ptr (.dx 0) 0 [] 0],[.obj 0 aZ (.pr (.dq (.dx 1) 0 [] 0 0 j) (.d .unit ())),.obj 0 aZ (.vec 112 qM o1)])) (λx=>⟨.d (.slice bK) x.1,[.obj 0 aZ (.pr (.dq (.dx 1) 0 [] 0 0 x.2.1) (.d .unit ())),.obj 0 aZ (.vec 112 qM x.2.2)],[]⟩) [aC] [] {loops:=ko [(3,{aX:=[0,3,4],sites:=[24],owns:=[⟨3,[],24,46⟩]})],outs:=km [(3,{aX:=[3],sites:=[24]},{aX:=[2]})],eT:=jW [(3,Ac.E)],res:=[aw (.slice bK)]}
def aAs:Ac.RS:=rL [.n,.d ti,.n,.d (.slice qM),.d (.slice bK)] Ac
theorem Wp(j i u B A)(I:K2 R)(J:K3 R):Wo.R 0 Ac (j,i,u,B,A) I J=aA (fj i ((u:Nat):Int)) (aA (dB i ((u:Nat):Int)) (aA (decide ((0+(ae i)) < (aa B))) (aA (decide ((((0+(ae i))*39)+0)=((0+((ae i)*39))+0))) (aA (decide (j<=(aa A))) (aA (cM (j+1) 40) (I (Ac.st ((j+1),(bC .i64 i 1),u,B,((aJ j A)++ [(nth qM B (0+(ae i))).1])))) aC) aC) aC) aC) aC) (Ac.go J ((u,B),(j,A))):=bS
def bcl(j o1)(k:K1 R):Wo.A (j,o1) k=ao (Ac.call (0,0,j,o1,([]:List bO))) λu=>aA (decide (0=0/\(0+u.2.1)<=(aa u.2.2))) (k (Wo.out ((cut u.2.2 0 u.2.1),u.1.1,u.1.2))) aC:=bS
def aGu:(Wo.kA 0 Ac):=by
 refine(Wo.lS 0 Ac) (λ(_,i,n,_)=>n - i.toNat) ?_
 rintro⟨L,i,n,l,r⟩ ⟨⟨rfl,u⟩,rfl,k,B,rfl,I⟩;by_cases h:k < aa l
 .left;have n1:=bG (t:=qM) h;have A:=ak h;have j:aa (r++ [l[k].1])=aa r+1:=aj;refine⟨(aa r+1,((k+1:Nat):Int),aa l,l,r++ [l[k].1]),⟨⟨rfl,u⟩,j.symm,k+1,h,rfl,by grind⟩,by grind,?_,λJ K=> ?_⟩
  .grind [Fm,N0]
  .rw[Wp,aN aq,aS aq aq];simp only[ab,aO,aK h,ai,bE,n1,ax,bI];rw[cg aq aq,ai,N.iY aq]
 grind [Wp,aL,al,Fm,N0]
def bcm:Wo.Ok:=by rintro⟨n,l⟩ j;rw[bcl,aAs (d:=(0,0,n,l,[])) ⟨j,rfl,0,az _,rfl,rfl⟩];simp only[ah,Fm,N0,aW,aH,bf,aAq,aO,ax,fY,bE,ai,dM]
def aUd:Wo.RS:=rE [.n,.d (.slice qM)] Wo
def bcn:=Wo.eQ bcm 1 ⟨.eg aGu,trivial⟩
abbrev aGC:=bO×Nat×(List mS)
def al2(l:List mS)(o:bO):mS:=if gH l o 0= -1 then X5 o yt else nth qM l (gH l o 0).toNat
def aMe:aGC->Prop:=λ(_,n,l)=>akl n l
def aqV:aGC->(di×Int×Bool×Nat×(List mS)):=λ(o,n,l)=>if(al2 l o).2.1=bn then((al2 l o).2.2.1,(al2 l o).2.2.2.1,bn,n,l) else(eU.zero,0,aZ,n,l)
def aN2(j u):=([.obj 0 aZ (.pr (.dq (.dx 1) 0 [] 0 0 j) (.d .unit ())),.obj 0 aZ (.vec 112 qM u)]:List dR)
def Km:Fs prog aMe bt aqV:=eP 18 f18 (λ(o,j,o1)=>([dK,xJ o],(aN2 j o1))) (λx=>⟨.cons (rQ x.1) (.cons (aU x.2.1) (.cons (fA x.2.2.1) (.nil))),(aN2 x.2.2.2.1 x.2.2.2.2),[]⟩) [aC,aw bK] [N5] {res:=[aw eU,aC,aC]}
def aUo(o u o1)(k:K1 R):Km.A (o,u,o1) k=ao (qK.call (o,u,o1)) λj=>aA (fj j.1 0) (k (Km.out ((([]:List gb),(([]:List dW),(0,()))),0,aZ,j.2.1,j.2.2))) (aA (dB j.1 ((j.2.1:Nat):Int)) (aA (decide ((0+(ae j.1)) < (aa j.2.2))) (aA (decide ((((0+(ae j.1))*39)+33)=((0+((ae j.1)*39))+33))) (aA (!(nth qM j.2.2 (0+(ae j.1))).2.1) (k (Km.out ((([]:List gb),(([]:List dW),(0,()))),0,aZ,j.2.1,j.2.2))) (aA (dB j.1 ((j.2.1:Nat):Int)) (aA (decide ((0+(ae j.1)) < (aa j.2.2))) (aA (decide ((((0+(ae j.1))*39)+34)=((0+((ae j.1)*39))+34))) (aA (dB j.1 ((j.2.1:Nat):Int)) (aA (decide ((0+(ae j.1)) < (aa j.2.2))) (aA (decide ((((0+(ae j.1))*39)+37)=((0+((ae j.1)*39))+37))) (k (Km.out ((nth qM j.2.2 (0+(ae j.1))).2.2.1,(nth qM j.2.2 (0+(ae j.1))).2.2.2.1,bn,j.2.1,j.2.2))) aC) aC) aC) aC) aC) aC)) aC) aC) aC):=bS
def axS{l:List mS}{o:bO}(h:gH l o 0= -1):al2 l o=X5 o yt:=by unfold al2;rw[av h]
def axR{l:List mS}{o:bO}{k:Nat}(h:gH l o 0=k):al2 l o=nth qM l k:=by unfold al2;rw[au aq,h,ab]
def aUp:Km.Ok:=by
 rintro⟨o,n,l⟩ ⟨rfl,A⟩;rw[aUo,Jd (d:=(o,aa l,l)) ⟨rfl,A⟩];simp[FD,aqV];rcases K0 l o 0 (dT 0) with⟨j,_⟩ | ⟨k,u,j,_⟩
 .simp[j,axS j];rfl
 .simp[j,axR j];rw[aS aq aq];simp[aK u];cases(nth qM l k).2.1 with
  |true=>rfl
  |false=>rfl
def aMf:Km.RS:=rE [.d bK,.n,.d (.slice qM)] Km
def aUq:=Km.eQ aUp
abbrev awi:=bO×Nat×(List mS)
def aGy:awi->Prop:=λ(_,n,l)=>akl n l
def af1:awi->(Bool×Nat×(List mS)):=λ(o,n,l)=>((al2 l o).2.2.2.2.1,n,l)
def Jb:Fs prog aGy bt af1:=eP 25 f25 (λ(o,j,o1)=>([dK,xJ o],(aN2 j o1))) (λx=>⟨fA x.1,(aN2 x.2.1 x.2.2),[]⟩) [aC,aw bK] [N5]
def aL7(o u o1)(k:K1 R):Jb.A (o,u,o1) k=ao (qK.call (o,u,o1)) λj=>aA (DA j.1 0) (aA (dB j.1 ((j.2.1:Nat):Int)) (aA (decide ((0+(ae j.1)) < (aa j.2.2))) (aA (decide ((((0+(ae j.1))*39)+38)=((0+((ae j.1)*39))+38))) (k (Jb.out ((nth qM j.2.2 (0+(ae j.1))).2.2.2.2.1,j.2.1,j.2.2))) aC) aC) aC) (k (Jb.out (aZ,j.2.1,j.2.2))):=bS
def aL8:Jb.Ok:=by
 rintro⟨o,n,l⟩ ⟨rfl,u⟩;have u:aa l<=1000000:=u;rw[aL7,Jd (d:=(o,aa l,l)) ⟨rfl,u⟩];simp only[ah,bt,FD,af1];rcases K0 l o 0 (dT 0) with⟨j,_⟩ | ⟨k,A,j,_⟩
 .simp only[j,axS j];rw[ed fm,al];rfl
 .rw[je]at j;simp only[j,axR j];rw[fE aq,ai,aS aq aq];simp only[ab,aO,bY,aK A,ai,bE]
def aGz:Jb.RS:=rE [.d bK,.n,.d (.slice qM)] Jb
def aL9:=Jb.eQ aL8
abbrev zH:=(List tI)×(List tI)×Int
def rq:zH->AS:=λ(u,j,i)=>⟨([abb u,abb j,bB,bB,bB,aU i]++aP 64 []),[],(ag 70 [])⟩
def jk:Unit->Exit×AS:=λx=>(.ret,⟨(aP 4 ([me]++aP 65 [])),[],(ag 70 [])⟩)
def zK:Unit->Exit×AS:=λx=>(.exit 0,⟨(aP 70 []),[],(ag 70 [])⟩)
abbrev Nj:=(Unit)⊕(Unit)
abbrev abC:=(Unit)⊕(Unit)
def GP:Nj->Out (Exit×AS):=λx=> .br x.isLeft (.get x.getLeft? λa=> .ok (jk a)) (.get x.getRight? λb=> .ok (zK b))
def zJ:zH->abC->Nj:=λ(u,j,i) y=>match y with | .inl y=> .inl y | .inr z=> .inr (z)
abbrev au1:=(List tI)×(List tI)
def zI:zH->Prop:=λ(a,b,i)=>a=b/\aa a<=1000000/\(∀e∈a,FL e.2.2.1)/\∃k:Nat,k<=aa a/\i=k
def EO:zH->abC:=λ_=> .inr ()
def aED:au1->Prop:=λ(a,b)=>a=b/\aa a<=1000000/\∀e∈a,FL e.2.2.1
def au2:au1->Bool:=λ_=>bn
def abA:=cQ.eg rq zI zJ EO GP
def OO:zH->Option Nj:=eN abA rq
def uu:Fs prog aED bt au2:=eP 20 f20 (λ(a,b)=>([.d (.slice Ah) a,.d (.slice Ah) b],[])) (λx=>⟨.d .bool x,[],[]⟩) [aw (.slice Ah),aw (.slice Ah)] [aoh] {loops:=ko [(4,{aX:=[0,1,5]})],outs:=km [(4,{},{aX:=[4]})],eT:=jW [(4,abA)]}
def abB:= @dm prog (gU uu.G) uu.an 0 f20 0 _ rq
abbrev VP:=gr prog (gU uu.G) uu.an 0 f20 0 rq zI zJ EO GP
def aot:fC OO zI zJ EO:=ia (fy [.d (.slice Ah),.d (.slice Ah),.d ti] λ_=>bS)
def Uo:iX @abB rq zI zJ EO GP VP:=ji
def OP(j u i)(B:K2 R)(A:K3 R):abB (j,u,i) B A=aA (fj i (((aa j):Nat):Int)) (aA (dB i (((aa j):Nat):Int)) (aA (dB i (((aa u):Nat):Int)) (ao (jy.call ((nth Ah j (ae i)).2.2.1,(nth Ah u (ae i)).2.2.1)) λI=>aA (!I) (A (jk ()).1 (jk ()).2) (aA (dB i (((aa j):Nat):Int)) (aA (dB i (((aa u):Nat):Int)) (aA (pb (nth Ah j (ae i)).1 (nth Ah u (ae i)).1) (A (jk ()).1 (jk ()).2) (aA (dB i (((aa j):Nat):Int)) (aA (dB i (((aa u):Nat):Int)) (aA (!(Ty.beq bK (nth Ah j (ae i)).2.1 (nth Ah u (ae i)).2.1)) (A (jk ()).1 (jk ()).2) (aA (dB i (((aa j):Nat):Int)) (aA (dB i (((aa u):Nat):Int)) (aA (pb (nth Ah j (ae i)).2.2.2.1 (nth Ah u (ae i)).2.2.2.1) (A (jk ()).1 (jk ()).2) (B (rq (j,u,(bC .i64 i (1:Int)))))) aC) aC)) aC) aC)) aC) aC)) aC) aC) (A (zK ()).1 (zK ()).2):=bS
def aJX(a b)(k:K1 R):uu.A (a,b) k=aA (pb (aa a:Int) (aa b:Int)) (k (uu.out aZ)) (ao (OO (a,b,0)) λj=>aA j.isLeft (ao j.getLeft? λu=>k (uu.out aZ)) (ao j.getRight? λA=>k (uu.out bn))):=bS
def asn:VP:=by
 refine Uo (λ(a,_,i)=>aa a - i.toNat) ?_
 rintro⟨a,b,i⟩ ⟨rfl,j,B,k,u,rfl⟩;have j:aa a<=1000000:=j;have u:k<=aa a:=u;by_cases h:k < aa a
 .left;have n1:nth Ah a k=a[k]:=bG (t:=Ah) h;have A:=ahF (d:=(a[k].2.2.1,a[k].2.2.1)) (B _ (aD h));simp only[bt,TR,bE]at A;refine⟨(a,a,((k+1:Nat):Int)),⟨rfl,j,B,k+1,h,rfl⟩,by simp only[ab];omega,rfl,λI J=> ?_⟩;rw[OP,aN aq,ai,aS aq aq,ai,ai,ab,n1,A];simp only[ah,bW,al,ai];rw[bU rfl,al,(pc _ _).2 rfl,bW,al,bU rfl,al,N.iY aq]
 .right;refine⟨zK (),rfl,λI J=> ?_⟩;rw[OP,aL aq,al]
def aJY:uu.Ok:=by rintro⟨a,b⟩ ⟨rfl,j,u⟩;rw[aJX,bU rfl,al,aot (d:=(a,a,0)) ⟨rfl,j,u,0,az _,rfl⟩];rfl
def aEE:uu.RS:=rE [.d (.slice Ah),.d (.slice Ah)] uu
def aJZ:=uu.eQ aJY 1 ⟨.eg asn,trivial⟩
def sJ(H:Int)(l:List cP)(x:mS):mS×List tI:=(X5 x.1 (iB H l x.1 (afU x)).1,(iB H l x.1 (afU x)).2)
def bcs(g:Bool)(x:mS):mS:=if g then X5 x.1 yt else x
def bg8(g:Bool)(x:mS):List tI:=if g then [(2,(x.1,(x.2.2.1,(x.2.2.2.1,()))))] else []
def bha(t:di)(h:Int)(ok:Bool)(x:mS):mS:=if ok && !x.2.1 then(x.1,(bn,(t,(h,(aZ,()))))) else x
def bh8(t:di)(h:Int)(ok:Bool)(x:mS):List tI:=if ok && !x.2.1 then [(1,(x.1,(t,(h,()))))] else []
def bmS(f:Bool)(x:mS):mS:=if f then(x.1,(x.2.1,(x.2.2.1,(x.2.2.2.1,(bn,()))))) else x
def bmR(f:Bool)(t:di)(h:Int)(x:mS):List tI:=if f then [(3,(x.1,(t,(h,()))))] else []
def bjr{H h:Int}:qi (H - h) 6=qi H (h+6):=by unfold qi;exact decide_eq_decide.2 aq
def aDn{H:Int}{l:List cP}{x:mS}{t:di}{h:Int}{ok:Bool}(M:tC x.1 l=(t,h,ok))(hf:x.2.2.2.2.1=aZ):
  sJ H l x=(bmS (ok && qi H (h+6)) (bha t h ok (bcs (Dz (afU x) h ok (mw t)) x)),bg8 (Dz (afU x) h ok (mw t)) x++bh8 t h ok (bcs (Dz (afU x) h ok (mw t)) x)++bmR (ok && qi H (h+6)) t h (bha t h ok (bcs (Dz (afU x) h ok (mw t)) x))):=by
 obtain⟨o,is,A,j,L,u⟩:=x;obtain rfl:L=aZ:=hf;have M:tC o l=(t,h,ok):=M;unfold sJ iB;rw[au (show ¬(afU (o,is,A,j,aZ,u)).2.2.2.2.1=bn from λe=>by cases e),M];simp only[afU];obtain⟨g,B⟩:∃g,Dz (is,A,mw A,j,aZ,u) h ok (mw t)=g:=⟨_,rfl⟩;have K:g=aZ->ok=bn->is=bn->h=j:=λO T e3=>by rw[O]at B;unfold Dz at B;rw[T,e3]at B;simp only[bH,bW,ja,Bool.or_eq_false_iff]at B;exact jw λjV=>by have:=B.1;rw[dj jV]at this;cases this
 unfold KR;rw[B];obtain⟨f,I⟩:∃f,qi H (h+6)=f:=⟨_,rfl⟩;have J:qi (H - h) 6=f:=bjr.trans I;cases g <;> cases ok <;> cases is <;> cases f <;> simp[Uf,aeu,bcs,bg8,bha,bh8,bmS,bmR,X5,yt,I,J]
 all_goals exact(K rfl rfl rfl).symm
abbrev aiL:=Nat×Int×Nat×(List mS)×(List dW)×Nat×(List cP)×(List de)×Nat×(List (List de))×(List tI)
abbrev Fo:=Nat×Int×Int×Bool×Bool×Nat×(List mS)×(List dW)×Nat×(List cP)×(List de)×Nat×(List (List de))×(List tI)×mS×di
def aEd(j u A B I J K L):=([fp (C7 1 0 0 0 j),fp (.vec 112 qM u),fp (.pr (.d (.slice dI) A) (.pr (.dq (.dx 3) 0 [] 0 0 B) (.pr (qp 4 0 0) Pv))),fp (.vec 48 dS I),fp (.pr (.d (.slice fk) J) (C7 5 0 0 0 K)),fp (.vec 153 (.slice fk) L)]:List dR)
def aN3(j u A B):=([dK,qp 2 0 0,bB,bB,bB,uJ 113 j,aU u,gB 113 1 0 0,gB 113 2 0 0,aU A,fA B]:List aF)
def aEb(j u A):=([fp (.vec 82 Ah j),fp (.d qM u),fp (.d eU A)]:List dR)
def Ws:Fo->AS:=λ(u,i,h,J,K,A,o1,O,B,T,o4,I,o5,j,L,M)=>⟨((aN3 u i h J)++aP 45 ([fA K]++aP 57 [])),(aEd A o1 O B T o4 I o5),(bz 113 [(aEb j L M)])⟩
def ac3:iO:=iO.of {aX:=[0,1,5,6,7,8,9,10,56],sites:=[7,8,31,50,53,66,88,92,105,113],Ec:=[⟨7,[.arr],qM⟩],at4:=aw 113} Ws
def tw:Fo->Option Fo:=λx=>(ac3).amf .normal (Ws x)
def ac4(x:Fo):tw x=aw x:=iO.rJ (fy [.n,.d ti,.d ti,.d .bool,.d .bool,.n,.d (.slice qM),.d (.slice dI),.n,.d (.slice dS),.d (.slice fk),.n,.d (.slice (.slice fk)),.d (.slice Ah),.d qM,.d eU] λ_=>bS) x
abbrev B5:=Nat×Int×Int×Bool×Bool×Nat×(List mS)×(List dW)×Nat×(List cP)×(List de)×Nat×(List (List de))×(List tI)×mS×di
def SV:B5->AS:=λ(u,i,h,J,K,A,o1,O,B,T,o4,I,o5,j,L,M)=>⟨((aN3 u i h J)++aP 64 ([fA K]++aP 38 [])),(aEd A o1 O B T o4 I o5),(bz 113 [(aEb j L M)])⟩
def Wq:iO:=iO.of {aX:=[0,1,5,6,7,8,9,10,75],sites:=[7,8,31,50,53,66,88,92,105,113],Ec:=[⟨7,[.arr],qM⟩],at4:=aw 113} SV
def Dk:B5->Option B5:=λx=>(Wq).amf .normal (SV x)
def YW(x:B5):Dk x=aw x:=iO.rJ (fy [.n,.d ti,.d ti,.d .bool,.d .bool,.n,.d (.slice qM),.d (.slice dI),.n,.d (.slice dS),.d (.slice fk),.n,.d (.slice (.slice fk)),.d (.slice Ah),.d qM,.d eU] λ_=>bS) x
abbrev B6:=Nat×Int×Int×Bool×Nat×(List mS)×(List dW)×Nat×(List cP)×(List de)×Nat×(List (List de))×(List tI)×mS×di
def SX:B6->AS:=λ(u,i,h,J,A,o1,M,B,O,T,I,o5,j,K,L)=>⟨([dK,QU,bB,bB,bB,uJ 113 u,aU i,gB 113 1 0 0,gB 113 2 0 0,aU h]++aP 86 ([fA J]++aP 17 [])),(aEd A o1 M B O T I o5),(bz 113 [(aEb j K L)])⟩
def Wr:iO:=iO.of {aX:=[0,1,5,6,7,8,9,96],sites:=[7,8,31,50,53,66,88,92,105,113],Ec:=[⟨7,[.arr],qM⟩],at4:=aw 113} SX
def Dl:B6->Option B6:=λx=>(Wr).amf .normal (SX x)
def YX(x:B6):Dl x=aw x:=iO.rJ (fy [.n,.d ti,.d ti,.d .bool,.n,.d (.slice qM),.d (.slice dI),.n,.d (.slice dS),.d (.slice fk),.n,.d (.slice (.slice fk)),.d (.slice Ah),.d qM,.d eU] λ_=>bS) x
abbrev B7:=Nat×Int×Int×Bool×Nat×(List mS)×(List dW)×Nat×(List cP)×(List de)×Nat×(List (List de))×(List tI)×mS×di
def SY:B7->AS:=λ(u,i,h,J,A,o1,M,B,O,T,I,o5,j,K,L)=>⟨((aN3 u i h J)++aP 103 []),(aEd A o1 M B O T I o5),(bz 113 [(aEb j K L)])⟩
def Wt:iO:=iO.of {aX:=[0,1,5,6,7,8,9,10],sites:=[7,8,31,50,53,66,88,92,105,113],Ec:=[⟨7,[.arr],qM⟩],at4:=aw 113} SY
def Dm:B7->Option B7:=λx=>(Wt).amf .normal (SY x)
def YY(x:B7):Dm x=aw x:=iO.rJ (fy [.n,.d ti,.d ti,.d .bool,.n,.d (.slice qM),.d (.slice dI),.n,.d (.slice dS),.d (.slice fk),.n,.d (.slice (.slice fk)),.d (.slice Ah),.d qM,.d eU] λ_=>bS) x
abbrev B8:=Nat×Int×Int×Bool×Nat×(List mS)×(List dW)×Nat×(List cP)×(List de)×Nat×(List (List de))×(List tI)×mS×di
def SZ:B8->AS:=λ(u,i,h,J,A,o1,M,B,O,T,I,o5,j,K,L)=>⟨((aN3 u i h J)++aP 103 []),(aEd A o1 M B O T I o5),(bz 113 [(aEb j K L)])⟩
def Wu:iO:=iO.of {aX:=[0,1,5,6,7,8,9,10],sites:=[7,8,31,50,53,66,88,92,105,113],Ec:=[⟨7,[.arr],qM⟩],at4:=aw 113} SZ
def Dn:B8->Option B8:=λx=>(Wu).amf .normal (SZ x)
def YZ(x:B8):Dn x=aw x:=iO.rJ (fy [.n,.d ti,.d ti,.d .bool,.n,.d (.slice qM),.d (.slice dI),.n,.d (.slice dS),.d (.slice fk),.n,.d (.slice (.slice fk)),.d (.slice Ah),.d qM,.d eU] λ_=>bS) x
abbrev B9:=Nat×Int×Nat×(List mS)×(List dW)×Nat×(List cP)×(List de)×Nat×(List (List de))×(List tI)×mS
def S0:B9->AS:=λ(u,i,A,o1,K,B,L,M,I,O,j,J)=>⟨([dK,QU,bB,bB,bB,uJ 113 u,aU i,gB 113 1 0 0]++aP 106 []),(aEd A o1 K B L M I O),(bz 113 [[anU j,fp (.d qM J)]])⟩
def Wv:iO:=iO.of {aX:=[0,1,5,6,7],sites:=[7,8,31,50,53,66,88,92,105,113],Ec:=[⟨7,[.arr],qM⟩],at4:=aw 113} S0
def Dp:B9->Option B9:=λx=>(Wv).amf .normal (S0 x)
def Y0(x:B9):Dp x=aw x:=iO.rJ (fy [.n,.d ti,.n,.d (.slice qM),.d (.slice dI),.n,.d (.slice dS),.d (.slice fk),.n,.d (.slice (.slice fk)),.d (.slice Ah),.d qM] λ_=>bS) x
abbrev aGA:=Nat×(List mS)×(List dW)×Nat×(List cP)×(List de)×Nat×(List (List de))
def bm4(bs:List cP):Prop:=∀b∈bs,aa b.2.2.1<=1000/\∀t∈b.2.2.1,ig t=bn/\mE t
def as3:aiL->Prop:=λ(L,i,n,l,_,nb,bs,_,_,_,ev)=>(aa l=n/\n<=1000)/\(∀x∈l,mE x.2.2.1)/\(aa bs=nb/\nb<=1000/\bm4 bs)/\L=aa ev/\∃k:Nat,k<=n/\i=k/\aa ev<=3*k
def Jc:aiL->(Nat×Nat×(List mS)×(List dW)×Nat×(List cP)×(List de)×Nat×(List (List de))×(List tI)):=λ(_,i,n,l,outs,nb,bs,j,m,w,ev)=>(aa (ev++(l.drop i.toNat).flatMap λx=>(sJ nb bs x).2),n,l.take i.toNat++(l.drop i.toNat).map (λx=>(sJ nb bs x).1),outs,nb,bs,j,m,w,ev++(l.drop i.toNat).flatMap λx=>(sJ nb bs x).2)
def aMa:aGA->Prop:=λ(n,l,_,nb,bs,_)=>(aa l=n/\n<=1000)/\(∀x∈l,mE x.2.2.1)/\aa bs=nb/\nb<=1000/\bm4 bs
def aqT:aGA->((List tI)×Nat×(List mS)×(List dW)×Nat×(List cP)×(List de)×Nat×(List (List de))):=λ(n,l,outs,nb,bs,j,m,w)=>(l.flatMap λx=>(sJ nb bs x).2,n,l.map (λx=>(sJ nb bs x).1),outs,nb,bs,j,m,w)
def rA:Ls as3 bt Jc:=rI (λ(u,i,B,K,M,I,L,O,J,A,j)=>⟨([dK,QU,bB,bB,bB,uJ 113 u,aU i]++aP 107 []),(aEd B K M I L O J A),(bz 113 [dp (.vec 82 Ah j)])⟩) (λx=>(.exit 0,⟨(aP 5 ([uJ 113 x.1]++aP 108 [])),(aEd x.2.1 x.2.2.1 x.2.2.2.1 x.2.2.2.2.1 x.2.2.2.2.2.1 x.2.2.2.2.2.2.1 x.2.2.2.2.2.2.2.1 x.2.2.2.2.2.2.2.2.1),(bz 113 [dp (.vec 82 Ah x.2.2.2.2.2.2.2.2.2)])⟩))
def Kl:Fs prog aMa bt aqT:=eP 15 f15 (λ(A,o1,B,j,J,I,u,K)=>([.ptr (.dx 0) 0 [] 0,.ptr (.dx 2) 0 [] 0],[.obj 0 aZ (.pr (.dq (.dx 1) 0 [] 0 0 A) (.d .unit ())),.obj 0 aZ (.vec 112 qM o1),.obj 0 aZ (.pr (.d (.slice dI) B) (.pr (.dq (.dx 3) 0 [] 0 0 j) (.pr (.ptr (.dx 4) 0 [] 0) (.d .unit ())))),.obj 0 aZ (.vec 48 dS J),.obj 0 aZ (.pr (.d (.slice fk) I) (.pr (.dq (.dx 5) 0 [] 0 0 u) (.d .unit ()))),.obj 0 aZ (.vec 153 (.slice fk) K)])) (λx=>⟨.d (.slice Ah) x.1,[.obj 0 aZ (.pr (.dq (.dx 1) 0 [] 0 0 x.2.1) (.d .unit ())),.obj 0 aZ (.vec 112 qM x.2.2.1),.obj 0 aZ (.pr (.d (.slice dI) x.2.2.2.1) (.pr (.dq (.dx 3) 0 [] 0 0 x.2.2.2.2.1) (.pr (.ptr (.dx 4) 0 [] 0) (.d .unit ())))),.obj 0 aZ (.vec 48 dS x.2.2.2.2.2.1),.obj 0 aZ (.pr (.d (.slice fk) x.2.2.2.2.2.2.1) (.pr (.dq (.dx 5) 0 [] 0 0 x.2.2.2.2.2.2.2.1) (.d .unit ()))),.obj 0 aZ (.vec 153 (.slice fk) x.2.2.2.2.2.2.2.2)],[]⟩) [aC,aC] [bgd,abi,bj0] {loops:=ko [(3,{aX:=[0,1,5,6],sites:=[7,8,31,50,53,66,88,92,105,113],owns:=[⟨5,[],66,43⟩],at4:=aw 113})],outs:=km [(3,{aX:=[5],sites:=[113]},{aX:=[4]})],eT:=jW [(3,rA.E)],res:=[aw (.slice Ah)],aYo:=jW [(8,ac3),(11,Wq),(14,Wr)],aui:=jW [(11,Wt),(14,Wu),(17,Wv)]}
def as4:rA.RS:=rL [.n,.d ti,.n,.d (.slice qM),.d (.slice dI),.n,.d (.slice dS),.d (.slice fk),.n,.d (.slice (.slice fk)),.d (.slice Ah)] rA
def S3(L i O T o2 o2L mc o4 o4L ai8 K)(kn:K2 R)(kx:K3 R):Kl.R 0 rA (L,i,O,T,o2,o2L,mc,o4,o4L,ai8,K) kn kx=aA (fj i ((O:Nat):Int)) (aA (dB i ((O:Nat):Int)) (aA (decide ((0+(ae i)) < (aa T))) (aA (decide ((((0+(ae i))*39)+0)=(0+((ae i)*39)))) (ao (J4.call ((nth qM T (0+(ae i))).1,o2,o2L,mc,o4,o4L,ai8)) λj=>aA ((nth qM T (0+(ae i))).2.2.2.2.1) (kn (rA.st (L,(bC .i64 i 1),O,T,j.2.2.2.1,j.2.2.2.2.1,j.2.2.2.2.2.1,j.2.2.2.2.2.2.1,j.2.2.2.2.2.2.2.1,j.2.2.2.2.2.2.2.2,K))) (ao (ao (aA ((nth qM T (0+(ae i))).2.1) (aA (!j.2.2.1) (tw (L,i,j.2.1,j.2.2.1,bn,O,T,j.2.2.2.1,j.2.2.2.2.1,j.2.2.2.2.2.1,j.2.2.2.2.2.2.1,j.2.2.2.2.2.2.2.1,j.2.2.2.2.2.2.2.2,K,(nth qM T (0+(ae i))),j.1)) (aA (pb j.2.1 (nth qM T (0+(ae i))).2.2.2.1) (tw (L,i,j.2.1,j.2.2.1,bn,O,T,j.2.2.2.1,j.2.2.2.2.1,j.2.2.2.2.2.1,j.2.2.2.2.2.2.1,j.2.2.2.2.2.2.2.1,j.2.2.2.2.2.2.2.2,K,(nth qM T (0+(ae i))),j.1)) (ao (OF.call j.1) λbsm=>ao (OF.call (nth qM T (0+(ae i))).2.2.1) λbkr=>tw (L,i,j.2.1,j.2.2.1,(!(Ty.beq tH bsm bkr)),O,T,j.2.2.2.1,j.2.2.2.2.1,j.2.2.2.2.2.1,j.2.2.2.2.2.2.1,j.2.2.2.2.2.2.2.1,j.2.2.2.2.2.2.2.2,K,(nth qM T (0+(ae i))),j.1)))) (tw (L,i,j.2.1,j.2.2.1,aZ,O,T,j.2.2.2.1,j.2.2.2.2.1,j.2.2.2.2.2.1,j.2.2.2.2.2.2.1,j.2.2.2.2.2.2.2.1,j.2.2.2.2.2.2.2.2,K,(nth qM T (0+(ae i))),j.1))) λA=>aA (A.2.2.2.2.1) (aA (decide (A.1<=(aa A.2.2.2.2.2.2.2.2.2.2.2.2.2.1))) (aA (cM (A.1+1) 112) (Dm ((A.1+1),A.2.1,A.2.2.1,A.2.2.2.1,A.2.2.2.2.2.1,A.2.2.2.2.2.2.1,A.2.2.2.2.2.2.2.1,A.2.2.2.2.2.2.2.2.1,A.2.2.2.2.2.2.2.2.2.1,A.2.2.2.2.2.2.2.2.2.2.1,A.2.2.2.2.2.2.2.2.2.2.2.1,A.2.2.2.2.2.2.2.2.2.2.2.2.1,((aJ A.1 A.2.2.2.2.2.2.2.2.2.2.2.2.2.1)++ [(2,(A.2.2.2.2.2.2.2.2.2.2.2.2.2.2.1.1,(A.2.2.2.2.2.2.2.2.2.2.2.2.2.2.1.2.2.1,(A.2.2.2.2.2.2.2.2.2.2.2.2.2.2.1.2.2.2.1,()))))]),(A.2.2.2.2.2.2.2.2.2.2.2.2.2.2.1.1,(aZ,((([]:List gb),(([]:List dW),(0,()))),(0,(aZ,()))))),A.2.2.2.2.2.2.2.2.2.2.2.2.2.2.2)) aC) aC) (Dm (A.1,A.2.1,A.2.2.1,A.2.2.2.1,A.2.2.2.2.2.1,A.2.2.2.2.2.2.1,A.2.2.2.2.2.2.2.1,A.2.2.2.2.2.2.2.2.1,A.2.2.2.2.2.2.2.2.2.1,A.2.2.2.2.2.2.2.2.2.2.1,A.2.2.2.2.2.2.2.2.2.2.2.1,A.2.2.2.2.2.2.2.2.2.2.2.2.1,A.2.2.2.2.2.2.2.2.2.2.2.2.2.1,A.2.2.2.2.2.2.2.2.2.2.2.2.2.2.1,A.2.2.2.2.2.2.2.2.2.2.2.2.2.2.2))) λI=>ao (ao (aA (I.2.2.2.1) (Dk (I.1,I.2.1,I.2.2.1,I.2.2.2.1,(!I.2.2.2.2.2.2.2.2.2.2.2.2.2.1.2.1),I.2.2.2.2.1,I.2.2.2.2.2.1,I.2.2.2.2.2.2.1,I.2.2.2.2.2.2.2.1,I.2.2.2.2.2.2.2.2.1,I.2.2.2.2.2.2.2.2.2.1,I.2.2.2.2.2.2.2.2.2.2.1,I.2.2.2.2.2.2.2.2.2.2.2.1,I.2.2.2.2.2.2.2.2.2.2.2.2.1,I.2.2.2.2.2.2.2.2.2.2.2.2.2.1,I.2.2.2.2.2.2.2.2.2.2.2.2.2.2)) (Dk (I.1,I.2.1,I.2.2.1,I.2.2.2.1,aZ,I.2.2.2.2.1,I.2.2.2.2.2.1,I.2.2.2.2.2.2.1,I.2.2.2.2.2.2.2.1,I.2.2.2.2.2.2.2.2.1,I.2.2.2.2.2.2.2.2.2.1,I.2.2.2.2.2.2.2.2.2.2.1,I.2.2.2.2.2.2.2.2.2.2.2.1,I.2.2.2.2.2.2.2.2.2.2.2.2.1,I.2.2.2.2.2.2.2.2.2.2.2.2.2.1,I.2.2.2.2.2.2.2.2.2.2.2.2.2.2))) λu=>aA (u.2.2.2.2.1) (aA (decide (u.1<=(aa u.2.2.2.2.2.2.2.2.2.2.2.2.2.1))) (aA (cM (u.1+1) 112) (Dn ((u.1+1),u.2.1,u.2.2.1,u.2.2.2.1,u.2.2.2.2.2.1,u.2.2.2.2.2.2.1,u.2.2.2.2.2.2.2.1,u.2.2.2.2.2.2.2.2.1,u.2.2.2.2.2.2.2.2.2.1,u.2.2.2.2.2.2.2.2.2.2.1,u.2.2.2.2.2.2.2.2.2.2.2.1,u.2.2.2.2.2.2.2.2.2.2.2.2.1,((aJ u.1 u.2.2.2.2.2.2.2.2.2.2.2.2.2.1)++ [(1,(u.2.2.2.2.2.2.2.2.2.2.2.2.2.2.1.1,(u.2.2.2.2.2.2.2.2.2.2.2.2.2.2.2,(u.2.2.1,()))))]),(u.2.2.2.2.2.2.2.2.2.2.2.2.2.2.1.1,(bn,(u.2.2.2.2.2.2.2.2.2.2.2.2.2.2.2,(u.2.2.1,(aZ,()))))),u.2.2.2.2.2.2.2.2.2.2.2.2.2.2.2)) aC) aC) (Dn (u.1,u.2.1,u.2.2.1,u.2.2.2.1,u.2.2.2.2.2.1,u.2.2.2.2.2.2.1,u.2.2.2.2.2.2.2.1,u.2.2.2.2.2.2.2.2.1,u.2.2.2.2.2.2.2.2.2.1,u.2.2.2.2.2.2.2.2.2.2.1,u.2.2.2.2.2.2.2.2.2.2.2.1,u.2.2.2.2.2.2.2.2.2.2.2.2.1,u.2.2.2.2.2.2.2.2.2.2.2.2.2.1,u.2.2.2.2.2.2.2.2.2.2.2.2.2.2.1,u.2.2.2.2.2.2.2.2.2.2.2.2.2.2.2))) λJ=>ao (ao (aA (J.2.2.2.1) (ao (bmA.call (J.2.2.2.2.2.2.1,J.2.2.2.2.2.2.2.1,J.2.2.2.2.2.2.2.2.1,J.2.2.2.2.2.2.2.2.2.1,J.2.2.2.2.2.2.2.2.2.2.1,J.2.2.2.2.2.2.2.2.2.2.2.1)) λWO=>Dl (J.1,J.2.1,J.2.2.1,(qi WO.2 (bC .i64 J.2.2.1 6)),J.2.2.2.2.1,J.2.2.2.2.2.1,WO.1.1,WO.1.2.1,WO.1.2.2.1,WO.1.2.2.2.1,WO.1.2.2.2.2.1,WO.1.2.2.2.2.2,J.2.2.2.2.2.2.2.2.2.2.2.2.1,J.2.2.2.2.2.2.2.2.2.2.2.2.2.1,J.2.2.2.2.2.2.2.2.2.2.2.2.2.2)) (Dl (J.1,J.2.1,J.2.2.1,aZ,J.2.2.2.2.1,J.2.2.2.2.2.1,J.2.2.2.2.2.2.1,J.2.2.2.2.2.2.2.1,J.2.2.2.2.2.2.2.2.1,J.2.2.2.2.2.2.2.2.2.1,J.2.2.2.2.2.2.2.2.2.2.1,J.2.2.2.2.2.2.2.2.2.2.2.1,J.2.2.2.2.2.2.2.2.2.2.2.2.1,J.2.2.2.2.2.2.2.2.2.2.2.2.2.1,J.2.2.2.2.2.2.2.2.2.2.2.2.2.2))) λB=>aA (B.2.2.2.1) (aA (decide (B.1<=(aa B.2.2.2.2.2.2.2.2.2.2.2.2.1))) (aA (cM (B.1+1) 112) (Dp ((B.1+1),B.2.1,B.2.2.2.2.1,B.2.2.2.2.2.1,B.2.2.2.2.2.2.1,B.2.2.2.2.2.2.2.1,B.2.2.2.2.2.2.2.2.1,B.2.2.2.2.2.2.2.2.2.1,B.2.2.2.2.2.2.2.2.2.2.1,B.2.2.2.2.2.2.2.2.2.2.2.1,((aJ B.1 B.2.2.2.2.2.2.2.2.2.2.2.2.1)++ [(3,(B.2.2.2.2.2.2.2.2.2.2.2.2.2.1.1,(B.2.2.2.2.2.2.2.2.2.2.2.2.2.2,(B.2.2.1,()))))]),(B.2.2.2.2.2.2.2.2.2.2.2.2.2.1.1,(B.2.2.2.2.2.2.2.2.2.2.2.2.2.1.2.1,(B.2.2.2.2.2.2.2.2.2.2.2.2.2.1.2.2.1,(B.2.2.2.2.2.2.2.2.2.2.2.2.2.1.2.2.2.1,(bn,B.2.2.2.2.2.2.2.2.2.2.2.2.2.1.2.2.2.2.2))))))) aC) aC) (Dp (B.1,B.2.1,B.2.2.2.2.1,B.2.2.2.2.2.1,B.2.2.2.2.2.2.1,B.2.2.2.2.2.2.2.1,B.2.2.2.2.2.2.2.2.1,B.2.2.2.2.2.2.2.2.2.1,B.2.2.2.2.2.2.2.2.2.2.1,B.2.2.2.2.2.2.2.2.2.2.2.1,B.2.2.2.2.2.2.2.2.2.2.2.2.1,B.2.2.2.2.2.2.2.2.2.2.2.2.2.1))) λM=>aA (dB M.2.1 ((M.2.2.1:Nat):Int)) (aA (decide ((0+(ae M.2.1)) < (aa M.2.2.2.1))) (aA (decide ((((0+(ae M.2.1))*39)+0)=(0+((ae M.2.1)*39)))) (aA (decide ((0+(ae M.2.1)) < (aa M.2.2.2.1))) (kn (rA.st (M.1,(bC .i64 M.2.1 1),M.2.2.1,(gq M.2.2.2.1 (0+(ae M.2.1)) M.2.2.2.2.2.2.2.2.2.2.2),M.2.2.2.2.1,M.2.2.2.2.2.1,M.2.2.2.2.2.2.1,M.2.2.2.2.2.2.2.1,M.2.2.2.2.2.2.2.2.1,M.2.2.2.2.2.2.2.2.2.1,M.2.2.2.2.2.2.2.2.2.2.1))) aC) aC) aC) aC)) aC) aC) aC) (rA.go kx (L,O,T,o2,o2L,mc,o4,o4L,ai8,K)):=bS
def aUj(B o1 I u K J A L)(k:K1 R):Kl.A (B,o1,I,u,K,J,A,L) k=ao (rA.call (0,0,B,o1,I,u,K,J,A,L,([]:List tI))) λj=>aA (decide (0=0/\(0+j.1)<=(aa j.2.2.2.2.2.2.2.2.2))) (k (Kl.out ((cut j.2.2.2.2.2.2.2.2.2 0 j.1),j.2.1,j.2.2.1,j.2.2.2.1,j.2.2.2.2.1,j.2.2.2.2.2.1,j.2.2.2.2.2.2.1,j.2.2.2.2.2.2.2.1,j.2.2.2.2.2.2.2.2.1))) aC:=bS
def bsc{bs:List cP}{nb:Nat}(J:aa bs=nb)(K:nb<=1000)(u:bm4 bs)(o:bO)(outs:List dW)(I:List de)(n:Nat)(w:List (List de)):
  J4.call (o,outs,nb,bs,I,n,w)=aw ((tC o bs).1,(tC o bs).2.1,(tC o bs).2.2,outs,nb,bs,I,n,w)/\mE (tC o bs).1/\0<=(tC o bs).2.1/\(tC o bs).2.1<=nb:=by
 have j:=baw (d:=(o,outs,nb,bs,I,n,w)) ⟨J,K,λb A=>⟨(u b A).1,λt B=>by have:=(iW ((u b A).2 t B).1).1.2.1;omega⟩⟩;simp only[aKI]at j;rw[aOA λb A t B=>((u b A).2 t B).1]at j;unfold tC;cases e:Hx o bs 0 with
 |none=>
  rw[e]at j;exact⟨j,v0,dT _,by show(0:Int)<=nb;omega⟩
 |some x=>
  rw[e]at j;obtain⟨O,T,c,L,M⟩:=aLz e;exact⟨j,((u c L).2 _ M).2,by show 0<=x.2;omega,by show x.2<=nb;omega⟩
def auq(H:Int)(l:List cP)(x:mS):(sJ H l x).2.length<=3:=aur _ _ _ _
def aup{H:Int}{l:List cP}{x:mS}(j:x.2.2.2.2.1=bn):sJ H l x=(x,[]):=by unfold sJ iB;rw[av (show(afU x).2.2.2.2.1=bn from j)];rfl
def bft{H:Int}{l:List cP}{x:mS}(B:mE x.2.2.1)(I:mE (tC x.1 l).1):mE (sJ H l x).1.2.2.1:=by
 cases A:x.2.2.2.2.1 with
 |true=>
  rw[aup A];exact B
 |false=>
  rw[aDn (t:=(tC x.1 l).1) (h:=(tC x.1 l).2.1) (ok:=(tC x.1 l).2.2) rfl A];have u:mE (bcs (Dz (afU x) (tC x.1 l).2.1 (tC x.1 l).2.2 (mw (tC x.1 l).1)) x).2.2.1:=by
   unfold bcs;split
   .exact v0
   .exact B
  generalize bcs _ x=y at u ⊢;have j:mE (bha (tC x.1 l).1 (tC x.1 l).2.1 (tC x.1 l).2.2 y).2.2.1:=by
   unfold bha;split
   .exact I
   .exact u
  generalize bha _ _ _ y=z at j ⊢;unfold bmS;dsimp only;split
  .exact j
  .exact j
def bbt{α:Type}{l:List α}{k:Nat}(h:k < aa l)(y:α):(l.set k y).take (k+1)=l.take k++ [y]:=by apply mU;intro i;grind
def aAt:(Kl.kA 0 rA):=by
 refine(Kl.lS 0 rA) (λ(_,i,n,_)=>n - i.toNat) ?_
 rintro⟨L,i,n,l,outs,nb,bs,K,m,w,ev⟩ ⟨⟨rfl,hn⟩,hx,⟨B,I,blC⟩,rfl,k,hk,rfl,aua⟩;have hn:aa l<=1000:=hn;have hk:k<=aa l:=hk;have aua:aa ev<=3*k:=aua;have B:aa bs=nb:=B;have I:nb<=1000:=I;by_cases h:k < aa l
 .left;have n1:nth qM l k=l[k]:=bG (t:=qM) h;have hd:l.drop k=l[k]::l.drop (k+1):=ak h;have T:=hx _ (aD h);obtain⟨csp,hv,h0,hH⟩:=bsc B I blC l[k].1 outs K m w;have hl:=auq nb bs l[k];have bmf:=bft (H:=nb) (l:=bs) T hv;refine⟨(aa (ev++(sJ nb bs l[k]).2),((k+1:Nat):Int),aa l,l.set k (sJ nb bs l[k]).1,outs,nb,bs,K,m,w,ev++(sJ nb bs l[k]).2),⟨⟨qQ,hn⟩,λx hx'=> ?_,⟨B,I,blC⟩,rfl,k+1,h,rfl,by rw[aj];omega⟩,by simp only[ab];omega,?_,λkn kx=> ?_⟩
  .rcases List.mem_or_eq_of_mem_set hx' with hx' | rfl
   .exact hx x hx'
   .exact bmf
  .simp only[bt,Jc,ab,hd,c9,cq];rw[List.drop_set_of_lt aq,bbt h,aR,aR,cv]
  rw[S3,aN aq,ai,aS aq aq,ai];obtain⟨x,O⟩:∃x,l[k]=x:=⟨_,rfl⟩;have ax3:l.set k x=l:=by rw[<-O];exact iE h
  rw[O]at n1 T csp hv h0 hH ⊢;simp only[ab,aO,bY,aK h,ai,bE,n1,csp,ah];clear bmf hl O hd csp;cases hf:x.2.2.2.2.1 with
  |true=>rw[ai,aup hf,bm,ax3,N.iY aq]
  |false=>
   obtain⟨r,hr⟩:∃r,tC x.1 bs=r:=⟨_,rfl⟩;rw[hr]at hv h0 hH;obtain⟨t,u,j⟩:=r;have hv:mE t:=hv;have h0:0<=u:=h0;have hH:u<=nb:=hH;rw[al,aDn hr hf];obtain⟨g,hg⟩:∃g,Dz (afU x) u j (mw t)=g:=⟨_,rfl⟩;simp only[ac4,YY,YW,YZ,YX,Y0,hr,hg];refine(bA (λz=>ao z _) (?_:_=aw (aa (ev++bg8 g x),(k:Int),u,j,aa l,l,outs,nb,bs,K,m,w,ev++bg8 g x,bcs g x,t))).trans ?_
   .refine(bA (λz=>ao z _) (?_:_=aw (aa ev,(k:Int),u,j,g,aa l,l,outs,nb,bs,K,m,w,ev,x,t))).trans ?_
    .rw[<-hg];unfold Dz afU;cases x.2.1 with
     |false=>simp only[al,cU]
     |true=>
      cases j with
      |false=>simp only[ai,eJ,pM,bH]
      |true=>
       cases pb u x.2.2.2.1 with
       |true=>simp only[ai,al,bW,ja,pM,bH]
       |false=>
        simp only[ai,al,bW,ja,bH];rw[Lc (d:=t) hv];simp only[ah,bt,M8];rw[Lc (d:=x.2.2.1) T];simp only[ah,bt,M8]
    .rw[ah];cases g with
     |true=>
      simp only[ai,ax,bE,bI];rw[cg aq aq,ai];simp only[bcs,bg8,bQ,aj];rfl
     |false=>simp only[al,bcs,bg8,bu,bq,bm]
   have l1:aa (ev++bg8 g x)<=aa ev+1:=by rw[aj];unfold bg8;split <;> simp
   obtain⟨A,agV⟩:∃e,ev++bg8 g x=e:=⟨_,rfl⟩;obtain⟨M,bjq⟩:∃y,bcs g x=y:=⟨_,rfl⟩;rw[ah,<-aR,<-aR];simp only[agV,bjq]at l1 ⊢;refine(bA (λz=>ao z _) (?_:_=aw (aa (A++bh8 t u j M),(k:Int),u,j,aa l,l,outs,nb,bs,K,m,w,A++bh8 t u j M,bha t u j M,t))).trans ?_
   .refine(bA (λz=>ao z _) (?_:_=aw (aa A,(k:Int),u,j,j && !M.2.1,aa l,l,outs,nb,bs,K,m,w,A,M,t))).trans ?_
    .cases j <;> simp only[ai,al,bH,cU]
    .rw[ah];unfold bh8 bha;cases j && !M.2.1 with
     |true=>
      simp only[ai,ax,bE,bI];rw[cg aq aq,ai];simp only[bQ,aj];rfl
     |false=>simp only[al,bu,bq,bm]
   have l2:aa (A++bh8 t u j M)<=aa ev+2:=by rw[aj];unfold bh8;split <;> simp <;> omega
   obtain⟨J,axT⟩:∃e,A++bh8 t u j M=e:=⟨_,rfl⟩;obtain⟨x2,bny⟩:∃y,bha t u j M=y:=⟨_,rfl⟩;rw[ah];simp only[axT,bny]at l2 ⊢;refine(bA (λz=>ao z _) (?_:_=aw (aa (J++bmR (j && qi (nb:Int) (u+6)) t u x2),(k:Int),aa l,l,outs,nb,bs,K,m,w,J++bmR (j && qi (nb:Int) (u+6)) t u x2,bmS (j && qi (nb:Int) (u+6)) x2))).trans ?_
   .refine(bA (λz=>ao z _) (?_:_=aw (aa J,(k:Int),u,j && qi (nb:Int) (u+6),aa l,l,outs,nb,bs,K,m,w,J,x2,t))).trans ?_
    .cases j with
     |true=>
      simp only[ai,bH];rw[bga (d:=(outs,nb,bs,K,m,w)) trivial];simp only[ah,aOh,bh4];rw[eS (x:=u) aq aq]
     |false=>simp only[al,cU]
    .rw[ah];unfold bmR bmS;cases j && qi (nb:Int) (u+6) with
     |true=>
      simp only[ai,ax,bE,bI];rw[cg aq aq,ai];simp only[bQ,aj];rfl
     |false=>simp only[al,bu,bq,bm]
   rw[ah];simp only[ab,aO];rw[aS aq aq,ai];simp only[bY,aK h,ai,bE];rw[N.iY aq]
 .right;obtain rfl:k=aa l:=aq;intro R kn kx;rw[S3,aL aq,al];simp only[bt,Jc,ab,ay,oK,bm,bI,gm]
def aUk:Kl.Ok:=by rintro⟨n,l,outs,nb,bs,B,m,w⟩ ⟨j,u,A⟩;rw[aUj,as4 (d:=(0,0,n,l,outs,nb,bs,B,m,w,[])) ⟨j,u,A,rfl,0,az _,rfl,ax _⟩];simp[Jc,aqT,dM]
def aMb:Kl.RS:=rE [.n,.d (.slice qM),.d (.slice dI),.n,.d (.slice dS),.d (.slice fk),.n,.d (.slice (.slice fk))] Kl
def aUl:=Kl.eQ aUk 1 ⟨.eg aAt,trivial⟩
def aAT(c:kM):Prop:=c.2.2.1=mw c.2.1
def bcW:aAT yt:=(au fm:mw yt.2.1=ag 32 0).symm
def bg4{o:bO}{c:kM}(h:aAT c):afU (X5 o c)=c:=by obtain⟨a,b,i,t,f,u⟩:=c;obtain rfl:i=mw b:=h;rfl
def bfv{H:Int}{l:List cP}{o:bO}{x:kM}(u:aAT x):aAT (iB H l o x).1:=by
 unfold iB;split
 .exact u
 .generalize tC o l=r;have A:aAT (KR o x r.2.1 r.2.2 (mw r.1)).1:=by
   unfold KR;split
   .exact bcW
   .exact u
  have j:aAT (Uf o r.1 r.2.1 r.2.2 (mw r.1) (KR o x r.2.1 r.2.2 (mw r.1)).1).1:=by
   unfold Uf;split
   .rfl
   .exact A
  show aAT (aeu o r.1 r.2.1 r.2.2 H _).1;unfold aeu;split
  .exact j
  .exact j
def amw{H:Int}{l:List cP}{o:bO}{c:kM}(h:aAT c):sJ H l (X5 o c)=(X5 o (iB H l o c).1,(iB H l o c).2):=by unfold sJ;rw[bg4 h];rfl
def An(m:Wm)(o:bO):mS:=X5 o (lM o m)
def jP(m:Wm):List mS:=(j4 m).map (An m)
def aNf{m:Wm}{o:bO}(h:bT bK o m=aC):lM o m=yt:=by unfold lM;rw[h];rfl
def aak{m:Wm}{o:bO}{x:kM}(h:bT bK o m=aw x):lM o m=x:=by unfold lM;rw[h];rfl
def bh9{m:Wm}(A:WG m):∀o∈j4 m,CV o:=λo B=>by
 have u:=FF λp u=>(A.2.2 p u).1
 obtain⟨p,j,rfl⟩:=dE.1 (u.mem_iff.1 B);exact(A.2.2 p j).1
def Je{m:Wm}(u:WG m){o:bO}:o∈j4 m↔¬bT bK o m=aC:=by
 have j:=FF λp j=>(u.2.2 p j).1
 rw[j.mem_iff,get_none eY u.2.1,Classical.not_not]
def af6{m:Wm}(j:WG m):(j4 m).Nodup:=(FF λp u=>(j.2.2 p u).1).symm.nodup_iff.1 j.2.1
def aMk{m:Wm}(I:WG m){u:List bO}(O:u.Nodup)(T:∀x,x∈u↔¬bT bK x m=aC)(hs:u.Pairwise λx y=>DS x y=bn):u=j4 m:=by
 have j:∀x∈m.map (·.1),CV x:=λx A=>by obtain⟨p,J,rfl⟩:=dE.1 A;exact(I.2.2 p J).1
 have B:∀x,x∈u↔x∈m.map (·.1):=λx=>by rw[T x,get_none eY I.2.1,Classical.not_not]
 have J:u.Perm (m.map (·.1)):=(List.perm_ext_iff_of_nodup O I.2.1).2 B;refine NN yQ j (λx A y K a b=>AE (j x A) (j y K) a b) ⟨J,hs.imp_of_mem λ {x y} A K h=> ?_⟩;have L:=j x ((B x).1 A);have M:=j y ((B y).1 K);rw[HM L M,bJ]at h;exact adS L M h
def aOS{m:Wm}(T:(m.map (·.1)).Nodup)(hq:∀p∈m,CV p.1):(j4 m).Pairwise λx y=>DS x y=bn:=by
 have j:∀x∈m.map (·.1),CV x:=λx B=>by obtain⟨p,hp,rfl⟩:=dE.1 B;exact hq p hp
 obtain⟨u,K⟩:=ap5 yQ j;have u:(j4 m).Perm (m.map (·.1)):=u;have A:(j4 m).Nodup:=u.symm.nodup_iff.1 T |>.imp id
 refine(K.and A).imp_of_mem λ {x y} B hy ⟨L,M⟩=> ?_
 have I:=j x (u.mem_iff.1 B);have J:=j y (u.mem_iff.1 hy);rw[HM I J,bJ];refine jw λO=>M (AE I J O L)
def TP{f:bO->mS}(I:∀o,(f o).1=o):∀(j:List bO) (o:bO) (i:Int),0<=i->(o ∉ j/\gH (j.map f) o i= -1)\/∃(k:Nat) (h:k < aa j),j[k]=o/\gH (j.map f) o i=i+k
 |[],o,i,_=> .inl ⟨λh=>(by cases h),rfl⟩
 |x::j,o,i,hi=>by
  rw[cq,gH,I];by_cases u:Ty.beq bK x o=bn
  .rw[av u];exact .inr ⟨0,Nat.zero_lt_succ _,(pc _ _).1 u,(tE i).symm⟩
  .rw[au u];have K:¬x=o:=λh=>u ((pc _ _).2 h)
   rcases TP I j o (i+1) aq with⟨A,B⟩ | ⟨k,J,A,B⟩
   .exact .inl ⟨λh=>by rcases cr.1 h with h | h;exact K h.symm;exact A h,B⟩
   .exact .inr ⟨k+1,Nat.succ_lt_succ J,A,by rw[B];omega⟩
def aQJ{m:Wm}(I:WG m)(o:bO):al2 (jP m) o=An m o:=by
 rcases TP (f:=An m) (λ_=>rfl) (j4 m) o 0 (dT 0) with⟨A,u⟩ | ⟨k,B,A,u⟩
 .rw[show al2 (jP m) o=_ from axS u];unfold An;rw[aNf (jw λh=>A ((Je I).2 h))]
 .rw[je]at u;have j:k < aa (jP m):=by unfold jP;rw[cz];exact B
  rw[show al2 (jP m) o=_ from axR u,bG (t:=qM) j];have:∀h:k < aa ((j4 m).map (An m)),((j4 m).map (An m))[k]=An m o:=λh=>by rw[List.getElem_map,A]
  exact this j
def acj{m:Wm}(j:WG m):aa (jP m)=aa m:=by unfold jP;rw[cz,(FF λp u=>(j.2.2 p u).1).length_eq,cz]
def bbb{m:Wm}(j:WG m):∀x∈jP m,mE x.2.2.1/\aa x.1.1=32:=λx B=>by obtain⟨o,u,rfl⟩:=dE.1 B;exact⟨(al3 (λp A=>(j.2.2 p A).2) o).1,(bh9 j o u).1⟩
def aIp{m:Wm}(h:∀o x,bT bK o m=aw x->aAT x)(o:bO):aAT (lM o m):=by
 cases e:bT bK o m with
 |none=>rw[aNf e];exact bcW
 |some x=>rw[aak e];exact h o x e
def aTb{m:Wm}(J:WG m){o:bO}(K:CV o)(hw:WG (Pa o m)):jP (Pa o m)=if gH (jP m) o 0= -1 then aIM (jP m) o else jP m:=by
 rcases TP (f:=An m) (λ_=>rfl) (j4 m) o 0 (dT 0) with⟨A,I⟩ | ⟨k,hk,A,I⟩;rotate_left
 .have I:gH (jP m) o 0=(k:Int):=I.trans (je _);have hs:(bT bK o m).isSome=bn:=by
   have:=(Je J).1 (A▸aD hk);cases e:bT bK o m with
   |none=>exact absurd e this
   |some x=>rfl
  rw[I,au aq];unfold Pa;rw[av hs]
 have I:gH (jP m) o 0= -1:=I;have hn:bT bK o m=aC:=jw λh=>A ((Je J).2 h)
 have ew:Pa o m=fi bK o yt m:=by unfold Pa;rw[hn];rfl
 rw[I,av rfl];rw[ew]at hw ⊢;have hg:∀x,bT bK x (fi bK o yt m)=if x=o then aw yt else bT bK x m:=λx=>by
  rw[HU eY];by_cases e:x=o
  .rw[av ((pc _ _).2 e),av e]
  .rw[au (λh=>e ((pc _ _).1 h)),au e]
 have hS:=aOS J.2.1 λp hp=>(J.2.2 p hp).1
 have hq:=bh9 J;have hM:∀x,x∈j4 m↔¬bT bK x m=aC:=λx=>Je J
 have hN:=af6 J;have M:aIM (jP m) o=((j4 m).take (aa ((j4 m).takeWhile λx=>DS x o))).map (An m)++X5 o yt::((j4 m).drop (aa ((j4 m).takeWhile λx=>DS x o))).map (An m):=by unfold aIM jP;rw[List.takeWhile_map,cz,List.map_take,List.map_drop];rfl
 rw[M];unfold jP;generalize j4 m=j at A hS hq hM hN ⊢;have e1:j.take (aa (j.takeWhile λx=>DS x o))=j.takeWhile λx=>DS x o:=by have:=List.takeWhile_append_dropWhile (p:=λx=>DS x o) (l:=j);generalize j.takeWhile (λx=>DS x o)=a at this ⊢;generalize j.dropWhile (λx=>DS x o)=b at this;subst this;rw[iA (ax _),bI]
 have e2:j.drop (aa (j.takeWhile λx=>DS x o))=j.dropWhile λx=>DS x o:=by have:=List.takeWhile_append_dropWhile (p:=λx=>DS x o) (l:=j);generalize j.takeWhile (λx=>DS x o)=a at this ⊢;generalize j.dropWhile (λx=>DS x o)=b at this ⊢;subst this;rw[List.drop_append_of_le_length (ax _),ay];rfl
 rw[e1,e2];have e3:=List.takeWhile_append_dropWhile (p:=λx=>DS x o) (l:=j);have a1:∀x∈j.takeWhile (λx=>DS x o),DS x o=bn:=λx u=>by have:=List.all_takeWhile (p:=λx=>DS x o) (l:=j);exact eA.1 this x u
 have a2:∀x∈j.dropWhile (λx=>DS x o),DS o x=bn:=by
  have O:(j.dropWhile λx=>DS x o).Pairwise λx y=>DS x y=bn:=hS.sublist (pQ _)
  have hd:=List.head?_dropWhile_not (λx=>DS x o) j;have B:∀x∈j.dropWhile (λx=>DS x o),CV x/\¬x=o:=λx u=>by have u:=(pQ _).subset u;exact⟨hq x u,λe=>A (e▸u)⟩
  cases hb:j.dropWhile (λx=>DS x o) with
  |nil=>intro x u;cases u
  |cons b t=>
   rw[hb]at hd O B;obtain⟨L,nb⟩:=B b aY;have hd:DS b o=aZ:=by simpa using hd
   have tW:DS o b=bn:=by rw[HM K L,bJ];rw[HM L K,iR]at hd;exact jw λh=>nb (AE L K hd h)
   intro x u;rcases cr.1 u with rfl | hx'
   .exact tW
   .have:=(gQ.1 O).1 x hx';have qx:=(B x u).1;rw[HM K qx,bJ];rw[HM K L,bJ]at tW;rw[HM L qx,bJ]at this;exact yQ.trans _ _ _ K L qx tW this
 have key:(j.takeWhile λx=>DS x o)++o::(j.dropWhile λx=>DS x o)=j4 (fi bK o yt m):=by
  rw[<-e3]at hS hN;obtain⟨p1,p2,p3⟩:=rU.1 hS;obtain⟨n1,n2,n3⟩:=List.nodup_append.1 hN;refine aMk hw ?_ (λx=> ?_) ?_
  .refine List.nodup_append.2 ⟨n1,db.2 ⟨λh=>A ((pQ _).subset h),n2⟩,λa T b hb=> ?_⟩;rcases cr.1 hb with rfl | hb
   .exact λe=>A (e▸(pT _).subset T)
   .exact n3 a T b hb
  .rw[hg x];have:x∈j↔x∈(j.takeWhile λx=>DS x o)\/x∈(j.dropWhile λx=>DS x o):=by rw[<-bZ,e3]
   rw[bZ,cr];by_cases e:x=o
   .rw[av e];exact⟨λ_ h=>(by cases h),λ_=> .inr (.inl e)⟩
   .rw[au e,<-hM x,this];exact⟨λh=>h.elim .inl λh=>h.elim (λh=>absurd h e) .inr,λh=>h.elim .inl λh=> .inr (.inr h)⟩
  .refine rU.2 ⟨p1,gQ.2 ⟨a2,p2⟩,λa T b hb=> ?_⟩;rcases cr.1 hb with rfl | hb
   .exact a1 a T
   .exact p3 a T b hb
 rw[<-key,qR,cq];have eo:An (fi bK o yt m) o=X5 o yt:=by unfold An;rw[aak ((hg o).trans (av rfl))]
 have en:∀x,¬x=o->An (fi bK o yt m) x=An m x:=λx u=>by unfold An lM;rw[hg x,au u]
 rw[eo,eE λx u=>en x λe=>A (e▸(pT _).subset u),eE λx u=>en x λe=>A (e▸(pQ _).subset u)]
def aS9{m:Wm}(A:WG m)(o:bO)(hw:WG (fV bK o m)):jP (fV bK o m)=if gH (jP m) o 0= -1 then jP m else aCo (jP m) (gH (jP m) o 0).toNat:=by
 have hg:∀x,bT bK x (fV bK o m)=if x=o then aC else bT bK x m:=λx=>by
  rw[ajL eY x o A.2.1];by_cases e:x=o
  .rw[av ((pc _ _).2 e),av e]
  .rw[au (λh=>e ((pc _ _).1 h)),au e]
 have O:∀x,¬x=o->An (fV bK o m) x=An m x:=λx B=>by unfold An lM;rw[hg x,au B]
 have T:=aOS A.2.1 λp hp=>(A.2.2 p hp).1
 have hM:∀x,x∈j4 m↔¬bT bK x m=aC:=λx=>Je A
 have M:=af6 A;have J:∀ {I:List bO},(∀x,x∈I↔¬x=o/\x∈j4 m)->∀x,x∈I↔¬bT bK x (fV bK o m)=aC:=λh x=>by
  rw[h x,hg x,hM x];by_cases e:x=o
  .rw[av e];exact⟨λh=>absurd e h.1,λh=>absurd rfl h⟩
  .rw[au e];exact⟨λh=>h.2,λh=>⟨e,h⟩⟩
 rcases TP (f:=An m) (λ_=>rfl) (j4 m) o 0 (dT 0) with⟨K,j⟩ | ⟨k,hk,K,j⟩
 .have j:gH (jP m) o 0= -1:=j;rw[j,av rfl];have:=aMk hw M (J λx=>⟨λh=>⟨λe=>K (e▸h),h⟩,λh=>h.2⟩) T;unfold jP;rw[<-this,eE λx B=>O x λe=>K (e▸B)]
 .have j:gH (jP m) o 0=(k:Int):=j.trans (je _);rw[j,au aq,ab];have L:j4 m=(j4 m).take k++o::(j4 m).drop (k+1):=by rw[<-K,<-ak hk,ee]
  have er:aCo (jP m) k=((j4 m).take k++(j4 m).drop (k+1)).map (An m):=by unfold aCo jP;rw[qR,List.map_take,List.map_drop]
  have u:((j4 m).take k++(j4 m).drop (k+1)).Sublist (j4 m):=by
   conv=>rhs;rw[L]
   exact List.Sublist.append_left (List.sublist_cons_self _ _) _
  have ho:o ∉ (j4 m).take k++(j4 m).drop (k+1):=by
   have:=M;rw[L]at this;obtain⟨_,n2,n3⟩:=List.nodup_append.1 this;intro h;rcases bZ.1 h with h | h
   .exact n3 o h o aY rfl
   .exact(db.1 n2).1 h
  have:=aMk hw (M.sublist u) (J λx=>⟨λh=>⟨λe=>ho (e▸h),u.subset h⟩,λh=>by
   have h3:=h.2;rw[L]at h3;rcases bZ.1 h3 with h3 | h3
   .exact bZ.2 (.inl h3)
   .rcases cr.1 h3 with h3 | h3
    .exact absurd h3 h.1
    .exact bZ.2 (.inr h3)⟩) (T.sublist u)
  rw[er];show(j4 (fV bK o m)).map _=_;rw[<-this];exact eE λx B=>O x λe=>ho (e▸B)
def amL{o:bO}{v:kM}:∀ {m:Wm} {x:kM},bT bK o m=aw x->(fi bK o v m).map (·.1)=m.map (·.1)
 |[],x,h=>by rw[uh]at h;cases h
 |p::l,x,h=>by
  rw[fU]at h;rw[sP];split at h
  .rename_i j;rw[av j,cq,cq,(pc _ _).1 j]
  .rename_i j;rw[au j,cq,cq,amL h]
def aI1{H:Int}{l:List cP}{S:Wm×List tI}{o:bO}{x:kM}(u:bT bK o S.1=aw x):
  (∀q,bT bK q (lookW H l S o).1=if q=o then aw (iB H l o x).1 else bT bK q S.1)/\(lookW H l S o).2=S.2++(iB H l o x).2/\(lookW H l S o).1.map (·.1)=S.1.map (·.1):=by
 have B:lM o S.1=x:=by unfold lM;rw[u];rfl
 unfold lookW;rw[B];split
 .rename_i A;have e:iB H l o x=(x,[]):=by unfold iB;rw[av A]
  rw[e];refine⟨λq=> ?_,(bm _).symm,rfl⟩;by_cases j:q=o
  .rw[av j,j,u]
  .rw[au j]
 .refine⟨λq=> ?_,rfl,amL u⟩;show bT bK q (fi bK o _ S.1)=_;rw[HU eY];by_cases j:q=o
  .rw[av ((pc _ _).2 j),av j]
  .rw[au (λh=>j ((pc _ _).1 h)),au j]
def alT{α β:Type}{f g:α->List β}:∀ {l:List α},(∀x∈l,f x=g x)->l.flatMap f=l.flatMap g
 |[],_=>rfl
 |x::l,h=>by rw[c9,c9,h x aY,alT λy j=>h y (aT _ j)]
def aus{H:Int}{l:List cP}:∀(j:List bO) {S:Wm×List tI},j.Nodup->(∀o∈j,¬bT bK o S.1=aC)->
  (j.foldl (lookW H l) S).1.map (·.1)=S.1.map (·.1)/\(j.foldl (lookW H l) S).2=S.2++j.flatMap (λo=>(iB H l o (lM o S.1)).2)/\∀q x,bT bK q S.1=aw x->bT bK q (j.foldl (lookW H l) S).1=aw (if q∈j then(iB H l q x).1 else x)
 |[],S,_,_=>⟨rfl,(bm _).symm,λq x h=>by rw[au (λh=>by cases h)];exact h⟩
 |o::j,S,hn,hs=>by
  obtain⟨u,K⟩:=db.1 hn;obtain⟨y,J⟩:∃y,bT bK o S.1=aw y:=by
   cases e:bT bK o S.1 with
   |none=>exact absurd e (hs o aY)
   |some y=>exact⟨y,rfl⟩
  obtain⟨A,h2,h3⟩:=aI1 (H:=H) (l:=l) J;have M:∀O∈j,¬bT bK O (lookW H l S o).1=aC:=λO L=>by
   rw[A];split
   .exact λh=>(by cases h)
   .exact hs O (aT _ L)
  obtain⟨g1,g2,T⟩:=aus (H:=H) (l:=l) j K M;rw[bN];refine⟨g1.trans h3,?_,λq x I=> ?_⟩
  .rw[g2,h2,c9,aR,aak J];congr 2;refine alT λq I=> ?_
   unfold lM;rw[A,au (show ¬q=o from λe=>u (e▸I))]
  .by_cases e:q=o
   .subst e;obtain rfl:y=x:=by rw[I]at J;exact(cj J).symm
    rw[T q (iB H l q y).1 (by rw[A,av rfl]),au u,av aY]
   .rw[T q x (by rw[A,au e];exact I)];by_cases B:q∈j
    .rw[av B,av (aT _ B)]
    .rw[au B,au (λh=>by rcases cr.1 h with h | h;exact e h;exact B h)]
def aTa{A0:At}{b nb n:Nat}{a:At}{s:List cF}{bs:List cP}(h:tA A0 b nb n a s bs){m:Wm}(j:WG m)(T:∀o x,bT bK o m=aw x->aAT x):
  WG (gM nb bs m).1/\(∀o x,bT bK o (gM nb bs m).1=aw x->aAT x)/\(gM nb bs m).1.length=aa m/\jP (gM nb bs m).1=(jP m).map (λx=>(sJ nb (bs.take nb) x).1)/\(gM nb bs m).2=(jP m).flatMap λx=>(sJ nb (bs.take nb) x).2:=by
 obtain⟨k1,k2,k3⟩:=aus (H:=nb) (l:=bs.take nb) (j4 m) (S:=(m,[])) (af6 j) λo A=>(Je j).1 A
 have B:∀q x,bT bK q m=aw x->bT bK q (gM nb bs m).1=aw (iB nb (bs.take nb) q x).1:=λq x K=>(k3 q x K).trans (by rw[av ((Je j).2 λe=>by rw[K]at e;cases e)])
 have O:∀q,bT bK q m=aC->bT bK q (gM nb bs m).1=aC:=λq K=>by
  have L:((gM nb bs m).1.map (·.1)).Nodup:=by rw[show(gM nb bs m).1.map (·.1)=m.map (·.1) from k1];exact j.2.1
  rw[get_none eY L,show(gM nb bs m).1.map (·.1)=m.map (·.1) from k1,<-get_none eY j.2.1];exact K
 have k1:(gM nb bs m).1.map (·.1)=m.map (·.1):=k1;have L:((gM nb bs m).1.map (·.1)).Nodup:=by rw[k1];exact j.2.1
 have kl:(gM nb bs m).1.length=aa m:=by have:=bA aa k1;rwa[cz,cz]at this
 have J:∀o x,bT bK o (gM nb bs m).1=aw x->∃y,bT bK o m=aw y/\x=(iB nb (bs.take nb) o y).1:=λo x u=>by
  cases e:bT bK o m with
  |none=>rw[O o e]at u;cases u
  |some y=>
   rw[B o y e]at u;exact⟨y,rfl,(cj u).symm⟩
 have hw:WG (gM nb bs m).1:=by refine⟨by rw[kl];exact j.1,L,λp hp=> ?_⟩;have u:bT bK p.1 (gM nb bs m).1=aw p.2:=(lO eY L).2 hp;obtain⟨y,hy,e⟩:=J _ _ u;have I:=(lO eY j.2.1).1 hy;exact⟨(j.2.2 _ I).1,by rw[e];exact aNx h _ _ (j.2.2 _ I).2⟩
 have ek:j4 (gM nb bs m).1=j4 m:=by unfold j4;rw[k1]
 have M:∀o∈j4 m,lM o (gM nb bs m).1=(iB nb (bs.take nb) o (lM o m)).1:=λo A=>by
  cases e:bT bK o m with
  |none=>exact absurd e ((Je j).1 A)
  |some y=>rw[aak (B o y e),aak e]
 refine⟨hw,λo x u=> ?_,kl,?_,?_⟩
 .obtain⟨y,hy,rfl⟩:=J _ _ u;exact bfv (T _ _ hy)
 .unfold jP;rw[ek,yz];refine eE λo A=> ?_
  show An _ o=(sJ nb (bs.take nb) (An m o)).1;unfold An;rw[amw (aIp T o),M o A]
 .refine k2.trans ((bf _).trans ?_);unfold jP;rw[List.flatMap_map];refine alT λo A=> ?_
  show _=(sJ nb (bs.take nb) (An m o)).2;unfold An;rw[amw (aIp T o)]
section
def bib(a:Uu):Prop:=aa a.2.1<=4/\akm a.2.1/\CV a.2.2.2.1
def aXy{outs:List dW}{j:List Uu}(h:ad4 outs j=bn)(I:∀a∈j,(∀t∈a.2.1,mE t)/\CV a.2.2.2.1):aa j<=20/\∀a∈j,bib a:=by unfold ad4 at h;simp only[aQ,bJ,eA]at h;obtain⟨K,_,L⟩:=h;refine⟨L,λa A=> ?_⟩;have u:=K a A;unfold Uw at u;simp only[aQ,bJ,eA]at u;obtain⟨u,M⟩:=u;refine⟨u,⟨aq,λt J=>⟨(I a A).1 t J,?_⟩⟩,(I a A).2⟩;have B:=M t J;unfold as0 at B;simp only[aQ,bJ]at B;omega
structure aO4(k nb n:Nat)(a:At)(s:List cF)(bs:List cP)(R:aq9)(m:Wm)(rz:List mS):Prop where
 ex:∃A0,tA A0 (4*k) nb n a s bs/\Zb A0 (4*k) R/\Gq R.1=aw A0
 og:∀o∈R.1,Pj o
 eq:R.2.2.1=bs.take nb
 le:nb<=9*k
 wg:WG m
 ml:aa m<=k
 si:∀o x,bT bK o m=aw x->aAT x
 row:rz=jP m
def bhe{m:Wm}(j:WG m){o:bO}(B:CV o)(A:aa m+1<=1000):WG (Pa o m)/\aa (Pa o m)<=aa m+1:=by
 unfold Pa;split
 .exact⟨j,kW _⟩
 .have u:aa (fi bK o yt m)<=aa m+1:=by
   unfold fi;split
   .rw[qQ];exact kW _
   .rw[aj];exact ax _
  refine⟨⟨fa u A,Qz eY j.2.1,λp hp=> ?_⟩,u⟩;rcases auy hp with rfl | hp
  .exact⟨B,aiU⟩
  .exact j.2.2 p hp
def bek{m:Wm}(u:WG m)(o:bO):WG (fV bK o m)/\aa (fV bK o m)<=aa m:=by
 have j:(fV bK o m).Sublist m:=by
  unfold fV;split
  .exact List.eraseIdx_sublist _ _
  .exact List.Sublist.refl _
 exact⟨⟨fa j.length_le u.1,Qy eY u.2.1,λp A=>u.2.2 p (j.subset A)⟩,j.length_le⟩
def bhd{m:Wm}(h:∀o x,bT bK o m=aw x->aAT x)(o:bO):∀q x,bT bK q (Pa o m)=aw x->aAT x:=by
 unfold Pa;split
 .exact h
 .intro q x j;rw[HU eY]at j;split at j
  .obtain rfl:=cj j;exact bcW
  .exact h q x j
def bej{m:Wm}(u:WG m)(h:∀o x,bT bK o m=aw x->aAT x)(o:bO):∀q x,bT bK q (fV bK o m)=aw x->aAT x:=by
 intro q x j;rw[ajL eY q o u.2.1]at j;split at j
 .cases j
 .exact h q x j
def aDp{H:Int}{l:List cP}{o:bO}{x:kM}(A:aAS x)(u:(tC o l).2.2=bn->ig (tC o l).1=bn):∀e∈(iB H l o x).2,FL e.2.2.1:=by
 unfold iB;split
 .intro e he;cases he
 .generalize tC o l=r at u;intro e he;simp only[bZ]at he;rcases he with(he | he) | he
  .unfold KR at he;split at he
   .rename_i j;unfold Dz at j;simp only[aQ]at j;rw[bM]at he;subst he;exact Sb (A.2 j.1)
   .cases he
  .unfold Uf at he;split at he
   .rename_i j;simp only[aQ]at j;rw[bM]at he;subst he;exact Sb (u j.1)
   .cases he
  .unfold aeu at he;split at he
   .rename_i j;simp only[aQ]at j;rw[bM]at he;subst he;exact Sb (u j.1)
   .cases he
def Zb.br3{u:At}{m:Nat}{S:aq9}(h:Zb u m S)(hg:∀o∈S.1,Pj o)(e:Gq S.1=aw u)(d:Int){l:List cP}(hb:∀b∈l,bcY b)(hn:S.2.1+aa l<=1000):
  (¬((1<=d/\d<=S.2.1/\d < aa l/\d<=6)/\PB u (S.2.2.1.take (S.2.1 - d.toNat)) l=0)->∃e,uD (d,l,S)= .inl (e,S))/\
  ((1<=d/\d<=S.2.1/\d < aa l/\d<=6)/\PB u (S.2.2.1.take (S.2.1 - d.toNat)) l=0->∃S2:aq9,uD (d,l,S)= .inr (0,S.1,S2.2.1,S.2.2.1,S.2.2.2.1,S.2.2.2.2.1,S.2.2.2.2.2,S2.2.2)/\S2.1=S.1/\Zb u (m+oY l) S2/\S2.2.2.1=S.2.2.1.take (S.2.1 - d.toNat)++l):=by
 obtain⟨B,J,I⟩:=h.back hg e (S.2.1 - d.toNat);have O:Pt d S=xd (S.2.2.1.take (S.2.1 - d.toNat)) (S.1,0,[],u.map CP,0,[]):=by unfold Pt;rw[e]
 rw[<-O]at B J I;have hT:=h.bqQ;have ht:=afV S.2.2.1 (S.2.1 - d.toNat);have K:(Pt d S).2.1<=S.2.1:=by rw[<-B.2.1,I,bw];omega
 obtain⟨L,M⟩:=aOd l B hb aq;rw[I]at L M;by_cases j:1<=d/\d<=S.2.1/\d < aa l;rotate_left
 .exact⟨λ_=>⟨1,au j⟩,λx=>absurd ⟨x.1.1,x.1.2.1,x.1.2.2.1⟩ j⟩
 by_cases A:d<=6;rotate_left
 .exact⟨λ_=>⟨25,(av j).trans (au A)⟩,λx=>absurd x.1.2.2.2 A⟩
 have T:uD (d,l,S)=if(jM l (Pt d S)).1≠0 then .inl ((jM l (Pt d S)).1,S)
   else .inr (0,S.1,(jM l (Pt d S)).2.2.1,S.2.2.1,S.2.2.2.1,S.2.2.2.2.1,S.2.2.2.2.2,(jM l (Pt d S)).2.2.2):=(av j).trans (av A)
 rw[T,L];refine⟨λx=>⟨_,av λy=>x ⟨⟨j.1,j.2.1,j.2.2,A⟩,y⟩⟩,λx=> ?_⟩;obtain⟨q1,q2,q3⟩:=M x.2;exact⟨(jM l (Pt d S)).2,au λy=>y x.2,q2.trans J,q1.mono aq,q3⟩
def aFe(x:Uu)(l:List cP)(R:aq9)(rz:List mS):aq9×List mS×List tI:=
 if aU0 (jC x) then((rR (nth dS l 0) R).2,rz,[])
 else if bfh (jC x) then(match uD (x.2.2.1,l,R) with | .inl y=>y.2 | .inr y=>(y.2.1,y.2.2.1,y.2.2.2.2.2.2.2),rz,[])
 else if jC x=5 then(R,if gH rz x.2.2.2.1 0= -1 then aIM rz x.2.2.2.1 else rz,[])
 else if jC x=6 then(R,if gH rz x.2.2.2.1 0= -1 then rz else aCo rz (gH rz x.2.2.2.1 0).toNat,[])
 else if jC x=7 then(R,rz.map (λy=>(sJ R.2.1 R.2.2.1 y).1),rz.flatMap λy=>(sJ R.2.1 R.2.2.1 y).2)
 else(R,rz,[])
def ara(y:alG):List tI×Nat×Nat×At×List cF×List cP×Wm:=match y with
 | .inl y=>y
 | .inr y=>(y.1,y.2.1,y.2.2.2.2.2.2.2.1,y.2.2.2.2.2.2.2.2.1,y.2.2.2.2.2.2.2.2.2.1,y.2.2.2.2.2.2.2.2.2.2,y.2.2.2.2.2.2.1)
def aYl{x:Uu}(h:aU0 (jC x)=bn):jC x < 3:=by unfold aU0 oC at h;simp only[vI,lZ]at h;rcases h with h | h | h <;> rw[h] <;> decide
section
variable {k nb n:Nat} {a:At} {s:List cF} {bs:List cP} {R:aq9} {m:Wm} {rz:List mS}
def aO4.bqD(h:aO4 k nb n a s bs R m rz):R.2.1=nb:=by obtain⟨A,j,u,_⟩:=h.ex;have:=u.2.1;rw[h.eq,bw]at this;have:=j.ch.1;omega
def aO4.mono(h:aO4 k nb n a s bs R m rz):aO4 (k+1) nb n a s bs R m rz:=by obtain⟨j,u,A,e⟩:=h.ex;exact⟨⟨j,u.mono aq,A.mono aq,e⟩,h.og,h.eq,by have:=h.le;omega,h.wg,by have:=h.ml;omega,h.si,h.row⟩
def aO4.okB(h:aO4 k nb n a s bs R m rz):bm4 R.2.2.1:=by obtain⟨B,u,_,_⟩:=h.ex;rw[h.eq];intro b j;have:=u.ch.2.2 b (fw j);exact⟨this.1.1,λt A=>u.bnE j A⟩
def aO4.step(h:aO4 k nb n a s bs R m rz)(hk:k < 20){x:Uu}(hx:bib x):
  aO4 (k+1) (ara (kH (x,nb,n,a,s,bs,m))).2.1 (ara (kH (x,nb,n,a,s,bs,m))).2.2.1 (ara (kH (x,nb,n,a,s,bs,m))).2.2.2.1 (ara (kH (x,nb,n,a,s,bs,m))).2.2.2.2.1 (ara (kH (x,nb,n,a,s,bs,m))).2.2.2.2.2.1 (aFe x (Cm x nb bs) R rz).1 (ara (kH (x,nb,n,a,s,bs,m))).2.2.2.2.2.2 (aFe x (Cm x nb bs) R rz).2.1/\
  (ara (kH (x,nb,n,a,s,bs,m))).1=(aFe x (Cm x nb bs) R rz).2.2/\(∀e∈(aFe x (Cm x nb bs) R rz).2.2,FL e.2.2.1)/\(aFe x (Cm x nb bs) R rz).2.2.length<=3000:=by
 obtain⟨a4,ht,hq⟩:=hx;obtain⟨J,I,hr,e0⟩:=h.ex;have hR:=h.bqD;have hle:=h.le;have bjk:=h.ml;have bi4:nb<=aa bs:=I.ch.1;obtain⟨g1,g2,g3,g4⟩:=aHA ht (nb:=nb) aq bs;simp only[kH,aFe];generalize hl:Cm x nb bs=l at g1 g2 g3 g4 ⊢;have gS:∀b∈l,bcY b:=λb hb=>⟨g1 b hb,by have:=acS hb;omega⟩
 have nil:∀e∈([]:List tI),FL e.2.2.1:=λe j=>(by cases j)
 cases h3:aU0 (jC x) with
 |true=>
  have g4:=g4 (aYl h3);have A:nth dS l 0∈l:=by rw[bG (t:=dS) (show 0 < aa l by omega)];exact aD _
  have bq6:=acS A;simp only[bQ];refine⟨?_,rfl,nil,az _⟩;generalize nth dS l 0=b at A bq6 ⊢;have j:=I.err b;obtain⟨r1,u⟩:=hr.add aq (gS b A);rw[h.eq]at u;show aO4 (k+1) (lX b nb (n,a,s) bs).2.1 (lX b nb (n,a,s) bs).2.2.1 (lX b nb (n,a,s) bs).2.2.2.1 (lX b nb (n,a,s) bs).2.2.2.2.1 (lX b nb (n,a,s) bs).2.2.2.2.2 _ m rz;rcases I.add (g1 b A) (m':=4*(k+1)) aq aq with⟨e,h0,ha⟩ | ⟨n',a',s',ha,hc',_,_⟩
  .rw[ha]at j ⊢;have j:e=PA J (bs.take nb) b:=j;rcases u with⟨_,u⟩ | ⟨u,_⟩
   .rw[u];exact h.mono
   .exact absurd (j.trans u) h0
  .rw[ha]at j ⊢;have j:0=PA J (bs.take nb) b:=j;rcases u with⟨u,_⟩ | ⟨_,u,r3,r4⟩
   .exact absurd j.symm u
   .have L:aa (bs.take nb++ [b])=nb+1:=by rw[aj,bw];simp only[aB,bl];omega
    exact⟨⟨J,hc',u.mono aq,by rw[r3];exact e0⟩,by rw[r3];exact h.og,by rw[r4];exact(bp (pU L)).symm,by show nb+1<=_;omega,h.wg,aq,h.si,h.row⟩
 |false=>
  simp only[bu,bq];cases h4:bfh (jC x) with
  |true=>
   simp only[bQ];obtain⟨M,O⟩:=hr.br3 h.og e0 x.2.2.1 gS aq;rw[hR,h.eq]at M O;have etk:(bs.take nb).take (nb - x.2.2.1.toNat)=bs.take (nb - x.2.2.1.toNat):=by rw[rV,qS aq]
   rw[etk]at M O;rcases I.baK x.2.2.1 g1 aq aq with⟨p1,e,_,p2⟩ | ⟨p1,n',a',s',K,p2,p3,p4⟩
   .obtain⟨e',M⟩:=M p1;have hF:ajy x.2.2.1 l nb n a s bs= .inl (e,nb,n,a,s,bs):=by unfold ajy;rw[p2];rfl
    rw[hF,M];exact⟨h.mono,rfl,nil,az _⟩
   .obtain⟨S2,O,q3,q4,q5⟩:=O p1;have hF:ajy x.2.2.1 l nb n a s bs= .inr (0,nb - x.2.2.1.toNat+aa l,n,a,s,bs,n',a',s',K):=by unfold ajy;rw[p2];rfl
    rw[hF,O];refine⟨?_,rfl,nil,az _⟩;refine⟨⟨J,p3.mono aq,?_,e0⟩,h.og,?_,by show nb - x.2.2.1.toNat+aa l<=_;omega,h.wg,by show aa m<=_;omega,h.si,h.row⟩
    .have:(R.1,S2.2.1,S2.2.2)=S2:=by rw[<-q3]
     show Zb J _ (R.1,S2.2.1,S2.2.2);rw[this];exact q4.mono aq
    .show S2.2.2.1=K.take (nb - x.2.2.1.toNat+aa l);rw[q5,p4]
  |false=>
   simp only[bu,bq];show aO4 (k+1) nb n a s bs _ (aLm x nb bs m).1 _/\(aLm x nb bs m).2=_/\_;unfold aLm;by_cases T:jC x=5
   .rw[av T,av T];obtain⟨B,w2⟩:=bhe h.wg hq aq;refine⟨⟨h.mono.ex,h.og,h.eq,aq,B,by show aa (Pa _ m)<=_;omega,bhd h.si _,?_⟩,rfl,nil,az _⟩;rw[h.row];exact(aTb h.wg hq B).symm
   rw[au T,au T];by_cases c6:jC x=6
   .rw[av c6,av c6];obtain⟨B,w2⟩:=bek h.wg x.2.2.2.1;refine⟨⟨h.mono.ex,h.og,h.eq,aq,B,by show aa (fV bK x.2.2.2.1 m)<=_;omega,bej h.wg h.si _,?_⟩,rfl,nil,az _⟩;rw[h.row];exact(aS9 h.wg _ B).symm
   rw[au c6,au c6];by_cases c7:jC x=7
   .rw[av c7,av c7];obtain⟨B,w2,w3,w4,w5⟩:=aTa I h.wg h.si;rw[h.row,hR,h.eq];refine⟨⟨h.mono.ex,h.og,h.eq,aq,B,by show(gM nb bs m).1.length<=_;omega,w2,w4.symm⟩,w5,λe j=> ?_,?_⟩
    .obtain⟨y,hy,j⟩:=tK.1 j;obtain⟨o,ho,rfl⟩:=dE.1 hy;unfold An at j;rw[amw (aIp h.si o)]at j;exact aDp (al3 (λp hp=>(h.wg.2.2 p hp).2) o) (λe=>((aLA I o).2.1 e).1) e j
    .have:∀l:List mS,aa (l.flatMap λy=>(sJ nb (bs.take nb) y).2)<=3*aa l:=λl=>by
      induction l with
      |nil=>exact ax _
      |cons y l ih=>
       rw[c9,aj,aB];have:=auq nb (bs.take nb) y;omega
     have h1:=this (jP m);rw[acj h.wg]at h1;exact fa h1 aq
   rw[au c7,au c7];exact⟨h.mono,rfl,nil,az _⟩
end
end
abbrev CT:=(List Uu)×Bool×Int×Nat×Nat×(List (bO×fh))×(List cF)×(List cP)×(List dW)×Nat×(List cP)×(List de)×Nat×(List (List de))×(List (bO×kM))×Nat×(List mS)
def uT:CT->AS:=λ(J,j,i,I,O,u,A,B,T,K,wU,wV,L,wW,wX,M,wY)=>⟨([bB,aba J,bB,bB,bB,fA j,eI 167,gB 167 5 0 0,gB 167 9 0 0,gB 167 11 0 0,aU i]++aP 157 []),[],(bz 167 [[fp (.pr (gB 167 1 0 0) (CA 167 4 0 0 0 I)),auY 167 2 0 167 3 0 0 0 O,fp (DD u),fp (Ib A),Vr B,fp (.pr (qX T) (.pr (CB 167 6 0 0 0 K) (.pr (gB 167 7 0 0) Pv))),Vr wU,fp (.pr (Vs wV) (CA 167 8 0 0 0 L)),aN6 wW,fp (.pr (QS 167 10 0) Pv),Ox wX,fp (CA 167 12 0 0 0 M),fp (.vec 112 qM wY)]])⟩
def gf:Unit->Exit×AS:=λx=>(.ret,⟨(aP 4 ([me]++aP 163 [])),[],(ag 168 [])⟩)
def Ch:Bool->Exit×AS:=λx=>(.exit 0,⟨(aP 5 ([fA x]++aP 162 [])),[],(ag 168 [])⟩)
abbrev Te:=(Unit)⊕(Bool)
abbrev aiT:=(Unit)⊕(Bool)
def Ko:Te->Out (Exit×AS):=λx=> .br x.isLeft (.get x.getLeft? λa=> .ok (gf a)) (.get x.getRight? λb=> .ok (Ch b))
def Cg:CT->aiT->Te:=λ(J,j,i,I,O,u,A,B,T,K,wU,wV,L,wW,wX,M,wY) y=>match y with | .inl y=> .inl y | .inr z=> .inr (z)
abbrev Cb:=(List Uu)×Bool×Int×(List cP)×Int×Bool×Nat×Nat×(List (bO×fh))×(List cF)×(List cP)×(List dW)×Nat×(List cP)×(List de)×Nat×(List (List de))×(List (bO×kM))×Nat×(List mS)×Uu
def bf3(J K L M O T q6 q7 q8 q9 j u A B I):=([fp (.pr (.ptr (.new 167 1) 0 [] 0) (.pr (.dq (.new 167 4) 0 [] 0 0 J) Pv)),fp (.pr (.iI (.new 167 2) 0) (.pr (.dq (.new 167 3) 0 [] 0 0 K) Pv)),fp (.mp bK mv L),fp (.vec 243 eh M),fp (.vec 48 dS O),fp (.pr (.d (.slice dI) T) (.pr (.dq (.new 167 6) 0 [] 0 0 q6) (.pr (.ptr (.new 167 7) 0 [] 0) Pv))),fp (.vec 48 dS q7),fp (.pr (.d (.slice fk) q8) (.pr (.dq (.new 167 8) 0 [] 0 0 q9) Pv)),fp (.vec 153 (.slice fk) j),fp (.pr (.iI (.new 167 10) 0) Pv),fp (.mp bK Au u),fp (.pr (.dq (.new 167 12) 0 [] 0 0 A) Pv),fp (.vec 112 qM B),fp (.d yr I)]:List dR)
def Ta:Cb->AS:=λ(j,u,i,l,B,I,L,ui,A,J,K,wT,O,wU,wV,T,wW,wX,qm,wY,M)=>⟨([bB,aba j,bB,bB,bB,fA u,eI 167,gB 167 5 0 0,gB 167 9 0 0,gB 167 11 0 0,aU i,gB 167 13 0 0,K4 l,.fR]++aP 58 ([aU B,fA I]++aP 94 [])),[],(bz 167 [(bf3 L ui A J K wT O wU wV T wW wX qm wY M)])⟩
def WJ:iO:=iO.of {aX:=[1,5,6,7,8,9,10,11,12,13,72,73],sites:=[11,15,18,22,24,26,27,28,31,69,81,89,95,101,106,110,115,123,129,132,136,138,139,160,164,167],at4:=aw 167} Ta
def wx:Cb->Option Cb:=λx=>(WJ).amf .normal (Ta x)
def Y4(x:Cb):wx x=aw x:=iO.rJ (fy [.d (.slice yr),.d .bool,.d ti,.d (.slice dS),.d ti,.d .bool,.n,.n,.d (.slice (.pair bK mv)),.d (.slice eh),.d (.slice dS),.d (.slice dI),.n,.d (.slice dS),.d (.slice fk),.n,.d (.slice (.slice fk)),.d (.slice (.pair bK Au)),.n,.d (.slice qM),.d yr] λ_=>bS) x
abbrev Cc:=(List Uu)×Bool×Int×(List cP)×Int×Bool×Nat×Nat×(List (bO×fh))×(List cF)×(List cP)×(List dW)×Nat×(List cP)×(List de)×Nat×(List (List de))×(List (bO×kM))×Nat×(List mS)×Uu
def Tb:Cc->AS:=λ(j,u,i,l,B,I,L,ui,A,J,K,wT,O,wU,wV,T,wW,wX,qm,wY,M)=>⟨([bB,aba j,bB,bB,bB,fA u,eI 167,gB 167 5 0 0,gB 167 9 0 0,gB 167 11 0 0,aU i,gB 167 13 0 0,K4 l,.fR]++aP 58 ([aU B]++aP 9 ([fA I]++aP 85 []))),[],(bz 167 [(bf3 L ui A J K wT O wU wV T wW wX qm wY M)])⟩
def WK:iO:=iO.of {aX:=[1,5,6,7,8,9,10,11,12,13,72,82],sites:=[11,15,18,22,24,26,27,28,31,69,81,89,95,101,106,110,115,123,129,132,136,138,139,160,164,167],at4:=aw 167} Tb
def Ds:Cc->Option Cc:=λx=>(WK).amf .normal (Tb x)
def Y5(x:Cc):Ds x=aw x:=iO.rJ (fy [.d (.slice yr),.d .bool,.d ti,.d (.slice dS),.d ti,.d .bool,.n,.n,.d (.slice (.pair bK mv)),.d (.slice eh),.d (.slice dS),.d (.slice dI),.n,.d (.slice dS),.d (.slice fk),.n,.d (.slice (.slice fk)),.d (.slice (.pair bK Au)),.n,.d (.slice qM),.d yr] λ_=>bS) x
abbrev Cd:=(List Uu)×Bool×Int×(List tI)×Nat×Nat×(List (bO×fh))×(List cF)×(List cP)×(List dW)×Nat×(List cP)×(List de)×Nat×(List (List de))×(List (bO×kM))×Nat×(List mS)×Uu
def Tc:Cd->AS:=λ(j,u,i,B,K,ui,A,I,J,wT,M,wU,wV,O,wW,wX,T,wY,L)=>⟨([bB,aba j,bB,bB,bB,fA u,eI 167,gB 167 5 0 0,gB 167 9 0 0,gB 167 11 0 0,aU i,gB 167 13 0 0,bB,abb B]++aP 154 []),[],(bz 167 [(bf3 K ui A I J wT M wU wV O wW wX T wY L)])⟩
def WL:iO:=iO.of {aX:=[1,5,6,7,8,9,10,11,13],sites:=[11,15,18,22,24,26,27,28,31,69,81,89,95,101,106,110,115,123,129,132,136,138,139,160,164,167],data:=[(13,(.slice Ah))],at4:=aw 167} Tc
def hJ:Cd->Option Cd:=λx=>(WL).amf .normal (Tc x)
def Y6(x:Cd):hJ x=aw x:=iO.rJ (fy [.d (.slice yr),.d .bool,.d ti,.d (.slice Ah),.n,.n,.d (.slice (.pair bK mv)),.d (.slice eh),.d (.slice dS),.d (.slice dI),.n,.d (.slice dS),.d (.slice fk),.n,.d (.slice (.slice fk)),.d (.slice (.pair bK Au)),.n,.d (.slice qM),.d yr] λ_=>bS) x
abbrev Ce:=(List Uu)×Bool×Int×(List tI)×(List tI)×Nat×Nat×(List (bO×fh))×(List cF)×(List cP)×(List dW)×Nat×(List cP)×(List de)×Nat×(List (List de))×(List (bO×kM))×Nat×(List mS)×Uu
def Td:Ce->AS:=λ(j,u,i,B,I,L,ui,A,J,K,wT,O,wU,wV,T,wW,wX,qm,wY,M)=>⟨([bB,aba j,bB,bB,bB,fA u,eI 167,gB 167 5 0 0,gB 167 9 0 0,gB 167 11 0 0,aU i,gB 167 13 0 0,bB,abb B,abb I]++aP 153 []),[],(bz 167 [(bf3 L ui A J K wT O wU wV T wW wX qm wY M)])⟩
def WM:iO:=iO.of {aX:=[1,5,6,7,8,9,10,11,13,14],sites:=[11,15,18,22,24,26,27,28,31,69,81,89,95,101,106,110,115,123,129,132,136,138,139,160,164,167],at4:=aw 167} Td
def Dt:Ce->Option Ce:=λx=>(WM).amf .normal (Td x)
def Y7(x:Ce):Dt x=aw x:=iO.rJ (fy [.d (.slice yr),.d .bool,.d ti,.d (.slice Ah),.d (.slice Ah),.n,.n,.d (.slice (.pair bK mv)),.d (.slice eh),.d (.slice dS),.d (.slice dI),.n,.d (.slice dS),.d (.slice fk),.n,.d (.slice (.slice fk)),.d (.slice (.pair bK Au)),.n,.d (.slice qM),.d yr] λ_=>bS) x
abbrev aGQ:=(List dW)×(List Uu)
def Cf:CT->Prop:=λ(j,_,i,nb,n,a,s,bs,outs,u,A,I,J,w,m,K,B)=>aa j<=20/\(∀x∈j,bib x)/\K=aa B/\∃k:Nat,k<=aa j/\i=k/\aO4 k nb n a s bs (outs,u,A,I,J,w) m B
def Jf:CT->aiT:=λ(_,j,_)=> .inr j
def aMl:aGQ->Prop:=λ(outs,j)=>(∀x∈outs,Pj x)/\aa j<=9223372036854775807/\∀a∈j,(∀t∈a.2.1,mE t)/\CV a.2.2.2.1
def bcP:aGQ->Bool:=λ_=>bn
def aiR:=cQ.eg uT Cf Cg Jf Ko
def Tf:CT->Option Te:=eN aiR uT
def oB:Fs prog aMl bt bcP:=eP 3 f3 (λ(outs,j)=>([.d (.slice dI) outs,.d (.slice yr) j],[])) (λx=>⟨.d .bool x,[],[]⟩) [aw (.slice dI),aw (.slice yr)] [aLx,aBM,aE6,aOU,bcq,aXx,atu,aE3,bat,aUu,aUi,aUl,adY,aGP,aUq,aoh,aJZ,aAx,bcn,bgx,awn,aL9] {loops:=ko [(11,{aX:=[1,5,6,7,8,9,10],sites:=[11,15,18,22,24,26,27,28,31,69,81,89,95,100,101,106,110,115,123,129,132,136,138,139,160,164,167],owns:=[⟨9,[.fst],100,97⟩],at4:=aw 167})],outs:=km [(11,{aX:=[5]},{aX:=[4]})],eT:=jW [(11,aiR)],aui:=jW [(20,WJ),(23,WK),(30,WL),(31,WM)]}
def aiS:= @dm prog (gU oB.G) oB.an 0 f3 0 _ uT
abbrev adn:=gr prog (gU oB.G) oB.an 0 f3 0 uT Cf Cg Jf Ko
def as8:fC Tf Cf Cg Jf:=ia (fy [.d (.slice yr),.d .bool,.d ti,.n,.n,.d (.slice (.pair bK mv)),.d (.slice eh),.d (.slice dS),.d (.slice dI),.n,.d (.slice dS),.d (.slice fk),.n,.d (.slice (.slice fk)),.d (.slice (.pair bK Au)),.n,.d (.slice qM)] λ_=>bS)
def Y8:iX @aiS uT Cf Cg Jf Ko adn:=ji
def Tg(L J i KU ui n167 AG AH wT qk wU wV ql wW wX qm wY)(kn:K2 R)(kx:K3 R):aiS (L,J,i,KU,ui,n167,AG,AH,wT,qk,wU,wV,ql,wW,wX,qm,wY) kn kx=aA (fj i (((aa L):Nat):Int)) (aA (dB i (((aa L):Nat):Int)) (ao (AB.call ((nth yr L (ae i)),KU,ui,n167,AG,AH)) λB=>ao (ao (aA (oC (cE .and .i64 (nth yr L (ae i)).1 (7:Int)) (0:Int)) (wx (L,J,i,B.1,(cE .and .i64 (nth yr L (ae i)).1 (7:Int)),(oC (cE .and .i64 (nth yr L (ae i)).1 (7:Int)) (0:Int)),B.2.1,B.2.2.1,B.2.2.2.1,B.2.2.2.2.1,B.2.2.2.2.2,wT,qk,wU,wV,ql,wW,wX,qm,wY,(nth yr L (ae i)))) (aA (oC (cE .and .i64 (nth yr L (ae i)).1 (7:Int)) (1:Int)) (wx (L,J,i,B.1,(cE .and .i64 (nth yr L (ae i)).1 (7:Int)),(oC (cE .and .i64 (nth yr L (ae i)).1 (7:Int)) (1:Int)),B.2.1,B.2.2.1,B.2.2.2.1,B.2.2.2.2.1,B.2.2.2.2.2,wT,qk,wU,wV,ql,wW,wX,qm,wY,(nth yr L (ae i)))) (wx (L,J,i,B.1,(cE .and .i64 (nth yr L (ae i)).1 (7:Int)),(oC (cE .and .i64 (nth yr L (ae i)).1 (7:Int)) (2:Int)),B.2.1,B.2.2.1,B.2.2.2.1,B.2.2.2.2.1,B.2.2.2.2.2,wT,qk,wU,wV,ql,wW,wX,qm,wY,(nth yr L (ae i)))))) λu=>aA (u.2.2.2.2.2.1) (aA (dB (0:Int) (((aa u.2.2.2.1):Nat):Int)) (ao (GS.call ((nth dS u.2.2.2.1 0),u.2.2.2.2.2.2.2.2.2.2.2.1,u.2.2.2.2.2.2.2.2.2.2.2.2.1,u.2.2.2.2.2.2.2.2.2.2.2.2.2.1,u.2.2.2.2.2.2.2.2.2.2.2.2.2.2.1,u.2.2.2.2.2.2.2.2.2.2.2.2.2.2.2.1,u.2.2.2.2.2.2.2.2.2.2.2.2.2.2.2.2.1)) λbkv=>hJ (u.1,u.2.1,u.2.2.1,([]:List tI),u.2.2.2.2.2.2.1,u.2.2.2.2.2.2.2.1,u.2.2.2.2.2.2.2.2.1,u.2.2.2.2.2.2.2.2.2.1,u.2.2.2.2.2.2.2.2.2.2.1,bkv.2.1,bkv.2.2.1,bkv.2.2.2.1,bkv.2.2.2.2.1,bkv.2.2.2.2.2.1,bkv.2.2.2.2.2.2,u.2.2.2.2.2.2.2.2.2.2.2.2.2.2.2.2.2.1,u.2.2.2.2.2.2.2.2.2.2.2.2.2.2.2.2.2.2.1,u.2.2.2.2.2.2.2.2.2.2.2.2.2.2.2.2.2.2.2.1,u.2.2.2.2.2.2.2.2.2.2.2.2.2.2.2.2.2.2.2.2)) aC) (ao (aA (oC u.2.2.2.2.1 (3:Int)) (Ds (u.1,u.2.1,u.2.2.1,u.2.2.2.1,u.2.2.2.2.1,(oC u.2.2.2.2.1 (3:Int)),u.2.2.2.2.2.2.1,u.2.2.2.2.2.2.2.1,u.2.2.2.2.2.2.2.2.1,u.2.2.2.2.2.2.2.2.2.1,u.2.2.2.2.2.2.2.2.2.2.1,u.2.2.2.2.2.2.2.2.2.2.2.1,u.2.2.2.2.2.2.2.2.2.2.2.2.1,u.2.2.2.2.2.2.2.2.2.2.2.2.2.1,u.2.2.2.2.2.2.2.2.2.2.2.2.2.2.1,u.2.2.2.2.2.2.2.2.2.2.2.2.2.2.2.1,u.2.2.2.2.2.2.2.2.2.2.2.2.2.2.2.2.1,u.2.2.2.2.2.2.2.2.2.2.2.2.2.2.2.2.2.1,u.2.2.2.2.2.2.2.2.2.2.2.2.2.2.2.2.2.2.1,u.2.2.2.2.2.2.2.2.2.2.2.2.2.2.2.2.2.2.2.1,u.2.2.2.2.2.2.2.2.2.2.2.2.2.2.2.2.2.2.2.2)) (Ds (u.1,u.2.1,u.2.2.1,u.2.2.2.1,u.2.2.2.2.1,(oC u.2.2.2.2.1 (4:Int)),u.2.2.2.2.2.2.1,u.2.2.2.2.2.2.2.1,u.2.2.2.2.2.2.2.2.1,u.2.2.2.2.2.2.2.2.2.1,u.2.2.2.2.2.2.2.2.2.2.1,u.2.2.2.2.2.2.2.2.2.2.2.1,u.2.2.2.2.2.2.2.2.2.2.2.2.1,u.2.2.2.2.2.2.2.2.2.2.2.2.2.1,u.2.2.2.2.2.2.2.2.2.2.2.2.2.2.1,u.2.2.2.2.2.2.2.2.2.2.2.2.2.2.2.1,u.2.2.2.2.2.2.2.2.2.2.2.2.2.2.2.2.1,u.2.2.2.2.2.2.2.2.2.2.2.2.2.2.2.2.2.1,u.2.2.2.2.2.2.2.2.2.2.2.2.2.2.2.2.2.2.1,u.2.2.2.2.2.2.2.2.2.2.2.2.2.2.2.2.2.2.2.1,u.2.2.2.2.2.2.2.2.2.2.2.2.2.2.2.2.2.2.2.2))) λj=>aA (j.2.2.2.2.2.1) (ao (ao7 (j.2.2.2.2.2.2.2.2.2.2.2.2.2.2.2.2.2.2.2.2.2.2.1,j.2.2.2.1,j.2.2.2.2.2.2.2.2.2.2.2.1,j.2.2.2.2.2.2.2.2.2.2.2.2.1,j.2.2.2.2.2.2.2.2.2.2.2.2.2.1,j.2.2.2.2.2.2.2.2.2.2.2.2.2.2.1,j.2.2.2.2.2.2.2.2.2.2.2.2.2.2.2.1,j.2.2.2.2.2.2.2.2.2.2.2.2.2.2.2.2.1)) λKs=>aA Ks.isLeft (ao Ks.getLeft? λT=>hJ (j.1,j.2.1,j.2.2.1,([]:List tI),j.2.2.2.2.2.2.1,j.2.2.2.2.2.2.2.1,j.2.2.2.2.2.2.2.2.1,j.2.2.2.2.2.2.2.2.2.1,j.2.2.2.2.2.2.2.2.2.2.1,T.2.1,T.2.2.1,T.2.2.2.1,T.2.2.2.2.1,T.2.2.2.2.2.1,T.2.2.2.2.2.2,j.2.2.2.2.2.2.2.2.2.2.2.2.2.2.2.2.2.1,j.2.2.2.2.2.2.2.2.2.2.2.2.2.2.2.2.2.2.1,j.2.2.2.2.2.2.2.2.2.2.2.2.2.2.2.2.2.2.2.1,j.2.2.2.2.2.2.2.2.2.2.2.2.2.2.2.2.2.2.2.2)) (ao Ks.getRight? λaUQ=>hJ (j.1,j.2.1,j.2.2.1,([]:List tI),j.2.2.2.2.2.2.1,j.2.2.2.2.2.2.2.1,j.2.2.2.2.2.2.2.2.1,j.2.2.2.2.2.2.2.2.2.1,j.2.2.2.2.2.2.2.2.2.2.1,aUQ.2.1,aUQ.2.2.1,aUQ.2.2.2.2.2.2.2.1,aUQ.2.2.2.2.2.2.2.2.1,aUQ.2.2.2.2.2.2.2.2.2.1,aUQ.2.2.2.2.2.2.2.2.2.2,j.2.2.2.2.2.2.2.2.2.2.2.2.2.2.2.2.2.1,j.2.2.2.2.2.2.2.2.2.2.2.2.2.2.2.2.2.2.1,j.2.2.2.2.2.2.2.2.2.2.2.2.2.2.2.2.2.2.2.1,j.2.2.2.2.2.2.2.2.2.2.2.2.2.2.2.2.2.2.2.2))) (aA (oC j.2.2.2.2.1 (5:Int)) (ao (aiP (j.2.2.2.2.2.2.2.2.2.2.2.2.2.2.2.2.2.2.2.2.2.2.2.1,j.2.2.2.2.2.2.2.2.2.2.2.2.2.2.2.2.2.2.1,j.2.2.2.2.2.2.2.2.2.2.2.2.2.2.2.2.2.2.2.1)) λaGS=>aA aGS.isLeft (ao aGS.getLeft? λbmX=>hJ (j.1,j.2.1,j.2.2.1,([]:List tI),j.2.2.2.2.2.2.1,j.2.2.2.2.2.2.2.1,j.2.2.2.2.2.2.2.2.1,j.2.2.2.2.2.2.2.2.2.1,j.2.2.2.2.2.2.2.2.2.2.1,j.2.2.2.2.2.2.2.2.2.2.2.1,j.2.2.2.2.2.2.2.2.2.2.2.2.1,j.2.2.2.2.2.2.2.2.2.2.2.2.2.1,j.2.2.2.2.2.2.2.2.2.2.2.2.2.2.1,j.2.2.2.2.2.2.2.2.2.2.2.2.2.2.2.1,j.2.2.2.2.2.2.2.2.2.2.2.2.2.2.2.2.1,j.2.2.2.2.2.2.2.2.2.2.2.2.2.2.2.2.2.1,bmX.1,bmX.2,j.2.2.2.2.2.2.2.2.2.2.2.2.2.2.2.2.2.2.2.2)) (ao aGS.getRight? λbmY=>hJ (j.1,j.2.1,j.2.2.1,([]:List tI),j.2.2.2.2.2.2.1,j.2.2.2.2.2.2.2.1,j.2.2.2.2.2.2.2.2.1,j.2.2.2.2.2.2.2.2.2.1,j.2.2.2.2.2.2.2.2.2.2.1,j.2.2.2.2.2.2.2.2.2.2.2.1,j.2.2.2.2.2.2.2.2.2.2.2.2.1,j.2.2.2.2.2.2.2.2.2.2.2.2.2.1,j.2.2.2.2.2.2.2.2.2.2.2.2.2.2.1,j.2.2.2.2.2.2.2.2.2.2.2.2.2.2.2.1,j.2.2.2.2.2.2.2.2.2.2.2.2.2.2.2.2.1,j.2.2.2.2.2.2.2.2.2.2.2.2.2.2.2.2.2.1,bmY.1,bmY.2.2,j.2.2.2.2.2.2.2.2.2.2.2.2.2.2.2.2.2.2.2.2))) (aA (oC j.2.2.2.2.1 (6:Int)) (ao (aiK (j.2.2.2.2.2.2.2.2.2.2.2.2.2.2.2.2.2.2.2.2.2.2.2.1,j.2.2.2.2.2.2.2.2.2.2.2.2.2.2.2.2.2.2.1,j.2.2.2.2.2.2.2.2.2.2.2.2.2.2.2.2.2.2.2.1)) λbpO=>aA bpO.isLeft (ao bpO.getLeft? λbmZ=>hJ (j.1,j.2.1,j.2.2.1,([]:List tI),j.2.2.2.2.2.2.1,j.2.2.2.2.2.2.2.1,j.2.2.2.2.2.2.2.2.1,j.2.2.2.2.2.2.2.2.2.1,j.2.2.2.2.2.2.2.2.2.2.1,j.2.2.2.2.2.2.2.2.2.2.2.1,j.2.2.2.2.2.2.2.2.2.2.2.2.1,j.2.2.2.2.2.2.2.2.2.2.2.2.2.1,j.2.2.2.2.2.2.2.2.2.2.2.2.2.2.1,j.2.2.2.2.2.2.2.2.2.2.2.2.2.2.2.1,j.2.2.2.2.2.2.2.2.2.2.2.2.2.2.2.2.1,j.2.2.2.2.2.2.2.2.2.2.2.2.2.2.2.2.2.1,bmZ.1,bmZ.2.2,j.2.2.2.2.2.2.2.2.2.2.2.2.2.2.2.2.2.2.2.2)) (ao bpO.getRight? λbm0=>hJ (j.1,j.2.1,j.2.2.1,([]:List tI),j.2.2.2.2.2.2.1,j.2.2.2.2.2.2.2.1,j.2.2.2.2.2.2.2.2.1,j.2.2.2.2.2.2.2.2.2.1,j.2.2.2.2.2.2.2.2.2.2.1,j.2.2.2.2.2.2.2.2.2.2.2.1,j.2.2.2.2.2.2.2.2.2.2.2.2.1,j.2.2.2.2.2.2.2.2.2.2.2.2.2.1,j.2.2.2.2.2.2.2.2.2.2.2.2.2.2.1,j.2.2.2.2.2.2.2.2.2.2.2.2.2.2.2.1,j.2.2.2.2.2.2.2.2.2.2.2.2.2.2.2.2.1,j.2.2.2.2.2.2.2.2.2.2.2.2.2.2.2.2.2.1,bm0.1,bm0.2,j.2.2.2.2.2.2.2.2.2.2.2.2.2.2.2.2.2.2.2.2))) (aA (oC j.2.2.2.2.1 (7:Int)) (ao (Kl.call (j.2.2.2.2.2.2.2.2.2.2.2.2.2.2.2.2.2.2.1,j.2.2.2.2.2.2.2.2.2.2.2.2.2.2.2.2.2.2.2.1,j.2.2.2.2.2.2.2.2.2.2.2.1,j.2.2.2.2.2.2.2.2.2.2.2.2.1,j.2.2.2.2.2.2.2.2.2.2.2.2.2.1,j.2.2.2.2.2.2.2.2.2.2.2.2.2.2.1,j.2.2.2.2.2.2.2.2.2.2.2.2.2.2.2.1,j.2.2.2.2.2.2.2.2.2.2.2.2.2.2.2.2.1)) λK=>hJ (j.1,j.2.1,j.2.2.1,K.1,j.2.2.2.2.2.2.1,j.2.2.2.2.2.2.2.1,j.2.2.2.2.2.2.2.2.1,j.2.2.2.2.2.2.2.2.2.1,j.2.2.2.2.2.2.2.2.2.2.1,K.2.2.2.1,K.2.2.2.2.1,K.2.2.2.2.2.1,K.2.2.2.2.2.2.1,K.2.2.2.2.2.2.2.1,K.2.2.2.2.2.2.2.2,j.2.2.2.2.2.2.2.2.2.2.2.2.2.2.2.2.2.1,K.2.1,K.2.2.1,j.2.2.2.2.2.2.2.2.2.2.2.2.2.2.2.2.2.2.2.2)) (hJ (j.1,j.2.1,j.2.2.1,([]:List tI),j.2.2.2.2.2.2.1,j.2.2.2.2.2.2.2.1,j.2.2.2.2.2.2.2.2.1,j.2.2.2.2.2.2.2.2.2.1,j.2.2.2.2.2.2.2.2.2.2.1,j.2.2.2.2.2.2.2.2.2.2.2.1,j.2.2.2.2.2.2.2.2.2.2.2.2.1,j.2.2.2.2.2.2.2.2.2.2.2.2.2.1,j.2.2.2.2.2.2.2.2.2.2.2.2.2.2.1,j.2.2.2.2.2.2.2.2.2.2.2.2.2.2.2.1,j.2.2.2.2.2.2.2.2.2.2.2.2.2.2.2.2.1,j.2.2.2.2.2.2.2.2.2.2.2.2.2.2.2.2.2.1,j.2.2.2.2.2.2.2.2.2.2.2.2.2.2.2.2.2.2.1,j.2.2.2.2.2.2.2.2.2.2.2.2.2.2.2.2.2.2.2.1,j.2.2.2.2.2.2.2.2.2.2.2.2.2.2.2.2.2.2.2.2))))))) λI=>ao (ao (fg (I.2.2.2.2.2.2.2.2.2.2.2.2.2.2.2.2.2.2,I.2.2.2.2.1,I.2.2.2.2.2.1,I.2.2.2.2.2.2.1,I.2.2.2.2.2.2.2.1,I.2.2.2.2.2.2.2.2.1,I.2.2.2.2.2.2.2.2.2.2.2.2.2.2.2.1)) λbpQ=>aA bpQ.isLeft (ao bpQ.getLeft? λM=>Dt (I.1,I.2.1,I.2.2.1,I.2.2.2.1,M.1,M.2.1,M.2.2.1,M.2.2.2.1,M.2.2.2.2.1,M.2.2.2.2.2.1,I.2.2.2.2.2.2.2.2.2.1,I.2.2.2.2.2.2.2.2.2.2.1,I.2.2.2.2.2.2.2.2.2.2.2.1,I.2.2.2.2.2.2.2.2.2.2.2.2.1,I.2.2.2.2.2.2.2.2.2.2.2.2.2.1,I.2.2.2.2.2.2.2.2.2.2.2.2.2.2.1,M.2.2.2.2.2.2,I.2.2.2.2.2.2.2.2.2.2.2.2.2.2.2.2.1,I.2.2.2.2.2.2.2.2.2.2.2.2.2.2.2.2.2.1,I.2.2.2.2.2.2.2.2.2.2.2.2.2.2.2.2.2.2)) (ao bpQ.getRight? λO=>Dt (I.1,I.2.1,I.2.2.1,I.2.2.2.1,O.1,O.2.1,O.2.2.2.2.2.2.2.1,O.2.2.2.2.2.2.2.2.1,O.2.2.2.2.2.2.2.2.2.1,O.2.2.2.2.2.2.2.2.2.2,I.2.2.2.2.2.2.2.2.2.1,I.2.2.2.2.2.2.2.2.2.2.1,I.2.2.2.2.2.2.2.2.2.2.2.1,I.2.2.2.2.2.2.2.2.2.2.2.2.1,I.2.2.2.2.2.2.2.2.2.2.2.2.2.1,I.2.2.2.2.2.2.2.2.2.2.2.2.2.2.1,O.2.2.2.2.2.2.1,I.2.2.2.2.2.2.2.2.2.2.2.2.2.2.2.2.1,I.2.2.2.2.2.2.2.2.2.2.2.2.2.2.2.2.2.1,I.2.2.2.2.2.2.2.2.2.2.2.2.2.2.2.2.2.2))) λA=>ao (LU.call (A.2.2.2.2.2.2.2.2.2.2.2.2.2.2.2.2.2.2.2.2.2.2.1,A.2.2.2.2.2.2.2.2.2.2.2.2.2.2.2.2.1)) λOa=>ao (Km.call (A.2.2.2.2.2.2.2.2.2.2.2.2.2.2.2.2.2.2.2.2.2.2.1,A.2.2.2.2.2.2.2.2.2.2.2.2.2.2.2.2.2.1,A.2.2.2.2.2.2.2.2.2.2.2.2.2.2.2.2.2.2.1)) λbm1=>ao (jy.call (Oa.2.1,bm1.1)) λbnN=>ao (uu.call (A.2.2.2.2.1,A.2.2.2.1)) λbko=>aA (!bko) (kx (gf ()).1 (gf ()).2) (ao (wall.call Oa.1) λado=>ao (Wo.call (bm1.2.2.2.1,bm1.2.2.2.2)) λbkp=>aA (decide (0=0/\(0+ado.1)<=(aa ado.2.2))) (ao (aft.call ((cut ado.2.2 0 ado.1),bkp.1)) λbpD=>aA (!bpD) (kx (gf ()).1 (gf ()).2) (aA (!bnN) (kx (gf ()).1 (gf ()).2) (aA (pb Oa.2.2.1 bm1.2.1) (kx (gf ()).1 (gf ()).2) (aA (!(Ty.beq .bool Oa.2.2.2 bm1.2.2.1)) (kx (gf ()).1 (gf ()).2) (ao (Dr.call (A.2.2.2.2.2.2.2.2.2.2.2.2.2.2.2.2.2.2.2.2.2.2.1,ado.2.1)) λbmU=>ao (Jb.call (A.2.2.2.2.2.2.2.2.2.2.2.2.2.2.2.2.2.2.2.2.2.2.1,bkp.2.1,bkp.2.2)) λas9=>aA (!(Ty.beq .bool bmU.2 as9.1)) (kx (gf ()).1 (gf ()).2) (kn (uT (A.1,A.2.1,(bC .i64 A.2.2.1 (1:Int)),A.2.2.2.2.2.1,A.2.2.2.2.2.2.1,A.2.2.2.2.2.2.2.1,A.2.2.2.2.2.2.2.2.1,A.2.2.2.2.2.2.2.2.2.1,A.2.2.2.2.2.2.2.2.2.2.1,A.2.2.2.2.2.2.2.2.2.2.2.1,A.2.2.2.2.2.2.2.2.2.2.2.2.1,A.2.2.2.2.2.2.2.2.2.2.2.2.2.1,A.2.2.2.2.2.2.2.2.2.2.2.2.2.2.1,A.2.2.2.2.2.2.2.2.2.2.2.2.2.2.2.1,bmU.1,as9.2.1,as9.2.2)))))))) aC)) aC) (kx (Ch J).1 (Ch J).2):=bS
def aUH(outs j)(k:K1 R):oB.A (outs,j) k=ao (kT.call ()) λA=>ao (Mh outs) λx5=>aA x5.isLeft (ao x5.getLeft? λbsP=>ao (GW outs) λx6=>aA x6.isLeft (ao x6.getLeft? λbsQ=>ao (af8.call ()) λaAQ=>ao (aiM.call ()) λbsM=>ao (xy.call (outs,j)) λqL=>aA (!qL) (k (oB.out A)) (aA (A) (k (oB.out bn)) (k (oB.out aZ)))) (ao x6.getRight? λbsR=>ao (af8.call ()) λHs=>ao (aiM.call ()) λatc=>ao (xy.call (outs,j)) λM=>aA (!M) (k (oB.out A)) (aA (A) (k (oB.out aZ)) (k (oB.out aZ))))) (ao x5.getRight? λJ=>ao (GW outs) λI=>aA I.isLeft (ao I.getLeft? λbsp=>ao (af8.call ()) λbsN=>ao (aiM.call ()) λbsO=>ao (xy.call (outs,j)) λO=>aA (!O) (k (oB.out A)) (aA (A) (k (oB.out aZ)) (k (oB.out aZ)))) (ao I.getRight? λu=>ao (af8.call ()) λT=>ao (aiM.call ()) λbkv=>ao (xy.call (outs,j)) λL=>aA (!L) (k (oB.out A)) (ao (Tf (j,A,0,0,0,J.1,J.2.1,J.2.2,u.1,0,u.2.1,u.2.2.1,u.2.2.2.1,u.2.2.2.2,T,0,([]:List mS))) λB=>aA B.isLeft (ao B.getLeft? λa202=>k (oB.out aZ)) (ao B.getRight? λK=>k (oB.out K))))):=bS
def aAI:adn:=by
 refine Y8 (λ(j,_,i,_)=>aa j - i.toNat) ?_
 rintro⟨j,A,i,nb,n,a,s,bs,outs,B,K,lc,n',w,m,vL,J⟩ ⟨hl,ha,rfl,k,hk,rfl,hI⟩;have hl:aa j<=20:=hl;have hk:k<=aa j:=hk;by_cases h:k < aa j
 .left;have n1:nth yr j k=j[k]:=bG (t:=yr) h;have hx:=ha _ (aD h);obtain⟨x,beZ⟩:∃x,j[k]=x:=⟨_,rfl⟩;rw[beZ]at n1 hx;obtain⟨t1,t2,t3,t4⟩:=hI.step aq hx;obtain⟨A0,hc,hr,e0⟩:=hI.ex;have hle:=hI.le;have bjk:=hI.ml;have hR:B=nb:=hI.bqD;have iN:=hI.okB;have M:=bbb hI.wg;have bmg:=acj hI.wg;rw[<-hI.row]at M bmg;obtain⟨a4,ht,hq⟩:=id hx;obtain⟨g1,g2,g3,g4⟩:=aHA ht (nb:=nb) aq bs;have hd:=Mx (d:=(x,nb,n,a,s,bs,m)) ⟨⟨A0,_,hc,by show 4*k+aa x.2.1<=400;omega⟩,by show nb<=900;omega,ht,hI.wg⟩;have hb:=akW (d:=(x,nb,n,a,s,bs)) ⟨⟨A0,_,hc⟩,ht⟩;simp only[bt,ZA]at hb;have brC:=hI.og;obtain⟨y,hy⟩:∃y,kH (x,nb,n,a,s,bs,m)=y:=⟨_,rfl⟩;obtain⟨l,beO⟩:∃l,Cm x nb bs=l:=⟨_,rfl⟩;rw[beO]at t1 t2 t3 t4 g1 g2 g3 g4 hb;obtain⟨r,bma⟩:∃r,aFe x l (outs,B,K,lc,n',w) J=r:=⟨_,rfl⟩;rw[hy,bma]at t1 t2;rw[bma]at t3 t4;rw[hy]at hd;have gS:∀b∈l,bcY b:=λb hb=>⟨g1 b hb,by have:=acS hb;omega⟩
  refine⟨(j,A,((k+1:Nat):Int),(ara y).2.1,(ara y).2.2.1,(ara y).2.2.2.1,(ara y).2.2.2.2.1,(ara y).2.2.2.2.2.1,r.1.1,r.1.2.1,r.1.2.2.1,r.1.2.2.2.1,r.1.2.2.2.2.1,r.1.2.2.2.2.2,(ara y).2.2.2.2.2.2,aa r.2.1,r.2.1),⟨hl,ha,rfl,k+1,h,rfl,t1⟩,by simp only[ab];omega,rfl,λkn kx=> ?_⟩;rw[Tg,aN aq,ai,aS aq aq,ai,ab,n1,hb];simp only[ah,Y4,Y5,Y6,Y7];rw[show cE .and .i64 x.1 7=jC x from rfl];refine(bA (λz=>ao z _) (?_:_=aw (j,A,(k:Int),r.2.2,nb,n,a,s,bs,r.1.1,r.1.2.1,r.1.2.2.1,r.1.2.2.2.1,r.1.2.2.2.2.1,r.1.2.2.2.2.2,m,aa r.2.1,r.2.1,x))).trans ?_
  .refine(bA (λz=>ao z _) (?_:_=aw (j,A,(k:Int),l,jC x,aU0 (jC x),nb,n,a,s,bs,outs,B,K,lc,n',w,m,aa J,J,x))).trans ?_
   .unfold aU0;cases oC (jC x) 0 <;> cases oC (jC x) 1 <;> cases oC (jC x) 2 <;> rfl
   rw[ah,<-bma];unfold aFe;cases h3:aU0 (jC x) with
   |true=>
    have g4:=g4 (aYl h3);have aQS:nth dS l 0∈l:=by rw[bG (t:=dS) (show 0 < aa l by omega)];exact aD _
    simp only[ai,bQ];rw[aS fm aq,ai,aeX (d:=(nth dS l 0,outs,B,K,lc,n',w)) ⟨gS _ aQS,A0,4*k,hr,aq⟩];rfl
   |false=>
    simp only[al,bu,bq];refine(bA (λz=>ao z _) (?_:_=aw (j,A,(k:Int),l,jC x,bfh (jC x),nb,n,a,s,bs,outs,B,K,lc,n',w,m,aa J,J,x))).trans ?_
    .unfold bfh;cases oC (jC x) 3 <;> cases oC (jC x) 4 <;> rfl
    rw[ah];cases h4:bfh (jC x) with
    |true=>
     simp only[ai,bQ];rw[aSP (d:=(x.2.2.1,l,outs,B,K,lc,n',w)) ⟨brC,gS,by show B+aa l<=_;omega,A0,4*k,e0,hr,aq⟩];simp only[ah];obtain⟨z,hz⟩:∃z,uD (x.2.2.1,l,outs,B,K,lc,n',w)=z:=⟨_,rfl⟩;rw[hz];cases z <;> rfl
    |false=>
     simp only[al,bu,bq];have L:akl (aa J) J:=⟨rfl,aq⟩;by_cases c5:jC x=5
     .rw[dC c5,ai,av c5,aMg (d:=(x.2.2.2.1,aa J,J)) ⟨L,by show aa J<=_;omega,hq.1,λy hy=>(M y hy).2⟩];simp only[ah,S5];by_cases O:gH J x.2.2.2.1 0= -1
      .rw[av O,av O];rfl
      .rw[au O,au O];rfl
     rw[eZ c5,al,au c5];by_cases c6:jC x=6
     .rw[dC c6,ai,av c6,aL6 (d:=(x.2.2.2.1,aa J,J)) ⟨L,by show aa J<=_;omega⟩];simp only[ah,SU];by_cases O:gH J x.2.2.2.1 0= -1
      .rw[av O,av O];rfl
      .rw[au O,au O];rfl
     rw[eZ c6,al,au c6];by_cases c7:jC x=7
     .rw[dC c7,ai,av c7,aMb (d:=(aa J,J,outs,B,K,lc,n',w)) ⟨⟨rfl,aq⟩,λy hy=>(M y hy).1,hr.2.1,aq,iN⟩];simp only[ah,aqT,cz]
     rw[eZ c7,al,au c7]
  rw[ah];refine(bA (λz=>ao z _) (?_:_=aw (j,A,(k:Int),r.2.2,(ara y).1,(ara y).2.1,(ara y).2.2.1,(ara y).2.2.2.1,(ara y).2.2.2.2.1,(ara y).2.2.2.2.2.1,r.1.1,r.1.2.1,r.1.2.2.1,r.1.2.2.2.1,r.1.2.2.2.2.1,r.1.2.2.2.2.2,(ara y).2.2.2.2.2.2,aa r.2.1,r.2.1,x))).trans ?_
  .simp only[hd,ah];cases y <;> rfl
  rw[ah,t2];have M:=bbb t1.wg;have bmg:=acj t1.wg;have bjk:=t1.ml;have T:=aQJ t1.wg x.2.2.2.1;have boy:r.2.1.map (·.1)=j4 (ara y).2.2.2.2.2.2:=by rw[t1.row];unfold jP;rw[yz];exact List.map_id' _
  rw[<-t1.row]at M bmg T;have bmi:=t1.wg;have bns:=al3 (λp O=>(bmi.2.2 p O).2) x.2.2.2.1;generalize (ara y).2.2.2.2.2.2=I at bmi bmg T bns boy bjk ⊢;generalize r.2.1=u at M bmg T boy ⊢;have L:akl (aa u) u:=⟨rfl,aq⟩;have c1:=af9 (d:=(x.2.2.2.1,I)) bns.1;have c2:=aMf (d:=(x.2.2.2.1,aa u,u)) L;have c6:=aq2 (d:=(x.2.2.2.1,I)) trivial;have c7:=aGz (d:=(x.2.2.2.1,aa u,u)) L;have c3:=aEE (d:=(r.2.2,r.2.2)) ⟨rfl,fa t4 fm,t3⟩;have gE:∀p∈I,CV p.1:=λp O=>(bmi.2.2 p O).1
  have c4:=ada (d:=I) ⟨fa bmi.1 fm,gE⟩;have c5:=aUd (d:=(aa u,u)) L;have hlen:aa (j4 I)=aa I:=by rw[(FF gE).length_eq,cz]
  have c8:=bbe (d:=(j4 I,j4 I)) (by show aa (j4 I)<=_;have:=bmi.1;omega);simp only[T9,adm]at c1;simp only[aqV,T,An,X5]at c2;simp only[aq1,aGK]at c6;simp only[af1,T,An,X5]at c7;simp only[bt,au2]at c3;simp only[bt,aAw]at c4;simp only[aAq,boy]at c5;simp only[bt,azI,bE]at c8;have same:∀t:di,FL t->jy.call (t,t)=aw bn:=λt ht=>by have:=ahF (d:=(t,t)) ht;simpa only[bt,TR,bE]using this
  obtain⟨t,hh,ok,u7,h1,h2⟩:∃(t:di) (hh:Int) (ok:Bool),FL t/\LU.call (x.2.2.2.1,I)=aw (I,(t,(hh,ok)))/\Km.call (x.2.2.2.1,aa u,u)=aw (t,hh,ok,aa u,u):=by
   cases e:(lM x.2.2.2.1 I).1 with
   |true=>
    rw[e,av rfl]at c1 c2;have hk:=bns.2 e;rw[Yx bns.1 hk]at c1;exact⟨_,_,_,Sb hk,c1,c2⟩
   |false=>
    rw[e,au fm]at c1 c2;exact⟨_,_,_,⟨⟨az _,λx hx=>(by cases hx)⟩,az _,λx hx=>(by cases hx)⟩,c1,c2⟩
  rw[h1,ah,h2,ah];simp only[same t u7,ah,c3,bW,al,c4,c5,hlen,aO,ax,fY,bE,ai];rw[show cut (j4 I) 0 (aa I)=j4 I from dM hlen];simp only[c8,ah,bW,al,c6,c7];rw[bU rfl,al,show Ty.beq .bool ok ok=bn by cases ok <;> rfl,show Ty.beq .bool (lM x.2.2.2.1 I).2.2.2.2.1 (lM x.2.2.2.1 I).2.2.2.2.1=bn by cases(lM x.2.2.2.1 I).2.2.2.2.1 <;> rfl,N.iY aq];rfl
 .right;refine⟨Ch A,rfl,λkn kx=> ?_⟩;rw[Tg,aL aq,al]
def aUI:oB.Ok:=by
 rintro⟨outs,j⟩ ⟨u,O,ha⟩;have O:aa j<=9223372036854775807:=O;rw[aUH,aF1 (d:=()) trivial];simp only[ah,bt,av4];rw[atD (d:=outs) u];simp only[ah,Tn,Tm];have A:=avl (d:=outs) u;simp only[LA,TY]at A;have M:=aQw (d:=(outs,j)) O;simp only[bt,axD]at M;have hw:=aGN (d:=()) trivial;simp only[bt,bcH]at hw;have T:=aUn (d:=()) trivial;simp only[aOO]at T;cases e:Gq outs with
 |none=>
  rw[e]at A;simp only[j7,ai,iQ,ah,A,hw,T,M];cases ad4 outs j <;> rfl
 |some B=>
  rw[e]at A;simp only[dh,al,cJ,ah,A,hw,T,M];cases I:ad4 outs j with
  |false=>rfl
  |true=>
   obtain⟨L,K⟩:=aXy I ha;simp only[bW,al];have w0:WG ([]:Wm):=⟨az _,gO,λp hp=>by cases hp⟩;have J:jP []=[]:=bV (acj w0);rw[as8 (d:=(j,bn,0,0,0,B,[],[],outs,0,[],B.map CP,0,[],[],0,[])) ⟨L,K,rfl,0,az _,rfl,⟨⟨B,tA.new (aeB u e).1,⟨aGU.new u e,rfl,az _⟩,e⟩,u,rfl,az _,w0,az _,λo x h=>(by cases h),J.symm⟩⟩];rfl
def aMm:oB.RS:=rE [.d (.slice dI),.d (.slice yr)] oB
def aUJ:=oB.eQ aUI 1 ⟨.eg aAI,trivial⟩
end Go.Ab
end
