/-
  Made short by a program of mine (wip/tools/mini.py).
-/
import Derived.Test.YtodfaneojnkngaaGreatS26x3
import Derived.Test.YtodfaneojnkngaaGreatProg
set_option linter.unusedVariables false
set_option linter.unusedSimpArgs false
set_option maxRecDepth 100000
set_option synthInstance.maxSize 5000
open Int renaming toNat->ae
open List renaming length->ag,replicate->ab,take->aR,drop->bS,set->fM
open BitVec renaming ofInt->ba
open Or renaming inl->lA,inr->eZ
noncomputable section
namespace Go.Ab
open Go.Proofs
def Xx:Bs->Prop:=λb=>4<=b.length
def akm:Bs->Int:=λb=>vw (aPq (b.getD 0 0) (b.getD 1 0) (b.getD 2 0) (b.getD 3 0))
def binary:Fs Tryz.prog Xx bn akm:=eK 237 Tryz.f237 (λb=>([.d tB b],[])) (λx=>⟨.d (.int .u32) x,[],[]⟩) [some tB]
theorem avC{R:Type}(b)(k:K1 R):binary.A b k=aH (eg 0 (b.length:Int)) (aH (eg 1 (b.length:Int)) (aH (eg 2 (b.length:Int)) (aH (eg 3 (b.length:Int)) (k (binary.out (cF .or .u32 (cF .or .u32 (cF .or .u32 (l7 .u32 (dV .u32 (nth tb b 0)) 24) (l7 .u32 (dV .u32 (nth tb b 1)) 16)) (l7 .u32 (dV .u32 (nth tb b 2)) 8)) (dV .u32 (nth tb b 3))))) none) none) none) none:=bX
theorem avD:binary.Ok:=by intro b h;have h:4<=b.length:=h;rw[avC,bg ak ak,bg ak ak,bg ak ak,bg ak ak];simp only[aj,aue,Py,pR];rfl
theorem apo:binary.RS:=rE [.d tB] binary
def avE:=binary.eP avD
def rl(w:W)(k:Nat):W:=w <<< k ||| w >>> (32 - k)
def aaO:(Int×Int)->Prop:=λ(x,k)=>0<=x/\x < 4294967296
def aF2:(Int×Int)->Int:=λ(x,k)=>vw (rl (ba 32 x) (k%32).toNat)
def pk:Fs Tryz.prog aaO bn aF2:=eK 211 Tryz.f211 (λ(x,kv)=>([.d (.int .u32) x,.d ti kv],[])) (λx=>⟨.d (.int .u32) x,[],[]⟩) [some (.int .u32),some ti]
theorem azb{R:Type}(x kv)(k:K1 R):pk.A (x,kv) k=aH (me (cF .and .u64 (dV .u64 kv) 31)) (aH (me (cK .u64 32 (cF .and .u64 (dV .u64 kv) 31))) (k (pk.out (cF .or .u32 (l7 .u32 x (cF .and .u64 (dV .u64 kv) 31)) (ct .u32 x (cK .u64 32 (cF .and .u64 (dV .u64 kv) 31)))))) none) none:=bX
theorem aPp(k:Int):cF .and .u64 (dV .u64 k) 31=k%32:=by have e:(31:Int)=vw (31:BitVec 64):=rfl;rw[WM,e,avF];simp only;have:(31:BitVec 64)=BitVec.ofNat 64 (2^5 - 1):=rfl;unfold vw;rw[BitVec.toNat_and,rP,show(31:BitVec 64).toNat=2^5 - 1 from rfl,Nat.and_two_pow_sub_one_eq_mod];omega
theorem azc:pk.Ok:=by
 rintro⟨x,k⟩ ⟨h1,h2⟩;have e1:cK .u64 32 (k%32)=32 - k%32:=by unfold cK;rw[wrap_u64,gQ];omega
 have hx:x=vw (ba 32 x):=by rw[gQ];omega
 rw[azb,aPp,e1,sQ ak,sQ ak];simp only[aj];have e2:cF .or .u32 (l7 .u32 x (k%32)) (ct .u32 x (32 - k%32))=vw (rl (ba 32 x) (k%32).toNat):=by
  conv=>lhs;rw[hx]
  rw[Py,HL,pR];simp only[rl];congr 3;omega
 rw[e2];rfl
theorem asa:pk.RS:=rE [.d (.int .u32),.d ti] pk
def afO:=pk.eP azc
theorem afN(w:W)(k:Int):pk.call (vw w,k)=some (vw (rl w (k%32).toNat)):=by have h:aaO (vw w,k):=⟨TE w,by have:=aHe w;simpa using this⟩;rw[asa h];show some (vw (rl (ba 32 (vw w)) (k%32).toNat))=_;rw[uj]
def azI:Unit->Prop:=λ_=>True
def au4:Unit->(List Int):=λ_=>SB
def table:Fs Tryz.prog azI bn au4:=eK 210 Tryz.f210 (λ_=>([],[])) (λx=>⟨.d (.arr 64 (.int .u32)) x,[],[]⟩) []
theorem aGI{R:Type}(d)(k:K1 R):table.A d k=k (table.out [1116352408,1899447441,3049323471,3921009573,961987163,1508970993,2453635748,2870763221,3624381080,310598401,607225278,1426881987,1925078388,2162078206,2614888103,3248222580,3835390401,4022224774,264347078,604807628,770255983,1249150122,1555081692,1996064986,2554220882,2821834349,2952996808,3210313671,3336571891,3584528711,113926993,338241895,666307205,773529912,1294757372,1396182291,1695183700,1986661051,2177026350,2456956037,2730485921,2820302411,3259730800,3345764771,3516065817,3600352804,4094571909,275423344,430227734,506948616,659060556,883997877,958139571,1322822218,1537002063,1747873779,1955562222,2024104815,2227730452,2361852424,2428436474,2756734187,3204031479,3329325298]):=bX
theorem aGJ:table.Ok:=by intro d _;rw[aGI];rfl
theorem azJ:table.RS:=rE [] table
def aGK:=table.eP aGJ
def awS:Unit->Prop:=λ_=>True
def at5:Unit->(List Int):=λ_=>rY.l
def first:Fs Tryz.prog awS bn at5:=eK 171 Tryz.f171 (λ_=>([],[])) (λx=>⟨.d (.arr 8 (.int .u32)) x,[],[]⟩) []
theorem aDd{R:Type}(d)(k:K1 R):first.A d k=k (first.out [1779033703,3144134277,1013904242,2773480762,1359893119,2600822924,528734635,1541459225]):=bX
theorem aDe:first.Ok:=by intro d _;rw[aDd];rfl
theorem awT:first.RS:=rE [] first
def aDf:=first.eP aDe
abbrev Lz:=Bs×Int×(List Int)
def wl(l:List W):List Int:=l.map vw
def G9(l:List W):List Int:=wl l++ab (64 - l.length) 0
def FY(b:List Int)(k:Nat):List W:=if k<=16 then(words b).take k else aHZ (words b) (k - 16)
def Gu:Lz->Prop:=λ(b,t8,n2)=>64<=b.length/\∃k:Nat,k<=64/\t8=k/\n2=G9 (FY b k)
def C7:Lz->(List Int):=λ(b,t8,n2)=>wl (sched b)
def QD:Bs->Prop:=λb=>64<=b.length
def NC:Bs->(List Int):=λb=>wl (sched b)
def jE:Ls Gu bn C7:=qz (λ(gI,t8,n2)=>⟨([.d tB gI,bB,eI 2]++aQ 5 ([.d ti t8]++aQ 52 [])),[],([[],[],dK (.d (.arr 64 (.int .u32)) n2)]++bD 58 [])⟩) (λx=>(.exit 0,⟨([bB,bB,eI 2]++aQ 58 []),[],([[],[],dK (.d (.arr 64 (.int .u32)) x)]++bD 58 [])⟩))
def schedule:Fs Tryz.prog QD bn NC:=eK 209 Tryz.f209 (λb=>([.d tB b],[])) (λx=>⟨.d (.arr 64 (.int .u32)) x,[],[]⟩) [some tB] [avE,afO] {loops:=nF [(2,{aV:=[0,2,8],sites:=[2]})],outs:=nE [(2,{aV:=[2],sites:=[2]},{aV:=[2]})],fw:=nr [(2,jE.E)]}
theorem Ws:jE.RS:=rL [.d tB,.d ti,.d (.slice (.int .u32))] jE
theorem D7{R:Type}(gI t8 n2)(kn:K2 R)(kx:K3 R):schedule.R 0 jE (gI,t8,n2) kn kx=aH ((fR t8 64)) (aH ((fR t8 16)) (aH (inc (fZ .i64 4 t8) (gI.length:Int)) (al (binary.call (cut gI (ae (fZ .i64 4 t8)) ((ag gI) - (ae (fZ .i64 4 t8))))) λx1=>aH (eg t8 64) (aH (decide ((ae t8) < (ag n2))) (aH (decide ((((ae t8)*1)+0)=(0+((ae t8)*1)))) (aH (decide ((ae t8) < (ag n2))) (kn (jE.st (gI,(bI .i64 t8 1),(fM n2 (ae t8) x1)))) none) none) none) none) none) (aH (eg (cK .i64 t8 15) 64) (aH (decide ((ae (cK .i64 t8 15)) < (ag n2))) (aH (decide ((((ae (cK .i64 t8 15))*1)+0)=(0+((ae (cK .i64 t8 15))*1)))) (aH (eg (cK .i64 t8 2) 64) (aH (decide ((ae (cK .i64 t8 2)) < (ag n2))) (aH (decide ((((ae (cK .i64 t8 2))*1)+0)=(0+((ae (cK .i64 t8 2))*1)))) (al (pk.call ((nth (.int .u32) n2 (ae (cK .i64 t8 15))),(-7))) λx2=>al (pk.call ((nth (.int .u32) n2 (ae (cK .i64 t8 15))),(-18))) λx3=>al (pk.call ((nth (.int .u32) n2 (ae (cK .i64 t8 2))),(-17))) λx4=>al (pk.call ((nth (.int .u32) n2 (ae (cK .i64 t8 2))),(-19))) λx5=>aH (eg (cK .i64 t8 16) 64) (aH (decide ((ae (cK .i64 t8 16)) < (ag n2))) (aH (decide ((((ae (cK .i64 t8 16))*1)+0)=(0+((ae (cK .i64 t8 16))*1)))) (aH (eg (cK .i64 t8 7) 64) (aH (decide ((ae (cK .i64 t8 7)) < (ag n2))) (aH (decide ((((ae (cK .i64 t8 7))*1)+0)=(0+((ae (cK .i64 t8 7))*1)))) (aH (eg t8 64) (aH (decide ((ae t8) < (ag n2))) (aH (decide ((((ae t8)*1)+0)=(0+((ae t8)*1)))) (aH (decide ((ae t8) < (ag n2))) (kn (jE.st (gI,(bI .i64 t8 1),(fM n2 (ae t8) (bI .u32 (bI .u32 (bI .u32 (nth (.int .u32) n2 (ae (cK .i64 t8 16))) (cF .xor .u32 (cF .xor .u32 x2 x3) (ct .u32 (nth (.int .u32) n2 (ae (cK .i64 t8 15))) 3))) (nth (.int .u32) n2 (ae (cK .i64 t8 7)))) (cF .xor .u32 (cF .xor .u32 x4 x5) (ct .u32 (nth (.int .u32) n2 (ae (cK .i64 t8 2))) 10))))))) none) none) none) none) none) none) none) none) none) none) none) none) none) none) none) none)) (jE.go kx n2):=bX
theorem anY{R:Type}(b)(k:K1 R):schedule.A b k=al (jE.call (b,0,(ab 64 0))) λx6=>k (schedule.out x6):=bX
theorem aoM(b:List Int)(k:Nat)(h:k<=64):(FY b k).length=k:=by
 unfold FY;split
 ·simp[eS];omega
 ·rw[Bm,eS];omega
theorem aLt(b:List Int):FY b 64=sched b:=rfl
theorem aAn(b:List Int)(k:Nat)(h:k < 16):FY b (k+1)=FY b k++ [be b k]:=by unfold FY;rw[if_pos ak,if_pos ak,hZ (by rw[eS];exact h)];simp[words]
theorem aHx(b:List Int)(k:Nat)(h:16<=k):FY b (k+1)=ext (FY b k):=by
 unfold FY;rw[if_neg ak];by_cases aRU:k=16
 ·subst aRU;rw[if_pos ak,aX (by rw[eS];omega)];rfl
 ·rw[if_neg ak,show k+1 - 16=(k - 16)+1 by omega];rfl
theorem agA(l:List W)(h:l.length<=64):(G9 l).length=64:=by simp[G9,wl];omega
theorem Jq(l:List W)(i:Nat)(h:i < l.length):nth (.int .u32) (G9 l) i=vw (l.getD i 0):=by unfold nth G9 wl;rw[aF,fg (by simpa using h)];simp[h]
theorem aeg(l:List W)(w:W)(h:l.length < 64):(G9 l).set l.length (vw w)=G9 (l++ [w]):=by unfold G9 wl;rw[List.set_append_right _ _ (by simp)];simp only[bZ,Nat.sub_self,rj,ai,aA,aY];rw[show 64 - l.length=(64 - (l.length+(0+1)))+1 by omega,List.replicate_succ,List.set_cons_zero];simp
theorem ape(l:List W)(h:l.length=64):G9 l=wl l:=by simp[G9,h]
theorem aMw(b:List Int)(k:Nat)(h:4*k+4<=b.length):aPq ((cut b (4*k) (b.length - 4*k)).getD 0 0) ((cut b (4*k) (b.length - 4*k)).getD 1 0) ((cut b (4*k) (b.length - 4*k)).getD 2 0) ((cut b (4*k) (b.length - 4*k)).getD 3 0)=be b k:=by
 have e:∀j,j < 4->(cut b (4*k) (b.length - 4*k)).getD j 0=b.getD (4*k+j) 0:=λj hj=>by unfold cut;rw[aF,aF,List.getElem?_take_of_lt ak,fL]
 unfold be;rw[e 0 ak,e 1 ak,e 2 ak,e 3 ak,cj]
theorem aa5:(schedule.jR 0 jE):=by
 refine(schedule.lp 0 jE) (λ(b,t8,n2)=>64 - t8.toNat) ?_
 rintro⟨b,t8,n2⟩ ⟨hb,k,hk,rfl,rfl⟩;have aO6:=aoM b k hk;have aDs:=agA (FY b k) ak;by_cases h:k < 64
 ·left;refine⟨(b,((k+1:Nat):Int),G9 (FY b (k+1))),⟨hb,k+1,ak,rfl,rfl⟩,by simp;omega,rfl,λkn kx=> ?_⟩;have e1:bI .i64 (k:Int) 1=((k+1:Nat):Int):=by rw[fG ak ak];omega
  have e2:ae (k:Int)=k:=ak;rw[D7,aU ak];simp only[aj,e1,e2,aDs,gH,aK,cj,cr];by_cases aRU:k < 16
  ·have e3:fZ .i64 4 (k:Int)=((4*k:Nat):Int):=by rw[HI ak ak];omega
   have e4:ae ((4*k:Nat):Int)=4*k:=ak;rw[aU ak,e3,tY ak ak,e4,bg ak ak,aI h];have hp:Xx (cut b (4*k) (b.length - 4*k)):=by show 4<=_;rw[EM ak];omega
   simp only[aj,apo hp,ah];have e5:bn (cut b (4*k) (b.length - 4*k)) (akm (cut b (4*k) (b.length - 4*k)))=vw (be b k):=by show vw (aPq _ _ _ _)=_;rw[aMw b k ak]
   have e6:=aeg (FY b k) (be b k) ak;rw[aO6]at e6;rw[e5,e6,aAn b k aRU]
  ·have a15:ae (cK .i64 (k:Int) 15)=k - 15:=by rw[eC ak ak];omega
   have a2:ae (cK .i64 (k:Int) 2)=k - 2:=by rw[eC ak ak];omega
   have a16:ae (cK .i64 (k:Int) 16)=k - 16:=by rw[eC ak ak];omega
   have a7:ae (cK .i64 (k:Int) 7)=k - 7:=by rw[eC ak ak];omega
   have i15:eg (cK .i64 (k:Int) 15) 64=true:=bg (by rw[eC ak ak];omega) (by rw[eC ak ak];omega);have i2:eg (cK .i64 (k:Int) 2) 64=true:=bg (by rw[eC ak ak];omega) (by rw[eC ak ak];omega);have i16:eg (cK .i64 (k:Int) 16) 64=true:=bg (by rw[eC ak ak];omega) (by rw[eC ak ak];omega);have i7:eg (cK .i64 (k:Int) 7) 64=true:=bg (by rw[eC ak ak];omega) (by rw[eC ak ak];omega);have i0:eg (k:Int) 64=true:=bg ak ak;have d15:decide (k - 15 < 64)=true:=aI ak;have d2:decide (k - 2 < 64)=true:=aI ak;have d16:decide (k - 16 < 64)=true:=aI ak;have d7:decide (k - 7 < 64)=true:=aI ak;have d0:decide (k < 64)=true:=aI h;rw[aP ak];simp only[aj,ao,a15,a2,a16,a7,i15,i2,i16,i7,i0,d15,d2,d16,d7,d0,Jq (FY b k) (k - 15) ak,Jq (FY b k) (k - 2) ak,Jq (FY b k) (k - 16) ak,Jq (FY b k) (k - 7) ak,afN,ah,pR,HL,DD];have e6:=aeg (FY b k) (aL8 (FY b k) k) ak;rw[aO6]at e6;rw[aHx b k ak,ext,aO6,<-e6];rfl
 ·right;obtain rfl:k=64:=ak;intro R kn kx;rw[D7,aP ak,ape _ aO6,aLt];simp only[ao,bn,C7]
theorem anZ:schedule.Ok:=by intro b hb;have hp:Gu (b,0,ab 64 0):=⟨hb,0,ak,rfl,rfl⟩;rw[anY,Ws hp];simp only[ah,bn,C7,bn,NC]
theorem ai3:schedule.RS:=rE [.d tB] schedule
def an0:=schedule.eP anZ 1 ⟨.fp aa5,trivial⟩
abbrev Zj:=(List Int)×Int×(List Int)×(List Int)×(List Int)×(List Int)
def Nb:Zj->(List Int)->(((List Int)×(List Int))×((List Int))):=λ(Pg,t18,n4,n5,n6,n7) y=>((Pg,n4),y)
abbrev Zm:=(List Int)×Int×(List Int)×(List Int)
def E9:Zm->(List Int)->(((List Int))×((List Int))):=λ(aua,t104,AG,ac3) y=>(AG,y)
def ajj(l:List Int):St:=⟨ba 32 (l.getD 0 0),ba 32 (l.getD 1 0),ba 32 (l.getD 2 0),ba 32 (l.getD 3 0),ba 32 (l.getD 4 0),ba 32 (l.getD 5 0),ba 32 (l.getD 6 0),ba 32 (l.getD 7 0)⟩
theorem oc(s:St):ajj s.l=s:=by obtain⟨a,b,c,d,e,f,g,h⟩:=s;simp[ajj,St.l,uj]
def aHc(l:List Int):List W:=l.map (ba 32)
theorem FO(l:List W):aHc (wl l)=l:=by
 unfold aHc wl;rw[List.map_map];have:(ba 32∘vw)=(id:W->W):=by funext w;exact uj w
 rw[this,List.map_id]
def Zl:Zj->Prop:=λ(h,t,n4,n5,n6,n7)=>∃(s:St) (ws:List W) (k:Nat),h=s.l/\n5=wl ws/\ws.length=64/\k<=64/\t=k/\n6=SB/\n7=(rounds ws s k).l
def Zk:Zj->(List Int):=λ(h,t,n4,n5,n6,n7)=>(rounds (aHc n5) (ajj h) 64).l
def Zn:Zm->Prop:=λ(h,t,n4,n7)=>n7.length=8/\∃k:Nat,k<=8/\t=k
def PQ:Zm->(List Int):=λ(h,t,n4,n7)=>from_ (λi x=>bI .u32 x (nth (.int .u32) h i)) t.toNat n7
def ail:((List Int)×Bs)->Prop:=λ(h,b)=>(∃s:St,h=s.l)/\64<=b.length
def auw:((List Int)×Bs)->(List Int):=λ(h,b)=>(SJ (ajj h) b).l
def CL:Ls Zl Nb Zk:=qz (λ(Pg,t18,n4,n5,n6,n7)=>⟨([bB,bB,.dO (.arr 8 (.int .u32)) Pg,bB,eI 4,eI 5,eI 6,eI 7]++aQ 10 ([.d ti t18]++aQ 98 [])),[],(bD 4 ([dK (.d (.arr 8 (.int .u32)) n4),dK (.d (.arr 64 (.int .u32)) n5),dK (.d (.arr 64 (.int .u32)) n6),dK (.d (.arr 8 (.int .u32)) n7)]++bD 109 []))⟩) (λx=>(.exit 0,⟨([bB,bB,.dO (.arr 8 (.int .u32)) x.1.1,bB,eI 4,bB,bB,eI 7]++aQ 109 []),[],(bD 4 ([dK (.d (.arr 8 (.int .u32)) x.1.2),[],[],dK (.d (.arr 8 (.int .u32)) x.2)]++bD 109 []))⟩))
def E8:Ls Zn E9 PQ:=qz (λ(aua,t104,AG,ac3)=>⟨([bB,bB,.dO (.arr 8 (.int .u32)) aua,bB,eI 4,bB,bB,eI 7]++aQ 96 ([.d ti t104]++aQ 12 [])),[],(bD 4 ([dK (.d (.arr 8 (.int .u32)) AG),[],[],dK (.d (.arr 8 (.int .u32)) ac3)]++bD 109 []))⟩) (λx=>(.exit 2,⟨(aQ 4 ([eI 4,bB,bB,eI 7]++aQ 109 [])),[],(bD 4 ([dK (.d (.arr 8 (.int .u32)) x.1),[],[],dK (.d (.arr 8 (.int .u32)) x.2)]++bD 109 []))⟩))
def mix:Fs Tryz.prog ail bn auw:=eK 172 Tryz.f172 (λ(h,b)=>([.d (.arr 8 (.int .u32)) h,.d tB b],[])) (λx=>⟨.d (.arr 8 (.int .u32)) x,[],[]⟩) [some (.arr 8 (.int .u32)),some tB] [an0,aGK,afO] {loops:=nF [(4,{aV:=[2,4,5,6,7,18],sites:=[4,5,6,7]}),(13,{aV:=[2,4,7,104],sites:=[4,7]})],outs:=nE [(4,{aV:=[2,4,7],sites:=[4,7]},{aV:=[4]}),(13,{aV:=[4,7],sites:=[4,7]},{aV:=[4]})],fw:=nr [(4,CL.E),(13,E8.E)]}
theorem aq2:CL.RS:=rL [.d (.arr 8 (.int .u32)),.d ti,.d (.slice (.int .u32)),.d (.slice (.int .u32)),.d (.slice (.int .u32)),.d (.slice (.int .u32))] CL
theorem UL{R:Type}(Pg t18 n4 n5 n6 n7)(kn:K2 R)(kx:K3 R):mix.R 0 CL (Pg,t18,n4,n5,n6,n7) kn kx=aH ((fR t18 64)) (aH (decide (4 < (ag n7))) (al (pk.call ((nth (.int .u32) n7 4),(-6))) λx1=>aH (decide (4 < (ag n7))) (al (pk.call ((nth (.int .u32) n7 4),(-11))) λx2=>aH (decide (4 < (ag n7))) (al (pk.call ((nth (.int .u32) n7 4),(-25))) λx3=>aH (decide (7 < (ag n7))) (aH (decide (6 < (ag n7))) (aH (decide (4 < (ag n7))) (aH (decide (5 < (ag n7))) (aH (decide (6 < (ag n7))) (aH (eg t18 64) (aH (decide ((ae t18) < (ag n6))) (aH (decide ((((ae t18)*1)+0)=(0+((ae t18)*1)))) (aH (eg t18 64) (aH (decide ((ae t18) < (ag n5))) (aH (decide ((((ae t18)*1)+0)=(0+((ae t18)*1)))) (aH (decide (0 < (ag n7))) (al (pk.call ((nth (.int .u32) n7 0),(-2))) λx4=>aH (decide (0 < (ag n7))) (al (pk.call ((nth (.int .u32) n7 0),(-13))) λx5=>aH (decide (0 < (ag n7))) (al (pk.call ((nth (.int .u32) n7 0),(-22))) λx6=>aH (decide (0 < (ag n7))) (aH (decide (1 < (ag n7))) (aH (decide (2 < (ag n7))) (aH (decide (0 < (ag n7))) (aH (decide (1 < (ag n7))) (aH (decide (0 < (ag n7))) (aH (decide (1 < (ag n7))) (aH (decide (2 < (ag n7))) (aH (decide (3 < (ag n7))) (aH (decide (4 < (ag n7))) (aH (decide (5 < (ag n7))) (aH (decide (6 < (ag n7))) (kn (CL.st (Pg,(bI .i64 t18 1),n4,n5,n6,[(bI .u32 (bI .u32 (bI .u32 (bI .u32 (bI .u32 (bI .u32 (nth (.int .u32) n7 7) (cF .xor .u32 (cF .xor .u32 x1 x2) x3)) (cF .xor .u32 (nth (.int .u32) n7 6) (cF .and .u32 (nth (.int .u32) n7 4) (cF .xor .u32 (nth (.int .u32) n7 5) (nth (.int .u32) n7 6))))) (nth (.int .u32) n6 (ae t18))) (nth (.int .u32) n5 (ae t18))) (cF .xor .u32 (cF .xor .u32 x4 x5) x6)) (cF .or .u32 (cF .and .u32 (nth (.int .u32) n7 0) (nth (.int .u32) n7 1)) (cF .and .u32 (nth (.int .u32) n7 2) (cF .or .u32 (nth (.int .u32) n7 0) (nth (.int .u32) n7 1))))),(nth (.int .u32) n7 0),(nth (.int .u32) n7 1),(nth (.int .u32) n7 2),(bI .u32 (nth (.int .u32) n7 3) (bI .u32 (bI .u32 (bI .u32 (bI .u32 (nth (.int .u32) n7 7) (cF .xor .u32 (cF .xor .u32 x1 x2) x3)) (cF .xor .u32 (nth (.int .u32) n7 6) (cF .and .u32 (nth (.int .u32) n7 4) (cF .xor .u32 (nth (.int .u32) n7 5) (nth (.int .u32) n7 6))))) (nth (.int .u32) n6 (ae t18))) (nth (.int .u32) n5 (ae t18)))),(nth (.int .u32) n7 4),(nth (.int .u32) n7 5),(nth (.int .u32) n7 6)]))) none) none) none) none) none) none) none) none) none) none) none) none) none) none) none) none) none) none) none) none) none) none) none) none) none) none) none) none) none) (CL.go kx ((Pg,n4),n7)):=bX
theorem aq3:E8.RS:=rL [.d (.arr 8 (.int .u32)),.d ti,.d (.slice (.int .u32)),.d (.slice (.int .u32))] E8
theorem UM{R:Type}(aua t104 AG ac3)(kn:K2 R)(kx:K3 R):mix.R 1 E8 (aua,t104,AG,ac3) kn kx=aH ((fR t104 8)) (aH (eg t104 8) (aH (decide ((ae t104) < (ag ac3))) (aH (decide ((((ae t104)*1)+0)=(0+((ae t104)*1)))) (aH (eg t104 8) (aH (eg t104 8) (aH (decide ((ae t104) < (ag ac3))) (aH (decide ((((ae t104)*1)+0)=(0+((ae t104)*1)))) (aH (decide ((ae t104) < (ag ac3))) (kn (E8.st (aua,(bI .i64 t104 1),AG,(fM ac3 (ae t104) (bI .u32 (nth (.int .u32) ac3 (ae t104)) (nth (.int .u32) aua (ae t104))))))) none) none) none) none) none) none) none) none) (E8.go kx (AG,ac3)):=bX
theorem aNR{R:Type}(h b)(k:K1 R):mix.A (h,b) k=al (schedule.call b) λx1=>al (table.call ()) λx2=>al (CL.call (h,0,(ab 8 0),x1,x2,h)) λx9=>al (E8.call (x9.1.1,0,x9.1.2,x9.2)) λaoO=>k (mix.out aoO.2):=bX
theorem St.amg(s:St):s.l.length=8:=rfl
theorem Uz:SB.length=64:=rfl
theorem ame(k:Nat)(h:k < 64):nth (.int .u32) SB k=vw (kw k):=by
 have hh:∀k:Fin 64,nth (.int .u32) SB k.val=vw (kw k.val):=by decide+kernel
 exact hh ⟨k,h⟩
theorem TI(ws:List W)(k:Nat)(h:k < ws.length):nth (.int .u32) (wl ws) k=vw (ws.getD k 0):=by unfold nth wl;simp[h]
theorem aVu(w:W):rl w ((-6:Int)%32).toNat=vE w 6:=rfl
theorem aTa(w:W):rl w ((-11:Int)%32).toNat=vE w 11:=rfl
theorem aTd(w:W):rl w ((-25:Int)%32).toNat=vE w 25:=rfl
theorem aVt(w:W):rl w ((-2:Int)%32).toNat=vE w 2:=rfl
theorem aTb(w:W):rl w ((-13:Int)%32).toNat=vE w 13:=rfl
theorem aTc(w:W):rl w ((-22:Int)%32).toNat=vE w 22:=rfl
theorem n0(s:St):nth (.int .u32) s.l 0=vw s.a:=rfl
theorem n1(s:St):nth (.int .u32) s.l 1=vw s.b:=rfl
theorem n2(s:St):nth (.int .u32) s.l 2=vw s.c:=rfl
theorem n3(s:St):nth (.int .u32) s.l 3=vw s.d:=rfl
theorem n4(s:St):nth (.int .u32) s.l 4=vw s.e:=rfl
theorem n5(s:St):nth (.int .u32) s.l 5=vw s.f:=rfl
theorem n6(s:St):nth (.int .u32) s.l 6=vw s.g:=rfl
theorem n7(s:St):nth (.int .u32) s.l 7=vw s.h:=rfl
theorem axS:(mix.jR 0 CL):=by
 refine(mix.lp 0 CL) (λ(h,t,n4,n5,n6,n7)=>64 - t.toNat) ?_
 rintro⟨h,t,m4,m5,m6,m7⟩ ⟨s,ws,k,rfl,rfl,hw,hk,rfl,rfl,rfl⟩;by_cases gB:k < 64
 ·left;refine⟨(s.l,((k+1:Nat):Int),m4,wl ws,SB,(rounds ws s (k+1)).l),⟨s,ws,k+1,rfl,rfl,hw,ak,rfl,rfl,rfl⟩,by simp;omega,rfl,λkn kx=> ?_⟩;have e1:bI .i64 (k:Int) 1=((k+1:Nat):Int):=by rw[fG ak ak];omega
  have e2:ae (k:Int)=k:=ak;have aO6:(wl ws).length=64:=by simp[wl,hw]
  have d0:decide (k < 64)=true:=aI gB;have i0:eg (k:Int) 64=true:=bg ak ak;rw[UL,aU ak];generalize hv:rounds ws s k=v;simp only[e1,e2,gH,aK,cj,cr,aj,St.amg,Nat.reduceLT,Uz,aO6,d0,i0,n0,n1,n2,n3,n4,n5,n6,n7,afN,ah,ame k gB,TI ws k ak,pR,DD,aVu,aTa,aTd,aVt,aTb,aTc];show kn _=kn (CL.st (s.l,((k+1:Nat):Int),m4,wl ws,SB,(lp (rounds ws s k) (kw k) (ws.getD k 0)).l));rw[hv];rfl
 ·right;obtain rfl:k=64:=ak;intro R kn kx;rw[UL,aP ak];simp only[ao,Nb,Zk,FO,oc]
theorem axT:(mix.jR 1 E8):=by
 refine(mix.lp 1 E8) (λ(h,t,n4,n7)=>8 - t.toNat) ?_
 rintro⟨h,t,m4,m7⟩ ⟨hl,k,hk,rfl⟩;have hl:m7.length=8:=hl;have e2:ae (k:Int)=k:=ak;have e3:ae ((k+1:Nat):Int)=k+1:=ak;by_cases gB:k < 8
 ·left;have e1:bI .i64 (k:Int) 1=((k+1:Nat):Int):=by rw[fG ak ak];omega
  have hn:nth (.int .u32) m7 k=m7[k]:=bW (t:= .int .u32) ak;refine⟨(h,((k+1:Nat):Int),m4,m7.set k (bI .u32 m7[k] (nth (.int .u32) h k))),⟨by simpa using hl,k+1,ak,rfl⟩,by simp;omega,?_,λkn kx=> ?_⟩
  ·simp only[E9,PQ,e2,e3];rw[JF (λi x=>bI .u32 x (nth (.int .u32) h i)) m7 k ak]
  ·have d0:decide (k < 8)=true:=aI gB;have i0:eg (k:Int) 8=true:=bg ak ak;rw[UM,aU ak];simp only[e1,e2,gH,aK,cj,cr,aj,hl,d0,i0,hn]
 ·right;obtain rfl:k=8:=ak;intro R kn kx;rw[UM,aP ak];simp only[ao,E9,PQ,e2];rw[Pe _ _ _ ak]
theorem aNS:mix.Ok:=by
 rintro⟨h,b⟩ ⟨⟨s,rfl⟩,hb⟩;have hs:QD b:=hb;have aud:(sched b).length=64:=by unfold sched;rw[Bm,eS]
 have hp:Zl (s.l,0,ab 8 0,wl (sched b),SB,s.l):=⟨s,sched b,0,rfl,rfl,aud,ak,rfl,rfl,rfl⟩;rw[aNR,ai3 hs];simp only[ah,azJ (d:=()) trivial,bn,NC,bn,au4,aq2 hp,Nb,Zk,FO,oc];have aO1:Zn (s.l,0,ab 8 0,(rounds (sched b) s 64).l):=⟨rfl,0,ak,rfl⟩;simp only[aq3 aO1,ah,E9,PQ,bn,auw,oc];unfold SJ;generalize rounds (sched b) s 64=v;obtain⟨a1,b1,c1,d1,f1,g1,h1,i1⟩:=v;simp only[St.l,from_,List.mapIdx_cons,List.mapIdx_nil,aZ,Nat.not_lt_zero,bq,aK,Nat.reduceAdd];simp only[nth,jj,qB,DD]
theorem auy:mix.RS:=rE [.d (.slice (.int .u32)),.d tB] mix
def aNT:=mix.eP aNS 2 ⟨.fp axS,⟨.fp axT,trivial⟩⟩
theorem sO(n:Int)(k:Int)(h0:0<=k)(h1:k<=64):dV .u8 (ct .i64 n k)=n / 2^k.toNat%256:=by
 rw[Sp,gQ,ct];have e:min k.toNat IntKind.i64.bits=k.toNat:=by simp only[IntKind.bits];omega
 rw[e,jU _ (Int.le_of_lt (Int.pow_pos ak))];rfl
theorem D6{n:Nat}(h:n<=140737488355328):cV n 1=true:=dh ak ak
def XW:Bs->Prop:=λb=>b.length<=140737488355328
def Hn:Bs->(Nat×(List Int)):=λb=>(b.length,b)
def Ae:Fs Tryz.prog XW bn Hn:=eK 170 Tryz.f170 (λsv=>([.d tB sv],[])) (λx=>⟨.bz (.new 0 0) 0 [] 0 0 x.1,[],[.obj 0 false (.vec 5 tb x.2)]⟩) [some tB] [] {bJ:=[5],owns:=[⟨2,[],5,127⟩]}
theorem awl{R:Type}(sv)(k:K1 R):Ae.A sv k=aH (decide (0 < (ag sv))) (aH (cV (0+(ag sv)) 1) (k (Ae.out ((0+(ag sv)),((aR 0 (ab 0 0))++sv)))) none) (nd (k (Ae.out (0,([]:List Int)))) (aH (cV (0+(ag sv)) 1) (k (Ae.out ((0+(ag sv)),((aR 0 (ab 0 0))++sv)))) none)):=bX
theorem awm:Ae.Ok:=by
 intro b hb;have hr:cV b.length 1=true:=D6 hb;rw[awl];have e0:(aR 0 (ab 0 0):List Int)=[]:=rfl;simp only[aK,hr,aj,e0,aS,bn,Hn];by_cases h:0 < b.length
 ·simp only[aI h,aj]
 ·have:b=[]:=bC ak;subst this;simp only[aY,y5,aT (gV 0),ao]
theorem Mq:Ae.RS:=rE [.d tB] Ae
def RZ:=Ae.eP awm
def axG:Int->Prop:=λ_=>True
def aur:Int->(Nat×(List Int)):=λn=>(8,iZ n)
def Za:Fs Tryz.prog axG bn aur:=eK 111 Tryz.f111 (λn=>([.cX,.d ti n],[])) (λx=>⟨.bz (.new 0 0) 0 [] 0 0 x.1,[],[.obj 0 false (.vec 5 tb x.2)]⟩) [none,some ti] [] {loops:=nF [(2,{aV:=[0,1,5],sites:=[16]})],outs:=nE [(2,{aV:=[0],sites:=[16]},{aV:=[4],sites:=[16]})],owns:=[⟨4,[],16,127⟩]} 12
theorem aEl{R:Type}(n)(k:K1 R):Za.A n k=k (Za.out (8,[(dV .u8 (ct .i64 n 56)),(dV .u8 (ct .i64 n 48)),(dV .u8 (ct .i64 n 40)),(dV .u8 (ct .i64 n 32)),(dV .u8 (ct .i64 n 24)),(dV .u8 (ct .i64 n 16)),(dV .u8 (ct .i64 n 8)),(dV .u8 (ct .i64 n 0))])):=bX
theorem apk(n:Int): [dV .u8 (ct .i64 n 56),dV .u8 (ct .i64 n 48),dV .u8 (ct .i64 n 40),dV .u8 (ct .i64 n 32),dV .u8 (ct .i64 n 24),dV .u8 (ct .i64 n 16),dV .u8 (ct .i64 n 8),dV .u8 (ct .i64 n 0)]=iZ n:=by rw[sO n 56 ak ak,sO n 48 ak ak,sO n 40 ak ak,sO n 32 ak ak,sO n 24 ak ak,sO n 16 ak ak,sO n 8 ak ak,sO n 0 ak ak];simp[iZ]
theorem aEm:Za.Ok:=by intro n _;rw[aEl,apk];rfl
theorem axH:Za.RS:=rE [.d ti] Za
def aEn:=Za.aRw ax3 aEm 1 ⟨.none bX,trivial⟩
def SF:(Nat×Int×Bs)->Prop:=λ(m,n,l)=>m=l.length/\l.length<=140737488355320
def WV:(Nat×Int×Bs)->(Nat×(List Int)):=λ(m,n,l)=>(l.length+8,l++iZ n)
def UD:Fs Tryz.prog SF bn WV:=eK 111 Tryz.f111 (λ(bL,n,o0)=>([.bz (.bj 0) 0 [] 0 0 bL,.d ti n],[.obj 0 false (.vec 5 tb o0)])) (λx=>⟨.bz (.bj 0) 8 [] 0 0 x.1,[.obj 8 false (.vec 5 tb x.2)],[]⟩) [none,some ti] [] {loops:=nF [(2,{aV:=[0,1,5],sites:=[16]})],outs:=nE [(2,{aV:=[0],sites:=[16]},{aV:=[4],sites:=[16]})]} 12
theorem aEo{R:Type}(bL n o0)(k:K1 R):UD.A (bL,n,o0) k=aH (decide (bL<=(ag o0))) (aH (cV (bL+1) 1) (aH (decide ((bL+1)<=(ag ((aR bL o0)++ [(dV .u8 (ct .i64 n 56))])))) (aH (cV ((bL+1)+1) 1) (aH (decide (((bL+1)+1)<=(ag ((aR (bL+1) ((aR bL o0)++ [(dV .u8 (ct .i64 n 56))]))++ [(dV .u8 (ct .i64 n 48))])))) (aH (cV (((bL+1)+1)+1) 1) (aH (decide ((((bL+1)+1)+1)<=(ag ((aR ((bL+1)+1) ((aR (bL+1) ((aR bL o0)++ [(dV .u8 (ct .i64 n 56))]))++ [(dV .u8 (ct .i64 n 48))]))++ [(dV .u8 (ct .i64 n 40))])))) (aH (cV ((((bL+1)+1)+1)+1) 1) (aH (decide (((((bL+1)+1)+1)+1)<=(ag ((aR (((bL+1)+1)+1) ((aR ((bL+1)+1) ((aR (bL+1) ((aR bL o0)++ [(dV .u8 (ct .i64 n 56))]))++ [(dV .u8 (ct .i64 n 48))]))++ [(dV .u8 (ct .i64 n 40))]))++ [(dV .u8 (ct .i64 n 32))])))) (aH (cV (((((bL+1)+1)+1)+1)+1) 1) (aH (decide ((((((bL+1)+1)+1)+1)+1)<=(ag ((aR ((((bL+1)+1)+1)+1) ((aR (((bL+1)+1)+1) ((aR ((bL+1)+1) ((aR (bL+1) ((aR bL o0)++ [(dV .u8 (ct .i64 n 56))]))++ [(dV .u8 (ct .i64 n 48))]))++ [(dV .u8 (ct .i64 n 40))]))++ [(dV .u8 (ct .i64 n 32))]))++ [(dV .u8 (ct .i64 n 24))])))) (aH (cV ((((((bL+1)+1)+1)+1)+1)+1) 1) (aH (decide (((((((bL+1)+1)+1)+1)+1)+1)<=(ag ((aR (((((bL+1)+1)+1)+1)+1) ((aR ((((bL+1)+1)+1)+1) ((aR (((bL+1)+1)+1) ((aR ((bL+1)+1) ((aR (bL+1) ((aR bL o0)++ [(dV .u8 (ct .i64 n 56))]))++ [(dV .u8 (ct .i64 n 48))]))++ [(dV .u8 (ct .i64 n 40))]))++ [(dV .u8 (ct .i64 n 32))]))++ [(dV .u8 (ct .i64 n 24))]))++ [(dV .u8 (ct .i64 n 16))])))) (aH (cV (((((((bL+1)+1)+1)+1)+1)+1)+1) 1) (aH (decide ((((((((bL+1)+1)+1)+1)+1)+1)+1)<=(ag ((aR ((((((bL+1)+1)+1)+1)+1)+1) ((aR (((((bL+1)+1)+1)+1)+1) ((aR ((((bL+1)+1)+1)+1) ((aR (((bL+1)+1)+1) ((aR ((bL+1)+1) ((aR (bL+1) ((aR bL o0)++ [(dV .u8 (ct .i64 n 56))]))++ [(dV .u8 (ct .i64 n 48))]))++ [(dV .u8 (ct .i64 n 40))]))++ [(dV .u8 (ct .i64 n 32))]))++ [(dV .u8 (ct .i64 n 24))]))++ [(dV .u8 (ct .i64 n 16))]))++ [(dV .u8 (ct .i64 n 8))])))) (aH (cV ((((((((bL+1)+1)+1)+1)+1)+1)+1)+1) 1) (k (UD.out (((((((((bL+1)+1)+1)+1)+1)+1)+1)+1),((aR (((((((bL+1)+1)+1)+1)+1)+1)+1) ((aR ((((((bL+1)+1)+1)+1)+1)+1) ((aR (((((bL+1)+1)+1)+1)+1) ((aR ((((bL+1)+1)+1)+1) ((aR (((bL+1)+1)+1) ((aR ((bL+1)+1) ((aR (bL+1) ((aR bL o0)++ [(dV .u8 (ct .i64 n 56))]))++ [(dV .u8 (ct .i64 n 48))]))++ [(dV .u8 (ct .i64 n 40))]))++ [(dV .u8 (ct .i64 n 32))]))++ [(dV .u8 (ct .i64 n 24))]))++ [(dV .u8 (ct .i64 n 16))]))++ [(dV .u8 (ct .i64 n 8))]))++ [(dV .u8 (ct .i64 n 0))])))) none) none) none) none) none) none) none) none) none) none) none) none) none) none) none) none:=bX
theorem aEp:UD.Ok:=by rintro⟨m,n,l⟩ ⟨rfl,hl⟩;have hl:l.length<=140737488355320:=hl;rw[aEo];simp only[ax,cr,aj,aX,ai,aA,aY,aK];rw[D6 ak,D6 ak,D6 ak,D6 ak,D6 ak,D6 ak,D6 ak,D6 ak];simp only[aj,bn,WV,<-apk,aD,iF,aS]
theorem afb:UD.RS:=rE [.n,.d ti,.d tB] UD
def amn:=UD.aRw af3 aEp 1 ⟨.none bX,trivial⟩
abbrev Sh:=Bs×Nat×Bs×(List Int)
abbrev ae2:=Nat×(List Int)
def BO:Sh->ae2->((Bs×Bs)×(Nat×(List Int))):=λ(gI,endL,n2,n14) y=>((gI,n2),y)
abbrev Si:=Bs×Nat×Bs×(List Int)×(List Int)
def BP:Si->(List Int)->((Nat×Bs×(List Int))×((List Int))):=λ(Ru,MK,kk,n4,Zs) y=>((MK,kk,Zs),y)
abbrev Sj:=Bs×Bs×(List Int)
def BQ:Sj->(List Int)->((Bs)×((List Int))):=λ(endv,so,AG) y=>(so,y)
abbrev ae3:=Int×Bs×(List Int)
def zc(n:Nat):Nat:=(120 - n%64)%64
def Uo:Sh->Prop:=λ(b,m,n2,l)=>m=l.length/\l.length+zc l.length<=140737488355328
def JI:Sh->ae2:=λ(b,m,n2,l)=>(l.length+zc l.length,l++ab (zc l.length) 0)
def Up:Si->Prop:=λ(b,m,n2,h,l)=>∃s:St,h=s.l
def JJ:Si->(List Int):=λ(b,m,n2,h,l)=>(blocks (ajj h) b).l
def Uq:Sj->Prop:=λ(b,n2,h)=>b.length%64=0/\∃s:St,h=s.l
def JK:Sj->(List Int):=λ(b,n2,h)=>(blocks (ajj h) b).l
def Ku(h:List Int)(i:Nat)(_:Int):Int:=dV .u8 (ct .u32 (nth (.int .u32) h (i / 4)) ((24 - 8*(i%4):Nat):Int))
def Ur:ae3->Prop:=λ(t,n2,h)=>n2.length=32/\h.length=8/\∃k:Nat,k<=32/\t=k
def JL:ae3->Bs:=λ(t,n2,h)=>from_ (Ku h) t.toNat n2
def alZ:Bs->Prop:=λb=>b.length<=140737488350000
def aqz:Bs->Bs:=λb=>aOh b
def yL:Ls Uo BO JI:=qz (λ(gI,endL,n2,n14)=>⟨([.d tB gI,bB,eI 2,nG 14 endL]++aQ 61 []),[],([[],[],dK (.d tH n2)]++bD 11 ([dK (.vec 5 tb n14)]++bD 50 []))⟩) (λx=>(.exit 0,⟨([.d tB x.1.1,bB,eI 2,nG 14 x.2.1]++aQ 61 []),[],([[],[],dK (.d tH x.1.2)]++bD 11 ([dK (.vec 5 tb x.2.2)]++bD 50 []))⟩))
def yM:Ls Up BP JJ:=qz (λ(Ru,MK,kk,n4,Zs)=>⟨([.d tB Ru,bB,eI 2,.bz (.new 14 0) 8 [] 0 0 MK,eI 4]++aQ 60 []),[],([[],[],dK (.d tH kk),[],dK (.d (.arr 8 (.int .u32)) n4)]++bD 9 ([[.obj 8 false (.vec 5 tb Zs)]]++bD 50 []))⟩) (λx=>(.exit 2,⟨([bB,bB,eI 2,.bz (.new 14 0) 8 [] 0 0 x.1.1,eI 4]++aQ 60 []),[],([[],[],dK (.d tH x.1.2.1),[],dK (.d (.arr 8 (.int .u32)) x.2)]++bD 9 ([[.obj 8 false (.vec 5 tb x.1.2.2)]]++bD 50 []))⟩))
def yN:Ls Uq BQ JK:=qz (λ(endv,so,AG)=>⟨([bB,bB,eI 2,.d tB endv,eI 4]++aQ 60 []),[],([[],[],dK (.d tH so),[],dK (.d (.arr 8 (.int .u32)) AG)]++bD 60 [])⟩) (λx=>(.exit 4,⟨([bB,bB,eI 2,bB,eI 4]++aQ 60 []),[],([[],[],dK (.d tH x.1),[],dK (.d (.arr 8 (.int .u32)) x.2)]++bD 60 [])⟩))
def yO:Ls Ur bn JL:=qz (λ(t48,Nc,PT)=>⟨([bB,bB,eI 2,bB,eI 4]++aQ 43 ([.d ti t48]++aQ 16 [])),[],([[],[],dK (.d tH Nc),[],dK (.d (.arr 8 (.int .u32)) PT)]++bD 60 [])⟩) (λx=>(.exit 6,⟨([bB,bB,eI 2]++aQ 62 []),[],([[],[],dK (.d tH x)]++bD 62 [])⟩))
def DC:Fs Tryz.prog alZ bn aqz:=eK 112 Tryz.f112 (λb=>([.d tB b],[])) (λx=>⟨.d tH x,[],[]⟩) [some tB] [RZ,amn,aDf,aNT] {loops:=nF [(2,{aV:=[0,2,3],sites:=[2,14],owns:=[⟨3,[],14,127⟩]}),(6,{aV:=[0,2,3,4],sites:=[2,4,14]}),(9,{aV:=[2,3,4],sites:=[2,4],data:=[(3,tB)]}),(13,{aV:=[2,4,48],sites:=[2,4]})],outs:=nE [(2,{aV:=[0,2,3],sites:=[2,14]},{aV:=[2]}),(6,{aV:=[2,3,4],sites:=[2,4,14]},{aV:=[2]}),(9,{aV:=[2,4],sites:=[2,4]},{aV:=[2]}),(13,{aV:=[2],sites:=[2]},{aV:=[2]})],fw:=nr [(2,yL.E),(6,yM.E),(9,yN.E),(13,yO.E)]}
theorem alV:yL.RS:=rL [.d tB,.n,.d tB,.d tB] yL
theorem Pm{R:Type}(gI endL n2 n14)(kn:K2 R)(kx:K3 R):DC.R 0 yL (gI,endL,n2,n14) kn kx=aH ((BT (mq ((endL:Nat):Int) 64) 56)) (aH (decide (endL<=(ag n14))) (aH (cV (endL+1) 1) (kn (yL.st (gI,(endL+1),n2,((aR endL n14)++ [0])))) none) none) (yL.go kx ((gI,n2),(endL,n14))):=bX
theorem alW:yM.RS:=rL [.d tB,.n,.d tB,.d (.slice (.int .u32)),.d tB] yM
theorem Po{R:Type}(Ru MK kk n4 Zs)(kn:K2 R)(kx:K3 R):DC.R 1 yM (Ru,MK,kk,n4,Zs) kn kx=aH ((BS (Ru.length:Int) 64)) (aH (inc 64 (Ru.length:Int)) (al (mix.call (n4,(cut Ru 0 64))) λx1=>aH (inc 64 (Ru.length:Int)) (kn (yM.st ((cut Ru 64 ((ag Ru) - 64)),MK,kk,x1,Zs))) none) none) (yM.go kx ((MK,kk,Zs),n4)):=bX
theorem alX:yN.RS:=rL [.d tB,.d tB,.d (.slice (.int .u32))] yN
theorem Pp{R:Type}(endv so AG)(kn:K2 R)(kx:K3 R):DC.R 2 yN (endv,so,AG) kn kx=aH ((w7 (endv.length:Int) 0)) (aH (inc 64 (endv.length:Int)) (al (mix.call (AG,(cut endv 0 64))) λx1=>aH (inc 64 (endv.length:Int)) (kn (yN.st ((cut endv 64 ((ag endv) - 64)),so,x1))) none) none) (yN.go kx (so,AG)):=bX
theorem alY:yO.RS:=rL [.d ti,.d tB,.d (.slice (.int .u32))] yO
theorem Pq{R:Type}(t48 Nc PT)(kn:K2 R)(kx:K3 R):DC.R 3 yO (t48,Nc,PT) kn kx=aH ((fR t48 32)) (aH (eg (tf .i64 t48 4) 8) (aH (decide ((ae (tf .i64 t48 4)) < (ag PT))) (aH (decide ((((ae (tf .i64 t48 4))*1)+0)=(0+((ae (tf .i64 t48 4))*1)))) (aH (me (cK .i64 24 (fZ .i64 8 (mq t48 4)))) (aH (eg t48 32) (aH (decide ((ae t48) < (ag Nc))) (aH (decide ((((ae t48)*1)+0)=(0+((ae t48)*1)))) (aH (decide ((ae t48) < (ag Nc))) (kn (yO.st ((bI .i64 t48 1),(fM Nc (ae t48) (dV .u8 (ct .u32 (nth (.int .u32) PT (ae (tf .i64 t48 4))) (cK .i64 24 (fZ .i64 8 (mq t48 4)))))),PT))) none) none) none) none) none) none) none) none) (yO.go kx Nc):=bX
theorem aJx{R:Type}(b)(k:K1 R):DC.A b k=aH (inc (cK .i64 (b.length:Int) (mq (b.length:Int) 64)) (b.length:Int)) (al (Ae.call (cut b (ae (cK .i64 (b.length:Int) (mq (b.length:Int) 64))) ((ag b) - (ae (cK .i64 (b.length:Int) (mq (b.length:Int) 64)))))) λx1=>aH (decide (x1.1<=(ag x1.2))) (aH (cV (x1.1+1) 1) (al (yL.call (b,(x1.1+1),(ab 32 0),((aR x1.1 x1.2)++ [128]))) λx2=>al (UD.call (x2.2.1,(fZ .i64 8 (x2.1.1.length:Int)),x2.2.2)) λx3=>al (first.call ()) λx4=>al (yM.call (x2.1.1,x3.1,x2.1.2,x4,x3.2)) λx6=>aH (decide (0=0/\(0+x6.1.1)<=(ag x6.1.2.2))) (al (yN.call ((cut x6.1.2.2 0 x6.1.1),x6.1.2.1,x6.2)) λx9=>al (yO.call (0,x9.1,x9.2)) λaoO=>k (DC.out aoO)) none) none) none) none:=bX
theorem aqA:(DC.jR 0 yL):=by
 refine(DC.lp 0 yL) (λ(b,m,n2,l)=>zc l.length) ?_
 rintro⟨b,m,n2,l⟩ ⟨rfl,hl⟩;have hl:l.length+zc l.length<=140737488355328:=hl;have hr:mq ((l.length:Nat):Int) 64=((l.length%64:Nat):Int):=by unfold mq;rw[gX ak];omega
 by_cases h:l.length%64=56
 ·right;intro R kn kx;have hz:zc l.length=0:=by unfold zc;omega
  rw[Pm,hr,dA ak];simp only[ao,BO,JI,hz,cj,List.replicate_zero,bk]
 ·left;have hz:zc l.length=zc (l.length+1)+1:=by unfold zc;omega
  refine⟨(b,l.length+1,n2,l++ [0]),⟨by simp,by simp only[ai,aA,aY,aK];omega⟩,by simp only[ai,aA,aY,aK];omega,?_,λkn kx=> ?_⟩
  ·simp only[BO,JI,ai,aA,aY,aK,hz,aD,iF,aS,List.replicate_succ];rw[show l.length+1+zc (l.length+1)=l.length+(zc (l.length+1)+1) by omega]
  ·rw[Pm,hr,fe ak,D6 ak];simp only[aj,ax,cr,bK]
theorem aqB:(DC.jR 1 yM):=by
 refine(DC.lp 1 yM) (λ(b,m,n2,h,l)=>b.length) ?_
 rintro⟨b,m,n2,h,l⟩ ⟨s,rfl⟩;by_cases hb:64<=b.length
 ·left;have e1:cut b 64 (b.length - 64)=b.drop 64:=by unfold cut;rw[aX (by simp)]
  have e2:cut b 0 64=b.take 64:=rfl;have hp:ail (s.l,b.take 64):=⟨⟨s,rfl⟩,by simp;omega⟩;refine⟨(b.drop 64,m,n2,(SJ s (b.take 64)).l,l),⟨_,rfl⟩,by simp;omega,?_,λkn kx=> ?_⟩
  ·simp only[BP,JJ,oc];rw[Hg s b hb]
  ·rw[Po,fY ak,tY ak ak,e1,e2];simp only[aj,auy hp,ah,bn,auw,oc]
 ·right;intro R kn kx;rw[Po,eA ak];simp only[ao,BP,JJ,oc];rw[Er s b ak]
theorem aqC:(DC.jR 2 yN):=by
 refine(DC.lp 2 yN) (λ(b,n2,h)=>b.length) ?_
 rintro⟨b,n2,h⟩ ⟨hm,s,rfl⟩;have hm:b.length%64=0:=hm;by_cases hb:0 < b.length
 ·left;have e1:cut b 64 (b.length - 64)=b.drop 64:=by unfold cut;rw[aX (by simp)]
  have e2:cut b 0 64=b.take 64:=rfl;have hp:ail (s.l,b.take 64):=⟨⟨s,rfl⟩,by simp;omega⟩;refine⟨(b.drop 64,n2,(SJ s (b.take 64)).l),⟨by simp;omega,_,rfl⟩,by simp;omega,?_,λkn kx=> ?_⟩
  ·simp only[BQ,JK,oc];rw[Hg s b ak]
  ·rw[Pp,di ak,tY ak ak,e1,e2];simp only[aj,auy hp,ah,bn,auw,oc]
 ·right;intro R kn kx;rw[Pp,cG ak];simp only[ao,BQ,JK,oc];rw[Er s b ak]
theorem aqD:(DC.jR 3 yO):=by
 refine(DC.lp 3 yO) (λ(t,n2,h)=>32 - t.toNat) ?_
 rintro⟨t,m,h⟩ ⟨hl,h8,k,hk,rfl⟩;have hl:m.length=32:=hl;have h8:h.length=8:=h8;have e2:ae (k:Int)=k:=ak;have e3:ae ((k+1:Nat):Int)=k+1:=ak;by_cases gB:k < 32
 ·left;have e1:bI .i64 (k:Int) 1=((k+1:Nat):Int):=by rw[fG ak ak];omega
  have q4:tf .i64 (k:Int) 4=((k / 4:Nat):Int):=by
   have:(k:Int).tdiv 4=((k / 4:Nat):Int):=by rw[jV ak];omega
   unfold tf;rw[this,tW ak ak]
  have r4:mq (k:Int) 4=((k%4:Nat):Int):=by unfold mq;rw[gX ak];omega
  have s4:cK .i64 24 (fZ .i64 8 ((k%4:Nat):Int))=((24 - 8*(k%4):Nat):Int):=by rw[HI ak ak,eC ak ak];omega
  have e4:ae ((k / 4:Nat):Int)=k / 4:=ak;refine⟨(((k+1:Nat):Int),m.set k (Ku h k m[k]),h),⟨by simpa using hl,h8,k+1,ak,rfl⟩,by simp;omega,?_,λkn kx=> ?_⟩
  ·simp only[bn,JL,e2,e3];rw[JF (Ku h) m k ak]
  ·have d0:decide (k < 32)=true:=aI gB;have d1:decide (k / 4 < 8)=true:=aI ak;rw[Pq,aU ak,q4,r4,s4,bg ak ak,bg ak ak,sQ ak];simp only[e1,e2,e4,gH,aK,cj,cr,aj,hl,h8,d0,d1,Ku]
 ·right;obtain rfl:k=32:=ak;intro R kn kx;rw[Pq,aP ak];simp only[ao,bn,JL,e2];rw[Pe _ _ _ ak]
theorem ax9(w:W):ba 8 (vw w)=w.setWidth 8:=by apply BitVec.eq_of_toNat_eq;rw[rP,BitVec.toNat_setWidth];unfold vw;omega
theorem aML(w:W)(k:Int):dV .u8 (ct .u32 (vw w) k)=vw ((w >>> k.toNat).setWidth 8):=by rw[HL,Sp,ax9]
theorem auH(s:St):from_ (Ku s.l) 0 (ab 32 0)=aKm s:=by rw[YA];simp only[List.range_eq_range',List.range',bU,gZ,Ku,Nat.reduceAdd,Nat.reduceDiv,Nat.reduceMod,Nat.reduceMul,Nat.reduceSub,n0,n1,n2,n3,n4,n5,n6,n7,aML];rfl
theorem aJy:DC.Ok:=by
 intro b hb;have hb:b.length<=140737488350000:=hb;have hr:mq ((b.length:Nat):Int) 64=((b.length%64:Nat):Int):=by unfold mq;rw[gX ak];omega
 have hs:cK .i64 ((b.length:Nat):Int) ((b.length%64:Nat):Int)=((b.length - b.length%64:Nat):Int):=by rw[eC ak ak];omega
 have hn:ae ((b.length - b.length%64:Nat):Int)=b.length - b.length%64:=ak;have hm:fZ .i64 8 ((b.length:Nat):Int)=8*(b.length:Int):=HI ak ak;generalize hq:b.length - b.length%64=q at hs hn;have hc:cut b q (b.length - q)=b.drop q:=by unfold cut;rw[aX (by simp)]
 have aAB:(b.drop q).length=b.length%64:=by simp;omega
 have p1:XW (b.drop q):=by show(b.drop q).length<=_;omega
 rw[aJx,hr,hs,tY ak ak,hn,hc];simp only[aj,Mq p1,ah,bn,Hn,ax,cr,bK];have p2:Uo (b,(b.drop q).length+1,ab 32 0,b.drop q++ [128]):=by refine⟨by simp,?_⟩;simp only[ai,aA,aY,zc];omega
 have hz:zc (b.drop q++ [128]).length=AM b.length:=by simp only[ai,aA,aY,zc,AM];omega
 rw[D6 ak];simp only[aj,alV p2,ah,BO,JI,hm,hz];have hlen:(b.drop q++ [128]).length+AM b.length=(b.drop q++ [128]++ab (AM b.length) 0).length:=by rw[@ai _ (b.drop q++ [128]),cg]
 have p3:SF ((b.drop q++ [128]).length+AM b.length,8*(b.length:Int),b.drop q++ [128]++ab (AM b.length) 0):=by refine⟨hlen,?_⟩;simp only[ai,aA,aY,cg,AM];omega
 have p4:Up (b,(b.drop q++ [128]++ab (AM b.length) 0).length+8,ab 32 0,rY.l,b.drop q++ [128]++ab (AM b.length) 0++iZ (8*(b.length:Int))):=⟨rY,rfl⟩;simp only[afb p3,ah,bn,WV,awT (d:=()) trivial,bn,at5,alW p4,BP,JJ,oc];generalize he:b.drop q++ [128]++ab (AM b.length) 0++iZ (8*(b.length:Int))=e;have Ke:(b.drop q++ [128]++ab (AM b.length) 0).length+8=e.length:=by rw[<-he,@ai _ _ (iZ _),b8]
 have aOX:e.length%64=0:=by rw[<-Ke];simp only[ai,aA,aY,cg,AM,aAB];omega
 have aNg:cut e 0 ((b.drop q++ [128]++ab (AM b.length) 0).length+8)=e:=by rw[Ke];unfold cut;rw[aG,bK]
 rw[aNg,Ke,aI ⟨trivial,ak⟩];have p5:Uq (e,ab 32 0,(blocks rY b).l):=⟨aOX,blocks rY b,rfl⟩;have p6:Ur (0,ab 32 0,(blocks (blocks rY b) e).l):=⟨rfl,rfl,0,ak,rfl⟩;simp only[aj,alX p5,ah,BQ,JK,oc,alY p6,bn,JL,bn,aqz];rw[show ae 0=0 from rfl,auH];have aOT:blocks rY (pad b)=blocks (blocks rY b) e:=by
  have h1:pad b=b.take q++e:=by rw[<-he];unfold pad;rw[aD,aD,<-aD (b.take q),dH];rfl
  have h2:blocks rY b=blocks (blocks rY (b.take q)) (b.drop q):=by rw[<-Kr _ _ _ (by simp;omega),dH]
  rw[h1,Kr _ _ _ (by simp;omega),h2,Er _ (b.drop q) ak]
 rw[aOh,aOT]
theorem aDI:DC.RS:=rE [.d tB] DC
def aJz:=DC.eP aJy 4 ⟨.fp aqA,⟨.fp aqB,⟨.fp aqC,⟨.fp aqD,trivial⟩⟩⟩⟩
abbrev Sl:=Nat×(List Bs)×Int×Int×Bs×(List Int)
abbrev ae4:=Nat×(List Int)
def BR:Sl->ae4->((Bs)×(Nat×(List Int))):=λ(bL,t13,t14,t15,n4,n10) y=>(n4,y)
abbrev aDJ:=ByteArray×(List Bs)
def Us:Sl->Prop:=λ(m,ps,n,i,n4,l)=>m=l.length/\n=ps.length/\ps.length<=140737488350000/\∃k:Nat,k<=ps.length/\i=k/\l.length+(oo (ps.drop k)).length<=140737488350000
def JM:Sl->ae4:=λ(m,ps,n,i,n4,l)=>(l.length+(oo (ps.drop i.toNat)).length,l++oo (ps.drop i.toNat))
def Ps:aDJ->Prop:=λ(name,ps)=>(Tx (bG name) ps).length<=140737488350000
def ahT:aDJ->Bs:=λ(name,ps)=>tag (bG name) ps
def yP:Ls Us BR JM:=qz (λ(bL,t13,t14,t15,n4,n10)=>⟨(aQ 4 ([eI 4,nG 10 bL]++aQ 7 ([.d (.slice tB) t13,.d ti t14,.d ti t15]++aQ 12 []))),[],(bD 4 ([dK (.d tH n4)]++bD 5 ([dK (.vec 5 tb n10)]++bD 17 [])))⟩) (λx=>(.exit 0,⟨(aQ 4 ([eI 4,nG 10 x.2.1]++aQ 22 [])),[],(bD 4 ([dK (.d tH x.1)]++bD 5 ([dK (.vec 5 tb x.2.2)]++bD 17 [])))⟩))
def Sk:Fs Tryz.prog Ps bn ahT:=eK 68 Tryz.f68 (λ(name,parts)=>([.d .str name,.d (.slice tB) parts],[])) (λx=>⟨.d tH x,[],[]⟩) [some .str,some (.slice tB)] [aEn,amn,aJz] {loops:=nF [(3,{aV:=[4,5,13,14,15],sites:=[4,10],owns:=[⟨5,[],10,127⟩]})],outs:=nE [(3,{aV:=[4,5],sites:=[4,10]},{aV:=[4]})],fw:=nr [(3,yP.E)]}
theorem al0:yP.RS:=rL [.n,.d (.slice tB),.d ti,.d ti,.d tB,.d tB] yP
theorem Pr{R:Type}(bL t13 t14 t15 n4 n10)(kn:K2 R)(kx:K3 R):Sk.R 0 yP (bL,t13,t14,t15,n4,n10) kn kx=aH ((fR t15 t14)) (aH (eg t15 (t13.length:Int)) (al (UD.call (bL,(((ag (nth tB t13 (ae t15))):Nat):Int),n10)) λx1=>aH (decide (x1.1<=(ag x1.2))) (aH (cV (x1.1+(ag (nth tB t13 (ae t15)))) 1) (kn (yP.st ((x1.1+(ag (nth tB t13 (ae t15)))),t13,t14,(bI .i64 t15 1),n4,((aR x1.1 x1.2)++(nth tB t13 (ae t15)))))) none) none) none) (yP.go kx (n4,(bL,n10))):=bX
theorem aJA{R:Type}(name parts)(k:K1 R):Sk.A (name,parts) k=al (Za.call (((ByteArray.size name):Nat):Int)) λx1=>aH (decide (x1.1<=(ag x1.2))) (aH (cV (x1.1+(ag (bG name))) 1) (al (yP.call ((x1.1+(ag (bG name))),parts,(parts.length:Int),0,(ab 32 0),((aR x1.1 x1.2)++(bG name)))) λx4=>aH (decide (0=0/\(0+x4.2.1)<=(ag x4.2.2))) (al (DC.call (cut x4.2.2 0 x4.2.1)) λx5=>k (Sk.out x5)) none) none) none:=bX
theorem af5(p:List Int)(ps:List (List Int)):oo (p::ps)=iZ p.length++p++oo ps:=by simp[oo]
theorem af6(ps:List (List Int))(k:Nat)(h:k < ps.length):oo (ps.drop k)=iZ ps[k].length++ps[k]++oo (ps.drop (k+1)):=by rw[aq h,af5]
theorem aqE:(Sk.jR 0 yP):=by
 refine(Sk.lp 0 yP) (λ(m,ps,n,i,n4,l)=>ps.length - i.toNat) ?_
 rintro⟨m,ps,n,i,n4,l⟩ ⟨rfl,rfl,NZ,k,hk,rfl,hl⟩;have hl:l.length+(oo (ps.drop k)).length<=140737488350000:=hl;have hk:k<=ps.length:=hk;have e2:ae (k:Int)=k:=ak;have e3:ae ((k+1:Nat):Int)=k+1:=ak;by_cases h:k < ps.length
 ·left;have ht:=af6 ps k h;have hlen:(oo (ps.drop k)).length=8+ps[k].length+(oo (ps.drop (k+1))).length:=by rw[ht];simp only[ai,b8]
  have hn:nth (.slice (.int .u8)) ps k=ps[k]:=bW (t:= .slice (.int .u8)) h;have NZ:ps.length<=140737488350000:=NZ;have e1:bI .i64 (k:Int) 1=((k+1:Nat):Int):=by rw[fG ak ak];omega
  refine⟨((l++iZ ps[k].length++ps[k]).length,ps,(ps.length:Int),((k+1:Nat):Int),n4,l++iZ ps[k].length++ps[k]),⟨rfl,rfl,NZ,k+1,by show k+1<=ps.length;omega,rfl,?_⟩,?_,?_,λkn kx=> ?_⟩
  ·show(l++iZ ps[k].length++ps[k]).length+(oo (ps.drop (k+1))).length<=_;simp only[ai,b8];omega
  ·show ps.length - ae ((k+1:Nat):Int) < ps.length - ae (k:Int);omega
  ·simp only[BR,JM,e2,e3,ht,aD];simp only[ai,b8,eM]
  ·have p1:SF (l.length,(ps[k].length:Int),l):=⟨rfl,by show l.length<=_;omega⟩;rw[Pr,aU ak,bg ak ak,e1,e2];simp only[aj,hn,afb p1,ah,bn,WV];have aHR:(l++iZ ps[k].length).length=l.length+8:=by simp[b8]
   rw[aHR,aI (ax _),D6 ak];simp only[aj];rw[aX (by rw[aHR];omega)];simp only[ai,b8,eM]
 ·right;obtain rfl:k=ps.length:=ak;intro R kn kx;rw[Pr,aP ak];simp only[ao,BR,JM,e2,aL];simp[oo]
theorem abu:∀ps:List (List Int),8*ps.length<=(oo ps).length
 |[]=>by simp[oo]
 |p::ps=>by rw[af5];have:=abu ps;simp only[ai,b8,aA];omega
theorem kK(s:ByteArray):(bG s).length=s.size:=by simp only[bG,bZ,cJ];rfl
theorem aJB:Sk.Ok:=by
 rintro⟨name,ps⟩ hp;have hp:(iZ (bG name).length++bG name++oo ps).length<=140737488350000:=hp;have hl:(iZ (bG name).length++bG name++oo ps).length=8+(bG name).length+(oo ps).length:=by simp only[ai,b8]
 have NZ:=abu ps;have te:((name.size:Nat):Int)=(((bG name).length:Nat):Int):=by rw[kK]
 rw[aJA,axH (d:=((name.size:Nat):Int)) trivial,te];simp only[ah,bn,aur,b8,ax,cr,aj];rw[D6 ak,aX (by rw[b8];omega)];have p2:Us (8+(bG name).length,ps,(ps.length:Int),0,ab 32 0,iZ ((bG name).length:Int)++bG name):=by refine⟨by simp only[ai,b8],rfl,by show ps.length<=_;omega,0,aM _,rfl,?_⟩;rw[aG];simp only[ai,b8];omega
 simp only[aj,al0 p2,ah,BR,JM,aZ,aG];have axd:cut (iZ ((bG name).length:Int)++bG name++oo ps) 0 ((iZ ((bG name).length:Int)++bG name).length+(oo ps).length)=Tx (bG name) ps:=by unfold cut;rw[aG,aX (by simp only[ai];omega)];rfl
 have p3:alZ (Tx (bG name) ps):=hp;rw[aI ⟨trivial,by simp only[ai];omega⟩,axd];simp only[aj,aDI p3,ah,bn,aqz,bn,ahT,tag]
theorem Pt:Sk.RS:=rE [.d .str,.d (.slice tB)] Sk
def WL:=Sk.eP aJB 1 ⟨.fp aqE,trivial⟩
def afS:(Int×Int)->Prop:=λ(x,n)=>0<=x/\x < 4294967296/\0<=n/\n<=32
def aKQ:(Int×Int)->Int:=λ(x,n)=>vw (vE (ba 32 x) n.toNat)
def pn:Fs Tryz.prog afS bn aKQ:=eK 222 Tryz.f222 (λ(x,n)=>([.d (.int .u32) x,.d ti n],[])) (λx=>⟨.d (.int .u32) x,[],[]⟩) [some (.int .u32),some ti]
theorem aGc{R:Type}(x n)(k:K1 R):pn.A (x,n) k=aH (me n) (aH (me (cK .i64 32 n)) (k (pn.out (cF .or .u32 (ct .u32 x n) (l7 .u32 x (cK .i64 32 n))))) none) none:=bX
theorem aGd:pn.Ok:=by
 rintro⟨x,n⟩ ⟨h1,h2,h3,h4⟩;obtain⟨n,rfl⟩:=Int.eq_ofNat_of_zero_le h3;have hx:x=vw (ba 32 x):=by rw[gQ];have h1:0<=x:=h1;have h2:x < 4294967296:=h2;omega
 have h4:(n:Int)<=32:=h4;rw[aGc];simp(disch:=omega) only[↓S1,↓if_pos,↓if_neg,if_pos,if_neg,bH,bq,S2];have e2:cF .or .u32 (ct .u32 x (n:Int)) (l7 .u32 x ((32 - n:Nat):Int))=vw (vE (ba 32 x) n):=by
  conv=>lhs;rw[hx]
  rw[Py,HL,pR];simp only[vE,aa];rw[BitVec.or_comm]
 rw[e2];rfl
theorem azg:pn.RS:=rE [.d (.int .u32),.d ti] pn
def anP:=pn.eP aGd
theorem AY(w:W){k:Int}(h:0<=k/\k<=32):pn.call (vw w,k)=some (vw (vE w k.toNat)):=by have h:afS (vw w,k):=⟨TE w,by have:=aHe w;simpa using this,h.1,h.2⟩;rw[azg h];show some (vw (vE (ba 32 (vw w)) k.toNat))=_;rw[uj]
def anC:Unit->Prop:=λ_=>True
def afI:Unit->(List Int):=λ_=>rY.l
def Fq:Fs Tryz.prog anC bn afI:=eK 189 Tryz.f189 (λ_=>([],[])) (λx=>⟨.d (.slice (.int .u32)) x,[],[]⟩) [] [] {bJ:=[1],res:=[some (.slice (.int .u32))]}
theorem ar5{R:Type}(d)(k:K1 R):Fq.A d k=k (Fq.out [1779033703,3144134277,1013904242,2773480762,1359893119,2600822924,528734635,1541459225]):=bX
theorem ar6:Fq.Ok:=by intro d _;rw[ar5];rfl
theorem anD:Fq.RS:=rE [] Fq
def ar7:=Fq.eP ar6
def ayS:Unit->Prop:=λ_=>True
def auR:Unit->(List Int):=λ_=>SB
def aaz:Fs Tryz.prog ayS bn auR:=eK 221 Tryz.f221 (λ_=>([],[])) (λx=>⟨.d (.slice (.int .u32)) x,[],[]⟩) [] [] {bJ:=[1],res:=[some (.slice (.int .u32))]}
theorem aFA{R:Type}(d)(k:K1 R):aaz.A d k=k (aaz.out [1116352408,1899447441,3049323471,3921009573,961987163,1508970993,2453635748,2870763221,3624381080,310598401,607225278,1426881987,1925078388,2162078206,2614888103,3248222580,3835390401,4022224774,264347078,604807628,770255983,1249150122,1555081692,1996064986,2554220882,2821834349,2952996808,3210313671,3336571891,3584528711,113926993,338241895,666307205,773529912,1294757372,1396182291,1695183700,1986661051,2177026350,2456956037,2730485921,2820302411,3259730800,3345764771,3516065817,3600352804,4094571909,275423344,430227734,506948616,659060556,883997877,958139571,1322822218,1537002063,1747873779,1955562222,2024104815,2227730452,2361852424,2428436474,2756734187,3204031479,3329325298]):=bX
theorem aFB:aaz.Ok:=by intro d _;rw[aFA];rfl
theorem ayT:aaz.RS:=rE [] aaz
def aFC:=aaz.eP aFB
abbrev Fv:=Bs×Nat×(List Int)
abbrev Qu:=Nat×(List Int)
def uq:Fv->Qu->((Bs)×(Nat×(List Int))):=λ(gI,outL,n6) y=>(gI,y)
abbrev Qv:=Nat×Int×Int×(List Int)
def ID:Fv->Prop:=λ(b,m,l)=>m=l.length/\l.length+zc l.length<=140737488355328
def zg:Fv->Qu:=λ(b,m,l)=>(l.length+zc l.length,l++ab (zc l.length) 0)
def IE:Qv->Prop:=λ(m,n,kv,l)=>0<=n/\n < 18446744073709551616/\∃j:Nat,j<=8/\kv=56 - 8*(j:Int)/\m=l.length/\l.length<=140737488355320+j
def zh:Qv->(Nat×(List Int)):=λ(m,n,kv,l)=>(l.length+(iZ n).length - (7 - (kv / 8)).toNat,l++(iZ n).drop (7 - (kv / 8)).toNat)
def Vn:Bs->Prop:=λb=>b.length<=140737488350000
def Tb:Bs->Bs:=λb=>pad b
def na:Ls ID uq zg:=qz (λ(gI,outL,n6)=>⟨([.d tB gI,bB,bB,nG 6 outL]++aQ 31 []),[],(bD 6 ([dK (.vec 5 tb n6)]++bD 28 []))⟩) (λx=>(.exit 0,⟨([.d tB x.1,bB,bB,nG 6 x.2.1]++aQ 31 []),[],(bD 6 ([dK (.vec 5 tb x.2.2)]++bD 28 []))⟩))
def nc:Ls IE bn zh:=qz (λ(H5,n,kv,axX)=>⟨([bB,bB,bB,nG 6 H5,.d tu n,.d ti kv]++aQ 29 []),[],(bD 6 ([dK (.vec 5 tb axX)]++bD 28 []))⟩) (λx=>(.exit 2,⟨([bB,bB,bB,nG 6 x.1]++aQ 31 []),[],(bD 6 ([dK (.vec 5 tb x.2)]++bD 28 []))⟩))
def qj:Fs Tryz.prog Vn bn Tb:=eK 188 Tryz.f188 (λb=>([.d tB b],[])) (λx=>⟨.d tB x,[],[]⟩) [some tB] [] {bJ:=[6],loops:=nF [(3,{aV:=[0,3],sites:=[6],owns:=[⟨3,[],6,127⟩]}),(7,{aV:=[3,4,5],sites:=[6],owns:=[⟨3,[],6,127⟩]})],outs:=nE [(3,{aV:=[0,3],sites:=[6]},{aV:=[2]}),(7,{aV:=[3],sites:=[6]},{aV:=[2]})],fw:=nr [(3,na.E),(7,nc.E)],res:=[some tB]}
theorem aaU:na.RS:=rL [.d tB,.n,.d tB] na
theorem Gq{R:Type}(gI outL n6)(kn:K2 R)(kx:K3 R):qj.R 0 na (gI,outL,n6) kn kx=aH ((BT (mq ((outL:Nat):Int) 64) 56)) (aH (decide (outL<=(ag n6))) (aH (cV (outL+1) 1) (kn (na.st (gI,(outL+1),((aR outL n6)++ [0])))) none) none) (na.go kx (gI,(outL,n6))):=bX
theorem aaV:nc.RS:=rL [.n,.d tu,.d ti,.d tB] nc
theorem Gr{R:Type}(H5 n kv axX)(kn:K2 R)(kx:K3 R):qj.R 1 nc (H5,n,kv,axX) kn kx=aH ((BS kv 0)) (aH (me kv) (aH (decide (H5<=(ag axX))) (aH (cV (H5+1) 1) (kn (nc.st ((H5+1),n,(cK .i64 kv 8),((aR H5 axX)++ [(dV .u8 (ct .u64 n kv))])))) none) none) none) (nc.go kx (H5,axX)):=bX
theorem asd{R:Type}(b)(k:K1 R):qj.A b k=aH (cV (0+(ag b)) 1) (aH (decide ((0+(ag b))<=(ag ((aR 0 (ab 0 0))++b)))) (aH (cV ((0+(ag b))+1) 1) (al (na.call (b,((0+(ag b))+1),((aR (0+(ag b)) ((aR 0 (ab 0 0))++b))++ [128]))) λx1=>al (nc.call (x1.2.1,(fZ .u64 8 (dV .u64 (x1.1.length:Int))),56,x1.2.2)) λx2=>aH (decide (0=0/\(0+x2.1)<=(ag x2.2))) (k (qj.out (cut x2.2 0 x2.1))) none) none) none) none:=bX
theorem adt:(qj.jR 0 na):=by
 refine(qj.lp 0 na) (λ(b,m,l)=>zc l.length) ?_
 rintro⟨b,m,l⟩ ⟨rfl,hl⟩;have hl:l.length+zc l.length<=140737488355328:=hl;by_cases h:l.length%64=56
 ·right;intro R kn kx;have hz:zc l.length=0:=by unfold zc;omega
  rw[Gq];simp(disch:=omega) only[↓S1,↓if_pos,↓if_neg,if_pos,if_neg,bH,bq,S2,uq,zg,hz,cj,List.replicate_zero,bk]
 ·left;have hz:zc l.length=zc (l.length+1)+1:=by unfold zc;omega
  refine⟨(b,l.length+1,l++ [0]),⟨by simp,by simp only[ai,aA,aY,aK];omega⟩,by simp only[ai,aA,aY,aK];omega,?_,λkn kx=> ?_⟩
  ·simp only[uq,zg,ai,aA,aY,aK,hz,aD,iF,aS,List.replicate_succ];rw[show l.length+1+zc (l.length+1)=l.length+(zc (l.length+1)+1) by omega]
  ·rw[Gq];simp(disch:=omega) only[↓S1,↓if_pos,↓if_neg,if_pos,if_neg,bH,bq,S2,bK]
theorem akj(n:Int)(j:Nat)(h:j < 8):(iZ n).drop j=n / 2^(56 - 8*j)%256::(iZ n).drop (j+1):=by rcases(by omega:j=0\/j=1\/j=2\/j=3\/j=4\/j=5\/j=6\/j=7) with rfl | rfl | rfl | rfl | rfl | rfl | rfl | rfl <;> simp[iZ]
theorem ab3(n:Int)(k:Nat)(h1:k<=64):dV .u8 (ct .u64 n (k:Int))=n / 2^k%256:=by
 rw[Sp,gQ,ct];have e:min (k:Int).toNat IntKind.u64.bits=k:=by simp only[IntKind.bits];omega
 rw[e,jU _ (Int.le_of_lt (Int.pow_pos ak))];rfl
theorem adu:(qj.jR 1 nc):=by
 refine(qj.lp 1 nc) (λ(m,n,kv,l)=>(kv+8).toNat) ?_
 rintro⟨m,n,kv,l⟩ ⟨h1,h2,j,hj,rfl,rfl,hl⟩;have hl:l.length<=140737488355320+j:=hl;have e1:(7 - ((56 - 8*(j:Int)) / 8)).toNat=j:=ak;by_cases h:j < 8
 ·left;have e2:cK .i64 (56 - 8*(j:Int)) 8=56 - 8*((j+1:Nat):Int):=by rw[eC ak ak];omega
  have e3:(7 - ((56 - 8*((j+1:Nat):Int)) / 8)).toNat=j+1:=ak;have e4:(56 - 8*(j:Int))=((56 - 8*j:Nat):Int):=ak;refine⟨(l.length+1,n,56 - 8*((j+1:Nat):Int),l++ [n / 2^(56 - 8*j)%256]),⟨h1,h2,j+1,ak,rfl,by simp,by simp only[ai,aA,aY];omega⟩,by simp only;omega,?_,λkn kx=> ?_⟩
  ·simp only[bn,zh,e1,e3,akj n j h,ai,aA,aY,aD,iF,aS,b8];rw[show l.length+(0+1)+8 - (j+1)=l.length+8 - j by omega]
  ·rw[Gr,e2,e4,ab3 n _ ak];simp(disch:=omega) only[↓S1,↓if_pos,↓if_neg,if_pos,if_neg,bH,bq,S2,bK]
 ·right;obtain rfl:j=8:=ak;intro R kn kx;rw[Gr];simp(disch:=omega) only[↓S1,↓if_pos,↓if_neg,if_pos,if_neg,bH,bq,S2,bn,zh,e1];simp[iZ]
theorem ase:qj.Ok:=by
 intro b hb;have hb:b.length<=140737488350000:=hb;have hz:zc (b++ [128]).length=AM b.length:=by simp only[ai,aA,aY,zc,AM];omega
 have aVX:AM b.length < 64:=by unfold AM;omega
 have p1:ID (b,b.length+1,b++ [128]):=⟨by simp,by rw[hz];simp only[ai,aA,aY] <;> omega⟩;have e1:dV .u64 ((b.length:Nat):Int)=((b.length:Nat):Int):=by rw[WM,gQ];omega
 have e2:fZ .u64 8 ((b.length:Nat):Int)=8*(b.length:Int):=by unfold fZ;rw[wrap_u64,gQ];omega
 have e3:aR b.length b=b:=bK;rw[asd];simp only[List.replicate_zero,List.take_nil,aS,aK,e1,e2,e3];simp(disch:=omega) only[↓S1,↓if_pos,↓if_neg,if_pos,if_neg,bH,bq,S2,aaU p1,uq,zg,hz];have p2:IE ((b++ [128]).length+AM b.length,8*(b.length:Int),56,b++ [128]++ab (AM b.length) 0):=by refine⟨ak,ak,0,ak,rfl,by simp only[ai,aA,aY,cg] <;> omega,?_⟩;simp only[ai,aA,aY,cg];omega
 simp(disch:=omega) only[↓S1,↓if_pos,↓if_neg,if_pos,if_neg,bH,bq,S2,e1,e2,aaV p2,bn,zh];have e5:(7 - ((56:Int) / 8)).toNat=0:=by decide
 rw[e5,aG];have e6:(b++ [128]++ab (AM b.length) 0).length+(iZ (8*(b.length:Int))).length - 0=(b++ [128]++ab (AM b.length) 0++iZ (8*(b.length:Int))).length:=by rw[@ai _ _ (iZ _)];omega
 rw[e6,if_pos (ax _)];unfold cut;rw[aG,bK];simp only[bn,Tb,pad,aD,iF,aS]
theorem anJ:qj.RS:=rE [.d tB] qj
def asf:=qj.eP ase 2 ⟨.fp adt,⟨.fp adu,trivial⟩⟩
abbrev Vr:=Bs×Nat×Int×(List Int)
abbrev Vs:=Nat×Int×(List Int)
def Lx:Vr->Prop:=λ(b,m,i,l)=>64<=b.length/\∃k:Nat,k<=16/\i=k/\k=m/\l=wl ((words b).take k)
def IH:Vr->(Nat×(List Int)):=λ(b,m,i,l)=>(16,wl (words b))
def Ly:Vs->Prop:=λ(m,i,l)=>∃ws:List W,16<=ws.length/\ws.length<=64/\l=wl ws/\m=ws.length/\i=(ws.length:Nat)
def Cl:Vs->(Nat×(List Int)):=λ(m,i,l)=>(64,wl (aHZ (aHc l) (64 - l.length)))
def aa2:Bs->Prop:=λb=>64<=b.length
def aa1:Bs->(List Int):=λb=>wl (sched b)
def qk:Ls Lx bn IH:=qz (λ(gI,wL,i,n49)=>⟨([.d tB gI,bB,bB,nG 49 wL,.d ti i]++aQ 94 []),[],(bD 49 ([dK (.vec 231 (.int .u32) n49)]++bD 49 []))⟩) (λx=>(.exit 0,⟨([bB,bB,bB,nG 49 x.1]++aQ 95 []),[],(bD 49 ([dK (.vec 231 (.int .u32) x.2)]++bD 49 []))⟩))
def ql:Ls Ly bn Cl:=qz (λ(Wv,gT,uY)=>⟨([bB,bB,bB,nG 49 Wv,bB,.d ti gT]++aQ 93 []),[],(bD 49 ([dK (.vec 231 (.int .u32) uY)]++bD 49 []))⟩) (λx=>(.exit 2,⟨([bB,bB,bB,nG 49 x.1]++aQ 95 []),[],(bD 49 ([dK (.vec 231 (.int .u32) x.2)]++bD 49 []))⟩))
def vF:Fs Tryz.prog aa2 bn aa1:=eK 220 Tryz.f220 (λb=>([.d tB b],[])) (λx=>⟨.d (.slice (.int .u32)) x,[],[]⟩) [some tB] [anP] {loops:=nF [(3,{aV:=[0,3,4],sites:=[49],owns:=[⟨3,[],49,248⟩]}),(7,{aV:=[3,5],sites:=[49],owns:=[⟨3,[],49,248⟩]})],outs:=nE [(3,{aV:=[3],sites:=[49]},{aV:=[2]}),(7,{aV:=[3],sites:=[49]},{aV:=[2]})],fw:=nr [(3,qk.E),(7,ql.E)],res:=[some (.slice (.int .u32))]}
theorem adv:qk.RS:=rL [.d tB,.n,.d ti,.d (.slice (.int .u32))] qk
theorem II{R:Type}(gI wL i n49)(kn:K2 R)(kx:K3 R):vF.R 0 qk (gI,wL,i,n49) kn kx=aH ((fR i 16)) (aH (eg (fZ .i64 4 i) (gI.length:Int)) (aH (eg (bI .i64 (fZ .i64 4 i) 1) (gI.length:Int)) (aH (eg (bI .i64 (fZ .i64 4 i) 2) (gI.length:Int)) (aH (eg (bI .i64 (fZ .i64 4 i) 3) (gI.length:Int)) (aH (decide (wL<=(ag n49))) (aH (cV (wL+1) 4) (kn (qk.st (gI,(wL+1),(bI .i64 i 1),((aR wL n49)++ [(cF .or .u32 (cF .or .u32 (cF .or .u32 (l7 .u32 (dV .u32 (nth tb gI (ae (fZ .i64 4 i)))) 24) (l7 .u32 (dV .u32 (nth tb gI (ae (bI .i64 (fZ .i64 4 i) 1)))) 16)) (l7 .u32 (dV .u32 (nth tb gI (ae (bI .i64 (fZ .i64 4 i) 2)))) 8)) (dV .u32 (nth tb gI (ae (bI .i64 (fZ .i64 4 i) 3)))))])))) none) none) none) none) none) none) (qk.go kx (wL,n49)):=bX
theorem adw:ql.RS:=rL [.n,.d ti,.d (.slice (.int .u32))] ql
theorem IJ{R:Type}(Wv gT uY)(kn:K2 R)(kx:K3 R):vF.R 1 ql (Wv,gT,uY) kn kx=aH ((fR gT 64)) (aH (eg (cK .i64 gT 15) ((Wv:Nat):Int)) (aH (decide ((0+(ae (cK .i64 gT 15))) < (ag uY))) (aH (decide ((((0+(ae (cK .i64 gT 15)))*1)+0)=(0+((ae (cK .i64 gT 15))*1)))) (aH (eg (cK .i64 gT 2) ((Wv:Nat):Int)) (aH (decide ((0+(ae (cK .i64 gT 2))) < (ag uY))) (aH (decide ((((0+(ae (cK .i64 gT 2)))*1)+0)=(0+((ae (cK .i64 gT 2))*1)))) (al (pn.call ((nth (.int .u32) uY (0+(ae (cK .i64 gT 15)))),7)) λx1=>al (pn.call ((nth (.int .u32) uY (0+(ae (cK .i64 gT 15)))),18)) λx2=>al (pn.call ((nth (.int .u32) uY (0+(ae (cK .i64 gT 2)))),17)) λx3=>al (pn.call ((nth (.int .u32) uY (0+(ae (cK .i64 gT 2)))),19)) λx4=>aH (eg (cK .i64 gT 16) ((Wv:Nat):Int)) (aH (decide ((0+(ae (cK .i64 gT 16))) < (ag uY))) (aH (decide ((((0+(ae (cK .i64 gT 16)))*1)+0)=(0+((ae (cK .i64 gT 16))*1)))) (aH (eg (cK .i64 gT 7) ((Wv:Nat):Int)) (aH (decide ((0+(ae (cK .i64 gT 7))) < (ag uY))) (aH (decide ((((0+(ae (cK .i64 gT 7)))*1)+0)=(0+((ae (cK .i64 gT 7))*1)))) (aH (decide (Wv<=(ag uY))) (aH (cV (Wv+1) 4) (kn (ql.st ((Wv+1),(bI .i64 gT 1),((aR Wv uY)++ [(bI .u32 (bI .u32 (bI .u32 (nth (.int .u32) uY (0+(ae (cK .i64 gT 16)))) (cF .xor .u32 (cF .xor .u32 x1 x2) (ct .u32 (nth (.int .u32) uY (0+(ae (cK .i64 gT 15)))) 3))) (nth (.int .u32) uY (0+(ae (cK .i64 gT 7))))) (cF .xor .u32 (cF .xor .u32 x3 x4) (ct .u32 (nth (.int .u32) uY (0+(ae (cK .i64 gT 2)))) 10)))])))) none) none) none) none) none) none) none) none) none) none) none) none) none) none) (ql.go kx (Wv,uY)):=bX
theorem azj{R:Type}(b)(k:K1 R):vF.A b k=al (qk.call (b,0,0,([]:List Int))) λx1=>al (ql.call (x1.1,16,x1.2)) λaoO=>aH (decide (0=0/\(0+aoO.1)<=(ag aoO.2))) (k (vF.out (cut aoO.2 0 aoO.1))) none:=bX
theorem zT(ws:List W):(wl ws).length=ws.length:=by simp[wl]
theorem avh(m:List W):∀n,aHZ (ext m) n=aHZ m (n+1)
 | 0=>rfl
 |n+1=>by rw[aHZ,avh m n];rfl
theorem aMx(b:List Int)(k:Nat)(h:4*k+3 < b.length):be b k=aPq (nth (.int .u8) b (4*k)) (nth (.int .u8) b (4*k+1)) (nth (.int .u8) b (4*k+2)) (nth (.int .u8) b (4*k+3)):=rfl
theorem ai1:(vF.jR 0 qk):=by
 refine(vF.lp 0 qk) (λ(b,m,i,l)=>16 - m) ?_
 rintro⟨b,m,i,l⟩ ⟨hb,k,hk,rfl,rfl,rfl⟩;have hb:64<=b.length:=hb;have hl:(wl ((words b).take k)).length=k:=by rw[zT,bt,eS];omega
 by_cases h:k < 16
 ·left;refine⟨(b,k+1,((k+1:Nat):Int),wl ((words b).take (k+1))),⟨hb,k+1,ak,rfl,rfl,rfl⟩,by simp only;omega,rfl,λkn kx=> ?_⟩;rw[II];simp(disch:=omega) only[↓S1,↓if_pos,↓if_neg,if_pos,if_neg,bH,bq,S2,hl,aX (tr hl)];rw[hZ (by rw[eS];exact h)];simp only[aue,Py,pR,wl,rj,bU,gZ];have e:(words b)[k]'(by rw[eS];exact h)=be b k:=by simp[words]
  rw[e,aMx b k ak];rfl
 ·right;obtain rfl:k=16:=ak;intro R kn kx;rw[II];simp(disch:=omega) only[↓S1,↓if_pos,↓if_neg,if_pos,if_neg,bH,bq,S2,bn,IH];rw[aX (by rw[eS];omega)]
theorem ai2:(vF.jR 1 ql):=by
 refine(vF.lp 1 ql) (λ(m,i,l)=>64 - m) ?_
 rintro⟨m,i,l⟩ ⟨ws,h1,h2,rfl,rfl,rfl⟩;have hl:=zT ws;by_cases h:ws.length < 64
 ·left;refine⟨(ws.length+1,((ws.length+1:Nat):Int),wl (ext ws)),⟨ext ws,by rw[vc];omega,by rw[vc];omega,rfl,by rw[vc],by rw[vc]⟩,by simp only;omega,?_,λkn kx=> ?_⟩
  ·simp only[bn,Cl,FO,zT,vc];rw[avh,show 64 - (ws.length+1)+1=64 - ws.length by omega]
  ·rw[IJ];simp(disch:=omega) only[↓S1,↓if_pos,↓if_neg,if_pos,if_neg,bH,bq,S2,hl,aK,gH,cj,TI ws _ (by omega:ws.length - 15 < ws.length),TI ws _ (by omega:ws.length - 2 < ws.length),TI ws _ (by omega:ws.length - 16 < ws.length),TI ws _ (by omega:ws.length - 7 < ws.length),AY,pR,HL,DD,aX (tr hl)];unfold ext wl;rw[rj];rfl
 ·right;have EY:ws.length=64:=ak;intro R kn kx;rw[IJ];simp(disch:=omega) only[↓S1,↓if_pos,↓if_neg,if_pos,if_neg,bH,bq,S2,bn,Cl,hl,EY,FO,Nat.sub_self];rfl
theorem azk:vF.Ok:=by
 intro b hb;have p1:Lx (b,0,0,[]):=⟨hb,0,ak,rfl,rfl,rfl⟩;have p2:Ly (16,16,wl (words b)):=⟨words b,by rw[eS];omega,by rw[eS];omega,rfl,by rw[eS],by rw[eS];rfl⟩;have hs:(sched b).length=64:=by unfold sched;rw[Bm,eS]
 rw[azj];simp(disch:=omega) only[↓S1,↓if_pos,↓if_neg,if_pos,if_neg,bH,bq,S2,adv p1,bn,IH,adw p2,bn,Cl,FO,zT,eS,aK,Nat.reduceSub];have e:aHZ (words b) 48=sched b:=rfl;rw[e,hs,if_pos (ax _)];unfold cut;rw[aG,aX (by rw[zT];omega)];simp only[bn,aa1]
theorem asl:vF.RS:=rE [.d tB] vF
def azl:=vF.eP azk 2 ⟨.fp ai1,⟨.fp ai2,trivial⟩⟩
abbrev It:=(List Int)×(List Int)×(List Int)×Nat×Int×(List Int)
abbrev Vi:=Nat×(List Int)
def C3:It->Vi->(((List Int))×(Nat×(List Int))):=λ(Pg,wv,kv,vL,i,n18) y=>(Pg,y)
abbrev Iw:=(List Int)×Nat×Int×(List Int)
def wB:Iw->(List Int)->((Nat)×((List Int))):=λ(aua,ajC,gT,K9) y=>(ajC,y)
def Lt:It->Prop:=λ(h,wv,kv,m,i,l)=>∃(s:St) (ws:List W) (k:Nat),h=s.l/\wv=wl ws/\ws.length=64/\k<=64/\i=k/\kv=SB/\m=8/\l=(rounds ws s k).l
def Iu:It->Vi:=λ(h,wv,kv,m,i,l)=>(8,(rounds (aHc wv) (ajj h) 64).l)
def Lu:Iw->Prop:=λ(h,m,i,l)=>h.length=8/\l.length=8/\m=8/\∃k:Nat,k<=8/\i=k
def Cc:Iw->(List Int):=λ(h,m,i,l)=>from_ (λi x=>bI .u32 x (nth (.int .u32) h i)) i.toNat l
def aaC:((List Int)×Bs)->Prop:=λ(h,b)=>(∃s:St,h=s.l)/\64<=b.length
def aaB:((List Int)×Bs)->(List Int):=λ(h,b)=>(SJ (ajj h) b).l
def nP:Ls Lt C3 Iu:=qz (λ(Pg,wv,kv,vL,i,n18)=>⟨([.d (.slice (.int .u32)) Pg]++aQ 4 ([.d (.slice (.int .u32)) wv,.d (.slice (.int .u32)) kv,nG 18 vL,.d ti i]++aQ 146 [])),[],(bD 18 ([dK (.vec 231 (.int .u32) n18)]++bD 136 []))⟩) (λx=>(.exit 0,⟨([.d (.slice (.int .u32)) x.1]++aQ 6 ([nG 18 x.2.1]++aQ 147 [])),[],(bD 18 ([dK (.vec 231 (.int .u32) x.2.2)]++bD 136 []))⟩))
def qi:Ls Lu wB Cc:=qz (λ(aua,ajC,gT,K9)=>⟨([.d (.slice (.int .u32)) aua]++aQ 6 ([nG 18 ajC]++aQ 6 ([.d ti gT]++aQ 140 []))),[],(bD 18 ([dK (.vec 231 (.int .u32) K9)]++bD 136 []))⟩) (λx=>(.exit 2,⟨(aQ 7 ([nG 18 x.1]++aQ 147 [])),[],(bD 18 ([dK (.vec 231 (.int .u32) x.2)]++bD 136 []))⟩))
def vA:Fs Tryz.prog aaC bn aaB:=eK 190 Tryz.f190 (λ(h,b)=>([.d (.slice (.int .u32)) h,.d tB b],[])) (λx=>⟨.d (.slice (.int .u32)) x,[],[]⟩) [some (.slice (.int .u32)),some tB] [azl,aFC,anP] {bJ:=[18,137],loops:=nF [(5,{aV:=[0,5,6,7,8],sites:=[18,137],owns:=[⟨7,[],18,0⟩]}),(14,{aV:=[0,7,14],sites:=[18]})],outs:=nE [(5,{aV:=[0,7],sites:=[18]},{aV:=[4]}),(14,{aV:=[7],sites:=[18]},{aV:=[4]})],fw:=nr [(5,nP.E),(14,qi.E)],res:=[some (.slice (.int .u32))]}
theorem adp:nP.RS:=rL [.d (.slice (.int .u32)),.d (.slice (.int .u32)),.d (.slice (.int .u32)),.n,.d ti,.d (.slice (.int .u32))] nP
theorem Iv{R:Type}(Pg wv kv vL i n18)(kn:K2 R)(kx:K3 R):vA.R 0 nP (Pg,wv,kv,vL,i,n18) kn kx=aH ((fR i 64)) (aH (eg 4 ((vL:Nat):Int)) (aH (decide (4 < (ag n18))) (al (pn.call ((nth (.int .u32) n18 4),6)) λx1=>aH (eg 4 ((vL:Nat):Int)) (aH (decide (4 < (ag n18))) (al (pn.call ((nth (.int .u32) n18 4),11)) λx2=>aH (eg 4 ((vL:Nat):Int)) (aH (decide (4 < (ag n18))) (al (pn.call ((nth (.int .u32) n18 4),25)) λx3=>aH (eg 4 ((vL:Nat):Int)) (aH (decide (4 < (ag n18))) (aH (eg 5 ((vL:Nat):Int)) (aH (decide (5 < (ag n18))) (aH (eg 4 ((vL:Nat):Int)) (aH (decide (4 < (ag n18))) (aH (eg 6 ((vL:Nat):Int)) (aH (decide (6 < (ag n18))) (aH (eg 7 ((vL:Nat):Int)) (aH (decide (7 < (ag n18))) (aH (eg i (kv.length:Int)) (aH (eg i (wv.length:Int)) (aH (eg 0 ((vL:Nat):Int)) (aH (decide (0 < (ag n18))) (al (pn.call ((nth (.int .u32) n18 0),2)) λx4=>aH (eg 0 ((vL:Nat):Int)) (aH (decide (0 < (ag n18))) (al (pn.call ((nth (.int .u32) n18 0),13)) λx5=>aH (eg 0 ((vL:Nat):Int)) (aH (decide (0 < (ag n18))) (al (pn.call ((nth (.int .u32) n18 0),22)) λx6=>aH (eg 0 ((vL:Nat):Int)) (aH (decide (0 < (ag n18))) (aH (eg 1 ((vL:Nat):Int)) (aH (decide (1 < (ag n18))) (aH (eg 0 ((vL:Nat):Int)) (aH (decide (0 < (ag n18))) (aH (eg 2 ((vL:Nat):Int)) (aH (decide (2 < (ag n18))) (aH (eg 1 ((vL:Nat):Int)) (aH (decide (1 < (ag n18))) (aH (eg 2 ((vL:Nat):Int)) (aH (decide (2 < (ag n18))) (aH (eg 0 ((vL:Nat):Int)) (aH (decide (0 < (ag n18))) (aH (eg 1 ((vL:Nat):Int)) (aH (decide (1 < (ag n18))) (aH (eg 2 ((vL:Nat):Int)) (aH (decide (2 < (ag n18))) (aH (eg 3 ((vL:Nat):Int)) (aH (decide (3 < (ag n18))) (aH (eg 4 ((vL:Nat):Int)) (aH (decide (4 < (ag n18))) (aH (eg 5 ((vL:Nat):Int)) (aH (decide (5 < (ag n18))) (aH (eg 6 ((vL:Nat):Int)) (aH (decide (6 < (ag n18))) (kn (nP.st (Pg,wv,kv,8,(bI .i64 i 1),[(bI .u32 (bI .u32 (bI .u32 (bI .u32 (bI .u32 (bI .u32 (nth (.int .u32) n18 7) (cF .xor .u32 (cF .xor .u32 x1 x2) x3)) (cF .xor .u32 (cF .and .u32 (nth (.int .u32) n18 4) (nth (.int .u32) n18 5)) (cF .and .u32 (aJP .u32 (nth (.int .u32) n18 4)) (nth (.int .u32) n18 6)))) (nth (.int .u32) kv (ae i))) (nth (.int .u32) wv (ae i))) (cF .xor .u32 (cF .xor .u32 x4 x5) x6)) (cF .xor .u32 (cF .xor .u32 (cF .and .u32 (nth (.int .u32) n18 0) (nth (.int .u32) n18 1)) (cF .and .u32 (nth (.int .u32) n18 0) (nth (.int .u32) n18 2))) (cF .and .u32 (nth (.int .u32) n18 1) (nth (.int .u32) n18 2)))),(nth (.int .u32) n18 0),(nth (.int .u32) n18 1),(nth (.int .u32) n18 2),(bI .u32 (nth (.int .u32) n18 3) (bI .u32 (bI .u32 (bI .u32 (bI .u32 (nth (.int .u32) n18 7) (cF .xor .u32 (cF .xor .u32 x1 x2) x3)) (cF .xor .u32 (cF .and .u32 (nth (.int .u32) n18 4) (nth (.int .u32) n18 5)) (cF .and .u32 (aJP .u32 (nth (.int .u32) n18 4)) (nth (.int .u32) n18 6)))) (nth (.int .u32) kv (ae i))) (nth (.int .u32) wv (ae i)))),(nth (.int .u32) n18 4),(nth (.int .u32) n18 5),(nth (.int .u32) n18 6)]))) none) none) none) none) none) none) none) none) none) none) none) none) none) none) none) none) none) none) none) none) none) none) none) none) none) none) none) none) none) none) none) none) none) none) none) none) none) none) none) none) none) none) none) none) none) none) none) none) none) none) (nP.go kx (Pg,(vL,n18))):=bX
theorem adq:qi.RS:=rL [.d (.slice (.int .u32)),.n,.d ti,.d (.slice (.int .u32))] qi
theorem Ix{R:Type}(aua ajC gT K9)(kn:K2 R)(kx:K3 R):vA.R 1 qi (aua,ajC,gT,K9) kn kx=aH ((fR gT 8)) (aH (eg gT ((ajC:Nat):Int)) (aH (decide ((0+(ae gT)) < (ag K9))) (aH (decide ((((0+(ae gT))*1)+0)=(0+((ae gT)*1)))) (aH (eg gT (aua.length:Int)) (aH (eg gT ((ajC:Nat):Int)) (aH (decide ((0+(ae gT)) < (ag K9))) (aH (decide ((((0+(ae gT))*1)+0)=(0+((ae gT)*1)))) (aH (decide ((0+(ae gT)) < (ag K9))) (kn (qi.st (aua,ajC,(bI .i64 gT 1),(fM K9 (0+(ae gT)) (bI .u32 (nth (.int .u32) K9 (0+(ae gT))) (nth (.int .u32) aua (ae gT))))))) none) none) none) none) none) none) none) none) (qi.go kx (ajC,K9)):=bX
theorem ayU{R:Type}(h b)(k:K1 R):vA.A (h,b) k=al (vF.call b) λx1=>al (aaz.call ()) λx2=>aH (cV (0+(ag h)) 4) (al (nP.call (h,x1,x2,(0+(ag h)),0,((aR 0 (ab 0 0))++h))) λaTq=>al (qi.call (aTq.1,aTq.2.1,0,aTq.2.2)) λFZ=>aH (decide (0=0/\(0+FZ.1)<=(ag FZ.2))) (k (vA.out (cut FZ.2 0 FZ.1))) none) none:=bX
theorem aD0(w:W):aJP .u32 (vw w)=vw (~~~w):=by have e:(if IntKind.u32.signed then -1 else IntKind.u32.max:Int)=vw (BitVec.allOnes 32):=rfl;unfold aJP;rw[e,pR];simp only[BitVec.allOnes_xor]
theorem aPt(e f g:W):(e &&& f)^^^(~~~e &&& g)=g^^^(e &&& (f^^^g)):=by
 ext i hi
 simp only[BitVec.getElem_xor,BitVec.getElem_and,BitVec.getElem_not];cases e[i] <;> cases f[i] <;> cases g[i] <;> rfl
theorem aNP(a b c:W):(a &&& b)^^^(a &&& c)^^^(b &&& c)=(a &&& b) ||| (c &&& (a ||| b)):=by
 ext i hi
 simp only[BitVec.getElem_xor,BitVec.getElem_and,BitVec.getElem_or];cases a[i] <;> cases b[i] <;> cases c[i] <;> rfl
theorem aiV:(vA.jR 0 nP):=by
 refine(vA.lp 0 nP) (λ(h,wv,kv,m,i,l)=>64 - i.toNat) ?_
 rintro⟨h,wv,kv,m,i,l⟩ ⟨s,ws,k,rfl,rfl,hw,hk,rfl,rfl,rfl,rfl⟩;by_cases gB:k < 64
 ·left;refine⟨(s.l,wl ws,SB,8,((k+1:Nat):Int),(rounds ws s (k+1)).l),⟨s,ws,k+1,rfl,rfl,hw,ak,rfl,rfl,rfl,rfl⟩,by simp only;omega,rfl,λkn kx=> ?_⟩;rw[Iv];generalize hv:rounds ws s k=v;have t1:∀w:W,pn.call (vw w,6)=some (vw (vE w 6)):=λw=>AY w ak
  have t2:∀w:W,pn.call (vw w,11)=some (vw (vE w 11)):=λw=>AY w ak
  have t3:∀w:W,pn.call (vw w,25)=some (vw (vE w 25)):=λw=>AY w ak
  have t4:∀w:W,pn.call (vw w,2)=some (vw (vE w 2)):=λw=>AY w ak
  have t5:∀w:W,pn.call (vw w,13)=some (vw (vE w 13)):=λw=>AY w ak
  have t6:∀w:W,pn.call (vw w,22)=some (vw (vE w 22)):=λw=>AY w ak
  rw[n0,n1,n2,n3,n4,n5,n6,n7,t1,ah,t2,ah,t3,ah,t4,ah,t5,ah,t6,ah];simp(disch:=omega) only[↓S1,↓if_pos,↓if_neg,if_pos,if_neg,bH,bq,S2,St.amg,Uz,zT,hw,ame k gB,TI ws k ak,pR,DD,aD0,aPt,aNP];show kn _=kn (nP.st (s.l,wl ws,SB,8,((k+1:Nat):Int),(lp (rounds ws s k) (kw k) (ws.getD k 0)).l));rw[hv];rfl
 ·right;obtain rfl:k=64:=ak;intro R kn kx;rw[Iv];simp(disch:=omega) only[↓S1,↓if_pos,↓if_neg,if_pos,if_neg,bH,bq,S2,C3,Iu,FO,oc]
theorem aiW:(vA.jR 1 qi):=by
 refine(vA.lp 1 qi) (λ(h,m,i,l)=>8 - i.toNat) ?_
 rintro⟨h,m,i,l⟩ ⟨hh,hl,rfl,k,hk,rfl⟩;have hl:l.length=8:=hl;have hh:h.length=8:=hh;by_cases gB:k < 8
 ·left;have hn:nth (.int .u32) l k=l[k]:=bW (t:= .int .u32) ak;refine⟨(h,8,((k+1:Nat):Int),l.set k (bI .u32 l[k] (nth (.int .u32) h k))),⟨hh,by simpa using hl,rfl,k+1,ak,rfl⟩,by simp only;omega,?_,λkn kx=> ?_⟩
  ·simp only[wB,Cc,aa];rw[JF (λi x=>bI .u32 x (nth (.int .u32) h i)) l k ak]
  ·rw[Ix];simp(disch:=omega) only[↓S1,↓if_pos,↓if_neg,if_pos,if_neg,bH,bq,S2,hl,hh,aK,gH,cj,hn]
 ·right;obtain rfl:k=8:=ak;intro R kn kx;rw[Ix];simp(disch:=omega) only[↓S1,↓if_pos,↓if_neg,if_pos,if_neg,bH,bq,S2,wB,Cc];rw[Pe _ _ _ ak]
theorem aNQ(s:St)(b:List Int):from_ (λi x=>bI .u32 x (nth (.int .u32) s.l i)) 0 (rounds (sched b) s 64).l=(SJ s b).l:=by unfold SJ;generalize rounds (sched b) s 64=v;obtain⟨a1,b1,c1,d1,f1,g1,h1,i1⟩:=v;simp only[St.l,from_,List.mapIdx_cons,List.mapIdx_nil,Nat.not_lt_zero,bq,aK,Nat.reduceAdd];simp only[nth,jj,qB,DD]
theorem ayV:vA.Ok:=by
 rintro⟨h,b⟩ ⟨⟨s,rfl⟩,hb⟩;have p0:aa2 b:=hb;have aud:(sched b).length=64:=by unfold sched;rw[Bm,eS]
 have p1:Lt (s.l,wl (sched b),SB,8,0,s.l):=⟨s,sched b,0,rfl,rfl,aud,ak,rfl,rfl,rfl,rfl⟩;have p2:Lu (s.l,8,0,(rounds (sched b) s 64).l):=⟨rfl,rfl,rfl,0,ak,rfl⟩;have e0:0+s.l.length=8:=rfl;have e1:aR 0 (ab 0 (0:Int))++s.l=s.l:=rfl;rw[ayU];simp(disch:=omega) only[↓S1,↓if_pos,↓if_neg,if_pos,if_neg,bH,bq,S2,asl p0,bn,aa1,ayT (d:=()) trivial,bn,auR,e0,e1,adp p1,C3,Iu,FO,oc,adq p2,wB,Cc,aZ,aNQ];have e2:(SJ s b).l.length=8:=rfl;have e3:cut (SJ s b).l 0 8=(SJ s b).l:=rfl;simp only[e2,aK,ax,bH,e3,bn,aaB,oc]
theorem arW:vA.RS:=rE [.d (.slice (.int .u32)),.d tB] vA
def ayW:=vA.eP ayV 2 ⟨.fp aiV,⟨.fp aiW,trivial⟩⟩
abbrev Td:=Bs×(List Int)×Int×Bs
def Ci:Td->(List Int)->((Bs)×((List Int))):=λ(p,h,i,n2) y=>(n2,y)
abbrev Te:=(List Int)×Int×Bs×Bs
def Cj:Te->Bs->((Bs)×(Bs)):=λ(Pg,gT,kk,n6) y=>(kk,y)
def Vo:Td->Prop:=λ(p,h,i,n2)=>p.length%64=0/\p.length<=140737488355328/\∃(s:St) (k:Nat),h=s.l/\i=((64*k:Nat):Int)/\64*k<=p.length
def J0:Td->(List Int):=λ(p,h,i,n2)=>(blocks (ajj h) (p.drop i.toNat)).l
def Vp:Te->Prop:=λ(h,i,n2,l)=>h.length=8/\l.length=32/\∃k:Nat,k<=32/\i=k
def J1:Te->Bs:=λ(h,i,n2,l)=>from_ (Ku h) i.toNat l
def anM:Bs->Prop:=λb=>b.length<=140737488350000
def aOe:Bs->Bs:=λb=>aOh b
def zi:Ls Vo Ci J0:=qz (λ(p,h,i,n2)=>⟨([bB,bB,eI 2,.d tB p,.d (.slice (.int .u32)) h,.d ti i]++aQ 36 []),[],([[],[],dK (.d tH n2)]++bD 39 [])⟩) (λx=>(.exit 0,⟨([bB,bB,eI 2,bB,.d (.slice (.int .u32)) x.2]++aQ 37 []),[],([[],[],dK (.d tH x.1)]++bD 39 [])⟩))
def zj:Ls Vp Cj J1:=qz (λ(Pg,gT,kk,n6)=>⟨([bB,bB,eI 2,bB,.d (.slice (.int .u32)) Pg,bB,eI 6,.d ti gT]++aQ 34 []),[],([[],[],dK (.d tH kk),[],[],[],dK (.d tH n6)]++bD 35 [])⟩) (λx=>(.exit 2,⟨([bB,bB,eI 2,bB,bB,bB,eI 6]++aQ 35 []),[],([[],[],dK (.d tH x.1),[],[],[],dK (.d tH x.2)]++bD 35 [])⟩))
def Tc:Fs Tryz.prog anM bn aOe:=eK 148 Tryz.f148 (λb=>([.d tB b],[])) (λx=>⟨.d tH x,[],[]⟩) [some tB] [asf,ar7,ayW] {loops:=nF [(4,{aV:=[2,3,4,5],sites:=[2]}),(9,{aV:=[2,4,6,7],sites:=[2,6]})],outs:=nE [(4,{aV:=[2,4],sites:=[2]},{aV:=[2]}),(9,{aV:=[2,6],sites:=[2,6]},{aV:=[2]})],fw:=nr [(4,zi.E),(9,zj.E)]}
theorem anK:zi.RS:=rL [.d tB,.d (.slice (.int .u32)),.d ti,.d tB] zi
theorem Qw{R:Type}(p h i n2)(kn:K2 R)(kx:K3 R):Tc.R 0 zi (p,h,i,n2) kn kx=aH ((fR i (p.length:Int))) (aH (inc (bI .i64 i 64) (p.length:Int)) (aH (inc i (((ae (bI .i64 i 64)):Nat):Int)) (al (vA.call (h,(cut p (ae i) ((ae (bI .i64 i 64)) - (ae i))))) λx1=>kn (zi.st (p,x1,(bI .i64 i 64),n2))) none) none) (zi.go kx (n2,h)):=bX
theorem anL:zj.RS:=rL [.d (.slice (.int .u32)),.d ti,.d tB,.d tB] zj
theorem Qx{R:Type}(Pg gT kk n6)(kn:K2 R)(kx:K3 R):Tc.R 1 zj (Pg,gT,kk,n6) kn kx=aH ((fR gT 32)) (aH (eg (tf .i64 gT 4) (Pg.length:Int)) (aH (me (cK .i64 24 (fZ .i64 8 (mq gT 4)))) (aH (eg gT 32) (aH (decide ((ae gT) < (ag n6))) (aH (decide ((((ae gT)*1)+0)=(0+((ae gT)*1)))) (aH (decide ((ae gT) < (ag n6))) (kn (zj.st (Pg,(bI .i64 gT 1),kk,(fM n6 (ae gT) (dV .u8 (ct .u32 (nth (.int .u32) Pg (ae (tf .i64 gT 4))) (cK .i64 24 (fZ .i64 8 (mq gT 4))))))))) none) none) none) none) none) none) (zj.go kx (kk,n6)):=bX
theorem aKL{R:Type}(b)(k:K1 R):Tc.A b k=al (qj.call b) λx1=>al (Fq.call ()) λx2=>al (zi.call (x1,x2,0,(ab 32 0))) λx4=>al (zj.call (x4.2,0,x4.1,(ab 32 0))) λx5=>k (Tc.out x5.2):=bX
theorem asg:(Tc.jR 0 zi):=by
 refine(Tc.lp 0 zi) (λ(p,h,i,n2)=>p.length - i.toNat) ?_
 rintro⟨p,h,i,n2⟩ ⟨hm,hb,s,k,rfl,rfl,hk⟩;have hm:p.length%64=0:=hm;have hb:p.length<=140737488355328:=hb;have hk:64*k<=p.length:=hk;by_cases gB:64*k < p.length
 ·left;have e1:cut p (64*k) (64*k+64 - 64*k)=(p.drop (64*k)).take 64:=by unfold cut;rw[show 64*k+64 - 64*k=64 by omega]
  have e2:(p.drop (64*k)).drop 64=p.drop (64*(k+1)):=by rw[fK];congr 1
  have e3:(64*(k+1):Nat)=64*k+64:=ak;have p1:aaC (s.l,(p.drop (64*k)).take 64):=⟨⟨s,rfl⟩,by simp;omega⟩;refine⟨(p,(SJ s ((p.drop (64*k)).take 64)).l,((64*(k+1):Nat):Int),n2),⟨hm,hb,_,k+1,rfl,rfl,ak⟩,by simp only[aa];omega,?_,λkn kx=> ?_⟩
  ·simp only[Ci,J0,oc,aa];rw[Hg s (p.drop (64*k)) (by simp;omega),e2]
  ·rw[Qw];simp(disch:=omega) only[↓S1,↓if_pos,↓if_neg,if_pos,if_neg,bH,bq,S2,e1,arW p1,bn,aaB,oc,e3]
 ·right;intro R kn kx;rw[Qw];simp(disch:=omega) only[↓S1,↓if_pos,↓if_neg,if_pos,if_neg,bH,bq,S2,Ci,J0,oc];rw[Er s _ (by simp;omega)]
theorem ash:(Tc.jR 1 zj):=by
 refine(Tc.lp 1 zj) (λ(h,i,n2,l)=>32 - i.toNat) ?_
 rintro⟨h,i,n2,l⟩ ⟨h8,hl,k,hk,rfl⟩;have hl:l.length=32:=hl;have h8:h.length=8:=h8;by_cases gB:k < 32
 ·left;refine⟨(h,((k+1:Nat):Int),n2,l.set k (Ku h k l[k])),⟨h8,by simpa using hl,k+1,ak,rfl⟩,by simp only[aa];omega,?_,λkn kx=> ?_⟩
  ·simp only[Cj,J1,aa];rw[JF (Ku h) l k ak]
  ·rw[Qx];simp(disch:=omega) only[↓S1,↓if_pos,↓if_neg,if_pos,if_neg,bH,bq,S2,hl,h8,gH,cj,aK,Ku]
 ·right;obtain rfl:k=32:=ak;intro R kn kx;rw[Qx];simp(disch:=omega) only[↓S1,↓if_pos,↓if_neg,if_pos,if_neg,bH,bq,S2,Cj,J1];rw[Pe _ _ _ ak]
theorem ari(b:List Int):(pad b).length%64=0/\(pad b).length<=b.length+73:=by unfold pad;simp only[ai,aA,cg,b8,AM];omega
theorem aKM:Tc.Ok:=by intro b hb;have hb:b.length<=140737488350000:=hb;have p1:Vn b:=hb;obtain⟨h1,h2⟩:=ari b;have p2:Vo (pad b,rY.l,0,ab 32 0):=⟨h1,ak,rY,0,rfl,rfl,ak⟩;have p3:Vp ((blocks rY (pad b)).l,0,ab 32 0,ab 32 0):=⟨rfl,rfl,0,ak,rfl⟩;rw[aKL];simp(disch:=omega) only[↓S1,↓if_pos,↓if_neg,if_pos,if_neg,bH,bq,S2,anJ p1,bn,Tb,anD (d:=()) trivial,bn,afI,anK p2,Ci,J0,oc,aZ,aG,anL p3,Cj,J1,auH];rfl
theorem aF7:Tc.RS:=rE [.d tB] Tc
def aKN:=Tc.eP aKM 2 ⟨.fp asg,⟨.fp ash,trivial⟩⟩
def ay8:Int->Prop:=λn=>0<=n/\n < 18446744073709551616
def aKF:Int->(Nat×(List Int)):=λn=>(8,iZ n)
def Qp:Fs Tryz.prog ay8 bn aKF:=eK 147 Tryz.f147 (λn=>([.d tu n],[])) (λx=>⟨.bz (.new 0 0) 0 [] 0 0 x.1,[],[.obj 0 false (.vec 5 tb x.2)]⟩) [some tu] [] {loops:=nF [(3,{aV:=[0,3,4],sites:=[15]})],outs:=nE [(3,{aV:=[3],sites:=[15]},{aV:=[2],sites:=[15]})],owns:=[⟨2,[],15,127⟩]} 10
theorem aFT{R:Type}(n)(k:K1 R):Qp.A n k=k (Qp.out (8,[(dV .u8 (ct .u64 n 56)),(dV .u8 (ct .u64 n 48)),(dV .u8 (ct .u64 n 40)),(dV .u8 (ct .u64 n 32)),(dV .u8 (ct .u64 n 24)),(dV .u8 (ct .u64 n 16)),(dV .u8 (ct .u64 n 8)),(dV .u8 (ct .u64 n 0))])):=bX
theorem aFU:Qp.Ok:=by
 intro n _;have e:∀k:Nat,k<=64->dV .u8 (ct .u64 n (k:Int))=n / 2^k%256:=λk hk=>ab3 n k hk
 rw[aFT];have e56:dV .u8 (ct .u64 n 56)=n / 2^56%256:=e 56 ak;have e48:dV .u8 (ct .u64 n 48)=n / 2^48%256:=e 48 ak;have e40:dV .u8 (ct .u64 n 40)=n / 2^40%256:=e 40 ak;have e32:dV .u8 (ct .u64 n 32)=n / 2^32%256:=e 32 ak;have e24:dV .u8 (ct .u64 n 24)=n / 2^24%256:=e 24 ak;have e16:dV .u8 (ct .u64 n 16)=n / 2^16%256:=e 16 ak;have e8:dV .u8 (ct .u64 n 8)=n / 2^8%256:=e 8 ak;have e0:=e 0 ak;rw[e56,e48,e40,e32,e24,e16,e8];have e0:dV .u8 (ct .u64 n 0)=n%256:=by rw[show(0:Int)=((0:Nat):Int) from rfl,e0];simp
 rw[e0];rfl
theorem ay9:Qp.RS:=rE [.d tu] Qp
def aFV:=Qp.eP aFU 1 ⟨.none bX,trivial⟩
abbrev Tf:=(List Bs)×Nat×Int×Bs×(List Int)
abbrev afR:=Nat×(List Int)
def Ck:Tf->afR->((Bs)×(Nat×(List Int))):=λ(rq,bL,i,n4,n11) y=>(n4,y)
abbrev aF8:=ByteArray×(List Bs)
def Vq:Tf->Prop:=λ(ps,m,i,n4,l)=>m=l.length/\∃k:Nat,k<=ps.length/\ps.length<=140737488350000/\i=k/\l.length+(oo (ps.drop k)).length<=140737488350000
def J2:Tf->afR:=λ(ps,m,i,n4,l)=>(l.length+(oo (ps.drop i.toNat)).length,l++oo (ps.drop i.toNat))
def aF9:aF8->Prop:=λ(name,ps)=>(Tx (bG name) ps).length<=140737488350000
def aOf:aF8->Bs:=λ(name,ps)=>tag (bG name) ps
def zk:Ls Vq Ck J2:=qz (λ(rq,bL,i,n4,n11)=>⟨([bB,.d (.slice tB) rq,bB,bB,eI 4,nG 11 bL,.d ti i]++aQ 32 []),[],(bD 4 ([dK (.d tH n4)]++bD 6 ([dK (.vec 5 tb n11)]++bD 27 [])))⟩) (λx=>(.exit 0,⟨(aQ 4 ([eI 4,nG 11 x.2.1]++aQ 33 [])),[],(bD 4 ([dK (.d tH x.1)]++bD 6 ([dK (.vec 5 tb x.2.2)]++bD 27 [])))⟩))
def aaW:Fs Tryz.prog aF9 bn aOf:=eK 96 Tryz.f96 (λ(name,parts)=>([.d .str name,.d (.slice tB) parts],[])) (λx=>⟨.d tH x,[],[]⟩) [some .str,some (.slice tB)] [aFV,aKN] {loops:=nF [(3,{aV:=[1,4,5,6],sites:=[4,11],owns:=[⟨5,[],11,127⟩]})],outs:=nE [(3,{aV:=[4,5],sites:=[4,11]},{aV:=[4]})],fw:=nr [(3,zk.E)]}
theorem anN:zk.RS:=rL [.d (.slice tB),.n,.d ti,.d tB,.d tB] zk
theorem Qy{R:Type}(rq bL i n4 n11)(kn:K2 R)(kx:K3 R):aaW.R 0 zk (rq,bL,i,n4,n11) kn kx=aH ((fR i (rq.length:Int))) (aH (eg i (rq.length:Int)) (al (Qp.call (dV .u64 (((ag (nth tB rq (ae i))):Nat):Int))) λx1=>aH (decide (0=0/\(0+x1.1)<=(ag x1.2))) (aH (decide (bL<=(ag n11))) (aH (cV (bL+(ag (cut x1.2 0 x1.1))) 1) (aH (eg i (rq.length:Int)) (aH (decide ((bL+(ag (cut x1.2 0 x1.1)))<=(ag ((aR bL n11)++(cut x1.2 0 x1.1))))) (aH (cV ((bL+(ag (cut x1.2 0 x1.1)))+(ag (nth tB rq (ae i)))) 1) (kn (zk.st (rq,((bL+(ag (cut x1.2 0 x1.1)))+(ag (nth tB rq (ae i)))),(bI .i64 i 1),n4,((aR (bL+(ag (cut x1.2 0 x1.1))) ((aR bL n11)++(cut x1.2 0 x1.1)))++(nth tB rq (ae i)))))) none) none) none) none) none) none) none) (zk.go kx (n4,(bL,n11))):=bX
theorem aKO{R:Type}(name parts)(k:K1 R):aaW.A (name,parts) k=al (Qp.call (dV .u64 (((ByteArray.size name):Nat):Int))) λx1=>aH (decide (x1.1<=(ag x1.2))) (aH (cV (x1.1+(ag (bG name))) 1) (al (zk.call (parts,(x1.1+(ag (bG name))),0,(ab 32 0),((aR x1.1 x1.2)++(bG name)))) λx4=>aH (decide (0=0/\(0+x4.2.1)<=(ag x4.2.2))) (al (Tc.call (cut x4.2.2 0 x4.2.1)) λx5=>k (aaW.out x5)) none) none) none:=bX
theorem ava{n:Nat}(h:n < 18446744073709551616):dV .u64 ((n:Nat):Int)=n:=by rw[WM,gQ];omega
theorem anE{n:Nat}(h:n < 18446744073709551616):Qp.call (n:Int)=some (8,iZ (n:Int)):=ay9 (d:=(n:Int)) (show 0<=(n:Int)/\(n:Int) < 18446744073709551616 from⟨ak,ak⟩)
theorem aPv{l:List Int}{n:Nat}(h:l.length=n):cut l 0 n=l:=by unfold cut;rw[aG,aX ak]
theorem asi:(aaW.jR 0 zk):=by
 refine(aaW.lp 0 zk) (λ(ps,m,i,n4,l)=>ps.length - i.toNat) ?_
 rintro⟨ps,m,i,n4,l⟩ ⟨rfl,k,hk,NZ,rfl,hl⟩;have hk:k<=ps.length:=hk;have NZ:ps.length<=140737488350000:=NZ;have hl:l.length+(oo (ps.drop k)).length<=140737488350000:=hl;by_cases h:k < ps.length
 ·left;have ht:=af6 ps k h;have hlen:(oo (ps.drop k)).length=8+ps[k].length+(oo (ps.drop (k+1))).length:=by rw[ht];simp only[ai,b8]
  have hn:nth (.slice (.int .u8)) ps k=ps[k]:=bW (t:= .slice (.int .u8)) h;have aHR:(l++iZ (ps[k].length:Int)).length=l.length+8:=by simp[b8]
  refine⟨(ps,(l++iZ ps[k].length++ps[k]).length,((k+1:Nat):Int),n4,l++iZ ps[k].length++ps[k]),⟨rfl,k+1,ak,NZ,rfl,?_⟩,by simp only[aa];omega,?_,λkn kx=> ?_⟩
  ·simp only[ai,b8];omega
  ·simp only[Ck,J2,aa,ht,aD];simp only[ai,b8,eM]
  ·have c8:cut (iZ (ps[k].length:Int)) 0 8=iZ (ps[k].length:Int):=aPv (b8 _);have EY:ps[k].length < 18446744073709551616:=ak;rw[Qy];simp(disch:=omega) only[↓S1,↓if_pos,↓if_neg,if_pos,if_neg,bH,bq,S2,hn,ava EY,anE EY,b8,c8,bK,aHR,aK,ax,iT,bH];rw[aX (by rw[aHR];omega)];simp only[ai,b8,eM]
 ·right;obtain rfl:k=ps.length:=ak;intro R kn kx;rw[Qy];simp(disch:=omega) only[↓S1,↓if_pos,↓if_neg,if_pos,if_neg,bH,bq,S2,Ck,J2,aL];simp[oo]
theorem aKP:aaW.Ok:=by
 rintro⟨name,ps⟩ hp;have hp:(iZ (bG name).length++bG name++oo ps).length<=140737488350000:=hp;have hl:(iZ (bG name).length++bG name++oo ps).length=8+(bG name).length+(oo ps).length:=by simp only[ai,b8]
 have NZ:=abu ps;have te:name.size=(bG name).length:=by rw[kK]
 have EY:(bG name).length < 18446744073709551616:=ak;have p2:Vq (ps,8+(bG name).length,0,ab 32 0,iZ ((bG name).length:Int)++bG name):=by refine⟨by simp only[ai,b8],0,aM _,ak,rfl,?_⟩;rw[aG];simp only[ai,b8];omega
 rw[aKO,te];simp(disch:=omega) only[↓S1,↓if_pos,↓if_neg,if_pos,if_neg,bH,bq,S2,ava EY,anE EY,b8,aX (tr (b8 _)),anN p2,Ck,J2,aZ,aG,aK];have axd:cut (iZ ((bG name).length:Int)++bG name++oo ps) 0 ((iZ ((bG name).length:Int)++bG name).length+(oo ps).length)=Tx (bG name) ps:=aPv (by simp only[ai]);have p3:anM (Tx (bG name) ps):=hp;rw[if_pos (by simp only[ai];omega),axd,aF7 p3];rfl
theorem anO:aaW.RS:=rE [.d .str,.d (.slice tB)] aaW
def auY:=aaW.eP aKP 1 ⟨.fp asi,trivial⟩
theorem Q7{n:Int}(h1:0<=n)(h2:n < 18446744073709551616):IntKind.u64.wrap n=n:=by rw[wrap_u64,gQ];omega
theorem Q6(n:Int):IntKind.u64.wrap n=n%18446744073709551616:=by rw[wrap_u64,gQ];rfl
theorem tX(x y:Int):bI .u64 x y=(x+y)%18446744073709551616:=Q6 _
theorem WQ(x y:Int):cK .u64 x y=(x - y)%18446744073709551616:=Q6 _
theorem yQ(x y:Int):fZ .u64 x y=(x*y)%18446744073709551616:=Q6 _
theorem aDO(x:Int):dV .u64 x=x%18446744073709551616:=Q6 _
theorem aka{x:Int}(h:0<=x)(h2:x < 18446744073709551616):cF .and .u64 x 4294967295=x%4294967296:=by
 obtain⟨n,rfl⟩:∃n:Nat,x=n:=⟨x.toNat,ak⟩;have e:(ba 64 (n:Int) &&& ba 64 4294967295).toNat=n%4294967296:=by
  rw[BitVec.toNat_and];have a:(ba 64 (n:Int)).toNat=n:=by rw[iP,jS];omega
  have b:(ba 64 4294967295).toNat=2^32 - 1:=by decide
  rw[a,b,Nat.and_two_pow_sub_one_eq_mod]
 show IntKind.u64.wrap ((ba 64 (n:Int) &&& ba 64 4294967295).toNat:Int)=_;rw[e,Q7 ak ak];omega
theorem aRK{x:Int}(h:0<=x)(h2:x < 18446744073709551616):cF .and .u64 x 1=x%2:=by
 obtain⟨n,rfl⟩:∃n:Nat,x=n:=⟨x.toNat,ak⟩;have e:(ba 64 (n:Int) &&& ba 64 1).toNat=n%2:=by
  rw[BitVec.toNat_and];have a:(ba 64 (n:Int)).toNat=n:=by rw[iP,jS];omega
  have b:(ba 64 1).toNat=2^1 - 1:=by decide
  rw[a,b,Nat.and_two_pow_sub_one_eq_mod]
 show IntKind.u64.wrap ((ba 64 (n:Int) &&& ba 64 1).toNat:Int)=_;rw[e,Q7 ak ak];omega
theorem wF{x k:Int}(n:Nat)(hk:k=n)(hn:n<=64):ct .u64 x k=x / 2^n:=by
 subst hk;rw[ct];have e:min (ae (n:Int)) IntKind.u64.bits=n:=by simp only[IntKind.bits];omega
 rw[e,jU _ (Int.le_of_lt (Int.pow_pos ak))]
theorem wE{x k:Int}(n:Nat)(hk:k=n)(hn:n<=64):l7 .u64 x k=x*2^n%18446744073709551616:=by
 subst hk;rw[l7,Q6];have e:min (ae (n:Int)) IntKind.u64.bits=n:=by simp only[IntKind.bits];omega
 rw[e]
theorem PX{x y:Int}(k:Nat)(m:Int)(hm:m=2^k)(hx:x%m=0)(h0:0<=x)(h1:x < 18446744073709551616)(hy:0<=y)(aO7:y < m)(h2:x+y < 18446744073709551616):cF .or .u64 x y=x+y:=by
 subst hm;obtain⟨n,rfl⟩:∃n:Nat,x=n:=⟨x.toNat,ak⟩;obtain⟨j,rfl⟩:∃j:Nat,y=j:=⟨y.toNat,ak⟩;have hx:n%2^k=0:=by
  have:((n%2^k:Nat):Int)=0:=by rw[pH];simpa using hx
  omega
 have hj:j < 2^k:=by
  have:((j:Nat):Int) < ((2^k:Nat):Int):=by simpa using aO7
  omega
 obtain⟨q,rfl⟩:∃q,n=2^k*q:=⟨n / 2^k,by have:=Nat.div_add_mod n (2^k);omega⟩;have e:(ba 64 ((2^k*q:Nat):Int) ||| ba 64 (j:Int)).toNat=2^k*q+j:=by
  rw[BitVec.toNat_or];have a:(ba 64 ((2^k*q:Nat):Int)).toNat=2^k*q:=by rw[iP,jS];exact jL ak
  have b:(ba 64 (j:Int)).toNat=j:=by rw[iP,jS];exact jL ak
  rw[a,b,Nat.two_pow_add_eq_or_of_lt hj]
 show IntKind.u64.wrap ((ba 64 ((2^k*q:Nat):Int) ||| ba 64 (j:Int)).toNat:Int)=_;rw[e,Q7 ak ak];omega
theorem ahZ{x y:Int}(h:0<=x)(h1:0<=y)(h2:x < 18446744073709551616):tf .u64 x y=x / y:=by rw[tf,jV h];exact Q7 (Int.ediv_nonneg h h1) (Int.lt_of_le_of_lt (Int.ediv_le_self _ h) h2)
theorem v8{x y:Int}(h:0<=x):mq x y=x%y:=by rw[mq,gX h]
theorem k1{e u w r q:Int}(he:e=42260\/e=42264\/e=42272)(hu:0<=u)(ajT:u < 18446744073709551616 - e)(hw:0<=w)(aAE:w < 4294967296)(hr:0<=r)(acO:r < 4294967296)
  (hq:q*4294967295+r=u) (hQ:(u*4294967296+w) / (18446744073709551616 - e)<=q):
  (4294967296<=q->(u*4294967296+w) / (18446744073709551616 - e)<=q - 1)/\
  (q < 4294967296->4294967296*r+w < q*(4294967296 - e)->(u*4294967296+w) / (18446744073709551616 - e)<=q - 1)/\
  (q < 4294967296->q*(4294967296 - e)<=4294967296*r+w->(u*4294967296+w) / (18446744073709551616 - e)=q)/\
  (4294967296<=r+4294967295->(u*4294967296+w) / (18446744073709551616 - e)<=q - 1->(u*4294967296+w) / (18446744073709551616 - e)=q - 1)/\0<=(u*4294967296+w) / (18446744073709551616 - e)/\q<=4294967297:=by
 rcases he with rfl | rfl | rfl
 ·refine⟨?_,?_,?_,?_,?_,?_⟩ <;> omega
 ·refine⟨?_,?_,?_,?_,?_,?_⟩ <;> omega
 ·refine⟨?_,?_,?_,?_,?_,?_⟩ <;> omega
theorem k0{e u w:Int}(he:e=42260\/e=42264\/e=42272)(hu:0<=u)(ajT:u < 18446744073709551616 - e)(hw:0<=w)(aAE:w < 4294967296):
  (u*4294967296+w) / (18446744073709551616 - e)<=u / 4294967295/\0<=u - u / 4294967295*4294967295/\u - u / 4294967295*4294967295 < 4294967296/\
  (u*4294967296+w) - (u*4294967296+w) / (18446744073709551616 - e)*(18446744073709551616 - e)=(u*4294967296+w)%(18446744073709551616 - e)/\
  0<=(u*4294967296+w)%(18446744073709551616 - e)/\(u*4294967296+w)%(18446744073709551616 - e) < 18446744073709551616 - e/\
  0<=(u*4294967296+w) / (18446744073709551616 - e)/\(u*4294967296+w) / (18446744073709551616 - e) < 4294967296:=by
 rcases he with rfl | rfl | rfl
 ·refine⟨?_,?_,?_,?_,?_,?_,?_,?_⟩ <;> omega
 ·refine⟨?_,?_,?_,?_,?_,?_,?_,?_⟩ <;> omega
 ·refine⟨?_,?_,?_,?_,?_,?_,?_,?_⟩ <;> omega
theorem kd(Y u w1 w0:Int)(hY:0 < Y)(h0:0<=w0)(h1:w0 < 4294967296):
  ((u*4294967296+w1)*4294967296+w0) / Y=(u*4294967296+w1) / Y*4294967296+((u*4294967296+w1)%Y*4294967296+w0) / Y/\
  ((u*4294967296+w1)*4294967296+w0)%Y=((u*4294967296+w1)%Y*4294967296+w0)%Y:=by
 generalize u*4294967296+w1=n;have e:n*4294967296+w0=(n%Y*4294967296+w0)+Y*(n / Y*4294967296):=by
  have:=Int.emod_add_mul_ediv n Y;have h:Y*(n / Y*4294967296)=(Y*(n / Y))*4294967296:=by rw[qK]
  rw[h];omega
 rw[e,Int.add_mul_ediv_left _ _ ak,Int.add_mul_emod_self_left];exact⟨ak,rfl⟩
def aPa(y:Int):Prop:=y=4611686018427377339\/y=2305843009213688669\/y=2305843009213688668
def axB:Int->Prop:=aPa
def aJW:Int->Int:=λy=>if y=4611686018427377339 then 62 else 61
def BZ:Fs Tryz.prog axB bn aJW:=eK 208 Tryz.f208 (λx=>([.d tu x],[])) (λx=>⟨.d ti x,[],[]⟩) [some tu]
theorem aEd{R:Type}(x)(k:K1 R):BZ.A x k=aH ((BS x 4294967296)) (aH ((BS (ct .u64 x 32) 65536)) (aH ((BS (ct .u64 (ct .u64 x 32) 16) 256)) (aH (eg (dV .u8 (ct .u64 (ct .u64 (ct .u64 x 32) 16) 8)) 256) (k (BZ.out (bI .i64 56 (dV .i64 (an4 (⟨#[0,1,2,2,3,3,3,3,4,4,4,4,4,4,4,4,5,5,5,5,5,5,5,5,5,5,5,5,5,5,5,5,6,6,6,6,6,6,6,6,6,6,6,6,6,6,6,6,6,6,6,6,6,6,6,6,6,6,6,6,6,6,6,6,7,7,7,7,7,7,7,7,7,7,7,7,7,7,7,7,7,7,7,7,7,7,7,7,7,7,7,7,7,7,7,7,7,7,7,7,7,7,7,7,7,7,7,7,7,7,7,7,7,7,7,7,7,7,7,7,7,7,7,7,7,7,7,7,8,8,8,8,8,8,8,8,8,8,8,8,8,8,8,8,8,8,8,8,8,8,8,8,8,8,8,8,8,8,8,8,8,8,8,8,8,8,8,8,8,8,8,8,8,8,8,8,8,8,8,8,8,8,8,8,8,8,8,8,8,8,8,8,8,8,8,8,8,8,8,8,8,8,8,8,8,8,8,8,8,8,8,8,8,8,8,8,8,8,8,8,8,8,8,8,8,8,8,8,8,8,8,8,8,8,8,8,8,8,8,8,8,8,8,8,8,8,8,8,8,8,8,8,8,8,8,8]⟩:ByteArray) (dV .u8 (ct .u64 (ct .u64 (ct .u64 x 32) 16) 8))))))) none) (aH (eg (dV .u8 (ct .u64 (ct .u64 x 32) 16)) 256) (k (BZ.out (bI .i64 48 (dV .i64 (an4 (⟨#[0,1,2,2,3,3,3,3,4,4,4,4,4,4,4,4,5,5,5,5,5,5,5,5,5,5,5,5,5,5,5,5,6,6,6,6,6,6,6,6,6,6,6,6,6,6,6,6,6,6,6,6,6,6,6,6,6,6,6,6,6,6,6,6,7,7,7,7,7,7,7,7,7,7,7,7,7,7,7,7,7,7,7,7,7,7,7,7,7,7,7,7,7,7,7,7,7,7,7,7,7,7,7,7,7,7,7,7,7,7,7,7,7,7,7,7,7,7,7,7,7,7,7,7,7,7,7,7,8,8,8,8,8,8,8,8,8,8,8,8,8,8,8,8,8,8,8,8,8,8,8,8,8,8,8,8,8,8,8,8,8,8,8,8,8,8,8,8,8,8,8,8,8,8,8,8,8,8,8,8,8,8,8,8,8,8,8,8,8,8,8,8,8,8,8,8,8,8,8,8,8,8,8,8,8,8,8,8,8,8,8,8,8,8,8,8,8,8,8,8,8,8,8,8,8,8,8,8,8,8,8,8,8,8,8,8,8,8,8,8,8,8,8,8,8,8,8,8,8,8,8,8,8,8,8,8]⟩:ByteArray) (dV .u8 (ct .u64 (ct .u64 x 32) 16))))))) none)) (aH ((BS (ct .u64 x 32) 256)) (aH (eg (dV .u8 (ct .u64 (ct .u64 x 32) 8)) 256) (k (BZ.out (bI .i64 40 (dV .i64 (an4 (⟨#[0,1,2,2,3,3,3,3,4,4,4,4,4,4,4,4,5,5,5,5,5,5,5,5,5,5,5,5,5,5,5,5,6,6,6,6,6,6,6,6,6,6,6,6,6,6,6,6,6,6,6,6,6,6,6,6,6,6,6,6,6,6,6,6,7,7,7,7,7,7,7,7,7,7,7,7,7,7,7,7,7,7,7,7,7,7,7,7,7,7,7,7,7,7,7,7,7,7,7,7,7,7,7,7,7,7,7,7,7,7,7,7,7,7,7,7,7,7,7,7,7,7,7,7,7,7,7,7,8,8,8,8,8,8,8,8,8,8,8,8,8,8,8,8,8,8,8,8,8,8,8,8,8,8,8,8,8,8,8,8,8,8,8,8,8,8,8,8,8,8,8,8,8,8,8,8,8,8,8,8,8,8,8,8,8,8,8,8,8,8,8,8,8,8,8,8,8,8,8,8,8,8,8,8,8,8,8,8,8,8,8,8,8,8,8,8,8,8,8,8,8,8,8,8,8,8,8,8,8,8,8,8,8,8,8,8,8,8,8,8,8,8,8,8,8,8,8,8,8,8,8,8,8,8,8,8]⟩:ByteArray) (dV .u8 (ct .u64 (ct .u64 x 32) 8))))))) none) (aH (eg (dV .u8 (ct .u64 x 32)) 256) (k (BZ.out (bI .i64 32 (dV .i64 (an4 (⟨#[0,1,2,2,3,3,3,3,4,4,4,4,4,4,4,4,5,5,5,5,5,5,5,5,5,5,5,5,5,5,5,5,6,6,6,6,6,6,6,6,6,6,6,6,6,6,6,6,6,6,6,6,6,6,6,6,6,6,6,6,6,6,6,6,7,7,7,7,7,7,7,7,7,7,7,7,7,7,7,7,7,7,7,7,7,7,7,7,7,7,7,7,7,7,7,7,7,7,7,7,7,7,7,7,7,7,7,7,7,7,7,7,7,7,7,7,7,7,7,7,7,7,7,7,7,7,7,7,8,8,8,8,8,8,8,8,8,8,8,8,8,8,8,8,8,8,8,8,8,8,8,8,8,8,8,8,8,8,8,8,8,8,8,8,8,8,8,8,8,8,8,8,8,8,8,8,8,8,8,8,8,8,8,8,8,8,8,8,8,8,8,8,8,8,8,8,8,8,8,8,8,8,8,8,8,8,8,8,8,8,8,8,8,8,8,8,8,8,8,8,8,8,8,8,8,8,8,8,8,8,8,8,8,8,8,8,8,8,8,8,8,8,8,8,8,8,8,8,8,8,8,8,8,8,8,8]⟩:ByteArray) (dV .u8 (ct .u64 x 32))))))) none))) (aH ((BS x 65536)) (aH ((BS (ct .u64 x 16) 256)) (aH (eg (dV .u8 (ct .u64 (ct .u64 x 16) 8)) 256) (k (BZ.out (bI .i64 24 (dV .i64 (an4 (⟨#[0,1,2,2,3,3,3,3,4,4,4,4,4,4,4,4,5,5,5,5,5,5,5,5,5,5,5,5,5,5,5,5,6,6,6,6,6,6,6,6,6,6,6,6,6,6,6,6,6,6,6,6,6,6,6,6,6,6,6,6,6,6,6,6,7,7,7,7,7,7,7,7,7,7,7,7,7,7,7,7,7,7,7,7,7,7,7,7,7,7,7,7,7,7,7,7,7,7,7,7,7,7,7,7,7,7,7,7,7,7,7,7,7,7,7,7,7,7,7,7,7,7,7,7,7,7,7,7,8,8,8,8,8,8,8,8,8,8,8,8,8,8,8,8,8,8,8,8,8,8,8,8,8,8,8,8,8,8,8,8,8,8,8,8,8,8,8,8,8,8,8,8,8,8,8,8,8,8,8,8,8,8,8,8,8,8,8,8,8,8,8,8,8,8,8,8,8,8,8,8,8,8,8,8,8,8,8,8,8,8,8,8,8,8,8,8,8,8,8,8,8,8,8,8,8,8,8,8,8,8,8,8,8,8,8,8,8,8,8,8,8,8,8,8,8,8,8,8,8,8,8,8,8,8,8,8]⟩:ByteArray) (dV .u8 (ct .u64 (ct .u64 x 16) 8))))))) none) (aH (eg (dV .u8 (ct .u64 x 16)) 256) (k (BZ.out (bI .i64 16 (dV .i64 (an4 (⟨#[0,1,2,2,3,3,3,3,4,4,4,4,4,4,4,4,5,5,5,5,5,5,5,5,5,5,5,5,5,5,5,5,6,6,6,6,6,6,6,6,6,6,6,6,6,6,6,6,6,6,6,6,6,6,6,6,6,6,6,6,6,6,6,6,7,7,7,7,7,7,7,7,7,7,7,7,7,7,7,7,7,7,7,7,7,7,7,7,7,7,7,7,7,7,7,7,7,7,7,7,7,7,7,7,7,7,7,7,7,7,7,7,7,7,7,7,7,7,7,7,7,7,7,7,7,7,7,7,8,8,8,8,8,8,8,8,8,8,8,8,8,8,8,8,8,8,8,8,8,8,8,8,8,8,8,8,8,8,8,8,8,8,8,8,8,8,8,8,8,8,8,8,8,8,8,8,8,8,8,8,8,8,8,8,8,8,8,8,8,8,8,8,8,8,8,8,8,8,8,8,8,8,8,8,8,8,8,8,8,8,8,8,8,8,8,8,8,8,8,8,8,8,8,8,8,8,8,8,8,8,8,8,8,8,8,8,8,8,8,8,8,8,8,8,8,8,8,8,8,8,8,8,8,8,8,8]⟩:ByteArray) (dV .u8 (ct .u64 x 16))))))) none)) (aH ((BS x 256)) (aH (eg (dV .u8 (ct .u64 x 8)) 256) (k (BZ.out (bI .i64 8 (dV .i64 (an4 (⟨#[0,1,2,2,3,3,3,3,4,4,4,4,4,4,4,4,5,5,5,5,5,5,5,5,5,5,5,5,5,5,5,5,6,6,6,6,6,6,6,6,6,6,6,6,6,6,6,6,6,6,6,6,6,6,6,6,6,6,6,6,6,6,6,6,7,7,7,7,7,7,7,7,7,7,7,7,7,7,7,7,7,7,7,7,7,7,7,7,7,7,7,7,7,7,7,7,7,7,7,7,7,7,7,7,7,7,7,7,7,7,7,7,7,7,7,7,7,7,7,7,7,7,7,7,7,7,7,7,8,8,8,8,8,8,8,8,8,8,8,8,8,8,8,8,8,8,8,8,8,8,8,8,8,8,8,8,8,8,8,8,8,8,8,8,8,8,8,8,8,8,8,8,8,8,8,8,8,8,8,8,8,8,8,8,8,8,8,8,8,8,8,8,8,8,8,8,8,8,8,8,8,8,8,8,8,8,8,8,8,8,8,8,8,8,8,8,8,8,8,8,8,8,8,8,8,8,8,8,8,8,8,8,8,8,8,8,8,8,8,8,8,8,8,8,8,8,8,8,8,8,8,8,8,8,8,8]⟩:ByteArray) (dV .u8 (ct .u64 x 8))))))) none) (aH (eg (dV .u8 x) 256) (k (BZ.out (bI .i64 0 (dV .i64 (an4 (⟨#[0,1,2,2,3,3,3,3,4,4,4,4,4,4,4,4,5,5,5,5,5,5,5,5,5,5,5,5,5,5,5,5,6,6,6,6,6,6,6,6,6,6,6,6,6,6,6,6,6,6,6,6,6,6,6,6,6,6,6,6,6,6,6,6,7,7,7,7,7,7,7,7,7,7,7,7,7,7,7,7,7,7,7,7,7,7,7,7,7,7,7,7,7,7,7,7,7,7,7,7,7,7,7,7,7,7,7,7,7,7,7,7,7,7,7,7,7,7,7,7,7,7,7,7,7,7,7,7,8,8,8,8,8,8,8,8,8,8,8,8,8,8,8,8,8,8,8,8,8,8,8,8,8,8,8,8,8,8,8,8,8,8,8,8,8,8,8,8,8,8,8,8,8,8,8,8,8,8,8,8,8,8,8,8,8,8,8,8,8,8,8,8,8,8,8,8,8,8,8,8,8,8,8,8,8,8,8,8,8,8,8,8,8,8,8,8,8,8,8,8,8,8,8,8,8,8,8,8,8,8,8,8,8,8,8,8,8,8,8,8,8,8,8,8,8,8,8,8,8,8,8,8,8,8,8,8]⟩:ByteArray) (dV .u8 x)))))) none))):=bX
theorem aEe:BZ.Ok:=by intro y h;rw[aEd];obtain rfl | rfl | rfl:=h <;> kernel_rfl
theorem axC:BZ.RS:=rE [.d tu] BZ
def aEf:=BZ.eP aEe
def aEB:Int->Prop:=aPa
def aEA:Int->Int:=λy=>if y=4611686018427377339 then 2 else 3
def aq0:Fs Tryz.prog aEB bn aEA:=eK 238 Tryz.f238 (λx=>([.d tu x],[])) (λx=>⟨.d ti x,[],[]⟩) [some tu] [aEf]
theorem aJ4{R:Type}(x)(k:K1 R):aq0.A x k=al (BZ.call x) λx1=>k (aq0.out (cK .i64 64 x1)):=bX
theorem aJ5:aq0.Ok:=by intro y h;rw[aJ4,axC (d:=y) h];obtain rfl | rfl | rfl:=h <;> rfl
theorem aEC:aq0.RS:=rE [.d tu] aq0
def aJ6:=aq0.eP aJ5
abbrev ME:=Int×Int×Int×Int×Int×Int×Int×Int×Int
def O1:ME->Int->((Int×Int×Int×Int×Int×Int×Int)×(Int)):=λ(ad5,sv,yn1,yn0,un32,un1,un0,q1,rhat) y=>((ad5,sv,yn1,yn0,un32,un1,un0),y)
abbrev MF:=Int×Int×Int×Int×Int×Int×Int×Int×Int
def O3:MF->Int->((Int×Int×Int×Int×Int)×(Int)):=λ(ad6,lP,L9,acr,Jl,adg,Ft,un21,q0) y=>((ad6,lP,Jl,adg,un21),y)
def O0:ME->Prop:=λ(y,sv,yn1,yn0,u,w,un0,q,r)=>∃e:Int,(e=42260\/e=42264\/e=42272)/\y=18446744073709551616 - e/\yn1=4294967295/\yn0=4294967296 - e/\0<=u/\u < 18446744073709551616 - e/\0<=w/\w < 4294967296/\0<=r/\r < 4294967296/\q*4294967295+r=u/\(u*4294967296+w) / (18446744073709551616 - e)<=q
def EO:ME->Int:=λ(y,sv,yn1,yn0,u,w,un0,q,r)=>(u*4294967296+w) / y
def O2:MF->Prop:=λ(y,sv,yn1,yn0,w,q1,r,u,q)=>∃e:Int,(e=42260\/e=42264\/e=42272)/\y=18446744073709551616 - e/\yn1=4294967295/\yn0=4294967296 - e/\0<=u/\u < 18446744073709551616 - e/\0<=w/\w < 4294967296/\0<=r/\r < 4294967296/\q*4294967295+r=u/\(u*4294967296+w) / (18446744073709551616 - e)<=q
def EP:MF->Int:=λ(y,sv,yn1,yn0,w,q1,r,u,q)=>(u*4294967296+w) / y
def aeJ:(Int×Int×Int)->Prop:=λ(hi,lo,y)=>(aPa y\/hi=0/\0 < y/\y < 18446744073709551616)/\0<=hi/\hi < y/\0<=lo/\lo < 18446744073709551616
def ahq:(Int×Int×Int)->(Int×Int):=λ(hi,lo,y)=>((hi*18446744073709551616+lo) / y,(hi*18446744073709551616+lo)%y)
def nw:Ls O0 O1 EO:=qz (λ(ad5,sv,yn1,yn0,un32,un1,un0,q1,rhat)=>⟨([bB,bB,.d tu ad5]++aQ 5 ([.d tu sv,.d tu yn1,.d tu yn0,.d tu un32,bB,.d tu un1,.d tu un0,.d tu q1,.d tu rhat]++aQ 118 [])),[],(ab 135 [])⟩) (λx=>(.exit 0,⟨([bB,bB,.d tu x.1.1]++aQ 5 ([.d tu x.1.2.1,.d tu x.1.2.2.1,.d tu x.1.2.2.2.1,.d tu x.1.2.2.2.2.1,bB,.d tu x.1.2.2.2.2.2.1,.d tu x.1.2.2.2.2.2.2,.d tu x.2]++aQ 119 [])),[],(ab 135 [])⟩))
def nA:Ls O2 O3 EP:=qz (λ(ad6,lP,L9,acr,Jl,adg,Ft,un21,q0)=>⟨([bB,bB,.d tu ad6]++aQ 5 ([.d tu lP,.d tu L9,.d tu acr,bB,bB,bB,.d tu Jl,.d tu adg,.d tu Ft,.d tu un21,.d tu q0]++aQ 116 [])),[],(ab 135 [])⟩) (λx=>(.exit 2,⟨([bB,bB,.d tu x.1.1]++aQ 5 ([.d tu x.1.2.1]++aQ 5 ([.d tu x.1.2.2.1,.d tu x.1.2.2.2.1,bB,.d tu x.1.2.2.2.2,.d tu x.2]++aQ 116 []))),[],(ab 135 [])⟩))
def BL:Fs Tryz.prog aeJ bn ahq:=eK 218 Tryz.f218 (λ(hi,lo,yv)=>([.d tu hi,.d tu lo,.d tu yv],[])) (λx=>⟨.cons (.d tu x.1) (.cons (.d tu x.2) (.nil)),[],[]⟩) [some tu,some tu,some tu] [aJ6] {loops:=nF [(17,{aV:=[2,8,9,10,11,13,14,15,16]}),(24,{aV:=[2,8,9,10,14,15,16,17,18]})],outs:=nE [(17,{aV:=[2,8,9,10,11,13,14,15]},{aV:=[6,7]}),(24,{aV:=[2,8,14,15,17,18]},{aV:=[6,7]})],fw:=nr [(17,nw.E),(24,nA.E)]}
theorem ahr:nw.RS:=rL [.d tu,.d tu,.d tu,.d tu,.d tu,.d tu,.d tu,.d tu,.d tu] nw
theorem CC{R:Type}(ad5 sv yn1 yn0 un32 un1 un0 q1 rhat)(kn:K2 R)(kx:K3 R):BL.R 0 nw (ad5,sv,yn1,yn0,un32,un1,un0,q1,rhat) kn kx=aH ((BS q1 4294967296)) (aH ((BS (bI .u64 rhat yn1) 4294967296)) (nw.go kx ((ad5,sv,yn1,yn0,un32,un1,un0),(cK .u64 q1 1))) (kn (nw.st (ad5,sv,yn1,yn0,un32,un1,un0,(cK .u64 q1 1),(bI .u64 rhat yn1))))) (aH ((w7 (fZ .u64 q1 yn0) (bI .u64 (fZ .u64 4294967296 rhat) un1))) (aH ((BS (bI .u64 rhat yn1) 4294967296)) (nw.go kx ((ad5,sv,yn1,yn0,un32,un1,un0),(cK .u64 q1 1))) (kn (nw.st (ad5,sv,yn1,yn0,un32,un1,un0,(cK .u64 q1 1),(bI .u64 rhat yn1))))) (nw.go kx ((ad5,sv,yn1,yn0,un32,un1,un0),q1))):=bX
theorem ahs:nA.RS:=rL [.d tu,.d tu,.d tu,.d tu,.d tu,.d tu,.d tu,.d tu,.d tu] nA
theorem CD{R:Type}(ad6 lP L9 acr Jl adg Ft un21 q0)(kn:K2 R)(kx:K3 R):BL.R 1 nA (ad6,lP,L9,acr,Jl,adg,Ft,un21,q0) kn kx=aH ((BS q0 4294967296)) (aH ((BS (bI .u64 Ft L9) 4294967296)) (nA.go kx ((ad6,lP,Jl,adg,un21),(cK .u64 q0 1))) (kn (nA.st (ad6,lP,L9,acr,Jl,adg,(bI .u64 Ft L9),un21,(cK .u64 q0 1))))) (aH ((w7 (fZ .u64 q0 acr) (bI .u64 (fZ .u64 4294967296 Ft) Jl))) (aH ((BS (bI .u64 Ft L9) 4294967296)) (nA.go kx ((ad6,lP,Jl,adg,un21),(cK .u64 q0 1))) (kn (nA.st (ad6,lP,L9,acr,Jl,adg,(bI .u64 Ft L9),un21,(cK .u64 q0 1))))) (nA.go kx ((ad6,lP,Jl,adg,un21),q0))):=bX
theorem aCW{R:Type}(hi lo yv)(k:K1 R):BL.A (hi,lo,yv) k=aH ((qQ yv 0)) (none) (aH ((ajU yv hi)) (none) (aH ((qQ hi 0)) (aH (rk yv) (aH (rk yv) (k (BL.out ((tf .u64 lo yv),(mq lo yv)))) none) none) (al (aq0.call yv) λx1=>aH (me (dV .u64 x1)) (aH (me (dV .u64 x1)) (aH (me (cK .u64 64 (dV .u64 x1))) (aH (me (dV .u64 x1)) (aH (rk (ct .u64 (l7 .u64 yv (dV .u64 x1)) 32)) (al (nw.call ((l7 .u64 yv (dV .u64 x1)),(dV .u64 x1),(ct .u64 (l7 .u64 yv (dV .u64 x1)) 32),(cF .and .u64 (l7 .u64 yv (dV .u64 x1)) 4294967295),(cF .or .u64 (l7 .u64 hi (dV .u64 x1)) (ct .u64 lo (cK .u64 64 (dV .u64 x1)))),(ct .u64 (l7 .u64 lo (dV .u64 x1)) 32),(cF .and .u64 (l7 .u64 lo (dV .u64 x1)) 4294967295),(tf .u64 (cF .or .u64 (l7 .u64 hi (dV .u64 x1)) (ct .u64 lo (cK .u64 64 (dV .u64 x1)))) (ct .u64 (l7 .u64 yv (dV .u64 x1)) 32)),(cK .u64 (cF .or .u64 (l7 .u64 hi (dV .u64 x1)) (ct .u64 lo (cK .u64 64 (dV .u64 x1)))) (fZ .u64 (tf .u64 (cF .or .u64 (l7 .u64 hi (dV .u64 x1)) (ct .u64 lo (cK .u64 64 (dV .u64 x1)))) (ct .u64 (l7 .u64 yv (dV .u64 x1)) 32)) (ct .u64 (l7 .u64 yv (dV .u64 x1)) 32))))) λx2=>aH (rk x2.1.2.2.1) (al (nA.call (x2.1.1,x2.1.2.1,x2.1.2.2.1,x2.1.2.2.2.1,x2.1.2.2.2.2.2.2,x2.2,(cK .u64 (cK .u64 (bI .u64 (fZ .u64 x2.1.2.2.2.2.1 4294967296) x2.1.2.2.2.2.2.1) (fZ .u64 x2.2 x2.1.1)) (fZ .u64 (tf .u64 (cK .u64 (bI .u64 (fZ .u64 x2.1.2.2.2.2.1 4294967296) x2.1.2.2.2.2.2.1) (fZ .u64 x2.2 x2.1.1)) x2.1.2.2.1) x2.1.2.2.1)),(cK .u64 (bI .u64 (fZ .u64 x2.1.2.2.2.2.1 4294967296) x2.1.2.2.2.2.2.1) (fZ .u64 x2.2 x2.1.1)),(tf .u64 (cK .u64 (bI .u64 (fZ .u64 x2.1.2.2.2.2.1 4294967296) x2.1.2.2.2.2.2.1) (fZ .u64 x2.2 x2.1.1)) x2.1.2.2.1))) λx3=>aH (me x3.1.2.1) (k (BL.out ((bI .u64 (fZ .u64 x3.1.2.2.2.1 4294967296) x3.2),(ct .u64 (cK .u64 (bI .u64 (fZ .u64 x3.1.2.2.2.2 4294967296) x3.1.2.2.1) (fZ .u64 x3.2 x3.1.1)) x3.1.2.1)))) none) none) none) none) none) none) none))):=bX
theorem alv:(BL.jR 0 nw):=by
 refine(BL.lp 0 nw) (λ(y,sv,yn1,yn0,u,w,un0,q,r)=>q.toNat) ?_
 rintro⟨y,sv,yn1,yn0,u,w,un0,q,r⟩ ⟨e,he,rfl,rfl,rfl,hu,ajT,hw,aAE,hr,acO,hq,hQ⟩;have hu:0<=u:=hu;have ajT:u < 18446744073709551616 - e:=ajT;have hw:0<=w:=hw;have aAE:w < 4294967296:=aAE;have hr:0<=r:=hr;have acO:r < 4294967296:=acO;have hq:q*4294967295+r=u:=hq;obtain⟨k1,k2,k3,k4,k5,k6⟩:=k1 he hu ajT hw aAE hr acO hq hQ;have q0:0<=q:=Int.le_trans k5 hQ;have a1:bI .u64 r 4294967295=r+4294967295:=by rw[tX];omega
 have a2:bI .u64 (fZ .u64 4294967296 r) w=4294967296*r+w:=by rw[yQ,tX];omega
 have a3:q < 4294967296->fZ .u64 q (4294967296 - e)=q*(4294967296 - e):=by intro h;rw[yQ];rcases he with rfl | rfl | rfl <;> omega
 have a4:0 < q->cK .u64 q 1=q - 1:=by intro h;rw[WQ];omega
 have pos:4294967296<=q\/(q < 4294967296/\4294967296*r+w < q*(4294967296 - e))->0 < q/\(u*4294967296+w) / (18446744073709551616 - e)<=q - 1:=by
  rintro(h | ⟨h,h2⟩)
  ·exact⟨ak,k1 h⟩
  ·exact⟨by have:=k2 h h2;omega,k2 h h2⟩
 by_cases hc:4294967296<=q\/(q < 4294967296/\4294967296*r+w < q*(4294967296 - e))
 ·obtain⟨p1,p2⟩:=pos hc;by_cases hb:4294967296<=r+4294967295
  ·right;have hF:EO (18446744073709551616 - e,sv,4294967295,4294967296 - e,u,w,un0,q,r)=q - 1:=k4 hb p2;intro R kn kx;rw[CC,a1,a2,a4 p1,fY hb,hF];rcases hc with h | ⟨h,h2⟩
   ·rw[fY h];rfl
   ·rw[eA ak,a3 h,di h2];rfl
  ·left;refine⟨(18446744073709551616 - e,sv,4294967295,4294967296 - e,u,w,un0,q - 1,r+4294967295),⟨e,he,rfl,rfl,rfl,hu,ajT,hw,aAE,ak,ak,ak,p2⟩,by simp only[];omega,rfl,λkn kx=> ?_⟩;rw[CC,a1,a2,a4 p1,eA hb];rcases hc with h | ⟨h,h2⟩
   ·rw[fY h];rfl
   ·rw[eA ak,a3 h,di h2];rfl
 ·right;have h:q < 4294967296:=ak;have h2:¬4294967296*r+w < q*(4294967296 - e):=λx=>hc (eZ ⟨h,x⟩)
  have hF:EO (18446744073709551616 - e,sv,4294967295,4294967296 - e,u,w,un0,q,r)=q:=k3 h ak;intro R kn kx;rw[CC,a2,a3 h,eA ak,cG h2,hF];rfl
theorem alw:(BL.jR 1 nA):=by
 refine(BL.lp 1 nA) (λ(y,sv,yn1,yn0,w,q1,r,u,q)=>q.toNat) ?_
 rintro⟨y,sv,yn1,yn0,w,q1,r,u,q⟩ ⟨e,he,rfl,rfl,rfl,hu,ajT,hw,aAE,hr,acO,hq,hQ⟩;have hu:0<=u:=hu;have ajT:u < 18446744073709551616 - e:=ajT;have hw:0<=w:=hw;have aAE:w < 4294967296:=aAE;have hr:0<=r:=hr;have acO:r < 4294967296:=acO;have hq:q*4294967295+r=u:=hq;obtain⟨k1,k2,k3,k4,k5,k6⟩:=k1 he hu ajT hw aAE hr acO hq hQ;have q0:0<=q:=Int.le_trans k5 hQ;have a1:bI .u64 r 4294967295=r+4294967295:=by rw[tX];omega
 have a2:bI .u64 (fZ .u64 4294967296 r) w=4294967296*r+w:=by rw[yQ,tX];omega
 have a3:q < 4294967296->fZ .u64 q (4294967296 - e)=q*(4294967296 - e):=by intro h;rw[yQ];rcases he with rfl | rfl | rfl <;> omega
 have a4:0 < q->cK .u64 q 1=q - 1:=by intro h;rw[WQ];omega
 have pos:4294967296<=q\/(q < 4294967296/\4294967296*r+w < q*(4294967296 - e))->0 < q/\(u*4294967296+w) / (18446744073709551616 - e)<=q - 1:=by
  rintro(h | ⟨h,h2⟩)
  ·exact⟨ak,k1 h⟩
  ·exact⟨by have:=k2 h h2;omega,k2 h h2⟩
 by_cases hc:4294967296<=q\/(q < 4294967296/\4294967296*r+w < q*(4294967296 - e))
 ·obtain⟨p1,p2⟩:=pos hc;by_cases hb:4294967296<=r+4294967295
  ·right;have hF:EP (18446744073709551616 - e,sv,4294967295,4294967296 - e,w,q1,r,u,q)=q - 1:=k4 hb p2;intro R kn kx;rw[CD,a1,a2,a4 p1,fY hb,hF];rcases hc with h | ⟨h,h2⟩
   ·rw[fY h];rfl
   ·rw[eA ak,a3 h,di h2];rfl
  ·left;refine⟨(18446744073709551616 - e,sv,4294967295,4294967296 - e,w,q1,r+4294967295,u,q - 1),⟨e,he,rfl,rfl,rfl,hu,ajT,hw,aAE,ak,ak,ak,p2⟩,by simp only[];omega,rfl,λkn kx=> ?_⟩;rw[CD,a1,a2,a4 p1,eA hb];rcases hc with h | ⟨h,h2⟩
   ·rw[fY h];rfl
   ·rw[eA ak,a3 h,di h2];rfl
 ·right;have h:q < 4294967296:=ak;have h2:¬4294967296*r+w < q*(4294967296 - e):=λx=>hc (eZ ⟨h,x⟩)
  have hF:EP (18446744073709551616 - e,sv,4294967295,4294967296 - e,w,q1,r,u,q)=q:=k3 h ak;intro R kn kx;rw[CD,a2,a3 h,eA ak,cG h2,hF];rfl
theorem aMU{y hi lo:Int}(hy:aPa y)(h0:0<=hi)(h1:hi < y)(h2:0<=lo)(h3:lo < 18446744073709551616):∃(s:Nat) (e m:Int),aEA y=s/\(s=2\/s=3)/\m=2^s/\(e=42260\/e=42264\/e=42272)/\y*m=18446744073709551616 - e/\
  l7 .u64 y (s:Int)=18446744073709551616 - e/\
  cF .or .u64 (l7 .u64 hi (s:Int)) (ct .u64 lo (cK .u64 64 (s:Int)))=(hi*18446744073709551616+lo)*m / 18446744073709551616/\
  l7 .u64 lo (s:Int)=(hi*18446744073709551616+lo)*m%18446744073709551616/\
  (hi*18446744073709551616+lo)*m / 18446744073709551616 < 18446744073709551616 - e/\
  (hi*18446744073709551616+lo)*m / (18446744073709551616 - e)=(hi*18446744073709551616+lo) / y/\
  (hi*18446744073709551616+lo)*m%(18446744073709551616 - e) / m=(hi*18446744073709551616+lo)%y:=by
 have e1:cK .u64 64 ((2:Nat):Int)=((62:Nat):Int):=rfl;have e2:cK .u64 64 ((3:Nat):Int)=((61:Nat):Int):=rfl;have p2:(2:Int)^2=4:=rfl;have p3:(2:Int)^3=8:=rfl;have p61:(2:Int)^61=2305843009213693952:=rfl;have p62:(2:Int)^62=4611686018427387904:=rfl;obtain rfl | rfl | rfl:=hy
 ·refine⟨2,42260,4,rfl,lA rfl,rfl,lA rfl,rfl,by rw[wE 2 (by rfl) ak,p2];omega,?_,?_,ak,ak,ak⟩
  ·rw[e1,wE 2 (by rfl) ak,wF 62 (by rfl) ak,p2,p62,PX 2 4 rfl ak ak ak ak ak ak];omega
  ·rw[wE 2 (by rfl) ak,p2];omega
 ·refine⟨3,42264,8,rfl,eZ rfl,rfl,eZ (lA rfl),rfl,by rw[wE 3 (by rfl) ak,p3];omega,?_,?_,ak,ak,ak⟩
  ·rw[e2,wE 3 (by rfl) ak,wF 61 (by rfl) ak,p3,p61,PX 3 8 rfl ak ak ak ak ak ak];omega
  ·rw[wE 3 (by rfl) ak,p3];omega
 ·refine⟨3,42272,8,rfl,eZ rfl,rfl,eZ (eZ rfl),rfl,by rw[wE 3 (by rfl) ak,p3];omega,?_,?_,ak,ak,ak⟩
  ·rw[e2,wE 3 (by rfl) ak,wF 61 (by rfl) ak,p3,p61,PX 3 8 rfl ak ak ak ak ak ak];omega
  ·rw[wE 3 (by rfl) ak,p3];omega
theorem aST(a b c:Int):(((a%18446744073709551616+b)%18446744073709551616) - c%18446744073709551616)%18446744073709551616=(a+b - c)%18446744073709551616:=ak
theorem aCX:BL.Ok:=by
 rintro⟨hi,lo,y⟩ ⟨hy,h0,h1,h2,h3⟩;have h0:0<=hi:=h0;have h1:hi < y:=h1;have h2:0<=lo:=h2;have h3:lo < 18446744073709551616:=h3;have yb:0 < y/\y < 18446744073709551616:=by
  rcases hy with hy | hy
  ·obtain rfl | rfl | rfl:=hy <;> omega
  ·exact hy.2
 rw[aCW,eO ak,l5 ak];simp only[ao];have z:rk y=true:=by simp[rk];omega
 by_cases hz:hi=0
 ·subst hz;rw[dp rfl,z,ahZ h2 ak h3,v8 h2];simp only[aj,ahq,bn,Int.zero_mul,Int.zero_add]
 ·have hy:aPa y:=hy.resolve_right λe=>hz e.1
  obtain⟨s,e,m,hs,YK,hm,he,aVW,a1,a2,a3,a4,a5,a6⟩:=aMU hy h0 h1 h2 h3;have c1:dV .u64 (s:Int)=(s:Int):=by rw[aDO];omega
  have c2:me (s:Int)=true:=sQ ak;have c3:me (cK .u64 64 (s:Int))=true:=by rcases YK with rfl | rfl <;> rfl
  rw[eO hz,aEC (d:=y) hy];simp only[ao,ah,bn,hs,c1,c2,c3,aj,a1,a2,a3];have hN:0<=(hi*18446744073709551616+lo)*m:=Int.mul_nonneg ak (by rcases YK with rfl | rfl <;> omega)
  revert a4 a5 a6
  generalize (hi*18446744073709551616+lo)*m=N at hN;intro a4 a5 a6;have u0:0<=N / 18446744073709551616:=ak;have t0:0<=N%18446744073709551616:=ak;have t1:N%18446744073709551616 < 18446744073709551616:=ak;have hd:N=(N / 18446744073709551616*4294967296+N%18446744073709551616 / 4294967296)*4294967296+N%18446744073709551616%4294967296:=ak;have w10:0<=N%18446744073709551616 / 4294967296:=ak;have w11:N%18446744073709551616 / 4294967296 < 4294967296:=ak;have w00:0<=N%18446744073709551616%4294967296:=ak;have w01:N%18446744073709551616%4294967296 < 4294967296:=ak;have p32:(2:Int)^32=4294967296:=rfl;have b1:ct .u64 (18446744073709551616 - e) 32=4294967295:=by rw[wF 32 (by rfl) ak,p32];rcases he with rfl | rfl | rfl <;> rfl
  have b2:cF .and .u64 (18446744073709551616 - e) 4294967295=4294967296 - e:=by rw[aka ak ak];omega
  have b3:ct .u64 (N%18446744073709551616) 32=N%18446744073709551616 / 4294967296:=by rw[wF 32 (by rfl) ak,p32]
  have b4:cF .and .u64 (N%18446744073709551616) 4294967295=N%18446744073709551616%4294967296:=aka t0 t1;have z2:rk 4294967295=true:=rfl;simp only[b1,b2,b3,b4,z2,aj];clear a1 a2 a3 b1 b2 b3 b4;have kdd:=kd (18446744073709551616 - e) (N / 18446744073709551616) (N%18446744073709551616 / 4294967296) (N%18446744073709551616%4294967296) ak w00 w01;rw[<-hd,a5]at kdd
  revert a4 kdd
  generalize N / 18446744073709551616=u at u0;generalize N%18446744073709551616 / 4294967296=w1 at w10 w11;generalize N%18446744073709551616%4294967296=w0 at w00 w01;intro a4 kdd
  have g:∀u w:Int,0<=u->u < 18446744073709551616 - e->0<=w->w < 4294967296->
    tf .u64 u 4294967295=u / 4294967295/\cK .u64 u (fZ .u64 (u / 4294967295) 4294967295)=u - u / 4294967295*4294967295/\
    cK .u64 (bI .u64 (fZ .u64 u 4294967296) w) (fZ .u64 ((u*4294967296+w) / (18446744073709551616 - e)) (18446744073709551616 - e))=(u*4294967296+w)%(18446744073709551616 - e):=by
   intro u w k1 k2 k3 k4;obtain⟨q1,q2,q3,q4,q5,q6,q7,q8⟩:=k0 he k1 k2 k3 k4;refine⟨ahZ k1 ak ak,by rw[WQ,yQ];omega,?_⟩;rw[WQ,tX,yQ,yQ,aST,q4];exact eW q5 ak
  obtain⟨f1,f2,f3⟩:=g u w1 u0 a4 w10 w11;obtain⟨q1,q2,q3,q4,q5,q6,q7,q8⟩:=k0 he u0 a4 w10 w11;have p1:O0 (18446744073709551616 - e,(s:Int),4294967295,4294967296 - e,u,w1,w0,u / 4294967295,u - u / 4294967295*4294967295):=⟨e,he,rfl,rfl,rfl,u0,a4,w10,w11,q2,q3,ak,q1⟩;rw[f1,f2,ahr p1];simp only[ah,O1,EO,z2,aj,f3]
  revert f3 q1 kdd
  generalize (u*4294967296+w1)%(18446744073709551616 - e)=v at q4 q5 q6;generalize (u*4294967296+w1) / (18446744073709551616 - e)=Q at q4 q7 q8;intro kdd f3 q1;obtain⟨g1,g2,g3⟩:=g v w0 q5 q6 w00 w01;obtain⟨r1,r2,r3,r4,r5,r6,r7,r8⟩:=k0 he q5 q6 w00 w01;have p2:O2 (18446744073709551616 - e,(s:Int),4294967295,4294967296 - e,w0,Q,v - v / 4294967295*4294967295,v,v / 4294967295):=⟨e,he,rfl,rfl,rfl,q5,q6,w00,w01,r2,r3,ak,r1⟩;rw[g1,g2,ahs p2];simp only[ah,O3,EP,c2,aj,g3];rw[<-kdd.2,wF s (by rfl) ak,<-hm,a6,yQ,tX];have e9:(Q*4294967296%18446744073709551616+(v*4294967296+w0) / (18446744073709551616 - e))%18446744073709551616=(hi*18446744073709551616+lo) / y:=by rw[kdd.1];omega
  rw[e9];rfl
theorem awH:BL.RS:=rE [.d tu,.d tu,.d tu] BL
def aCY:=BL.eP aCX 2 ⟨.fp alv,⟨.fp alw,trivial⟩⟩
def SZ:(Int×Int×Int)->Prop:=λ(hi,lo,y)=>aPa y/\0<=hi/\hi < 18446744073709551616/\0<=lo/\lo < 18446744073709551616
def Qi:(Int×Int×Int)->Int:=λ(hi,lo,y)=>(hi*18446744073709551616+lo)%y
def Qh:Fs Tryz.prog SZ bn Qi:=eK 185 Tryz.f185 (λ(hi,lo,yv)=>([.d tu hi,.d tu lo,.d tu yv],[])) (λx=>⟨.d tu x,[],[]⟩) [some tu,some tu,some tu] [aCY]
theorem aFH{R:Type}(hi lo yv)(k:K1 R):Qh.A (hi,lo,yv) k=aH (rk yv) (al (BL.call ((mq hi yv),lo,yv)) λx1=>k (Qh.out x1.2)) none:=bX
theorem aFI:Qh.Ok:=by
 rintro⟨hi,lo,y⟩ ⟨hy,h0,h1,h2,h3⟩;have h0:0<=hi:=h0;have yb:0 < y:=by obtain rfl | rfl | rfl:=hy <;> omega
 have z:rk y=true:=by simp[rk];omega
 have p:aeJ (hi%y,lo,y):=⟨.inl hy,kr _ ak,jT _ yb,h2,h3⟩;rw[aFH,z,v8 h0,awH p];have e:(hi%y*18446744073709551616+lo)%y=(hi*18446744073709551616+lo)%y:=by rw[tm,jm,gF _ (pF y),<-jm,<-tm]
 simp only[aj,ah,bn,ahq,bn,Qi,e]
theorem S0:Qh.RS:=rE [.d tu,.d tu,.d tu] Qh
def aaG:=Qh.eP aFI
def axW:(Int×Int)->Prop:=λ(x,y)=>(0<=x/\x < 18446744073709551616)/\0<=y/\y < 18446744073709551616
def WW:(Int×Int)->(Int×Int):=λ(x,y)=>(x*y / 18446744073709551616,x*y%18446744073709551616)
def PS:Fs Tryz.prog axW bn WW:=eK 213 Tryz.f213 (λ(x,yv)=>([.d tu x,.d tu yv],[])) (λx=>⟨.cons (.d tu x.1) (.cons (.d tu x.2) (.nil)),[],[]⟩) [some tu,some tu]
theorem aEF{R:Type}(x yv)(k:K1 R):PS.A (x,yv) k=k (PS.out ((bI .u64 (bI .u64 (fZ .u64 (ct .u64 x 32) (ct .u64 yv 32)) (ct .u64 (bI .u64 (fZ .u64 (ct .u64 x 32) (cF .and .u64 yv 4294967295)) (ct .u64 (fZ .u64 (cF .and .u64 x 4294967295) (cF .and .u64 yv 4294967295)) 32)) 32)) (ct .u64 (bI .u64 (cF .and .u64 (bI .u64 (fZ .u64 (ct .u64 x 32) (cF .and .u64 yv 4294967295)) (ct .u64 (fZ .u64 (cF .and .u64 x 4294967295) (cF .and .u64 yv 4294967295)) 32)) 4294967295) (fZ .u64 (cF .and .u64 x 4294967295) (ct .u64 yv 32))) 32)),(fZ .u64 x yv))):=bX
theorem SK{a b m n:Int}(h0:0<=a)(h1:a<=m)(h2:0<=b)(h3:b<=n):0<=a*b/\a*b<=m*n:=⟨Int.mul_nonneg h0 h2,Int.mul_le_mul h1 h3 h2 (Int.le_trans h0 h1)⟩
theorem aEG:PS.Ok:=by
 rintro⟨x,y⟩ ⟨⟨h0,h1⟩,h2,h3⟩;have h0:0<=x:=h0;have h1:x < 18446744073709551616:=h1;have h2:0<=y:=h2;have h3:y < 18446744073709551616:=h3;rw[aEF];have p32:(2:Int)^32=4294967296:=rfl;have aVy:∀x:Int,ct .u64 x 32=x / 4294967296:=λx=>by rw[wF 32 (by rfl) ak,p32]
 simp only[aVy,aka h0 h1,aka h2 h3];obtain⟨a,b,rfl,a0,a1,b0,b1⟩:∃a b:Int,x=a*4294967296+b/\0<=a/\a<=4294967295/\0<=b/\b<=4294967295:=⟨x / 4294967296,x%4294967296,ak,ak,ak,ak,ak⟩;obtain⟨c,d,rfl,c0,c1,d0,d1⟩:∃a b:Int,y=a*4294967296+b/\0<=a/\a<=4294967295/\0<=b/\b<=4294967295:=⟨y / 4294967296,y%4294967296,ak,ak,ak,ak,ak⟩;have e1:(a*4294967296+b) / 4294967296=a:=ak;have e2:(a*4294967296+b)%4294967296=b:=ak;have e3:(c*4294967296+d) / 4294967296=c:=ak;have e4:(c*4294967296+d)%4294967296=d:=ak;have e5:(a*4294967296+b)*(c*4294967296+d)=a*c*18446744073709551616+(a*d+b*c)*4294967296+b*d:=by
  have q:(4294967296:Int)*4294967296=18446744073709551616:=rfl;rw[Int.add_mul,Int.mul_add,Int.mul_add];have q1:a*4294967296*(c*4294967296)=a*c*18446744073709551616:=by rw[<-q];ac_rfl
  have q2:a*4294967296*d=a*d*4294967296:=by ac_rfl
  have q3:b*(c*4294967296)=b*c*4294967296:=by ac_rfl
  rw[q1,q2,q3];omega
 obtain⟨m1,m2⟩:=SK a0 a1 c0 c1;obtain⟨m3,m4⟩:=SK a0 a1 d0 d1;obtain⟨m5,m6⟩:=SK b0 b1 c0 c1;obtain⟨m7,m8⟩:=SK b0 b1 d0 d1;have n:(4294967295:Int)*4294967295=18446744065119617025:=rfl;rw[n]at m2 m4 m6 m8;simp only[e1,e2,e3,e4,bn,WW,e5,yQ,tX]
 revert m1 m2 m3 m4 m5 m6 m7 m8
 generalize a*c=ac;generalize a*d=ad;generalize b*c=bc;generalize b*d=bd;intro m1 m2 m3 m4 m5 m6 m7 m8;have q1:bd%18446744073709551616=bd:=ak;have q2:ad%18446744073709551616=ad:=ak;have q3:bc%18446744073709551616=bc:=ak;have q4:ac%18446744073709551616=ac:=ak;rw[q1,q2,q3,q4];have q5:(ad+bd / 4294967296)%18446744073709551616=ad+bd / 4294967296:=ak;have q6:cF .and .u64 (ad+bd / 4294967296) 4294967295=(ad+bd / 4294967296)%4294967296:=aka ak ak;rw[q5,q6];refine bm some (bm PS.out (Prod.ext ?_ ?_))
 ·show _=(_:Int);simp only[];omega
 ·rfl
theorem afg:PS.RS:=rE [.d tu,.d tu] PS
def amz:=PS.eP aEG
def Pn(x:Int):Prop:=0<=x/\x < 4611686018427377339
def nv(x:Int):Prop:=0<=x/\x < 18446744073709551616
theorem Pn.u{x:Int}(h:Pn x):nv x:=⟨h.1,by have:=h.2;omega⟩
def oZ(a b:Int):Int:=a*b%4611686018427377339
theorem wh(a b:Int):Pn (oZ a b):=⟨kr _ ak,jT _ ak⟩
def ajW:Nat->Int->Nat->Int->Int
 | 0,_,_,out=>out
 |f+1,a,n,out=>if n=0 then out else ajW f (oZ a a) (n / 2) (if n%2=1 then oZ out a else out)
def pw(a:Int)(n:Nat):Int:=ajW 64 a n 1
theorem AR(f:Nat)(a out:Int):ajW f a 0 out=out:=by cases f <;> rfl
theorem aac:∀(f g:Nat) (a:Int) (n:Nat) (out:Int),n < 2^f->n < 2^g->ajW f a n out=ajW g a n out
 | 0,g,a,n,out,h,_=>by obtain rfl:n=0:=ak;rw[AR,AR]
 |f+1,0,a,n,out,_,h=>by obtain rfl:n=0:=ak;rw[AR,AR]
 |f+1,g+1,a,n,out,h,h'=>by
  have e:(2:Nat)^(f+1)=2^f*2:=Nat.pow_succ 2 f;have e':(2:Nat)^(g+1)=2^g*2:=Nat.pow_succ 2 g;unfold ajW;split
  ·rfl
  ·exact aac f g _ _ _ ak ak
theorem aFm:∀(f:Nat) (a:Int) (n:Nat) (out:Int),Pn out->Pn (ajW f a n out)
 | 0,_,_,_,h=>h
 |f+1,a,n,out,h=>by
  unfold ajW;split
  ·exact h
  ·refine aFm f _ _ _ ?_
   split
   ·exact wh _ _
   ·exact h
theorem am8(a:Int)(n:Nat):Pn (pw a n):=aFm _ _ _ _ ⟨ak,ak⟩
def arC:(Int×Int)->Prop:=λ(a,b)=>nv a/\nv b
def aFi:(Int×Int)->Int:=λ(a,b)=>oZ a b
def CP:Fs Tryz.prog arC bn aFi:=eK 180 Tryz.f180 (λ(a,b)=>([.d tu a,.d tu b],[])) (λx=>⟨.d tu x,[],[]⟩) [some tu,some tu] [amz,aaG]
theorem ayx{R:Type}(a b)(k:K1 R):CP.A (a,b) k=al (PS.call (a,b)) λx1=>al (Qh.call (x1.1,x1.2,4611686018427377339)) λx2=>k (CP.out x2):=bX
theorem abZ(n:Int):n / 18446744073709551616*18446744073709551616+n%18446744073709551616=n:=ak
theorem ayy:CP.Ok:=by rintro⟨a,b⟩ ⟨ha,hb⟩;have ha:nv a:=ha;have hb:nv b:=hb;obtain⟨m1,m2⟩:=SK ha.1 (show a<=18446744073709551615 by have:=ha.2;omega) hb.1 (show b<=18446744073709551615 by have:=hb.2;omega);have n:(18446744073709551615:Int)*18446744073709551615=340282366920938463426481119284349108225:=rfl;rw[n]at m2;have p:SZ (a*b / 18446744073709551616,a*b%18446744073709551616,4611686018427377339):=⟨lA rfl,ak,ak,ak,ak⟩;rw[ayx,afg (d:=(a,b)) ⟨ha,hb⟩];simp only[ah,bn,WW];rw[S0 p];simp only[ah,bn,Qi,abZ];rfl
theorem Nv:CP.RS:=rE [.d tu,.d tu] CP
def afz:=CP.eP ayy
def adb:(Int×Int×Int)->Prop:=λ(a,n,o)=>nv a/\nv n/\Pn o
def B6:(Int×Int×Int)->Int:=λ(a,n,o)=>ajW 64 a n.toNat o
def ary:(Int×Int)->Prop:=λ(a,n)=>nv a/\nv n
def am4:(Int×Int)->Int:=λ(a,n)=>pw a n.toNat
def nO:Ls adb bn B6:=qz (λ(F3,wi,outv)=>⟨([.d tu F3,.d tu wi,bB,bB,bB,.d tu outv]++aQ 14 []),[],(ab 20 [])⟩) (λx=>(.exit 0,⟨(aQ 5 ([.d tu x]++aQ 14 [])),[],(ab 20 [])⟩))
def xC:Fs Tryz.prog ary bn am4:=eK 130 Tryz.f130 (λ(a,n)=>([.d tu a,.d tu n],[])) (λx=>⟨.d tu x,[],[]⟩) [some tu,some tu] [afz] {loops:=nF [(2,{aV:=[0,1,5]})],outs:=nE [(2,{aV:=[5]},{aV:=[4]})],fw:=nr [(2,nO.E)]}
theorem ade:nO.RS:=rL [.d tu,.d tu,.d tu] nO
theorem H9{R:Type}(F3 wi outv)(kn:K2 R)(kx:K3 R):xC.R 0 nO (F3,wi,outv) kn kx=aH ((w7 wi 0)) (aH ((qQ (cF .and .u64 wi 1) 1)) (al (CP.call (outv,F3)) λx1=>al (CP.call (F3,F3)) λx2=>kn (nO.st (x2,(ct .u64 wi 1),x1))) (al (CP.call (F3,F3)) λx3=>kn (nO.st (x3,(ct .u64 wi 1),outv)))) (nO.go kx outv):=bX
theorem ayp{R:Type}(a n)(k:K1 R):xC.A (a,n) k=al (nO.call (a,n,1)) λx4=>k (xC.out x4):=bX
theorem aTh{n:Int}(h:nv n):ct .u64 n 1=n / 2:=wF 1 (by rfl) ak
theorem aiE:(xC.jR 0 nO):=by
 refine(xC.lp 0 nO) (λ(a,n,o)=>n.toNat) ?_
 rintro⟨a,n,o⟩ ⟨ha,hn,ho⟩;have ha:nv a:=ha;have hn:nv n:=hn;have ho:Pn o:=ho;have n0:=hn.1;have n1:=hn.2;by_cases h:0 < n
 ·left;have e:B6 (a,n,o)=B6 (oZ a a,n / 2,if n%2=1 then oZ o a else o):=by
   show ajW 64 a n.toNat o=ajW 64 (oZ a a) (n / 2).toNat _;rw[aac 64 65 a n.toNat o ak ak];have t1:(n / 2).toNat=n.toNat / 2:=ak;have t2:(n%2=1)=(n.toNat%2=1):=by apply propext;omega
   rw[t1];simp only[t2];show(if n.toNat=0 then o else _)=_;rw[if_neg ak]
  refine⟨(oZ a a,n / 2,if n%2=1 then oZ o a else o),⟨(wh a a).u,⟨ak,ak⟩,?_⟩,by show(n / 2).toNat < n.toNat;omega,?_,λkn kx=> ?_⟩
  ·show Pn (if n%2=1 then oZ o a else o);split
   ·exact wh _ _
   ·exact ho
  ·exact bm _ e.symm
  ·rw[H9,di h,aTh hn,aRK n0 n1,Nv (d:=(o,a)) ⟨ho.u,ha⟩,Nv (d:=(a,a)) ⟨ha,ha⟩];by_cases h1:n%2=1
   ·rw[dp h1,if_pos h1];rfl
   ·rw[eO h1,if_neg h1];rfl
 ·right;intro R kn kx;obtain rfl:n=0:=ak;rw[H9,cG ak];simp only[ao,bn,B6];rw[show ajW 64 a (ae 0) o=o from AR _ _ _]
theorem ayq:xC.Ok:=by rintro⟨a,n⟩ ⟨ha,hn⟩;rw[ayp,ade (d:=(a,n,1)) ⟨ha,hn,ak,ak⟩];rfl
theorem Nt:xC.RS:=rE [.d tu,.d tu] xC
def SN:=xC.eP ayq 1 ⟨.fp aiE,trivial⟩
def uX(p:Int):Bool:=decide (0 < p/\p < 4611686018427377339) && decide (pw p 2305843009213688669=1)
def tk(p:Int):Int:=if uX p then p else 1
theorem aGO(p:Int):Pn (tk p):=by
 unfold tk;split
 ·rename_i h;simp only[uX,au,bf]at h;exact⟨ak,ak⟩
 ·exact⟨ak,ak⟩
def Fy(p k:Int):Int:=pw (tk p) (k%2305843009213688669).toNat
def fS(k:Int):Int:=Fy 4 k
def amE(p:Int):Int:=pw (tk p) 2305843009213688668
def Wu(l:List Int):Int:=l.foldl (λo p=>oZ o (tk p)) 1
theorem aLe(l:List Int)(o:Int)(h:Pn o):Pn (l.foldl (λo p=>oZ o (tk p)) o):=by
 induction l generalizing o with
 |nil=>exact h
 |cons p l ih=>exact ih _ (wh _ _)
theorem aLf(l:List Int):Pn (Wu l):=aLe l 1 ⟨ak,ak⟩
def arz:Int->Prop:=λp=>nv p
def P9:Int->Bool:=λp=>uX p
def vp:Fs Tryz.prog arz bn P9:=eK 142 Tryz.f142 (λp=>([.d tu p],[])) (λx=>⟨.d .bool x,[],[]⟩) [some tu] [SN]
theorem ayr{R:Type}(p)(k:K1 R):vp.A p k=aH ((w7 p 0)) (aH ((fR p 4611686018427377339)) (al (xC.call (p,2305843009213688669)) λx1=>k (vp.out (qQ x1 1))) (k (vp.out false))) (k (vp.out false)):=bX
theorem ays:vp.Ok:=by
 intro p hp;have hp:nv p:=hp;rw[ayr,Nt (d:=(p,2305843009213688669)) ⟨hp,by constructor <;> decide⟩];simp only[ah,bn,am4,bn,P9,uX];by_cases h:0 < p
 ·rw[di h,aj];by_cases h2:p < 4611686018427377339
  ·rw[aU h2,aj,aI ⟨h,h2⟩,bO];rfl
  ·rw[aP h2,ao,aT (λx=>h2 x.2),dw]
 ·rw[cG h,ao,aT (λx=>h x.1),dw]
theorem AP:vp.RS:=rE [.d tu] vp
def SO:=vp.eP ays
def arB:Int->Prop:=λp=>nv p
def Ib:Int->Int:=λp=>tk p
def CO:Fs Tryz.prog arB bn Ib:=eK 131 Tryz.f131 (λp=>([.d tu p],[])) (λx=>⟨.d tu x,[],[]⟩) [some tu] [SO]
theorem ayv{R:Type}(p)(k:K1 R):CO.A p k=al (vp.call p) λx1=>aH (x1) (k (CO.out p)) (k (CO.out 1)):=bX
theorem ayw:CO.Ok:=by intro p hp;rw[ayv,AP (d:=p) hp];simp only[ah,bn,P9,bn,Ib,tk];cases uX p <;> rfl
theorem Nu:CO.RS:=rE [.d tu] CO
def SP:=CO.eP ayw
def arA:(Int×Int)->Prop:=λ(p,k)=>nv p/\nv k
def am5:(Int×Int)->Int:=λ(p,k)=>Fy p k
def Ia:Fs Tryz.prog arA bn am5:=eK 84 Tryz.f84 (λ(p,kv)=>([.d tu p,.d tu kv],[])) (λx=>⟨.d tu x,[],[]⟩) [some tu,some tu] [SP,SN]
theorem ayt{R:Type}(p kv)(k:K1 R):Ia.A (p,kv) k=al (CO.call p) λx1=>al (xC.call (x1,(mq kv 2305843009213688669))) λx2=>k (Ia.out x2):=bX
theorem ayu:Ia.Ok:=by rintro⟨p,k⟩ ⟨hp,hk⟩;have hk:nv k:=hk;have e:=v8 (y:=2305843009213688669) hk.1;have b:nv (k%2305843009213688669):=⟨ak,ak⟩;rw[ayt,Nu (d:=p) hp,e];simp only[ah,bn,Ib];rw[Nt (d:=(tk p,k%2305843009213688669)) ⟨(aGO p).u,b⟩];rfl
theorem Z9:Ia.RS:=rE [.d tu,.d tu] Ia
def afy:=Ia.eP ayu
def ayg:Int->Prop:=λk=>nv k
def WZ:Int->Int:=λk=>fS k
def Gj:Fs Tryz.prog ayg bn WZ:=eK 38 Tryz.f38 (λkv=>([.d tu kv],[])) (λx=>⟨.d tu x,[],[]⟩) [some tu] [afy]
theorem aE9{R:Type}(kv)(k:K1 R):Gj.A kv k=al (Ia.call (4,kv)) λx1=>k (Gj.out x1):=bX
theorem aFa:Gj.Ok:=by intro k hk;rw[aE9,Z9 (d:=(4,k)) ⟨⟨ak,ak⟩,hk⟩];rfl
theorem DM:Gj.RS:=rE [.d tu] Gj
def P4:=Gj.eP aFa
def aFg:Int->Prop:=λp=>nv p
def aFf:Int->Int:=λp=>amE p
def arw:Fs Tryz.prog aFg bn aFf:=eK 253 Tryz.f253 (λp=>([.d tu p],[])) (λx=>⟨.d tu x,[],[]⟩) [some tu] [SP,SN]
theorem aKw{R:Type}(p)(k:K1 R):arw.A p k=al (CO.call p) λx1=>al (xC.call (x1,2305843009213688668)) λx2=>k (arw.out x2):=bX
theorem aKx:arw.Ok:=by intro p hp;rw[aKw,Nu (d:=p) hp];simp only[ah,bn,Ib];rw[Nt (d:=(tk p,2305843009213688668)) ⟨(aGO p).u,by constructor <;> decide⟩];rfl
theorem aFh:arw.RS:=rE [.d tu] arw
def aKy:=arw.eP aKx
abbrev afu:=Int×Bs×Int×Int
def amW:afu->Prop:=λ(o,l,n,i)=>Pn o/\(∀x∈l,nv x)/\l.length<=1000000000/\n=l.length/\∃k:Nat,k<=l.length/\i=k
def SL:afu->Int:=λ(o,l,n,i)=>(l.drop i.toNat).foldl (λo p=>oZ o (tk p)) o
def Z4:Bs->Prop:=λl=>(∀x∈l,nv x)/\l.length<=1000000000
def aN7:Bs->Int:=λl=>Wu l
def ze:Ls amW bn SL:=qz (λ(outv,t6,t7,t8)=>⟨([bB,bB,bB,.d tu outv,bB,bB,.d tU t6,.d ti t7,.d ti t8]++aQ 9 []),[],(ab 18 [])⟩) (λx=>(.exit 0,⟨([bB,bB,bB,.d tu x]++aQ 14 []),[],(ab 18 [])⟩))
def Z3:Fs Tryz.prog Z4 bn aN7:=eK 214 Tryz.f214 (λl=>([.d tU l],[])) (λx=>⟨.d tu x,[],[]⟩) [some tU] [SP,afz] {loops:=nF [(3,{aV:=[3,6,7,8]})],outs:=nE [(3,{aV:=[3]},{aV:=[2]})],fw:=nr [(3,ze.E)]}
theorem amX:ze.RS:=rL [.d tu,.d tU,.d ti,.d ti] ze
theorem P3{R:Type}(outv t6 t7 t8)(kn:K2 R)(kx:K3 R):Z3.R 0 ze (outv,t6,t7,t8) kn kx=aH ((fR t8 t7)) (aH (eg t8 (t6.length:Int)) (al (CO.call (nth tu t6 (ae t8))) λx1=>al (CP.call (outv,x1)) λx2=>kn (ze.st (x2,t6,t7,(bI .i64 t8 1)))) none) (ze.go kx outv):=bX
theorem aKs{R:Type}(l)(k:K1 R):Z3.A l k=al (ze.call (1,l,(l.length:Int),0)) λx3=>k (Z3.out x3):=bX
theorem ark:(Z3.jR 0 ze):=by
 refine(Z3.lp 0 ze) (λ(o,l,n,i)=>l.length - i.toNat) ?_
 rintro⟨o,l,n,i⟩ ⟨ho,hl,hb,rfl,k,hk,rfl⟩;have ho:Pn o:=ho;have hb:l.length<=1000000000:=hb;have hk:k<=l.length:=hk;by_cases h:k < l.length
 ·left;have hx:=hl _ (aN h);have n1:nth (.int .u64) l k=l[k]:=bW (t:= .int .u64) h;refine⟨(oZ o (tk l[k]),l,l.length,((k+1:Nat):Int)),⟨wh _ _,hl,hb,rfl,k+1,ak,rfl⟩,by simp only[aa];omega,?_,λkn kx=> ?_⟩
  ·simp only[bn,SL,aa];rw[aq h];rfl
  ·rw[P3];simp(disch:=omega) only[↓S1,↓if_pos,↓if_neg,if_pos,if_neg,bH,bq,S2,n1];rw[Nu (d:=l[k]) hx];simp only[ah,bn,Ib];rw[Nv (d:=(o,tk l[k])) ⟨ho.u,(aGO _).u⟩];rfl
 ·right;obtain rfl:k=l.length:=ak;intro R kn kx;rw[P3];simp(disch:=omega) only[↓S1,↓if_pos,↓if_neg,if_pos,if_neg,bH,bq,S2,bn,SL,aL];rfl
theorem aKt:Z3.Ok:=by rintro l ⟨hl,hb⟩;rw[aKs,amX (d:=(1,l,l.length,0)) ⟨⟨ak,ak⟩,hl,hb,rfl,0,ak,rfl⟩];rfl
theorem amY:Z3.RS:=rE [.d tU] Z3
def auJ:=Z3.eP aKt 1 ⟨.fp ark,trivial⟩
def aE7:(Int×Int)->Prop:=λ(p,q)=>nv p/\nv q
def aE6:(Int×Int)->Int:=λ(p,q)=>Wu [p,q]
def arj:Fs Tryz.prog aE7 bn aE6:=eK 181 Tryz.f181 (λ(p,q)=>([.d tu p,.d tu q],[])) (λx=>⟨.d tu x,[],[]⟩) [some tu,some tu] [auJ]
theorem aKo{R:Type}(p q)(k:K1 R):arj.A (p,q) k=al (Z3.call [p,q]) λx1=>k (arj.out x1):=bX
theorem aKp:arj.Ok:=by rintro⟨p,q⟩ ⟨hp,hq⟩;have h:Z4 [p,q]:=⟨by intro x hx;simp only[cn,List.not_mem_nil,or_false]at hx;rcases hx with rfl | rfl <;> assumption,by simp only[aA,aY];omega⟩;rw[aKo,amY h];rfl
theorem aE8:arj.RS:=rE [.d tu,.d tu] arj
def aKq:=arj.eP aKp
def Qn(x:Int):Prop:=0<=x/\x < 2305843009213688669
theorem Qn.u{x:Int}(h:Qn x):nv x:=⟨h.1,by have:=h.2;omega⟩
def aES(a:Int):Int:=a%2305843009213688669
theorem air(a:Int):Qn (aES a):=⟨kr _ ak,jT _ ak⟩
def ao7(a b:Int):Int:=(aES a+aES b)%2305843009213688669
def aim(a b:Int):Int:=aES a*aES b%2305843009213688669
def Pd(h:List Int):Int:=h.foldl (λn b=>(n*256+b)%2305843009213688668) 0+1
def aAM.b(n:Int):Prop:=0<=n/\n < 2305843009213688668
theorem alJ(h:List Int)(n:Int)(hn:aAM.b n):aAM.b (h.foldl (λn b=>(n*256+b)%2305843009213688668) n):=by
 induction h generalizing n with
 |nil=>exact hn
 |cons p l ih=>exact ih _ ⟨kr _ ak,jT _ ak⟩
theorem Yz(h:List Int):0 < Pd h/\Pd h < 2305843009213688669:=by have:=alJ h 0 ⟨ak,ak⟩;have h1:=this.1;have h2:=this.2;unfold Pd;omega
theorem att(a b:Int):Qn (ao7 a b):=⟨kr _ ak,jT _ ak⟩
theorem aJ8(a b:Int):Qn (aim a b):=⟨kr _ ak,jT _ ak⟩
def aqo:Int->Prop:=λ_=>True
def Pc:Int->Bool:=λa=>fR a 2305843009213688669
def EX:Fs Tryz.prog aqo bn Pc:=eK 86 Tryz.f86 (λa=>([.d tu a],[])) (λx=>⟨.d .bool x,[],[]⟩) [some tu]
theorem awY{R:Type}(a)(k:K1 R):EX.A a k=k (EX.out (fR a 2305843009213688669)):=bX
theorem awZ:EX.Ok:=by intro a _;rw[awY];rfl
theorem MQ:EX.RS:=rE [.d tu] EX
def Sd:=EX.eP awZ
def aJg:Int->Prop:=λa=>nv a
def aDj:Int->Int:=λa=>aES a
def aHP:Fs Tryz.prog aJg bn aDj:=eK 215 Tryz.f215 (λa=>([.d tu a],[])) (λx=>⟨.d tu x,[],[]⟩) [some tu]
theorem aM8{R:Type}(a)(k:K1 R):aHP.A a k=k (aHP.out (mq a 2305843009213688669)):=bX
theorem aM9:aHP.Ok:=by intro a ha;rw[aM8,v8 ha.1];rfl
theorem WD:aHP.RS:=rE [.d tu] aHP
def aDk:=aHP.eP aM9
def awW:(Int×Int)->Prop:=λ(a,b)=>Qn a/\Qn b
def aJh:(Int×Int)->Int:=λ(a,b)=>(a+b)%2305843009213688669
def Yy:Fs Tryz.prog awW bn aJh:=eK 216 Tryz.f216 (λ(a,b)=>([.d tu a,.d tu b],[])) (λx=>⟨.d tu x,[],[]⟩) [some tu,some tu]
theorem aDl{R:Type}(a b)(k:K1 R):Yy.A (a,b) k=k (Yy.out (mq (bI .u64 a b) 2305843009213688669)):=bX
theorem aDm:Yy.Ok:=by
 rintro⟨a,b⟩ ⟨ha,hb⟩;have ha:Qn a:=ha;have hb:Qn b:=hb;obtain⟨h1,h2⟩:=ha;obtain⟨h3,h4⟩:=hb;have e:bI .u64 a b=a+b:=by rw[tX];omega
 rw[aDl,e,v8 ak];rfl
theorem awX:Yy.RS:=rE [.d tu,.d tu] Yy
def aDn:=Yy.eP aDm
def aqp:(Int×Int)->Prop:=λ(a,b)=>Qn a/\Qn b
def aDo:(Int×Int)->Int:=λ(a,b)=>a*b%2305843009213688669
def MR:Fs Tryz.prog aqp bn aDo:=eK 217 Tryz.f217 (λ(a,b)=>([.d tu a,.d tu b],[])) (λx=>⟨.d tu x,[],[]⟩) [some tu,some tu] [amz,aaG]
theorem aw0{R:Type}(a b)(k:K1 R):MR.A (a,b) k=al (PS.call (a,b)) λx1=>al (Qh.call (x1.1,x1.2,2305843009213688669)) λx2=>k (MR.out x2):=bX
theorem aw1:MR.Ok:=by rintro⟨a,b⟩ ⟨ha,hb⟩;have ha:Qn a:=ha;have hb:Qn b:=hb;obtain⟨m1,m2⟩:=SK ha.1 (show a<=18446744073709551615 by have:=ha.2;omega) hb.1 (show b<=18446744073709551615 by have:=hb.2;omega);have n:(18446744073709551615:Int)*18446744073709551615=340282366920938463426481119284349108225:=rfl;rw[n]at m2;have p:SZ (a*b / 18446744073709551616,a*b%18446744073709551616,2305843009213688669):=⟨eZ (lA rfl),ak,ak,ak,ak⟩;rw[aw0,afg (d:=(a,b)) ⟨ha.u,hb.u⟩];simp only[ah,bn,WW];rw[S0 p];simp only[ah,bn,Qi,abZ];rfl
theorem aqq:MR.RS:=rE [.d tu,.d tu] MR
def aw2:=MR.eP aw1
def aC8:(Int×Int)->Prop:=λ(a,b)=>nv a/\nv b
def aM7:(Int×Int)->Int:=λ(a,b)=>ao7 a b
def aqj:Fs Tryz.prog aC8 bn aM7:=eK 182 Tryz.f182 (λ(a,b)=>([.d tu a,.d tu b],[])) (λx=>⟨.d tu x,[],[]⟩) [some tu,some tu] [aDk,aDn]
theorem aI9{R:Type}(a b)(k:K1 R):aqj.A (a,b) k=al (aHP.call a) λx1=>al (aHP.call b) λx2=>al (Yy.call (x1,x2)) λx3=>k (aqj.out x3):=bX
theorem aJa:aqj.Ok:=by rintro⟨a,b⟩ ⟨ha,hb⟩;rw[aI9,WD (d:=a) ha,WD (d:=b) hb];simp only[ah,bn,aDj];rw[awX (d:=(aES a,aES b)) ⟨air a,air b⟩];rfl
theorem aC9:aqj.RS:=rE [.d tu,.d tu] aqj
def aJb:=aqj.eP aJa
def aDh:(Int×Int)->Prop:=λ(a,b)=>nv a/\nv b
def aDg:(Int×Int)->Int:=λ(a,b)=>aim a b
def aqn:Fs Tryz.prog aDh bn aDg:=eK 183 Tryz.f183 (λ(a,b)=>([.d tu a,.d tu b],[])) (λx=>⟨.d tu x,[],[]⟩) [some tu,some tu] [aDk,aw2]
theorem aJd{R:Type}(a b)(k:K1 R):aqn.A (a,b) k=al (aHP.call a) λx1=>al (aHP.call b) λx2=>al (MR.call (x1,x2)) λx3=>k (aqn.out x3):=bX
theorem aJe:aqn.Ok:=by rintro⟨a,b⟩ ⟨ha,hb⟩;rw[aJd,WD (d:=a) ha,WD (d:=b) hb];simp only[ah,bn,aDj];rw[aqq (d:=(aES a,aES b)) ⟨air a,air b⟩];rfl
theorem aDi:aqn.RS:=rE [.d tu,.d tu] aqn
def aJf:=aqn.eP aJe
def ahA:(Int×Bs×Int)->Prop:=λ(n,h,i)=>aAM.b n/\h.length=32/\Bytes h/\∃k:Nat,k<=32/\i=k
def EV:(Int×Bs×Int)->Int:=λ(n,h,i)=>(h.drop i.toNat).foldl (λn b=>(n*256+b)%2305843009213688668) n
def awR:Bs->Prop:=λh=>h.length=32/\Bytes h
def ahz:Bs->Int:=λh=>Pd h
def tS:Ls ahA bn EV:=qz (λ(n,t6,t7)=>⟨([bB,bB,bB,.d tu n,bB,bB,.d tH t6,.d ti t7]++aQ 13 []),[],(ab 21 [])⟩) (λx=>(.exit 0,⟨([bB,bB,bB,.d tu x]++aQ 17 []),[],(ab 21 [])⟩))
def Hy:Fs Tryz.prog awR bn ahz:=eK 135 Tryz.f135 (λh=>([.d tH h],[])) (λx=>⟨.d tu x,[],[]⟩) [some tH] [aaG] {loops:=nF [(3,{aV:=[3,6,7]})],outs:=nE [(3,{aV:=[3]},{aV:=[2]})],fw:=nr [(3,tS.E)]}
theorem ahB:tS.RS:=rL [.d tu,.d tB,.d ti] tS
theorem KT{R:Type}(n t6 t7)(kn:K2 R)(kx:K3 R):Hy.R 0 tS (n,t6,t7) kn kx=aH ((fR t7 32)) (aH (eg t7 32) (al (Qh.call ((ct .u64 n 56),(cF .or .u64 (l7 .u64 n 8) (dV .u64 (nth tb t6 (ae t7)))),2305843009213688668)) λx1=>kn (tS.st (x1,t6,(bI .i64 t7 1)))) none) (tS.go kx n):=bX
theorem aDb{R:Type}(h)(k:K1 R):Hy.A h k=al (tS.call (0,h,0)) λx2=>k (Hy.out (bI .u64 x2 1)):=bX
theorem Um{n b:Int}(hn:aAM.b n)(hb:ago b):ct .u64 n 56*18446744073709551616+cF .or .u64 (l7 .u64 n 8) (dV .u64 b)=n*256+b/\nv (ct .u64 n 56)/\nv (cF .or .u64 (l7 .u64 n 8) (dV .u64 b)):=by
 obtain⟨h1,h2⟩:=hn;obtain⟨h3,h4⟩:=hb;have p56:(2:Int)^56=72057594037927936:=rfl;have p8:(2:Int)^8=256:=rfl;have e:dV .u64 b=b:=by rw[aDO];omega
 rw[wF 56 (by rfl) ak,wE 8 (by rfl) ak,p56,p8,e,PX 8 256 rfl ak ak ak ak ak ak];exact⟨ak,⟨ak,ak⟩,ak,ak⟩
theorem alD:(Hy.jR 0 tS):=by
 refine(Hy.lp 0 tS) (λ(n,h,i)=>32 - i.toNat) ?_
 rintro⟨n,h,i⟩ ⟨hn,hl,hb,k,hk,rfl⟩;have hn:aAM.b n:=hn;have hl:h.length=32:=hl;have hb:Bytes h:=hb;by_cases gB:k < 32
 ·left;have hx:ago (h[k]'(ak)):=hb _ (aN _);have n1:nth (.int .u8) h k=h[k]'(ak):=bW (t:= .int .u8) ak;obtain⟨d1,d2,d3⟩:=Um hn hx;refine⟨((n*256+h[k]'(ak))%2305843009213688668,h,((k+1:Nat):Int)),⟨⟨ak,ak⟩,hl,hb,k+1,ak,rfl⟩,by simp only[aa];omega,?_,λkn kx=> ?_⟩
  ·simp only[bn,EV,aa];rw[aq (by omega:k < h.length)];rfl
  ·rw[KT];simp(disch:=omega) only[↓S1,↓if_pos,↓if_neg,if_pos,if_neg,bH,bq,S2,n1];rw[S0 (d:=(_,_,2305843009213688668)) ⟨eZ (eZ rfl),d2.1,d2.2,d3.1,d3.2⟩];simp only[ah,bn,Qi,d1]
 ·right;obtain rfl:k=32:=ak;intro R kn kx;rw[KT];simp(disch:=omega) only[↓S1,↓if_pos,↓if_neg,if_pos,if_neg,bH,bq,S2,bn,EV];rw[dx ak];rfl
theorem aDc:Hy.Ok:=by
 rintro h ⟨hl,hb⟩;have e:=alJ h 0 ⟨ak,ak⟩;have h1:=e.1;have h2:=e.2;rw[aDb,ahB (d:=(0,h,0)) ⟨⟨ak,ak⟩,hl,hb,0,ak,rfl⟩];simp only[ah,bn,EV,bn,ahz,Pd,aZ,aG]
 revert h1 h2
 generalize h.foldl (λn b=>(n*256+b)%2305843009213688668) 0=m;intro h1 h2;have e:bI .u64 m 1=m+1:=by rw[tX];omega
 rw[e]
theorem aeO:Hy.RS:=rE [.d tB] Hy
def alE:=Hy.eP aDc 1 ⟨.fp alD,trivial⟩
theorem akk(n:Int): [dV .u8 (ct .u64 n 56),dV .u8 (ct .u64 n 48),dV .u8 (ct .u64 n 40),dV .u8 (ct .u64 n 32),dV .u8 (ct .u64 n 24),dV .u8 (ct .u64 n 16),dV .u8 (ct .u64 n 8),dV .u8 (ct .u64 n 0)]=iZ n:=apk n
theorem eR{α:Type}{l:List α}{n:Nat}(h:l.length=n):cut l 0 n=l:=by subst h;simp[cut]
theorem aGN{n:ByteArray}{a b c:List Int}(hn:n.size<=100)(ha:a.length<=1000000)(hb:b.length<=1000000)(hc:c.length<=1000000):Ps (n,[a,b,c]):=by show(Tx _ [a,b,c]).length<=_;rw[Tx];simp only[oo,dj,pK,ai,b8,kK,aY];omega
theorem aGM{n:ByteArray}{a b:List Int}(hn:n.size<=100)(ha:a.length<=1000000)(hb:b.length<=1000000):Ps (n,[a,b]):=by show(Tx _ [a,b]).length<=_;rw[Tx];simp only[oo,dj,pK,ai,b8,kK,aY];omega
theorem QR{n:ByteArray}{a:List Int}(hn:n.size<=100)(ha:a.length<=1000000):Ps (n,[a]):=by show(Tx _ [a]).length<=_;rw[Tx];simp only[oo,dj,pK,ai,b8,kK,aY];omega
def Sm(m:List Int):Prop:=m.length=32/\Bytes m
theorem aOm(b:List Int):Sm (aOh b):=⟨asv b,av7 b⟩
theorem aja(n:List Int)(ps:List (List Int)):Sm (tag n ps):=aOm _
def aGL(n:ByteArray)(ps:List (List Int)):List Int:=tag (bG n) ps
def aQx:ByteArray:=⟨#[115,105,103]⟩
def aq8:ByteArray:=⟨#[110,111,110,99,101]⟩
def Ga(r p:Int)(m:List Int):Int:=Pd (aGL aQx [iZ r,iZ p,m])
theorem XM(r p:Int)(m:List Int):Qn (Ga r p m):=by have:=Yz (aGL aQx [iZ r,iZ p,m]);exact⟨by unfold Ga;omega,by unfold Ga;omega⟩
def aMo(s:Sg):Prop:=nv s.1/\nv s.2.1
def Aa(p:Int)(m:List Int)(t:Int)(s:Sg):Bool:=if p=1\/uX p=false\/uX t=false\/uX s.1=false\/¬s.2.1 < 2305843009213688669 then false else decide (fS s.2.1=Wu [s.1,Fy p (Ga s.1 p m),amE t])
def agx(k nonce:Int)(m:List Int)(t:Int):Sg:=(Wu [fS nonce,t],ao7 nonce (aim (Ga (Wu [fS nonce,t]) (fS k) m) k),())
def aEQ(k:Int)(m:List Int):Int:=Pd (aGL aq8 [iZ k,m])
def mh(k:Int)(m:List Int):Sg:=if k < 2305843009213688669/\k≠0 then agx k (aEQ k m) m 1 else(0,0,())
def aqf:Int->Prop:=λ_=>True
def Yq:Int->Bs:=λn=>iZ n
def ET:Fs Tryz.prog aqf bn Yq:=eK 136 Tryz.f136 (λn=>([.d tu n],[])) (λx=>⟨.d tB x,[],[]⟩) [some tu] [] {loops:=nF [(3,{aV:=[0,3,7,8],sites:=[5]})],outs:=nE [(3,{aV:=[3],sites:=[5]},{aV:=[2],sites:=[5]})],res:=[some tB]} 12
theorem awN{R:Type}(n)(k:K1 R):ET.A n k=k (ET.out [(dV .u8 (ct .u64 n 56)),(dV .u8 (ct .u64 n 48)),(dV .u8 (ct .u64 n 40)),(dV .u8 (ct .u64 n 32)),(dV .u8 (ct .u64 n 24)),(dV .u8 (ct .u64 n 16)),(dV .u8 (ct .u64 n 8)),(dV .u8 (ct .u64 n 0))]):=bX
theorem awO:ET.Ok:=by intro n _;rw[awN,akk];rfl
theorem MJ:ET.RS:=rE [.d tu] ET
def aeL:=ET.eP awO 1 ⟨.none bX,trivial⟩
def awf:(Int×Int×Bs)->Prop:=λ(r,p,m)=>Sm m
def agR:(Int×Int×Bs)->Int:=λ(r,p,m)=>Ga r p m
def T5:Fs Tryz.prog awf bn agR:=eK 184 Tryz.f184 (λ(r,p,m)=>([.d tu r,.d tu p,.d tH m],[])) (λx=>⟨.d tu x,[],[]⟩) [some tu,some tu,some tH] [aeL,WL,alE]
theorem aBU{R:Type}(r p m)(k:K1 R):T5.A (r,p,m) k=al (ET.call r) λx1=>al (ET.call p) λx2=>al (Sk.call ((⟨#[115,105,103]⟩:ByteArray),[x1,x2,(cut m 0 32)])) λx3=>al (Hy.call x3) λx4=>k (T5.out x4):=bX
theorem aBV:T5.Ok:=by rintro⟨r,p,m⟩ hm;have hm:Sm m:=hm;rw[aBU,MJ (d:=r) trivial,MJ (d:=p) trivial];simp only[ah,bn,Yq];rw[eR hm.1,Pt (aGN (by decide) (by rw[b8];omega) (by rw[b8];omega) (by rw[hm.1];omega))];simp only[ah,bn,ahT];rw[aeO (d:=tag (bG (⟨#[115,105,103]⟩:ByteArray)) [iZ r,iZ p,m]) (aja _ _)];rfl
theorem aeq:T5.RS:=rE [.d tu,.d tu,.d tB] T5
def akL:=T5.eP aBV
abbrev afW:=Int×Bs×Int×Sg
def anW:afW->Prop:=λ(p,m,t,s)=>nv p/\Sm m/\nv t/\aMo s
def afX:afW->Bool:=λ(p,m,t,s)=>Aa p m t s
def rK:Fs Tryz.prog anW bn afX:=eK 250 Tryz.f250 (λ(p,m,t,pre)=>([.d tu p,.d tH m,.d tu t,.d zQ pre],[])) (λx=>⟨.d .bool x,[],[]⟩) [some tu,some tH,some tu,some zQ] [SO,Sd,akL,afy,aKy,auJ,P4]
theorem asq{R:Type}(p m t pre)(k:K1 R):rK.A (p,m,t,pre) k=aH ((qQ p 1)) (k (rK.out false)) (al (vp.call p) λx1=>aH ((!x1)) (k (rK.out false)) (al (vp.call t) λx2=>aH ((!x2)) (k (rK.out false)) (al (vp.call pre.1) λx3=>aH ((!x3)) (k (rK.out false)) (al (EX.call pre.2.1) λx4=>aH ((!x4)) (k (rK.out false)) (al (T5.call (pre.1,p,m)) λx5=>al (Ia.call (p,x5)) λx6=>al (arw.call t) λx7=>al (Z3.call [pre.1,x6,x7]) λx8=>al (Gj.call pre.2.1) λx9=>k (rK.out (qQ x9 x8))))))):=bX
theorem asr:rK.Ok:=by
 rintro⟨p,m,t,s⟩ ⟨hp,hm,ht,hs⟩;have hp:nv p:=hp;have ht:nv t:=ht;have hm:Sm m:=hm;have hs:aMo s:=hs;rw[asq,AP (d:=p) hp,AP (d:=t) ht,AP (d:=s.1) hs.1,MQ (d:=s.2.1) trivial];simp only[ah,bn,P9,bn,Pc,bn,afX,Aa];by_cases h1:p=1
 ·rw[dp h1,aj,if_pos (lA h1)]
 rw[eO h1,ao];cases h2:uX p
 ·rw[if_pos (eZ (lA rfl))];rfl
 cases h3:uX t
 ·rw[if_pos (eZ (eZ (lA rfl)))];rfl
 cases h4:uX s.1
 ·rw[if_pos (eZ (eZ (eZ (lA rfl))))];rfl
 by_cases h5:s.2.1 < 2305843009213688669
 ·rw[aU h5,if_neg (by simp[h1,h5])];have hq:=XM s.1 p m;rw[aeq (d:=(s.1,p,m)) hm];simp only[cz,ao,ah,bn,agR];rw[Z9 (d:=(p,Ga s.1 p m)) ⟨hp,hq.u⟩,aFh (d:=t) ht];simp only[ah,bn,am5,bn,aFf];have q:Z4 [s.1,Fy p (Ga s.1 p m),amE t]:=⟨by
   intro x hx;simp only[cn,List.not_mem_nil,or_false]at hx;rcases hx with rfl | rfl | rfl
   ·exact hs.1
   ·exact(am8 _ _).u
   ·exact(am8 _ _).u,by simp only[aA,aY];omega⟩
  rw[amY q,DM (d:=s.2.1) hs.2];rfl
 ·rw[aP h5,if_pos (eZ (eZ (eZ (eZ h5))))];rfl
theorem anX:rK.RS:=rE [.d tu,.d tB,.d tu,.d zQ] rK
def ass:=rK.eP asr
def aok:(Int×Bs×Sg)->Prop:=λ(p,m,s)=>nv p/\Sm m/\aMo s
def af4:(Int×Bs×Sg)->Bool:=λ(p,m,s)=>Aa p m 1 s
def FE:Fs Tryz.prog aok bn af4:=eK 244 Tryz.f244 (λ(p,m,sv)=>([.d tu p,.d tH m,.d zQ sv],[])) (λx=>⟨.d .bool x,[],[]⟩) [some tu,some tH,some zQ] [ass]
theorem asL{R:Type}(p m sv)(k:K1 R):FE.A (p,m,sv) k=al (rK.call (p,m,1,sv)) λx1=>k (FE.out x1):=bX
theorem asM:FE.Ok:=by rintro⟨p,m,s⟩ ⟨hp,hm,hs⟩;rw[asL,anX (d:=(p,m,1,s)) ⟨hp,hm,⟨ak,ak⟩,hs⟩];rfl
theorem aol:FE.RS:=rE [.d tu,.d tB,.d zQ] FE
def asN:=FE.eP asM
def aGr:Int->Prop:=λ_=>True
def asy:Int->Bool:=λk=>decide (k < 2305843009213688669/\k≠0)
def an8:Fs Tryz.prog aGr bn asy:=eK 133 Tryz.f133 (λkv=>([.d tu kv],[])) (λx=>⟨.d .bool x,[],[]⟩) [some tu] [Sd]
theorem aK5{R:Type}(kv)(k:K1 R):an8.A kv k=al (EX.call kv) λx1=>aH (x1) (k (an8.out (BT kv 0))) (k (an8.out false)):=bX
theorem aK6:an8.Ok:=by
 intro k _;rw[aK5,MQ (d:=k) trivial];simp only[ah,bn,Pc,bn,asy];by_cases h:k < 2305843009213688669
 ·rw[aU h,aj];by_cases h0:k=0
  ·rw[dA h0,aT (λx=>x.2 h0)]
  ·rw[fe h0,aI ⟨h,h0⟩]
 ·rw[aP h,ao,aT (λx=>h x.1)]
theorem aGs:an8.RS:=rE [.d tu] an8
def aK7:=an8.eP aK6
abbrev afV:=Int×Int×Bs×Int
def anU:afV->Prop:=λ(k,n,m,t)=>nv k/\nv n/\Sm m/\nv t
def azq:afV->Sg:=λ(k,n,m,t)=>agx k n m t
def Fx:Fs Tryz.prog anU bn azq:=eK 134 Tryz.f134 (λ(kv,nonce,m,t)=>([.d tu kv,.d tu nonce,.d tH m,.d tu t],[])) (λx=>⟨.d zQ x,[],[]⟩) [some tu,some tu,some tH,some tu] [P4,aKq,akL,aJf,aJb]
theorem asn{R:Type}(kv nonce m t)(k:K1 R):Fx.A (kv,nonce,m,t) k=al (Gj.call nonce) λx1=>al (arj.call (x1,t)) λx2=>al (Gj.call kv) λx3=>al (T5.call (x2,x3,m)) λx4=>al (aqn.call (x4,kv)) λx5=>al (aqj.call (nonce,x5)) λx6=>k (Fx.out (x2,(x6,()))):=bX
theorem aso:Fx.Ok:=by rintro⟨k,n,m,t⟩ ⟨hk,hn,hm,ht⟩;have hk:nv k:=hk;have hn:nv n:=hn;have hm:Sm m:=hm;have ht:nv t:=ht;rw[asn,DM (d:=n) hn];simp only[ah,bn,WZ];rw[aE8 (d:=(fS n,t)) ⟨(am8 _ _).u,ht⟩,DM (d:=k) hk];simp only[ah,bn,WZ,bn,aE6];rw[aeq (d:=(Wu [fS n,t],fS k,m)) hm];simp only[ah,bn,agR];rw[aDi (d:=(Ga (Wu [fS n,t]) (fS k) m,k)) ⟨(XM _ _ _).u,hk⟩];simp only[ah,bn,aDg];rw[aC9 (d:=(n,aim (Ga (Wu [fS n,t]) (fS k) m) k)) ⟨hn,(aJ8 _ _).u⟩];rfl
theorem anV:Fx.RS:=rE [.d tu,.d tu,.d tB,.d tu] Fx
def asp:=Fx.eP aso
def azD:(Int×Bs)->Prop:=λ(k,m)=>nv k/\Sm m
def ajd:(Int×Bs)->Sg:=λ(k,m)=>mh k m
def Vy:Fs Tryz.prog azD bn ajd:=eK 89 Tryz.f89 (λ(kv,m)=>([.d tu kv,.d tH m],[])) (λx=>⟨.d zQ x,[],[]⟩) [some tu,some tH] [aK7,aeL,WL,alE,asp]
theorem aGC{R:Type}(kv m)(k:K1 R):Vy.A (kv,m) k=al (an8.call kv) λx1=>aH ((!x1)) (k (Vy.out (0,(0,())))) (al (ET.call kv) λx2=>al (Sk.call ((⟨#[110,111,110,99,101]⟩:ByteArray),[x2,(cut m 0 32)])) λx3=>al (Hy.call x3) λx4=>al (Fx.call (kv,x4,m,1)) λx5=>k (Vy.out x5)):=bX
theorem aGD:Vy.Ok:=by
 rintro⟨k,m⟩ ⟨hk,hm⟩;have hk:nv k:=hk;have hm:Sm m:=hm;rw[aGC,aGs (d:=k) trivial];simp only[ah,bn,asy,bn,ajd,mh];by_cases h:k < 2305843009213688669/\k≠0
 ·rw[aI h,if_pos h,MJ (d:=k) trivial,eR hm.1];simp only[cz,ao,ah,bn,Yq];rw[Pt (aGM (by decide) (by rw[b8];omega) (by rw[hm.1];omega))];simp only[ah,bn,ahT];rw[aeO (d:=tag (bG (⟨#[110,111,110,99,101]⟩:ByteArray)) [iZ k,m]) (aja _ _)];simp only[ah,bn,ahz];have q:=Yz (tag (bG (⟨#[110,111,110,99,101]⟩:ByteArray)) [iZ k,m]);rw[anV (d:=(k,Pd (tag (bG (⟨#[110,111,110,99,101]⟩:ByteArray)) [iZ k,m]),m,1)) ⟨hk,⟨ak,ak⟩,hm,ak,ak⟩];rfl
 ·rw[aT h,if_neg h];rfl
theorem azE:Vy.RS:=rE [.d tu,.d tB] Vy
def aGE:=Vy.eP aGD
def F1(l:List Int):Prop:=∀x∈l,nv x
def aAK(b:nV):Prop:=F1 b.1/\nv b.2.2.2.1
def acx(l:Lk):Prop:=∀b∈l.1,aAK b
def MW(n:Int):Bool:=decide (0<=n/\n<=1048576)
def uR(b:nV):Bool:=decide (b.1.length<=12) && (b.1.all uX && (MW b.2.1 && (MW b.2.2.1 && (decide (b.2.2.2.1=0) || uX b.2.2.2.1))))
def kq(l:Lk):Bool:=l.1.all uR && decide (0 < l.1.length/\l.1.length<=4)
def xU:List Int->Int->Int⊕Unit
 |[],_=> .inr ()
 |p::ps,i=>if uX p then xU ps (i+1) else .inl i
def atv(l:List Int):Int:=match xU l 0 with | .inl i=>i | .inr _=> -1
theorem TN:∀(l:List Int) (i:Int),0<=i->(match xU l i with | .inl i=>decide (i>=0) | .inr _=>false)= !(l.all uX)
 |[],_,_=>rfl
 |p::ps,i,h=>by
  rw[xU,iM];cases hp:uX p
  ·simp[h]
  ·simp only[bH,bO];exact TN ps (i+1) ak
theorem avt(l:List Int):BS (atv l) 0= !(l.all uX):=by
 have:=TN l 0 ak;unfold atv BS;cases h:xU l 0
 ·rw[h]at this;exact this
 ·rw[h]at this;rw[<-this];rfl
def aEc:Int->Prop:=λp=>nv p
def ah4:Int->Bool:=λp=> !uX p
def amh:Fs Tryz.prog aEc bn ah4:=eK 141 Tryz.f141 (λp=>([.d tu p],[])) (λx=>⟨.d .bool x,[],[]⟩) [some tu] [SO]
theorem aJU{R:Type}(p)(k:K1 R):amh.A p k=al (vp.call p) λx1=>k (amh.out (!x1)):=bX
theorem aJV:amh.Ok:=by intro p hp;rw[aJU,AP (d:=p) hp];rfl
theorem Y5:amh.RS:=rE [.d tu] amh
def auo:=amh.eP aJV
abbrev xg:=Bs×Int×Int
def qd:xg->AS:=λ(lP,t7,t8)=>⟨([.d tU lP,.fn 141 (.nil)]++aQ 5 ([.d ti t7,.d ti t8]++aQ 10 [])),[],(ab 19 [])⟩
def wk:Int->Exit×AS:=λx=>(.ret,⟨(aQ 4 ([.d ti x]++aQ 14 [])),[],(ab 19 [])⟩)
def wm:Unit->Exit×AS:=λx=>(.exit 0,⟨(aQ 19 []),[],(ab 19 [])⟩)
abbrev H7:=(Int)⊕(Unit)
abbrev U9:=(Int)⊕(Unit)
def CN:H7->Out (Exit×AS):=λx=> .br x.isLeft (.get x.getLeft? λa=> .ok (wk a)) (.get x.getRight? λb=> .ok (wm b))
def jz:xg->U9->H7:=λ(lP,t7,t8) y=>match y with | .inl y=> .inl y | .inr z=> .inr (z)
def wj:xg->Prop:=λ(l,n,i)=>F1 l/\l.length<=1000000000/\n=l.length/\∃k:Nat,k<=l.length/\i=k
def mF:xg->U9:=λ(l,n,i)=>xU (l.drop i.toNat) i
def aru:Bs->Prop:=λl=>F1 l/\l.length<=1000000000
def Z8:Bs->Int:=λl=>atv l
def U7:=dC.fp qd wj jz mF CN
def H8:xg->Option H7:=gS U7 qd
def xB:Fs Tryz.prog aru bn Z8:=eK 186 Tryz.f186 (λsv=>([.d tU sv,.fn 141 (.nil)],[])) (λx=>⟨.d ti x,[],[]⟩) [some tU,none] [auo] {loops:=nF [(2,{aV:=[0,1,7,8]})],outs:=nE [(2,{},{aV:=[4]})],fw:=nr [(2,U7)]}
def U8:= @eG Tryz.prog (kj xB.G) xB.an 0 Tryz.f186 0 _ qd
abbrev P6:=lz Tryz.prog (kj xB.G) xB.an 0 Tryz.f186 0 qd wj jz mF CN
theorem ac9:jf H8 wj jz mF:=nf (jM [.d tU,.d ti,.d ti] λ_=>bX)
theorem Nr:om @U8 qd wj jz mF CN P6:=oE
theorem AO{R:Type}(lP:Bs)(t7:Int)(t8:Int)(kn:AS->Option R)(kx:Exit->AS->Option R):U8 (lP,t7,t8) kn kx=aH ((fR t8 t7)) (aH (eg t8 (((ag lP):Nat):Int)) (al (amh.call (nth tu lP (ae t8))) λx1=>aH (x1) (kx (wk t8).1 (wk t8).2) (kn (qd (lP,t7,(bI .i64 t8 (1:Int)))))) none) (kx (wm ()).1 (wm ()).2):=bX
theorem ayl{R:Type}(sv)(k:K1 R):xB.A sv k=al (H8 (sv,(sv.length:Int),0)) λx2=>aH (x2.isLeft) (al (x2.getLeft?) λa3=>k (xB.out a3)) (al (x2.getRight?) λb4=>k (xB.out (-1))):=bX
theorem aiC:P6:=by
 refine Nr (λ(l,n,i)=>l.length - i.toNat) ?_
 rintro⟨l,n,i⟩ ⟨hl,hb,rfl,k,hk,rfl⟩;have hb:l.length<=1000000000:=hb;have hk:k<=l.length:=hk;by_cases h:k < l.length
 ·have hx:=hl _ (aN h);have n1:nth (.int .u64) l k=l[k]:=bW (t:= .int .u64) h;have hd:xU (l.drop k) k=if uX l[k] then xU (l.drop (k+1)) ((k+1:Nat):Int) else .inl (k:Int):=by rw[aq h];rfl
  cases hp:uX l[k]
  ·right;refine⟨wk (k:Int),?_,λkn kx=> ?_⟩
   ·simp only[jz,mF,aa,hd,hp,bF,bq];rfl
   ·rw[AO];simp(disch:=omega) only[↓S1,↓if_pos,↓if_neg,if_pos,if_neg,bH,bq,S2,n1];rw[Y5 (d:=l[k]) hx];simp only[ah,bn,ah4,hp,eV,aj]
  ·left;refine⟨(l,l.length,((k+1:Nat):Int)),⟨hl,hb,rfl,k+1,ak,rfl⟩,by simp only[aa];omega,?_,λkn kx=> ?_⟩
   ·simp only[jz,mF,aa,hd,hp,bH]
   ·rw[AO];simp(disch:=omega) only[↓S1,↓if_pos,↓if_neg,if_pos,if_neg,bH,bq,S2,n1];rw[Y5 (d:=l[k]) hx];simp only[ah,bn,ah4,hp,cz,ao]
 ·right;obtain rfl:k=l.length:=ak;refine⟨wm (),?_,λkn kx=> ?_⟩
  ·simp only[jz,mF,aa,aL];rfl
  ·rw[AO];simp(disch:=omega) only[↓S1,↓if_pos,↓if_neg,if_pos,if_neg,bH,bq,S2]
theorem aym:xB.Ok:=by rintro l ⟨hl,hb⟩;rw[ayl,ac9 (d:=(l,l.length,0)) ⟨hl,hb,rfl,0,ak,rfl⟩];simp only[ah,jz,mF,aZ,aG,bn,Z8,atv];cases xU l 0 <;> rfl
theorem arv:xB.RS:=rE [.d tU] xB
def ayn:=xB.eP aym 1 ⟨.fp aiC,trivial⟩
def ac7:Bs->Prop:=λl=>F1 l/\l.length<=1000000000
def U4:Bs->Bool:=λl=> !(l.all uX)
def vm:Fs Tryz.prog ac7 bn U4:=eK 143 Tryz.f143 (λsv=>([.d tU sv,.fn 141 (.nil)],[])) (λx=>⟨.d .bool x,[],[]⟩) [some tU,none] [ayn]
theorem aiz{R:Type}(sv)(k:K1 R):vm.A sv k=al (xB.call sv) λx1=>k (vm.out (BS x1 0)):=bX
theorem aiA:vm.Ok:=by rintro l ⟨hl,hb⟩;rw[aiz,arv (d:=l) ⟨hl,hb⟩];simp only[ah,bn,Z8,avt];rfl
theorem ac8:vm.RS:=rE [.d tU] vm
def aiB:=vm.eP aiA
def ami:Int->Prop:=λ_=>True
def SD:Int->Bool:=λn=>MW n
def yV:Fs Tryz.prog ami bn SD:=eK 144 Tryz.f144 (λn=>([.d ti n],[])) (λx=>⟨.d .bool x,[],[]⟩) [some ti]
theorem aqU{R:Type}(n)(k:K1 R):yV.A n k=aH ((BS n 0)) (k (yV.out (ajU n 1048576))) (k (yV.out false)):=bX
theorem aqV:yV.Ok:=by
 intro n _;rw[aqU];simp only[bn,SD,MW];by_cases h:0<=n
 ·rw[fY h,aj];by_cases h2:n<=1048576
  ·rw[oS h2,aI ⟨h,h2⟩]
  ·rw[l5 h2,aT (λx=>h2 x.2)]
 ·rw[eA h,ao,aT (λx=>h x.1)]
theorem UC:yV.RS:=rE [.d ti] yV
def aqW:=yV.eP aqV
abbrev xc:=Lk×(List nV)×Int×Int
def kV:xc->AS:=λ(Bo,t7,t8,t9)=>⟨([bB,.dO N0 Bo,bB,.fn 141 (.nil),bB,bB,bB,.d (.slice km) t7,.d ti t8,.d ti t9]++aQ 47 []),[],(ab 57 [])⟩
def eY:Unit->Exit×AS:=λx=>(.ret,⟨([bB,bB,.d .bool false]++aQ 54 []),[],(ab 57 [])⟩)
def wg:Lk->Exit×AS:=λx=>(.exit 0,⟨([bB,.dO N0 x]++aQ 55 []),[],(ab 57 [])⟩)
abbrev HU:=(Unit)⊕(Lk)
abbrev UH:=(Unit)⊕(Unit)
def CJ:HU->Out (Exit×AS):=λx=> .br x.isLeft (.get x.getLeft? λa=> .ok (eY a)) (.get x.getRight? λb=> .ok (wg b))
def jy:xc->UH->HU:=λ(Bo,t7,t8,t9) y=>match y with | .inl y=> .inl y | .inr z=> .inr (Bo)
def we:xc->Prop:=λ(l,bs,n,i)=>(∀b∈bs,aAK b)/\bs.length<=9223372036854775807/\n=bs.length/\∃k:Nat,k<=bs.length/\i=k
def mE:xc->UH:=λ(l,bs,n,i)=>if(bs.drop i.toNat).all uR then .inr () else .inl ()
def aqZ:Lk->Prop:=λl=>acx l/\l.1.length<=9223372036854775807
def DH:Lk->Bool:=λl=>kq l
def UG:=dC.fp kV we jy mE CJ
def HV:xc->Option HU:=gS UG kV
def oY:Fs Tryz.prog aqZ bn DH:=eK 91 Tryz.f91 (λl=>([.d N0 l],[])) (λx=>⟨.d .bool x,[],[]⟩) [some N0] [aiB,aqW,auo] {loops:=nF [(3,{aV:=[1,3,7,8,9]})],outs:=nE [(3,{aV:=[1]},{aV:=[2]})],fw:=nr [(3,UG)]}
def HT:= @eG Tryz.prog (kj oY.G) oY.an 0 Tryz.f91 0 _ kV
abbrev PM:=lz Tryz.prog (kj oY.G) oY.an 0 Tryz.f91 0 kV we jy mE CJ
theorem acX:jf HV we jy mE:=nf (jM [.d N0,.d (.slice km),.d ti,.d ti] λ_=>bX)
theorem M9:om @HT kV we jy mE CJ PM:=oE
theorem HW{R:Type}(Bo:Lk)(t7:(List nV))(t8:Int)(t9:Int)(kn:AS->Option R)(kx:Exit->AS->Option R):HT (Bo,t7,t8,t9) kn kx=aH ((fR t9 t8)) (aH (eg t9 (((ag t7):Nat):Int)) (aH ((w7 (((ag (nth km t7 (ae t9)).1):Nat):Int) (12:Int))) (kx (eY ()).1 (eY ()).2) (al (vm.call (nth km t7 (ae t9)).1) λx1=>aH (x1) (kx (eY ()).1 (eY ()).2) (al (yV.call (nth km t7 (ae t9)).2.1) λx2=>aH ((!x2)) (kx (eY ()).1 (eY ()).2) (al (yV.call (nth km t7 (ae t9)).2.2.1) λx3=>aH ((!x3)) (kx (eY ()).1 (eY ()).2) (aH ((BT (nth km t7 (ae t9)).2.2.2.1 (0:Int))) (al (amh.call (nth km t7 (ae t9)).2.2.2.1) λx4=>aH (x4) (kx (eY ()).1 (eY ()).2) (kn (kV (Bo,t7,t8,(bI .i64 t9 (1:Int)))))) (kn (kV (Bo,t7,t8,(bI .i64 t9 (1:Int)))))))))) none) (kx (wg Bo).1 (wg Bo).2):=bX
theorem axN{R:Type}(l)(k:K1 R):oY.A l k=al (HV (l,l.1,(l.1.length:Int),0)) λx5=>aH (x5.isLeft) (al (x5.getLeft?) λa6=>k (oY.out false)) (al (x5.getRight?) λb7=>aH ((w7 (b7.1.length:Int) 0)) (k (oY.out (ajU (b7.1.length:Int) 4))) (k (oY.out false))):=bX
theorem aif:PM:=by
 refine M9 (λ(l,bs,n,i)=>bs.length - i.toNat) ?_
 rintro⟨l,bs,n,i⟩ ⟨hl,hb,rfl,k,hk,rfl⟩;have hb:bs.length<=9223372036854775807:=hb;have hk:k<=bs.length:=hk;by_cases h:k < bs.length
 ·have hx:aAK bs[k]:=hl _ (aN h);have n1:nth (.pair (.slice (.int .u64)) (.pair (.int .i64) (.pair (.int .i64) (.pair (.int .u64) .unit)))) bs k=bs[k]:=bW (t:=(.pair (.slice (.int .u64)) (.pair (.int .i64) (.pair (.int .i64) (.pair (.int .u64) .unit))))) h;have hd:(bs.drop k).all uR=(uR bs[k] && (bs.drop (k+1)).all uR):=by rw[aq h,iM]
  have step:∀ {R:Type} (kn:AS->Option R) (kx:Exit->AS->Option R),HT (l,bs,(bs.length:Int),(k:Int)) kn kx=aH (uR bs[k]) (kn (kV (l,bs,(bs.length:Int),((k+1:Nat):Int)))) (kx (eY ()).1 (eY ()).2):=by
   intro R kn kx;rw[HW,aU ak,bg ak ak,aa,n1,N.mu ak];obtain⟨⟨ks,af,dl,sc,u⟩,aNd⟩:∃b,bs[k]=b:=⟨_,rfl⟩;rw[aNd]at hx ⊢;have h1:F1 ks:=hx.1;have h2:nv sc:=hx.2;simp only[aj,uR];by_cases hk:ks.length<=12
   ·rw[cG ak,ac8 (d:=ks) ⟨h1,ak⟩,UC (d:=af) trivial,UC (d:=dl) trivial,Y5 (d:=sc) h2,aI hk];simp only[ao,ah,bn,U4,bn,SD,bn,ah4,bO];cases ks.all uX
    ·rfl
    cases MW af
    ·rfl
    cases MW dl
    ·rfl
    by_cases hs:sc=0
    ·rw[dA hs,aI hs];rfl
    ·rw[fe hs,aT hs];cases uX sc <;> rfl
   ·rw[di ak,aT hk];rfl
  cases hp:uR bs[k]
  ·right;refine⟨eY (),?_,λkn kx=> ?_⟩
   ·simp only[jy,mE,aa,hd,hp,dw,bF,bq];rfl
   ·rw[step,hp,ao]
  ·left;refine⟨(l,bs,bs.length,((k+1:Nat):Int)),⟨hl,hb,rfl,k+1,ak,rfl⟩,by simp only[aa];omega,?_,λkn kx=> ?_⟩
   ·simp only[jy,mE,aa,hd,hp,bO]
   ·rw[step,hp,aj]
 ·right;obtain rfl:k=bs.length:=ak;refine⟨wg l,?_,λkn kx=> ?_⟩
  ·simp only[jy,mE,aa,aL];rfl
  ·rw[HW];simp(disch:=omega) only[↓S1,↓if_pos,↓if_neg,if_pos,if_neg,bH,bq,S2]
theorem axO:oY.Ok:=by
 rintro l ⟨hl,hb⟩;have hb:l.1.length<=9223372036854775807:=hb;rw[axN,acX (d:=(l,l.1,l.1.length,0)) ⟨hl,hb,rfl,0,ak,rfl⟩];simp only[ah,jy,mE,aZ,aG,bn,DH,kq];cases l.1.all uR
 ·rfl
 ·simp only[bH,bO];show aH (w7 _ _) _ _=_;by_cases h0:0 < l.1.length
  ·rw[di ak];by_cases h4:l.1.length<=4
   ·rw[oS ak,aI ⟨h0,h4⟩];rfl
   ·rw[l5 ak,aT (λx=>h4 x.2)];rfl
  ·rw[cG ak,aT (λx=>h0 x.1)];rfl
theorem AF:oY.RS:=rE [.d N0] oY
def DI:=oY.eP axO 1 ⟨.fp aif,trivial⟩
def xK(m:List Int):List Int->List Sg->Bool
 |[],_=>true
 |p::ps,ss=>Aa p m 1 (ss.headD (0,0,())) && xK m ps ss.tail
def xQ(l:Lk)(w:VQ)(m:List Int)(height age:Int):Int:=
 if kq l=false\/w.1 < 0\/w.1>=l.1.length then 1
 else
  let b:=nth (.pair (.slice (.int .u64)) (.pair (.int .i64) (.pair (.int .i64) (.pair (.int .u64) .unit)))) l.1 w.1.toNat
  if height < b.2.1\/age < b.2.2.1 then 11
  else if b.2.2.2.1≠0/\fS w.2.2.1≠b.2.2.2.1 then 23
  else if w.2.1.length≠b.1.length then 7
  else if xK m b.1 w.2.1 then 0 else 7
theorem aAd(m:List Int)(ks:List Int)(ss:List Sg)(h:ss.length=ks.length)(k:Nat)(hk:k < ks.length):xK m (ks.drop k) (ss.drop k)=(Aa ks[k] m 1 (ss[k]'(ak)) && xK m (ks.drop (k+1)) (ss.drop (k+1))):=by rw[aq hk,aq (by omega:k < ss.length)];rfl
def acz(w:VQ):Prop:=(∀s∈w.2.1,aMo s)/\nv w.2.2.1
abbrev AB:=VQ×Bs×Bs×Int×Int
def oW:AB->AS:=λ(ati,auv,t68,t69,t70)=>⟨(aQ 6 ([.dO azH ati,.dO tH auv]++aQ 60 ([.d tU t68,.d ti t69,.d ti t70]++aQ 14 []))),[],(ab 85 [])⟩
def qa:Unit->Exit×AS:=λx=>(.ret,⟨(aQ 10 ([.d ti (7:Int)]++aQ 74 [])),[],(ab 85 [])⟩)
def yY:Unit->Exit×AS:=λx=>(.exit 1,⟨(aQ 85 []),[],(ab 85 [])⟩)
abbrev M7:=(Unit)⊕(Unit)
abbrev Zc:=(Unit)⊕(Unit)
def E4:M7->Out (Exit×AS):=λx=> .br x.isLeft (.get x.getLeft? λa=> .ok (qa a)) (.get x.getRight? λb=> .ok (yY b))
def kU:AB->Zc->M7:=λ(ati,auv,t68,t69,t70) y=>match y with | .inl y=> .inl y | .inr z=> .inr (z)
abbrev aus:=Lk×VQ×Bs×Int×Int
def yX:AB->Prop:=λ(w,m,ks,n,i)=>acz w/\Sm m/\F1 ks/\ks.length<=1000000000/\w.2.1.length=ks.length/\n=ks.length/\∃k:Nat,k<=ks.length/\i=k
def oV:AB->Zc:=λ(w,m,ks,n,i)=>if xK m (ks.drop i.toNat) (w.2.1.drop i.toNat) then .inr () else .inl ()
def axJ:aus->Prop:=λ(l,w,m,h,a)=>acx l/\l.1.length<=9223372036854775807/\acz w/\Sm m
def ah8:aus->Int:=λ(l,w,m,h,a)=>xQ l w m h a
def Zb:=dC.fp oW yX kU oV E4
def wc:AB->Option M7:=gS Zb oW
def mD:Fs Tryz.prog axJ bn ah8:=eK 231 Tryz.f231 (λ(l,wv,m,height,age)=>([.d N0 l,.d azH wv,.d tH m,.d ti height,.d ti age],[])) (λx=>⟨.d ti x,[],[]⟩) [some N0,some azH,some tH,some ti,some ti] [DI,P4,asN] {loops:=nF [(11,{aV:=[6,7,68,69,70]})],outs:=nE [(11,{},{aV:=[10]})],fw:=nr [(11,Zb)]}
def M6:= @eG Tryz.prog (kj mD.G) mD.an 0 Tryz.f231 0 _ oW
abbrev UF:=lz Tryz.prog (kj mD.G) mD.an 0 Tryz.f231 0 oW yX kU oV E4
theorem ah9:jf wc yX kU oV:=nf (jM [.d azH,.d tH,.d tU,.d ti,.d ti] λ_=>bX)
theorem PL:om @M6 oW yX kU oV E4 UF:=oE
theorem K7{R:Type}(ati:VQ)(auv:Bs)(t68:Bs)(t69:Int)(t70:Int)(kn:AS->Option R)(kx:Exit->AS->Option R):M6 (ati,auv,t68,t69,t70) kn kx=aH ((fR t70 t69)) (aH (eg t70 (((ag t68):Nat):Int)) (aH (eg t70 (((ag ati.2.1):Nat):Int)) (al (FE.call ((nth tu t68 (ae t70)),auv,(nth zQ ati.2.1 (ae t70)))) λx1=>aH ((!x1)) (kx (qa ()).1 (qa ()).2) (kn (oW (ati,auv,t68,t69,(bI .i64 t70 (1:Int)))))) none) none) (kx (yY ()).1 (yY ()).2):=bX
theorem aEs{R:Type}(l wv m height age)(k:K1 R):mD.A (l,wv,m,height,age) k=al (oY.call l) λx1=>aH ((!x1)) (k (mD.out 1)) (aH ((fR wv.1 0)) (k (mD.out 1)) (aH ((BS wv.1 (l.1.length:Int))) (k (mD.out 1)) (aH (eg wv.1 (l.1.length:Int)) (aH ((fR height (nth km l.1 (ae wv.1)).2.1)) (k (mD.out 11)) (aH ((fR age (nth km l.1 (ae wv.1)).2.2.1)) (k (mD.out 11)) (aH ((BT (nth km l.1 (ae wv.1)).2.2.2.1 0)) (al (Gj.call wv.2.2.1) λx2=>aH ((BT x2 (nth km l.1 (ae wv.1)).2.2.2.1)) (k (mD.out 23)) (aH ((BT (wv.2.1.length:Int) (((ag (nth km l.1 (ae wv.1)).1):Nat):Int))) (k (mD.out 7)) (al (wc (wv,m,(nth km l.1 (ae wv.1)).1,(((ag (nth km l.1 (ae wv.1)).1):Nat):Int),0)) λx4=>aH (x4.isLeft) (al (x4.getLeft?) λa5=>k (mD.out 7)) (al (x4.getRight?) λb6=>k (mD.out 0))))) (aH ((BT (wv.2.1.length:Int) (((ag (nth km l.1 (ae wv.1)).1):Nat):Int))) (k (mD.out 7)) (al (wc (wv,m,(nth km l.1 (ae wv.1)).1,(((ag (nth km l.1 (ae wv.1)).1):Nat):Int),0)) λx7=>aH (x7.isLeft) (al (x7.getLeft?) λa8=>k (mD.out 7)) (al (x7.getRight?) λb9=>k (mD.out 0))))))) none))):=bX
theorem amq:UF:=by
 refine PL (λ(w,m,ks,n,i)=>ks.length - i.toNat) ?_
 rintro⟨w,m,ks,n,i⟩ ⟨hw,hm,hl,hb,hs,rfl,k,hk,rfl⟩;have hb:ks.length<=1000000000:=hb;have hk:k<=ks.length:=hk;have hs:w.2.1.length=ks.length:=hs;by_cases h:k < ks.length
 ·have hx:=hl _ (aN h);have hy:=hw.1 _ (aN (by omega:k < w.2.1.length));have n1:nth (.int .u64) ks k=ks[k]:=bW (t:= .int .u64) h;have n2:nth (.pair (.int .u64) (.pair (.int .u64) .unit)) w.2.1 k=w.2.1[k]'(ak):=bW (t:=(.pair (.int .u64) (.pair (.int .u64) .unit))) ak;have hd:=aAd m ks w.2.1 hs k h;have step:∀ {R:Type} (kn:AS->Option R) (kx:Exit->AS->Option R),M6 (w,m,ks,(ks.length:Int),(k:Int)) kn kx=aH (Aa ks[k] m 1 (w.2.1[k]'(ak))) (kn (oW (w,m,ks,(ks.length:Int),((k+1:Nat):Int)))) (kx (qa ()).1 (qa ()).2):=by intro R kn kx;rw[K7,aU ak,bg ak ak,bg ak ak,aa,n1,n2,N.mu ak,aol (d:=(ks[k],m,w.2.1[k]'(ak))) ⟨hx,hm,hy⟩];simp only[aj,ah,bn,af4];cases Aa ks[k] m 1 (w.2.1[k]'(ak)) <;> rfl
  cases hp:Aa ks[k] m 1 (w.2.1[k]'(ak))
  ·right;refine⟨qa (),?_,λkn kx=> ?_⟩
   ·simp only[kU,oV,aa,hd,hp,dw,bF,bq];rfl
   ·rw[step,hp,ao]
  ·left;refine⟨(w,m,ks,ks.length,((k+1:Nat):Int)),⟨hw,hm,hl,hb,hs,rfl,k+1,ak,rfl⟩,by simp only[aa];omega,?_,λkn kx=> ?_⟩
   ·simp only[kU,oV,aa,hd,hp,bO]
   ·rw[step,hp,aj]
 ·right;obtain rfl:k=ks.length:=ak;refine⟨yY (),?_,λkn kx=> ?_⟩
  ·simp only[kU,oV,aa,aL];rfl
  ·rw[K7];simp(disch:=omega) only[↓S1,↓if_pos,↓if_neg,if_pos,if_neg,bH,bq,S2]
theorem axE{l:Lk}(h:kq l=true){b:nV}(hb:b∈l.1):b.1.length<=12:=by unfold kq at h;rw[au,df]at h;have:=h.1 b hb;unfold uR at this;rw[au]at this;simpa using this.1
theorem aEt:mD.Ok:=by
  rintro⟨l,w,m,h,a⟩ ⟨hl,hb,hw,hm⟩;have hl:acx l:=hl;have hb:l.1.length<=9223372036854775807:=hb;have hw:acz w:=hw;have hm:Sm m:=hm;rw[aEs,AF (d:=l) ⟨hl,hb⟩];simp only[ah,bn,DH,bn,ah8,xQ];cases iV:kq l
  · rw[if_pos (lA rfl)];rfl
  by_cases h0:w.1 < 0
  · rw[aU h0,if_pos (eZ (lA h0))];rfl
  by_cases h1:w.1>=l.1.length
  · rw[aP h0,fY h1,if_pos (eZ (eZ h1))];rfl
  rw[aP h0,eA h1,bg ak ak,if_neg (by simp[h0];omega)];have hn:w.1.toNat < l.1.length:=ak;have n1:nth (.pair (.slice (.int .u64)) (.pair (.int .i64) (.pair (.int .i64) (.pair (.int .u64) .unit)))) l.1 w.1.toNat=l.1[w.1.toNat]:=bW (t:=(.pair (.slice (.int .u64)) (.pair (.int .i64) (.pair (.int .i64) (.pair (.int .u64) .unit))))) hn;rw[n1];have hx:aAK l.1[w.1.toNat]:=hl _ (aN hn);have aP6:=axE iV (aN hn);obtain⟨⟨ks,af,dl,sc,u⟩,aNd⟩:∃b,l.1[w.1.toNat]=b:=⟨_,rfl⟩;rw[aNd]at hx aP6 ⊢;have aDy:F1 ks:=hx.1;have aP6:ks.length<=12:=aP6;simp only[cz,ao,aj];by_cases e1:h < af
  · rw[aU e1,if_pos (lA e1)];rfl
  by_cases e2:a < dl
  · rw[aP e1,aU e2,if_pos (eZ e2)];rfl
  rw[aP e1,aP e2,if_neg (by simp[e1,e2]),DM (d:=w.2.2.1) hw.2];simp only[ao,ah,bn,WZ]
  have last:aH (BT ((w.2.1.length:Nat):Int) ((ks.length:Nat):Int)) (some (mD.out (7:Int))) (
          al (wc (w,m,ks,((ks.length:Nat):Int),(0:Int))) λx4=>
          aH (x4.isLeft) (al (x4.getLeft?) λa5=>some (mD.out (7:Int))) (al (x4.getRight?) λb6=>some (mD.out (0:Int))))=some (mD.out (if w.2.1.length≠ks.length then 7 else if xK m ks w.2.1 then 0 else 7)):=by
    by_cases e3:w.2.1.length=ks.length
    · rw[dA ak,if_neg (by simp[e3]),ao,ah9 (d:=(w,m,ks,ks.length,0)) ⟨hw,hm,aDy,by show ks.length<=1000000000;omega,e3,rfl,0,ak,rfl⟩]
      simp only[ah,kU,oV,aZ,aG];cases xK m ks w.2.1 <;> rfl
    · rw[fe ak,if_pos e3];rfl
  by_cases e4:sc=0
  · rw[dA e4,if_neg (by simp[e4]),ao]
    exact last
  · rw[fe e4,aj]
    by_cases e5:fS w.2.2.1=sc
    · rw[dA e5,if_neg (by simp[e5]),ao]
      exact last
    · rw[fe e5,if_pos ⟨e4,e5⟩];rfl
theorem axK:mD.RS:=rE [.d N0,.d azH,.d tB,.d ti,.d ti] mD
def aEu:=mD.eP aEt 1 ⟨.fp amq,trivial⟩
def avA:Int->Prop:=λn=>∃k:Nat,n=k/\k<=100000000
def atA:Int->(Nat×(List Int)):=λn=>(0,ab n.toNat 0)
def TP:Fs Tryz.prog avA bn atA:=eK 212 Tryz.f212 (λn=>([.cX,.d ti n],[])) (λx=>⟨.bz (.new 0 0) 0 [] 0 0 x.1,[],[.obj 0 false (.vec 5 tb x.2)]⟩) [none,some ti] [] {owns:=[⟨4,[],22,127⟩]}
theorem aBh{R:Type}(n)(k:K1 R):TP.A n k=aH ((fR n 0)) (none) (aH ((w7 (cK .i64 n 0) 0)) (aH (decide (0 < (cK .i64 n 0)) && cV (ae (cK .i64 n 0)) 1) (aH (inc 0 (((ae (cK .i64 n 0)):Nat):Int)) (k (TP.out (0,(ab (ae (cK .i64 n 0)) 0)))) none) none) (k (TP.out (0,([]:List Int))))):=bX
theorem aBi:TP.Ok:=by
 rintro n ⟨k,rfl,hk⟩;have e:cK .i64 (k:Int) 0=(k:Int):=by rw[eC ak ak];omega
 rw[aBh,e,aP ak,ao];by_cases h:0 < k
 ·rw[di ak,aa,aI ak,dh ak ak,tY ak ak];rfl
 ·obtain rfl:k=0:=ak;rfl
theorem avB:TP.RS:=rE [.d ti] TP
def aBj:=TP.eP aBi
def uc(l:List (List Int)):Nat:=l.flatten.length
def acE(n:Nat)(l:List Int):List (List Int)->Nat×List Int
 |[]=>(n,l)
 |s::r=>(n+(s::r).flatten.length,l.take n++(s::r).flatten)
theorem awa(n:Nat)(l s:List Int)(r:List (List Int))(h:n<=l.length):acE n l (s::r)=acE (n+s.length) (l.take n++s) r:=by
 have hl:(l.take n++s).length=n+s.length:=by rw[ai,bt];omega
 cases r with
 |nil=>simp[acE]
 |cons t r=>
  simp only[acE];rw[aX (tr hl)];simp only[jc,ai,aD,eM]
theorem aI6(n:Nat)(z:List Int)(r:List (List Int)):(acE 0 z r).1<=(acE 0 z r).2.length/\cut (acE 0 z r).2 0 (acE 0 z r).1=r.flatten:=by
 cases r with
 |nil=>exact⟨aM _,rfl⟩
 |cons s r=>
  simp only[acE,dI,aS,aK];exact⟨ax _,by show aR _ (bS 0 _)=_;rw[aG,bK]⟩
abbrev El:=(List Bs)×Int×(List Bs)×Int×Int
def tz:El->Int->(((List Bs))×(Int)):=λ(A3,size,t9,t10,t11) y=>(A3,y)
abbrev Of:=Nat×(List Bs)×Int×Int×(List Int)
def Ha:El->Prop:=λ(s,size,t,n,i)=>s.length<=1000000/\t=s/\n=s.length/\∃k z:Nat,k<=s.length/\i=k/\size=z/\z+uc (s.drop k)<=100000000
def xV:El->Int:=λ(s,size,t,n,i)=>((size:Int)+((uc (s.drop i.toNat):Nat):Int):Int)
def Hb:Of->Prop:=λ(n,s,t,i,l)=>s.length<=1000000/\n<=l.length/\t=s.length/\∃k:Nat,k<=s.length/\i=k/\n+uc (s.drop k)<=100000000
def xW:Of->(Nat×(List Int)):=λ(n,s,t,i,l)=>acE n l (s.drop i.toNat)
def aki:(List Bs)->Prop:=λs=>s.length<=1000000/\uc s<=100000000
def RG:(List Bs)->Bs:=λs=>s.flatten
def mN:Ls Ha tz xV:=qz (λ(A3,size,t9,t10,t11)=>⟨([.d (.slice tB) A3,bB,bB,.d ti size]++aQ 5 ([.d (.slice tB) t9,.d ti t10,.d ti t11]++aQ 24 [])),[],(ab 36 [])⟩) (λx=>(.exit 0,⟨([.d (.slice tB) x.1,bB,bB,.d ti x.2]++aQ 32 []),[],(ab 36 [])⟩))
def mO:Ls Hb bn xW:=qz (λ(newsliceL,t25,t26,t27,n24)=>⟨(aQ 6 ([nG 24 newsliceL]++aQ 18 ([.d (.slice tB) t25,.d ti t26,.d ti t27]++aQ 8 []))),[],(bD 24 ([dK (.vec 5 tb n24)]++bD 11 []))⟩) (λx=>(.exit 2,⟨(aQ 6 ([nG 24 x.1]++aQ 29 [])),[],(bD 24 ([dK (.vec 5 tb x.2)]++bD 11 []))⟩))
def oe:Fs Tryz.prog aki bn RG:=eK 175 Tryz.f175 (λslices=>([.d (.slice tB) slices],[])) (λx=>⟨.d tB x,[],[]⟩) [some (.slice tB)] [aBj] {loops:=nF [(3,{aV:=[0,3,9,10,11]}),(11,{aV:=[6,25,26,27],sites:=[24],owns:=[⟨6,[],24,127⟩]})],outs:=nE [(3,{aV:=[0,3]},{aV:=[2]}),(11,{aV:=[6],sites:=[24]},{aV:=[2]})],fw:=nr [(3,mN.E),(11,mO.E)],res:=[some tB]}
theorem Xt:mN.RS:=rL [.d (.slice tB),.d ti,.d (.slice tB),.d ti,.d ti] mN
theorem F4{R:Type}(A3 size t9 t10 t11)(kn:K2 R)(kx:K3 R):oe.R 0 mN (A3,size,t9,t10,t11) kn kx=aH ((fR t11 t10)) (aH (eg t11 (t9.length:Int)) (aH ((fR (bI .i64 size (((ag (nth tB t9 (ae t11))):Nat):Int)) 0)) (none) (kn (mN.st (A3,(bI .i64 size (((ag (nth tB t9 (ae t11))):Nat):Int)),t9,t10,(bI .i64 t11 1))))) none) (mN.go kx (A3,size)):=bX
theorem Xu:mO.RS:=rL [.n,.d (.slice tB),.d ti,.d ti,.d tB] mO
theorem F5{R:Type}(newsliceL t25 t26 t27 n24)(kn:K2 R)(kx:K3 R):oe.R 1 mO (newsliceL,t25,t26,t27,n24) kn kx=aH ((fR t27 t26)) (aH (eg t27 (t25.length:Int)) (aH (decide (newsliceL<=(ag n24))) (aH (cV (newsliceL+(ag (nth tB t25 (ae t27)))) 1) (kn (mO.st ((newsliceL+(ag (nth tB t25 (ae t27)))),t25,t26,(bI .i64 t27 1),((aR newsliceL n24)++(nth tB t25 (ae t27)))))) none) none) none) (mO.go kx (newsliceL,n24)):=bX
theorem api{R:Type}(slices)(k:K1 R):oe.A slices k=al (mN.call (slices,0,slices,(slices.length:Int),0)) λx1=>al (TP.call x1.2) λx2=>al (mO.call (x2.1,x1.1,(x1.1.length:Int),0,x2.2)) λx3=>aH (decide (0=0/\(0+x3.1)<=(ag x3.2))) (k (oe.out (cut x3.2 0 x3.1))) none:=bX
theorem auq(s:List (List Int))(k:Nat)(h:k < s.length):uc (s.drop k)=s[k].length+uc (s.drop (k+1)):=by unfold uc;rw[aq h,jc,ai]
theorem acB:(oe.jR 0 mN):=by
 refine(oe.lp 0 mN) (λ(s,size,t,n,i)=>s.length - i.toNat) ?_
 rintro⟨s,size,t,n,i⟩ ⟨hs,rfl,rfl,k,z,hk,rfl,rfl,hz⟩;have hs:t.length<=1000000:=hs;have hk:k<=t.length:=hk;have hz:z+uc (t.drop k)<=100000000:=hz;by_cases h:k < t.length
 ·left;have n1:nth (.slice (.int .u8)) t k=t[k]:=bW (t:= .slice (.int .u8)) h;have hd:=auq t k h;refine⟨(t,((z+t[k].length:Nat):Int),t,t.length,((k+1:Nat):Int)),⟨hs,rfl,rfl,k+1,z+t[k].length,ak,rfl,rfl,ak⟩,by simp only[aa];omega,?_,λkn kx=> ?_⟩
  ·simp only[tz,xV,aa];rw[hd];refine bm _ ?_
   omega
  ·rw[F4];simp(disch:=omega) only[↓S1,↓if_pos,↓if_neg,if_pos,if_neg,bH,bq,S2,n1]
 ·right;obtain rfl:k=t.length:=ak;intro R kn kx;rw[F4];simp(disch:=omega) only[↓S1,↓if_pos,↓if_neg,if_pos,if_neg,bH,bq,S2,tz,xV,aL];simp only[uc,pL,aY,Int.natCast_zero,Int.add_zero]
theorem acC:(oe.jR 1 mO):=by
 refine(oe.lp 1 mO) (λ(n,s,t,i,l)=>s.length - i.toNat) ?_
 rintro⟨n,s,t,i,l⟩ ⟨hs,hn,rfl,k,hk,rfl,hz⟩;have hs:s.length<=1000000:=hs;have hn:n<=l.length:=hn;have hk:k<=s.length:=hk;have hz:n+uc (s.drop k)<=100000000:=hz;by_cases h:k < s.length
 ·left;have n1:nth (.slice (.int .u8)) s k=s[k]:=bW (t:= .slice (.int .u8)) h;have hd:=auq s k h;refine⟨(n+s[k].length,s,s.length,((k+1:Nat):Int),l.take n++s[k]),⟨hs,by rw[ai,bt];omega,rfl,k+1,ak,rfl,ak⟩,by simp only[aa];omega,?_,λkn kx=> ?_⟩
  ·simp only[bn,xW,aa];rw[aq h,awa _ _ _ _ hn]
  ·rw[F5];simp(disch:=omega) only[↓S1,↓if_pos,↓if_neg,if_pos,if_neg,bH,bq,S2,n1]
 ·right;obtain rfl:k=s.length:=ak;intro R kn kx;rw[F5];simp(disch:=omega) only[↓S1,↓if_pos,↓if_neg,if_pos,if_neg,bH,bq,S2,bn,xW,aL];rfl
theorem apj:oe.Ok:=by rintro s ⟨hs,hz⟩;have hs:s.length<=1000000:=hs;have hz:uc s<=100000000:=hz;have p1:Ha (s,0,s,s.length,0):=⟨hs,rfl,rfl,0,0,ak,rfl,rfl,by rw[aG];omega⟩;have p2:Hb (0,s,s.length,0,ab (uc s) 0):=⟨hs,ak,rfl,0,ak,rfl,by rw[aG];omega⟩;rw[api,Xt p1];simp only[ah,tz,xV,aZ,aG,Int.zero_add];rw[avB (d:=((uc s:Nat):Int)) ⟨uc s,rfl,hz⟩];simp only[ah,bn,atA,aa];rw[Xu p2];simp only[ah,bn,xW,aZ,aG];obtain⟨c1,c2⟩:=aI6 0 (ab (uc s) 0) s;simp only[aK,c1,iT,cr,aj,c2];rfl
theorem TO:oe.RS:=rE [.d (.slice tB)] oe
def Xv:=oe.eP apj 2 ⟨.fp acB,⟨.fp acC,trivial⟩⟩
def aey:(Bs×Bs)->Prop:=λ(a,b)=>a.length+b.length<=100000000
def agY:(Bs×Bs)->Bs:=λ(a,b)=>a++b
def Hm:Fs Tryz.prog aey bn agY:=eK 173 Tryz.f173 (λ(b,more)=>([.d tB b,.d tB more],[])) (λx=>⟨.d tB x,[],[]⟩) [some tB,some tB] [Xv]
theorem aB5{R:Type}(b more)(k:K1 R):Hm.A (b,more) k=al (oe.call [b,more]) λx1=>k (Hm.out x1):=bX
theorem aB6:Hm.Ok:=by rintro⟨a,b⟩ h;have h:a.length+b.length<=100000000:=h;rw[aB5,TO (d:=[a,b]) ⟨by show [a,b].length<=_;simp,by show uc [a,b]<=_;simp only[uc,jc,pL,bk,ai];omega⟩];simp only[ah,bn,RG,bn,agY,jc,pL,bk]
theorem Jw:Hm.RS:=rE [.d tB,.d tB] Hm
def XU:=Hm.eP aB6
def gw:Nat->Int->List Int×Int
 | 0,n=>([],n)
 |f+1,n=>if 128<=n then((n%128+128)::(gw f (n / 128)).1,(gw f (n / 128)).2) else([],n)
def fV(n:Int):List Int:=(gw 10 n).1++ [(gw 10 n).2]
theorem JZ:∀(f g:Nat) (n:Int),n < 128^(f+1)->n < 128^(g+1)->gw f n=gw g n
 | 0,0,n,_,_=>rfl
 | 0,g+1,n,h,_=>by have h:n < 128:=h;rw[gw,gw,if_neg ak]
 |f+1,0,n,_,h=>by have h:n < 128:=h;rw[gw,gw,if_neg ak]
 |f+1,g+1,n,h,h'=>by
  rw[gw,gw];split
  ·have e:(128:Int)^(f+1+1)=128^(f+1)*128:=fE 128 (f+1);have e':(128:Int)^(g+1+1)=128^(g+1)*128:=fE 128 (g+1);rw[JZ f g (n / 128) ak ak]
  ·rfl
theorem aaR:∀(f:Nat) (n:Int),(gw f n).1.length<=f
 | 0,_=>ax _
 |f+1,n=>by
  rw[gw];split
  ·have:=aaR f (n / 128);simp only[aA];omega
  ·exact aM _
theorem afP:∀(f:Nat) (n:Int),0<=n->n < 128^(f+1)->0<=(gw f n).2/\(gw f n).2 < 128
 | 0,n,h,h'=>by have h':n < 128:=h';exact⟨h,h'⟩
 |f+1,n,h,h'=>by
  rw[gw];have e:(128:Int)^(f+1+1)=128^(f+1)*128:=fE 128 (f+1);split
  ·exact afP f (n / 128) ak ak
  ·exact⟨h,ak⟩
theorem afQ{n:Int}(h:128<=n)(h2:n<=9223372036854775807):gw 10 n=((n%128+128)::(gw 10 (n / 128)).1,(gw 10 (n / 128)).2):=by have e:(128:Int)^(9+1)=1180591620717411303424:=rfl;have e2:(128:Int)^(10+1)=151115727451828646838272:=rfl;rw[gw,if_pos h,JZ 9 10 (n / 128) (by rw[e];omega) (by rw[e2];omega)]
theorem ka(n:Int):(fV n).length<=11:=by have:=aaR 10 n;unfold fV;simp only[ai,aA,aY];omega
def GQ(n:Int):Prop:=0<=n/\n<=9223372036854775807
abbrev aeE:=Int×Nat×(List Int)
def T8:aeE->Prop:=λ(n,m,l)=>GQ n/\m=l.length/\l.length<=1000+0*n.toNat/\l.length+(gw 10 n).1.length<=100
def Jy:aeE->(Int×Nat×(List Int)):=λ(n,m,l)=>((gw 10 n).2,(l++(gw 10 n).1).length,l++(gw 10 n).1)
def aCF:Int->Prop:=λn=>GQ n
def aqa:Int->Bs:=λn=>fV n
def ym:Ls T8 bn Jy:=qz (λ(wi,outL,n14)=>⟨([.d ti wi,bB,bB,nG 14 outL]++aQ 16 []),[],(bD 14 ([dK (.vec 5 tb n14)]++bD 5 []))⟩) (λx=>(.exit 0,⟨([.d ti x.1,bB,bB,nG 14 x.2.1]++aQ 16 []),[],(bD 14 ([dK (.vec 5 tb x.2.2)]++bD 5 []))⟩))
def X6:Fs Tryz.prog aCF bn aqa:=eK 174 Tryz.f174 (λn=>([.d ti n],[])) (λx=>⟨.d tB x,[],[]⟩) [some ti] [] {loops:=nF [(2,{aV:=[0,3],sites:=[14],owns:=[⟨3,[],14,127⟩]})],outs:=nE [(2,{aV:=[0,3],sites:=[14]},{aV:=[2]})],fw:=nr [(2,ym.E)],res:=[some tB]}
theorem ala:ym.RS:=rL [.d ti,.n,.d tB] ym
theorem OO{R:Type}(wi outL n14)(kn:K2 R)(kx:K3 R):X6.R 0 ym (wi,outL,n14) kn kx=aH ((BS wi 128)) (aH (decide (outL<=(ag n14))) (aH (cV (outL+1) 1) (kn (ym.st ((tf .i64 wi 128),(outL+1),((aR outL n14)++ [(dV .u8 (bI .i64 (mq wi 128) 128))])))) none) none) (ym.go kx (wi,outL,n14)):=bX
theorem aI4{R:Type}(n)(k:K1 R):X6.A n k=al (ym.call (n,0,([]:List Int))) λx1=>aH (decide (x1.2.1<=(ag x1.2.2))) (aH (cV (x1.2.1+1) 1) (aH (decide (0=0/\(0+(x1.2.1+1))<=(ag ((aR x1.2.1 x1.2.2)++ [(dV .u8 x1.1)])))) (k (X6.out (cut ((aR x1.2.1 x1.2.2)++ [(dV .u8 x1.1)]) 0 (x1.2.1+1)))) none) none) none:=bX
theorem aCV{n:Int}(h:GQ n):dV .u8 (bI .i64 (mq n 128) 128)=n%128+128:=by have h1:=h.1;rw[v8 h.1,fG ak ak,Sp,gQ];omega
theorem aqb:(X6.jR 0 ym):=by
 refine(X6.lp 0 ym) (λ(n,m,l)=>n.toNat) ?_
 rintro⟨n,m,l⟩ ⟨hn,rfl,hl,hz⟩;have hn:GQ n:=hn;have hz:l.length+(gw 10 n).1.length<=100:=hz;have h1:=hn.1;have h2:=hn.2;by_cases h:128<=n
 ·left;have e:=afQ h h2;have hq:tf .i64 n 128=n / 128:=by rw[tf,jV h1];exact tW ak ak
  have el:((n%128+128)::(gw 10 (n / 128)).1).length=(gw 10 (n / 128)).1.length+1:=aA;rw[e]at hz;have hz:l.length+((n%128+128)::(gw 10 (n / 128)).1).length<=100:=hz;rw[el]at hz;refine⟨(n / 128,l.length+1,l++ [n%128+128]),⟨⟨ak,ak⟩,by rw[ai];rfl,by rw[ai];simp only[aA,aY];omega,by rw[ai];simp only[aA,aY];omega⟩,by simp only[];omega,?_,λkn kx=> ?_⟩
  ·simp only[bn,Jy,e,aD,iF,aS]
  ·rw[OO,fY h,aCV hn,hq];simp(disch:=omega) only[↓S1,↓if_pos,↓if_neg,if_pos,if_neg,bH,bq,S2,ax,bK]
 ·right;have e:gw 10 n=([],n):=by rw[gw,if_neg h]
  intro R kn kx;rw[OO,eA h];simp only[ao,bn,Jy,e,bk]
theorem aI5:X6.Ok:=by
 intro n hn;have hn:GQ n:=hn;have hl:=aaR 10 n;have e2:(128:Int)^(10+1)=151115727451828646838272:=rfl;have hd:=afP 10 n hn.1 (by have:=hn.2;rw[e2];omega);have p:T8 (n,0,[]):=⟨hn,rfl,by simp,by simp only[aY];omega⟩;have hi:dV .u8 (gw 10 n).2=(gw 10 n).2:=by rw[Sp,gQ];omega
 rw[aI4,ala p];simp only[ah,bn,Jy,aS,hi,bK,ax,cr,aj];rw[dh ak ak];simp only[aj,aK,ai,aA,aY,ax,iT,cr];rw[eR (by rw[ai];rfl)];rfl
theorem alb:X6.RS:=rE [.d ti] X6
def atU:=X6.eP aI5 1 ⟨.fp aqb,trivial⟩
def cD(b:List Int)(n:Int):List Int:=if n < 0 then b else b++fV n
theorem dq(b:List Int)(n:Int):(cD b n).length<=b.length+11:=by
 unfold cD;have:=ka n;split
 ·omega
 ·rw[ai];omega
def aCx:(Bs×Int)->Prop:=λ(b,n)=>b.length<=90000000/\n<=9223372036854775807
def oI:(Bs×Int)->Bs:=λ(b,n)=>cD b n
def Ah:Fs Tryz.prog aCx bn oI:=eK 113 Tryz.f113 (λ(b,n)=>([.d tB b,.d ti n],[])) (λx=>⟨.d tB x,[],[]⟩) [some tB,some ti] [XU,atU]
theorem aI2{R:Type}(b n)(k:K1 R):Ah.A (b,n) k=aH ((fR n 0)) (al (Hm.call (b,([]:List Int))) λx1=>k (Ah.out x1)) (al (X6.call n) λx2=>al (Hm.call (b,x2)) λx3=>k (Ah.out x3)):=bX
theorem aI3:Ah.Ok:=by
 rintro⟨b,n⟩ ⟨hb,hn⟩;have hb:b.length<=90000000:=hb;have hn:n<=9223372036854775807:=hn;rw[aI2];simp only[bn,oI,cD];by_cases h:n < 0
 ·rw[aU h,if_pos h,aj,Jw (d:=(b,[])) (by show b.length+([]:List Int).length<=_;simp only[aY];omega)];simp only[ah,bn,agY,bk]
 ·have hl:=ka n;rw[aP h,if_neg h,ao,alb (d:=n) ⟨ak,hn⟩];simp only[ah,bn,aqa];rw[Jw (d:=(b,fV n)) (by show b.length+(fV n).length<=_;omega)];rfl
theorem jk:Ah.RS:=rE [.d tB,.d ti] Ah
def WA:=Ah.eP aI3
def awA:(Bs×Int)->Prop:=λ(b,n)=>b.length<=90000000
def ON:(Bs×Int)->Bs:=λ(b,n)=>b++iZ n
def Hr:Fs Tryz.prog awA bn ON:=eK 128 Tryz.f128 (λ(b,n)=>([.d tB b,.d tu n],[])) (λx=>⟨.d tB x,[],[]⟩) [some tB,some tu] [XU] {loops:=nF [(3,{aV:=[0,1,5,7],sites:=[5,21]})],outs:=nE [(3,{aV:=[0,5],sites:=[5,21]},{aV:=[4],sites:=[5,21]})]} 12
theorem aCD{R:Type}(b n)(k:K1 R):Hr.A (b,n) k=al (Hm.call (b,[(dV .u8 (ct .u64 n 56)),(dV .u8 (ct .u64 n 48)),(dV .u8 (ct .u64 n 40)),(dV .u8 (ct .u64 n 32)),(dV .u8 (ct .u64 n 24)),(dV .u8 (ct .u64 n 16)),(dV .u8 (ct .u64 n 8)),(dV .u8 (ct .u64 n 0))])) λx1=>k (Hr.out x1):=bX
theorem aCE:Hr.Ok:=by
 rintro⟨b,n⟩ hb;have hb:b.length<=90000000:=hb;have p:aey (b,iZ n):=by show b.length+(iZ n).length<=_;rw[b8];omega
 have e:Hm.call (b,[dV .u8 (ct .u64 n 56),dV .u8 (ct .u64 n 48),dV .u8 (ct .u64 n 40),dV .u8 (ct .u64 n 32),dV .u8 (ct .u64 n 24),dV .u8 (ct .u64 n 16),dV .u8 (ct .u64 n 8),dV .u8 (ct .u64 n 0)])=some (b++iZ n):=by rw[akk];exact Jw p
 rw[aCD];refine Eq.trans (bm (λx=>al x _) e) ?_
 rfl
theorem Dw:Hr.RS:=rE [.d tB,.d tu] Hr
def ak9:=Hr.eP aCE 1 ⟨.none bX,trivial⟩
def Bi(w:VQ):Bool:=decide (0<=w.1/\w.1 < 4) && decide (w.2.1.length<=12)
def HJ(x:gz):Bool:=decide (0<=x.1.2.1/\x.1.2.1 < 64) && Bi x.2.1
def Ph(m:List (bu×Bool))(x:gz):Bool:=(cd aW x.1 m).getD false
def DF:List (bu×Bool)->List gz->Bool
 |_,[]=>true
 |m,x::l=>(!(Ph m x) && HJ x) && DF (eL aW x.1 true m) l
def rU(a:Int):Bool:=decide (0<=a/\a<=1125899906842624)
def Ko(a b:Int):Bool:=rU a && (rU b && decide (a+b<=1125899906842624))
def xA:Int->List gG->Bool
 |_,[]=>true
 |s,o::l=>(Ko s o.1 && kq o.2.1) && xA (s+o.1) l
def ab0(t:dD):Bool:=decide (1<=t.1.length/\t.1.length<=64/\t.2.1.length<=64/\0<=t.2.2.1)
def gO(t:dD):Bool:=ab0 t && (DF [] t.1 && xA 0 t.2.1)
def aOG(l:Lk):Prop:=acx l/\l.1.length<=9223372036854775807
def aOH(t:dD):Prop:=(∀o∈t.2.1,aOG o.2.1)/\t.1.length<=9223372036854775807/\t.2.1.length<=9223372036854775807
def aG6:VQ->Prop:=λ_=>True
def ajy:VQ->Bool:=λw=>Bi w
def adS:Fs Tryz.prog aG6 bn ajy:=eK 87 Tryz.f87 (λwv=>([.d azH wv],[])) (λx=>⟨.d .bool x,[],[]⟩) [some azH]
theorem aLi{R:Type}(wv)(k:K1 R):adS.A wv k=aH ((BS wv.1 0)) (aH ((fR wv.1 4)) (k (adS.out (ajU (wv.2.1.length:Int) 12))) (k (adS.out false))) (k (adS.out false)):=bX
theorem aLj:adS.Ok:=by
 rintro⟨b,ss,sc,u⟩ _;rw[aLi];simp only[bn,ajy,Bi];by_cases h:0<=b
 ·rw[fY h,aj];by_cases h2:b < 4
  ·rw[aU h2,aj,aI ⟨h,h2⟩];by_cases h3:ss.length<=12
   ·rw[oS ak,aI h3];rfl
   ·rw[l5 ak,aT h3];rfl
  ·rw[aP h2,ao,aT (λx=>h2 x.2)];rfl
 ·rw[eA h,ao,aT (λx=>h x.1)];rfl
theorem aoC:adS.RS:=rE [.d azH] adS
def au8:=adS.eP aLj
def ara:Int->Prop:=λ_=>True
def ZO:Int->Bool:=λa=>rU a
def Fa:Fs Tryz.prog ara bn ZO:=eK 169 Tryz.f169 (λa=>([.d ti a],[])) (λx=>⟨.d .bool x,[],[]⟩) [some ti]
theorem axY{R:Type}(a)(k:K1 R):Fa.A a k=aH ((BS a 0)) (k (Fa.out (ajU a 1125899906842624))) (k (Fa.out false)):=bX
theorem axZ:Fa.Ok:=by
 intro(a:Int) _;rw[axY];simp only[bn,ZO,rU];by_cases h:0<=a
 ·rw[fY h,aj];by_cases h2:a<=1125899906842624
  ·rw[oS h2,aI ⟨h,h2⟩]
  ·rw[l5 h2,aT (λx=>h2 x.2)]
 ·rw[eA h,ao,aT (λx=>h x.1)]
theorem ZP:Fa.RS:=rE [.d ti] Fa
def ax0:=Fa.eP axZ
def aEK:(Int×Int)->Prop:=λ_=>True
def aq9:(Int×Int)->(Int×Bool):=λ(a,b)=>(bif Ko a b then a+b else 0,Ko a b)
def ac4:Fs Tryz.prog aEK bn aq9:=eK 110 Tryz.f110 (λ(a,b)=>([.d ti a,.d ti b],[])) (λx=>⟨.cons (.d ti x.1) (.cons (.d .bool x.2) (.nil)),[],[]⟩) [some ti,some ti] [ax0]
theorem aKd{R:Type}(a b)(k:K1 R):ac4.A (a,b) k=al (Fa.call a) λx1=>aH ((!x1)) (k (ac4.out (0,false))) (al (Fa.call b) λx2=>aH ((!x2)) (k (ac4.out (0,false))) (aH ((w7 a (cK .i64 1125899906842624 b))) (k (ac4.out (0,false))) (k (ac4.out ((bI .i64 a b),true))))):=bX
theorem aKe:ac4.Ok:=by
 rintro⟨a,b⟩ _;rw[aKd,ZP (d:=a) trivial,ZP (d:=b) trivial];simp only[ah,bn,ZO,bn,aq9,Ko];cases ha:rU a
 ·rfl
 ·cases hb:rU b
  ·rfl
  ·simp only[rU,bf]at ha hb;simp only[cz,ao,bO];rw[eC ak ak];by_cases h:a+b<=1125899906842624
   ·rw[cG ak,ao,aI h,fG ak ak];rfl
   ·rw[di ak,aj,aT h];rfl
theorem aEL:ac4.RS:=rE [.d ti,.d ti] ac4
def aKf:=ac4.eP aKe
abbrev xq:=dD×(List gz)×Int×Int×(List (bu×Bool))
def nh:xq->AS:=λ(tg,t33,t34,t35,n31)=>⟨([bB,.dO eJ tg,bB,.cq (.new 31 0) 0]++aQ 29 ([.d (.slice fX) t33,.d ti t34,.d ti t35]++aQ 52 [])),[],(bD 31 ([dK (.mp aW .bool n31)]++bD 56 []))⟩
def fQ:Unit->Exit×AS:=λx=>(.ret,⟨([bB,bB,.d .bool false]++aQ 85 []),[],(ab 88 [])⟩)
def wN:dD->Exit×AS:=λx=>(.exit 0,⟨([bB,.dO eJ x]++aQ 86 []),[],(ab 88 [])⟩)
abbrev Jc:=(Unit)⊕(dD)
abbrev VI:=(Unit)⊕(Unit)
def Db:Jc->Out (Exit×AS):=λx=> .br x.isLeft (.get x.getLeft? λa=> .ok (fQ a)) (.get x.getRight? λb=> .ok (wN b))
def jH:xq->VI->Jc:=λ(tg,t33,t34,t35,n31) y=>match y with | .inl y=> .inl y | .inr z=> .inr (tg)
abbrev xr:=Int×(List gG)×Int×Int
def ni:xr->AS:=λ(sum,t66,t67,t68)=>⟨(aQ 6 ([.d ti sum]++aQ 59 ([.d (.slice iX) t66,.d ti t67,.d ti t68]++aQ 19 []))),[],(ab 88 [])⟩
def jJ:Unit->Exit×AS:=λx=>(.ret,⟨([bB,bB,.d .bool false]++aQ 85 []),[],(ab 88 [])⟩)
def wP:Unit->Exit×AS:=λx=>(.exit 2,⟨(aQ 88 []),[],(ab 88 [])⟩)
abbrev Jg:=(Unit)⊕(Unit)
abbrev VK:=(Unit)⊕(Unit)
def Dc:Jg->Out (Exit×AS):=λx=> .br x.isLeft (.get x.getLeft? λa=> .ok (jJ a)) (.get x.getRight? λb=> .ok (wP b))
def jI:xr->VK->Jg:=λ(sum,t66,t67,t68) y=>match y with | .inl y=> .inl y | .inr z=> .inr (z)
def wM:xq->Prop:=λ(t,l,n,i,m)=>l.length<=9223372036854775807/\n=l.length/\∃k:Nat,k<=l.length/\i=k
def mK:xq->VI:=λ(t,l,n,i,m)=>if DF m (l.drop i.toNat) then .inr () else .inl ()
def wO:xr->Prop:=λ(s,l,n,i)=>(∀o∈l,aOG o.2.1)/\l.length<=9223372036854775807/\n=l.length/\∃k:Nat,k<=l.length/\i=k
def mL:xr->VK:=λ(s,l,n,i)=>if xA s (l.drop i.toNat) then .inr () else .inl ()
def asV:dD->Prop:=λt=>aOH t
def re:dD->Bool:=λt=>gO t
def VH:=dC.fp nh wM jH mK Db
def Jd:xq->Option Jc:=gS VH nh
def VJ:=dC.fp ni wO jI mL Dc
def Bb:xr->Option Jg:=gS VJ ni
def iw:Fs Tryz.prog asV bn re:=eK 67 Tryz.f67 (λt=>([.d eJ t],[])) (λx=>⟨.d .bool x,[],[]⟩) [some eJ] [au8,aKf,DI] {loops:=nF [(5,{aV:=[1,3,33,34,35],sites:=[31]}),(13,{aV:=[6,66,67,68]})],outs:=nE [(5,{aV:=[1]},{aV:=[2]}),(13,{},{aV:=[2]})],fw:=nr [(5,VH),(13,VJ)]}
def Jb:= @eG Tryz.prog (kj iw.G) iw.an 0 Tryz.f67 0 _ nh
abbrev Q0:=lz Tryz.prog (kj iw.G) iw.an 0 Tryz.f67 0 nh wM jH mK Db
def Jf:= @eG Tryz.prog (kj iw.G) iw.an 0 Tryz.f67 1 _ ni
abbrev Q1:=lz Tryz.prog (kj iw.G) iw.an 0 Tryz.f67 1 ni wO jI mL Dc
theorem adO:jf Jd wM jH mK:=nf (jM [.d eJ,.d (.slice fX),.d ti,.d ti,.d (.slice (.pair aW .bool))] λ_=>bX)
theorem NQ:om @Jb nh wM jH mK Db Q0:=oE
theorem Je{R:Type}(tg:dD)(t33:(List gz))(t34:Int)(t35:Int)(n31:(List (bu×Bool)))(kn:AS->Option R)(kx:Exit->AS->Option R):Jb (tg,t33,t34,t35,n31) kn kx=aH ((fR t35 t34)) (aH (eg t35 (((ag t33):Nat):Int)) (aH (((cd aW (nth fX t33 (ae t35)).1 n31).getD false)) (kx (fQ ()).1 (fQ ()).2) (aH ((fR (nth fX t33 (ae t35)).1.2.1 (0:Int))) (kx (fQ ()).1 (fQ ()).2) (aH ((BS (nth fX t33 (ae t35)).1.2.1 (64:Int))) (kx (fQ ()).1 (fQ ()).2) (al (adS.call (nth fX t33 (ae t35)).2.1) λx8=>aH ((!x8)) (kx (fQ ()).1 (fQ ()).2) (kn (nh (tg,t33,t34,(bI .i64 t35 (1:Int)),(eL aW (nth fX t33 (ae t35)).1 true n31)))))))) none) (kx (wN tg).1 (wN tg).2):=bX
theorem adP:jf Bb wO jI mL:=nf (jM [.d ti,.d (.slice iX),.d ti,.d ti] λ_=>bX)
theorem NR:om @Jf ni wO jI mL Dc Q1:=oE
theorem Jh{R:Type}(sum:Int)(t66:(List gG))(t67:Int)(t68:Int)(kn:AS->Option R)(kx:Exit->AS->Option R):Jf (sum,t66,t67,t68) kn kx=aH ((fR t68 t67)) (aH (eg t68 (((ag t66):Nat):Int)) (al (ac4.call (sum,(nth iX t66 (ae t68)).1)) λaoO=>aH ((!aoO.2)) (kx (jJ ()).1 (jJ ()).2) (al (oY.call (nth iX t66 (ae t68)).2.1) λaLv=>aH ((!aLv)) (kx (jJ ()).1 (jJ ()).2) (kn (ni (aoO.1,t66,t67,(bI .i64 t68 (1:Int))))))) none) (kx (wP ()).1 (wP ()).2):=bX
theorem azT{R:Type}(t)(k:K1 R):iw.A t k=aH ((fR (t.1.length:Int) 1)) (k (iw.out false)) (aH ((w7 (t.1.length:Int) 64)) (k (iw.out false)) (aH ((w7 (t.2.1.length:Int) 64)) (k (iw.out false)) (aH ((fR t.2.2.1 0)) (k (iw.out false)) (al (Jd (t,t.1,(t.1.length:Int),0,([]:List (bu×Bool)))) λaLv=>aH (aLv.isLeft) (al (aLv.getLeft?) λa13=>k (iw.out false)) (al (aLv.getRight?) λb14=>al (Bb (0,b14.2.1,(b14.2.1.length:Int),0)) λagn=>aH (agn.isLeft) (al (agn.getLeft?) λa31=>k (iw.out false)) (al (agn.getRight?) λb32=>k (iw.out true))))))):=bX
theorem ajt:Q0:=by
 refine NQ (λ(t,l,n,i,m)=>l.length - i.toNat) ?_
 rintro⟨t,l,n,i,m⟩ ⟨hb,rfl,k,hk,rfl⟩;have hb:l.length<=9223372036854775807:=hb;have hk:k<=l.length:=hk;by_cases h:k < l.length
 ·have n1:nth fX l k=l[k]:=bW (t:=fX) h;have hd:DF m (l.drop k)=((!(Ph m l[k]) && HJ l[k]) && DF (eL aW l[k].1 true m) (l.drop (k+1))):=by rw[aq h];rfl
  have step:∀ {R:Type} (kn:AS->Option R) (kx:Exit->AS->Option R),Jb (t,l,(l.length:Int),(k:Int),m) kn kx=aH (!(Ph m l[k]) && HJ l[k]) (kn (nh (t,l,(l.length:Int),((k+1:Nat):Int),eL aW l[k].1 true m))) (kx (fQ ()).1 (fQ ()).2):=by
   intro R kn kx;rw[Je,aU ak,bg ak ak,aa,n1,N.mu ak,aoC (d:=l[k].2.1) trivial];simp only[aj,ah,bn,ajy];have e:(cd aW l[k].1 m).getD false=Ph m l[k]:=rfl;rw[e];cases Ph m l[k]
   ·simp only[eV,bO,ao,HJ];by_cases h1:l[k].1.2.1 < 0
    ·rw[aU h1,aj,aT (λx=>ak)];rfl
    ·rw[aP h1,ao];by_cases h2:64<=l[k].1.2.1
     ·rw[fY h2,aj,aT (λx=>ak)];rfl
     ·rw[eA h2,ao,aI ⟨ak,ak⟩];cases Bi l[k].2.1 <;> rfl
   ·rfl
  cases hp:(!(Ph m l[k]) && HJ l[k])
  ·right;refine⟨fQ (),?_,λkn kx=> ?_⟩
   ·simp only[jH,mK,aa,hd,hp,dw,bF,bq];rfl
   ·rw[step,hp,ao]
  ·left;refine⟨(t,l,l.length,((k+1:Nat):Int),eL aW l[k].1 true m),⟨hb,rfl,k+1,ak,rfl⟩,by simp only[aa];omega,?_,λkn kx=> ?_⟩
   ·simp only[jH,mK,aa,hd,hp,bO]
   ·rw[step,hp,aj]
 ·right;obtain rfl:k=l.length:=ak;refine⟨wN t,?_,λkn kx=> ?_⟩
  ·simp only[jH,mK,aa,aL];rfl
  ·rw[Je];simp(disch:=omega) only[↓S1,↓if_pos,↓if_neg,if_pos,if_neg,bH,bq,S2]
theorem aju:Q1:=by
 refine NR (λ(s,l,n,i)=>l.length - i.toNat) ?_
 rintro⟨s,l,n,i⟩ ⟨hl,hb,rfl,k,hk,rfl⟩;have hb:l.length<=9223372036854775807:=hb;have hk:k<=l.length:=hk;by_cases h:k < l.length
 ·have hx:aOG l[k].2.1:=hl _ (aN h);have n1:nth iX l k=l[k]:=bW (t:=iX) h;have hd:xA s (l.drop k)=((Ko s l[k].1 && kq l[k].2.1) && xA (s+l[k].1) (l.drop (k+1))):=by rw[aq h];rfl
  have step:∀ {R:Type} (kn:AS->Option R) (kx:Exit->AS->Option R),Jf (s,l,(l.length:Int),(k:Int)) kn kx=aH (Ko s l[k].1 && kq l[k].2.1) (kn (ni (s+l[k].1,l,(l.length:Int),((k+1:Nat):Int)))) (kx (jJ ()).1 (jJ ()).2):=by
   intro R kn kx;rw[Jh,aU ak,bg ak ak,aa,n1,N.mu ak,aEL (d:=(s,l[k].1)) trivial,AF (d:=l[k].2.1) hx];simp only[aj,ah,bn,aq9,bn,DH];cases Ko s l[k].1
   ·rfl
   ·cases kq l[k].2.1 <;> rfl
  cases hp:(Ko s l[k].1 && kq l[k].2.1)
  ·right;refine⟨jJ (),?_,λkn kx=> ?_⟩
   ·simp only[jI,mL,aa,hd,hp,dw,bF,bq];rfl
   ·rw[step,hp,ao]
  ·left;refine⟨(s+l[k].1,l,l.length,((k+1:Nat):Int)),⟨hl,hb,rfl,k+1,ak,rfl⟩,by simp only[aa];omega,?_,λkn kx=> ?_⟩
   ·simp only[jI,mL,aa,hd,hp,bO]
   ·rw[step,hp,aj]
 ·right;obtain rfl:k=l.length:=ak;refine⟨wP (),?_,λkn kx=> ?_⟩
  ·simp only[jI,mL,aa,aL];rfl
  ·rw[Jh];simp(disch:=omega) only[↓S1,↓if_pos,↓if_neg,if_pos,if_neg,bH,bq,S2]
theorem azU:iw.Ok:=by
 rintro⟨is,os,nt,u⟩ ⟨hl,h1,h2⟩;have h1:is.length<=9223372036854775807:=h1;have h2:os.length<=9223372036854775807:=h2;rw[azT,adO (d:=((is,os,nt,u),is,is.length,0,[])) ⟨h1,rfl,0,ak,rfl⟩];simp only[ah,jH,mK,aZ,aG,bn,re,gO,ab0];by_cases a1:is.length < 1
 ·rw[aU ak,aj,aT (λx=>ak)];rfl
 rw[aP ak,ao];by_cases a2:64 < is.length
 ·rw[di ak,aj,aT (λx=>ak)];rfl
 rw[cG ak,ao];by_cases a3:64 < os.length
 ·rw[di ak,aj,aT (λx=>ak)];rfl
 rw[cG ak,ao];by_cases a4:nt < 0
 ·rw[aU ak,aj,aT (λx=>ak)];rfl
 rw[aP ak,ao,aI ⟨ak,ak,ak,ak⟩];cases DF [] is
 ·rfl
 ·simp only[bH,bO];show al (Bb (0,os,(os.length:Int),0)) _=_;rw[adP (d:=(0,os,os.length,0)) ⟨hl,h2,rfl,0,ak,rfl⟩];simp only[ah,jI,mL,aZ,aG];cases xA 0 os <;> rfl
theorem pB:iw.RS:=rE [.d eJ] iw
def tc:=iw.eP azU 2 ⟨.fp ajt,⟨.fp aju,trivial⟩⟩
def aro:Bs->Prop:=λl=>l.length<=1000000
def P5:Bs->Bs:=λl=>l
def AN:Fs Tryz.prog aro bn P5:=eK 129 Tryz.f129 (λsv=>([.d tU sv],[])) (λx=>⟨.d tU x,[],[]⟩) [some tU] [] {bJ:=[5],res:=[some tU]}
theorem ayh{R:Type}(sv)(k:K1 R):AN.A sv k=aH (decide (0 < (ag sv))) (aH (cV (0+(ag sv)) 8) (aH (decide (0=0/\(0+(0+(ag sv)))<=(ag ((aR 0 (ab 0 0))++sv)))) (k (AN.out (cut ((aR 0 (ab 0 0))++sv) 0 (0+(ag sv))))) none) none) (nd (k (AN.out ([]:List Int))) (aH (cV (0+(ag sv)) 8) (aH (decide (0=0/\(0+(0+(ag sv)))<=(ag ((aR 0 (ab 0 0))++sv)))) (k (AN.out (cut ((aR 0 (ab 0 0))++sv) 0 (0+(ag sv))))) none) none)):=bX
theorem ayi:AN.Ok:=by
 intro l hl;have hl:l.length<=1000000:=hl;have hr:cV l.length 8=true:=dh ak ak;have e0:(aR 0 (ab 0 0):List Int)=[]:=rfl;rw[ayh];simp only[aK,hr,aj,e0,aS,ax,iT,cr,eR,bn,P5];by_cases h:0 < l.length
 ·simp only[aI h,aj]
 ·have:l=[]:=bC ak;subst this;simp only[aY,y5,aT (gV 0),ao]
theorem Np:AN.RS:=rE [.d tU] AN
def SM:=AN.eP ayi
def aMs(l:List Int):Lk:=([(l,0,0,0,())],())
def aEa:Bs->Prop:=λl=>l.length<=1000000
def aNK:Bs->Lk:=λl=>aMs l
def aqQ:Fs Tryz.prog aEa bn aNK:=eK 83 Tryz.f83 (λl=>([.d tU l],[])) (λx=>⟨.d N0 x,[],[]⟩) [some tU] [SM]
theorem aJR{R:Type}(l)(k:K1 R):aqQ.A l k=al (AN.call l) λx1=>k (aqQ.out ([(x1,(0,(0,(0,()))))],())):=bX
theorem aJS:aqQ.Ok:=by intro l hl;rw[aJR,Np (d:=l) hl];rfl
theorem aEb:aqQ.RS:=rE [.d tU] aqQ
def aJT:=aqQ.eP aJS
def aEj:Int->Prop:=λ_=>True
def aNM:Int->Lk:=λp=>aMs [p]
def amk:Fs Tryz.prog aEj bn aNM:=eK 37 Tryz.f37 (λp=>([.d tu p],[])) (λx=>⟨.d N0 x,[],[]⟩) [some tu] [aJT]
theorem aJZ{R:Type}(p)(k:K1 R):amk.A p k=al (aqQ.call [p]) λx1=>k (amk.out x1):=bX
theorem aJ0:amk.Ok:=by intro p _;rw[aJZ,aEb (d:=[p]) (by show [p].length<=_;simp)];rfl
theorem aEk:amk.RS:=rE [.d tu] amk
def aJ1:=amk.eP aJ0
def l9(o:List Int)(ks:List Int):List Int:=ks.foldl (λo p=>o++iZ p) o
def aAz(o:List Int)(b:nV):List Int:=cD (cD (l9 (cD o b.1.length) b.1) b.2.1) b.2.2.1++iZ b.2.2.2.1
def M5(l:Lk):List Int:=if kq l then l.1.foldl aAz (cD [] l.1.length) else []
theorem JR:∀(ks:List Int) (o:List Int),(l9 o ks).length=o.length+8*ks.length
 |[],o=>rfl
 |k::ks,o=>by show(l9 (o++iZ k) ks).length=_;rw[JR ks,ai,b8,aA];omega
theorem agI(o:List Int)(b:nV)(h:b.1.length<=12):(aAz o b).length<=o.length+200:=by unfold aAz;have h1:=dq o b.1.length;have h2:=JR b.1 (cD o b.1.length);have h3:=dq (l9 (cD o b.1.length) b.1) b.2.1;have h4:=dq (cD (l9 (cD o b.1.length) b.1) b.2.1) b.2.2.1;rw[ai,b8];omega
def aH0(n:Int):Prop:=n<=9223372036854775807
def aPk(b:nV):Prop:=b.1.length<=12/\aH0 b.2.1/\aH0 b.2.2.1
theorem aMI{b:nV}(h:uR b=true):aPk b:=by unfold uR MW at h;simp only[au,bf]at h;obtain⟨h1,_,h2,h3,_⟩:=h;exact⟨h1,by unfold aH0;omega,by unfold aH0;omega⟩
theorem Y1(o:List Int)(ks:List Int)(k:Nat)(h:k < ks.length):l9 o (ks.drop k)=l9 (o++iZ ks[k]) (ks.drop (k+1)):=by rw[aq h];rfl
abbrev UA:=Bs×(List nV)×Int×Int
abbrev HP:=Bs×(List nV)×Int×Int×Bs×Int×Int×nV
def wa:HP->Bs->(((List nV)×Int×Int×nV)×(Bs)):=λ(vl,A6,abo,abp,t28,t29,t30,n5) y=>((A6,abo,abp,n5),y)
def acT:HP->Prop:=λ(o,bs,n,i,ks,m,j,b)=>ks.length<=12/\o.length+8*ks.length<=80000000+8*j.toNat/\m=ks.length/\∃k:Nat,k<=ks.length/\j=k
def BY:HP->Bs:=λ(o,bs,n,i,ks,m,j,b)=>l9 o (ks.drop j.toNat)
def acR:UA->Prop:=λ(o,bs,n,i)=>(∀b∈bs,aPk b)/\bs.length<=4/\o.length<=1000+200*i.toNat/\n=bs.length/\∃k:Nat,k<=bs.length/\i=k
def HN:UA->Bs:=λ(o,bs,n,i)=>(bs.drop i.toNat).foldl aAz o
def aqR:Lk->Prop:=λl=>acx l/\l.1.length<=9223372036854775807
def PF:Lk->Bs:=λl=>M5 l
def pY:Ls acR bn HN:=qz (λ(outv,t16,t17,t18)=>⟨([bB,bB,bB,.d tB outv]++aQ 12 ([.d (.slice km) t16,.d ti t17,.d ti t18]++aQ 31 [])),[],(ab 50 [])⟩) (λx=>(.exit 0,⟨([bB,bB,bB,.d tB x]++aQ 46 []),[],(ab 50 [])⟩))
def pZ:Ls acT wa BY:=qz (λ(vl,A6,abo,abp,t28,t29,t30,n5)=>⟨([bB,bB,bB,.d tB vl,bB,eI 5]++aQ 10 ([.d (.slice km) A6,.d ti abo,.d ti abp]++aQ 9 ([.d tU t28,.d ti t29,.d ti t30]++aQ 19 []))),[],(bD 5 ([dK (.d km n5)]++bD 44 []))⟩) (λx=>(.exit 2,⟨([bB,bB,bB,.d tB x.2,bB,eI 5]++aQ 10 ([.d (.slice km) x.1.1,.d ti x.1.2.1,.d ti x.1.2.2.1]++aQ 31 [])),[],(bD 5 ([dK (.d km x.1.2.2.2)]++bD 44 []))⟩))
def sj:Fs Tryz.prog aqR bn PF:=eK 116 Tryz.f116 (λl=>([.d N0 l],[])) (λx=>⟨.d tB x,[],[]⟩) [some N0] [DI,WA,ak9] {loops:=nF [(5,{aV:=[3,16,17,18]}),(9,{aV:=[3,5,16,17,18,28,29,30],sites:=[5]})],outs:=nE [(5,{aV:=[3]},{aV:=[2]}),(9,{aV:=[3,5,16,17,18],sites:=[5]},{aV:=[2]})],fw:=nr [(5,pY.E),(9,pZ.E)],res:=[some tB]}
theorem acS:pY.RS:=rL [.d tB,.d (.slice km),.d ti,.d ti] pY
theorem HO{R:Type}(outv t16 t17 t18)(kn:K2 R)(kx:K3 R):sj.R 0 pY (outv,t16,t17,t18) kn kx=aH ((fR t18 t17)) (aH (eg t18 (t16.length:Int)) (al (Ah.call (outv,(((ag (nth km t16 (ae t18)).1):Nat):Int))) λx1=>al (pZ.call (x1,t16,t17,t18,(nth km t16 (ae t18)).1,(((ag (nth km t16 (ae t18)).1):Nat):Int),0,(nth km t16 (ae t18)))) λx2=>al (Ah.call (x2.2,x2.1.2.2.2.2.1)) λx3=>al (Ah.call (x3,x2.1.2.2.2.2.2.1)) λx4=>al (Hr.call (x4,x2.1.2.2.2.2.2.2.1)) λx5=>kn (pY.st (x5,x2.1.1,x2.1.2.1,(bI .i64 x2.1.2.2.1 1)))) none) (pY.go kx outv):=bX
theorem acU:pZ.RS:=rL [.d tB,.d (.slice km),.d ti,.d ti,.d tU,.d ti,.d ti,.d km] pZ
theorem HQ{R:Type}(vl A6 abo abp t28 t29 t30 n5)(kn:K2 R)(kx:K3 R):sj.R 1 pZ (vl,A6,abo,abp,t28,t29,t30,n5) kn kx=aH ((fR t30 t29)) (aH (eg t30 (t28.length:Int)) (al (Hr.call (vl,(nth tu t28 (ae t30)))) λx1=>kn (pZ.st (x1,A6,abo,abp,t28,t29,(bI .i64 t30 1),n5))) none) (pZ.go kx ((A6,abo,abp,n5),vl)):=bX
theorem axz{R:Type}(l)(k:K1 R):sj.A l k=al (oY.call l) λx1=>aH ((!x1)) (k (sj.out ([]:List Int))) (al (Ah.call (([]:List Int),(l.1.length:Int))) λx2=>al (pY.call (x2,l.1,(l.1.length:Int),0)) λx9=>k (sj.out x9)):=bX
theorem ah6:(sj.jR 1 pZ):=by
 refine(sj.lp 1 pZ) (λ(o,bs,n,i,ks,m,j,b)=>ks.length - j.toNat) ?_
 rintro⟨o,bs,n,i,ks,m,j,b⟩ ⟨aNq,hl,rfl,k,hk,rfl⟩;have aNq:ks.length<=12:=aNq;have hk:k<=ks.length:=hk;have hl:o.length+8*ks.length<=80000000+8*(k:Int).toNat:=hl;rw[aa]at hl;by_cases h:k < ks.length
 ·left;have n1:nth (.int .u64) ks k=ks[k]:=bW (t:= .int .u64) h;refine⟨(o++iZ ks[k],bs,n,i,ks,ks.length,((k+1:Nat):Int),b),⟨aNq,by rw[ai,b8,aa];omega,rfl,k+1,ak,rfl⟩,by simp only[aa];omega,?_,λkn kx=> ?_⟩
  ·simp only[wa,BY,aa];rw[Y1 _ _ _ h]
  ·rw[HQ];simp(disch:=omega) only[↓S1,↓if_pos,↓if_neg,if_pos,if_neg,bH,bq,S2,n1];rw[Dw (d:=(o,ks[k])) (by show o.length<=90000000;omega)];rfl
 ·right;obtain rfl:k=ks.length:=ak;intro R kn kx;rw[HQ];simp(disch:=omega) only[↓S1,↓if_pos,↓if_neg,if_pos,if_neg,bH,bq,S2,wa,BY,aL];rfl
theorem ah5:(sj.jR 0 pY):=by
 refine(sj.lp 0 pY) (λ(o,bs,n,i)=>bs.length - i.toNat) ?_
 rintro⟨o,bs,n,i⟩ ⟨hb,h4,hl,rfl,k,hk,rfl⟩;have h4:bs.length<=4:=h4;have hk:k<=bs.length:=hk;have hl:o.length<=1000+200*(k:Int).toNat:=hl;rw[aa]at hl;by_cases h:k < bs.length
 ·left;have hx:=hb _ (aN h);have n1:nth (.pair (.slice (.int .u64)) (.pair (.int .i64) (.pair (.int .i64) (.pair (.int .u64) .unit)))) bs k=bs[k]:=bW (t:=(.pair (.slice (.int .u64)) (.pair (.int .i64) (.pair (.int .i64) (.pair (.int .u64) .unit))))) h;have e0:=agI o bs[k] hx.1;refine⟨(aAz o bs[k],bs,bs.length,((k+1:Nat):Int)),⟨hb,h4,by rw[aa];omega,rfl,k+1,ak,rfl⟩,by simp only[aa];omega,?_,λkn kx=> ?_⟩
  ·simp only[bn,HN,aa];rw[aq h];rfl
  ·rw[HO,aU ak,bg ak ak,aa,n1];obtain⟨⟨ks,af,dl,sc,u⟩,aNd⟩:∃b,bs[k]=b:=⟨_,rfl⟩;rw[aNd]at hx e0 ⊢;obtain⟨aeZ,ha,hd⟩:=hx;have aeZ:ks.length<=12:=aeZ;have ha:af<=9223372036854775807:=ha;have hd:dl<=9223372036854775807:=hd;have l1:=dq o ks.length;have l2:=JR ks (cD o ks.length);have l3:=dq (l9 (cD o ks.length) ks) af;have l4:=dq (cD (l9 (cD o ks.length) ks) af) dl;simp only[aj];rw[jk (d:=(o,(ks.length:Int))) ⟨by show o.length<=90000000;omega,by show(ks.length:Int)<=9223372036854775807;omega⟩];simp only[ah,bn,oI];rw[acU (d:=(cD o ks.length,bs,bs.length,k,ks,ks.length,0,(ks,af,dl,sc,u))) ⟨aeZ,by show(cD o ks.length).length+8*ks.length<=_;omega,rfl,0,ak,rfl⟩];simp only[ah,wa,BY,aZ,aG];rw[jk (d:=(l9 (cD o ks.length) ks,af)) ⟨by show(l9 (cD o ks.length) ks).length<=90000000;omega,ha⟩];simp only[ah,bn,oI];rw[jk (d:=(cD (l9 (cD o ks.length) ks) af,dl)) ⟨by show(cD (l9 (cD o ks.length) ks) af).length<=90000000;omega,hd⟩];simp only[ah,bn,oI];rw[Dw (d:=(cD (cD (l9 (cD o ks.length) ks) af) dl,sc)) (by show(cD (cD (l9 (cD o ks.length) ks) af) dl).length<=90000000;omega)];simp only[ah,bn,ON];rw[N.mu ak];rfl
 ·right;obtain rfl:k=bs.length:=ak;intro R kn kx;rw[HO];simp(disch:=omega) only[↓S1,↓if_pos,↓if_neg,if_pos,if_neg,bH,bq,S2,bn,HN,aL];rfl
theorem aqX{l:Lk}(h:kq l=true):(∀b∈l.1,aPk b)/\0 < l.1.length/\l.1.length<=4:=by unfold kq at h;simp only[au,df,bf]at h;exact⟨λb hb=>aMI (h.1 b hb),h.2⟩
theorem axA:sj.Ok:=by
 rintro l ⟨hl,hb⟩;have hl:acx l:=hl;rw[axz,AF (d:=l) ⟨hl,hb⟩];simp only[ah,bn,DH,bn,PF,M5];cases iV:kq l
 ·rfl
 ·obtain⟨h1,h2,h3⟩:=aqX iV;have l1:=dq [] l.1.length;have l0:([]:List Int).length=0:=rfl;simp only[cz,ao,bH];rw[jk (d:=([],(l.1.length:Int))) ⟨by show([]:List Int).length<=90000000;omega,by show(l.1.length:Int)<=9223372036854775807;omega⟩];simp only[ah,bn,oI];rw[acS (d:=(cD [] l.1.length,l.1,l.1.length,0)) ⟨h1,h3,by show(cD [] l.1.length).length<=_;omega,rfl,0,ak,rfl⟩];rfl
theorem JS(l:Lk):(M5 l).length<=1000:=by
 unfold M5;split
 ·rename_i h;obtain⟨h1,h2,h3⟩:=aqX h;have key:∀(bs:List nV) (o:List Int),(∀b∈bs,aPk b)->(bs.foldl aAz o).length<=o.length+200*bs.length:=by
   intro bs
   induction bs with
   |nil=>intro o _;exact ax _
   |cons b bs ih=>
    intro o hb;have e1:=ih (aAz o b) λx hx=>hb x (aJ _ hx)
    have e2:=agI o b (hb b aO).1;rw[bp,aA];omega
  have e:=key l.1 (cD [] l.1.length) h1;have e2:=dq [] l.1.length;have l0:([]:List Int).length=0:=rfl;omega
 ·exact aM _
theorem Y6:sj.RS:=rE [.d N0] sj
def ae9:=sj.eP axA 2 ⟨.fp ah5,⟨.fp ah6,trivial⟩⟩
def awz:(Bs×Bs)->Prop:=λ(b,h)=>b.length+h.length<=100000000/\h.length=32
def OM:(Bs×Bs)->Bs:=λ(b,h)=>b++h
def KE:Fs Tryz.prog awz bn OM:=eK 114 Tryz.f114 (λ(b,h)=>([.d tB b,.d tH h],[])) (λx=>⟨.d tB x,[],[]⟩) [some tB,some tH] [XU]
theorem aCB{R:Type}(b h)(k:K1 R):KE.A (b,h) k=al (Hm.call (b,(cut h 0 32))) λx1=>k (KE.out x1):=bX
theorem aCC:KE.Ok:=by rintro⟨b,h⟩ ⟨h1,h2⟩;have h1:b.length+h.length<=100000000:=h1;have h2:h.length=32:=h2;rw[aCB,eR h2,Jw (d:=(b,h)) h1];rfl
theorem Jx:KE.RS:=rE [.d tB,.d tB] KE
def ak8:=KE.eP aCC
def awx:(Bs×Bs)->Prop:=λ(b,c)=>b.length+c.length<=90000000
def ag9:(Bs×Bs)->Bs:=λ(b,c)=>b++(fV c.length++c)
def X5:Fs Tryz.prog awx bn ag9:=eK 115 Tryz.f115 (λ(b,c)=>([.d tB b,.d tB c],[])) (λx=>⟨.d tB x,[],[]⟩) [some tB,some tB] [atU,Xv] {res:=[some tB]}
theorem aCy{R:Type}(b c)(k:K1 R):X5.A (b,c) k=al (X6.call (c.length:Int)) λx1=>al (oe.call [b,x1,c]) λx2=>k (X5.out x2):=bX
theorem aCz:X5.Ok:=by rintro⟨b,c⟩ h;have h:b.length+c.length<=90000000:=h;have hl:=ka c.length;rw[aCy,alb (d:=(c.length:Int)) ⟨ak,ak⟩];simp only[ah,bn,aqa];rw[TO (d:=[b,fV c.length,c]) ⟨by show [b,fV c.length,c].length<=_;simp,by show uc [b,fV c.length,c]<=_;simp only[uc,jc,pL,bk,ai];omega⟩];simp only[ah,bn,RG,bn,ag9,jc,pL,bk]
theorem awy:X5.RS:=rE [.d tB,.d tB] X5
def aCA:=X5.eP aCz
def JO(b:List Int)(x:gz):List Int:=cD (b++x.1.1) x.1.2.1
def Ki(b:List Int)(o:gG):List Int:=cD b o.1++(fV (M5 o.2.1).length++M5 o.2.1)
def uk(t:dD):List Int:=cD (t.2.1.foldl Ki (cD (t.1.foldl JO (cD [] t.1.length)) t.2.1.length)) t.2.2.1
def aa7(b:List Int)(s:Sg):List Int:=b++iZ s.1++iZ s.2.1
def atf(b:List Int)(x:gz):List Int:=x.2.1.2.1.foldl aa7 (cD (cD b x.2.1.1) x.2.1.2.1.length)++iZ x.2.1.2.2.1
def as7(t:dD):List Int:=if gO t then t.1.foldl atf (uk t) else []
def nR(t:dD):List Int:=if gO t then tag (bG (⟨#[116,120]⟩:ByteArray)) [uk t] else ab 32 0
def aTB(x:gz):Prop:=Sm x.1.1/\acz x.2.1/\x.2.1.2.1.length<=9223372036854775807
def qv(t:dD):Prop:=aOH t/\(∀x∈t.1,aTB x)/\t.2.2.1<=9223372036854775807
theorem l6:∀(l:List gz) (m:List (bu×Bool)),DF m l=true->∀x∈l,HJ x=true
 |[],_,_,x,hx=>by cases hx
 |y::l,m,h,x,hx=>by
  rw[DF,au,au]at h;rcases cn.1 hx with rfl | hx
  ·exact h.1.2
  ·exact l6 l _ h.2 x hx
theorem j4:∀(l:List gG) (s:Int),xA s l=true->∀o∈l,(0<=o.1/\o.1<=1125899906842624)/\kq o.2.1=true
 |[],_,_,o,ho=>by cases ho
 |y::l,s,h,o,ho=>by
  rw[xA,au,au]at h;rcases cn.1 ho with rfl | ho
  ·have h1:=h.1.1;unfold Ko rU at h1;simp only[au,bf]at h1;exact⟨h1.2.1,h.1.2⟩
  ·exact j4 l _ h.2 o ho
theorem Ax{x:gz}(h:HJ x=true):0<=x.1.2.1/\x.1.2.1 < 64/\0<=x.2.1.1/\x.2.1.1 < 4/\x.2.1.2.1.length<=12:=by unfold HJ Bi at h;simp only[au,bf]at h;exact⟨h.1.1,h.1.2,h.2.1.1,h.2.1.2,h.2.2⟩
theorem jv{t:dD}(h:gO t=true):(1<=t.1.length/\t.1.length<=64/\t.2.1.length<=64/\0<=t.2.2.1)/\DF [] t.1=true/\xA 0 t.2.1=true:=by unfold gO ab0 at h;simp only[au,bf]at h;exact h
theorem ahU(b:List Int)(x:gz):(JO b x).length<=b.length+x.1.1.length+11:=by have:=dq (b++x.1.1) x.1.2.1;rw[ai]at this;exact this
theorem ZZ(b:List Int)(o:gG):(Ki b o).length<=b.length+1022:=by have h1:=dq b o.1;have h2:=ka (M5 o.2.1).length;have h3:=JS o.2.1;unfold Ki;rw[ai,ai];omega
theorem an5(b:List Int)(s:Sg):(aa7 b s).length=b.length+16:=by unfold aa7;rw[ai,ai,b8,b8]
abbrev I7:=dD×Bs×(List gz)×Int×Int
def wJ:I7->Bs->((dD)×(Bs)):=λ(tg,b,t13,t14,t15) y=>(tg,y)
abbrev I9:=dD×Bs×(List gG)×Int×Int
def wK:I9->Bs->((dD)×(Bs)):=λ(zR,gI,t35,t36,t37) y=>(zR,y)
def adK:I7->Prop:=λ(t,b,l,n,i)=>(l).length<=1000000000/\∃k:Nat,k<=(l).length/\i=k/\n=(l).length/\(l.length<=64)/\(∀x∈l,x.1.1.length=32/\x.1.2.1<=9223372036854775807)/\(b.length<=100+50*k)
def Cr:I7->Bs:=λ(t,b,l,n,i)=>(bS (ae i) l).foldl JO b
def adM:I9->Prop:=λ(t,b,l,n,i)=>(l).length<=1000000000/\∃k:Nat,k<=(l).length/\i=k/\n=(l).length/\(l.length<=64)/\(∀o∈l,o.1<=9223372036854775807/\aOG o.2.1)/\(b.length<=4000+1100*k)
def Cs:I9->Bs:=λ(t,b,l,n,i)=>(bS (ae i) l).foldl Ki b
def asU:dD->Prop:=λt=>gO t=true/\qv t
def abI:dD->Bs:=λt=>uk t
def qp:Ls adK wJ Cr:=qz (λ(tg,b,t13,t14,t15)=>⟨([bB,.dO eJ tg,bB,.d tB b]++aQ 9 ([.d (.slice fX) t13,.d ti t14,.d ti t15]++aQ 38 [])),[],(ab 54 [])⟩) (λx=>(.exit 0,⟨([bB,.dO eJ x.1,bB,.d tB x.2]++aQ 50 []),[],(ab 54 [])⟩))
def qq:Ls adM wK Cs:=qz (λ(zR,gI,t35,t36,t37)=>⟨([bB,.dO eJ zR,bB,.d tB gI]++aQ 31 ([.d (.slice iX) t35,.d ti t36,.d ti t37]++aQ 16 [])),[],(ab 54 [])⟩) (λx=>(.exit 2,⟨([bB,.dO eJ x.1,bB,.d tB x.2]++aQ 50 []),[],(ab 54 [])⟩))
def uw:Fs Tryz.prog asU bn abI:=eK 69 Tryz.f69 (λt=>([.d eJ t],[])) (λx=>⟨.d tB x,[],[]⟩) [some eJ] [WA,ak8,ae9,aCA] {loops:=nF [(3,{aV:=[1,3,13,14,15]}),(9,{aV:=[1,3,35,36,37]})],outs:=nE [(3,{aV:=[1,3]},{aV:=[2]}),(9,{aV:=[1,3]},{aV:=[2]})],fw:=nr [(3,qp.E),(9,qq.E)],res:=[some tB]}
theorem adL:qp.RS:=rL [.d eJ,.d tB,.d (.slice fX),.d ti,.d ti] qp
theorem I8{R:Type}(tg b t13 t14 t15)(kn:K2 R)(kx:K3 R):uw.R 0 qp (tg,b,t13,t14,t15) kn kx=aH ((fR t15 t14)) (aH (eg t15 (t13.length:Int)) (al (KE.call (b,(nth fX t13 (ae t15)).1.1)) λx1=>al (Ah.call (x1,(nth fX t13 (ae t15)).1.2.1)) λx2=>kn (qp.st (tg,x2,t13,t14,(bI .i64 t15 1)))) none) (qp.go kx (tg,b)):=bX
theorem adN:qq.RS:=rL [.d eJ,.d tB,.d (.slice iX),.d ti,.d ti] qq
theorem Ja{R:Type}(zR gI t35 t36 t37)(kn:K2 R)(kx:K3 R):uw.R 1 qq (zR,gI,t35,t36,t37) kn kx=aH ((fR t37 t36)) (aH (eg t37 (t35.length:Int)) (al (Ah.call (gI,(nth iX t35 (ae t37)).1)) λx1=>al (sj.call (nth iX t35 (ae t37)).2.1) λx2=>al (X5.call (x1,x2)) λx3=>kn (qq.st (zR,x3,t35,t36,(bI .i64 t37 1)))) none) (qq.go kx (zR,gI)):=bX
theorem azQ{R:Type}(t)(k:K1 R):uw.A t k=al (Ah.call (([]:List Int),(t.1.length:Int))) λx1=>al (qp.call (t,x1,t.1,(t.1.length:Int),0)) λx4=>al (Ah.call (x4.2,(x4.1.2.1.length:Int))) λx5=>al (qq.call (x4.1,x5,x4.1.2.1,(x4.1.2.1.length:Int),0)) λx9=>al (Ah.call (x9.2,x9.1.2.2.1)) λaoO=>k (uw.out aoO):=bX
theorem ajk:(uw.jR 0 qp):=by
 refine(uw.lp 0 qp) (λ(t,b,l,n,i)=>(l).length - ae i) ?_
 rintro⟨t,b,l,n,i⟩ ⟨hlen,k,hk,rfl,rfl,EY,hx,hb⟩;have hlen:(l).length<=1000000000:=hlen;have hk:k<=(l).length:=hk;have EY:l.length<=64:=EY;have hx:∀x∈l,x.1.1.length=32/\x.1.2.1<=9223372036854775807:=hx;have hb:b.length<=100+50*k:=hb;by_cases h:k < (l).length
 ·left;have n1:nth fX l k=l[k]:=bW (t:=fX) h;have hd:bS k l=l[k]::bS (k+1) l:=aq h;refine⟨(t,(JO b l[k]),l,((l).length:Int),((k+1:Nat):Int)),⟨hlen,k+1,ak,rfl,rfl,EY,hx,by have:=ahU b l[k];have:=(hx _ (aN h)).1;omega⟩,by simp only[aa];omega,?_,λkn kx=> ?_⟩
  ·simp only[wJ,Cr,aa,hd,bp]
  ·rw[I8,aU ak,bg ak ak,aa,n1];simp only[aj];have e:=hx _ (aN h);have e2:(b++l[k].1.1).length=b.length+l[k].1.1.length:=ai;rw[Jx (d:=(b,l[k].1.1)) ⟨by show b.length+l[k].1.1.length<=_;omega,e.1⟩];simp only[ah,bn,OM];rw[jk (d:=(b++l[k].1.1,l[k].1.2.1)) ⟨by show(b++l[k].1.1).length<=_;omega,e.2⟩];simp only[ah,bn,oI];rw[N.mu ak];rfl
 ·right;obtain rfl:k=(l).length:=ak;intro R kn kx;rw[I8,aP ak,ao];simp only[wJ,Cr,aa,aL,cO]
theorem ajl:(uw.jR 1 qq):=by
 refine(uw.lp 1 qq) (λ(t,b,l,n,i)=>(l).length - ae i) ?_
 rintro⟨t,b,l,n,i⟩ ⟨hlen,k,hk,rfl,rfl,EY,hx,hb⟩;have hlen:(l).length<=1000000000:=hlen;have hk:k<=(l).length:=hk;have EY:l.length<=64:=EY;have hx:∀o∈l,o.1<=9223372036854775807/\aOG o.2.1:=hx;have hb:b.length<=4000+1100*k:=hb;by_cases h:k < (l).length
 ·left;have n1:nth iX l k=l[k]:=bW (t:=iX) h;have hd:bS k l=l[k]::bS (k+1) l:=aq h;refine⟨(t,(Ki b l[k]),l,((l).length:Int),((k+1:Nat):Int)),⟨hlen,k+1,ak,rfl,rfl,EY,hx,by have:=ZZ b l[k];omega⟩,by simp only[aa];omega,?_,λkn kx=> ?_⟩
  ·simp only[wK,Cs,aa,hd,bp]
  ·rw[Ja,aU ak,bg ak ak,aa,n1];simp only[aj];have e:=hx _ (aN h);have e1:=dq b l[k].1;have e2:=JS l[k].2.1;rw[jk (d:=(b,l[k].1)) ⟨by show b.length<=_;omega,e.1⟩];simp only[ah,bn,oI];rw[Y6 (d:=l[k].2.1) e.2];simp only[ah,bn,PF];rw[awy (d:=(cD b l[k].1,M5 l[k].2.1)) (by show(cD b l[k].1).length+(M5 l[k].2.1).length<=_;omega)];simp only[ah,bn,ag9];rw[N.mu ak];rfl
 ·right;obtain rfl:k=(l).length:=ak;intro R kn kx;rw[Ja,aP ak,ao];simp only[wK,Cs,aa,aL,cO]
theorem WO:∀(l:List gz) (b:List Int),(∀x∈l,x.1.1.length=32)->(l.foldl JO b).length<=b.length+43*l.length
 |[],b,_=>ax _
 |x::l,b,h=>by
  have h1:=ahU b x;have h2:=h x aO;have h3:=WO l (JO b x) λy hy=>h y (aJ _ hy)
  rw[bp,aA];omega
theorem PZ:∀(l:List gG) (b:List Int),(l.foldl Ki b).length<=b.length+1022*l.length
 |[],b=>ax _
 |x::l,b=>by have h1:=ZZ b x;have h3:=PZ l (Ki b x);rw[bp,aA];omega
theorem Ns{t:dD}(iV:gO t=true)(hv:qv t):(uk t).length<=70000:=by
 obtain⟨⟨_,a2,a3,_⟩,_,_⟩:=jv iV;have h1:=WO t.1 (cD [] t.1.length) λx hx=>(hv.2.1 x hx).1.1
 have h2:=dq [] t.1.length;have h3:=dq (t.1.foldl JO (cD [] t.1.length)) t.2.1.length;have h4:=PZ t.2.1 (cD (t.1.foldl JO (cD [] t.1.length)) t.2.1.length);have h5:=dq (t.2.1.foldl Ki (cD (t.1.foldl JO (cD [] t.1.length)) t.2.1.length)) t.2.2.1;have h0:([]:List Int).length=0:=rfl;unfold uk;omega
theorem azR:uw.Ok:=by
 rintro t ⟨iV,hv⟩;have hv:qv t:=hv;obtain⟨⟨_,a2,a3,_⟩,b1,b2⟩:=jv iV;have h0:([]:List Int).length=0:=rfl;have l0:=dq [] t.1.length;have l1:=WO t.1 (cD [] t.1.length) λx hx=>(hv.2.1 x hx).1.1
 have l2:=dq (t.1.foldl JO (cD [] t.1.length)) t.2.1.length;have l3:=PZ t.2.1 (cD (t.1.foldl JO (cD [] t.1.length)) t.2.1.length);rw[azQ,jk (d:=([],(t.1.length:Int))) ⟨by show([]:List Int).length<=_;omega,by show(t.1.length:Int)<=_;omega⟩];simp only[ah,bn,oI];rw[adL (d:=(t,cD [] t.1.length,t.1,t.1.length,0)) ⟨by show t.1.length<=_;omega,0,aM _,rfl,rfl,a2,λx hx=>⟨(hv.2.1 x hx).1.1,by have:=Ax (l6 _ _ b1 x hx);omega⟩,by show(cD [] t.1.length).length<=_;omega⟩];simp only[ah,wJ,Cr,aZ,aG];rw[jk (d:=(t.1.foldl JO (cD [] t.1.length),(t.2.1.length:Int))) ⟨by show(t.1.foldl JO (cD [] t.1.length)).length<=_;omega,by show(t.2.1.length:Int)<=_;omega⟩];simp only[ah,bn,oI];rw[adN (d:=(t,cD (t.1.foldl JO (cD [] t.1.length)) t.2.1.length,t.2.1,t.2.1.length,0)) ⟨by show t.2.1.length<=_;omega,0,aM _,rfl,rfl,a3,λo ho=>⟨by have:=(j4 _ _ b2 o ho).1;omega,hv.1.1 o ho⟩,by show(cD (t.1.foldl JO (cD [] t.1.length)) t.2.1.length).length<=_;omega⟩];simp only[ah,wK,Cs,aZ,aG];rw[jk (d:=(t.2.1.foldl Ki (cD (t.1.foldl JO (cD [] t.1.length)) t.2.1.length),t.2.2.1)) ⟨by show(t.2.1.foldl Ki (cD (t.1.foldl JO (cD [] t.1.length)) t.2.1.length)).length<=_;omega,hv.2.2⟩];rfl
theorem abJ:uw.RS:=rE [.d eJ] uw
def aga:=uw.eP azR 2 ⟨.fp ajk,⟨.fp ajl,trivial⟩⟩
def ao2(t:dD):Prop:=(t.1.length<=1000000000/\∀x∈t.1,x.2.1.2.1.length<=1000000000)/\t.2.1.length<=1000000000/\∀x∈t.2.1,x.2.1.1.length<=1000000000/\∀b∈x.2.1.1,b.1.length<=1000000000
def xL(n:Int)(x:gz):Int:=n+(10+8*x.2.1.2.1.length)+(if x.2.1.2.2.1=0 then 0 else 4)
def FW(t:dD):Int:=if gO t then t.1.foldl xL (10+8*t.2.1.length) else 0
def dM(t:dD):List bu:=if gO t then t.1.map (·.1) else []
def Gg(id:List Int)(k n:Nat):List bu:=(List.range' k n).map λi:Nat=>(id,((i:Int),()))
def gM(t:dD):List bu:=if gO t then Gg (nR t) 0 t.2.1.length else []
def aLh:dD->Prop:=λt=>qv t
def abC:dD->Bs:=λt=>nR t
def tid:Fs Tryz.prog aLh bn abC:=eK 32 Tryz.f32 (λt=>([.d eJ t],[])) (λx=>⟨.d tH x,[],[]⟩) [some eJ] [tc,aga,WL]
theorem aOs{R:Type}(t)(k:K1 R):tid.A t k=al (iw.call t) λx1=>aH ((!x1)) (k (tid.out (ab 32 0))) (al (uw.call t) λx2=>al (Sk.call ((⟨#[116,120]⟩:ByteArray),[x2])) λx3=>k (tid.out x3)):=bX
theorem aOt:tid.Ok:=by
 intro t hv;have hv:qv t:=hv;rw[aOs,pB (d:=t) hv.1];simp only[ah,bn,re,bn,abC,nR];cases iV:gO t
 ·rfl
 ·have hl:=Ns iV hv;rw[abJ (d:=t) ⟨iV,hv⟩];simp only[cz,ao,bH,ah,bn,abI];rw[Pt (d:=((⟨#[116,120]⟩:ByteArray),[uk t])) (QR (by decide) ak)];rfl
theorem QX:tid.RS:=rE [.d eJ] tid
def abD:=tid.eP aOt
abbrev Q4:=Int×(List gz)×Int×Int
def abX:Q4->Prop:=λ(n,l,m,i)=>(l).length<=1000000000/\∃k:Nat,k<=(l).length/\i=k/\m=(l).length/\(l.length<=64)/\(∀x∈l,x.2.1.2.1.length<=12)/\(0<=n)/\(n<=1000+200*(k:Int))
def zz:Q4->Int:=λ(n,l,m,i)=>(bS (ae i) l).foldl xL n
def aoA:dD->Prop:=λt=>qv t
def TC:dD->Int:=λt=>FW t
def lJ:Ls abX bn zz:=qz (λ(n,t15,t16,t17)=>⟨([bB,bB,bB,.d ti n]++aQ 11 ([.d (.slice fX) t15,.d ti t16,.d ti t17]++aQ 19 [])),[],(ab 37 [])⟩) (λx=>(.exit 0,⟨([bB,bB,bB,.d ti x]++aQ 33 []),[],(ab 37 [])⟩))
def uC:Fs Tryz.prog aoA bn TC:=eK 242 Tryz.f242 (λt=>([.d eJ t],[])) (λx=>⟨.d ti x,[],[]⟩) [some eJ] [tc] {loops:=nF [(5,{aV:=[3,15,16,17]})],outs:=nE [(5,{aV:=[3]},{aV:=[2]})],fw:=nr [(5,lJ.E)]}
theorem abY:lJ.RS:=rL [.d ti,.d (.slice fX),.d ti,.d ti] lJ
theorem GD{R:Type}(n t15 t16 t17)(kn:K2 R)(kx:K3 R):uC.R 0 lJ (n,t15,t16,t17) kn kx=aH ((fR t17 t16)) (aH (eg t17 (t15.length:Int)) (aH ((BT (nth fX t15 (ae t17)).2.1.2.2.1 0)) (kn (lJ.st ((bI .i64 (bI .i64 n (bI .i64 10 (fZ .i64 8 (((ag (nth fX t15 (ae t17)).2.1.2.1):Nat):Int)))) 4),t15,t16,(bI .i64 t17 1)))) (kn (lJ.st ((bI .i64 n (bI .i64 10 (fZ .i64 8 (((ag (nth fX t15 (ae t17)).2.1.2.1):Nat):Int)))),t15,t16,(bI .i64 t17 1))))) none) (lJ.go kx n):=bX
theorem as4{R:Type}(t)(k:K1 R):uC.A t k=al (iw.call t) λx1=>aH ((!x1)) (k (uC.out 0)) (al (lJ.call ((bI .i64 10 (fZ .i64 8 (t.2.1.length:Int))),t.1,(t.1.length:Int),0)) λx2=>k (uC.out x2)):=bX
theorem adR:(uC.jR 0 lJ):=by
 refine(uC.lp 0 lJ) (λ(n,l,m,i)=>(l).length - ae i) ?_
 rintro⟨n,l,m,i⟩ ⟨hlen,k,hk,rfl,rfl,EY,hx,h0,h1⟩;have hlen:(l).length<=1000000000:=hlen;have hk:k<=(l).length:=hk;have EY:l.length<=64:=EY;have hx:∀x∈l,x.2.1.2.1.length<=12:=hx;have h0:0<=n:=h0;have h1:n<=1000+200*(k:Int):=h1;by_cases h:k < (l).length
 ·left;have n1:nth fX l k=l[k]:=bW (t:=fX) h;have hd:bS k l=l[k]::bS (k+1) l:=aq h;refine⟨((xL n l[k]),l,((l).length:Int),((k+1:Nat):Int)),⟨hlen,k+1,ak,rfl,rfl,EY,hx,by unfold xL;split <;> omega,by have:=hx _ (aN h);unfold xL;split <;> omega⟩,by simp only[aa];omega,?_,λkn kx=> ?_⟩
  ·simp only[bn,zz,aa,hd,bp]
  ·rw[GD,aU ak,bg ak ak,aa,n1];simp only[aj];have e:=hx _ (aN h);rw[N.aQw ak];have e2:bI .i64 10 ((8*l[k].2.1.2.1.length:Nat):Int)=10+8*(l[k].2.1.2.1.length:Int):=by rw[fG ak ak];omega
   rw[e2,fG (x:=n) ak ak,N.mu ak];unfold xL;by_cases hs:l[k].2.1.2.2.1=0
   ·rw[dA hs,ao,if_pos hs,Int.add_zero]
   ·rw[fe hs,aj,if_neg hs,fG ak ak]
 ·right;obtain rfl:k=(l).length:=ak;intro R kn kx;rw[GD,aP ak,ao];simp only[bn,zz,aa,aL,cO]
theorem as5:uC.Ok:=by
 intro t hv;have hv:qv t:=hv;rw[as4,pB (d:=t) hv.1];simp only[ah,bn,re,bn,TC,FW];cases iV:gO t
 ·rfl
 ·obtain⟨⟨_,a2,a3,_⟩,b1,b2⟩:=jv iV;rw[N.aQw ak,fG ak ak,abY (d:=(10+((8*t.2.1.length:Nat):Int),t.1,t.1.length,0)) ⟨by show t.1.length<=_;omega,0,aM _,rfl,rfl,a2,λx hx=>(Ax (l6 _ _ b1 x hx)).2.2.2.2,by show(0:Int)<=10+((8*t.2.1.length:Nat):Int);omega,by show 10+((8*t.2.1.length:Nat):Int)<=_;omega⟩];simp only[ah,bn,zz,aZ,aG,cz,ao,bH,ku];rfl
theorem aoB:uC.RS:=rE [.d eJ] uC
def as6:=uC.eP as5 1 ⟨.fp adR,trivial⟩
abbrev VB:=Bs×(List gz)×Int×Int
abbrev I3:=Bs×(List gz)×Int×Int×(List Sg)×Int×Int×gz
def wI:I3->Bs->(((List gz)×Int×Int×gz)×(Bs)):=λ(gI,abm,abn,A6,t32,t33,t34,n5) y=>((abm,abn,A6,n5),y)
def adF:I3->Prop:=λ(b,l1,aRt,i1,l,n,i,x)=>(l).length<=1000000000/\∃k:Nat,k<=(l).length/\i=k/\n=(l).length/\(l.length<=12)/\(b.length<=80000000+16*k)
def Cp:I3->Bs:=λ(b,l1,aRt,i1,l,n,i,x)=>(bS (ae i) l).foldl aa7 b
def adD:VB->Prop:=λ(b,l,n,i)=>(l).length<=1000000000/\∃k:Nat,k<=(l).length/\i=k/\n=(l).length/\(l.length<=64)/\(∀x∈l,x.2.1.2.1.length<=12/\x.2.1.1<=9223372036854775807)/\(b.length<=100000+1000*k)
def I1:VB->Bs:=λ(b,l,n,i)=>(bS (ae i) l).foldl atf b
theorem aa8:∀(l:List Sg) (b:List Int),(l.foldl aa7 b).length=b.length+16*l.length
 |[],b=>rfl
 |x::l,b=>by have h1:=an5 b x;have h3:=aa8 l (aa7 b x);rw[bp,aA];omega
theorem aHl(b:List Int)(x:gz)(h:x.2.1.2.1.length<=12):(atf b x).length<=b.length+300:=by have e1:=dq b x.2.1.1;have e2:=dq (cD b x.2.1.1) x.2.1.2.1.length;have e3:=aa8 x.2.1.2.1 (cD (cD b x.2.1.1) x.2.1.2.1.length);unfold atf;rw[ai,b8];omega
def asO:dD->Prop:=λt=>qv t
def I0:dD->Bs:=λt=>as7 t
def qn:Ls adD bn I1:=qz (λ(b,t14,t15,t16)=>⟨([bB,bB,bB,.d tB b]++aQ 10 ([.d (.slice fX) t14,.d ti t15,.d ti t16]++aQ 36 [])),[],(ab 53 [])⟩) (λx=>(.exit 0,⟨([bB,bB,bB,.d tB x]++aQ 49 []),[],(ab 53 [])⟩))
def qo:Ls adF wI Cp:=qz (λ(gI,abm,abn,A6,t32,t33,t34,n5)=>⟨([bB,bB,bB,.d tB gI,bB,eI 5]++aQ 8 ([.d (.slice fX) abm,.d ti abn,.d ti A6]++aQ 15 ([.d (.slice zQ) t32,.d ti t33,.d ti t34]++aQ 18 []))),[],(bD 5 ([dK (.d fX n5)]++bD 47 []))⟩) (λx=>(.exit 2,⟨([bB,bB,bB,.d tB x.2,bB,eI 5]++aQ 8 ([.d (.slice fX) x.1.1,.d ti x.1.2.1,.d ti x.1.2.2.1]++aQ 36 [])),[],(bD 5 ([dK (.d fX x.1.2.2.2)]++bD 47 []))⟩))
def qI:Fs Tryz.prog asO bn I0:=eK 74 Tryz.f74 (λt=>([.d eJ t],[])) (λx=>⟨.d tB x,[],[]⟩) [some eJ] [tc,aga,WA,ak9] {loops:=nF [(5,{aV:=[3,14,15,16]}),(9,{aV:=[3,5,14,15,16,32,33,34],sites:=[5]})],outs:=nE [(5,{aV:=[3]},{aV:=[2]}),(9,{aV:=[3,5,14,15,16],sites:=[5]},{aV:=[2]})],fw:=nr [(5,qn.E),(9,qo.E)],res:=[some tB]}
theorem adE:qn.RS:=rL [.d tB,.d (.slice fX),.d ti,.d ti] qn
theorem I2{R:Type}(b t14 t15 t16)(kn:K2 R)(kx:K3 R):qI.R 0 qn (b,t14,t15,t16) kn kx=aH ((fR t16 t15)) (aH (eg t16 (t14.length:Int)) (al (Ah.call (b,(nth fX t14 (ae t16)).2.1.1)) λx1=>al (Ah.call (x1,(((ag (nth fX t14 (ae t16)).2.1.2.1):Nat):Int))) λx2=>al (qo.call (x2,t14,t15,t16,(nth fX t14 (ae t16)).2.1.2.1,(((ag (nth fX t14 (ae t16)).2.1.2.1):Nat):Int),0,(nth fX t14 (ae t16)))) λx3=>al (Hr.call (x3.2,x3.1.2.2.2.2.1.2.2.1)) λx4=>kn (qn.st (x4,x3.1.1,x3.1.2.1,(bI .i64 x3.1.2.2.1 1)))) none) (qn.go kx b):=bX
theorem adG:qo.RS:=rL [.d tB,.d (.slice fX),.d ti,.d ti,.d (.slice zQ),.d ti,.d ti,.d fX] qo
theorem I4{R:Type}(gI abm abn A6 t32 t33 t34 n5)(kn:K2 R)(kx:K3 R):qI.R 1 qo (gI,abm,abn,A6,t32,t33,t34,n5) kn kx=aH ((fR t34 t33)) (aH (eg t34 (t32.length:Int)) (al (Hr.call (gI,(nth zQ t32 (ae t34)).1)) λx1=>al (Hr.call (x1,(nth zQ t32 (ae t34)).2.1)) λx2=>kn (qo.st (x2,abm,abn,A6,t32,t33,(bI .i64 t34 1),n5))) none) (qo.go kx ((abm,abn,A6,n5),gI)):=bX
theorem azM{R:Type}(t)(k:K1 R):qI.A t k=al (iw.call t) λx1=>aH ((!x1)) (k (qI.out ([]:List Int))) (al (uw.call t) λx2=>al (qn.call (x2,t.1,(t.1.length:Int),0)) λx9=>k (qI.out x9)):=bX
theorem ajg:(qI.jR 1 qo):=by
 refine(qI.lp 1 qo) (λ(b,l1,aRt,i1,l,n,i,x)=>(l).length - ae i) ?_
 rintro⟨b,l1,aRt,i1,l,n,i,x⟩ ⟨hlen,k,hk,rfl,rfl,aeZ,hb⟩;have hlen:(l).length<=1000000000:=hlen;have hk:k<=(l).length:=hk;have aeZ:l.length<=12:=aeZ;have hb:b.length<=80000000+16*k:=hb;by_cases h:k < (l).length
 ·left;have n1:nth zQ l k=l[k]:=bW (t:=zQ) h;have hd:bS k l=l[k]::bS (k+1) l:=aq h;refine⟨((aa7 b l[k]),l1,aRt,i1,l,((l).length:Int),((k+1:Nat):Int),x),⟨hlen,k+1,ak,rfl,rfl,aeZ,by have:=an5 b l[k];omega⟩,by simp only[aa];omega,?_,λkn kx=> ?_⟩
  ·simp only[wI,Cp,aa,hd,bp]
  ·rw[I4,aU ak,bg ak ak,aa,n1];simp only[aj];rw[Dw (d:=(b,l[k].1)) (by show b.length<=_;omega)];simp only[ah,bn,ON];rw[Dw (d:=(b++iZ l[k].1,l[k].2.1)) (by show(b++iZ l[k].1).length<=_;rw[ai,b8];omega)];simp only[ah,bn,ON];rw[N.mu ak];rfl
 ·right;obtain rfl:k=(l).length:=ak;intro R kn kx;rw[I4,aP ak,ao];simp only[wI,Cp,aa,aL,cO]
theorem ajf:(qI.jR 0 qn):=by
 refine(qI.lp 0 qn) (λ(b,l,n,i)=>(l).length - ae i) ?_
 rintro⟨b,l,n,i⟩ ⟨hlen,k,hk,rfl,rfl,EY,hx,hb⟩;have hlen:(l).length<=1000000000:=hlen;have hk:k<=(l).length:=hk;have EY:l.length<=64:=EY;have hx:∀x∈l,x.2.1.2.1.length<=12/\x.2.1.1<=9223372036854775807:=hx;have hb:b.length<=100000+1000*k:=hb;by_cases h:k < (l).length
 ·left;have n1:nth fX l k=l[k]:=bW (t:=fX) h;have hd:bS k l=l[k]::bS (k+1) l:=aq h;refine⟨((atf b l[k]),l,((l).length:Int),((k+1:Nat):Int)),⟨hlen,k+1,ak,rfl,rfl,EY,hx,by have:=aHl b l[k] (hx _ (aN h)).1;omega⟩,by simp only[aa];omega,?_,λkn kx=> ?_⟩
  ·simp only[bn,I1,aa,hd,bp]
  ·rw[I2,aU ak,bg ak ak,aa,n1];simp only[aj];have e:=hx _ (aN h);have e1:=dq b l[k].2.1.1;have e2:=dq (cD b l[k].2.1.1) l[k].2.1.2.1.length;have e3:=aa8 l[k].2.1.2.1 (cD (cD b l[k].2.1.1) l[k].2.1.2.1.length);rw[jk (d:=(b,l[k].2.1.1)) ⟨by show b.length<=_;omega,e.2⟩];simp only[ah,bn,oI];rw[jk (d:=(cD b l[k].2.1.1,(l[k].2.1.2.1.length:Int))) ⟨by show(cD b l[k].2.1.1).length<=_;omega,by show(l[k].2.1.2.1.length:Int)<=_;omega⟩];simp only[ah,bn,oI];rw[adG (d:=(cD (cD b l[k].2.1.1) l[k].2.1.2.1.length,l,l.length,k,l[k].2.1.2.1,l[k].2.1.2.1.length,0,l[k])) ⟨by show l[k].2.1.2.1.length<=_;omega,0,aM _,rfl,rfl,e.1,by show(cD (cD b l[k].2.1.1) l[k].2.1.2.1.length).length<=_;omega⟩];simp only[ah,wI,Cp,aZ,aG];rw[Dw (d:=(l[k].2.1.2.1.foldl aa7 (cD (cD b l[k].2.1.1) l[k].2.1.2.1.length),l[k].2.1.2.2.1)) (by show(l[k].2.1.2.1.foldl aa7 (cD (cD b l[k].2.1.1) l[k].2.1.2.1.length)).length<=_;omega)];simp only[ah,bn,ON];rw[N.mu ak];rfl
 ·right;obtain rfl:k=(l).length:=ak;intro R kn kx;rw[I2,aP ak,ao];simp only[bn,I1,aa,aL,cO]
theorem azN:qI.Ok:=by
 intro t hv;have hv:qv t:=hv;rw[azM,pB (d:=t) hv.1];simp only[ah,bn,re,bn,I0,as7];cases iV:gO t
 ·rfl
 ·obtain⟨⟨_,a2,a3,_⟩,b1,b2⟩:=jv iV;have hl:=Ns iV hv;rw[abJ (d:=t) ⟨iV,hv⟩];simp only[cz,ao,bH,ah,bn,abI];rw[adE (d:=(uk t,t.1,t.1.length,0)) ⟨by show t.1.length<=_;omega,0,aM _,rfl,rfl,a2,λx hx=>by have:=Ax (l6 _ _ b1 x hx);exact⟨this.2.2.2.2,ak⟩,by show(uk t).length<=_;omega⟩];rfl
theorem NI:qI.RS:=rE [.d eJ] qI
def Tz:=qI.eP azN 2 ⟨.fp ajf,⟨.fp ajg,trivial⟩⟩
abbrev Q2:=Nat×(List gz)×Int×Int×(List bu)
def abU:Q2->Prop:=λ(L,l,n,i,r)=>(l).length<=1000000/\∃k:Nat,k<=(l).length/\i=k/\n=(l).length/\L=(r).length/\(r).length<=1000000+k
def zy:Q2->(Nat×(List bu)):=λ(L,l,n,i,r)=>(L+(bS (ae i) l).length,r++(bS (ae i) l).map (λx:gz=>x.1))
def aoz:dD->Prop:=λt=>aOH t
def J4:dD->(List bu):=λt=>dM t
def nj:Ls abU bn zy:=qz (λ(lL,t9,t10,t11,n19)=>⟨([bB,bB,nG 19 lL]++aQ 6 ([.d (.slice fX) t9,.d ti t10,.d ti t11]++aQ 10 [])),[],(bD 19 [dK (.vec 38 aW n19),[],[]])⟩) (λx=>(.exit 0,⟨([bB,bB,nG 19 x.1]++aQ 19 []),[],(bD 19 [dK (.vec 38 aW x.2),[],[]])⟩))
def rN:Fs Tryz.prog aoz bn J4:=eK 72 Tryz.f72 (λt=>([.d eJ t],[])) (λx=>⟨.d (.slice aW) x,[],[]⟩) [some eJ] [tc] {loops:=nF [(4,{aV:=[2,9,10,11],sites:=[19],owns:=[⟨2,[],19,46⟩]})],outs:=nE [(4,{aV:=[2],sites:=[19]},{aV:=[2]})],fw:=nr [(4,nj.E)],res:=[some (.slice aW)]}
theorem abV:nj.RS:=rL [.n,.d (.slice fX),.d ti,.d ti,.d (.slice aW)] nj
theorem GC{R:Type}(lL t9 t10 t11 n19)(kn:K2 R)(kx:K3 R):rN.R 0 nj (lL,t9,t10,t11,n19) kn kx=aH ((fR t11 t10)) (aH (eg t11 (t9.length:Int)) (aH (decide (lL<=(ag n19))) (aH (cV (lL+1) 40) (kn (nj.st ((lL+1),t9,t10,(bI .i64 t11 1),((aR lL n19)++ [(nth fX t9 (ae t11)).1])))) none) none) none) (nj.go kx (lL,n19)):=bX
theorem as2{R:Type}(t)(k:K1 R):rN.A t k=al (iw.call t) λx1=>aH ((!x1)) (k (rN.out ([]:List bu))) (al (nj.call (0,t.1,(t.1.length:Int),0,([]:List bu))) λx2=>aH (decide (0=0/\(0+x2.1)<=(ag x2.2))) (k (rN.out (cut x2.2 0 x2.1))) none):=bX
theorem adQ:(rN.jR 0 nj):=by
 refine(rN.lp 0 nj) (λ(L,l,n,i,r)=>(l).length - ae i) ?_
 rintro⟨L,l,n,i,r⟩ ⟨hlen,k,hk,rfl,rfl,rfl,r9⟩;have hlen:(l).length<=1000000:=hlen;have hk:k<=(l).length:=hk;have r9:(r).length<=1000000+k:=r9;by_cases h:k < (l).length
 ·left;have n1:nth fX l k=l[k]:=bW (t:=fX) h;have hd:bS k l=l[k]::bS (k+1) l:=aq h;refine⟨((r).length+1,l,((l).length:Int),((k+1:Nat):Int),r++ [(λx:gz=>x.1) l[k]]),⟨hlen,k+1,ak,rfl,rfl,by rw[ai];rfl,by rw[ai];show(r).length+1<=_;omega⟩,by simp only[aa];omega,?_,λkn kx=> ?_⟩
  ·simp only[bn,zy,aa,hd,bU,aA,aD,cU];rw[show ∀a c:Nat,a+1+c=a+(c+1) from λa c=>ak]
  ·rw[GC,aU ak,bg (show(0:Int)<=(k:Int) by omega) ak,aa,n1];simp only[aj];rw[aI (ax _),dh ak ak,N.mu ak,bK];rfl
 ·right;obtain rfl:k=(l).length:=ak;intro R kn kx;rw[GC,aP ak,ao];simp only[bn,zy,aa,aL,gZ,bk,aY,cj]
theorem as3:rN.Ok:=by
 intro t hv;have hv:aOH t:=hv;rw[as2,pB (d:=t) hv];simp only[ah,bn,re,bn,J4,dM];cases iV:gO t
 ·rfl
 ·obtain⟨⟨_,a2,a3,_⟩,b1,b2⟩:=jv iV;rw[abV (d:=(0,t.1,t.1.length,0,[])) ⟨by show t.1.length<=_;omega,0,aM _,rfl,rfl,rfl,aM _⟩];simp only[cz,ao,bH,ah,bn,zy,aZ,aG,aS,aK];rw[aI ⟨by trivial,by rw[bZ];exact ax _⟩,aj,eR (by rw[bZ])]
theorem VM:rN.RS:=rE [.d eJ] rN
def abW:=rN.eP as3 1 ⟨.fp adQ,trivial⟩
abbrev abF:=Nat×Int×Int×Bs×(List bu)
def ajh:abF->Prop:=λ(L,n,i,id,r)=>∃k m:Nat,k<=m/\i=k/\n=m/\m<=1000/\L=r.length/\L=k
def FH:abF->(Nat×(List bu)):=λ(L,n,i,id,r)=>(L+(n - i).toNat,r++Gg id i.toNat (n - i).toNat)
def azP:dD->Prop:=λt=>qv t
def W6:dD->(List bu):=λt=>gM t
def uv:Ls ajh bn FH:=qz (λ(lL,t12,t13,n3,n21)=>⟨([bB,bB,nG 21 lL,eI 3]++aQ 8 ([.d ti t12,.d ti t13]++aQ 10 [])),[],([[],[],[],dK (.d tH n3)]++bD 17 [dK (.vec 38 aW n21),[],[]])⟩) (λx=>(.exit 0,⟨([bB,bB,nG 21 x.1]++aQ 21 []),[],(bD 21 [dK (.vec 38 aW x.2),[],[]])⟩))
def GB:Fs Tryz.prog azP bn W6:=eK 197 Tryz.f197 (λt=>([.d eJ t],[])) (λx=>⟨.d (.slice aW) x,[],[]⟩) [some eJ] [abD,tc] {loops:=nF [(5,{aV:=[2,3,12,13],sites:=[3,21],owns:=[⟨2,[],21,46⟩]})],outs:=nE [(5,{aV:=[2],sites:=[21]},{aV:=[2]})],fw:=nr [(5,uv.E)],res:=[some (.slice aW)]}
theorem aji:uv.RS:=rL [.n,.d ti,.d ti,.d tB,.d (.slice aW)] uv
theorem LD{R:Type}(lL t12 t13 n3 n21)(kn:K2 R)(kx:K3 R):GB.R 0 uv (lL,t12,t13,n3,n21) kn kx=aH ((fR t13 t12)) (aH (decide (lL<=(ag n21))) (aH (cV (lL+1) 40) (kn (uv.st ((lL+1),t12,(bI .i64 t13 1),n3,((aR lL n21)++ [(n3,(t13,()))])))) none) none) (uv.go kx (lL,n21)):=bX
theorem aGP{R:Type}(t)(k:K1 R):GB.A t k=al (tid.call t) λx1=>al (iw.call t) λx2=>aH ((!x2)) (k (GB.out ([]:List bu))) (al (uv.call (0,(t.2.1.length:Int),0,x1,([]:List bu))) λx3=>aH (decide (0=0/\(0+x3.1)<=(ag x3.2))) (k (GB.out (cut x3.2 0 x3.1))) none):=bX
theorem axP(id:List Int)(k n:Nat):(Gg id k n).length=n:=by simp[Gg]
theorem aq1(id:List Int)(k n:Nat):Gg id k (n+1)=(id,((k:Int),()))::Gg id (k+1) n:=by unfold Gg;rw[List.range'_succ,bU]
theorem aoq:(GB.jR 0 uv):=by
 refine(GB.lp 0 uv) (λ(L,n,i,id,r)=>(n - i).toNat) ?_
 rintro⟨L,n,i,id,r⟩ ⟨k,m,hk,rfl,rfl,hm,rfl,aT6⟩;have aT6:r.length=k:=aT6;by_cases h:k < m
 ·left;have e1:((m:Int) - (k:Int)).toNat=(m - (k+1))+1:=ak;have e2:((m:Int) - ((k+1:Nat):Int)).toNat=m - (k+1):=ak;refine⟨(r.length+1,(m:Int),((k+1:Nat):Int),id,r++ [(id,((k:Int),()))]),⟨k+1,m,ak,rfl,rfl,hm,by rw[ai];rfl,by show r.length+1=_;omega⟩,by show((m:Int) - ((k+1:Nat):Int)).toNat < ((m:Int) - (k:Int)).toNat;omega,?_,λkn kx=> ?_⟩
  ·simp only[bn,FH,e1,e2,aa,aq1,aD,cU];rw[show r.length+1+(m - (k+1))=r.length+(m - (k+1)+1) by omega]
  ·rw[LD,aU ak,aI (ax _),dh ak ak,N.mu ak,bK];rfl
 ·right;obtain rfl:k=m:=ak;intro R kn kx;rw[LD,aP ak,ao];simp only[bn,FH,Int.sub_self,aZ,cj];rw[show Gg id (k:Int).toNat 0=[] from rfl,bk]
theorem aGQ:GB.Ok:=by
 intro t hv;have hv:qv t:=hv;rw[aGP,QX (d:=t) hv,pB (d:=t) hv.1];simp only[ah,bn,abC,bn,re,bn,W6,gM];cases iV:gO t
 ·rfl
 ·obtain⟨⟨_,a2,a3,_⟩,b1,b2⟩:=jv iV;have hl:=axP (nR t) 0 t.2.1.length;rw[aji (d:=(0,t.2.1.length,0,nR t,[])) ⟨0,t.2.1.length,aM _,rfl,rfl,ak,rfl,rfl⟩];simp only[cz,ao,bH,ah,bn,FH,pI,aa,aZ,aS,aK];rw[aI ⟨by trivial,by rw[hl];exact ax _⟩,aj,eR hl]
theorem af9:GB.RS:=rE [.d eJ] GB
def aor:=GB.eP aGQ 1 ⟨.fp aoq,trivial⟩
def aCb:(List gz)->Prop:=λl=>l.length<=1000000
def ap0:(List gz)->(Nat×(List gz)):=λl=>(l.length,l)
def ag1:Fs Tryz.prog aCb bn ap0:=eK 137 Tryz.f137 (λsv=>([.d (.slice fX) sv],[])) (λx=>⟨.bz (.new 0 0) 0 [] 0 0 x.1,[],[.obj 0 false (.vec 86 fX x.2)]⟩) [some (.slice fX)] [] {bJ:=[5],owns:=[⟨2,[],5,53⟩]}
theorem aIL{R:Type}(sv)(k:K1 R):ag1.A sv k=aH (decide (0 < (ag sv))) (aH (cV (0+(ag sv)) 80) (k (ag1.out ((0+(ag sv)),((aR 0 (ab 0 (((ab 32 0),(0,())),((0,(([]:List Sg),(0,()))),()))))++sv)))) none) (nd (k (ag1.out (0,([]:List gz)))) (aH (cV (0+(ag sv)) 80) (k (ag1.out ((0+(ag sv)),((aR 0 (ab 0 (((ab 32 0),(0,())),((0,(([]:List Sg),(0,()))),()))))++sv)))) none)):=bX
theorem aIM:ag1.Ok:=by
 intro l hl;have hl:l.length<=1000000:=hl;have hr:cV l.length 80=true:=dh ak ak;rw[aIL];simp only[aK,hr,aj,dI,aS,bn,ap0];by_cases h:0 < l.length
 ·simp only[aI h,aj]
 ·have:l=[]:=bC ak;subst this;simp only[aY,y5,aT (gV 0),ao]
theorem aCc:ag1.RS:=rE [.d (.slice fX)] ag1
def aIN:=ag1.eP aIM
def awn:(List gG)->Prop:=λl=>l.length<=1000000
def ag3:(List gG)->(Nat×(List gG)):=λl=>(l.length,l)
def OH:Fs Tryz.prog awn bn ag3:=eK 138 Tryz.f138 (λsv=>([.d (.slice iX) sv],[])) (λx=>⟨.bz (.new 0 0) 0 [] 0 0 x.1,[],[.obj 0 false (.vec 79 iX x.2)]⟩) [some (.slice iX)] [] {bJ:=[5],owns:=[⟨2,[],5,22⟩]}
theorem aCf{R:Type}(sv)(k:K1 R):OH.A sv k=aH (decide (0 < (ag sv))) (aH (cV (0+(ag sv)) 32) (k (OH.out ((0+(ag sv)),((aR 0 (ab 0 (0,((([]:List nV),()),()))))++sv)))) none) (nd (k (OH.out (0,([]:List gG)))) (aH (cV (0+(ag sv)) 32) (k (OH.out ((0+(ag sv)),((aR 0 (ab 0 (0,((([]:List nV),()),()))))++sv)))) none)):=bX
theorem aCg:OH.Ok:=by
 intro l hl;have hl:l.length<=1000000:=hl;have hr:cV l.length 32=true:=dh ak ak;rw[aCf];simp only[aK,hr,aj,dI,aS,bn,ag3];by_cases h:0 < l.length
 ·simp only[aI h,aj]
 ·have:l=[]:=bC ak;subst this;simp only[aY,y5,aT (gV 0),ao]
theorem awo:OH.RS:=rE [.d (.slice iX)] OH
def aCh:=OH.eP aCg
def aCa:(List nV)->Prop:=λl=>l.length<=1000000
def ag0:(List nV)->(Nat×(List nV)):=λl=>(l.length,l)
def acH:Fs Tryz.prog aCa bn ag0:=eK 140 Tryz.f140 (λsv=>([.d (.slice km) sv],[])) (λx=>⟨.bz (.new 0 0) 0 [] 0 0 x.1,[],[.obj 0 false (.vec 98 km x.2)]⟩) [some (.slice km)] [] {bJ:=[5],owns:=[⟨2,[],5,70⟩]}
theorem aIJ{R:Type}(sv)(k:K1 R):acH.A sv k=aH (decide (0 < (ag sv))) (aH (cV (0+(ag sv)) 48) (k (acH.out ((0+(ag sv)),((aR 0 (ab 0 (([]:List Int),(0,(0,(0,()))))))++sv)))) none) (nd (k (acH.out (0,([]:List nV)))) (aH (cV (0+(ag sv)) 48) (k (acH.out ((0+(ag sv)),((aR 0 (ab 0 (([]:List Int),(0,(0,(0,()))))))++sv)))) none)):=bX
theorem aIK:acH.Ok:=by
 intro l hl;have hl:l.length<=1000000:=hl;have hr:cV l.length 48=true:=dh ak ak;rw[aIJ];simp only[aK,hr,aj,dI,aS,bn,ag0];by_cases h:0 < l.length
 ·simp only[aI h,aj]
 ·have:l=[]:=bC ak;subst this;simp only[aY,y5,aT (gV 0),ao]
theorem akU:acH.RS:=rE [.d (.slice km)] acH
def atP:=acH.eP aIK
def awp:(List Sg)->Prop:=λl=>l.length<=1000000
def ag4:(List Sg)->(List Sg):=λl=>l
def OI:Fs Tryz.prog awp bn ag4:=eK 139 Tryz.f139 (λsv=>([.d (.slice zQ) sv],[])) (λx=>⟨.d (.slice zQ) x,[],[]⟩) [some (.slice zQ)] [] {bJ:=[5],res:=[some (.slice zQ)]}
theorem aCi{R:Type}(sv)(k:K1 R):OI.A sv k=aH (decide (0 < (ag sv))) (aH (cV (0+(ag sv)) 16) (aH (decide (0=0/\(0+(0+(ag sv)))<=(ag ((aR 0 (ab 0 (0,(0,()))))++sv)))) (k (OI.out (cut ((aR 0 (ab 0 (0,(0,()))))++sv) 0 (0+(ag sv))))) none) none) (nd (k (OI.out ([]:List Sg))) (aH (cV (0+(ag sv)) 16) (aH (decide (0=0/\(0+(0+(ag sv)))<=(ag ((aR 0 (ab 0 (0,(0,()))))++sv)))) (k (OI.out (cut ((aR 0 (ab 0 (0,(0,()))))++sv) 0 (0+(ag sv))))) none) none)):=bX
theorem aCj:OI.Ok:=by
 intro l hl;have hl:l.length<=1000000:=hl;have hr:cV l.length 16=true:=dh ak ak;rw[aCi];simp only[aK,hr,aj,dI,aS,ax,iT,cr,eR,bn,ag4];by_cases h:0 < l.length
 ·simp only[aI h,aj]
 ·have:l=[]:=bC ak;subst this;simp only[aY,y5,aT (gV 0),ao]
theorem awq:OI.RS:=rE [.d (.slice zQ)] OI
def aCk:=OI.eP aCj
abbrev FF:=Int×Int×Nat×Nat×(Int×Unit)×(Int×Unit)×(List gz)×(List gG)
def I5:FF->(List gz)->((Nat×Nat×(Int×Unit)×(Int×Unit)×(List gG))×((List gz))):=λ(t17,t18,aJ9,Zv,n1,n2,n9,n12) y=>((aJ9,Zv,n1,n2,n12),y)
abbrev QT:=Int×Int×Nat×Nat×(Int×Unit)×(Int×Unit)×(List gz)×(List gG)
abbrev FG:=Int×Nat×Int×Int×Int×Int×Nat×Nat×(Int×Unit)×(Int×Unit)×(List gz)×(List gG)×(List nV)
abbrev QW:=(List nV)×(List nV)
def I6:FG->QW->((Int×Int×Int×Nat×Nat×(Int×Unit)×(Int×Unit)×(List gz)×(List gG))×((List nV)×(List nV))):=λ(kv,lL,abq,abr,t51,t52,Zw,Zx,aq5,so,aq7,Zr,n49) y=>((kv,abq,abr,Zw,Zx,aq5,so,aq7,Zr),y)
def abw:FF->Prop:=λ(m,i,L,L2,u,v,l,os)=>(l.length<=1000/\∀x∈l,x.2.1.2.1.length<=1000000)/\∃k:Nat,k<=l.length/\i=k/\m=l.length/\L=l.length
def QS:FF->(List gz):=λ(m,i,L,L2,u,v,l,os)=>l
def abA:FG->Prop:=λ(kv,L,m1,i1,m,i,L5,L6,u,v,ls,os,bs)=>(bs.length<=1000/\∀x∈bs,x.1.length<=1000000)/\∃k:Nat,k<=bs.length/\i=k/\m=bs.length/\L=bs.length
def QV:FG->QW:=λ(kv,L,m1,i1,m,i,L5,L6,u,v,ls,os,bs)=>(bs,bs)
def aby:QT->Prop:=λ(m,i,L3,L,u,v,ls,os)=>(os.length<=1000/\∀x∈os,x.2.1.1.length<=1000/\∀b∈x.2.1.1,b.1.length<=1000000)/\∃k:Nat,k<=os.length/\i=k/\m=os.length/\L=os.length
def QU:QT->(Nat×Nat×(Int×Unit)×(Int×Unit)×(List gz)×(List gG)):=λ(m,i,L3,L,u,v,ls,os)=>(L3,L,u,v,ls,os)
def aom:dD->Prop:=λt=>gO t=true
def af8:dD->(Nat×((List gG)×(Int×Unit))×(List gz)):=λt=>(t.1.length,(t.2.1,t.2.2),t.1)
def lG:Ls abw I5 QS:=qz (λ(t17,t18,aJ9,Zv,n1,n2,n9,n12)=>⟨([bB,eI 1,eI 2]++aQ 14 ([.d ti t17,.d ti t18]++aQ 56 [])),[],([[],dK (.pr (nG 9 aJ9) (.pr (nG 12 Zv) (.d (.pair ti .unit) n1))),dK (.pr (.cX) (.pr (.cX) (.d (.pair ti .unit) n2)))]++bD 6 ([dK (.vec 86 fX n9),[],[],dK (.vec 79 iX n12)]++bD 62 []))⟩) (λx=>(.exit 0,⟨([bB,eI 1,eI 2]++aQ 72 []),[],([[],dK (.pr (nG 9 x.1.1) (.pr (nG 12 x.1.2.1) (.d (.pair ti .unit) x.1.2.2.1))),dK (.pr (.cX) (.pr (.cX) (.d (.pair ti .unit) x.1.2.2.2.1)))]++bD 6 ([dK (.vec 86 fX x.2),[],[],dK (.vec 79 iX x.1.2.2.2.2)]++bD 62 []))⟩))
def lH:Ls aby bn QU:=qz (λ(t38,t39,amC,afk,aEI,kk,PU,Zq)=>⟨([bB,eI 1,eI 2]++aQ 35 ([.d ti t38,.d ti t39]++aQ 35 [])),[],([[],dK (.pr (nG 9 amC) (.pr (nG 12 afk) (.d (.pair ti .unit) aEI))),dK (.pr (.cX) (.pr (.cX) (.d (.pair ti .unit) kk)))]++bD 6 ([dK (.vec 86 fX PU),[],[],dK (.vec 79 iX Zq)]++bD 62 []))⟩) (λx=>(.exit 2,⟨([bB,eI 1,eI 2]++aQ 72 []),[],([[],dK (.pr (nG 9 x.1) (.pr (nG 12 x.2.1) (.d (.pair ti .unit) x.2.2.1))),dK (.pr (.cX) (.pr (.cX) (.d (.pair ti .unit) x.2.2.2.1)))]++bD 6 ([dK (.vec 86 fX x.2.2.2.2.1),[],[],dK (.vec 79 iX x.2.2.2.2.2)]++bD 62 []))⟩))
def lI:Ls abA I6 QV:=qz (λ(kv,lL,abq,abr,t51,t52,Zw,Zx,aq5,so,aq7,Zr,n49)=>⟨([bB,eI 1,eI 2,bB,.d ti kv,nG 49 lL]++aQ 32 ([.d ti abq,.d ti abr]++aQ 11 ([.d ti t51,.d ti t52]++aQ 22 []))),[],([[],dK (.pr (nG 9 Zw) (.pr (nG 12 Zx) (.d (.pair ti .unit) aq5))),dK (.pr (.cX) (.pr (.cX) (.d (.pair ti .unit) so)))]++bD 6 ([dK (.vec 86 fX aq7),[],[],dK (.vec 79 iX Zr)]++bD 36 ([dK (.vec 98 km n49)]++bD 25 [])))⟩) (λx=>(.exit 4,⟨([bB,eI 1,eI 2,bB,.d ti x.1.1,.d (.slice km) x.2.1]++aQ 32 ([.d ti x.1.2.1,.d ti x.1.2.2.1]++aQ 35 [])),[],([[],dK (.pr (nG 9 x.1.2.2.2.1) (.pr (nG 12 x.1.2.2.2.2.1) (.d (.pair ti .unit) x.1.2.2.2.2.2.1))),dK (.pr (.cX) (.pr (.cX) (.d (.pair ti .unit) x.1.2.2.2.2.2.2.1)))]++bD 6 ([dK (.vec 86 fX x.1.2.2.2.2.2.2.2.1),[],[],dK (.vec 79 iX x.1.2.2.2.2.2.2.2.2)]++bD 36 ([[.obj 0 true (.vec 98 km x.2.2)]]++bD 25 [])))⟩))
def lT:Fs Tryz.prog aom bn af8:=eK 90 Tryz.f90 (λt=>([.d eJ t],[])) (λx=>⟨.pr (.bz (.new 0 0) 0 [] 0 0 x.1) (.d (.pair (.slice iX) (.pair ti .unit)) x.2.1),[],[.obj 0 false (.vec 86 fX x.2.2)]⟩) [some eJ] [aIN,aCh,aCk,atP,SM] {bJ:=[1],loops:=nF [(3,{aV:=[1,2,17,18],sites:=[1,2,9,12]}),(8,{aV:=[1,2,38,39],sites:=[1,2,9,12]}),(12,{aV:=[1,2,4,5,38,39,51,52],sites:=[1,2,9,12,49]})],outs:=nE [(3,{aV:=[1,2],sites:=[1,2,9,12]},{aV:=[2]}),(8,{aV:=[1,2],sites:=[1,2,9,12]},{aV:=[2]}),(12,{aV:=[1,2,4,5,38,39],sites:=[1,2,9,12,49],data:=[(5,(.slice km))]},{aV:=[2]})],fw:=nr [(3,lG.E),(8,lH.E),(12,lI.E)],MD:=[⟨2,[.snd,.fst],(.slice iX)⟩]}
theorem abx:lG.RS:=rL [.d ti,.d ti,.n,.n,.d (.pair ti .unit),.d (.pair ti .unit),.d (.slice fX),.d (.slice iX)] lG
theorem Gy{R:Type}(t17 t18 aJ9 Zv n1 n2 n9 n12)(kn:K2 R)(kx:K3 R):lT.R 0 lG (t17,t18,aJ9,Zv,n1,n2,n9,n12) kn kx=aH ((fR t18 t17)) (aH (eg t18 ((aJ9:Nat):Int)) (aH (decide ((0+(ae t18)) < (ag n9))) (aH (decide ((((0+(ae t18))*36)+34)=(((0+((ae t18)*36))+33)+1))) (al (OI.call (nth fX n9 (0+(ae t18))).2.1.2.1) λx1=>aH (eg t18 ((aJ9:Nat):Int)) (aH (decide ((0+(ae t18)) < (ag n9))) (aH (decide ((((0+(ae t18))*36)+34)=(((0+((ae t18)*36))+33)+1))) (aH (decide ((0+(ae t18)) < (ag n9))) (kn (lG.st (t17,(bI .i64 t18 1),aJ9,Zv,n1,n2,(fM n9 (0+(ae t18)) ((nth fX n9 (0+(ae t18))).1,(((nth fX n9 (0+(ae t18))).2.1.1,(x1,(nth fX n9 (0+(ae t18))).2.1.2.2)),(nth fX n9 (0+(ae t18))).2.2))),n12))) none) none) none) none) none) none) none) (lG.go kx ((aJ9,Zv,n1,n2,n12),n9)):=bX
theorem abz:lH.RS:=rL [.d ti,.d ti,.n,.n,.d (.pair ti .unit),.d (.pair ti .unit),.d (.slice fX),.d (.slice iX)] lH
theorem Gz{R:Type}(t38 t39 amC afk aEI kk PU Zq)(kn:K2 R)(kx:K3 R):lT.R 1 lH (t38,t39,amC,afk,aEI,kk,PU,Zq) kn kx=aH ((fR t39 t38)) (aH (eg t39 ((afk:Nat):Int)) (aH (decide ((0+(ae t39)) < (ag Zq))) (aH (decide ((((0+(ae t39))*2)+1)=(((0+((ae t39)*2))+1)+0))) (al (acH.call (nth iX Zq (0+(ae t39))).2.1.1) λx1=>al (lI.call (t39,x1.1,t38,t39,((x1.1:Nat):Int),0,amC,afk,aEI,kk,PU,Zq,x1.2)) λx2=>aH (eg x2.1.1 ((x2.1.2.2.2.2.1:Nat):Int)) (aH (decide ((0+(ae x2.1.1)) < (ag x2.1.2.2.2.2.2.2.2.2))) (aH (decide ((((0+(ae x2.1.1))*2)+1)=(((0+((ae x2.1.1)*2))+1)+0))) (aH (decide ((0+(ae x2.1.1)) < (ag x2.1.2.2.2.2.2.2.2.2))) (kn (lH.st (x2.1.2.1,(bI .i64 x2.1.2.2.1 1),x2.1.2.2.2.1,x2.1.2.2.2.2.1,x2.1.2.2.2.2.2.1,x2.1.2.2.2.2.2.2.1,x2.1.2.2.2.2.2.2.2.1,(fM x2.1.2.2.2.2.2.2.2.2 (0+(ae x2.1.1)) ((nth iX x2.1.2.2.2.2.2.2.2.2 (0+(ae x2.1.1))).1,((x2.2.1,(nth iX x2.1.2.2.2.2.2.2.2.2 (0+(ae x2.1.1))).2.1.2),(nth iX x2.1.2.2.2.2.2.2.2.2 (0+(ae x2.1.1))).2.2)))))) none) none) none) none) none) none) none) (lH.go kx (amC,afk,aEI,kk,PU,Zq)):=bX
theorem abB:lI.RS:=rL [.d ti,.n,.d ti,.d ti,.d ti,.d ti,.n,.n,.d (.pair ti .unit),.d (.pair ti .unit),.d (.slice fX),.d (.slice iX),.d (.slice km)] lI
theorem GA{R:Type}(kv lL abq abr t51 t52 Zw Zx aq5 so aq7 Zr n49)(kn:K2 R)(kx:K3 R):lT.R 2 lI (kv,lL,abq,abr,t51,t52,Zw,Zx,aq5,so,aq7,Zr,n49) kn kx=aH ((fR t52 t51)) (aH (eg t52 ((lL:Nat):Int)) (aH (decide ((0+(ae t52)) < (ag n49))) (aH (decide ((((0+(ae t52))*4)+0)=((0+((ae t52)*4))+0))) (al (AN.call (nth km n49 (0+(ae t52))).1) λx1=>aH (eg t52 ((lL:Nat):Int)) (aH (decide ((0+(ae t52)) < (ag n49))) (aH (decide ((((0+(ae t52))*4)+0)=((0+((ae t52)*4))+0))) (aH (decide ((0+(ae t52)) < (ag n49))) (kn (lI.st (kv,lL,abq,abr,t51,(bI .i64 t52 1),Zw,Zx,aq5,so,aq7,Zr,(fM n49 (0+(ae t52)) (x1,(nth km n49 (0+(ae t52))).2))))) none) none) none) none) none) none) none) (aH (decide (0=0/\(0+lL)<=(ag n49))) (lI.go kx ((kv,abq,abr,Zw,Zx,aq5,so,aq7,Zr),((cut n49 0 lL),n49))) none):=bX
theorem asP{R:Type}(t)(k:K1 R):lT.A t k=al (ag1.call t.1) λx1=>al (OH.call t.2.1) λx2=>al (lG.call (((x1.1:Nat):Int),0,x1.1,x2.1,t.2.2,(0,()),x1.2,x2.2)) λx4=>al (lH.call (((x4.1.2.1:Nat):Int),0,x4.1.1,x4.1.2.1,x4.1.2.2.1,x4.1.2.2.2.1,x4.2,x4.1.2.2.2.2)) λx8=>aH (decide (0=0/\(0+x8.2.1)<=(ag x8.2.2.2.2.2))) (k (lT.out (x8.1,((cut x8.2.2.2.2.2 0 x8.2.1),x8.2.2.1),x8.2.2.2.2.1))) none:=bX
theorem adH:(lT.jR 0 lG):=by
 refine(lT.lp 0 lG) (λ(m,i,L,L2,u,v,l,os)=>l.length - ae i) ?_
 rintro⟨m,i,L,L2,u,v,l,os⟩ ⟨⟨hlen,hx⟩,k,hk,rfl,rfl,rfl⟩;have hlen:l.length<=1000:=hlen;have hk:k<=l.length:=hk;by_cases h:k < l.length
 ·left;have n1:nth fX l k=l[k]:=bW (t:=fX) h;have hs:l.set k l[k]=l:=gm h;have e:=hx _ (aN h);refine⟨((l.length:Int),((k+1:Nat):Int),l.length,L2,u,v,l,os),⟨⟨hlen,hx⟩,k+1,ak,rfl,rfl,rfl⟩,by simp only[aa];omega,rfl,λkn kx=> ?_⟩;rw[Gy,aU ak,bg ak ak];simp only[aa,aK,cj,eM,Nat.reduceAdd,aj,aI h,cr,n1];rw[awq (d:=l[k].2.1.2.1) e];simp only[ah,bn,ag4];rw[N.mu ak];exact bm (λz=>kn (lG.st (_,_,_,_,_,_,z,_))) hs
 ·right;obtain rfl:k=l.length:=ak;intro R kn kx;rw[Gy,aP ak,ao];rfl
theorem adJ:(lT.jR 2 lI):=by
 refine(lT.lp 2 lI) (λ(kv,L,m1,i1,m,i,L5,L6,u,v,ls,os,bs)=>bs.length - ae i) ?_
 rintro⟨kv,L,m1,i1,m,i,L5,L6,u,v,ls,os,bs⟩ ⟨⟨hlen,hx⟩,k,hk,rfl,rfl,rfl⟩;have hlen:bs.length<=1000:=hlen;have hk:k<=bs.length:=hk;by_cases h:k < bs.length
 ·left;have n1:nth km bs k=bs[k]:=bW (t:=km) h;have hs:bs.set k bs[k]=bs:=gm h;have e:=hx _ (aN h);refine⟨(kv,bs.length,m1,i1,(bs.length:Int),((k+1:Nat):Int),L5,L6,u,v,ls,os,bs),⟨⟨hlen,hx⟩,k+1,ak,rfl,rfl,rfl⟩,by simp only[aa];omega,rfl,λkn kx=> ?_⟩;rw[GA,aU ak,bg ak ak];simp only[aa,aK,cj,eM,Nat.reduceAdd,aj,aI h,cr,n1];rw[Np (d:=bs[k].1) e];simp only[ah,bn,P5];rw[N.mu ak];exact bm (λz=>kn (lI.st (_,_,_,_,_,_,_,_,_,_,_,_,z))) hs
 ·right;obtain rfl:k=bs.length:=ak;intro R kn kx;rw[GA,aP ak,ao];simp only[aK,ax,iT,cr,aj,eR];rfl
theorem adI:(lT.jR 1 lH):=by
 refine(lT.lp 1 lH) (λ(m,i,L3,L,u,v,ls,os)=>os.length - ae i) ?_
 rintro⟨m,i,L3,L,u,v,ls,os⟩ ⟨⟨hlen,hx⟩,k,hk,rfl,rfl,rfl⟩;have hlen:os.length<=1000:=hlen;have hk:k<=os.length:=hk;by_cases h:k < os.length
 ·left;have n1:nth iX os k=os[k]:=bW (t:=iX) h;have hs:os.set k os[k]=os:=gm h;have e:=hx _ (aN h);refine⟨((os.length:Int),((k+1:Nat):Int),L3,os.length,u,v,ls,os),⟨⟨hlen,hx⟩,k+1,ak,rfl,rfl,rfl⟩,by simp only[aa];omega,rfl,λkn kx=> ?_⟩;rw[Gz,aU ak,bg ak ak];simp only[aa,aK,cj,eM,Nat.reduceAdd,aj,aI h,cr,n1];rw[akU (d:=os[k].2.1.1) (by show os[k].2.1.1.length<=_;have:=e.1;omega)];simp only[ah,bn,ag0];rw[abB (d:=((k:Int),os[k].2.1.1.length,(os.length:Int),(k:Int),(os[k].2.1.1.length:Int),0,L3,os.length,u,v,ls,os,os[k].2.1.1)) ⟨e,0,aM _,rfl,rfl,rfl⟩];simp only[ah,I6,QV,aa,n1,aj,aI h,bg (show(0:Int)<=(k:Int) by omega) (show(k:Int) < (os.length:Int) by omega)];rw[N.mu ak];exact bm (λz=>kn (lH.st (_,_,_,_,_,_,_,z))) hs
 ·right;obtain rfl:k=os.length:=ak;intro R kn kx;rw[Gz,aP ak,ao];rfl
theorem SE{l:Lk}(h:kq l=true):l.1.length<=4/\∀b∈l.1,b.1.length<=12:=by unfold kq at h;simp only[au,df,bf]at h;refine⟨h.2.2,λb hb=> ?_⟩;have:=h.1 b hb;unfold uR at this;simp only[au,bf]at this;exact this.1
theorem asQ:lT.Ok:=by
 rintro⟨is,os,nt,u⟩ iV;obtain⟨⟨_,a2,a3,_⟩,b1,b2⟩:=jv iV;have a2:is.length<=64:=a2;have a3:os.length<=64:=a3;rw[asP,aCc (d:=is) (by show is.length<=_;omega),awo (d:=os) (by show os.length<=_;omega)];simp only[ah,bn,ap0,bn,ag3];rw[abx (d:=(is.length,0,is.length,os.length,(nt,u),(0,()),is,os)) ⟨⟨by show is.length<=_;omega,λx hx=>by have:=(Ax (l6 _ _ b1 x hx)).2.2.2.2;omega⟩,0,aM _,rfl,rfl,rfl⟩];simp only[ah,I5,QS];rw[abz (d:=(os.length,0,is.length,os.length,(nt,u),(0,()),is,os)) ⟨⟨by show os.length<=_;omega,λx hx=>by
  have:=SE (j4 _ _ b2 x hx).2;exact⟨ak,λb hb=>by have:=this.2 b hb;omega⟩⟩,0,aM _,rfl,rfl,rfl⟩]
 simp only[ah,bn,QU,aK,ax,iT,cr,aj,eR];rfl
theorem aon:lT.RS:=rE [.d eJ] lT
def asR:=lT.eP asQ 3 ⟨.fp adH,⟨.fp adI,⟨.fp adJ,trivial⟩⟩⟩
theorem P7(x:Int)(m:Int):∀k:Nat,(x%m)^k%m=x^k%m
 | 0=>by rw[kE,kE]
 |k+1=>by rw[fE,fE,jm,P7 x m k,gF _ (pF m),<-jm]
theorem aOp(a:Int)(k:Nat):(a*a)^k=a^(2*k):=by rw[Int.pow_mul,fE,fE,kE,Int.one_mul]
theorem aFl:∀(f:Nat) (a:Int) (n:Nat) (out:Int),n < 2^f->Pn out->ajW f a n out=out*a^n%4611686018427377339
 | 0,a,n,out,h,ho=>by obtain rfl:n=0:=ak;rw[AR,kE,wR,eW ho.1 ho.2]
 |f+1,a,n,out,h,ho=>by
  have e:(2:Nat)^(f+1)=2^f*2:=Nat.pow_succ 2 f;rw[ajW];split
  ·rename_i h0;subst h0;rw[kE,wR,eW ho.1 ho.2]
  ·have hp:Pn (if n%2=1 then oZ out a else out):=by
    split
    ·exact wh _ _
    ·exact ho
   rw[aFl f _ _ _ ak hp,jm];have e1:(oZ a a)^(n / 2)%4611686018427377339=a^(2*(n / 2))%4611686018427377339:=by unfold oZ;rw[P7,aOp]
   have e2:(if n%2=1 then oZ out a else out)%4611686018427377339=(out*a^(n%2))%4611686018427377339:=by
    split
    ·rename_i h1;rw[h1,fE,kE,Int.one_mul];exact gF _ (pF _)
    ·have h1:n%2=0:=ak;rw[h1,kE,wR]
   rw[e1,e2,<-jm,qK,<-Int.pow_add];have e3:n%2+2*(n / 2)=n:=ak;rw[e3]
theorem aad(a:Int)(n:Nat)(h:n < 18446744073709551616):pw a n=a^n%4611686018427377339:=by unfold pw;rw[aFl 64 a n 1 h ⟨ak,ak⟩,Int.one_mul]
theorem one_pow(k:Nat):(1:Int)^k=1:=Int.one_pow
theorem aFn(a:Int)(k q:Nat)(hk:k < 18446744073709551616)(hq:q < 18446744073709551616)(h:pw a q=1):pw (pw a k) q=1:=by rw[aad _ _ hq]at h;rw[aad _ _ hq,aad _ _ hk,P7,<-Int.pow_mul,pP,Int.pow_mul,<-P7,h,one_pow];rfl
theorem aeS:pw 4 2305843009213688669=1:=by decide+kernel
theorem aya:pw 1 2305843009213688669=1:=by decide+kernel
theorem aJQ:uX 4=true:=by rw[uX,aeS];rfl
theorem Px:uX 1=true:=by rw[uX,aya];rfl
theorem aKg:amE 1=1:=by
 have e:pw 1 2305843009213688668=1:=by decide+kernel
 rw[amE,tk,Px];exact e
theorem aiD{a:Int}(h:Pn a)(q:Nat)(hq:0 < q)(Sf:q < 18446744073709551616)(hp:pw a q=1):0 < a:=by
 rcases Int.lt_or_eq_of_le h.1 with h0 | h0
 ·exact h0
 ·subst h0;rw[aad _ _ Sf,Int.zero_pow ak]at hp;cases hp
theorem aNG{a:Int}(h:Pn a)(hp:pw a 2305843009213688669=1):uX a=true:=by have h0:=aiD h 2305843009213688669 (by decide) (by decide) hp;rw[uX,hp,gv ⟨h0,h.2⟩];rfl
theorem axt{a:Int}(h:uX a=true):pw a 2305843009213688669=1/\Pn a:=by rw[uX,au,bf,bf]at h;exact⟨h.2,ak,h.1.2⟩
theorem aNH{a:Int}(h:uX a=true)(k:Nat)(hk:k < 18446744073709551616):uX (pw a k)=true:=
 aNG (am8 _ _) (aFn a k _ hk (by decide) (axt h).1)
theorem aNI(a:Int):uX (tk a)=true:=by
 unfold tk;cases h:uX a
 ·exact Px
 ·exact h
theorem axu(p k:Int):uX (Fy p k)=true:=aNH (aNI p) _ ak
theorem abE{a:Int}(h:uX a=true):tk a=a:=by rw[tk,h];rfl
theorem YZ(k:Int):uX (fS k)=true:=axu 4 k
theorem amA{a:Int}(h:Pn a):oZ a 1=a:=by rw[oZ,wR,eW h.1 h.2]
def pm(m:Nat):Nat->Nat->Nat->Nat->Nat
 | 0,_,_,out=>out%m
 |f+1,a,n,out=>if n=0 then out%m else pm m f (a*a%m) (n / 2) (if n%2=1 then out*a%m else out)
theorem aMd(m:Nat):∀(f a n out:Nat),n < 2^f->pm m f a n out=out*a^n%m
 | 0,a,n,out,h=>by obtain rfl:n=0:=ak;rw[pm,Nat.pow_zero,gH]
 |f+1,a,n,out,h=>by
  have e:(2:Nat)^(f+1)=2^f*2:=Nat.pow_succ (n:=2) (m:=f);rw[pm];split
  ·rename_i h0;subst h0;rw[Nat.pow_zero,gH]
  ·rw[aMd m f _ _ _ ak,kG];have e1:(a*a%m)^(n / 2)%m=a^(2*(n / 2))%m:=by rw[<-Nat.pow_mod,Nat.pow_mul,Nat.pow_two]
   have e2:(if n%2=1 then out*a%m else out)%m=(out*a^(n%2))%m:=by
    split
    ·rename_i h1;rw[h1,Nat.pow_one,Nat.mod_mod]
    ·have h1:n%2=0:=ak;rw[h1,Nat.pow_zero,gH]
   rw[e1,e2,<-kG,Nat.mul_assoc,<-ov];have e3:n%2+2*(n / 2)=n:=ak;rw[e3]
theorem aDB:∀(r q:Nat) (f:Nat->Nat),(∀i,i < q->f i < r)->(∀i j,i < j->j < q->f i≠f j)->q<=r
 | 0,q,f,h,_=>by
  rcases iH q with h0 | h0
  ·omega
  ·exact absurd (h 0 h0) (Nat.not_lt_zero _)
 |r+1,q,f,h,g=>by
  by_cases hx:∃i,i < q/\f i=r
  ·obtain⟨i,hi,hr⟩:=hx;have e:=aDB r (q - 1) (λj=>if j < i then f j else f (j+1)) (λj hj=>by
    by_cases h1:j < i
    ·have a:=h j ak;have b:=g j i h1 hi;simp only[h1,bH];omega
    ·have a:=h (j+1) ak;have b:=g i (j+1) ak ak;simp only[h1,bq];omega) (λj k aUX hk=>by
    by_cases h1:j < i
    ·by_cases h2:k < i
     ·simp only[h1,h2,bH];exact g j k aUX ak
     ·simp only[h1,h2,bH,bq];exact g j (k+1) ak ak
    ·have h2:¬k < i:=ak;simp only[h1,h2,bq];exact g (j+1) (k+1) ak ak)
   omega
  ·have e:=aDB r q f (λi hi=>by
    have a:=h i hi;have b:f i≠r:=λx=>hx ⟨i,hi,x⟩
    omega) g
   omega
theorem auL(a m:Nat)(h1:1%m=1):∀i j:Nat,a^i%m=1->a^j%m=1->a^(Nat.gcd i j)%m=1:=by
 intro i
 induction i using Nat.strongRecOn with
 |ind i ih=>
  intro j hi hj;rcases iH i with h0 | h0
  ·subst h0;rw[Nat.gcd_zero_left];exact hj
  ·rw[Nat.gcd_rec];refine ih (j%i) (Nat.mod_lt _ h0) i ?_ hi
   have e:a^j=(a^i)^(j / i)*a^(j%i):=by rw[<-Nat.pow_mul,<-ov,Nat.div_add_mod]
   rw[e,kG,Nat.pow_mod,hi,Nat.one_pow,h1,il,Nat.mod_mod]at hj;exact hj
def aAP(n:Nat):Prop:=∀d,d∣n->d=1\/d=n
theorem auM{n k:Nat}(h:aAP n)(h0:0 < k)(hk:k < n):Nat.gcd k n=1:=by
 rcases h _ (Nat.gcd_dvd_right k n) with h1 | h1
 ·exact h1
 ·have:=Nat.le_of_dvd h0 (Nat.gcd_dvd_left k n);omega
theorem amH{n:Nat}(hn:1 < n)(h:∀r,1 < r->r*r<=n->¬r∣n):aAP n:=by
 intro d hd;obtain⟨e,he⟩:=hd;have aQ9:0 < d:=Nat.pos_of_ne_zero (by intro x;rw[x,mM]at he;omega);have ahL:0 < e:=Nat.pos_of_ne_zero (by intro x;rw[x,Nat.mul_zero]at he;omega);by_cases h1:d=1
 ·exact .inl h1
 by_cases h2:e=1
 ·right;rw[he,h2,gH]
 exfalso;rcases Nat.le_total d e with hle | hle
 ·exact h d ak (by rw[he];exact Nat.mul_le_mul_left d hle) ⟨e,he⟩
 ·exact h e ak (by rw[he];exact cQ e hle) ⟨d,by rw[he,pP]⟩
theorem aOc{n q b:Nat}(hn:1 < n)(hq:aAP q)(aO3:1 < q)(aSy:n < q*q)(hb:b^q%n=1)(hg:Nat.gcd (b - 1) n=1)(aQ8:0 < b):aAP n:=by
 refine amH hn λr hr aVg ahR=> ?_
 have aTJ:1%r=1:=jL hr;have aTN:b^q%r=1:=by have:=Nat.mod_mod_of_dvd (b^q) ahR;rw[<-this,hb,aTJ]
 have gj:b%r≠1:=by
  intro hx;have hd:r∣b - 1:=by have e:=Nat.dvd_sub_mod (n:=r) b;rw[hx]at e;exact e
  have:=Nat.dvd_gcd hd ahR;rw[hg]at this;have:=Nat.le_of_dvd ak this;omega
 have key:q<=r:=by
  refine aDB r q (λi=>b^i%r) (λi _=>Nat.mod_lt _ ak) λi j aRg hj he=> ?_
  have e1:b^(j - i)%r=1:=by
   have x1:b^(q - i)*b^i%r=b^(q - i)*b^j%r:=by rw[kG,he,<-kG]
   rw[<-ov,<-ov,show q - i+i=q by omega,show q - i+j=q+(j - i) by omega,ov,kG,aTN,il,Nat.mod_mod]at x1;exact x1.symm
  have e2:=auL b r aTJ (j - i) q e1 aTN;rw[auM hq ak ak,Nat.pow_one]at e2;exact gj e2
 have:q*q<=r*r:=Nat.mul_le_mul key key;omega
def aEP(n:Nat):Nat->Bool
 | 0=>true
 |k+1=>n%(k+2) !=0 && aEP n k
theorem amG(n:Nat):∀k,aEP n k=true->∀d,1 < d->d<=k+1->¬d∣n
 | 0,_,d,h1,h2=>ak
 |k+1,h,d,h1,h2=>by
  rw[aEP,au]at h;by_cases hd:d=k+2
  ·intro hx;have:=Nat.mod_eq_zero_of_dvd hx;rw[hd]at this;rw[this]at h;exact absurd h.1 (by decide)
  ·exact amG n k h.2 d h1 ak
theorem aS3:aAP 7930907:=by
 refine amH (by decide) λr hr aVg=>amG 7930907 2820 (by decide+kernel) r hr ?_
 apply Nat.le_of_not_lt;intro h;have:2822*2822<=r*r:=Nat.mul_le_mul ak ak;omega
theorem P8{n q:Nat}(a e:Nat)(hq:aAP q)(aO3:1 < q)(hn:1 < n)(aSy:n < q*q)(he:e < 2^64)(Sf:q < 2^64)(h1:pm n 64 (pm n 64 a e 1) q 1=1)(h2:Nat.gcd (pm n 64 a e 1 - 1) n=1)(h3:0 < pm n 64 a e 1):aAP n:=by generalize pm n 64 a e 1=b at*;rw[aMd _ _ _ _ _ Sf,il]at h1;exact aOc hn hq aO3 aSy h1 h2 h3
theorem aS2:aAP 11864636873:=P8 (q:=7930907) 2 1496 aS3 (by decide) (by decide) (by decide) (by decide) (by decide) (by decide+kernel) (by decide+kernel) (by decide+kernel)
theorem aS1:aAP 1732236983459:=P8 (q:=11864636873) 2 146 aS2 (by decide) (by decide) (by decide) (by decide) (by decide) (by decide+kernel) (by decide+kernel) (by decide+kernel)
theorem aS0:aAP 249442125618097:=P8 (q:=1732236983459) 2 144 aS1 (by decide) (by decide) (by decide) (by decide) (by decide) (by decide+kernel) (by decide+kernel) (by decide+kernel)
theorem aS4:aAP 2305843009213688669:=P8 (q:=249442125618097) 2 9244 aS0 (by decide) (by decide) (by decide) (by decide) (by decide) (by decide+kernel) (by decide+kernel) (by decide+kernel)
def gP(n:Nat):Int:=((4^n%4611686018427377339:Nat):Int)
theorem ada(a m q:Nat)(h1:1%m=1)(h:a^q%m=1)(n:Nat):a^(n%q)%m=a^n%m:=by
 have e:a^n=(a^q)^(n / q)*a^(n%q):=by rw[<-Nat.pow_mul,<-ov,Nat.div_add_mod]
 rw[e,kG,Nat.pow_mod (a^q),h,Nat.one_pow,h1,il,Nat.mod_mod]
theorem aLF:∀q:Nat,q=2305843009213688669->4^q%4611686018427377339=1:=by
 intro q hq;have h:=aeS;rw[aad _ _ (by decide)]at h;rw[<-hq]at h;have e:(((4^q%4611686018427377339:Nat)):Int)=1:=by rw[pH,ky];exact h
 omega
theorem ahG(n:Nat):gP (n%2305843009213688669)=gP n:=by unfold gP;obtain⟨q,hq⟩:∃q:Nat,q=2305843009213688669:=⟨_,rfl⟩;rw[<-hq,ada 4 4611686018427377339 q (by decide) (aLF q hq)]
theorem aPD(n:Nat)(h:n < 18446744073709551616):pw 4 n=gP n:=by rw[aad _ _ h];unfold gP;rw[pH,ky];rfl
theorem aDp(k:Int)(h:0<=k):(k%2305843009213688669).toNat=k.toNat%2305843009213688669:=ak
theorem Wx(k:Int)(h:0<=k):fS k=gP k.toNat:=by show pw (tk 4) _=_;rw[abE aJQ,aPD _ ak,aDp k h,ahG]
theorem aJj(n:Nat):gP n=fS n:=by rw[Wx _ ak,aa]
theorem YB(n:Nat):uX (gP n)=true:=by rw[aJj];exact YZ _
theorem aqr(a b:Nat):oZ (gP a) (gP b)=gP (a+b):=by unfold oZ gP;rw[<-ku,ov];have e:(4611686018427377339:Int)=((4611686018427377339:Nat):Int):=rfl;rw[e,<-pH,<-kG]
theorem aDq(a:Nat)(c:Int)(h:0<=c):Fy (gP a) c=gP (a*c.toNat):=by
 show pw (tk (gP a)) _=_;rw[abE (YB a),aad _ _ ak,aDp c h];obtain⟨b,hb⟩:∃b:Nat,b=c.toNat:=⟨_,rfl⟩;rw[<-hb];obtain⟨d,hd⟩:∃d:Nat,d=b%2305843009213688669:=⟨_,rfl⟩;have hx:gP (a*b)=gP (a*d):=by rw[<-ahG (a*b),<-ahG (a*d),kG a b,kG a d,hd,Nat.mod_mod]
 rw[hx,<-hd];unfold gP;have e:(4611686018427377339:Int)=((4611686018427377339:Nat):Int):=rfl;rw[e,<-ky,<-pH,<-Nat.pow_mod,<-Nat.pow_mul]
theorem at7:gP 0=1:=by decide
theorem aPC{n:Nat}(h:0 < n)(hn:n < 2305843009213688669):gP n≠1:=by intro he;unfold gP at he;have he:4^n%4611686018427377339=1:=ak;obtain⟨q,hq⟩:∃q:Nat,q=2305843009213688669:=⟨_,rfl⟩;have e:=auL 4 4611686018427377339 (by decide) n q he (aLF q hq);rw[auM (by rw[hq];exact aS4) h ak]at e;exact absurd e (by decide)
theorem aK4(k:Int)(m:List Int)(h0:0 < k)(hq:k < 2305843009213688669):Aa (fS k) m 1 (mh k m)=true:=by
 obtain⟨kn,hk⟩:∃kn:Nat,kn=k.toNat:=⟨_,rfl⟩;have hb:fS k=gP kn:=by rw[hk];exact Wx k ak
 have hn:=Yz (aGL aq8 [iZ k,m]);unfold mh aEQ;rw[if_pos ⟨hq,ak⟩];obtain⟨n,gj⟩:∃n,Pd (aGL aq8 [iZ k,m])=n:=⟨_,rfl⟩;rw[gj]at hn ⊢;unfold agx;have hr:Wu [fS n,1]=gP n.toNat:=by show oZ (oZ 1 (tk (fS n))) (tk 1)=_;rw[abE (YZ n),abE Px,amA (wh _ _),Wx n ak,<-at7,aqr,aK]
 rw[hr,hb];have hc:=XM (gP n.toNat) (gP kn) m;obtain⟨c,aNg⟩:∃c,Ga (gP n.toNat) (gP kn) m=c:=⟨_,rfl⟩;rw[aNg]at hc ⊢;have ha:=att n (aim c k);have h1:=hc.1;have h2:=ha.1;have h3:=ha.2;unfold Aa;rw[if_neg (by
  intro h;rcases h with h | h | h | h | h
  ·exact aPC ak ak h
  ·rw[YB]at h;cases h
  ·rw[Px]at h;cases h
  ·have h:uX (gP n.toNat)=false:=h;rw[YB]at h;cases h
  ·exact h h3)]
 have e:fS (ao7 n (aim c k))=Wu [gP n.toNat,Fy (gP kn) c,amE 1]:=by
  show _=oZ (oZ (oZ 1 (tk (gP n.toNat))) (tk (Fy (gP kn) c))) (tk (amE 1));rw[aKg,abE Px,amA (wh _ _),abE (YB _),aDq _ _ h1,abE (YB _)];rw[show(oZ 1 (gP n.toNat))=gP n.toNat by rw[<-at7,aqr,aK]];rw[aqr,Wx _ h2];have hx:(ao7 n (aim c k)).toNat=(n.toNat+kn*c.toNat)%2305843009213688669:=by
   unfold ao7 aim aES;have g1:c%2305843009213688669=c:=eW h1 hc.2;have g2:k%2305843009213688669=k:=eW ak hq;have g3:n%2305843009213688669=n:=eW ak hn.2;rw[g1,g2,g3,gF _ (pF _)];have g4:((kn*c.toNat:Nat):Int)=c*k:=by rw[ku,hk,Int.toNat_of_nonneg ak,Int.toNat_of_nonneg h1,pG]
   have g5:0<=c*k:=by rw[<-g4];exact gE _
   obtain⟨z,hz⟩:∃z,c*k=z:=⟨_,rfl⟩;rw[hz]at g4 g5 ⊢;obtain⟨zn,aVq⟩:∃zn,kn*c.toNat=zn:=⟨_,rfl⟩;rw[aVq]at g4 ⊢;omega
  rw[hx,ahG]
 show decide (fS (ao7 n (aim c k))=Wu [gP n.toNat,Fy (gP kn) (Ga (gP n.toNat) (gP kn) m),amE 1])=true;rw[aNg];exact gv e
def HH{α:Type}(p:α->Bool):List α->Int->Int⊕Unit
 |[],_=> .inr ()
 |x::xs,i=>if p x then .inl i else HH p xs (i+1)
def al2{α:Type}(p:α->Bool)(l:List α):Int:=match HH p l 0 with | .inl i=>i | .inr _=> -1
theorem al3{α:Type}(p:α->Bool):∀(l:List α) (i:Int),0<=i->(match HH p l i with | .inl i=>decide (i>=0) | .inr _=>false)=l.any p
 |[],_,_=>rfl
 |x::l,i,h=>by
  rw[HH,lv];cases hp:p x
  ·simp only[bF,bq,lu];exact al3 p l (i+1) ak
  ·simp[h]
theorem YN{α:Type}(p:α->Bool)(l:List α):BS (al2 p l) 0=l.any p:=by
 have:=al3 p l 0 ak;unfold al2 BS;cases h:HH p l 0
 ·rw[h]at this;exact this
 ·rw[h]at this;rw[<-this];rfl
def Mb(k:Int):Bool:=decide (¬(k < 2305843009213688669/\k≠0))
def FA(t:dD)(i br:Int)(ks:List Int):Bool:=gO t && (decide (0<=i/\i < t.1.length/\0<=br/\br < 4/\ks.length<=12) && !(ks.any Mb))
def aGn(t:dD)(i br:Int)(ks:List Int)(sc:Int):dD×Int:=if FA t i br ks then((t.1.set i.toNat ((nth fX t.1 i.toNat).1,(br,ks.map (λk=>mh k (nR t)),sc,()),()),t.2),0) else(([],[],0,()),1)
theorem FN{t:dD}:Sm (nR t):=by
 unfold nR;split
 ·exact aja _ _
 ·exact⟨by rw[cg],λx hx=>by obtain rfl:=(rQ.1 hx).2;exact⟨by decide,by decide⟩⟩
def az6:Int->Prop:=λ_=>True
def au6:Int->Bool:=λk=>Mb k
def VL:Fs Tryz.prog az6 bn au6:=eK 85 Tryz.f85 (λkv=>([.d tu kv],[])) (λx=>⟨.d .bool x,[],[]⟩) [some tu] [Sd]
theorem aGX{R:Type}(kv)(k:K1 R):VL.A kv k=aH ((qQ kv 0)) (k (VL.out true)) (al (EX.call kv) λx1=>k (VL.out (!x1))):=bX
theorem aGY:VL.Ok:=by
 intro(k:Int) _;rw[aGX,MQ (d:=k) trivial];simp only[bn,au6,Mb,ah,bn,Pc];by_cases h:k=0
 ·rw[dp h,aj,aI ak]
 ·rw[eO h,ao];by_cases h2:k < 2305843009213688669
  ·rw[aU h2,aT ak];rfl
  ·rw[aP h2,aI ak];rfl
theorem az7:VL.RS:=rE [.d tu] VL
def aGZ:=VL.eP aGY
abbrev xn:=Bs×Int×Int
def ng:xn->AS:=λ(lP,t7,t8)=>⟨([.d tU lP,.fn 85 (.nil)]++aQ 5 ([.d ti t7,.d ti t8]++aQ 10 [])),[],(ab 19 [])⟩
def nQ:Int->Exit×AS:=λx=>(.ret,⟨(aQ 4 ([.d ti x]++aQ 14 [])),[],(ab 19 [])⟩)
def wH:Unit->Exit×AS:=λx=>(.exit 0,⟨(aQ 19 []),[],(ab 19 [])⟩)
abbrev IP:=(Int)⊕(Unit)
abbrev Vv:=(Int)⊕(Unit)
def C9:IP->Out (Exit×AS):=λx=> .br x.isLeft (.get x.getLeft? λa=> .ok (nQ a)) (.get x.getRight? λb=> .ok (wH b))
def jF:xn->Vv->IP:=λ(lP,t7,t8) y=>match y with | .inl y=> .inl y | .inr z=> .inr (z)
def wG:xn->Prop:=λ(l,n,i)=>(∀x∈l,True)/\l.length<=1000000000/\n=l.length/\∃k:Nat,k<=l.length/\i=k
def mJ:xn->Vv:=λ(l,n,i)=>HH Mb (l.drop i.toNat) i
def asw:Bs->Prop:=λl=>(∀x∈l,True)/\l.length<=1000000000
def aa9:Bs->Int:=λl=>al2 Mb l
def Vu:=dC.fp ng wG jF mJ C9
def IQ:xn->Option IP:=gS Vu ng
def xI:Fs Tryz.prog asw bn aa9:=eK 132 Tryz.f132 (λsv=>([.d tU sv,.fn 85 (.nil)],[])) (λx=>⟨.d ti x,[],[]⟩) [some tU,none] [aGZ] {loops:=nF [(2,{aV:=[0,1,7,8]})],outs:=nE [(2,{},{aV:=[4]})],fw:=nr [(2,Vu)]}
def IN:= @eG Tryz.prog (kj xI.G) xI.an 0 Tryz.f132 0 _ ng
abbrev QK:=lz Tryz.prog (kj xI.G) xI.an 0 Tryz.f132 0 ng wG jF mJ C9
theorem adA:jf IQ wG jF mJ:=nf (jM [.d tU,.d ti,.d ti] λ_=>bX)
theorem ND:om @IN ng wG jF mJ C9 QK:=oE
theorem IS{R:Type}(lP:Bs)(t7:Int)(t8:Int)(kn:AS->Option R)(kx:Exit->AS->Option R):IN (lP,t7,t8) kn kx=aH ((fR t8 t7)) (aH (eg t8 (((ag lP):Nat):Int)) (al (VL.call (nth tu lP (ae t8))) λx1=>aH (x1) (kx (nQ t8).1 (nQ t8).2) (kn (ng (lP,t7,(bI .i64 t8 (1:Int)))))) none) (kx (wH ()).1 (wH ()).2):=bX
theorem azt{R:Type}(sv)(k:K1 R):xI.A sv k=al (IQ (sv,(sv.length:Int),0)) λx2=>aH (x2.isLeft) (al (x2.getLeft?) λa3=>k (xI.out a3)) (al (x2.getRight?) λb4=>k (xI.out (-1))):=bX
theorem ai8:QK:=by
 refine ND (λ(l,n,i)=>l.length - i.toNat) ?_
 rintro⟨l,n,i⟩ ⟨hl,hb,rfl,k,hk,rfl⟩;have hb:l.length<=1000000000:=hb;have hk:k<=l.length:=hk;by_cases h:k < l.length
 ·have hx:=hl _ (aN h);have n1:nth tu l k=l[k]:=bW (t:=tu) h;have hd:HH Mb (l.drop k) k=if Mb l[k] then .inl (k:Int) else HH Mb (l.drop (k+1)) ((k+1:Nat):Int):=by rw[aq h];rfl
  have step:∀ {R:Type} (kn:AS->Option R) (kx:Exit->AS->Option R),IN (l,(l.length:Int),(k:Int)) kn kx=aH (Mb l[k]) (kx (nQ (k:Int)).1 (nQ (k:Int)).2) (kn (ng (l,(l.length:Int),((k+1:Nat):Int)))):=by intro R kn kx;rw[IS,aU ak,bg ak ak,aa,n1,az7 (d:=l[k]) hx,N.mu ak];rfl
  cases hp:Mb l[k]
  ·left;refine⟨(l,l.length,((k+1:Nat):Int)),⟨hl,hb,rfl,k+1,ak,rfl⟩,by simp only[aa];omega,?_,λkn kx=> ?_⟩
   ·simp only[jF,mJ,aa,hd,hp,bF,bq]
   ·rw[step,hp,ao]
  ·right;refine⟨nQ (k:Int),?_,λkn kx=> ?_⟩
   ·simp only[jF,mJ,aa,hd,hp,bH];rfl
   ·rw[step,hp,aj]
 ·right;obtain rfl:k=l.length:=ak;refine⟨wH (),?_,λkn kx=> ?_⟩
  ·simp only[jF,mJ,aa,aL];rfl
  ·rw[IS,aP ak,ao]
theorem azu:xI.Ok:=by rintro l ⟨hl,hb⟩;rw[azt,adA (d:=(l,l.length,0)) ⟨hl,hb,rfl,0,ak,rfl⟩];simp only[ah,jF,mJ,aZ,aG,bn,aa9,al2];cases HH Mb l 0 <;> rfl
theorem asx:xI.RS:=rE [.d tU] xI
def azv:=xI.eP azu 1 ⟨.fp ai8,trivial⟩
def adx:Bs->Prop:=λl=>(∀x∈l,True)/\l.length<=1000000000
def Vt:Bs->Bool:=λl=>l.any Mb
def vG:Fs Tryz.prog adx bn Vt:=eK 88 Tryz.f88 (λsv=>([.d tU sv,.fn 85 (.nil)],[])) (λx=>⟨.d .bool x,[],[]⟩) [some tU,none] [azv]
theorem ai4{R:Type}(sv)(k:K1 R):vG.A sv k=al (xI.call sv) λx1=>k (vG.out (BS x1 0)):=bX
theorem ai5:vG.Ok:=by rintro l ⟨hl,hb⟩;rw[ai4,asx (d:=l) ⟨hl,hb⟩];simp only[ah,bn,aa9,YN];rfl
theorem ady:vG.RS:=rE [.d tU] vG
def ai6:=vG.eP ai5
abbrev NT:=Int×Bs×Int×Int×dD×(Int×Unit)×Int×Nat×(Int×Unit)×Bs×(List Sg)
def zx:NT->(VQ×(List Sg))->((Int×dD×(Int×Unit))×(VQ×(List Sg))):=λ(YY,t52,t53,t54,n5,n10,n13,GW,afi,n14,aKb) y=>((YY,n5,n10),y)
abbrev au7:=dD×Int×Int×Bs×Int
def ajw:NT->Prop:=λ(i0,l,n,i,t,e,br,L,sc,id,r)=>l.length<=1000/\(∀x∈l,nv x)/\Sm id/\∃k:Nat,k<=l.length/\i=k/\n=l.length/\L=r.length/\r.length<=1000+k
def FM:NT->(VQ×(List Sg)):=λ(i0,l,n,i,t,e,br,L,sc,id,r)=>((br,r++(l.drop i.toNat).map (λk=>mh k id),sc),r++(l.drop i.toNat).map (λk=>mh k id))
def az8:au7->Prop:=λ(t,i,br,ks,sc)=>qv t/\(∀x∈ks,nv x)/\ks.length<=1000000000
def ajv:au7->(dD×Int):=λ(t,i,br,ks,sc)=>aGn t i br ks sc
def uB:Ls ajw zx FM:=qz (λ(YY,t52,t53,t54,n5,n10,n13,GW,afi,n14,aKb)=>⟨([bB,.d ti YY,bB,bB,bB,eI 5]++aQ 4 ([eI 10,bB,bB,eI 13,eI 14]++aQ 37 ([.d tU t52,.d ti t53,.d ti t54]++aQ 21 []))),[],(bD 5 ([dK (.d eJ n5)]++bD 4 ([dK (.pr (.cX) (.pr (.cX) (.d (.pair ti .unit) n10))),[],[],dK (.pr (.d ti n13) (.pr (nG 64 GW) (.d (.pair tu .unit) afi))),dK (.d tH n14)]++bD 49 ([dK (.vec 143 zQ aKb)]++bD 11 []))))⟩) (λx=>(.exit 0,⟨([bB,.d ti x.1.1,bB,bB,bB,eI 5]++aQ 4 ([eI 10,bB,bB,eI 13]++aQ 62 [])),[],(bD 5 ([dK (.d eJ x.1.2.1)]++bD 4 ([dK (.pr (.cX) (.pr (.cX) (.d (.pair ti .unit) x.1.2.2))),[],[],dK (.d azH x.2.1)]++bD 50 ([[.obj 0 true (.vec 143 zQ x.2.2)]]++bD 11 []))))⟩))
def uZ:Fs Tryz.prog az8 bn ajv:=eK 39 Tryz.f39 (λ(t,inv,branch,keys,secret)=>([.d eJ t,.d ti inv,.d ti branch,.d tU keys,.d tu secret],[])) (λx=>⟨.cons (.d eJ x.1) (.cons (.d ti x.2) (.nil)),[],[]⟩) [some eJ,some ti,some ti,some tU,some tu] [tc,au8,ai6,abD,aGE,asR] {bJ:=[5],loops:=nF [(7,{aV:=[1,5,10,13,14,52,53,54],sites:=[5,10,13,14,64],owns:=[⟨13,[.snd,.fst],64,82⟩]})],outs:=nE [(7,{aV:=[1,5,10,13],sites:=[5,10,13,64],MD:=[⟨13,[.snd,.fst],(.slice zQ)⟩]},{aV:=[10,11]})],fw:=nr [(7,uB.E)],res:=[some eJ,none]}
theorem ajx:uB.RS:=rL [.d ti,.d tU,.d ti,.d ti,.d eJ,.d (.pair ti .unit),.d ti,.n,.d (.pair tu .unit),.d tB,.d (.slice zQ)] uB
theorem LN{R:Type}(YY t52 t53 t54 n5 n10 n13 GW afi n14 aKb)(kn:K2 R)(kx:K3 R):uZ.R 0 uB (YY,t52,t53,t54,n5,n10,n13,GW,afi,n14,aKb) kn kx=aH ((fR t54 t53)) (aH (eg t54 (t52.length:Int)) (al (Vy.call ((nth tu t52 (ae t54)),n14)) λx4=>aH (decide (GW<=(ag aKb))) (aH (cV (GW+1) 16) (kn (uB.st (YY,t52,t53,(bI .i64 t54 1),n5,n10,n13,(GW+1),afi,n14,((aR GW aKb)++ [x4])))) none) none) none) (aH (decide (0=0/\(0+GW)<=(ag aKb))) (uB.go kx ((YY,n5,n10),((n13,((cut aKb 0 GW),afi)),aKb))) none):=bX
theorem aG0{R:Type}(t inv branch keys secret)(k:K1 R):uZ.A (t,inv,branch,keys,secret) k=al (iw.call t) λaoO=>aH ((!aoO)) (k (uZ.out ((([]:List gz),(([]:List gG),(0,()))),1))) (aH ((fR inv 0)) (k (uZ.out ((([]:List gz),(([]:List gG),(0,()))),1))) (aH ((BS inv (t.1.length:Int))) (k (uZ.out ((([]:List gz),(([]:List gG),(0,()))),1))) (al (adS.call (branch,(([]:List Sg),(secret,())))) λavl=>aH ((!avl)) (k (uZ.out ((([]:List gz),(([]:List gG),(0,()))),1))) (aH ((w7 (keys.length:Int) 12)) (k (uZ.out ((([]:List gz),(([]:List gG),(0,()))),1))) (al (vG.call keys) λaLv=>aH (aLv) (k (uZ.out ((([]:List gz),(([]:List gG),(0,()))),1))) (al (tid.call t) λFZ=>al (uB.call (inv,keys,(keys.length:Int),0,t,(0,()),branch,0,(secret,()),FZ,([]:List Sg))) λacq=>al (lT.call acq.1.2.1) λagn=>aH (eg acq.1.1 ((agn.1:Nat):Int)) (aH (decide ((0+(ae acq.1.1)) < (ag agn.2.2))) (aH (decide ((((0+(ae acq.1.1))*36)+33)=((0+((ae acq.1.1)*36))+33))) (aH (decide ((0+(ae acq.1.1)) < (ag agn.2.2))) (aH (decide (0=0/\(0+agn.1)<=(ag (fM agn.2.2 (0+(ae acq.1.1)) ((nth fX agn.2.2 (0+(ae acq.1.1))).1,(acq.2.1,(nth fX agn.2.2 (0+(ae acq.1.1))).2.2)))))) (k (uZ.out (((cut (fM agn.2.2 (0+(ae acq.1.1)) ((nth fX agn.2.2 (0+(ae acq.1.1))).1,(acq.2.1,(nth fX agn.2.2 (0+(ae acq.1.1))).2.2))) 0 agn.1),agn.2.1),0))) none) none) none) none) none)))))):=bX
theorem aoy:(uZ.jR 0 uB):=by
 refine(uZ.lp 0 uB) (λ(i0,l,n,i,t,e,br,L,sc,id,r)=>l.length - i.toNat) ?_
 rintro⟨i0,l,n,i,t,e,br,L,sc,id,r⟩ ⟨hlen,hu,hm,k,hk,rfl,rfl,rfl,hr⟩;have hlen:l.length<=1000:=hlen;have hk:k<=l.length:=hk;have hr:r.length<=1000+k:=hr;by_cases h:k < l.length
 ·left;have n1:nth tu l k=l[k]:=bW (t:=tu) h;have hd:bS k l=l[k]::bS (k+1) l:=aq h;refine⟨(i0,l,l.length,((k+1:Nat):Int),t,e,br,r.length+1,sc,id,r++ [mh l[k] id]),⟨hlen,hu,hm,k+1,ak,rfl,rfl,by rw[ai];rfl,by rw[ai];show r.length+1<=_;omega⟩,by simp only[aa];omega,?_,λkn kx=> ?_⟩
  ·simp only[zx,FM,aa,hd,bU,aD,cU]
  ·rw[LN,aU ak,bg ak ak,aa,n1,azE (d:=(l[k],id)) ⟨hu _ (aN h),hm⟩];simp only[aj,ah,bn,ajd];rw[aI (ax _),dh ak ak,N.mu ak,bK];rfl
 ·right;obtain rfl:k=l.length:=ak;intro R kn kx;rw[LN,aP ak,ao];simp only[zx,FM,aa,aL,gZ,bk,aK,ax,iT,cr,aj,eR]
theorem aG1:uZ.Ok:=by
 rintro⟨⟨is,os,nt,u⟩,i,br,ks,sc⟩ ⟨hv,hu,hl⟩;have hv:qv (is,os,nt,u):=hv;have hl:ks.length<=1000000000:=hl;rw[aG0,pB (d:=(is,os,nt,u)) hv.1];simp only[ah,bn,re,bn,ajv,aGn,FA];rcases iL (gO (is,os,nt,u)) with iV | iV;rotate_left
 ·simp only[iV];rfl
 obtain⟨⟨_,a2,a3,_⟩,b1,b2⟩:=jv iV;have a2:is.length<=64:=a2;simp only[iV,cz,ao,bO];by_cases h1:i < 0
 ·rw[aU h1,aj,aT ak];rfl
 rw[aP h1,ao];by_cases h2:i>=(is.length:Int)
 ·rw[fY h2,aj,aT ak];rfl
 rw[eA h2,ao,aoC (d:=(br,([],(sc,())))) trivial];simp only[ah,bn,ajy,Bi];by_cases h3:0<=br/\br < 4
 ·rw[aI h3];by_cases h4:ks.length > 12
  ·rw[di ak,aT (p:=0<=i/\i < (is.length:Int)/\0<=br/\br < 4/\ks.length<=12) ak];rfl
  ·rw[cG ak,aI (p:=0<=i/\i < (is.length:Int)/\0<=br/\br < 4/\ks.length<=12) ak,ady (d:=ks) ⟨λ_ _=>trivial,hl⟩];simp only[ah,bn,Vt];rcases iL (ks.any Mb) with hb | hb;rotate_left
   ·simp only[hb];obtain⟨k,rfl⟩:∃k:Nat,i=k:=⟨i.toNat,ak⟩;have hk:k < is.length:=ak;simp only[show(([]:List Sg).length<=12)=True from eq_true (aM _),cr,vN,cz,eV,ao,bO,bH];rw[QX (d:=(is,os,nt,u)) hv];simp only[ah,bn,abC];rw[ajx (d:=((k:Int),ks,ks.length,0,(is,os,nt,u),(0,()),br,0,(sc,()),nR (is,os,nt,u),[])) ⟨by show ks.length<=_;omega,hu,FN,0,aM _,rfl,rfl,rfl,aM _⟩];simp only[ah,zx,FM,aZ,aG,aS];rw[aon (d:=(is,os,nt,u)) iV];simp only[ah,bn,af8,aa,aK,cj,bg (show(0:Int)<=(k:Int) by omega) (show(k:Int) < (is.length:Int) by omega),aj,aI hk,cr,ri,ax,iT];rw[eR (by rw[ri])]
   ·simp only[hb];rfl
 ·rw[aT h3,aT (p:=0<=i/\i < (is.length:Int)/\0<=br/\br < 4/\ks.length<=12) ak];rfl
theorem az9:uZ.RS:=rE [.d eJ,.d ti,.d ti,.d tU,.d tu] uZ
def aG2:=uZ.eP aG1 1 ⟨.fp aoy,trivial⟩
abbrev eU:Ty:=(.pair iX (.pair ti .unit))
abbrev dS:=(gG×(Int×Unit))
abbrev azG:Ty:=(.pair aW (.pair eU .unit))
abbrev Ww:=(bu×(dS×Unit))
abbrev cE:Ty:=(.pair (.slice azG) (.pair (.slice aW) .unit))
abbrev bY:=((List Ww)×((List bu)×Unit))
def aBc:(Bs×Bs)->Prop:=λ_=>True
def aBb:(Bs×Bs)->Int:=λ(a,b)=>acI a b
def aph:Fs Tryz.prog aBc bn aBb:=eK 64 Tryz.f64 (λ(a,b)=>([.d tB a,.d tB b],[])) (λx=>⟨.d ti x,[],[]⟩) [some tB,some tB] [⟨108,lQ,atx,.of (aMv (fn:=Tryz.f108) bX bX bX bX bX) (by rfl)⟩]
theorem aIg{R:Type}(a b)(k:K1 R):aph.A (a,b) k=al (akh (a,b)) λx1=>k (aph.out x1):=bX
theorem aIh:aph.Ok:=by rintro⟨a,b⟩ _;rw[aIg,aty];rfl
theorem aBd:aph.RS:=rE [.d tB,.d tB] aph
def aIi:=aph.eP aIh
def aDQ:Int->Prop:=λ_=>True
def ahV:Int->Bool:=λ_=>false
def al4:Fs Tryz.prog aDQ bn ahV:=eK 109 Tryz.f109 (λx=>([.d ti x],[])) (λx=>⟨.d .bool x,[],[]⟩) [some ti]
theorem aJI{R:Type}(x)(k:K1 R):al4.A x k=k (al4.out (BT x x)):=bX
theorem aJJ:al4.Ok:=by intro x _;rw[aJI];simp only[bn,ahV,dA rfl]
theorem al5:al4.RS:=rE [.d ti] al4
def aJK:=al4.eP aJJ
def akV(x y:Int):Int:=if x < y then -1 else if x > y then 1 else 0
def aDM:(Int×Int)->Prop:=λ_=>True
def aqG:(Int×Int)->Int:=λ(x,y)=>akV x y
def VY:Fs Tryz.prog aDM bn aqG:=eK 65 Tryz.f65 (λ(x,yv)=>([.d ti x,.d ti yv],[])) (λx=>⟨.d ti x,[],[]⟩) [some ti,some ti] [aJK]
theorem aJC{R:Type}(x yv)(k:K1 R):VY.A (x,yv) k=al (al4.call x) λx1=>al (al4.call yv) λx2=>aH (x1) (aH (x2) (k (VY.out 0)) (k (VY.out (-1)))) (aH (x2) (k (VY.out 1)) (aH ((fR x yv)) (k (VY.out (-1))) (aH ((w7 x yv)) (k (VY.out 1)) (k (VY.out 0))))):=bX
theorem aJD:VY.Ok:=by
 rintro⟨x,y⟩ _;rw[aJC,al5 (d:=x) trivial];simp only[ah,bn,ahV];rw[al5 (d:=y) trivial];simp only[ah,bn,ahV,ao,bn,aqG,akV];by_cases h:x < y
 ·rw[aU h,aj,if_pos h]
 ·rw[aP h,ao,if_neg h];by_cases h2:x > y
  ·rw[di h2,aj,if_pos h2]
  ·rw[cG h2,ao,if_neg h2]
theorem aDN:VY.RS:=rE [.d ti,.d ti] VY
def aJE:=VY.eP aJD
abbrev Hp:=Int×(List Int)×Int×Int
def zM:Hp->AS:=λ(zero,t6,t7,t8)=>⟨([bB,bB,bB,.d ti zero,bB,bB,.d (.slice ti) t6,.d ti t7,.d ti t8]++aQ 9 []),[],(ab 18 [])⟩
def EE:Int->Exit×AS:=λx=>(.ret,⟨([bB,bB,.d ti x]++aQ 15 []),[],(ab 18 [])⟩)
def EF:Int->Exit×AS:=λx=>(.exit 0,⟨([bB,bB,bB,.d ti x]++aQ 14 []),[],(ab 18 [])⟩)
abbrev X4:=(Int)⊕(Int)
abbrev ak3:=(Int)⊕(Unit)
def Mu:X4->Out (Exit×AS):=λx=> .br x.isLeft (.get x.getLeft? λa=> .ok (EE a)) (.get x.getRight? λb=> .ok (EF b))
def oH:Hp->ak3->X4:=λ(zero,t6,t7,t8) y=>match y with | .inl y=> .inl y | .inr z=> .inr (zero)
def aPb:List Int->Int
 |[]=>0
 |x::l=>if x≠0 then x else aPb l
def aMb:List Int->Int⊕Unit
 |[]=> .inr ()
 |x::l=>if x≠0 then .inl x else aMb l
theorem aMc:∀l:List Int,aPb l=match aMb l with | .inl x=>x | .inr _=>0
 |[]=>rfl
 |x::l=>by
  simp only[aPb,aMb];split
  ·rfl
  ·exact aMc l
def ED:Hp->Prop:=λ(z,l,n,i)=>z=0/\l.length<=1000000000/\n=l.length/\∃k:Nat,k<=l.length/\i=k
def wZ:Hp->ak3:=λ(z,l,n,i)=>aMb (l.drop i.toNat)
def aIY:(List Int)->Prop:=λl=>l.length<=1000000000
def aCv:(List Int)->Int:=λl=>aPb l
def ak1:=dC.fp zM ED oH wZ Mu
def T7:Hp->Option X4:=gS ak1 zM
def aAA:Fs Tryz.prog aIY bn aCv:=eK 63 Tryz.f63 (λiO=>([.d (.slice ti) iO],[])) (λx=>⟨.d ti x,[],[]⟩) [some (.slice ti)] [] {loops:=nF [(3,{aV:=[3,6,7,8]})],outs:=nE [(3,{aV:=[3]},{aV:=[2]})],fw:=nr [(3,ak1)]}
def ak2:= @eG Tryz.prog (kj aAA.G) aAA.an 0 Tryz.f63 0 _ zM
abbrev aeC:=lz Tryz.prog (kj aAA.G) aAA.an 0 Tryz.f63 0 zM ED oH wZ Mu
theorem ap7:jf T7 ED oH wZ:=nf (jM [.d ti,.d (.slice ti),.d ti,.d ti] λ_=>bX)
theorem VT:om @ak2 zM ED oH wZ Mu aeC:=oE
theorem Hq{R:Type}(zero:Int)(t6:(List Int))(t7:Int)(t8:Int)(kn:AS->Option R)(kx:Exit->AS->Option R):ak2 (zero,t6,t7,t8) kn kx=aH ((fR t8 t7)) (aH (eg t8 (((ag t6):Nat):Int)) (aH ((BT (nth ti t6 (ae t8)) zero)) (kx (EE (nth ti t6 (ae t8))).1 (EE (nth ti t6 (ae t8))).2) (kn (zM (zero,t6,t7,(bI .i64 t8 (1:Int)))))) none) (kx (EF zero).1 (EF zero).2):=bX
theorem aMO{R:Type}(iO)(k:K1 R):aAA.A iO k=al (T7 (0,iO,(iO.length:Int),0)) λx1=>aH (x1.isLeft) (al (x1.getLeft?) λa2=>k (aAA.out a2)) (al (x1.getRight?) λb3=>k (aAA.out b3)):=bX
theorem awv:aeC:=by
 refine VT (λ(z,l,n,i)=>l.length - i.toNat) ?_
 rintro⟨z,l,n,i⟩ ⟨rfl,hl,rfl,k,hk,rfl⟩;by_cases h:k < l.length
 ·have hd:l.drop k=l[k]::l.drop (k+1):=aq h;have n1:nth ti l k=l[k]:=bW (t:=ti) h;by_cases h2:l[k]≠0
  ·right;refine⟨EE l[k],?_,λkn kx=> ?_⟩;rotate_left
   ·rw[Hq,aU ak,aj,bg ak ak,aj,aa,n1,fe h2,aj]
   ·simp only[oH,wZ,aa,hd,aMb,if_pos h2];rfl
  ·left;refine⟨(0,l,(l.length:Int),((k+1:Nat):Int)),⟨rfl,hl,rfl,k+1,ak,rfl⟩,by simp only[aa];omega,?_,λkn kx=> ?_⟩
   ·simp only[oH,wZ,aa,hd,aMb,if_neg h2]
   ·rw[Hq,aU ak,aj,bg ak ak,aj,aa,n1,dA ak,ao,N.mu ak]
 ·right;obtain rfl:k=l.length:=ak;refine⟨EF 0,?_,λkn kx=> ?_⟩;rotate_left
  ·rw[Hq,aP ak,ao]
  ·simp only[oH,wZ,aa,aL,aMb];rfl
theorem aMP:aAA.Ok:=by intro l hl;rw[aMO,ap7 (d:=(0,l,(l.length:Int),0)) ⟨rfl,hl,rfl,0,aM _,rfl⟩];simp only[ah,oH,wZ,aZ,aG,bn,aCv];rw[aMc];cases aMb l <;> rfl
theorem aIZ:aAA.RS:=rE [.d (.slice ti)] aAA
def aMQ:=aAA.eP aMP 1 ⟨.fp awv,trivial⟩
abbrev dW:Ty:=(.pair ti (.pair tH (.pair (.slice eJ) (.pair ti (.pair (.slice aW) .unit)))))
abbrev dv:=(Int×(Bs×((List dD)×(Int×((List bu)×Unit)))))
theorem aPx(x y:List Int):Ty.beq tH x y=decide (x=y):=by
 by_cases h:x=y
 ·rw[h,gv rfl];exact beq_refl tH y rfl
 ·rw[jg h];cases hb:Ty.beq tH x y with
  |false=>rfl
  |true=>exact absurd (beq_eq tH x y rfl hb) h
def avm(o:bu):Prop:=o.1.length=32/\o.2.1<=9223372036854775807
def atn(b:dv):Prop:=(b.2.2.1.length<=1000/\∀t∈b.2.2.1,qv t)/\(b.1<=9223372036854775807/\b.2.1.length=32/\b.2.2.2.1<=9223372036854775807)/\b.2.2.2.2.1.length<=1000/\∀o∈b.2.2.2.2.1,avm o
def aoR(n:Nat)(l:List dv):Prop:=n<=l.length/\n<=1000000/\∀b∈l,atn b
abbrev agP:=Nat×Nat×(List (bu×dS))×(List bY)×(List dv)
def aeo:agP->Unit->(Nat×Nat×(List (bu×dS))×(List bY)×(List dv)):=λ(o0baL,o1baL,o2,o3,o4) y=>(o0baL,o1baL,o2,o3,o4)
def awd:agP->Prop:=λ_=>True
def atK:agP->Unit:=λ_=>()
def XL:Fs Tryz.prog awd aeo atK:=eK 70 Tryz.f70 (λ(o0baL,o1baL,o2,o3,o4)=>([.ptr (.bj 0) 0 [] 0],[.obj 0 false (.pr (.ptr (.bj 1) 0 [] 0) (.pr (.bz (.bj 4) 0 [] 0 0 o0baL) (.d .unit ()))),.obj 0 false (.pr (.cq (.bj 2) 0) (.pr (.bz (.bj 3) 0 [] 0 0 o1baL) (.d .unit ()))),.obj 0 false (.mp aW eU o2),.obj 0 false (.vec 256 cE o3),.obj 0 false (.vec 48 dW o4)])) (λx=>⟨.fn 117 (.cons (.ptr (.new 0 0) 0 [] 0) (.nil)),[.obj 0 false (.pr (.ptr (.bj 1) 0 [] 0) (.pr (.bz (.bj 4) 0 [] 0 0 x.1) (.d .unit ()))),.obj 0 false (.pr (.cq (.bj 2) 0) (.pr (.bz (.bj 3) 0 [] 0 0 x.2.1) (.d .unit ()))),.obj 0 false (.mp aW eU x.2.2.1),.obj 0 false (.vec 256 cE x.2.2.2.1),.obj 0 false (.vec 48 dW x.2.2.2.2)],[.obj 0 false (.ptr (.bj 0) 0 [] 0)]⟩) [none] [] {bJ:=[1]}
theorem aBP{R:Type}(o0baL o1baL o2 o3 o4)(k:K1 R):XL.A (o0baL,o1baL,o2,o3,o4) k=k (XL.out (o0baL,o1baL,o2,o3,o4)):=bX
theorem aBQ:XL.Ok:=by intro d _;rw[aBP];rfl
theorem awe:XL.RS:=rE [.n,.n,.d (.slice (.pair aW eU)),.d (.slice cE),.d (.slice dW)] XL
def aBR:=XL.eP aBQ
def auf(x:Bs)(t:dD):Bs:=x++nR t
def aJG(x:Bs)(o:bu):Bs:=cD (x++o.1) o.2.1
def aMB(b:dv):Bs:=b.2.2.2.2.1.foldl aJG (cD (cD (b.2.2.1.foldl auf (cD (cD [] b.1++b.2.1) b.2.2.1.length)) b.2.2.2.1) b.2.2.2.2.1.length)
def apq(b:dv):Bs:=tag (bG (⟨#[98,108,111,99,107]⟩:ByteArray)) [aMB b]
theorem WN:∀(l:List dD) (x:Bs),(l.foldl auf x).length=x.length+32*l.length
 |[],x=>rfl
 |t::l,x=>by rw[bp,WN l,auf,ai,FN.1,aA];omega
theorem JN:∀(l:List bu) (x:Bs),(∀o∈l,avm o)->(l.foldl aJG x).length<=x.length+43*l.length
 |[],x,_=>ax _
 |o::l,x,h=>by
  have h1:=JN l (aJG x o) λy hy=>h y (aJ _ hy)
  have h2:=dq (x++o.1) o.2.1;have h3:=(h o (aO ..)).1;rw[ai]at h2;rw[bp,aA];unfold aJG at h1 ⊢;omega
abbrev RM:=dv×Bs×(List dD)×Int×Int×Bs
def BB:RM->Bs->((dv×Bs)×(Bs)):=λ(gI,x,t19,t20,t21,n2) y=>((gI,n2),y)
abbrev RN:=Bs×(List bu)×Int×Int×Bs
def BC:RN->Bs->((Bs)×(Bs)):=λ(aAJ,t39,t40,t41,kk) y=>(kk,y)
def ako:RM->Prop:=λ(b,x,l,n,i,z)=>(l).length<=1000000000/\∃k:Nat,k<=(l).length/\i=k/\n=(l).length/\(l.length<=1000)/\(∀t∈l,qv t)/\(x.length<=1000+32*k)
def Jr:RM->Bs:=λ(b,x,l,n,i,z)=>(bS (ae i) l).foldl auf x
def akq:RN->Prop:=λ(x,l,n,i,z)=>(l).length<=1000000000/\∃k:Nat,k<=(l).length/\i=k/\n=(l).length/\(l.length<=1000)/\(∀o∈l,avm o)/\(x.length<=100000+43*k)
def Js:RN->Bs:=λ(x,l,n,i,z)=>(bS (ae i) l).foldl aJG x
def aBq:dv->Prop:=λb=>atn b
def apt:dv->Bs:=λb=>apq b
def yc:Ls ako BB Jr:=qz (λ(gI,x,t19,t20,t21,n2)=>⟨([bB,.dO dW gI,eI 2,.d tB x]++aQ 15 ([.d (.slice eJ) t19,.d ti t20,.d ti t21]++aQ 34 [])),[],([[],[],dK (.d tH n2)]++bD 53 [])⟩) (λx=>(.exit 0,⟨([bB,.dO dW x.1.1,eI 2,.d tB x.2]++aQ 52 []),[],([[],[],dK (.d tH x.1.2)]++bD 53 [])⟩))
def yd:Ls akq BC Js:=qz (λ(aAJ,t39,t40,t41,kk)=>⟨([bB,bB,eI 2,.d tB aAJ]++aQ 35 ([.d (.slice aW) t39,.d ti t40,.d ti t41]++aQ 14 [])),[],([[],[],dK (.d tH kk)]++bD 53 [])⟩) (λx=>(.exit 2,⟨([bB,bB,eI 2,.d tB x.2]++aQ 52 []),[],([[],[],dK (.d tH x.1)]++bD 53 [])⟩))
def RL:Fs Tryz.prog aBq bn apt:=eK 94 Tryz.f94 (λb=>([.d dW b],[])) (λx=>⟨.d tH x,[],[]⟩) [some dW] [WA,ak8,abD,WL] {loops:=nF [(3,{aV:=[1,2,3,19,20,21],sites:=[2]}),(9,{aV:=[2,3,39,40,41],sites:=[2]})],outs:=nE [(3,{aV:=[1,2,3],sites:=[2]},{aV:=[2]}),(9,{aV:=[2,3],sites:=[2]},{aV:=[2]})],fw:=nr [(3,yc.E),(9,yd.E)]}
theorem akp:yc.RS:=rL [.d dW,.d tB,.d (.slice eJ),.d ti,.d ti,.d tB] yc
theorem Ol{R:Type}(gI x t19 t20 t21 n2)(kn:K2 R)(kx:K3 R):RL.R 0 yc (gI,x,t19,t20,t21,n2) kn kx=aH ((fR t21 t20)) (aH (eg t21 (t19.length:Int)) (al (tid.call (nth eJ t19 (ae t21))) λx1=>al (KE.call (x,x1)) λx2=>kn (yc.st (gI,x2,t19,t20,(bI .i64 t21 1),n2))) none) (yc.go kx ((gI,n2),x)):=bX
theorem akr:yd.RS:=rL [.d tB,.d (.slice aW),.d ti,.d ti,.d tB] yd
theorem Om{R:Type}(aAJ t39 t40 t41 kk)(kn:K2 R)(kx:K3 R):RL.R 1 yd (aAJ,t39,t40,t41,kk) kn kx=aH ((fR t41 t40)) (aH (eg t41 (t39.length:Int)) (al (KE.call (aAJ,(nth aW t39 (ae t41)).1)) λx1=>al (Ah.call (x1,(nth aW t39 (ae t41)).2.1)) λx2=>kn (yd.st (x2,t39,t40,(bI .i64 t41 1),kk))) none) (yd.go kx (kk,aAJ)):=bX
theorem aIo{R:Type}(b)(k:K1 R):RL.A b k=al (Ah.call (([]:List Int),b.1)) λx1=>al (KE.call (x1,b.2.1)) λx2=>al (Ah.call (x2,(b.2.2.1.length:Int))) λx3=>al (yc.call (b,x3,b.2.2.1,(b.2.2.1.length:Int),0,(ab 32 0))) λx6=>al (Ah.call (x6.2,x6.1.1.2.2.2.1)) λx7=>al (Ah.call (x7,(x6.1.1.2.2.2.2.1.length:Int))) λx8=>al (yd.call (x8,x6.1.1.2.2.2.2.1,(x6.1.1.2.2.2.2.1.length:Int),0,x6.1.2)) λavl=>al (Sk.call ((⟨#[98,108,111,99,107]⟩:ByteArray),[avl.2])) λaLv=>k (RL.out aLv):=bX
theorem apu:(RL.jR 0 yc):=by
 refine(RL.lp 0 yc) (λ(b,x,l,n,i,z)=>(l).length - ae i) ?_
 rintro⟨b,x,l,n,i,z⟩ ⟨hlen,k,hk,rfl,rfl,h3,hx,hb⟩;have hlen:(l).length<=1000000000:=hlen;have hk:k<=(l).length:=hk;have h3:l.length<=1000:=h3;have hx:∀t∈l,qv t:=hx;have hb:x.length<=1000+32*k:=hb;by_cases h:k < (l).length
 ·left;have n1:nth eJ l k=l[k]:=bW (t:=eJ) h;have hd:bS k l=l[k]::bS (k+1) l:=aq h;refine⟨(b,(auf x l[k]),l,((l).length:Int),((k+1:Nat):Int),z),⟨hlen,k+1,ak,rfl,rfl,h3,hx,by unfold auf;rw[ai,FN.1];omega⟩,by simp only[aa];omega,?_,λkn kx=> ?_⟩
  ·simp only[BB,Jr,aa,hd,bp]
  ·rw[Ol,aU ak,bg ak ak,aa,n1];simp only[aj];rw[QX (d:=l[k]) (hx _ (aN h))];simp only[ah,bn,abC];rw[Jx (d:=(x,nR l[k])) ⟨by show x.length+(nR l[k]).length<=_;rw[FN.1];omega,FN.1⟩];simp only[ah,bn,OM];rw[N.mu ak];rfl
 ·right;obtain rfl:k=(l).length:=ak;intro R kn kx;rw[Ol,aP ak,ao];simp only[BB,Jr,aa,aL,cO]
theorem apv:(RL.jR 1 yd):=by
 refine(RL.lp 1 yd) (λ(x,l,n,i,z)=>(l).length - ae i) ?_
 rintro⟨x,l,n,i,z⟩ ⟨hlen,k,hk,rfl,rfl,h3,hx,hb⟩;have hlen:(l).length<=1000000000:=hlen;have hk:k<=(l).length:=hk;have h3:l.length<=1000:=h3;have hx:∀o∈l,avm o:=hx;have hb:x.length<=100000+43*k:=hb;by_cases h:k < (l).length
 ·left;have n1:nth aW l k=l[k]:=bW (t:=aW) h;have hd:bS k l=l[k]::bS (k+1) l:=aq h;refine⟨((aJG x l[k]),l,((l).length:Int),((k+1:Nat):Int),z),⟨hlen,k+1,ak,rfl,rfl,h3,hx,by have:=JN [l[k]] x (λo ho=>by rw[bo]at ho;subst ho;exact hx _ (aN h));simp only[bp,cO,aA,aY]at this;omega⟩,by simp only[aa];omega,?_,λkn kx=> ?_⟩
  ·simp only[BC,Js,aa,hd,bp]
  ·rw[Om,aU ak,bg ak ak,aa,n1];simp only[aj];obtain⟨e1,e2⟩:=hx _ (aN h);rw[Jx (d:=(x,l[k].1)) ⟨by show x.length+l[k].1.length<=_;rw[e1];omega,e1⟩];simp only[ah,bn,OM];rw[jk (d:=(x++l[k].1,l[k].2.1)) ⟨by show(x++l[k].1).length<=_;rw[ai,e1];omega,e2⟩];simp only[ah,bn,oI];rw[N.mu ak];rfl
 ·right;obtain rfl:k=(l).length:=ak;intro R kn kx;rw[Om,aP ak,ao];simp only[BC,Js,aa,aL,cO]
theorem aIp:RL.Ok:=by rintro b ⟨⟨h1,h2⟩,⟨h3,h4,h5⟩,h6,h7⟩;have z1:((0:Int)).toNat=0:=rfl;have p1:=dq [] b.1;have p2:=dq (cD [] b.1++b.2.1) b.2.2.1.length;rw[ai,h4]at p2;have l0:([]:Bs).length=0:=rfl;rw[l0]at p1;have q1:=WN b.2.2.1 (cD (cD [] b.1++b.2.1) b.2.2.1.length);obtain⟨x3,e3⟩:∃x,cD (cD [] b.1++b.2.1) b.2.2.1.length=x:=⟨_,rfl⟩;rw[e3]at p2 q1;obtain⟨x6,e6⟩:∃x,b.2.2.1.foldl auf x3=x:=⟨_,rfl⟩;rw[e6]at q1;have p7:=dq x6 b.2.2.2.1;have p8:=dq (cD x6 b.2.2.2.1) b.2.2.2.2.1.length;obtain⟨x8,e8⟩:∃x,cD (cD x6 b.2.2.2.1) b.2.2.2.2.1.length=x:=⟨_,rfl⟩;have q2:=JN b.2.2.2.2.1 x8 h7;rw[e8]at p8;rw[aIo,jk (d:=(([]:List Int),b.1)) ⟨by show(0:Nat)<=_;omega,h3⟩];simp only[ah,bn,oI];rw[Jx (d:=(cD [] b.1,b.2.1)) ⟨by show(cD [] b.1).length+b.2.1.length<=_;rw[h4];omega,h4⟩];simp only[ah,bn,OM];rw[jk (d:=(cD [] b.1++b.2.1,(b.2.2.1.length:Int))) ⟨by show(cD [] b.1++b.2.1).length<=_;rw[ai,h4];omega,by show(b.2.2.1.length:Int)<=_;omega⟩];simp only[ah,bn,oI];rw[e3,akp (d:=(b,x3,b.2.2.1,(b.2.2.1.length:Int),0,ab 32 0)) ⟨by show b.2.2.1.length<=_;omega,0,aM _,rfl,rfl,h1,h2,ak⟩];simp only[ah,BB,Jr,z1,aG];rw[e6,jk (d:=(x6,b.2.2.2.1)) ⟨by show x6.length<=_;omega,h5⟩];simp only[ah,bn,oI];rw[jk (d:=(cD x6 b.2.2.2.1,(b.2.2.2.2.1.length:Int))) ⟨by show(cD x6 b.2.2.2.1).length<=_;omega,by show(b.2.2.2.2.1.length:Int)<=_;omega⟩];simp only[ah,bn,oI];rw[e8,akr (d:=(x8,b.2.2.2.2.1,(b.2.2.2.2.1.length:Int),0,ab 32 0)) ⟨by show b.2.2.2.2.1.length<=_;omega,0,aM _,rfl,rfl,h6,h7,ak⟩];simp only[ah,BC,Js,z1,aG];rw[Pt (d:=((⟨#[98,108,111,99,107]⟩:ByteArray),[b.2.2.2.2.1.foldl aJG x8])) (QR (by decide) ak)];simp only[ah,bn,apt,apq,aMB,e3,e6,e8];rfl
theorem aBr:RL.RS:=rE [.d dW] RL
def aIq:=RL.eP aIp 2 ⟨.fp apu,⟨.fp apv,trivial⟩⟩
abbrev akv:=Int×(List dD)×Int×Int
theorem agh:∀(l:List gz) (n:Int),(∀x∈l,x.2.1.2.1.length<=12)->n<=l.foldl xL n/\l.foldl xL n<=n+110*l.length
 |[],n,_=>by simp
 |x::l,n,h=>by
  have h1:=agh l (xL n x) λy hy=>h y (aJ _ hy)
  have h2:=h x (aO ..);have h3:n<=xL n x/\xL n x<=n+110:=by unfold xL;split <;> omega
  rw[bp,aA];omega
theorem TG(t:dD):0<=FW t/\FW t<=8000:=by
 unfold FW;split
 ·rename_i iV;obtain⟨⟨_,a2,a3,_⟩,b1,b2⟩:=jv iV;have:=agh t.1 (10+8*t.2.1.length) λx hx=>(Ax (l6 _ _ b1 x hx)).2.2.2.2
  omega
 ·omega
def aHk(n:Int)(t:dD):Int:=n+FW t
def aON(b:dv):Int:=b.2.2.1.foldl aHk b.2.2.2.1
def apy:akv->Prop:=λ(n,l,m,i)=>(l).length<=1000000000/\∃k:Nat,k<=(l).length/\i=k/\m=(l).length/\(l.length<=1000)/\(∀t∈l,qv t)/\(0<=n)/\(n<=1000000+8000*(k:Int))
def Oo:akv->Int:=λ(n,l,m,i)=>(bS (ae i) l).foldl aHk n
def aIr:dv->Prop:=λb=>atn b/\0<=b.2.2.2.1/\b.2.2.2.1<=1000000
def aBv:dv->Int:=λb=>aON b
def Eo:Ls apy bn Oo:=qz (λ(n,t9,t10,t11)=>⟨([bB,bB,bB,.d ti n]++aQ 5 ([.d (.slice eJ) t9,.d ti t10,.d ti t11]++aQ 9 [])),[],(ab 21 [])⟩) (λx=>(.exit 0,⟨([bB,bB,bB,.d ti x]++aQ 17 []),[],(ab 21 [])⟩))
def aHM:Fs Tryz.prog aIr bn aBv:=eK 226 Tryz.f226 (λb=>([.d dW b],[])) (λx=>⟨.d ti x,[],[]⟩) [some dW] [as6] {loops:=nF [(3,{aV:=[3,9,10,11]})],outs:=nE [(3,{aV:=[3]},{aV:=[2]})],fw:=nr [(3,Eo.E)]}
theorem apz:Eo.RS:=rL [.d ti,.d (.slice eJ),.d ti,.d ti] Eo
theorem TX{R:Type}(n t9 t10 t11)(kn:K2 R)(kx:K3 R):aHM.R 0 Eo (n,t9,t10,t11) kn kx=aH ((fR t11 t10)) (aH (eg t11 (t9.length:Int)) (al (uC.call (nth eJ t9 (ae t11))) λx1=>kn (Eo.st ((bI .i64 n x1),t9,t10,(bI .i64 t11 1)))) none) (Eo.go kx n):=bX
theorem aMC{R:Type}(b)(k:K1 R):aHM.A b k=al (Eo.call (b.2.2.2.1,b.2.2.1,(b.2.2.1.length:Int),0)) λx2=>k (aHM.out x2):=bX
theorem avS:(aHM.jR 0 Eo):=by
 refine(aHM.lp 0 Eo) (λ(n,l,m,i)=>(l).length - ae i) ?_
 rintro⟨n,l,m,i⟩ ⟨hlen,k,hk,rfl,rfl,h3,hx,h0,h1⟩;have hlen:(l).length<=1000000000:=hlen;have hk:k<=(l).length:=hk;have h3:l.length<=1000:=h3;have hx:∀t∈l,qv t:=hx;have h0:0<=n:=h0;have h1:n<=1000000+8000*(k:Int):=h1;by_cases h:k < (l).length
 ·left;have n1:nth eJ l k=l[k]:=bW (t:=eJ) h;have hd:bS k l=l[k]::bS (k+1) l:=aq h;refine⟨((aHk n l[k]),l,((l).length:Int),((k+1:Nat):Int)),⟨hlen,k+1,ak,rfl,rfl,h3,hx,by have:=TG l[k];unfold aHk;omega,by have:=TG l[k];unfold aHk;omega⟩,by simp only[aa];omega,?_,λkn kx=> ?_⟩
  ·simp only[bn,Oo,aa,hd,bp]
  ·rw[TX,aU ak,bg ak ak,aa,n1];simp only[aj];have e:=TG l[k];rw[aoB (d:=l[k]) (hx _ (aN h))];simp only[ah,bn,TC];rw[fG (x:=n) ak ak,N.mu ak];rfl
 ·right;obtain rfl:k=(l).length:=ak;intro R kn kx;rw[TX,aP ak,ao];simp only[bn,Oo,aa,aL,cO]
theorem aMD:aHM.Ok:=by rintro b ⟨⟨⟨h1,h2⟩,_⟩,h3,h4⟩;have z1:((0:Int)).toNat=0:=rfl;rw[aMC,apz (d:=(b.2.2.2.1,b.2.2.1,(b.2.2.1.length:Int),0)) ⟨by show b.2.2.1.length<=_;omega,0,aM _,rfl,rfl,h1,h2,h3,by show b.2.2.2.1<=_;omega⟩];simp only[ah,bn,Oo,z1,aG,bn,aBv,aON]
theorem aIs:aHM.RS:=rE [.d dW] aHM
def aME:=aHM.eP aMD 1 ⟨.fp avS,trivial⟩
def Hz(h f:Int):Bool:=decide (1<=h/\h<=1048576/\0<=f/\f<=4000)
def apr:(Int×Int)->Prop:=λ_=>True
def XC:(Int×Int)->Bool:=λ(h,f)=>Hz h f
def Cu:Fs Tryz.prog apr bn XC:=eK 225 Tryz.f225 (λ(height,fill)=>([.d ti height,.d ti fill],[])) (λx=>⟨.d .bool x,[],[]⟩) [some ti,some ti]
theorem avK{R:Type}(height fill)(k:K1 R):Cu.A (height,fill) k=aH ((BS height 1)) (aH ((ajU height 1048576)) (aH ((BS fill 0)) (k (Cu.out (ajU fill 4000))) (k (Cu.out false))) (k (Cu.out false))) (k (Cu.out false)):=bX
theorem avL:Cu.Ok:=by
 rintro⟨h,f⟩ _;rw[avK];simp only[bn,XC,Hz];by_cases a1:1<=h
 ·rw[fY a1,aj];by_cases a2:h<=1048576
  ·rw[oS a2,aj];by_cases a3:0<=f
   ·rw[fY a3,aj];by_cases a4:f<=4000
    ·rw[oS a4,gv ⟨a1,a2,a3,a4⟩]
    ·rw[l5 ak,jg ak]
   ·rw[eA ak,ao,jg ak]
  ·rw[l5 ak,ao,jg ak]
 ·rw[eA ak,ao,jg ak]
theorem aps:Cu.RS:=rE [.d ti,.d ti] Cu
def avM:=Cu.eP avL
end Go.Ab
end
