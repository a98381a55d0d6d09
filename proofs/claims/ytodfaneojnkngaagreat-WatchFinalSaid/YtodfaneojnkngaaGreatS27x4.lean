/-
  Made short by a program of mine (wip/tools/mini.py).
-/
import Derived.Test.YtodfaneojnkngaaGreatS27x3
import Derived.Test.YtodfaneojnkngaaGreatProg
set_option linter.unusedVariables false
set_option linter.unusedSimpArgs false
set_option maxRecDepth 100000
set_option synthInstance.maxSize 5000
open Int renaming toNat->ae
open List renaming length->ag,replicate->ab,take->aQ,drop->bR,set->fT
open BitVec renaming ofInt->bf
open Or renaming inl->lV,inr->ff
noncomputable section
namespace Go.Ab
open Go.Proofs
def YF:Bs->Prop:=λb=>4<=b.length
def alr:Bs->Int:=λb=>vw (aQQ (b.getD 0 0) (b.getD 1 0) (b.getD 2 0) (b.getD 3 0))
def binary:Fs Tryz.prog YF bt alr:=eN 237 Tryz.f237 (λb=>([.d tB b],[])) (λx=>⟨.d (.int .u32) x,[],[]⟩) [some tB]
theorem awW{R:Type}(b)(k:K1 R):binary.A b k=aH (eo 0 (b.length:Int)) (aH (eo 1 (b.length:Int)) (aH (eo 2 (b.length:Int)) (aH (eo 3 (b.length:Int)) (k (binary.out (cG .or .u32 (cG .or .u32 (cG .or .u32 (mD .u32 (dX .u32 (nth tb b 0)) 24) (mD .u32 (dX .u32 (nth tb b 1)) 16)) (mD .u32 (dX .u32 (nth tb b 2)) 8)) (dX .u32 (nth tb b 3))))) none) none) none) none:=bY
theorem awX:binary.Ok:=by intro b h;have h:4<=b.length:=h;rw[awW,bg ak ak,bg ak ak,bg ak ak,bg ak ak];simp only[aj,avw,Qw,qq];rfl
theorem aqz:binary.RS:=rE [.d tB] binary
def awY:=binary.eS awX
def rl(w:W)(k:Nat):W:=w <<< k ||| w >>> (32 - k)
def ab4:(Int×Int)->Prop:=λ(x,k)=>0<=x/\x < 4294967296
def aHx:(Int×Int)->Int:=λ(x,k)=>vw (rl (bf 32 x) (k%32).toNat)
def pS:Fs Tryz.prog ab4 bt aHx:=eN 211 Tryz.f211 (λ(x,kv)=>([.d (.int .u32) x,.d ti kv],[])) (λx=>⟨.d (.int .u32) x,[],[]⟩) [some (.int .u32),some ti]
theorem aAw{R:Type}(x kv)(k:K1 R):pS.A (x,kv) k=aH (mF (cG .and .u64 (dX .u64 kv) 31)) (aH (mF (cP .u64 32 (cG .and .u64 (dX .u64 kv) 31))) (k (pS.out (cG .or .u32 (mD .u32 x (cG .and .u64 (dX .u64 kv) 31)) (cv .u32 x (cP .u64 32 (cG .and .u64 (dX .u64 kv) 31)))))) none) none:=bY
theorem aQP(k:Int):cG .and .u64 (dX .u64 k) 31=k%32:=by have e:(31:Int)=vw (31:BitVec 64):=rfl;rw[XP,e,awZ];simp only;have:(31:BitVec 64)=BitVec.ofNat 64 (2^5 - 1):=rfl;unfold vw;rw[BitVec.toNat_and,sK,show(31:BitVec 64).toNat=2^5 - 1 from rfl,Nat.and_two_pow_sub_one_eq_mod];omega
theorem aAx:pS.Ok:=by
 rintro⟨x,k⟩ ⟨h1,h2⟩;have e1:cP .u64 32 (k%32)=32 - k%32:=by unfold cP;rw[wrap_u64,gX];omega
 have hx:x=vw (bf 32 x):=by rw[gX];omega
 rw[aAw,aQP,e1,tE ak,tE ak];simp only[aj];have e2:cG .or .u32 (mD .u32 x (k%32)) (cv .u32 x (32 - k%32))=vw (rl (bf 32 x) (k%32).toNat):=by
  conv=>lhs;rw[hx]
  rw[Qw,Il,qq];simp only[rl];congr 3;omega
 rw[e2];rfl
theorem atq:pS.RS:=rE [.d (.int .u32),.d ti] pS
def agJ:=pS.eS aAx
theorem agI(w:W)(k:Int):pS.call (vw w,k)=some (vw (rl w (k%32).toNat)):=by have h:ab4 (vw w,k):=⟨Uu w,by have:=aIL w;simpa using this⟩;rw[atq h];show some (vw (rl (bf 32 (vw w)) (k%32).toNat))=_;rw[uS]
def aA2:Unit->Prop:=λ_=>True
def awm:Unit->(List Int):=λ_=>Tr
def table:Fs Tryz.prog aA2 bt awm:=eN 210 Tryz.f210 (λ_=>([],[])) (λx=>⟨.d (.arr 64 (.int .u32)) x,[],[]⟩) []
theorem aIe{R:Type}(d)(k:K1 R):table.A d k=k (table.out [1116352408,1899447441,3049323471,3921009573,961987163,1508970993,2453635748,2870763221,3624381080,310598401,607225278,1426881987,1925078388,2162078206,2614888103,3248222580,3835390401,4022224774,264347078,604807628,770255983,1249150122,1555081692,1996064986,2554220882,2821834349,2952996808,3210313671,3336571891,3584528711,113926993,338241895,666307205,773529912,1294757372,1396182291,1695183700,1986661051,2177026350,2456956037,2730485921,2820302411,3259730800,3345764771,3516065817,3600352804,4094571909,275423344,430227734,506948616,659060556,883997877,958139571,1322822218,1537002063,1747873779,1955562222,2024104815,2227730452,2361852424,2428436474,2756734187,3204031479,3329325298]):=bY
theorem aIf:table.Ok:=by intro d _;rw[aIe];rfl
theorem aA3:table.RS:=rE [] table
def aIg:=table.eS aIf
def ayf:Unit->Prop:=λ_=>True
def avn:Unit->(List Int):=λ_=>sT.l
def first:Fs Tryz.prog ayf bt avn:=eN 171 Tryz.f171 (λ_=>([],[])) (λx=>⟨.d (.arr 8 (.int .u32)) x,[],[]⟩) []
theorem aEE{R:Type}(d)(k:K1 R):first.A d k=k (first.out [1779033703,3144134277,1013904242,2773480762,1359893119,2600822924,528734635,1541459225]):=bY
theorem aEF:first.Ok:=by intro d _;rw[aEE];rfl
theorem ayg:first.RS:=rE [] first
def aEG:=first.eS aEF
abbrev MB:=Bs×Int×(List Int)
def wl(l:List W):List Int:=l.map vw
def HI(l:List W):List Int:=wl l++ab (64 - l.length) 0
def GK(b:List Int)(k:Nat):List W:=if k<=16 then(words b).take k else aJv (words b) (k - 16)
def Hf:MB->Prop:=λ(b,t8,n2)=>64<=b.length/\∃k:Nat,k<=64/\t8=k/\n2=HI (GK b k)
def DL:MB->(List Int):=λ(b,t8,n2)=>wl (sched b)
def Rx:Bs->Prop:=λb=>64<=b.length
def OA:Bs->(List Int):=λb=>wl (sched b)
def jU:Ls Hf bt DL:=rW (λ(iN,t8,n2)=>⟨([.d tB iN,bE,eT 2]++aP 5 ([.d ti t8]++aP 52 [])),[],([[],[],dK (.d (.arr 64 (.int .u32)) n2)]++bM 58 [])⟩) (λx=>(.exit 0,⟨([bE,bE,eT 2]++aP 58 []),[],([[],[],dK (.d (.arr 64 (.int .u32)) x)]++bM 58 [])⟩))
def schedule:Fs Tryz.prog Rx bt OA:=eN 209 Tryz.f209 (λb=>([.d tB b],[])) (λx=>⟨.d (.arr 64 (.int .u32)) x,[],[]⟩) [some tB] [awY,agJ] {loops:=nX [(2,{aV:=[0,2,8],sites:=[2]})],outs:=nV [(2,{aV:=[2],sites:=[2]},{aV:=[2]})],fC:=na [(2,jU.E)]}
theorem Xv:jU.RS:=rL [.d tB,.d ti,.d (.slice (.int .u32))] jU
theorem ET{R:Type}(iN t8 n2)(kn:K2 R)(kx:K3 R):schedule.R 0 jU (iN,t8,n2) kn kx=aH ((gq t8 64)) (aH ((gq t8 16)) (aH (inc (gv .i64 4 t8) (iN.length:Int)) (al (binary.call (cut iN (ae (gv .i64 4 t8)) ((ag iN) - (ae (gv .i64 4 t8))))) λx1=>aH (eo t8 64) (aH (decide ((ae t8) < (ag n2))) (aH (decide ((((ae t8)*1)+0)=(0+((ae t8)*1)))) (aH (decide ((ae t8) < (ag n2))) (kn (jU.st (iN,(bI .i64 t8 1),(fT n2 (ae t8) x1)))) none) none) none) none) none) (aH (eo (cP .i64 t8 15) 64) (aH (decide ((ae (cP .i64 t8 15)) < (ag n2))) (aH (decide ((((ae (cP .i64 t8 15))*1)+0)=(0+((ae (cP .i64 t8 15))*1)))) (aH (eo (cP .i64 t8 2) 64) (aH (decide ((ae (cP .i64 t8 2)) < (ag n2))) (aH (decide ((((ae (cP .i64 t8 2))*1)+0)=(0+((ae (cP .i64 t8 2))*1)))) (al (pS.call ((nth (.int .u32) n2 (ae (cP .i64 t8 15))),(-7))) λx2=>al (pS.call ((nth (.int .u32) n2 (ae (cP .i64 t8 15))),(-18))) λx3=>al (pS.call ((nth (.int .u32) n2 (ae (cP .i64 t8 2))),(-17))) λx4=>al (pS.call ((nth (.int .u32) n2 (ae (cP .i64 t8 2))),(-19))) λx5=>aH (eo (cP .i64 t8 16) 64) (aH (decide ((ae (cP .i64 t8 16)) < (ag n2))) (aH (decide ((((ae (cP .i64 t8 16))*1)+0)=(0+((ae (cP .i64 t8 16))*1)))) (aH (eo (cP .i64 t8 7) 64) (aH (decide ((ae (cP .i64 t8 7)) < (ag n2))) (aH (decide ((((ae (cP .i64 t8 7))*1)+0)=(0+((ae (cP .i64 t8 7))*1)))) (aH (eo t8 64) (aH (decide ((ae t8) < (ag n2))) (aH (decide ((((ae t8)*1)+0)=(0+((ae t8)*1)))) (aH (decide ((ae t8) < (ag n2))) (kn (jU.st (iN,(bI .i64 t8 1),(fT n2 (ae t8) (bI .u32 (bI .u32 (bI .u32 (nth (.int .u32) n2 (ae (cP .i64 t8 16))) (cG .xor .u32 (cG .xor .u32 x2 x3) (cv .u32 (nth (.int .u32) n2 (ae (cP .i64 t8 15))) 3))) (nth (.int .u32) n2 (ae (cP .i64 t8 7)))) (cG .xor .u32 (cG .xor .u32 x4 x5) (cv .u32 (nth (.int .u32) n2 (ae (cP .i64 t8 2))) 10))))))) none) none) none) none) none) none) none) none) none) none) none) none) none) none) none) none)) (jU.go kx n2):=bY
theorem ao7{R:Type}(b)(k:K1 R):schedule.A b k=al (jU.call (b,0,(ab 64 0))) λx6=>k (schedule.out x6):=bY
theorem apZ(b:List Int)(k:Nat)(h:k<=64):(GK b k).length=k:=by
 unfold GK;split
 ·simp[eW];omega
 ·rw[BS,eW];omega
theorem aM0(b:List Int):GK b 64=sched b:=rfl
theorem aBI(b:List Int)(k:Nat)(h:k < 16):GK b (k+1)=GK b k++ [be b k]:=by unfold GK;rw[if_pos ak,if_pos ak,ik (by rw[eW];exact h)];simp[words]
theorem aI4(b:List Int)(k:Nat)(h:16<=k):GK b (k+1)=ext (GK b k):=by
 unfold GK;rw[if_neg ak];by_cases aTk:k=16
 ·subst aTk;rw[if_pos ak,aY (by rw[eW];omega)];rfl
 ·rw[if_neg ak,show k+1 - 16=(k - 16)+1 by omega];rfl
theorem ahw(l:List W)(h:l.length<=64):(HI l).length=64:=by simp[HI,wl];omega
theorem Kd(l:List W)(i:Nat)(h:i < l.length):nth (.int .u32) (HI l) i=vw (l.getD i 0):=by unfold nth HI wl;rw[aG,fm (by simpa using h)];simp[h]
theorem aff(l:List W)(w:W)(h:l.length < 64):(HI l).set l.length (vw w)=HI (l++ [w]):=by unfold HI wl;rw[List.set_append_right _ _ (by simp)];simp only[bU,Nat.sub_self,rV,ai,aA,aZ];rw[show 64 - l.length=(64 - (l.length+(0+1)))+1 by omega,List.replicate_succ,List.set_cons_zero];simp
theorem aqp(l:List W)(h:l.length=64):HI l=wl l:=by simp[HI,h]
theorem aN2(b:List Int)(k:Nat)(h:4*k+4<=b.length):aQQ ((cut b (4*k) (b.length - 4*k)).getD 0 0) ((cut b (4*k) (b.length - 4*k)).getD 1 0) ((cut b (4*k) (b.length - 4*k)).getD 2 0) ((cut b (4*k) (b.length - 4*k)).getD 3 0)=be b k:=by
 have e:∀j,j < 4->(cut b (4*k) (b.length - 4*k)).getD j 0=b.getD (4*k+j) 0:=λj hj=>by unfold cut;rw[aG,aG,List.getElem?_take_of_lt ak,fR]
 unfold be;rw[e 0 ak,e 1 ak,e 2 ak,e 3 ak,cm]
theorem acn:(schedule.kN 0 jU):=by
 refine(schedule.mh 0 jU) (λ(b,t8,n2)=>64 - t8.toNat) ?_
 rintro⟨b,t8,n2⟩ ⟨hb,k,hk,rfl,rfl⟩;have aQu:=apZ b k hk;have aES:=ahw (GK b k) ak;by_cases h:k < 64
 ·left;refine⟨(b,((k+1:Nat):Int),HI (GK b (k+1))),⟨hb,k+1,ak,rfl,rfl⟩,by simp;omega,rfl,λkn kx=> ?_⟩;have e1:bI .i64 (k:Int) 1=((k+1:Nat):Int):=by rw[fU ak ak];omega
  have e2:ae (k:Int)=k:=ak;rw[ET,aU ak];simp only[aj,e1,e2,aES,gO,aN,cm,cr];by_cases aTk:k < 16
  ·have e3:gv .i64 4 (k:Int)=((4*k:Nat):Int):=by rw[Ii ak ak];omega
   have e4:ae ((4*k:Nat):Int)=4*k:=ak;rw[aU ak,e3,uI ak ak,e4,bg ak ak,aM h];have hp:YF (cut b (4*k) (b.length - 4*k)):=by show 4<=_;rw[FB ak];omega
   simp only[aj,aqz hp,ah];have e5:bt (cut b (4*k) (b.length - 4*k)) (alr (cut b (4*k) (b.length - 4*k)))=vw (be b k):=by show vw (aQQ _ _ _ _)=_;rw[aN2 b k ak]
   have e6:=aff (GK b k) (be b k) ak;rw[aQu]at e6;rw[e5,e6,aBI b k aTk]
  ·have a15:ae (cP .i64 (k:Int) 15)=k - 15:=by rw[eL ak ak];omega
   have a2:ae (cP .i64 (k:Int) 2)=k - 2:=by rw[eL ak ak];omega
   have a16:ae (cP .i64 (k:Int) 16)=k - 16:=by rw[eL ak ak];omega
   have a7:ae (cP .i64 (k:Int) 7)=k - 7:=by rw[eL ak ak];omega
   have i15:eo (cP .i64 (k:Int) 15) 64=true:=bg (by rw[eL ak ak];omega) (by rw[eL ak ak];omega);have i2:eo (cP .i64 (k:Int) 2) 64=true:=bg (by rw[eL ak ak];omega) (by rw[eL ak ak];omega);have i16:eo (cP .i64 (k:Int) 16) 64=true:=bg (by rw[eL ak ak];omega) (by rw[eL ak ak];omega);have i7:eo (cP .i64 (k:Int) 7) 64=true:=bg (by rw[eL ak ak];omega) (by rw[eL ak ak];omega);have i0:eo (k:Int) 64=true:=bg ak ak;have d15:decide (k - 15 < 64)=true:=aM ak;have d2:decide (k - 2 < 64)=true:=aM ak;have d16:decide (k - 16 < 64)=true:=aM ak;have d7:decide (k - 7 < 64)=true:=aM ak;have d0:decide (k < 64)=true:=aM h;rw[aR ak];simp only[aj,ao,a15,a2,a16,a7,i15,i2,i16,i7,i0,d15,d2,d16,d7,d0,Kd (GK b k) (k - 15) ak,Kd (GK b k) (k - 2) ak,Kd (GK b k) (k - 16) ak,Kd (GK b k) (k - 7) ak,agI,ah,qq,Il,Ek];have e6:=aff (GK b k) (aNE (GK b k) k) ak;rw[aQu]at e6;rw[aI4 b k ak,ext,aQu,<-e6];rfl
 ·right;obtain rfl:k=64:=ak;intro R kn kx;rw[ET,aR ak,aqp _ aQu,aM0];simp only[ao,bt,DL]
theorem ao8:schedule.Ok:=by intro b hb;have hp:Hf (b,0,ab 64 0):=⟨hb,0,ak,rfl,rfl⟩;rw[ao7,Xv hp];simp only[ah,bt,DL,bt,OA]
theorem aj5:schedule.RS:=rE [.d tB] schedule
def ao9:=schedule.eS ao8 1 ⟨.fp acn,trivial⟩
abbrev aaw:=(List Int)×Int×(List Int)×(List Int)×(List Int)×(List Int)
def N5:aaw->(List Int)->(((List Int)×(List Int))×((List Int))):=λ(Qg,t18,n4,n5,n6,n7) y=>((Qg,n4),y)
abbrev aaz:=(List Int)×Int×(List Int)×(List Int)
def F1:aaz->(List Int)->(((List Int))×((List Int))):=λ(avs,t104,Bf,ad8) y=>(Bf,y)
def ako(l:List Int):St:=⟨bf 32 (l.getD 0 0),bf 32 (l.getD 1 0),bf 32 (l.getD 2 0),bf 32 (l.getD 3 0),bf 32 (l.getD 4 0),bf 32 (l.getD 5 0),bf 32 (l.getD 6 0),bf 32 (l.getD 7 0)⟩
theorem oJ(s:St):ako s.l=s:=by obtain⟨a,b,c,d,e,f,g,h⟩:=s;simp[ako,St.l,uS]
def aIJ(l:List Int):List W:=l.map (bf 32)
theorem GH(l:List W):aIJ (wl l)=l:=by
 unfold aIJ wl;rw[List.map_map];have:(bf 32∘vw)=(id:W->W):=by funext w;exact uS w
 rw[this,List.map_id]
def aay:aaw->Prop:=λ(h,t,n4,n5,n6,n7)=>∃(s:St) (ws:List W) (k:Nat),h=s.l/\n5=wl ws/\ws.length=64/\k<=64/\t=k/\n6=Tr/\n7=(rounds ws s k).l
def aax:aaw->(List Int):=λ(h,t,n4,n5,n6,n7)=>(rounds (aIJ n5) (ako h) 64).l
def aaA:aaz->Prop:=λ(h,t,n4,n7)=>n7.length=8/\∃k:Nat,k<=8/\t=k
def QM:aaz->(List Int):=λ(h,t,n4,n7)=>from_ (λi x=>bI .u32 x (nth (.int .u32) h i)) t.toNat n7
def ajk:((List Int)×Bs)->Prop:=λ(h,b)=>(∃s:St,h=s.l)/\64<=b.length
def avQ:((List Int)×Bs)->(List Int):=λ(h,b)=>(TC (ako h) b).l
def De:Ls aay N5 aax:=rW (λ(Qg,t18,n4,n5,n6,n7)=>⟨([bE,bE,.dD (.arr 8 (.int .u32)) Qg,bE,eT 4,eT 5,eT 6,eT 7]++aP 10 ([.d ti t18]++aP 98 [])),[],(bM 4 ([dK (.d (.arr 8 (.int .u32)) n4),dK (.d (.arr 64 (.int .u32)) n5),dK (.d (.arr 64 (.int .u32)) n6),dK (.d (.arr 8 (.int .u32)) n7)]++bM 109 []))⟩) (λx=>(.exit 0,⟨([bE,bE,.dD (.arr 8 (.int .u32)) x.1.1,bE,eT 4,bE,bE,eT 7]++aP 109 []),[],(bM 4 ([dK (.d (.arr 8 (.int .u32)) x.1.2),[],[],dK (.d (.arr 8 (.int .u32)) x.2)]++bM 109 []))⟩))
def F0:Ls aaA F1 QM:=rW (λ(avs,t104,Bf,ad8)=>⟨([bE,bE,.dD (.arr 8 (.int .u32)) avs,bE,eT 4,bE,bE,eT 7]++aP 96 ([.d ti t104]++aP 12 [])),[],(bM 4 ([dK (.d (.arr 8 (.int .u32)) Bf),[],[],dK (.d (.arr 8 (.int .u32)) ad8)]++bM 109 []))⟩) (λx=>(.exit 2,⟨(aP 4 ([eT 4,bE,bE,eT 7]++aP 109 [])),[],(bM 4 ([dK (.d (.arr 8 (.int .u32)) x.1),[],[],dK (.d (.arr 8 (.int .u32)) x.2)]++bM 109 []))⟩))
def mix:Fs Tryz.prog ajk bt avQ:=eN 172 Tryz.f172 (λ(h,b)=>([.d (.arr 8 (.int .u32)) h,.d tB b],[])) (λx=>⟨.d (.arr 8 (.int .u32)) x,[],[]⟩) [some (.arr 8 (.int .u32)),some tB] [ao9,aIg,agJ] {loops:=nX [(4,{aV:=[2,4,5,6,7,18],sites:=[4,5,6,7]}),(13,{aV:=[2,4,7,104],sites:=[4,7]})],outs:=nV [(4,{aV:=[2,4,7],sites:=[4,7]},{aV:=[4]}),(13,{aV:=[4,7],sites:=[4,7]},{aV:=[4]})],fC:=na [(4,De.E),(13,F0.E)]}
theorem asj:De.RS:=rL [.d (.arr 8 (.int .u32)),.d ti,.d (.slice (.int .u32)),.d (.slice (.int .u32)),.d (.slice (.int .u32)),.d (.slice (.int .u32))] De
theorem VJ{R:Type}(Qg t18 n4 n5 n6 n7)(kn:K2 R)(kx:K3 R):mix.R 0 De (Qg,t18,n4,n5,n6,n7) kn kx=aH ((gq t18 64)) (aH (decide (4 < (ag n7))) (al (pS.call ((nth (.int .u32) n7 4),(-6))) λx1=>aH (decide (4 < (ag n7))) (al (pS.call ((nth (.int .u32) n7 4),(-11))) λx2=>aH (decide (4 < (ag n7))) (al (pS.call ((nth (.int .u32) n7 4),(-25))) λx3=>aH (decide (7 < (ag n7))) (aH (decide (6 < (ag n7))) (aH (decide (4 < (ag n7))) (aH (decide (5 < (ag n7))) (aH (decide (6 < (ag n7))) (aH (eo t18 64) (aH (decide ((ae t18) < (ag n6))) (aH (decide ((((ae t18)*1)+0)=(0+((ae t18)*1)))) (aH (eo t18 64) (aH (decide ((ae t18) < (ag n5))) (aH (decide ((((ae t18)*1)+0)=(0+((ae t18)*1)))) (aH (decide (0 < (ag n7))) (al (pS.call ((nth (.int .u32) n7 0),(-2))) λx4=>aH (decide (0 < (ag n7))) (al (pS.call ((nth (.int .u32) n7 0),(-13))) λx5=>aH (decide (0 < (ag n7))) (al (pS.call ((nth (.int .u32) n7 0),(-22))) λx6=>aH (decide (0 < (ag n7))) (aH (decide (1 < (ag n7))) (aH (decide (2 < (ag n7))) (aH (decide (0 < (ag n7))) (aH (decide (1 < (ag n7))) (aH (decide (0 < (ag n7))) (aH (decide (1 < (ag n7))) (aH (decide (2 < (ag n7))) (aH (decide (3 < (ag n7))) (aH (decide (4 < (ag n7))) (aH (decide (5 < (ag n7))) (aH (decide (6 < (ag n7))) (kn (De.st (Qg,(bI .i64 t18 1),n4,n5,n6,[(bI .u32 (bI .u32 (bI .u32 (bI .u32 (bI .u32 (bI .u32 (nth (.int .u32) n7 7) (cG .xor .u32 (cG .xor .u32 x1 x2) x3)) (cG .xor .u32 (nth (.int .u32) n7 6) (cG .and .u32 (nth (.int .u32) n7 4) (cG .xor .u32 (nth (.int .u32) n7 5) (nth (.int .u32) n7 6))))) (nth (.int .u32) n6 (ae t18))) (nth (.int .u32) n5 (ae t18))) (cG .xor .u32 (cG .xor .u32 x4 x5) x6)) (cG .or .u32 (cG .and .u32 (nth (.int .u32) n7 0) (nth (.int .u32) n7 1)) (cG .and .u32 (nth (.int .u32) n7 2) (cG .or .u32 (nth (.int .u32) n7 0) (nth (.int .u32) n7 1))))),(nth (.int .u32) n7 0),(nth (.int .u32) n7 1),(nth (.int .u32) n7 2),(bI .u32 (nth (.int .u32) n7 3) (bI .u32 (bI .u32 (bI .u32 (bI .u32 (nth (.int .u32) n7 7) (cG .xor .u32 (cG .xor .u32 x1 x2) x3)) (cG .xor .u32 (nth (.int .u32) n7 6) (cG .and .u32 (nth (.int .u32) n7 4) (cG .xor .u32 (nth (.int .u32) n7 5) (nth (.int .u32) n7 6))))) (nth (.int .u32) n6 (ae t18))) (nth (.int .u32) n5 (ae t18)))),(nth (.int .u32) n7 4),(nth (.int .u32) n7 5),(nth (.int .u32) n7 6)]))) none) none) none) none) none) none) none) none) none) none) none) none) none) none) none) none) none) none) none) none) none) none) none) none) none) none) none) none) none) (De.go kx ((Qg,n4),n7)):=bY
theorem asl:F0.RS:=rL [.d (.arr 8 (.int .u32)),.d ti,.d (.slice (.int .u32)),.d (.slice (.int .u32))] F0
theorem VK{R:Type}(avs t104 Bf ad8)(kn:K2 R)(kx:K3 R):mix.R 1 F0 (avs,t104,Bf,ad8) kn kx=aH ((gq t104 8)) (aH (eo t104 8) (aH (decide ((ae t104) < (ag ad8))) (aH (decide ((((ae t104)*1)+0)=(0+((ae t104)*1)))) (aH (eo t104 8) (aH (eo t104 8) (aH (decide ((ae t104) < (ag ad8))) (aH (decide ((((ae t104)*1)+0)=(0+((ae t104)*1)))) (aH (decide ((ae t104) < (ag ad8))) (kn (F0.st (avs,(bI .i64 t104 1),Bf,(fT ad8 (ae t104) (bI .u32 (nth (.int .u32) ad8 (ae t104)) (nth (.int .u32) avs (ae t104))))))) none) none) none) none) none) none) none) none) (F0.go kx (Bf,ad8)):=bY
theorem aPl{R:Type}(h b)(k:K1 R):mix.A (h,b) k=al (schedule.call b) λx1=>al (table.call ()) λx2=>al (De.call (h,0,(ab 8 0),x1,x2,h)) λx9=>al (F0.call (x9.1.1,0,x9.1.2,x9.2)) λap0=>k (mix.out ap0.2):=bY
theorem St.anr(s:St):s.l.length=8:=rfl
theorem Vw:Tr.length=64:=rfl
theorem anq(k:Nat)(h:k < 64):nth (.int .u32) Tr k=vw (kw k):=by
 have hh:∀k:Fin 64,nth (.int .u32) Tr k.val=vw (kw k.val):=by decide+kernel
 exact hh ⟨k,h⟩
theorem Uy(ws:List W)(k:Nat)(h:k < ws.length):nth (.int .u32) (wl ws) k=vw (ws.getD k 0):=by unfold nth wl;simp[h]
theorem aWY(w:W):rl w ((-6:Int)%32).toNat=vX w 6:=rfl
theorem aUA(w:W):rl w ((-11:Int)%32).toNat=vX w 11:=rfl
theorem aUD(w:W):rl w ((-25:Int)%32).toNat=vX w 25:=rfl
theorem aWX(w:W):rl w ((-2:Int)%32).toNat=vX w 2:=rfl
theorem aUB(w:W):rl w ((-13:Int)%32).toNat=vX w 13:=rfl
theorem aUC(w:W):rl w ((-22:Int)%32).toNat=vX w 22:=rfl
theorem n0(s:St):nth (.int .u32) s.l 0=vw s.a:=rfl
theorem n1(s:St):nth (.int .u32) s.l 1=vw s.b:=rfl
theorem n2(s:St):nth (.int .u32) s.l 2=vw s.c:=rfl
theorem n3(s:St):nth (.int .u32) s.l 3=vw s.d:=rfl
theorem n4(s:St):nth (.int .u32) s.l 4=vw s.e:=rfl
theorem n5(s:St):nth (.int .u32) s.l 5=vw s.f:=rfl
theorem n6(s:St):nth (.int .u32) s.l 6=vw s.g:=rfl
theorem n7(s:St):nth (.int .u32) s.l 7=vw s.h:=rfl
theorem azd:(mix.kN 0 De):=by
 refine(mix.mh 0 De) (λ(h,t,n4,n5,n6,n7)=>64 - t.toNat) ?_
 rintro⟨h,t,m4,m5,m6,m7⟩ ⟨s,ws,k,rfl,rfl,hw,hk,rfl,rfl,rfl⟩;by_cases gJ:k < 64
 ·left;refine⟨(s.l,((k+1:Nat):Int),m4,wl ws,Tr,(rounds ws s (k+1)).l),⟨s,ws,k+1,rfl,rfl,hw,ak,rfl,rfl,rfl⟩,by simp;omega,rfl,λkn kx=> ?_⟩;have e1:bI .i64 (k:Int) 1=((k+1:Nat):Int):=by rw[fU ak ak];omega
  have e2:ae (k:Int)=k:=ak;have aQu:(wl ws).length=64:=by simp[wl,hw]
  have d0:decide (k < 64)=true:=aM gJ;have i0:eo (k:Int) 64=true:=bg ak ak;rw[VJ,aU ak];generalize hv:rounds ws s k=v;simp only[e1,e2,gO,aN,cm,cr,aj,St.anr,Nat.reduceLT,Vw,aQu,d0,i0,n0,n1,n2,n3,n4,n5,n6,n7,agI,ah,anq k gJ,Uy ws k ak,qq,Ek,aWY,aUA,aUD,aWX,aUB,aUC];show kn _=kn (De.st (s.l,((k+1:Nat):Int),m4,wl ws,Tr,(mh (rounds ws s k) (kw k) (ws.getD k 0)).l));rw[hv];rfl
 ·right;obtain rfl:k=64:=ak;intro R kn kx;rw[VJ,aR ak];simp only[ao,N5,aax,GH,oJ]
theorem aze:(mix.kN 1 F0):=by
 refine(mix.mh 1 F0) (λ(h,t,n4,n7)=>8 - t.toNat) ?_
 rintro⟨h,t,m4,m7⟩ ⟨hl,k,hk,rfl⟩;have hl:m7.length=8:=hl;have e2:ae (k:Int)=k:=ak;have e3:ae ((k+1:Nat):Int)=k+1:=ak;by_cases gJ:k < 8
 ·left;have e1:bI .i64 (k:Int) 1=((k+1:Nat):Int):=by rw[fU ak ak];omega
  have hn:nth (.int .u32) m7 k=m7[k]:=cg (t:= .int .u32) ak;refine⟨(h,((k+1:Nat):Int),m4,m7.set k (bI .u32 m7[k] (nth (.int .u32) h k))),⟨by simpa using hl,k+1,ak,rfl⟩,by simp;omega,?_,λkn kx=> ?_⟩
  ·simp only[F1,QM,e2,e3];rw[Kt (λi x=>bI .u32 x (nth (.int .u32) h i)) m7 k ak]
  ·have d0:decide (k < 8)=true:=aM gJ;have i0:eo (k:Int) 8=true:=bg ak ak;rw[VK,aU ak];simp only[e1,e2,gO,aN,cm,cr,aj,hl,d0,i0,hn]
 ·right;obtain rfl:k=8:=ak;intro R kn kx;rw[VK,aR ak];simp only[ao,F1,QM,e2];rw[Qe _ _ _ ak]
theorem aPm:mix.Ok:=by
 rintro⟨h,b⟩ ⟨⟨s,rfl⟩,hb⟩;have hs:Rx b:=hb;have avv:(sched b).length=64:=by unfold sched;rw[BS,eW]
 have hp:aay (s.l,0,ab 8 0,wl (sched b),Tr,s.l):=⟨s,sched b,0,rfl,rfl,avv,ak,rfl,rfl,rfl⟩;rw[aPl,aj5 hs];simp only[ah,aA3 (d:=()) trivial,bt,OA,bt,awm,asj hp,N5,aax,GH,oJ];have aJq:aaA (s.l,0,ab 8 0,(rounds (sched b) s 64).l):=⟨rfl,0,ak,rfl⟩;simp only[asl aJq,ah,F1,QM,bt,avQ,oJ];unfold TC;generalize rounds (sched b) s 64=v;obtain⟨a1,b1,c1,d1,f1,g1,h1,i1⟩:=v;simp only[St.l,from_,List.mapIdx_cons,List.mapIdx_nil,aX,Nat.not_lt_zero,bq,aN,Nat.reduceAdd];simp only[nth,jw,q9,Ek]
theorem avR:mix.RS:=rE [.d (.slice (.int .u32)),.d tB] mix
def aPn:=mix.eS aPm 2 ⟨.fp azd,⟨.fp aze,trivial⟩⟩
theorem tD(n:Int)(k:Int)(h0:0<=k)(h1:k<=64):dX .u8 (cv .i64 n k)=n / 2^k.toNat%256:=by
 rw[Th,gX,cv];have e:min k.toNat IntKind.i64.bits=k.toNat:=by simp only[IntKind.bits];omega
 rw[e,kh _ (Int.le_of_lt (Int.pow_pos ak))];rfl
theorem ES{n:Nat}(h:n<=140737488355328):da n 1=true:=dr ak ak
def Y5:Bs->Prop:=λb=>b.length<=140737488355328
def HW:Bs->(Nat×(List Int)):=λb=>(b.length,b)
def AM:Fs Tryz.prog Y5 bt HW:=eN 170 Tryz.f170 (λsv=>([.d tB sv],[])) (λx=>⟨.bz (.new 0 0) 0 [] 0 0 x.1,[],[.obj 0 false (.vec 5 tb x.2)]⟩) [some tB] [] {bJ:=[5],owns:=[⟨2,[],5,127⟩]}
theorem axE{R:Type}(sv)(k:K1 R):AM.A sv k=aH (decide (0 < (ag sv))) (aH (da (0+(ag sv)) 1) (k (AM.out ((0+(ag sv)),((aQ 0 (ab 0 0))++sv)))) none) (nd (k (AM.out (0,([]:List Int)))) (aH (da (0+(ag sv)) 1) (k (AM.out ((0+(ag sv)),((aQ 0 (ab 0 0))++sv)))) none)):=bY
theorem axF:AM.Ok:=by
 intro b hb;have hr:da b.length 1=true:=ES hb;rw[axE];have e0:(aQ 0 (ab 0 0):List Int)=[]:=rfl;simp only[aN,hr,aj,e0,aT,bt,HW];by_cases h:0 < b.length
 ·simp only[aM h,aj]
 ·have:b=[]:=bD ak;subst this;simp only[aZ,zI,aS (hJ 0),ao]
theorem Ni:AM.RS:=rE [.d tB] AM
def SO:=AM.eS axF
def ayZ:Int->Prop:=λ_=>True
def avJ:Int->(Nat×(List Int)):=λn=>(8,jo n)
def aam:Fs Tryz.prog ayZ bt avJ:=eN 111 Tryz.f111 (λn=>([.dd,.d ti n],[])) (λx=>⟨.bz (.new 0 0) 0 [] 0 0 x.1,[],[.obj 0 false (.vec 5 tb x.2)]⟩) [none,some ti] [] {loops:=nX [(2,{aV:=[0,1,5],sites:=[16]})],outs:=nV [(2,{aV:=[0],sites:=[16]},{aV:=[4],sites:=[16]})],owns:=[⟨4,[],16,127⟩]} 12
theorem aFO{R:Type}(n)(k:K1 R):aam.A n k=k (aam.out (8,[(dX .u8 (cv .i64 n 56)),(dX .u8 (cv .i64 n 48)),(dX .u8 (cv .i64 n 40)),(dX .u8 (cv .i64 n 32)),(dX .u8 (cv .i64 n 24)),(dX .u8 (cv .i64 n 16)),(dX .u8 (cv .i64 n 8)),(dX .u8 (cv .i64 n 0))])):=bY
theorem aqv(n:Int): [dX .u8 (cv .i64 n 56),dX .u8 (cv .i64 n 48),dX .u8 (cv .i64 n 40),dX .u8 (cv .i64 n 32),dX .u8 (cv .i64 n 24),dX .u8 (cv .i64 n 16),dX .u8 (cv .i64 n 8),dX .u8 (cv .i64 n 0)]=jo n:=by rw[tD n 56 ak ak,tD n 48 ak ak,tD n 40 ak ak,tD n 32 ak ak,tD n 24 ak ak,tD n 16 ak ak,tD n 8 ak ak,tD n 0 ak ak];simp[jo]
theorem aFP:aam.Ok:=by intro n _;rw[aFO,aqv];rfl
theorem ay0:aam.RS:=rE [.d ti] aam
def aFQ:=aam.aSW azo aFP 1 ⟨.none bY,trivial⟩
def Tx:(Nat×Int×Bs)->Prop:=λ(m,n,l)=>m=l.length/\l.length<=140737488355320
def XX:(Nat×Int×Bs)->(Nat×(List Int)):=λ(m,n,l)=>(l.length+8,l++jo n)
def VA:Fs Tryz.prog Tx bt XX:=eN 111 Tryz.f111 (λ(bL,n,o0)=>([.bz (.bm 0) 0 [] 0 0 bL,.d ti n],[.obj 0 false (.vec 5 tb o0)])) (λx=>⟨.bz (.bm 0) 8 [] 0 0 x.1,[.obj 8 false (.vec 5 tb x.2)],[]⟩) [none,some ti] [] {loops:=nX [(2,{aV:=[0,1,5],sites:=[16]})],outs:=nV [(2,{aV:=[0],sites:=[16]},{aV:=[4],sites:=[16]})]} 12
theorem aFR{R:Type}(bL n o0)(k:K1 R):VA.A (bL,n,o0) k=aH (decide (bL<=(ag o0))) (aH (da (bL+1) 1) (aH (decide ((bL+1)<=(ag ((aQ bL o0)++ [(dX .u8 (cv .i64 n 56))])))) (aH (da ((bL+1)+1) 1) (aH (decide (((bL+1)+1)<=(ag ((aQ (bL+1) ((aQ bL o0)++ [(dX .u8 (cv .i64 n 56))]))++ [(dX .u8 (cv .i64 n 48))])))) (aH (da (((bL+1)+1)+1) 1) (aH (decide ((((bL+1)+1)+1)<=(ag ((aQ ((bL+1)+1) ((aQ (bL+1) ((aQ bL o0)++ [(dX .u8 (cv .i64 n 56))]))++ [(dX .u8 (cv .i64 n 48))]))++ [(dX .u8 (cv .i64 n 40))])))) (aH (da ((((bL+1)+1)+1)+1) 1) (aH (decide (((((bL+1)+1)+1)+1)<=(ag ((aQ (((bL+1)+1)+1) ((aQ ((bL+1)+1) ((aQ (bL+1) ((aQ bL o0)++ [(dX .u8 (cv .i64 n 56))]))++ [(dX .u8 (cv .i64 n 48))]))++ [(dX .u8 (cv .i64 n 40))]))++ [(dX .u8 (cv .i64 n 32))])))) (aH (da (((((bL+1)+1)+1)+1)+1) 1) (aH (decide ((((((bL+1)+1)+1)+1)+1)<=(ag ((aQ ((((bL+1)+1)+1)+1) ((aQ (((bL+1)+1)+1) ((aQ ((bL+1)+1) ((aQ (bL+1) ((aQ bL o0)++ [(dX .u8 (cv .i64 n 56))]))++ [(dX .u8 (cv .i64 n 48))]))++ [(dX .u8 (cv .i64 n 40))]))++ [(dX .u8 (cv .i64 n 32))]))++ [(dX .u8 (cv .i64 n 24))])))) (aH (da ((((((bL+1)+1)+1)+1)+1)+1) 1) (aH (decide (((((((bL+1)+1)+1)+1)+1)+1)<=(ag ((aQ (((((bL+1)+1)+1)+1)+1) ((aQ ((((bL+1)+1)+1)+1) ((aQ (((bL+1)+1)+1) ((aQ ((bL+1)+1) ((aQ (bL+1) ((aQ bL o0)++ [(dX .u8 (cv .i64 n 56))]))++ [(dX .u8 (cv .i64 n 48))]))++ [(dX .u8 (cv .i64 n 40))]))++ [(dX .u8 (cv .i64 n 32))]))++ [(dX .u8 (cv .i64 n 24))]))++ [(dX .u8 (cv .i64 n 16))])))) (aH (da (((((((bL+1)+1)+1)+1)+1)+1)+1) 1) (aH (decide ((((((((bL+1)+1)+1)+1)+1)+1)+1)<=(ag ((aQ ((((((bL+1)+1)+1)+1)+1)+1) ((aQ (((((bL+1)+1)+1)+1)+1) ((aQ ((((bL+1)+1)+1)+1) ((aQ (((bL+1)+1)+1) ((aQ ((bL+1)+1) ((aQ (bL+1) ((aQ bL o0)++ [(dX .u8 (cv .i64 n 56))]))++ [(dX .u8 (cv .i64 n 48))]))++ [(dX .u8 (cv .i64 n 40))]))++ [(dX .u8 (cv .i64 n 32))]))++ [(dX .u8 (cv .i64 n 24))]))++ [(dX .u8 (cv .i64 n 16))]))++ [(dX .u8 (cv .i64 n 8))])))) (aH (da ((((((((bL+1)+1)+1)+1)+1)+1)+1)+1) 1) (k (VA.out (((((((((bL+1)+1)+1)+1)+1)+1)+1)+1),((aQ (((((((bL+1)+1)+1)+1)+1)+1)+1) ((aQ ((((((bL+1)+1)+1)+1)+1)+1) ((aQ (((((bL+1)+1)+1)+1)+1) ((aQ ((((bL+1)+1)+1)+1) ((aQ (((bL+1)+1)+1) ((aQ ((bL+1)+1) ((aQ (bL+1) ((aQ bL o0)++ [(dX .u8 (cv .i64 n 56))]))++ [(dX .u8 (cv .i64 n 48))]))++ [(dX .u8 (cv .i64 n 40))]))++ [(dX .u8 (cv .i64 n 32))]))++ [(dX .u8 (cv .i64 n 24))]))++ [(dX .u8 (cv .i64 n 16))]))++ [(dX .u8 (cv .i64 n 8))]))++ [(dX .u8 (cv .i64 n 0))])))) none) none) none) none) none) none) none) none) none) none) none) none) none) none) none) none:=bY
theorem aFS:VA.Ok:=by rintro⟨m,n,l⟩ ⟨rfl,hl⟩;have hl:l.length<=140737488355320:=hl;rw[aFR];simp only[ax,cr,aj,aY,ai,aA,aZ,aN];rw[ES ak,ES ak,ES ak,ES ak,ES ak,ES ak,ES ak,ES ak];simp only[aj,bt,XX,<-aqv,aF,gN,aT]
theorem af8:VA.RS:=rE [.n,.d ti,.d tB] VA
def anz:=VA.aSW ag0 aFS 1 ⟨.none bY,trivial⟩
abbrev Tb:=Bs×Nat×Bs×(List Int)
abbrev afZ:=Nat×(List Int)
def Ci:Tb->afZ->((Bs×Bs)×(Nat×(List Int))):=λ(iN,endL,n2,n14) y=>((iN,n2),y)
abbrev Tc:=Bs×Nat×Bs×(List Int)×(List Int)
def Cj:Tc->(List Int)->((Nat×Bs×(List Int))×((List Int))):=λ(Sh,NB,kM,n4,aaG) y=>((NB,kM,aaG),y)
abbrev Td:=Bs×Bs×(List Int)
def Ck:Td->(List Int)->((Bs)×((List Int))):=λ(endv,td,Bf) y=>(td,y)
abbrev af0:=Int×Bs×(List Int)
def zc(n:Nat):Nat:=(120 - n%64)%64
def Vl:Tb->Prop:=λ(b,m,n2,l)=>m=l.length/\l.length+zc l.length<=140737488355328
def Kv:Tb->afZ:=λ(b,m,n2,l)=>(l.length+zc l.length,l++ab (zc l.length) 0)
def Vm:Tc->Prop:=λ(b,m,n2,h,l)=>∃s:St,h=s.l
def Kw:Tc->(List Int):=λ(b,m,n2,h,l)=>(blocks (ako h) b).l
def Vn:Td->Prop:=λ(b,n2,h)=>b.length%64=0/\∃s:St,h=s.l
def Kx:Td->(List Int):=λ(b,n2,h)=>(blocks (ako h) b).l
def Lo(h:List Int)(i:Nat)(_:Int):Int:=dX .u8 (cv .u32 (nth (.int .u32) h (i / 4)) ((24 - 8*(i%4):Nat):Int))
def Vo:af0->Prop:=λ(t,n2,h)=>n2.length=32/\h.length=8/\∃k:Nat,k<=32/\t=k
def Ky:af0->Bs:=λ(t,n2,h)=>from_ (Lo h) t.toNat n2
def am8:Bs->Prop:=λb=>b.length<=140737488350000
def arN:Bs->Bs:=λb=>aPJ b
def zr:Ls Vl Ci Kv:=rW (λ(iN,endL,n2,n14)=>⟨([.d tB iN,bE,eT 2,oh 14 endL]++aP 61 []),[],([[],[],dK (.d tH n2)]++bM 11 ([dK (.vec 5 tb n14)]++bM 50 []))⟩) (λx=>(.exit 0,⟨([.d tB x.1.1,bE,eT 2,oh 14 x.2.1]++aP 61 []),[],([[],[],dK (.d tH x.1.2)]++bM 11 ([dK (.vec 5 tb x.2.2)]++bM 50 []))⟩))
def zs:Ls Vm Cj Kw:=rW (λ(Sh,NB,kM,n4,aaG)=>⟨([.d tB Sh,bE,eT 2,.bz (.new 14 0) 8 [] 0 0 NB,eT 4]++aP 60 []),[],([[],[],dK (.d tH kM),[],dK (.d (.arr 8 (.int .u32)) n4)]++bM 9 ([[.obj 8 false (.vec 5 tb aaG)]]++bM 50 []))⟩) (λx=>(.exit 2,⟨([bE,bE,eT 2,.bz (.new 14 0) 8 [] 0 0 x.1.1,eT 4]++aP 60 []),[],([[],[],dK (.d tH x.1.2.1),[],dK (.d (.arr 8 (.int .u32)) x.2)]++bM 9 ([[.obj 8 false (.vec 5 tb x.1.2.2)]]++bM 50 []))⟩))
def zt:Ls Vn Ck Kx:=rW (λ(endv,td,Bf)=>⟨([bE,bE,eT 2,.d tB endv,eT 4]++aP 60 []),[],([[],[],dK (.d tH td),[],dK (.d (.arr 8 (.int .u32)) Bf)]++bM 60 [])⟩) (λx=>(.exit 4,⟨([bE,bE,eT 2,bE,eT 4]++aP 60 []),[],([[],[],dK (.d tH x.1),[],dK (.d (.arr 8 (.int .u32)) x.2)]++bM 60 [])⟩))
def zu:Ls Vo bt Ky:=rW (λ(t48,N6,QP)=>⟨([bE,bE,eT 2,bE,eT 4]++aP 43 ([.d ti t48]++aP 16 [])),[],([[],[],dK (.d tH N6),[],dK (.d (.arr 8 (.int .u32)) QP)]++bM 60 [])⟩) (λx=>(.exit 6,⟨([bE,bE,eT 2]++aP 62 []),[],([[],[],dK (.d tH x)]++bM 62 [])⟩))
def Ej:Fs Tryz.prog am8 bt arN:=eN 112 Tryz.f112 (λb=>([.d tB b],[])) (λx=>⟨.d tH x,[],[]⟩) [some tB] [SO,anz,aEG,aPn] {loops:=nX [(2,{aV:=[0,2,3],sites:=[2,14],owns:=[⟨3,[],14,127⟩]}),(6,{aV:=[0,2,3,4],sites:=[2,4,14]}),(9,{aV:=[2,3,4],sites:=[2,4],data:=[(3,tB)]}),(13,{aV:=[2,4,48],sites:=[2,4]})],outs:=nV [(2,{aV:=[0,2,3],sites:=[2,14]},{aV:=[2]}),(6,{aV:=[2,3,4],sites:=[2,4,14]},{aV:=[2]}),(9,{aV:=[2,4],sites:=[2,4]},{aV:=[2]}),(13,{aV:=[2],sites:=[2]},{aV:=[2]})],fC:=na [(2,zr.E),(6,zs.E),(9,zt.E),(13,zu.E)]}
theorem am4:zr.RS:=rL [.d tB,.n,.d tB,.d tB] zr
theorem Qk{R:Type}(iN endL n2 n14)(kn:K2 R)(kx:K3 R):Ej.R 0 zr (iN,endL,n2,n14) kn kx=aH ((BY (mR ((endL:Nat):Int) 64) 56)) (aH (decide (endL<=(ag n14))) (aH (da (endL+1) 1) (kn (zr.st (iN,(endL+1),n2,((aQ endL n14)++ [0])))) none) none) (zr.go kx ((iN,n2),(endL,n14))):=bY
theorem am5:zs.RS:=rL [.d tB,.n,.d tB,.d (.slice (.int .u32)),.d tB] zs
theorem Ql{R:Type}(Sh NB kM n4 aaG)(kn:K2 R)(kx:K3 R):Ej.R 1 zs (Sh,NB,kM,n4,aaG) kn kx=aH ((Cm (Sh.length:Int) 64)) (aH (inc 64 (Sh.length:Int)) (al (mix.call (n4,(cut Sh 0 64))) λx1=>aH (inc 64 (Sh.length:Int)) (kn (zs.st ((cut Sh 64 ((ag Sh) - 64)),NB,kM,x1,aaG))) none) none) (zs.go kx ((NB,kM,aaG),n4)):=bY
theorem am6:zt.RS:=rL [.d tB,.d tB,.d (.slice (.int .u32))] zt
theorem Qm{R:Type}(endv td Bf)(kn:K2 R)(kx:K3 R):Ej.R 2 zt (endv,td,Bf) kn kx=aH ((rz (endv.length:Int) 0)) (aH (inc 64 (endv.length:Int)) (al (mix.call (Bf,(cut endv 0 64))) λx1=>aH (inc 64 (endv.length:Int)) (kn (zt.st ((cut endv 64 ((ag endv) - 64)),td,x1))) none) none) (zt.go kx (td,Bf)):=bY
theorem am7:zu.RS:=rL [.d ti,.d tB,.d (.slice (.int .u32))] zu
theorem Qo{R:Type}(t48 N6 QP)(kn:K2 R)(kx:K3 R):Ej.R 3 zu (t48,N6,QP) kn kx=aH ((gq t48 32)) (aH (eo (tV .i64 t48 4) 8) (aH (decide ((ae (tV .i64 t48 4)) < (ag QP))) (aH (decide ((((ae (tV .i64 t48 4))*1)+0)=(0+((ae (tV .i64 t48 4))*1)))) (aH (mF (cP .i64 24 (gv .i64 8 (mR t48 4)))) (aH (eo t48 32) (aH (decide ((ae t48) < (ag N6))) (aH (decide ((((ae t48)*1)+0)=(0+((ae t48)*1)))) (aH (decide ((ae t48) < (ag N6))) (kn (zu.st ((bI .i64 t48 1),(fT N6 (ae t48) (dX .u8 (cv .u32 (nth (.int .u32) QP (ae (tV .i64 t48 4))) (cP .i64 24 (gv .i64 8 (mR t48 4)))))),QP))) none) none) none) none) none) none) none) none) (zu.go kx N6):=bY
theorem aK9{R:Type}(b)(k:K1 R):Ej.A b k=aH (inc (cP .i64 (b.length:Int) (mR (b.length:Int) 64)) (b.length:Int)) (al (AM.call (cut b (ae (cP .i64 (b.length:Int) (mR (b.length:Int) 64))) ((ag b) - (ae (cP .i64 (b.length:Int) (mR (b.length:Int) 64)))))) λx1=>aH (decide (x1.1<=(ag x1.2))) (aH (da (x1.1+1) 1) (al (zr.call (b,(x1.1+1),(ab 32 0),((aQ x1.1 x1.2)++ [128]))) λx2=>al (VA.call (x2.2.1,(gv .i64 8 (x2.1.1.length:Int)),x2.2.2)) λx3=>al (first.call ()) λx4=>al (zs.call (x2.1.1,x3.1,x2.1.2,x4,x3.2)) λx6=>aH (decide (0=0/\(0+x6.1.1)<=(ag x6.1.2.2))) (al (zt.call ((cut x6.1.2.2 0 x6.1.1),x6.1.2.1,x6.2)) λx9=>al (zu.call (0,x9.1,x9.2)) λap0=>k (Ej.out ap0)) none) none) none) none:=bY
theorem arO:(Ej.kN 0 zr):=by
 refine(Ej.mh 0 zr) (λ(b,m,n2,l)=>zc l.length) ?_
 rintro⟨b,m,n2,l⟩ ⟨rfl,hl⟩;have hl:l.length+zc l.length<=140737488355328:=hl;have hr:mR ((l.length:Nat):Int) 64=((l.length%64:Nat):Int):=by unfold mR;rw[hZ ak];omega
 by_cases h:l.length%64=56
 ·right;intro R kn kx;have hz:zc l.length=0:=by unfold zc;omega
  rw[Qk,hr,dB ak];simp only[ao,Ci,Kv,hz,cm,List.replicate_zero,ba]
 ·left;have hz:zc l.length=zc (l.length+1)+1:=by unfold zc;omega
  refine⟨(b,l.length+1,n2,l++ [0]),⟨by simp,by simp only[ai,aA,aZ,aN];omega⟩,by simp only[ai,aA,aZ,aN];omega,?_,λkn kx=> ?_⟩
  ·simp only[Ci,Kv,ai,aA,aZ,aN,hz,aF,gN,aT,List.replicate_succ];rw[show l.length+1+zc (l.length+1)=l.length+(zc (l.length+1)+1) by omega]
  ·rw[Qk,hr,fj ak,ES ak];simp only[aj,ax,cr,bK]
theorem arP:(Ej.kN 1 zs):=by
 refine(Ej.mh 1 zs) (λ(b,m,n2,h,l)=>b.length) ?_
 rintro⟨b,m,n2,h,l⟩ ⟨s,rfl⟩;by_cases hb:64<=b.length
 ·left;have e1:cut b 64 (b.length - 64)=b.drop 64:=by unfold cut;rw[aY (by simp)]
  have e2:cut b 0 64=b.take 64:=rfl;have hp:ajk (s.l,b.take 64):=⟨⟨s,rfl⟩,by simp;omega⟩;refine⟨(b.drop 64,m,n2,(TC s (b.take 64)).l,l),⟨_,rfl⟩,by simp;omega,?_,λkn kx=> ?_⟩
  ·simp only[Cj,Kw,oJ];rw[HP s b hb]
  ·rw[Ql,gr ak,uI ak ak,e1,e2];simp only[aj,avR hp,ah,bt,avQ,oJ]
 ·right;intro R kn kx;rw[Ql,eE ak];simp only[ao,Cj,Kw,oJ];rw[Fb s b ak]
theorem arQ:(Ej.kN 2 zt):=by
 refine(Ej.mh 2 zt) (λ(b,n2,h)=>b.length) ?_
 rintro⟨b,n2,h⟩ ⟨hm,s,rfl⟩;have hm:b.length%64=0:=hm;by_cases hb:0 < b.length
 ·left;have e1:cut b 64 (b.length - 64)=b.drop 64:=by unfold cut;rw[aY (by simp)]
  have e2:cut b 0 64=b.take 64:=rfl;have hp:ajk (s.l,b.take 64):=⟨⟨s,rfl⟩,by simp;omega⟩;refine⟨(b.drop 64,n2,(TC s (b.take 64)).l),⟨by simp;omega,_,rfl⟩,by simp;omega,?_,λkn kx=> ?_⟩
  ·simp only[Ck,Kx,oJ];rw[HP s b ak]
  ·rw[Qm,cR ak,uI ak ak,e1,e2];simp only[aj,avR hp,ah,bt,avQ,oJ]
 ·right;intro R kn kx;rw[Qm,cn ak];simp only[ao,Ck,Kx,oJ];rw[Fb s b ak]
theorem arR:(Ej.kN 3 zu):=by
 refine(Ej.mh 3 zu) (λ(t,n2,h)=>32 - t.toNat) ?_
 rintro⟨t,m,h⟩ ⟨hl,h8,k,hk,rfl⟩;have hl:m.length=32:=hl;have h8:h.length=8:=h8;have e2:ae (k:Int)=k:=ak;have e3:ae ((k+1:Nat):Int)=k+1:=ak;by_cases gJ:k < 32
 ·left;have e1:bI .i64 (k:Int) 1=((k+1:Nat):Int):=by rw[fU ak ak];omega
  have q4:tV .i64 (k:Int) 4=((k / 4:Nat):Int):=by
   have:(k:Int).tdiv 4=((k / 4:Nat):Int):=by rw[ki ak];omega
   unfold tV;rw[this,uG ak ak]
  have r4:mR (k:Int) 4=((k%4:Nat):Int):=by unfold mR;rw[hZ ak];omega
  have s4:cP .i64 24 (gv .i64 8 ((k%4:Nat):Int))=((24 - 8*(k%4):Nat):Int):=by rw[Ii ak ak,eL ak ak];omega
  have e4:ae ((k / 4:Nat):Int)=k / 4:=ak;refine⟨(((k+1:Nat):Int),m.set k (Lo h k m[k]),h),⟨by simpa using hl,h8,k+1,ak,rfl⟩,by simp;omega,?_,λkn kx=> ?_⟩
  ·simp only[bt,Ky,e2,e3];rw[Kt (Lo h) m k ak]
  ·have d0:decide (k < 32)=true:=aM gJ;have d1:decide (k / 4 < 8)=true:=aM ak;rw[Qo,aU ak,q4,r4,s4,bg ak ak,bg ak ak,tE ak];simp only[e1,e2,e4,gO,aN,cm,cr,aj,hl,h8,d0,d1,Lo]
 ·right;obtain rfl:k=32:=ak;intro R kn kx;rw[Qo,aR ak];simp only[ao,bt,Ky,e2];rw[Qe _ _ _ ak]
theorem azu(w:W):bf 8 (vw w)=w.setWidth 8:=by apply BitVec.eq_of_toNat_eq;rw[sK,BitVec.toNat_setWidth];unfold vw;omega
theorem aOg(w:W)(k:Int):dX .u8 (cv .u32 (vw w) k)=vw ((w >>> k.toNat).setWidth 8):=by rw[Il,Th,azu]
theorem av0(s:St):from_ (Lo s.l) 0 (ab 32 0)=aLZ s:=by rw[ZM];simp only[List.range_eq_range',List.range',bP,ig,Lo,Nat.reduceAdd,Nat.reduceDiv,Nat.reduceMod,Nat.reduceMul,Nat.reduceSub,n0,n1,n2,n3,n4,n5,n6,n7,aOg];rfl
theorem aLa:Ej.Ok:=by
 intro b hb;have hb:b.length<=140737488350000:=hb;have hr:mR ((b.length:Nat):Int) 64=((b.length%64:Nat):Int):=by unfold mR;rw[hZ ak];omega
 have hs:cP .i64 ((b.length:Nat):Int) ((b.length%64:Nat):Int)=((b.length - b.length%64:Nat):Int):=by rw[eL ak ak];omega
 have hn:ae ((b.length - b.length%64:Nat):Int)=b.length - b.length%64:=ak;have hm:gv .i64 8 ((b.length:Nat):Int)=8*(b.length:Int):=Ii ak ak;generalize hq:b.length - b.length%64=q at hs hn;have hc:cut b q (b.length - q)=b.drop q:=by unfold cut;rw[aY (by simp)]
 have aBX:(b.drop q).length=b.length%64:=by simp;omega
 have p1:Y5 (b.drop q):=by show(b.drop q).length<=_;omega
 rw[aK9,hr,hs,uI ak ak,hn,hc];simp only[aj,Ni p1,ah,bt,HW,ax,cr,bK];have p2:Vl (b,(b.drop q).length+1,ab 32 0,b.drop q++ [128]):=by refine⟨by simp,?_⟩;simp only[ai,aA,aZ,zc];omega
 have hz:zc (b.drop q++ [128]).length=Bm b.length:=by simp only[ai,aA,aZ,zc,Bm];omega
 rw[ES ak];simp only[aj,am4 p2,ah,Ci,Kv,hm,hz];have hlen:(b.drop q++ [128]).length+Bm b.length=(b.drop q++ [128]++ab (Bm b.length) 0).length:=by rw[@ai _ (b.drop q++ [128]),b8]
 have p3:Tx ((b.drop q++ [128]).length+Bm b.length,8*(b.length:Int),b.drop q++ [128]++ab (Bm b.length) 0):=by refine⟨hlen,?_⟩;simp only[ai,aA,aZ,b8,Bm];omega
 have p4:Vm (b,(b.drop q++ [128]++ab (Bm b.length) 0).length+8,ab 32 0,sT.l,b.drop q++ [128]++ab (Bm b.length) 0++jo (8*(b.length:Int))):=⟨sT,rfl⟩;simp only[af8 p3,ah,bt,XX,ayg (d:=()) trivial,bt,avn,am5 p4,Cj,Kw,oJ];generalize he:b.drop q++ [128]++ab (Bm b.length) 0++jo (8*(b.length:Int))=e;have K6:(b.drop q++ [128]++ab (Bm b.length) 0).length+8=e.length:=by rw[<-he,@ai _ _ (jo _),cj]
 have aQo:e.length%64=0:=by rw[<-K6];simp only[ai,aA,aZ,b8,Bm,aBX];omega
 have aOL:cut e 0 ((b.drop q++ [128]++ab (Bm b.length) 0).length+8)=e:=by rw[K6];unfold cut;rw[aD,bK]
 rw[aOL,K6,aM ⟨trivial,ak⟩];have p5:Vn (e,ab 32 0,(blocks sT b).l):=⟨aQo,blocks sT b,rfl⟩;have p6:Vo (0,ab 32 0,(blocks (blocks sT b) e).l):=⟨rfl,rfl,0,ak,rfl⟩;simp only[aj,am6 p5,ah,Ck,Kx,oJ,am7 p6,bt,Ky,bt,arN];rw[show ae 0=0 from rfl,av0];have aQk:blocks sT (pad b)=blocks (blocks sT b) e:=by
  have h1:pad b=b.take q++e:=by rw[<-he];unfold pad;rw[aF,aF,<-aF (b.take q),dq];rfl
  have h2:blocks sT b=blocks (blocks sT (b.take q)) (b.drop q):=by rw[<-Ll _ _ _ (by simp;omega),dq]
  rw[h1,Ll _ _ _ (by simp;omega),h2,Fb _ (b.drop q) ak]
 rw[aPJ,aQk]
theorem aE9:Ej.RS:=rE [.d tB] Ej
def aLb:=Ej.eS aLa 4 ⟨.fp arO,⟨.fp arP,⟨.fp arQ,⟨.fp arR,trivial⟩⟩⟩⟩
abbrev Tf:=Nat×(List Bs)×Int×Int×Bs×(List Int)
abbrev af1:=Nat×(List Int)
def Cl:Tf->af1->((Bs)×(Nat×(List Int))):=λ(bL,t13,t14,t15,n4,n10) y=>(n4,y)
abbrev aFa:=ByteArray×(List Bs)
def Vp:Tf->Prop:=λ(m,ps,n,i,n4,l)=>m=l.length/\n=ps.length/\ps.length<=140737488350000/\∃k:Nat,k<=ps.length/\i=k/\l.length+(oR (ps.drop k)).length<=140737488350000
def Kz:Tf->af1:=λ(m,ps,n,i,n4,l)=>(l.length+(oR (ps.drop i.toNat)).length,l++oR (ps.drop i.toNat))
def Qq:aFa->Prop:=λ(name,ps)=>(Um (bH name) ps).length<=140737488350000
def aiT:aFa->Bs:=λ(name,ps)=>tag (bH name) ps
def zw:Ls Vp Cl Kz:=rW (λ(bL,t13,t14,t15,n4,n10)=>⟨(aP 4 ([eT 4,oh 10 bL]++aP 7 ([.d (.slice tB) t13,.d ti t14,.d ti t15]++aP 12 []))),[],(bM 4 ([dK (.d tH n4)]++bM 5 ([dK (.vec 5 tb n10)]++bM 17 [])))⟩) (λx=>(.exit 0,⟨(aP 4 ([eT 4,oh 10 x.2.1]++aP 22 [])),[],(bM 4 ([dK (.d tH x.1)]++bM 5 ([dK (.vec 5 tb x.2.2)]++bM 17 [])))⟩))
def Te:Fs Tryz.prog Qq bt aiT:=eN 68 Tryz.f68 (λ(name,parts)=>([.d .str name,.d (.slice tB) parts],[])) (λx=>⟨.d tH x,[],[]⟩) [some .str,some (.slice tB)] [aFQ,anz,aLb] {loops:=nX [(3,{aV:=[4,5,13,14,15],sites:=[4,10],owns:=[⟨5,[],10,127⟩]})],outs:=nV [(3,{aV:=[4,5],sites:=[4,10]},{aV:=[4]})],fC:=na [(3,zw.E)]}
theorem am9:zw.RS:=rL [.n,.d (.slice tB),.d ti,.d ti,.d tB,.d tB] zw
theorem Qp{R:Type}(bL t13 t14 t15 n4 n10)(kn:K2 R)(kx:K3 R):Te.R 0 zw (bL,t13,t14,t15,n4,n10) kn kx=aH ((gq t15 t14)) (aH (eo t15 (t13.length:Int)) (al (VA.call (bL,(((ag (nth tB t13 (ae t15))):Nat):Int),n10)) λx1=>aH (decide (x1.1<=(ag x1.2))) (aH (da (x1.1+(ag (nth tB t13 (ae t15)))) 1) (kn (zw.st ((x1.1+(ag (nth tB t13 (ae t15)))),t13,t14,(bI .i64 t15 1),n4,((aQ x1.1 x1.2)++(nth tB t13 (ae t15)))))) none) none) none) (zw.go kx (n4,(bL,n10))):=bY
theorem aLc{R:Type}(name parts)(k:K1 R):Te.A (name,parts) k=al (aam.call (((ByteArray.size name):Nat):Int)) λx1=>aH (decide (x1.1<=(ag x1.2))) (aH (da (x1.1+(ag (bH name))) 1) (al (zw.call ((x1.1+(ag (bH name))),parts,(parts.length:Int),0,(ab 32 0),((aQ x1.1 x1.2)++(bH name)))) λx4=>aH (decide (0=0/\(0+x4.2.1)<=(ag x4.2.2))) (al (Ej.call (cut x4.2.2 0 x4.2.1)) λx5=>k (Te.out x5)) none) none) none:=bY
theorem ag2(p:List Int)(ps:List (List Int)):oR (p::ps)=jo p.length++p++oR ps:=by simp[oR]
theorem ag3(ps:List (List Int))(k:Nat)(h:k < ps.length):oR (ps.drop k)=jo ps[k].length++ps[k]++oR (ps.drop (k+1)):=by rw[aq h,ag2]
theorem arS:(Te.kN 0 zw):=by
 refine(Te.mh 0 zw) (λ(m,ps,n,i,n4,l)=>ps.length - i.toNat) ?_
 rintro⟨m,ps,n,i,n4,l⟩ ⟨rfl,rfl,OY,k,hk,rfl,hl⟩;have hl:l.length+(oR (ps.drop k)).length<=140737488350000:=hl;have hk:k<=ps.length:=hk;have e2:ae (k:Int)=k:=ak;have e3:ae ((k+1:Nat):Int)=k+1:=ak;by_cases h:k < ps.length
 ·left;have ht:=ag3 ps k h;have hlen:(oR (ps.drop k)).length=8+ps[k].length+(oR (ps.drop (k+1))).length:=by rw[ht];simp only[ai,cj]
  have hn:nth (.slice (.int .u8)) ps k=ps[k]:=cg (t:= .slice (.int .u8)) h;have OY:ps.length<=140737488350000:=OY;have e1:bI .i64 (k:Int) 1=((k+1:Nat):Int):=by rw[fU ak ak];omega
  refine⟨((l++jo ps[k].length++ps[k]).length,ps,(ps.length:Int),((k+1:Nat):Int),n4,l++jo ps[k].length++ps[k]),⟨rfl,rfl,OY,k+1,by show k+1<=ps.length;omega,rfl,?_⟩,?_,?_,λkn kx=> ?_⟩
  ·show(l++jo ps[k].length++ps[k]).length+(oR (ps.drop (k+1))).length<=_;simp only[ai,cj];omega
  ·show ps.length - ae ((k+1:Nat):Int) < ps.length - ae (k:Int);omega
  ·simp only[Cl,Kz,e2,e3,ht,aF];simp only[ai,cj,eO]
  ·have p1:Tx (l.length,(ps[k].length:Int),l):=⟨rfl,by show l.length<=_;omega⟩;rw[Qp,aU ak,bg ak ak,e1,e2];simp only[aj,hn,af8 p1,ah,bt,XX];have aJo:(l++jo ps[k].length).length=l.length+8:=by simp[cj]
   rw[aJo,aM (ax _),ES ak];simp only[aj];rw[aY (by rw[aJo];omega)];simp only[ai,cj,eO]
 ·right;obtain rfl:k=ps.length:=ak;intro R kn kx;rw[Qp,aR ak];simp only[ao,Cl,Kz,e2,aK];simp[oR]
theorem acL:∀ps:List (List Int),8*ps.length<=(oR ps).length
 |[]=>by simp[oR]
 |p::ps=>by rw[ag2];have:=acL ps;simp only[ai,cj,aA];omega
theorem lp(s:ByteArray):(bH s).length=s.size:=by simp only[bH,bU,cJ];rfl
theorem aLd:Te.Ok:=by
 rintro⟨name,ps⟩ hp;have hp:(jo (bH name).length++bH name++oR ps).length<=140737488350000:=hp;have hl:(jo (bH name).length++bH name++oR ps).length=8+(bH name).length+(oR ps).length:=by simp only[ai,cj]
 have OY:=acL ps;have tT:((name.size:Nat):Int)=(((bH name).length:Nat):Int):=by rw[lp]
 rw[aLc,ay0 (d:=((name.size:Nat):Int)) trivial,tT];simp only[ah,bt,avJ,cj,ax,cr,aj];rw[ES ak,aY (by rw[cj];omega)];have p2:Vp (8+(bH name).length,ps,(ps.length:Int),0,ab 32 0,jo ((bH name).length:Int)++bH name):=by refine⟨by simp only[ai,cj],rfl,by show ps.length<=_;omega,0,aJ _,rfl,?_⟩;rw[aD];simp only[ai,cj];omega
 simp only[aj,am9 p2,ah,Cl,Kz,aX,aD];have ayA:cut (jo ((bH name).length:Int)++bH name++oR ps) 0 ((jo ((bH name).length:Int)++bH name).length+(oR ps).length)=Um (bH name) ps:=by unfold cut;rw[aD,aY (by simp only[ai];omega)];rfl
 have p3:am8 (Um (bH name) ps):=hp;rw[aM ⟨trivial,by simp only[ai];omega⟩,ayA];simp only[aj,aE9 p3,ah,bt,arN,bt,aiT,tag]
theorem Qr:Te.RS:=rE [.d .str,.d (.slice tB)] Te
def XO:=Te.eS aLd 1 ⟨.fp arS,trivial⟩
def agN:(Int×Int)->Prop:=λ(x,n)=>0<=x/\x < 4294967296/\0<=n/\n<=32
def aMp:(Int×Int)->Int:=λ(x,n)=>vw (vX (bf 32 x) n.toNat)
def pT:Fs Tryz.prog agN bt aMp:=eN 222 Tryz.f222 (λ(x,n)=>([.d (.int .u32) x,.d ti n],[])) (λx=>⟨.d (.int .u32) x,[],[]⟩) [some (.int .u32),some ti]
theorem aHH{R:Type}(x n)(k:K1 R):pT.A (x,n) k=aH (mF n) (aH (mF (cP .i64 32 n)) (k (pT.out (cG .or .u32 (cv .u32 x n) (mD .u32 x (cP .i64 32 n))))) none) none:=bY
theorem aHI:pT.Ok:=by
 rintro⟨x,n⟩ ⟨h1,h2,h3,h4⟩;obtain⟨n,rfl⟩:=Int.eq_ofNat_of_zero_le h3;have hx:x=vw (bf 32 x):=by rw[gX];have h1:0<=x:=h1;have h2:x < 4294967296:=h2;omega
 have h4:(n:Int)<=32:=h4;rw[aHH];simp(disch:=omega) only[↓S1,↓if_pos,↓if_neg,if_pos,if_neg,bG,bq,S2];have e2:cG .or .u32 (cv .u32 x (n:Int)) (mD .u32 x ((32 - n:Nat):Int))=vw (vX (bf 32 x) n):=by
  conv=>lhs;rw[hx]
  rw[Qw,Il,qq];simp only[vX,aa];rw[BitVec.or_comm]
 rw[e2];rfl
theorem aAB:pT.RS:=rE [.d (.int .u32),.d ti] pT
def aoY:=pT.eS aHI
theorem Bx(w:W){k:Int}(h:0<=k/\k<=32):pT.call (vw w,k)=some (vw (vX w k.toNat)):=by have h:agN (vw w,k):=⟨Uu w,by have:=aIL w;simpa using this,h.1,h.2⟩;rw[aAB h];show some (vw (vX (bf 32 (vw w)) k.toNat))=_;rw[uS]
def aoL:Unit->Prop:=λ_=>True
def agD:Unit->(List Int):=λ_=>sT.l
def Gi:Fs Tryz.prog aoL bt agD:=eN 189 Tryz.f189 (λ_=>([],[])) (λx=>⟨.d (.slice (.int .u32)) x,[],[]⟩) [] [] {bJ:=[1],res:=[some (.slice (.int .u32))]}
theorem atl{R:Type}(d)(k:K1 R):Gi.A d k=k (Gi.out [1779033703,3144134277,1013904242,2773480762,1359893119,2600822924,528734635,1541459225]):=bY
theorem atm:Gi.Ok:=by intro d _;rw[atl];rfl
theorem aoM:Gi.RS:=rE [] Gi
def atn:=Gi.eS atm
def aAd:Unit->Prop:=λ_=>True
def awa:Unit->(List Int):=λ_=>Tr
def abQ:Fs Tryz.prog aAd bt awa:=eN 221 Tryz.f221 (λ_=>([],[])) (λx=>⟨.d (.slice (.int .u32)) x,[],[]⟩) [] [] {bJ:=[1],res:=[some (.slice (.int .u32))]}
theorem aG6{R:Type}(d)(k:K1 R):abQ.A d k=k (abQ.out [1116352408,1899447441,3049323471,3921009573,961987163,1508970993,2453635748,2870763221,3624381080,310598401,607225278,1426881987,1925078388,2162078206,2614888103,3248222580,3835390401,4022224774,264347078,604807628,770255983,1249150122,1555081692,1996064986,2554220882,2821834349,2952996808,3210313671,3336571891,3584528711,113926993,338241895,666307205,773529912,1294757372,1396182291,1695183700,1986661051,2177026350,2456956037,2730485921,2820302411,3259730800,3345764771,3516065817,3600352804,4094571909,275423344,430227734,506948616,659060556,883997877,958139571,1322822218,1537002063,1747873779,1955562222,2024104815,2227730452,2361852424,2428436474,2756734187,3204031479,3329325298]):=bY
theorem aG7:abQ.Ok:=by intro d _;rw[aG6];rfl
theorem aAe:abQ.RS:=rE [] abQ
def aG8:=abQ.eS aG7
abbrev Gl:=Bs×Nat×(List Int)
abbrev Ro:=Nat×(List Int)
def uW:Gl->Ro->((Bs)×(Nat×(List Int))):=λ(iN,outL,n6) y=>(iN,y)
abbrev Rp:=Nat×Int×Int×(List Int)
def Jj:Gl->Prop:=λ(b,m,l)=>m=l.length/\l.length+zc l.length<=140737488355328
def zR:Gl->Ro:=λ(b,m,l)=>(l.length+zc l.length,l++ab (zc l.length) 0)
def Jk:Rp->Prop:=λ(m,n,kv,l)=>0<=n/\n < 18446744073709551616/\∃j:Nat,j<=8/\kv=56 - 8*(j:Int)/\m=l.length/\l.length<=140737488355320+j
def zS:Rp->(Nat×(List Int)):=λ(m,n,kv,l)=>(l.length+(jo n).length - (7 - (kv / 8)).toNat,l++(jo n).drop (7 - (kv / 8)).toNat)
def Wj:Bs->Prop:=λb=>b.length<=140737488350000
def T0:Bs->Bs:=λb=>pad b
def nL:Ls Jj uW zR:=rW (λ(iN,outL,n6)=>⟨([.d tB iN,bE,bE,oh 6 outL]++aP 31 []),[],(bM 6 ([dK (.vec 5 tb n6)]++bM 28 []))⟩) (λx=>(.exit 0,⟨([.d tB x.1,bE,bE,oh 6 x.2.1]++aP 31 []),[],(bM 6 ([dK (.vec 5 tb x.2.2)]++bM 28 []))⟩))
def nM:Ls Jk bt zS:=rW (λ(IG,n,kv,azi)=>⟨([bE,bE,bE,oh 6 IG,.d tu n,.d ti kv]++aP 29 []),[],(bM 6 ([dK (.vec 5 tb azi)]++bM 28 []))⟩) (λx=>(.exit 2,⟨([bE,bE,bE,oh 6 x.1]++aP 31 []),[],(bM 6 ([dK (.vec 5 tb x.2)]++bM 28 []))⟩))
def qM:Fs Tryz.prog Wj bt T0:=eN 188 Tryz.f188 (λb=>([.d tB b],[])) (λx=>⟨.d tB x,[],[]⟩) [some tB] [] {bJ:=[6],loops:=nX [(3,{aV:=[0,3],sites:=[6],owns:=[⟨3,[],6,127⟩]}),(7,{aV:=[3,4,5],sites:=[6],owns:=[⟨3,[],6,127⟩]})],outs:=nV [(3,{aV:=[0,3],sites:=[6]},{aV:=[2]}),(7,{aV:=[3],sites:=[6]},{aV:=[2]})],fC:=na [(3,nL.E),(7,nM.E)],res:=[some tB]}
theorem aca:nL.RS:=rL [.d tB,.n,.d tB] nL
theorem Hb{R:Type}(iN outL n6)(kn:K2 R)(kx:K3 R):qM.R 0 nL (iN,outL,n6) kn kx=aH ((BY (mR ((outL:Nat):Int) 64) 56)) (aH (decide (outL<=(ag n6))) (aH (da (outL+1) 1) (kn (nL.st (iN,(outL+1),((aQ outL n6)++ [0])))) none) none) (nL.go kx (iN,(outL,n6))):=bY
theorem acb:nM.RS:=rL [.n,.d tu,.d ti,.d tB] nM
theorem Hc{R:Type}(IG n kv azi)(kn:K2 R)(kx:K3 R):qM.R 1 nM (IG,n,kv,azi) kn kx=aH ((Cm kv 0)) (aH (mF kv) (aH (decide (IG<=(ag azi))) (aH (da (IG+1) 1) (kn (nM.st ((IG+1),n,(cP .i64 kv 8),((aQ IG azi)++ [(dX .u8 (cv .u64 n kv))])))) none) none) none) (nM.go kx (IG,azi)):=bY
theorem att{R:Type}(b)(k:K1 R):qM.A b k=aH (da (0+(ag b)) 1) (aH (decide ((0+(ag b))<=(ag ((aQ 0 (ab 0 0))++b)))) (aH (da ((0+(ag b))+1) 1) (al (nL.call (b,((0+(ag b))+1),((aQ (0+(ag b)) ((aQ 0 (ab 0 0))++b))++ [128]))) λx1=>al (nM.call (x1.2.1,(gv .u64 8 (dX .u64 (x1.1.length:Int))),56,x1.2.2)) λx2=>aH (decide (0=0/\(0+x2.1)<=(ag x2.2))) (k (qM.out (cut x2.2 0 x2.1))) none) none) none) none:=bY
theorem aew:(qM.kN 0 nL):=by
 refine(qM.mh 0 nL) (λ(b,m,l)=>zc l.length) ?_
 rintro⟨b,m,l⟩ ⟨rfl,hl⟩;have hl:l.length+zc l.length<=140737488355328:=hl;by_cases h:l.length%64=56
 ·right;intro R kn kx;have hz:zc l.length=0:=by unfold zc;omega
  rw[Hb];simp(disch:=omega) only[↓S1,↓if_pos,↓if_neg,if_pos,if_neg,bG,bq,S2,uW,zR,hz,cm,List.replicate_zero,ba]
 ·left;have hz:zc l.length=zc (l.length+1)+1:=by unfold zc;omega
  refine⟨(b,l.length+1,l++ [0]),⟨by simp,by simp only[ai,aA,aZ,aN];omega⟩,by simp only[ai,aA,aZ,aN];omega,?_,λkn kx=> ?_⟩
  ·simp only[uW,zR,ai,aA,aZ,aN,hz,aF,gN,aT,List.replicate_succ];rw[show l.length+1+zc (l.length+1)=l.length+(zc (l.length+1)+1) by omega]
  ·rw[Hb];simp(disch:=omega) only[↓S1,↓if_pos,↓if_neg,if_pos,if_neg,bG,bq,S2,bK]
theorem alo(n:Int)(j:Nat)(h:j < 8):(jo n).drop j=n / 2^(56 - 8*j)%256::(jo n).drop (j+1):=by rcases(by omega:j=0\/j=1\/j=2\/j=3\/j=4\/j=5\/j=6\/j=7) with rfl | rfl | rfl | rfl | rfl | rfl | rfl | rfl <;> simp[jo]
theorem adj(n:Int)(k:Nat)(h1:k<=64):dX .u8 (cv .u64 n (k:Int))=n / 2^k%256:=by
 rw[Th,gX,cv];have e:min (k:Int).toNat IntKind.u64.bits=k:=by simp only[IntKind.bits];omega
 rw[e,kh _ (Int.le_of_lt (Int.pow_pos ak))];rfl
theorem aex:(qM.kN 1 nM):=by
 refine(qM.mh 1 nM) (λ(m,n,kv,l)=>(kv+8).toNat) ?_
 rintro⟨m,n,kv,l⟩ ⟨h1,h2,j,hj,rfl,rfl,hl⟩;have hl:l.length<=140737488355320+j:=hl;have e1:(7 - ((56 - 8*(j:Int)) / 8)).toNat=j:=ak;by_cases h:j < 8
 ·left;have e2:cP .i64 (56 - 8*(j:Int)) 8=56 - 8*((j+1:Nat):Int):=by rw[eL ak ak];omega
  have e3:(7 - ((56 - 8*((j+1:Nat):Int)) / 8)).toNat=j+1:=ak;have e4:(56 - 8*(j:Int))=((56 - 8*j:Nat):Int):=ak;refine⟨(l.length+1,n,56 - 8*((j+1:Nat):Int),l++ [n / 2^(56 - 8*j)%256]),⟨h1,h2,j+1,ak,rfl,by simp,by simp only[ai,aA,aZ];omega⟩,by simp only;omega,?_,λkn kx=> ?_⟩
  ·simp only[bt,zS,e1,e3,alo n j h,ai,aA,aZ,aF,gN,aT,cj];rw[show l.length+(0+1)+8 - (j+1)=l.length+8 - j by omega]
  ·rw[Hc,e2,e4,adj n _ ak];simp(disch:=omega) only[↓S1,↓if_pos,↓if_neg,if_pos,if_neg,bG,bq,S2,bK]
 ·right;obtain rfl:j=8:=ak;intro R kn kx;rw[Hc];simp(disch:=omega) only[↓S1,↓if_pos,↓if_neg,if_pos,if_neg,bG,bq,S2,bt,zS,e1];simp[jo]
theorem atu:qM.Ok:=by
 intro b hb;have hb:b.length<=140737488350000:=hb;have hz:zc (b++ [128]).length=Bm b.length:=by simp only[ai,aA,aZ,zc,Bm];omega
 have aXt:Bm b.length < 64:=by unfold Bm;omega
 have p1:Jj (b,b.length+1,b++ [128]):=⟨by simp,by rw[hz];simp only[ai,aA,aZ] <;> omega⟩;have e1:dX .u64 ((b.length:Nat):Int)=((b.length:Nat):Int):=by rw[XP,gX];omega
 have e2:gv .u64 8 ((b.length:Nat):Int)=8*(b.length:Int):=by unfold gv;rw[wrap_u64,gX];omega
 have e3:aQ b.length b=b:=bK;rw[att];simp only[List.replicate_zero,List.take_nil,aT,aN,e1,e2,e3];simp(disch:=omega) only[↓S1,↓if_pos,↓if_neg,if_pos,if_neg,bG,bq,S2,aca p1,uW,zR,hz];have p2:Jk ((b++ [128]).length+Bm b.length,8*(b.length:Int),56,b++ [128]++ab (Bm b.length) 0):=by refine⟨ak,ak,0,ak,rfl,by simp only[ai,aA,aZ,b8] <;> omega,?_⟩;simp only[ai,aA,aZ,b8];omega
 simp(disch:=omega) only[↓S1,↓if_pos,↓if_neg,if_pos,if_neg,bG,bq,S2,e1,e2,acb p2,bt,zS];have e5:(7 - ((56:Int) / 8)).toNat=0:=by decide
 rw[e5,aD];have e6:(b++ [128]++ab (Bm b.length) 0).length+(jo (8*(b.length:Int))).length - 0=(b++ [128]++ab (Bm b.length) 0++jo (8*(b.length:Int))).length:=by rw[@ai _ _ (jo _)];omega
 rw[e6,if_pos (ax _)];unfold cut;rw[aD,bK];simp only[bt,T0,pad,aF,gN,aT]
theorem aoS:qM.RS:=rE [.d tB] qM
def atw:=qM.eS atu 2 ⟨.fp aew,⟨.fp aex,trivial⟩⟩
abbrev Wo:=Bs×Nat×Int×(List Int)
abbrev Wp:=Nat×Int×(List Int)
def Mz:Wo->Prop:=λ(b,m,i,l)=>64<=b.length/\∃k:Nat,k<=16/\i=k/\k=m/\l=wl ((words b).take k)
def Jn:Wo->(Nat×(List Int)):=λ(b,m,i,l)=>(16,wl (words b))
def MA:Wp->Prop:=λ(m,i,l)=>∃ws:List W,16<=ws.length/\ws.length<=64/\l=wl ws/\m=ws.length/\i=(ws.length:Nat)
def CL:Wp->(Nat×(List Int)):=λ(m,i,l)=>(64,wl (aJv (aIJ l) (64 - l.length)))
def acj:Bs->Prop:=λb=>64<=b.length
def aci:Bs->(List Int):=λb=>wl (sched b)
def qN:Ls Mz bt Jn:=rW (λ(iN,wL,i,n49)=>⟨([.d tB iN,bE,bE,oh 49 wL,.d ti i]++aP 94 []),[],(bM 49 ([dK (.vec 231 (.int .u32) n49)]++bM 49 []))⟩) (λx=>(.exit 0,⟨([bE,bE,bE,oh 49 x.1]++aP 95 []),[],(bM 49 ([dK (.vec 231 (.int .u32) x.2)]++bM 49 []))⟩))
def qO:Ls MA bt CL:=rW (λ(Xz,fL,vo)=>⟨([bE,bE,bE,oh 49 Xz,bE,.d ti fL]++aP 93 []),[],(bM 49 ([dK (.vec 231 (.int .u32) vo)]++bM 49 []))⟩) (λx=>(.exit 2,⟨([bE,bE,bE,oh 49 x.1]++aP 95 []),[],(bM 49 ([dK (.vec 231 (.int .u32) x.2)]++bM 49 []))⟩))
def vY:Fs Tryz.prog acj bt aci:=eN 220 Tryz.f220 (λb=>([.d tB b],[])) (λx=>⟨.d (.slice (.int .u32)) x,[],[]⟩) [some tB] [aoY] {loops:=nX [(3,{aV:=[0,3,4],sites:=[49],owns:=[⟨3,[],49,248⟩]}),(7,{aV:=[3,5],sites:=[49],owns:=[⟨3,[],49,248⟩]})],outs:=nV [(3,{aV:=[3],sites:=[49]},{aV:=[2]}),(7,{aV:=[3],sites:=[49]},{aV:=[2]})],fC:=na [(3,qN.E),(7,qO.E)],res:=[some (.slice (.int .u32))]}
theorem aey:qN.RS:=rL [.d tB,.n,.d ti,.d (.slice (.int .u32))] qN
theorem Jo{R:Type}(iN wL i n49)(kn:K2 R)(kx:K3 R):vY.R 0 qN (iN,wL,i,n49) kn kx=aH ((gq i 16)) (aH (eo (gv .i64 4 i) (iN.length:Int)) (aH (eo (bI .i64 (gv .i64 4 i) 1) (iN.length:Int)) (aH (eo (bI .i64 (gv .i64 4 i) 2) (iN.length:Int)) (aH (eo (bI .i64 (gv .i64 4 i) 3) (iN.length:Int)) (aH (decide (wL<=(ag n49))) (aH (da (wL+1) 4) (kn (qN.st (iN,(wL+1),(bI .i64 i 1),((aQ wL n49)++ [(cG .or .u32 (cG .or .u32 (cG .or .u32 (mD .u32 (dX .u32 (nth tb iN (ae (gv .i64 4 i)))) 24) (mD .u32 (dX .u32 (nth tb iN (ae (bI .i64 (gv .i64 4 i) 1)))) 16)) (mD .u32 (dX .u32 (nth tb iN (ae (bI .i64 (gv .i64 4 i) 2)))) 8)) (dX .u32 (nth tb iN (ae (bI .i64 (gv .i64 4 i) 3)))))])))) none) none) none) none) none) none) (qN.go kx (wL,n49)):=bY
theorem aez:qO.RS:=rL [.n,.d ti,.d (.slice (.int .u32))] qO
theorem Jp{R:Type}(Xz fL vo)(kn:K2 R)(kx:K3 R):vY.R 1 qO (Xz,fL,vo) kn kx=aH ((gq fL 64)) (aH (eo (cP .i64 fL 15) ((Xz:Nat):Int)) (aH (decide ((0+(ae (cP .i64 fL 15))) < (ag vo))) (aH (decide ((((0+(ae (cP .i64 fL 15)))*1)+0)=(0+((ae (cP .i64 fL 15))*1)))) (aH (eo (cP .i64 fL 2) ((Xz:Nat):Int)) (aH (decide ((0+(ae (cP .i64 fL 2))) < (ag vo))) (aH (decide ((((0+(ae (cP .i64 fL 2)))*1)+0)=(0+((ae (cP .i64 fL 2))*1)))) (al (pT.call ((nth (.int .u32) vo (0+(ae (cP .i64 fL 15)))),7)) λx1=>al (pT.call ((nth (.int .u32) vo (0+(ae (cP .i64 fL 15)))),18)) λx2=>al (pT.call ((nth (.int .u32) vo (0+(ae (cP .i64 fL 2)))),17)) λx3=>al (pT.call ((nth (.int .u32) vo (0+(ae (cP .i64 fL 2)))),19)) λx4=>aH (eo (cP .i64 fL 16) ((Xz:Nat):Int)) (aH (decide ((0+(ae (cP .i64 fL 16))) < (ag vo))) (aH (decide ((((0+(ae (cP .i64 fL 16)))*1)+0)=(0+((ae (cP .i64 fL 16))*1)))) (aH (eo (cP .i64 fL 7) ((Xz:Nat):Int)) (aH (decide ((0+(ae (cP .i64 fL 7))) < (ag vo))) (aH (decide ((((0+(ae (cP .i64 fL 7)))*1)+0)=(0+((ae (cP .i64 fL 7))*1)))) (aH (decide (Xz<=(ag vo))) (aH (da (Xz+1) 4) (kn (qO.st ((Xz+1),(bI .i64 fL 1),((aQ Xz vo)++ [(bI .u32 (bI .u32 (bI .u32 (nth (.int .u32) vo (0+(ae (cP .i64 fL 16)))) (cG .xor .u32 (cG .xor .u32 x1 x2) (cv .u32 (nth (.int .u32) vo (0+(ae (cP .i64 fL 15)))) 3))) (nth (.int .u32) vo (0+(ae (cP .i64 fL 7))))) (cG .xor .u32 (cG .xor .u32 x3 x4) (cv .u32 (nth (.int .u32) vo (0+(ae (cP .i64 fL 2)))) 10)))])))) none) none) none) none) none) none) none) none) none) none) none) none) none) none) (qO.go kx (Xz,vo)):=bY
theorem aAE{R:Type}(b)(k:K1 R):vY.A b k=al (qN.call (b,0,0,([]:List Int))) λx1=>al (qO.call (x1.1,16,x1.2)) λap0=>aH (decide (0=0/\(0+ap0.1)<=(ag ap0.2))) (k (vY.out (cut ap0.2 0 ap0.1))) none:=bY
theorem Ax(ws:List W):(wl ws).length=ws.length:=by simp[wl]
theorem awC(m:List W):∀n,aJv (ext m) n=aJv m (n+1)
 | 0=>rfl
 |n+1=>by rw[aJv,awC m n];rfl
theorem aN3(b:List Int)(k:Nat)(h:4*k+3 < b.length):be b k=aQQ (nth (.int .u8) b (4*k)) (nth (.int .u8) b (4*k+1)) (nth (.int .u8) b (4*k+2)) (nth (.int .u8) b (4*k+3)):=rfl
theorem aj3:(vY.kN 0 qN):=by
 refine(vY.mh 0 qN) (λ(b,m,i,l)=>16 - m) ?_
 rintro⟨b,m,i,l⟩ ⟨hb,k,hk,rfl,rfl,rfl⟩;have hb:64<=b.length:=hb;have hl:(wl ((words b).take k)).length=k:=by rw[Ax,bp,eW];omega
 by_cases h:k < 16
 ·left;refine⟨(b,k+1,((k+1:Nat):Int),wl ((words b).take (k+1))),⟨hb,k+1,ak,rfl,rfl,rfl⟩,by simp only;omega,rfl,λkn kx=> ?_⟩;rw[Jo];simp(disch:=omega) only[↓S1,↓if_pos,↓if_neg,if_pos,if_neg,bG,bq,S2,hl,aY (ud hl)];rw[ik (by rw[eW];exact h)];simp only[avw,Qw,qq,wl,rV,bP,ig];have e:(words b)[k]'(by rw[eW];exact h)=be b k:=by simp[words]
  rw[e,aN3 b k ak];rfl
 ·right;obtain rfl:k=16:=ak;intro R kn kx;rw[Jo];simp(disch:=omega) only[↓S1,↓if_pos,↓if_neg,if_pos,if_neg,bG,bq,S2,bt,Jn];rw[aY (by rw[eW];omega)]
theorem aj4:(vY.kN 1 qO):=by
 refine(vY.mh 1 qO) (λ(m,i,l)=>64 - m) ?_
 rintro⟨m,i,l⟩ ⟨ws,h1,h2,rfl,rfl,rfl⟩;have hl:=Ax ws;by_cases h:ws.length < 64
 ·left;refine⟨(ws.length+1,((ws.length+1:Nat):Int),wl (ext ws)),⟨ext ws,by rw[vD];omega,by rw[vD];omega,rfl,by rw[vD],by rw[vD]⟩,by simp only;omega,?_,λkn kx=> ?_⟩
  ·simp only[bt,CL,GH,Ax,vD];rw[awC,show 64 - (ws.length+1)+1=64 - ws.length by omega]
  ·rw[Jp];simp(disch:=omega) only[↓S1,↓if_pos,↓if_neg,if_pos,if_neg,bG,bq,S2,hl,aN,gO,cm,Uy ws _ (by omega:ws.length - 15 < ws.length),Uy ws _ (by omega:ws.length - 2 < ws.length),Uy ws _ (by omega:ws.length - 16 < ws.length),Uy ws _ (by omega:ws.length - 7 < ws.length),Bx,qq,Il,Ek,aY (ud hl)];unfold ext wl;rw[rV];rfl
 ·right;have FP:ws.length=64:=ak;intro R kn kx;rw[Jp];simp(disch:=omega) only[↓S1,↓if_pos,↓if_neg,if_pos,if_neg,bG,bq,S2,bt,CL,hl,FP,GH,Nat.sub_self];rfl
theorem aAF:vY.Ok:=by
 intro b hb;have p1:Mz (b,0,0,[]):=⟨hb,0,ak,rfl,rfl,rfl⟩;have p2:MA (16,16,wl (words b)):=⟨words b,by rw[eW];omega,by rw[eW];omega,rfl,by rw[eW],by rw[eW];rfl⟩;have hs:(sched b).length=64:=by unfold sched;rw[BS,eW]
 rw[aAE];simp(disch:=omega) only[↓S1,↓if_pos,↓if_neg,if_pos,if_neg,bG,bq,S2,aey p1,bt,Jn,aez p2,bt,CL,GH,Ax,eW,aN,Nat.reduceSub];have e:aJv (words b) 48=sched b:=rfl;rw[e,hs,if_pos (ax _)];unfold cut;rw[aD,aY (by rw[Ax];omega)];simp only[bt,aci]
theorem atB:vY.RS:=rE [.d tB] vY
def aAG:=vY.eS aAF 2 ⟨.fp aj3,⟨.fp aj4,trivial⟩⟩
abbrev Ja:=(List Int)×(List Int)×(List Int)×Nat×Int×(List Int)
abbrev We:=Nat×(List Int)
def DH:Ja->We->(((List Int))×(Nat×(List Int))):=λ(Qg,wv,kv,vL,i,n18) y=>(Qg,y)
abbrev Jd:=(List Int)×Nat×Int×(List Int)
def wS:Jd->(List Int)->((Nat)×((List Int))):=λ(avs,akH,fL,L9) y=>(akH,y)
def Mv:Ja->Prop:=λ(h,wv,kv,m,i,l)=>∃(s:St) (ws:List W) (k:Nat),h=s.l/\wv=wl ws/\ws.length=64/\k<=64/\i=k/\kv=Tr/\m=8/\l=(rounds ws s k).l
def Jb:Ja->We:=λ(h,wv,kv,m,i,l)=>(8,(rounds (aIJ wv) (ako h) 64).l)
def Mw:Jd->Prop:=λ(h,m,i,l)=>h.length=8/\l.length=8/\m=8/\∃k:Nat,k<=8/\i=k
def CF:Jd->(List Int):=λ(h,m,i,l)=>from_ (λi x=>bI .u32 x (nth (.int .u32) h i)) i.toNat l
def abT:((List Int)×Bs)->Prop:=λ(h,b)=>(∃s:St,h=s.l)/\64<=b.length
def abS:((List Int)×Bs)->(List Int):=λ(h,b)=>(TC (ako h) b).l
def oB:Ls Mv DH Jb:=rW (λ(Qg,wv,kv,vL,i,n18)=>⟨([.d (.slice (.int .u32)) Qg]++aP 4 ([.d (.slice (.int .u32)) wv,.d (.slice (.int .u32)) kv,oh 18 vL,.d ti i]++aP 146 [])),[],(bM 18 ([dK (.vec 231 (.int .u32) n18)]++bM 136 []))⟩) (λx=>(.exit 0,⟨([.d (.slice (.int .u32)) x.1]++aP 6 ([oh 18 x.2.1]++aP 147 [])),[],(bM 18 ([dK (.vec 231 (.int .u32) x.2.2)]++bM 136 []))⟩))
def qL:Ls Mw wS CF:=rW (λ(avs,akH,fL,L9)=>⟨([.d (.slice (.int .u32)) avs]++aP 6 ([oh 18 akH]++aP 6 ([.d ti fL]++aP 140 []))),[],(bM 18 ([dK (.vec 231 (.int .u32) L9)]++bM 136 []))⟩) (λx=>(.exit 2,⟨(aP 7 ([oh 18 x.1]++aP 147 [])),[],(bM 18 ([dK (.vec 231 (.int .u32) x.2)]++bM 136 []))⟩))
def vU:Fs Tryz.prog abT bt abS:=eN 190 Tryz.f190 (λ(h,b)=>([.d (.slice (.int .u32)) h,.d tB b],[])) (λx=>⟨.d (.slice (.int .u32)) x,[],[]⟩) [some (.slice (.int .u32)),some tB] [aAG,aG8,aoY] {bJ:=[18,137],loops:=nX [(5,{aV:=[0,5,6,7,8],sites:=[18,137],owns:=[⟨7,[],18,0⟩]}),(14,{aV:=[0,7,14],sites:=[18]})],outs:=nV [(5,{aV:=[0,7],sites:=[18]},{aV:=[4]}),(14,{aV:=[7],sites:=[18]},{aV:=[4]})],fC:=na [(5,oB.E),(14,qL.E)],res:=[some (.slice (.int .u32))]}
theorem aes:oB.RS:=rL [.d (.slice (.int .u32)),.d (.slice (.int .u32)),.d (.slice (.int .u32)),.n,.d ti,.d (.slice (.int .u32))] oB
theorem Jc{R:Type}(Qg wv kv vL i n18)(kn:K2 R)(kx:K3 R):vU.R 0 oB (Qg,wv,kv,vL,i,n18) kn kx=aH ((gq i 64)) (aH (eo 4 ((vL:Nat):Int)) (aH (decide (4 < (ag n18))) (al (pT.call ((nth (.int .u32) n18 4),6)) λx1=>aH (eo 4 ((vL:Nat):Int)) (aH (decide (4 < (ag n18))) (al (pT.call ((nth (.int .u32) n18 4),11)) λx2=>aH (eo 4 ((vL:Nat):Int)) (aH (decide (4 < (ag n18))) (al (pT.call ((nth (.int .u32) n18 4),25)) λx3=>aH (eo 4 ((vL:Nat):Int)) (aH (decide (4 < (ag n18))) (aH (eo 5 ((vL:Nat):Int)) (aH (decide (5 < (ag n18))) (aH (eo 4 ((vL:Nat):Int)) (aH (decide (4 < (ag n18))) (aH (eo 6 ((vL:Nat):Int)) (aH (decide (6 < (ag n18))) (aH (eo 7 ((vL:Nat):Int)) (aH (decide (7 < (ag n18))) (aH (eo i (kv.length:Int)) (aH (eo i (wv.length:Int)) (aH (eo 0 ((vL:Nat):Int)) (aH (decide (0 < (ag n18))) (al (pT.call ((nth (.int .u32) n18 0),2)) λx4=>aH (eo 0 ((vL:Nat):Int)) (aH (decide (0 < (ag n18))) (al (pT.call ((nth (.int .u32) n18 0),13)) λx5=>aH (eo 0 ((vL:Nat):Int)) (aH (decide (0 < (ag n18))) (al (pT.call ((nth (.int .u32) n18 0),22)) λx6=>aH (eo 0 ((vL:Nat):Int)) (aH (decide (0 < (ag n18))) (aH (eo 1 ((vL:Nat):Int)) (aH (decide (1 < (ag n18))) (aH (eo 0 ((vL:Nat):Int)) (aH (decide (0 < (ag n18))) (aH (eo 2 ((vL:Nat):Int)) (aH (decide (2 < (ag n18))) (aH (eo 1 ((vL:Nat):Int)) (aH (decide (1 < (ag n18))) (aH (eo 2 ((vL:Nat):Int)) (aH (decide (2 < (ag n18))) (aH (eo 0 ((vL:Nat):Int)) (aH (decide (0 < (ag n18))) (aH (eo 1 ((vL:Nat):Int)) (aH (decide (1 < (ag n18))) (aH (eo 2 ((vL:Nat):Int)) (aH (decide (2 < (ag n18))) (aH (eo 3 ((vL:Nat):Int)) (aH (decide (3 < (ag n18))) (aH (eo 4 ((vL:Nat):Int)) (aH (decide (4 < (ag n18))) (aH (eo 5 ((vL:Nat):Int)) (aH (decide (5 < (ag n18))) (aH (eo 6 ((vL:Nat):Int)) (aH (decide (6 < (ag n18))) (kn (oB.st (Qg,wv,kv,8,(bI .i64 i 1),[(bI .u32 (bI .u32 (bI .u32 (bI .u32 (bI .u32 (bI .u32 (nth (.int .u32) n18 7) (cG .xor .u32 (cG .xor .u32 x1 x2) x3)) (cG .xor .u32 (cG .and .u32 (nth (.int .u32) n18 4) (nth (.int .u32) n18 5)) (cG .and .u32 (aLr .u32 (nth (.int .u32) n18 4)) (nth (.int .u32) n18 6)))) (nth (.int .u32) kv (ae i))) (nth (.int .u32) wv (ae i))) (cG .xor .u32 (cG .xor .u32 x4 x5) x6)) (cG .xor .u32 (cG .xor .u32 (cG .and .u32 (nth (.int .u32) n18 0) (nth (.int .u32) n18 1)) (cG .and .u32 (nth (.int .u32) n18 0) (nth (.int .u32) n18 2))) (cG .and .u32 (nth (.int .u32) n18 1) (nth (.int .u32) n18 2)))),(nth (.int .u32) n18 0),(nth (.int .u32) n18 1),(nth (.int .u32) n18 2),(bI .u32 (nth (.int .u32) n18 3) (bI .u32 (bI .u32 (bI .u32 (bI .u32 (nth (.int .u32) n18 7) (cG .xor .u32 (cG .xor .u32 x1 x2) x3)) (cG .xor .u32 (cG .and .u32 (nth (.int .u32) n18 4) (nth (.int .u32) n18 5)) (cG .and .u32 (aLr .u32 (nth (.int .u32) n18 4)) (nth (.int .u32) n18 6)))) (nth (.int .u32) kv (ae i))) (nth (.int .u32) wv (ae i)))),(nth (.int .u32) n18 4),(nth (.int .u32) n18 5),(nth (.int .u32) n18 6)]))) none) none) none) none) none) none) none) none) none) none) none) none) none) none) none) none) none) none) none) none) none) none) none) none) none) none) none) none) none) none) none) none) none) none) none) none) none) none) none) none) none) none) none) none) none) none) none) none) none) none) (oB.go kx (Qg,(vL,n18))):=bY
theorem aet:qL.RS:=rL [.d (.slice (.int .u32)),.n,.d ti,.d (.slice (.int .u32))] qL
theorem Je{R:Type}(avs akH fL L9)(kn:K2 R)(kx:K3 R):vU.R 1 qL (avs,akH,fL,L9) kn kx=aH ((gq fL 8)) (aH (eo fL ((akH:Nat):Int)) (aH (decide ((0+(ae fL)) < (ag L9))) (aH (decide ((((0+(ae fL))*1)+0)=(0+((ae fL)*1)))) (aH (eo fL (avs.length:Int)) (aH (eo fL ((akH:Nat):Int)) (aH (decide ((0+(ae fL)) < (ag L9))) (aH (decide ((((0+(ae fL))*1)+0)=(0+((ae fL)*1)))) (aH (decide ((0+(ae fL)) < (ag L9))) (kn (qL.st (avs,akH,(bI .i64 fL 1),(fT L9 (0+(ae fL)) (bI .u32 (nth (.int .u32) L9 (0+(ae fL))) (nth (.int .u32) avs (ae fL))))))) none) none) none) none) none) none) none) none) (qL.go kx (akH,L9)):=bY
theorem aAf{R:Type}(h b)(k:K1 R):vU.A (h,b) k=al (vY.call b) λx1=>al (abQ.call ()) λx2=>aH (da (0+(ag h)) 4) (al (oB.call (h,x1,x2,(0+(ag h)),0,((aQ 0 (ab 0 0))++h))) λaUQ=>al (qL.call (aUQ.1,aUQ.2.1,0,aUQ.2.2)) λae2=>aH (decide (0=0/\(0+ae2.1)<=(ag ae2.2))) (k (vU.out (cut ae2.2 0 ae2.1))) none) none:=bY
theorem aFs(w:W):aLr .u32 (vw w)=vw (~~~w):=by have e:(if IntKind.u32.signed then -1 else IntKind.u32.max:Int)=vw (BitVec.allOnes 32):=rfl;unfold aLr;rw[e,qq];simp only[BitVec.allOnes_xor]
theorem aQT(e f g:W):(e &&& f)^^^(~~~e &&& g)=g^^^(e &&& (f^^^g)):=by
 ext i hi
 simp only[BitVec.getElem_xor,BitVec.getElem_and,BitVec.getElem_not];cases e[i] <;> cases f[i] <;> cases g[i] <;> rfl
theorem aPj(a b c:W):(a &&& b)^^^(a &&& c)^^^(b &&& c)=(a &&& b) ||| (c &&& (a ||| b)):=by
 ext i hi
 simp only[BitVec.getElem_xor,BitVec.getElem_and,BitVec.getElem_or];cases a[i] <;> cases b[i] <;> cases c[i] <;> rfl
theorem ajW:(vU.kN 0 oB):=by
 refine(vU.mh 0 oB) (λ(h,wv,kv,m,i,l)=>64 - i.toNat) ?_
 rintro⟨h,wv,kv,m,i,l⟩ ⟨s,ws,k,rfl,rfl,hw,hk,rfl,rfl,rfl,rfl⟩;by_cases gJ:k < 64
 ·left;refine⟨(s.l,wl ws,Tr,8,((k+1:Nat):Int),(rounds ws s (k+1)).l),⟨s,ws,k+1,rfl,rfl,hw,ak,rfl,rfl,rfl,rfl⟩,by simp only;omega,rfl,λkn kx=> ?_⟩;rw[Jc];generalize hv:rounds ws s k=v;have t1:∀w:W,pT.call (vw w,6)=some (vw (vX w 6)):=λw=>Bx w ak
  have t2:∀w:W,pT.call (vw w,11)=some (vw (vX w 11)):=λw=>Bx w ak
  have t3:∀w:W,pT.call (vw w,25)=some (vw (vX w 25)):=λw=>Bx w ak
  have t4:∀w:W,pT.call (vw w,2)=some (vw (vX w 2)):=λw=>Bx w ak
  have t5:∀w:W,pT.call (vw w,13)=some (vw (vX w 13)):=λw=>Bx w ak
  have t6:∀w:W,pT.call (vw w,22)=some (vw (vX w 22)):=λw=>Bx w ak
  rw[n0,n1,n2,n3,n4,n5,n6,n7,t1,ah,t2,ah,t3,ah,t4,ah,t5,ah,t6,ah];simp(disch:=omega) only[↓S1,↓if_pos,↓if_neg,if_pos,if_neg,bG,bq,S2,St.anr,Vw,Ax,hw,anq k gJ,Uy ws k ak,qq,Ek,aFs,aQT,aPj];show kn _=kn (oB.st (s.l,wl ws,Tr,8,((k+1:Nat):Int),(mh (rounds ws s k) (kw k) (ws.getD k 0)).l));rw[hv];rfl
 ·right;obtain rfl:k=64:=ak;intro R kn kx;rw[Jc];simp(disch:=omega) only[↓S1,↓if_pos,↓if_neg,if_pos,if_neg,bG,bq,S2,DH,Jb,GH,oJ]
theorem ajX:(vU.kN 1 qL):=by
 refine(vU.mh 1 qL) (λ(h,m,i,l)=>8 - i.toNat) ?_
 rintro⟨h,m,i,l⟩ ⟨hh,hl,rfl,k,hk,rfl⟩;have hl:l.length=8:=hl;have hh:h.length=8:=hh;by_cases gJ:k < 8
 ·left;have hn:nth (.int .u32) l k=l[k]:=cg (t:= .int .u32) ak;refine⟨(h,8,((k+1:Nat):Int),l.set k (bI .u32 l[k] (nth (.int .u32) h k))),⟨hh,by simpa using hl,rfl,k+1,ak,rfl⟩,by simp only;omega,?_,λkn kx=> ?_⟩
  ·simp only[wS,CF,aa];rw[Kt (λi x=>bI .u32 x (nth (.int .u32) h i)) l k ak]
  ·rw[Je];simp(disch:=omega) only[↓S1,↓if_pos,↓if_neg,if_pos,if_neg,bG,bq,S2,hl,hh,aN,gO,cm,hn]
 ·right;obtain rfl:k=8:=ak;intro R kn kx;rw[Je];simp(disch:=omega) only[↓S1,↓if_pos,↓if_neg,if_pos,if_neg,bG,bq,S2,wS,CF];rw[Qe _ _ _ ak]
theorem aPk(s:St)(b:List Int):from_ (λi x=>bI .u32 x (nth (.int .u32) s.l i)) 0 (rounds (sched b) s 64).l=(TC s b).l:=by unfold TC;generalize rounds (sched b) s 64=v;obtain⟨a1,b1,c1,d1,f1,g1,h1,i1⟩:=v;simp only[St.l,from_,List.mapIdx_cons,List.mapIdx_nil,Nat.not_lt_zero,bq,aN,Nat.reduceAdd];simp only[nth,jw,q9,Ek]
theorem aAg:vU.Ok:=by
 rintro⟨h,b⟩ ⟨⟨s,rfl⟩,hb⟩;have p0:acj b:=hb;have avv:(sched b).length=64:=by unfold sched;rw[BS,eW]
 have p1:Mv (s.l,wl (sched b),Tr,8,0,s.l):=⟨s,sched b,0,rfl,rfl,avv,ak,rfl,rfl,rfl,rfl⟩;have p2:Mw (s.l,8,0,(rounds (sched b) s 64).l):=⟨rfl,rfl,rfl,0,ak,rfl⟩;have e0:0+s.l.length=8:=rfl;have e1:aQ 0 (ab 0 (0:Int))++s.l=s.l:=rfl;rw[aAf];simp(disch:=omega) only[↓S1,↓if_pos,↓if_neg,if_pos,if_neg,bG,bq,S2,atB p0,bt,aci,aAe (d:=()) trivial,bt,awa,e0,e1,aes p1,DH,Jb,GH,oJ,aet p2,wS,CF,aX,aPk];have e2:(TC s b).l.length=8:=rfl;have e3:cut (TC s b).l 0 8=(TC s b).l:=rfl;simp only[e2,aN,ax,bG,e3,bt,abS,oJ]
theorem atd:vU.RS:=rE [.d (.slice (.int .u32)),.d tB] vU
def aAh:=vU.eS aAg 2 ⟨.fp ajW,⟨.fp ajX,trivial⟩⟩
abbrev T3:=Bs×(List Int)×Int×Bs
def CI:T3->(List Int)->((Bs)×((List Int))):=λ(p,h,i,n2) y=>(n2,y)
abbrev T4:=(List Int)×Int×Bs×Bs
def CJ:T4->Bs->((Bs)×(Bs)):=λ(Qg,fL,kM,n6) y=>(kM,y)
def Wk:T3->Prop:=λ(p,h,i,n2)=>p.length%64=0/\p.length<=140737488355328/\∃(s:St) (k:Nat),h=s.l/\i=((64*k:Nat):Int)/\64*k<=p.length
def KN:T3->(List Int):=λ(p,h,i,n2)=>(blocks (ako h) (p.drop i.toNat)).l
def Wl:T4->Prop:=λ(h,i,n2,l)=>h.length=8/\l.length=32/\∃k:Nat,k<=32/\i=k
def KO:T4->Bs:=λ(h,i,n2,l)=>from_ (Lo h) i.toNat l
def aoV:Bs->Prop:=λb=>b.length<=140737488350000
def aPG:Bs->Bs:=λb=>aPJ b
def zT:Ls Wk CI KN:=rW (λ(p,h,i,n2)=>⟨([bE,bE,eT 2,.d tB p,.d (.slice (.int .u32)) h,.d ti i]++aP 36 []),[],([[],[],dK (.d tH n2)]++bM 39 [])⟩) (λx=>(.exit 0,⟨([bE,bE,eT 2,bE,.d (.slice (.int .u32)) x.2]++aP 37 []),[],([[],[],dK (.d tH x.1)]++bM 39 [])⟩))
def zU:Ls Wl CJ KO:=rW (λ(Qg,fL,kM,n6)=>⟨([bE,bE,eT 2,bE,.d (.slice (.int .u32)) Qg,bE,eT 6,.d ti fL]++aP 34 []),[],([[],[],dK (.d tH kM),[],[],[],dK (.d tH n6)]++bM 35 [])⟩) (λx=>(.exit 2,⟨([bE,bE,eT 2,bE,bE,bE,eT 6]++aP 35 []),[],([[],[],dK (.d tH x.1),[],[],[],dK (.d tH x.2)]++bM 35 [])⟩))
def T1:Fs Tryz.prog aoV bt aPG:=eN 148 Tryz.f148 (λb=>([.d tB b],[])) (λx=>⟨.d tH x,[],[]⟩) [some tB] [atw,atn,aAh] {loops:=nX [(4,{aV:=[2,3,4,5],sites:=[2]}),(9,{aV:=[2,4,6,7],sites:=[2,6]})],outs:=nV [(4,{aV:=[2,4],sites:=[2]},{aV:=[2]}),(9,{aV:=[2,6],sites:=[2,6]},{aV:=[2]})],fC:=na [(4,zT.E),(9,zU.E)]}
theorem aoT:zT.RS:=rL [.d tB,.d (.slice (.int .u32)),.d ti,.d tB] zT
theorem Rq{R:Type}(p h i n2)(kn:K2 R)(kx:K3 R):T1.R 0 zT (p,h,i,n2) kn kx=aH ((gq i (p.length:Int))) (aH (inc (bI .i64 i 64) (p.length:Int)) (aH (inc i (((ae (bI .i64 i 64)):Nat):Int)) (al (vU.call (h,(cut p (ae i) ((ae (bI .i64 i 64)) - (ae i))))) λx1=>kn (zT.st (p,x1,(bI .i64 i 64),n2))) none) none) (zT.go kx (n2,h)):=bY
theorem aoU:zU.RS:=rL [.d (.slice (.int .u32)),.d ti,.d tB,.d tB] zU
theorem Rr{R:Type}(Qg fL kM n6)(kn:K2 R)(kx:K3 R):T1.R 1 zU (Qg,fL,kM,n6) kn kx=aH ((gq fL 32)) (aH (eo (tV .i64 fL 4) (Qg.length:Int)) (aH (mF (cP .i64 24 (gv .i64 8 (mR fL 4)))) (aH (eo fL 32) (aH (decide ((ae fL) < (ag n6))) (aH (decide ((((ae fL)*1)+0)=(0+((ae fL)*1)))) (aH (decide ((ae fL) < (ag n6))) (kn (zU.st (Qg,(bI .i64 fL 1),kM,(fT n6 (ae fL) (dX .u8 (cv .u32 (nth (.int .u32) Qg (ae (tV .i64 fL 4))) (cP .i64 24 (gv .i64 8 (mR fL 4))))))))) none) none) none) none) none) none) (zU.go kx (kM,n6)):=bY
theorem aMk{R:Type}(b)(k:K1 R):T1.A b k=al (qM.call b) λx1=>al (Gi.call ()) λx2=>al (zT.call (x1,x2,0,(ab 32 0))) λx4=>al (zU.call (x4.2,0,x4.1,(ab 32 0))) λx5=>k (T1.out x5.2):=bY
theorem atx:(T1.kN 0 zT):=by
 refine(T1.mh 0 zT) (λ(p,h,i,n2)=>p.length - i.toNat) ?_
 rintro⟨p,h,i,n2⟩ ⟨hm,hb,s,k,rfl,rfl,hk⟩;have hm:p.length%64=0:=hm;have hb:p.length<=140737488355328:=hb;have hk:64*k<=p.length:=hk;by_cases gJ:64*k < p.length
 ·left;have e1:cut p (64*k) (64*k+64 - 64*k)=(p.drop (64*k)).take 64:=by unfold cut;rw[show 64*k+64 - 64*k=64 by omega]
  have e2:(p.drop (64*k)).drop 64=p.drop (64*(k+1)):=by rw[fQ];congr 1
  have e3:(64*(k+1):Nat)=64*k+64:=ak;have p1:abT (s.l,(p.drop (64*k)).take 64):=⟨⟨s,rfl⟩,by simp;omega⟩;refine⟨(p,(TC s ((p.drop (64*k)).take 64)).l,((64*(k+1):Nat):Int),n2),⟨hm,hb,_,k+1,rfl,rfl,ak⟩,by simp only[aa];omega,?_,λkn kx=> ?_⟩
  ·simp only[CI,KN,oJ,aa];rw[HP s (p.drop (64*k)) (by simp;omega),e2]
  ·rw[Rq];simp(disch:=omega) only[↓S1,↓if_pos,↓if_neg,if_pos,if_neg,bG,bq,S2,e1,atd p1,bt,abS,oJ,e3]
 ·right;intro R kn kx;rw[Rq];simp(disch:=omega) only[↓S1,↓if_pos,↓if_neg,if_pos,if_neg,bG,bq,S2,CI,KN,oJ];rw[Fb s _ (by simp;omega)]
theorem aty:(T1.kN 1 zU):=by
 refine(T1.mh 1 zU) (λ(h,i,n2,l)=>32 - i.toNat) ?_
 rintro⟨h,i,n2,l⟩ ⟨h8,hl,k,hk,rfl⟩;have hl:l.length=32:=hl;have h8:h.length=8:=h8;by_cases gJ:k < 32
 ·left;refine⟨(h,((k+1:Nat):Int),n2,l.set k (Lo h k l[k])),⟨h8,by simpa using hl,k+1,ak,rfl⟩,by simp only[aa];omega,?_,λkn kx=> ?_⟩
  ·simp only[CJ,KO,aa];rw[Kt (Lo h) l k ak]
  ·rw[Rr];simp(disch:=omega) only[↓S1,↓if_pos,↓if_neg,if_pos,if_neg,bG,bq,S2,hl,h8,gO,cm,aN,Lo]
 ·right;obtain rfl:k=32:=ak;intro R kn kx;rw[Rr];simp(disch:=omega) only[↓S1,↓if_pos,↓if_neg,if_pos,if_neg,bG,bq,S2,CJ,KO];rw[Qe _ _ _ ak]
theorem asB(b:List Int):(pad b).length%64=0/\(pad b).length<=b.length+73:=by unfold pad;simp only[ai,aA,b8,cj,Bm];omega
theorem aMl:T1.Ok:=by intro b hb;have hb:b.length<=140737488350000:=hb;have p1:Wj b:=hb;obtain⟨h1,h2⟩:=asB b;have p2:Wk (pad b,sT.l,0,ab 32 0):=⟨h1,ak,sT,0,rfl,rfl,ak⟩;have p3:Wl ((blocks sT (pad b)).l,0,ab 32 0,ab 32 0):=⟨rfl,rfl,0,ak,rfl⟩;rw[aMk];simp(disch:=omega) only[↓S1,↓if_pos,↓if_neg,if_pos,if_neg,bG,bq,S2,aoS p1,bt,T0,aoM (d:=()) trivial,bt,agD,aoT p2,CI,KN,oJ,aX,aD,aoU p3,CJ,KO,av0];rfl
theorem aHC:T1.RS:=rE [.d tB] T1
def aMm:=T1.eS aMl 2 ⟨.fp atx,⟨.fp aty,trivial⟩⟩
def aAt:Int->Prop:=λn=>0<=n/\n < 18446744073709551616
def aMe:Int->(Nat×(List Int)):=λn=>(8,jo n)
def Ri:Fs Tryz.prog aAt bt aMe:=eN 147 Tryz.f147 (λn=>([.d tu n],[])) (λx=>⟨.bz (.new 0 0) 0 [] 0 0 x.1,[],[.obj 0 false (.vec 5 tb x.2)]⟩) [some tu] [] {loops:=nX [(3,{aV:=[0,3,4],sites:=[15]})],outs:=nV [(3,{aV:=[3],sites:=[15]},{aV:=[2],sites:=[15]})],owns:=[⟨2,[],15,127⟩]} 10
theorem aHo{R:Type}(n)(k:K1 R):Ri.A n k=k (Ri.out (8,[(dX .u8 (cv .u64 n 56)),(dX .u8 (cv .u64 n 48)),(dX .u8 (cv .u64 n 40)),(dX .u8 (cv .u64 n 32)),(dX .u8 (cv .u64 n 24)),(dX .u8 (cv .u64 n 16)),(dX .u8 (cv .u64 n 8)),(dX .u8 (cv .u64 n 0))])):=bY
theorem aHp:Ri.Ok:=by
 intro n _;have e:∀k:Nat,k<=64->dX .u8 (cv .u64 n (k:Int))=n / 2^k%256:=λk hk=>adj n k hk
 rw[aHo];have e56:dX .u8 (cv .u64 n 56)=n / 2^56%256:=e 56 ak;have e48:dX .u8 (cv .u64 n 48)=n / 2^48%256:=e 48 ak;have e40:dX .u8 (cv .u64 n 40)=n / 2^40%256:=e 40 ak;have e32:dX .u8 (cv .u64 n 32)=n / 2^32%256:=e 32 ak;have e24:dX .u8 (cv .u64 n 24)=n / 2^24%256:=e 24 ak;have e16:dX .u8 (cv .u64 n 16)=n / 2^16%256:=e 16 ak;have e8:dX .u8 (cv .u64 n 8)=n / 2^8%256:=e 8 ak;have e0:=e 0 ak;rw[e56,e48,e40,e32,e24,e16,e8];have e0:dX .u8 (cv .u64 n 0)=n%256:=by rw[show(0:Int)=((0:Nat):Int) from rfl,e0];simp
 rw[e0];rfl
theorem aAu:Ri.RS:=rE [.d tu] Ri
def aHq:=Ri.eS aHp 1 ⟨.none bY,trivial⟩
abbrev T5:=(List Bs)×Nat×Int×Bs×(List Int)
abbrev agM:=Nat×(List Int)
def CK:T5->agM->((Bs)×(Nat×(List Int))):=λ(r9,bL,i,n4,n11) y=>(n4,y)
abbrev aHD:=ByteArray×(List Bs)
def Wn:T5->Prop:=λ(ps,m,i,n4,l)=>m=l.length/\∃k:Nat,k<=ps.length/\ps.length<=140737488350000/\i=k/\l.length+(oR (ps.drop k)).length<=140737488350000
def KP:T5->agM:=λ(ps,m,i,n4,l)=>(l.length+(oR (ps.drop i.toNat)).length,l++oR (ps.drop i.toNat))
def aHE:aHD->Prop:=λ(name,ps)=>(Um (bH name) ps).length<=140737488350000
def aPH:aHD->Bs:=λ(name,ps)=>tag (bH name) ps
def zV:Ls Wn CK KP:=rW (λ(r9,bL,i,n4,n11)=>⟨([bE,.d (.slice tB) r9,bE,bE,eT 4,oh 11 bL,.d ti i]++aP 32 []),[],(bM 4 ([dK (.d tH n4)]++bM 6 ([dK (.vec 5 tb n11)]++bM 27 [])))⟩) (λx=>(.exit 0,⟨(aP 4 ([eT 4,oh 11 x.2.1]++aP 33 [])),[],(bM 4 ([dK (.d tH x.1)]++bM 6 ([dK (.vec 5 tb x.2.2)]++bM 27 [])))⟩))
def acd:Fs Tryz.prog aHE bt aPH:=eN 96 Tryz.f96 (λ(name,parts)=>([.d .str name,.d (.slice tB) parts],[])) (λx=>⟨.d tH x,[],[]⟩) [some .str,some (.slice tB)] [aHq,aMm] {loops:=nX [(3,{aV:=[1,4,5,6],sites:=[4,11],owns:=[⟨5,[],11,127⟩]})],outs:=nV [(3,{aV:=[4,5],sites:=[4,11]},{aV:=[4]})],fC:=na [(3,zV.E)]}
theorem aoW:zV.RS:=rL [.d (.slice tB),.n,.d ti,.d tB,.d tB] zV
theorem Rs{R:Type}(r9 bL i n4 n11)(kn:K2 R)(kx:K3 R):acd.R 0 zV (r9,bL,i,n4,n11) kn kx=aH ((gq i (r9.length:Int))) (aH (eo i (r9.length:Int)) (al (Ri.call (dX .u64 (((ag (nth tB r9 (ae i))):Nat):Int))) λx1=>aH (decide (0=0/\(0+x1.1)<=(ag x1.2))) (aH (decide (bL<=(ag n11))) (aH (da (bL+(ag (cut x1.2 0 x1.1))) 1) (aH (eo i (r9.length:Int)) (aH (decide ((bL+(ag (cut x1.2 0 x1.1)))<=(ag ((aQ bL n11)++(cut x1.2 0 x1.1))))) (aH (da ((bL+(ag (cut x1.2 0 x1.1)))+(ag (nth tB r9 (ae i)))) 1) (kn (zV.st (r9,((bL+(ag (cut x1.2 0 x1.1)))+(ag (nth tB r9 (ae i)))),(bI .i64 i 1),n4,((aQ (bL+(ag (cut x1.2 0 x1.1))) ((aQ bL n11)++(cut x1.2 0 x1.1)))++(nth tB r9 (ae i)))))) none) none) none) none) none) none) none) (zV.go kx (n4,(bL,n11))):=bY
theorem aMn{R:Type}(name parts)(k:K1 R):acd.A (name,parts) k=al (Ri.call (dX .u64 (((ByteArray.size name):Nat):Int))) λx1=>aH (decide (x1.1<=(ag x1.2))) (aH (da (x1.1+(ag (bH name))) 1) (al (zV.call (parts,(x1.1+(ag (bH name))),0,(ab 32 0),((aQ x1.1 x1.2)++(bH name)))) λx4=>aH (decide (0=0/\(0+x4.2.1)<=(ag x4.2.2))) (al (T1.call (cut x4.2.2 0 x4.2.1)) λx5=>k (acd.out x5)) none) none) none:=bY
theorem aws{n:Nat}(h:n < 18446744073709551616):dX .u64 ((n:Nat):Int)=n:=by rw[XP,gX];omega
theorem aoN{n:Nat}(h:n < 18446744073709551616):Ri.call (n:Int)=some (8,jo (n:Int)):=aAu (d:=(n:Int)) (show 0<=(n:Int)/\(n:Int) < 18446744073709551616 from⟨ak,ak⟩)
theorem aQV{l:List Int}{n:Nat}(h:l.length=n):cut l 0 n=l:=by unfold cut;rw[aD,aY ak]
theorem atz:(acd.kN 0 zV):=by
 refine(acd.mh 0 zV) (λ(ps,m,i,n4,l)=>ps.length - i.toNat) ?_
 rintro⟨ps,m,i,n4,l⟩ ⟨rfl,k,hk,OY,rfl,hl⟩;have hk:k<=ps.length:=hk;have OY:ps.length<=140737488350000:=OY;have hl:l.length+(oR (ps.drop k)).length<=140737488350000:=hl;by_cases h:k < ps.length
 ·left;have ht:=ag3 ps k h;have hlen:(oR (ps.drop k)).length=8+ps[k].length+(oR (ps.drop (k+1))).length:=by rw[ht];simp only[ai,cj]
  have hn:nth (.slice (.int .u8)) ps k=ps[k]:=cg (t:= .slice (.int .u8)) h;have aJo:(l++jo (ps[k].length:Int)).length=l.length+8:=by simp[cj]
  refine⟨(ps,(l++jo ps[k].length++ps[k]).length,((k+1:Nat):Int),n4,l++jo ps[k].length++ps[k]),⟨rfl,k+1,ak,OY,rfl,?_⟩,by simp only[aa];omega,?_,λkn kx=> ?_⟩
  ·simp only[ai,cj];omega
  ·simp only[CK,KP,aa,ht,aF];simp only[ai,cj,eO]
  ·have c8:cut (jo (ps[k].length:Int)) 0 8=jo (ps[k].length:Int):=aQV (cj _);have FP:ps[k].length < 18446744073709551616:=ak;rw[Rs];simp(disch:=omega) only[↓S1,↓if_pos,↓if_neg,if_pos,if_neg,bG,bq,S2,hn,aws FP,aoN FP,cj,c8,bK,aJo,aN,ax,jh,bG];rw[aY (by rw[aJo];omega)];simp only[ai,cj,eO]
 ·right;obtain rfl:k=ps.length:=ak;intro R kn kx;rw[Rs];simp(disch:=omega) only[↓S1,↓if_pos,↓if_neg,if_pos,if_neg,bG,bq,S2,CK,KP,aK];simp[oR]
theorem aMo:acd.Ok:=by
 rintro⟨name,ps⟩ hp;have hp:(jo (bH name).length++bH name++oR ps).length<=140737488350000:=hp;have hl:(jo (bH name).length++bH name++oR ps).length=8+(bH name).length+(oR ps).length:=by simp only[ai,cj]
 have OY:=acL ps;have tT:name.size=(bH name).length:=by rw[lp]
 have FP:(bH name).length < 18446744073709551616:=ak;have p2:Wn (ps,8+(bH name).length,0,ab 32 0,jo ((bH name).length:Int)++bH name):=by refine⟨by simp only[ai,cj],0,aJ _,ak,rfl,?_⟩;rw[aD];simp only[ai,cj];omega
 rw[aMn,tT];simp(disch:=omega) only[↓S1,↓if_pos,↓if_neg,if_pos,if_neg,bG,bq,S2,aws FP,aoN FP,cj,aY (ud (cj _)),aoW p2,CK,KP,aX,aD,aN];have ayA:cut (jo ((bH name).length:Int)++bH name++oR ps) 0 ((jo ((bH name).length:Int)++bH name).length+(oR ps).length)=Um (bH name) ps:=aQV (by simp only[ai]);have p3:aoV (Um (bH name) ps):=hp;rw[if_pos (by simp only[ai];omega),ayA,aHC p3];rfl
theorem aoX:acd.RS:=rE [.d .str,.d (.slice tB)] acd
def awh:=acd.eS aMo 1 ⟨.fp atz,trivial⟩
theorem R2{n:Int}(h1:0<=n)(h2:n < 18446744073709551616):IntKind.u64.wrap n=n:=by rw[wrap_u64,gX];omega
theorem R1(n:Int):IntKind.u64.wrap n=n%18446744073709551616:=by rw[wrap_u64,gX];rfl
theorem uH(x y:Int):bI .u64 x y=(x+y)%18446744073709551616:=R1 _
theorem XS(x y:Int):cP .u64 x y=(x - y)%18446744073709551616:=R1 _
theorem zx(x y:Int):gv .u64 x y=(x*y)%18446744073709551616:=R1 _
theorem aFg(x:Int):dX .u64 x=x%18446744073709551616:=R1 _
theorem ale{x:Int}(h:0<=x)(h2:x < 18446744073709551616):cG .and .u64 x 4294967295=x%4294967296:=by
 obtain⟨n,rfl⟩:∃n:Nat,x=n:=⟨x.toNat,ak⟩;have e:(bf 64 (n:Int) &&& bf 64 4294967295).toNat=n%4294967296:=by
  rw[BitVec.toNat_and];have a:(bf 64 (n:Int)).toNat=n:=by rw[jf,kf];omega
  have b:(bf 64 4294967295).toNat=2^32 - 1:=by decide
  rw[a,b,Nat.and_two_pow_sub_one_eq_mod]
 show IntKind.u64.wrap ((bf 64 (n:Int) &&& bf 64 4294967295).toNat:Int)=_;rw[e,R2 ak ak];omega
theorem aTa{x:Int}(h:0<=x)(h2:x < 18446744073709551616):cG .and .u64 x 1=x%2:=by
 obtain⟨n,rfl⟩:∃n:Nat,x=n:=⟨x.toNat,ak⟩;have e:(bf 64 (n:Int) &&& bf 64 1).toNat=n%2:=by
  rw[BitVec.toNat_and];have a:(bf 64 (n:Int)).toNat=n:=by rw[jf,kf];omega
  have b:(bf 64 1).toNat=2^1 - 1:=by decide
  rw[a,b,Nat.and_two_pow_sub_one_eq_mod]
 show IntKind.u64.wrap ((bf 64 (n:Int) &&& bf 64 1).toNat:Int)=_;rw[e,R2 ak ak];omega
theorem wW{x k:Int}(n:Nat)(hk:k=n)(hn:n<=64):cv .u64 x k=x / 2^n:=by
 subst hk;rw[cv];have e:min (ae (n:Int)) IntKind.u64.bits=n:=by simp only[IntKind.bits];omega
 rw[e,kh _ (Int.le_of_lt (Int.pow_pos ak))]
theorem wV{x k:Int}(n:Nat)(hk:k=n)(hn:n<=64):mD .u64 x k=x*2^n%18446744073709551616:=by
 subst hk;rw[mD,R1];have e:min (ae (n:Int)) IntKind.u64.bits=n:=by simp only[IntKind.bits];omega
 rw[e]
theorem QT{x y:Int}(k:Nat)(m:Int)(hm:m=2^k)(hx:x%m=0)(h0:0<=x)(h1:x < 18446744073709551616)(hy:0<=y)(aQv:y < m)(h2:x+y < 18446744073709551616):cG .or .u64 x y=x+y:=by
 subst hm;obtain⟨n,rfl⟩:∃n:Nat,x=n:=⟨x.toNat,ak⟩;obtain⟨j,rfl⟩:∃j:Nat,y=j:=⟨y.toNat,ak⟩;have hx:n%2^k=0:=by
  have:((n%2^k:Nat):Int)=0:=by rw[qf];simpa using hx
  omega
 have hj:j < 2^k:=by
  have:((j:Nat):Int) < ((2^k:Nat):Int):=by simpa using aQv
  omega
 obtain⟨q,rfl⟩:∃q,n=2^k*q:=⟨n / 2^k,by have:=Nat.div_add_mod n (2^k);omega⟩;have e:(bf 64 ((2^k*q:Nat):Int) ||| bf 64 (j:Int)).toNat=2^k*q+j:=by
  rw[BitVec.toNat_or];have a:(bf 64 ((2^k*q:Nat):Int)).toNat=2^k*q:=by rw[jf,kf];exact j6 ak
  have b:(bf 64 (j:Int)).toNat=j:=by rw[jf,kf];exact j6 ak
  rw[a,b,Nat.two_pow_add_eq_or_of_lt hj]
 show IntKind.u64.wrap ((bf 64 ((2^k*q:Nat):Int) ||| bf 64 (j:Int)).toNat:Int)=_;rw[e,R2 ak ak];omega
theorem ai0{x y:Int}(h:0<=x)(h1:0<=y)(h2:x < 18446744073709551616):tV .u64 x y=x / y:=by rw[tV,ki h];exact R2 (Int.ediv_nonneg h h1) (Int.lt_of_le_of_lt (Int.ediv_le_self _ h) h2)
theorem wx{x y:Int}(h:0<=x):mR x y=x%y:=by rw[mR,hZ h]
theorem k1{e u w r q:Int}(he:e=42260\/e=42264\/e=42272)(hu:0<=u)(akX:u < 18446744073709551616 - e)(hw:0<=w)(aB0:w < 4294967296)(hr:0<=r)(adT:r < 4294967296)
  (hq:q*4294967295+r=u) (hQ:(u*4294967296+w) / (18446744073709551616 - e)<=q):
  (4294967296<=q->(u*4294967296+w) / (18446744073709551616 - e)<=q - 1)/\
  (q < 4294967296->4294967296*r+w < q*(4294967296 - e)->(u*4294967296+w) / (18446744073709551616 - e)<=q - 1)/\
  (q < 4294967296->q*(4294967296 - e)<=4294967296*r+w->(u*4294967296+w) / (18446744073709551616 - e)=q)/\
  (4294967296<=r+4294967295->(u*4294967296+w) / (18446744073709551616 - e)<=q - 1->(u*4294967296+w) / (18446744073709551616 - e)=q - 1)/\0<=(u*4294967296+w) / (18446744073709551616 - e)/\q<=4294967297:=by
 rcases he with rfl | rfl | rfl
 ·refine⟨?_,?_,?_,?_,?_,?_⟩ <;> omega
 ·refine⟨?_,?_,?_,?_,?_,?_⟩ <;> omega
 ·refine⟨?_,?_,?_,?_,?_,?_⟩ <;> omega
theorem k0{e u w:Int}(he:e=42260\/e=42264\/e=42272)(hu:0<=u)(akX:u < 18446744073709551616 - e)(hw:0<=w)(aB0:w < 4294967296):
  (u*4294967296+w) / (18446744073709551616 - e)<=u / 4294967295/\0<=u - u / 4294967295*4294967295/\u - u / 4294967295*4294967295 < 4294967296/\
  (u*4294967296+w) - (u*4294967296+w) / (18446744073709551616 - e)*(18446744073709551616 - e)=(u*4294967296+w)%(18446744073709551616 - e)/\
  0<=(u*4294967296+w)%(18446744073709551616 - e)/\(u*4294967296+w)%(18446744073709551616 - e) < 18446744073709551616 - e/\
  0<=(u*4294967296+w) / (18446744073709551616 - e)/\(u*4294967296+w) / (18446744073709551616 - e) < 4294967296:=by
 rcases he with rfl | rfl | rfl
 ·refine⟨?_,?_,?_,?_,?_,?_,?_,?_⟩ <;> omega
 ·refine⟨?_,?_,?_,?_,?_,?_,?_,?_⟩ <;> omega
 ·refine⟨?_,?_,?_,?_,?_,?_,?_,?_⟩ <;> omega
theorem kd(Y u w1 w0:Int)(hY:0 < Y)(h0:0<=w0)(h1:w0 < 4294967296):
  ((u*4294967296+w1)*4294967296+w0) / Y=(u*4294967296+w1) / Y*4294967296+((u*4294967296+w1)%Y*4294967296+w0) / Y/\
  ((u*4294967296+w1)*4294967296+w0)%Y=((u*4294967296+w1)%Y*4294967296+w0)%Y:=by
 generalize u*4294967296+w1=n;have e:n*4294967296+w0=(n%Y*4294967296+w0)+Y*(n / Y*4294967296):=by
  have:=Int.emod_add_mul_ediv n Y;have h:Y*(n / Y*4294967296)=(Y*(n / Y))*4294967296:=by rw[rn]
  rw[h];omega
 rw[e,Int.add_mul_ediv_left _ _ ak,Int.add_mul_emod_self_left];exact⟨ak,rfl⟩
def aQx(y:Int):Prop:=y=4611686018427377339\/y=2305843009213688669\/y=2305843009213688668
def ayU:Int->Prop:=aQx
def aLy:Int->Int:=λy=>if y=4611686018427377339 then 62 else 61
def Cr:Fs Tryz.prog ayU bt aLy:=eN 208 Tryz.f208 (λx=>([.d tu x],[])) (λx=>⟨.d ti x,[],[]⟩) [some tu]
theorem aFF{R:Type}(x)(k:K1 R):Cr.A x k=aH ((Cm x 4294967296)) (aH ((Cm (cv .u64 x 32) 65536)) (aH ((Cm (cv .u64 (cv .u64 x 32) 16) 256)) (aH (eo (dX .u8 (cv .u64 (cv .u64 (cv .u64 x 32) 16) 8)) 256) (k (Cr.out (bI .i64 56 (dX .i64 (apd (⟨#[0,1,2,2,3,3,3,3,4,4,4,4,4,4,4,4,5,5,5,5,5,5,5,5,5,5,5,5,5,5,5,5,6,6,6,6,6,6,6,6,6,6,6,6,6,6,6,6,6,6,6,6,6,6,6,6,6,6,6,6,6,6,6,6,7,7,7,7,7,7,7,7,7,7,7,7,7,7,7,7,7,7,7,7,7,7,7,7,7,7,7,7,7,7,7,7,7,7,7,7,7,7,7,7,7,7,7,7,7,7,7,7,7,7,7,7,7,7,7,7,7,7,7,7,7,7,7,7,8,8,8,8,8,8,8,8,8,8,8,8,8,8,8,8,8,8,8,8,8,8,8,8,8,8,8,8,8,8,8,8,8,8,8,8,8,8,8,8,8,8,8,8,8,8,8,8,8,8,8,8,8,8,8,8,8,8,8,8,8,8,8,8,8,8,8,8,8,8,8,8,8,8,8,8,8,8,8,8,8,8,8,8,8,8,8,8,8,8,8,8,8,8,8,8,8,8,8,8,8,8,8,8,8,8,8,8,8,8,8,8,8,8,8,8,8,8,8,8,8,8,8,8,8,8,8,8]⟩:ByteArray) (dX .u8 (cv .u64 (cv .u64 (cv .u64 x 32) 16) 8))))))) none) (aH (eo (dX .u8 (cv .u64 (cv .u64 x 32) 16)) 256) (k (Cr.out (bI .i64 48 (dX .i64 (apd (⟨#[0,1,2,2,3,3,3,3,4,4,4,4,4,4,4,4,5,5,5,5,5,5,5,5,5,5,5,5,5,5,5,5,6,6,6,6,6,6,6,6,6,6,6,6,6,6,6,6,6,6,6,6,6,6,6,6,6,6,6,6,6,6,6,6,7,7,7,7,7,7,7,7,7,7,7,7,7,7,7,7,7,7,7,7,7,7,7,7,7,7,7,7,7,7,7,7,7,7,7,7,7,7,7,7,7,7,7,7,7,7,7,7,7,7,7,7,7,7,7,7,7,7,7,7,7,7,7,7,8,8,8,8,8,8,8,8,8,8,8,8,8,8,8,8,8,8,8,8,8,8,8,8,8,8,8,8,8,8,8,8,8,8,8,8,8,8,8,8,8,8,8,8,8,8,8,8,8,8,8,8,8,8,8,8,8,8,8,8,8,8,8,8,8,8,8,8,8,8,8,8,8,8,8,8,8,8,8,8,8,8,8,8,8,8,8,8,8,8,8,8,8,8,8,8,8,8,8,8,8,8,8,8,8,8,8,8,8,8,8,8,8,8,8,8,8,8,8,8,8,8,8,8,8,8,8,8]⟩:ByteArray) (dX .u8 (cv .u64 (cv .u64 x 32) 16))))))) none)) (aH ((Cm (cv .u64 x 32) 256)) (aH (eo (dX .u8 (cv .u64 (cv .u64 x 32) 8)) 256) (k (Cr.out (bI .i64 40 (dX .i64 (apd (⟨#[0,1,2,2,3,3,3,3,4,4,4,4,4,4,4,4,5,5,5,5,5,5,5,5,5,5,5,5,5,5,5,5,6,6,6,6,6,6,6,6,6,6,6,6,6,6,6,6,6,6,6,6,6,6,6,6,6,6,6,6,6,6,6,6,7,7,7,7,7,7,7,7,7,7,7,7,7,7,7,7,7,7,7,7,7,7,7,7,7,7,7,7,7,7,7,7,7,7,7,7,7,7,7,7,7,7,7,7,7,7,7,7,7,7,7,7,7,7,7,7,7,7,7,7,7,7,7,7,8,8,8,8,8,8,8,8,8,8,8,8,8,8,8,8,8,8,8,8,8,8,8,8,8,8,8,8,8,8,8,8,8,8,8,8,8,8,8,8,8,8,8,8,8,8,8,8,8,8,8,8,8,8,8,8,8,8,8,8,8,8,8,8,8,8,8,8,8,8,8,8,8,8,8,8,8,8,8,8,8,8,8,8,8,8,8,8,8,8,8,8,8,8,8,8,8,8,8,8,8,8,8,8,8,8,8,8,8,8,8,8,8,8,8,8,8,8,8,8,8,8,8,8,8,8,8,8]⟩:ByteArray) (dX .u8 (cv .u64 (cv .u64 x 32) 8))))))) none) (aH (eo (dX .u8 (cv .u64 x 32)) 256) (k (Cr.out (bI .i64 32 (dX .i64 (apd (⟨#[0,1,2,2,3,3,3,3,4,4,4,4,4,4,4,4,5,5,5,5,5,5,5,5,5,5,5,5,5,5,5,5,6,6,6,6,6,6,6,6,6,6,6,6,6,6,6,6,6,6,6,6,6,6,6,6,6,6,6,6,6,6,6,6,7,7,7,7,7,7,7,7,7,7,7,7,7,7,7,7,7,7,7,7,7,7,7,7,7,7,7,7,7,7,7,7,7,7,7,7,7,7,7,7,7,7,7,7,7,7,7,7,7,7,7,7,7,7,7,7,7,7,7,7,7,7,7,7,8,8,8,8,8,8,8,8,8,8,8,8,8,8,8,8,8,8,8,8,8,8,8,8,8,8,8,8,8,8,8,8,8,8,8,8,8,8,8,8,8,8,8,8,8,8,8,8,8,8,8,8,8,8,8,8,8,8,8,8,8,8,8,8,8,8,8,8,8,8,8,8,8,8,8,8,8,8,8,8,8,8,8,8,8,8,8,8,8,8,8,8,8,8,8,8,8,8,8,8,8,8,8,8,8,8,8,8,8,8,8,8,8,8,8,8,8,8,8,8,8,8,8,8,8,8,8,8]⟩:ByteArray) (dX .u8 (cv .u64 x 32))))))) none))) (aH ((Cm x 65536)) (aH ((Cm (cv .u64 x 16) 256)) (aH (eo (dX .u8 (cv .u64 (cv .u64 x 16) 8)) 256) (k (Cr.out (bI .i64 24 (dX .i64 (apd (⟨#[0,1,2,2,3,3,3,3,4,4,4,4,4,4,4,4,5,5,5,5,5,5,5,5,5,5,5,5,5,5,5,5,6,6,6,6,6,6,6,6,6,6,6,6,6,6,6,6,6,6,6,6,6,6,6,6,6,6,6,6,6,6,6,6,7,7,7,7,7,7,7,7,7,7,7,7,7,7,7,7,7,7,7,7,7,7,7,7,7,7,7,7,7,7,7,7,7,7,7,7,7,7,7,7,7,7,7,7,7,7,7,7,7,7,7,7,7,7,7,7,7,7,7,7,7,7,7,7,8,8,8,8,8,8,8,8,8,8,8,8,8,8,8,8,8,8,8,8,8,8,8,8,8,8,8,8,8,8,8,8,8,8,8,8,8,8,8,8,8,8,8,8,8,8,8,8,8,8,8,8,8,8,8,8,8,8,8,8,8,8,8,8,8,8,8,8,8,8,8,8,8,8,8,8,8,8,8,8,8,8,8,8,8,8,8,8,8,8,8,8,8,8,8,8,8,8,8,8,8,8,8,8,8,8,8,8,8,8,8,8,8,8,8,8,8,8,8,8,8,8,8,8,8,8,8,8]⟩:ByteArray) (dX .u8 (cv .u64 (cv .u64 x 16) 8))))))) none) (aH (eo (dX .u8 (cv .u64 x 16)) 256) (k (Cr.out (bI .i64 16 (dX .i64 (apd (⟨#[0,1,2,2,3,3,3,3,4,4,4,4,4,4,4,4,5,5,5,5,5,5,5,5,5,5,5,5,5,5,5,5,6,6,6,6,6,6,6,6,6,6,6,6,6,6,6,6,6,6,6,6,6,6,6,6,6,6,6,6,6,6,6,6,7,7,7,7,7,7,7,7,7,7,7,7,7,7,7,7,7,7,7,7,7,7,7,7,7,7,7,7,7,7,7,7,7,7,7,7,7,7,7,7,7,7,7,7,7,7,7,7,7,7,7,7,7,7,7,7,7,7,7,7,7,7,7,7,8,8,8,8,8,8,8,8,8,8,8,8,8,8,8,8,8,8,8,8,8,8,8,8,8,8,8,8,8,8,8,8,8,8,8,8,8,8,8,8,8,8,8,8,8,8,8,8,8,8,8,8,8,8,8,8,8,8,8,8,8,8,8,8,8,8,8,8,8,8,8,8,8,8,8,8,8,8,8,8,8,8,8,8,8,8,8,8,8,8,8,8,8,8,8,8,8,8,8,8,8,8,8,8,8,8,8,8,8,8,8,8,8,8,8,8,8,8,8,8,8,8,8,8,8,8,8,8]⟩:ByteArray) (dX .u8 (cv .u64 x 16))))))) none)) (aH ((Cm x 256)) (aH (eo (dX .u8 (cv .u64 x 8)) 256) (k (Cr.out (bI .i64 8 (dX .i64 (apd (⟨#[0,1,2,2,3,3,3,3,4,4,4,4,4,4,4,4,5,5,5,5,5,5,5,5,5,5,5,5,5,5,5,5,6,6,6,6,6,6,6,6,6,6,6,6,6,6,6,6,6,6,6,6,6,6,6,6,6,6,6,6,6,6,6,6,7,7,7,7,7,7,7,7,7,7,7,7,7,7,7,7,7,7,7,7,7,7,7,7,7,7,7,7,7,7,7,7,7,7,7,7,7,7,7,7,7,7,7,7,7,7,7,7,7,7,7,7,7,7,7,7,7,7,7,7,7,7,7,7,8,8,8,8,8,8,8,8,8,8,8,8,8,8,8,8,8,8,8,8,8,8,8,8,8,8,8,8,8,8,8,8,8,8,8,8,8,8,8,8,8,8,8,8,8,8,8,8,8,8,8,8,8,8,8,8,8,8,8,8,8,8,8,8,8,8,8,8,8,8,8,8,8,8,8,8,8,8,8,8,8,8,8,8,8,8,8,8,8,8,8,8,8,8,8,8,8,8,8,8,8,8,8,8,8,8,8,8,8,8,8,8,8,8,8,8,8,8,8,8,8,8,8,8,8,8,8,8]⟩:ByteArray) (dX .u8 (cv .u64 x 8))))))) none) (aH (eo (dX .u8 x) 256) (k (Cr.out (bI .i64 0 (dX .i64 (apd (⟨#[0,1,2,2,3,3,3,3,4,4,4,4,4,4,4,4,5,5,5,5,5,5,5,5,5,5,5,5,5,5,5,5,6,6,6,6,6,6,6,6,6,6,6,6,6,6,6,6,6,6,6,6,6,6,6,6,6,6,6,6,6,6,6,6,7,7,7,7,7,7,7,7,7,7,7,7,7,7,7,7,7,7,7,7,7,7,7,7,7,7,7,7,7,7,7,7,7,7,7,7,7,7,7,7,7,7,7,7,7,7,7,7,7,7,7,7,7,7,7,7,7,7,7,7,7,7,7,7,8,8,8,8,8,8,8,8,8,8,8,8,8,8,8,8,8,8,8,8,8,8,8,8,8,8,8,8,8,8,8,8,8,8,8,8,8,8,8,8,8,8,8,8,8,8,8,8,8,8,8,8,8,8,8,8,8,8,8,8,8,8,8,8,8,8,8,8,8,8,8,8,8,8,8,8,8,8,8,8,8,8,8,8,8,8,8,8,8,8,8,8,8,8,8,8,8,8,8,8,8,8,8,8,8,8,8,8,8,8,8,8,8,8,8,8,8,8,8,8,8,8,8,8,8,8,8,8]⟩:ByteArray) (dX .u8 x)))))) none))):=bY
theorem aFG:Cr.Ok:=by intro y h;rw[aFF];obtain rfl | rfl | rfl:=h <;> kernel_rfl
theorem ayV:Cr.RS:=rE [.d tu] Cr
def aFH:=Cr.eS aFG
def aF5:Int->Prop:=aQx
def aF4:Int->Int:=λy=>if y=4611686018427377339 then 2 else 3
def ash:Fs Tryz.prog aF5 bt aF4:=eN 238 Tryz.f238 (λx=>([.d tu x],[])) (λx=>⟨.d ti x,[],[]⟩) [some tu] [aFH]
theorem aLF{R:Type}(x)(k:K1 R):ash.A x k=al (Cr.call x) λx1=>k (ash.out (cP .i64 64 x1)):=bY
theorem aLG:ash.Ok:=by intro y h;rw[aLF,ayV (d:=y) h];obtain rfl | rfl | rfl:=h <;> rfl
theorem aF6:ash.RS:=rE [.d tu] ash
def aLH:=ash.eS aLG
abbrev Nx:=Int×Int×Int×Int×Int×Int×Int×Int×Int
def PW:Nx->Int->((Int×Int×Int×Int×Int×Int×Int)×(Int)):=λ(ae3,sv,yn1,yn0,un32,un1,un0,q1,rhat) y=>((ae3,sv,yn1,yn0,un32,un1,un0),y)
abbrev Ny:=Int×Int×Int×Int×Int×Int×Int×Int×Int
def PY:Ny->Int->((Int×Int×Int×Int×Int)×(Int)):=λ(ae4,mi,M0,adA,JZ,aej,Gj,un21,q0) y=>((ae4,mi,JZ,aej,un21),y)
def PV:Nx->Prop:=λ(y,sv,yn1,yn0,u,w,un0,q,r)=>∃e:Int,(e=42260\/e=42264\/e=42272)/\y=18446744073709551616 - e/\yn1=4294967295/\yn0=4294967296 - e/\0<=u/\u < 18446744073709551616 - e/\0<=w/\w < 4294967296/\0<=r/\r < 4294967296/\q*4294967295+r=u/\(u*4294967296+w) / (18446744073709551616 - e)<=q
def FD:Nx->Int:=λ(y,sv,yn1,yn0,u,w,un0,q,r)=>(u*4294967296+w) / y
def PX:Ny->Prop:=λ(y,sv,yn1,yn0,w,q1,r,u,q)=>∃e:Int,(e=42260\/e=42264\/e=42272)/\y=18446744073709551616 - e/\yn1=4294967295/\yn0=4294967296 - e/\0<=u/\u < 18446744073709551616 - e/\0<=w/\w < 4294967296/\0<=r/\r < 4294967296/\q*4294967295+r=u/\(u*4294967296+w) / (18446744073709551616 - e)<=q
def FE:Ny->Int:=λ(y,sv,yn1,yn0,w,q1,r,u,q)=>(u*4294967296+w) / y
def afJ:(Int×Int×Int)->Prop:=λ(hi,lo,y)=>(aQx y\/hi=0/\0 < y/\y < 18446744073709551616)/\0<=hi/\hi < y/\0<=lo/\lo < 18446744073709551616
def aim:(Int×Int×Int)->(Int×Int):=λ(hi,lo,y)=>((hi*18446744073709551616+lo) / y,(hi*18446744073709551616+lo)%y)
def nZ:Ls PV PW FD:=rW (λ(ae3,sv,yn1,yn0,un32,un1,un0,q1,rhat)=>⟨([bE,bE,.d tu ae3]++aP 5 ([.d tu sv,.d tu yn1,.d tu yn0,.d tu un32,bE,.d tu un1,.d tu un0,.d tu q1,.d tu rhat]++aP 118 [])),[],(ab 135 [])⟩) (λx=>(.exit 0,⟨([bE,bE,.d tu x.1.1]++aP 5 ([.d tu x.1.2.1,.d tu x.1.2.2.1,.d tu x.1.2.2.2.1,.d tu x.1.2.2.2.2.1,bE,.d tu x.1.2.2.2.2.2.1,.d tu x.1.2.2.2.2.2.2,.d tu x.2]++aP 119 [])),[],(ab 135 [])⟩))
def oa:Ls PX PY FE:=rW (λ(ae4,mi,M0,adA,JZ,aej,Gj,un21,q0)=>⟨([bE,bE,.d tu ae4]++aP 5 ([.d tu mi,.d tu M0,.d tu adA,bE,bE,bE,.d tu JZ,.d tu aej,.d tu Gj,.d tu un21,.d tu q0]++aP 116 [])),[],(ab 135 [])⟩) (λx=>(.exit 2,⟨([bE,bE,.d tu x.1.1]++aP 5 ([.d tu x.1.2.1]++aP 5 ([.d tu x.1.2.2.1,.d tu x.1.2.2.2.1,bE,.d tu x.1.2.2.2.2,.d tu x.2]++aP 116 []))),[],(ab 135 [])⟩))
def Ch:Fs Tryz.prog afJ bt aim:=eN 218 Tryz.f218 (λ(hi,lo,yv)=>([.d tu hi,.d tu lo,.d tu yv],[])) (λx=>⟨.cons (.d tu x.1) (.cons (.d tu x.2) (.nil)),[],[]⟩) [some tu,some tu,some tu] [aLH] {loops:=nX [(17,{aV:=[2,8,9,10,11,13,14,15,16]}),(24,{aV:=[2,8,9,10,14,15,16,17,18]})],outs:=nV [(17,{aV:=[2,8,9,10,11,13,14,15]},{aV:=[6,7]}),(24,{aV:=[2,8,14,15,17,18]},{aV:=[6,7]})],fC:=na [(17,nZ.E),(24,oa.E)]}
theorem ain:nZ.RS:=rL [.d tu,.d tu,.d tu,.d tu,.d tu,.d tu,.d tu,.d tu,.d tu] nZ
theorem C4{R:Type}(ae3 sv yn1 yn0 un32 un1 un0 q1 rhat)(kn:K2 R)(kx:K3 R):Ch.R 0 nZ (ae3,sv,yn1,yn0,un32,un1,un0,q1,rhat) kn kx=aH ((Cm q1 4294967296)) (aH ((Cm (bI .u64 rhat yn1) 4294967296)) (nZ.go kx ((ae3,sv,yn1,yn0,un32,un1,un0),(cP .u64 q1 1))) (kn (nZ.st (ae3,sv,yn1,yn0,un32,un1,un0,(cP .u64 q1 1),(bI .u64 rhat yn1))))) (aH ((rz (gv .u64 q1 yn0) (bI .u64 (gv .u64 4294967296 rhat) un1))) (aH ((Cm (bI .u64 rhat yn1) 4294967296)) (nZ.go kx ((ae3,sv,yn1,yn0,un32,un1,un0),(cP .u64 q1 1))) (kn (nZ.st (ae3,sv,yn1,yn0,un32,un1,un0,(cP .u64 q1 1),(bI .u64 rhat yn1))))) (nZ.go kx ((ae3,sv,yn1,yn0,un32,un1,un0),q1))):=bY
theorem aio:oa.RS:=rL [.d tu,.d tu,.d tu,.d tu,.d tu,.d tu,.d tu,.d tu,.d tu] oa
theorem C5{R:Type}(ae4 mi M0 adA JZ aej Gj un21 q0)(kn:K2 R)(kx:K3 R):Ch.R 1 oa (ae4,mi,M0,adA,JZ,aej,Gj,un21,q0) kn kx=aH ((Cm q0 4294967296)) (aH ((Cm (bI .u64 Gj M0) 4294967296)) (oa.go kx ((ae4,mi,JZ,aej,un21),(cP .u64 q0 1))) (kn (oa.st (ae4,mi,M0,adA,JZ,aej,(bI .u64 Gj M0),un21,(cP .u64 q0 1))))) (aH ((rz (gv .u64 q0 adA) (bI .u64 (gv .u64 4294967296 Gj) JZ))) (aH ((Cm (bI .u64 Gj M0) 4294967296)) (oa.go kx ((ae4,mi,JZ,aej,un21),(cP .u64 q0 1))) (kn (oa.st (ae4,mi,M0,adA,JZ,aej,(bI .u64 Gj M0),un21,(cP .u64 q0 1))))) (oa.go kx ((ae4,mi,JZ,aej,un21),q0))):=bY
theorem aEi{R:Type}(hi lo yv)(k:K1 R):Ch.A (hi,lo,yv) k=aH ((qY yv 0)) (none) (aH ((aiU yv hi)) (none) (aH ((qY hi 0)) (aH (rX yv) (aH (rX yv) (k (Ch.out ((tV .u64 lo yv),(mR lo yv)))) none) none) (al (ash.call yv) λx1=>aH (mF (dX .u64 x1)) (aH (mF (dX .u64 x1)) (aH (mF (cP .u64 64 (dX .u64 x1))) (aH (mF (dX .u64 x1)) (aH (rX (cv .u64 (mD .u64 yv (dX .u64 x1)) 32)) (al (nZ.call ((mD .u64 yv (dX .u64 x1)),(dX .u64 x1),(cv .u64 (mD .u64 yv (dX .u64 x1)) 32),(cG .and .u64 (mD .u64 yv (dX .u64 x1)) 4294967295),(cG .or .u64 (mD .u64 hi (dX .u64 x1)) (cv .u64 lo (cP .u64 64 (dX .u64 x1)))),(cv .u64 (mD .u64 lo (dX .u64 x1)) 32),(cG .and .u64 (mD .u64 lo (dX .u64 x1)) 4294967295),(tV .u64 (cG .or .u64 (mD .u64 hi (dX .u64 x1)) (cv .u64 lo (cP .u64 64 (dX .u64 x1)))) (cv .u64 (mD .u64 yv (dX .u64 x1)) 32)),(cP .u64 (cG .or .u64 (mD .u64 hi (dX .u64 x1)) (cv .u64 lo (cP .u64 64 (dX .u64 x1)))) (gv .u64 (tV .u64 (cG .or .u64 (mD .u64 hi (dX .u64 x1)) (cv .u64 lo (cP .u64 64 (dX .u64 x1)))) (cv .u64 (mD .u64 yv (dX .u64 x1)) 32)) (cv .u64 (mD .u64 yv (dX .u64 x1)) 32))))) λx2=>aH (rX x2.1.2.2.1) (al (oa.call (x2.1.1,x2.1.2.1,x2.1.2.2.1,x2.1.2.2.2.1,x2.1.2.2.2.2.2.2,x2.2,(cP .u64 (cP .u64 (bI .u64 (gv .u64 x2.1.2.2.2.2.1 4294967296) x2.1.2.2.2.2.2.1) (gv .u64 x2.2 x2.1.1)) (gv .u64 (tV .u64 (cP .u64 (bI .u64 (gv .u64 x2.1.2.2.2.2.1 4294967296) x2.1.2.2.2.2.2.1) (gv .u64 x2.2 x2.1.1)) x2.1.2.2.1) x2.1.2.2.1)),(cP .u64 (bI .u64 (gv .u64 x2.1.2.2.2.2.1 4294967296) x2.1.2.2.2.2.2.1) (gv .u64 x2.2 x2.1.1)),(tV .u64 (cP .u64 (bI .u64 (gv .u64 x2.1.2.2.2.2.1 4294967296) x2.1.2.2.2.2.2.1) (gv .u64 x2.2 x2.1.1)) x2.1.2.2.1))) λx3=>aH (mF x3.1.2.1) (k (Ch.out ((bI .u64 (gv .u64 x3.1.2.2.2.1 4294967296) x3.2),(cv .u64 (cP .u64 (bI .u64 (gv .u64 x3.1.2.2.2.2 4294967296) x3.1.2.2.1) (gv .u64 x3.2 x3.1.1)) x3.1.2.1)))) none) none) none) none) none) none) none))):=bY
theorem amA:(Ch.kN 0 nZ):=by
 refine(Ch.mh 0 nZ) (λ(y,sv,yn1,yn0,u,w,un0,q,r)=>q.toNat) ?_
 rintro⟨y,sv,yn1,yn0,u,w,un0,q,r⟩ ⟨e,he,rfl,rfl,rfl,hu,akX,hw,aB0,hr,adT,hq,hQ⟩;have hu:0<=u:=hu;have akX:u < 18446744073709551616 - e:=akX;have hw:0<=w:=hw;have aB0:w < 4294967296:=aB0;have hr:0<=r:=hr;have adT:r < 4294967296:=adT;have hq:q*4294967295+r=u:=hq;obtain⟨k1,k2,k3,k4,k5,k6⟩:=k1 he hu akX hw aB0 hr adT hq hQ;have q0:0<=q:=Int.le_trans k5 hQ;have a1:bI .u64 r 4294967295=r+4294967295:=by rw[uH];omega
 have a2:bI .u64 (gv .u64 4294967296 r) w=4294967296*r+w:=by rw[zx,uH];omega
 have a3:q < 4294967296->gv .u64 q (4294967296 - e)=q*(4294967296 - e):=by intro h;rw[zx];rcases he with rfl | rfl | rfl <;> omega
 have a4:0 < q->cP .u64 q 1=q - 1:=by intro h;rw[XS];omega
 have pos:4294967296<=q\/(q < 4294967296/\4294967296*r+w < q*(4294967296 - e))->0 < q/\(u*4294967296+w) / (18446744073709551616 - e)<=q - 1:=by
  rintro(h | ⟨h,h2⟩)
  ·exact⟨ak,k1 h⟩
  ·exact⟨by have:=k2 h h2;omega,k2 h h2⟩
 by_cases hc:4294967296<=q\/(q < 4294967296/\4294967296*r+w < q*(4294967296 - e))
 ·obtain⟨p1,p2⟩:=pos hc;by_cases hb:4294967296<=r+4294967295
  ·right;have hF:FD (18446744073709551616 - e,sv,4294967295,4294967296 - e,u,w,un0,q,r)=q - 1:=k4 hb p2;intro R kn kx;rw[C4,a1,a2,a4 p1,gr hb,hF];rcases hc with h | ⟨h,h2⟩
   ·rw[gr h];rfl
   ·rw[eE ak,a3 h,cR h2];rfl
  ·left;refine⟨(18446744073709551616 - e,sv,4294967295,4294967296 - e,u,w,un0,q - 1,r+4294967295),⟨e,he,rfl,rfl,rfl,hu,akX,hw,aB0,ak,ak,ak,p2⟩,by simp only[];omega,rfl,λkn kx=> ?_⟩;rw[C4,a1,a2,a4 p1,eE hb];rcases hc with h | ⟨h,h2⟩
   ·rw[gr h];rfl
   ·rw[eE ak,a3 h,cR h2];rfl
 ·right;have h:q < 4294967296:=ak;have h2:¬4294967296*r+w < q*(4294967296 - e):=λx=>hc (ff ⟨h,x⟩)
  have hF:FD (18446744073709551616 - e,sv,4294967295,4294967296 - e,u,w,un0,q,r)=q:=k3 h ak;intro R kn kx;rw[C4,a2,a3 h,eE ak,cn h2,hF];rfl
theorem amB:(Ch.kN 1 oa):=by
 refine(Ch.mh 1 oa) (λ(y,sv,yn1,yn0,w,q1,r,u,q)=>q.toNat) ?_
 rintro⟨y,sv,yn1,yn0,w,q1,r,u,q⟩ ⟨e,he,rfl,rfl,rfl,hu,akX,hw,aB0,hr,adT,hq,hQ⟩;have hu:0<=u:=hu;have akX:u < 18446744073709551616 - e:=akX;have hw:0<=w:=hw;have aB0:w < 4294967296:=aB0;have hr:0<=r:=hr;have adT:r < 4294967296:=adT;have hq:q*4294967295+r=u:=hq;obtain⟨k1,k2,k3,k4,k5,k6⟩:=k1 he hu akX hw aB0 hr adT hq hQ;have q0:0<=q:=Int.le_trans k5 hQ;have a1:bI .u64 r 4294967295=r+4294967295:=by rw[uH];omega
 have a2:bI .u64 (gv .u64 4294967296 r) w=4294967296*r+w:=by rw[zx,uH];omega
 have a3:q < 4294967296->gv .u64 q (4294967296 - e)=q*(4294967296 - e):=by intro h;rw[zx];rcases he with rfl | rfl | rfl <;> omega
 have a4:0 < q->cP .u64 q 1=q - 1:=by intro h;rw[XS];omega
 have pos:4294967296<=q\/(q < 4294967296/\4294967296*r+w < q*(4294967296 - e))->0 < q/\(u*4294967296+w) / (18446744073709551616 - e)<=q - 1:=by
  rintro(h | ⟨h,h2⟩)
  ·exact⟨ak,k1 h⟩
  ·exact⟨by have:=k2 h h2;omega,k2 h h2⟩
 by_cases hc:4294967296<=q\/(q < 4294967296/\4294967296*r+w < q*(4294967296 - e))
 ·obtain⟨p1,p2⟩:=pos hc;by_cases hb:4294967296<=r+4294967295
  ·right;have hF:FE (18446744073709551616 - e,sv,4294967295,4294967296 - e,w,q1,r,u,q)=q - 1:=k4 hb p2;intro R kn kx;rw[C5,a1,a2,a4 p1,gr hb,hF];rcases hc with h | ⟨h,h2⟩
   ·rw[gr h];rfl
   ·rw[eE ak,a3 h,cR h2];rfl
  ·left;refine⟨(18446744073709551616 - e,sv,4294967295,4294967296 - e,w,q1,r+4294967295,u,q - 1),⟨e,he,rfl,rfl,rfl,hu,akX,hw,aB0,ak,ak,ak,p2⟩,by simp only[];omega,rfl,λkn kx=> ?_⟩;rw[C5,a1,a2,a4 p1,eE hb];rcases hc with h | ⟨h,h2⟩
   ·rw[gr h];rfl
   ·rw[eE ak,a3 h,cR h2];rfl
 ·right;have h:q < 4294967296:=ak;have h2:¬4294967296*r+w < q*(4294967296 - e):=λx=>hc (ff ⟨h,x⟩)
  have hF:FE (18446744073709551616 - e,sv,4294967295,4294967296 - e,w,q1,r,u,q)=q:=k3 h ak;intro R kn kx;rw[C5,a2,a3 h,eE ak,cn h2,hF];rfl
theorem aOp{y hi lo:Int}(hy:aQx y)(h0:0<=hi)(h1:hi < y)(h2:0<=lo)(h3:lo < 18446744073709551616):∃(s:Nat) (e m:Int),aF4 y=s/\(s=2\/s=3)/\m=2^s/\(e=42260\/e=42264\/e=42272)/\y*m=18446744073709551616 - e/\
  mD .u64 y (s:Int)=18446744073709551616 - e/\
  cG .or .u64 (mD .u64 hi (s:Int)) (cv .u64 lo (cP .u64 64 (s:Int)))=(hi*18446744073709551616+lo)*m / 18446744073709551616/\
  mD .u64 lo (s:Int)=(hi*18446744073709551616+lo)*m%18446744073709551616/\
  (hi*18446744073709551616+lo)*m / 18446744073709551616 < 18446744073709551616 - e/\
  (hi*18446744073709551616+lo)*m / (18446744073709551616 - e)=(hi*18446744073709551616+lo) / y/\
  (hi*18446744073709551616+lo)*m%(18446744073709551616 - e) / m=(hi*18446744073709551616+lo)%y:=by
 have e1:cP .u64 64 ((2:Nat):Int)=((62:Nat):Int):=rfl;have e2:cP .u64 64 ((3:Nat):Int)=((61:Nat):Int):=rfl;have p2:(2:Int)^2=4:=rfl;have p3:(2:Int)^3=8:=rfl;have p61:(2:Int)^61=2305843009213693952:=rfl;have p62:(2:Int)^62=4611686018427387904:=rfl;obtain rfl | rfl | rfl:=hy
 ·refine⟨2,42260,4,rfl,lV rfl,rfl,lV rfl,rfl,by rw[wV 2 (by rfl) ak,p2];omega,?_,?_,ak,ak,ak⟩
  ·rw[e1,wV 2 (by rfl) ak,wW 62 (by rfl) ak,p2,p62,QT 2 4 rfl ak ak ak ak ak ak];omega
  ·rw[wV 2 (by rfl) ak,p2];omega
 ·refine⟨3,42264,8,rfl,ff rfl,rfl,ff (lV rfl),rfl,by rw[wV 3 (by rfl) ak,p3];omega,?_,?_,ak,ak,ak⟩
  ·rw[e2,wV 3 (by rfl) ak,wW 61 (by rfl) ak,p3,p61,QT 3 8 rfl ak ak ak ak ak ak];omega
  ·rw[wV 3 (by rfl) ak,p3];omega
 ·refine⟨3,42272,8,rfl,ff rfl,rfl,ff (ff rfl),rfl,by rw[wV 3 (by rfl) ak,p3];omega,?_,?_,ak,ak,ak⟩
  ·rw[e2,wV 3 (by rfl) ak,wW 61 (by rfl) ak,p3,p61,QT 3 8 rfl ak ak ak ak ak ak];omega
  ·rw[wV 3 (by rfl) ak,p3];omega
theorem aUk(a b c:Int):(((a%18446744073709551616+b)%18446744073709551616) - c%18446744073709551616)%18446744073709551616=(a+b - c)%18446744073709551616:=ak
theorem aEj:Ch.Ok:=by
 rintro⟨hi,lo,y⟩ ⟨hy,h0,h1,h2,h3⟩;have h0:0<=hi:=h0;have h1:hi < y:=h1;have h2:0<=lo:=h2;have h3:lo < 18446744073709551616:=h3;have yb:0 < y/\y < 18446744073709551616:=by
  rcases hy with hy | hy
  ·obtain rfl | rfl | rfl:=hy <;> omega
  ·exact hy.2
 rw[aEi,eH ak,j7 ak];simp only[ao];have z:rX y=true:=by simp[rX];omega
 by_cases hz:hi=0
 ·subst hz;rw[du rfl,z,ai0 h2 ak h3,wx h2];simp only[aj,aim,bt,Int.zero_mul,Int.zero_add]
 ·have hy:aQx y:=hy.resolve_right λe=>hz e.1
  obtain⟨s,e,m,hs,ZV,hm,he,aXs,a1,a2,a3,a4,a5,a6⟩:=aOp hy h0 h1 h2 h3;have c1:dX .u64 (s:Int)=(s:Int):=by rw[aFg];omega
  have c2:mF (s:Int)=true:=tE ak;have c3:mF (cP .u64 64 (s:Int))=true:=by rcases ZV with rfl | rfl <;> rfl
  rw[eH hz,aF6 (d:=y) hy];simp only[ao,ah,bt,hs,c1,c2,c3,aj,a1,a2,a3];have hN:0<=(hi*18446744073709551616+lo)*m:=Int.mul_nonneg ak (by rcases ZV with rfl | rfl <;> omega)
  revert a4 a5 a6
  generalize (hi*18446744073709551616+lo)*m=N at hN;intro a4 a5 a6;have u0:0<=N / 18446744073709551616:=ak;have t0:0<=N%18446744073709551616:=ak;have t1:N%18446744073709551616 < 18446744073709551616:=ak;have hd:N=(N / 18446744073709551616*4294967296+N%18446744073709551616 / 4294967296)*4294967296+N%18446744073709551616%4294967296:=ak;have w10:0<=N%18446744073709551616 / 4294967296:=ak;have w11:N%18446744073709551616 / 4294967296 < 4294967296:=ak;have w00:0<=N%18446744073709551616%4294967296:=ak;have w01:N%18446744073709551616%4294967296 < 4294967296:=ak;have p32:(2:Int)^32=4294967296:=rfl;have b1:cv .u64 (18446744073709551616 - e) 32=4294967295:=by rw[wW 32 (by rfl) ak,p32];rcases he with rfl | rfl | rfl <;> rfl
  have b2:cG .and .u64 (18446744073709551616 - e) 4294967295=4294967296 - e:=by rw[ale ak ak];omega
  have b3:cv .u64 (N%18446744073709551616) 32=N%18446744073709551616 / 4294967296:=by rw[wW 32 (by rfl) ak,p32]
  have b4:cG .and .u64 (N%18446744073709551616) 4294967295=N%18446744073709551616%4294967296:=ale t0 t1;have z2:rX 4294967295=true:=rfl;simp only[b1,b2,b3,b4,z2,aj];clear a1 a2 a3 b1 b2 b3 b4;have kdd:=kd (18446744073709551616 - e) (N / 18446744073709551616) (N%18446744073709551616 / 4294967296) (N%18446744073709551616%4294967296) ak w00 w01;rw[<-hd,a5]at kdd
  revert a4 kdd
  generalize N / 18446744073709551616=u at u0;generalize N%18446744073709551616 / 4294967296=w1 at w10 w11;generalize N%18446744073709551616%4294967296=w0 at w00 w01;intro a4 kdd
  have g:∀u w:Int,0<=u->u < 18446744073709551616 - e->0<=w->w < 4294967296->
    tV .u64 u 4294967295=u / 4294967295/\cP .u64 u (gv .u64 (u / 4294967295) 4294967295)=u - u / 4294967295*4294967295/\
    cP .u64 (bI .u64 (gv .u64 u 4294967296) w) (gv .u64 ((u*4294967296+w) / (18446744073709551616 - e)) (18446744073709551616 - e))=(u*4294967296+w)%(18446744073709551616 - e):=by
   intro u w k1 k2 k3 k4;obtain⟨q1,q2,q3,q4,q5,q6,q7,q8⟩:=k0 he k1 k2 k3 k4;refine⟨ai0 k1 ak ak,by rw[XS,zx];omega,?_⟩;rw[XS,uH,zx,zx,aUk,q4];exact fa q5 ak
  obtain⟨f1,f2,f3⟩:=g u w1 u0 a4 w10 w11;obtain⟨q1,q2,q3,q4,q5,q6,q7,q8⟩:=k0 he u0 a4 w10 w11;have p1:PV (18446744073709551616 - e,(s:Int),4294967295,4294967296 - e,u,w1,w0,u / 4294967295,u - u / 4294967295*4294967295):=⟨e,he,rfl,rfl,rfl,u0,a4,w10,w11,q2,q3,ak,q1⟩;rw[f1,f2,ain p1];simp only[ah,PW,FD,z2,aj,f3]
  revert f3 q1 kdd
  generalize (u*4294967296+w1)%(18446744073709551616 - e)=v at q4 q5 q6;generalize (u*4294967296+w1) / (18446744073709551616 - e)=Q at q4 q7 q8;intro kdd f3 q1;obtain⟨g1,g2,g3⟩:=g v w0 q5 q6 w00 w01;obtain⟨r1,r2,r3,r4,r5,r6,r7,r8⟩:=k0 he q5 q6 w00 w01;have p2:PX (18446744073709551616 - e,(s:Int),4294967295,4294967296 - e,w0,Q,v - v / 4294967295*4294967295,v,v / 4294967295):=⟨e,he,rfl,rfl,rfl,q5,q6,w00,w01,r2,r3,ak,r1⟩;rw[g1,g2,aio p2];simp only[ah,PY,FE,c2,aj,g3];rw[<-kdd.2,wW s (by rfl) ak,<-hm,a6,zx,uH];have e9:(Q*4294967296%18446744073709551616+(v*4294967296+w0) / (18446744073709551616 - e))%18446744073709551616=(hi*18446744073709551616+lo) / y:=by rw[kdd.1];omega
  rw[e9];rfl
theorem ax0:Ch.RS:=rE [.d tu,.d tu,.d tu] Ch
def aEk:=Ch.eS aEj 2 ⟨.fp amA,⟨.fp amB,trivial⟩⟩
def TP:(Int×Int×Int)->Prop:=λ(hi,lo,y)=>aQx y/\0<=hi/\hi < 18446744073709551616/\0<=lo/\lo < 18446744073709551616
def Rb:(Int×Int×Int)->Int:=λ(hi,lo,y)=>(hi*18446744073709551616+lo)%y
def Ra:Fs Tryz.prog TP bt Rb:=eN 185 Tryz.f185 (λ(hi,lo,yv)=>([.d tu hi,.d tu lo,.d tu yv],[])) (λx=>⟨.d tu x,[],[]⟩) [some tu,some tu,some tu] [aEk]
theorem aHb{R:Type}(hi lo yv)(k:K1 R):Ra.A (hi,lo,yv) k=aH (rX yv) (al (Ch.call ((mR hi yv),lo,yv)) λx1=>k (Ra.out x1.2)) none:=bY
theorem aHc:Ra.Ok:=by
 rintro⟨hi,lo,y⟩ ⟨hy,h0,h1,h2,h3⟩;have h0:0<=hi:=h0;have yb:0 < y:=by obtain rfl | rfl | rfl:=hy <;> omega
 have z:rX y=true:=by simp[rX];omega
 have p:afJ (hi%y,lo,y):=⟨.inl hy,kQ _ ak,kg _ yb,h2,h3⟩;rw[aHb,z,wx h0,ax0 p];have e:(hi%y*18446744073709551616+lo)%y=(hi*18446744073709551616+lo)%y:=by rw[tZ,jA,gM _ (qd y),<-jA,<-tZ]
 simp only[aj,ah,bt,aim,bt,Rb,e]
theorem TQ:Ra.RS:=rE [.d tu,.d tu,.d tu] Ra
def abW:=Ra.eS aHc
def azh:(Int×Int)->Prop:=λ(x,y)=>(0<=x/\x < 18446744073709551616)/\0<=y/\y < 18446744073709551616
def XY:(Int×Int)->(Int×Int):=λ(x,y)=>(x*y / 18446744073709551616,x*y%18446744073709551616)
def QO:Fs Tryz.prog azh bt XY:=eN 213 Tryz.f213 (λ(x,yv)=>([.d tu x,.d tu yv],[])) (λx=>⟨.cons (.d tu x.1) (.cons (.d tu x.2) (.nil)),[],[]⟩) [some tu,some tu]
theorem aF9{R:Type}(x yv)(k:K1 R):QO.A (x,yv) k=k (QO.out ((bI .u64 (bI .u64 (gv .u64 (cv .u64 x 32) (cv .u64 yv 32)) (cv .u64 (bI .u64 (gv .u64 (cv .u64 x 32) (cG .and .u64 yv 4294967295)) (cv .u64 (gv .u64 (cG .and .u64 x 4294967295) (cG .and .u64 yv 4294967295)) 32)) 32)) (cv .u64 (bI .u64 (cG .and .u64 (bI .u64 (gv .u64 (cv .u64 x 32) (cG .and .u64 yv 4294967295)) (cv .u64 (gv .u64 (cG .and .u64 x 4294967295) (cG .and .u64 yv 4294967295)) 32)) 4294967295) (gv .u64 (cG .and .u64 x 4294967295) (cv .u64 yv 32))) 32)),(gv .u64 x yv))):=bY
theorem TE{a b m n:Int}(h0:0<=a)(h1:a<=m)(h2:0<=b)(h3:b<=n):0<=a*b/\a*b<=m*n:=⟨Int.mul_nonneg h0 h2,Int.mul_le_mul h1 h3 h2 (Int.le_trans h0 h1)⟩
theorem aGa:QO.Ok:=by
 rintro⟨x,y⟩ ⟨⟨h0,h1⟩,h2,h3⟩;have h0:0<=x:=h0;have h1:x < 18446744073709551616:=h1;have h2:0<=y:=h2;have h3:y < 18446744073709551616:=h3;rw[aF9];have p32:(2:Int)^32=4294967296:=rfl;have aW2:∀x:Int,cv .u64 x 32=x / 4294967296:=λx=>by rw[wW 32 (by rfl) ak,p32]
 simp only[aW2,ale h0 h1,ale h2 h3];obtain⟨a,b,rfl,a0,a1,b0,b1⟩:∃a b:Int,x=a*4294967296+b/\0<=a/\a<=4294967295/\0<=b/\b<=4294967295:=⟨x / 4294967296,x%4294967296,ak,ak,ak,ak,ak⟩;obtain⟨c,d,rfl,c0,c1,d0,d1⟩:∃a b:Int,y=a*4294967296+b/\0<=a/\a<=4294967295/\0<=b/\b<=4294967295:=⟨y / 4294967296,y%4294967296,ak,ak,ak,ak,ak⟩;have e1:(a*4294967296+b) / 4294967296=a:=ak;have e2:(a*4294967296+b)%4294967296=b:=ak;have e3:(c*4294967296+d) / 4294967296=c:=ak;have e4:(c*4294967296+d)%4294967296=d:=ak;have e5:(a*4294967296+b)*(c*4294967296+d)=a*c*18446744073709551616+(a*d+b*c)*4294967296+b*d:=by
  have q:(4294967296:Int)*4294967296=18446744073709551616:=rfl;rw[Int.add_mul,Int.mul_add,Int.mul_add];have q1:a*4294967296*(c*4294967296)=a*c*18446744073709551616:=by rw[<-q];ac_rfl
  have q2:a*4294967296*d=a*d*4294967296:=by ac_rfl
  have q3:b*(c*4294967296)=b*c*4294967296:=by ac_rfl
  rw[q1,q2,q3];omega
 obtain⟨m1,m2⟩:=TE a0 a1 c0 c1;obtain⟨m3,m4⟩:=TE a0 a1 d0 d1;obtain⟨m5,m6⟩:=TE b0 b1 c0 c1;obtain⟨m7,m8⟩:=TE b0 b1 d0 d1;have n:(4294967295:Int)*4294967295=18446744065119617025:=rfl;rw[n]at m2 m4 m6 m8;simp only[e1,e2,e3,e4,bt,XY,e5,zx,uH]
 revert m1 m2 m3 m4 m5 m6 m7 m8
 generalize a*c=ac;generalize a*d=ad;generalize b*c=bc;generalize b*d=bd;intro m1 m2 m3 m4 m5 m6 m7 m8;have q1:bd%18446744073709551616=bd:=ak;have q2:ad%18446744073709551616=ad:=ak;have q3:bc%18446744073709551616=bc:=ak;have q4:ac%18446744073709551616=ac:=ak;rw[q1,q2,q3,q4];have q5:(ad+bd / 4294967296)%18446744073709551616=ad+bd / 4294967296:=ak;have q6:cG .and .u64 (ad+bd / 4294967296) 4294967295=(ad+bd / 4294967296)%4294967296:=ale ak ak;rw[q5,q6];refine bo some (bo QO.out (Prod.ext ?_ ?_))
 ·show _=(_:Int);simp only[];omega
 ·rfl
theorem agc:QO.RS:=rE [.d tu,.d tu] QO
def anL:=QO.eS aGa
def Pn(x:Int):Prop:=0<=x/\x < 4611686018427377339
def nU(x:Int):Prop:=0<=x/\x < 18446744073709551616
theorem Pn.u{x:Int}(h:Pn x):nU x:=⟨h.1,by have:=h.2;omega⟩
def pJ(a b:Int):Int:=a*b%4611686018427377339
theorem wD(a b:Int):Pn (pJ a b):=⟨kQ _ ak,kg _ ak⟩
def akZ:Nat->Int->Nat->Int->Int
 | 0,_,_,out=>out
 |f+1,a,n,out=>if n=0 then out else akZ f (pJ a a) (n / 2) (if n%2=1 then pJ out a else out)
def pw(a:Int)(n:Nat):Int:=akZ 64 a n 1
theorem Br(f:Nat)(a out:Int):akZ f a 0 out=out:=by cases f <;> rfl
theorem abp:∀(f g:Nat) (a:Int) (n:Nat) (out:Int),n < 2^f->n < 2^g->akZ f a n out=akZ g a n out
 | 0,g,a,n,out,h,_=>by obtain rfl:n=0:=ak;rw[Br,Br]
 |f+1,0,a,n,out,_,h=>by obtain rfl:n=0:=ak;rw[Br,Br]
 |f+1,g+1,a,n,out,h,h'=>by
  have e:(2:Nat)^(f+1)=2^f*2:=Nat.pow_succ 2 f;have e':(2:Nat)^(g+1)=2^g*2:=Nat.pow_succ 2 g;unfold akZ;split
  ·rfl
  ·exact abp f g _ _ _ ak ak
theorem aGS:∀(f:Nat) (a:Int) (n:Nat) (out:Int),Pn out->Pn (akZ f a n out)
 | 0,_,_,_,h=>h
 |f+1,a,n,out,h=>by
  unfold akZ;split
  ·exact h
  ·refine aGS f _ _ _ ?_
   split
   ·exact wD _ _
   ·exact h
theorem aoi(a:Int)(n:Nat):Pn (pw a n):=aGS _ _ _ _ ⟨ak,ak⟩
def asT:(Int×Int)->Prop:=λ(a,b)=>nU a/\nU b
def aGO:(Int×Int)->Int:=λ(a,b)=>pJ a b
def Dm:Fs Tryz.prog asT bt aGO:=eN 180 Tryz.f180 (λ(a,b)=>([.d tu a,.d tu b],[])) (λx=>⟨.d tu x,[],[]⟩) [some tu,some tu] [anL,abW]
theorem azS{R:Type}(a b)(k:K1 R):Dm.A (a,b) k=al (QO.call (a,b)) λx1=>al (Ra.call (x1.1,x1.2,4611686018427377339)) λx2=>k (Dm.out x2):=bY
theorem adf(n:Int):n / 18446744073709551616*18446744073709551616+n%18446744073709551616=n:=ak
theorem azT:Dm.Ok:=by rintro⟨a,b⟩ ⟨ha,hb⟩;have ha:nU a:=ha;have hb:nU b:=hb;obtain⟨m1,m2⟩:=TE ha.1 (show a<=18446744073709551615 by have:=ha.2;omega) hb.1 (show b<=18446744073709551615 by have:=hb.2;omega);have n:(18446744073709551615:Int)*18446744073709551615=340282366920938463426481119284349108225:=rfl;rw[n]at m2;have p:TP (a*b / 18446744073709551616,a*b%18446744073709551616,4611686018427377339):=⟨lV rfl,ak,ak,ak,ak⟩;rw[azS,agc (d:=(a,b)) ⟨ha,hb⟩];simp only[ah,bt,XY];rw[TQ p];simp only[ah,bt,Rb,adf];rfl
theorem Oo:Dm.RS:=rE [.d tu,.d tu] Dm
def agx:=Dm.eS azT
def aeg:(Int×Int×Int)->Prop:=λ(a,n,o)=>nU a/\nU n/\Pn o
def Cz:(Int×Int×Int)->Int:=λ(a,n,o)=>akZ 64 a n.toNat o
def asP:(Int×Int)->Prop:=λ(a,n)=>nU a/\nU n
def aoe:(Int×Int)->Int:=λ(a,n)=>pw a n.toNat
def oA:Ls aeg bt Cz:=rW (λ(UD,wG,outv)=>⟨([.d tu UD,.d tu wG,bE,bE,bE,.d tu outv]++aP 14 []),[],(ab 20 [])⟩) (λx=>(.exit 0,⟨(aP 5 ([.d tu x]++aP 14 [])),[],(ab 20 [])⟩))
def yc:Fs Tryz.prog asP bt aoe:=eN 130 Tryz.f130 (λ(a,n)=>([.d tu a,.d tu n],[])) (λx=>⟨.d tu x,[],[]⟩) [some tu,some tu] [agx] {loops:=nX [(2,{aV:=[0,1,5]})],outs:=nV [(2,{aV:=[5]},{aV:=[4]})],fC:=na [(2,oA.E)]}
theorem aeh:oA.RS:=rL [.d tu,.d tu,.d tu] oA
theorem IL{R:Type}(UD wG outv)(kn:K2 R)(kx:K3 R):yc.R 0 oA (UD,wG,outv) kn kx=aH ((rz wG 0)) (aH ((qY (cG .and .u64 wG 1) 1)) (al (Dm.call (outv,UD)) λx1=>al (Dm.call (UD,UD)) λx2=>kn (oA.st (x2,(cv .u64 wG 1),x1))) (al (Dm.call (UD,UD)) λx3=>kn (oA.st (x3,(cv .u64 wG 1),outv)))) (oA.go kx outv):=bY
theorem azK{R:Type}(a n)(k:K1 R):yc.A (a,n) k=al (oA.call (a,n,1)) λx4=>k (yc.out x4):=bY
theorem aUH{n:Int}(h:nU n):cv .u64 n 1=n / 2:=wW 1 (by rfl) ak
theorem ajD:(yc.kN 0 oA):=by
 refine(yc.mh 0 oA) (λ(a,n,o)=>n.toNat) ?_
 rintro⟨a,n,o⟩ ⟨ha,hn,ho⟩;have ha:nU a:=ha;have hn:nU n:=hn;have ho:Pn o:=ho;have n0:=hn.1;have n1:=hn.2;by_cases h:0 < n
 ·left;have e:Cz (a,n,o)=Cz (pJ a a,n / 2,if n%2=1 then pJ o a else o):=by
   show akZ 64 a n.toNat o=akZ 64 (pJ a a) (n / 2).toNat _;rw[abp 64 65 a n.toNat o ak ak];have t1:(n / 2).toNat=n.toNat / 2:=ak;have t2:(n%2=1)=(n.toNat%2=1):=by apply propext;omega
   rw[t1];simp only[t2];show(if n.toNat=0 then o else _)=_;rw[if_neg ak]
  refine⟨(pJ a a,n / 2,if n%2=1 then pJ o a else o),⟨(wD a a).u,⟨ak,ak⟩,?_⟩,by show(n / 2).toNat < n.toNat;omega,?_,λkn kx=> ?_⟩
  ·show Pn (if n%2=1 then pJ o a else o);split
   ·exact wD _ _
   ·exact ho
  ·exact bo _ e.symm
  ·rw[IL,cR h,aUH hn,aTa n0 n1,Oo (d:=(o,a)) ⟨ho.u,ha⟩,Oo (d:=(a,a)) ⟨ha,ha⟩];by_cases h1:n%2=1
   ·rw[du h1,if_pos h1];rfl
   ·rw[eH h1,if_neg h1];rfl
 ·right;intro R kn kx;obtain rfl:n=0:=ak;rw[IL,cn ak];simp only[ao,bt,Cz];rw[show akZ 64 a (ae 0) o=o from Br _ _ _]
theorem azL:yc.Ok:=by rintro⟨a,n⟩ ⟨ha,hn⟩;rw[azK,aeh (d:=(a,n,1)) ⟨ha,hn,ak,ak⟩];rfl
theorem Om:yc.RS:=rE [.d tu,.d tu] yc
def TH:=yc.eS azL 1 ⟨.fp ajD,trivial⟩
def vn(p:Int):Bool:=decide (0 < p/\p < 4611686018427377339) && decide (pw p 2305843009213688669=1)
def tk(p:Int):Int:=if vn p then p else 1
theorem aIl(p:Int):Pn (tk p):=by
 unfold tk;split
 ·rename_i h;simp only[vn,au,aW]at h;exact⟨ak,ak⟩
 ·exact⟨ak,ak⟩
def Gp(p k:Int):Int:=pw (tk p) (k%2305843009213688669).toNat
def gg(k:Int):Int:=Gp 4 k
def anP(p:Int):Int:=pw (tk p) 2305843009213688668
def Xx(l:List Int):Int:=l.foldl (λo p=>pJ o (tk p)) 1
theorem aML(l:List Int)(o:Int)(h:Pn o):Pn (l.foldl (λo p=>pJ o (tk p)) o):=by
 induction l generalizing o with
 |nil=>exact h
 |cons p l ih=>exact ih _ (wD _ _)
theorem aMM(l:List Int):Pn (Xx l):=aML l 1 ⟨ak,ak⟩
def asQ:Int->Prop:=λp=>nU p
def Q3:Int->Bool:=λp=>vn p
def vQ:Fs Tryz.prog asQ bt Q3:=eN 142 Tryz.f142 (λp=>([.d tu p],[])) (λx=>⟨.d .bool x,[],[]⟩) [some tu] [TH]
theorem azM{R:Type}(p)(k:K1 R):vQ.A p k=aH ((rz p 0)) (aH ((gq p 4611686018427377339)) (al (yc.call (p,2305843009213688669)) λx1=>k (vQ.out (qY x1 1))) (k (vQ.out false))) (k (vQ.out false)):=bY
theorem azN:vQ.Ok:=by
 intro p hp;have hp:nU p:=hp;rw[azM,Om (d:=(p,2305843009213688669)) ⟨hp,by constructor <;> decide⟩];simp only[ah,bt,aoe,bt,Q3,vn];by_cases h:0 < p
 ·rw[cR h,aj];by_cases h2:p < 4611686018427377339
  ·rw[aU h2,aj,aM ⟨h,h2⟩,bu];rfl
  ·rw[aR h2,ao,aS (λx=>h2 x.2),cM]
 ·rw[cn h,ao,aS (λx=>h x.1),cM]
theorem Bp:vQ.RS:=rE [.d tu] vQ
def TI:=vQ.eS azN
def asS:Int->Prop:=λp=>nU p
def IN:Int->Int:=λp=>tk p
def Dl:Fs Tryz.prog asS bt IN:=eN 131 Tryz.f131 (λp=>([.d tu p],[])) (λx=>⟨.d tu x,[],[]⟩) [some tu] [TI]
theorem azQ{R:Type}(p)(k:K1 R):Dl.A p k=al (vQ.call p) λx1=>aH (x1) (k (Dl.out p)) (k (Dl.out 1)):=bY
theorem azR:Dl.Ok:=by intro p hp;rw[azQ,Bp (d:=p) hp];simp only[ah,bt,Q3,bt,IN,tk];cases vn p <;> rfl
theorem On:Dl.RS:=rE [.d tu] Dl
def TJ:=Dl.eS azR
def asR:(Int×Int)->Prop:=λ(p,k)=>nU p/\nU k
def aof:(Int×Int)->Int:=λ(p,k)=>Gp p k
def IM:Fs Tryz.prog asR bt aof:=eN 84 Tryz.f84 (λ(p,kv)=>([.d tu p,.d tu kv],[])) (λx=>⟨.d tu x,[],[]⟩) [some tu,some tu] [TJ,TH]
theorem azO{R:Type}(p kv)(k:K1 R):IM.A (p,kv) k=al (Dl.call p) λx1=>al (yc.call (x1,(mR kv 2305843009213688669))) λx2=>k (IM.out x2):=bY
theorem azP:IM.Ok:=by rintro⟨p,k⟩ ⟨hp,hk⟩;have hk:nU k:=hk;have e:=wx (y:=2305843009213688669) hk.1;have b:nU (k%2305843009213688669):=⟨ak,ak⟩;rw[azO,On (d:=p) hp,e];simp only[ah,bt,IN];rw[Om (d:=(tk p,k%2305843009213688669)) ⟨(aIl p).u,b⟩];rfl
theorem abm:IM.RS:=rE [.d tu,.d tu] IM
def agw:=IM.eS azP
def azB:Int->Prop:=λk=>nU k
def X1:Int->Int:=λk=>gg k
def G5:Fs Tryz.prog azB bt X1:=eN 38 Tryz.f38 (λkv=>([.d tu kv],[])) (λx=>⟨.d tu x,[],[]⟩) [some tu] [agw]
theorem aGF{R:Type}(kv)(k:K1 R):G5.A kv k=al (IM.call (4,kv)) λx1=>k (G5.out x1):=bY
theorem aGG:G5.Ok:=by intro k hk;rw[aGF,abm (d:=(4,k)) ⟨⟨ak,ak⟩,hk⟩];rfl
theorem Eu:G5.RS:=rE [.d tu] G5
def QY:=G5.eS aGG
def aGM:Int->Prop:=λp=>nU p
def aGL:Int->Int:=λp=>anP p
def asN:Fs Tryz.prog aGM bt aGL:=eN 253 Tryz.f253 (λp=>([.d tu p],[])) (λx=>⟨.d tu x,[],[]⟩) [some tu] [TJ,TH]
theorem aL8{R:Type}(p)(k:K1 R):asN.A p k=al (Dl.call p) λx1=>al (yc.call (x1,2305843009213688668)) λx2=>k (asN.out x2):=bY
theorem aL9:asN.Ok:=by intro p hp;rw[aL8,On (d:=p) hp];simp only[ah,bt,IN];rw[Om (d:=(tk p,2305843009213688668)) ⟨(aIl p).u,by constructor <;> decide⟩];rfl
theorem aGN:asN.RS:=rE [.d tu] asN
def aMa:=asN.eS aL9
abbrev ags:=Int×Bs×Int×Int
def an6:ags->Prop:=λ(o,l,n,i)=>Pn o/\(∀x∈l,nU x)/\l.length<=1000000000/\n=l.length/\∃k:Nat,k<=l.length/\i=k
def TF:ags->Int:=λ(o,l,n,i)=>(l.drop i.toNat).foldl (λo p=>pJ o (tk p)) o
def abh:Bs->Prop:=λl=>(∀x∈l,nU x)/\l.length<=1000000000
def aPz:Bs->Int:=λl=>Xx l
def zP:Ls an6 bt TF:=rW (λ(outv,t6,t7,t8)=>⟨([bE,bE,bE,.d tu outv,bE,bE,.d tU t6,.d ti t7,.d ti t8]++aP 9 []),[],(ab 18 [])⟩) (λx=>(.exit 0,⟨([bE,bE,bE,.d tu x]++aP 14 []),[],(ab 18 [])⟩))
def abg:Fs Tryz.prog abh bt aPz:=eN 214 Tryz.f214 (λl=>([.d tU l],[])) (λx=>⟨.d tu x,[],[]⟩) [some tU] [TJ,agx] {loops:=nX [(3,{aV:=[3,6,7,8]})],outs:=nV [(3,{aV:=[3]},{aV:=[2]})],fC:=na [(3,zP.E)]}
theorem an7:zP.RS:=rL [.d tu,.d tU,.d ti,.d ti] zP
theorem QX{R:Type}(outv t6 t7 t8)(kn:K2 R)(kx:K3 R):abg.R 0 zP (outv,t6,t7,t8) kn kx=aH ((gq t8 t7)) (aH (eo t8 (t6.length:Int)) (al (Dl.call (nth tu t6 (ae t8))) λx1=>al (Dm.call (outv,x1)) λx2=>kn (zP.st (x2,t6,t7,(bI .i64 t8 1)))) none) (zP.go kx outv):=bY
theorem aL4{R:Type}(l)(k:K1 R):abg.A l k=al (zP.call (1,l,(l.length:Int),0)) λx3=>k (abg.out x3):=bY
theorem asD:(abg.kN 0 zP):=by
 refine(abg.mh 0 zP) (λ(o,l,n,i)=>l.length - i.toNat) ?_
 rintro⟨o,l,n,i⟩ ⟨ho,hl,hb,rfl,k,hk,rfl⟩;have ho:Pn o:=ho;have hb:l.length<=1000000000:=hb;have hk:k<=l.length:=hk;by_cases h:k < l.length
 ·left;have hx:=hl _ (aO h);have n1:nth (.int .u64) l k=l[k]:=cg (t:= .int .u64) h;refine⟨(pJ o (tk l[k]),l,l.length,((k+1:Nat):Int)),⟨wD _ _,hl,hb,rfl,k+1,ak,rfl⟩,by simp only[aa];omega,?_,λkn kx=> ?_⟩
  ·simp only[bt,TF,aa];rw[aq h];rfl
  ·rw[QX];simp(disch:=omega) only[↓S1,↓if_pos,↓if_neg,if_pos,if_neg,bG,bq,S2,n1];rw[On (d:=l[k]) hx];simp only[ah,bt,IN];rw[Oo (d:=(o,tk l[k])) ⟨ho.u,(aIl _).u⟩];rfl
 ·right;obtain rfl:k=l.length:=ak;intro R kn kx;rw[QX];simp(disch:=omega) only[↓S1,↓if_pos,↓if_neg,if_pos,if_neg,bG,bq,S2,bt,TF,aK];rfl
theorem aL5:abg.Ok:=by rintro l ⟨hl,hb⟩;rw[aL4,an7 (d:=(1,l,l.length,0)) ⟨⟨ak,ak⟩,hl,hb,rfl,0,ak,rfl⟩];rfl
theorem an8:abg.RS:=rE [.d tU] abg
def av2:=abg.eS aL5 1 ⟨.fp asD,trivial⟩
def aGD:(Int×Int)->Prop:=λ(p,q)=>nU p/\nU q
def aGC:(Int×Int)->Int:=λ(p,q)=>Xx [p,q]
def asC:Fs Tryz.prog aGD bt aGC:=eN 181 Tryz.f181 (λ(p,q)=>([.d tu p,.d tu q],[])) (λx=>⟨.d tu x,[],[]⟩) [some tu,some tu] [av2]
theorem aL1{R:Type}(p q)(k:K1 R):asC.A (p,q) k=al (abg.call [p,q]) λx1=>k (asC.out x1):=bY
theorem aL2:asC.Ok:=by rintro⟨p,q⟩ ⟨hp,hq⟩;have h:abh [p,q]:=⟨by intro x hx;simp only[cd,List.not_mem_nil,or_false]at hx;rcases hx with rfl | rfl <;> assumption,by simp only[aA,aZ];omega⟩;rw[aL1,an8 h];rfl
theorem aGE:asC.RS:=rE [.d tu,.d tu] asC
def aL3:=asC.eS aL2
def Qn(x:Int):Prop:=0<=x/\x < 2305843009213688669
theorem Qn.u{x:Int}(h:Qn x):nU x:=⟨h.1,by have:=h.2;omega⟩
def aGn(a:Int):Int:=a%2305843009213688669
theorem ajq(a:Int):Qn (aGn a):=⟨kQ _ ak,kg _ ak⟩
def aqi(a b:Int):Int:=(aGn a+aGn b)%2305843009213688669
def ajl(a b:Int):Int:=aGn a*aGn b%2305843009213688669
def Qd(h:List Int):Int:=h.foldl (λn b=>(n*256+b)%2305843009213688668) 0+1
def aB8.b(n:Int):Prop:=0<=n/\n < 2305843009213688668
theorem amS(h:List Int)(n:Int)(hn:aB8.b n):aB8.b (h.foldl (λn b=>(n*256+b)%2305843009213688668) n):=by
 induction h generalizing n with
 |nil=>exact hn
 |cons p l ih=>exact ih _ ⟨kQ _ ak,kg _ ak⟩
theorem ZL(h:List Int):0 < Qd h/\Qd h < 2305843009213688669:=by have:=amS h 0 ⟨ak,ak⟩;have h1:=this.1;have h2:=this.2;unfold Qd;omega
theorem auL(a b:Int):Qn (aqi a b):=⟨kQ _ ak,kg _ ak⟩
theorem aLJ(a b:Int):Qn (ajl a b):=⟨kQ _ ak,kg _ ak⟩
def arB:Int->Prop:=λ_=>True
def Qc:Int->Bool:=λa=>gq a 2305843009213688669
def FO:Fs Tryz.prog arB bt Qc:=eN 86 Tryz.f86 (λa=>([.d tu a],[])) (λx=>⟨.d .bool x,[],[]⟩) [some tu]
theorem ayl{R:Type}(a)(k:K1 R):FO.A a k=k (FO.out (gq a 2305843009213688669)):=bY
theorem aym:FO.Ok:=by intro a _;rw[ayl];rfl
theorem NM:FO.RS:=rE [.d tu] FO
def S8:=FO.eS aym
def aKP:Int->Prop:=λa=>nU a
def aEK:Int->Int:=λa=>aGn a
def aJn:Fs Tryz.prog aKP bt aEK:=eN 215 Tryz.f215 (λa=>([.d tu a],[])) (λx=>⟨.d tu x,[],[]⟩) [some tu]
theorem aOD{R:Type}(a)(k:K1 R):aJn.A a k=k (aJn.out (mR a 2305843009213688669)):=bY
theorem aOE:aJn.Ok:=by intro a ha;rw[aOD,wx ha.1];rfl
theorem XH:aJn.RS:=rE [.d tu] aJn
def aEL:=aJn.eS aOE
def ayj:(Int×Int)->Prop:=λ(a,b)=>Qn a/\Qn b
def aKQ:(Int×Int)->Int:=λ(a,b)=>(a+b)%2305843009213688669
def ZK:Fs Tryz.prog ayj bt aKQ:=eN 216 Tryz.f216 (λ(a,b)=>([.d tu a,.d tu b],[])) (λx=>⟨.d tu x,[],[]⟩) [some tu,some tu]
theorem aEM{R:Type}(a b)(k:K1 R):ZK.A (a,b) k=k (ZK.out (mR (bI .u64 a b) 2305843009213688669)):=bY
theorem aEN:ZK.Ok:=by
 rintro⟨a,b⟩ ⟨ha,hb⟩;have ha:Qn a:=ha;have hb:Qn b:=hb;obtain⟨h1,h2⟩:=ha;obtain⟨h3,h4⟩:=hb;have e:bI .u64 a b=a+b:=by rw[uH];omega
 rw[aEM,e,wx ak];rfl
theorem ayk:ZK.RS:=rE [.d tu,.d tu] ZK
def aEO:=ZK.eS aEN
def arC:(Int×Int)->Prop:=λ(a,b)=>Qn a/\Qn b
def aEP:(Int×Int)->Int:=λ(a,b)=>a*b%2305843009213688669
def NN:Fs Tryz.prog arC bt aEP:=eN 217 Tryz.f217 (λ(a,b)=>([.d tu a,.d tu b],[])) (λx=>⟨.d tu x,[],[]⟩) [some tu,some tu] [anL,abW]
theorem ayn{R:Type}(a b)(k:K1 R):NN.A (a,b) k=al (QO.call (a,b)) λx1=>al (Ra.call (x1.1,x1.2,2305843009213688669)) λx2=>k (NN.out x2):=bY
theorem ayo:NN.Ok:=by rintro⟨a,b⟩ ⟨ha,hb⟩;have ha:Qn a:=ha;have hb:Qn b:=hb;obtain⟨m1,m2⟩:=TE ha.1 (show a<=18446744073709551615 by have:=ha.2;omega) hb.1 (show b<=18446744073709551615 by have:=hb.2;omega);have n:(18446744073709551615:Int)*18446744073709551615=340282366920938463426481119284349108225:=rfl;rw[n]at m2;have p:TP (a*b / 18446744073709551616,a*b%18446744073709551616,2305843009213688669):=⟨ff (lV rfl),ak,ak,ak,ak⟩;rw[ayn,agc (d:=(a,b)) ⟨ha.u,hb.u⟩];simp only[ah,bt,XY];rw[TQ p];simp only[ah,bt,Rb,adf];rfl
theorem arD:NN.RS:=rE [.d tu,.d tu] NN
def ayp:=NN.eS ayo
def aEv:(Int×Int)->Prop:=λ(a,b)=>nU a/\nU b
def aOC:(Int×Int)->Int:=λ(a,b)=>aqi a b
def arw:Fs Tryz.prog aEv bt aOC:=eN 182 Tryz.f182 (λ(a,b)=>([.d tu a,.d tu b],[])) (λx=>⟨.d tu x,[],[]⟩) [some tu,some tu] [aEL,aEO]
theorem aKI{R:Type}(a b)(k:K1 R):arw.A (a,b) k=al (aJn.call a) λx1=>al (aJn.call b) λx2=>al (ZK.call (x1,x2)) λx3=>k (arw.out x3):=bY
theorem aKJ:arw.Ok:=by rintro⟨a,b⟩ ⟨ha,hb⟩;rw[aKI,XH (d:=a) ha,XH (d:=b) hb];simp only[ah,bt,aEK];rw[ayk (d:=(aGn a,aGn b)) ⟨ajq a,ajq b⟩];rfl
theorem aEw:arw.RS:=rE [.d tu,.d tu] arw
def aKK:=arw.eS aKJ
def aEI:(Int×Int)->Prop:=λ(a,b)=>nU a/\nU b
def aEH:(Int×Int)->Int:=λ(a,b)=>ajl a b
def arA:Fs Tryz.prog aEI bt aEH:=eN 183 Tryz.f183 (λ(a,b)=>([.d tu a,.d tu b],[])) (λx=>⟨.d tu x,[],[]⟩) [some tu,some tu] [aEL,ayp]
theorem aKM{R:Type}(a b)(k:K1 R):arA.A (a,b) k=al (aJn.call a) λx1=>al (aJn.call b) λx2=>al (NN.call (x1,x2)) λx3=>k (arA.out x3):=bY
theorem aKN:arA.Ok:=by rintro⟨a,b⟩ ⟨ha,hb⟩;rw[aKM,XH (d:=a) ha,XH (d:=b) hb];simp only[ah,bt,aEK];rw[arD (d:=(aGn a,aGn b)) ⟨ajq a,ajq b⟩];rfl
theorem aEJ:arA.RS:=rE [.d tu,.d tu] arA
def aKO:=arA.eS aKN
def aiz:(Int×Bs×Int)->Prop:=λ(n,h,i)=>aB8.b n/\h.length=32/\Bytes h/\∃k:Nat,k<=32/\i=k
def FM:(Int×Bs×Int)->Int:=λ(n,h,i)=>(h.drop i.toNat).foldl (λn b=>(n*256+b)%2305843009213688668) n
def ayc:Bs->Prop:=λh=>h.length=32/\Bytes h
def aiy:Bs->Int:=λh=>Qd h
def uD:Ls aiz bt FM:=rW (λ(n,t6,t7)=>⟨([bE,bE,bE,.d tu n,bE,bE,.d tH t6,.d ti t7]++aP 13 []),[],(ab 21 [])⟩) (λx=>(.exit 0,⟨([bE,bE,bE,.d tu x]++aP 17 []),[],(ab 21 [])⟩))
def H9:Fs Tryz.prog ayc bt aiy:=eN 135 Tryz.f135 (λh=>([.d tH h],[])) (λx=>⟨.d tu x,[],[]⟩) [some tH] [abW] {loops:=nX [(3,{aV:=[3,6,7]})],outs:=nV [(3,{aV:=[3]},{aV:=[2]})],fC:=na [(3,uD.E)]}
theorem aiA:uD.RS:=rL [.d tu,.d tB,.d ti] uD
theorem LS{R:Type}(n t6 t7)(kn:K2 R)(kx:K3 R):H9.R 0 uD (n,t6,t7) kn kx=aH ((gq t7 32)) (aH (eo t7 32) (al (Ra.call ((cv .u64 n 56),(cG .or .u64 (mD .u64 n 8) (dX .u64 (nth tb t6 (ae t7)))),2305843009213688668)) λx1=>kn (uD.st (x1,t6,(bI .i64 t7 1)))) none) (uD.go kx n):=bY
theorem aEC{R:Type}(h)(k:K1 R):H9.A h k=al (uD.call (0,h,0)) λx2=>k (H9.out (bI .u64 x2 1)):=bY
theorem Vi{n b:Int}(hn:aB8.b n)(hb:ahk b):cv .u64 n 56*18446744073709551616+cG .or .u64 (mD .u64 n 8) (dX .u64 b)=n*256+b/\nU (cv .u64 n 56)/\nU (cG .or .u64 (mD .u64 n 8) (dX .u64 b)):=by
 obtain⟨h1,h2⟩:=hn;obtain⟨h3,h4⟩:=hb;have p56:(2:Int)^56=72057594037927936:=rfl;have p8:(2:Int)^8=256:=rfl;have e:dX .u64 b=b:=by rw[aFg];omega
 rw[wW 56 (by rfl) ak,wV 8 (by rfl) ak,p56,p8,e,QT 8 256 rfl ak ak ak ak ak ak];exact⟨ak,⟨ak,ak⟩,ak,ak⟩
theorem amK:(H9.kN 0 uD):=by
 refine(H9.mh 0 uD) (λ(n,h,i)=>32 - i.toNat) ?_
 rintro⟨n,h,i⟩ ⟨hn,hl,hb,k,hk,rfl⟩;have hn:aB8.b n:=hn;have hl:h.length=32:=hl;have hb:Bytes h:=hb;by_cases gJ:k < 32
 ·left;have hx:ahk (h[k]'(ak)):=hb _ (aO _);have n1:nth (.int .u8) h k=h[k]'(ak):=cg (t:= .int .u8) ak;obtain⟨d1,d2,d3⟩:=Vi hn hx;refine⟨((n*256+h[k]'(ak))%2305843009213688668,h,((k+1:Nat):Int)),⟨⟨ak,ak⟩,hl,hb,k+1,ak,rfl⟩,by simp only[aa];omega,?_,λkn kx=> ?_⟩
  ·simp only[bt,FM,aa];rw[aq (by omega:k < h.length)];rfl
  ·rw[LS];simp(disch:=omega) only[↓S1,↓if_pos,↓if_neg,if_pos,if_neg,bG,bq,S2,n1];rw[TQ (d:=(_,_,2305843009213688668)) ⟨ff (ff rfl),d2.1,d2.2,d3.1,d3.2⟩];simp only[ah,bt,Rb,d1]
 ·right;obtain rfl:k=32:=ak;intro R kn kx;rw[LS];simp(disch:=omega) only[↓S1,↓if_pos,↓if_neg,if_pos,if_neg,bG,bq,S2,bt,FM];rw[dZ ak];rfl
theorem aED:H9.Ok:=by
 rintro h ⟨hl,hb⟩;have e:=amS h 0 ⟨ak,ak⟩;have h1:=e.1;have h2:=e.2;rw[aEC,aiA (d:=(0,h,0)) ⟨⟨ak,ak⟩,hl,hb,0,ak,rfl⟩];simp only[ah,bt,FM,bt,aiy,Qd,aX,aD]
 revert h1 h2
 generalize h.foldl (λn b=>(n*256+b)%2305843009213688668) 0=m;intro h1 h2;have e:bI .u64 m 1=m+1:=by rw[uH];omega
 rw[e]
theorem afN:H9.RS:=rE [.d tB] H9
def amL:=H9.eS aED 1 ⟨.fp amK,trivial⟩
theorem alp(n:Int): [dX .u8 (cv .u64 n 56),dX .u8 (cv .u64 n 48),dX .u8 (cv .u64 n 40),dX .u8 (cv .u64 n 32),dX .u8 (cv .u64 n 24),dX .u8 (cv .u64 n 16),dX .u8 (cv .u64 n 8),dX .u8 (cv .u64 n 0)]=jo n:=aqv n
theorem eV{α:Type}{l:List α}{n:Nat}(h:l.length=n):cut l 0 n=l:=by subst h;simp[cut]
theorem aIj{n:ByteArray}{a b c:List Int}(hn:n.size<=100)(ha:a.length<=1000000)(hb:b.length<=1000000)(hc:c.length<=1000000):Qq (n,[a,b,c]):=by show(Um _ [a,b,c]).length<=_;rw[Um];simp only[oR,dx,qh,ai,cj,lp,aZ];omega
theorem aIi{n:ByteArray}{a b:List Int}(hn:n.size<=100)(ha:a.length<=1000000)(hb:b.length<=1000000):Qq (n,[a,b]):=by show(Um _ [a,b]).length<=_;rw[Um];simp only[oR,dx,qh,ai,cj,lp,aZ];omega
theorem RL{n:ByteArray}{a:List Int}(hn:n.size<=100)(ha:a.length<=1000000):Qq (n,[a]):=by show(Um _ [a]).length<=_;rw[Um];simp only[oR,dx,qh,ai,cj,lp,aZ];omega
def Sm(m:List Int):Prop:=m.length=32/\Bytes m
theorem aPO(b:List Int):Sm (aPJ b):=⟨atM b,axr b⟩
theorem akc(n:List Int)(ps:List (List Int)):Sm (tag n ps):=aPO _
def aIh(n:ByteArray)(ps:List (List Int)):List Int:=tag (bH n) ps
def aRY:ByteArray:=⟨#[115,105,103]⟩
def asq:ByteArray:=⟨#[110,111,110,99,101]⟩
def GV(r p:Int)(m:List Int):Int:=Qd (aIh aRY [jo r,jo p,m])
theorem YU(r p:Int)(m:List Int):Qn (GV r p m):=by have:=ZL (aIh aRY [jo r,jo p,m]);exact⟨by unfold GV;omega,by unfold GV;omega⟩
def aNT(s:Sg):Prop:=nU s.1/\nU s.2.1
def AJ(p:Int)(m:List Int)(t:Int)(s:Sg):Bool:=if p=1\/vn p=false\/vn t=false\/vn s.1=false\/¬s.2.1 < 2305843009213688669 then false else decide (gg s.2.1=Xx [s.1,Gp p (GV s.1 p m),anP t])
def aht(k nonce:Int)(m:List Int)(t:Int):Sg:=(Xx [gg nonce,t],aqi nonce (ajl (GV (Xx [gg nonce,t]) (gg k) m) k),())
def aGk(k:Int)(m:List Int):Int:=Qd (aIh asq [jo k,m])
def mI(k:Int)(m:List Int):Sg:=if k < 2305843009213688669/\k≠0 then aht k (aGk k m) m 1 else(0,0,())
def arq:Int->Prop:=λ_=>True
def Zz:Int->Bs:=λn=>jo n
def FI:Fs Tryz.prog arq bt Zz:=eN 136 Tryz.f136 (λn=>([.d tu n],[])) (λx=>⟨.d tB x,[],[]⟩) [some tu] [] {loops:=nX [(3,{aV:=[0,3,7,8],sites:=[5]})],outs:=nV [(3,{aV:=[3],sites:=[5]},{aV:=[2],sites:=[5]})],res:=[some tB]} 12
theorem ax6{R:Type}(n)(k:K1 R):FI.A n k=k (FI.out [(dX .u8 (cv .u64 n 56)),(dX .u8 (cv .u64 n 48)),(dX .u8 (cv .u64 n 40)),(dX .u8 (cv .u64 n 32)),(dX .u8 (cv .u64 n 24)),(dX .u8 (cv .u64 n 16)),(dX .u8 (cv .u64 n 8)),(dX .u8 (cv .u64 n 0))]):=bY
theorem ax7:FI.Ok:=by intro n _;rw[ax6,alp];rfl
theorem NA:FI.RS:=rE [.d tu] FI
def afK:=FI.eS ax7 1 ⟨.none bY,trivial⟩
def axz:(Int×Int×Bs)->Prop:=λ(r,p,m)=>Sm m
def ahN:(Int×Int×Bs)->Int:=λ(r,p,m)=>GV r p m
def UX:Fs Tryz.prog axz bt ahN:=eN 184 Tryz.f184 (λ(r,p,m)=>([.d tu r,.d tu p,.d tH m],[])) (λx=>⟨.d tu x,[],[]⟩) [some tu,some tu,some tH] [afK,XO,amL]
theorem aDh{R:Type}(r p m)(k:K1 R):UX.A (r,p,m) k=al (FI.call r) λx1=>al (FI.call p) λx2=>al (Te.call ((⟨#[115,105,103]⟩:ByteArray),[x1,x2,(cut m 0 32)])) λx3=>al (H9.call x3) λx4=>k (UX.out x4):=bY
theorem aDi:UX.Ok:=by rintro⟨r,p,m⟩ hm;have hm:Sm m:=hm;rw[aDh,NA (d:=r) trivial,NA (d:=p) trivial];simp only[ah,bt,Zz];rw[eV hm.1,Qr (aIj (by decide) (by rw[cj];omega) (by rw[cj];omega) (by rw[hm.1];omega))];simp only[ah,bt,aiT];rw[afN (d:=tag (bH (⟨#[115,105,103]⟩:ByteArray)) [jo r,jo p,m]) (akc _ _)];rfl
theorem afp:UX.RS:=rE [.d tu,.d tu,.d tB] UX
def alS:=UX.eS aDi
abbrev agR:=Int×Bs×Int×Sg
def ao5:agR->Prop:=λ(p,m,t,s)=>nU p/\Sm m/\nU t/\aNT s
def agS:agR->Bool:=λ(p,m,t,s)=>AJ p m t s
def sG:Fs Tryz.prog ao5 bt agS:=eN 250 Tryz.f250 (λ(p,m,t,pre)=>([.d tu p,.d tH m,.d tu t,.d Av pre],[])) (λx=>⟨.d .bool x,[],[]⟩) [some tu,some tH,some tu,some Av] [TI,S8,alS,agw,aMa,av2,QY]
theorem atH{R:Type}(p m t pre)(k:K1 R):sG.A (p,m,t,pre) k=aH ((qY p 1)) (k (sG.out false)) (al (vQ.call p) λx1=>aH ((!x1)) (k (sG.out false)) (al (vQ.call t) λx2=>aH ((!x2)) (k (sG.out false)) (al (vQ.call pre.1) λx3=>aH ((!x3)) (k (sG.out false)) (al (FO.call pre.2.1) λx4=>aH ((!x4)) (k (sG.out false)) (al (UX.call (pre.1,p,m)) λx5=>al (IM.call (p,x5)) λx6=>al (asN.call t) λx7=>al (abg.call [pre.1,x6,x7]) λx8=>al (G5.call pre.2.1) λx9=>k (sG.out (qY x9 x8))))))):=bY
theorem atI:sG.Ok:=by
 rintro⟨p,m,t,s⟩ ⟨hp,hm,ht,hs⟩;have hp:nU p:=hp;have ht:nU t:=ht;have hm:Sm m:=hm;have hs:aNT s:=hs;rw[atH,Bp (d:=p) hp,Bp (d:=t) ht,Bp (d:=s.1) hs.1,NM (d:=s.2.1) trivial];simp only[ah,bt,Q3,bt,Qc,bt,agS,AJ];by_cases h1:p=1
 ·rw[du h1,aj,if_pos (lV h1)]
 rw[eH h1,ao];cases h2:vn p
 ·rw[if_pos (ff (lV rfl))];rfl
 cases h3:vn t
 ·rw[if_pos (ff (ff (lV rfl)))];rfl
 cases h4:vn s.1
 ·rw[if_pos (ff (ff (ff (lV rfl))))];rfl
 by_cases h5:s.2.1 < 2305843009213688669
 ·rw[aU h5,if_neg (by simp[h1,h5])];have hq:=YU s.1 p m;rw[afp (d:=(s.1,p,m)) hm];simp only[cz,ao,ah,bt,ahN];rw[abm (d:=(p,GV s.1 p m)) ⟨hp,hq.u⟩,aGN (d:=t) ht];simp only[ah,bt,aof,bt,aGL];have q:abh [s.1,Gp p (GV s.1 p m),anP t]:=⟨by
   intro x hx;simp only[cd,List.not_mem_nil,or_false]at hx;rcases hx with rfl | rfl | rfl
   ·exact hs.1
   ·exact(aoi _ _).u
   ·exact(aoi _ _).u,by simp only[aA,aZ];omega⟩
  rw[an8 q,Eu (d:=s.2.1) hs.2];rfl
 ·rw[aR h5,if_pos (ff (ff (ff (ff h5))))];rfl
theorem ao6:sG.RS:=rE [.d tu,.d tB,.d tu,.d Av] sG
def atJ:=sG.eS atI
def apu:(Int×Bs×Sg)->Prop:=λ(p,m,s)=>nU p/\Sm m/\aNT s
def ag1:(Int×Bs×Sg)->Bool:=λ(p,m,s)=>AJ p m 1 s
def Gv:Fs Tryz.prog apu bt ag1:=eN 244 Tryz.f244 (λ(p,m,sv)=>([.d tu p,.d tH m,.d Av sv],[])) (λx=>⟨.d .bool x,[],[]⟩) [some tu,some tH,some Av] [atJ]
theorem at5{R:Type}(p m sv)(k:K1 R):Gv.A (p,m,sv) k=al (sG.call (p,m,1,sv)) λx1=>k (Gv.out x1):=bY
theorem at6:Gv.Ok:=by rintro⟨p,m,s⟩ ⟨hp,hm,hs⟩;rw[at5,ao6 (d:=(p,m,1,s)) ⟨hp,hm,⟨ak,ak⟩,hs⟩];rfl
theorem apv:Gv.RS:=rE [.d tu,.d tB,.d Av] Gv
def at7:=Gv.eS at6
def aHX:Int->Prop:=λ_=>True
def atP:Int->Bool:=λk=>decide (k < 2305843009213688669/\k≠0)
def aph:Fs Tryz.prog aHX bt atP:=eN 133 Tryz.f133 (λkv=>([.d tu kv],[])) (λx=>⟨.d .bool x,[],[]⟩) [some tu] [S8]
theorem aMC{R:Type}(kv)(k:K1 R):aph.A kv k=al (FO.call kv) λx1=>aH (x1) (k (aph.out (BY kv 0))) (k (aph.out false)):=bY
theorem aMD:aph.Ok:=by
 intro k _;rw[aMC,NM (d:=k) trivial];simp only[ah,bt,Qc,bt,atP];by_cases h:k < 2305843009213688669
 ·rw[aU h,aj];by_cases h0:k=0
  ·rw[dB h0,aS (λx=>x.2 h0)]
  ·rw[fj h0,aM ⟨h,h0⟩]
 ·rw[aR h,ao,aS (λx=>h x.1)]
theorem aHY:aph.RS:=rE [.d tu] aph
def aME:=aph.eS aMD
abbrev agQ:=Int×Int×Bs×Int
def ao3:agQ->Prop:=λ(k,n,m,t)=>nU k/\nU n/\Sm m/\nU t
def aAL:agQ->Sg:=λ(k,n,m,t)=>aht k n m t
def Gn:Fs Tryz.prog ao3 bt aAL:=eN 134 Tryz.f134 (λ(kv,nonce,m,t)=>([.d tu kv,.d tu nonce,.d tH m,.d tu t],[])) (λx=>⟨.d Av x,[],[]⟩) [some tu,some tu,some tH,some tu] [QY,aL3,alS,aKO,aKK]
theorem atD{R:Type}(kv nonce m t)(k:K1 R):Gn.A (kv,nonce,m,t) k=al (G5.call nonce) λx1=>al (asC.call (x1,t)) λx2=>al (G5.call kv) λx3=>al (UX.call (x2,x3,m)) λx4=>al (arA.call (x4,kv)) λx5=>al (arw.call (nonce,x5)) λx6=>k (Gn.out (x2,(x6,()))):=bY
theorem atE:Gn.Ok:=by rintro⟨k,n,m,t⟩ ⟨hk,hn,hm,ht⟩;have hk:nU k:=hk;have hn:nU n:=hn;have hm:Sm m:=hm;have ht:nU t:=ht;rw[atD,Eu (d:=n) hn];simp only[ah,bt,X1];rw[aGE (d:=(gg n,t)) ⟨(aoi _ _).u,ht⟩,Eu (d:=k) hk];simp only[ah,bt,X1,bt,aGC];rw[afp (d:=(Xx [gg n,t],gg k,m)) hm];simp only[ah,bt,ahN];rw[aEJ (d:=(GV (Xx [gg n,t]) (gg k) m,k)) ⟨(YU _ _ _).u,hk⟩];simp only[ah,bt,aEH];rw[aEw (d:=(n,ajl (GV (Xx [gg n,t]) (gg k) m) k)) ⟨hn,(aLJ _ _).u⟩];rfl
theorem ao4:Gn.RS:=rE [.d tu,.d tu,.d tB,.d tu] Gn
def atG:=Gn.eS atE
def aAX:(Int×Bs)->Prop:=λ(k,m)=>nU k/\Sm m
def aki:(Int×Bs)->Sg:=λ(k,m)=>mI k m
def Wv:Fs Tryz.prog aAX bt aki:=eN 89 Tryz.f89 (λ(kv,m)=>([.d tu kv,.d tH m],[])) (λx=>⟨.d Av x,[],[]⟩) [some tu,some tH] [aME,afK,XO,amL,atG]
theorem aH9{R:Type}(kv m)(k:K1 R):Wv.A (kv,m) k=al (aph.call kv) λx1=>aH ((!x1)) (k (Wv.out (0,(0,())))) (al (FI.call kv) λx2=>al (Te.call ((⟨#[110,111,110,99,101]⟩:ByteArray),[x2,(cut m 0 32)])) λx3=>al (H9.call x3) λx4=>al (Gn.call (kv,x4,m,1)) λx5=>k (Wv.out x5)):=bY
theorem aIa:Wv.Ok:=by
 rintro⟨k,m⟩ ⟨hk,hm⟩;have hk:nU k:=hk;have hm:Sm m:=hm;rw[aH9,aHY (d:=k) trivial];simp only[ah,bt,atP,bt,aki,mI];by_cases h:k < 2305843009213688669/\k≠0
 ·rw[aM h,if_pos h,NA (d:=k) trivial,eV hm.1];simp only[cz,ao,ah,bt,Zz];rw[Qr (aIi (by decide) (by rw[cj];omega) (by rw[hm.1];omega))];simp only[ah,bt,aiT];rw[afN (d:=tag (bH (⟨#[110,111,110,99,101]⟩:ByteArray)) [jo k,m]) (akc _ _)];simp only[ah,bt,aiy];have q:=ZL (tag (bH (⟨#[110,111,110,99,101]⟩:ByteArray)) [jo k,m]);rw[ao4 (d:=(k,Qd (tag (bH (⟨#[110,111,110,99,101]⟩:ByteArray)) [jo k,m]),m,1)) ⟨hk,⟨ak,ak⟩,hm,ak,ak⟩];rfl
 ·rw[aS h,if_neg h];rfl
theorem aAY:Wv.RS:=rE [.d tu,.d tB] Wv
def aIb:=Wv.eS aIa
def GM(l:List Int):Prop:=∀x∈l,nU x
def aB6(b:oq):Prop:=GM b.1/\nU b.2.2.2.1
def adD(l:Lk):Prop:=∀b∈l.1,aB6 b
def NQ(n:Int):Bool:=decide (0<=n/\n<=1048576)
def vd(b:oq):Bool:=decide (b.1.length<=12) && (b.1.all vn && (NQ b.2.1 && (NQ b.2.2.1 && (decide (b.2.2.2.1=0) || vn b.2.2.2.1))))
def kP(l:Lk):Bool:=l.1.all vd && decide (0 < l.1.length/\l.1.length<=4)
def yE:List Int->Int->Int⊕Unit
 |[],_=> .inr ()
 |p::ps,i=>if vn p then yE ps (i+1) else .inl i
def auN(l:List Int):Int:=match yE l 0 with | .inl i=>i | .inr _=> -1
theorem UF:∀(l:List Int) (i:Int),0<=i->(match yE l i with | .inl i=>decide (i>=0) | .inr _=>false)= !(l.all vn)
 |[],_,_=>rfl
 |p::ps,i,h=>by
  rw[yE,fb];cases hp:vn p
  ·simp[h]
  ·simp only[bG,bu];exact UF ps (i+1) ak
theorem awN(l:List Int):Cm (auN l) 0= !(l.all vn):=by
 have:=UF l 0 ak;unfold auN Cm;cases h:yE l 0
 ·rw[h]at this;exact this
 ·rw[h]at this;rw[<-this];rfl
def aFE:Int->Prop:=λp=>nU p
def ai5:Int->Bool:=λp=> !vn p
def ans:Fs Tryz.prog aFE bt ai5:=eN 141 Tryz.f141 (λp=>([.d tu p],[])) (λx=>⟨.d .bool x,[],[]⟩) [some tu] [TI]
theorem aLw{R:Type}(p)(k:K1 R):ans.A p k=al (vQ.call p) λx1=>k (ans.out (!x1)):=bY
theorem aLx:ans.Ok:=by intro p hp;rw[aLw,Bp (d:=p) hp];rfl
theorem aah:ans.RS:=rE [.d tu] ans
def avG:=ans.eS aLx
abbrev xE:=Bs×Int×Int
def qG:xE->AS:=λ(mi,t7,t8)=>⟨([.d tU mi,.fn 141 (.nil)]++aP 5 ([.d ti t7,.d ti t8]++aP 10 [])),[],(ab 19 [])⟩
def wI:Int->Exit×AS:=λx=>(.ret,⟨(aP 4 ([.d ti x]++aP 14 [])),[],(ab 19 [])⟩)
def wJ:Unit->Exit×AS:=λx=>(.exit 0,⟨(aP 19 []),[],(ab 19 [])⟩)
abbrev IJ:=(Int)⊕(Unit)
abbrev V5:=(Int)⊕(Unit)
def Dk:IJ->Out (Exit×AS):=λx=> .br x.isLeft (.get x.getLeft? λa=> .ok (wI a)) (.get x.getRight? λb=> .ok (wJ b))
def jM:xE->V5->IJ:=λ(mi,t7,t8) y=>match y with | .inl y=> .inl y | .inr z=> .inr (z)
def wH:xE->Prop:=λ(l,n,i)=>GM l/\l.length<=1000000000/\n=l.length/\∃k:Nat,k<=l.length/\i=k
def ng:xE->V5:=λ(l,n,i)=>yE (l.drop i.toNat) i
def asL:Bs->Prop:=λl=>GM l/\l.length<=1000000000
def abl:Bs->Int:=λl=>auN l
def V3:=dy.fp qG wH jM ng Dk
def IK:xE->Option IJ:=gB V3 qG
def xZ:Fs Tryz.prog asL bt abl:=eN 186 Tryz.f186 (λsv=>([.d tU sv,.fn 141 (.nil)],[])) (λx=>⟨.d ti x,[],[]⟩) [some tU,none] [avG] {loops:=nX [(2,{aV:=[0,1,7,8]})],outs:=nV [(2,{},{aV:=[4]})],fC:=na [(2,V3)]}
def V4:= @ee Tryz.prog (jy xZ.G) xZ.an 0 Tryz.f186 0 _ qG
abbrev Q0:=kj Tryz.prog (jy xZ.G) xZ.an 0 Tryz.f186 0 qG wH jM ng Dk
theorem aee:iW IK wH jM ng:=l6 (jk [.d tU,.d ti,.d ti] λ_=>bY)
theorem Oj:mP @V4 qG wH jM ng Dk Q0:=nD
theorem Bo{R:Type}(mi:Bs)(t7:Int)(t8:Int)(kn:AS->Option R)(kx:Exit->AS->Option R):V4 (mi,t7,t8) kn kx=aH ((gq t8 t7)) (aH (eo t8 (((ag mi):Nat):Int)) (al (ans.call (nth tu mi (ae t8))) λx1=>aH (x1) (kx (wI t8).1 (wI t8).2) (kn (qG (mi,t7,(bI .i64 t8 (1:Int)))))) none) (kx (wJ ()).1 (wJ ()).2):=bY
theorem azG{R:Type}(sv)(k:K1 R):xZ.A sv k=al (IK (sv,(sv.length:Int),0)) λx2=>aH (x2.isLeft) (al (x2.getLeft?) λa3=>k (xZ.out a3)) (al (x2.getRight?) λb4=>k (xZ.out (-1))):=bY
theorem ajB:Q0:=by
 refine Oj (λ(l,n,i)=>l.length - i.toNat) ?_
 rintro⟨l,n,i⟩ ⟨hl,hb,rfl,k,hk,rfl⟩;have hb:l.length<=1000000000:=hb;have hk:k<=l.length:=hk;by_cases h:k < l.length
 ·have hx:=hl _ (aO h);have n1:nth (.int .u64) l k=l[k]:=cg (t:= .int .u64) h;have hd:yE (l.drop k) k=if vn l[k] then yE (l.drop (k+1)) ((k+1:Nat):Int) else .inl (k:Int):=by rw[aq h];rfl
  cases hp:vn l[k]
  ·right;refine⟨wI (k:Int),?_,λkn kx=> ?_⟩
   ·simp only[jM,ng,aa,hd,hp,bn,bq];rfl
   ·rw[Bo];simp(disch:=omega) only[↓S1,↓if_pos,↓if_neg,if_pos,if_neg,bG,bq,S2,n1];rw[aah (d:=l[k]) hx];simp only[ah,bt,ai5,hp,eZ,aj]
  ·left;refine⟨(l,l.length,((k+1:Nat):Int)),⟨hl,hb,rfl,k+1,ak,rfl⟩,by simp only[aa];omega,?_,λkn kx=> ?_⟩
   ·simp only[jM,ng,aa,hd,hp,bG]
   ·rw[Bo];simp(disch:=omega) only[↓S1,↓if_pos,↓if_neg,if_pos,if_neg,bG,bq,S2,n1];rw[aah (d:=l[k]) hx];simp only[ah,bt,ai5,hp,cz,ao]
 ·right;obtain rfl:k=l.length:=ak;refine⟨wJ (),?_,λkn kx=> ?_⟩
  ·simp only[jM,ng,aa,aK];rfl
  ·rw[Bo];simp(disch:=omega) only[↓S1,↓if_pos,↓if_neg,if_pos,if_neg,bG,bq,S2]
theorem azH:xZ.Ok:=by rintro l ⟨hl,hb⟩;rw[azG,aee (d:=(l,l.length,0)) ⟨hl,hb,rfl,0,ak,rfl⟩];simp only[ah,jM,ng,aX,aD,bt,abl,auN];cases yE l 0 <;> rfl
theorem asM:xZ.RS:=rE [.d tU] xZ
def azI:=xZ.eS azH 1 ⟨.fp ajB,trivial⟩
def aec:Bs->Prop:=λl=>GM l/\l.length<=1000000000
def VZ:Bs->Bool:=λl=> !(l.all vn)
def vN:Fs Tryz.prog aec bt VZ:=eN 143 Tryz.f143 (λsv=>([.d tU sv,.fn 141 (.nil)],[])) (λx=>⟨.d .bool x,[],[]⟩) [some tU,none] [azI]
theorem ajy{R:Type}(sv)(k:K1 R):vN.A sv k=al (xZ.call sv) λx1=>k (vN.out (Cm x1 0)):=bY
theorem ajz:vN.Ok:=by rintro l ⟨hl,hb⟩;rw[ajy,asM (d:=l) ⟨hl,hb⟩];simp only[ah,bt,abl,awN];rfl
theorem aed:vN.RS:=rE [.d tU] vN
def ajA:=vN.eS ajz
def ant:Int->Prop:=λ_=>True
def Tu:Int->Bool:=λn=>NQ n
def zC:Fs Tryz.prog ant bt Tu:=eN 144 Tryz.f144 (λn=>([.d ti n],[])) (λx=>⟨.d .bool x,[],[]⟩) [some ti]
theorem ar7{R:Type}(n)(k:K1 R):zC.A n k=aH ((Cm n 0)) (k (zC.out (aiU n 1048576))) (k (zC.out false)):=bY
theorem ar8:zC.Ok:=by
 intro n _;rw[ar7];simp only[bt,Tu,NQ];by_cases h:0<=n
 ·rw[gr h,aj];by_cases h2:n<=1048576
  ·rw[oe h2,aM ⟨h,h2⟩]
  ·rw[j7 h2,aS (λx=>h2 x.2)]
 ·rw[eE h,ao,aS (λx=>h x.1)]
theorem Vz:zC.RS:=rE [.d ti] zC
def ar9:=zC.eS ar8
abbrev xz:=Lk×(List oq)×Int×Int
def lH:xz->AS:=λ(vg,t7,t8,t9)=>⟨([bE,.dD OZ vg,bE,.fn 141 (.nil),bE,bE,bE,.d (.slice ke) t7,.d ti t8,.d ti t9]++aP 47 []),[],(ab 57 [])⟩
def fe:Unit->Exit×AS:=λx=>(.ret,⟨([bE,bE,.d .bool false]++aP 54 []),[],(ab 57 [])⟩)
def wC:Lk->Exit×AS:=λx=>(.exit 0,⟨([bE,.dD OZ x]++aP 55 []),[],(ab 57 [])⟩)
abbrev Iv:=(Unit)⊕(Lk)
abbrev VF:=(Unit)⊕(Unit)
def Dc:Iv->Out (Exit×AS):=λx=> .br x.isLeft (.get x.getLeft? λa=> .ok (fe a)) (.get x.getRight? λb=> .ok (wC b))
def jL:xz->VF->Iv:=λ(vg,t7,t8,t9) y=>match y with | .inl y=> .inl y | .inr z=> .inr (vg)
def wB:xz->Prop:=λ(l,bs,n,i)=>(∀b∈bs,aB6 b)/\bs.length<=9223372036854775807/\n=bs.length/\∃k:Nat,k<=bs.length/\i=k
def nf:xz->VF:=λ(l,bs,n,i)=>if(bs.drop i.toNat).all vd then .inr () else .inl ()
def asg:Lk->Prop:=λl=>adD l/\l.1.length<=9223372036854775807
def Eo:Lk->Bool:=λl=>kP l
def VE:=dy.fp lH wB jL nf Dc
def Iw:xz->Option Iv:=gB VE lH
def pH:Fs Tryz.prog asg bt Eo:=eN 91 Tryz.f91 (λl=>([.d OZ l],[])) (λx=>⟨.d .bool x,[],[]⟩) [some OZ] [ajA,ar9,avG] {loops:=nX [(3,{aV:=[1,3,7,8,9]})],outs:=nV [(3,{aV:=[1]},{aV:=[2]})],fC:=na [(3,VE)]}
def Iu:= @ee Tryz.prog (jy pH.G) pH.an 0 Tryz.f91 0 _ lH
abbrev QJ:=kj Tryz.prog (jy pH.G) pH.an 0 Tryz.f91 0 lH wB jL nf Dc
theorem ad2:iW Iw wB jL nf:=l6 (jk [.d OZ,.d (.slice ke),.d ti,.d ti] λ_=>bY)
theorem N3:mP @Iu lH wB jL nf Dc QJ:=nD
theorem Ix{R:Type}(vg:Lk)(t7:(List oq))(t8:Int)(t9:Int)(kn:AS->Option R)(kx:Exit->AS->Option R):Iu (vg,t7,t8,t9) kn kx=aH ((gq t9 t8)) (aH (eo t9 (((ag t7):Nat):Int)) (aH ((rz (((ag (nth ke t7 (ae t9)).1):Nat):Int) (12:Int))) (kx (fe ()).1 (fe ()).2) (al (vN.call (nth ke t7 (ae t9)).1) λx1=>aH (x1) (kx (fe ()).1 (fe ()).2) (al (zC.call (nth ke t7 (ae t9)).2.1) λx2=>aH ((!x2)) (kx (fe ()).1 (fe ()).2) (al (zC.call (nth ke t7 (ae t9)).2.2.1) λx3=>aH ((!x3)) (kx (fe ()).1 (fe ()).2) (aH ((BY (nth ke t7 (ae t9)).2.2.2.1 (0:Int))) (al (ans.call (nth ke t7 (ae t9)).2.2.2.1) λx4=>aH (x4) (kx (fe ()).1 (fe ()).2) (kn (lH (vg,t7,t8,(bI .i64 t9 (1:Int)))))) (kn (lH (vg,t7,t8,(bI .i64 t9 (1:Int)))))))))) none) (kx (wC vg).1 (wC vg).2):=bY
theorem ay8{R:Type}(l)(k:K1 R):pH.A l k=al (Iw (l,l.1,(l.1.length:Int),0)) λx5=>aH (x5.isLeft) (al (x5.getLeft?) λa6=>k (pH.out false)) (al (x5.getRight?) λb7=>aH ((rz (b7.1.length:Int) 0)) (k (pH.out (aiU (b7.1.length:Int) 4))) (k (pH.out false))):=bY
theorem ajg:QJ:=by
 refine N3 (λ(l,bs,n,i)=>bs.length - i.toNat) ?_
 rintro⟨l,bs,n,i⟩ ⟨hl,hb,rfl,k,hk,rfl⟩;have hb:bs.length<=9223372036854775807:=hb;have hk:k<=bs.length:=hk;by_cases h:k < bs.length
 ·have hx:aB6 bs[k]:=hl _ (aO h);have n1:nth (.pair (.slice (.int .u64)) (.pair (.int .i64) (.pair (.int .i64) (.pair (.int .u64) .unit)))) bs k=bs[k]:=cg (t:=(.pair (.slice (.int .u64)) (.pair (.int .i64) (.pair (.int .i64) (.pair (.int .u64) .unit))))) h;have hd:(bs.drop k).all vd=(vd bs[k] && (bs.drop (k+1)).all vd):=by rw[aq h,fb]
  have step:∀ {R:Type} (kn:AS->Option R) (kx:Exit->AS->Option R),Iu (l,bs,(bs.length:Int),(k:Int)) kn kx=aH (vd bs[k]) (kn (lH (l,bs,(bs.length:Int),((k+1:Nat):Int)))) (kx (fe ()).1 (fe ()).2):=by
   intro R kn kx;rw[Ix,aU ak,bg ak ak,aa,n1,N.mO ak];obtain⟨⟨ks,af,dl,sc,u⟩,aOI⟩:∃b,bs[k]=b:=⟨_,rfl⟩;rw[aOI]at hx ⊢;have h1:GM ks:=hx.1;have h2:nU sc:=hx.2;simp only[aj,vd];by_cases hk:ks.length<=12
   ·rw[cn ak,aed (d:=ks) ⟨h1,ak⟩,Vz (d:=af) trivial,Vz (d:=dl) trivial,aah (d:=sc) h2,aM hk];simp only[ao,ah,bt,VZ,bt,Tu,bt,ai5,bu];cases ks.all vn
    ·rfl
    cases NQ af
    ·rfl
    cases NQ dl
    ·rfl
    by_cases hs:sc=0
    ·rw[dB hs,aM hs];rfl
    ·rw[fj hs,aS hs];cases vn sc <;> rfl
   ·rw[cR ak,aS hk];rfl
  cases hp:vd bs[k]
  ·right;refine⟨fe (),?_,λkn kx=> ?_⟩
   ·simp only[jL,nf,aa,hd,hp,cM,bn,bq];rfl
   ·rw[step,hp,ao]
  ·left;refine⟨(l,bs,bs.length,((k+1:Nat):Int)),⟨hl,hb,rfl,k+1,ak,rfl⟩,by simp only[aa];omega,?_,λkn kx=> ?_⟩
   ·simp only[jL,nf,aa,hd,hp,bu]
   ·rw[step,hp,aj]
 ·right;obtain rfl:k=bs.length:=ak;refine⟨wC l,?_,λkn kx=> ?_⟩
  ·simp only[jL,nf,aa,aK];rfl
  ·rw[Ix];simp(disch:=omega) only[↓S1,↓if_pos,↓if_neg,if_pos,if_neg,bG,bq,S2]
theorem ay9:pH.Ok:=by
 rintro l ⟨hl,hb⟩;have hb:l.1.length<=9223372036854775807:=hb;rw[ay8,ad2 (d:=(l,l.1,l.1.length,0)) ⟨hl,hb,rfl,0,ak,rfl⟩];simp only[ah,jL,nf,aX,aD,bt,Eo,kP];cases l.1.all vd
 ·rfl
 ·simp only[bG,bu];show aH (rz _ _) _ _=_;by_cases h0:0 < l.1.length
  ·rw[cR ak];by_cases h4:l.1.length<=4
   ·rw[oe ak,aM ⟨h0,h4⟩];rfl
   ·rw[j7 ak,aS (λx=>h4 x.2)];rfl
  ·rw[cn ak,aS (λx=>h0 x.1)];rfl
theorem Be:pH.RS:=rE [.d OZ] pH
def Ep:=pH.eS ay9 1 ⟨.fp ajg,trivial⟩
def yp(m:List Int):List Int->List Sg->Bool
 |[],_=>true
 |p::ps,ss=>AJ p m 1 (ss.headD (0,0,())) && yp m ps ss.tail
def yy(l:Lk)(w:UC)(m:List Int)(height age:Int):Int:=
 if kP l=false\/w.1 < 0\/w.1>=l.1.length then 1
 else
  let b:=nth (.pair (.slice (.int .u64)) (.pair (.int .i64) (.pair (.int .i64) (.pair (.int .u64) .unit)))) l.1 w.1.toNat
  if height < b.2.1\/age < b.2.2.1 then 11
  else if b.2.2.2.1≠0/\gg w.2.2.1≠b.2.2.2.1 then 23
  else if w.2.1.length≠b.1.length then 7
  else if yp m b.1 w.2.1 then 0 else 7
theorem aBx(m:List Int)(ks:List Int)(ss:List Sg)(h:ss.length=ks.length)(k:Nat)(hk:k < ks.length):yp m (ks.drop k) (ss.drop k)=(AJ ks[k] m 1 (ss[k]'(ak)) && yp m (ks.drop (k+1)) (ss.drop (k+1))):=by rw[aq hk,aq (by omega:k < ss.length)];rfl
def Yg(w:UC):Prop:=(∀s∈w.2.1,aNT s)/\nU w.2.2.1
abbrev Bb:=UC×Bs×Bs×Int×Int
def pF:Bb->AS:=λ(auA,avP,t68,t69,t70)=>⟨(aP 6 ([.dD aA1 auA,.dD tH avP]++aP 60 ([.d tU t68,.d ti t69,.d ti t70]++aP 14 []))),[],(ab 85 [])⟩
def qC:Unit->Exit×AS:=λx=>(.ret,⟨(aP 10 ([.d ti (7:Int)]++aP 74 [])),[],(ab 85 [])⟩)
def zF:Unit->Exit×AS:=λx=>(.exit 1,⟨(aP 85 []),[],(ab 85 [])⟩)
abbrev NZ:=(Unit)⊕(Unit)
abbrev aap:=(Unit)⊕(Unit)
def FW:NZ->Out (Exit×AS):=λx=> .br x.isLeft (.get x.getLeft? λa=> .ok (qC a)) (.get x.getRight? λb=> .ok (zF b))
def lG:Bb->aap->NZ:=λ(auA,avP,t68,t69,t70) y=>match y with | .inl y=> .inl y | .inr z=> .inr (z)
abbrev avL:=Lk×UC×Bs×Int×Int
def zD:Bb->Prop:=λ(w,m,ks,n,i)=>Yg w/\Sm m/\GM ks/\ks.length<=1000000000/\w.2.1.length=ks.length/\n=ks.length/\∃k:Nat,k<=ks.length/\i=k
def pE:Bb->aap:=λ(w,m,ks,n,i)=>if yp m (ks.drop i.toNat) (w.2.1.drop i.toNat) then .inr () else .inl ()
def ay4:avL->Prop:=λ(l,w,m,h,a)=>adD l/\l.1.length<=9223372036854775807/\Yg w/\Sm m
def ai9:avL->Int:=λ(l,w,m,h,a)=>yy l w m h a
def aao:=dy.fp pF zD lG pE FW
def wA:Bb->Option NZ:=gB aao pF
def nc:Fs Tryz.prog ay4 bt ai9:=eN 231 Tryz.f231 (λ(l,wv,m,height,age)=>([.d OZ l,.d aA1 wv,.d tH m,.d ti height,.d ti age],[])) (λx=>⟨.d ti x,[],[]⟩) [some OZ,some aA1,some tH,some ti,some ti] [Ep,QY,at7] {loops:=nX [(11,{aV:=[6,7,68,69,70]})],outs:=nV [(11,{},{aV:=[10]})],fC:=na [(11,aao)]}
def NY:= @ee Tryz.prog (jy nc.G) nc.an 0 Tryz.f231 0 _ pF
abbrev VD:=kj Tryz.prog (jy nc.G) nc.an 0 Tryz.f231 0 pF zD lG pE FW
theorem aja:iW wA zD lG pE:=l6 (jk [.d aA1,.d tH,.d tU,.d ti,.d ti] λ_=>bY)
theorem QI:mP @NY pF zD lG pE FW VD:=nD
theorem L7{R:Type}(auA:UC)(avP:Bs)(t68:Bs)(t69:Int)(t70:Int)(kn:AS->Option R)(kx:Exit->AS->Option R):NY (auA,avP,t68,t69,t70) kn kx=aH ((gq t70 t69)) (aH (eo t70 (((ag t68):Nat):Int)) (aH (eo t70 (((ag auA.2.1):Nat):Int)) (al (Gv.call ((nth tu t68 (ae t70)),avP,(nth Av auA.2.1 (ae t70)))) λx1=>aH ((!x1)) (kx (qC ()).1 (qC ()).2) (kn (pF (auA,avP,t68,t69,(bI .i64 t70 (1:Int)))))) none) none) (kx (zF ()).1 (zF ()).2):=bY
theorem aFW{R:Type}(l wv m height age)(k:K1 R):nc.A (l,wv,m,height,age) k=al (pH.call l) λx1=>aH ((!x1)) (k (nc.out 1)) (aH ((gq wv.1 0)) (k (nc.out 1)) (aH ((Cm wv.1 (l.1.length:Int))) (k (nc.out 1)) (aH (eo wv.1 (l.1.length:Int)) (aH ((gq height (nth ke l.1 (ae wv.1)).2.1)) (k (nc.out 11)) (aH ((gq age (nth ke l.1 (ae wv.1)).2.2.1)) (k (nc.out 11)) (aH ((BY (nth ke l.1 (ae wv.1)).2.2.2.1 0)) (al (G5.call wv.2.2.1) λx2=>aH ((BY x2 (nth ke l.1 (ae wv.1)).2.2.2.1)) (k (nc.out 23)) (aH ((BY (wv.2.1.length:Int) (((ag (nth ke l.1 (ae wv.1)).1):Nat):Int))) (k (nc.out 7)) (al (wA (wv,m,(nth ke l.1 (ae wv.1)).1,(((ag (nth ke l.1 (ae wv.1)).1):Nat):Int),0)) λx4=>aH (x4.isLeft) (al (x4.getLeft?) λa5=>k (nc.out 7)) (al (x4.getRight?) λb6=>k (nc.out 0))))) (aH ((BY (wv.2.1.length:Int) (((ag (nth ke l.1 (ae wv.1)).1):Nat):Int))) (k (nc.out 7)) (al (wA (wv,m,(nth ke l.1 (ae wv.1)).1,(((ag (nth ke l.1 (ae wv.1)).1):Nat):Int),0)) λx7=>aH (x7.isLeft) (al (x7.getLeft?) λa8=>k (nc.out 7)) (al (x7.getRight?) λb9=>k (nc.out 0))))))) none))):=bY
theorem anC:VD:=by
 refine QI (λ(w,m,ks,n,i)=>ks.length - i.toNat) ?_
 rintro⟨w,m,ks,n,i⟩ ⟨hw,hm,hl,hb,hs,rfl,k,hk,rfl⟩;have hb:ks.length<=1000000000:=hb;have hk:k<=ks.length:=hk;have hs:w.2.1.length=ks.length:=hs;by_cases h:k < ks.length
 ·have hx:=hl _ (aO h);have hy:=hw.1 _ (aO (by omega:k < w.2.1.length));have n1:nth (.int .u64) ks k=ks[k]:=cg (t:= .int .u64) h;have n2:nth (.pair (.int .u64) (.pair (.int .u64) .unit)) w.2.1 k=w.2.1[k]'(ak):=cg (t:=(.pair (.int .u64) (.pair (.int .u64) .unit))) ak;have hd:=aBx m ks w.2.1 hs k h;have step:∀ {R:Type} (kn:AS->Option R) (kx:Exit->AS->Option R),NY (w,m,ks,(ks.length:Int),(k:Int)) kn kx=aH (AJ ks[k] m 1 (w.2.1[k]'(ak))) (kn (pF (w,m,ks,(ks.length:Int),((k+1:Nat):Int)))) (kx (qC ()).1 (qC ()).2):=by intro R kn kx;rw[L7,aU ak,bg ak ak,bg ak ak,aa,n1,n2,N.mO ak,apv (d:=(ks[k],m,w.2.1[k]'(ak))) ⟨hx,hm,hy⟩];simp only[aj,ah,bt,ag1];cases AJ ks[k] m 1 (w.2.1[k]'(ak)) <;> rfl
  cases hp:AJ ks[k] m 1 (w.2.1[k]'(ak))
  ·right;refine⟨qC (),?_,λkn kx=> ?_⟩
   ·simp only[lG,pE,aa,hd,hp,cM,bn,bq];rfl
   ·rw[step,hp,ao]
  ·left;refine⟨(w,m,ks,ks.length,((k+1:Nat):Int)),⟨hw,hm,hl,hb,hs,rfl,k+1,ak,rfl⟩,by simp only[aa];omega,?_,λkn kx=> ?_⟩
   ·simp only[lG,pE,aa,hd,hp,bu]
   ·rw[step,hp,aj]
 ·right;obtain rfl:k=ks.length:=ak;refine⟨zF (),?_,λkn kx=> ?_⟩
  ·simp only[lG,pE,aa,aK];rfl
  ·rw[L7];simp(disch:=omega) only[↓S1,↓if_pos,↓if_neg,if_pos,if_neg,bG,bq,S2]
theorem ayX{l:Lk}(h:kP l=true){b:oq}(hb:b∈l.1):b.1.length<=12:=by unfold kP at h;rw[au,cV]at h;have:=h.1 b hb;unfold vd at this;rw[au]at this;simpa using this.1
theorem aFX:nc.Ok:=by
  rintro⟨l,w,m,h,a⟩ ⟨hl,hb,hw,hm⟩;have hl:adD l:=hl;have hb:l.1.length<=9223372036854775807:=hb;have hw:Yg w:=hw;have hm:Sm m:=hm;rw[aFW,Be (d:=l) ⟨hl,hb⟩];simp only[ah,bt,Eo,bt,ai9,yy];cases jj:kP l
  · rw[if_pos (lV rfl)];rfl
  by_cases h0:w.1 < 0
  · rw[aU h0,if_pos (ff (lV h0))];rfl
  by_cases h1:w.1>=l.1.length
  · rw[aR h0,gr h1,if_pos (ff (ff h1))];rfl
  rw[aR h0,eE h1,bg ak ak,if_neg (by simp[h0];omega)];have hn:w.1.toNat < l.1.length:=ak;have n1:nth (.pair (.slice (.int .u64)) (.pair (.int .i64) (.pair (.int .i64) (.pair (.int .u64) .unit)))) l.1 w.1.toNat=l.1[w.1.toNat]:=cg (t:=(.pair (.slice (.int .u64)) (.pair (.int .i64) (.pair (.int .i64) (.pair (.int .u64) .unit))))) hn;rw[n1];have hx:aB6 l.1[w.1.toNat]:=hl _ (aO hn);have aRw:=ayX jj (aO hn);obtain⟨⟨ks,af,dl,sc,u⟩,aOI⟩:∃b,l.1[w.1.toNat]=b:=⟨_,rfl⟩;rw[aOI]at hx aRw ⊢;have aEX:GM ks:=hx.1;have aRw:ks.length<=12:=aRw;simp only[cz,ao,aj];by_cases e1:h < af
  · rw[aU e1,if_pos (lV e1)];rfl
  by_cases e2:a < dl
  · rw[aR e1,aU e2,if_pos (ff e2)];rfl
  rw[aR e1,aR e2,if_neg (by simp[e1,e2]),Eu (d:=w.2.2.1) hw.2];simp only[ao,ah,bt,X1]
  have last:aH (BY ((w.2.1.length:Nat):Int) ((ks.length:Nat):Int)) (some (nc.out (7:Int))) (
          al (wA (w,m,ks,((ks.length:Nat):Int),(0:Int))) λx4=>
          aH (x4.isLeft) (al (x4.getLeft?) λa5=>some (nc.out (7:Int))) (al (x4.getRight?) λb6=>some (nc.out (0:Int))))=some (nc.out (if w.2.1.length≠ks.length then 7 else if yp m ks w.2.1 then 0 else 7)):=by
    by_cases e3:w.2.1.length=ks.length
    · rw[dB ak,if_neg (by simp[e3]),ao,aja (d:=(w,m,ks,ks.length,0)) ⟨hw,hm,aEX,by show ks.length<=1000000000;omega,e3,rfl,0,ak,rfl⟩]
      simp only[ah,lG,pE,aX,aD];cases yp m ks w.2.1 <;> rfl
    · rw[fj ak,if_pos e3];rfl
  by_cases e4:sc=0
  · rw[dB e4,if_neg (by simp[e4]),ao]
    exact last
  · rw[fj e4,aj]
    by_cases e5:gg w.2.2.1=sc
    · rw[dB e5,if_neg (by simp[e5]),ao]
      exact last
    · rw[fj e5,if_pos ⟨e4,e5⟩];rfl
theorem ay5:nc.RS:=rE [.d OZ,.d aA1,.d tB,.d ti,.d ti] nc
def aFY:=nc.eS aFX 1 ⟨.fp anC,trivial⟩
def awU:Int->Prop:=λn=>∃k:Nat,n=k/\k<=100000000
def auS:Int->(Nat×(List Int)):=λn=>(0,ab n.toNat 0)
def UH:Fs Tryz.prog awU bt auS:=eN 212 Tryz.f212 (λn=>([.dd,.d ti n],[])) (λx=>⟨.bz (.new 0 0) 0 [] 0 0 x.1,[],[.obj 0 false (.vec 5 tb x.2)]⟩) [none,some ti] [] {owns:=[⟨4,[],22,127⟩]}
theorem aCE{R:Type}(n)(k:K1 R):UH.A n k=aH ((gq n 0)) (none) (aH ((rz (cP .i64 n 0) 0)) (aH (decide (0 < (cP .i64 n 0)) && da (ae (cP .i64 n 0)) 1) (aH (inc 0 (((ae (cP .i64 n 0)):Nat):Int)) (k (UH.out (0,(ab (ae (cP .i64 n 0)) 0)))) none) none) (k (UH.out (0,([]:List Int))))):=bY
theorem aCF:UH.Ok:=by
 rintro n ⟨k,rfl,hk⟩;have e:cP .i64 (k:Int) 0=(k:Int):=by rw[eL ak ak];omega
 rw[aCE,e,aR ak,ao];by_cases h:0 < k
 ·rw[cR ak,aa,aM ak,dr ak ak,uI ak ak];rfl
 ·obtain rfl:k=0:=ak;rfl
theorem awV:UH.RS:=rE [.d ti] UH
def aCG:=UH.eS aCF
def uL(l:List (List Int)):Nat:=l.flatten.length
def adJ(n:Nat)(l:List Int):List (List Int)->Nat×List Int
 |[]=>(n,l)
 |s::r=>(n+(s::r).flatten.length,l.take n++(s::r).flatten)
theorem axu(n:Nat)(l s:List Int)(r:List (List Int))(h:n<=l.length):adJ n l (s::r)=adJ (n+s.length) (l.take n++s) r:=by
 have hl:(l.take n++s).length=n+s.length:=by rw[ai,bp];omega
 cases r with
 |nil=>simp[adJ]
 |cons t r=>
  simp only[adJ];rw[aY (ud hl)];simp only[jr,ai,aF,eO]
theorem aKE(n:Nat)(z:List Int)(r:List (List Int)):(adJ 0 z r).1<=(adJ 0 z r).2.length/\cut (adJ 0 z r).2 0 (adJ 0 z r).1=r.flatten:=by
 cases r with
 |nil=>exact⟨aJ _,rfl⟩
 |cons s r=>
  simp only[adJ,dH,aT,aN];exact⟨ax _,by show aQ _ (bR 0 _)=_;rw[aD,bK]⟩
abbrev E7:=(List Bs)×Int×(List Bs)×Int×Int
def uh:E7->Int->(((List Bs))×(Int)):=λ(BB,size,t9,t10,t11) y=>(BB,y)
abbrev Pc:=Nat×(List Bs)×Int×Int×(List Int)
def HJ:E7->Prop:=λ(s,size,t,n,i)=>s.length<=1000000/\t=s/\n=s.length/\∃k z:Nat,k<=s.length/\i=k/\size=z/\z+uL (s.drop k)<=100000000
def yF:E7->Int:=λ(s,size,t,n,i)=>((size:Int)+((uL (s.drop i.toNat):Nat):Int):Int)
def HK:Pc->Prop:=λ(n,s,t,i,l)=>s.length<=1000000/\n<=l.length/\t=s.length/\∃k:Nat,k<=s.length/\i=k/\n+uL (s.drop k)<=100000000
def yG:Pc->(Nat×(List Int)):=λ(n,s,t,i,l)=>adJ n l (s.drop i.toNat)
def aln:(List Bs)->Prop:=λs=>s.length<=1000000/\uL s<=100000000
def Sv:(List Bs)->Bs:=λs=>s.flatten
def nv:Ls HJ uh yF:=rW (λ(BB,size,t9,t10,t11)=>⟨([.d (.slice tB) BB,bE,bE,.d ti size]++aP 5 ([.d (.slice tB) t9,.d ti t10,.d ti t11]++aP 24 [])),[],(ab 36 [])⟩) (λx=>(.exit 0,⟨([.d (.slice tB) x.1,bE,bE,.d ti x.2]++aP 32 []),[],(ab 36 [])⟩))
def nw:Ls HK bt yG:=rW (λ(newsliceL,t25,t26,t27,n24)=>⟨(aP 6 ([oh 24 newsliceL]++aP 18 ([.d (.slice tB) t25,.d ti t26,.d ti t27]++aP 8 []))),[],(bM 24 ([dK (.vec 5 tb n24)]++bM 11 []))⟩) (λx=>(.exit 2,⟨(aP 6 ([oh 24 x.1]++aP 29 [])),[],(bM 24 ([dK (.vec 5 tb x.2)]++bM 11 []))⟩))
def oN:Fs Tryz.prog aln bt Sv:=eN 175 Tryz.f175 (λslices=>([.d (.slice tB) slices],[])) (λx=>⟨.d tB x,[],[]⟩) [some (.slice tB)] [aCG] {loops:=nX [(3,{aV:=[0,3,9,10,11]}),(11,{aV:=[6,25,26,27],sites:=[24],owns:=[⟨6,[],24,127⟩]})],outs:=nV [(3,{aV:=[0,3]},{aV:=[2]}),(11,{aV:=[6],sites:=[24]},{aV:=[2]})],fC:=na [(3,nv.E),(11,nw.E)],res:=[some tB]}
theorem YB:nv.RS:=rL [.d (.slice tB),.d ti,.d (.slice tB),.d ti,.d ti] nv
theorem GO{R:Type}(BB size t9 t10 t11)(kn:K2 R)(kx:K3 R):oN.R 0 nv (BB,size,t9,t10,t11) kn kx=aH ((gq t11 t10)) (aH (eo t11 (t9.length:Int)) (aH ((gq (bI .i64 size (((ag (nth tB t9 (ae t11))):Nat):Int)) 0)) (none) (kn (nv.st (BB,(bI .i64 size (((ag (nth tB t9 (ae t11))):Nat):Int)),t9,t10,(bI .i64 t11 1))))) none) (nv.go kx (BB,size)):=bY
theorem YC:nw.RS:=rL [.n,.d (.slice tB),.d ti,.d ti,.d tB] nw
theorem GP{R:Type}(newsliceL t25 t26 t27 n24)(kn:K2 R)(kx:K3 R):oN.R 1 nw (newsliceL,t25,t26,t27,n24) kn kx=aH ((gq t27 t26)) (aH (eo t27 (t25.length:Int)) (aH (decide (newsliceL<=(ag n24))) (aH (da (newsliceL+(ag (nth tB t25 (ae t27)))) 1) (kn (nw.st ((newsliceL+(ag (nth tB t25 (ae t27)))),t25,t26,(bI .i64 t27 1),((aQ newsliceL n24)++(nth tB t25 (ae t27)))))) none) none) none) (nw.go kx (newsliceL,n24)):=bY
theorem aqt{R:Type}(slices)(k:K1 R):oN.A slices k=al (nv.call (slices,0,slices,(slices.length:Int),0)) λx1=>al (UH.call x1.2) λx2=>al (nw.call (x2.1,x1.1,(x1.1.length:Int),0,x2.2)) λx3=>aH (decide (0=0/\(0+x3.1)<=(ag x3.2))) (k (oN.out (cut x3.2 0 x3.1))) none:=bY
theorem avI(s:List (List Int))(k:Nat)(h:k < s.length):uL (s.drop k)=s[k].length+uL (s.drop (k+1)):=by unfold uL;rw[aq h,jr,ai]
theorem adG:(oN.kN 0 nv):=by
 refine(oN.mh 0 nv) (λ(s,size,t,n,i)=>s.length - i.toNat) ?_
 rintro⟨s,size,t,n,i⟩ ⟨hs,rfl,rfl,k,z,hk,rfl,rfl,hz⟩;have hs:t.length<=1000000:=hs;have hk:k<=t.length:=hk;have hz:z+uL (t.drop k)<=100000000:=hz;by_cases h:k < t.length
 ·left;have n1:nth (.slice (.int .u8)) t k=t[k]:=cg (t:= .slice (.int .u8)) h;have hd:=avI t k h;refine⟨(t,((z+t[k].length:Nat):Int),t,t.length,((k+1:Nat):Int)),⟨hs,rfl,rfl,k+1,z+t[k].length,ak,rfl,rfl,ak⟩,by simp only[aa];omega,?_,λkn kx=> ?_⟩
  ·simp only[uh,yF,aa];rw[hd];refine bo _ ?_
   omega
  ·rw[GO];simp(disch:=omega) only[↓S1,↓if_pos,↓if_neg,if_pos,if_neg,bG,bq,S2,n1]
 ·right;obtain rfl:k=t.length:=ak;intro R kn kx;rw[GO];simp(disch:=omega) only[↓S1,↓if_pos,↓if_neg,if_pos,if_neg,bG,bq,S2,uh,yF,aK];simp only[uL,qi,aZ,Int.natCast_zero,Int.add_zero]
theorem adH:(oN.kN 1 nw):=by
 refine(oN.mh 1 nw) (λ(n,s,t,i,l)=>s.length - i.toNat) ?_
 rintro⟨n,s,t,i,l⟩ ⟨hs,hn,rfl,k,hk,rfl,hz⟩;have hs:s.length<=1000000:=hs;have hn:n<=l.length:=hn;have hk:k<=s.length:=hk;have hz:n+uL (s.drop k)<=100000000:=hz;by_cases h:k < s.length
 ·left;have n1:nth (.slice (.int .u8)) s k=s[k]:=cg (t:= .slice (.int .u8)) h;have hd:=avI s k h;refine⟨(n+s[k].length,s,s.length,((k+1:Nat):Int),l.take n++s[k]),⟨hs,by rw[ai,bp];omega,rfl,k+1,ak,rfl,ak⟩,by simp only[aa];omega,?_,λkn kx=> ?_⟩
  ·simp only[bt,yG,aa];rw[aq h,axu _ _ _ _ hn]
  ·rw[GP];simp(disch:=omega) only[↓S1,↓if_pos,↓if_neg,if_pos,if_neg,bG,bq,S2,n1]
 ·right;obtain rfl:k=s.length:=ak;intro R kn kx;rw[GP];simp(disch:=omega) only[↓S1,↓if_pos,↓if_neg,if_pos,if_neg,bG,bq,S2,bt,yG,aK];rfl
theorem aqu:oN.Ok:=by rintro s ⟨hs,hz⟩;have hs:s.length<=1000000:=hs;have hz:uL s<=100000000:=hz;have p1:HJ (s,0,s,s.length,0):=⟨hs,rfl,rfl,0,0,ak,rfl,rfl,by rw[aD];omega⟩;have p2:HK (0,s,s.length,0,ab (uL s) 0):=⟨hs,ak,rfl,0,ak,rfl,by rw[aD];omega⟩;rw[aqt,YB p1];simp only[ah,uh,yF,aX,aD,Int.zero_add];rw[awV (d:=((uL s:Nat):Int)) ⟨uL s,rfl,hz⟩];simp only[ah,bt,auS,aa];rw[YC p2];simp only[ah,bt,yG,aX,aD];obtain⟨c1,c2⟩:=aKE 0 (ab (uL s) 0) s;simp only[aN,c1,jh,cr,aj,c2];rfl
theorem UG:oN.RS:=rE [.d (.slice tB)] oN
def YD:=oN.eS aqu 2 ⟨.fp adG,⟨.fp adH,trivial⟩⟩
def afy:(Bs×Bs)->Prop:=λ(a,b)=>a.length+b.length<=100000000
def ahT:(Bs×Bs)->Bs:=λ(a,b)=>a++b
def HV:Fs Tryz.prog afy bt ahT:=eN 173 Tryz.f173 (λ(b,more)=>([.d tB b,.d tB more],[])) (λx=>⟨.d tB x,[],[]⟩) [some tB,some tB] [YD]
theorem aDr{R:Type}(b more)(k:K1 R):HV.A (b,more) k=al (oN.call [b,more]) λx1=>k (HV.out x1):=bY
theorem aDs:HV.Ok:=by rintro⟨a,b⟩ h;have h:a.length+b.length<=100000000:=h;rw[aDr,UG (d:=[a,b]) ⟨by show [a,b].length<=_;simp,by show uL [a,b]<=_;simp only[uL,jr,qi,ba,ai];omega⟩];simp only[ah,bt,Sv,bt,ahT,jr,qi,ba]
theorem Kk:HV.RS:=rE [.d tB,.d tB] HV
def Y3:=HV.eS aDs
def gH:Nat->Int->List Int×Int
 | 0,n=>([],n)
 |f+1,n=>if 128<=n then((n%128+128)::(gH f (n / 128)).1,(gH f (n / 128)).2) else([],n)
def gl(n:Int):List Int:=(gH 10 n).1++ [(gH 10 n).2]
theorem KM:∀(f g:Nat) (n:Int),n < 128^(f+1)->n < 128^(g+1)->gH f n=gH g n
 | 0,0,n,_,_=>rfl
 | 0,g+1,n,h,_=>by have h:n < 128:=h;rw[gH,gH,if_neg ak]
 |f+1,0,n,_,h=>by have h:n < 128:=h;rw[gH,gH,if_neg ak]
 |f+1,g+1,n,h,h'=>by
  rw[gH,gH];split
  ·have e:(128:Int)^(f+1+1)=128^(f+1)*128:=fJ 128 (f+1);have e':(128:Int)^(g+1+1)=128^(g+1)*128:=fJ 128 (g+1);rw[KM f g (n / 128) ak ak]
  ·rfl
theorem ab7:∀(f:Nat) (n:Int),(gH f n).1.length<=f
 | 0,_=>ax _
 |f+1,n=>by
  rw[gH];split
  ·have:=ab7 f (n / 128);simp only[aA];omega
  ·exact aJ _
theorem agK:∀(f:Nat) (n:Int),0<=n->n < 128^(f+1)->0<=(gH f n).2/\(gH f n).2 < 128
 | 0,n,h,h'=>by have h':n < 128:=h';exact⟨h,h'⟩
 |f+1,n,h,h'=>by
  rw[gH];have e:(128:Int)^(f+1+1)=128^(f+1)*128:=fJ 128 (f+1);split
  ·exact agK f (n / 128) ak ak
  ·exact⟨h,ak⟩
theorem agL{n:Int}(h:128<=n)(h2:n<=9223372036854775807):gH 10 n=((n%128+128)::(gH 10 (n / 128)).1,(gH 10 (n / 128)).2):=by have e:(128:Int)^(9+1)=1180591620717411303424:=rfl;have e2:(128:Int)^(10+1)=151115727451828646838272:=rfl;rw[gH,if_pos h,KM 9 10 (n / 128) (by rw[e];omega) (by rw[e2];omega)]
theorem kE(n:Int):(gl n).length<=11:=by have:=ab7 10 n;unfold gl;simp only[ai,aA,aZ];omega
def Ht(n:Int):Prop:=0<=n/\n<=9223372036854775807
abbrev afE:=Int×Nat×(List Int)
def U0:afE->Prop:=λ(n,m,l)=>Ht n/\m=l.length/\l.length<=1000+0*n.toNat/\l.length+(gH 10 n).1.length<=100
def Km:afE->(Int×Nat×(List Int)):=λ(n,m,l)=>((gH 10 n).2,(l++(gH 10 n).1).length,l++(gH 10 n).1)
def aD1:Int->Prop:=λn=>Ht n
def ark:Int->Bs:=λn=>gl n
def yT:Ls U0 bt Km:=rW (λ(wG,outL,n14)=>⟨([.d ti wG,bE,bE,oh 14 outL]++aP 16 []),[],(bM 14 ([dK (.vec 5 tb n14)]++bM 5 []))⟩) (λx=>(.exit 0,⟨([.d ti x.1,bE,bE,oh 14 x.2.1]++aP 16 []),[],(bM 14 ([dK (.vec 5 tb x.2.2)]++bM 5 []))⟩))
def Zf:Fs Tryz.prog aD1 bt ark:=eN 174 Tryz.f174 (λn=>([.d ti n],[])) (λx=>⟨.d tB x,[],[]⟩) [some ti] [] {loops:=nX [(2,{aV:=[0,3],sites:=[14],owns:=[⟨3,[],14,127⟩]})],outs:=nV [(2,{aV:=[0,3],sites:=[14]},{aV:=[2]})],fC:=na [(2,yT.E)],res:=[some tB]}
theorem amh:yT.RS:=rL [.d ti,.n,.d tB] yT
theorem PI{R:Type}(wG outL n14)(kn:K2 R)(kx:K3 R):Zf.R 0 yT (wG,outL,n14) kn kx=aH ((Cm wG 128)) (aH (decide (outL<=(ag n14))) (aH (da (outL+1) 1) (kn (yT.st ((tV .i64 wG 128),(outL+1),((aQ outL n14)++ [(dX .u8 (bI .i64 (mR wG 128) 128))])))) none) none) (yT.go kx (wG,outL,n14)):=bY
theorem aKC{R:Type}(n)(k:K1 R):Zf.A n k=al (yT.call (n,0,([]:List Int))) λx1=>aH (decide (x1.2.1<=(ag x1.2.2))) (aH (da (x1.2.1+1) 1) (aH (decide (0=0/\(0+(x1.2.1+1))<=(ag ((aQ x1.2.1 x1.2.2)++ [(dX .u8 x1.1)])))) (k (Zf.out (cut ((aQ x1.2.1 x1.2.2)++ [(dX .u8 x1.1)]) 0 (x1.2.1+1)))) none) none) none:=bY
theorem aEh{n:Int}(h:Ht n):dX .u8 (bI .i64 (mR n 128) 128)=n%128+128:=by have h1:=h.1;rw[wx h.1,fU ak ak,Th,gX];omega
theorem arl:(Zf.kN 0 yT):=by
 refine(Zf.mh 0 yT) (λ(n,m,l)=>n.toNat) ?_
 rintro⟨n,m,l⟩ ⟨hn,rfl,hl,hz⟩;have hn:Ht n:=hn;have hz:l.length+(gH 10 n).1.length<=100:=hz;have h1:=hn.1;have h2:=hn.2;by_cases h:128<=n
 ·left;have e:=agL h h2;have hq:tV .i64 n 128=n / 128:=by rw[tV,ki h1];exact uG ak ak
  have el:((n%128+128)::(gH 10 (n / 128)).1).length=(gH 10 (n / 128)).1.length+1:=aA;rw[e]at hz;have hz:l.length+((n%128+128)::(gH 10 (n / 128)).1).length<=100:=hz;rw[el]at hz;refine⟨(n / 128,l.length+1,l++ [n%128+128]),⟨⟨ak,ak⟩,by rw[ai];rfl,by rw[ai];simp only[aA,aZ];omega,by rw[ai];simp only[aA,aZ];omega⟩,by simp only[];omega,?_,λkn kx=> ?_⟩
  ·simp only[bt,Km,e,aF,gN,aT]
  ·rw[PI,gr h,aEh hn,hq];simp(disch:=omega) only[↓S1,↓if_pos,↓if_neg,if_pos,if_neg,bG,bq,S2,ax,bK]
 ·right;have e:gH 10 n=([],n):=by rw[gH,if_neg h]
  intro R kn kx;rw[PI,eE h];simp only[ao,bt,Km,e,ba]
theorem aKD:Zf.Ok:=by
 intro n hn;have hn:Ht n:=hn;have hl:=ab7 10 n;have e2:(128:Int)^(10+1)=151115727451828646838272:=rfl;have hd:=agK 10 n hn.1 (by have:=hn.2;rw[e2];omega);have p:U0 (n,0,[]):=⟨hn,rfl,by simp,by simp only[aZ];omega⟩;have hi:dX .u8 (gH 10 n).2=(gH 10 n).2:=by rw[Th,gX];omega
 rw[aKC,amh p];simp only[ah,bt,Km,aT,hi,bK,ax,cr,aj];rw[dr ak ak];simp only[aj,aN,ai,aA,aZ,ax,jh,cr];rw[eV (by rw[ai];rfl)];rfl
theorem ami:Zf.RS:=rE [.d ti] Zf
def ava:=Zf.eS aKD 1 ⟨.fp arl,trivial⟩
def cF(b:List Int)(n:Int):List Int:=if n < 0 then b else b++gl n
theorem dz(b:List Int)(n:Int):(cF b n).length<=b.length+11:=by
 unfold cF;have:=kE n;split
 ·omega
 ·rw[ai];omega
def aDT:(Bs×Int)->Prop:=λ(b,n)=>b.length<=90000000/\n<=9223372036854775807
def ph:(Bs×Int)->Bs:=λ(b,n)=>cF b n
def AN:Fs Tryz.prog aDT bt ph:=eN 113 Tryz.f113 (λ(b,n)=>([.d tB b,.d ti n],[])) (λx=>⟨.d tB x,[],[]⟩) [some tB,some ti] [Y3,ava]
theorem aKA{R:Type}(b n)(k:K1 R):AN.A (b,n) k=aH ((gq n 0)) (al (HV.call (b,([]:List Int))) λx1=>k (AN.out x1)) (al (Zf.call n) λx2=>al (HV.call (b,x2)) λx3=>k (AN.out x3)):=bY
theorem aKB:AN.Ok:=by
 rintro⟨b,n⟩ ⟨hb,hn⟩;have hb:b.length<=90000000:=hb;have hn:n<=9223372036854775807:=hn;rw[aKA];simp only[bt,ph,cF];by_cases h:n < 0
 ·rw[aU h,if_pos h,aj,Kk (d:=(b,[])) (by show b.length+([]:List Int).length<=_;simp only[aZ];omega)];simp only[ah,bt,ahT,ba]
 ·have hl:=kE n;rw[aR h,if_neg h,ao,ami (d:=n) ⟨ak,hn⟩];simp only[ah,bt,ark];rw[Kk (d:=(b,gl n)) (by show b.length+(gl n).length<=_;omega)];rfl
theorem jx:AN.RS:=rE [.d tB,.d ti] AN
def XE:=AN.eS aKB
def axT:(Bs×Int)->Prop:=λ(b,n)=>b.length<=90000000
def PH:(Bs×Int)->Bs:=λ(b,n)=>b++jo n
def H2:Fs Tryz.prog axT bt PH:=eN 128 Tryz.f128 (λ(b,n)=>([.d tB b,.d tu n],[])) (λx=>⟨.d tB x,[],[]⟩) [some tB,some tu] [Y3] {loops:=nX [(3,{aV:=[0,1,5,7],sites:=[5,21]})],outs:=nV [(3,{aV:=[0,5],sites:=[5,21]},{aV:=[4],sites:=[5,21]})]} 12
theorem aDZ{R:Type}(b n)(k:K1 R):H2.A (b,n) k=al (HV.call (b,[(dX .u8 (cv .u64 n 56)),(dX .u8 (cv .u64 n 48)),(dX .u8 (cv .u64 n 40)),(dX .u8 (cv .u64 n 32)),(dX .u8 (cv .u64 n 24)),(dX .u8 (cv .u64 n 16)),(dX .u8 (cv .u64 n 8)),(dX .u8 (cv .u64 n 0))])) λx1=>k (H2.out x1):=bY
theorem aD0:H2.Ok:=by
 rintro⟨b,n⟩ hb;have hb:b.length<=90000000:=hb;have p:afy (b,jo n):=by show b.length+(jo n).length<=_;rw[cj];omega
 have e:HV.call (b,[dX .u8 (cv .u64 n 56),dX .u8 (cv .u64 n 48),dX .u8 (cv .u64 n 40),dX .u8 (cv .u64 n 32),dX .u8 (cv .u64 n 24),dX .u8 (cv .u64 n 16),dX .u8 (cv .u64 n 8),dX .u8 (cv .u64 n 0)])=some (b++jo n):=by rw[alp];exact Kk p
 rw[aDZ];refine Eq.trans (bo (λx=>al x _) e) ?_
 rfl
theorem Ed:H2.RS:=rE [.d tB,.d tu] H2
def amg:=H2.eS aD0 1 ⟨.none bY,trivial⟩
def BO(w:UC):Bool:=decide (0<=w.1/\w.1 < 4) && decide (w.2.1.length<=12)
def Ij(x:gG):Bool:=decide (0<=x.1.2.1/\x.1.2.1 < 64) && BO x.2.1
def Qh(m:List (bF×Bool))(x:gG):Bool:=(bQ bl x.1 m).getD false
def Em:List (bF×Bool)->List gG->Bool
 |_,[]=>true
 |m,x::l=>(!(Qh m x) && Ij x) && Em (eF bl x.1 true m) l
def sP(a:Int):Bool:=decide (0<=a/\a<=1125899906842624)
def Lh(a b:Int):Bool:=sP a && (sP b && decide (a+b<=1125899906842624))
def xY:Int->List gf->Bool
 |_,[]=>true
 |s,o::l=>(Lh s o.1 && kP o.2.1) && xY (s+o.1) l
def adg(t:dv):Bool:=decide (1<=t.1.length/\t.1.length<=64/\t.2.1.length<=64/\0<=t.2.2.1)
def gV(t:dv):Bool:=adg t && (Em [] t.1 && xY 0 t.2.1)
def aNS(l:Lk):Prop:=adD l/\l.1.length<=9223372036854775807
def aQa(t:dv):Prop:=(∀o∈t.2.1,aNS o.2.1)/\t.1.length<=9223372036854775807/\t.2.1.length<=9223372036854775807
def aID:UC->Prop:=λ_=>True
def akD:UC->Bool:=λw=>BO w
def aeV:Fs Tryz.prog aID bt akD:=eN 87 Tryz.f87 (λwv=>([.d aA1 wv],[])) (λx=>⟨.d .bool x,[],[]⟩) [some aA1]
theorem aMP{R:Type}(wv)(k:K1 R):aeV.A wv k=aH ((Cm wv.1 0)) (aH ((gq wv.1 4)) (k (aeV.out (aiU (wv.2.1.length:Int) 12))) (k (aeV.out false))) (k (aeV.out false)):=bY
theorem aMQ:aeV.Ok:=by
 rintro⟨b,ss,sc,u⟩ _;rw[aMP];simp only[bt,akD,BO];by_cases h:0<=b
 ·rw[gr h,aj];by_cases h2:b < 4
  ·rw[aU h2,aj,aM ⟨h,h2⟩];by_cases h3:ss.length<=12
   ·rw[oe ak,aM h3];rfl
   ·rw[j7 ak,aS h3];rfl
  ·rw[aR h2,ao,aS (λx=>h2 x.2)];rfl
 ·rw[eE h,ao,aS (λx=>h x.1)];rfl
theorem apM:aeV.RS:=rE [.d aA1] aeV
def awq:=aeV.eS aMQ
def ass:Int->Prop:=λ_=>True
def aa1:Int->Bool:=λa=>sP a
def F3:Fs Tryz.prog ass bt aa1:=eN 169 Tryz.f169 (λa=>([.d ti a],[])) (λx=>⟨.d .bool x,[],[]⟩) [some ti]
theorem azj{R:Type}(a)(k:K1 R):F3.A a k=aH ((Cm a 0)) (k (F3.out (aiU a 1125899906842624))) (k (F3.out false)):=bY
theorem azk:F3.Ok:=by
 intro(a:Int) _;rw[azj];simp only[bt,aa1,sP];by_cases h:0<=a
 ·rw[gr h,aj];by_cases h2:a<=1125899906842624
  ·rw[oe h2,aM ⟨h,h2⟩]
  ·rw[j7 h2,aS (λx=>h2 x.2)]
 ·rw[eE h,ao,aS (λx=>h x.1)]
theorem aa2:F3.RS:=rE [.d ti] F3
def azl:=F3.eS azk
def aGe:(Int×Int)->Prop:=λ_=>True
def asr:(Int×Int)->(Int×Bool):=λ(a,b)=>(bif Lh a b then a+b else 0,Lh a b)
def ad9:Fs Tryz.prog aGe bt asr:=eN 110 Tryz.f110 (λ(a,b)=>([.d ti a,.d ti b],[])) (λx=>⟨.cons (.d ti x.1) (.cons (.d .bool x.2) (.nil)),[],[]⟩) [some ti,some ti] [azl]
theorem aLP{R:Type}(a b)(k:K1 R):ad9.A (a,b) k=al (F3.call a) λx1=>aH ((!x1)) (k (ad9.out (0,false))) (al (F3.call b) λx2=>aH ((!x2)) (k (ad9.out (0,false))) (aH ((rz a (cP .i64 1125899906842624 b))) (k (ad9.out (0,false))) (k (ad9.out ((bI .i64 a b),true))))):=bY
theorem aLQ:ad9.Ok:=by
 rintro⟨a,b⟩ _;rw[aLP,aa2 (d:=a) trivial,aa2 (d:=b) trivial];simp only[ah,bt,aa1,bt,asr,Lh];cases ha:sP a
 ·rfl
 ·cases hb:sP b
  ·rfl
  ·simp only[sP,aW]at ha hb;simp only[cz,ao,bu];rw[eL ak ak];by_cases h:a+b<=1125899906842624
   ·rw[cn ak,ao,aM h,fU ak ak];rfl
   ·rw[cR ak,aj,aS h];rfl
theorem aGf:ad9.RS:=rE [.d ti,.d ti] ad9
def aLR:=ad9.eS aLQ
abbrev xO:=dv×(List gG)×Int×Int×(List (bF×Bool))
def nO:xO->AS:=λ(oQ,t33,t34,t35,n31)=>⟨([bE,.dD eA oQ,bE,.ct (.new 31 0) 0]++aP 29 ([.d (.slice fY) t33,.d ti t34,.d ti t35]++aP 52 [])),[],(bM 31 ([dK (.mp bl .bool n31)]++bM 56 []))⟩
def fZ:Unit->Exit×AS:=λx=>(.ret,⟨([bE,bE,.d .bool false]++aP 85 []),[],(ab 88 [])⟩)
def w8:dv->Exit×AS:=λx=>(.exit 0,⟨([bE,.dD eA x]++aP 86 []),[],(ab 88 [])⟩)
abbrev JQ:=(Unit)⊕(dv)
abbrev WE:=(Unit)⊕(Unit)
def DP:JQ->Out (Exit×AS):=λx=> .br x.isLeft (.get x.getLeft? λa=> .ok (fZ a)) (.get x.getRight? λb=> .ok (w8 b))
def jX:xO->WE->JQ:=λ(oQ,t33,t34,t35,n31) y=>match y with | .inl y=> .inl y | .inr z=> .inr (oQ)
abbrev xP:=Int×(List gf)×Int×Int
def nP:xP->AS:=λ(sum,t66,t67,t68)=>⟨(aP 6 ([.d ti sum]++aP 59 ([.d (.slice gb) t66,.d ti t67,.d ti t68]++aP 19 []))),[],(ab 88 [])⟩
def jZ:Unit->Exit×AS:=λx=>(.ret,⟨([bE,bE,.d .bool false]++aP 85 []),[],(ab 88 [])⟩)
def xc:Unit->Exit×AS:=λx=>(.exit 2,⟨(aP 88 []),[],(ab 88 [])⟩)
abbrev JU:=(Unit)⊕(Unit)
abbrev WI:=(Unit)⊕(Unit)
def DQ:JU->Out (Exit×AS):=λx=> .br x.isLeft (.get x.getLeft? λa=> .ok (jZ a)) (.get x.getRight? λb=> .ok (xc b))
def jY:xP->WI->JU:=λ(sum,t66,t67,t68) y=>match y with | .inl y=> .inl y | .inr z=> .inr (z)
def w7:xO->Prop:=λ(t,l,n,i,m)=>l.length<=9223372036854775807/\n=l.length/\∃k:Nat,k<=l.length/\i=k
def nk:xO->WE:=λ(t,l,n,i,m)=>if Em m (l.drop i.toNat) then .inr () else .inl ()
def w9:xP->Prop:=λ(s,l,n,i)=>(∀o∈l,aNS o.2.1)/\l.length<=9223372036854775807/\n=l.length/\∃k:Nat,k<=l.length/\i=k
def np:xP->WI:=λ(s,l,n,i)=>if xY s (l.drop i.toNat) then .inr () else .inl ()
def auf:dv->Prop:=λt=>aQa t
def rR:dv->Bool:=λt=>gV t
def WD:=dy.fp nO w7 jX nk DP
def JR:xO->Option JQ:=gB WD nO
def WH:=dy.fp nP w9 jY np DQ
def BJ:xP->Option JU:=gB WH nP
def iI:Fs Tryz.prog auf bt rR:=eN 67 Tryz.f67 (λt=>([.d eA t],[])) (λx=>⟨.d .bool x,[],[]⟩) [some eA] [awq,aLR,Ep] {loops:=nX [(5,{aV:=[1,3,33,34,35],sites:=[31]}),(13,{aV:=[6,66,67,68]})],outs:=nV [(5,{aV:=[1]},{aV:=[2]}),(13,{},{aV:=[2]})],fC:=na [(5,WD),(13,WH)]}
def JP:= @ee Tryz.prog (jy iI.G) iI.an 0 Tryz.f67 0 _ nO
abbrev RV:=kj Tryz.prog (jy iI.G) iI.an 0 Tryz.f67 0 nO w7 jX nk DP
def JT:= @ee Tryz.prog (jy iI.G) iI.an 0 Tryz.f67 1 _ nP
abbrev RW:=kj Tryz.prog (jy iI.G) iI.an 0 Tryz.f67 1 nP w9 jY np DQ
theorem aeR:iW JR w7 jX nk:=l6 (jk [.d eA,.d (.slice fY),.d ti,.d ti,.d (.slice (.pair bl .bool))] λ_=>bY)
theorem ON:mP @JP nO w7 jX nk DP RV:=nD
theorem JS{R:Type}(oQ:dv)(t33:(List gG))(t34:Int)(t35:Int)(n31:(List (bF×Bool)))(kn:AS->Option R)(kx:Exit->AS->Option R):JP (oQ,t33,t34,t35,n31) kn kx=aH ((gq t35 t34)) (aH (eo t35 (((ag t33):Nat):Int)) (aH (((bQ bl (nth fY t33 (ae t35)).1 n31).getD false)) (kx (fZ ()).1 (fZ ()).2) (aH ((gq (nth fY t33 (ae t35)).1.2.1 (0:Int))) (kx (fZ ()).1 (fZ ()).2) (aH ((Cm (nth fY t33 (ae t35)).1.2.1 (64:Int))) (kx (fZ ()).1 (fZ ()).2) (al (aeV.call (nth fY t33 (ae t35)).2.1) λx8=>aH ((!x8)) (kx (fZ ()).1 (fZ ()).2) (kn (nO (oQ,t33,t34,(bI .i64 t35 (1:Int)),(eF bl (nth fY t33 (ae t35)).1 true n31)))))))) none) (kx (w8 oQ).1 (w8 oQ).2):=bY
theorem aeS:iW BJ w9 jY np:=l6 (jk [.d ti,.d (.slice gb),.d ti,.d ti] λ_=>bY)
theorem OO:mP @JT nP w9 jY np DQ RW:=nD
theorem JV{R:Type}(sum:Int)(t66:(List gf))(t67:Int)(t68:Int)(kn:AS->Option R)(kx:Exit->AS->Option R):JT (sum,t66,t67,t68) kn kx=aH ((gq t68 t67)) (aH (eo t68 (((ag t66):Nat):Int)) (al (ad9.call (sum,(nth gb t66 (ae t68)).1)) λap0=>aH ((!ap0.2)) (kx (jZ ()).1 (jZ ()).2) (al (pH.call (nth gb t66 (ae t68)).2.1) λaM2=>aH ((!aM2)) (kx (jZ ()).1 (jZ ()).2) (kn (nP (ap0.1,t66,t67,(bI .i64 t68 (1:Int))))))) none) (kx (xc ()).1 (xc ()).2):=bY
theorem aBd{R:Type}(t)(k:K1 R):iI.A t k=aH ((gq (t.1.length:Int) 1)) (k (iI.out false)) (aH ((rz (t.1.length:Int) 64)) (k (iI.out false)) (aH ((rz (t.2.1.length:Int) 64)) (k (iI.out false)) (aH ((gq t.2.2.1 0)) (k (iI.out false)) (al (JR (t,t.1,(t.1.length:Int),0,([]:List (bF×Bool)))) λaM2=>aH (aM2.isLeft) (al (aM2.getLeft?) λa13=>k (iI.out false)) (al (aM2.getRight?) λb14=>al (BJ (0,b14.2.1,(b14.2.1.length:Int),0)) λahj=>aH (ahj.isLeft) (al (ahj.getLeft?) λa31=>k (iI.out false)) (al (ahj.getRight?) λb32=>k (iI.out true))))))):=bY
theorem aky:RV:=by
 refine ON (λ(t,l,n,i,m)=>l.length - i.toNat) ?_
 rintro⟨t,l,n,i,m⟩ ⟨hb,rfl,k,hk,rfl⟩;have hb:l.length<=9223372036854775807:=hb;have hk:k<=l.length:=hk;by_cases h:k < l.length
 ·have n1:nth fY l k=l[k]:=cg (t:=fY) h;have hd:Em m (l.drop k)=((!(Qh m l[k]) && Ij l[k]) && Em (eF bl l[k].1 true m) (l.drop (k+1))):=by rw[aq h];rfl
  have step:∀ {R:Type} (kn:AS->Option R) (kx:Exit->AS->Option R),JP (t,l,(l.length:Int),(k:Int),m) kn kx=aH (!(Qh m l[k]) && Ij l[k]) (kn (nO (t,l,(l.length:Int),((k+1:Nat):Int),eF bl l[k].1 true m))) (kx (fZ ()).1 (fZ ()).2):=by
   intro R kn kx;rw[JS,aU ak,bg ak ak,aa,n1,N.mO ak,apM (d:=l[k].2.1) trivial];simp only[aj,ah,bt,akD];have e:(bQ bl l[k].1 m).getD false=Qh m l[k]:=rfl;rw[e];cases Qh m l[k]
   ·simp only[eZ,bu,ao,Ij];by_cases h1:l[k].1.2.1 < 0
    ·rw[aU h1,aj,aS (λx=>ak)];rfl
    ·rw[aR h1,ao];by_cases h2:64<=l[k].1.2.1
     ·rw[gr h2,aj,aS (λx=>ak)];rfl
     ·rw[eE h2,ao,aM ⟨ak,ak⟩];cases BO l[k].2.1 <;> rfl
   ·rfl
  cases hp:(!(Qh m l[k]) && Ij l[k])
  ·right;refine⟨fZ (),?_,λkn kx=> ?_⟩
   ·simp only[jX,nk,aa,hd,hp,cM,bn,bq];rfl
   ·rw[step,hp,ao]
  ·left;refine⟨(t,l,l.length,((k+1:Nat):Int),eF bl l[k].1 true m),⟨hb,rfl,k+1,ak,rfl⟩,by simp only[aa];omega,?_,λkn kx=> ?_⟩
   ·simp only[jX,nk,aa,hd,hp,bu]
   ·rw[step,hp,aj]
 ·right;obtain rfl:k=l.length:=ak;refine⟨w8 t,?_,λkn kx=> ?_⟩
  ·simp only[jX,nk,aa,aK];rfl
  ·rw[JS];simp(disch:=omega) only[↓S1,↓if_pos,↓if_neg,if_pos,if_neg,bG,bq,S2]
theorem akz:RW:=by
 refine OO (λ(s,l,n,i)=>l.length - i.toNat) ?_
 rintro⟨s,l,n,i⟩ ⟨hl,hb,rfl,k,hk,rfl⟩;have hb:l.length<=9223372036854775807:=hb;have hk:k<=l.length:=hk;by_cases h:k < l.length
 ·have hx:aNS l[k].2.1:=hl _ (aO h);have n1:nth gb l k=l[k]:=cg (t:=gb) h;have hd:xY s (l.drop k)=((Lh s l[k].1 && kP l[k].2.1) && xY (s+l[k].1) (l.drop (k+1))):=by rw[aq h];rfl
  have step:∀ {R:Type} (kn:AS->Option R) (kx:Exit->AS->Option R),JT (s,l,(l.length:Int),(k:Int)) kn kx=aH (Lh s l[k].1 && kP l[k].2.1) (kn (nP (s+l[k].1,l,(l.length:Int),((k+1:Nat):Int)))) (kx (jZ ()).1 (jZ ()).2):=by
   intro R kn kx;rw[JV,aU ak,bg ak ak,aa,n1,N.mO ak,aGf (d:=(s,l[k].1)) trivial,Be (d:=l[k].2.1) hx];simp only[aj,ah,bt,asr,bt,Eo];cases Lh s l[k].1
   ·rfl
   ·cases kP l[k].2.1 <;> rfl
  cases hp:(Lh s l[k].1 && kP l[k].2.1)
  ·right;refine⟨jZ (),?_,λkn kx=> ?_⟩
   ·simp only[jY,np,aa,hd,hp,cM,bn,bq];rfl
   ·rw[step,hp,ao]
  ·left;refine⟨(s+l[k].1,l,l.length,((k+1:Nat):Int)),⟨hl,hb,rfl,k+1,ak,rfl⟩,by simp only[aa];omega,?_,λkn kx=> ?_⟩
   ·simp only[jY,np,aa,hd,hp,bu]
   ·rw[step,hp,aj]
 ·right;obtain rfl:k=l.length:=ak;refine⟨xc (),?_,λkn kx=> ?_⟩
  ·simp only[jY,np,aa,aK];rfl
  ·rw[JV];simp(disch:=omega) only[↓S1,↓if_pos,↓if_neg,if_pos,if_neg,bG,bq,S2]
theorem aBe:iI.Ok:=by
 rintro⟨is,os,nt,u⟩ ⟨hl,h1,h2⟩;have h1:is.length<=9223372036854775807:=h1;have h2:os.length<=9223372036854775807:=h2;rw[aBd,aeR (d:=((is,os,nt,u),is,is.length,0,[])) ⟨h1,rfl,0,ak,rfl⟩];simp only[ah,jX,nk,aX,aD,bt,rR,gV,adg];by_cases a1:is.length < 1
 ·rw[aU ak,aj,aS (λx=>ak)];rfl
 rw[aR ak,ao];by_cases a2:64 < is.length
 ·rw[cR ak,aj,aS (λx=>ak)];rfl
 rw[cn ak,ao];by_cases a3:64 < os.length
 ·rw[cR ak,aj,aS (λx=>ak)];rfl
 rw[cn ak,ao];by_cases a4:nt < 0
 ·rw[aU ak,aj,aS (λx=>ak)];rfl
 rw[aR ak,ao,aM ⟨ak,ak,ak,ak⟩];cases Em [] is
 ·rfl
 ·simp only[bG,bu];show al (BJ (0,os,(os.length:Int),0)) _=_;rw[aeS (d:=(0,os,os.length,0)) ⟨hl,h2,rfl,0,ak,rfl⟩];simp only[ah,jY,np,aX,aD];cases xY 0 os <;> rfl
theorem qb:iI.RS:=rE [.d eA] iI
def tR:=iI.eS aBe 2 ⟨.fp aky,⟨.fp akz,trivial⟩⟩
def asG:Bs->Prop:=λl=>l.length<=1000000
def QZ:Bs->Bs:=λl=>l
def Bn:Fs Tryz.prog asG bt QZ:=eN 129 Tryz.f129 (λsv=>([.d tU sv],[])) (λx=>⟨.d tU x,[],[]⟩) [some tU] [] {bJ:=[5],res:=[some tU]}
theorem azC{R:Type}(sv)(k:K1 R):Bn.A sv k=aH (decide (0 < (ag sv))) (aH (da (0+(ag sv)) 8) (aH (decide (0=0/\(0+(0+(ag sv)))<=(ag ((aQ 0 (ab 0 0))++sv)))) (k (Bn.out (cut ((aQ 0 (ab 0 0))++sv) 0 (0+(ag sv))))) none) none) (nd (k (Bn.out ([]:List Int))) (aH (da (0+(ag sv)) 8) (aH (decide (0=0/\(0+(0+(ag sv)))<=(ag ((aQ 0 (ab 0 0))++sv)))) (k (Bn.out (cut ((aQ 0 (ab 0 0))++sv) 0 (0+(ag sv))))) none) none)):=bY
theorem azD:Bn.Ok:=by
 intro l hl;have hl:l.length<=1000000:=hl;have hr:da l.length 8=true:=dr ak ak;have e0:(aQ 0 (ab 0 0):List Int)=[]:=rfl;rw[azC];simp only[aN,hr,aj,e0,aT,ax,jh,cr,eV,bt,QZ];by_cases h:0 < l.length
 ·simp only[aM h,aj]
 ·have:l=[]:=bD ak;subst this;simp only[aZ,zI,aS (hJ 0),ao]
theorem Oh:Bn.RS:=rE [.d tU] Bn
def TG:=Bn.eS azD
def aNY(l:List Int):Lk:=([(l,0,0,0,())],())
def aFC:Bs->Prop:=λl=>l.length<=1000000
def aPf:Bs->Lk:=λl=>aNY l
def ar3:Fs Tryz.prog aFC bt aPf:=eN 83 Tryz.f83 (λl=>([.d tU l],[])) (λx=>⟨.d OZ x,[],[]⟩) [some tU] [TG]
theorem aLt{R:Type}(l)(k:K1 R):ar3.A l k=al (Bn.call l) λx1=>k (ar3.out ([(x1,(0,(0,(0,()))))],())):=bY
theorem aLu:ar3.Ok:=by intro l hl;rw[aLt,Oh (d:=l) hl];rfl
theorem aFD:ar3.RS:=rE [.d tU] ar3
def aLv:=ar3.eS aLu
def aFM:Int->Prop:=λ_=>True
def aPh:Int->Lk:=λp=>aNY [p]
def anv:Fs Tryz.prog aFM bt aPh:=eN 37 Tryz.f37 (λp=>([.d tu p],[])) (λx=>⟨.d OZ x,[],[]⟩) [some tu] [aLv]
theorem aLB{R:Type}(p)(k:K1 R):anv.A p k=al (ar3.call [p]) λx1=>k (anv.out x1):=bY
theorem aLC:anv.Ok:=by intro p _;rw[aLB,aFD (d:=[p]) (by show [p].length<=_;simp)];rfl
theorem aFN:anv.RS:=rE [.d tu] anv
def aLD:=anv.eS aLC
def mE(o:List Int)(ks:List Int):List Int:=ks.foldl (λo p=>o++jo p) o
def aBV(o:List Int)(b:oq):List Int:=cF (cF (mE (cF o b.1.length) b.1) b.2.1) b.2.2.1++jo b.2.2.2.1
def NX(l:Lk):List Int:=if kP l then l.1.foldl aBV (cF [] l.1.length) else []
theorem KE:∀(ks:List Int) (o:List Int),(mE o ks).length=o.length+8*ks.length
 |[],o=>rfl
 |k::ks,o=>by show(mE (o++jo k) ks).length=_;rw[KE ks,ai,cj,aA];omega
theorem ahE(o:List Int)(b:oq)(h:b.1.length<=12):(aBV o b).length<=o.length+200:=by unfold aBV;have h1:=dz o b.1.length;have h2:=KE b.1 (cF o b.1.length);have h3:=dz (mE (cF o b.1.length) b.1) b.2.1;have h4:=dz (cF (mE (cF o b.1.length) b.1) b.2.1) b.2.2.1;rw[ai,cj];omega
def aJz(n:Int):Prop:=n<=9223372036854775807
def aQI(b:oq):Prop:=b.1.length<=12/\aJz b.2.1/\aJz b.2.2.1
theorem aOd{b:oq}(h:vd b=true):aQI b:=by unfold vd NQ at h;simp only[au,aW]at h;obtain⟨h1,_,h2,h3,_⟩:=h;exact⟨h1,by unfold aJz;omega,by unfold aJz;omega⟩
theorem aac(o:List Int)(ks:List Int)(k:Nat)(h:k < ks.length):mE o (ks.drop k)=mE (o++jo ks[k]) (ks.drop (k+1)):=by rw[aq h];rfl
abbrev Vx:=Bs×(List oq)×Int×Int
abbrev Iq:=Bs×(List oq)×Int×Int×Bs×Int×Int×oq
def wy:Iq->Bs->(((List oq)×Int×Int×oq)×(Bs)):=λ(vM,BE,acG,acH,t28,t29,t30,n5) y=>((BE,acG,acH,n5),y)
def adY:Iq->Prop:=λ(o,bs,n,i,ks,m,j,b)=>ks.length<=12/\o.length+8*ks.length<=80000000+8*j.toNat/\m=ks.length/\∃k:Nat,k<=ks.length/\j=k
def Cq:Iq->Bs:=λ(o,bs,n,i,ks,m,j,b)=>mE o (ks.drop j.toNat)
def adW:Vx->Prop:=λ(o,bs,n,i)=>(∀b∈bs,aQI b)/\bs.length<=4/\o.length<=1000+200*i.toNat/\n=bs.length/\∃k:Nat,k<=bs.length/\i=k
def Io:Vx->Bs:=λ(o,bs,n,i)=>(bs.drop i.toNat).foldl aBV o
def ar4:Lk->Prop:=λl=>adD l/\l.1.length<=9223372036854775807
def QD:Lk->Bs:=λl=>NX l
def qz:Ls adW bt Io:=rW (λ(outv,t16,t17,t18)=>⟨([bE,bE,bE,.d tB outv]++aP 12 ([.d (.slice ke) t16,.d ti t17,.d ti t18]++aP 31 [])),[],(ab 50 [])⟩) (λx=>(.exit 0,⟨([bE,bE,bE,.d tB x]++aP 46 []),[],(ab 50 [])⟩))
def qA:Ls adY wy Cq:=rW (λ(vM,BE,acG,acH,t28,t29,t30,n5)=>⟨([bE,bE,bE,.d tB vM,bE,eT 5]++aP 10 ([.d (.slice ke) BE,.d ti acG,.d ti acH]++aP 9 ([.d tU t28,.d ti t29,.d ti t30]++aP 19 []))),[],(bM 5 ([dK (.d ke n5)]++bM 44 []))⟩) (λx=>(.exit 2,⟨([bE,bE,bE,.d tB x.2,bE,eT 5]++aP 10 ([.d (.slice ke) x.1.1,.d ti x.1.2.1,.d ti x.1.2.2.1]++aP 31 [])),[],(bM 5 ([dK (.d ke x.1.2.2.2)]++bM 44 []))⟩))
def s8:Fs Tryz.prog ar4 bt QD:=eN 116 Tryz.f116 (λl=>([.d OZ l],[])) (λx=>⟨.d tB x,[],[]⟩) [some OZ] [Ep,XE,amg] {loops:=nX [(5,{aV:=[3,16,17,18]}),(9,{aV:=[3,5,16,17,18,28,29,30],sites:=[5]})],outs:=nV [(5,{aV:=[3]},{aV:=[2]}),(9,{aV:=[3,5,16,17,18],sites:=[5]},{aV:=[2]})],fC:=na [(5,qz.E),(9,qA.E)],res:=[some tB]}
theorem adX:qz.RS:=rL [.d tB,.d (.slice ke),.d ti,.d ti] qz
theorem Ip{R:Type}(outv t16 t17 t18)(kn:K2 R)(kx:K3 R):s8.R 0 qz (outv,t16,t17,t18) kn kx=aH ((gq t18 t17)) (aH (eo t18 (t16.length:Int)) (al (AN.call (outv,(((ag (nth ke t16 (ae t18)).1):Nat):Int))) λx1=>al (qA.call (x1,t16,t17,t18,(nth ke t16 (ae t18)).1,(((ag (nth ke t16 (ae t18)).1):Nat):Int),0,(nth ke t16 (ae t18)))) λx2=>al (AN.call (x2.2,x2.1.2.2.2.2.1)) λx3=>al (AN.call (x3,x2.1.2.2.2.2.2.1)) λx4=>al (H2.call (x4,x2.1.2.2.2.2.2.2.1)) λx5=>kn (qz.st (x5,x2.1.1,x2.1.2.1,(bI .i64 x2.1.2.2.1 1)))) none) (qz.go kx outv):=bY
theorem adZ:qA.RS:=rL [.d tB,.d (.slice ke),.d ti,.d ti,.d tU,.d ti,.d ti,.d ke] qA
theorem Ir{R:Type}(vM BE acG acH t28 t29 t30 n5)(kn:K2 R)(kx:K3 R):s8.R 1 qA (vM,BE,acG,acH,t28,t29,t30,n5) kn kx=aH ((gq t30 t29)) (aH (eo t30 (t28.length:Int)) (al (H2.call (vM,(nth tu t28 (ae t30)))) λx1=>kn (qA.st (x1,BE,acG,acH,t28,t29,(bI .i64 t30 1),n5))) none) (qA.go kx ((BE,acG,acH,n5),vM)):=bY
theorem ayS{R:Type}(l)(k:K1 R):s8.A l k=al (pH.call l) λx1=>aH ((!x1)) (k (s8.out ([]:List Int))) (al (AN.call (([]:List Int),(l.1.length:Int))) λx2=>al (qz.call (x2,l.1,(l.1.length:Int),0)) λx9=>k (s8.out x9)):=bY
theorem ai7:(s8.kN 1 qA):=by
 refine(s8.mh 1 qA) (λ(o,bs,n,i,ks,m,j,b)=>ks.length - j.toNat) ?_
 rintro⟨o,bs,n,i,ks,m,j,b⟩ ⟨aOV,hl,rfl,k,hk,rfl⟩;have aOV:ks.length<=12:=aOV;have hk:k<=ks.length:=hk;have hl:o.length+8*ks.length<=80000000+8*(k:Int).toNat:=hl;rw[aa]at hl;by_cases h:k < ks.length
 ·left;have n1:nth (.int .u64) ks k=ks[k]:=cg (t:= .int .u64) h;refine⟨(o++jo ks[k],bs,n,i,ks,ks.length,((k+1:Nat):Int),b),⟨aOV,by rw[ai,cj,aa];omega,rfl,k+1,ak,rfl⟩,by simp only[aa];omega,?_,λkn kx=> ?_⟩
  ·simp only[wy,Cq,aa];rw[aac _ _ _ h]
  ·rw[Ir];simp(disch:=omega) only[↓S1,↓if_pos,↓if_neg,if_pos,if_neg,bG,bq,S2,n1];rw[Ed (d:=(o,ks[k])) (by show o.length<=90000000;omega)];rfl
 ·right;obtain rfl:k=ks.length:=ak;intro R kn kx;rw[Ir];simp(disch:=omega) only[↓S1,↓if_pos,↓if_neg,if_pos,if_neg,bG,bq,S2,wy,Cq,aK];rfl
theorem ai6:(s8.kN 0 qz):=by
 refine(s8.mh 0 qz) (λ(o,bs,n,i)=>bs.length - i.toNat) ?_
 rintro⟨o,bs,n,i⟩ ⟨hb,h4,hl,rfl,k,hk,rfl⟩;have h4:bs.length<=4:=h4;have hk:k<=bs.length:=hk;have hl:o.length<=1000+200*(k:Int).toNat:=hl;rw[aa]at hl;by_cases h:k < bs.length
 ·left;have hx:=hb _ (aO h);have n1:nth (.pair (.slice (.int .u64)) (.pair (.int .i64) (.pair (.int .i64) (.pair (.int .u64) .unit)))) bs k=bs[k]:=cg (t:=(.pair (.slice (.int .u64)) (.pair (.int .i64) (.pair (.int .i64) (.pair (.int .u64) .unit))))) h;have e0:=ahE o bs[k] hx.1;refine⟨(aBV o bs[k],bs,bs.length,((k+1:Nat):Int)),⟨hb,h4,by rw[aa];omega,rfl,k+1,ak,rfl⟩,by simp only[aa];omega,?_,λkn kx=> ?_⟩
  ·simp only[bt,Io,aa];rw[aq h];rfl
  ·rw[Ip,aU ak,bg ak ak,aa,n1];obtain⟨⟨ks,af,dl,sc,u⟩,aOI⟩:∃b,bs[k]=b:=⟨_,rfl⟩;rw[aOI]at hx e0 ⊢;obtain⟨afX,ha,hd⟩:=hx;have afX:ks.length<=12:=afX;have ha:af<=9223372036854775807:=ha;have hd:dl<=9223372036854775807:=hd;have l1:=dz o ks.length;have l2:=KE ks (cF o ks.length);have l3:=dz (mE (cF o ks.length) ks) af;have l4:=dz (cF (mE (cF o ks.length) ks) af) dl;simp only[aj];rw[jx (d:=(o,(ks.length:Int))) ⟨by show o.length<=90000000;omega,by show(ks.length:Int)<=9223372036854775807;omega⟩];simp only[ah,bt,ph];rw[adZ (d:=(cF o ks.length,bs,bs.length,k,ks,ks.length,0,(ks,af,dl,sc,u))) ⟨afX,by show(cF o ks.length).length+8*ks.length<=_;omega,rfl,0,ak,rfl⟩];simp only[ah,wy,Cq,aX,aD];rw[jx (d:=(mE (cF o ks.length) ks,af)) ⟨by show(mE (cF o ks.length) ks).length<=90000000;omega,ha⟩];simp only[ah,bt,ph];rw[jx (d:=(cF (mE (cF o ks.length) ks) af,dl)) ⟨by show(cF (mE (cF o ks.length) ks) af).length<=90000000;omega,hd⟩];simp only[ah,bt,ph];rw[Ed (d:=(cF (cF (mE (cF o ks.length) ks) af) dl,sc)) (by show(cF (cF (mE (cF o ks.length) ks) af) dl).length<=90000000;omega)];simp only[ah,bt,PH];rw[N.mO ak];rfl
 ·right;obtain rfl:k=bs.length:=ak;intro R kn kx;rw[Ip];simp(disch:=omega) only[↓S1,↓if_pos,↓if_neg,if_pos,if_neg,bG,bq,S2,bt,Io,aK];rfl
theorem asa{l:Lk}(h:kP l=true):(∀b∈l.1,aQI b)/\0 < l.1.length/\l.1.length<=4:=by unfold kP at h;simp only[au,cV,aW]at h;exact⟨λb hb=>aOd (h.1 b hb),h.2⟩
theorem ayT:s8.Ok:=by
 rintro l ⟨hl,hb⟩;have hl:adD l:=hl;rw[ayS,Be (d:=l) ⟨hl,hb⟩];simp only[ah,bt,Eo,bt,QD,NX];cases jj:kP l
 ·rfl
 ·obtain⟨h1,h2,h3⟩:=asa jj;have l1:=dz [] l.1.length;have l0:([]:List Int).length=0:=rfl;simp only[cz,ao,bG];rw[jx (d:=([],(l.1.length:Int))) ⟨by show([]:List Int).length<=90000000;omega,by show(l.1.length:Int)<=9223372036854775807;omega⟩];simp only[ah,bt,ph];rw[adX (d:=(cF [] l.1.length,l.1,l.1.length,0)) ⟨h1,h3,by show(cF [] l.1.length).length<=_;omega,rfl,0,ak,rfl⟩];rfl
theorem KF(l:Lk):(NX l).length<=1000:=by
 unfold NX;split
 ·rename_i h;obtain⟨h1,h2,h3⟩:=asa h;have key:∀(bs:List oq) (o:List Int),(∀b∈bs,aQI b)->(bs.foldl aBV o).length<=o.length+200*bs.length:=by
   intro bs
   induction bs with
   |nil=>intro o _;exact ax _
   |cons b bs ih=>
    intro o hb;have e1:=ih (aBV o b) λx hx=>hb x (aI _ hx)
    have e2:=ahE o b (hb b aL).1;rw[bA,aA];omega
  have e:=key l.1 (cF [] l.1.length) h1;have e2:=dz [] l.1.length;have l0:([]:List Int).length=0:=rfl;omega
 ·exact aJ _
theorem aai:s8.RS:=rE [.d OZ] s8
def af6:=s8.eS ayT 2 ⟨.fp ai6,⟨.fp ai7,trivial⟩⟩
def axS:(Bs×Bs)->Prop:=λ(b,h)=>b.length+h.length<=100000000/\h.length=32
def PG:(Bs×Bs)->Bs:=λ(b,h)=>b++h
def Ly:Fs Tryz.prog axS bt PG:=eN 114 Tryz.f114 (λ(b,h)=>([.d tB b,.d tH h],[])) (λx=>⟨.d tB x,[],[]⟩) [some tB,some tH] [Y3]
theorem aDX{R:Type}(b h)(k:K1 R):Ly.A (b,h) k=al (HV.call (b,(cut h 0 32))) λx1=>k (Ly.out x1):=bY
theorem aDY:Ly.Ok:=by rintro⟨b,h⟩ ⟨h1,h2⟩;have h1:b.length+h.length<=100000000:=h1;have h2:h.length=32:=h2;rw[aDX,eV h2,Kk (d:=(b,h)) h1];rfl
theorem Kl:Ly.RS:=rE [.d tB,.d tB] Ly
def amf:=Ly.eS aDY
def axQ:(Bs×Bs)->Prop:=λ(b,c)=>b.length+c.length<=90000000
def ah4:(Bs×Bs)->Bs:=λ(b,c)=>b++(gl c.length++c)
def Ze:Fs Tryz.prog axQ bt ah4:=eN 115 Tryz.f115 (λ(b,c)=>([.d tB b,.d tB c],[])) (λx=>⟨.d tB x,[],[]⟩) [some tB,some tB] [ava,YD] {res:=[some tB]}
theorem aDU{R:Type}(b c)(k:K1 R):Ze.A (b,c) k=al (Zf.call (c.length:Int)) λx1=>al (oN.call [b,x1,c]) λx2=>k (Ze.out x2):=bY
theorem aDV:Ze.Ok:=by rintro⟨b,c⟩ h;have h:b.length+c.length<=90000000:=h;have hl:=kE c.length;rw[aDU,ami (d:=(c.length:Int)) ⟨ak,ak⟩];simp only[ah,bt,ark];rw[UG (d:=[b,gl c.length,c]) ⟨by show [b,gl c.length,c].length<=_;simp,by show uL [b,gl c.length,c]<=_;simp only[uL,jr,qi,ba,ai];omega⟩];simp only[ah,bt,Sv,bt,ah4,jr,qi,ba]
theorem axR:Ze.RS:=rE [.d tB,.d tB] Ze
def aDW:=Ze.eS aDV
def KB(b:List Int)(x:gG):List Int:=cF (b++x.1.1) x.1.2.1
def La(b:List Int)(o:gf):List Int:=cF b o.1++(gl (NX o.2.1).length++NX o.2.1)
def uT(t:dv):List Int:=cF (t.2.1.foldl La (cF (t.1.foldl KB (cF [] t.1.length)) t.2.1.length)) t.2.2.1
def acp(b:List Int)(s:Sg):List Int:=b++jo s.1++jo s.2.1
def auy(b:List Int)(x:gG):List Int:=x.2.1.2.1.foldl acp (cF (cF b x.2.1.1) x.2.1.2.1.length)++jo x.2.1.2.2.1
def aur(t:dv):List Int:=if gV t then t.1.foldl auy (uT t) else []
def mj(t:dv):List Int:=if gV t then tag (bH (⟨#[116,120]⟩:ByteArray)) [uT t] else ab 32 0
def aU2(x:gG):Prop:=Sm x.1.1/\Yg x.2.1/\x.2.1.2.1.length<=9223372036854775807
def nT(t:dv):Prop:=aQa t/\(∀x∈t.1,aU2 x)/\t.2.2.1<=9223372036854775807
theorem mC:∀(l:List gG) (m:List (bF×Bool)),Em m l=true->∀x∈l,Ij x=true
 |[],_,_,x,hx=>by cases hx
 |y::l,m,h,x,hx=>by
  rw[Em,au,au]at h;rcases cd.1 hx with rfl | hx
  ·exact h.1.2
  ·exact mC l _ h.2 x hx
theorem kq:∀(l:List gf) (s:Int),xY s l=true->∀o∈l,(0<=o.1/\o.1<=1125899906842624)/\kP o.2.1=true
 |[],_,_,o,ho=>by cases ho
 |y::l,s,h,o,ho=>by
  rw[xY,au,au]at h;rcases cd.1 ho with rfl | ho
  ·have h1:=h.1.1;unfold Lh sP at h1;simp only[au,aW]at h1;exact⟨h1.2.1,h.1.2⟩
  ·exact kq l _ h.2 o ho
theorem A6{x:gG}(h:Ij x=true):0<=x.1.2.1/\x.1.2.1 < 64/\0<=x.2.1.1/\x.2.1.1 < 4/\x.2.1.2.1.length<=12:=by unfold Ij BO at h;simp only[au,aW]at h;exact⟨h.1.1,h.1.2,h.2.1.1,h.2.1.2,h.2.2⟩
theorem jI{t:dv}(h:gV t=true):(1<=t.1.length/\t.1.length<=64/\t.2.1.length<=64/\0<=t.2.2.1)/\Em [] t.1=true/\xY 0 t.2.1=true:=by unfold gV adg at h;simp only[au,aW]at h;exact h
theorem aiV(b:List Int)(x:gG):(KB b x).length<=b.length+x.1.1.length+11:=by have:=dz (b++x.1.1) x.1.2.1;rw[ai]at this;exact this
theorem abc(b:List Int)(o:gf):(La b o).length<=b.length+1022:=by have h1:=dz b o.1;have h2:=kE (NX o.2.1).length;have h3:=KF o.2.1;unfold La;rw[ai,ai];omega
theorem ape(b:List Int)(s:Sg):(acp b s).length=b.length+16:=by unfold acp;rw[ai,ai,cj,cj]
abbrev JL:=dv×Bs×(List gG)×Int×Int
def w5:JL->Bs->((dv)×(Bs)):=λ(oQ,b,t13,t14,t15) y=>(oQ,y)
abbrev JN:=dv×Bs×(List gf)×Int×Int
def w6:JN->Bs->((dv)×(Bs)):=λ(vi,iN,t35,t36,t37) y=>(vi,y)
def aeN:JL->Prop:=λ(t,b,l,n,i)=>(l).length<=1000000000/\∃k:Nat,k<=(l).length/\i=k/\n=(l).length/\(l.length<=64)/\(∀x∈l,x.1.1.length=32/\x.1.2.1<=9223372036854775807)/\(b.length<=100+50*k)
def CR:JL->Bs:=λ(t,b,l,n,i)=>(bR (ae i) l).foldl KB b
def aeP:JN->Prop:=λ(t,b,l,n,i)=>(l).length<=1000000000/\∃k:Nat,k<=(l).length/\i=k/\n=(l).length/\(l.length<=64)/\(∀o∈l,o.1<=9223372036854775807/\aNS o.2.1)/\(b.length<=4000+1100*k)
def CS:JN->Bs:=λ(t,b,l,n,i)=>(bR (ae i) l).foldl La b
def aue:dv->Prop:=λt=>gV t=true/\nT t
def acW:dv->Bs:=λt=>uT t
def qS:Ls aeN w5 CR:=rW (λ(oQ,b,t13,t14,t15)=>⟨([bE,.dD eA oQ,bE,.d tB b]++aP 9 ([.d (.slice fY) t13,.d ti t14,.d ti t15]++aP 38 [])),[],(ab 54 [])⟩) (λx=>(.exit 0,⟨([bE,.dD eA x.1,bE,.d tB x.2]++aP 50 []),[],(ab 54 [])⟩))
def qT:Ls aeP w6 CS:=rW (λ(vi,iN,t35,t36,t37)=>⟨([bE,.dD eA vi,bE,.d tB iN]++aP 31 ([.d (.slice gb) t35,.d ti t36,.d ti t37]++aP 16 [])),[],(ab 54 [])⟩) (λx=>(.exit 2,⟨([bE,.dD eA x.1,bE,.d tB x.2]++aP 50 []),[],(ab 54 [])⟩))
def u6:Fs Tryz.prog aue bt acW:=eN 69 Tryz.f69 (λt=>([.d eA t],[])) (λx=>⟨.d tB x,[],[]⟩) [some eA] [XE,amf,af6,aDW] {loops:=nX [(3,{aV:=[1,3,13,14,15]}),(9,{aV:=[1,3,35,36,37]})],outs:=nV [(3,{aV:=[1,3]},{aV:=[2]}),(9,{aV:=[1,3]},{aV:=[2]})],fC:=na [(3,qS.E),(9,qT.E)],res:=[some tB]}
theorem aeO:qS.RS:=rL [.d eA,.d tB,.d (.slice fY),.d ti,.d ti] qS
theorem JM{R:Type}(oQ b t13 t14 t15)(kn:K2 R)(kx:K3 R):u6.R 0 qS (oQ,b,t13,t14,t15) kn kx=aH ((gq t15 t14)) (aH (eo t15 (t13.length:Int)) (al (Ly.call (b,(nth fY t13 (ae t15)).1.1)) λx1=>al (AN.call (x1,(nth fY t13 (ae t15)).1.2.1)) λx2=>kn (qS.st (oQ,x2,t13,t14,(bI .i64 t15 1)))) none) (qS.go kx (oQ,b)):=bY
theorem aeQ:qT.RS:=rL [.d eA,.d tB,.d (.slice gb),.d ti,.d ti] qT
theorem JO{R:Type}(vi iN t35 t36 t37)(kn:K2 R)(kx:K3 R):u6.R 1 qT (vi,iN,t35,t36,t37) kn kx=aH ((gq t37 t36)) (aH (eo t37 (t35.length:Int)) (al (AN.call (iN,(nth gb t35 (ae t37)).1)) λx1=>al (s8.call (nth gb t35 (ae t37)).2.1) λx2=>al (Ze.call (x1,x2)) λx3=>kn (qT.st (vi,x3,t35,t36,(bI .i64 t37 1)))) none) (qT.go kx (vi,iN)):=bY
theorem aBa{R:Type}(t)(k:K1 R):u6.A t k=al (AN.call (([]:List Int),(t.1.length:Int))) λx1=>al (qS.call (t,x1,t.1,(t.1.length:Int),0)) λx4=>al (AN.call (x4.2,(x4.1.2.1.length:Int))) λx5=>al (qT.call (x4.1,x5,x4.1.2.1,(x4.1.2.1.length:Int),0)) λx9=>al (AN.call (x9.2,x9.1.2.2.1)) λap0=>k (u6.out ap0):=bY
theorem akp:(u6.kN 0 qS):=by
 refine(u6.mh 0 qS) (λ(t,b,l,n,i)=>(l).length - ae i) ?_
 rintro⟨t,b,l,n,i⟩ ⟨hlen,k,hk,rfl,rfl,FP,hx,hb⟩;have hlen:(l).length<=1000000000:=hlen;have hk:k<=(l).length:=hk;have FP:l.length<=64:=FP;have hx:∀x∈l,x.1.1.length=32/\x.1.2.1<=9223372036854775807:=hx;have hb:b.length<=100+50*k:=hb;by_cases h:k < (l).length
 ·left;have n1:nth fY l k=l[k]:=cg (t:=fY) h;have hd:bR k l=l[k]::bR (k+1) l:=aq h;refine⟨(t,(KB b l[k]),l,((l).length:Int),((k+1:Nat):Int)),⟨hlen,k+1,ak,rfl,rfl,FP,hx,by have:=aiV b l[k];have:=(hx _ (aO h)).1;omega⟩,by simp only[aa];omega,?_,λkn kx=> ?_⟩
  ·simp only[w5,CR,aa,hd,bA]
  ·rw[JM,aU ak,bg ak ak,aa,n1];simp only[aj];have e:=hx _ (aO h);have e2:(b++l[k].1.1).length=b.length+l[k].1.1.length:=ai;rw[Kl (d:=(b,l[k].1.1)) ⟨by show b.length+l[k].1.1.length<=_;omega,e.1⟩];simp only[ah,bt,PG];rw[jx (d:=(b++l[k].1.1,l[k].1.2.1)) ⟨by show(b++l[k].1.1).length<=_;omega,e.2⟩];simp only[ah,bt,ph];rw[N.mO ak];rfl
 ·right;obtain rfl:k=(l).length:=ak;intro R kn kx;rw[JM,aR ak,ao];simp only[w5,CR,aa,aK,cY]
theorem akq:(u6.kN 1 qT):=by
 refine(u6.mh 1 qT) (λ(t,b,l,n,i)=>(l).length - ae i) ?_
 rintro⟨t,b,l,n,i⟩ ⟨hlen,k,hk,rfl,rfl,FP,hx,hb⟩;have hlen:(l).length<=1000000000:=hlen;have hk:k<=(l).length:=hk;have FP:l.length<=64:=FP;have hx:∀o∈l,o.1<=9223372036854775807/\aNS o.2.1:=hx;have hb:b.length<=4000+1100*k:=hb;by_cases h:k < (l).length
 ·left;have n1:nth gb l k=l[k]:=cg (t:=gb) h;have hd:bR k l=l[k]::bR (k+1) l:=aq h;refine⟨(t,(La b l[k]),l,((l).length:Int),((k+1:Nat):Int)),⟨hlen,k+1,ak,rfl,rfl,FP,hx,by have:=abc b l[k];omega⟩,by simp only[aa];omega,?_,λkn kx=> ?_⟩
  ·simp only[w6,CS,aa,hd,bA]
  ·rw[JO,aU ak,bg ak ak,aa,n1];simp only[aj];have e:=hx _ (aO h);have e1:=dz b l[k].1;have e2:=KF l[k].2.1;rw[jx (d:=(b,l[k].1)) ⟨by show b.length<=_;omega,e.1⟩];simp only[ah,bt,ph];rw[aai (d:=l[k].2.1) e.2];simp only[ah,bt,QD];rw[axR (d:=(cF b l[k].1,NX l[k].2.1)) (by show(cF b l[k].1).length+(NX l[k].2.1).length<=_;omega)];simp only[ah,bt,ah4];rw[N.mO ak];rfl
 ·right;obtain rfl:k=(l).length:=ak;intro R kn kx;rw[JO,aR ak,ao];simp only[w6,CS,aa,aK,cY]
theorem XR:∀(l:List gG) (b:List Int),(∀x∈l,x.1.1.length=32)->(l.foldl KB b).length<=b.length+43*l.length
 |[],b,_=>ax _
 |x::l,b,h=>by
  have h1:=aiV b x;have h2:=h x aL;have h3:=XR l (KB b x) λy hy=>h y (aI _ hy)
  rw[bA,aA];omega
theorem QV:∀(l:List gf) (b:List Int),(l.foldl La b).length<=b.length+1022*l.length
 |[],b=>ax _
 |x::l,b=>by have h1:=abc b x;have h3:=QV l (La b x);rw[bA,aA];omega
theorem Ol{t:dv}(jj:gV t=true)(hv:nT t):(uT t).length<=70000:=by
 obtain⟨⟨_,a2,a3,_⟩,_,_⟩:=jI jj;have h1:=XR t.1 (cF [] t.1.length) λx hx=>(hv.2.1 x hx).1.1
 have h2:=dz [] t.1.length;have h3:=dz (t.1.foldl KB (cF [] t.1.length)) t.2.1.length;have h4:=QV t.2.1 (cF (t.1.foldl KB (cF [] t.1.length)) t.2.1.length);have h5:=dz (t.2.1.foldl La (cF (t.1.foldl KB (cF [] t.1.length)) t.2.1.length)) t.2.2.1;have h0:([]:List Int).length=0:=rfl;unfold uT;omega
theorem aBb:u6.Ok:=by
 rintro t ⟨jj,hv⟩;have hv:nT t:=hv;obtain⟨⟨_,a2,a3,_⟩,b1,b2⟩:=jI jj;have h0:([]:List Int).length=0:=rfl;have l0:=dz [] t.1.length;have l1:=XR t.1 (cF [] t.1.length) λx hx=>(hv.2.1 x hx).1.1
 have l2:=dz (t.1.foldl KB (cF [] t.1.length)) t.2.1.length;have l3:=QV t.2.1 (cF (t.1.foldl KB (cF [] t.1.length)) t.2.1.length);rw[aBa,jx (d:=([],(t.1.length:Int))) ⟨by show([]:List Int).length<=_;omega,by show(t.1.length:Int)<=_;omega⟩];simp only[ah,bt,ph];rw[aeO (d:=(t,cF [] t.1.length,t.1,t.1.length,0)) ⟨by show t.1.length<=_;omega,0,aJ _,rfl,rfl,a2,λx hx=>⟨(hv.2.1 x hx).1.1,by have:=A6 (mC _ _ b1 x hx);omega⟩,by show(cF [] t.1.length).length<=_;omega⟩];simp only[ah,w5,CR,aX,aD];rw[jx (d:=(t.1.foldl KB (cF [] t.1.length),(t.2.1.length:Int))) ⟨by show(t.1.foldl KB (cF [] t.1.length)).length<=_;omega,by show(t.2.1.length:Int)<=_;omega⟩];simp only[ah,bt,ph];rw[aeQ (d:=(t,cF (t.1.foldl KB (cF [] t.1.length)) t.2.1.length,t.2.1,t.2.1.length,0)) ⟨by show t.2.1.length<=_;omega,0,aJ _,rfl,rfl,a3,λo ho=>⟨by have:=(kq _ _ b2 o ho).1;omega,hv.1.1 o ho⟩,by show(cF (t.1.foldl KB (cF [] t.1.length)) t.2.1.length).length<=_;omega⟩];simp only[ah,w6,CS,aX,aD];rw[jx (d:=(t.2.1.foldl La (cF (t.1.foldl KB (cF [] t.1.length)) t.2.1.length),t.2.2.1)) ⟨by show(t.2.1.foldl La (cF (t.1.foldl KB (cF [] t.1.length)) t.2.1.length)).length<=_;omega,hv.2.2⟩];rfl
theorem acX:u6.RS:=rE [.d eA] u6
def ag7:=u6.eS aBb 2 ⟨.fp akp,⟨.fp akq,trivial⟩⟩
def aqd(t:dv):Prop:=(t.1.length<=1000000000/\∀x∈t.1,x.2.1.2.1.length<=1000000000)/\t.2.1.length<=1000000000/\∀x∈t.2.1,x.2.1.1.length<=1000000000/\∀b∈x.2.1.1,b.1.length<=1000000000
def yq(n:Int)(x:gG):Int:=n+(10+8*x.2.1.2.1.length)+(if x.2.1.2.2.1=0 then 0 else 4)
def GI(t:dv):Int:=if gV t then t.1.foldl yq (10+8*t.2.1.length) else 0
def dN(t:dv):List bF:=if gV t then t.1.map (·.1) else []
def G2(id:List Int)(k n:Nat):List bF:=(List.range' k n).map λi:Nat=>(id,((i:Int),()))
def gS(t:dv):List bF:=if gV t then G2 (mj t) 0 t.2.1.length else []
def aMO:dv->Prop:=λt=>nT t
def RR:dv->Bs:=λt=>mj t
def tid:Fs Tryz.prog aMO bt RR:=eN 32 Tryz.f32 (λt=>([.d eA t],[])) (λx=>⟨.d tH x,[],[]⟩) [some eA] [tR,ag7,XO]
theorem aPV{R:Type}(t)(k:K1 R):tid.A t k=al (iI.call t) λx1=>aH ((!x1)) (k (tid.out (ab 32 0))) (al (u6.call t) λx2=>al (Te.call ((⟨#[116,120]⟩:ByteArray),[x2])) λx3=>k (tid.out x3)):=bY
theorem aPW:tid.Ok:=by
 intro t hv;have hv:nT t:=hv;rw[aPV,qb (d:=t) hv.1];simp only[ah,bt,rR,bt,RR,mj];cases jj:gV t
 ·rfl
 ·have hl:=Ol jj hv;rw[acX (d:=t) ⟨jj,hv⟩];simp only[cz,ao,bG,ah,bt,acW];rw[Qr (d:=((⟨#[116,120]⟩:ByteArray),[uT t])) (RL (by decide) ak)];rfl
theorem Gy:tid.RS:=rE [.d eA] tid
def Uo:=tid.eS aPW
abbrev RZ:=Int×(List gG)×Int×Int
def adb:RZ->Prop:=λ(n,l,m,i)=>(l).length<=1000000000/\∃k:Nat,k<=(l).length/\i=k/\m=(l).length/\(l.length<=64)/\(∀x∈l,x.2.1.2.1.length<=12)/\(0<=n)/\(n<=1000+200*(k:Int))
def Ai:RZ->Int:=λ(n,l,m,i)=>(bR (ae i) l).foldl yq n
def apK:dv->Prop:=λt=>nT t
def Us:dv->Int:=λt=>GI t
def me:Ls adb bt Ai:=rW (λ(n,t15,t16,t17)=>⟨([bE,bE,bE,.d ti n]++aP 11 ([.d (.slice fY) t15,.d ti t16,.d ti t17]++aP 19 [])),[],(ab 37 [])⟩) (λx=>(.exit 0,⟨([bE,bE,bE,.d ti x]++aP 33 []),[],(ab 37 [])⟩))
def vb:Fs Tryz.prog apK bt Us:=eN 242 Tryz.f242 (λt=>([.d eA t],[])) (λx=>⟨.d ti x,[],[]⟩) [some eA] [tR] {loops:=nX [(5,{aV:=[3,15,16,17]})],outs:=nV [(5,{aV:=[3]},{aV:=[2]})],fC:=na [(5,me.E)]}
theorem ade:me.RS:=rL [.d ti,.d (.slice fY),.d ti,.d ti] me
theorem Ho{R:Type}(n t15 t16 t17)(kn:K2 R)(kx:K3 R):vb.R 0 me (n,t15,t16,t17) kn kx=aH ((gq t17 t16)) (aH (eo t17 (t15.length:Int)) (aH ((BY (nth fY t15 (ae t17)).2.1.2.2.1 0)) (kn (me.st ((bI .i64 (bI .i64 n (bI .i64 10 (gv .i64 8 (((ag (nth fY t15 (ae t17)).2.1.2.1):Nat):Int)))) 4),t15,t16,(bI .i64 t17 1)))) (kn (me.st ((bI .i64 n (bI .i64 10 (gv .i64 8 (((ag (nth fY t15 (ae t17)).2.1.2.1):Nat):Int)))),t15,t16,(bI .i64 t17 1))))) none) (me.go kx n):=bY
theorem auo{R:Type}(t)(k:K1 R):vb.A t k=al (iI.call t) λx1=>aH ((!x1)) (k (vb.out 0)) (al (me.call ((bI .i64 10 (gv .i64 8 (t.2.1.length:Int))),t.1,(t.1.length:Int),0)) λx2=>k (vb.out x2)):=bY
theorem aeU:(vb.kN 0 me):=by
 refine(vb.mh 0 me) (λ(n,l,m,i)=>(l).length - ae i) ?_
 rintro⟨n,l,m,i⟩ ⟨hlen,k,hk,rfl,rfl,FP,hx,h0,h1⟩;have hlen:(l).length<=1000000000:=hlen;have hk:k<=(l).length:=hk;have FP:l.length<=64:=FP;have hx:∀x∈l,x.2.1.2.1.length<=12:=hx;have h0:0<=n:=h0;have h1:n<=1000+200*(k:Int):=h1;by_cases h:k < (l).length
 ·left;have n1:nth fY l k=l[k]:=cg (t:=fY) h;have hd:bR k l=l[k]::bR (k+1) l:=aq h;refine⟨((yq n l[k]),l,((l).length:Int),((k+1:Nat):Int)),⟨hlen,k+1,ak,rfl,rfl,FP,hx,by unfold yq;split <;> omega,by have:=hx _ (aO h);unfold yq;split <;> omega⟩,by simp only[aa];omega,?_,λkn kx=> ?_⟩
  ·simp only[bt,Ai,aa,hd,bA]
  ·rw[Ho,aU ak,bg ak ak,aa,n1];simp only[aj];have e:=hx _ (aO h);rw[N.aRX ak];have e2:bI .i64 10 ((8*l[k].2.1.2.1.length:Nat):Int)=10+8*(l[k].2.1.2.1.length:Int):=by rw[fU ak ak];omega
   rw[e2,fU (x:=n) ak ak,N.mO ak];unfold yq;by_cases hs:l[k].2.1.2.2.1=0
   ·rw[dB hs,ao,if_pos hs,Int.add_zero]
   ·rw[fj hs,aj,if_neg hs,fU ak ak]
 ·right;obtain rfl:k=(l).length:=ak;intro R kn kx;rw[Ho,aR ak,ao];simp only[bt,Ai,aa,aK,cY]
theorem aup:vb.Ok:=by
 intro t hv;have hv:nT t:=hv;rw[auo,qb (d:=t) hv.1];simp only[ah,bt,rR,bt,Us,GI];cases jj:gV t
 ·rfl
 ·obtain⟨⟨_,a2,a3,_⟩,b1,b2⟩:=jI jj;rw[N.aRX ak,fU ak ak,ade (d:=(10+((8*t.2.1.length:Nat):Int),t.1,t.1.length,0)) ⟨by show t.1.length<=_;omega,0,aJ _,rfl,rfl,a2,λx hx=>(A6 (mC _ _ b1 x hx)).2.2.2.2,by show(0:Int)<=10+((8*t.2.1.length:Nat):Int);omega,by show 10+((8*t.2.1.length:Nat):Int)<=_;omega⟩];simp only[ah,bt,Ai,aX,aD,cz,ao,bG,kR];rfl
theorem apL:vb.RS:=rE [.d eA] vb
def auq:=vb.eS aup 1 ⟨.fp aeU,trivial⟩
abbrev Wy:=Bs×(List gG)×Int×Int
abbrev JH:=Bs×(List gG)×Int×Int×(List Sg)×Int×Int×gG
def wZ:JH->Bs->(((List gG)×Int×Int×gG)×(Bs)):=λ(iN,acE,acF,BE,t32,t33,t34,n5) y=>((acE,acF,BE,n5),y)
def aeI:JH->Prop:=λ(b,l1,aSR,i1,l,n,i,x)=>(l).length<=1000000000/\∃k:Nat,k<=(l).length/\i=k/\n=(l).length/\(l.length<=12)/\(b.length<=80000000+16*k)
def CP:JH->Bs:=λ(b,l1,aSR,i1,l,n,i,x)=>(bR (ae i) l).foldl acp b
def aeG:Wy->Prop:=λ(b,l,n,i)=>(l).length<=1000000000/\∃k:Nat,k<=(l).length/\i=k/\n=(l).length/\(l.length<=64)/\(∀x∈l,x.2.1.2.1.length<=12/\x.2.1.1<=9223372036854775807)/\(b.length<=100000+1000*k)
def JF:Wy->Bs:=λ(b,l,n,i)=>(bR (ae i) l).foldl auy b
theorem acq:∀(l:List Sg) (b:List Int),(l.foldl acp b).length=b.length+16*l.length
 |[],b=>rfl
 |x::l,b=>by have h1:=ape b x;have h3:=acq l (acp b x);rw[bA,aA];omega
theorem aIT(b:List Int)(x:gG)(h:x.2.1.2.1.length<=12):(auy b x).length<=b.length+300:=by have e1:=dz b x.2.1.1;have e2:=dz (cF b x.2.1.1) x.2.1.2.1.length;have e3:=acq x.2.1.2.1 (cF (cF b x.2.1.1) x.2.1.2.1.length);unfold auy;rw[ai,cj];omega
def at8:dv->Prop:=λt=>nT t
def JE:dv->Bs:=λt=>aur t
def qQ:Ls aeG bt JF:=rW (λ(b,t14,t15,t16)=>⟨([bE,bE,bE,.d tB b]++aP 10 ([.d (.slice fY) t14,.d ti t15,.d ti t16]++aP 36 [])),[],(ab 53 [])⟩) (λx=>(.exit 0,⟨([bE,bE,bE,.d tB x]++aP 49 []),[],(ab 53 [])⟩))
def qR:Ls aeI wZ CP:=rW (λ(iN,acE,acF,BE,t32,t33,t34,n5)=>⟨([bE,bE,bE,.d tB iN,bE,eT 5]++aP 8 ([.d (.slice fY) acE,.d ti acF,.d ti BE]++aP 15 ([.d (.slice Av) t32,.d ti t33,.d ti t34]++aP 18 []))),[],(bM 5 ([dK (.d fY n5)]++bM 47 []))⟩) (λx=>(.exit 2,⟨([bE,bE,bE,.d tB x.2,bE,eT 5]++aP 8 ([.d (.slice fY) x.1.1,.d ti x.1.2.1,.d ti x.1.2.2.1]++aP 36 [])),[],(bM 5 ([dK (.d fY x.1.2.2.2)]++bM 47 []))⟩))
def rj:Fs Tryz.prog at8 bt JE:=eN 74 Tryz.f74 (λt=>([.d eA t],[])) (λx=>⟨.d tB x,[],[]⟩) [some eA] [tR,ag7,XE,amg] {loops:=nX [(5,{aV:=[3,14,15,16]}),(9,{aV:=[3,5,14,15,16,32,33,34],sites:=[5]})],outs:=nV [(5,{aV:=[3]},{aV:=[2]}),(9,{aV:=[3,5,14,15,16],sites:=[5]},{aV:=[2]})],fC:=na [(5,qQ.E),(9,qR.E)],res:=[some tB]}
theorem aeH:qQ.RS:=rL [.d tB,.d (.slice fY),.d ti,.d ti] qQ
theorem JG{R:Type}(b t14 t15 t16)(kn:K2 R)(kx:K3 R):rj.R 0 qQ (b,t14,t15,t16) kn kx=aH ((gq t16 t15)) (aH (eo t16 (t14.length:Int)) (al (AN.call (b,(nth fY t14 (ae t16)).2.1.1)) λx1=>al (AN.call (x1,(((ag (nth fY t14 (ae t16)).2.1.2.1):Nat):Int))) λx2=>al (qR.call (x2,t14,t15,t16,(nth fY t14 (ae t16)).2.1.2.1,(((ag (nth fY t14 (ae t16)).2.1.2.1):Nat):Int),0,(nth fY t14 (ae t16)))) λx3=>al (H2.call (x3.2,x3.1.2.2.2.2.1.2.2.1)) λx4=>kn (qQ.st (x4,x3.1.1,x3.1.2.1,(bI .i64 x3.1.2.2.1 1)))) none) (qQ.go kx b):=bY
theorem aeJ:qR.RS:=rL [.d tB,.d (.slice fY),.d ti,.d ti,.d (.slice Av),.d ti,.d ti,.d fY] qR
theorem JI{R:Type}(iN acE acF BE t32 t33 t34 n5)(kn:K2 R)(kx:K3 R):rj.R 1 qR (iN,acE,acF,BE,t32,t33,t34,n5) kn kx=aH ((gq t34 t33)) (aH (eo t34 (t32.length:Int)) (al (H2.call (iN,(nth Av t32 (ae t34)).1)) λx1=>al (H2.call (x1,(nth Av t32 (ae t34)).2.1)) λx2=>kn (qR.st (x2,acE,acF,BE,t32,t33,(bI .i64 t34 1),n5))) none) (qR.go kx ((acE,acF,BE,n5),iN)):=bY
theorem aA6{R:Type}(t)(k:K1 R):rj.A t k=al (iI.call t) λx1=>aH ((!x1)) (k (rj.out ([]:List Int))) (al (u6.call t) λx2=>al (qQ.call (x2,t.1,(t.1.length:Int),0)) λx9=>k (rj.out x9)):=bY
theorem akl:(rj.kN 1 qR):=by
 refine(rj.mh 1 qR) (λ(b,l1,aSR,i1,l,n,i,x)=>(l).length - ae i) ?_
 rintro⟨b,l1,aSR,i1,l,n,i,x⟩ ⟨hlen,k,hk,rfl,rfl,afX,hb⟩;have hlen:(l).length<=1000000000:=hlen;have hk:k<=(l).length:=hk;have afX:l.length<=12:=afX;have hb:b.length<=80000000+16*k:=hb;by_cases h:k < (l).length
 ·left;have n1:nth Av l k=l[k]:=cg (t:=Av) h;have hd:bR k l=l[k]::bR (k+1) l:=aq h;refine⟨((acp b l[k]),l1,aSR,i1,l,((l).length:Int),((k+1:Nat):Int),x),⟨hlen,k+1,ak,rfl,rfl,afX,by have:=ape b l[k];omega⟩,by simp only[aa];omega,?_,λkn kx=> ?_⟩
  ·simp only[wZ,CP,aa,hd,bA]
  ·rw[JI,aU ak,bg ak ak,aa,n1];simp only[aj];rw[Ed (d:=(b,l[k].1)) (by show b.length<=_;omega)];simp only[ah,bt,PH];rw[Ed (d:=(b++jo l[k].1,l[k].2.1)) (by show(b++jo l[k].1).length<=_;rw[ai,cj];omega)];simp only[ah,bt,PH];rw[N.mO ak];rfl
 ·right;obtain rfl:k=(l).length:=ak;intro R kn kx;rw[JI,aR ak,ao];simp only[wZ,CP,aa,aK,cY]
theorem akk:(rj.kN 0 qQ):=by
 refine(rj.mh 0 qQ) (λ(b,l,n,i)=>(l).length - ae i) ?_
 rintro⟨b,l,n,i⟩ ⟨hlen,k,hk,rfl,rfl,FP,hx,hb⟩;have hlen:(l).length<=1000000000:=hlen;have hk:k<=(l).length:=hk;have FP:l.length<=64:=FP;have hx:∀x∈l,x.2.1.2.1.length<=12/\x.2.1.1<=9223372036854775807:=hx;have hb:b.length<=100000+1000*k:=hb;by_cases h:k < (l).length
 ·left;have n1:nth fY l k=l[k]:=cg (t:=fY) h;have hd:bR k l=l[k]::bR (k+1) l:=aq h;refine⟨((auy b l[k]),l,((l).length:Int),((k+1:Nat):Int)),⟨hlen,k+1,ak,rfl,rfl,FP,hx,by have:=aIT b l[k] (hx _ (aO h)).1;omega⟩,by simp only[aa];omega,?_,λkn kx=> ?_⟩
  ·simp only[bt,JF,aa,hd,bA]
  ·rw[JG,aU ak,bg ak ak,aa,n1];simp only[aj];have e:=hx _ (aO h);have e1:=dz b l[k].2.1.1;have e2:=dz (cF b l[k].2.1.1) l[k].2.1.2.1.length;have e3:=acq l[k].2.1.2.1 (cF (cF b l[k].2.1.1) l[k].2.1.2.1.length);rw[jx (d:=(b,l[k].2.1.1)) ⟨by show b.length<=_;omega,e.2⟩];simp only[ah,bt,ph];rw[jx (d:=(cF b l[k].2.1.1,(l[k].2.1.2.1.length:Int))) ⟨by show(cF b l[k].2.1.1).length<=_;omega,by show(l[k].2.1.2.1.length:Int)<=_;omega⟩];simp only[ah,bt,ph];rw[aeJ (d:=(cF (cF b l[k].2.1.1) l[k].2.1.2.1.length,l,l.length,k,l[k].2.1.2.1,l[k].2.1.2.1.length,0,l[k])) ⟨by show l[k].2.1.2.1.length<=_;omega,0,aJ _,rfl,rfl,e.1,by show(cF (cF b l[k].2.1.1) l[k].2.1.2.1.length).length<=_;omega⟩];simp only[ah,wZ,CP,aX,aD];rw[Ed (d:=(l[k].2.1.2.1.foldl acp (cF (cF b l[k].2.1.1) l[k].2.1.2.1.length),l[k].2.1.2.2.1)) (by show(l[k].2.1.2.1.foldl acp (cF (cF b l[k].2.1.1) l[k].2.1.2.1.length)).length<=_;omega)];simp only[ah,bt,PH];rw[N.mO ak];rfl
 ·right;obtain rfl:k=(l).length:=ak;intro R kn kx;rw[JG,aR ak,ao];simp only[bt,JF,aa,aK,cY]
theorem aA7:rj.Ok:=by
 intro t hv;have hv:nT t:=hv;rw[aA6,qb (d:=t) hv.1];simp only[ah,bt,rR,bt,JE,aur];cases jj:gV t
 ·rfl
 ·obtain⟨⟨_,a2,a3,_⟩,b1,b2⟩:=jI jj;have hl:=Ol jj hv;rw[acX (d:=t) ⟨jj,hv⟩];simp only[cz,ao,bG,ah,bt,acW];rw[aeH (d:=(uT t,t.1,t.1.length,0)) ⟨by show t.1.length<=_;omega,0,aJ _,rfl,rfl,a2,λx hx=>by have:=A6 (mC _ _ b1 x hx);exact⟨this.2.2.2.2,ak⟩,by show(uT t).length<=_;omega⟩];rfl
theorem OF:rj.RS:=rE [.d eA] rj
def Un:=rj.eS aA7 2 ⟨.fp akk,⟨.fp akl,trivial⟩⟩
abbrev RX:=Nat×(List gG)×Int×Int×(List bF)
def ac8:RX->Prop:=λ(L,l,n,i,r)=>(l).length<=1000000/\∃k:Nat,k<=(l).length/\i=k/\n=(l).length/\L=(r).length/\(r).length<=1000000+k
def Ah:RX->(Nat×(List bF)):=λ(L,l,n,i,r)=>(L+(bR (ae i) l).length,r++(bR (ae i) l).map (λx:gG=>x.1))
def apJ:dv->Prop:=λt=>aQa t
def KR:dv->(List bF):=λt=>dN t
def nQ:Ls ac8 bt Ah:=rW (λ(lL,t9,t10,t11,n19)=>⟨([bE,bE,oh 19 lL]++aP 6 ([.d (.slice fY) t9,.d ti t10,.d ti t11]++aP 10 [])),[],(bM 19 [dK (.vec 38 bl n19),[],[]])⟩) (λx=>(.exit 0,⟨([bE,bE,oh 19 x.1]++aP 19 []),[],(bM 19 [dK (.vec 38 bl x.2),[],[]])⟩))
def sI:Fs Tryz.prog apJ bt KR:=eN 72 Tryz.f72 (λt=>([.d eA t],[])) (λx=>⟨.d (.slice bl) x,[],[]⟩) [some eA] [tR] {loops:=nX [(4,{aV:=[2,9,10,11],sites:=[19],owns:=[⟨2,[],19,46⟩]})],outs:=nV [(4,{aV:=[2],sites:=[19]},{aV:=[2]})],fC:=na [(4,nQ.E)],res:=[some (.slice bl)]}
theorem ac9:nQ.RS:=rL [.n,.d (.slice fY),.d ti,.d ti,.d (.slice bl)] nQ
theorem Hn{R:Type}(lL t9 t10 t11 n19)(kn:K2 R)(kx:K3 R):sI.R 0 nQ (lL,t9,t10,t11,n19) kn kx=aH ((gq t11 t10)) (aH (eo t11 (t9.length:Int)) (aH (decide (lL<=(ag n19))) (aH (da (lL+1) 40) (kn (nQ.st ((lL+1),t9,t10,(bI .i64 t11 1),((aQ lL n19)++ [(nth fY t9 (ae t11)).1])))) none) none) none) (nQ.go kx (lL,n19)):=bY
theorem aum{R:Type}(t)(k:K1 R):sI.A t k=al (iI.call t) λx1=>aH ((!x1)) (k (sI.out ([]:List bF))) (al (nQ.call (0,t.1,(t.1.length:Int),0,([]:List bF))) λx2=>aH (decide (0=0/\(0+x2.1)<=(ag x2.2))) (k (sI.out (cut x2.2 0 x2.1))) none):=bY
theorem aeT:(sI.kN 0 nQ):=by
 refine(sI.mh 0 nQ) (λ(L,l,n,i,r)=>(l).length - ae i) ?_
 rintro⟨L,l,n,i,r⟩ ⟨hlen,k,hk,rfl,rfl,rfl,sV⟩;have hlen:(l).length<=1000000:=hlen;have hk:k<=(l).length:=hk;have sV:(r).length<=1000000+k:=sV;by_cases h:k < (l).length
 ·left;have n1:nth fY l k=l[k]:=cg (t:=fY) h;have hd:bR k l=l[k]::bR (k+1) l:=aq h;refine⟨((r).length+1,l,((l).length:Int),((k+1:Nat):Int),r++ [(λx:gG=>x.1) l[k]]),⟨hlen,k+1,ak,rfl,rfl,by rw[ai];rfl,by rw[ai];show(r).length+1<=_;omega⟩,by simp only[aa];omega,?_,λkn kx=> ?_⟩
  ·simp only[bt,Ah,aa,hd,bP,aA,aF,cZ];rw[show ∀a c:Nat,a+1+c=a+(c+1) from λa c=>ak]
  ·rw[Hn,aU ak,bg (show(0:Int)<=(k:Int) by omega) ak,aa,n1];simp only[aj];rw[aM (ax _),dr ak ak,N.mO ak,bK];rfl
 ·right;obtain rfl:k=(l).length:=ak;intro R kn kx;rw[Hn,aR ak,ao];simp only[bt,Ah,aa,aK,ig,ba,aZ,cm]
theorem aun:sI.Ok:=by
 intro t hv;have hv:aQa t:=hv;rw[aum,qb (d:=t) hv];simp only[ah,bt,rR,bt,KR,dN];cases jj:gV t
 ·rfl
 ·obtain⟨⟨_,a2,a3,_⟩,b1,b2⟩:=jI jj;rw[ac9 (d:=(0,t.1,t.1.length,0,[])) ⟨by show t.1.length<=_;omega,0,aJ _,rfl,rfl,rfl,aJ _⟩];simp only[cz,ao,bG,ah,bt,Ah,aX,aD,aT,aN];rw[aM ⟨by trivial,by rw[bU];exact ax _⟩,aj,eV (by rw[bU])]
theorem WK:sI.RS:=rE [.d eA] sI
def ada:=sI.eS aun 1 ⟨.fp aeT,trivial⟩
abbrev acU:=Nat×Int×Int×Bs×(List bF)
def akm:acU->Prop:=λ(L,n,i,id,r)=>∃k m:Nat,k<=m/\i=k/\n=m/\m<=1000/\L=r.length/\L=k
def Gz:acU->(Nat×(List bF)):=λ(L,n,i,id,r)=>(L+(n - i).toNat,r++G2 id i.toNat (n - i).toNat)
def aA9:dv->Prop:=λt=>nT t
def X9:dv->(List bF):=λt=>gS t
def u5:Ls akm bt Gz:=rW (λ(lL,t12,t13,n3,n21)=>⟨([bE,bE,oh 21 lL,eT 3]++aP 8 ([.d ti t12,.d ti t13]++aP 10 [])),[],([[],[],[],dK (.d tH n3)]++bM 17 [dK (.vec 38 bl n21),[],[]])⟩) (λx=>(.exit 0,⟨([bE,bE,oh 21 x.1]++aP 21 []),[],(bM 21 [dK (.vec 38 bl x.2),[],[]])⟩))
def Hm:Fs Tryz.prog aA9 bt X9:=eN 197 Tryz.f197 (λt=>([.d eA t],[])) (λx=>⟨.d (.slice bl) x,[],[]⟩) [some eA] [Uo,tR] {loops:=nX [(5,{aV:=[2,3,12,13],sites:=[3,21],owns:=[⟨2,[],21,46⟩]})],outs:=nV [(5,{aV:=[2],sites:=[21]},{aV:=[2]})],fC:=na [(5,u5.E)],res:=[some (.slice bl)]}
theorem akn:u5.RS:=rL [.n,.d ti,.d ti,.d tB,.d (.slice bl)] u5
theorem ME{R:Type}(lL t12 t13 n3 n21)(kn:K2 R)(kx:K3 R):Hm.R 0 u5 (lL,t12,t13,n3,n21) kn kx=aH ((gq t13 t12)) (aH (decide (lL<=(ag n21))) (aH (da (lL+1) 40) (kn (u5.st ((lL+1),t12,(bI .i64 t13 1),n3,((aQ lL n21)++ [(n3,(t13,()))])))) none) none) (u5.go kx (lL,n21)):=bY
theorem aIm{R:Type}(t)(k:K1 R):Hm.A t k=al (tid.call t) λx1=>al (iI.call t) λx2=>aH ((!x2)) (k (Hm.out ([]:List bF))) (al (u5.call (0,(t.2.1.length:Int),0,x1,([]:List bF))) λx3=>aH (decide (0=0/\(0+x3.1)<=(ag x3.2))) (k (Hm.out (cut x3.2 0 x3.1))) none):=bY
theorem aza(id:List Int)(k n:Nat):(G2 id k n).length=n:=by simp[G2]
theorem asi(id:List Int)(k n:Nat):G2 id k (n+1)=(id,((k:Int),()))::G2 id (k+1) n:=by unfold G2;rw[List.range'_succ,bP]
theorem apz:(Hm.kN 0 u5):=by
 refine(Hm.mh 0 u5) (λ(L,n,i,id,r)=>(n - i).toNat) ?_
 rintro⟨L,n,i,id,r⟩ ⟨k,m,hk,rfl,rfl,hm,rfl,aVy⟩;have aVy:r.length=k:=aVy;by_cases h:k < m
 ·left;have e1:((m:Int) - (k:Int)).toNat=(m - (k+1))+1:=ak;have e2:((m:Int) - ((k+1:Nat):Int)).toNat=m - (k+1):=ak;refine⟨(r.length+1,(m:Int),((k+1:Nat):Int),id,r++ [(id,((k:Int),()))]),⟨k+1,m,ak,rfl,rfl,hm,by rw[ai];rfl,by show r.length+1=_;omega⟩,by show((m:Int) - ((k+1:Nat):Int)).toNat < ((m:Int) - (k:Int)).toNat;omega,?_,λkn kx=> ?_⟩
  ·simp only[bt,Gz,e1,e2,aa,asi,aF,cZ];rw[show r.length+1+(m - (k+1))=r.length+(m - (k+1)+1) by omega]
  ·rw[ME,aU ak,aM (ax _),dr ak ak,N.mO ak,bK];rfl
 ·right;obtain rfl:k=m:=ak;intro R kn kx;rw[ME,aR ak,ao];simp only[bt,Gz,Int.sub_self,aX,cm];rw[show G2 id (k:Int).toNat 0=[] from rfl,ba]
theorem aIn:Hm.Ok:=by
 intro t hv;have hv:nT t:=hv;rw[aIm,Gy (d:=t) hv,qb (d:=t) hv.1];simp only[ah,bt,RR,bt,rR,bt,X9,gS];cases jj:gV t
 ·rfl
 ·obtain⟨⟨_,a2,a3,_⟩,b1,b2⟩:=jI jj;have hl:=aza (mj t) 0 t.2.1.length;rw[akn (d:=(0,t.2.1.length,0,mj t,[])) ⟨0,t.2.1.length,aJ _,rfl,rfl,ak,rfl,rfl⟩];simp only[cz,ao,bG,ah,bt,Gz,qg,aa,aX,aT,aN];rw[aM ⟨by trivial,by rw[hl];exact ax _⟩,aj,eV hl]
theorem ag6:Hm.RS:=rE [.d eA] Hm
def apA:=Hm.eS aIn 1 ⟨.fp apz,trivial⟩
def aDx:(List gG)->Prop:=λl=>l.length<=1000000
def aq8:(List gG)->(Nat×(List gG)):=λl=>(l.length,l)
def ahW:Fs Tryz.prog aDx bt aq8:=eN 137 Tryz.f137 (λsv=>([.d (.slice fY) sv],[])) (λx=>⟨.bz (.new 0 0) 0 [] 0 0 x.1,[],[.obj 0 false (.vec 86 fY x.2)]⟩) [some (.slice fY)] [] {bJ:=[5],owns:=[⟨2,[],5,53⟩]}
theorem aKj{R:Type}(sv)(k:K1 R):ahW.A sv k=aH (decide (0 < (ag sv))) (aH (da (0+(ag sv)) 80) (k (ahW.out ((0+(ag sv)),((aQ 0 (ab 0 (((ab 32 0),(0,())),((0,(([]:List Sg),(0,()))),()))))++sv)))) none) (nd (k (ahW.out (0,([]:List gG)))) (aH (da (0+(ag sv)) 80) (k (ahW.out ((0+(ag sv)),((aQ 0 (ab 0 (((ab 32 0),(0,())),((0,(([]:List Sg),(0,()))),()))))++sv)))) none)):=bY
theorem aKk:ahW.Ok:=by
 intro l hl;have hl:l.length<=1000000:=hl;have hr:da l.length 80=true:=dr ak ak;rw[aKj];simp only[aN,hr,aj,dH,aT,bt,aq8];by_cases h:0 < l.length
 ·simp only[aM h,aj]
 ·have:l=[]:=bD ak;subst this;simp only[aZ,zI,aS (hJ 0),ao]
theorem aDy:ahW.RS:=rE [.d (.slice fY)] ahW
def aKl:=ahW.eS aKk
def axG:(List gf)->Prop:=λl=>l.length<=1000000
def ahY:(List gf)->(Nat×(List gf)):=λl=>(l.length,l)
def PB:Fs Tryz.prog axG bt ahY:=eN 138 Tryz.f138 (λsv=>([.d (.slice gb) sv],[])) (λx=>⟨.bz (.new 0 0) 0 [] 0 0 x.1,[],[.obj 0 false (.vec 79 gb x.2)]⟩) [some (.slice gb)] [] {bJ:=[5],owns:=[⟨2,[],5,22⟩]}
theorem aDB{R:Type}(sv)(k:K1 R):PB.A sv k=aH (decide (0 < (ag sv))) (aH (da (0+(ag sv)) 32) (k (PB.out ((0+(ag sv)),((aQ 0 (ab 0 (0,((([]:List oq),()),()))))++sv)))) none) (nd (k (PB.out (0,([]:List gf)))) (aH (da (0+(ag sv)) 32) (k (PB.out ((0+(ag sv)),((aQ 0 (ab 0 (0,((([]:List oq),()),()))))++sv)))) none)):=bY
theorem aDC:PB.Ok:=by
 intro l hl;have hl:l.length<=1000000:=hl;have hr:da l.length 32=true:=dr ak ak;rw[aDB];simp only[aN,hr,aj,dH,aT,bt,ahY];by_cases h:0 < l.length
 ·simp only[aM h,aj]
 ·have:l=[]:=bD ak;subst this;simp only[aZ,zI,aS (hJ 0),ao]
theorem axH:PB.RS:=rE [.d (.slice gb)] PB
def aDD:=PB.eS aDC
def aDw:(List oq)->Prop:=λl=>l.length<=1000000
def ahV:(List oq)->(Nat×(List oq)):=λl=>(l.length,l)
def adM:Fs Tryz.prog aDw bt ahV:=eN 140 Tryz.f140 (λsv=>([.d (.slice ke) sv],[])) (λx=>⟨.bz (.new 0 0) 0 [] 0 0 x.1,[],[.obj 0 false (.vec 98 ke x.2)]⟩) [some (.slice ke)] [] {bJ:=[5],owns:=[⟨2,[],5,70⟩]}
theorem aKh{R:Type}(sv)(k:K1 R):adM.A sv k=aH (decide (0 < (ag sv))) (aH (da (0+(ag sv)) 48) (k (adM.out ((0+(ag sv)),((aQ 0 (ab 0 (([]:List Int),(0,(0,(0,()))))))++sv)))) none) (nd (k (adM.out (0,([]:List oq)))) (aH (da (0+(ag sv)) 48) (k (adM.out ((0+(ag sv)),((aQ 0 (ab 0 (([]:List Int),(0,(0,(0,()))))))++sv)))) none)):=bY
theorem aKi:adM.Ok:=by
 intro l hl;have hl:l.length<=1000000:=hl;have hr:da l.length 48=true:=dr ak ak;rw[aKh];simp only[aN,hr,aj,dH,aT,bt,ahV];by_cases h:0 < l.length
 ·simp only[aM h,aj]
 ·have:l=[]:=bD ak;subst this;simp only[aZ,zI,aS (hJ 0),ao]
theorem al2:adM.RS:=rE [.d (.slice ke)] adM
def au6:=adM.eS aKi
def axI:(List Sg)->Prop:=λl=>l.length<=1000000
def ahZ:(List Sg)->(List Sg):=λl=>l
def PC:Fs Tryz.prog axI bt ahZ:=eN 139 Tryz.f139 (λsv=>([.d (.slice Av) sv],[])) (λx=>⟨.d (.slice Av) x,[],[]⟩) [some (.slice Av)] [] {bJ:=[5],res:=[some (.slice Av)]}
theorem aDE{R:Type}(sv)(k:K1 R):PC.A sv k=aH (decide (0 < (ag sv))) (aH (da (0+(ag sv)) 16) (aH (decide (0=0/\(0+(0+(ag sv)))<=(ag ((aQ 0 (ab 0 (0,(0,()))))++sv)))) (k (PC.out (cut ((aQ 0 (ab 0 (0,(0,()))))++sv) 0 (0+(ag sv))))) none) none) (nd (k (PC.out ([]:List Sg))) (aH (da (0+(ag sv)) 16) (aH (decide (0=0/\(0+(0+(ag sv)))<=(ag ((aQ 0 (ab 0 (0,(0,()))))++sv)))) (k (PC.out (cut ((aQ 0 (ab 0 (0,(0,()))))++sv) 0 (0+(ag sv))))) none) none)):=bY
theorem aDF:PC.Ok:=by
 intro l hl;have hl:l.length<=1000000:=hl;have hr:da l.length 16=true:=dr ak ak;rw[aDE];simp only[aN,hr,aj,dH,aT,ax,jh,cr,eV,bt,ahZ];by_cases h:0 < l.length
 ·simp only[aM h,aj]
 ·have:l=[]:=bD ak;subst this;simp only[aZ,zI,aS (hJ 0),ao]
theorem axJ:PC.RS:=rE [.d (.slice Av)] PC
def aDG:=PC.eS aDF
abbrev Gw:=Int×Int×Nat×Nat×(Int×Unit)×(Int×Unit)×(List gG)×(List gf)
def JJ:Gw->(List gG)->((Nat×Nat×(Int×Unit)×(Int×Unit)×(List gf))×((List gG))):=λ(t17,t18,aLK,aaJ,n1,n2,n9,n12) y=>((aLK,aaJ,n1,n2,n12),y)
abbrev RN:=Int×Int×Nat×Nat×(Int×Unit)×(Int×Unit)×(List gG)×(List gf)
abbrev Gx:=Int×Nat×Int×Int×Int×Int×Nat×Nat×(Int×Unit)×(Int×Unit)×(List gG)×(List gf)×(List oq)
abbrev RQ:=(List oq)×(List oq)
def JK:Gx->RQ->((Int×Int×Int×Nat×Nat×(Int×Unit)×(Int×Unit)×(List gG)×(List gf))×((List oq)×(List oq))):=λ(kv,lL,acI,acJ,t51,t52,aaK,aaL,asn,td,asp,aaF,n49) y=>((kv,acI,acJ,aaK,aaL,asn,td,asp,aaF),y)
def acN:Gw->Prop:=λ(m,i,L,L2,u,v,l,os)=>(l.length<=1000/\∀x∈l,x.2.1.2.1.length<=1000000)/\∃k:Nat,k<=l.length/\i=k/\m=l.length/\L=l.length
def RM:Gw->(List gG):=λ(m,i,L,L2,u,v,l,os)=>l
def acR:Gx->Prop:=λ(kv,L,m1,i1,m,i,L5,L6,u,v,ls,os,bs)=>(bs.length<=1000/\∀x∈bs,x.1.length<=1000000)/\∃k:Nat,k<=bs.length/\i=k/\m=bs.length/\L=bs.length
def RP:Gx->RQ:=λ(kv,L,m1,i1,m,i,L5,L6,u,v,ls,os,bs)=>(bs,bs)
def acP:RN->Prop:=λ(m,i,L3,L,u,v,ls,os)=>(os.length<=1000/\∀x∈os,x.2.1.1.length<=1000/\∀b∈x.2.1.1,b.1.length<=1000000)/\∃k:Nat,k<=os.length/\i=k/\m=os.length/\L=os.length
def RO:RN->(Nat×Nat×(Int×Unit)×(Int×Unit)×(List gG)×(List gf)):=λ(m,i,L3,L,u,v,ls,os)=>(L3,L,u,v,ls,os)
def apw:dv->Prop:=λt=>gV t=true
def ag5:dv->(Nat×((List gf)×(Int×Unit))×(List gG)):=λt=>(t.1.length,(t.2.1,t.2.2),t.1)
def l9:Ls acN JJ RM:=rW (λ(t17,t18,aLK,aaJ,n1,n2,n9,n12)=>⟨([bE,eT 1,eT 2]++aP 14 ([.d ti t17,.d ti t18]++aP 56 [])),[],([[],dK (.pr (oh 9 aLK) (.pr (oh 12 aaJ) (.d (.pair ti .unit) n1))),dK (.pr (.dd) (.pr (.dd) (.d (.pair ti .unit) n2)))]++bM 6 ([dK (.vec 86 fY n9),[],[],dK (.vec 79 gb n12)]++bM 62 []))⟩) (λx=>(.exit 0,⟨([bE,eT 1,eT 2]++aP 72 []),[],([[],dK (.pr (oh 9 x.1.1) (.pr (oh 12 x.1.2.1) (.d (.pair ti .unit) x.1.2.2.1))),dK (.pr (.dd) (.pr (.dd) (.d (.pair ti .unit) x.1.2.2.2.1)))]++bM 6 ([dK (.vec 86 fY x.2),[],[],dK (.vec 79 gb x.1.2.2.2.2)]++bM 62 []))⟩))
def ma:Ls acP bt RO:=rW (λ(t38,t39,anO,agi,aGc,kM,QQ,aaE)=>⟨([bE,eT 1,eT 2]++aP 35 ([.d ti t38,.d ti t39]++aP 35 [])),[],([[],dK (.pr (oh 9 anO) (.pr (oh 12 agi) (.d (.pair ti .unit) aGc))),dK (.pr (.dd) (.pr (.dd) (.d (.pair ti .unit) kM)))]++bM 6 ([dK (.vec 86 fY QQ),[],[],dK (.vec 79 gb aaE)]++bM 62 []))⟩) (λx=>(.exit 2,⟨([bE,eT 1,eT 2]++aP 72 []),[],([[],dK (.pr (oh 9 x.1) (.pr (oh 12 x.2.1) (.d (.pair ti .unit) x.2.2.1))),dK (.pr (.dd) (.pr (.dd) (.d (.pair ti .unit) x.2.2.2.1)))]++bM 6 ([dK (.vec 86 fY x.2.2.2.2.1),[],[],dK (.vec 79 gb x.2.2.2.2.2)]++bM 62 []))⟩))
def mc:Ls acR JK RP:=rW (λ(kv,lL,acI,acJ,t51,t52,aaK,aaL,asn,td,asp,aaF,n49)=>⟨([bE,eT 1,eT 2,bE,.d ti kv,oh 49 lL]++aP 32 ([.d ti acI,.d ti acJ]++aP 11 ([.d ti t51,.d ti t52]++aP 22 []))),[],([[],dK (.pr (oh 9 aaK) (.pr (oh 12 aaL) (.d (.pair ti .unit) asn))),dK (.pr (.dd) (.pr (.dd) (.d (.pair ti .unit) td)))]++bM 6 ([dK (.vec 86 fY asp),[],[],dK (.vec 79 gb aaF)]++bM 36 ([dK (.vec 98 ke n49)]++bM 25 [])))⟩) (λx=>(.exit 4,⟨([bE,eT 1,eT 2,bE,.d ti x.1.1,.d (.slice ke) x.2.1]++aP 32 ([.d ti x.1.2.1,.d ti x.1.2.2.1]++aP 35 [])),[],([[],dK (.pr (oh 9 x.1.2.2.2.1) (.pr (oh 12 x.1.2.2.2.2.1) (.d (.pair ti .unit) x.1.2.2.2.2.2.1))),dK (.pr (.dd) (.pr (.dd) (.d (.pair ti .unit) x.1.2.2.2.2.2.2.1)))]++bM 6 ([dK (.vec 86 fY x.1.2.2.2.2.2.2.2.1),[],[],dK (.vec 79 gb x.1.2.2.2.2.2.2.2.2)]++bM 36 ([[.obj 0 true (.vec 98 ke x.2.2)]]++bM 25 [])))⟩))
def mq:Fs Tryz.prog apw bt ag5:=eN 90 Tryz.f90 (λt=>([.d eA t],[])) (λx=>⟨.pr (.bz (.new 0 0) 0 [] 0 0 x.1) (.d (.pair (.slice gb) (.pair ti .unit)) x.2.1),[],[.obj 0 false (.vec 86 fY x.2.2)]⟩) [some eA] [aKl,aDD,aDG,au6,TG] {bJ:=[1],loops:=nX [(3,{aV:=[1,2,17,18],sites:=[1,2,9,12]}),(8,{aV:=[1,2,38,39],sites:=[1,2,9,12]}),(12,{aV:=[1,2,4,5,38,39,51,52],sites:=[1,2,9,12,49]})],outs:=nV [(3,{aV:=[1,2],sites:=[1,2,9,12]},{aV:=[2]}),(8,{aV:=[1,2],sites:=[1,2,9,12]},{aV:=[2]}),(12,{aV:=[1,2,4,5,38,39],sites:=[1,2,9,12,49],data:=[(5,(.slice ke))]},{aV:=[2]})],fC:=na [(3,l9.E),(8,ma.E),(12,mc.E)],Nw:=[⟨2,[.snd,.fst],(.slice gb)⟩]}
theorem acO:l9.RS:=rL [.d ti,.d ti,.n,.n,.d (.pair ti .unit),.d (.pair ti .unit),.d (.slice fY),.d (.slice gb)] l9
theorem Hj{R:Type}(t17 t18 aLK aaJ n1 n2 n9 n12)(kn:K2 R)(kx:K3 R):mq.R 0 l9 (t17,t18,aLK,aaJ,n1,n2,n9,n12) kn kx=aH ((gq t18 t17)) (aH (eo t18 ((aLK:Nat):Int)) (aH (decide ((0+(ae t18)) < (ag n9))) (aH (decide ((((0+(ae t18))*36)+34)=(((0+((ae t18)*36))+33)+1))) (al (PC.call (nth fY n9 (0+(ae t18))).2.1.2.1) λx1=>aH (eo t18 ((aLK:Nat):Int)) (aH (decide ((0+(ae t18)) < (ag n9))) (aH (decide ((((0+(ae t18))*36)+34)=(((0+((ae t18)*36))+33)+1))) (aH (decide ((0+(ae t18)) < (ag n9))) (kn (l9.st (t17,(bI .i64 t18 1),aLK,aaJ,n1,n2,(fT n9 (0+(ae t18)) ((nth fY n9 (0+(ae t18))).1,(((nth fY n9 (0+(ae t18))).2.1.1,(x1,(nth fY n9 (0+(ae t18))).2.1.2.2)),(nth fY n9 (0+(ae t18))).2.2))),n12))) none) none) none) none) none) none) none) (l9.go kx ((aLK,aaJ,n1,n2,n12),n9)):=bY
theorem acQ:ma.RS:=rL [.d ti,.d ti,.n,.n,.d (.pair ti .unit),.d (.pair ti .unit),.d (.slice fY),.d (.slice gb)] ma
theorem Hk{R:Type}(t38 t39 anO agi aGc kM QQ aaE)(kn:K2 R)(kx:K3 R):mq.R 1 ma (t38,t39,anO,agi,aGc,kM,QQ,aaE) kn kx=aH ((gq t39 t38)) (aH (eo t39 ((agi:Nat):Int)) (aH (decide ((0+(ae t39)) < (ag aaE))) (aH (decide ((((0+(ae t39))*2)+1)=(((0+((ae t39)*2))+1)+0))) (al (adM.call (nth gb aaE (0+(ae t39))).2.1.1) λx1=>al (mc.call (t39,x1.1,t38,t39,((x1.1:Nat):Int),0,anO,agi,aGc,kM,QQ,aaE,x1.2)) λx2=>aH (eo x2.1.1 ((x2.1.2.2.2.2.1:Nat):Int)) (aH (decide ((0+(ae x2.1.1)) < (ag x2.1.2.2.2.2.2.2.2.2))) (aH (decide ((((0+(ae x2.1.1))*2)+1)=(((0+((ae x2.1.1)*2))+1)+0))) (aH (decide ((0+(ae x2.1.1)) < (ag x2.1.2.2.2.2.2.2.2.2))) (kn (ma.st (x2.1.2.1,(bI .i64 x2.1.2.2.1 1),x2.1.2.2.2.1,x2.1.2.2.2.2.1,x2.1.2.2.2.2.2.1,x2.1.2.2.2.2.2.2.1,x2.1.2.2.2.2.2.2.2.1,(fT x2.1.2.2.2.2.2.2.2.2 (0+(ae x2.1.1)) ((nth gb x2.1.2.2.2.2.2.2.2.2 (0+(ae x2.1.1))).1,((x2.2.1,(nth gb x2.1.2.2.2.2.2.2.2.2 (0+(ae x2.1.1))).2.1.2),(nth gb x2.1.2.2.2.2.2.2.2.2 (0+(ae x2.1.1))).2.2)))))) none) none) none) none) none) none) none) (ma.go kx (anO,agi,aGc,kM,QQ,aaE)):=bY
theorem acS:mc.RS:=rL [.d ti,.n,.d ti,.d ti,.d ti,.d ti,.n,.n,.d (.pair ti .unit),.d (.pair ti .unit),.d (.slice fY),.d (.slice gb),.d (.slice ke)] mc
theorem Hl{R:Type}(kv lL acI acJ t51 t52 aaK aaL asn td asp aaF n49)(kn:K2 R)(kx:K3 R):mq.R 2 mc (kv,lL,acI,acJ,t51,t52,aaK,aaL,asn,td,asp,aaF,n49) kn kx=aH ((gq t52 t51)) (aH (eo t52 ((lL:Nat):Int)) (aH (decide ((0+(ae t52)) < (ag n49))) (aH (decide ((((0+(ae t52))*4)+0)=((0+((ae t52)*4))+0))) (al (Bn.call (nth ke n49 (0+(ae t52))).1) λx1=>aH (eo t52 ((lL:Nat):Int)) (aH (decide ((0+(ae t52)) < (ag n49))) (aH (decide ((((0+(ae t52))*4)+0)=((0+((ae t52)*4))+0))) (aH (decide ((0+(ae t52)) < (ag n49))) (kn (mc.st (kv,lL,acI,acJ,t51,(bI .i64 t52 1),aaK,aaL,asn,td,asp,aaF,(fT n49 (0+(ae t52)) (x1,(nth ke n49 (0+(ae t52))).2))))) none) none) none) none) none) none) none) (aH (decide (0=0/\(0+lL)<=(ag n49))) (mc.go kx ((kv,acI,acJ,aaK,aaL,asn,td,asp,aaF),((cut n49 0 lL),n49))) none):=bY
theorem at9{R:Type}(t)(k:K1 R):mq.A t k=al (ahW.call t.1) λx1=>al (PB.call t.2.1) λx2=>al (l9.call (((x1.1:Nat):Int),0,x1.1,x2.1,t.2.2,(0,()),x1.2,x2.2)) λx4=>al (ma.call (((x4.1.2.1:Nat):Int),0,x4.1.1,x4.1.2.1,x4.1.2.2.1,x4.1.2.2.2.1,x4.2,x4.1.2.2.2.2)) λx8=>aH (decide (0=0/\(0+x8.2.1)<=(ag x8.2.2.2.2.2))) (k (mq.out (x8.1,((cut x8.2.2.2.2.2 0 x8.2.1),x8.2.2.1),x8.2.2.2.2.1))) none:=bY
theorem aeK:(mq.kN 0 l9):=by
 refine(mq.mh 0 l9) (λ(m,i,L,L2,u,v,l,os)=>l.length - ae i) ?_
 rintro⟨m,i,L,L2,u,v,l,os⟩ ⟨⟨hlen,hx⟩,k,hk,rfl,rfl,rfl⟩;have hlen:l.length<=1000:=hlen;have hk:k<=l.length:=hk;by_cases h:k < l.length
 ·left;have n1:nth fY l k=l[k]:=cg (t:=fY) h;have hs:l.set k l[k]=l:=gE h;have e:=hx _ (aO h);refine⟨((l.length:Int),((k+1:Nat):Int),l.length,L2,u,v,l,os),⟨⟨hlen,hx⟩,k+1,ak,rfl,rfl,rfl⟩,by simp only[aa];omega,rfl,λkn kx=> ?_⟩;rw[Hj,aU ak,bg ak ak];simp only[aa,aN,cm,eO,Nat.reduceAdd,aj,aM h,cr,n1];rw[axJ (d:=l[k].2.1.2.1) e];simp only[ah,bt,ahZ];rw[N.mO ak];exact bo (λz=>kn (l9.st (_,_,_,_,_,_,z,_))) hs
 ·right;obtain rfl:k=l.length:=ak;intro R kn kx;rw[Hj,aR ak,ao];rfl
theorem aeM:(mq.kN 2 mc):=by
 refine(mq.mh 2 mc) (λ(kv,L,m1,i1,m,i,L5,L6,u,v,ls,os,bs)=>bs.length - ae i) ?_
 rintro⟨kv,L,m1,i1,m,i,L5,L6,u,v,ls,os,bs⟩ ⟨⟨hlen,hx⟩,k,hk,rfl,rfl,rfl⟩;have hlen:bs.length<=1000:=hlen;have hk:k<=bs.length:=hk;by_cases h:k < bs.length
 ·left;have n1:nth ke bs k=bs[k]:=cg (t:=ke) h;have hs:bs.set k bs[k]=bs:=gE h;have e:=hx _ (aO h);refine⟨(kv,bs.length,m1,i1,(bs.length:Int),((k+1:Nat):Int),L5,L6,u,v,ls,os,bs),⟨⟨hlen,hx⟩,k+1,ak,rfl,rfl,rfl⟩,by simp only[aa];omega,rfl,λkn kx=> ?_⟩;rw[Hl,aU ak,bg ak ak];simp only[aa,aN,cm,eO,Nat.reduceAdd,aj,aM h,cr,n1];rw[Oh (d:=bs[k].1) e];simp only[ah,bt,QZ];rw[N.mO ak];exact bo (λz=>kn (mc.st (_,_,_,_,_,_,_,_,_,_,_,_,z))) hs
 ·right;obtain rfl:k=bs.length:=ak;intro R kn kx;rw[Hl,aR ak,ao];simp only[aN,ax,jh,cr,aj,eV];rfl
theorem aeL:(mq.kN 1 ma):=by
 refine(mq.mh 1 ma) (λ(m,i,L3,L,u,v,ls,os)=>os.length - ae i) ?_
 rintro⟨m,i,L3,L,u,v,ls,os⟩ ⟨⟨hlen,hx⟩,k,hk,rfl,rfl,rfl⟩;have hlen:os.length<=1000:=hlen;have hk:k<=os.length:=hk;by_cases h:k < os.length
 ·left;have n1:nth gb os k=os[k]:=cg (t:=gb) h;have hs:os.set k os[k]=os:=gE h;have e:=hx _ (aO h);refine⟨((os.length:Int),((k+1:Nat):Int),L3,os.length,u,v,ls,os),⟨⟨hlen,hx⟩,k+1,ak,rfl,rfl,rfl⟩,by simp only[aa];omega,rfl,λkn kx=> ?_⟩;rw[Hk,aU ak,bg ak ak];simp only[aa,aN,cm,eO,Nat.reduceAdd,aj,aM h,cr,n1];rw[al2 (d:=os[k].2.1.1) (by show os[k].2.1.1.length<=_;have:=e.1;omega)];simp only[ah,bt,ahV];rw[acS (d:=((k:Int),os[k].2.1.1.length,(os.length:Int),(k:Int),(os[k].2.1.1.length:Int),0,L3,os.length,u,v,ls,os,os[k].2.1.1)) ⟨e,0,aJ _,rfl,rfl,rfl⟩];simp only[ah,JK,RP,aa,n1,aj,aM h,bg (show(0:Int)<=(k:Int) by omega) (show(k:Int) < (os.length:Int) by omega)];rw[N.mO ak];exact bo (λz=>kn (ma.st (_,_,_,_,_,_,_,z))) hs
 ·right;obtain rfl:k=os.length:=ak;intro R kn kx;rw[Hk,aR ak,ao];rfl
theorem Tv{l:Lk}(h:kP l=true):l.1.length<=4/\∀b∈l.1,b.1.length<=12:=by unfold kP at h;simp only[au,cV,aW]at h;refine⟨h.2.2,λb hb=> ?_⟩;have:=h.1 b hb;unfold vd at this;simp only[au,aW]at this;exact this.1
theorem aua:mq.Ok:=by
 rintro⟨is,os,nt,u⟩ jj;obtain⟨⟨_,a2,a3,_⟩,b1,b2⟩:=jI jj;have a2:is.length<=64:=a2;have a3:os.length<=64:=a3;rw[at9,aDy (d:=is) (by show is.length<=_;omega),axH (d:=os) (by show os.length<=_;omega)];simp only[ah,bt,aq8,bt,ahY];rw[acO (d:=(is.length,0,is.length,os.length,(nt,u),(0,()),is,os)) ⟨⟨by show is.length<=_;omega,λx hx=>by have:=(A6 (mC _ _ b1 x hx)).2.2.2.2;omega⟩,0,aJ _,rfl,rfl,rfl⟩];simp only[ah,JJ,RM];rw[acQ (d:=(os.length,0,is.length,os.length,(nt,u),(0,()),is,os)) ⟨⟨by show os.length<=_;omega,λx hx=>by
  have:=Tv (kq _ _ b2 x hx).2;exact⟨ak,λb hb=>by have:=this.2 b hb;omega⟩⟩,0,aJ _,rfl,rfl,rfl⟩]
 simp only[ah,bt,RO,aN,ax,jh,cr,aj,eV];rfl
theorem apx:mq.RS:=rE [.d eA] mq
def aub:=mq.eS aua 3 ⟨.fp aeK,⟨.fp aeL,⟨.fp aeM,trivial⟩⟩⟩
theorem Q1(x:Int)(m:Int):∀k:Nat,(x%m)^k%m=x^k%m
 | 0=>by rw[lf,lf]
 |k+1=>by rw[fJ,fJ,jA,Q1 x m k,gM _ (qd m),<-jA]
theorem aPS(a:Int)(k:Nat):(a*a)^k=a^(2*k):=by rw[Int.pow_mul,fJ,fJ,lf,Int.one_mul]
theorem aGR:∀(f:Nat) (a:Int) (n:Nat) (out:Int),n < 2^f->Pn out->akZ f a n out=out*a^n%4611686018427377339
 | 0,a,n,out,h,ho=>by obtain rfl:n=0:=ak;rw[Br,lf,xj,fa ho.1 ho.2]
 |f+1,a,n,out,h,ho=>by
  have e:(2:Nat)^(f+1)=2^f*2:=Nat.pow_succ 2 f;rw[akZ];split
  ·rename_i h0;subst h0;rw[lf,xj,fa ho.1 ho.2]
  ·have hp:Pn (if n%2=1 then pJ out a else out):=by
    split
    ·exact wD _ _
    ·exact ho
   rw[aGR f _ _ _ ak hp,jA];have e1:(pJ a a)^(n / 2)%4611686018427377339=a^(2*(n / 2))%4611686018427377339:=by unfold pJ;rw[Q1,aPS]
   have e2:(if n%2=1 then pJ out a else out)%4611686018427377339=(out*a^(n%2))%4611686018427377339:=by
    split
    ·rename_i h1;rw[h1,fJ,lf,Int.one_mul];exact gM _ (qd _)
    ·have h1:n%2=0:=ak;rw[h1,lf,xj]
   rw[e1,e2,<-jA,rn,<-Int.pow_add];have e3:n%2+2*(n / 2)=n:=ak;rw[e3]
theorem abq(a:Int)(n:Nat)(h:n < 18446744073709551616):pw a n=a^n%4611686018427377339:=by unfold pw;rw[aGR 64 a n 1 h ⟨ak,ak⟩,Int.one_mul]
theorem one_pow(k:Nat):(1:Int)^k=1:=Int.one_pow
theorem aGT(a:Int)(k q:Nat)(hk:k < 18446744073709551616)(hq:q < 18446744073709551616)(h:pw a q=1):pw (pw a k) q=1:=by rw[abq _ _ hq]at h;rw[abq _ _ hq,abq _ _ hk,Q1,<-Int.pow_mul,qm,Int.pow_mul,<-Q1,h,one_pow];rfl
theorem afR:pw 4 2305843009213688669=1:=by decide+kernel
theorem azv:pw 1 2305843009213688669=1:=by decide+kernel
theorem aLs:vn 4=true:=by rw[vn,afR];rfl
theorem Qv:vn 1=true:=by rw[vn,azv];rfl
theorem aLS:anP 1=1:=by
 have e:pw 1 2305843009213688668=1:=by decide+kernel
 rw[anP,tk,Qv];exact e
theorem ajC{a:Int}(h:Pn a)(q:Nat)(hq:0 < q)(Ta:q < 18446744073709551616)(hp:pw a q=1):0 < a:=by
 rcases Int.lt_or_eq_of_le h.1 with h0 | h0
 ·exact h0
 ·subst h0;rw[abq _ _ Ta,Int.zero_pow ak]at hp;cases hp
theorem aPc{a:Int}(h:Pn a)(hp:pw a 2305843009213688669=1):vn a=true:=by have h0:=ajC h 2305843009213688669 (by decide) (by decide) hp;rw[vn,hp,fy ⟨h0,h.2⟩];rfl
theorem ayM{a:Int}(h:vn a=true):pw a 2305843009213688669=1/\Pn a:=by rw[vn,au,aW,aW]at h;exact⟨h.2,ak,h.1.2⟩
theorem aPd{a:Int}(h:vn a=true)(k:Nat)(hk:k < 18446744073709551616):vn (pw a k)=true:=
 aPc (aoi _ _) (aGT a k _ hk (by decide) (ayM h).1)
theorem aPe(a:Int):vn (tk a)=true:=by
 unfold tk;cases h:vn a
 ·exact Qv
 ·exact h
theorem ayN(p k:Int):vn (Gp p k)=true:=aPd (aPe p) _ ak
theorem acT{a:Int}(h:vn a=true):tk a=a:=by rw[tk,h];rfl
theorem aaa(k:Int):vn (gg k)=true:=ayN 4 k
theorem anM{a:Int}(h:Pn a):pJ a 1=a:=by rw[pJ,xj,fa h.1 h.2]
def pm(m:Nat):Nat->Nat->Nat->Nat->Nat
 | 0,_,_,out=>out%m
 |f+1,a,n,out=>if n=0 then out%m else pm m f (a*a%m) (n / 2) (if n%2=1 then out*a%m else out)
theorem aNJ(m:Nat):∀(f a n out:Nat),n < 2^f->pm m f a n out=out*a^n%m
 | 0,a,n,out,h=>by obtain rfl:n=0:=ak;rw[pm,Nat.pow_zero,gO]
 |f+1,a,n,out,h=>by
  have e:(2:Nat)^(f+1)=2^f*2:=Nat.pow_succ (n:=2) (m:=f);rw[pm];split
  ·rename_i h0;subst h0;rw[Nat.pow_zero,gO]
  ·rw[aNJ m f _ _ _ ak,lh];have e1:(a*a%m)^(n / 2)%m=a^(2*(n / 2))%m:=by rw[<-Nat.pow_mod,Nat.pow_mul,Nat.pow_two]
   have e2:(if n%2=1 then out*a%m else out)%m=(out*a^(n%2))%m:=by
    split
    ·rename_i h1;rw[h1,Nat.pow_one,Nat.mod_mod]
    ·have h1:n%2=0:=ak;rw[h1,Nat.pow_zero,gO]
   rw[e1,e2,<-lh,Nat.mul_assoc,<-oW];have e3:n%2+2*(n / 2)=n:=ak;rw[e3]
theorem aE2:∀(r q:Nat) (f:Nat->Nat),(∀i,i < q->f i < r)->(∀i j,i < j->j < q->f i≠f j)->q<=r
 | 0,q,f,h,_=>by
  rcases iU q with h0 | h0
  ·omega
  ·exact absurd (h 0 h0) (Nat.not_lt_zero _)
 |r+1,q,f,h,g=>by
  by_cases hx:∃i,i < q/\f i=r
  ·obtain⟨i,hi,hr⟩:=hx;have e:=aE2 r (q - 1) (λj=>if j < i then f j else f (j+1)) (λj hj=>by
    by_cases h1:j < i
    ·have a:=h j ak;have b:=g j i h1 hi;simp only[h1,bG];omega
    ·have a:=h (j+1) ak;have b:=g i (j+1) ak ak;simp only[h1,bq];omega) (λj k aWp hk=>by
    by_cases h1:j < i
    ·by_cases h2:k < i
     ·simp only[h1,h2,bG];exact g j k aWp ak
     ·simp only[h1,h2,bG,bq];exact g j (k+1) ak ak
    ·have h2:¬k < i:=ak;simp only[h1,h2,bq];exact g (j+1) (k+1) ak ak)
   omega
  ·have e:=aE2 r q f (λi hi=>by
    have a:=h i hi;have b:f i≠r:=λx=>hx ⟨i,hi,x⟩
    omega) g
   omega
theorem av4(a m:Nat)(h1:1%m=1):∀i j:Nat,a^i%m=1->a^j%m=1->a^(Nat.gcd i j)%m=1:=by
 intro i
 induction i using Nat.strongRecOn with
 |ind i ih=>
  intro j hi hj;rcases iU i with h0 | h0
  ·subst h0;rw[Nat.gcd_zero_left];exact hj
  ·rw[Nat.gcd_rec];refine ih (j%i) (Nat.mod_lt _ h0) i ?_ hi
   have e:a^j=(a^i)^(j / i)*a^(j%i):=by rw[<-Nat.pow_mul,<-oW,Nat.div_add_mod]
   rw[e,lh,Nat.pow_mod,hi,Nat.one_pow,h1,iy,Nat.mod_mod]at hj;exact hj
def aCb(n:Nat):Prop:=∀d,d∣n->d=1\/d=n
theorem av5{n k:Nat}(h:aCb n)(h0:0 < k)(hk:k < n):Nat.gcd k n=1:=by
 rcases h _ (Nat.gcd_dvd_right k n) with h1 | h1
 ·exact h1
 ·have:=Nat.le_of_dvd h0 (Nat.gcd_dvd_left k n);omega
theorem anS{n:Nat}(hn:1 < n)(h:∀r,1 < r->r*r<=n->¬r∣n):aCb n:=by
 intro d hd;obtain⟨e,he⟩:=hd;have aSx:0 < d:=Nat.pos_of_ne_zero (by intro x;rw[x,nu]at he;omega);have aiK:0 < e:=Nat.pos_of_ne_zero (by intro x;rw[x,Nat.mul_zero]at he;omega);by_cases h1:d=1
 ·exact .inl h1
 by_cases h2:e=1
 ·right;rw[he,h2,gO]
 exfalso;rcases Nat.le_total d e with hle | hle
 ·exact h d ak (by rw[he];exact Nat.mul_le_mul_left d hle) ⟨e,he⟩
 ·exact h e ak (by rw[he];exact cQ e hle) ⟨d,by rw[he,qm]⟩
theorem aPE{n q b:Nat}(hn:1 < n)(hq:aCb q)(aQr:1 < q)(aTZ:n < q*q)(hb:b^q%n=1)(hg:Nat.gcd (b - 1) n=1)(aSw:0 < b):aCb n:=by
 refine anS hn λr hr aWJ aiR=> ?_
 have aVa:1%r=1:=j6 hr;have aVe:b^q%r=1:=by have:=Nat.mod_mod_of_dvd (b^q) aiR;rw[<-this,hb,aVa]
 have gC:b%r≠1:=by
  intro hx;have hd:r∣b - 1:=by have e:=Nat.dvd_sub_mod (n:=r) b;rw[hx]at e;exact e
  have:=Nat.dvd_gcd hd aiR;rw[hg]at this;have:=Nat.le_of_dvd ak this;omega
 have key:q<=r:=by
  refine aE2 r q (λi=>b^i%r) (λi _=>Nat.mod_lt _ ak) λi j aSE hj he=> ?_
  have e1:b^(j - i)%r=1:=by
   have x1:b^(q - i)*b^i%r=b^(q - i)*b^j%r:=by rw[lh,he,<-lh]
   rw[<-oW,<-oW,show q - i+i=q by omega,show q - i+j=q+(j - i) by omega,oW,lh,aVe,iy,Nat.mod_mod]at x1;exact x1.symm
  have e2:=av4 b r aVa (j - i) q e1 aVe;rw[av5 hq ak ak,Nat.pow_one]at e2;exact gC e2
 have:q*q<=r*r:=Nat.mul_le_mul key key;omega
def aGj(n:Nat):Nat->Bool
 | 0=>true
 |k+1=>n%(k+2) !=0 && aGj n k
theorem anR(n:Nat):∀k,aGj n k=true->∀d,1 < d->d<=k+1->¬d∣n
 | 0,_,d,h1,h2=>ak
 |k+1,h,d,h1,h2=>by
  rw[aGj,au]at h;by_cases hd:d=k+2
  ·intro hx;have:=Nat.mod_eq_zero_of_dvd hx;rw[hd]at this;rw[this]at h;exact absurd h.1 (by decide)
  ·exact anR n k h.2 d h1 ak
theorem aUt:aCb 7930907:=by
 refine anS (by decide) λr hr aWJ=>anR 7930907 2820 (by decide+kernel) r hr ?_
 apply Nat.le_of_not_lt;intro h;have:2822*2822<=r*r:=Nat.mul_le_mul ak ak;omega
theorem Q2{n q:Nat}(a e:Nat)(hq:aCb q)(aQr:1 < q)(hn:1 < n)(aTZ:n < q*q)(he:e < 2^64)(Ta:q < 2^64)(h1:pm n 64 (pm n 64 a e 1) q 1=1)(h2:Nat.gcd (pm n 64 a e 1 - 1) n=1)(h3:0 < pm n 64 a e 1):aCb n:=by generalize pm n 64 a e 1=b at*;rw[aNJ _ _ _ _ _ Ta,iy]at h1;exact aPE hn hq aQr aTZ h1 h2 h3
theorem aUs:aCb 11864636873:=Q2 (q:=7930907) 2 1496 aUt (by decide) (by decide) (by decide) (by decide) (by decide) (by decide+kernel) (by decide+kernel) (by decide+kernel)
theorem aUr:aCb 1732236983459:=Q2 (q:=11864636873) 2 146 aUs (by decide) (by decide) (by decide) (by decide) (by decide) (by decide+kernel) (by decide+kernel) (by decide+kernel)
theorem aUq:aCb 249442125618097:=Q2 (q:=1732236983459) 2 144 aUr (by decide) (by decide) (by decide) (by decide) (by decide) (by decide+kernel) (by decide+kernel) (by decide+kernel)
theorem aUu:aCb 2305843009213688669:=Q2 (q:=249442125618097) 2 9244 aUq (by decide) (by decide) (by decide) (by decide) (by decide) (by decide+kernel) (by decide+kernel) (by decide+kernel)
def gP(n:Nat):Int:=((4^n%4611686018427377339:Nat):Int)
theorem aef(a m q:Nat)(h1:1%m=1)(h:a^q%m=1)(n:Nat):a^(n%q)%m=a^n%m:=by
 have e:a^n=(a^q)^(n / q)*a^(n%q):=by rw[<-Nat.pow_mul,<-oW,Nat.div_add_mod]
 rw[e,lh,Nat.pow_mod (a^q),h,Nat.one_pow,h1,iy,Nat.mod_mod]
theorem aNc:∀q:Nat,q=2305843009213688669->4^q%4611686018427377339=1:=by
 intro q hq;have h:=afR;rw[abq _ _ (by decide)]at h;rw[<-hq]at h;have e:(((4^q%4611686018427377339:Nat)):Int)=1:=by rw[qf,kS];exact h
 omega
theorem aiF(n:Nat):gP (n%2305843009213688669)=gP n:=by unfold gP;obtain⟨q,hq⟩:∃q:Nat,q=2305843009213688669:=⟨_,rfl⟩;rw[<-hq,aef 4 4611686018427377339 q (by decide) (aNc q hq)]
theorem aQ3(n:Nat)(h:n < 18446744073709551616):pw 4 n=gP n:=by rw[abq _ _ h];unfold gP;rw[qf,kS];rfl
theorem aEQ(k:Int)(h:0<=k):(k%2305843009213688669).toNat=k.toNat%2305843009213688669:=ak
theorem XB(k:Int)(h:0<=k):gg k=gP k.toNat:=by show pw (tk 4) _=_;rw[acT aLs,aQ3 _ ak,aEQ k h,aiF]
theorem aKS(n:Nat):gP n=gg n:=by rw[XB _ ak,aa]
theorem ZN(n:Nat):vn (gP n)=true:=by rw[aKS];exact aaa _
theorem arE(a b:Nat):pJ (gP a) (gP b)=gP (a+b):=by unfold pJ gP;rw[<-kR,oW];have e:(4611686018427377339:Int)=((4611686018427377339:Nat):Int):=rfl;rw[e,<-qf,<-lh]
theorem aER(a:Nat)(c:Int)(h:0<=c):Gp (gP a) c=gP (a*c.toNat):=by
 show pw (tk (gP a)) _=_;rw[acT (ZN a),abq _ _ ak,aEQ c h];obtain⟨b,hb⟩:∃b:Nat,b=c.toNat:=⟨_,rfl⟩;rw[<-hb];obtain⟨d,hd⟩:∃d:Nat,d=b%2305843009213688669:=⟨_,rfl⟩;have hx:gP (a*b)=gP (a*d):=by rw[<-aiF (a*b),<-aiF (a*d),lh a b,lh a d,hd,Nat.mod_mod]
 rw[hx,<-hd];unfold gP;have e:(4611686018427377339:Int)=((4611686018427377339:Nat):Int):=rfl;rw[e,<-kS,<-qf,<-Nat.pow_mod,<-Nat.pow_mul]
theorem avp:gP 0=1:=by decide
theorem aQ2{n:Nat}(h:0 < n)(hn:n < 2305843009213688669):gP n≠1:=by intro he;unfold gP at he;have he:4^n%4611686018427377339=1:=ak;obtain⟨q,hq⟩:∃q:Nat,q=2305843009213688669:=⟨_,rfl⟩;have e:=av4 4 4611686018427377339 (by decide) n q he (aNc q hq);rw[av5 (by rw[hq];exact aUu) h ak]at e;exact absurd e (by decide)
theorem aMB(k:Int)(m:List Int)(h0:0 < k)(hq:k < 2305843009213688669):AJ (gg k) m 1 (mI k m)=true:=by
 obtain⟨kn,hk⟩:∃kn:Nat,kn=k.toNat:=⟨_,rfl⟩;have hb:gg k=gP kn:=by rw[hk];exact XB k ak
 have hn:=ZL (aIh asq [jo k,m]);unfold mI aGk;rw[if_pos ⟨hq,ak⟩];obtain⟨n,gC⟩:∃n,Qd (aIh asq [jo k,m])=n:=⟨_,rfl⟩;rw[gC]at hn ⊢;unfold aht;have hr:Xx [gg n,1]=gP n.toNat:=by show pJ (pJ 1 (tk (gg n))) (tk 1)=_;rw[acT (aaa n),acT Qv,anM (wD _ _),XB n ak,<-avp,arE,aN]
 rw[hr,hb];have hc:=YU (gP n.toNat) (gP kn) m;obtain⟨c,aOL⟩:∃c,GV (gP n.toNat) (gP kn) m=c:=⟨_,rfl⟩;rw[aOL]at hc ⊢;have ha:=auL n (ajl c k);have h1:=hc.1;have h2:=ha.1;have h3:=ha.2;unfold AJ;rw[if_neg (by
  intro h;rcases h with h | h | h | h | h
  ·exact aQ2 ak ak h
  ·rw[ZN]at h;cases h
  ·rw[Qv]at h;cases h
  ·have h:vn (gP n.toNat)=false:=h;rw[ZN]at h;cases h
  ·exact h h3)]
 have e:gg (aqi n (ajl c k))=Xx [gP n.toNat,Gp (gP kn) c,anP 1]:=by
  show _=pJ (pJ (pJ 1 (tk (gP n.toNat))) (tk (Gp (gP kn) c))) (tk (anP 1));rw[aLS,acT Qv,anM (wD _ _),acT (ZN _),aER _ _ h1,acT (ZN _)];rw[show(pJ 1 (gP n.toNat))=gP n.toNat by rw[<-avp,arE,aN]];rw[arE,XB _ h2];have hx:(aqi n (ajl c k)).toNat=(n.toNat+kn*c.toNat)%2305843009213688669:=by
   unfold aqi ajl aGn;have g1:c%2305843009213688669=c:=fa h1 hc.2;have g2:k%2305843009213688669=k:=fa ak hq;have g3:n%2305843009213688669=n:=fa ak hn.2;rw[g1,g2,g3,gM _ (qd _)];have g4:((kn*c.toNat:Nat):Int)=c*k:=by rw[kR,hk,Int.toNat_of_nonneg ak,Int.toNat_of_nonneg h1,qe]
   have g5:0<=c*k:=by rw[<-g4];exact gK _
   obtain⟨z,hz⟩:∃z,c*k=z:=⟨_,rfl⟩;rw[hz]at g4 g5 ⊢;obtain⟨zn,aWU⟩:∃zn,kn*c.toNat=zn:=⟨_,rfl⟩;rw[aWU]at g4 ⊢;omega
  rw[hx,aiF]
 show decide (gg (aqi n (ajl c k))=Xx [gP n.toNat,Gp (gP kn) (GV (gP n.toNat) (gP kn) m),anP 1])=true;rw[aOL];exact fy e
def Ih{α:Type}(p:α->Bool):List α->Int->Int⊕Unit
 |[],_=> .inr ()
 |x::xs,i=>if p x then .inl i else Ih p xs (i+1)
def anb{α:Type}(p:α->Bool)(l:List α):Int:=match Ih p l 0 with | .inl i=>i | .inr _=> -1
theorem ane{α:Type}(p:α->Bool):∀(l:List α) (i:Int),0<=i->(match Ih p l i with | .inl i=>decide (i>=0) | .inr _=>false)=l.any p
 |[],_,_=>rfl
 |x::l,i,h=>by
  rw[Ih,rp];cases hp:p x
  ·simp only[bn,bq,we];exact ane p l (i+1) ak
  ·simp[h]
theorem ZY{α:Type}(p:α->Bool)(l:List α):Cm (anb p l) 0=l.any p:=by
 have:=ane p l 0 ak;unfold anb Cm;cases h:Ih p l 0
 ·rw[h]at this;exact this
 ·rw[h]at this;rw[<-this];rfl
def M3(k:Int):Bool:=decide (¬(k < 2305843009213688669/\k≠0))
def Gr(t:dv)(i br:Int)(ks:List Int):Bool:=gV t && (decide (0<=i/\i < t.1.length/\0<=br/\br < 4/\ks.length<=12) && !(ks.any M3))
def aHT(t:dv)(i br:Int)(ks:List Int)(sc:Int):dv×Int:=if Gr t i br ks then((t.1.set i.toNat ((nth fY t.1 i.toNat).1,(br,ks.map (λk=>mI k (mj t)),sc,()),()),t.2),0) else(([],[],0,()),1)
theorem GG{t:dv}:Sm (mj t):=by
 unfold mj;split
 ·exact akc _ _
 ·exact⟨by rw[b8],λx hx=>by obtain rfl:=(nr.1 hx).2;exact⟨by decide,by decide⟩⟩
def aBq:Int->Prop:=λ_=>True
def awo:Int->Bool:=λk=>M3 k
def WJ:Fs Tryz.prog aBq bt awo:=eN 85 Tryz.f85 (λkv=>([.d tu kv],[])) (λx=>⟨.d .bool x,[],[]⟩) [some tu] [S8]
theorem aIu{R:Type}(kv)(k:K1 R):WJ.A kv k=aH ((qY kv 0)) (k (WJ.out true)) (al (FO.call kv) λx1=>k (WJ.out (!x1))):=bY
theorem aIv:WJ.Ok:=by
 intro(k:Int) _;rw[aIu,NM (d:=k) trivial];simp only[bt,awo,M3,ah,bt,Qc];by_cases h:k=0
 ·rw[du h,aj,aM ak]
 ·rw[eH h,ao];by_cases h2:k < 2305843009213688669
  ·rw[aU h2,aS ak];rfl
  ·rw[aR h2,aM ak];rfl
theorem aBr:WJ.RS:=rE [.d tu] WJ
def aIw:=WJ.eS aIv
abbrev xL:=Bs×Int×Int
def nN:xL->AS:=λ(mi,t7,t8)=>⟨([.d tU mi,.fn 85 (.nil)]++aP 5 ([.d ti t7,.d ti t8]++aP 10 [])),[],(ab 19 [])⟩
def oC:Int->Exit×AS:=λx=>(.ret,⟨(aP 4 ([.d ti x]++aP 14 [])),[],(ab 19 [])⟩)
def wY:Unit->Exit×AS:=λx=>(.exit 0,⟨(aP 19 []),[],(ab 19 [])⟩)
abbrev Ju:=(Int)⊕(Unit)
abbrev Ws:=(Int)⊕(Unit)
def DN:Ju->Out (Exit×AS):=λx=> .br x.isLeft (.get x.getLeft? λa=> .ok (oC a)) (.get x.getRight? λb=> .ok (wY b))
def jV:xL->Ws->Ju:=λ(mi,t7,t8) y=>match y with | .inl y=> .inl y | .inr z=> .inr (z)
def wX:xL->Prop:=λ(l,n,i)=>(∀x∈l,True)/\l.length<=1000000000/\n=l.length/\∃k:Nat,k<=l.length/\i=k
def nj:xL->Ws:=λ(l,n,i)=>Ih M3 (l.drop i.toNat) i
def atN:Bs->Prop:=λl=>(∀x∈l,True)/\l.length<=1000000000
def acr:Bs->Int:=λl=>anb M3 l
def Wr:=dy.fp nN wX jV nj DN
def Jv:xL->Option Ju:=gB Wr nN
def ym:Fs Tryz.prog atN bt acr:=eN 132 Tryz.f132 (λsv=>([.d tU sv,.fn 85 (.nil)],[])) (λx=>⟨.d ti x,[],[]⟩) [some tU,none] [aIw] {loops:=nX [(2,{aV:=[0,1,7,8]})],outs:=nV [(2,{},{aV:=[4]})],fC:=na [(2,Wr)]}
def Jt:= @ee Tryz.prog (jy ym.G) ym.an 0 Tryz.f132 0 _ nN
abbrev RE:=kj Tryz.prog (jy ym.G) ym.an 0 Tryz.f132 0 nN wX jV nj DN
theorem aeD:iW Jv wX jV nj:=l6 (jk [.d tU,.d ti,.d ti] λ_=>bY)
theorem OB:mP @Jt nN wX jV nj DN RE:=nD
theorem Jw{R:Type}(mi:Bs)(t7:Int)(t8:Int)(kn:AS->Option R)(kx:Exit->AS->Option R):Jt (mi,t7,t8) kn kx=aH ((gq t8 t7)) (aH (eo t8 (((ag mi):Nat):Int)) (al (WJ.call (nth tu mi (ae t8))) λx1=>aH (x1) (kx (oC t8).1 (oC t8).2) (kn (nN (mi,t7,(bI .i64 t8 (1:Int)))))) none) (kx (wY ()).1 (wY ()).2):=bY
theorem aAO{R:Type}(sv)(k:K1 R):ym.A sv k=al (Jv (sv,(sv.length:Int),0)) λx2=>aH (x2.isLeft) (al (x2.getLeft?) λa3=>k (ym.out a3)) (al (x2.getRight?) λb4=>k (ym.out (-1))):=bY
theorem aka:RE:=by
 refine OB (λ(l,n,i)=>l.length - i.toNat) ?_
 rintro⟨l,n,i⟩ ⟨hl,hb,rfl,k,hk,rfl⟩;have hb:l.length<=1000000000:=hb;have hk:k<=l.length:=hk;by_cases h:k < l.length
 ·have hx:=hl _ (aO h);have n1:nth tu l k=l[k]:=cg (t:=tu) h;have hd:Ih M3 (l.drop k) k=if M3 l[k] then .inl (k:Int) else Ih M3 (l.drop (k+1)) ((k+1:Nat):Int):=by rw[aq h];rfl
  have step:∀ {R:Type} (kn:AS->Option R) (kx:Exit->AS->Option R),Jt (l,(l.length:Int),(k:Int)) kn kx=aH (M3 l[k]) (kx (oC (k:Int)).1 (oC (k:Int)).2) (kn (nN (l,(l.length:Int),((k+1:Nat):Int)))):=by intro R kn kx;rw[Jw,aU ak,bg ak ak,aa,n1,aBr (d:=l[k]) hx,N.mO ak];rfl
  cases hp:M3 l[k]
  ·left;refine⟨(l,l.length,((k+1:Nat):Int)),⟨hl,hb,rfl,k+1,ak,rfl⟩,by simp only[aa];omega,?_,λkn kx=> ?_⟩
   ·simp only[jV,nj,aa,hd,hp,bn,bq]
   ·rw[step,hp,ao]
  ·right;refine⟨oC (k:Int),?_,λkn kx=> ?_⟩
   ·simp only[jV,nj,aa,hd,hp,bG];rfl
   ·rw[step,hp,aj]
 ·right;obtain rfl:k=l.length:=ak;refine⟨wY (),?_,λkn kx=> ?_⟩
  ·simp only[jV,nj,aa,aK];rfl
  ·rw[Jw,aR ak,ao]
theorem aAP:ym.Ok:=by rintro l ⟨hl,hb⟩;rw[aAO,aeD (d:=(l,l.length,0)) ⟨hl,hb,rfl,0,ak,rfl⟩];simp only[ah,jV,nj,aX,aD,bt,acr,anb];cases Ih M3 l 0 <;> rfl
theorem atO:ym.RS:=rE [.d tU] ym
def aAQ:=ym.eS aAP 1 ⟨.fp aka,trivial⟩
def aeA:Bs->Prop:=λl=>(∀x∈l,True)/\l.length<=1000000000
def Wq:Bs->Bool:=λl=>l.any M3
def vZ:Fs Tryz.prog aeA bt Wq:=eN 88 Tryz.f88 (λsv=>([.d tU sv,.fn 85 (.nil)],[])) (λx=>⟨.d .bool x,[],[]⟩) [some tU,none] [aAQ]
theorem aj6{R:Type}(sv)(k:K1 R):vZ.A sv k=al (ym.call sv) λx1=>k (vZ.out (Cm x1 0)):=bY
theorem aj7:vZ.Ok:=by rintro l ⟨hl,hb⟩;rw[aj6,atO (d:=l) ⟨hl,hb⟩];simp only[ah,bt,acr,ZY];rfl
theorem aeB:vZ.RS:=rE [.d tU] vZ
def aj8:=vZ.eS aj7
abbrev OQ:=Int×Bs×Int×Int×dv×(Int×Unit)×Int×Nat×(Int×Unit)×Bs×(List Sg)
def Ag:OQ->(UC×(List Sg))->((Int×dv×(Int×Unit))×(UC×(List Sg))):=λ(Z9,t52,t53,t54,n5,n10,n13,Hw,agf,n14,aLM) y=>((Z9,n5,n10),y)
abbrev awp:=dv×Int×Int×Bs×Int
def akB:OQ->Prop:=λ(i0,l,n,i,t,e,br,L,sc,id,r)=>l.length<=1000/\(∀x∈l,nU x)/\Sm id/\∃k:Nat,k<=l.length/\i=k/\n=l.length/\L=r.length/\r.length<=1000+k
def GF:OQ->(UC×(List Sg)):=λ(i0,l,n,i,t,e,br,L,sc,id,r)=>((br,r++(l.drop i.toNat).map (λk=>mI k id),sc),r++(l.drop i.toNat).map (λk=>mI k id))
def aBs:awp->Prop:=λ(t,i,br,ks,sc)=>nT t/\(∀x∈ks,nU x)/\ks.length<=1000000000
def akA:awp->(dv×Int):=λ(t,i,br,ks,sc)=>aHT t i br ks sc
def va:Ls akB Ag GF:=rW (λ(Z9,t52,t53,t54,n5,n10,n13,Hw,agf,n14,aLM)=>⟨([bE,.d ti Z9,bE,bE,bE,eT 5]++aP 4 ([eT 10,bE,bE,eT 13,eT 14]++aP 37 ([.d tU t52,.d ti t53,.d ti t54]++aP 21 []))),[],(bM 5 ([dK (.d eA n5)]++bM 4 ([dK (.pr (.dd) (.pr (.dd) (.d (.pair ti .unit) n10))),[],[],dK (.pr (.d ti n13) (.pr (oh 64 Hw) (.d (.pair tu .unit) agf))),dK (.d tH n14)]++bM 49 ([dK (.vec 143 Av aLM)]++bM 11 []))))⟩) (λx=>(.exit 0,⟨([bE,.d ti x.1.1,bE,bE,bE,eT 5]++aP 4 ([eT 10,bE,bE,eT 13]++aP 62 [])),[],(bM 5 ([dK (.d eA x.1.2.1)]++bM 4 ([dK (.pr (.dd) (.pr (.dd) (.d (.pair ti .unit) x.1.2.2))),[],[],dK (.d aA1 x.2.1)]++bM 50 ([[.obj 0 true (.vec 143 Av x.2.2)]]++bM 11 []))))⟩))
def vp:Fs Tryz.prog aBs bt akA:=eN 39 Tryz.f39 (λ(t,inv,branch,keys,secret)=>([.d eA t,.d ti inv,.d ti branch,.d tU keys,.d tu secret],[])) (λx=>⟨.cons (.d eA x.1) (.cons (.d ti x.2) (.nil)),[],[]⟩) [some eA,some ti,some ti,some tU,some tu] [tR,awq,aj8,Uo,aIb,aub] {bJ:=[5],loops:=nX [(7,{aV:=[1,5,10,13,14,52,53,54],sites:=[5,10,13,14,64],owns:=[⟨13,[.snd,.fst],64,82⟩]})],outs:=nV [(7,{aV:=[1,5,10,13],sites:=[5,10,13,64],Nw:=[⟨13,[.snd,.fst],(.slice Av)⟩]},{aV:=[10,11]})],fC:=na [(7,va.E)],res:=[some eA,none]}
theorem akC:va.RS:=rL [.d ti,.d tU,.d ti,.d ti,.d eA,.d (.pair ti .unit),.d ti,.n,.d (.pair tu .unit),.d tB,.d (.slice Av)] va
theorem MN{R:Type}(Z9 t52 t53 t54 n5 n10 n13 Hw agf n14 aLM)(kn:K2 R)(kx:K3 R):vp.R 0 va (Z9,t52,t53,t54,n5,n10,n13,Hw,agf,n14,aLM) kn kx=aH ((gq t54 t53)) (aH (eo t54 (t52.length:Int)) (al (Wv.call ((nth tu t52 (ae t54)),n14)) λx4=>aH (decide (Hw<=(ag aLM))) (aH (da (Hw+1) 16) (kn (va.st (Z9,t52,t53,(bI .i64 t54 1),n5,n10,n13,(Hw+1),agf,n14,((aQ Hw aLM)++ [x4])))) none) none) none) (aH (decide (0=0/\(0+Hw)<=(ag aLM))) (va.go kx ((Z9,n5,n10),((n13,((cut aLM 0 Hw),agf)),aLM))) none):=bY
theorem aIx{R:Type}(t inv branch keys secret)(k:K1 R):vp.A (t,inv,branch,keys,secret) k=al (iI.call t) λap0=>aH ((!ap0)) (k (vp.out ((([]:List gG),(([]:List gf),(0,()))),1))) (aH ((gq inv 0)) (k (vp.out ((([]:List gG),(([]:List gf),(0,()))),1))) (aH ((Cm inv (t.1.length:Int))) (k (vp.out ((([]:List gG),(([]:List gf),(0,()))),1))) (al (aeV.call (branch,(([]:List Sg),(secret,())))) λawG=>aH ((!awG)) (k (vp.out ((([]:List gG),(([]:List gf),(0,()))),1))) (aH ((rz (keys.length:Int) 12)) (k (vp.out ((([]:List gG),(([]:List gf),(0,()))),1))) (al (vZ.call keys) λaM2=>aH (aM2) (k (vp.out ((([]:List gG),(([]:List gf),(0,()))),1))) (al (tid.call t) λae2=>al (va.call (inv,keys,(keys.length:Int),0,t,(0,()),branch,0,(secret,()),ae2,([]:List Sg))) λady=>al (mq.call ady.1.2.1) λahj=>aH (eo ady.1.1 ((ahj.1:Nat):Int)) (aH (decide ((0+(ae ady.1.1)) < (ag ahj.2.2))) (aH (decide ((((0+(ae ady.1.1))*36)+33)=((0+((ae ady.1.1)*36))+33))) (aH (decide ((0+(ae ady.1.1)) < (ag ahj.2.2))) (aH (decide (0=0/\(0+ahj.1)<=(ag (fT ahj.2.2 (0+(ae ady.1.1)) ((nth fY ahj.2.2 (0+(ae ady.1.1))).1,(ady.2.1,(nth fY ahj.2.2 (0+(ae ady.1.1))).2.2)))))) (k (vp.out (((cut (fT ahj.2.2 (0+(ae ady.1.1)) ((nth fY ahj.2.2 (0+(ae ady.1.1))).1,(ady.2.1,(nth fY ahj.2.2 (0+(ae ady.1.1))).2.2))) 0 ahj.1),ahj.2.1),0))) none) none) none) none) none)))))):=bY
theorem apI:(vp.kN 0 va):=by
 refine(vp.mh 0 va) (λ(i0,l,n,i,t,e,br,L,sc,id,r)=>l.length - i.toNat) ?_
 rintro⟨i0,l,n,i,t,e,br,L,sc,id,r⟩ ⟨hlen,hu,hm,k,hk,rfl,rfl,rfl,hr⟩;have hlen:l.length<=1000:=hlen;have hk:k<=l.length:=hk;have hr:r.length<=1000+k:=hr;by_cases h:k < l.length
 ·left;have n1:nth tu l k=l[k]:=cg (t:=tu) h;have hd:bR k l=l[k]::bR (k+1) l:=aq h;refine⟨(i0,l,l.length,((k+1:Nat):Int),t,e,br,r.length+1,sc,id,r++ [mI l[k] id]),⟨hlen,hu,hm,k+1,ak,rfl,rfl,by rw[ai];rfl,by rw[ai];show r.length+1<=_;omega⟩,by simp only[aa];omega,?_,λkn kx=> ?_⟩
  ·simp only[Ag,GF,aa,hd,bP,aF,cZ]
  ·rw[MN,aU ak,bg ak ak,aa,n1,aAY (d:=(l[k],id)) ⟨hu _ (aO h),hm⟩];simp only[aj,ah,bt,aki];rw[aM (ax _),dr ak ak,N.mO ak,bK];rfl
 ·right;obtain rfl:k=l.length:=ak;intro R kn kx;rw[MN,aR ak,ao];simp only[Ag,GF,aa,aK,ig,ba,aN,ax,jh,cr,aj,eV]
theorem aIy:vp.Ok:=by
 rintro⟨⟨is,os,nt,u⟩,i,br,ks,sc⟩ ⟨hv,hu,hl⟩;have hv:nT (is,os,nt,u):=hv;have hl:ks.length<=1000000000:=hl;rw[aIx,qb (d:=(is,os,nt,u)) hv.1];simp only[ah,bt,rR,bt,akA,aHT,Gr];rcases ja (gV (is,os,nt,u)) with jj | jj;rotate_left
 ·simp only[jj];rfl
 obtain⟨⟨_,a2,a3,_⟩,b1,b2⟩:=jI jj;have a2:is.length<=64:=a2;simp only[jj,cz,ao,bu];by_cases h1:i < 0
 ·rw[aU h1,aj,aS ak];rfl
 rw[aR h1,ao];by_cases h2:i>=(is.length:Int)
 ·rw[gr h2,aj,aS ak];rfl
 rw[eE h2,ao,apM (d:=(br,([],(sc,())))) trivial];simp only[ah,bt,akD,BO];by_cases h3:0<=br/\br < 4
 ·rw[aM h3];by_cases h4:ks.length > 12
  ·rw[cR ak,aS (p:=0<=i/\i < (is.length:Int)/\0<=br/\br < 4/\ks.length<=12) ak];rfl
  ·rw[cn ak,aM (p:=0<=i/\i < (is.length:Int)/\0<=br/\br < 4/\ks.length<=12) ak,aeB (d:=ks) ⟨λ_ _=>trivial,hl⟩];simp only[ah,bt,Wq];rcases ja (ks.any M3) with hb | hb;rotate_left
   ·simp only[hb];obtain⟨k,rfl⟩:∃k:Nat,i=k:=⟨i.toNat,ak⟩;have hk:k < is.length:=ak;simp only[show(([]:List Sg).length<=12)=True from eq_true (aJ _),cr,wc,cz,eZ,ao,bu,bG];rw[Gy (d:=(is,os,nt,u)) hv];simp only[ah,bt,RR];rw[akC (d:=((k:Int),ks,ks.length,0,(is,os,nt,u),(0,()),br,0,(sc,()),mj (is,os,nt,u),[])) ⟨by show ks.length<=_;omega,hu,GG,0,aJ _,rfl,rfl,rfl,aJ _⟩];simp only[ah,Ag,GF,aX,aD,aT];rw[apx (d:=(is,os,nt,u)) jj];simp only[ah,bt,ag5,aa,aN,cm,bg (show(0:Int)<=(k:Int) by omega) (show(k:Int) < (is.length:Int) by omega),aj,aM hk,cr,rU,ax,jh];rw[eV (by rw[rU])]
   ·simp only[hb];rfl
 ·rw[aS h3,aS (p:=0<=i/\i < (is.length:Int)/\0<=br/\br < 4/\ks.length<=12) ak];rfl
theorem aBt:vp.RS:=rE [.d eA,.d ti,.d ti,.d tU,.d tu] vp
def aIz:=vp.eS aIy 1 ⟨.fp apI,trivial⟩
abbrev eQ:Ty:=(.pair gb (.pair ti .unit))
abbrev dQ:=(gf×(Int×Unit))
abbrev aA0:Ty:=(.pair bl (.pair eQ .unit))
abbrev XA:=(bF×(dQ×Unit))
abbrev cD:Ty:=(.pair (.slice aA0) (.pair (.slice bl) .unit))
abbrev bW:=((List XA)×((List bF)×Unit))
def aCz:(Bs×Bs)->Prop:=λ_=>True
def aCy:(Bs×Bs)->Int:=λ(a,b)=>adN a b
def aqs:Fs Tryz.prog aCz bt aCy:=eN 64 Tryz.f64 (λ(a,b)=>([.d tB a,.d tB b],[])) (λx=>⟨.d ti x,[],[]⟩) [some tB,some tB] [⟨108,ml,auP,.of (aN1 (fn:=Tryz.f108) bY bY bY bY bY) (by rfl)⟩]
theorem aJP{R:Type}(a b)(k:K1 R):aqs.A (a,b) k=al (alm (a,b)) λx1=>k (aqs.out x1):=bY
theorem aJQ:aqs.Ok:=by rintro⟨a,b⟩ _;rw[aJP,auQ];rfl
theorem aCA:aqs.RS:=rE [.d tB,.d tB] aqs
def aJR:=aqs.eS aJQ
def aFi:Int->Prop:=λ_=>True
def aiW:Int->Bool:=λ_=>false
def anf:Fs Tryz.prog aFi bt aiW:=eN 109 Tryz.f109 (λx=>([.d ti x],[])) (λx=>⟨.d .bool x,[],[]⟩) [some ti]
theorem aLk{R:Type}(x)(k:K1 R):anf.A x k=k (anf.out (BY x x)):=bY
theorem aLl:anf.Ok:=by intro x _;rw[aLk];simp only[bt,aiW,dB rfl]
theorem ang:anf.RS:=rE [.d ti] anf
def aLm:=anf.eS aLl
def ara(x y:Int):Int:=if x < y then -1 else if x > y then 1 else 0
def aFe:(Int×Int)->Prop:=λ_=>True
def arU:(Int×Int)->Int:=λ(x,y)=>ara x y
def W1:Fs Tryz.prog aFe bt arU:=eN 65 Tryz.f65 (λ(x,yv)=>([.d ti x,.d ti yv],[])) (λx=>⟨.d ti x,[],[]⟩) [some ti,some ti] [aLm]
theorem aLe{R:Type}(x yv)(k:K1 R):W1.A (x,yv) k=al (anf.call x) λx1=>al (anf.call yv) λx2=>aH (x1) (aH (x2) (k (W1.out 0)) (k (W1.out (-1)))) (aH (x2) (k (W1.out 1)) (aH ((gq x yv)) (k (W1.out (-1))) (aH ((rz x yv)) (k (W1.out 1)) (k (W1.out 0))))):=bY
theorem aLf:W1.Ok:=by
 rintro⟨x,y⟩ _;rw[aLe,ang (d:=x) trivial];simp only[ah,bt,aiW];rw[ang (d:=y) trivial];simp only[ah,bt,aiW,ao,bt,arU,ara];by_cases h:x < y
 ·rw[aU h,aj,if_pos h]
 ·rw[aR h,ao,if_neg h];by_cases h2:x > y
  ·rw[cR h2,aj,if_pos h2]
  ·rw[cn h2,ao,if_neg h2]
theorem aFf:W1.RS:=rE [.d ti,.d ti] W1
def aLg:=W1.eS aLf
abbrev HZ:=Int×(List Int)×Int×Int
def Aq:HZ->AS:=λ(zero,t6,t7,t8)=>⟨([bE,bE,bE,.d ti zero,bE,bE,.d (.slice ti) t6,.d ti t7,.d ti t8]++aP 9 []),[],(ab 18 [])⟩
def Ft:Int->Exit×AS:=λx=>(.ret,⟨([bE,bE,.d ti x]++aP 15 []),[],(ab 18 [])⟩)
def Fu:Int->Exit×AS:=λx=>(.exit 0,⟨([bE,bE,bE,.d ti x]++aP 14 []),[],(ab 18 [])⟩)
abbrev Zd:=(Int)⊕(Int)
abbrev ama:=(Int)⊕(Unit)
def Nn:Zd->Out (Exit×AS):=λx=> .br x.isLeft (.get x.getLeft? λa=> .ok (Ft a)) (.get x.getRight? λb=> .ok (Fu b))
def pg:HZ->ama->Zd:=λ(zero,t6,t7,t8) y=>match y with | .inl y=> .inl y | .inr z=> .inr (zero)
def aQy:List Int->Int
 |[]=>0
 |x::l=>if x≠0 then x else aQy l
def aNH:List Int->Int⊕Unit
 |[]=> .inr ()
 |x::l=>if x≠0 then .inl x else aNH l
theorem aNI:∀l:List Int,aQy l=match aNH l with | .inl x=>x | .inr _=>0
 |[]=>rfl
 |x::l=>by
  simp only[aQy,aNH];split
  ·rfl
  ·exact aNI l
def Fq:HZ->Prop:=λ(z,l,n,i)=>z=0/\l.length<=1000000000/\n=l.length/\∃k:Nat,k<=l.length/\i=k
def xr:HZ->ama:=λ(z,l,n,i)=>aNH (l.drop i.toNat)
def aKw:(List Int)->Prop:=λl=>l.length<=1000000000
def aDR:(List Int)->Int:=λl=>aQy l
def al8:=dy.fp Aq Fq pg xr Nn
def UZ:HZ->Option Zd:=gB al8 Aq
def aBW:Fs Tryz.prog aKw bt aDR:=eN 63 Tryz.f63 (λjd=>([.d (.slice ti) jd],[])) (λx=>⟨.d ti x,[],[]⟩) [some (.slice ti)] [] {loops:=nX [(3,{aV:=[3,6,7,8]})],outs:=nV [(3,{aV:=[3]},{aV:=[2]})],fC:=na [(3,al8)]}
def al9:= @ee Tryz.prog (jy aBW.G) aBW.an 0 Tryz.f63 0 _ Aq
abbrev afC:=kj Tryz.prog (jy aBW.G) aBW.an 0 Tryz.f63 0 Aq Fq pg xr Nn
theorem arh:iW UZ Fq pg xr:=l6 (jk [.d ti,.d (.slice ti),.d ti,.d ti] λ_=>bY)
theorem WV:mP @al9 Aq Fq pg xr Nn afC:=nD
theorem H0{R:Type}(zero:Int)(t6:(List Int))(t7:Int)(t8:Int)(kn:AS->Option R)(kx:Exit->AS->Option R):al9 (zero,t6,t7,t8) kn kx=aH ((gq t8 t7)) (aH (eo t8 (((ag t6):Nat):Int)) (aH ((BY (nth ti t6 (ae t8)) zero)) (kx (Ft (nth ti t6 (ae t8))).1 (Ft (nth ti t6 (ae t8))).2) (kn (Aq (zero,t6,t7,(bI .i64 t8 (1:Int)))))) none) (kx (Fu zero).1 (Fu zero).2):=bY
theorem aOj{R:Type}(jd)(k:K1 R):aBW.A jd k=al (UZ (0,jd,(jd.length:Int),0)) λx1=>aH (x1.isLeft) (al (x1.getLeft?) λa2=>k (aBW.out a2)) (al (x1.getRight?) λb3=>k (aBW.out b3)):=bY
theorem axO:afC:=by
 refine WV (λ(z,l,n,i)=>l.length - i.toNat) ?_
 rintro⟨z,l,n,i⟩ ⟨rfl,hl,rfl,k,hk,rfl⟩;by_cases h:k < l.length
 ·have hd:l.drop k=l[k]::l.drop (k+1):=aq h;have n1:nth ti l k=l[k]:=cg (t:=ti) h;by_cases h2:l[k]≠0
  ·right;refine⟨Ft l[k],?_,λkn kx=> ?_⟩;rotate_left
   ·rw[H0,aU ak,aj,bg ak ak,aj,aa,n1,fj h2,aj]
   ·simp only[pg,xr,aa,hd,aNH,if_pos h2];rfl
  ·left;refine⟨(0,l,(l.length:Int),((k+1:Nat):Int)),⟨rfl,hl,rfl,k+1,ak,rfl⟩,by simp only[aa];omega,?_,λkn kx=> ?_⟩
   ·simp only[pg,xr,aa,hd,aNH,if_neg h2]
   ·rw[H0,aU ak,aj,bg ak ak,aj,aa,n1,dB ak,ao,N.mO ak]
 ·right;obtain rfl:k=l.length:=ak;refine⟨Fu 0,?_,λkn kx=> ?_⟩;rotate_left
  ·rw[H0,aR ak,ao]
  ·simp only[pg,xr,aa,aK,aNH];rfl
theorem aOk:aBW.Ok:=by intro l hl;rw[aOj,arh (d:=(0,l,(l.length:Int),0)) ⟨rfl,hl,rfl,0,aJ _,rfl⟩];simp only[ah,pg,xr,aX,aD,bt,aDR];rw[aNI];cases aNH l <;> rfl
theorem aKx:aBW.RS:=rE [.d (.slice ti)] aBW
def aOl:=aBW.eS aOk 1 ⟨.fp axO,trivial⟩
abbrev dR:Ty:=(.pair ti (.pair tH (.pair (.slice eA) (.pair ti (.pair (.slice bl) .unit)))))
abbrev dh:=(Int×(Bs×((List dv)×(Int×((List bF)×Unit)))))
theorem aQX(x y:List Int):Ty.beq tH x y=decide (x=y):=by
 by_cases h:x=y
 ·rw[h,fy rfl];exact beq_refl tH y rfl
 ·rw[ju h];cases hb:Ty.beq tH x y with
  |false=>rfl
  |true=>exact absurd (beq_eq tH x y rfl hb) h
def awH(o:bF):Prop:=o.1.length=32/\o.2.1<=9223372036854775807
def auF(b:dh):Prop:=(b.2.2.1.length<=1000/\∀t∈b.2.2.1,nT t)/\(b.1<=9223372036854775807/\b.2.1.length=32/\b.2.2.2.1<=9223372036854775807)/\b.2.2.2.2.1.length<=1000/\∀o∈b.2.2.2.2.1,awH o
def ap3(n:Nat)(l:List dh):Prop:=n<=l.length/\n<=1000000/\∀b∈l,auF b
abbrev ahL:=Nat×Nat×(List (bF×dQ))×(List bW)×(List dh)
def afn:ahL->Unit->(Nat×Nat×(List (bF×dQ))×(List bW)×(List dh)):=λ(o0baL,o1baL,o2,o3,o4) y=>(o0baL,o1baL,o2,o3,o4)
def axx:ahL->Prop:=λ_=>True
def au1:ahL->Unit:=λ_=>()
def YT:Fs Tryz.prog axx afn au1:=eN 70 Tryz.f70 (λ(o0baL,o1baL,o2,o3,o4)=>([.ptr (.bm 0) 0 [] 0],[.obj 0 false (.pr (.ptr (.bm 1) 0 [] 0) (.pr (.bz (.bm 4) 0 [] 0 0 o0baL) (.d .unit ()))),.obj 0 false (.pr (.ct (.bm 2) 0) (.pr (.bz (.bm 3) 0 [] 0 0 o1baL) (.d .unit ()))),.obj 0 false (.mp bl eQ o2),.obj 0 false (.vec 256 cD o3),.obj 0 false (.vec 48 dR o4)])) (λx=>⟨.fn 117 (.cons (.ptr (.new 0 0) 0 [] 0) (.nil)),[.obj 0 false (.pr (.ptr (.bm 1) 0 [] 0) (.pr (.bz (.bm 4) 0 [] 0 0 x.1) (.d .unit ()))),.obj 0 false (.pr (.ct (.bm 2) 0) (.pr (.bz (.bm 3) 0 [] 0 0 x.2.1) (.d .unit ()))),.obj 0 false (.mp bl eQ x.2.2.1),.obj 0 false (.vec 256 cD x.2.2.2.1),.obj 0 false (.vec 48 dR x.2.2.2.2)],[.obj 0 false (.ptr (.bm 0) 0 [] 0)]⟩) [none] [] {bJ:=[1]}
theorem aDc{R:Type}(o0baL o1baL o2 o3 o4)(k:K1 R):YT.A (o0baL,o1baL,o2,o3,o4) k=k (YT.out (o0baL,o1baL,o2,o3,o4)):=bY
theorem aDd:YT.Ok:=by intro d _;rw[aDc];rfl
theorem axy:YT.RS:=rE [.n,.n,.d (.slice (.pair bl eQ)),.d (.slice cD),.d (.slice dR)] YT
def aDe:=YT.eS aDd
def avx(x:Bs)(t:dv):Bs:=x++mj t
def aLi(x:Bs)(o:bF):Bs:=cF (x++o.1) o.2.1
def aN7(b:dh):Bs:=b.2.2.2.2.1.foldl aLi (cF (cF (b.2.2.1.foldl avx (cF (cF [] b.1++b.2.1) b.2.2.1.length)) b.2.2.2.1) b.2.2.2.2.1.length)
def aqA(b:dh):Bs:=tag (bH (⟨#[98,108,111,99,107]⟩:ByteArray)) [aN7 b]
theorem XQ:∀(l:List dv) (x:Bs),(l.foldl avx x).length=x.length+32*l.length
 |[],x=>rfl
 |t::l,x=>by rw[bA,XQ l,avx,ai,GG.1,aA];omega
theorem KA:∀(l:List bF) (x:Bs),(∀o∈l,awH o)->(l.foldl aLi x).length<=x.length+43*l.length
 |[],x,_=>ax _
 |o::l,x,h=>by
  have h1:=KA l (aLi x o) λy hy=>h y (aI _ hy)
  have h2:=dz (x++o.1) o.2.1;have h3:=(h o (aL ..)).1;rw[ai]at h2;rw[bA,aA];unfold aLi at h1 ⊢;omega
abbrev SC:=dh×Bs×(List dv)×Int×Int×Bs
def B9:SC->Bs->((dh×Bs)×(Bs)):=λ(iN,x,t19,t20,t21,n2) y=>((iN,n2),y)
abbrev SD:=Bs×(List bF)×Int×Int×Bs
def Ca:SD->Bs->((Bs)×(Bs)):=λ(aB5,t39,t40,t41,kM) y=>(kM,y)
def alu:SC->Prop:=λ(b,x,l,n,i,z)=>(l).length<=1000000000/\∃k:Nat,k<=(l).length/\i=k/\n=(l).length/\(l.length<=1000)/\(∀t∈l,nT t)/\(x.length<=1000+32*k)
def Ke:SC->Bs:=λ(b,x,l,n,i,z)=>(bR (ae i) l).foldl avx x
def alw:SD->Prop:=λ(x,l,n,i,z)=>(l).length<=1000000000/\∃k:Nat,k<=(l).length/\i=k/\n=(l).length/\(l.length<=1000)/\(∀o∈l,awH o)/\(x.length<=100000+43*k)
def Kf:SD->Bs:=λ(x,l,n,i,z)=>(bR (ae i) l).foldl aLi x
def aCN:dh->Prop:=λb=>auF b
def aqD:dh->Bs:=λb=>aqA b
def yK:Ls alu B9 Ke:=rW (λ(iN,x,t19,t20,t21,n2)=>⟨([bE,.dD dR iN,eT 2,.d tB x]++aP 15 ([.d (.slice eA) t19,.d ti t20,.d ti t21]++aP 34 [])),[],([[],[],dK (.d tH n2)]++bM 53 [])⟩) (λx=>(.exit 0,⟨([bE,.dD dR x.1.1,eT 2,.d tB x.2]++aP 52 []),[],([[],[],dK (.d tH x.1.2)]++bM 53 [])⟩))
def yL:Ls alw Ca Kf:=rW (λ(aB5,t39,t40,t41,kM)=>⟨([bE,bE,eT 2,.d tB aB5]++aP 35 ([.d (.slice bl) t39,.d ti t40,.d ti t41]++aP 14 [])),[],([[],[],dK (.d tH kM)]++bM 53 [])⟩) (λx=>(.exit 2,⟨([bE,bE,eT 2,.d tB x.2]++aP 52 []),[],([[],[],dK (.d tH x.1)]++bM 53 [])⟩))
def SB:Fs Tryz.prog aCN bt aqD:=eN 94 Tryz.f94 (λb=>([.d dR b],[])) (λx=>⟨.d tH x,[],[]⟩) [some dR] [XE,amf,Uo,XO] {loops:=nX [(3,{aV:=[1,2,3,19,20,21],sites:=[2]}),(9,{aV:=[2,3,39,40,41],sites:=[2]})],outs:=nV [(3,{aV:=[1,2,3],sites:=[2]},{aV:=[2]}),(9,{aV:=[2,3],sites:=[2]},{aV:=[2]})],fC:=na [(3,yK.E),(9,yL.E)]}
theorem alv:yK.RS:=rL [.d dR,.d tB,.d (.slice eA),.d ti,.d ti,.d tB] yK
theorem Ph{R:Type}(iN x t19 t20 t21 n2)(kn:K2 R)(kx:K3 R):SB.R 0 yK (iN,x,t19,t20,t21,n2) kn kx=aH ((gq t21 t20)) (aH (eo t21 (t19.length:Int)) (al (tid.call (nth eA t19 (ae t21))) λx1=>al (Ly.call (x,x1)) λx2=>kn (yK.st (iN,x2,t19,t20,(bI .i64 t21 1),n2))) none) (yK.go kx ((iN,n2),x)):=bY
theorem alx:yL.RS:=rL [.d tB,.d (.slice bl),.d ti,.d ti,.d tB] yL
theorem Pj{R:Type}(aB5 t39 t40 t41 kM)(kn:K2 R)(kx:K3 R):SB.R 1 yL (aB5,t39,t40,t41,kM) kn kx=aH ((gq t41 t40)) (aH (eo t41 (t39.length:Int)) (al (Ly.call (aB5,(nth bl t39 (ae t41)).1)) λx1=>al (AN.call (x1,(nth bl t39 (ae t41)).2.1)) λx2=>kn (yL.st (x2,t39,t40,(bI .i64 t41 1),kM))) none) (yL.go kx (kM,aB5)):=bY
theorem aJX{R:Type}(b)(k:K1 R):SB.A b k=al (AN.call (([]:List Int),b.1)) λx1=>al (Ly.call (x1,b.2.1)) λx2=>al (AN.call (x2,(b.2.2.1.length:Int))) λx3=>al (yK.call (b,x3,b.2.2.1,(b.2.2.1.length:Int),0,(ab 32 0))) λx6=>al (AN.call (x6.2,x6.1.1.2.2.2.1)) λx7=>al (AN.call (x7,(x6.1.1.2.2.2.2.1.length:Int))) λx8=>al (yL.call (x8,x6.1.1.2.2.2.2.1,(x6.1.1.2.2.2.2.1.length:Int),0,x6.1.2)) λawG=>al (Te.call ((⟨#[98,108,111,99,107]⟩:ByteArray),[awG.2])) λaM2=>k (SB.out aM2):=bY
theorem aqE:(SB.kN 0 yK):=by
 refine(SB.mh 0 yK) (λ(b,x,l,n,i,z)=>(l).length - ae i) ?_
 rintro⟨b,x,l,n,i,z⟩ ⟨hlen,k,hk,rfl,rfl,h3,hx,hb⟩;have hlen:(l).length<=1000000000:=hlen;have hk:k<=(l).length:=hk;have h3:l.length<=1000:=h3;have hx:∀t∈l,nT t:=hx;have hb:x.length<=1000+32*k:=hb;by_cases h:k < (l).length
 ·left;have n1:nth eA l k=l[k]:=cg (t:=eA) h;have hd:bR k l=l[k]::bR (k+1) l:=aq h;refine⟨(b,(avx x l[k]),l,((l).length:Int),((k+1:Nat):Int),z),⟨hlen,k+1,ak,rfl,rfl,h3,hx,by unfold avx;rw[ai,GG.1];omega⟩,by simp only[aa];omega,?_,λkn kx=> ?_⟩
  ·simp only[B9,Ke,aa,hd,bA]
  ·rw[Ph,aU ak,bg ak ak,aa,n1];simp only[aj];rw[Gy (d:=l[k]) (hx _ (aO h))];simp only[ah,bt,RR];rw[Kl (d:=(x,mj l[k])) ⟨by show x.length+(mj l[k]).length<=_;rw[GG.1];omega,GG.1⟩];simp only[ah,bt,PG];rw[N.mO ak];rfl
 ·right;obtain rfl:k=(l).length:=ak;intro R kn kx;rw[Ph,aR ak,ao];simp only[B9,Ke,aa,aK,cY]
theorem aqF:(SB.kN 1 yL):=by
 refine(SB.mh 1 yL) (λ(x,l,n,i,z)=>(l).length - ae i) ?_
 rintro⟨x,l,n,i,z⟩ ⟨hlen,k,hk,rfl,rfl,h3,hx,hb⟩;have hlen:(l).length<=1000000000:=hlen;have hk:k<=(l).length:=hk;have h3:l.length<=1000:=h3;have hx:∀o∈l,awH o:=hx;have hb:x.length<=100000+43*k:=hb;by_cases h:k < (l).length
 ·left;have n1:nth bl l k=l[k]:=cg (t:=bl) h;have hd:bR k l=l[k]::bR (k+1) l:=aq h;refine⟨((aLi x l[k]),l,((l).length:Int),((k+1:Nat):Int),z),⟨hlen,k+1,ak,rfl,rfl,h3,hx,by have:=KA [l[k]] x (λo ho=>by rw[bh]at ho;subst ho;exact hx _ (aO h));simp only[bA,cY,aA,aZ]at this;omega⟩,by simp only[aa];omega,?_,λkn kx=> ?_⟩
  ·simp only[Ca,Kf,aa,hd,bA]
  ·rw[Pj,aU ak,bg ak ak,aa,n1];simp only[aj];obtain⟨e1,e2⟩:=hx _ (aO h);rw[Kl (d:=(x,l[k].1)) ⟨by show x.length+l[k].1.length<=_;rw[e1];omega,e1⟩];simp only[ah,bt,PG];rw[jx (d:=(x++l[k].1,l[k].2.1)) ⟨by show(x++l[k].1).length<=_;rw[ai,e1];omega,e2⟩];simp only[ah,bt,ph];rw[N.mO ak];rfl
 ·right;obtain rfl:k=(l).length:=ak;intro R kn kx;rw[Pj,aR ak,ao];simp only[Ca,Kf,aa,aK,cY]
theorem aJY:SB.Ok:=by rintro b ⟨⟨h1,h2⟩,⟨h3,h4,h5⟩,h6,h7⟩;have z1:((0:Int)).toNat=0:=rfl;have p1:=dz [] b.1;have p2:=dz (cF [] b.1++b.2.1) b.2.2.1.length;rw[ai,h4]at p2;have l0:([]:Bs).length=0:=rfl;rw[l0]at p1;have q1:=XQ b.2.2.1 (cF (cF [] b.1++b.2.1) b.2.2.1.length);obtain⟨x3,e3⟩:∃x,cF (cF [] b.1++b.2.1) b.2.2.1.length=x:=⟨_,rfl⟩;rw[e3]at p2 q1;obtain⟨x6,e6⟩:∃x,b.2.2.1.foldl avx x3=x:=⟨_,rfl⟩;rw[e6]at q1;have p7:=dz x6 b.2.2.2.1;have p8:=dz (cF x6 b.2.2.2.1) b.2.2.2.2.1.length;obtain⟨x8,e8⟩:∃x,cF (cF x6 b.2.2.2.1) b.2.2.2.2.1.length=x:=⟨_,rfl⟩;have q2:=KA b.2.2.2.2.1 x8 h7;rw[e8]at p8;rw[aJX,jx (d:=(([]:List Int),b.1)) ⟨by show(0:Nat)<=_;omega,h3⟩];simp only[ah,bt,ph];rw[Kl (d:=(cF [] b.1,b.2.1)) ⟨by show(cF [] b.1).length+b.2.1.length<=_;rw[h4];omega,h4⟩];simp only[ah,bt,PG];rw[jx (d:=(cF [] b.1++b.2.1,(b.2.2.1.length:Int))) ⟨by show(cF [] b.1++b.2.1).length<=_;rw[ai,h4];omega,by show(b.2.2.1.length:Int)<=_;omega⟩];simp only[ah,bt,ph];rw[e3,alv (d:=(b,x3,b.2.2.1,(b.2.2.1.length:Int),0,ab 32 0)) ⟨by show b.2.2.1.length<=_;omega,0,aJ _,rfl,rfl,h1,h2,ak⟩];simp only[ah,B9,Ke,z1,aD];rw[e6,jx (d:=(x6,b.2.2.2.1)) ⟨by show x6.length<=_;omega,h5⟩];simp only[ah,bt,ph];rw[jx (d:=(cF x6 b.2.2.2.1,(b.2.2.2.2.1.length:Int))) ⟨by show(cF x6 b.2.2.2.1).length<=_;omega,by show(b.2.2.2.2.1.length:Int)<=_;omega⟩];simp only[ah,bt,ph];rw[e8,alx (d:=(x8,b.2.2.2.2.1,(b.2.2.2.2.1.length:Int),0,ab 32 0)) ⟨by show b.2.2.2.2.1.length<=_;omega,0,aJ _,rfl,rfl,h6,h7,ak⟩];simp only[ah,Ca,Kf,z1,aD];rw[Qr (d:=((⟨#[98,108,111,99,107]⟩:ByteArray),[b.2.2.2.2.1.foldl aLi x8])) (RL (by decide) ak)];simp only[ah,bt,aqD,aqA,aN7,e3,e6,e8];rfl
theorem aCO:SB.RS:=rE [.d dR] SB
def aJZ:=SB.eS aJY 2 ⟨.fp aqE,⟨.fp aqF,trivial⟩⟩
abbrev alB:=Int×(List dv)×Int×Int
theorem ahc:∀(l:List gG) (n:Int),(∀x∈l,x.2.1.2.1.length<=12)->n<=l.foldl yq n/\l.foldl yq n<=n+110*l.length
 |[],n,_=>by simp
 |x::l,n,h=>by
  have h1:=ahc l (yq n x) λy hy=>h y (aI _ hy)
  have h2:=h x (aL ..);have h3:n<=yq n x/\yq n x<=n+110:=by unfold yq;split <;> omega
  rw[bA,aA];omega
theorem Uv(t:dv):0<=GI t/\GI t<=8000:=by
 unfold GI;split
 ·rename_i jj;obtain⟨⟨_,a2,a3,_⟩,b1,b2⟩:=jI jj;have:=ahc t.1 (10+8*t.2.1.length) λx hx=>(A6 (mC _ _ b1 x hx)).2.2.2.2
  omega
 ·omega
def aIS(n:Int)(t:dv):Int:=n+GI t
def aQg(b:dh):Int:=b.2.2.1.foldl aIS b.2.2.2.1
def aqI:alB->Prop:=λ(n,l,m,i)=>(l).length<=1000000000/\∃k:Nat,k<=(l).length/\i=k/\m=(l).length/\(l.length<=1000)/\(∀t∈l,nT t)/\(0<=n)/\(n<=1000000+8000*(k:Int))
def Pm:alB->Int:=λ(n,l,m,i)=>(bR (ae i) l).foldl aIS n
def aJ0:dh->Prop:=λb=>auF b/\0<=b.2.2.2.1/\b.2.2.2.1<=1000000
def aCS:dh->Int:=λb=>aQg b
def Fa:Ls aqI bt Pm:=rW (λ(n,t9,t10,t11)=>⟨([bE,bE,bE,.d ti n]++aP 5 ([.d (.slice eA) t9,.d ti t10,.d ti t11]++aP 9 [])),[],(ab 21 [])⟩) (λx=>(.exit 0,⟨([bE,bE,bE,.d ti x]++aP 17 []),[],(ab 21 [])⟩))
def aJk:Fs Tryz.prog aJ0 bt aCS:=eN 226 Tryz.f226 (λb=>([.d dR b],[])) (λx=>⟨.d ti x,[],[]⟩) [some dR] [auq] {loops:=nX [(3,{aV:=[3,9,10,11]})],outs:=nV [(3,{aV:=[3]},{aV:=[2]})],fC:=na [(3,Fa.E)]}
theorem aqJ:Fa.RS:=rL [.d ti,.d (.slice eA),.d ti,.d ti] Fa
theorem UO{R:Type}(n t9 t10 t11)(kn:K2 R)(kx:K3 R):aJk.R 0 Fa (n,t9,t10,t11) kn kx=aH ((gq t11 t10)) (aH (eo t11 (t9.length:Int)) (al (vb.call (nth eA t9 (ae t11))) λx1=>kn (Fa.st ((bI .i64 n x1),t9,t10,(bI .i64 t11 1)))) none) (Fa.go kx n):=bY
theorem aN8{R:Type}(b)(k:K1 R):aJk.A b k=al (Fa.call (b.2.2.2.1,b.2.2.1,(b.2.2.1.length:Int),0)) λx2=>k (aJk.out x2):=bY
theorem axc:(aJk.kN 0 Fa):=by
 refine(aJk.mh 0 Fa) (λ(n,l,m,i)=>(l).length - ae i) ?_
 rintro⟨n,l,m,i⟩ ⟨hlen,k,hk,rfl,rfl,h3,hx,h0,h1⟩;have hlen:(l).length<=1000000000:=hlen;have hk:k<=(l).length:=hk;have h3:l.length<=1000:=h3;have hx:∀t∈l,nT t:=hx;have h0:0<=n:=h0;have h1:n<=1000000+8000*(k:Int):=h1;by_cases h:k < (l).length
 ·left;have n1:nth eA l k=l[k]:=cg (t:=eA) h;have hd:bR k l=l[k]::bR (k+1) l:=aq h;refine⟨((aIS n l[k]),l,((l).length:Int),((k+1:Nat):Int)),⟨hlen,k+1,ak,rfl,rfl,h3,hx,by have:=Uv l[k];unfold aIS;omega,by have:=Uv l[k];unfold aIS;omega⟩,by simp only[aa];omega,?_,λkn kx=> ?_⟩
  ·simp only[bt,Pm,aa,hd,bA]
  ·rw[UO,aU ak,bg ak ak,aa,n1];simp only[aj];have e:=Uv l[k];rw[apL (d:=l[k]) (hx _ (aO h))];simp only[ah,bt,Us];rw[fU (x:=n) ak ak,N.mO ak];rfl
 ·right;obtain rfl:k=(l).length:=ak;intro R kn kx;rw[UO,aR ak,ao];simp only[bt,Pm,aa,aK,cY]
theorem aN9:aJk.Ok:=by rintro b ⟨⟨⟨h1,h2⟩,_⟩,h3,h4⟩;have z1:((0:Int)).toNat=0:=rfl;rw[aN8,aqJ (d:=(b.2.2.2.1,b.2.2.1,(b.2.2.1.length:Int),0)) ⟨by show b.2.2.1.length<=_;omega,0,aJ _,rfl,rfl,h1,h2,h3,by show b.2.2.2.1<=_;omega⟩];simp only[ah,bt,Pm,z1,aD,bt,aCS,aQg]
theorem aJ1:aJk.RS:=rE [.d dR] aJk
def aOa:=aJk.eS aN9 1 ⟨.fp axc,trivial⟩
def Ia(h f:Int):Bool:=decide (1<=h/\h<=1048576/\0<=f/\f<=4000)
def aqB:(Int×Int)->Prop:=λ_=>True
def YK:(Int×Int)->Bool:=λ(h,f)=>Ia h f
def CW:Fs Tryz.prog aqB bt YK:=eN 225 Tryz.f225 (λ(height,fill)=>([.d ti height,.d ti fill],[])) (λx=>⟨.d .bool x,[],[]⟩) [some ti,some ti]
theorem aw4{R:Type}(height fill)(k:K1 R):CW.A (height,fill) k=aH ((Cm height 1)) (aH ((aiU height 1048576)) (aH ((Cm fill 0)) (k (CW.out (aiU fill 4000))) (k (CW.out false))) (k (CW.out false))) (k (CW.out false)):=bY
theorem aw5:CW.Ok:=by
 rintro⟨h,f⟩ _;rw[aw4];simp only[bt,YK,Ia];by_cases a1:1<=h
 ·rw[gr a1,aj];by_cases a2:h<=1048576
  ·rw[oe a2,aj];by_cases a3:0<=f
   ·rw[gr a3,aj];by_cases a4:f<=4000
    ·rw[oe a4,fy ⟨a1,a2,a3,a4⟩]
    ·rw[j7 ak,ju ak]
   ·rw[eE ak,ao,ju ak]
  ·rw[j7 ak,ao,ju ak]
 ·rw[eE ak,ao,ju ak]
theorem aqC:CW.RS:=rE [.d ti,.d ti] CW
def aw6:=CW.eS aw5
end Go.Ab
end
