/-
  Made short by a program of mine (wip/tools/mini.py).
-/
import Derived.Test.YtodfaneojnkngaaGreatS28x3
import Derived.Test.YtodfaneojnkngaaGreatProg
set_option linter.unusedVariables false
set_option linter.unusedSimpArgs false
set_option maxRecDepth 100000
set_option synthInstance.maxSize 5000
open Int renaming toNat->ae
open List renaming length->ag,replicate->ab,take->aR,drop->bR,set->fX
open BitVec renaming ofInt->bh
open Or renaming inl->lZ,inr->fi
noncomputable section
namespace Go.Ab
open Go.Proofs
def YO:Bs->Prop:=λb=>4<=b.length
def alI:Bs->Int:=λb=>vw (aQ1 (b.getD 0 0) (b.getD 1 0) (b.getD 2 0) (b.getD 3 0))
def binary:Fs Tryz.prog YO bu alI:=eN 237 Tryz.f237 (λb=>([.d tB b],[])) (λx=>⟨.d (.int .u32) x,[],[]⟩) [some tB]
theorem axg{R:Type}(b)(k:K1 R):binary.A b k=aJ (ed 0 (b.length:Int)) (aJ (ed 1 (b.length:Int)) (aJ (ed 2 (b.length:Int)) (aJ (ed 3 (b.length:Int)) (k (binary.out (cG .or .u32 (cG .or .u32 (cG .or .u32 (mI .u32 (dX .u32 (nth tb b 0)) 24) (mI .u32 (dX .u32 (nth tb b 1)) 16)) (mI .u32 (dX .u32 (nth tb b 2)) 8)) (dX .u32 (nth tb b 3))))) none) none) none) none:=b8
theorem axh:binary.Ok:=by intro b h;have h:4<=b.length:=h;rw[axg,bj ak ak,bj ak ak,bj ak ak,bj ak ak];simp only[aj,avQ,QJ,qo];rfl
theorem aqU:binary.RS:=rE [.d tB] binary
def axi:=binary.eU axh
def rl(w:W)(k:Nat):W:=w <<< k ||| w >>> (32 - k)
def acg:(Int×Int)->Prop:=λ(x,k)=>0<=x/\x < 4294967296
def aHJ:(Int×Int)->Int:=λ(x,k)=>vw (rl (bh 32 x) (k%32).toNat)
def pP:Fs Tryz.prog acg bu aHJ:=eN 211 Tryz.f211 (λ(x,kv)=>([.d (.int .u32) x,.d ti kv],[])) (λx=>⟨.d (.int .u32) x,[],[]⟩) [some (.int .u32),some ti]
theorem aAQ{R:Type}(x kv)(k:K1 R):pP.A (x,kv) k=aJ (mK (cG .and .u64 (dX .u64 kv) 31)) (aJ (mK (cR .u64 32 (cG .and .u64 (dX .u64 kv) 31))) (k (pP.out (cG .or .u32 (mI .u32 x (cG .and .u64 (dX .u64 kv) 31)) (cz .u32 x (cR .u64 32 (cG .and .u64 (dX .u64 kv) 31)))))) none) none:=b8
theorem aQ0(k:Int):cG .and .u64 (dX .u64 k) 31=k%32:=by have e:(31:Int)=vw (31:BitVec 64):=rfl;rw[X0,e,axj];simp only;have:(31:BitVec 64)=BitVec.ofNat 64 (2^5 - 1):=rfl;unfold vw;rw[BitVec.toNat_and,sP,show(31:BitVec 64).toNat=2^5 - 1 from rfl,Nat.and_two_pow_sub_one_eq_mod];omega
theorem aAR:pP.Ok:=by
 rintro⟨x,k⟩ ⟨h1,h2⟩;have e1:cR .u64 32 (k%32)=32 - k%32:=by unfold cR;rw[wrap_u64,hZ];omega
 have hx:x=vw (bh 32 x):=by rw[hZ];omega
 rw[aAQ,aQ0,e1,tI ak,tI ak];simp only[aj];have e2:cG .or .u32 (mI .u32 x (k%32)) (cz .u32 x (32 - k%32))=vw (rl (bh 32 x) (k%32).toNat):=by
  conv=>lhs;rw[hx]
  rw[QJ,Iw,qo];simp only[rl];congr 3;omega
 rw[e2];rfl
theorem atH:pP.RS:=rE [.d (.int .u32),.d ti] pP
def agZ:=pP.eU aAR
theorem agY(w:W)(k:Int):pP.call (vw w,k)=some (vw (rl w (k%32).toNat)):=by have h:acg (vw w,k):=⟨UI w,by have:=aIV w;simpa using this⟩;rw[atH h];show some (vw (rl (bh 32 (vw w)) (k%32).toNat))=_;rw[uV]
def aBm:Unit->Prop:=λ_=>True
def awH:Unit->(List Int):=λ_=>TJ
def table:Fs Tryz.prog aBm bu awH:=eN 210 Tryz.f210 (λ_=>([],[])) (λx=>⟨.d (.arr 64 (.int .u32)) x,[],[]⟩) []
theorem aIp{R:Type}(d)(k:K1 R):table.A d k=k (table.out [1116352408,1899447441,3049323471,3921009573,961987163,1508970993,2453635748,2870763221,3624381080,310598401,607225278,1426881987,1925078388,2162078206,2614888103,3248222580,3835390401,4022224774,264347078,604807628,770255983,1249150122,1555081692,1996064986,2554220882,2821834349,2952996808,3210313671,3336571891,3584528711,113926993,338241895,666307205,773529912,1294757372,1396182291,1695183700,1986661051,2177026350,2456956037,2730485921,2820302411,3259730800,3345764771,3516065817,3600352804,4094571909,275423344,430227734,506948616,659060556,883997877,958139571,1322822218,1537002063,1747873779,1955562222,2024104815,2227730452,2361852424,2428436474,2756734187,3204031479,3329325298]):=b8
theorem aIq:table.Ok:=by intro d _;rw[aIp];rfl
theorem aBn:table.RS:=rE [] table
def aIr:=table.eU aIq
def ayx:Unit->Prop:=λ_=>True
def avG:Unit->(List Int):=λ_=>sZ.l
def first:Fs Tryz.prog ayx bu avG:=eN 171 Tryz.f171 (λ_=>([],[])) (λx=>⟨.d (.arr 8 (.int .u32)) x,[],[]⟩) []
theorem aET{R:Type}(d)(k:K1 R):first.A d k=k (first.out [1779033703,3144134277,1013904242,2773480762,1359893119,2600822924,528734635,1541459225]):=b8
theorem aEU:first.Ok:=by intro d _;rw[aET];rfl
theorem ayy:first.RS:=rE [] first
def aEV:=first.eU aEU
abbrev MK:=Bs×Int×(List Int)
def wl(l:List W):List Int:=l.map vw
def HR(l:List W):List Int:=wl l++ab (64 - l.length) 0
def GS(b:List Int)(k:Nat):List W:=if k<=16 then(words b).take k else aJF (words b) (k - 16)
def Ho:MK->Prop:=λ(b,t8,n2)=>64<=b.length/\∃k:Nat,k<=64/\t8=k/\n2=HR (GS b k)
def DG:MK->(List Int):=λ(b,t8,n2)=>wl (sched b)
def RL:Bs->Prop:=λb=>64<=b.length
def OQ:Bs->(List Int):=λb=>wl (sched b)
def jZ:Ls Ho bu DG:=rp (λ(iR,t8,n2)=>⟨([.d tB iR,bF,eT 2]++aP 5 ([.d ti t8]++aP 52 [])),[],([[],[],dK (.d (.arr 64 (.int .u32)) n2)]++bM 58 [])⟩) (λx=>(.exit 0,⟨([bF,bF,eT 2]++aP 58 []),[],([[],[],dK (.d (.arr 64 (.int .u32)) x)]++bM 58 [])⟩))
def schedule:Fs Tryz.prog RL bu OQ:=eN 209 Tryz.f209 (λb=>([.d tB b],[])) (λx=>⟨.d (.arr 64 (.int .u32)) x,[],[]⟩) [some tB] [axi,agZ] {loops:=nY [(2,{aV:=[0,2,8],sites:=[2]})],outs:=nX [(2,{aV:=[2],sites:=[2]},{aV:=[2]})],fF:=nK [(2,jZ.E)]}
theorem XG:jZ.RS:=rL [.d tB,.d ti,.d (.slice (.int .u32))] jZ
theorem EO{R:Type}(iR t8 n2)(kn:K2 R)(kx:K3 R):schedule.R 0 jZ (iR,t8,n2) kn kx=aJ ((gr t8 64)) (aJ ((gr t8 16)) (aJ (inc (gB .i64 4 t8) (iR.length:Int)) (al (binary.call (cut iR (ae (gB .i64 4 t8)) ((ag iR) - (ae (gB .i64 4 t8))))) λx1=>aJ (ed t8 64) (aJ (decide ((ae t8) < (ag n2))) (aJ (decide ((((ae t8)*1)+0)=(0+((ae t8)*1)))) (aJ (decide ((ae t8) < (ag n2))) (kn (jZ.st (iR,(bI .i64 t8 1),(fX n2 (ae t8) x1)))) none) none) none) none) none) (aJ (ed (cR .i64 t8 15) 64) (aJ (decide ((ae (cR .i64 t8 15)) < (ag n2))) (aJ (decide ((((ae (cR .i64 t8 15))*1)+0)=(0+((ae (cR .i64 t8 15))*1)))) (aJ (ed (cR .i64 t8 2) 64) (aJ (decide ((ae (cR .i64 t8 2)) < (ag n2))) (aJ (decide ((((ae (cR .i64 t8 2))*1)+0)=(0+((ae (cR .i64 t8 2))*1)))) (al (pP.call ((nth (.int .u32) n2 (ae (cR .i64 t8 15))),(-7))) λx2=>al (pP.call ((nth (.int .u32) n2 (ae (cR .i64 t8 15))),(-18))) λx3=>al (pP.call ((nth (.int .u32) n2 (ae (cR .i64 t8 2))),(-17))) λx4=>al (pP.call ((nth (.int .u32) n2 (ae (cR .i64 t8 2))),(-19))) λx5=>aJ (ed (cR .i64 t8 16) 64) (aJ (decide ((ae (cR .i64 t8 16)) < (ag n2))) (aJ (decide ((((ae (cR .i64 t8 16))*1)+0)=(0+((ae (cR .i64 t8 16))*1)))) (aJ (ed (cR .i64 t8 7) 64) (aJ (decide ((ae (cR .i64 t8 7)) < (ag n2))) (aJ (decide ((((ae (cR .i64 t8 7))*1)+0)=(0+((ae (cR .i64 t8 7))*1)))) (aJ (ed t8 64) (aJ (decide ((ae t8) < (ag n2))) (aJ (decide ((((ae t8)*1)+0)=(0+((ae t8)*1)))) (aJ (decide ((ae t8) < (ag n2))) (kn (jZ.st (iR,(bI .i64 t8 1),(fX n2 (ae t8) (bI .u32 (bI .u32 (bI .u32 (nth (.int .u32) n2 (ae (cR .i64 t8 16))) (cG .xor .u32 (cG .xor .u32 x2 x3) (cz .u32 (nth (.int .u32) n2 (ae (cR .i64 t8 15))) 3))) (nth (.int .u32) n2 (ae (cR .i64 t8 7)))) (cG .xor .u32 (cG .xor .u32 x4 x5) (cz .u32 (nth (.int .u32) n2 (ae (cR .i64 t8 2))) 10))))))) none) none) none) none) none) none) none) none) none) none) none) none) none) none) none) none)) (jZ.go kx n2):=b8
theorem apq{R:Type}(b)(k:K1 R):schedule.A b k=al (jZ.call (b,0,(ab 64 0))) λx6=>k (schedule.out x6):=b8
theorem aqj(b:List Int)(k:Nat)(h:k<=64):(GS b k).length=k:=by
 unfold GS;split
 ·simp[eZ];omega
 ·rw[BU,eZ];omega
theorem aM7(b:List Int):GS b 64=sched b:=rfl
theorem aB2(b:List Int)(k:Nat)(h:k < 16):GS b (k+1)=GS b k++ [be b k]:=by unfold GS;rw[if_pos ak,if_pos ak,iv (by rw[eZ];exact h)];simp[words]
theorem aJe(b:List Int)(k:Nat)(h:16<=k):GS b (k+1)=ext (GS b k):=by
 unfold GS;rw[if_neg ak];by_cases aTw:k=16
 ·subst aTw;rw[if_pos ak,aY (by rw[eZ];omega)];rfl
 ·rw[if_neg ak,show k+1 - 16=(k - 16)+1 by omega];rfl
theorem ahK(l:List W)(h:l.length<=64):(HR l).length=64:=by simp[HR,wl];omega
theorem Kk(l:List W)(i:Nat)(h:i < l.length):nth (.int .u32) (HR l) i=vw (l.getD i 0):=by unfold nth HR wl;rw[aH,fq (by simpa using h)];simp[h]
theorem afr(l:List W)(w:W)(h:l.length < 64):(HR l).set l.length (vw w)=HR (l++ [w]):=by unfold HR wl;rw[List.set_append_right _ _ (by simp)];simp only[bV,Nat.sub_self,rY,ai,aA,ba];rw[show 64 - l.length=(64 - (l.length+(0+1)))+1 by omega,List.replicate_succ,List.set_cons_zero];simp
theorem aqK(l:List W)(h:l.length=64):HR l=wl l:=by simp[HR,h]
theorem aOc(b:List Int)(k:Nat)(h:4*k+4<=b.length):aQ1 ((cut b (4*k) (b.length - 4*k)).getD 0 0) ((cut b (4*k) (b.length - 4*k)).getD 1 0) ((cut b (4*k) (b.length - 4*k)).getD 2 0) ((cut b (4*k) (b.length - 4*k)).getD 3 0)=be b k:=by
 have e:∀j,j < 4->(cut b (4*k) (b.length - 4*k)).getD j 0=b.getD (4*k+j) 0:=λj hj=>by unfold cut;rw[aH,aH,List.getElem?_take_of_lt ak,fV]
 unfold be;rw[e 0 ak,e 1 ak,e 2 ak,e 3 ak,cq]
theorem acz:(schedule.kM 0 jZ):=by
 refine(schedule.mf 0 jZ) (λ(b,t8,n2)=>64 - t8.toNat) ?_
 rintro⟨b,t8,n2⟩ ⟨hb,k,hk,rfl,rfl⟩;have aQH:=aqj b k hk;have aE7:=ahK (GS b k) ak;by_cases h:k < 64
 ·left;refine⟨(b,((k+1:Nat):Int),HR (GS b (k+1))),⟨hb,k+1,ak,rfl,rfl⟩,by simp;omega,rfl,λkn kx=> ?_⟩;have e1:bI .i64 (k:Int) 1=((k+1:Nat):Int):=by rw[fZ ak ak];omega
  have e2:ae (k:Int)=k:=ak;rw[EO,aU ak];simp only[aj,e1,e2,aE7,gT,aO,cq,cv];by_cases aTw:k < 16
  ·have e3:gB .i64 4 (k:Int)=((4*k:Nat):Int):=by rw[It ak ak];omega
   have e4:ae ((4*k:Nat):Int)=4*k:=ak;rw[aU ak,e3,uL ak ak,e4,bj ak ak,aM h];have hp:YO (cut b (4*k) (b.length - 4*k)):=by show 4<=_;rw[Fx ak];omega
   simp only[aj,aqU hp,ah];have e5:bu (cut b (4*k) (b.length - 4*k)) (alI (cut b (4*k) (b.length - 4*k)))=vw (be b k):=by show vw (aQ1 _ _ _ _)=_;rw[aOc b k ak]
   have e6:=afr (GS b k) (be b k) ak;rw[aQH]at e6;rw[e5,e6,aB2 b k aTw]
  ·have a15:ae (cR .i64 (k:Int) 15)=k - 15:=by rw[eL ak ak];omega
   have a2:ae (cR .i64 (k:Int) 2)=k - 2:=by rw[eL ak ak];omega
   have a16:ae (cR .i64 (k:Int) 16)=k - 16:=by rw[eL ak ak];omega
   have a7:ae (cR .i64 (k:Int) 7)=k - 7:=by rw[eL ak ak];omega
   have i15:ed (cR .i64 (k:Int) 15) 64=true:=bj (by rw[eL ak ak];omega) (by rw[eL ak ak];omega);have i2:ed (cR .i64 (k:Int) 2) 64=true:=bj (by rw[eL ak ak];omega) (by rw[eL ak ak];omega);have i16:ed (cR .i64 (k:Int) 16) 64=true:=bj (by rw[eL ak ak];omega) (by rw[eL ak ak];omega);have i7:ed (cR .i64 (k:Int) 7) 64=true:=bj (by rw[eL ak ak];omega) (by rw[eL ak ak];omega);have i0:ed (k:Int) 64=true:=bj ak ak;have d15:decide (k - 15 < 64)=true:=aM ak;have d2:decide (k - 2 < 64)=true:=aM ak;have d16:decide (k - 16 < 64)=true:=aM ak;have d7:decide (k - 7 < 64)=true:=aM ak;have d0:decide (k < 64)=true:=aM h;rw[aQ ak];simp only[aj,ao,a15,a2,a16,a7,i15,i2,i16,i7,i0,d15,d2,d16,d7,d0,Kk (GS b k) (k - 15) ak,Kk (GS b k) (k - 2) ak,Kk (GS b k) (k - 16) ak,Kk (GS b k) (k - 7) ak,agY,ah,qo,Iw,Eg];have e6:=afr (GS b k) (aNP (GS b k) k) ak;rw[aQH]at e6;rw[aJe b k ak,ext,aQH,<-e6];rfl
 ·right;obtain rfl:k=64:=ak;intro R kn kx;rw[EO,aQ ak,aqK _ aQH,aM7];simp only[ao,bu,DG]
theorem apr:schedule.Ok:=by intro b hb;have hp:Ho (b,0,ab 64 0):=⟨hb,0,ak,rfl,rfl⟩;rw[apq,XG hp];simp only[ah,bu,DG,bu,OQ]
theorem aki:schedule.RS:=rE [.d tB] schedule
def aps:=schedule.eU apr 1 ⟨.fv acz,trivial⟩
abbrev aaG:=(List Int)×Int×(List Int)×(List Int)×(List Int)×(List Int)
def Oe:aaG->(List Int)->(((List Int)×(List Int))×((List Int))):=λ(Qu,t18,n4,n5,n6,n7) y=>((Qu,n4),y)
abbrev aaJ:=(List Int)×Int×(List Int)×(List Int)
def F0:aaJ->(List Int)->(((List Int))×((List Int))):=λ(avL,t104,Bg,aeg) y=>(Bg,y)
def akB(l:List Int):St:=⟨bh 32 (l.getD 0 0),bh 32 (l.getD 1 0),bh 32 (l.getD 2 0),bh 32 (l.getD 3 0),bh 32 (l.getD 4 0),bh 32 (l.getD 5 0),bh 32 (l.getD 6 0),bh 32 (l.getD 7 0)⟩
theorem oI(s:St):akB s.l=s:=by obtain⟨a,b,c,d,e,f,g,h⟩:=s;simp[akB,St.l,uV]
def aIT(l:List Int):List W:=l.map (bh 32)
theorem GO(l:List W):aIT (wl l)=l:=by
 unfold aIT wl;rw[List.map_map];have:(bh 32∘vw)=(id:W->W):=by funext w;exact uV w
 rw[this,List.map_id]
def aaI:aaG->Prop:=λ(h,t,n4,n5,n6,n7)=>∃(s:St) (ws:List W) (k:Nat),h=s.l/\n5=wl ws/\ws.length=64/\k<=64/\t=k/\n6=TJ/\n7=(rounds ws s k).l
def aaH:aaG->(List Int):=λ(h,t,n4,n5,n6,n7)=>(rounds (aIT n5) (akB h) 64).l
def aaK:aaJ->Prop:=λ(h,t,n4,n7)=>n7.length=8/\∃k:Nat,k<=8/\t=k
def Q0:aaJ->(List Int):=λ(h,t,n4,n7)=>from_ (λi x=>bI .u32 x (nth (.int .u32) h i)) t.toNat n7
def ajx:((List Int)×Bs)->Prop:=λ(h,b)=>(∃s:St,h=s.l)/\64<=b.length
def awa:((List Int)×Bs)->(List Int):=λ(h,b)=>(TQ (akB h) b).l
def Dd:Ls aaI Oe aaH:=rp (λ(Qu,t18,n4,n5,n6,n7)=>⟨([bF,bF,.dO (.arr 8 (.int .u32)) Qu,bF,eT 4,eT 5,eT 6,eT 7]++aP 10 ([.d ti t18]++aP 98 [])),[],(bM 4 ([dK (.d (.arr 8 (.int .u32)) n4),dK (.d (.arr 64 (.int .u32)) n5),dK (.d (.arr 64 (.int .u32)) n6),dK (.d (.arr 8 (.int .u32)) n7)]++bM 109 []))⟩) (λx=>(.exit 0,⟨([bF,bF,.dO (.arr 8 (.int .u32)) x.1.1,bF,eT 4,bF,bF,eT 7]++aP 109 []),[],(bM 4 ([dK (.d (.arr 8 (.int .u32)) x.1.2),[],[],dK (.d (.arr 8 (.int .u32)) x.2)]++bM 109 []))⟩))
def FZ:Ls aaK F0 Q0:=rp (λ(avL,t104,Bg,aeg)=>⟨([bF,bF,.dO (.arr 8 (.int .u32)) avL,bF,eT 4,bF,bF,eT 7]++aP 96 ([.d ti t104]++aP 12 [])),[],(bM 4 ([dK (.d (.arr 8 (.int .u32)) Bg),[],[],dK (.d (.arr 8 (.int .u32)) aeg)]++bM 109 []))⟩) (λx=>(.exit 2,⟨(aP 4 ([eT 4,bF,bF,eT 7]++aP 109 [])),[],(bM 4 ([dK (.d (.arr 8 (.int .u32)) x.1),[],[],dK (.d (.arr 8 (.int .u32)) x.2)]++bM 109 []))⟩))
def mix:Fs Tryz.prog ajx bu awa:=eN 172 Tryz.f172 (λ(h,b)=>([.d (.arr 8 (.int .u32)) h,.d tB b],[])) (λx=>⟨.d (.arr 8 (.int .u32)) x,[],[]⟩) [some (.arr 8 (.int .u32)),some tB] [aps,aIr,agZ] {loops:=nY [(4,{aV:=[2,4,5,6,7,18],sites:=[4,5,6,7]}),(13,{aV:=[2,4,7,104],sites:=[4,7]})],outs:=nX [(4,{aV:=[2,4,7],sites:=[4,7]},{aV:=[4]}),(13,{aV:=[4,7],sites:=[4,7]},{aV:=[4]})],fF:=nK [(4,Dd.E),(13,FZ.E)]}
theorem asC:Dd.RS:=rL [.d (.arr 8 (.int .u32)),.d ti,.d (.slice (.int .u32)),.d (.slice (.int .u32)),.d (.slice (.int .u32)),.d (.slice (.int .u32))] Dd
theorem VY{R:Type}(Qu t18 n4 n5 n6 n7)(kn:K2 R)(kx:K3 R):mix.R 0 Dd (Qu,t18,n4,n5,n6,n7) kn kx=aJ ((gr t18 64)) (aJ (decide (4 < (ag n7))) (al (pP.call ((nth (.int .u32) n7 4),(-6))) λx1=>aJ (decide (4 < (ag n7))) (al (pP.call ((nth (.int .u32) n7 4),(-11))) λx2=>aJ (decide (4 < (ag n7))) (al (pP.call ((nth (.int .u32) n7 4),(-25))) λx3=>aJ (decide (7 < (ag n7))) (aJ (decide (6 < (ag n7))) (aJ (decide (4 < (ag n7))) (aJ (decide (5 < (ag n7))) (aJ (decide (6 < (ag n7))) (aJ (ed t18 64) (aJ (decide ((ae t18) < (ag n6))) (aJ (decide ((((ae t18)*1)+0)=(0+((ae t18)*1)))) (aJ (ed t18 64) (aJ (decide ((ae t18) < (ag n5))) (aJ (decide ((((ae t18)*1)+0)=(0+((ae t18)*1)))) (aJ (decide (0 < (ag n7))) (al (pP.call ((nth (.int .u32) n7 0),(-2))) λx4=>aJ (decide (0 < (ag n7))) (al (pP.call ((nth (.int .u32) n7 0),(-13))) λx5=>aJ (decide (0 < (ag n7))) (al (pP.call ((nth (.int .u32) n7 0),(-22))) λx6=>aJ (decide (0 < (ag n7))) (aJ (decide (1 < (ag n7))) (aJ (decide (2 < (ag n7))) (aJ (decide (0 < (ag n7))) (aJ (decide (1 < (ag n7))) (aJ (decide (0 < (ag n7))) (aJ (decide (1 < (ag n7))) (aJ (decide (2 < (ag n7))) (aJ (decide (3 < (ag n7))) (aJ (decide (4 < (ag n7))) (aJ (decide (5 < (ag n7))) (aJ (decide (6 < (ag n7))) (kn (Dd.st (Qu,(bI .i64 t18 1),n4,n5,n6,[(bI .u32 (bI .u32 (bI .u32 (bI .u32 (bI .u32 (bI .u32 (nth (.int .u32) n7 7) (cG .xor .u32 (cG .xor .u32 x1 x2) x3)) (cG .xor .u32 (nth (.int .u32) n7 6) (cG .and .u32 (nth (.int .u32) n7 4) (cG .xor .u32 (nth (.int .u32) n7 5) (nth (.int .u32) n7 6))))) (nth (.int .u32) n6 (ae t18))) (nth (.int .u32) n5 (ae t18))) (cG .xor .u32 (cG .xor .u32 x4 x5) x6)) (cG .or .u32 (cG .and .u32 (nth (.int .u32) n7 0) (nth (.int .u32) n7 1)) (cG .and .u32 (nth (.int .u32) n7 2) (cG .or .u32 (nth (.int .u32) n7 0) (nth (.int .u32) n7 1))))),(nth (.int .u32) n7 0),(nth (.int .u32) n7 1),(nth (.int .u32) n7 2),(bI .u32 (nth (.int .u32) n7 3) (bI .u32 (bI .u32 (bI .u32 (bI .u32 (nth (.int .u32) n7 7) (cG .xor .u32 (cG .xor .u32 x1 x2) x3)) (cG .xor .u32 (nth (.int .u32) n7 6) (cG .and .u32 (nth (.int .u32) n7 4) (cG .xor .u32 (nth (.int .u32) n7 5) (nth (.int .u32) n7 6))))) (nth (.int .u32) n6 (ae t18))) (nth (.int .u32) n5 (ae t18)))),(nth (.int .u32) n7 4),(nth (.int .u32) n7 5),(nth (.int .u32) n7 6)]))) none) none) none) none) none) none) none) none) none) none) none) none) none) none) none) none) none) none) none) none) none) none) none) none) none) none) none) none) none) (Dd.go kx ((Qu,n4),n7)):=b8
theorem asD:FZ.RS:=rL [.d (.arr 8 (.int .u32)),.d ti,.d (.slice (.int .u32)),.d (.slice (.int .u32))] FZ
theorem VZ{R:Type}(avL t104 Bg aeg)(kn:K2 R)(kx:K3 R):mix.R 1 FZ (avL,t104,Bg,aeg) kn kx=aJ ((gr t104 8)) (aJ (ed t104 8) (aJ (decide ((ae t104) < (ag aeg))) (aJ (decide ((((ae t104)*1)+0)=(0+((ae t104)*1)))) (aJ (ed t104 8) (aJ (ed t104 8) (aJ (decide ((ae t104) < (ag aeg))) (aJ (decide ((((ae t104)*1)+0)=(0+((ae t104)*1)))) (aJ (decide ((ae t104) < (ag aeg))) (kn (FZ.st (avL,(bI .i64 t104 1),Bg,(fX aeg (ae t104) (bI .u32 (nth (.int .u32) aeg (ae t104)) (nth (.int .u32) avL (ae t104))))))) none) none) none) none) none) none) none) none) (FZ.go kx (Bg,aeg)):=b8
theorem aPv{R:Type}(h b)(k:K1 R):mix.A (h,b) k=al (schedule.call b) λx1=>al (table.call ()) λx2=>al (Dd.call (h,0,(ab 8 0),x1,x2,h)) λx9=>al (FZ.call (x9.1.1,0,x9.1.2,x9.2)) λak8=>k (mix.out ak8.2):=b8
theorem St.anG(s:St):s.l.length=8:=rfl
theorem VK:TJ.length=64:=rfl
theorem anF(k:Nat)(h:k < 64):nth (.int .u32) TJ k=vw (kw k):=by
 have hh:∀k:Fin 64,nth (.int .u32) TJ k.val=vw (kw k.val):=by decide+kernel
 exact hh ⟨k,h⟩
theorem UM(ws:List W)(k:Nat)(h:k < ws.length):nth (.int .u32) (wl ws) k=vw (ws.getD k 0):=by unfold nth wl;simp[h]
theorem aXb(w:W):rl w ((-6:Int)%32).toNat=v7 w 6:=rfl
theorem aUN(w:W):rl w ((-11:Int)%32).toNat=v7 w 11:=rfl
theorem aUQ(w:W):rl w ((-25:Int)%32).toNat=v7 w 25:=rfl
theorem aXa(w:W):rl w ((-2:Int)%32).toNat=v7 w 2:=rfl
theorem aUO(w:W):rl w ((-13:Int)%32).toNat=v7 w 13:=rfl
theorem aUP(w:W):rl w ((-22:Int)%32).toNat=v7 w 22:=rfl
theorem n0(s:St):nth (.int .u32) s.l 0=vw s.a:=rfl
theorem n1(s:St):nth (.int .u32) s.l 1=vw s.b:=rfl
theorem n2(s:St):nth (.int .u32) s.l 2=vw s.c:=rfl
theorem n3(s:St):nth (.int .u32) s.l 3=vw s.d:=rfl
theorem n4(s:St):nth (.int .u32) s.l 4=vw s.e:=rfl
theorem n5(s:St):nth (.int .u32) s.l 5=vw s.f:=rfl
theorem n6(s:St):nth (.int .u32) s.l 6=vw s.g:=rfl
theorem n7(s:St):nth (.int .u32) s.l 7=vw s.h:=rfl
theorem azw:(mix.kM 0 Dd):=by
 refine(mix.mf 0 Dd) (λ(h,t,n4,n5,n6,n7)=>64 - t.toNat) ?_
 rintro⟨h,t,m4,m5,m6,m7⟩ ⟨s,ws,k,rfl,rfl,hw,hk,rfl,rfl,rfl⟩;by_cases gQ:k < 64
 ·left;refine⟨(s.l,((k+1:Nat):Int),m4,wl ws,TJ,(rounds ws s (k+1)).l),⟨s,ws,k+1,rfl,rfl,hw,ak,rfl,rfl,rfl⟩,by simp;omega,rfl,λkn kx=> ?_⟩;have e1:bI .i64 (k:Int) 1=((k+1:Nat):Int):=by rw[fZ ak ak];omega
  have e2:ae (k:Int)=k:=ak;have aQH:(wl ws).length=64:=by simp[wl,hw]
  have d0:decide (k < 64)=true:=aM gQ;have i0:ed (k:Int) 64=true:=bj ak ak;rw[VY,aU ak];generalize hv:rounds ws s k=v;simp only[e1,e2,gT,aO,cq,cv,aj,St.anG,Nat.reduceLT,VK,aQH,d0,i0,n0,n1,n2,n3,n4,n5,n6,n7,agY,ah,anF k gQ,UM ws k ak,qo,Eg,aXb,aUN,aUQ,aXa,aUO,aUP];show kn _=kn (Dd.st (s.l,((k+1:Nat):Int),m4,wl ws,TJ,(mf (rounds ws s k) (kw k) (ws.getD k 0)).l));rw[hv];rfl
 ·right;obtain rfl:k=64:=ak;intro R kn kx;rw[VY,aQ ak];simp only[ao,Oe,aaH,GO,oI]
theorem azx:(mix.kM 1 FZ):=by
 refine(mix.mf 1 FZ) (λ(h,t,n4,n7)=>8 - t.toNat) ?_
 rintro⟨h,t,m4,m7⟩ ⟨hl,k,hk,rfl⟩;have hl:m7.length=8:=hl;have e2:ae (k:Int)=k:=ak;have e3:ae ((k+1:Nat):Int)=k+1:=ak;by_cases gQ:k < 8
 ·left;have e1:bI .i64 (k:Int) 1=((k+1:Nat):Int):=by rw[fZ ak ak];omega
  have hn:nth (.int .u32) m7 k=m7[k]:=cd (t:= .int .u32) ak;refine⟨(h,((k+1:Nat):Int),m4,m7.set k (bI .u32 m7[k] (nth (.int .u32) h k))),⟨by simpa using hl,k+1,ak,rfl⟩,by simp;omega,?_,λkn kx=> ?_⟩
  ·simp only[F0,Q0,e2,e3];rw[KA (λi x=>bI .u32 x (nth (.int .u32) h i)) m7 k ak]
  ·have d0:decide (k < 8)=true:=aM gQ;have i0:ed (k:Int) 8=true:=bj ak ak;rw[VZ,aU ak];simp only[e1,e2,gT,aO,cq,cv,aj,hl,d0,i0,hn]
 ·right;obtain rfl:k=8:=ak;intro R kn kx;rw[VZ,aQ ak];simp only[ao,F0,Q0,e2];rw[Qs _ _ _ ak]
theorem aPw:mix.Ok:=by
 rintro⟨h,b⟩ ⟨⟨s,rfl⟩,hb⟩;have hs:RL b:=hb;have avP:(sched b).length=64:=by unfold sched;rw[BU,eZ]
 have hp:aaI (s.l,0,ab 8 0,wl (sched b),TJ,s.l):=⟨s,sched b,0,rfl,rfl,avP,ak,rfl,rfl,rfl⟩;rw[aPv,aki hs];simp only[ah,aBn (d:=()) trivial,bu,OQ,bu,awH,asC hp,Oe,aaH,GO,oI];have aJA:aaK (s.l,0,ab 8 0,(rounds (sched b) s 64).l):=⟨rfl,0,ak,rfl⟩;simp only[asD aJA,ah,F0,Q0,bu,awa,oI];unfold TQ;generalize rounds (sched b) s 64=v;obtain⟨a1,b1,c1,d1,f1,g1,h1,i1⟩:=v;simp only[St.l,from_,List.mapIdx_cons,List.mapIdx_nil,aX,Nat.not_lt_zero,bt,aO,Nat.reduceAdd];simp only[nth,jz,rb,Eg]
theorem awb:mix.RS:=rE [.d (.slice (.int .u32)),.d tB] mix
def aPx:=mix.eU aPw 2 ⟨.fv azw,⟨.fv azx,trivial⟩⟩
theorem tG(n:Int)(k:Int)(h0:0<=k)(h1:k<=64):dX .u8 (cz .i64 n k)=n / 2^k.toNat%256:=by
 rw[Tz,hZ,cz];have e:min k.toNat IntKind.i64.bits=k.toNat:=by simp only[IntKind.bits];omega
 rw[e,km _ (Int.le_of_lt (Int.pow_pos ak))];rfl
theorem EN{n:Nat}(h:n<=140737488355328):db n 1=true:=dr ak ak
def Ze:Bs->Prop:=λb=>b.length<=140737488355328
def H6:Bs->(Nat×(List Int)):=λb=>(b.length,b)
def AM:Fs Tryz.prog Ze bu H6:=eN 170 Tryz.f170 (λsv=>([.d tB sv],[])) (λx=>⟨.bA (.new 0 0) 0 [] 0 0 x.1,[],[.obj 0 false (.vec 5 tb x.2)]⟩) [some tB] [] {bJ:=[5],owns:=[⟨2,[],5,127⟩]}
theorem axY{R:Type}(sv)(k:K1 R):AM.A sv k=aJ (decide (0 < (ag sv))) (aJ (db (0+(ag sv)) 1) (k (AM.out ((0+(ag sv)),((aR 0 (ab 0 0))++sv)))) none) (nd (k (AM.out (0,([]:List Int)))) (aJ (db (0+(ag sv)) 1) (k (AM.out ((0+(ag sv)),((aR 0 (ab 0 0))++sv)))) none)):=b8
theorem axZ:AM.Ok:=by
 intro b hb;have hr:db b.length 1=true:=EN hb;rw[axY];have e0:(aR 0 (ab 0 0):List Int)=[]:=rfl;simp only[aO,hr,aj,e0,aT,bu,H6];by_cases h:0 < b.length
 ·simp only[aM h,aj]
 ·have:b=[]:=bE ak;subst this;simp only[ba,zH,aS (ik 0),ao]
theorem Nr:AM.RS:=rE [.d tB] AM
def S8:=AM.eU axZ
def azj:Int->Prop:=λ_=>True
def av3:Int->(Nat×(List Int)):=λn=>(8,jr n)
def aav:Fs Tryz.prog azj bu av3:=eN 111 Tryz.f111 (λn=>([.de,.d ti n],[])) (λx=>⟨.bA (.new 0 0) 0 [] 0 0 x.1,[],[.obj 0 false (.vec 5 tb x.2)]⟩) [none,some ti] [] {loops:=nY [(2,{aV:=[0,1,5],sites:=[16]})],outs:=nX [(2,{aV:=[0],sites:=[16]},{aV:=[4],sites:=[16]})],owns:=[⟨4,[],16,127⟩]} 12
theorem aF1{R:Type}(n)(k:K1 R):aav.A n k=k (aav.out (8,[(dX .u8 (cz .i64 n 56)),(dX .u8 (cz .i64 n 48)),(dX .u8 (cz .i64 n 40)),(dX .u8 (cz .i64 n 32)),(dX .u8 (cz .i64 n 24)),(dX .u8 (cz .i64 n 16)),(dX .u8 (cz .i64 n 8)),(dX .u8 (cz .i64 n 0))])):=b8
theorem aqQ(n:Int): [dX .u8 (cz .i64 n 56),dX .u8 (cz .i64 n 48),dX .u8 (cz .i64 n 40),dX .u8 (cz .i64 n 32),dX .u8 (cz .i64 n 24),dX .u8 (cz .i64 n 16),dX .u8 (cz .i64 n 8),dX .u8 (cz .i64 n 0)]=jr n:=by rw[tG n 56 ak ak,tG n 48 ak ak,tG n 40 ak ak,tG n 32 ak ak,tG n 24 ak ak,tG n 16 ak ak,tG n 8 ak ak,tG n 0 ak ak];simp[jr]
theorem aF2:aav.Ok:=by intro n _;rw[aF1,aqQ];rfl
theorem azk:aav.RS:=rE [.d ti] aav
def aF3:=aav.aS7 azH aF2 1 ⟨.none b8,trivial⟩
def TN:(Nat×Int×Bs)->Prop:=λ(m,n,l)=>m=l.length/\l.length<=140737488355320
def X8:(Nat×Int×Bs)->(Nat×(List Int)):=λ(m,n,l)=>(l.length+8,l++jr n)
def VP:Fs Tryz.prog TN bu X8:=eN 111 Tryz.f111 (λ(bL,n,o0)=>([.bA (.bm 0) 0 [] 0 0 bL,.d ti n],[.obj 0 false (.vec 5 tb o0)])) (λx=>⟨.bA (.bm 0) 8 [] 0 0 x.1,[.obj 8 false (.vec 5 tb x.2)],[]⟩) [none,some ti] [] {loops:=nY [(2,{aV:=[0,1,5],sites:=[16]})],outs:=nX [(2,{aV:=[0],sites:=[16]},{aV:=[4],sites:=[16]})]} 12
theorem aF4{R:Type}(bL n o0)(k:K1 R):VP.A (bL,n,o0) k=aJ (decide (bL<=(ag o0))) (aJ (db (bL+1) 1) (aJ (decide ((bL+1)<=(ag ((aR bL o0)++ [(dX .u8 (cz .i64 n 56))])))) (aJ (db ((bL+1)+1) 1) (aJ (decide (((bL+1)+1)<=(ag ((aR (bL+1) ((aR bL o0)++ [(dX .u8 (cz .i64 n 56))]))++ [(dX .u8 (cz .i64 n 48))])))) (aJ (db (((bL+1)+1)+1) 1) (aJ (decide ((((bL+1)+1)+1)<=(ag ((aR ((bL+1)+1) ((aR (bL+1) ((aR bL o0)++ [(dX .u8 (cz .i64 n 56))]))++ [(dX .u8 (cz .i64 n 48))]))++ [(dX .u8 (cz .i64 n 40))])))) (aJ (db ((((bL+1)+1)+1)+1) 1) (aJ (decide (((((bL+1)+1)+1)+1)<=(ag ((aR (((bL+1)+1)+1) ((aR ((bL+1)+1) ((aR (bL+1) ((aR bL o0)++ [(dX .u8 (cz .i64 n 56))]))++ [(dX .u8 (cz .i64 n 48))]))++ [(dX .u8 (cz .i64 n 40))]))++ [(dX .u8 (cz .i64 n 32))])))) (aJ (db (((((bL+1)+1)+1)+1)+1) 1) (aJ (decide ((((((bL+1)+1)+1)+1)+1)<=(ag ((aR ((((bL+1)+1)+1)+1) ((aR (((bL+1)+1)+1) ((aR ((bL+1)+1) ((aR (bL+1) ((aR bL o0)++ [(dX .u8 (cz .i64 n 56))]))++ [(dX .u8 (cz .i64 n 48))]))++ [(dX .u8 (cz .i64 n 40))]))++ [(dX .u8 (cz .i64 n 32))]))++ [(dX .u8 (cz .i64 n 24))])))) (aJ (db ((((((bL+1)+1)+1)+1)+1)+1) 1) (aJ (decide (((((((bL+1)+1)+1)+1)+1)+1)<=(ag ((aR (((((bL+1)+1)+1)+1)+1) ((aR ((((bL+1)+1)+1)+1) ((aR (((bL+1)+1)+1) ((aR ((bL+1)+1) ((aR (bL+1) ((aR bL o0)++ [(dX .u8 (cz .i64 n 56))]))++ [(dX .u8 (cz .i64 n 48))]))++ [(dX .u8 (cz .i64 n 40))]))++ [(dX .u8 (cz .i64 n 32))]))++ [(dX .u8 (cz .i64 n 24))]))++ [(dX .u8 (cz .i64 n 16))])))) (aJ (db (((((((bL+1)+1)+1)+1)+1)+1)+1) 1) (aJ (decide ((((((((bL+1)+1)+1)+1)+1)+1)+1)<=(ag ((aR ((((((bL+1)+1)+1)+1)+1)+1) ((aR (((((bL+1)+1)+1)+1)+1) ((aR ((((bL+1)+1)+1)+1) ((aR (((bL+1)+1)+1) ((aR ((bL+1)+1) ((aR (bL+1) ((aR bL o0)++ [(dX .u8 (cz .i64 n 56))]))++ [(dX .u8 (cz .i64 n 48))]))++ [(dX .u8 (cz .i64 n 40))]))++ [(dX .u8 (cz .i64 n 32))]))++ [(dX .u8 (cz .i64 n 24))]))++ [(dX .u8 (cz .i64 n 16))]))++ [(dX .u8 (cz .i64 n 8))])))) (aJ (db ((((((((bL+1)+1)+1)+1)+1)+1)+1)+1) 1) (k (VP.out (((((((((bL+1)+1)+1)+1)+1)+1)+1)+1),((aR (((((((bL+1)+1)+1)+1)+1)+1)+1) ((aR ((((((bL+1)+1)+1)+1)+1)+1) ((aR (((((bL+1)+1)+1)+1)+1) ((aR ((((bL+1)+1)+1)+1) ((aR (((bL+1)+1)+1) ((aR ((bL+1)+1) ((aR (bL+1) ((aR bL o0)++ [(dX .u8 (cz .i64 n 56))]))++ [(dX .u8 (cz .i64 n 48))]))++ [(dX .u8 (cz .i64 n 40))]))++ [(dX .u8 (cz .i64 n 32))]))++ [(dX .u8 (cz .i64 n 24))]))++ [(dX .u8 (cz .i64 n 16))]))++ [(dX .u8 (cz .i64 n 8))]))++ [(dX .u8 (cz .i64 n 0))])))) none) none) none) none) none) none) none) none) none) none) none) none) none) none) none) none:=b8
theorem aF5:VP.Ok:=by rintro⟨m,n,l⟩ ⟨rfl,hl⟩;have hl:l.length<=140737488355320:=hl;rw[aF4];simp only[ax,cv,aj,aY,ai,aA,ba,aO];rw[EN ak,EN ak,EN ak,EN ak,EN ak,EN ak,EN ak,EN ak];simp only[aj,bu,X8,<-aqQ,aF,iW,aT]
theorem agn:VP.RS:=rE [.n,.d ti,.d tB] VP
def anN:=VP.aS7 ahf aF5 1 ⟨.none b8,trivial⟩
abbrev Tr:=Bs×Nat×Bs×(List Int)
abbrev agc:=Nat×(List Int)
def Cj:Tr->agc->((Bs×Bs)×(Nat×(List Int))):=λ(iR,endL,n2,n14) y=>((iR,n2),y)
abbrev Tt:=Bs×Nat×Bs×(List Int)×(List Int)
def Ck:Tt->(List Int)->((Nat×Bs×(List Int))×((List Int))):=λ(SB,NK,kQ,n4,aaQ) y=>((NK,kQ,aaQ),y)
abbrev Tu:=Bs×Bs×(List Int)
def Cl:Tu->(List Int)->((Bs)×((List Int))):=λ(endv,th,Bg) y=>(th,y)
abbrev agd:=Int×Bs×(List Int)
def zc(n:Nat):Nat:=(120 - n%64)%64
def Vy:Tr->Prop:=λ(b,m,n2,l)=>m=l.length/\l.length+zc l.length<=140737488355328
def KC:Tr->agc:=λ(b,m,n2,l)=>(l.length+zc l.length,l++ab (zc l.length) 0)
def Vz:Tt->Prop:=λ(b,m,n2,h,l)=>∃s:St,h=s.l
def KD:Tt->(List Int):=λ(b,m,n2,h,l)=>(blocks (akB h) b).l
def VA:Tu->Prop:=λ(b,n2,h)=>b.length%64=0/\∃s:St,h=s.l
def KE:Tu->(List Int):=λ(b,n2,h)=>(blocks (akB h) b).l
def Ly(h:List Int)(i:Nat)(_:Int):Int:=dX .u8 (cz .u32 (nth (.int .u32) h (i / 4)) ((24 - 8*(i%4):Nat):Int))
def VB:agd->Prop:=λ(t,n2,h)=>n2.length=32/\h.length=8/\∃k:Nat,k<=32/\t=k
def KF:agd->Bs:=λ(t,n2,h)=>from_ (Ly h) t.toNat n2
def anp:Bs->Prop:=λb=>b.length<=140737488350000
def ar7:Bs->Bs:=λb=>aPU b
def zp:Ls Vy Cj KC:=rp (λ(iR,endL,n2,n14)=>⟨([.d tB iR,bF,eT 2,om 14 endL]++aP 61 []),[],([[],[],dK (.d tH n2)]++bM 11 ([dK (.vec 5 tb n14)]++bM 50 []))⟩) (λx=>(.exit 0,⟨([.d tB x.1.1,bF,eT 2,om 14 x.2.1]++aP 61 []),[],([[],[],dK (.d tH x.1.2)]++bM 11 ([dK (.vec 5 tb x.2.2)]++bM 50 []))⟩))
def zq:Ls Vz Ck KD:=rp (λ(SB,NK,kQ,n4,aaQ)=>⟨([.d tB SB,bF,eT 2,.bA (.new 14 0) 8 [] 0 0 NK,eT 4]++aP 60 []),[],([[],[],dK (.d tH kQ),[],dK (.d (.arr 8 (.int .u32)) n4)]++bM 9 ([[.obj 8 false (.vec 5 tb aaQ)]]++bM 50 []))⟩) (λx=>(.exit 2,⟨([bF,bF,eT 2,.bA (.new 14 0) 8 [] 0 0 x.1.1,eT 4]++aP 60 []),[],([[],[],dK (.d tH x.1.2.1),[],dK (.d (.arr 8 (.int .u32)) x.2)]++bM 9 ([[.obj 8 false (.vec 5 tb x.1.2.2)]]++bM 50 []))⟩))
def zr:Ls VA Cl KE:=rp (λ(endv,th,Bg)=>⟨([bF,bF,eT 2,.d tB endv,eT 4]++aP 60 []),[],([[],[],dK (.d tH th),[],dK (.d (.arr 8 (.int .u32)) Bg)]++bM 60 [])⟩) (λx=>(.exit 4,⟨([bF,bF,eT 2,bF,eT 4]++aP 60 []),[],([[],[],dK (.d tH x.1),[],dK (.d (.arr 8 (.int .u32)) x.2)]++bM 60 [])⟩))
def zs:Ls VB bu KF:=rp (λ(t48,Om,Q3)=>⟨([bF,bF,eT 2,bF,eT 4]++aP 43 ([.d ti t48]++aP 16 [])),[],([[],[],dK (.d tH Om),[],dK (.d (.arr 8 (.int .u32)) Q3)]++bM 60 [])⟩) (λx=>(.exit 6,⟨([bF,bF,eT 2]++aP 62 []),[],([[],[],dK (.d tH x)]++bM 62 [])⟩))
def Ef:Fs Tryz.prog anp bu ar7:=eN 112 Tryz.f112 (λb=>([.d tB b],[])) (λx=>⟨.d tH x,[],[]⟩) [some tB] [S8,anN,aEV,aPx] {loops:=nY [(2,{aV:=[0,2,3],sites:=[2,14],owns:=[⟨3,[],14,127⟩]}),(6,{aV:=[0,2,3,4],sites:=[2,4,14]}),(9,{aV:=[2,3,4],sites:=[2,4],data:=[(3,tB)]}),(13,{aV:=[2,4,48],sites:=[2,4]})],outs:=nX [(2,{aV:=[0,2,3],sites:=[2,14]},{aV:=[2]}),(6,{aV:=[2,3,4],sites:=[2,4,14]},{aV:=[2]}),(9,{aV:=[2,4],sites:=[2,4]},{aV:=[2]}),(13,{aV:=[2],sites:=[2]},{aV:=[2]})],fF:=nK [(2,zp.E),(6,zq.E),(9,zr.E),(13,zs.E)]}
theorem anl:zp.RS:=rL [.d tB,.n,.d tB,.d tB] zp
theorem Qy{R:Type}(iR endL n2 n14)(kn:K2 R)(kx:K3 R):Ef.R 0 zp (iR,endL,n2,n14) kn kx=aJ ((A7 (mS ((endL:Nat):Int) 64) 56)) (aJ (decide (endL<=(ag n14))) (aJ (db (endL+1) 1) (kn (zp.st (iR,(endL+1),n2,((aR endL n14)++ [0])))) none) none) (zp.go kx ((iR,n2),(endL,n14))):=b8
theorem anm:zq.RS:=rL [.d tB,.n,.d tB,.d (.slice (.int .u32)),.d tB] zq
theorem Qz{R:Type}(SB NK kQ n4 aaQ)(kn:K2 R)(kx:K3 R):Ef.R 1 zq (SB,NK,kQ,n4,aaQ) kn kx=aJ ((Cn (SB.length:Int) 64)) (aJ (inc 64 (SB.length:Int)) (al (mix.call (n4,(cut SB 0 64))) λx1=>aJ (inc 64 (SB.length:Int)) (kn (zq.st ((cut SB 64 ((ag SB) - 64)),NK,kQ,x1,aaQ))) none) none) (zq.go kx ((NK,kQ,aaQ),n4)):=b8
theorem ann:zr.RS:=rL [.d tB,.d tB,.d (.slice (.int .u32))] zr
theorem QA{R:Type}(endv th Bg)(kn:K2 R)(kx:K3 R):Ef.R 2 zr (endv,th,Bg) kn kx=aJ ((qZ (endv.length:Int) 0)) (aJ (inc 64 (endv.length:Int)) (al (mix.call (Bg,(cut endv 0 64))) λx1=>aJ (inc 64 (endv.length:Int)) (kn (zr.st ((cut endv 64 ((ag endv) - 64)),th,x1))) none) none) (zr.go kx (th,Bg)):=b8
theorem ano:zs.RS:=rL [.d ti,.d tB,.d (.slice (.int .u32))] zs
theorem QB{R:Type}(t48 Om Q3)(kn:K2 R)(kx:K3 R):Ef.R 3 zs (t48,Om,Q3) kn kx=aJ ((gr t48 32)) (aJ (ed (tX .i64 t48 4) 8) (aJ (decide ((ae (tX .i64 t48 4)) < (ag Q3))) (aJ (decide ((((ae (tX .i64 t48 4))*1)+0)=(0+((ae (tX .i64 t48 4))*1)))) (aJ (mK (cR .i64 24 (gB .i64 8 (mS t48 4)))) (aJ (ed t48 32) (aJ (decide ((ae t48) < (ag Om))) (aJ (decide ((((ae t48)*1)+0)=(0+((ae t48)*1)))) (aJ (decide ((ae t48) < (ag Om))) (kn (zs.st ((bI .i64 t48 1),(fX Om (ae t48) (dX .u8 (cz .u32 (nth (.int .u32) Q3 (ae (tX .i64 t48 4))) (cR .i64 24 (gB .i64 8 (mS t48 4)))))),Q3))) none) none) none) none) none) none) none) none) (zs.go kx Om):=b8
theorem aLg{R:Type}(b)(k:K1 R):Ef.A b k=aJ (inc (cR .i64 (b.length:Int) (mS (b.length:Int) 64)) (b.length:Int)) (al (AM.call (cut b (ae (cR .i64 (b.length:Int) (mS (b.length:Int) 64))) ((ag b) - (ae (cR .i64 (b.length:Int) (mS (b.length:Int) 64)))))) λx1=>aJ (decide (x1.1<=(ag x1.2))) (aJ (db (x1.1+1) 1) (al (zp.call (b,(x1.1+1),(ab 32 0),((aR x1.1 x1.2)++ [128]))) λx2=>al (VP.call (x2.2.1,(gB .i64 8 (x2.1.1.length:Int)),x2.2.2)) λx3=>al (first.call ()) λx4=>al (zq.call (x2.1.1,x3.1,x2.1.2,x4,x3.2)) λx6=>aJ (decide (0=0/\(0+x6.1.1)<=(ag x6.1.2.2))) (al (zr.call ((cut x6.1.2.2 0 x6.1.1),x6.1.2.1,x6.2)) λx9=>al (zs.call (0,x9.1,x9.2)) λak8=>k (Ef.out ak8)) none) none) none) none:=b8
theorem ar8:(Ef.kM 0 zp):=by
 refine(Ef.mf 0 zp) (λ(b,m,n2,l)=>zc l.length) ?_
 rintro⟨b,m,n2,l⟩ ⟨rfl,hl⟩;have hl:l.length+zc l.length<=140737488355328:=hl;have hr:mS ((l.length:Nat):Int) 64=((l.length%64:Nat):Int):=by unfold mS;rw[il ak];omega
 by_cases h:l.length%64=56
 ·right;intro R kn kx;have hz:zc l.length=0:=by unfold zc;omega
  rw[Qy,hr,dB ak];simp only[ao,Cj,KC,hz,cq,List.replicate_zero,aZ]
 ·left;have hz:zc l.length=zc (l.length+1)+1:=by unfold zc;omega
  refine⟨(b,l.length+1,n2,l++ [0]),⟨by simp,by simp only[ai,aA,ba,aO];omega⟩,by simp only[ai,aA,ba,aO];omega,?_,λkn kx=> ?_⟩
  ·simp only[Cj,KC,ai,aA,ba,aO,hz,aF,iW,aT,List.replicate_succ];rw[show l.length+1+zc (l.length+1)=l.length+(zc (l.length+1)+1) by omega]
  ·rw[Qy,hr,fo ak,EN ak];simp only[aj,ax,cv,bK]
theorem ar9:(Ef.kM 1 zq):=by
 refine(Ef.mf 1 zq) (λ(b,m,n2,h,l)=>b.length) ?_
 rintro⟨b,m,n2,h,l⟩ ⟨s,rfl⟩;by_cases hb:64<=b.length
 ·left;have e1:cut b 64 (b.length - 64)=b.drop 64:=by unfold cut;rw[aY (by simp)]
  have e2:cut b 0 64=b.take 64:=rfl;have hp:ajx (s.l,b.take 64):=⟨⟨s,rfl⟩,by simp;omega⟩;refine⟨(b.drop 64,m,n2,(TQ s (b.take 64)).l,l),⟨_,rfl⟩,by simp;omega,?_,λkn kx=> ?_⟩
  ·simp only[Ck,KD,oI];rw[HY s b hb]
  ·rw[Qz,gA ak,uL ak ak,e1,e2];simp only[aj,awb hp,ah,bu,awa,oI]
 ·right;intro R kn kx;rw[Qz,eF ak];simp only[ao,Ck,KD,oI];rw[E6 s b ak]
theorem asa:(Ef.kM 2 zr):=by
 refine(Ef.mf 2 zr) (λ(b,n2,h)=>b.length) ?_
 rintro⟨b,n2,h⟩ ⟨hm,s,rfl⟩;have hm:b.length%64=0:=hm;by_cases hb:0 < b.length
 ·left;have e1:cut b 64 (b.length - 64)=b.drop 64:=by unfold cut;rw[aY (by simp)]
  have e2:cut b 0 64=b.take 64:=rfl;have hp:ajx (s.l,b.take 64):=⟨⟨s,rfl⟩,by simp;omega⟩;refine⟨(b.drop 64,n2,(TQ s (b.take 64)).l),⟨by simp;omega,_,rfl⟩,by simp;omega,?_,λkn kx=> ?_⟩
  ·simp only[Cl,KE,oI];rw[HY s b ak]
  ·rw[QA,cP ak,uL ak ak,e1,e2];simp only[aj,awb hp,ah,bu,awa,oI]
 ·right;intro R kn kx;rw[QA,cr ak];simp only[ao,Cl,KE,oI];rw[E6 s b ak]
theorem asb:(Ef.kM 3 zs):=by
 refine(Ef.mf 3 zs) (λ(t,n2,h)=>32 - t.toNat) ?_
 rintro⟨t,m,h⟩ ⟨hl,h8,k,hk,rfl⟩;have hl:m.length=32:=hl;have h8:h.length=8:=h8;have e2:ae (k:Int)=k:=ak;have e3:ae ((k+1:Nat):Int)=k+1:=ak;by_cases gQ:k < 32
 ·left;have e1:bI .i64 (k:Int) 1=((k+1:Nat):Int):=by rw[fZ ak ak];omega
  have q4:tX .i64 (k:Int) 4=((k / 4:Nat):Int):=by
   have:(k:Int).tdiv 4=((k / 4:Nat):Int):=by rw[ko ak];omega
   unfold tX;rw[this,uJ ak ak]
  have r4:mS (k:Int) 4=((k%4:Nat):Int):=by unfold mS;rw[il ak];omega
  have s4:cR .i64 24 (gB .i64 8 ((k%4:Nat):Int))=((24 - 8*(k%4):Nat):Int):=by rw[It ak ak,eL ak ak];omega
  have e4:ae ((k / 4:Nat):Int)=k / 4:=ak;refine⟨(((k+1:Nat):Int),m.set k (Ly h k m[k]),h),⟨by simpa using hl,h8,k+1,ak,rfl⟩,by simp;omega,?_,λkn kx=> ?_⟩
  ·simp only[bu,KF,e2,e3];rw[KA (Ly h) m k ak]
  ·have d0:decide (k < 32)=true:=aM gQ;have d1:decide (k / 4 < 8)=true:=aM ak;rw[QB,aU ak,q4,r4,s4,bj ak ak,bj ak ak,tI ak];simp only[e1,e2,e4,gT,aO,cq,cv,aj,hl,h8,d0,d1,Ly]
 ·right;obtain rfl:k=32:=ak;intro R kn kx;rw[QB,aQ ak];simp only[ao,bu,KF,e2];rw[Qs _ _ _ ak]
theorem azN(w:W):bh 8 (vw w)=w.setWidth 8:=by apply BitVec.eq_of_toNat_eq;rw[sP,BitVec.toNat_setWidth];unfold vw;omega
theorem aOq(w:W)(k:Int):dX .u8 (cz .u32 (vw w) k)=vw ((w >>> k.toNat).setWidth 8):=by rw[Iw,Tz,azN]
theorem awk(s:St):from_ (Ly s.l) 0 (ab 32 0)=aL6 s:=by rw[ZV];simp only[List.range_eq_range',List.range',bQ,iq,Ly,Nat.reduceAdd,Nat.reduceDiv,Nat.reduceMod,Nat.reduceMul,Nat.reduceSub,n0,n1,n2,n3,n4,n5,n6,n7,aOq];rfl
theorem aLh:Ef.Ok:=by
 intro b hb;have hb:b.length<=140737488350000:=hb;have hr:mS ((b.length:Nat):Int) 64=((b.length%64:Nat):Int):=by unfold mS;rw[il ak];omega
 have hs:cR .i64 ((b.length:Nat):Int) ((b.length%64:Nat):Int)=((b.length - b.length%64:Nat):Int):=by rw[eL ak ak];omega
 have hn:ae ((b.length - b.length%64:Nat):Int)=b.length - b.length%64:=ak;have hm:gB .i64 8 ((b.length:Nat):Int)=8*(b.length:Int):=It ak ak;generalize hq:b.length - b.length%64=q at hs hn;have hc:cut b q (b.length - q)=b.drop q:=by unfold cut;rw[aY (by simp)]
 have aCf:(b.drop q).length=b.length%64:=by simp;omega
 have p1:Ze (b.drop q):=by show(b.drop q).length<=_;omega
 rw[aLg,hr,hs,uL ak ak,hn,hc];simp only[aj,Nr p1,ah,bu,H6,ax,cv,bK];have p2:Vy (b,(b.drop q).length+1,ab 32 0,b.drop q++ [128]):=by refine⟨by simp,?_⟩;simp only[ai,aA,ba,zc];omega
 have hz:zc (b.drop q++ [128]).length=Bn b.length:=by simp only[ai,aA,ba,zc,Bn];omega
 rw[EN ak];simp only[aj,anl p2,ah,Cj,KC,hm,hz];have hlen:(b.drop q++ [128]).length+Bn b.length=(b.drop q++ [128]++ab (Bn b.length) 0).length:=by rw[@ai _ (b.drop q++ [128]),cg]
 have p3:TN ((b.drop q++ [128]).length+Bn b.length,8*(b.length:Int),b.drop q++ [128]++ab (Bn b.length) 0):=by refine⟨hlen,?_⟩;simp only[ai,aA,ba,cg,Bn];omega
 have p4:Vz (b,(b.drop q++ [128]++ab (Bn b.length) 0).length+8,ab 32 0,sZ.l,b.drop q++ [128]++ab (Bn b.length) 0++jr (8*(b.length:Int))):=⟨sZ,rfl⟩;simp only[agn p3,ah,bu,X8,ayy (d:=()) trivial,bu,avG,anm p4,Ck,KD,oI];generalize he:b.drop q++ [128]++ab (Bn b.length) 0++jr (8*(b.length:Int))=e;have Lg:(b.drop q++ [128]++ab (Bn b.length) 0).length+8=e.length:=by rw[<-he,@ai _ _ (jr _),cn]
 have aQz:e.length%64=0:=by rw[<-Lg];simp only[ai,aA,ba,cg,Bn,aCf];omega
 have aOV:cut e 0 ((b.drop q++ [128]++ab (Bn b.length) 0).length+8)=e:=by rw[Lg];unfold cut;rw[aD,bK]
 rw[aOV,Lg,aM ⟨trivial,ak⟩];have p5:VA (e,ab 32 0,(blocks sZ b).l):=⟨aQz,blocks sZ b,rfl⟩;have p6:VB (0,ab 32 0,(blocks (blocks sZ b) e).l):=⟨rfl,rfl,0,ak,rfl⟩;simp only[aj,ann p5,ah,Cl,KE,oI,ano p6,bu,KF,bu,ar7];rw[show ae 0=0 from rfl,awk];have aQv:blocks sZ (pad b)=blocks (blocks sZ b) e:=by
  have h1:pad b=b.take q++e:=by rw[<-he];unfold pad;rw[aF,aF,<-aF (b.take q),dq];rfl
  have h2:blocks sZ b=blocks (blocks sZ (b.take q)) (b.drop q):=by rw[<-Lv _ _ _ (by simp;omega),dq]
  rw[h1,Lv _ _ _ (by simp;omega),h2,E6 _ (b.drop q) ak]
 rw[aPU,aQv]
theorem aFm:Ef.RS:=rE [.d tB] Ef
def aLi:=Ef.eU aLh 4 ⟨.fv ar8,⟨.fv ar9,⟨.fv asa,⟨.fv asb,trivial⟩⟩⟩⟩
abbrev Tw:=Nat×(List Bs)×Int×Int×Bs×(List Int)
abbrev agf:=Nat×(List Int)
def Cm:Tw->agf->((Bs)×(Nat×(List Int))):=λ(bL,t13,t14,t15,n4,n10) y=>(n4,y)
abbrev aFn:=ByteArray×(List Bs)
def VD:Tw->Prop:=λ(m,ps,n,i,n4,l)=>m=l.length/\n=ps.length/\ps.length<=140737488350000/\∃k:Nat,k<=ps.length/\i=k/\l.length+(oP (ps.drop k)).length<=140737488350000
def KG:Tw->agf:=λ(m,ps,n,i,n4,l)=>(l.length+(oP (ps.drop i.toNat)).length,l++oP (ps.drop i.toNat))
def QD:aFn->Prop:=λ(name,ps)=>(UA (bH name) ps).length<=140737488350000
def ai6:aFn->Bs:=λ(name,ps)=>tag (bH name) ps
def zt:Ls VD Cm KG:=rp (λ(bL,t13,t14,t15,n4,n10)=>⟨(aP 4 ([eT 4,om 10 bL]++aP 7 ([.d (.slice tB) t13,.d ti t14,.d ti t15]++aP 12 []))),[],(bM 4 ([dK (.d tH n4)]++bM 5 ([dK (.vec 5 tb n10)]++bM 17 [])))⟩) (λx=>(.exit 0,⟨(aP 4 ([eT 4,om 10 x.2.1]++aP 22 [])),[],(bM 4 ([dK (.d tH x.1)]++bM 5 ([dK (.vec 5 tb x.2.2)]++bM 17 [])))⟩))
def Tv:Fs Tryz.prog QD bu ai6:=eN 68 Tryz.f68 (λ(name,parts)=>([.d .str name,.d (.slice tB) parts],[])) (λx=>⟨.d tH x,[],[]⟩) [some .str,some (.slice tB)] [aF3,anN,aLi] {loops:=nY [(3,{aV:=[4,5,13,14,15],sites:=[4,10],owns:=[⟨5,[],10,127⟩]})],outs:=nX [(3,{aV:=[4,5],sites:=[4,10]},{aV:=[4]})],fF:=nK [(3,zt.E)]}
theorem anq:zt.RS:=rL [.n,.d (.slice tB),.d ti,.d ti,.d tB,.d tB] zt
theorem QC{R:Type}(bL t13 t14 t15 n4 n10)(kn:K2 R)(kx:K3 R):Tv.R 0 zt (bL,t13,t14,t15,n4,n10) kn kx=aJ ((gr t15 t14)) (aJ (ed t15 (t13.length:Int)) (al (VP.call (bL,(((ag (nth tB t13 (ae t15))):Nat):Int),n10)) λx1=>aJ (decide (x1.1<=(ag x1.2))) (aJ (db (x1.1+(ag (nth tB t13 (ae t15)))) 1) (kn (zt.st ((x1.1+(ag (nth tB t13 (ae t15)))),t13,t14,(bI .i64 t15 1),n4,((aR x1.1 x1.2)++(nth tB t13 (ae t15)))))) none) none) none) (zt.go kx (n4,(bL,n10))):=b8
theorem aLj{R:Type}(name parts)(k:K1 R):Tv.A (name,parts) k=al (aav.call (((ByteArray.size name):Nat):Int)) λx1=>aJ (decide (x1.1<=(ag x1.2))) (aJ (db (x1.1+(ag (bH name))) 1) (al (zt.call ((x1.1+(ag (bH name))),parts,(parts.length:Int),0,(ab 32 0),((aR x1.1 x1.2)++(bH name)))) λx4=>aJ (decide (0=0/\(0+x4.2.1)<=(ag x4.2.2))) (al (Ef.call (cut x4.2.2 0 x4.2.1)) λx5=>k (Tv.out x5)) none) none) none:=b8
theorem ahh(p:List Int)(ps:List (List Int)):oP (p::ps)=jr p.length++p++oP ps:=by simp[oP]
theorem ahi(ps:List (List Int))(k:Nat)(h:k < ps.length):oP (ps.drop k)=jr ps[k].length++ps[k]++oP (ps.drop (k+1)):=by rw[aq h,ahh]
theorem asc:(Tv.kM 0 zt):=by
 refine(Tv.mf 0 zt) (λ(m,ps,n,i,n4,l)=>ps.length - i.toNat) ?_
 rintro⟨m,ps,n,i,n4,l⟩ ⟨rfl,rfl,Pd,k,hk,rfl,hl⟩;have hl:l.length+(oP (ps.drop k)).length<=140737488350000:=hl;have hk:k<=ps.length:=hk;have e2:ae (k:Int)=k:=ak;have e3:ae ((k+1:Nat):Int)=k+1:=ak;by_cases h:k < ps.length
 ·left;have ht:=ahi ps k h;have hlen:(oP (ps.drop k)).length=8+ps[k].length+(oP (ps.drop (k+1))).length:=by rw[ht];simp only[ai,cn]
  have hn:nth (.slice (.int .u8)) ps k=ps[k]:=cd (t:= .slice (.int .u8)) h;have Pd:ps.length<=140737488350000:=Pd;have e1:bI .i64 (k:Int) 1=((k+1:Nat):Int):=by rw[fZ ak ak];omega
  refine⟨((l++jr ps[k].length++ps[k]).length,ps,(ps.length:Int),((k+1:Nat):Int),n4,l++jr ps[k].length++ps[k]),⟨rfl,rfl,Pd,k+1,by show k+1<=ps.length;omega,rfl,?_⟩,?_,?_,λkn kx=> ?_⟩
  ·show(l++jr ps[k].length++ps[k]).length+(oP (ps.drop (k+1))).length<=_;simp only[ai,cn];omega
  ·show ps.length - ae ((k+1:Nat):Int) < ps.length - ae (k:Int);omega
  ·simp only[Cm,KG,e2,e3,ht,aF];simp only[ai,cn,eP]
  ·have p1:TN (l.length,(ps[k].length:Int),l):=⟨rfl,by show l.length<=_;omega⟩;rw[QC,aU ak,bj ak ak,e1,e2];simp only[aj,hn,agn p1,ah,bu,X8];have aJy:(l++jr ps[k].length).length=l.length+8:=by simp[cn]
   rw[aJy,aM (ax _),EN ak];simp only[aj];rw[aY (by rw[aJy];omega)];simp only[ai,cn,eP]
 ·right;obtain rfl:k=ps.length:=ak;intro R kn kx;rw[QC,aQ ak];simp only[ao,Cm,KG,e2,aL];simp[oP]
theorem acW:∀ps:List (List Int),8*ps.length<=(oP ps).length
 |[]=>by simp[oP]
 |p::ps=>by rw[ahh];have:=acW ps;simp only[ai,cn,aA];omega
theorem lv(s:ByteArray):(bH s).length=s.size:=by simp only[bH,bV,cK];rfl
theorem aLk:Tv.Ok:=by
 rintro⟨name,ps⟩ hp;have hp:(jr (bH name).length++bH name++oP ps).length<=140737488350000:=hp;have hl:(jr (bH name).length++bH name++oP ps).length=8+(bH name).length+(oP ps).length:=by simp only[ai,cn]
 have Pd:=acW ps;have tW:((name.size:Nat):Int)=(((bH name).length:Nat):Int):=by rw[lv]
 rw[aLj,azk (d:=((name.size:Nat):Int)) trivial,tW];simp only[ah,bu,av3,cn,ax,cv,aj];rw[EN ak,aY (by rw[cn];omega)];have p2:VD (8+(bH name).length,ps,(ps.length:Int),0,ab 32 0,jr ((bH name).length:Int)++bH name):=by refine⟨by simp only[ai,cn],rfl,by show ps.length<=_;omega,0,aK _,rfl,?_⟩;rw[aD];simp only[ai,cn];omega
 simp only[aj,anq p2,ah,Cm,KG,aX,aD];have ayR:cut (jr ((bH name).length:Int)++bH name++oP ps) 0 ((jr ((bH name).length:Int)++bH name).length+(oP ps).length)=UA (bH name) ps:=by unfold cut;rw[aD,aY (by simp only[ai];omega)];rfl
 have p3:anp (UA (bH name) ps):=hp;rw[aM ⟨trivial,by simp only[ai];omega⟩,ayR];simp only[aj,aFm p3,ah,bu,ar7,bu,ai6,tag]
theorem QE:Tv.RS:=rE [.d .str,.d (.slice tB)] Tv
def XZ:=Tv.eU aLk 1 ⟨.fv asc,trivial⟩
def ag3:(Int×Int)->Prop:=λ(x,n)=>0<=x/\x < 4294967296/\0<=n/\n<=32
def aMw:(Int×Int)->Int:=λ(x,n)=>vw (v7 (bh 32 x) n.toNat)
def pQ:Fs Tryz.prog ag3 bu aMw:=eN 222 Tryz.f222 (λ(x,n)=>([.d (.int .u32) x,.d ti n],[])) (λx=>⟨.d (.int .u32) x,[],[]⟩) [some (.int .u32),some ti]
theorem aHT{R:Type}(x n)(k:K1 R):pQ.A (x,n) k=aJ (mK n) (aJ (mK (cR .i64 32 n)) (k (pQ.out (cG .or .u32 (cz .u32 x n) (mI .u32 x (cR .i64 32 n))))) none) none:=b8
theorem aHU:pQ.Ok:=by
 rintro⟨x,n⟩ ⟨h1,h2,h3,h4⟩;obtain⟨n,rfl⟩:=Int.eq_ofNat_of_zero_le h3;have hx:x=vw (bh 32 x):=by rw[hZ];have h1:0<=x:=h1;have h2:x < 4294967296:=h2;omega
 have h4:(n:Int)<=32:=h4;rw[aHT];simp(disch:=omega) only[↓S1,↓if_pos,↓if_neg,if_pos,if_neg,bG,bt,S2];have e2:cG .or .u32 (cz .u32 x (n:Int)) (mI .u32 x ((32 - n:Nat):Int))=vw (v7 (bh 32 x) n):=by
  conv=>lhs;rw[hx]
  rw[QJ,Iw,qo];simp only[v7,aa];rw[BitVec.or_comm]
 rw[e2];rfl
theorem aAV:pQ.RS:=rE [.d (.int .u32),.d ti] pQ
def apg:=pQ.eU aHU
theorem By(w:W){k:Int}(h:0<=k/\k<=32):pQ.call (vw w,k)=some (vw (v7 w k.toNat)):=by have h:ag3 (vw w,k):=⟨UI w,by have:=aIV w;simpa using this,h.1,h.2⟩;rw[aAV h];show some (vw (v7 (bh 32 (vw w)) k.toNat))=_;rw[uV]
def ao3:Unit->Prop:=λ_=>True
def agS:Unit->(List Int):=λ_=>sZ.l
def Gq:Fs Tryz.prog ao3 bu agS:=eN 189 Tryz.f189 (λ_=>([],[])) (λx=>⟨.d (.slice (.int .u32)) x,[],[]⟩) [] [] {bJ:=[1],res:=[some (.slice (.int .u32))]}
theorem atB{R:Type}(d)(k:K1 R):Gq.A d k=k (Gq.out [1779033703,3144134277,1013904242,2773480762,1359893119,2600822924,528734635,1541459225]):=b8
theorem atC:Gq.Ok:=by intro d _;rw[atB];rfl
theorem ao4:Gq.RS:=rE [] Gq
def atD:=Gq.eU atC
def aAx:Unit->Prop:=λ_=>True
def awu:Unit->(List Int):=λ_=>TJ
def ab1:Fs Tryz.prog aAx bu awu:=eN 221 Tryz.f221 (λ_=>([],[])) (λx=>⟨.d (.slice (.int .u32)) x,[],[]⟩) [] [] {bJ:=[1],res:=[some (.slice (.int .u32))]}
theorem aHi{R:Type}(d)(k:K1 R):ab1.A d k=k (ab1.out [1116352408,1899447441,3049323471,3921009573,961987163,1508970993,2453635748,2870763221,3624381080,310598401,607225278,1426881987,1925078388,2162078206,2614888103,3248222580,3835390401,4022224774,264347078,604807628,770255983,1249150122,1555081692,1996064986,2554220882,2821834349,2952996808,3210313671,3336571891,3584528711,113926993,338241895,666307205,773529912,1294757372,1396182291,1695183700,1986661051,2177026350,2456956037,2730485921,2820302411,3259730800,3345764771,3516065817,3600352804,4094571909,275423344,430227734,506948616,659060556,883997877,958139571,1322822218,1537002063,1747873779,1955562222,2024104815,2227730452,2361852424,2428436474,2756734187,3204031479,3329325298]):=b8
theorem aHj:ab1.Ok:=by intro d _;rw[aHi];rfl
theorem aAy:ab1.RS:=rE [] ab1
def aHk:=ab1.eU aHj
abbrev Gt:=Bs×Nat×(List Int)
abbrev RC:=Nat×(List Int)
def uZ:Gt->RC->((Bs)×(Nat×(List Int))):=λ(iR,outL,n6) y=>(iR,y)
abbrev RD:=Nat×Int×Int×(List Int)
def Js:Gt->Prop:=λ(b,m,l)=>m=l.length/\l.length+zc l.length<=140737488355328
def zQ:Gt->RC:=λ(b,m,l)=>(l.length+zc l.length,l++ab (zc l.length) 0)
def Jt:RD->Prop:=λ(m,n,kv,l)=>0<=n/\n < 18446744073709551616/\∃j:Nat,j<=8/\kv=56 - 8*(j:Int)/\m=l.length/\l.length<=140737488355320+j
def zR:RD->(Nat×(List Int)):=λ(m,n,kv,l)=>(l.length+(jr n).length - (7 - (kv / 8)).toNat,l++(jr n).drop (7 - (kv / 8)).toNat)
def Ww:Bs->Prop:=λb=>b.length<=140737488350000
def Uf:Bs->Bs:=λb=>pad b
def nM:Ls Js uZ zQ:=rp (λ(iR,outL,n6)=>⟨([.d tB iR,bF,bF,om 6 outL]++aP 31 []),[],(bM 6 ([dK (.vec 5 tb n6)]++bM 28 []))⟩) (λx=>(.exit 0,⟨([.d tB x.1,bF,bF,om 6 x.2.1]++aP 31 []),[],(bM 6 ([dK (.vec 5 tb x.2.2)]++bM 28 []))⟩))
def nN:Ls Jt bu zR:=rp (λ(IQ,n,kv,azB)=>⟨([bF,bF,bF,om 6 IQ,.d tu n,.d ti kv]++aP 29 []),[],(bM 6 ([dK (.vec 5 tb azB)]++bM 28 []))⟩) (λx=>(.exit 2,⟨([bF,bF,bF,om 6 x.1]++aP 31 []),[],(bM 6 ([dK (.vec 5 tb x.2)]++bM 28 []))⟩))
def qK:Fs Tryz.prog Ww bu Uf:=eN 188 Tryz.f188 (λb=>([.d tB b],[])) (λx=>⟨.d tB x,[],[]⟩) [some tB] [] {bJ:=[6],loops:=nY [(3,{aV:=[0,3],sites:=[6],owns:=[⟨3,[],6,127⟩]}),(7,{aV:=[3,4,5],sites:=[6],owns:=[⟨3,[],6,127⟩]})],outs:=nX [(3,{aV:=[0,3],sites:=[6]},{aV:=[2]}),(7,{aV:=[3],sites:=[6]},{aV:=[2]})],fF:=nK [(3,nM.E),(7,nN.E)],res:=[some tB]}
theorem acn:nM.RS:=rL [.d tB,.n,.d tB] nM
theorem Hk{R:Type}(iR outL n6)(kn:K2 R)(kx:K3 R):qK.R 0 nM (iR,outL,n6) kn kx=aJ ((A7 (mS ((outL:Nat):Int) 64) 56)) (aJ (decide (outL<=(ag n6))) (aJ (db (outL+1) 1) (kn (nM.st (iR,(outL+1),((aR outL n6)++ [0])))) none) none) (nM.go kx (iR,(outL,n6))):=b8
theorem aco:nN.RS:=rL [.n,.d tu,.d ti,.d tB] nN
theorem Hl{R:Type}(IQ n kv azB)(kn:K2 R)(kx:K3 R):qK.R 1 nN (IQ,n,kv,azB) kn kx=aJ ((Cn kv 0)) (aJ (mK kv) (aJ (decide (IQ<=(ag azB))) (aJ (db (IQ+1) 1) (kn (nN.st ((IQ+1),n,(cR .i64 kv 8),((aR IQ azB)++ [(dX .u8 (cz .u64 n kv))])))) none) none) none) (nN.go kx (IQ,azB)):=b8
theorem atK{R:Type}(b)(k:K1 R):qK.A b k=aJ (db (0+(ag b)) 1) (aJ (decide ((0+(ag b))<=(ag ((aR 0 (ab 0 0))++b)))) (aJ (db ((0+(ag b))+1) 1) (al (nM.call (b,((0+(ag b))+1),((aR (0+(ag b)) ((aR 0 (ab 0 0))++b))++ [128]))) λx1=>al (nN.call (x1.2.1,(gB .u64 8 (dX .u64 (x1.1.length:Int))),56,x1.2.2)) λx2=>aJ (decide (0=0/\(0+x2.1)<=(ag x2.2))) (k (qK.out (cut x2.2 0 x2.1))) none) none) none) none:=b8
theorem aeE:(qK.kM 0 nM):=by
 refine(qK.mf 0 nM) (λ(b,m,l)=>zc l.length) ?_
 rintro⟨b,m,l⟩ ⟨rfl,hl⟩;have hl:l.length+zc l.length<=140737488355328:=hl;by_cases h:l.length%64=56
 ·right;intro R kn kx;have hz:zc l.length=0:=by unfold zc;omega
  rw[Hk];simp(disch:=omega) only[↓S1,↓if_pos,↓if_neg,if_pos,if_neg,bG,bt,S2,uZ,zQ,hz,cq,List.replicate_zero,aZ]
 ·left;have hz:zc l.length=zc (l.length+1)+1:=by unfold zc;omega
  refine⟨(b,l.length+1,l++ [0]),⟨by simp,by simp only[ai,aA,ba,aO];omega⟩,by simp only[ai,aA,ba,aO];omega,?_,λkn kx=> ?_⟩
  ·simp only[uZ,zQ,ai,aA,ba,aO,hz,aF,iW,aT,List.replicate_succ];rw[show l.length+1+zc (l.length+1)=l.length+(zc (l.length+1)+1) by omega]
  ·rw[Hk];simp(disch:=omega) only[↓S1,↓if_pos,↓if_neg,if_pos,if_neg,bG,bt,S2,bK]
theorem alF(n:Int)(j:Nat)(h:j < 8):(jr n).drop j=n / 2^(56 - 8*j)%256::(jr n).drop (j+1):=by rcases(by omega:j=0\/j=1\/j=2\/j=3\/j=4\/j=5\/j=6\/j=7) with rfl | rfl | rfl | rfl | rfl | rfl | rfl | rfl <;> simp[jr]
theorem adu(n:Int)(k:Nat)(h1:k<=64):dX .u8 (cz .u64 n (k:Int))=n / 2^k%256:=by
 rw[Tz,hZ,cz];have e:min (k:Int).toNat IntKind.u64.bits=k:=by simp only[IntKind.bits];omega
 rw[e,km _ (Int.le_of_lt (Int.pow_pos ak))];rfl
theorem aeF:(qK.kM 1 nN):=by
 refine(qK.mf 1 nN) (λ(m,n,kv,l)=>(kv+8).toNat) ?_
 rintro⟨m,n,kv,l⟩ ⟨h1,h2,j,hj,rfl,rfl,hl⟩;have hl:l.length<=140737488355320+j:=hl;have e1:(7 - ((56 - 8*(j:Int)) / 8)).toNat=j:=ak;by_cases h:j < 8
 ·left;have e2:cR .i64 (56 - 8*(j:Int)) 8=56 - 8*((j+1:Nat):Int):=by rw[eL ak ak];omega
  have e3:(7 - ((56 - 8*((j+1:Nat):Int)) / 8)).toNat=j+1:=ak;have e4:(56 - 8*(j:Int))=((56 - 8*j:Nat):Int):=ak;refine⟨(l.length+1,n,56 - 8*((j+1:Nat):Int),l++ [n / 2^(56 - 8*j)%256]),⟨h1,h2,j+1,ak,rfl,by simp,by simp only[ai,aA,ba];omega⟩,by simp only;omega,?_,λkn kx=> ?_⟩
  ·simp only[bu,zR,e1,e3,alF n j h,ai,aA,ba,aF,iW,aT,cn];rw[show l.length+(0+1)+8 - (j+1)=l.length+8 - j by omega]
  ·rw[Hl,e2,e4,adu n _ ak];simp(disch:=omega) only[↓S1,↓if_pos,↓if_neg,if_pos,if_neg,bG,bt,S2,bK]
 ·right;obtain rfl:j=8:=ak;intro R kn kx;rw[Hl];simp(disch:=omega) only[↓S1,↓if_pos,↓if_neg,if_pos,if_neg,bG,bt,S2,bu,zR,e1];simp[jr]
theorem atL:qK.Ok:=by
 intro b hb;have hb:b.length<=140737488350000:=hb;have hz:zc (b++ [128]).length=Bn b.length:=by simp only[ai,aA,ba,zc,Bn];omega
 have aXI:Bn b.length < 64:=by unfold Bn;omega
 have p1:Js (b,b.length+1,b++ [128]):=⟨by simp,by rw[hz];simp only[ai,aA,ba] <;> omega⟩;have e1:dX .u64 ((b.length:Nat):Int)=((b.length:Nat):Int):=by rw[X0,hZ];omega
 have e2:gB .u64 8 ((b.length:Nat):Int)=8*(b.length:Int):=by unfold gB;rw[wrap_u64,hZ];omega
 have e3:aR b.length b=b:=bK;rw[atK];simp only[List.replicate_zero,List.take_nil,aT,aO,e1,e2,e3];simp(disch:=omega) only[↓S1,↓if_pos,↓if_neg,if_pos,if_neg,bG,bt,S2,acn p1,uZ,zQ,hz];have p2:Jt ((b++ [128]).length+Bn b.length,8*(b.length:Int),56,b++ [128]++ab (Bn b.length) 0):=by refine⟨ak,ak,0,ak,rfl,by simp only[ai,aA,ba,cg] <;> omega,?_⟩;simp only[ai,aA,ba,cg];omega
 simp(disch:=omega) only[↓S1,↓if_pos,↓if_neg,if_pos,if_neg,bG,bt,S2,e1,e2,aco p2,bu,zR];have e5:(7 - ((56:Int) / 8)).toNat=0:=by decide
 rw[e5,aD];have e6:(b++ [128]++ab (Bn b.length) 0).length+(jr (8*(b.length:Int))).length - 0=(b++ [128]++ab (Bn b.length) 0++jr (8*(b.length:Int))).length:=by rw[@ai _ _ (jr _)];omega
 rw[e6,if_pos (ax _)];unfold cut;rw[aD,bK];simp only[bu,Uf,pad,aF,iW,aT]
theorem apa:qK.RS:=rE [.d tB] qK
def atM:=qK.eU atL 2 ⟨.fv aeE,⟨.fv aeF,trivial⟩⟩
abbrev WA:=Bs×Nat×Int×(List Int)
abbrev WB:=Nat×Int×(List Int)
def MI:WA->Prop:=λ(b,m,i,l)=>64<=b.length/\∃k:Nat,k<=16/\i=k/\k=m/\l=wl ((words b).take k)
def Jw:WA->(Nat×(List Int)):=λ(b,m,i,l)=>(16,wl (words b))
def MJ:WB->Prop:=λ(m,i,l)=>∃ws:List W,16<=ws.length/\ws.length<=64/\l=wl ws/\m=ws.length/\i=(ws.length:Nat)
def CK:WB->(Nat×(List Int)):=λ(m,i,l)=>(64,wl (aJF (aIT l) (64 - l.length)))
def acw:Bs->Prop:=λb=>64<=b.length
def acv:Bs->(List Int):=λb=>wl (sched b)
def qL:Ls MI bu Jw:=rp (λ(iR,wL,i,n49)=>⟨([.d tB iR,bF,bF,om 49 wL,.d ti i]++aP 94 []),[],(bM 49 ([dK (.vec 231 (.int .u32) n49)]++bM 49 []))⟩) (λx=>(.exit 0,⟨([bF,bF,bF,om 49 x.1]++aP 95 []),[],(bM 49 ([dK (.vec 231 (.int .u32) x.2)]++bM 49 []))⟩))
def qM:Ls MJ bu CK:=rp (λ(XK,fM,vy)=>⟨([bF,bF,bF,om 49 XK,bF,.d ti fM]++aP 93 []),[],(bM 49 ([dK (.vec 231 (.int .u32) vy)]++bM 49 []))⟩) (λx=>(.exit 2,⟨([bF,bF,bF,om 49 x.1]++aP 95 []),[],(bM 49 ([dK (.vec 231 (.int .u32) x.2)]++bM 49 []))⟩))
def v8:Fs Tryz.prog acw bu acv:=eN 220 Tryz.f220 (λb=>([.d tB b],[])) (λx=>⟨.d (.slice (.int .u32)) x,[],[]⟩) [some tB] [apg] {loops:=nY [(3,{aV:=[0,3,4],sites:=[49],owns:=[⟨3,[],49,248⟩]}),(7,{aV:=[3,5],sites:=[49],owns:=[⟨3,[],49,248⟩]})],outs:=nX [(3,{aV:=[3],sites:=[49]},{aV:=[2]}),(7,{aV:=[3],sites:=[49]},{aV:=[2]})],fF:=nK [(3,qL.E),(7,qM.E)],res:=[some (.slice (.int .u32))]}
theorem aeG:qL.RS:=rL [.d tB,.n,.d ti,.d (.slice (.int .u32))] qL
theorem Jx{R:Type}(iR wL i n49)(kn:K2 R)(kx:K3 R):v8.R 0 qL (iR,wL,i,n49) kn kx=aJ ((gr i 16)) (aJ (ed (gB .i64 4 i) (iR.length:Int)) (aJ (ed (bI .i64 (gB .i64 4 i) 1) (iR.length:Int)) (aJ (ed (bI .i64 (gB .i64 4 i) 2) (iR.length:Int)) (aJ (ed (bI .i64 (gB .i64 4 i) 3) (iR.length:Int)) (aJ (decide (wL<=(ag n49))) (aJ (db (wL+1) 4) (kn (qL.st (iR,(wL+1),(bI .i64 i 1),((aR wL n49)++ [(cG .or .u32 (cG .or .u32 (cG .or .u32 (mI .u32 (dX .u32 (nth tb iR (ae (gB .i64 4 i)))) 24) (mI .u32 (dX .u32 (nth tb iR (ae (bI .i64 (gB .i64 4 i) 1)))) 16)) (mI .u32 (dX .u32 (nth tb iR (ae (bI .i64 (gB .i64 4 i) 2)))) 8)) (dX .u32 (nth tb iR (ae (bI .i64 (gB .i64 4 i) 3)))))])))) none) none) none) none) none) none) (qL.go kx (wL,n49)):=b8
theorem aeH:qM.RS:=rL [.n,.d ti,.d (.slice (.int .u32))] qM
theorem Jy{R:Type}(XK fM vy)(kn:K2 R)(kx:K3 R):v8.R 1 qM (XK,fM,vy) kn kx=aJ ((gr fM 64)) (aJ (ed (cR .i64 fM 15) ((XK:Nat):Int)) (aJ (decide ((0+(ae (cR .i64 fM 15))) < (ag vy))) (aJ (decide ((((0+(ae (cR .i64 fM 15)))*1)+0)=(0+((ae (cR .i64 fM 15))*1)))) (aJ (ed (cR .i64 fM 2) ((XK:Nat):Int)) (aJ (decide ((0+(ae (cR .i64 fM 2))) < (ag vy))) (aJ (decide ((((0+(ae (cR .i64 fM 2)))*1)+0)=(0+((ae (cR .i64 fM 2))*1)))) (al (pQ.call ((nth (.int .u32) vy (0+(ae (cR .i64 fM 15)))),7)) λx1=>al (pQ.call ((nth (.int .u32) vy (0+(ae (cR .i64 fM 15)))),18)) λx2=>al (pQ.call ((nth (.int .u32) vy (0+(ae (cR .i64 fM 2)))),17)) λx3=>al (pQ.call ((nth (.int .u32) vy (0+(ae (cR .i64 fM 2)))),19)) λx4=>aJ (ed (cR .i64 fM 16) ((XK:Nat):Int)) (aJ (decide ((0+(ae (cR .i64 fM 16))) < (ag vy))) (aJ (decide ((((0+(ae (cR .i64 fM 16)))*1)+0)=(0+((ae (cR .i64 fM 16))*1)))) (aJ (ed (cR .i64 fM 7) ((XK:Nat):Int)) (aJ (decide ((0+(ae (cR .i64 fM 7))) < (ag vy))) (aJ (decide ((((0+(ae (cR .i64 fM 7)))*1)+0)=(0+((ae (cR .i64 fM 7))*1)))) (aJ (decide (XK<=(ag vy))) (aJ (db (XK+1) 4) (kn (qM.st ((XK+1),(bI .i64 fM 1),((aR XK vy)++ [(bI .u32 (bI .u32 (bI .u32 (nth (.int .u32) vy (0+(ae (cR .i64 fM 16)))) (cG .xor .u32 (cG .xor .u32 x1 x2) (cz .u32 (nth (.int .u32) vy (0+(ae (cR .i64 fM 15)))) 3))) (nth (.int .u32) vy (0+(ae (cR .i64 fM 7))))) (cG .xor .u32 (cG .xor .u32 x3 x4) (cz .u32 (nth (.int .u32) vy (0+(ae (cR .i64 fM 2)))) 10)))])))) none) none) none) none) none) none) none) none) none) none) none) none) none) none) (qM.go kx (XK,vy)):=b8
theorem aAY{R:Type}(b)(k:K1 R):v8.A b k=al (qL.call (b,0,0,([]:List Int))) λx1=>al (qM.call (x1.1,16,x1.2)) λak8=>aJ (decide (0=0/\(0+ak8.1)<=(ag ak8.2))) (k (v8.out (cut ak8.2 0 ak8.1))) none:=b8
theorem Ay(ws:List W):(wl ws).length=ws.length:=by simp[wl]
theorem awV(m:List W):∀n,aJF (ext m) n=aJF m (n+1)
 | 0=>rfl
 |n+1=>by rw[aJF,awV m n];rfl
theorem aOd(b:List Int)(k:Nat)(h:4*k+3 < b.length):be b k=aQ1 (nth (.int .u8) b (4*k)) (nth (.int .u8) b (4*k+1)) (nth (.int .u8) b (4*k+2)) (nth (.int .u8) b (4*k+3)):=rfl
theorem akg:(v8.kM 0 qL):=by
 refine(v8.mf 0 qL) (λ(b,m,i,l)=>16 - m) ?_
 rintro⟨b,m,i,l⟩ ⟨hb,k,hk,rfl,rfl,rfl⟩;have hb:64<=b.length:=hb;have hl:(wl ((words b).take k)).length=k:=by rw[Ay,bp,eZ];omega
 by_cases h:k < 16
 ·left;refine⟨(b,k+1,((k+1:Nat):Int),wl ((words b).take (k+1))),⟨hb,k+1,ak,rfl,rfl,rfl⟩,by simp only;omega,rfl,λkn kx=> ?_⟩;rw[Jx];simp(disch:=omega) only[↓S1,↓if_pos,↓if_neg,if_pos,if_neg,bG,bt,S2,hl,aY (ug hl)];rw[iv (by rw[eZ];exact h)];simp only[avQ,QJ,qo,wl,rY,bQ,iq];have e:(words b)[k]'(by rw[eZ];exact h)=be b k:=by simp[words]
  rw[e,aOd b k ak];rfl
 ·right;obtain rfl:k=16:=ak;intro R kn kx;rw[Jx];simp(disch:=omega) only[↓S1,↓if_pos,↓if_neg,if_pos,if_neg,bG,bt,S2,bu,Jw];rw[aY (by rw[eZ];omega)]
theorem akh:(v8.kM 1 qM):=by
 refine(v8.mf 1 qM) (λ(m,i,l)=>64 - m) ?_
 rintro⟨m,i,l⟩ ⟨ws,h1,h2,rfl,rfl,rfl⟩;have hl:=Ay ws;by_cases h:ws.length < 64
 ·left;refine⟨(ws.length+1,((ws.length+1:Nat):Int),wl (ext ws)),⟨ext ws,by rw[vG];omega,by rw[vG];omega,rfl,by rw[vG],by rw[vG]⟩,by simp only;omega,?_,λkn kx=> ?_⟩
  ·simp only[bu,CK,GO,Ay,vG];rw[awV,show 64 - (ws.length+1)+1=64 - ws.length by omega]
  ·rw[Jy];simp(disch:=omega) only[↓S1,↓if_pos,↓if_neg,if_pos,if_neg,bG,bt,S2,hl,aO,gT,cq,UM ws _ (by omega:ws.length - 15 < ws.length),UM ws _ (by omega:ws.length - 2 < ws.length),UM ws _ (by omega:ws.length - 16 < ws.length),UM ws _ (by omega:ws.length - 7 < ws.length),By,qo,Iw,Eg,aY (ug hl)];unfold ext wl;rw[rY];rfl
 ·right;have FM:ws.length=64:=ak;intro R kn kx;rw[Jy];simp(disch:=omega) only[↓S1,↓if_pos,↓if_neg,if_pos,if_neg,bG,bt,S2,bu,CK,hl,FM,GO,Nat.sub_self];rfl
theorem aAZ:v8.Ok:=by
 intro b hb;have p1:MI (b,0,0,[]):=⟨hb,0,ak,rfl,rfl,rfl⟩;have p2:MJ (16,16,wl (words b)):=⟨words b,by rw[eZ];omega,by rw[eZ];omega,rfl,by rw[eZ],by rw[eZ];rfl⟩;have hs:(sched b).length=64:=by unfold sched;rw[BU,eZ]
 rw[aAY];simp(disch:=omega) only[↓S1,↓if_pos,↓if_neg,if_pos,if_neg,bG,bt,S2,aeG p1,bu,Jw,aeH p2,bu,CK,GO,Ay,eZ,aO,Nat.reduceSub];have e:aJF (words b) 48=sched b:=rfl;rw[e,hs,if_pos (ax _)];unfold cut;rw[aD,aY (by rw[Ay];omega)];simp only[bu,acv]
theorem atS:v8.RS:=rE [.d tB] v8
def aA0:=v8.eU aAZ 2 ⟨.fv akg,⟨.fv akh,trivial⟩⟩
abbrev Jj:=(List Int)×(List Int)×(List Int)×Nat×Int×(List Int)
abbrev Wr:=Nat×(List Int)
def DC:Jj->Wr->(((List Int))×(Nat×(List Int))):=λ(Qu,wv,kv,vL,i,n18) y=>(Qu,y)
abbrev Jm:=(List Int)×Nat×Int×(List Int)
def wV:Jm->(List Int)->((Nat)×((List Int))):=λ(avL,akV,fM,Mi) y=>(akV,y)
def ME:Jj->Prop:=λ(h,wv,kv,m,i,l)=>∃(s:St) (ws:List W) (k:Nat),h=s.l/\wv=wl ws/\ws.length=64/\k<=64/\i=k/\kv=TJ/\m=8/\l=(rounds ws s k).l
def Jk:Jj->Wr:=λ(h,wv,kv,m,i,l)=>(8,(rounds (aIT wv) (akB h) 64).l)
def MF:Jm->Prop:=λ(h,m,i,l)=>h.length=8/\l.length=8/\m=8/\∃k:Nat,k<=8/\i=k
def CE:Jm->(List Int):=λ(h,m,i,l)=>from_ (λi x=>bI .u32 x (nth (.int .u32) h i)) i.toNat l
def ab4:((List Int)×Bs)->Prop:=λ(h,b)=>(∃s:St,h=s.l)/\64<=b.length
def ab3:((List Int)×Bs)->(List Int):=λ(h,b)=>(TQ (akB h) b).l
def oC:Ls ME DC Jk:=rp (λ(Qu,wv,kv,vL,i,n18)=>⟨([.d (.slice (.int .u32)) Qu]++aP 4 ([.d (.slice (.int .u32)) wv,.d (.slice (.int .u32)) kv,om 18 vL,.d ti i]++aP 146 [])),[],(bM 18 ([dK (.vec 231 (.int .u32) n18)]++bM 136 []))⟩) (λx=>(.exit 0,⟨([.d (.slice (.int .u32)) x.1]++aP 6 ([om 18 x.2.1]++aP 147 [])),[],(bM 18 ([dK (.vec 231 (.int .u32) x.2.2)]++bM 136 []))⟩))
def qJ:Ls MF wV CE:=rp (λ(avL,akV,fM,Mi)=>⟨([.d (.slice (.int .u32)) avL]++aP 6 ([om 18 akV]++aP 6 ([.d ti fM]++aP 140 []))),[],(bM 18 ([dK (.vec 231 (.int .u32) Mi)]++bM 136 []))⟩) (λx=>(.exit 2,⟨(aP 7 ([om 18 x.1]++aP 147 [])),[],(bM 18 ([dK (.vec 231 (.int .u32) x.2)]++bM 136 []))⟩))
def vX:Fs Tryz.prog ab4 bu ab3:=eN 190 Tryz.f190 (λ(h,b)=>([.d (.slice (.int .u32)) h,.d tB b],[])) (λx=>⟨.d (.slice (.int .u32)) x,[],[]⟩) [some (.slice (.int .u32)),some tB] [aA0,aHk,apg] {bJ:=[18,137],loops:=nY [(5,{aV:=[0,5,6,7,8],sites:=[18,137],owns:=[⟨7,[],18,0⟩]}),(14,{aV:=[0,7,14],sites:=[18]})],outs:=nX [(5,{aV:=[0,7],sites:=[18]},{aV:=[4]}),(14,{aV:=[7],sites:=[18]},{aV:=[4]})],fF:=nK [(5,oC.E),(14,qJ.E)],res:=[some (.slice (.int .u32))]}
theorem aeA:oC.RS:=rL [.d (.slice (.int .u32)),.d (.slice (.int .u32)),.d (.slice (.int .u32)),.n,.d ti,.d (.slice (.int .u32))] oC
theorem Jl{R:Type}(Qu wv kv vL i n18)(kn:K2 R)(kx:K3 R):vX.R 0 oC (Qu,wv,kv,vL,i,n18) kn kx=aJ ((gr i 64)) (aJ (ed 4 ((vL:Nat):Int)) (aJ (decide (4 < (ag n18))) (al (pQ.call ((nth (.int .u32) n18 4),6)) λx1=>aJ (ed 4 ((vL:Nat):Int)) (aJ (decide (4 < (ag n18))) (al (pQ.call ((nth (.int .u32) n18 4),11)) λx2=>aJ (ed 4 ((vL:Nat):Int)) (aJ (decide (4 < (ag n18))) (al (pQ.call ((nth (.int .u32) n18 4),25)) λx3=>aJ (ed 4 ((vL:Nat):Int)) (aJ (decide (4 < (ag n18))) (aJ (ed 5 ((vL:Nat):Int)) (aJ (decide (5 < (ag n18))) (aJ (ed 4 ((vL:Nat):Int)) (aJ (decide (4 < (ag n18))) (aJ (ed 6 ((vL:Nat):Int)) (aJ (decide (6 < (ag n18))) (aJ (ed 7 ((vL:Nat):Int)) (aJ (decide (7 < (ag n18))) (aJ (ed i (kv.length:Int)) (aJ (ed i (wv.length:Int)) (aJ (ed 0 ((vL:Nat):Int)) (aJ (decide (0 < (ag n18))) (al (pQ.call ((nth (.int .u32) n18 0),2)) λx4=>aJ (ed 0 ((vL:Nat):Int)) (aJ (decide (0 < (ag n18))) (al (pQ.call ((nth (.int .u32) n18 0),13)) λx5=>aJ (ed 0 ((vL:Nat):Int)) (aJ (decide (0 < (ag n18))) (al (pQ.call ((nth (.int .u32) n18 0),22)) λx6=>aJ (ed 0 ((vL:Nat):Int)) (aJ (decide (0 < (ag n18))) (aJ (ed 1 ((vL:Nat):Int)) (aJ (decide (1 < (ag n18))) (aJ (ed 0 ((vL:Nat):Int)) (aJ (decide (0 < (ag n18))) (aJ (ed 2 ((vL:Nat):Int)) (aJ (decide (2 < (ag n18))) (aJ (ed 1 ((vL:Nat):Int)) (aJ (decide (1 < (ag n18))) (aJ (ed 2 ((vL:Nat):Int)) (aJ (decide (2 < (ag n18))) (aJ (ed 0 ((vL:Nat):Int)) (aJ (decide (0 < (ag n18))) (aJ (ed 1 ((vL:Nat):Int)) (aJ (decide (1 < (ag n18))) (aJ (ed 2 ((vL:Nat):Int)) (aJ (decide (2 < (ag n18))) (aJ (ed 3 ((vL:Nat):Int)) (aJ (decide (3 < (ag n18))) (aJ (ed 4 ((vL:Nat):Int)) (aJ (decide (4 < (ag n18))) (aJ (ed 5 ((vL:Nat):Int)) (aJ (decide (5 < (ag n18))) (aJ (ed 6 ((vL:Nat):Int)) (aJ (decide (6 < (ag n18))) (kn (oC.st (Qu,wv,kv,8,(bI .i64 i 1),[(bI .u32 (bI .u32 (bI .u32 (bI .u32 (bI .u32 (bI .u32 (nth (.int .u32) n18 7) (cG .xor .u32 (cG .xor .u32 x1 x2) x3)) (cG .xor .u32 (cG .and .u32 (nth (.int .u32) n18 4) (nth (.int .u32) n18 5)) (cG .and .u32 (aLy .u32 (nth (.int .u32) n18 4)) (nth (.int .u32) n18 6)))) (nth (.int .u32) kv (ae i))) (nth (.int .u32) wv (ae i))) (cG .xor .u32 (cG .xor .u32 x4 x5) x6)) (cG .xor .u32 (cG .xor .u32 (cG .and .u32 (nth (.int .u32) n18 0) (nth (.int .u32) n18 1)) (cG .and .u32 (nth (.int .u32) n18 0) (nth (.int .u32) n18 2))) (cG .and .u32 (nth (.int .u32) n18 1) (nth (.int .u32) n18 2)))),(nth (.int .u32) n18 0),(nth (.int .u32) n18 1),(nth (.int .u32) n18 2),(bI .u32 (nth (.int .u32) n18 3) (bI .u32 (bI .u32 (bI .u32 (bI .u32 (nth (.int .u32) n18 7) (cG .xor .u32 (cG .xor .u32 x1 x2) x3)) (cG .xor .u32 (cG .and .u32 (nth (.int .u32) n18 4) (nth (.int .u32) n18 5)) (cG .and .u32 (aLy .u32 (nth (.int .u32) n18 4)) (nth (.int .u32) n18 6)))) (nth (.int .u32) kv (ae i))) (nth (.int .u32) wv (ae i)))),(nth (.int .u32) n18 4),(nth (.int .u32) n18 5),(nth (.int .u32) n18 6)]))) none) none) none) none) none) none) none) none) none) none) none) none) none) none) none) none) none) none) none) none) none) none) none) none) none) none) none) none) none) none) none) none) none) none) none) none) none) none) none) none) none) none) none) none) none) none) none) none) none) none) (oC.go kx (Qu,(vL,n18))):=b8
theorem aeB:qJ.RS:=rL [.d (.slice (.int .u32)),.n,.d ti,.d (.slice (.int .u32))] qJ
theorem Jn{R:Type}(avL akV fM Mi)(kn:K2 R)(kx:K3 R):vX.R 1 qJ (avL,akV,fM,Mi) kn kx=aJ ((gr fM 8)) (aJ (ed fM ((akV:Nat):Int)) (aJ (decide ((0+(ae fM)) < (ag Mi))) (aJ (decide ((((0+(ae fM))*1)+0)=(0+((ae fM)*1)))) (aJ (ed fM (avL.length:Int)) (aJ (ed fM ((akV:Nat):Int)) (aJ (decide ((0+(ae fM)) < (ag Mi))) (aJ (decide ((((0+(ae fM))*1)+0)=(0+((ae fM)*1)))) (aJ (decide ((0+(ae fM)) < (ag Mi))) (kn (qJ.st (avL,akV,(bI .i64 fM 1),(fX Mi (0+(ae fM)) (bI .u32 (nth (.int .u32) Mi (0+(ae fM))) (nth (.int .u32) avL (ae fM))))))) none) none) none) none) none) none) none) none) (qJ.go kx (akV,Mi)):=b8
theorem aAz{R:Type}(h b)(k:K1 R):vX.A (h,b) k=al (v8.call b) λx1=>al (ab1.call ()) λx2=>aJ (db (0+(ag h)) 4) (al (oC.call (h,x1,x2,(0+(ag h)),0,((aR 0 (ab 0 0))++h))) λaU3=>al (qJ.call (aU3.1,aU3.2.1,0,aU3.2.2)) λafd=>aJ (decide (0=0/\(0+afd.1)<=(ag afd.2))) (k (vX.out (cut afd.2 0 afd.1))) none) none:=b8
theorem aFF(w:W):aLy .u32 (vw w)=vw (~~~w):=by have e:(if IntKind.u32.signed then -1 else IntKind.u32.max:Int)=vw (BitVec.allOnes 32):=rfl;unfold aLy;rw[e,qo];simp only[BitVec.allOnes_xor]
theorem aQ4(e f g:W):(e &&& f)^^^(~~~e &&& g)=g^^^(e &&& (f^^^g)):=by
 ext i hi
 simp only[BitVec.getElem_xor,BitVec.getElem_and,BitVec.getElem_not];cases e[i] <;> cases f[i] <;> cases g[i] <;> rfl
theorem aPt(a b c:W):(a &&& b)^^^(a &&& c)^^^(b &&& c)=(a &&& b) ||| (c &&& (a ||| b)):=by
 ext i hi
 simp only[BitVec.getElem_xor,BitVec.getElem_and,BitVec.getElem_or];cases a[i] <;> cases b[i] <;> cases c[i] <;> rfl
theorem aj9:(vX.kM 0 oC):=by
 refine(vX.mf 0 oC) (λ(h,wv,kv,m,i,l)=>64 - i.toNat) ?_
 rintro⟨h,wv,kv,m,i,l⟩ ⟨s,ws,k,rfl,rfl,hw,hk,rfl,rfl,rfl,rfl⟩;by_cases gQ:k < 64
 ·left;refine⟨(s.l,wl ws,TJ,8,((k+1:Nat):Int),(rounds ws s (k+1)).l),⟨s,ws,k+1,rfl,rfl,hw,ak,rfl,rfl,rfl,rfl⟩,by simp only;omega,rfl,λkn kx=> ?_⟩;rw[Jl];generalize hv:rounds ws s k=v;have t1:∀w:W,pQ.call (vw w,6)=some (vw (v7 w 6)):=λw=>By w ak
  have t2:∀w:W,pQ.call (vw w,11)=some (vw (v7 w 11)):=λw=>By w ak
  have t3:∀w:W,pQ.call (vw w,25)=some (vw (v7 w 25)):=λw=>By w ak
  have t4:∀w:W,pQ.call (vw w,2)=some (vw (v7 w 2)):=λw=>By w ak
  have t5:∀w:W,pQ.call (vw w,13)=some (vw (v7 w 13)):=λw=>By w ak
  have t6:∀w:W,pQ.call (vw w,22)=some (vw (v7 w 22)):=λw=>By w ak
  rw[n0,n1,n2,n3,n4,n5,n6,n7,t1,ah,t2,ah,t3,ah,t4,ah,t5,ah,t6,ah];simp(disch:=omega) only[↓S1,↓if_pos,↓if_neg,if_pos,if_neg,bG,bt,S2,St.anG,VK,Ay,hw,anF k gQ,UM ws k ak,qo,Eg,aFF,aQ4,aPt];show kn _=kn (oC.st (s.l,wl ws,TJ,8,((k+1:Nat):Int),(mf (rounds ws s k) (kw k) (ws.getD k 0)).l));rw[hv];rfl
 ·right;obtain rfl:k=64:=ak;intro R kn kx;rw[Jl];simp(disch:=omega) only[↓S1,↓if_pos,↓if_neg,if_pos,if_neg,bG,bt,S2,DC,Jk,GO,oI]
theorem aka:(vX.kM 1 qJ):=by
 refine(vX.mf 1 qJ) (λ(h,m,i,l)=>8 - i.toNat) ?_
 rintro⟨h,m,i,l⟩ ⟨hh,hl,rfl,k,hk,rfl⟩;have hl:l.length=8:=hl;have hh:h.length=8:=hh;by_cases gQ:k < 8
 ·left;have hn:nth (.int .u32) l k=l[k]:=cd (t:= .int .u32) ak;refine⟨(h,8,((k+1:Nat):Int),l.set k (bI .u32 l[k] (nth (.int .u32) h k))),⟨hh,by simpa using hl,rfl,k+1,ak,rfl⟩,by simp only;omega,?_,λkn kx=> ?_⟩
  ·simp only[wV,CE,aa];rw[KA (λi x=>bI .u32 x (nth (.int .u32) h i)) l k ak]
  ·rw[Jn];simp(disch:=omega) only[↓S1,↓if_pos,↓if_neg,if_pos,if_neg,bG,bt,S2,hl,hh,aO,gT,cq,hn]
 ·right;obtain rfl:k=8:=ak;intro R kn kx;rw[Jn];simp(disch:=omega) only[↓S1,↓if_pos,↓if_neg,if_pos,if_neg,bG,bt,S2,wV,CE];rw[Qs _ _ _ ak]
theorem aPu(s:St)(b:List Int):from_ (λi x=>bI .u32 x (nth (.int .u32) s.l i)) 0 (rounds (sched b) s 64).l=(TQ s b).l:=by unfold TQ;generalize rounds (sched b) s 64=v;obtain⟨a1,b1,c1,d1,f1,g1,h1,i1⟩:=v;simp only[St.l,from_,List.mapIdx_cons,List.mapIdx_nil,Nat.not_lt_zero,bt,aO,Nat.reduceAdd];simp only[nth,jz,rb,Eg]
theorem aAA:vX.Ok:=by
 rintro⟨h,b⟩ ⟨⟨s,rfl⟩,hb⟩;have p0:acw b:=hb;have avP:(sched b).length=64:=by unfold sched;rw[BU,eZ]
 have p1:ME (s.l,wl (sched b),TJ,8,0,s.l):=⟨s,sched b,0,rfl,rfl,avP,ak,rfl,rfl,rfl,rfl⟩;have p2:MF (s.l,8,0,(rounds (sched b) s 64).l):=⟨rfl,rfl,rfl,0,ak,rfl⟩;have e0:0+s.l.length=8:=rfl;have e1:aR 0 (ab 0 (0:Int))++s.l=s.l:=rfl;rw[aAz];simp(disch:=omega) only[↓S1,↓if_pos,↓if_neg,if_pos,if_neg,bG,bt,S2,atS p0,bu,acv,aAy (d:=()) trivial,bu,awu,e0,e1,aeA p1,DC,Jk,GO,oI,aeB p2,wV,CE,aX,aPu];have e2:(TQ s b).l.length=8:=rfl;have e3:cut (TQ s b).l 0 8=(TQ s b).l:=rfl;simp only[e2,aO,ax,bG,e3,bu,ab3,oI]
theorem atu:vX.RS:=rE [.d (.slice (.int .u32)),.d tB] vX
def aAB:=vX.eU aAA 2 ⟨.fv aj9,⟨.fv aka,trivial⟩⟩
abbrev Uh:=Bs×(List Int)×Int×Bs
def CH:Uh->(List Int)->((Bs)×((List Int))):=λ(p,h,i,n2) y=>(n2,y)
abbrev Ui:=(List Int)×Int×Bs×Bs
def CI:Ui->Bs->((Bs)×(Bs)):=λ(Qu,fM,kQ,n6) y=>(kQ,y)
def Wx:Uh->Prop:=λ(p,h,i,n2)=>p.length%64=0/\p.length<=140737488355328/\∃(s:St) (k:Nat),h=s.l/\i=((64*k:Nat):Int)/\64*k<=p.length
def KV:Uh->(List Int):=λ(p,h,i,n2)=>(blocks (akB h) (p.drop i.toNat)).l
def Wy:Ui->Prop:=λ(h,i,n2,l)=>h.length=8/\l.length=32/\∃k:Nat,k<=32/\i=k
def KX:Ui->Bs:=λ(h,i,n2,l)=>from_ (Ly h) i.toNat l
def apd:Bs->Prop:=λb=>b.length<=140737488350000
def aPR:Bs->Bs:=λb=>aPU b
def zS:Ls Wx CH KV:=rp (λ(p,h,i,n2)=>⟨([bF,bF,eT 2,.d tB p,.d (.slice (.int .u32)) h,.d ti i]++aP 36 []),[],([[],[],dK (.d tH n2)]++bM 39 [])⟩) (λx=>(.exit 0,⟨([bF,bF,eT 2,bF,.d (.slice (.int .u32)) x.2]++aP 37 []),[],([[],[],dK (.d tH x.1)]++bM 39 [])⟩))
def zT:Ls Wy CI KX:=rp (λ(Qu,fM,kQ,n6)=>⟨([bF,bF,eT 2,bF,.d (.slice (.int .u32)) Qu,bF,eT 6,.d ti fM]++aP 34 []),[],([[],[],dK (.d tH kQ),[],[],[],dK (.d tH n6)]++bM 35 [])⟩) (λx=>(.exit 2,⟨([bF,bF,eT 2,bF,bF,bF,eT 6]++aP 35 []),[],([[],[],dK (.d tH x.1),[],[],[],dK (.d tH x.2)]++bM 35 [])⟩))
def Ug:Fs Tryz.prog apd bu aPR:=eN 148 Tryz.f148 (λb=>([.d tB b],[])) (λx=>⟨.d tH x,[],[]⟩) [some tB] [atM,atD,aAB] {loops:=nY [(4,{aV:=[2,3,4,5],sites:=[2]}),(9,{aV:=[2,4,6,7],sites:=[2,6]})],outs:=nX [(4,{aV:=[2,4],sites:=[2]},{aV:=[2]}),(9,{aV:=[2,6],sites:=[2,6]},{aV:=[2]})],fF:=nK [(4,zS.E),(9,zT.E)]}
theorem apb:zS.RS:=rL [.d tB,.d (.slice (.int .u32)),.d ti,.d tB] zS
theorem RE{R:Type}(p h i n2)(kn:K2 R)(kx:K3 R):Ug.R 0 zS (p,h,i,n2) kn kx=aJ ((gr i (p.length:Int))) (aJ (inc (bI .i64 i 64) (p.length:Int)) (aJ (inc i (((ae (bI .i64 i 64)):Nat):Int)) (al (vX.call (h,(cut p (ae i) ((ae (bI .i64 i 64)) - (ae i))))) λx1=>kn (zS.st (p,x1,(bI .i64 i 64),n2))) none) none) (zS.go kx (n2,h)):=b8
theorem apc:zT.RS:=rL [.d (.slice (.int .u32)),.d ti,.d tB,.d tB] zT
theorem RF{R:Type}(Qu fM kQ n6)(kn:K2 R)(kx:K3 R):Ug.R 1 zT (Qu,fM,kQ,n6) kn kx=aJ ((gr fM 32)) (aJ (ed (tX .i64 fM 4) (Qu.length:Int)) (aJ (mK (cR .i64 24 (gB .i64 8 (mS fM 4)))) (aJ (ed fM 32) (aJ (decide ((ae fM) < (ag n6))) (aJ (decide ((((ae fM)*1)+0)=(0+((ae fM)*1)))) (aJ (decide ((ae fM) < (ag n6))) (kn (zT.st (Qu,(bI .i64 fM 1),kQ,(fX n6 (ae fM) (dX .u8 (cz .u32 (nth (.int .u32) Qu (ae (tX .i64 fM 4))) (cR .i64 24 (gB .i64 8 (mS fM 4))))))))) none) none) none) none) none) none) (zT.go kx (kQ,n6)):=b8
theorem aMr{R:Type}(b)(k:K1 R):Ug.A b k=al (qK.call b) λx1=>al (Gq.call ()) λx2=>al (zS.call (x1,x2,0,(ab 32 0))) λx4=>al (zT.call (x4.2,0,x4.1,(ab 32 0))) λx5=>k (Ug.out x5.2):=b8
theorem atN:(Ug.kM 0 zS):=by
 refine(Ug.mf 0 zS) (λ(p,h,i,n2)=>p.length - i.toNat) ?_
 rintro⟨p,h,i,n2⟩ ⟨hm,hb,s,k,rfl,rfl,hk⟩;have hm:p.length%64=0:=hm;have hb:p.length<=140737488355328:=hb;have hk:64*k<=p.length:=hk;by_cases gQ:64*k < p.length
 ·left;have e1:cut p (64*k) (64*k+64 - 64*k)=(p.drop (64*k)).take 64:=by unfold cut;rw[show 64*k+64 - 64*k=64 by omega]
  have e2:(p.drop (64*k)).drop 64=p.drop (64*(k+1)):=by rw[fU];congr 1
  have e3:(64*(k+1):Nat)=64*k+64:=ak;have p1:ab4 (s.l,(p.drop (64*k)).take 64):=⟨⟨s,rfl⟩,by simp;omega⟩;refine⟨(p,(TQ s ((p.drop (64*k)).take 64)).l,((64*(k+1):Nat):Int),n2),⟨hm,hb,_,k+1,rfl,rfl,ak⟩,by simp only[aa];omega,?_,λkn kx=> ?_⟩
  ·simp only[CH,KV,oI,aa];rw[HY s (p.drop (64*k)) (by simp;omega),e2]
  ·rw[RE];simp(disch:=omega) only[↓S1,↓if_pos,↓if_neg,if_pos,if_neg,bG,bt,S2,e1,atu p1,bu,ab3,oI,e3]
 ·right;intro R kn kx;rw[RE];simp(disch:=omega) only[↓S1,↓if_pos,↓if_neg,if_pos,if_neg,bG,bt,S2,CH,KV,oI];rw[E6 s _ (by simp;omega)]
theorem atO:(Ug.kM 1 zT):=by
 refine(Ug.mf 1 zT) (λ(h,i,n2,l)=>32 - i.toNat) ?_
 rintro⟨h,i,n2,l⟩ ⟨h8,hl,k,hk,rfl⟩;have hl:l.length=32:=hl;have h8:h.length=8:=h8;by_cases gQ:k < 32
 ·left;refine⟨(h,((k+1:Nat):Int),n2,l.set k (Ly h k l[k])),⟨h8,by simpa using hl,k+1,ak,rfl⟩,by simp only[aa];omega,?_,λkn kx=> ?_⟩
  ·simp only[CI,KX,aa];rw[KA (Ly h) l k ak]
  ·rw[RF];simp(disch:=omega) only[↓S1,↓if_pos,↓if_neg,if_pos,if_neg,bG,bt,S2,hl,h8,gT,cq,aO,Ly]
 ·right;obtain rfl:k=32:=ak;intro R kn kx;rw[RF];simp(disch:=omega) only[↓S1,↓if_pos,↓if_neg,if_pos,if_neg,bG,bt,S2,CI,KX];rw[Qs _ _ _ ak]
theorem asR(b:List Int):(pad b).length%64=0/\(pad b).length<=b.length+73:=by unfold pad;simp only[ai,aA,cg,cn,Bn];omega
theorem aMs:Ug.Ok:=by intro b hb;have hb:b.length<=140737488350000:=hb;have p1:Ww b:=hb;obtain⟨h1,h2⟩:=asR b;have p2:Wx (pad b,sZ.l,0,ab 32 0):=⟨h1,ak,sZ,0,rfl,rfl,ak⟩;have p3:Wy ((blocks sZ (pad b)).l,0,ab 32 0,ab 32 0):=⟨rfl,rfl,0,ak,rfl⟩;rw[aMr];simp(disch:=omega) only[↓S1,↓if_pos,↓if_neg,if_pos,if_neg,bG,bt,S2,apa p1,bu,Uf,ao4 (d:=()) trivial,bu,agS,apb p2,CH,KV,oI,aX,aD,apc p3,CI,KX,awk];rfl
theorem aHO:Ug.RS:=rE [.d tB] Ug
def aMt:=Ug.eU aMs 2 ⟨.fv atN,⟨.fv atO,trivial⟩⟩
def aAN:Int->Prop:=λn=>0<=n/\n < 18446744073709551616
def aMl:Int->(Nat×(List Int)):=λn=>(8,jr n)
def Rx:Fs Tryz.prog aAN bu aMl:=eN 147 Tryz.f147 (λn=>([.d tu n],[])) (λx=>⟨.bA (.new 0 0) 0 [] 0 0 x.1,[],[.obj 0 false (.vec 5 tb x.2)]⟩) [some tu] [] {loops:=nY [(3,{aV:=[0,3,4],sites:=[15]})],outs:=nX [(3,{aV:=[3],sites:=[15]},{aV:=[2],sites:=[15]})],owns:=[⟨2,[],15,127⟩]} 10
theorem aHA{R:Type}(n)(k:K1 R):Rx.A n k=k (Rx.out (8,[(dX .u8 (cz .u64 n 56)),(dX .u8 (cz .u64 n 48)),(dX .u8 (cz .u64 n 40)),(dX .u8 (cz .u64 n 32)),(dX .u8 (cz .u64 n 24)),(dX .u8 (cz .u64 n 16)),(dX .u8 (cz .u64 n 8)),(dX .u8 (cz .u64 n 0))])):=b8
theorem aHB:Rx.Ok:=by
 intro n _;have e:∀k:Nat,k<=64->dX .u8 (cz .u64 n (k:Int))=n / 2^k%256:=λk hk=>adu n k hk
 rw[aHA];have e56:dX .u8 (cz .u64 n 56)=n / 2^56%256:=e 56 ak;have e48:dX .u8 (cz .u64 n 48)=n / 2^48%256:=e 48 ak;have e40:dX .u8 (cz .u64 n 40)=n / 2^40%256:=e 40 ak;have e32:dX .u8 (cz .u64 n 32)=n / 2^32%256:=e 32 ak;have e24:dX .u8 (cz .u64 n 24)=n / 2^24%256:=e 24 ak;have e16:dX .u8 (cz .u64 n 16)=n / 2^16%256:=e 16 ak;have e8:dX .u8 (cz .u64 n 8)=n / 2^8%256:=e 8 ak;have e0:=e 0 ak;rw[e56,e48,e40,e32,e24,e16,e8];have e0:dX .u8 (cz .u64 n 0)=n%256:=by rw[show(0:Int)=((0:Nat):Int) from rfl,e0];simp
 rw[e0];rfl
theorem aAO:Rx.RS:=rE [.d tu] Rx
def aHC:=Rx.eU aHB 1 ⟨.none b8,trivial⟩
abbrev Uj:=(List Bs)×Nat×Int×Bs×(List Int)
abbrev ag2:=Nat×(List Int)
def CJ:Uj->ag2->((Bs)×(Nat×(List Int))):=λ(sj,bL,i,n4,n11) y=>(n4,y)
abbrev aHP:=ByteArray×(List Bs)
def Wz:Uj->Prop:=λ(ps,m,i,n4,l)=>m=l.length/\∃k:Nat,k<=ps.length/\ps.length<=140737488350000/\i=k/\l.length+(oP (ps.drop k)).length<=140737488350000
def KY:Uj->ag2:=λ(ps,m,i,n4,l)=>(l.length+(oP (ps.drop i.toNat)).length,l++oP (ps.drop i.toNat))
def aHQ:aHP->Prop:=λ(name,ps)=>(UA (bH name) ps).length<=140737488350000
def aPS:aHP->Bs:=λ(name,ps)=>tag (bH name) ps
def zU:Ls Wz CJ KY:=rp (λ(sj,bL,i,n4,n11)=>⟨([bF,.d (.slice tB) sj,bF,bF,eT 4,om 11 bL,.d ti i]++aP 32 []),[],(bM 4 ([dK (.d tH n4)]++bM 6 ([dK (.vec 5 tb n11)]++bM 27 [])))⟩) (λx=>(.exit 0,⟨(aP 4 ([eT 4,om 11 x.2.1]++aP 33 [])),[],(bM 4 ([dK (.d tH x.1)]++bM 6 ([dK (.vec 5 tb x.2.2)]++bM 27 [])))⟩))
def acp:Fs Tryz.prog aHQ bu aPS:=eN 96 Tryz.f96 (λ(name,parts)=>([.d .str name,.d (.slice tB) parts],[])) (λx=>⟨.d tH x,[],[]⟩) [some .str,some (.slice tB)] [aHC,aMt] {loops:=nY [(3,{aV:=[1,4,5,6],sites:=[4,11],owns:=[⟨5,[],11,127⟩]})],outs:=nX [(3,{aV:=[4,5],sites:=[4,11]},{aV:=[4]})],fF:=nK [(3,zU.E)]}
theorem ape:zU.RS:=rL [.d (.slice tB),.n,.d ti,.d tB,.d tB] zU
theorem RG{R:Type}(sj bL i n4 n11)(kn:K2 R)(kx:K3 R):acp.R 0 zU (sj,bL,i,n4,n11) kn kx=aJ ((gr i (sj.length:Int))) (aJ (ed i (sj.length:Int)) (al (Rx.call (dX .u64 (((ag (nth tB sj (ae i))):Nat):Int))) λx1=>aJ (decide (0=0/\(0+x1.1)<=(ag x1.2))) (aJ (decide (bL<=(ag n11))) (aJ (db (bL+(ag (cut x1.2 0 x1.1))) 1) (aJ (ed i (sj.length:Int)) (aJ (decide ((bL+(ag (cut x1.2 0 x1.1)))<=(ag ((aR bL n11)++(cut x1.2 0 x1.1))))) (aJ (db ((bL+(ag (cut x1.2 0 x1.1)))+(ag (nth tB sj (ae i)))) 1) (kn (zU.st (sj,((bL+(ag (cut x1.2 0 x1.1)))+(ag (nth tB sj (ae i)))),(bI .i64 i 1),n4,((aR (bL+(ag (cut x1.2 0 x1.1))) ((aR bL n11)++(cut x1.2 0 x1.1)))++(nth tB sj (ae i)))))) none) none) none) none) none) none) none) (zU.go kx (n4,(bL,n11))):=b8
theorem aMu{R:Type}(name parts)(k:K1 R):acp.A (name,parts) k=al (Rx.call (dX .u64 (((ByteArray.size name):Nat):Int))) λx1=>aJ (decide (x1.1<=(ag x1.2))) (aJ (db (x1.1+(ag (bH name))) 1) (al (zU.call (parts,(x1.1+(ag (bH name))),0,(ab 32 0),((aR x1.1 x1.2)++(bH name)))) λx4=>aJ (decide (0=0/\(0+x4.2.1)<=(ag x4.2.2))) (al (Ug.call (cut x4.2.2 0 x4.2.1)) λx5=>k (acp.out x5)) none) none) none:=b8
theorem awM{n:Nat}(h:n < 18446744073709551616):dX .u64 ((n:Nat):Int)=n:=by rw[X0,hZ];omega
theorem ao5{n:Nat}(h:n < 18446744073709551616):Rx.call (n:Int)=some (8,jr (n:Int)):=aAO (d:=(n:Int)) (show 0<=(n:Int)/\(n:Int) < 18446744073709551616 from⟨ak,ak⟩)
theorem aQ6{l:List Int}{n:Nat}(h:l.length=n):cut l 0 n=l:=by unfold cut;rw[aD,aY ak]
theorem atP:(acp.kM 0 zU):=by
 refine(acp.mf 0 zU) (λ(ps,m,i,n4,l)=>ps.length - i.toNat) ?_
 rintro⟨ps,m,i,n4,l⟩ ⟨rfl,k,hk,Pd,rfl,hl⟩;have hk:k<=ps.length:=hk;have Pd:ps.length<=140737488350000:=Pd;have hl:l.length+(oP (ps.drop k)).length<=140737488350000:=hl;by_cases h:k < ps.length
 ·left;have ht:=ahi ps k h;have hlen:(oP (ps.drop k)).length=8+ps[k].length+(oP (ps.drop (k+1))).length:=by rw[ht];simp only[ai,cn]
  have hn:nth (.slice (.int .u8)) ps k=ps[k]:=cd (t:= .slice (.int .u8)) h;have aJy:(l++jr (ps[k].length:Int)).length=l.length+8:=by simp[cn]
  refine⟨(ps,(l++jr ps[k].length++ps[k]).length,((k+1:Nat):Int),n4,l++jr ps[k].length++ps[k]),⟨rfl,k+1,ak,Pd,rfl,?_⟩,by simp only[aa];omega,?_,λkn kx=> ?_⟩
  ·simp only[ai,cn];omega
  ·simp only[CJ,KY,aa,ht,aF];simp only[ai,cn,eP]
  ·have c8:cut (jr (ps[k].length:Int)) 0 8=jr (ps[k].length:Int):=aQ6 (cn _);have FM:ps[k].length < 18446744073709551616:=ak;rw[RG];simp(disch:=omega) only[↓S1,↓if_pos,↓if_neg,if_pos,if_neg,bG,bt,S2,hn,awM FM,ao5 FM,cn,c8,bK,aJy,aO,ax,jl,bG];rw[aY (by rw[aJy];omega)];simp only[ai,cn,eP]
 ·right;obtain rfl:k=ps.length:=ak;intro R kn kx;rw[RG];simp(disch:=omega) only[↓S1,↓if_pos,↓if_neg,if_pos,if_neg,bG,bt,S2,CJ,KY,aL];simp[oP]
theorem aMv:acp.Ok:=by
 rintro⟨name,ps⟩ hp;have hp:(jr (bH name).length++bH name++oP ps).length<=140737488350000:=hp;have hl:(jr (bH name).length++bH name++oP ps).length=8+(bH name).length+(oP ps).length:=by simp only[ai,cn]
 have Pd:=acW ps;have tW:name.size=(bH name).length:=by rw[lv]
 have FM:(bH name).length < 18446744073709551616:=ak;have p2:Wz (ps,8+(bH name).length,0,ab 32 0,jr ((bH name).length:Int)++bH name):=by refine⟨by simp only[ai,cn],0,aK _,ak,rfl,?_⟩;rw[aD];simp only[ai,cn];omega
 rw[aMu,tW];simp(disch:=omega) only[↓S1,↓if_pos,↓if_neg,if_pos,if_neg,bG,bt,S2,awM FM,ao5 FM,cn,aY (ug (cn _)),ape p2,CJ,KY,aX,aD,aO];have ayR:cut (jr ((bH name).length:Int)++bH name++oP ps) 0 ((jr ((bH name).length:Int)++bH name).length+(oP ps).length)=UA (bH name) ps:=aQ6 (by simp only[ai]);have p3:apd (UA (bH name) ps):=hp;rw[if_pos (by simp only[ai];omega),ayR,aHO p3];rfl
theorem apf:acp.RS:=rE [.d .str,.d (.slice tB)] acp
def awB:=acp.eU aMv 1 ⟨.fv atP,trivial⟩
theorem Sh{n:Int}(h1:0<=n)(h2:n < 18446744073709551616):IntKind.u64.wrap n=n:=by rw[wrap_u64,hZ];omega
theorem Sf(n:Int):IntKind.u64.wrap n=n%18446744073709551616:=by rw[wrap_u64,hZ];rfl
theorem uK(x y:Int):bI .u64 x y=(x+y)%18446744073709551616:=Sf _
theorem X3(x y:Int):cR .u64 x y=(x - y)%18446744073709551616:=Sf _
theorem zu(x y:Int):gB .u64 x y=(x*y)%18446744073709551616:=Sf _
theorem aFt(x:Int):dX .u64 x=x%18446744073709551616:=Sf _
theorem alw{x:Int}(h:0<=x)(h2:x < 18446744073709551616):cG .and .u64 x 4294967295=x%4294967296:=by
 obtain⟨n,rfl⟩:∃n:Nat,x=n:=⟨x.toNat,ak⟩;have e:(bh 64 (n:Int) &&& bh 64 4294967295).toNat=n%4294967296:=by
  rw[BitVec.toNat_and];have a:(bh 64 (n:Int)).toNat=n:=by rw[jj,kj];omega
  have b:(bh 64 4294967295).toNat=2^32 - 1:=by decide
  rw[a,b,Nat.and_two_pow_sub_one_eq_mod]
 show IntKind.u64.wrap ((bh 64 (n:Int) &&& bh 64 4294967295).toNat:Int)=_;rw[e,Sh ak ak];omega
theorem aTm{x:Int}(h:0<=x)(h2:x < 18446744073709551616):cG .and .u64 x 1=x%2:=by
 obtain⟨n,rfl⟩:∃n:Nat,x=n:=⟨x.toNat,ak⟩;have e:(bh 64 (n:Int) &&& bh 64 1).toNat=n%2:=by
  rw[BitVec.toNat_and];have a:(bh 64 (n:Int)).toNat=n:=by rw[jj,kj];omega
  have b:(bh 64 1).toNat=2^1 - 1:=by decide
  rw[a,b,Nat.and_two_pow_sub_one_eq_mod]
 show IntKind.u64.wrap ((bh 64 (n:Int) &&& bh 64 1).toNat:Int)=_;rw[e,Sh ak ak];omega
theorem wZ{x k:Int}(n:Nat)(hk:k=n)(hn:n<=64):cz .u64 x k=x / 2^n:=by
 subst hk;rw[cz];have e:min (ae (n:Int)) IntKind.u64.bits=n:=by simp only[IntKind.bits];omega
 rw[e,km _ (Int.le_of_lt (Int.pow_pos ak))]
theorem wY{x k:Int}(n:Nat)(hk:k=n)(hn:n<=64):mI .u64 x k=x*2^n%18446744073709551616:=by
 subst hk;rw[mI,Sf];have e:min (ae (n:Int)) IntKind.u64.bits=n:=by simp only[IntKind.bits];omega
 rw[e]
theorem Q7{x y:Int}(k:Nat)(m:Int)(hm:m=2^k)(hx:x%m=0)(h0:0<=x)(h1:x < 18446744073709551616)(hy:0<=y)(aQI:y < m)(h2:x+y < 18446744073709551616):cG .or .u64 x y=x+y:=by
 subst hm;obtain⟨n,rfl⟩:∃n:Nat,x=n:=⟨x.toNat,ak⟩;obtain⟨j,rfl⟩:∃j:Nat,y=j:=⟨y.toNat,ak⟩;have hx:n%2^k=0:=by
  have:((n%2^k:Nat):Int)=0:=by rw[qd];simpa using hx
  omega
 have hj:j < 2^k:=by
  have:((j:Nat):Int) < ((2^k:Nat):Int):=by simpa using aQI
  omega
 obtain⟨q,rfl⟩:∃q,n=2^k*q:=⟨n / 2^k,by have:=Nat.div_add_mod n (2^k);omega⟩;have e:(bh 64 ((2^k*q:Nat):Int) ||| bh 64 (j:Int)).toNat=2^k*q+j:=by
  rw[BitVec.toNat_or];have a:(bh 64 ((2^k*q:Nat):Int)).toNat=2^k*q:=by rw[jj,kj];exact kc ak
  have b:(bh 64 (j:Int)).toNat=j:=by rw[jj,kj];exact kc ak
  rw[a,b,Nat.two_pow_add_eq_or_of_lt hj]
 show IntKind.u64.wrap ((bh 64 ((2^k*q:Nat):Int) ||| bh 64 (j:Int)).toNat:Int)=_;rw[e,Sh ak ak];omega
theorem ajd{x y:Int}(h:0<=x)(h1:0<=y)(h2:x < 18446744073709551616):tX .u64 x y=x / y:=by rw[tX,ko h];exact Sh (Int.ediv_nonneg h h1) (Int.lt_of_le_of_lt (Int.ediv_le_self _ h) h2)
theorem wC{x y:Int}(h:0<=x):mS x y=x%y:=by rw[mS,il h]
theorem k1{e u w r q:Int}(he:e=42260\/e=42264\/e=42272)(hu:0<=u)(ale:u < 18446744073709551616 - e)(hw:0<=w)(ase:w < 4294967296)(hr:0<=r)(ad3:r < 4294967296)
  (hq:q*4294967295+r=u) (hQ:(u*4294967296+w) / (18446744073709551616 - e)<=q):
  (4294967296<=q->(u*4294967296+w) / (18446744073709551616 - e)<=q - 1)/\
  (q < 4294967296->4294967296*r+w < q*(4294967296 - e)->(u*4294967296+w) / (18446744073709551616 - e)<=q - 1)/\
  (q < 4294967296->q*(4294967296 - e)<=4294967296*r+w->(u*4294967296+w) / (18446744073709551616 - e)=q)/\
  (4294967296<=r+4294967295->(u*4294967296+w) / (18446744073709551616 - e)<=q - 1->(u*4294967296+w) / (18446744073709551616 - e)=q - 1)/\0<=(u*4294967296+w) / (18446744073709551616 - e)/\q<=4294967297:=by
 rcases he with rfl | rfl | rfl
 ·refine⟨?_,?_,?_,?_,?_,?_⟩ <;> omega
 ·refine⟨?_,?_,?_,?_,?_,?_⟩ <;> omega
 ·refine⟨?_,?_,?_,?_,?_,?_⟩ <;> omega
theorem k0{e u w:Int}(he:e=42260\/e=42264\/e=42272)(hu:0<=u)(ale:u < 18446744073709551616 - e)(hw:0<=w)(ase:w < 4294967296):
  (u*4294967296+w) / (18446744073709551616 - e)<=u / 4294967295/\0<=u - u / 4294967295*4294967295/\u - u / 4294967295*4294967295 < 4294967296/\
  (u*4294967296+w) - (u*4294967296+w) / (18446744073709551616 - e)*(18446744073709551616 - e)=(u*4294967296+w)%(18446744073709551616 - e)/\
  0<=(u*4294967296+w)%(18446744073709551616 - e)/\(u*4294967296+w)%(18446744073709551616 - e) < 18446744073709551616 - e/\
  0<=(u*4294967296+w) / (18446744073709551616 - e)/\(u*4294967296+w) / (18446744073709551616 - e) < 4294967296:=by
 rcases he with rfl | rfl | rfl
 ·refine⟨?_,?_,?_,?_,?_,?_,?_,?_⟩ <;> omega
 ·refine⟨?_,?_,?_,?_,?_,?_,?_,?_⟩ <;> omega
 ·refine⟨?_,?_,?_,?_,?_,?_,?_,?_⟩ <;> omega
theorem kd(Y u w1 w0:Int)(hY:0 < Y)(h0:0<=w0)(h1:w0 < 4294967296):
  ((u*4294967296+w1)*4294967296+w0) / Y=(u*4294967296+w1) / Y*4294967296+((u*4294967296+w1)%Y*4294967296+w0) / Y/\
  ((u*4294967296+w1)*4294967296+w0)%Y=((u*4294967296+w1)%Y*4294967296+w0)%Y:=by
 generalize u*4294967296+w1=n;have e:n*4294967296+w0=(n%Y*4294967296+w0)+Y*(n / Y*4294967296):=by
  have:=Int.emod_add_mul_ediv n Y;have h:Y*(n / Y*4294967296)=(Y*(n / Y))*4294967296:=by rw[rq]
  rw[h];omega
 rw[e,Int.add_mul_ediv_left _ _ ak,Int.add_mul_emod_self_left];exact⟨ak,rfl⟩
def aQK(y:Int):Prop:=y=4611686018427377339\/y=2305843009213688669\/y=2305843009213688668
def aze:Int->Prop:=aQK
def aLF:Int->Int:=λy=>if y=4611686018427377339 then 62 else 61
def Cs:Fs Tryz.prog aze bu aLF:=eN 208 Tryz.f208 (λx=>([.d tu x],[])) (λx=>⟨.d ti x,[],[]⟩) [some tu]
theorem aFS{R:Type}(x)(k:K1 R):Cs.A x k=aJ ((Cn x 4294967296)) (aJ ((Cn (cz .u64 x 32) 65536)) (aJ ((Cn (cz .u64 (cz .u64 x 32) 16) 256)) (aJ (ed (dX .u8 (cz .u64 (cz .u64 (cz .u64 x 32) 16) 8)) 256) (k (Cs.out (bI .i64 56 (dX .i64 (apx (⟨#[0,1,2,2,3,3,3,3,4,4,4,4,4,4,4,4,5,5,5,5,5,5,5,5,5,5,5,5,5,5,5,5,6,6,6,6,6,6,6,6,6,6,6,6,6,6,6,6,6,6,6,6,6,6,6,6,6,6,6,6,6,6,6,6,7,7,7,7,7,7,7,7,7,7,7,7,7,7,7,7,7,7,7,7,7,7,7,7,7,7,7,7,7,7,7,7,7,7,7,7,7,7,7,7,7,7,7,7,7,7,7,7,7,7,7,7,7,7,7,7,7,7,7,7,7,7,7,7,8,8,8,8,8,8,8,8,8,8,8,8,8,8,8,8,8,8,8,8,8,8,8,8,8,8,8,8,8,8,8,8,8,8,8,8,8,8,8,8,8,8,8,8,8,8,8,8,8,8,8,8,8,8,8,8,8,8,8,8,8,8,8,8,8,8,8,8,8,8,8,8,8,8,8,8,8,8,8,8,8,8,8,8,8,8,8,8,8,8,8,8,8,8,8,8,8,8,8,8,8,8,8,8,8,8,8,8,8,8,8,8,8,8,8,8,8,8,8,8,8,8,8,8,8,8,8,8]⟩:ByteArray) (dX .u8 (cz .u64 (cz .u64 (cz .u64 x 32) 16) 8))))))) none) (aJ (ed (dX .u8 (cz .u64 (cz .u64 x 32) 16)) 256) (k (Cs.out (bI .i64 48 (dX .i64 (apx (⟨#[0,1,2,2,3,3,3,3,4,4,4,4,4,4,4,4,5,5,5,5,5,5,5,5,5,5,5,5,5,5,5,5,6,6,6,6,6,6,6,6,6,6,6,6,6,6,6,6,6,6,6,6,6,6,6,6,6,6,6,6,6,6,6,6,7,7,7,7,7,7,7,7,7,7,7,7,7,7,7,7,7,7,7,7,7,7,7,7,7,7,7,7,7,7,7,7,7,7,7,7,7,7,7,7,7,7,7,7,7,7,7,7,7,7,7,7,7,7,7,7,7,7,7,7,7,7,7,7,8,8,8,8,8,8,8,8,8,8,8,8,8,8,8,8,8,8,8,8,8,8,8,8,8,8,8,8,8,8,8,8,8,8,8,8,8,8,8,8,8,8,8,8,8,8,8,8,8,8,8,8,8,8,8,8,8,8,8,8,8,8,8,8,8,8,8,8,8,8,8,8,8,8,8,8,8,8,8,8,8,8,8,8,8,8,8,8,8,8,8,8,8,8,8,8,8,8,8,8,8,8,8,8,8,8,8,8,8,8,8,8,8,8,8,8,8,8,8,8,8,8,8,8,8,8,8,8]⟩:ByteArray) (dX .u8 (cz .u64 (cz .u64 x 32) 16))))))) none)) (aJ ((Cn (cz .u64 x 32) 256)) (aJ (ed (dX .u8 (cz .u64 (cz .u64 x 32) 8)) 256) (k (Cs.out (bI .i64 40 (dX .i64 (apx (⟨#[0,1,2,2,3,3,3,3,4,4,4,4,4,4,4,4,5,5,5,5,5,5,5,5,5,5,5,5,5,5,5,5,6,6,6,6,6,6,6,6,6,6,6,6,6,6,6,6,6,6,6,6,6,6,6,6,6,6,6,6,6,6,6,6,7,7,7,7,7,7,7,7,7,7,7,7,7,7,7,7,7,7,7,7,7,7,7,7,7,7,7,7,7,7,7,7,7,7,7,7,7,7,7,7,7,7,7,7,7,7,7,7,7,7,7,7,7,7,7,7,7,7,7,7,7,7,7,7,8,8,8,8,8,8,8,8,8,8,8,8,8,8,8,8,8,8,8,8,8,8,8,8,8,8,8,8,8,8,8,8,8,8,8,8,8,8,8,8,8,8,8,8,8,8,8,8,8,8,8,8,8,8,8,8,8,8,8,8,8,8,8,8,8,8,8,8,8,8,8,8,8,8,8,8,8,8,8,8,8,8,8,8,8,8,8,8,8,8,8,8,8,8,8,8,8,8,8,8,8,8,8,8,8,8,8,8,8,8,8,8,8,8,8,8,8,8,8,8,8,8,8,8,8,8,8,8]⟩:ByteArray) (dX .u8 (cz .u64 (cz .u64 x 32) 8))))))) none) (aJ (ed (dX .u8 (cz .u64 x 32)) 256) (k (Cs.out (bI .i64 32 (dX .i64 (apx (⟨#[0,1,2,2,3,3,3,3,4,4,4,4,4,4,4,4,5,5,5,5,5,5,5,5,5,5,5,5,5,5,5,5,6,6,6,6,6,6,6,6,6,6,6,6,6,6,6,6,6,6,6,6,6,6,6,6,6,6,6,6,6,6,6,6,7,7,7,7,7,7,7,7,7,7,7,7,7,7,7,7,7,7,7,7,7,7,7,7,7,7,7,7,7,7,7,7,7,7,7,7,7,7,7,7,7,7,7,7,7,7,7,7,7,7,7,7,7,7,7,7,7,7,7,7,7,7,7,7,8,8,8,8,8,8,8,8,8,8,8,8,8,8,8,8,8,8,8,8,8,8,8,8,8,8,8,8,8,8,8,8,8,8,8,8,8,8,8,8,8,8,8,8,8,8,8,8,8,8,8,8,8,8,8,8,8,8,8,8,8,8,8,8,8,8,8,8,8,8,8,8,8,8,8,8,8,8,8,8,8,8,8,8,8,8,8,8,8,8,8,8,8,8,8,8,8,8,8,8,8,8,8,8,8,8,8,8,8,8,8,8,8,8,8,8,8,8,8,8,8,8,8,8,8,8,8,8]⟩:ByteArray) (dX .u8 (cz .u64 x 32))))))) none))) (aJ ((Cn x 65536)) (aJ ((Cn (cz .u64 x 16) 256)) (aJ (ed (dX .u8 (cz .u64 (cz .u64 x 16) 8)) 256) (k (Cs.out (bI .i64 24 (dX .i64 (apx (⟨#[0,1,2,2,3,3,3,3,4,4,4,4,4,4,4,4,5,5,5,5,5,5,5,5,5,5,5,5,5,5,5,5,6,6,6,6,6,6,6,6,6,6,6,6,6,6,6,6,6,6,6,6,6,6,6,6,6,6,6,6,6,6,6,6,7,7,7,7,7,7,7,7,7,7,7,7,7,7,7,7,7,7,7,7,7,7,7,7,7,7,7,7,7,7,7,7,7,7,7,7,7,7,7,7,7,7,7,7,7,7,7,7,7,7,7,7,7,7,7,7,7,7,7,7,7,7,7,7,8,8,8,8,8,8,8,8,8,8,8,8,8,8,8,8,8,8,8,8,8,8,8,8,8,8,8,8,8,8,8,8,8,8,8,8,8,8,8,8,8,8,8,8,8,8,8,8,8,8,8,8,8,8,8,8,8,8,8,8,8,8,8,8,8,8,8,8,8,8,8,8,8,8,8,8,8,8,8,8,8,8,8,8,8,8,8,8,8,8,8,8,8,8,8,8,8,8,8,8,8,8,8,8,8,8,8,8,8,8,8,8,8,8,8,8,8,8,8,8,8,8,8,8,8,8,8,8]⟩:ByteArray) (dX .u8 (cz .u64 (cz .u64 x 16) 8))))))) none) (aJ (ed (dX .u8 (cz .u64 x 16)) 256) (k (Cs.out (bI .i64 16 (dX .i64 (apx (⟨#[0,1,2,2,3,3,3,3,4,4,4,4,4,4,4,4,5,5,5,5,5,5,5,5,5,5,5,5,5,5,5,5,6,6,6,6,6,6,6,6,6,6,6,6,6,6,6,6,6,6,6,6,6,6,6,6,6,6,6,6,6,6,6,6,7,7,7,7,7,7,7,7,7,7,7,7,7,7,7,7,7,7,7,7,7,7,7,7,7,7,7,7,7,7,7,7,7,7,7,7,7,7,7,7,7,7,7,7,7,7,7,7,7,7,7,7,7,7,7,7,7,7,7,7,7,7,7,7,8,8,8,8,8,8,8,8,8,8,8,8,8,8,8,8,8,8,8,8,8,8,8,8,8,8,8,8,8,8,8,8,8,8,8,8,8,8,8,8,8,8,8,8,8,8,8,8,8,8,8,8,8,8,8,8,8,8,8,8,8,8,8,8,8,8,8,8,8,8,8,8,8,8,8,8,8,8,8,8,8,8,8,8,8,8,8,8,8,8,8,8,8,8,8,8,8,8,8,8,8,8,8,8,8,8,8,8,8,8,8,8,8,8,8,8,8,8,8,8,8,8,8,8,8,8,8,8]⟩:ByteArray) (dX .u8 (cz .u64 x 16))))))) none)) (aJ ((Cn x 256)) (aJ (ed (dX .u8 (cz .u64 x 8)) 256) (k (Cs.out (bI .i64 8 (dX .i64 (apx (⟨#[0,1,2,2,3,3,3,3,4,4,4,4,4,4,4,4,5,5,5,5,5,5,5,5,5,5,5,5,5,5,5,5,6,6,6,6,6,6,6,6,6,6,6,6,6,6,6,6,6,6,6,6,6,6,6,6,6,6,6,6,6,6,6,6,7,7,7,7,7,7,7,7,7,7,7,7,7,7,7,7,7,7,7,7,7,7,7,7,7,7,7,7,7,7,7,7,7,7,7,7,7,7,7,7,7,7,7,7,7,7,7,7,7,7,7,7,7,7,7,7,7,7,7,7,7,7,7,7,8,8,8,8,8,8,8,8,8,8,8,8,8,8,8,8,8,8,8,8,8,8,8,8,8,8,8,8,8,8,8,8,8,8,8,8,8,8,8,8,8,8,8,8,8,8,8,8,8,8,8,8,8,8,8,8,8,8,8,8,8,8,8,8,8,8,8,8,8,8,8,8,8,8,8,8,8,8,8,8,8,8,8,8,8,8,8,8,8,8,8,8,8,8,8,8,8,8,8,8,8,8,8,8,8,8,8,8,8,8,8,8,8,8,8,8,8,8,8,8,8,8,8,8,8,8,8,8]⟩:ByteArray) (dX .u8 (cz .u64 x 8))))))) none) (aJ (ed (dX .u8 x) 256) (k (Cs.out (bI .i64 0 (dX .i64 (apx (⟨#[0,1,2,2,3,3,3,3,4,4,4,4,4,4,4,4,5,5,5,5,5,5,5,5,5,5,5,5,5,5,5,5,6,6,6,6,6,6,6,6,6,6,6,6,6,6,6,6,6,6,6,6,6,6,6,6,6,6,6,6,6,6,6,6,7,7,7,7,7,7,7,7,7,7,7,7,7,7,7,7,7,7,7,7,7,7,7,7,7,7,7,7,7,7,7,7,7,7,7,7,7,7,7,7,7,7,7,7,7,7,7,7,7,7,7,7,7,7,7,7,7,7,7,7,7,7,7,7,8,8,8,8,8,8,8,8,8,8,8,8,8,8,8,8,8,8,8,8,8,8,8,8,8,8,8,8,8,8,8,8,8,8,8,8,8,8,8,8,8,8,8,8,8,8,8,8,8,8,8,8,8,8,8,8,8,8,8,8,8,8,8,8,8,8,8,8,8,8,8,8,8,8,8,8,8,8,8,8,8,8,8,8,8,8,8,8,8,8,8,8,8,8,8,8,8,8,8,8,8,8,8,8,8,8,8,8,8,8,8,8,8,8,8,8,8,8,8,8,8,8,8,8,8,8,8,8]⟩:ByteArray) (dX .u8 x)))))) none))):=b8
theorem aFT:Cs.Ok:=by intro y h;rw[aFS];obtain rfl | rfl | rfl:=h <;> kernel_rfl
theorem azf:Cs.RS:=rE [.d tu] Cs
def aFU:=Cs.eU aFT
def aGi:Int->Prop:=aQK
def aGh:Int->Int:=λy=>if y=4611686018427377339 then 2 else 3
def asA:Fs Tryz.prog aGi bu aGh:=eN 238 Tryz.f238 (λx=>([.d tu x],[])) (λx=>⟨.d ti x,[],[]⟩) [some tu] [aFU]
theorem aLM{R:Type}(x)(k:K1 R):asA.A x k=al (Cs.call x) λx1=>k (asA.out (cR .i64 64 x1)):=b8
theorem aLO:asA.Ok:=by intro y h;rw[aLM,azf (d:=y) h];obtain rfl | rfl | rfl:=h <;> rfl
theorem aGj:asA.RS:=rE [.d tu] asA
def aLP:=asA.eU aLO
abbrev NG:=Int×Int×Int×Int×Int×Int×Int×Int×Int
def Qd:NG->Int->((Int×Int×Int×Int×Int×Int×Int)×(Int)):=λ(aff,sv,yn1,yn0,un32,un1,un0,q1,rhat) y=>((aff,sv,yn1,yn0,un32,un1,un0),y)
abbrev NH:=Int×Int×Int×Int×Int×Int×Int×Int×Int
def Qf:NH->Int->((Int×Int×Int×Int×Int)×(Int)):=λ(afg,mq,M8,adH,J9,aer,Gr,un21,q0) y=>((afg,mq,J9,aer,un21),y)
def Qc:NG->Prop:=λ(y,sv,yn1,yn0,u,w,un0,q,r)=>∃e:Int,(e=42260\/e=42264\/e=42272)/\y=18446744073709551616 - e/\yn1=4294967295/\yn0=4294967296 - e/\0<=u/\u < 18446744073709551616 - e/\0<=w/\w < 4294967296/\0<=r/\r < 4294967296/\q*4294967295+r=u/\(u*4294967296+w) / (18446744073709551616 - e)<=q
def Fz:NG->Int:=λ(y,sv,yn1,yn0,u,w,un0,q,r)=>(u*4294967296+w) / y
def Qe:NH->Prop:=λ(y,sv,yn1,yn0,w,q1,r,u,q)=>∃e:Int,(e=42260\/e=42264\/e=42272)/\y=18446744073709551616 - e/\yn1=4294967295/\yn0=4294967296 - e/\0<=u/\u < 18446744073709551616 - e/\0<=w/\w < 4294967296/\0<=r/\r < 4294967296/\q*4294967295+r=u/\(u*4294967296+w) / (18446744073709551616 - e)<=q
def FA:NH->Int:=λ(y,sv,yn1,yn0,w,q1,r,u,q)=>(u*4294967296+w) / y
def afV:(Int×Int×Int)->Prop:=λ(hi,lo,y)=>(aQK y\/hi=0/\0 < y/\y < 18446744073709551616)/\0<=hi/\hi < y/\0<=lo/\lo < 18446744073709551616
def aiA:(Int×Int×Int)->(Int×Int):=λ(hi,lo,y)=>((hi*18446744073709551616+lo) / y,(hi*18446744073709551616+lo)%y)
def oc:Ls Qc Qd Fz:=rp (λ(aff,sv,yn1,yn0,un32,un1,un0,q1,rhat)=>⟨([bF,bF,.d tu aff]++aP 5 ([.d tu sv,.d tu yn1,.d tu yn0,.d tu un32,bF,.d tu un1,.d tu un0,.d tu q1,.d tu rhat]++aP 118 [])),[],(ab 135 [])⟩) (λx=>(.exit 0,⟨([bF,bF,.d tu x.1.1]++aP 5 ([.d tu x.1.2.1,.d tu x.1.2.2.1,.d tu x.1.2.2.2.1,.d tu x.1.2.2.2.2.1,bF,.d tu x.1.2.2.2.2.2.1,.d tu x.1.2.2.2.2.2.2,.d tu x.2]++aP 119 [])),[],(ab 135 [])⟩))
def od:Ls Qe Qf FA:=rp (λ(afg,mq,M8,adH,J9,aer,Gr,un21,q0)=>⟨([bF,bF,.d tu afg]++aP 5 ([.d tu mq,.d tu M8,.d tu adH,bF,bF,bF,.d tu J9,.d tu aer,.d tu Gr,.d tu un21,.d tu q0]++aP 116 [])),[],(ab 135 [])⟩) (λx=>(.exit 2,⟨([bF,bF,.d tu x.1.1]++aP 5 ([.d tu x.1.2.1]++aP 5 ([.d tu x.1.2.2.1,.d tu x.1.2.2.2.1,bF,.d tu x.1.2.2.2.2,.d tu x.2]++aP 116 []))),[],(ab 135 [])⟩))
def Ch:Fs Tryz.prog afV bu aiA:=eN 218 Tryz.f218 (λ(hi,lo,yv)=>([.d tu hi,.d tu lo,.d tu yv],[])) (λx=>⟨.cons (.d tu x.1) (.cons (.d tu x.2) (.nil)),[],[]⟩) [some tu,some tu,some tu] [aLP] {loops:=nY [(17,{aV:=[2,8,9,10,11,13,14,15,16]}),(24,{aV:=[2,8,9,10,14,15,16,17,18]})],outs:=nX [(17,{aV:=[2,8,9,10,11,13,14,15]},{aV:=[6,7]}),(24,{aV:=[2,8,14,15,17,18]},{aV:=[6,7]})],fF:=nK [(17,oc.E),(24,od.E)]}
theorem aiB:oc.RS:=rL [.d tu,.d tu,.d tu,.d tu,.d tu,.d tu,.d tu,.d tu,.d tu] oc
theorem C4{R:Type}(aff sv yn1 yn0 un32 un1 un0 q1 rhat)(kn:K2 R)(kx:K3 R):Ch.R 0 oc (aff,sv,yn1,yn0,un32,un1,un0,q1,rhat) kn kx=aJ ((Cn q1 4294967296)) (aJ ((Cn (bI .u64 rhat yn1) 4294967296)) (oc.go kx ((aff,sv,yn1,yn0,un32,un1,un0),(cR .u64 q1 1))) (kn (oc.st (aff,sv,yn1,yn0,un32,un1,un0,(cR .u64 q1 1),(bI .u64 rhat yn1))))) (aJ ((qZ (gB .u64 q1 yn0) (bI .u64 (gB .u64 4294967296 rhat) un1))) (aJ ((Cn (bI .u64 rhat yn1) 4294967296)) (oc.go kx ((aff,sv,yn1,yn0,un32,un1,un0),(cR .u64 q1 1))) (kn (oc.st (aff,sv,yn1,yn0,un32,un1,un0,(cR .u64 q1 1),(bI .u64 rhat yn1))))) (oc.go kx ((aff,sv,yn1,yn0,un32,un1,un0),q1))):=b8
theorem aiC:od.RS:=rL [.d tu,.d tu,.d tu,.d tu,.d tu,.d tu,.d tu,.d tu,.d tu] od
theorem C5{R:Type}(afg mq M8 adH J9 aer Gr un21 q0)(kn:K2 R)(kx:K3 R):Ch.R 1 od (afg,mq,M8,adH,J9,aer,Gr,un21,q0) kn kx=aJ ((Cn q0 4294967296)) (aJ ((Cn (bI .u64 Gr M8) 4294967296)) (od.go kx ((afg,mq,J9,aer,un21),(cR .u64 q0 1))) (kn (od.st (afg,mq,M8,adH,J9,aer,(bI .u64 Gr M8),un21,(cR .u64 q0 1))))) (aJ ((qZ (gB .u64 q0 adH) (bI .u64 (gB .u64 4294967296 Gr) J9))) (aJ ((Cn (bI .u64 Gr M8) 4294967296)) (od.go kx ((afg,mq,J9,aer,un21),(cR .u64 q0 1))) (kn (od.st (afg,mq,M8,adH,J9,aer,(bI .u64 Gr M8),un21,(cR .u64 q0 1))))) (od.go kx ((afg,mq,J9,aer,un21),q0))):=b8
theorem aEx{R:Type}(hi lo yv)(k:K1 R):Ch.A (hi,lo,yv) k=aJ ((qY yv 0)) (none) (aJ ((ai7 yv hi)) (none) (aJ ((qY hi 0)) (aJ (sa yv) (aJ (sa yv) (k (Ch.out ((tX .u64 lo yv),(mS lo yv)))) none) none) (al (asA.call yv) λx1=>aJ (mK (dX .u64 x1)) (aJ (mK (dX .u64 x1)) (aJ (mK (cR .u64 64 (dX .u64 x1))) (aJ (mK (dX .u64 x1)) (aJ (sa (cz .u64 (mI .u64 yv (dX .u64 x1)) 32)) (al (oc.call ((mI .u64 yv (dX .u64 x1)),(dX .u64 x1),(cz .u64 (mI .u64 yv (dX .u64 x1)) 32),(cG .and .u64 (mI .u64 yv (dX .u64 x1)) 4294967295),(cG .or .u64 (mI .u64 hi (dX .u64 x1)) (cz .u64 lo (cR .u64 64 (dX .u64 x1)))),(cz .u64 (mI .u64 lo (dX .u64 x1)) 32),(cG .and .u64 (mI .u64 lo (dX .u64 x1)) 4294967295),(tX .u64 (cG .or .u64 (mI .u64 hi (dX .u64 x1)) (cz .u64 lo (cR .u64 64 (dX .u64 x1)))) (cz .u64 (mI .u64 yv (dX .u64 x1)) 32)),(cR .u64 (cG .or .u64 (mI .u64 hi (dX .u64 x1)) (cz .u64 lo (cR .u64 64 (dX .u64 x1)))) (gB .u64 (tX .u64 (cG .or .u64 (mI .u64 hi (dX .u64 x1)) (cz .u64 lo (cR .u64 64 (dX .u64 x1)))) (cz .u64 (mI .u64 yv (dX .u64 x1)) 32)) (cz .u64 (mI .u64 yv (dX .u64 x1)) 32))))) λx2=>aJ (sa x2.1.2.2.1) (al (od.call (x2.1.1,x2.1.2.1,x2.1.2.2.1,x2.1.2.2.2.1,x2.1.2.2.2.2.2.2,x2.2,(cR .u64 (cR .u64 (bI .u64 (gB .u64 x2.1.2.2.2.2.1 4294967296) x2.1.2.2.2.2.2.1) (gB .u64 x2.2 x2.1.1)) (gB .u64 (tX .u64 (cR .u64 (bI .u64 (gB .u64 x2.1.2.2.2.2.1 4294967296) x2.1.2.2.2.2.2.1) (gB .u64 x2.2 x2.1.1)) x2.1.2.2.1) x2.1.2.2.1)),(cR .u64 (bI .u64 (gB .u64 x2.1.2.2.2.2.1 4294967296) x2.1.2.2.2.2.2.1) (gB .u64 x2.2 x2.1.1)),(tX .u64 (cR .u64 (bI .u64 (gB .u64 x2.1.2.2.2.2.1 4294967296) x2.1.2.2.2.2.2.1) (gB .u64 x2.2 x2.1.1)) x2.1.2.2.1))) λx3=>aJ (mK x3.1.2.1) (k (Ch.out ((bI .u64 (gB .u64 x3.1.2.2.2.1 4294967296) x3.2),(cz .u64 (cR .u64 (bI .u64 (gB .u64 x3.1.2.2.2.2 4294967296) x3.1.2.2.1) (gB .u64 x3.2 x3.1.1)) x3.1.2.1)))) none) none) none) none) none) none) none))):=b8
theorem amQ:(Ch.kM 0 oc):=by
 refine(Ch.mf 0 oc) (λ(y,sv,yn1,yn0,u,w,un0,q,r)=>q.toNat) ?_
 rintro⟨y,sv,yn1,yn0,u,w,un0,q,r⟩ ⟨e,he,rfl,rfl,rfl,hu,ale,hw,ase,hr,ad3,hq,hQ⟩;have hu:0<=u:=hu;have ale:u < 18446744073709551616 - e:=ale;have hw:0<=w:=hw;have ase:w < 4294967296:=ase;have hr:0<=r:=hr;have ad3:r < 4294967296:=ad3;have hq:q*4294967295+r=u:=hq;obtain⟨k1,k2,k3,k4,k5,k6⟩:=k1 he hu ale hw ase hr ad3 hq hQ;have q0:0<=q:=Int.le_trans k5 hQ;have a1:bI .u64 r 4294967295=r+4294967295:=by rw[uK];omega
 have a2:bI .u64 (gB .u64 4294967296 r) w=4294967296*r+w:=by rw[zu,uK];omega
 have a3:q < 4294967296->gB .u64 q (4294967296 - e)=q*(4294967296 - e):=by intro h;rw[zu];rcases he with rfl | rfl | rfl <;> omega
 have a4:0 < q->cR .u64 q 1=q - 1:=by intro h;rw[X3];omega
 have pos:4294967296<=q\/(q < 4294967296/\4294967296*r+w < q*(4294967296 - e))->0 < q/\(u*4294967296+w) / (18446744073709551616 - e)<=q - 1:=by
  rintro(h | ⟨h,h2⟩)
  ·exact⟨ak,k1 h⟩
  ·exact⟨by have:=k2 h h2;omega,k2 h h2⟩
 by_cases hc:4294967296<=q\/(q < 4294967296/\4294967296*r+w < q*(4294967296 - e))
 ·obtain⟨p1,p2⟩:=pos hc;by_cases hb:4294967296<=r+4294967295
  ·right;have hF:Fz (18446744073709551616 - e,sv,4294967295,4294967296 - e,u,w,un0,q,r)=q - 1:=k4 hb p2;intro R kn kx;rw[C4,a1,a2,a4 p1,gA hb,hF];rcases hc with h | ⟨h,h2⟩
   ·rw[gA h];rfl
   ·rw[eF ak,a3 h,cP h2];rfl
  ·left;refine⟨(18446744073709551616 - e,sv,4294967295,4294967296 - e,u,w,un0,q - 1,r+4294967295),⟨e,he,rfl,rfl,rfl,hu,ale,hw,ase,ak,ak,ak,p2⟩,by simp only[];omega,rfl,λkn kx=> ?_⟩;rw[C4,a1,a2,a4 p1,eF hb];rcases hc with h | ⟨h,h2⟩
   ·rw[gA h];rfl
   ·rw[eF ak,a3 h,cP h2];rfl
 ·right;have h:q < 4294967296:=ak;have h2:¬4294967296*r+w < q*(4294967296 - e):=λx=>hc (fi ⟨h,x⟩)
  have hF:Fz (18446744073709551616 - e,sv,4294967295,4294967296 - e,u,w,un0,q,r)=q:=k3 h ak;intro R kn kx;rw[C4,a2,a3 h,eF ak,cr h2,hF];rfl
theorem amR:(Ch.kM 1 od):=by
 refine(Ch.mf 1 od) (λ(y,sv,yn1,yn0,w,q1,r,u,q)=>q.toNat) ?_
 rintro⟨y,sv,yn1,yn0,w,q1,r,u,q⟩ ⟨e,he,rfl,rfl,rfl,hu,ale,hw,ase,hr,ad3,hq,hQ⟩;have hu:0<=u:=hu;have ale:u < 18446744073709551616 - e:=ale;have hw:0<=w:=hw;have ase:w < 4294967296:=ase;have hr:0<=r:=hr;have ad3:r < 4294967296:=ad3;have hq:q*4294967295+r=u:=hq;obtain⟨k1,k2,k3,k4,k5,k6⟩:=k1 he hu ale hw ase hr ad3 hq hQ;have q0:0<=q:=Int.le_trans k5 hQ;have a1:bI .u64 r 4294967295=r+4294967295:=by rw[uK];omega
 have a2:bI .u64 (gB .u64 4294967296 r) w=4294967296*r+w:=by rw[zu,uK];omega
 have a3:q < 4294967296->gB .u64 q (4294967296 - e)=q*(4294967296 - e):=by intro h;rw[zu];rcases he with rfl | rfl | rfl <;> omega
 have a4:0 < q->cR .u64 q 1=q - 1:=by intro h;rw[X3];omega
 have pos:4294967296<=q\/(q < 4294967296/\4294967296*r+w < q*(4294967296 - e))->0 < q/\(u*4294967296+w) / (18446744073709551616 - e)<=q - 1:=by
  rintro(h | ⟨h,h2⟩)
  ·exact⟨ak,k1 h⟩
  ·exact⟨by have:=k2 h h2;omega,k2 h h2⟩
 by_cases hc:4294967296<=q\/(q < 4294967296/\4294967296*r+w < q*(4294967296 - e))
 ·obtain⟨p1,p2⟩:=pos hc;by_cases hb:4294967296<=r+4294967295
  ·right;have hF:FA (18446744073709551616 - e,sv,4294967295,4294967296 - e,w,q1,r,u,q)=q - 1:=k4 hb p2;intro R kn kx;rw[C5,a1,a2,a4 p1,gA hb,hF];rcases hc with h | ⟨h,h2⟩
   ·rw[gA h];rfl
   ·rw[eF ak,a3 h,cP h2];rfl
  ·left;refine⟨(18446744073709551616 - e,sv,4294967295,4294967296 - e,w,q1,r+4294967295,u,q - 1),⟨e,he,rfl,rfl,rfl,hu,ale,hw,ase,ak,ak,ak,p2⟩,by simp only[];omega,rfl,λkn kx=> ?_⟩;rw[C5,a1,a2,a4 p1,eF hb];rcases hc with h | ⟨h,h2⟩
   ·rw[gA h];rfl
   ·rw[eF ak,a3 h,cP h2];rfl
 ·right;have h:q < 4294967296:=ak;have h2:¬4294967296*r+w < q*(4294967296 - e):=λx=>hc (fi ⟨h,x⟩)
  have hF:FA (18446744073709551616 - e,sv,4294967295,4294967296 - e,w,q1,r,u,q)=q:=k3 h ak;intro R kn kx;rw[C5,a2,a3 h,eF ak,cr h2,hF];rfl
theorem aOz{y hi lo:Int}(hy:aQK y)(h0:0<=hi)(h1:hi < y)(h2:0<=lo)(h3:lo < 18446744073709551616):∃(s:Nat) (e m:Int),aGh y=s/\(s=2\/s=3)/\m=2^s/\(e=42260\/e=42264\/e=42272)/\y*m=18446744073709551616 - e/\
  mI .u64 y (s:Int)=18446744073709551616 - e/\
  cG .or .u64 (mI .u64 hi (s:Int)) (cz .u64 lo (cR .u64 64 (s:Int)))=(hi*18446744073709551616+lo)*m / 18446744073709551616/\
  mI .u64 lo (s:Int)=(hi*18446744073709551616+lo)*m%18446744073709551616/\
  (hi*18446744073709551616+lo)*m / 18446744073709551616 < 18446744073709551616 - e/\
  (hi*18446744073709551616+lo)*m / (18446744073709551616 - e)=(hi*18446744073709551616+lo) / y/\
  (hi*18446744073709551616+lo)*m%(18446744073709551616 - e) / m=(hi*18446744073709551616+lo)%y:=by
 have e1:cR .u64 64 ((2:Nat):Int)=((62:Nat):Int):=rfl;have e2:cR .u64 64 ((3:Nat):Int)=((61:Nat):Int):=rfl;have p2:(2:Int)^2=4:=rfl;have p3:(2:Int)^3=8:=rfl;have p61:(2:Int)^61=2305843009213693952:=rfl;have p62:(2:Int)^62=4611686018427387904:=rfl;obtain rfl | rfl | rfl:=hy
 ·refine⟨2,42260,4,rfl,lZ rfl,rfl,lZ rfl,rfl,by rw[wY 2 (by rfl) ak,p2];omega,?_,?_,ak,ak,ak⟩
  ·rw[e1,wY 2 (by rfl) ak,wZ 62 (by rfl) ak,p2,p62,Q7 2 4 rfl ak ak ak ak ak ak];omega
  ·rw[wY 2 (by rfl) ak,p2];omega
 ·refine⟨3,42264,8,rfl,fi rfl,rfl,fi (lZ rfl),rfl,by rw[wY 3 (by rfl) ak,p3];omega,?_,?_,ak,ak,ak⟩
  ·rw[e2,wY 3 (by rfl) ak,wZ 61 (by rfl) ak,p3,p61,Q7 3 8 rfl ak ak ak ak ak ak];omega
  ·rw[wY 3 (by rfl) ak,p3];omega
 ·refine⟨3,42272,8,rfl,fi rfl,rfl,fi (fi rfl),rfl,by rw[wY 3 (by rfl) ak,p3];omega,?_,?_,ak,ak,ak⟩
  ·rw[e2,wY 3 (by rfl) ak,wZ 61 (by rfl) ak,p3,p61,Q7 3 8 rfl ak ak ak ak ak ak];omega
  ·rw[wY 3 (by rfl) ak,p3];omega
theorem aUw(a b c:Int):(((a%18446744073709551616+b)%18446744073709551616) - c%18446744073709551616)%18446744073709551616=(a+b - c)%18446744073709551616:=ak
theorem aEy:Ch.Ok:=by
 rintro⟨hi,lo,y⟩ ⟨hy,h0,h1,h2,h3⟩;have h0:0<=hi:=h0;have h1:hi < y:=h1;have h2:0<=lo:=h2;have h3:lo < 18446744073709551616:=h3;have yb:0 < y/\y < 18446744073709551616:=by
  rcases hy with hy | hy
  ·obtain rfl | rfl | rfl:=hy <;> omega
  ·exact hy.2
 rw[aEx,eS ak,ke ak];simp only[ao];have z:sa y=true:=by simp[sa];omega
 by_cases hz:hi=0
 ·subst hz;rw[du rfl,z,ajd h2 ak h3,wC h2];simp only[aj,aiA,bu,Int.zero_mul,Int.zero_add]
 ·have hy:aQK y:=hy.resolve_right λe=>hz e.1
  obtain⟨s,e,m,hs,Z4,hm,he,aXH,a1,a2,a3,a4,a5,a6⟩:=aOz hy h0 h1 h2 h3;have c1:dX .u64 (s:Int)=(s:Int):=by rw[aFt];omega
  have c2:mK (s:Int)=true:=tI ak;have c3:mK (cR .u64 64 (s:Int))=true:=by rcases Z4 with rfl | rfl <;> rfl
  rw[eS hz,aGj (d:=y) hy];simp only[ao,ah,bu,hs,c1,c2,c3,aj,a1,a2,a3];have hN:0<=(hi*18446744073709551616+lo)*m:=Int.mul_nonneg ak (by rcases Z4 with rfl | rfl <;> omega)
  revert a4 a5 a6
  generalize (hi*18446744073709551616+lo)*m=N at hN;intro a4 a5 a6;have u0:0<=N / 18446744073709551616:=ak;have t0:0<=N%18446744073709551616:=ak;have t1:N%18446744073709551616 < 18446744073709551616:=ak;have hd:N=(N / 18446744073709551616*4294967296+N%18446744073709551616 / 4294967296)*4294967296+N%18446744073709551616%4294967296:=ak;have w10:0<=N%18446744073709551616 / 4294967296:=ak;have w11:N%18446744073709551616 / 4294967296 < 4294967296:=ak;have w00:0<=N%18446744073709551616%4294967296:=ak;have w01:N%18446744073709551616%4294967296 < 4294967296:=ak;have p32:(2:Int)^32=4294967296:=rfl;have b1:cz .u64 (18446744073709551616 - e) 32=4294967295:=by rw[wZ 32 (by rfl) ak,p32];rcases he with rfl | rfl | rfl <;> rfl
  have b2:cG .and .u64 (18446744073709551616 - e) 4294967295=4294967296 - e:=by rw[alw ak ak];omega
  have b3:cz .u64 (N%18446744073709551616) 32=N%18446744073709551616 / 4294967296:=by rw[wZ 32 (by rfl) ak,p32]
  have b4:cG .and .u64 (N%18446744073709551616) 4294967295=N%18446744073709551616%4294967296:=alw t0 t1;have z2:sa 4294967295=true:=rfl;simp only[b1,b2,b3,b4,z2,aj];clear a1 a2 a3 b1 b2 b3 b4;have kdd:=kd (18446744073709551616 - e) (N / 18446744073709551616) (N%18446744073709551616 / 4294967296) (N%18446744073709551616%4294967296) ak w00 w01;rw[<-hd,a5]at kdd
  revert a4 kdd
  generalize N / 18446744073709551616=u at u0;generalize N%18446744073709551616 / 4294967296=w1 at w10 w11;generalize N%18446744073709551616%4294967296=w0 at w00 w01;intro a4 kdd
  have g:∀u w:Int,0<=u->u < 18446744073709551616 - e->0<=w->w < 4294967296->
    tX .u64 u 4294967295=u / 4294967295/\cR .u64 u (gB .u64 (u / 4294967295) 4294967295)=u - u / 4294967295*4294967295/\
    cR .u64 (bI .u64 (gB .u64 u 4294967296) w) (gB .u64 ((u*4294967296+w) / (18446744073709551616 - e)) (18446744073709551616 - e))=(u*4294967296+w)%(18446744073709551616 - e):=by
   intro u w k1 k2 k3 k4;obtain⟨q1,q2,q3,q4,q5,q6,q7,q8⟩:=k0 he k1 k2 k3 k4;refine⟨ajd k1 ak ak,by rw[X3,zu];omega,?_⟩;rw[X3,uK,zu,zu,aUw,q4];exact fe q5 ak
  obtain⟨f1,f2,f3⟩:=g u w1 u0 a4 w10 w11;obtain⟨q1,q2,q3,q4,q5,q6,q7,q8⟩:=k0 he u0 a4 w10 w11;have p1:Qc (18446744073709551616 - e,(s:Int),4294967295,4294967296 - e,u,w1,w0,u / 4294967295,u - u / 4294967295*4294967295):=⟨e,he,rfl,rfl,rfl,u0,a4,w10,w11,q2,q3,ak,q1⟩;rw[f1,f2,aiB p1];simp only[ah,Qd,Fz,z2,aj,f3]
  revert f3 q1 kdd
  generalize (u*4294967296+w1)%(18446744073709551616 - e)=v at q4 q5 q6;generalize (u*4294967296+w1) / (18446744073709551616 - e)=Q at q4 q7 q8;intro kdd f3 q1;obtain⟨g1,g2,g3⟩:=g v w0 q5 q6 w00 w01;obtain⟨r1,r2,r3,r4,r5,r6,r7,r8⟩:=k0 he q5 q6 w00 w01;have p2:Qe (18446744073709551616 - e,(s:Int),4294967295,4294967296 - e,w0,Q,v - v / 4294967295*4294967295,v,v / 4294967295):=⟨e,he,rfl,rfl,rfl,q5,q6,w00,w01,r2,r3,ak,r1⟩;rw[g1,g2,aiC p2];simp only[ah,Qf,FA,c2,aj,g3];rw[<-kdd.2,wZ s (by rfl) ak,<-hm,a6,zu,uK];have e9:(Q*4294967296%18446744073709551616+(v*4294967296+w0) / (18446744073709551616 - e))%18446744073709551616=(hi*18446744073709551616+lo) / y:=by rw[kdd.1];omega
  rw[e9];rfl
theorem ayk:Ch.RS:=rE [.d tu,.d tu,.d tu] Ch
def aEz:=Ch.eU aEy 2 ⟨.fv amQ,⟨.fv amR,trivial⟩⟩
def T5:(Int×Int×Int)->Prop:=λ(hi,lo,y)=>aQK y/\0<=hi/\hi < 18446744073709551616/\0<=lo/\lo < 18446744073709551616
def Rr:(Int×Int×Int)->Int:=λ(hi,lo,y)=>(hi*18446744073709551616+lo)%y
def Rq:Fs Tryz.prog T5 bu Rr:=eN 185 Tryz.f185 (λ(hi,lo,yv)=>([.d tu hi,.d tu lo,.d tu yv],[])) (λx=>⟨.d tu x,[],[]⟩) [some tu,some tu,some tu] [aEz]
theorem aHn{R:Type}(hi lo yv)(k:K1 R):Rq.A (hi,lo,yv) k=aJ (sa yv) (al (Ch.call ((mS hi yv),lo,yv)) λx1=>k (Rq.out x1.2)) none:=b8
theorem aHo:Rq.Ok:=by
 rintro⟨hi,lo,y⟩ ⟨hy,h0,h1,h2,h3⟩;have h0:0<=hi:=h0;have yb:0 < y:=by obtain rfl | rfl | rfl:=hy <;> omega
 have z:sa y=true:=by simp[sa];omega
 have p:afV (hi%y,lo,y):=⟨.inl hy,kT _ ak,kk _ yb,h2,h3⟩;rw[aHn,z,wC h0,ayk p];have e:(hi%y*18446744073709551616+lo)%y=(hi*18446744073709551616+lo)%y:=by rw[ud,jD,gS _ (qb y),<-jD,<-ud]
 simp only[aj,ah,bu,aiA,bu,Rr,e]
theorem T6:Rq.RS:=rE [.d tu,.d tu,.d tu] Rq
def ab7:=Rq.eU aHo
def azA:(Int×Int)->Prop:=λ(x,y)=>(0<=x/\x < 18446744073709551616)/\0<=y/\y < 18446744073709551616
def X9:(Int×Int)->(Int×Int):=λ(x,y)=>(x*y / 18446744073709551616,x*y%18446744073709551616)
def Q2:Fs Tryz.prog azA bu X9:=eN 213 Tryz.f213 (λ(x,yv)=>([.d tu x,.d tu yv],[])) (λx=>⟨.cons (.d tu x.1) (.cons (.d tu x.2) (.nil)),[],[]⟩) [some tu,some tu]
theorem aGm{R:Type}(x yv)(k:K1 R):Q2.A (x,yv) k=k (Q2.out ((bI .u64 (bI .u64 (gB .u64 (cz .u64 x 32) (cz .u64 yv 32)) (cz .u64 (bI .u64 (gB .u64 (cz .u64 x 32) (cG .and .u64 yv 4294967295)) (cz .u64 (gB .u64 (cG .and .u64 x 4294967295) (cG .and .u64 yv 4294967295)) 32)) 32)) (cz .u64 (bI .u64 (cG .and .u64 (bI .u64 (gB .u64 (cz .u64 x 32) (cG .and .u64 yv 4294967295)) (cz .u64 (gB .u64 (cG .and .u64 x 4294967295) (cG .and .u64 yv 4294967295)) 32)) 4294967295) (gB .u64 (cG .and .u64 x 4294967295) (cz .u64 yv 32))) 32)),(gB .u64 x yv))):=b8
theorem TR{a b m n:Int}(h0:0<=a)(h1:a<=m)(h2:0<=b)(h3:b<=n):0<=a*b/\a*b<=m*n:=⟨Int.mul_nonneg h0 h2,Int.mul_le_mul h1 h3 h2 (Int.le_trans h0 h1)⟩
theorem aGn:Q2.Ok:=by
 rintro⟨x,y⟩ ⟨⟨h0,h1⟩,h2,h3⟩;have h0:0<=x:=h0;have h1:x < 18446744073709551616:=h1;have h2:0<=y:=h2;have h3:y < 18446744073709551616:=h3;rw[aGm];have p32:(2:Int)^32=4294967296:=rfl;have aXf:∀x:Int,cz .u64 x 32=x / 4294967296:=λx=>by rw[wZ 32 (by rfl) ak,p32]
 simp only[aXf,alw h0 h1,alw h2 h3];obtain⟨a,b,rfl,a0,a1,b0,b1⟩:∃a b:Int,x=a*4294967296+b/\0<=a/\a<=4294967295/\0<=b/\b<=4294967295:=⟨x / 4294967296,x%4294967296,ak,ak,ak,ak,ak⟩;obtain⟨c,d,rfl,c0,c1,d0,d1⟩:∃a b:Int,y=a*4294967296+b/\0<=a/\a<=4294967295/\0<=b/\b<=4294967295:=⟨y / 4294967296,y%4294967296,ak,ak,ak,ak,ak⟩;have e1:(a*4294967296+b) / 4294967296=a:=ak;have e2:(a*4294967296+b)%4294967296=b:=ak;have e3:(c*4294967296+d) / 4294967296=c:=ak;have e4:(c*4294967296+d)%4294967296=d:=ak;have e5:(a*4294967296+b)*(c*4294967296+d)=a*c*18446744073709551616+(a*d+b*c)*4294967296+b*d:=by
  have q:(4294967296:Int)*4294967296=18446744073709551616:=rfl;rw[Int.add_mul,Int.mul_add,Int.mul_add];have q1:a*4294967296*(c*4294967296)=a*c*18446744073709551616:=by rw[<-q];ac_rfl
  have q2:a*4294967296*d=a*d*4294967296:=by ac_rfl
  have q3:b*(c*4294967296)=b*c*4294967296:=by ac_rfl
  rw[q1,q2,q3];omega
 obtain⟨m1,m2⟩:=TR a0 a1 c0 c1;obtain⟨m3,m4⟩:=TR a0 a1 d0 d1;obtain⟨m5,m6⟩:=TR b0 b1 c0 c1;obtain⟨m7,m8⟩:=TR b0 b1 d0 d1;have n:(4294967295:Int)*4294967295=18446744065119617025:=rfl;rw[n]at m2 m4 m6 m8;simp only[e1,e2,e3,e4,bu,X9,e5,zu,uK]
 revert m1 m2 m3 m4 m5 m6 m7 m8
 generalize a*c=ac;generalize a*d=ad;generalize b*c=bc;generalize b*d=bd;intro m1 m2 m3 m4 m5 m6 m7 m8;have q1:bd%18446744073709551616=bd:=ak;have q2:ad%18446744073709551616=ad:=ak;have q3:bc%18446744073709551616=bc:=ak;have q4:ac%18446744073709551616=ac:=ak;rw[q1,q2,q3,q4];have q5:(ad+bd / 4294967296)%18446744073709551616=ad+bd / 4294967296:=ak;have q6:cG .and .u64 (ad+bd / 4294967296) 4294967295=(ad+bd / 4294967296)%4294967296:=alw ak ak;rw[q5,q6];refine bo some (bo Q2.out (Prod.ext ?_ ?_))
 ·show _=(_:Int);simp only[];omega
 ·rfl
theorem agt:Q2.RS:=rE [.d tu,.d tu] Q2
def an1:=Q2.eU aGn
def Pn(x:Int):Prop:=0<=x/\x < 4611686018427377339
def nV(x:Int):Prop:=0<=x/\x < 18446744073709551616
theorem Pn.u{x:Int}(h:Pn x):nV x:=⟨h.1,by have:=h.2;omega⟩
def pG(a b:Int):Int:=a*b%4611686018427377339
theorem wI(a b:Int):Pn (pG a b):=⟨kT _ ak,kk _ ak⟩
def alg:Nat->Int->Nat->Int->Int
 | 0,_,_,out=>out
 |f+1,a,n,out=>if n=0 then out else alg f (pG a a) (n / 2) (if n%2=1 then pG out a else out)
def pw(a:Int)(n:Nat):Int:=alg 64 a n 1
theorem Bt(f:Nat)(a out:Int):alg f a 0 out=out:=by cases f <;> rfl
theorem abB:∀(f g:Nat) (a:Int) (n:Nat) (out:Int),n < 2^f->n < 2^g->alg f a n out=alg g a n out
 | 0,g,a,n,out,h,_=>by obtain rfl:n=0:=ak;rw[Bt,Bt]
 |f+1,0,a,n,out,_,h=>by obtain rfl:n=0:=ak;rw[Bt,Bt]
 |f+1,g+1,a,n,out,h,h'=>by
  have e:(2:Nat)^(f+1)=2^f*2:=Nat.pow_succ 2 f;have e':(2:Nat)^(g+1)=2^g*2:=Nat.pow_succ 2 g;unfold alg;split
  ·rfl
  ·exact abB f g _ _ _ ak ak
theorem aG4:∀(f:Nat) (a:Int) (n:Nat) (out:Int),Pn out->Pn (alg f a n out)
 | 0,_,_,_,h=>h
 |f+1,a,n,out,h=>by
  unfold alg;split
  ·exact h
  ·refine aG4 f _ _ _ ?_
   split
   ·exact wI _ _
   ·exact h
theorem aoB(a:Int)(n:Nat):Pn (pw a n):=aG4 _ _ _ _ ⟨ak,ak⟩
def as9:(Int×Int)->Prop:=λ(a,b)=>nV a/\nV b
def aG0:(Int×Int)->Int:=λ(a,b)=>pG a b
def Dh:Fs Tryz.prog as9 bu aG0:=eN 180 Tryz.f180 (λ(a,b)=>([.d tu a,.d tu b],[])) (λx=>⟨.d tu x,[],[]⟩) [some tu,some tu] [an1,ab7]
theorem aAc{R:Type}(a b)(k:K1 R):Dh.A (a,b) k=al (Q2.call (a,b)) λx1=>al (Rq.call (x1.1,x1.2,4611686018427377339)) λx2=>k (Dh.out x2):=b8
theorem adq(n:Int):n / 18446744073709551616*18446744073709551616+n%18446744073709551616=n:=ak
theorem aAd:Dh.Ok:=by rintro⟨a,b⟩ ⟨ha,hb⟩;have ha:nV a:=ha;have hb:nV b:=hb;obtain⟨m1,m2⟩:=TR ha.1 (show a<=18446744073709551615 by have:=ha.2;omega) hb.1 (show b<=18446744073709551615 by have:=hb.2;omega);have n:(18446744073709551615:Int)*18446744073709551615=340282366920938463426481119284349108225:=rfl;rw[n]at m2;have p:T5 (a*b / 18446744073709551616,a*b%18446744073709551616,4611686018427377339):=⟨lZ rfl,ak,ak,ak,ak⟩;rw[aAc,agt (d:=(a,b)) ⟨ha,hb⟩];simp only[ah,bu,X9];rw[T6 p];simp only[ah,bu,Rr,adq];rfl
theorem OH:Dh.RS:=rE [.d tu,.d tu] Dh
def agM:=Dh.eU aAd
def aeo:(Int×Int×Int)->Prop:=λ(a,n,o)=>nV a/\nV n/\Pn o
def Cy:(Int×Int×Int)->Int:=λ(a,n,o)=>alg 64 a n.toNat o
def as5:(Int×Int)->Prop:=λ(a,n)=>nV a/\nV n
def aox:(Int×Int)->Int:=λ(a,n)=>pw a n.toNat
def oB:Ls aeo bu Cy:=rp (λ(US,wJ,outv)=>⟨([.d tu US,.d tu wJ,bF,bF,bF,.d tu outv]++aP 14 []),[],(ab 20 [])⟩) (λx=>(.exit 0,⟨(aP 5 ([.d tu x]++aP 14 [])),[],(ab 20 [])⟩))
def yd:Fs Tryz.prog as5 bu aox:=eN 130 Tryz.f130 (λ(a,n)=>([.d tu a,.d tu n],[])) (λx=>⟨.d tu x,[],[]⟩) [some tu,some tu] [agM] {loops:=nY [(2,{aV:=[0,1,5]})],outs:=nX [(2,{aV:=[5]},{aV:=[4]})],fF:=nK [(2,oB.E)]}
theorem aep:oB.RS:=rL [.d tu,.d tu,.d tu] oB
theorem IW{R:Type}(US wJ outv)(kn:K2 R)(kx:K3 R):yd.R 0 oB (US,wJ,outv) kn kx=aJ ((qZ wJ 0)) (aJ ((qY (cG .and .u64 wJ 1) 1)) (al (Dh.call (outv,US)) λx1=>al (Dh.call (US,US)) λx2=>kn (oB.st (x2,(cz .u64 wJ 1),x1))) (al (Dh.call (US,US)) λx3=>kn (oB.st (x3,(cz .u64 wJ 1),outv)))) (oB.go kx outv):=b8
theorem az4{R:Type}(a n)(k:K1 R):yd.A (a,n) k=al (oB.call (a,n,1)) λx4=>k (yd.out x4):=b8
theorem aUU{n:Int}(h:nV n):cz .u64 n 1=n / 2:=wZ 1 (by rfl) ak
theorem ajQ:(yd.kM 0 oB):=by
 refine(yd.mf 0 oB) (λ(a,n,o)=>n.toNat) ?_
 rintro⟨a,n,o⟩ ⟨ha,hn,ho⟩;have ha:nV a:=ha;have hn:nV n:=hn;have ho:Pn o:=ho;have n0:=hn.1;have n1:=hn.2;by_cases h:0 < n
 ·left;have e:Cy (a,n,o)=Cy (pG a a,n / 2,if n%2=1 then pG o a else o):=by
   show alg 64 a n.toNat o=alg 64 (pG a a) (n / 2).toNat _;rw[abB 64 65 a n.toNat o ak ak];have t1:(n / 2).toNat=n.toNat / 2:=ak;have t2:(n%2=1)=(n.toNat%2=1):=by apply propext;omega
   rw[t1];simp only[t2];show(if n.toNat=0 then o else _)=_;rw[if_neg ak]
  refine⟨(pG a a,n / 2,if n%2=1 then pG o a else o),⟨(wI a a).u,⟨ak,ak⟩,?_⟩,by show(n / 2).toNat < n.toNat;omega,?_,λkn kx=> ?_⟩
  ·show Pn (if n%2=1 then pG o a else o);split
   ·exact wI _ _
   ·exact ho
  ·exact bo _ e.symm
  ·rw[IW,cP h,aUU hn,aTm n0 n1,OH (d:=(o,a)) ⟨ho.u,ha⟩,OH (d:=(a,a)) ⟨ha,ha⟩];by_cases h1:n%2=1
   ·rw[du h1,if_pos h1];rfl
   ·rw[eS h1,if_neg h1];rfl
 ·right;intro R kn kx;obtain rfl:n=0:=ak;rw[IW,cr ak];simp only[ao,bu,Cy];rw[show alg 64 a (ae 0) o=o from Bt _ _ _]
theorem az5:yd.Ok:=by rintro⟨a,n⟩ ⟨ha,hn⟩;rw[az4,aep (d:=(a,n,1)) ⟨ha,hn,ak,ak⟩];rfl
theorem OF:yd.RS:=rE [.d tu,.d tu] yd
def TX:=yd.eU az5 1 ⟨.fv ajQ,trivial⟩
def vu(p:Int):Bool:=decide (0 < p/\p < 4611686018427377339) && decide (pw p 2305843009213688669=1)
def tk(p:Int):Int:=if vu p then p else 1
theorem aIw(p:Int):Pn (tk p):=by
 unfold tk;split
 ·rename_i h;simp only[vu,au,aW]at h;exact⟨ak,ak⟩
 ·exact⟨ak,ak⟩
def Gw(p k:Int):Int:=pw (tk p) (k%2305843009213688669).toNat
def gq(k:Int):Int:=Gw 4 k
def an5(p:Int):Int:=pw (tk p) 2305843009213688668
def XI(l:List Int):Int:=l.foldl (λo p=>pG o (tk p)) 1
theorem aMS(l:List Int)(o:Int)(h:Pn o):Pn (l.foldl (λo p=>pG o (tk p)) o):=by
 induction l generalizing o with
 |nil=>exact h
 |cons p l ih=>exact ih _ (wI _ _)
theorem aMT(l:List Int):Pn (XI l):=aMS l 1 ⟨ak,ak⟩
def as6:Int->Prop:=λp=>nV p
def Ri:Int->Bool:=λp=>vu p
def vT:Fs Tryz.prog as6 bu Ri:=eN 142 Tryz.f142 (λp=>([.d tu p],[])) (λx=>⟨.d .bool x,[],[]⟩) [some tu] [TX]
theorem az6{R:Type}(p)(k:K1 R):vT.A p k=aJ ((qZ p 0)) (aJ ((gr p 4611686018427377339)) (al (yd.call (p,2305843009213688669)) λx1=>k (vT.out (qY x1 1))) (k (vT.out false))) (k (vT.out false)):=b8
theorem az7:vT.Ok:=by
 intro p hp;have hp:nV p:=hp;rw[az6,OF (d:=(p,2305843009213688669)) ⟨hp,by constructor <;> decide⟩];simp only[ah,bu,aox,bu,Ri,vu];by_cases h:0 < p
 ·rw[cP h,aj];by_cases h2:p < 4611686018427377339
  ·rw[aU h2,aj,aM ⟨h,h2⟩,bw];rfl
  ·rw[aQ h2,ao,aS (λx=>h2 x.2),cH]
 ·rw[cr h,ao,aS (λx=>h x.1),cH]
theorem Bq:vT.RS:=rE [.d tu] vT
def TY:=vT.eU az7
def as8:Int->Prop:=λp=>nV p
def IY:Int->Int:=λp=>tk p
def Dg:Fs Tryz.prog as8 bu IY:=eN 131 Tryz.f131 (λp=>([.d tu p],[])) (λx=>⟨.d tu x,[],[]⟩) [some tu] [TY]
theorem aAa{R:Type}(p)(k:K1 R):Dg.A p k=al (vT.call p) λx1=>aJ (x1) (k (Dg.out p)) (k (Dg.out 1)):=b8
theorem aAb:Dg.Ok:=by intro p hp;rw[aAa,Bq (d:=p) hp];simp only[ah,bu,Ri,bu,IY,tk];cases vu p <;> rfl
theorem OG:Dg.RS:=rE [.d tu] Dg
def TZ:=Dg.eU aAb
def as7:(Int×Int)->Prop:=λ(p,k)=>nV p/\nV k
def aoy:(Int×Int)->Int:=λ(p,k)=>Gw p k
def IX:Fs Tryz.prog as7 bu aoy:=eN 84 Tryz.f84 (λ(p,kv)=>([.d tu p,.d tu kv],[])) (λx=>⟨.d tu x,[],[]⟩) [some tu,some tu] [TZ,TX]
theorem az8{R:Type}(p kv)(k:K1 R):IX.A (p,kv) k=al (Dg.call p) λx1=>al (yd.call (x1,(mS kv 2305843009213688669))) λx2=>k (IX.out x2):=b8
theorem az9:IX.Ok:=by rintro⟨p,k⟩ ⟨hp,hk⟩;have hk:nV k:=hk;have e:=wC (y:=2305843009213688669) hk.1;have b:nV (k%2305843009213688669):=⟨ak,ak⟩;rw[az8,OG (d:=p) hp,e];simp only[ah,bu,IY];rw[OF (d:=(tk p,k%2305843009213688669)) ⟨(aIw p).u,b⟩];rfl
theorem aby:IX.RS:=rE [.d tu,.d tu] IX
def agL:=IX.eU az9
def azV:Int->Prop:=λk=>nV k
def Yc:Int->Int:=λk=>gq k
def He:Fs Tryz.prog azV bu Yc:=eN 38 Tryz.f38 (λkv=>([.d tu kv],[])) (λx=>⟨.d tu x,[],[]⟩) [some tu] [agL]
theorem aGR{R:Type}(kv)(k:K1 R):He.A kv k=al (IX.call (4,kv)) λx1=>k (He.out x1):=b8
theorem aGS:He.Ok:=by intro k hk;rw[aGR,aby (d:=(4,k)) ⟨⟨ak,ak⟩,hk⟩];rfl
theorem Ep:He.RS:=rE [.d tu] He
def Rc:=He.eU aGS
def aGY:Int->Prop:=λp=>nV p
def aGX:Int->Int:=λp=>an5 p
def as3:Fs Tryz.prog aGY bu aGX:=eN 253 Tryz.f253 (λp=>([.d tu p],[])) (λx=>⟨.d tu x,[],[]⟩) [some tu] [TZ,TX]
theorem aMf{R:Type}(p)(k:K1 R):as3.A p k=al (Dg.call p) λx1=>al (yd.call (x1,2305843009213688668)) λx2=>k (as3.out x2):=b8
theorem aMg:as3.Ok:=by intro p hp;rw[aMf,OG (d:=p) hp];simp only[ah,bu,IY];rw[OF (d:=(tk p,2305843009213688668)) ⟨(aIw p).u,by constructor <;> decide⟩];rfl
theorem aGZ:as3.RS:=rE [.d tu] as3
def aMh:=as3.eU aMg
abbrev agH:=Int×Bs×Int×Int
def aoo:agH->Prop:=λ(o,l,n,i)=>Pn o/\(∀x∈l,nV x)/\l.length<=1000000000/\n=l.length/\∃k:Nat,k<=l.length/\i=k
def TU:agH->Int:=λ(o,l,n,i)=>(l.drop i.toNat).foldl (λo p=>pG o (tk p)) o
def abt:Bs->Prop:=λl=>(∀x∈l,nV x)/\l.length<=1000000000
def aPK:Bs->Int:=λl=>XI l
def zO:Ls aoo bu TU:=rp (λ(outv,t6,t7,t8)=>⟨([bF,bF,bF,.d tu outv,bF,bF,.d tU t6,.d ti t7,.d ti t8]++aP 9 []),[],(ab 18 [])⟩) (λx=>(.exit 0,⟨([bF,bF,bF,.d tu x]++aP 14 []),[],(ab 18 [])⟩))
def abr:Fs Tryz.prog abt bu aPK:=eN 214 Tryz.f214 (λl=>([.d tU l],[])) (λx=>⟨.d tu x,[],[]⟩) [some tU] [TZ,agM] {loops:=nY [(3,{aV:=[3,6,7,8]})],outs:=nX [(3,{aV:=[3]},{aV:=[2]})],fF:=nK [(3,zO.E)]}
theorem aoq:zO.RS:=rL [.d tu,.d tU,.d ti,.d ti] zO
theorem Rb{R:Type}(outv t6 t7 t8)(kn:K2 R)(kx:K3 R):abr.R 0 zO (outv,t6,t7,t8) kn kx=aJ ((gr t8 t7)) (aJ (ed t8 (t6.length:Int)) (al (Dg.call (nth tu t6 (ae t8))) λx1=>al (Dh.call (outv,x1)) λx2=>kn (zO.st (x2,t6,t7,(bI .i64 t8 1)))) none) (zO.go kx outv):=b8
theorem aMb{R:Type}(l)(k:K1 R):abr.A l k=al (zO.call (1,l,(l.length:Int),0)) λx3=>k (abr.out x3):=b8
theorem asT:(abr.kM 0 zO):=by
 refine(abr.mf 0 zO) (λ(o,l,n,i)=>l.length - i.toNat) ?_
 rintro⟨o,l,n,i⟩ ⟨ho,hl,hb,rfl,k,hk,rfl⟩;have ho:Pn o:=ho;have hb:l.length<=1000000000:=hb;have hk:k<=l.length:=hk;by_cases h:k < l.length
 ·left;have hx:=hl _ (aN h);have n1:nth (.int .u64) l k=l[k]:=cd (t:= .int .u64) h;refine⟨(pG o (tk l[k]),l,l.length,((k+1:Nat):Int)),⟨wI _ _,hl,hb,rfl,k+1,ak,rfl⟩,by simp only[aa];omega,?_,λkn kx=> ?_⟩
  ·simp only[bu,TU,aa];rw[aq h];rfl
  ·rw[Rb];simp(disch:=omega) only[↓S1,↓if_pos,↓if_neg,if_pos,if_neg,bG,bt,S2,n1];rw[OG (d:=l[k]) hx];simp only[ah,bu,IY];rw[OH (d:=(o,tk l[k])) ⟨ho.u,(aIw _).u⟩];rfl
 ·right;obtain rfl:k=l.length:=ak;intro R kn kx;rw[Rb];simp(disch:=omega) only[↓S1,↓if_pos,↓if_neg,if_pos,if_neg,bG,bt,S2,bu,TU,aL];rfl
theorem aMc:abr.Ok:=by rintro l ⟨hl,hb⟩;rw[aMb,aoq (d:=(1,l,l.length,0)) ⟨⟨ak,ak⟩,hl,hb,rfl,0,ak,rfl⟩];rfl
theorem aor:abr.RS:=rE [.d tU] abr
def awm:=abr.eU aMc 1 ⟨.fv asT,trivial⟩
def aGP:(Int×Int)->Prop:=λ(p,q)=>nV p/\nV q
def aGO:(Int×Int)->Int:=λ(p,q)=>XI [p,q]
def asS:Fs Tryz.prog aGP bu aGO:=eN 181 Tryz.f181 (λ(p,q)=>([.d tu p,.d tu q],[])) (λx=>⟨.d tu x,[],[]⟩) [some tu,some tu] [awm]
theorem aL8{R:Type}(p q)(k:K1 R):asS.A (p,q) k=al (abr.call [p,q]) λx1=>k (asS.out x1):=b8
theorem aL9:asS.Ok:=by rintro⟨p,q⟩ ⟨hp,hq⟩;have h:abt [p,q]:=⟨by intro x hx;simp only[bY,List.not_mem_nil,or_false]at hx;rcases hx with rfl | rfl <;> assumption,by simp only[aA,ba];omega⟩;rw[aL8,aor h];rfl
theorem aGQ:asS.RS:=rE [.d tu,.d tu] asS
def aMa:=asS.eU aL9
def Qn(x:Int):Prop:=0<=x/\x < 2305843009213688669
theorem Qn.u{x:Int}(h:Qn x):nV x:=⟨h.1,by have:=h.2;omega⟩
def aGz(a:Int):Int:=a%2305843009213688669
theorem ajD(a:Int):Qn (aGz a):=⟨kT _ ak,kk _ ak⟩
def aqD(a b:Int):Int:=(aGz a+aGz b)%2305843009213688669
def ajy(a b:Int):Int:=aGz a*aGz b%2305843009213688669
def Qr(h:List Int):Int:=h.foldl (λn b=>(n*256+b)%2305843009213688668) 0+1
def aCn.b(n:Int):Prop:=0<=n/\n < 2305843009213688668
theorem am7(h:List Int)(n:Int)(hn:aCn.b n):aCn.b (h.foldl (λn b=>(n*256+b)%2305843009213688668) n):=by
 induction h generalizing n with
 |nil=>exact hn
 |cons p l ih=>exact ih _ ⟨kT _ ak,kk _ ak⟩
theorem ZU(h:List Int):0 < Qr h/\Qr h < 2305843009213688669:=by have:=am7 h 0 ⟨ak,ak⟩;have h1:=this.1;have h2:=this.2;unfold Qr;omega
theorem au3(a b:Int):Qn (aqD a b):=⟨kT _ ak,kk _ ak⟩
theorem aLR(a b:Int):Qn (ajy a b):=⟨kT _ ak,kk _ ak⟩
def arV:Int->Prop:=λ_=>True
def Qq:Int->Bool:=λa=>gr a 2305843009213688669
def FK:Fs Tryz.prog arV bu Qq:=eN 86 Tryz.f86 (λa=>([.d tu a],[])) (λx=>⟨.d .bool x,[],[]⟩) [some tu]
theorem ayD{R:Type}(a)(k:K1 R):FK.A a k=k (FK.out (gr a 2305843009213688669)):=b8
theorem ayE:FK.Ok:=by intro a _;rw[ayD];rfl
theorem NU:FK.RS:=rE [.d tu] FK
def To:=FK.eU ayE
def aKX:Int->Prop:=λa=>nV a
def aEZ:Int->Int:=λa=>aGz a
def aJx:Fs Tryz.prog aKX bu aEZ:=eN 215 Tryz.f215 (λa=>([.d tu a],[])) (λx=>⟨.d tu x,[],[]⟩) [some tu]
theorem aON{R:Type}(a)(k:K1 R):aJx.A a k=k (aJx.out (mS a 2305843009213688669)):=b8
theorem aOO:aJx.Ok:=by intro a ha;rw[aON,wC ha.1];rfl
theorem XS:aJx.RS:=rE [.d tu] aJx
def aE0:=aJx.eU aOO
def ayB:(Int×Int)->Prop:=λ(a,b)=>Qn a/\Qn b
def aKY:(Int×Int)->Int:=λ(a,b)=>(a+b)%2305843009213688669
def ZT:Fs Tryz.prog ayB bu aKY:=eN 216 Tryz.f216 (λ(a,b)=>([.d tu a,.d tu b],[])) (λx=>⟨.d tu x,[],[]⟩) [some tu,some tu]
theorem aE1{R:Type}(a b)(k:K1 R):ZT.A (a,b) k=k (ZT.out (mS (bI .u64 a b) 2305843009213688669)):=b8
theorem aE2:ZT.Ok:=by
 rintro⟨a,b⟩ ⟨ha,hb⟩;have ha:Qn a:=ha;have hb:Qn b:=hb;obtain⟨h1,h2⟩:=ha;obtain⟨h3,h4⟩:=hb;have e:bI .u64 a b=a+b:=by rw[uK];omega
 rw[aE1,e,wC ak];rfl
theorem ayC:ZT.RS:=rE [.d tu,.d tu] ZT
def aE3:=ZT.eU aE2
def arW:(Int×Int)->Prop:=λ(a,b)=>Qn a/\Qn b
def aE4:(Int×Int)->Int:=λ(a,b)=>a*b%2305843009213688669
def NV:Fs Tryz.prog arW bu aE4:=eN 217 Tryz.f217 (λ(a,b)=>([.d tu a,.d tu b],[])) (λx=>⟨.d tu x,[],[]⟩) [some tu,some tu] [an1,ab7]
theorem ayF{R:Type}(a b)(k:K1 R):NV.A (a,b) k=al (Q2.call (a,b)) λx1=>al (Rq.call (x1.1,x1.2,2305843009213688669)) λx2=>k (NV.out x2):=b8
theorem ayG:NV.Ok:=by rintro⟨a,b⟩ ⟨ha,hb⟩;have ha:Qn a:=ha;have hb:Qn b:=hb;obtain⟨m1,m2⟩:=TR ha.1 (show a<=18446744073709551615 by have:=ha.2;omega) hb.1 (show b<=18446744073709551615 by have:=hb.2;omega);have n:(18446744073709551615:Int)*18446744073709551615=340282366920938463426481119284349108225:=rfl;rw[n]at m2;have p:T5 (a*b / 18446744073709551616,a*b%18446744073709551616,2305843009213688669):=⟨fi (lZ rfl),ak,ak,ak,ak⟩;rw[ayF,agt (d:=(a,b)) ⟨ha.u,hb.u⟩];simp only[ah,bu,X9];rw[T6 p];simp only[ah,bu,Rr,adq];rfl
theorem arX:NV.RS:=rE [.d tu,.d tu] NV
def ayH:=NV.eU ayG
def aEK:(Int×Int)->Prop:=λ(a,b)=>nV a/\nV b
def aOM:(Int×Int)->Int:=λ(a,b)=>aqD a b
def arQ:Fs Tryz.prog aEK bu aOM:=eN 182 Tryz.f182 (λ(a,b)=>([.d tu a,.d tu b],[])) (λx=>⟨.d tu x,[],[]⟩) [some tu,some tu] [aE0,aE3]
theorem aKQ{R:Type}(a b)(k:K1 R):arQ.A (a,b) k=al (aJx.call a) λx1=>al (aJx.call b) λx2=>al (ZT.call (x1,x2)) λx3=>k (arQ.out x3):=b8
theorem aKR:arQ.Ok:=by rintro⟨a,b⟩ ⟨ha,hb⟩;rw[aKQ,XS (d:=a) ha,XS (d:=b) hb];simp only[ah,bu,aEZ];rw[ayC (d:=(aGz a,aGz b)) ⟨ajD a,ajD b⟩];rfl
theorem aEL:arQ.RS:=rE [.d tu,.d tu] arQ
def aKS:=arQ.eU aKR
def aEX:(Int×Int)->Prop:=λ(a,b)=>nV a/\nV b
def aEW:(Int×Int)->Int:=λ(a,b)=>ajy a b
def arU:Fs Tryz.prog aEX bu aEW:=eN 183 Tryz.f183 (λ(a,b)=>([.d tu a,.d tu b],[])) (λx=>⟨.d tu x,[],[]⟩) [some tu,some tu] [aE0,ayH]
theorem aKU{R:Type}(a b)(k:K1 R):arU.A (a,b) k=al (aJx.call a) λx1=>al (aJx.call b) λx2=>al (NV.call (x1,x2)) λx3=>k (arU.out x3):=b8
theorem aKV:arU.Ok:=by rintro⟨a,b⟩ ⟨ha,hb⟩;rw[aKU,XS (d:=a) ha,XS (d:=b) hb];simp only[ah,bu,aEZ];rw[arX (d:=(aGz a,aGz b)) ⟨ajD a,ajD b⟩];rfl
theorem aEY:arU.RS:=rE [.d tu,.d tu] arU
def aKW:=arU.eU aKV
def aiN:(Int×Bs×Int)->Prop:=λ(n,h,i)=>aCn.b n/\h.length=32/\Bytes h/\∃k:Nat,k<=32/\i=k
def FI:(Int×Bs×Int)->Int:=λ(n,h,i)=>(h.drop i.toNat).foldl (λn b=>(n*256+b)%2305843009213688668) n
def ayw:Bs->Prop:=λh=>h.length=32/\Bytes h
def aiM:Bs->Int:=λh=>Qr h
def uG:Ls aiN bu FI:=rp (λ(n,t6,t7)=>⟨([bF,bF,bF,.d tu n,bF,bF,.d tH t6,.d ti t7]++aP 13 []),[],(ab 21 [])⟩) (λx=>(.exit 0,⟨([bF,bF,bF,.d tu x]++aP 17 []),[],(ab 21 [])⟩))
def Ik:Fs Tryz.prog ayw bu aiM:=eN 135 Tryz.f135 (λh=>([.d tH h],[])) (λx=>⟨.d tu x,[],[]⟩) [some tH] [ab7] {loops:=nY [(3,{aV:=[3,6,7]})],outs:=nX [(3,{aV:=[3]},{aV:=[2]})],fF:=nK [(3,uG.E)]}
theorem aiO:uG.RS:=rL [.d tu,.d tB,.d ti] uG
theorem L7{R:Type}(n t6 t7)(kn:K2 R)(kx:K3 R):Ik.R 0 uG (n,t6,t7) kn kx=aJ ((gr t7 32)) (aJ (ed t7 32) (al (Rq.call ((cz .u64 n 56),(cG .or .u64 (mI .u64 n 8) (dX .u64 (nth tb t6 (ae t7)))),2305843009213688668)) λx1=>kn (uG.st (x1,t6,(bI .i64 t7 1)))) none) (uG.go kx n):=b8
theorem aER{R:Type}(h)(k:K1 R):Ik.A h k=al (uG.call (0,h,0)) λx2=>k (Ik.out (bI .u64 x2 1)):=b8
theorem Vw{n b:Int}(hn:aCn.b n)(hb:ahx b):cz .u64 n 56*18446744073709551616+cG .or .u64 (mI .u64 n 8) (dX .u64 b)=n*256+b/\nV (cz .u64 n 56)/\nV (cG .or .u64 (mI .u64 n 8) (dX .u64 b)):=by
 obtain⟨h1,h2⟩:=hn;obtain⟨h3,h4⟩:=hb;have p56:(2:Int)^56=72057594037927936:=rfl;have p8:(2:Int)^8=256:=rfl;have e:dX .u64 b=b:=by rw[aFt];omega
 rw[wZ 56 (by rfl) ak,wY 8 (by rfl) ak,p56,p8,e,Q7 8 256 rfl ak ak ak ak ak ak];exact⟨ak,⟨ak,ak⟩,ak,ak⟩
theorem am0:(Ik.kM 0 uG):=by
 refine(Ik.mf 0 uG) (λ(n,h,i)=>32 - i.toNat) ?_
 rintro⟨n,h,i⟩ ⟨hn,hl,hb,k,hk,rfl⟩;have hn:aCn.b n:=hn;have hl:h.length=32:=hl;have hb:Bytes h:=hb;by_cases gQ:k < 32
 ·left;have hx:ahx (h[k]'(ak)):=hb _ (aN _);have n1:nth (.int .u8) h k=h[k]'(ak):=cd (t:= .int .u8) ak;obtain⟨d1,d2,d3⟩:=Vw hn hx;refine⟨((n*256+h[k]'(ak))%2305843009213688668,h,((k+1:Nat):Int)),⟨⟨ak,ak⟩,hl,hb,k+1,ak,rfl⟩,by simp only[aa];omega,?_,λkn kx=> ?_⟩
  ·simp only[bu,FI,aa];rw[aq (by omega:k < h.length)];rfl
  ·rw[L7];simp(disch:=omega) only[↓S1,↓if_pos,↓if_neg,if_pos,if_neg,bG,bt,S2,n1];rw[T6 (d:=(_,_,2305843009213688668)) ⟨fi (fi rfl),d2.1,d2.2,d3.1,d3.2⟩];simp only[ah,bu,Rr,d1]
 ·right;obtain rfl:k=32:=ak;intro R kn kx;rw[L7];simp(disch:=omega) only[↓S1,↓if_pos,↓if_neg,if_pos,if_neg,bG,bt,S2,bu,FI];rw[dZ ak];rfl
theorem aES:Ik.Ok:=by
 rintro h ⟨hl,hb⟩;have e:=am7 h 0 ⟨ak,ak⟩;have h1:=e.1;have h2:=e.2;rw[aER,aiO (d:=(0,h,0)) ⟨⟨ak,ak⟩,hl,hb,0,ak,rfl⟩];simp only[ah,bu,FI,bu,aiM,Qr,aX,aD]
 revert h1 h2
 generalize h.foldl (λn b=>(n*256+b)%2305843009213688668) 0=m;intro h1 h2;have e:bI .u64 m 1=m+1:=by rw[uK];omega
 rw[e]
theorem afZ:Ik.RS:=rE [.d tB] Ik
def am1:=Ik.eU aES 1 ⟨.fv am0,trivial⟩
theorem alG(n:Int): [dX .u8 (cz .u64 n 56),dX .u8 (cz .u64 n 48),dX .u8 (cz .u64 n 40),dX .u8 (cz .u64 n 32),dX .u8 (cz .u64 n 24),dX .u8 (cz .u64 n 16),dX .u8 (cz .u64 n 8),dX .u8 (cz .u64 n 0)]=jr n:=aqQ n
theorem eY{α:Type}{l:List α}{n:Nat}(h:l.length=n):cut l 0 n=l:=by subst h;simp[cut]
theorem aIu{n:ByteArray}{a b c:List Int}(hn:n.size<=100)(ha:a.length<=1000000)(hb:b.length<=1000000)(hc:c.length<=1000000):QD (n,[a,b,c]):=by show(UA _ [a,b,c]).length<=_;rw[UA];simp only[oP,dx,qf,ai,cn,lv,ba];omega
theorem aIt{n:ByteArray}{a b:List Int}(hn:n.size<=100)(ha:a.length<=1000000)(hb:b.length<=1000000):QD (n,[a,b]):=by show(UA _ [a,b]).length<=_;rw[UA];simp only[oP,dx,qf,ai,cn,lv,ba];omega
theorem R0{n:ByteArray}{a:List Int}(hn:n.size<=100)(ha:a.length<=1000000):QD (n,[a]):=by show(UA _ [a]).length<=_;rw[UA];simp only[oP,dx,qf,ai,cn,lv,ba];omega
def Sm(m:List Int):Prop:=m.length=32/\Bytes m
theorem aPZ(b:List Int):Sm (aPU b):=⟨at3 b,axL b⟩
theorem akp(n:List Int)(ps:List (List Int)):Sm (tag n ps):=aPZ _
def aIs(n:ByteArray)(ps:List (List Int)):List Int:=tag (bH n) ps
def aSc:ByteArray:=⟨#[115,105,103]⟩
def asI:ByteArray:=⟨#[110,111,110,99,101]⟩
def G3(r p:Int)(m:List Int):Int:=Qr (aIs aSc [jr r,jr p,m])
theorem Y3(r p:Int)(m:List Int):Qn (G3 r p m):=by have:=ZU (aIs aSc [jr r,jr p,m]);exact⟨by unfold G3;omega,by unfold G3;omega⟩
def aN4(s:Sg):Prop:=nV s.1/\nV s.2.1
def AJ(p:Int)(m:List Int)(t:Int)(s:Sg):Bool:=if p=1\/vu p=false\/vu t=false\/vu s.1=false\/¬s.2.1 < 2305843009213688669 then false else decide (gq s.2.1=XI [s.1,Gw p (G3 s.1 p m),an5 t])
def ahH(k nonce:Int)(m:List Int)(t:Int):Sg:=(XI [gq nonce,t],aqD nonce (ajy (G3 (XI [gq nonce,t]) (gq k) m) k),())
def aGx(k:Int)(m:List Int):Int:=Qr (aIs asI [jr k,m])
def mN(k:Int)(m:List Int):Sg:=if k < 2305843009213688669/\k≠0 then ahH k (aGx k m) m 1 else(0,0,())
def arM:Int->Prop:=λ_=>True
def ZI:Int->Bs:=λn=>jr n
def FE:Fs Tryz.prog arM bu ZI:=eN 136 Tryz.f136 (λn=>([.d tu n],[])) (λx=>⟨.d tB x,[],[]⟩) [some tu] [] {loops:=nY [(3,{aV:=[0,3,7,8],sites:=[5]})],outs:=nX [(3,{aV:=[3],sites:=[5]},{aV:=[2],sites:=[5]})],res:=[some tB]} 12
theorem ayq{R:Type}(n)(k:K1 R):FE.A n k=k (FE.out [(dX .u8 (cz .u64 n 56)),(dX .u8 (cz .u64 n 48)),(dX .u8 (cz .u64 n 40)),(dX .u8 (cz .u64 n 32)),(dX .u8 (cz .u64 n 24)),(dX .u8 (cz .u64 n 16)),(dX .u8 (cz .u64 n 8)),(dX .u8 (cz .u64 n 0))]):=b8
theorem ayr:FE.Ok:=by intro n _;rw[ayq,alG];rfl
theorem NJ:FE.RS:=rE [.d tu] FE
def afW:=FE.eU ayr 1 ⟨.none b8,trivial⟩
def axT:(Int×Int×Bs)->Prop:=λ(r,p,m)=>Sm m
def ah1:(Int×Int×Bs)->Int:=λ(r,p,m)=>G3 r p m
def Vb:Fs Tryz.prog axT bu ah1:=eN 184 Tryz.f184 (λ(r,p,m)=>([.d tu r,.d tu p,.d tH m],[])) (λx=>⟨.d tu x,[],[]⟩) [some tu,some tu,some tH] [afW,XZ,am1]
theorem aDw{R:Type}(r p m)(k:K1 R):Vb.A (r,p,m) k=al (FE.call r) λx1=>al (FE.call p) λx2=>al (Tv.call ((⟨#[115,105,103]⟩:ByteArray),[x1,x2,(cut m 0 32)])) λx3=>al (Ik.call x3) λx4=>k (Vb.out x4):=b8
theorem aDx:Vb.Ok:=by rintro⟨r,p,m⟩ hm;have hm:Sm m:=hm;rw[aDw,NJ (d:=r) trivial,NJ (d:=p) trivial];simp only[ah,bu,ZI];rw[eY hm.1,QE (aIu (by decide) (by rw[cn];omega) (by rw[cn];omega) (by rw[hm.1];omega))];simp only[ah,bu,ai6];rw[afZ (d:=tag (bH (⟨#[115,105,103]⟩:ByteArray)) [jr r,jr p,m]) (akp _ _)];rfl
theorem afB:Vb.RS:=rE [.d tu,.d tu,.d tB] Vb
def al8:=Vb.eU aDx
abbrev ag7:=Int×Bs×Int×Sg
def apn:ag7->Prop:=λ(p,m,t,s)=>nV p/\Sm m/\nV t/\aN4 s
def ag8:ag7->Bool:=λ(p,m,t,s)=>AJ p m t s
def sK:Fs Tryz.prog apn bu ag8:=eN 250 Tryz.f250 (λ(p,m,t,pre)=>([.d tu p,.d tH m,.d tu t,.d Av pre],[])) (λx=>⟨.d .bool x,[],[]⟩) [some tu,some tH,some tu,some Av] [TY,To,al8,agL,aMh,awm,Rc]
theorem atX{R:Type}(p m t pre)(k:K1 R):sK.A (p,m,t,pre) k=aJ ((qY p 1)) (k (sK.out false)) (al (vT.call p) λx1=>aJ ((!x1)) (k (sK.out false)) (al (vT.call t) λx2=>aJ ((!x2)) (k (sK.out false)) (al (vT.call pre.1) λx3=>aJ ((!x3)) (k (sK.out false)) (al (FK.call pre.2.1) λx4=>aJ ((!x4)) (k (sK.out false)) (al (Vb.call (pre.1,p,m)) λx5=>al (IX.call (p,x5)) λx6=>al (as3.call t) λx7=>al (abr.call [pre.1,x6,x7]) λx8=>al (He.call pre.2.1) λx9=>k (sK.out (qY x9 x8))))))):=b8
theorem atY:sK.Ok:=by
 rintro⟨p,m,t,s⟩ ⟨hp,hm,ht,hs⟩;have hp:nV p:=hp;have ht:nV t:=ht;have hm:Sm m:=hm;have hs:aN4 s:=hs;rw[atX,Bq (d:=p) hp,Bq (d:=t) ht,Bq (d:=s.1) hs.1,NU (d:=s.2.1) trivial];simp only[ah,bu,Ri,bu,Qq,bu,ag8,AJ];by_cases h1:p=1
 ·rw[du h1,aj,if_pos (lZ h1)]
 rw[eS h1,ao];cases h2:vu p
 ·rw[if_pos (fi (lZ rfl))];rfl
 cases h3:vu t
 ·rw[if_pos (fi (fi (lZ rfl)))];rfl
 cases h4:vu s.1
 ·rw[if_pos (fi (fi (fi (lZ rfl))))];rfl
 by_cases h5:s.2.1 < 2305843009213688669
 ·rw[aU h5,if_neg (by simp[h1,h5])];have hq:=Y3 s.1 p m;rw[afB (d:=(s.1,p,m)) hm];simp only[cm,ao,ah,bu,ah1];rw[aby (d:=(p,G3 s.1 p m)) ⟨hp,hq.u⟩,aGZ (d:=t) ht];simp only[ah,bu,aoy,bu,aGX];have q:abt [s.1,Gw p (G3 s.1 p m),an5 t]:=⟨by
   intro x hx;simp only[bY,List.not_mem_nil,or_false]at hx;rcases hx with rfl | rfl | rfl
   ·exact hs.1
   ·exact(aoB _ _).u
   ·exact(aoB _ _).u,by simp only[aA,ba];omega⟩
  rw[aor q,Ep (d:=s.2.1) hs.2];rfl
 ·rw[aQ h5,if_pos (fi (fi (fi (fi h5))))];rfl
theorem apo:sK.RS:=rE [.d tu,.d tB,.d tu,.d Av] sK
def atZ:=sK.eU atY
def apO:(Int×Bs×Sg)->Prop:=λ(p,m,s)=>nV p/\Sm m/\aN4 s
def ahg:(Int×Bs×Sg)->Bool:=λ(p,m,s)=>AJ p m 1 s
def GC:Fs Tryz.prog apO bu ahg:=eN 244 Tryz.f244 (λ(p,m,sv)=>([.d tu p,.d tH m,.d Av sv],[])) (λx=>⟨.d .bool x,[],[]⟩) [some tu,some tH,some Av] [atZ]
theorem auk{R:Type}(p m sv)(k:K1 R):GC.A (p,m,sv) k=al (sK.call (p,m,1,sv)) λx1=>k (GC.out x1):=b8
theorem aul:GC.Ok:=by rintro⟨p,m,s⟩ ⟨hp,hm,hs⟩;rw[auk,apo (d:=(p,m,1,s)) ⟨hp,hm,⟨ak,ak⟩,hs⟩];rfl
theorem apP:GC.RS:=rE [.d tu,.d tB,.d Av] GC
def aum:=GC.eU aul
def aH8:Int->Prop:=λ_=>True
def at6:Int->Bool:=λk=>decide (k < 2305843009213688669/\k≠0)
def apB:Fs Tryz.prog aH8 bu at6:=eN 133 Tryz.f133 (λkv=>([.d tu kv],[])) (λx=>⟨.d .bool x,[],[]⟩) [some tu] [To]
theorem aMJ{R:Type}(kv)(k:K1 R):apB.A kv k=al (FK.call kv) λx1=>aJ (x1) (k (apB.out (A7 kv 0))) (k (apB.out false)):=b8
theorem aMK:apB.Ok:=by
 intro k _;rw[aMJ,NU (d:=k) trivial];simp only[ah,bu,Qq,bu,at6];by_cases h:k < 2305843009213688669
 ·rw[aU h,aj];by_cases h0:k=0
  ·rw[dB h0,aS (λx=>x.2 h0)]
  ·rw[fo h0,aM ⟨h,h0⟩]
 ·rw[aQ h,ao,aS (λx=>h x.1)]
theorem aH9:apB.RS:=rE [.d tu] apB
def aML:=apB.eU aMK
abbrev ag6:=Int×Int×Bs×Int
def apl:ag6->Prop:=λ(k,n,m,t)=>nV k/\nV n/\Sm m/\nV t
def aA5:ag6->Sg:=λ(k,n,m,t)=>ahH k n m t
def Gv:Fs Tryz.prog apl bu aA5:=eN 134 Tryz.f134 (λ(kv,nonce,m,t)=>([.d tu kv,.d tu nonce,.d tH m,.d tu t],[])) (λx=>⟨.d Av x,[],[]⟩) [some tu,some tu,some tH,some tu] [Rc,aMa,al8,aKW,aKS]
theorem atU{R:Type}(kv nonce m t)(k:K1 R):Gv.A (kv,nonce,m,t) k=al (He.call nonce) λx1=>al (asS.call (x1,t)) λx2=>al (He.call kv) λx3=>al (Vb.call (x2,x3,m)) λx4=>al (arU.call (x4,kv)) λx5=>al (arQ.call (nonce,x5)) λx6=>k (Gv.out (x2,(x6,()))):=b8
theorem atV:Gv.Ok:=by rintro⟨k,n,m,t⟩ ⟨hk,hn,hm,ht⟩;have hk:nV k:=hk;have hn:nV n:=hn;have hm:Sm m:=hm;have ht:nV t:=ht;rw[atU,Ep (d:=n) hn];simp only[ah,bu,Yc];rw[aGQ (d:=(gq n,t)) ⟨(aoB _ _).u,ht⟩,Ep (d:=k) hk];simp only[ah,bu,Yc,bu,aGO];rw[afB (d:=(XI [gq n,t],gq k,m)) hm];simp only[ah,bu,ah1];rw[aEY (d:=(G3 (XI [gq n,t]) (gq k) m,k)) ⟨(Y3 _ _ _).u,hk⟩];simp only[ah,bu,aEW];rw[aEL (d:=(n,ajy (G3 (XI [gq n,t]) (gq k) m) k)) ⟨hn,(aLR _ _).u⟩];rfl
theorem apm:Gv.RS:=rE [.d tu,.d tu,.d tB,.d tu] Gv
def atW:=Gv.eU atV
def aBh:(Int×Bs)->Prop:=λ(k,m)=>nV k/\Sm m
def akv:(Int×Bs)->Sg:=λ(k,m)=>mN k m
def WJ:Fs Tryz.prog aBh bu akv:=eN 89 Tryz.f89 (λ(kv,m)=>([.d tu kv,.d tH m],[])) (λx=>⟨.d Av x,[],[]⟩) [some tu,some tH] [aML,afW,XZ,am1,atW]
theorem aIk{R:Type}(kv m)(k:K1 R):WJ.A (kv,m) k=al (apB.call kv) λx1=>aJ ((!x1)) (k (WJ.out (0,(0,())))) (al (FE.call kv) λx2=>al (Tv.call ((⟨#[110,111,110,99,101]⟩:ByteArray),[x2,(cut m 0 32)])) λx3=>al (Ik.call x3) λx4=>al (Gv.call (kv,x4,m,1)) λx5=>k (WJ.out x5)):=b8
theorem aIl:WJ.Ok:=by
 rintro⟨k,m⟩ ⟨hk,hm⟩;have hk:nV k:=hk;have hm:Sm m:=hm;rw[aIk,aH9 (d:=k) trivial];simp only[ah,bu,at6,bu,akv,mN];by_cases h:k < 2305843009213688669/\k≠0
 ·rw[aM h,if_pos h,NJ (d:=k) trivial,eY hm.1];simp only[cm,ao,ah,bu,ZI];rw[QE (aIt (by decide) (by rw[cn];omega) (by rw[hm.1];omega))];simp only[ah,bu,ai6];rw[afZ (d:=tag (bH (⟨#[110,111,110,99,101]⟩:ByteArray)) [jr k,m]) (akp _ _)];simp only[ah,bu,aiM];have q:=ZU (tag (bH (⟨#[110,111,110,99,101]⟩:ByteArray)) [jr k,m]);rw[apm (d:=(k,Qr (tag (bH (⟨#[110,111,110,99,101]⟩:ByteArray)) [jr k,m]),m,1)) ⟨hk,⟨ak,ak⟩,hm,ak,ak⟩];rfl
 ·rw[aS h,if_neg h];rfl
theorem aBi:WJ.RS:=rE [.d tu,.d tB] WJ
def aIm:=WJ.eU aIl
def GV(l:List Int):Prop:=∀x∈l,nV x
def aCl(b:ot):Prop:=GV b.1/\nV b.2.2.2.1
def adK(l:Lk):Prop:=∀b∈l.1,aCl b
def NY(n:Int):Bool:=decide (0<=n/\n<=1048576)
def vh(b:ot):Bool:=decide (b.1.length<=12) && (b.1.all vu && (NY b.2.1 && (NY b.2.2.1 && (decide (b.2.2.2.1=0) || vu b.2.2.2.1))))
def kS(l:Lk):Bool:=l.1.all vh && decide (0 < l.1.length/\l.1.length<=4)
def yD:List Int->Int->Int⊕Unit
 |[],_=> .inr ()
 |p::ps,i=>if vu p then yD ps (i+1) else .inl i
def au5(l:List Int):Int:=match yD l 0 with | .inl i=>i | .inr _=> -1
theorem UT:∀(l:List Int) (i:Int),0<=i->(match yD l i with | .inl i=>decide (i>=0) | .inr _=>false)= !(l.all vu)
 |[],_,_=>rfl
 |p::ps,i,h=>by
  rw[yD,ff];cases hp:vu p
  ·simp[h]
  ·simp only[bG,bw];exact UT ps (i+1) ak
theorem aw7(l:List Int):Cn (au5 l) 0= !(l.all vu):=by
 have:=UT l 0 ak;unfold au5 Cn;cases h:yD l 0
 ·rw[h]at this;exact this
 ·rw[h]at this;rw[<-this];rfl
def aFR:Int->Prop:=λp=>nV p
def aji:Int->Bool:=λp=> !vu p
def anH:Fs Tryz.prog aFR bu aji:=eN 141 Tryz.f141 (λp=>([.d tu p],[])) (λx=>⟨.d .bool x,[],[]⟩) [some tu] [TY]
theorem aLD{R:Type}(p)(k:K1 R):anH.A p k=al (vT.call p) λx1=>k (anH.out (!x1)):=b8
theorem aLE:anH.Ok:=by intro p hp;rw[aLD,Bq (d:=p) hp];rfl
theorem aaq:anH.RS:=rE [.d tu] anH
def av0:=anH.eU aLE
abbrev xC:=Bs×Int×Int
def qE:xC->AS:=λ(mq,t7,t8)=>⟨([.d tU mq,.fn 141 (.nil)]++aP 5 ([.d ti t7,.d ti t8]++aP 10 [])),[],(ab 19 [])⟩
def wM:Int->Exit×AS:=λx=>(.ret,⟨(aP 4 ([.d ti x]++aP 14 [])),[],(ab 19 [])⟩)
def wN:Unit->Exit×AS:=λx=>(.exit 0,⟨(aP 19 []),[],(ab 19 [])⟩)
abbrev IU:=(Int)⊕(Unit)
abbrev Wh:=(Int)⊕(Unit)
def Df:IU->Out (Exit×AS):=λx=> .br x.isLeft (.get x.getLeft? λa=> .ok (wM a)) (.get x.getRight? λb=> .ok (wN b))
def jR:xC->Wh->IU:=λ(mq,t7,t8) y=>match y with | .inl y=> .inl y | .inr z=> .inr (z)
def wK:xC->Prop:=λ(l,n,i)=>GV l/\l.length<=1000000000/\n=l.length/\∃k:Nat,k<=l.length/\i=k
def ng:xC->Wh:=λ(l,n,i)=>yD (l.drop i.toNat) i
def as1:Bs->Prop:=λl=>GV l/\l.length<=1000000000
def abx:Bs->Int:=λl=>au5 l
def Wf:=dz.fv qE wK jR ng Df
def IV:xC->Option IU:=gM Wf qE
def yc:Fs Tryz.prog as1 bu abx:=eN 186 Tryz.f186 (λsv=>([.d tU sv,.fn 141 (.nil)],[])) (λx=>⟨.d ti x,[],[]⟩) [some tU,none] [av0] {loops:=nY [(2,{aV:=[0,1,7,8]})],outs:=nX [(2,{},{aV:=[4]})],fF:=nK [(2,Wf)]}
def Wg:= @eC Tryz.prog (jI yc.G) yc.an 0 Tryz.f186 0 _ qE
abbrev Rf:=kP Tryz.prog (jI yc.G) yc.an 0 Tryz.f186 0 qE wK jR ng Df
theorem aem:jf IV wK jR ng:=mn (jx [.d tU,.d ti,.d ti] λ_=>b8)
theorem OD:nq @Wg qE wK jR ng Df Rf:=oa
theorem Bp{R:Type}(mq:Bs)(t7:Int)(t8:Int)(kn:AS->Option R)(kx:Exit->AS->Option R):Wg (mq,t7,t8) kn kx=aJ ((gr t8 t7)) (aJ (ed t8 (((ag mq):Nat):Int)) (al (anH.call (nth tu mq (ae t8))) λx1=>aJ (x1) (kx (wM t8).1 (wM t8).2) (kn (qE (mq,t7,(bI .i64 t8 (1:Int)))))) none) (kx (wN ()).1 (wN ()).2):=b8
theorem az0{R:Type}(sv)(k:K1 R):yc.A sv k=al (IV (sv,(sv.length:Int),0)) λx2=>aJ (x2.isLeft) (al (x2.getLeft?) λa3=>k (yc.out a3)) (al (x2.getRight?) λb4=>k (yc.out (-1))):=b8
theorem ajO:Rf:=by
 refine OD (λ(l,n,i)=>l.length - i.toNat) ?_
 rintro⟨l,n,i⟩ ⟨hl,hb,rfl,k,hk,rfl⟩;have hb:l.length<=1000000000:=hb;have hk:k<=l.length:=hk;by_cases h:k < l.length
 ·have hx:=hl _ (aN h);have n1:nth (.int .u64) l k=l[k]:=cd (t:= .int .u64) h;have hd:yD (l.drop k) k=if vu l[k] then yD (l.drop (k+1)) ((k+1:Nat):Int) else .inl (k:Int):=by rw[aq h];rfl
  cases hp:vu l[k]
  ·right;refine⟨wM (k:Int),?_,λkn kx=> ?_⟩
   ·simp only[jR,ng,aa,hd,hp,bn,bt];rfl
   ·rw[Bp];simp(disch:=omega) only[↓S1,↓if_pos,↓if_neg,if_pos,if_neg,bG,bt,S2,n1];rw[aaq (d:=l[k]) hx];simp only[ah,bu,aji,hp,fb,aj]
  ·left;refine⟨(l,l.length,((k+1:Nat):Int)),⟨hl,hb,rfl,k+1,ak,rfl⟩,by simp only[aa];omega,?_,λkn kx=> ?_⟩
   ·simp only[jR,ng,aa,hd,hp,bG]
   ·rw[Bp];simp(disch:=omega) only[↓S1,↓if_pos,↓if_neg,if_pos,if_neg,bG,bt,S2,n1];rw[aaq (d:=l[k]) hx];simp only[ah,bu,aji,hp,cm,ao]
 ·right;obtain rfl:k=l.length:=ak;refine⟨wN (),?_,λkn kx=> ?_⟩
  ·simp only[jR,ng,aa,aL];rfl
  ·rw[Bp];simp(disch:=omega) only[↓S1,↓if_pos,↓if_neg,if_pos,if_neg,bG,bt,S2]
theorem az1:yc.Ok:=by rintro l ⟨hl,hb⟩;rw[az0,aem (d:=(l,l.length,0)) ⟨hl,hb,rfl,0,ak,rfl⟩];simp only[ah,jR,ng,aX,aD,bu,abx,au5];cases yD l 0 <;> rfl
theorem as2:yc.RS:=rE [.d tU] yc
def az2:=yc.eU az1 1 ⟨.fv ajO,trivial⟩
def aek:Bs->Prop:=λl=>GV l/\l.length<=1000000000
def Wc:Bs->Bool:=λl=> !(l.all vu)
def vQ:Fs Tryz.prog aek bu Wc:=eN 143 Tryz.f143 (λsv=>([.d tU sv,.fn 141 (.nil)],[])) (λx=>⟨.d .bool x,[],[]⟩) [some tU,none] [az2]
theorem ajL{R:Type}(sv)(k:K1 R):vQ.A sv k=al (yc.call sv) λx1=>k (vQ.out (Cn x1 0)):=b8
theorem ajM:vQ.Ok:=by rintro l ⟨hl,hb⟩;rw[ajL,as2 (d:=l) ⟨hl,hb⟩];simp only[ah,bu,abx,aw7];rfl
theorem ael:vQ.RS:=rE [.d tU] vQ
def ajN:=vQ.eU ajM
def anI:Int->Prop:=λ_=>True
def TL:Int->Bool:=λn=>NY n
def zA:Fs Tryz.prog anI bu TL:=eN 144 Tryz.f144 (λn=>([.d ti n],[])) (λx=>⟨.d .bool x,[],[]⟩) [some ti]
theorem ast{R:Type}(n)(k:K1 R):zA.A n k=aJ ((Cn n 0)) (k (zA.out (ai7 n 1048576))) (k (zA.out false)):=b8
theorem asu:zA.Ok:=by
 intro n _;rw[ast];simp only[bu,TL,NY];by_cases h:0<=n
 ·rw[gA h,aj];by_cases h2:n<=1048576
  ·rw[og h2,aM ⟨h,h2⟩]
  ·rw[ke h2,aS (λx=>h2 x.2)]
 ·rw[eF h,ao,aS (λx=>h x.1)]
theorem VN:zA.RS:=rE [.d ti] zA
def asv:=zA.eU asu
abbrev xy:=Lk×(List ot)×Int×Int
def lM:xy->AS:=λ(vj,t7,t8,t9)=>⟨([bF,.dO Pe vj,bF,.fn 141 (.nil),bF,bF,bF,.d (.slice ki) t7,.d ti t8,.d ti t9]++aP 47 []),[],(ab 57 [])⟩
def fh:Unit->Exit×AS:=λx=>(.ret,⟨([bF,bF,.d .bool false]++aP 54 []),[],(ab 57 [])⟩)
def wH:Lk->Exit×AS:=λx=>(.exit 0,⟨([bF,.dO Pe x]++aP 55 []),[],(ab 57 [])⟩)
abbrev IF:=(Unit)⊕(Lk)
abbrev VU:=(Unit)⊕(Unit)
def Db:IF->Out (Exit×AS):=λx=> .br x.isLeft (.get x.getLeft? λa=> .ok (fh a)) (.get x.getRight? λb=> .ok (wH b))
def jQ:xy->VU->IF:=λ(vj,t7,t8,t9) y=>match y with | .inl y=> .inl y | .inr z=> .inr (vj)
def wG:xy->Prop:=λ(l,bs,n,i)=>(∀b∈bs,aCl b)/\bs.length<=9223372036854775807/\n=bs.length/\∃k:Nat,k<=bs.length/\i=k
def nf:xy->VU:=λ(l,bs,n,i)=>if(bs.drop i.toNat).all vh then .inr () else .inl ()
def asz:Lk->Prop:=λl=>adK l/\l.1.length<=9223372036854775807
def Ek:Lk->Bool:=λl=>kS l
def VT:=dz.fv lM wG jQ nf Db
def IG:xy->Option IF:=gM VT lM
def pE:Fs Tryz.prog asz bu Ek:=eN 91 Tryz.f91 (λl=>([.d Pe l],[])) (λx=>⟨.d .bool x,[],[]⟩) [some Pe] [ajN,asv,av0] {loops:=nY [(3,{aV:=[1,3,7,8,9]})],outs:=nX [(3,{aV:=[1]},{aV:=[2]})],fF:=nK [(3,VT)]}
def IE:= @eC Tryz.prog (jI pE.G) pE.an 0 Tryz.f91 0 _ lM
abbrev QX:=kP Tryz.prog (jI pE.G) pE.an 0 Tryz.f91 0 lM wG jQ nf Db
theorem aea:jf IG wG jQ nf:=mn (jx [.d Pe,.d (.slice ki),.d ti,.d ti] λ_=>b8)
theorem Oc:nq @IE lM wG jQ nf Db QX:=oa
theorem IH{R:Type}(vj:Lk)(t7:(List ot))(t8:Int)(t9:Int)(kn:AS->Option R)(kx:Exit->AS->Option R):IE (vj,t7,t8,t9) kn kx=aJ ((gr t9 t8)) (aJ (ed t9 (((ag t7):Nat):Int)) (aJ ((qZ (((ag (nth ki t7 (ae t9)).1):Nat):Int) (12:Int))) (kx (fh ()).1 (fh ()).2) (al (vQ.call (nth ki t7 (ae t9)).1) λx1=>aJ (x1) (kx (fh ()).1 (fh ()).2) (al (zA.call (nth ki t7 (ae t9)).2.1) λx2=>aJ ((!x2)) (kx (fh ()).1 (fh ()).2) (al (zA.call (nth ki t7 (ae t9)).2.2.1) λx3=>aJ ((!x3)) (kx (fh ()).1 (fh ()).2) (aJ ((A7 (nth ki t7 (ae t9)).2.2.2.1 (0:Int))) (al (anH.call (nth ki t7 (ae t9)).2.2.2.1) λx4=>aJ (x4) (kx (fh ()).1 (fh ()).2) (kn (lM (vj,t7,t8,(bI .i64 t9 (1:Int)))))) (kn (lM (vj,t7,t8,(bI .i64 t9 (1:Int)))))))))) none) (kx (wH vj).1 (wH vj).2):=b8
theorem azr{R:Type}(l)(k:K1 R):pE.A l k=al (IG (l,l.1,(l.1.length:Int),0)) λx5=>aJ (x5.isLeft) (al (x5.getLeft?) λa6=>k (pE.out false)) (al (x5.getRight?) λb7=>aJ ((qZ (b7.1.length:Int) 0)) (k (pE.out (ai7 (b7.1.length:Int) 4))) (k (pE.out false))):=b8
theorem ajt:QX:=by
 refine Oc (λ(l,bs,n,i)=>bs.length - i.toNat) ?_
 rintro⟨l,bs,n,i⟩ ⟨hl,hb,rfl,k,hk,rfl⟩;have hb:bs.length<=9223372036854775807:=hb;have hk:k<=bs.length:=hk;by_cases h:k < bs.length
 ·have hx:aCl bs[k]:=hl _ (aN h);have n1:nth (.pair (.slice (.int .u64)) (.pair (.int .i64) (.pair (.int .i64) (.pair (.int .u64) .unit)))) bs k=bs[k]:=cd (t:=(.pair (.slice (.int .u64)) (.pair (.int .i64) (.pair (.int .i64) (.pair (.int .u64) .unit))))) h;have hd:(bs.drop k).all vh=(vh bs[k] && (bs.drop (k+1)).all vh):=by rw[aq h,ff]
  have step:∀ {R:Type} (kn:AS->Option R) (kx:Exit->AS->Option R),IE (l,bs,(bs.length:Int),(k:Int)) kn kx=aJ (vh bs[k]) (kn (lM (l,bs,(bs.length:Int),((k+1:Nat):Int)))) (kx (fh ()).1 (fh ()).2):=by
   intro R kn kx;rw[IH,aU ak,bj ak ak,aa,n1,N.mD ak];obtain⟨⟨ks,af,dl,sc,u⟩,aOS⟩:∃b,bs[k]=b:=⟨_,rfl⟩;rw[aOS]at hx ⊢;have h1:GV ks:=hx.1;have h2:nV sc:=hx.2;simp only[aj,vh];by_cases hk:ks.length<=12
   ·rw[cr ak,ael (d:=ks) ⟨h1,ak⟩,VN (d:=af) trivial,VN (d:=dl) trivial,aaq (d:=sc) h2,aM hk];simp only[ao,ah,bu,Wc,bu,TL,bu,aji,bw];cases ks.all vu
    ·rfl
    cases NY af
    ·rfl
    cases NY dl
    ·rfl
    by_cases hs:sc=0
    ·rw[dB hs,aM hs];rfl
    ·rw[fo hs,aS hs];cases vu sc <;> rfl
   ·rw[cP ak,aS hk];rfl
  cases hp:vh bs[k]
  ·right;refine⟨fh (),?_,λkn kx=> ?_⟩
   ·simp only[jQ,nf,aa,hd,hp,cH,bn,bt];rfl
   ·rw[step,hp,ao]
  ·left;refine⟨(l,bs,bs.length,((k+1:Nat):Int)),⟨hl,hb,rfl,k+1,ak,rfl⟩,by simp only[aa];omega,?_,λkn kx=> ?_⟩
   ·simp only[jQ,nf,aa,hd,hp,bw]
   ·rw[step,hp,aj]
 ·right;obtain rfl:k=bs.length:=ak;refine⟨wH l,?_,λkn kx=> ?_⟩
  ·simp only[jQ,nf,aa,aL];rfl
  ·rw[IH];simp(disch:=omega) only[↓S1,↓if_pos,↓if_neg,if_pos,if_neg,bG,bt,S2]
theorem azs:pE.Ok:=by
 rintro l ⟨hl,hb⟩;have hb:l.1.length<=9223372036854775807:=hb;rw[azr,aea (d:=(l,l.1,l.1.length,0)) ⟨hl,hb,rfl,0,ak,rfl⟩];simp only[ah,jQ,nf,aX,aD,bu,Ek,kS];cases l.1.all vh
 ·rfl
 ·simp only[bG,bw];show aJ (qZ _ _) _ _=_;by_cases h0:0 < l.1.length
  ·rw[cP ak];by_cases h4:l.1.length<=4
   ·rw[og ak,aM ⟨h0,h4⟩];rfl
   ·rw[ke ak,aS (λx=>h4 x.2)];rfl
  ·rw[cr ak,aS (λx=>h0 x.1)];rfl
theorem Bf:pE.RS:=rE [.d Pe] pE
def El:=pE.eU azs 1 ⟨.fv ajt,trivial⟩
def yp(m:List Int):List Int->List Sg->Bool
 |[],_=>true
 |p::ps,ss=>AJ p m 1 (ss.headD (0,0,())) && yp m ps ss.tail
def yx(l:Lk)(w:UR)(m:List Int)(height age:Int):Int:=
 if kS l=false\/w.1 < 0\/w.1>=l.1.length then 1
 else
  let b:=nth (.pair (.slice (.int .u64)) (.pair (.int .i64) (.pair (.int .i64) (.pair (.int .u64) .unit)))) l.1 w.1.toNat
  if height < b.2.1\/age < b.2.2.1 then 11
  else if b.2.2.2.1≠0/\gq w.2.2.1≠b.2.2.2.1 then 23
  else if w.2.1.length≠b.1.length then 7
  else if yp m b.1 w.2.1 then 0 else 7
theorem aBQ(m:List Int)(ks:List Int)(ss:List Sg)(h:ss.length=ks.length)(k:Nat)(hk:k < ks.length):yp m (ks.drop k) (ss.drop k)=(AJ ks[k] m 1 (ss[k]'(ak)) && yp m (ks.drop (k+1)) (ss.drop (k+1))):=by rw[aq hk,aq (by omega:k < ss.length)];rfl
def Yp(w:UR):Prop:=(∀s∈w.2.1,aN4 s)/\nV w.2.2.1
abbrev Bc:=UR×Bs×Bs×Int×Int
def pC:Bc->AS:=λ(auR,av9,t68,t69,t70)=>⟨(aP 6 ([.dO aBl auR,.dO tH av9]++aP 60 ([.d tU t68,.d ti t69,.d ti t70]++aP 14 []))),[],(ab 85 [])⟩
def qA:Unit->Exit×AS:=λx=>(.ret,⟨(aP 10 ([.d ti (7:Int)]++aP 74 [])),[],(ab 85 [])⟩)
def zC:Unit->Exit×AS:=λx=>(.exit 1,⟨(aP 85 []),[],(ab 85 [])⟩)
abbrev Oa:=(Unit)⊕(Unit)
abbrev aaz:=(Unit)⊕(Unit)
def FV:Oa->Out (Exit×AS):=λx=> .br x.isLeft (.get x.getLeft? λa=> .ok (qA a)) (.get x.getRight? λb=> .ok (zC b))
def lK:Bc->aaz->Oa:=λ(auR,av9,t68,t69,t70) y=>match y with | .inl y=> .inl y | .inr z=> .inr (z)
abbrev av5:=Lk×UR×Bs×Int×Int
def zB:Bc->Prop:=λ(w,m,ks,n,i)=>Yp w/\Sm m/\GV ks/\ks.length<=1000000000/\w.2.1.length=ks.length/\n=ks.length/\∃k:Nat,k<=ks.length/\i=k
def pB:Bc->aaz:=λ(w,m,ks,n,i)=>if yp m (ks.drop i.toNat) (w.2.1.drop i.toNat) then .inr () else .inl ()
def azn:av5->Prop:=λ(l,w,m,h,a)=>adK l/\l.1.length<=9223372036854775807/\Yp w/\Sm m
def ajm:av5->Int:=λ(l,w,m,h,a)=>yx l w m h a
def aay:=dz.fv pC zB lK pB FV
def wF:Bc->Option Oa:=gM aay pC
def nc:Fs Tryz.prog azn bu ajm:=eN 231 Tryz.f231 (λ(l,wv,m,height,age)=>([.d Pe l,.d aBl wv,.d tH m,.d ti height,.d ti age],[])) (λx=>⟨.d ti x,[],[]⟩) [some Pe,some aBl,some tH,some ti,some ti] [El,Rc,aum] {loops:=nY [(11,{aV:=[6,7,68,69,70]})],outs:=nX [(11,{},{aV:=[10]})],fF:=nK [(11,aay)]}
def N9:= @eC Tryz.prog (jI nc.G) nc.an 0 Tryz.f231 0 _ pC
abbrev VR:=kP Tryz.prog (jI nc.G) nc.an 0 Tryz.f231 0 pC zB lK pB FV
theorem ajn:jf wF zB lK pB:=mn (jx [.d aBl,.d tH,.d tU,.d ti,.d ti] λ_=>b8)
theorem QW:nq @N9 pC zB lK pB FV VR:=oa
theorem Mg{R:Type}(auR:UR)(av9:Bs)(t68:Bs)(t69:Int)(t70:Int)(kn:AS->Option R)(kx:Exit->AS->Option R):N9 (auR,av9,t68,t69,t70) kn kx=aJ ((gr t70 t69)) (aJ (ed t70 (((ag t68):Nat):Int)) (aJ (ed t70 (((ag auR.2.1):Nat):Int)) (al (GC.call ((nth tu t68 (ae t70)),av9,(nth Av auR.2.1 (ae t70)))) λx1=>aJ ((!x1)) (kx (qA ()).1 (qA ()).2) (kn (pC (auR,av9,t68,t69,(bI .i64 t70 (1:Int)))))) none) none) (kx (zC ()).1 (zC ()).2):=b8
theorem aF9{R:Type}(l wv m height age)(k:K1 R):nc.A (l,wv,m,height,age) k=al (pE.call l) λx1=>aJ ((!x1)) (k (nc.out 1)) (aJ ((gr wv.1 0)) (k (nc.out 1)) (aJ ((Cn wv.1 (l.1.length:Int))) (k (nc.out 1)) (aJ (ed wv.1 (l.1.length:Int)) (aJ ((gr height (nth ki l.1 (ae wv.1)).2.1)) (k (nc.out 11)) (aJ ((gr age (nth ki l.1 (ae wv.1)).2.2.1)) (k (nc.out 11)) (aJ ((A7 (nth ki l.1 (ae wv.1)).2.2.2.1 0)) (al (He.call wv.2.2.1) λx2=>aJ ((A7 x2 (nth ki l.1 (ae wv.1)).2.2.2.1)) (k (nc.out 23)) (aJ ((A7 (wv.2.1.length:Int) (((ag (nth ki l.1 (ae wv.1)).1):Nat):Int))) (k (nc.out 7)) (al (wF (wv,m,(nth ki l.1 (ae wv.1)).1,(((ag (nth ki l.1 (ae wv.1)).1):Nat):Int),0)) λx4=>aJ (x4.isLeft) (al (x4.getLeft?) λa5=>k (nc.out 7)) (al (x4.getRight?) λb6=>k (nc.out 0))))) (aJ ((A7 (wv.2.1.length:Int) (((ag (nth ki l.1 (ae wv.1)).1):Nat):Int))) (k (nc.out 7)) (al (wF (wv,m,(nth ki l.1 (ae wv.1)).1,(((ag (nth ki l.1 (ae wv.1)).1):Nat):Int),0)) λx7=>aJ (x7.isLeft) (al (x7.getLeft?) λa8=>k (nc.out 7)) (al (x7.getRight?) λb9=>k (nc.out 0))))))) none))):=b8
theorem anS:VR:=by
 refine QW (λ(w,m,ks,n,i)=>ks.length - i.toNat) ?_
 rintro⟨w,m,ks,n,i⟩ ⟨hw,hm,hl,hb,hs,rfl,k,hk,rfl⟩;have hb:ks.length<=1000000000:=hb;have hk:k<=ks.length:=hk;have hs:w.2.1.length=ks.length:=hs;by_cases h:k < ks.length
 ·have hx:=hl _ (aN h);have hy:=hw.1 _ (aN (by omega:k < w.2.1.length));have n1:nth (.int .u64) ks k=ks[k]:=cd (t:= .int .u64) h;have n2:nth (.pair (.int .u64) (.pair (.int .u64) .unit)) w.2.1 k=w.2.1[k]'(ak):=cd (t:=(.pair (.int .u64) (.pair (.int .u64) .unit))) ak;have hd:=aBQ m ks w.2.1 hs k h;have step:∀ {R:Type} (kn:AS->Option R) (kx:Exit->AS->Option R),N9 (w,m,ks,(ks.length:Int),(k:Int)) kn kx=aJ (AJ ks[k] m 1 (w.2.1[k]'(ak))) (kn (pC (w,m,ks,(ks.length:Int),((k+1:Nat):Int)))) (kx (qA ()).1 (qA ()).2):=by intro R kn kx;rw[Mg,aU ak,bj ak ak,bj ak ak,aa,n1,n2,N.mD ak,apP (d:=(ks[k],m,w.2.1[k]'(ak))) ⟨hx,hm,hy⟩];simp only[aj,ah,bu,ahg];cases AJ ks[k] m 1 (w.2.1[k]'(ak)) <;> rfl
  cases hp:AJ ks[k] m 1 (w.2.1[k]'(ak))
  ·right;refine⟨qA (),?_,λkn kx=> ?_⟩
   ·simp only[lK,pB,aa,hd,hp,cH,bn,bt];rfl
   ·rw[step,hp,ao]
  ·left;refine⟨(w,m,ks,ks.length,((k+1:Nat):Int)),⟨hw,hm,hl,hb,hs,rfl,k+1,ak,rfl⟩,by simp only[aa];omega,?_,λkn kx=> ?_⟩
   ·simp only[lK,pB,aa,hd,hp,bw]
   ·rw[step,hp,aj]
 ·right;obtain rfl:k=ks.length:=ak;refine⟨zC (),?_,λkn kx=> ?_⟩
  ·simp only[lK,pB,aa,aL];rfl
  ·rw[Mg];simp(disch:=omega) only[↓S1,↓if_pos,↓if_neg,if_pos,if_neg,bG,bt,S2]
theorem azh{l:Lk}(h:kS l=true){b:ot}(hb:b∈l.1):b.1.length<=12:=by unfold kS at h;rw[au,cW]at h;have:=h.1 b hb;unfold vh at this;rw[au]at this;simpa using this.1
theorem aGa:nc.Ok:=by
  rintro⟨l,w,m,h,a⟩ ⟨hl,hb,hw,hm⟩;have hl:adK l:=hl;have hb:l.1.length<=9223372036854775807:=hb;have hw:Yp w:=hw;have hm:Sm m:=hm;rw[aF9,Bf (d:=l) ⟨hl,hb⟩];simp only[ah,bu,Ek,bu,ajm,yx];cases jn:kS l
  · rw[if_pos (lZ rfl)];rfl
  by_cases h0:w.1 < 0
  · rw[aU h0,if_pos (fi (lZ h0))];rfl
  by_cases h1:w.1>=l.1.length
  · rw[aQ h0,gA h1,if_pos (fi (fi h1))];rfl
  rw[aQ h0,eF h1,bj ak ak,if_neg (by simp[h0];omega)];have hn:w.1.toNat < l.1.length:=ak;have n1:nth (.pair (.slice (.int .u64)) (.pair (.int .i64) (.pair (.int .i64) (.pair (.int .u64) .unit)))) l.1 w.1.toNat=l.1[w.1.toNat]:=cd (t:=(.pair (.slice (.int .u64)) (.pair (.int .i64) (.pair (.int .i64) (.pair (.int .u64) .unit))))) hn;rw[n1];have hx:aCl l.1[w.1.toNat]:=hl _ (aN hn);have aRG:=azh jn (aN hn);obtain⟨⟨ks,af,dl,sc,u⟩,aOS⟩:∃b,l.1[w.1.toNat]=b:=⟨_,rfl⟩;rw[aOS]at hx aRG ⊢;have aFc:GV ks:=hx.1;have aRG:ks.length<=12:=aRG;simp only[cm,ao,aj];by_cases e1:h < af
  · rw[aU e1,if_pos (lZ e1)];rfl
  by_cases e2:a < dl
  · rw[aQ e1,aU e2,if_pos (fi e2)];rfl
  rw[aQ e1,aQ e2,if_neg (by simp[e1,e2]),Ep (d:=w.2.2.1) hw.2];simp only[ao,ah,bu,Yc]
  have last:aJ (A7 ((w.2.1.length:Nat):Int) ((ks.length:Nat):Int)) (some (nc.out (7:Int))) (
          al (wF (w,m,ks,((ks.length:Nat):Int),(0:Int))) λx4=>
          aJ (x4.isLeft) (al (x4.getLeft?) λa5=>some (nc.out (7:Int))) (al (x4.getRight?) λb6=>some (nc.out (0:Int))))=some (nc.out (if w.2.1.length≠ks.length then 7 else if yp m ks w.2.1 then 0 else 7)):=by
    by_cases e3:w.2.1.length=ks.length
    · rw[dB ak,if_neg (by simp[e3]),ao,ajn (d:=(w,m,ks,ks.length,0)) ⟨hw,hm,aFc,by show ks.length<=1000000000;omega,e3,rfl,0,ak,rfl⟩]
      simp only[ah,lK,pB,aX,aD];cases yp m ks w.2.1 <;> rfl
    · rw[fo ak,if_pos e3];rfl
  by_cases e4:sc=0
  · rw[dB e4,if_neg (by simp[e4]),ao]
    exact last
  · rw[fo e4,aj]
    by_cases e5:gq w.2.2.1=sc
    · rw[dB e5,if_neg (by simp[e5]),ao]
      exact last
    · rw[fo e5,if_pos ⟨e4,e5⟩];rfl
theorem azo:nc.RS:=rE [.d Pe,.d aBl,.d tB,.d ti,.d ti] nc
def aGb:=nc.eU aGa 1 ⟨.fv anS,trivial⟩
def axe:Int->Prop:=λn=>∃k:Nat,n=k/\k<=100000000
def ava:Int->(Nat×(List Int)):=λn=>(0,ab n.toNat 0)
def UX:Fs Tryz.prog axe bu ava:=eN 212 Tryz.f212 (λn=>([.de,.d ti n],[])) (λx=>⟨.bA (.new 0 0) 0 [] 0 0 x.1,[],[.obj 0 false (.vec 5 tb x.2)]⟩) [none,some ti] [] {owns:=[⟨4,[],22,127⟩]}
theorem aCT{R:Type}(n)(k:K1 R):UX.A n k=aJ ((gr n 0)) (none) (aJ ((qZ (cR .i64 n 0) 0)) (aJ (decide (0 < (cR .i64 n 0)) && db (ae (cR .i64 n 0)) 1) (aJ (inc 0 (((ae (cR .i64 n 0)):Nat):Int)) (k (UX.out (0,(ab (ae (cR .i64 n 0)) 0)))) none) none) (k (UX.out (0,([]:List Int))))):=b8
theorem aCU:UX.Ok:=by
 rintro n ⟨k,rfl,hk⟩;have e:cR .i64 (k:Int) 0=(k:Int):=by rw[eL ak ak];omega
 rw[aCT,e,aQ ak,ao];by_cases h:0 < k
 ·rw[cP ak,aa,aM ak,dr ak ak,uL ak ak];rfl
 ·obtain rfl:k=0:=ak;rfl
theorem axf:UX.RS:=rE [.d ti] UX
def aCV:=UX.eU aCU
def uO(l:List (List Int)):Nat:=l.flatten.length
def adR(n:Nat)(l:List Int):List (List Int)->Nat×List Int
 |[]=>(n,l)
 |s::r=>(n+(s::r).flatten.length,l.take n++(s::r).flatten)
theorem axO(n:Nat)(l s:List Int)(r:List (List Int))(h:n<=l.length):adR n l (s::r)=adR (n+s.length) (l.take n++s) r:=by
 have hl:(l.take n++s).length=n+s.length:=by rw[ai,bp];omega
 cases r with
 |nil=>simp[adR]
 |cons t r=>
  simp only[adR];rw[aY (ug hl)];simp only[jt,ai,aF,eP]
theorem aKM(n:Nat)(z:List Int)(r:List (List Int)):(adR 0 z r).1<=(adR 0 z r).2.length/\cut (adR 0 z r).2 0 (adR 0 z r).1=r.flatten:=by
 cases r with
 |nil=>exact⟨aK _,rfl⟩
 |cons s r=>
  simp only[adR,dH,aT,aO];exact⟨ax _,by show aR _ (bR 0 _)=_;rw[aD,bK]⟩
abbrev E2:=(List Bs)×Int×(List Bs)×Int×Int
def uk:E2->Int->(((List Bs))×(Int)):=λ(BC,size,t9,t10,t11) y=>(BC,y)
abbrev Pu:=Nat×(List Bs)×Int×Int×(List Int)
def HS:E2->Prop:=λ(s,size,t,n,i)=>s.length<=1000000/\t=s/\n=s.length/\∃k z:Nat,k<=s.length/\i=k/\size=z/\z+uO (s.drop k)<=100000000
def yE:E2->Int:=λ(s,size,t,n,i)=>((size:Int)+((uO (s.drop i.toNat):Nat):Int):Int)
def HT:Pu->Prop:=λ(n,s,t,i,l)=>s.length<=1000000/\n<=l.length/\t=s.length/\∃k:Nat,k<=s.length/\i=k/\n+uO (s.drop k)<=100000000
def yF:Pu->(Nat×(List Int)):=λ(n,s,t,i,l)=>adR n l (s.drop i.toNat)
def alE:(List Bs)->Prop:=λs=>s.length<=1000000/\uO s<=100000000
def SN:(List Bs)->Bs:=λs=>s.flatten
def nv:Ls HS uk yE:=rp (λ(BC,size,t9,t10,t11)=>⟨([.d (.slice tB) BC,bF,bF,.d ti size]++aP 5 ([.d (.slice tB) t9,.d ti t10,.d ti t11]++aP 24 [])),[],(ab 36 [])⟩) (λx=>(.exit 0,⟨([.d (.slice tB) x.1,bF,bF,.d ti x.2]++aP 32 []),[],(ab 36 [])⟩))
def nw:Ls HT bu yF:=rp (λ(newsliceL,t25,t26,t27,n24)=>⟨(aP 6 ([om 24 newsliceL]++aP 18 ([.d (.slice tB) t25,.d ti t26,.d ti t27]++aP 8 []))),[],(bM 24 ([dK (.vec 5 tb n24)]++bM 11 []))⟩) (λx=>(.exit 2,⟨(aP 6 ([om 24 x.1]++aP 29 [])),[],(bM 24 ([dK (.vec 5 tb x.2)]++bM 11 []))⟩))
def oK:Fs Tryz.prog alE bu SN:=eN 175 Tryz.f175 (λslices=>([.d (.slice tB) slices],[])) (λx=>⟨.d tB x,[],[]⟩) [some (.slice tB)] [aCV] {loops:=nY [(3,{aV:=[0,3,9,10,11]}),(11,{aV:=[6,25,26,27],sites:=[24],owns:=[⟨6,[],24,127⟩]})],outs:=nX [(3,{aV:=[0,3]},{aV:=[2]}),(11,{aV:=[6],sites:=[24]},{aV:=[2]})],fF:=nK [(3,nv.E),(11,nw.E)],res:=[some tB]}
theorem YK:nv.RS:=rL [.d (.slice tB),.d ti,.d (.slice tB),.d ti,.d ti] nv
theorem GX{R:Type}(BC size t9 t10 t11)(kn:K2 R)(kx:K3 R):oK.R 0 nv (BC,size,t9,t10,t11) kn kx=aJ ((gr t11 t10)) (aJ (ed t11 (t9.length:Int)) (aJ ((gr (bI .i64 size (((ag (nth tB t9 (ae t11))):Nat):Int)) 0)) (none) (kn (nv.st (BC,(bI .i64 size (((ag (nth tB t9 (ae t11))):Nat):Int)),t9,t10,(bI .i64 t11 1))))) none) (nv.go kx (BC,size)):=b8
theorem YL:nw.RS:=rL [.n,.d (.slice tB),.d ti,.d ti,.d tB] nw
theorem GY{R:Type}(newsliceL t25 t26 t27 n24)(kn:K2 R)(kx:K3 R):oK.R 1 nw (newsliceL,t25,t26,t27,n24) kn kx=aJ ((gr t27 t26)) (aJ (ed t27 (t25.length:Int)) (aJ (decide (newsliceL<=(ag n24))) (aJ (db (newsliceL+(ag (nth tB t25 (ae t27)))) 1) (kn (nw.st ((newsliceL+(ag (nth tB t25 (ae t27)))),t25,t26,(bI .i64 t27 1),((aR newsliceL n24)++(nth tB t25 (ae t27)))))) none) none) none) (nw.go kx (newsliceL,n24)):=b8
theorem aqO{R:Type}(slices)(k:K1 R):oK.A slices k=al (nv.call (slices,0,slices,(slices.length:Int),0)) λx1=>al (UX.call x1.2) λx2=>al (nw.call (x2.1,x1.1,(x1.1.length:Int),0,x2.2)) λx3=>aJ (decide (0=0/\(0+x3.1)<=(ag x3.2))) (k (oK.out (cut x3.2 0 x3.1))) none:=b8
theorem av2(s:List (List Int))(k:Nat)(h:k < s.length):uO (s.drop k)=s[k].length+uO (s.drop (k+1)):=by unfold uO;rw[aq h,jt,ai]
theorem adO:(oK.kM 0 nv):=by
 refine(oK.mf 0 nv) (λ(s,size,t,n,i)=>s.length - i.toNat) ?_
 rintro⟨s,size,t,n,i⟩ ⟨hs,rfl,rfl,k,z,hk,rfl,rfl,hz⟩;have hs:t.length<=1000000:=hs;have hk:k<=t.length:=hk;have hz:z+uO (t.drop k)<=100000000:=hz;by_cases h:k < t.length
 ·left;have n1:nth (.slice (.int .u8)) t k=t[k]:=cd (t:= .slice (.int .u8)) h;have hd:=av2 t k h;refine⟨(t,((z+t[k].length:Nat):Int),t,t.length,((k+1:Nat):Int)),⟨hs,rfl,rfl,k+1,z+t[k].length,ak,rfl,rfl,ak⟩,by simp only[aa];omega,?_,λkn kx=> ?_⟩
  ·simp only[uk,yE,aa];rw[hd];refine bo _ ?_
   omega
  ·rw[GX];simp(disch:=omega) only[↓S1,↓if_pos,↓if_neg,if_pos,if_neg,bG,bt,S2,n1]
 ·right;obtain rfl:k=t.length:=ak;intro R kn kx;rw[GX];simp(disch:=omega) only[↓S1,↓if_pos,↓if_neg,if_pos,if_neg,bG,bt,S2,uk,yE,aL];simp only[uO,qg,ba,Int.natCast_zero,Int.add_zero]
theorem adP:(oK.kM 1 nw):=by
 refine(oK.mf 1 nw) (λ(n,s,t,i,l)=>s.length - i.toNat) ?_
 rintro⟨n,s,t,i,l⟩ ⟨hs,hn,rfl,k,hk,rfl,hz⟩;have hs:s.length<=1000000:=hs;have hn:n<=l.length:=hn;have hk:k<=s.length:=hk;have hz:n+uO (s.drop k)<=100000000:=hz;by_cases h:k < s.length
 ·left;have n1:nth (.slice (.int .u8)) s k=s[k]:=cd (t:= .slice (.int .u8)) h;have hd:=av2 s k h;refine⟨(n+s[k].length,s,s.length,((k+1:Nat):Int),l.take n++s[k]),⟨hs,by rw[ai,bp];omega,rfl,k+1,ak,rfl,ak⟩,by simp only[aa];omega,?_,λkn kx=> ?_⟩
  ·simp only[bu,yF,aa];rw[aq h,axO _ _ _ _ hn]
  ·rw[GY];simp(disch:=omega) only[↓S1,↓if_pos,↓if_neg,if_pos,if_neg,bG,bt,S2,n1]
 ·right;obtain rfl:k=s.length:=ak;intro R kn kx;rw[GY];simp(disch:=omega) only[↓S1,↓if_pos,↓if_neg,if_pos,if_neg,bG,bt,S2,bu,yF,aL];rfl
theorem aqP:oK.Ok:=by rintro s ⟨hs,hz⟩;have hs:s.length<=1000000:=hs;have hz:uO s<=100000000:=hz;have p1:HS (s,0,s,s.length,0):=⟨hs,rfl,rfl,0,0,ak,rfl,rfl,by rw[aD];omega⟩;have p2:HT (0,s,s.length,0,ab (uO s) 0):=⟨hs,ak,rfl,0,ak,rfl,by rw[aD];omega⟩;rw[aqO,YK p1];simp only[ah,uk,yE,aX,aD,Int.zero_add];rw[axf (d:=((uO s:Nat):Int)) ⟨uO s,rfl,hz⟩];simp only[ah,bu,ava,aa];rw[YL p2];simp only[ah,bu,yF,aX,aD];obtain⟨c1,c2⟩:=aKM 0 (ab (uO s) 0) s;simp only[aO,c1,jl,cv,aj,c2];rfl
theorem UU:oK.RS:=rE [.d (.slice tB)] oK
def YM:=oK.eU aqP 2 ⟨.fv adO,⟨.fv adP,trivial⟩⟩
def afK:(Bs×Bs)->Prop:=λ(a,b)=>a.length+b.length<=100000000
def ah7:(Bs×Bs)->Bs:=λ(a,b)=>a++b
def H5:Fs Tryz.prog afK bu ah7:=eN 173 Tryz.f173 (λ(b,more)=>([.d tB b,.d tB more],[])) (λx=>⟨.d tB x,[],[]⟩) [some tB,some tB] [YM]
theorem aDG{R:Type}(b more)(k:K1 R):H5.A (b,more) k=al (oK.call [b,more]) λx1=>k (H5.out x1):=b8
theorem aDH:H5.Ok:=by rintro⟨a,b⟩ h;have h:a.length+b.length<=100000000:=h;rw[aDG,UU (d:=[a,b]) ⟨by show [a,b].length<=_;simp,by show uO [a,b]<=_;simp only[uO,jt,qg,aZ,ai];omega⟩];simp only[ah,bu,SN,bu,ah7,jt,qg,aZ]
theorem Kr:H5.RS:=rE [.d tB,.d tB] H5
def Zc:=H5.eU aDH
def gN:Nat->Int->List Int×Int
 | 0,n=>([],n)
 |f+1,n=>if 128<=n then((n%128+128)::(gN f (n / 128)).1,(gN f (n / 128)).2) else([],n)
def gw(n:Int):List Int:=(gN 10 n).1++ [(gN 10 n).2]
theorem KU:∀(f g:Nat) (n:Int),n < 128^(f+1)->n < 128^(g+1)->gN f n=gN g n
 | 0,0,n,_,_=>rfl
 | 0,g+1,n,h,_=>by have h:n < 128:=h;rw[gN,gN,if_neg ak]
 |f+1,0,n,_,h=>by have h:n < 128:=h;rw[gN,gN,if_neg ak]
 |f+1,g+1,n,h,h'=>by
  rw[gN,gN];split
  ·have e:(128:Int)^(f+1+1)=128^(f+1)*128:=fO 128 (f+1);have e':(128:Int)^(g+1+1)=128^(g+1)*128:=fO 128 (g+1);rw[KU f g (n / 128) ak ak]
  ·rfl
theorem acj:∀(f:Nat) (n:Int),(gN f n).1.length<=f
 | 0,_=>ax _
 |f+1,n=>by
  rw[gN];split
  ·have:=acj f (n / 128);simp only[aA];omega
  ·exact aK _
theorem ag0:∀(f:Nat) (n:Int),0<=n->n < 128^(f+1)->0<=(gN f n).2/\(gN f n).2 < 128
 | 0,n,h,h'=>by have h':n < 128:=h';exact⟨h,h'⟩
 |f+1,n,h,h'=>by
  rw[gN];have e:(128:Int)^(f+1+1)=128^(f+1)*128:=fO 128 (f+1);split
  ·exact ag0 f (n / 128) ak ak
  ·exact⟨h,ak⟩
theorem ag1{n:Int}(h:128<=n)(h2:n<=9223372036854775807):gN 10 n=((n%128+128)::(gN 10 (n / 128)).1,(gN 10 (n / 128)).2):=by have e:(128:Int)^(9+1)=1180591620717411303424:=rfl;have e2:(128:Int)^(10+1)=151115727451828646838272:=rfl;rw[gN,if_pos h,KU 9 10 (n / 128) (by rw[e];omega) (by rw[e2];omega)]
theorem kH(n:Int):(gw n).length<=11:=by have:=acj 10 n;unfold gw;simp only[ai,aA,ba];omega
def HD(n:Int):Prop:=0<=n/\n<=9223372036854775807
abbrev afQ:=Int×Nat×(List Int)
def Ve:afQ->Prop:=λ(n,m,l)=>HD n/\m=l.length/\l.length<=1000+0*n.toNat/\l.length+(gN 10 n).1.length<=100
def Kt:afQ->(Int×Nat×(List Int)):=λ(n,m,l)=>((gN 10 n).2,(l++(gN 10 n).1).length,l++(gN 10 n).1)
def aEg:Int->Prop:=λn=>HD n
def arH:Int->Bs:=λn=>gw n
def yT:Ls Ve bu Kt:=rp (λ(wJ,outL,n14)=>⟨([.d ti wJ,bF,bF,om 14 outL]++aP 16 []),[],(bM 14 ([dK (.vec 5 tb n14)]++bM 5 []))⟩) (λx=>(.exit 0,⟨([.d ti x.1,bF,bF,om 14 x.2.1]++aP 16 []),[],(bM 14 ([dK (.vec 5 tb x.2.2)]++bM 5 []))⟩))
def Zo:Fs Tryz.prog aEg bu arH:=eN 174 Tryz.f174 (λn=>([.d ti n],[])) (λx=>⟨.d tB x,[],[]⟩) [some ti] [] {loops:=nY [(2,{aV:=[0,3],sites:=[14],owns:=[⟨3,[],14,127⟩]})],outs:=nX [(2,{aV:=[0,3],sites:=[14]},{aV:=[2]})],fF:=nK [(2,yT.E)],res:=[some tB]}
theorem amx:yT.RS:=rL [.d ti,.n,.d tB] yT
theorem PY{R:Type}(wJ outL n14)(kn:K2 R)(kx:K3 R):Zo.R 0 yT (wJ,outL,n14) kn kx=aJ ((Cn wJ 128)) (aJ (decide (outL<=(ag n14))) (aJ (db (outL+1) 1) (kn (yT.st ((tX .i64 wJ 128),(outL+1),((aR outL n14)++ [(dX .u8 (bI .i64 (mS wJ 128) 128))])))) none) none) (yT.go kx (wJ,outL,n14)):=b8
theorem aKK{R:Type}(n)(k:K1 R):Zo.A n k=al (yT.call (n,0,([]:List Int))) λx1=>aJ (decide (x1.2.1<=(ag x1.2.2))) (aJ (db (x1.2.1+1) 1) (aJ (decide (0=0/\(0+(x1.2.1+1))<=(ag ((aR x1.2.1 x1.2.2)++ [(dX .u8 x1.1)])))) (k (Zo.out (cut ((aR x1.2.1 x1.2.2)++ [(dX .u8 x1.1)]) 0 (x1.2.1+1)))) none) none) none:=b8
theorem aEw{n:Int}(h:HD n):dX .u8 (bI .i64 (mS n 128) 128)=n%128+128:=by have h1:=h.1;rw[wC h.1,fZ ak ak,Tz,hZ];omega
theorem arI:(Zo.kM 0 yT):=by
 refine(Zo.mf 0 yT) (λ(n,m,l)=>n.toNat) ?_
 rintro⟨n,m,l⟩ ⟨hn,rfl,hl,hz⟩;have hn:HD n:=hn;have hz:l.length+(gN 10 n).1.length<=100:=hz;have h1:=hn.1;have h2:=hn.2;by_cases h:128<=n
 ·left;have e:=ag1 h h2;have hq:tX .i64 n 128=n / 128:=by rw[tX,ko h1];exact uJ ak ak
  have el:((n%128+128)::(gN 10 (n / 128)).1).length=(gN 10 (n / 128)).1.length+1:=aA;rw[e]at hz;have hz:l.length+((n%128+128)::(gN 10 (n / 128)).1).length<=100:=hz;rw[el]at hz;refine⟨(n / 128,l.length+1,l++ [n%128+128]),⟨⟨ak,ak⟩,by rw[ai];rfl,by rw[ai];simp only[aA,ba];omega,by rw[ai];simp only[aA,ba];omega⟩,by simp only[];omega,?_,λkn kx=> ?_⟩
  ·simp only[bu,Kt,e,aF,iW,aT]
  ·rw[PY,gA h,aEw hn,hq];simp(disch:=omega) only[↓S1,↓if_pos,↓if_neg,if_pos,if_neg,bG,bt,S2,ax,bK]
 ·right;have e:gN 10 n=([],n):=by rw[gN,if_neg h]
  intro R kn kx;rw[PY,eF h];simp only[ao,bu,Kt,e,aZ]
theorem aKL:Zo.Ok:=by
 intro n hn;have hn:HD n:=hn;have hl:=acj 10 n;have e2:(128:Int)^(10+1)=151115727451828646838272:=rfl;have hd:=ag0 10 n hn.1 (by have:=hn.2;rw[e2];omega);have p:Ve (n,0,[]):=⟨hn,rfl,by simp,by simp only[ba];omega⟩;have hi:dX .u8 (gN 10 n).2=(gN 10 n).2:=by rw[Tz,hZ];omega
 rw[aKK,amx p];simp only[ah,bu,Kt,aT,hi,bK,ax,cv,aj];rw[dr ak ak];simp only[aj,aO,ai,aA,ba,ax,jl,cv];rw[eY (by rw[ai];rfl)];rfl
theorem amy:Zo.RS:=rE [.d ti] Zo
def avs:=Zo.eU aKL 1 ⟨.fv arI,trivial⟩
def cF(b:List Int)(n:Int):List Int:=if n < 0 then b else b++gw n
theorem dy(b:List Int)(n:Int):(cF b n).length<=b.length+11:=by
 unfold cF;have:=kH n;split
 ·omega
 ·rw[ai];omega
def aD8:(Bs×Int)->Prop:=λ(b,n)=>b.length<=90000000/\n<=9223372036854775807
def pd:(Bs×Int)->Bs:=λ(b,n)=>cF b n
def AN:Fs Tryz.prog aD8 bu pd:=eN 113 Tryz.f113 (λ(b,n)=>([.d tB b,.d ti n],[])) (λx=>⟨.d tB x,[],[]⟩) [some tB,some ti] [Zc,avs]
theorem aKI{R:Type}(b n)(k:K1 R):AN.A (b,n) k=aJ ((gr n 0)) (al (H5.call (b,([]:List Int))) λx1=>k (AN.out x1)) (al (Zo.call n) λx2=>al (H5.call (b,x2)) λx3=>k (AN.out x3)):=b8
theorem aKJ:AN.Ok:=by
 rintro⟨b,n⟩ ⟨hb,hn⟩;have hb:b.length<=90000000:=hb;have hn:n<=9223372036854775807:=hn;rw[aKI];simp only[bu,pd,cF];by_cases h:n < 0
 ·rw[aU h,if_pos h,aj,Kr (d:=(b,[])) (by show b.length+([]:List Int).length<=_;simp only[ba];omega)];simp only[ah,bu,ah7,aZ]
 ·have hl:=kH n;rw[aQ h,if_neg h,ao,amy (d:=n) ⟨ak,hn⟩];simp only[ah,bu,arH];rw[Kr (d:=(b,gw n)) (by show b.length+(gw n).length<=_;omega)];rfl
theorem jA:AN.RS:=rE [.d tB,.d ti] AN
def XP:=AN.eU aKJ
def ayd:(Bs×Int)->Prop:=λ(b,n)=>b.length<=90000000
def PX:(Bs×Int)->Bs:=λ(b,n)=>b++jr n
def Ib:Fs Tryz.prog ayd bu PX:=eN 128 Tryz.f128 (λ(b,n)=>([.d tB b,.d tu n],[])) (λx=>⟨.d tB x,[],[]⟩) [some tB,some tu] [Zc] {loops:=nY [(3,{aV:=[0,1,5,7],sites:=[5,21]})],outs:=nX [(3,{aV:=[0,5],sites:=[5,21]},{aV:=[4],sites:=[5,21]})]} 12
theorem aEe{R:Type}(b n)(k:K1 R):Ib.A (b,n) k=al (H5.call (b,[(dX .u8 (cz .u64 n 56)),(dX .u8 (cz .u64 n 48)),(dX .u8 (cz .u64 n 40)),(dX .u8 (cz .u64 n 32)),(dX .u8 (cz .u64 n 24)),(dX .u8 (cz .u64 n 16)),(dX .u8 (cz .u64 n 8)),(dX .u8 (cz .u64 n 0))])) λx1=>k (Ib.out x1):=b8
theorem aEf:Ib.Ok:=by
 rintro⟨b,n⟩ hb;have hb:b.length<=90000000:=hb;have p:afK (b,jr n):=by show b.length+(jr n).length<=_;rw[cn];omega
 have e:H5.call (b,[dX .u8 (cz .u64 n 56),dX .u8 (cz .u64 n 48),dX .u8 (cz .u64 n 40),dX .u8 (cz .u64 n 32),dX .u8 (cz .u64 n 24),dX .u8 (cz .u64 n 16),dX .u8 (cz .u64 n 8),dX .u8 (cz .u64 n 0)])=some (b++jr n):=by rw[alG];exact Kr p
 rw[aEe];refine Eq.trans (bo (λx=>al x _) e) ?_
 rfl
theorem D9:Ib.RS:=rE [.d tB,.d tu] Ib
def amw:=Ib.eU aEf 1 ⟨.none b8,trivial⟩
def BP(w:UR):Bool:=decide (0<=w.1/\w.1 < 4) && decide (w.2.1.length<=12)
def Iu(x:gK):Bool:=decide (0<=x.1.2.1/\x.1.2.1 < 64) && BP x.2.1
def Qv(m:List (bC×Bool))(x:gK):Bool:=(bN bg x.1 m).getD false
def Ei:List (bC×Bool)->List gK->Bool
 |_,[]=>true
 |m,x::l=>(!(Qv m x) && Iu x) && Ei (eG bg x.1 true m) l
def sU(a:Int):Bool:=decide (0<=a/\a<=1125899906842624)
def Lr(a b:Int):Bool:=sU a && (sU b && decide (a+b<=1125899906842624))
def xZ:Int->List gm->Bool
 |_,[]=>true
 |s,o::l=>(Lr s o.1 && kS o.2.1) && xZ (s+o.1) l
def adr(t:dw):Bool:=decide (1<=t.1.length/\t.1.length<=64/\t.2.1.length<=64/\0<=t.2.2.1)
def hJ(t:dw):Bool:=adr t && (Ei [] t.1 && xZ 0 t.2.1)
def aN3(l:Lk):Prop:=adK l/\l.1.length<=9223372036854775807
def aQl(t:dw):Prop:=(∀o∈t.2.1,aN3 o.2.1)/\t.1.length<=9223372036854775807/\t.2.1.length<=9223372036854775807
def aIN:UR->Prop:=λ_=>True
def akR:UR->Bool:=λw=>BP w
def ae3:Fs Tryz.prog aIN bu akR:=eN 87 Tryz.f87 (λwv=>([.d aBl wv],[])) (λx=>⟨.d .bool x,[],[]⟩) [some aBl]
theorem aMW{R:Type}(wv)(k:K1 R):ae3.A wv k=aJ ((Cn wv.1 0)) (aJ ((gr wv.1 4)) (k (ae3.out (ai7 (wv.2.1.length:Int) 12))) (k (ae3.out false))) (k (ae3.out false)):=b8
theorem aMX:ae3.Ok:=by
 rintro⟨b,ss,sc,u⟩ _;rw[aMW];simp only[bu,akR,BP];by_cases h:0<=b
 ·rw[gA h,aj];by_cases h2:b < 4
  ·rw[aU h2,aj,aM ⟨h,h2⟩];by_cases h3:ss.length<=12
   ·rw[og ak,aM h3];rfl
   ·rw[ke ak,aS h3];rfl
  ·rw[aQ h2,ao,aS (λx=>h2 x.2)];rfl
 ·rw[eF h,ao,aS (λx=>h x.1)];rfl
theorem ap8:ae3.RS:=rE [.d aBl] ae3
def awK:=ae3.eU aMX
def asK:Int->Prop:=λ_=>True
def abc:Int->Bool:=λa=>sU a
def Gb:Fs Tryz.prog asK bu abc:=eN 169 Tryz.f169 (λa=>([.d ti a],[])) (λx=>⟨.d .bool x,[],[]⟩) [some ti]
theorem azC{R:Type}(a)(k:K1 R):Gb.A a k=aJ ((Cn a 0)) (k (Gb.out (ai7 a 1125899906842624))) (k (Gb.out false)):=b8
theorem azD:Gb.Ok:=by
 intro(a:Int) _;rw[azC];simp only[bu,abc,sU];by_cases h:0<=a
 ·rw[gA h,aj];by_cases h2:a<=1125899906842624
  ·rw[og h2,aM ⟨h,h2⟩]
  ·rw[ke h2,aS (λx=>h2 x.2)]
 ·rw[eF h,ao,aS (λx=>h x.1)]
theorem abd:Gb.RS:=rE [.d ti] Gb
def azE:=Gb.eU azD
def aGr:(Int×Int)->Prop:=λ_=>True
def asJ:(Int×Int)->(Int×Bool):=λ(a,b)=>(bif Lr a b then a+b else 0,Lr a b)
def aeh:Fs Tryz.prog aGr bu asJ:=eN 110 Tryz.f110 (λ(a,b)=>([.d ti a,.d ti b],[])) (λx=>⟨.cons (.d ti x.1) (.cons (.d .bool x.2) (.nil)),[],[]⟩) [some ti,some ti] [azE]
theorem aLW{R:Type}(a b)(k:K1 R):aeh.A (a,b) k=al (Gb.call a) λx1=>aJ ((!x1)) (k (aeh.out (0,false))) (al (Gb.call b) λx2=>aJ ((!x2)) (k (aeh.out (0,false))) (aJ ((qZ a (cR .i64 1125899906842624 b))) (k (aeh.out (0,false))) (k (aeh.out ((bI .i64 a b),true))))):=b8
theorem aLX:aeh.Ok:=by
 rintro⟨a,b⟩ _;rw[aLW,abd (d:=a) trivial,abd (d:=b) trivial];simp only[ah,bu,abc,bu,asJ,Lr];cases ha:sU a
 ·rfl
 ·cases hb:sU b
  ·rfl
  ·simp only[sU,aW]at ha hb;simp only[cm,ao,bw];rw[eL ak ak];by_cases h:a+b<=1125899906842624
   ·rw[cr ak,ao,aM h,fZ ak ak];rfl
   ·rw[cP ak,aj,aS h];rfl
theorem aGs:aeh.RS:=rE [.d ti,.d ti] aeh
def aLY:=aeh.eU aLX
abbrev xN:=dw×(List gK)×Int×Int×(List (bC×Bool))
def nP:xN->AS:=λ(oO,t33,t34,t35,n31)=>⟨([bF,.dO ez oO,bF,.cj (.new 31 0) 0]++aP 29 ([.d (.slice gh) t33,.d ti t34,.d ti t35]++aP 52 [])),[],(bM 31 ([dK (.mp bg .bool n31)]++bM 56 []))⟩
def gj:Unit->Exit×AS:=λx=>(.ret,⟨([bF,bF,.d .bool false]++aP 85 []),[],(ab 88 [])⟩)
def xd:dw->Exit×AS:=λx=>(.exit 0,⟨([bF,.dO ez x]++aP 86 []),[],(ab 88 [])⟩)
abbrev JZ:=(Unit)⊕(dw)
abbrev WT:=(Unit)⊕(Unit)
def DK:JZ->Out (Exit×AS):=λx=> .br x.isLeft (.get x.getLeft? λa=> .ok (gj a)) (.get x.getRight? λb=> .ok (xd b))
def j7:xN->WT->JZ:=λ(oO,t33,t34,t35,n31) y=>match y with | .inl y=> .inl y | .inr z=> .inr (oO)
abbrev xO:=Int×(List gm)×Int×Int
def nQ:xO->AS:=λ(sum,t66,t67,t68)=>⟨(aP 6 ([.d ti sum]++aP 59 ([.d (.slice gl) t66,.d ti t67,.d ti t68]++aP 19 []))),[],(ab 88 [])⟩
def j9:Unit->Exit×AS:=λx=>(.ret,⟨([bF,bF,.d .bool false]++aP 85 []),[],(ab 88 [])⟩)
def xf:Unit->Exit×AS:=λx=>(.exit 2,⟨(aP 88 []),[],(ab 88 [])⟩)
abbrev J3:=(Unit)⊕(Unit)
abbrev WV:=(Unit)⊕(Unit)
def DL:J3->Out (Exit×AS):=λx=> .br x.isLeft (.get x.getLeft? λa=> .ok (j9 a)) (.get x.getRight? λb=> .ok (xf b))
def j8:xO->WV->J3:=λ(sum,t66,t67,t68) y=>match y with | .inl y=> .inl y | .inr z=> .inr (z)
def xc:xN->Prop:=λ(t,l,n,i,m)=>l.length<=9223372036854775807/\n=l.length/\∃k:Nat,k<=l.length/\i=k
def nk:xN->WT:=λ(t,l,n,i,m)=>if Ei m (l.drop i.toNat) then .inr () else .inl ()
def xe:xO->Prop:=λ(s,l,n,i)=>(∀o∈l,aN3 o.2.1)/\l.length<=9223372036854775807/\n=l.length/\∃k:Nat,k<=l.length/\i=k
def np:xO->WV:=λ(s,l,n,i)=>if xZ s (l.drop i.toNat) then .inr () else .inl ()
def auu:dw->Prop:=λt=>aQl t
def rT:dw->Bool:=λt=>hJ t
def WS:=dz.fv nP xc j7 nk DK
def J0:xN->Option JZ:=gM WS nP
def WU:=dz.fv nQ xe j8 np DL
def BK:xO->Option J3:=gM WU nQ
def iN:Fs Tryz.prog auu bu rT:=eN 67 Tryz.f67 (λt=>([.d ez t],[])) (λx=>⟨.d .bool x,[],[]⟩) [some ez] [awK,aLY,El] {loops:=nY [(5,{aV:=[1,3,33,34,35],sites:=[31]}),(13,{aV:=[6,66,67,68]})],outs:=nX [(5,{aV:=[1]},{aV:=[2]}),(13,{},{aV:=[2]})],fF:=nK [(5,WS),(13,WU)]}
def JY:= @eC Tryz.prog (jI iN.G) iN.an 0 Tryz.f67 0 _ nP
abbrev R9:=kP Tryz.prog (jI iN.G) iN.an 0 Tryz.f67 0 nP xc j7 nk DK
def J2:= @eC Tryz.prog (jI iN.G) iN.an 0 Tryz.f67 1 _ nQ
abbrev Sa:=kP Tryz.prog (jI iN.G) iN.an 0 Tryz.f67 1 nQ xe j8 np DL
theorem aeZ:jf J0 xc j7 nk:=mn (jx [.d ez,.d (.slice gh),.d ti,.d ti,.d (.slice (.pair bg .bool))] λ_=>b8)
theorem O3:nq @JY nP xc j7 nk DK R9:=oa
theorem J1{R:Type}(oO:dw)(t33:(List gK))(t34:Int)(t35:Int)(n31:(List (bC×Bool)))(kn:AS->Option R)(kx:Exit->AS->Option R):JY (oO,t33,t34,t35,n31) kn kx=aJ ((gr t35 t34)) (aJ (ed t35 (((ag t33):Nat):Int)) (aJ (((bN bg (nth gh t33 (ae t35)).1 n31).getD false)) (kx (gj ()).1 (gj ()).2) (aJ ((gr (nth gh t33 (ae t35)).1.2.1 (0:Int))) (kx (gj ()).1 (gj ()).2) (aJ ((Cn (nth gh t33 (ae t35)).1.2.1 (64:Int))) (kx (gj ()).1 (gj ()).2) (al (ae3.call (nth gh t33 (ae t35)).2.1) λx8=>aJ ((!x8)) (kx (gj ()).1 (gj ()).2) (kn (nP (oO,t33,t34,(bI .i64 t35 (1:Int)),(eG bg (nth gh t33 (ae t35)).1 true n31)))))))) none) (kx (xd oO).1 (xd oO).2):=b8
theorem ae0:jf BK xe j8 np:=mn (jx [.d ti,.d (.slice gl),.d ti,.d ti] λ_=>b8)
theorem O4:nq @J2 nQ xe j8 np DL Sa:=oa
theorem J4{R:Type}(sum:Int)(t66:(List gm))(t67:Int)(t68:Int)(kn:AS->Option R)(kx:Exit->AS->Option R):J2 (sum,t66,t67,t68) kn kx=aJ ((gr t68 t67)) (aJ (ed t68 (((ag t66):Nat):Int)) (al (aeh.call (sum,(nth gl t66 (ae t68)).1)) λak8=>aJ ((!ak8.2)) (kx (j9 ()).1 (j9 ()).2) (al (pE.call (nth gl t66 (ae t68)).2.1) λaJm=>aJ ((!aJm)) (kx (j9 ()).1 (j9 ()).2) (kn (nQ (ak8.1,t66,t67,(bI .i64 t68 (1:Int))))))) none) (kx (xf ()).1 (xf ()).2):=b8
theorem aBx{R:Type}(t)(k:K1 R):iN.A t k=aJ ((gr (t.1.length:Int) 1)) (k (iN.out false)) (aJ ((qZ (t.1.length:Int) 64)) (k (iN.out false)) (aJ ((qZ (t.2.1.length:Int) 64)) (k (iN.out false)) (aJ ((gr t.2.2.1 0)) (k (iN.out false)) (al (J0 (t,t.1,(t.1.length:Int),0,([]:List (bC×Bool)))) λaJm=>aJ (aJm.isLeft) (al (aJm.getLeft?) λa13=>k (iN.out false)) (al (aJm.getRight?) λb14=>al (BK (0,b14.2.1,(b14.2.1.length:Int),0)) λahw=>aJ (ahw.isLeft) (al (ahw.getLeft?) λa31=>k (iN.out false)) (al (ahw.getRight?) λb32=>k (iN.out true))))))):=b8
theorem akL:R9:=by
 refine O3 (λ(t,l,n,i,m)=>l.length - i.toNat) ?_
 rintro⟨t,l,n,i,m⟩ ⟨hb,rfl,k,hk,rfl⟩;have hb:l.length<=9223372036854775807:=hb;have hk:k<=l.length:=hk;by_cases h:k < l.length
 ·have n1:nth gh l k=l[k]:=cd (t:=gh) h;have hd:Ei m (l.drop k)=((!(Qv m l[k]) && Iu l[k]) && Ei (eG bg l[k].1 true m) (l.drop (k+1))):=by rw[aq h];rfl
  have step:∀ {R:Type} (kn:AS->Option R) (kx:Exit->AS->Option R),JY (t,l,(l.length:Int),(k:Int),m) kn kx=aJ (!(Qv m l[k]) && Iu l[k]) (kn (nP (t,l,(l.length:Int),((k+1:Nat):Int),eG bg l[k].1 true m))) (kx (gj ()).1 (gj ()).2):=by
   intro R kn kx;rw[J1,aU ak,bj ak ak,aa,n1,N.mD ak,ap8 (d:=l[k].2.1) trivial];simp only[aj,ah,bu,akR];have e:(bN bg l[k].1 m).getD false=Qv m l[k]:=rfl;rw[e];cases Qv m l[k]
   ·simp only[fb,bw,ao,Iu];by_cases h1:l[k].1.2.1 < 0
    ·rw[aU h1,aj,aS (λx=>ak)];rfl
    ·rw[aQ h1,ao];by_cases h2:64<=l[k].1.2.1
     ·rw[gA h2,aj,aS (λx=>ak)];rfl
     ·rw[eF h2,ao,aM ⟨ak,ak⟩];cases BP l[k].2.1 <;> rfl
   ·rfl
  cases hp:(!(Qv m l[k]) && Iu l[k])
  ·right;refine⟨gj (),?_,λkn kx=> ?_⟩
   ·simp only[j7,nk,aa,hd,hp,cH,bn,bt];rfl
   ·rw[step,hp,ao]
  ·left;refine⟨(t,l,l.length,((k+1:Nat):Int),eG bg l[k].1 true m),⟨hb,rfl,k+1,ak,rfl⟩,by simp only[aa];omega,?_,λkn kx=> ?_⟩
   ·simp only[j7,nk,aa,hd,hp,bw]
   ·rw[step,hp,aj]
 ·right;obtain rfl:k=l.length:=ak;refine⟨xd t,?_,λkn kx=> ?_⟩
  ·simp only[j7,nk,aa,aL];rfl
  ·rw[J1];simp(disch:=omega) only[↓S1,↓if_pos,↓if_neg,if_pos,if_neg,bG,bt,S2]
theorem akM:Sa:=by
 refine O4 (λ(s,l,n,i)=>l.length - i.toNat) ?_
 rintro⟨s,l,n,i⟩ ⟨hl,hb,rfl,k,hk,rfl⟩;have hb:l.length<=9223372036854775807:=hb;have hk:k<=l.length:=hk;by_cases h:k < l.length
 ·have hx:aN3 l[k].2.1:=hl _ (aN h);have n1:nth gl l k=l[k]:=cd (t:=gl) h;have hd:xZ s (l.drop k)=((Lr s l[k].1 && kS l[k].2.1) && xZ (s+l[k].1) (l.drop (k+1))):=by rw[aq h];rfl
  have step:∀ {R:Type} (kn:AS->Option R) (kx:Exit->AS->Option R),J2 (s,l,(l.length:Int),(k:Int)) kn kx=aJ (Lr s l[k].1 && kS l[k].2.1) (kn (nQ (s+l[k].1,l,(l.length:Int),((k+1:Nat):Int)))) (kx (j9 ()).1 (j9 ()).2):=by
   intro R kn kx;rw[J4,aU ak,bj ak ak,aa,n1,N.mD ak,aGs (d:=(s,l[k].1)) trivial,Bf (d:=l[k].2.1) hx];simp only[aj,ah,bu,asJ,bu,Ek];cases Lr s l[k].1
   ·rfl
   ·cases kS l[k].2.1 <;> rfl
  cases hp:(Lr s l[k].1 && kS l[k].2.1)
  ·right;refine⟨j9 (),?_,λkn kx=> ?_⟩
   ·simp only[j8,np,aa,hd,hp,cH,bn,bt];rfl
   ·rw[step,hp,ao]
  ·left;refine⟨(s+l[k].1,l,l.length,((k+1:Nat):Int)),⟨hl,hb,rfl,k+1,ak,rfl⟩,by simp only[aa];omega,?_,λkn kx=> ?_⟩
   ·simp only[j8,np,aa,hd,hp,bw]
   ·rw[step,hp,aj]
 ·right;obtain rfl:k=l.length:=ak;refine⟨xf (),?_,λkn kx=> ?_⟩
  ·simp only[j8,np,aa,aL];rfl
  ·rw[J4];simp(disch:=omega) only[↓S1,↓if_pos,↓if_neg,if_pos,if_neg,bG,bt,S2]
theorem aBy:iN.Ok:=by
 rintro⟨is,os,nt,u⟩ ⟨hl,h1,h2⟩;have h1:is.length<=9223372036854775807:=h1;have h2:os.length<=9223372036854775807:=h2;rw[aBx,aeZ (d:=((is,os,nt,u),is,is.length,0,[])) ⟨h1,rfl,0,ak,rfl⟩];simp only[ah,j7,nk,aX,aD,bu,rT,hJ,adr];by_cases a1:is.length < 1
 ·rw[aU ak,aj,aS (λx=>ak)];rfl
 rw[aQ ak,ao];by_cases a2:64 < is.length
 ·rw[cP ak,aj,aS (λx=>ak)];rfl
 rw[cr ak,ao];by_cases a3:64 < os.length
 ·rw[cP ak,aj,aS (λx=>ak)];rfl
 rw[cr ak,ao];by_cases a4:nt < 0
 ·rw[aU ak,aj,aS (λx=>ak)];rfl
 rw[aQ ak,ao,aM ⟨ak,ak,ak,ak⟩];cases Ei [] is
 ·rfl
 ·simp only[bG,bw];show al (BK (0,os,(os.length:Int),0)) _=_;rw[ae0 (d:=(0,os,os.length,0)) ⟨hl,h2,rfl,0,ak,rfl⟩];simp only[ah,j8,np,aX,aD];cases xZ 0 os <;> rfl
theorem pZ:iN.RS:=rE [.d ez] iN
def tV:=iN.eU aBy 2 ⟨.fv akL,⟨.fv akM,trivial⟩⟩
def asW:Bs->Prop:=λl=>l.length<=1000000
def Re:Bs->Bs:=λl=>l
def Bo:Fs Tryz.prog asW bu Re:=eN 129 Tryz.f129 (λsv=>([.d tU sv],[])) (λx=>⟨.d tU x,[],[]⟩) [some tU] [] {bJ:=[5],res:=[some tU]}
theorem azW{R:Type}(sv)(k:K1 R):Bo.A sv k=aJ (decide (0 < (ag sv))) (aJ (db (0+(ag sv)) 8) (aJ (decide (0=0/\(0+(0+(ag sv)))<=(ag ((aR 0 (ab 0 0))++sv)))) (k (Bo.out (cut ((aR 0 (ab 0 0))++sv) 0 (0+(ag sv))))) none) none) (nd (k (Bo.out ([]:List Int))) (aJ (db (0+(ag sv)) 8) (aJ (decide (0=0/\(0+(0+(ag sv)))<=(ag ((aR 0 (ab 0 0))++sv)))) (k (Bo.out (cut ((aR 0 (ab 0 0))++sv) 0 (0+(ag sv))))) none) none)):=b8
theorem azX:Bo.Ok:=by
 intro l hl;have hl:l.length<=1000000:=hl;have hr:db l.length 8=true:=dr ak ak;have e0:(aR 0 (ab 0 0):List Int)=[]:=rfl;rw[azW];simp only[aO,hr,aj,e0,aT,ax,jl,cv,eY,bu,Re];by_cases h:0 < l.length
 ·simp only[aM h,aj]
 ·have:l=[]:=bE ak;subst this;simp only[ba,zH,aS (ik 0),ao]
theorem OB:Bo.RS:=rE [.d tU] Bo
def TV:=Bo.eU azX
def aN8(l:List Int):Lk:=([(l,0,0,0,())],())
def aFP:Bs->Prop:=λl=>l.length<=1000000
def aPp:Bs->Lk:=λl=>aN8 l
def asp:Fs Tryz.prog aFP bu aPp:=eN 83 Tryz.f83 (λl=>([.d tU l],[])) (λx=>⟨.d Pe x,[],[]⟩) [some tU] [TV]
theorem aLA{R:Type}(l)(k:K1 R):asp.A l k=al (Bo.call l) λx1=>k (asp.out ([(x1,(0,(0,(0,()))))],())):=b8
theorem aLB:asp.Ok:=by intro l hl;rw[aLA,OB (d:=l) hl];rfl
theorem aFQ:asp.RS:=rE [.d tU] asp
def aLC:=asp.eU aLB
def aFZ:Int->Prop:=λ_=>True
def aPr:Int->Lk:=λp=>aN8 [p]
def anK:Fs Tryz.prog aFZ bu aPr:=eN 37 Tryz.f37 (λp=>([.d tu p],[])) (λx=>⟨.d Pe x,[],[]⟩) [some tu] [aLC]
theorem aLI{R:Type}(p)(k:K1 R):anK.A p k=al (asp.call [p]) λx1=>k (anK.out x1):=b8
theorem aLJ:anK.Ok:=by intro p _;rw[aLI,aFQ (d:=[p]) (by show [p].length<=_;simp)];rfl
theorem aF0:anK.RS:=rE [.d tu] anK
def aLK:=anK.eU aLJ
def mJ(o:List Int)(ks:List Int):List Int:=ks.foldl (λo p=>o++jr p) o
def aCd(o:List Int)(b:ot):List Int:=cF (cF (mJ (cF o b.1.length) b.1) b.2.1) b.2.2.1++jr b.2.2.2.1
def N7(l:Lk):List Int:=if kS l then l.1.foldl aCd (cF [] l.1.length) else []
theorem KL:∀(ks:List Int) (o:List Int),(mJ o ks).length=o.length+8*ks.length
 |[],o=>rfl
 |k::ks,o=>by show(mJ (o++jr k) ks).length=_;rw[KL ks,ai,cn,aA];omega
theorem ahS(o:List Int)(b:ot)(h:b.1.length<=12):(aCd o b).length<=o.length+200:=by unfold aCd;have h1:=dy o b.1.length;have h2:=KL b.1 (cF o b.1.length);have h3:=dy (mJ (cF o b.1.length) b.1) b.2.1;have h4:=dy (cF (mJ (cF o b.1.length) b.1) b.2.1) b.2.2.1;rw[ai,cn];omega
def aJH(n:Int):Prop:=n<=9223372036854775807
def aQU(b:ot):Prop:=b.1.length<=12/\aJH b.2.1/\aJH b.2.2.1
theorem aOn{b:ot}(h:vh b=true):aQU b:=by unfold vh NY at h;simp only[au,aW]at h;obtain⟨h1,_,h2,h3,_⟩:=h;exact⟨h1,by unfold aJH;omega,by unfold aJH;omega⟩
theorem aal(o:List Int)(ks:List Int)(k:Nat)(h:k < ks.length):mJ o (ks.drop k)=mJ (o++jr ks[k]) (ks.drop (k+1)):=by rw[aq h];rfl
abbrev VL:=Bs×(List ot)×Int×Int
abbrev IA:=Bs×(List ot)×Int×Int×Bs×Int×Int×ot
def wD:IA->Bs->(((List ot)×Int×Int×ot)×(Bs)):=λ(vP,BF,acR,acS,t28,t29,t30,n5) y=>((BF,acR,acS,n5),y)
def ad7:IA->Prop:=λ(o,bs,n,i,ks,m,j,b)=>ks.length<=12/\o.length+8*ks.length<=80000000+8*j.toNat/\m=ks.length/\∃k:Nat,k<=ks.length/\j=k
def Cr:IA->Bs:=λ(o,bs,n,i,ks,m,j,b)=>mJ o (ks.drop j.toNat)
def ad5:VL->Prop:=λ(o,bs,n,i)=>(∀b∈bs,aQU b)/\bs.length<=4/\o.length<=1000+200*i.toNat/\n=bs.length/\∃k:Nat,k<=bs.length/\i=k
def Iy:VL->Bs:=λ(o,bs,n,i)=>(bs.drop i.toNat).foldl aCd o
def asq:Lk->Prop:=λl=>adK l/\l.1.length<=9223372036854775807
def QQ:Lk->Bs:=λl=>N7 l
def qv:Ls ad5 bu Iy:=rp (λ(outv,t16,t17,t18)=>⟨([bF,bF,bF,.d tB outv]++aP 12 ([.d (.slice ki) t16,.d ti t17,.d ti t18]++aP 31 [])),[],(ab 50 [])⟩) (λx=>(.exit 0,⟨([bF,bF,bF,.d tB x]++aP 46 []),[],(ab 50 [])⟩))
def qw:Ls ad7 wD Cr:=rp (λ(vP,BF,acR,acS,t28,t29,t30,n5)=>⟨([bF,bF,bF,.d tB vP,bF,eT 5]++aP 10 ([.d (.slice ki) BF,.d ti acR,.d ti acS]++aP 9 ([.d tU t28,.d ti t29,.d ti t30]++aP 19 []))),[],(bM 5 ([dK (.d ki n5)]++bM 44 []))⟩) (λx=>(.exit 2,⟨([bF,bF,bF,.d tB x.2,bF,eT 5]++aP 10 ([.d (.slice ki) x.1.1,.d ti x.1.2.1,.d ti x.1.2.2.1]++aP 31 [])),[],(bM 5 ([dK (.d ki x.1.2.2.2)]++bM 44 []))⟩))
def tf:Fs Tryz.prog asq bu QQ:=eN 116 Tryz.f116 (λl=>([.d Pe l],[])) (λx=>⟨.d tB x,[],[]⟩) [some Pe] [El,XP,amw] {loops:=nY [(5,{aV:=[3,16,17,18]}),(9,{aV:=[3,5,16,17,18,28,29,30],sites:=[5]})],outs:=nX [(5,{aV:=[3]},{aV:=[2]}),(9,{aV:=[3,5,16,17,18],sites:=[5]},{aV:=[2]})],fF:=nK [(5,qv.E),(9,qw.E)],res:=[some tB]}
theorem ad6:qv.RS:=rL [.d tB,.d (.slice ki),.d ti,.d ti] qv
theorem Iz{R:Type}(outv t16 t17 t18)(kn:K2 R)(kx:K3 R):tf.R 0 qv (outv,t16,t17,t18) kn kx=aJ ((gr t18 t17)) (aJ (ed t18 (t16.length:Int)) (al (AN.call (outv,(((ag (nth ki t16 (ae t18)).1):Nat):Int))) λx1=>al (qw.call (x1,t16,t17,t18,(nth ki t16 (ae t18)).1,(((ag (nth ki t16 (ae t18)).1):Nat):Int),0,(nth ki t16 (ae t18)))) λx2=>al (AN.call (x2.2,x2.1.2.2.2.2.1)) λx3=>al (AN.call (x3,x2.1.2.2.2.2.2.1)) λx4=>al (Ib.call (x4,x2.1.2.2.2.2.2.2.1)) λx5=>kn (qv.st (x5,x2.1.1,x2.1.2.1,(bI .i64 x2.1.2.2.1 1)))) none) (qv.go kx outv):=b8
theorem ad8:qw.RS:=rL [.d tB,.d (.slice ki),.d ti,.d ti,.d tU,.d ti,.d ti,.d ki] qw
theorem IB{R:Type}(vP BF acR acS t28 t29 t30 n5)(kn:K2 R)(kx:K3 R):tf.R 1 qw (vP,BF,acR,acS,t28,t29,t30,n5) kn kx=aJ ((gr t30 t29)) (aJ (ed t30 (t28.length:Int)) (al (Ib.call (vP,(nth tu t28 (ae t30)))) λx1=>kn (qw.st (x1,BF,acR,acS,t28,t29,(bI .i64 t30 1),n5))) none) (qw.go kx ((BF,acR,acS,n5),vP)):=b8
theorem azc{R:Type}(l)(k:K1 R):tf.A l k=al (pE.call l) λx1=>aJ ((!x1)) (k (tf.out ([]:List Int))) (al (AN.call (([]:List Int),(l.1.length:Int))) λx2=>al (qv.call (x2,l.1,(l.1.length:Int),0)) λx9=>k (tf.out x9)):=b8
theorem ajk:(tf.kM 1 qw):=by
 refine(tf.mf 1 qw) (λ(o,bs,n,i,ks,m,j,b)=>ks.length - j.toNat) ?_
 rintro⟨o,bs,n,i,ks,m,j,b⟩ ⟨aO5,hl,rfl,k,hk,rfl⟩;have aO5:ks.length<=12:=aO5;have hk:k<=ks.length:=hk;have hl:o.length+8*ks.length<=80000000+8*(k:Int).toNat:=hl;rw[aa]at hl;by_cases h:k < ks.length
 ·left;have n1:nth (.int .u64) ks k=ks[k]:=cd (t:= .int .u64) h;refine⟨(o++jr ks[k],bs,n,i,ks,ks.length,((k+1:Nat):Int),b),⟨aO5,by rw[ai,cn,aa];omega,rfl,k+1,ak,rfl⟩,by simp only[aa];omega,?_,λkn kx=> ?_⟩
  ·simp only[wD,Cr,aa];rw[aal _ _ _ h]
  ·rw[IB];simp(disch:=omega) only[↓S1,↓if_pos,↓if_neg,if_pos,if_neg,bG,bt,S2,n1];rw[D9 (d:=(o,ks[k])) (by show o.length<=90000000;omega)];rfl
 ·right;obtain rfl:k=ks.length:=ak;intro R kn kx;rw[IB];simp(disch:=omega) only[↓S1,↓if_pos,↓if_neg,if_pos,if_neg,bG,bt,S2,wD,Cr,aL];rfl
theorem ajj:(tf.kM 0 qv):=by
 refine(tf.mf 0 qv) (λ(o,bs,n,i)=>bs.length - i.toNat) ?_
 rintro⟨o,bs,n,i⟩ ⟨hb,h4,hl,rfl,k,hk,rfl⟩;have h4:bs.length<=4:=h4;have hk:k<=bs.length:=hk;have hl:o.length<=1000+200*(k:Int).toNat:=hl;rw[aa]at hl;by_cases h:k < bs.length
 ·left;have hx:=hb _ (aN h);have n1:nth (.pair (.slice (.int .u64)) (.pair (.int .i64) (.pair (.int .i64) (.pair (.int .u64) .unit)))) bs k=bs[k]:=cd (t:=(.pair (.slice (.int .u64)) (.pair (.int .i64) (.pair (.int .i64) (.pair (.int .u64) .unit))))) h;have e0:=ahS o bs[k] hx.1;refine⟨(aCd o bs[k],bs,bs.length,((k+1:Nat):Int)),⟨hb,h4,by rw[aa];omega,rfl,k+1,ak,rfl⟩,by simp only[aa];omega,?_,λkn kx=> ?_⟩
  ·simp only[bu,Iy,aa];rw[aq h];rfl
  ·rw[Iz,aU ak,bj ak ak,aa,n1];obtain⟨⟨ks,af,dl,sc,u⟩,aOS⟩:∃b,bs[k]=b:=⟨_,rfl⟩;rw[aOS]at hx e0 ⊢;obtain⟨af9,ha,hd⟩:=hx;have af9:ks.length<=12:=af9;have ha:af<=9223372036854775807:=ha;have hd:dl<=9223372036854775807:=hd;have l1:=dy o ks.length;have l2:=KL ks (cF o ks.length);have l3:=dy (mJ (cF o ks.length) ks) af;have l4:=dy (cF (mJ (cF o ks.length) ks) af) dl;simp only[aj];rw[jA (d:=(o,(ks.length:Int))) ⟨by show o.length<=90000000;omega,by show(ks.length:Int)<=9223372036854775807;omega⟩];simp only[ah,bu,pd];rw[ad8 (d:=(cF o ks.length,bs,bs.length,k,ks,ks.length,0,(ks,af,dl,sc,u))) ⟨af9,by show(cF o ks.length).length+8*ks.length<=_;omega,rfl,0,ak,rfl⟩];simp only[ah,wD,Cr,aX,aD];rw[jA (d:=(mJ (cF o ks.length) ks,af)) ⟨by show(mJ (cF o ks.length) ks).length<=90000000;omega,ha⟩];simp only[ah,bu,pd];rw[jA (d:=(cF (mJ (cF o ks.length) ks) af,dl)) ⟨by show(cF (mJ (cF o ks.length) ks) af).length<=90000000;omega,hd⟩];simp only[ah,bu,pd];rw[D9 (d:=(cF (cF (mJ (cF o ks.length) ks) af) dl,sc)) (by show(cF (cF (mJ (cF o ks.length) ks) af) dl).length<=90000000;omega)];simp only[ah,bu,PX];rw[N.mD ak];rfl
 ·right;obtain rfl:k=bs.length:=ak;intro R kn kx;rw[Iz];simp(disch:=omega) only[↓S1,↓if_pos,↓if_neg,if_pos,if_neg,bG,bt,S2,bu,Iy,aL];rfl
theorem asw{l:Lk}(h:kS l=true):(∀b∈l.1,aQU b)/\0 < l.1.length/\l.1.length<=4:=by unfold kS at h;simp only[au,cW,aW]at h;exact⟨λb hb=>aOn (h.1 b hb),h.2⟩
theorem azd:tf.Ok:=by
 rintro l ⟨hl,hb⟩;have hl:adK l:=hl;rw[azc,Bf (d:=l) ⟨hl,hb⟩];simp only[ah,bu,Ek,bu,QQ,N7];cases jn:kS l
 ·rfl
 ·obtain⟨h1,h2,h3⟩:=asw jn;have l1:=dy [] l.1.length;have l0:([]:List Int).length=0:=rfl;simp only[cm,ao,bG];rw[jA (d:=([],(l.1.length:Int))) ⟨by show([]:List Int).length<=90000000;omega,by show(l.1.length:Int)<=9223372036854775807;omega⟩];simp only[ah,bu,pd];rw[ad6 (d:=(cF [] l.1.length,l.1,l.1.length,0)) ⟨h1,h3,by show(cF [] l.1.length).length<=_;omega,rfl,0,ak,rfl⟩];rfl
theorem KM(l:Lk):(N7 l).length<=1000:=by
 unfold N7;split
 ·rename_i h;obtain⟨h1,h2,h3⟩:=asw h;have key:∀(bs:List ot) (o:List Int),(∀b∈bs,aQU b)->(bs.foldl aCd o).length<=o.length+200*bs.length:=by
   intro bs
   induction bs with
   |nil=>intro o _;exact ax _
   |cons b bs ih=>
    intro o hb;have e1:=ih (aCd o b) λx hx=>hb x (aG _ hx)
    have e2:=ahS o b (hb b aI).1;rw[bq,aA];omega
  have e:=key l.1 (cF [] l.1.length) h1;have e2:=dy [] l.1.length;have l0:([]:List Int).length=0:=rfl;omega
 ·exact aK _
theorem aar:tf.RS:=rE [.d Pe] tf
def agl:=tf.eU azd 2 ⟨.fv ajj,⟨.fv ajk,trivial⟩⟩
def ayc:(Bs×Bs)->Prop:=λ(b,h)=>b.length+h.length<=100000000/\h.length=32
def PW:(Bs×Bs)->Bs:=λ(b,h)=>b++h
def LI:Fs Tryz.prog ayc bu PW:=eN 114 Tryz.f114 (λ(b,h)=>([.d tB b,.d tH h],[])) (λx=>⟨.d tB x,[],[]⟩) [some tB,some tH] [Zc]
theorem aEc{R:Type}(b h)(k:K1 R):LI.A (b,h) k=al (H5.call (b,(cut h 0 32))) λx1=>k (LI.out x1):=b8
theorem aEd:LI.Ok:=by rintro⟨b,h⟩ ⟨h1,h2⟩;have h1:b.length+h.length<=100000000:=h1;have h2:h.length=32:=h2;rw[aEc,eY h2,Kr (d:=(b,h)) h1];rfl
theorem Ks:LI.RS:=rE [.d tB,.d tB] LI
def amv:=LI.eU aEd
def aya:(Bs×Bs)->Prop:=λ(b,c)=>b.length+c.length<=90000000
def aij:(Bs×Bs)->Bs:=λ(b,c)=>b++(gw c.length++c)
def Zn:Fs Tryz.prog aya bu aij:=eN 115 Tryz.f115 (λ(b,c)=>([.d tB b,.d tB c],[])) (λx=>⟨.d tB x,[],[]⟩) [some tB,some tB] [avs,YM] {res:=[some tB]}
theorem aD9{R:Type}(b c)(k:K1 R):Zn.A (b,c) k=al (Zo.call (c.length:Int)) λx1=>al (oK.call [b,x1,c]) λx2=>k (Zn.out x2):=b8
theorem aEa:Zn.Ok:=by rintro⟨b,c⟩ h;have h:b.length+c.length<=90000000:=h;have hl:=kH c.length;rw[aD9,amy (d:=(c.length:Int)) ⟨ak,ak⟩];simp only[ah,bu,arH];rw[UU (d:=[b,gw c.length,c]) ⟨by show [b,gw c.length,c].length<=_;simp,by show uO [b,gw c.length,c]<=_;simp only[uO,jt,qg,aZ,ai];omega⟩];simp only[ah,bu,SN,bu,aij,jt,qg,aZ]
theorem ayb:Zn.RS:=rE [.d tB,.d tB] Zn
def aEb:=Zn.eU aEa
def KI(b:List Int)(x:gK):List Int:=cF (b++x.1.1) x.1.2.1
def Ll(b:List Int)(o:gm):List Int:=cF b o.1++(gw (N7 o.2.1).length++N7 o.2.1)
def uW(t:dw):List Int:=cF (t.2.1.foldl Ll (cF (t.1.foldl KI (cF [] t.1.length)) t.2.1.length)) t.2.2.1
def acB(b:List Int)(s:Sg):List Int:=b++jr s.1++jr s.2.1
def auN(b:List Int)(x:gK):List Int:=x.2.1.2.1.foldl acB (cF (cF b x.2.1.1) x.2.1.2.1.length)++jr x.2.1.2.2.1
def auH(t:dw):List Int:=if hJ t then t.1.foldl auN (uW t) else []
def iC(t:dw):List Int:=if hJ t then tag (bH (⟨#[116,120]⟩:ByteArray)) [uW t] else ab 32 0
def aVe(x:gK):Prop:=Sm x.1.1/\Yp x.2.1/\x.2.1.2.1.length<=9223372036854775807
def nU(t:dw):Prop:=aQl t/\(∀x∈t.1,aVe x)/\t.2.2.1<=9223372036854775807
theorem mH:∀(l:List gK) (m:List (bC×Bool)),Ei m l=true->∀x∈l,Iu x=true
 |[],_,_,x,hx=>by cases hx
 |y::l,m,h,x,hx=>by
  rw[Ei,au,au]at h;rcases bY.1 hx with rfl | hx
  ·exact h.1.2
  ·exact mH l _ h.2 x hx
theorem ky:∀(l:List gm) (s:Int),xZ s l=true->∀o∈l,(0<=o.1/\o.1<=1125899906842624)/\kS o.2.1=true
 |[],_,_,o,ho=>by cases ho
 |y::l,s,h,o,ho=>by
  rw[xZ,au,au]at h;rcases bY.1 ho with rfl | ho
  ·have h1:=h.1.1;unfold Lr sU at h1;simp only[au,aW]at h1;exact⟨h1.2.1,h.1.2⟩
  ·exact ky l _ h.2 o ho
theorem A6{x:gK}(h:Iu x=true):0<=x.1.2.1/\x.1.2.1 < 64/\0<=x.2.1.1/\x.2.1.1 < 4/\x.2.1.2.1.length<=12:=by unfold Iu BP at h;simp only[au,aW]at h;exact⟨h.1.1,h.1.2,h.2.1.1,h.2.1.2,h.2.2⟩
theorem jM{t:dw}(h:hJ t=true):(1<=t.1.length/\t.1.length<=64/\t.2.1.length<=64/\0<=t.2.2.1)/\Ei [] t.1=true/\xZ 0 t.2.1=true:=by unfold hJ adr at h;simp only[au,aW]at h;exact h
theorem ai8(b:List Int)(x:gK):(KI b x).length<=b.length+x.1.1.length+11:=by have:=dy (b++x.1.1) x.1.2.1;rw[ai]at this;exact this
theorem abn(b:List Int)(o:gm):(Ll b o).length<=b.length+1022:=by have h1:=dy b o.1;have h2:=kH (N7 o.2.1).length;have h3:=KM o.2.1;unfold Ll;rw[ai,ai];omega
theorem apy(b:List Int)(s:Sg):(acB b s).length=b.length+16:=by unfold acB;rw[ai,ai,cn,cn]
abbrev JU:=dw×Bs×(List gK)×Int×Int
def w8:JU->Bs->((dw)×(Bs)):=λ(oO,b,t13,t14,t15) y=>(oO,y)
abbrev JW:=dw×Bs×(List gm)×Int×Int
def w9:JW->Bs->((dw)×(Bs)):=λ(vl,iR,t35,t36,t37) y=>(vl,y)
def aeV:JU->Prop:=λ(t,b,l,n,i)=>(l).length<=1000000000/\∃k:Nat,k<=(l).length/\i=k/\n=(l).length/\(l.length<=64)/\(∀x∈l,x.1.1.length=32/\x.1.2.1<=9223372036854775807)/\(b.length<=100+50*k)
def CQ:JU->Bs:=λ(t,b,l,n,i)=>(bR (ae i) l).foldl KI b
def aeX:JW->Prop:=λ(t,b,l,n,i)=>(l).length<=1000000000/\∃k:Nat,k<=(l).length/\i=k/\n=(l).length/\(l.length<=64)/\(∀o∈l,o.1<=9223372036854775807/\aN3 o.2.1)/\(b.length<=4000+1100*k)
def CR:JW->Bs:=λ(t,b,l,n,i)=>(bR (ae i) l).foldl Ll b
def aut:dw->Prop:=λt=>hJ t=true/\nU t
def ac7:dw->Bs:=λt=>uW t
def qQ:Ls aeV w8 CQ:=rp (λ(oO,b,t13,t14,t15)=>⟨([bF,.dO ez oO,bF,.d tB b]++aP 9 ([.d (.slice gh) t13,.d ti t14,.d ti t15]++aP 38 [])),[],(ab 54 [])⟩) (λx=>(.exit 0,⟨([bF,.dO ez x.1,bF,.d tB x.2]++aP 50 []),[],(ab 54 [])⟩))
def qR:Ls aeX w9 CR:=rp (λ(vl,iR,t35,t36,t37)=>⟨([bF,.dO ez vl,bF,.d tB iR]++aP 31 ([.d (.slice gl) t35,.d ti t36,.d ti t37]++aP 16 [])),[],(ab 54 [])⟩) (λx=>(.exit 2,⟨([bF,.dO ez x.1,bF,.d tB x.2]++aP 50 []),[],(ab 54 [])⟩))
def va:Fs Tryz.prog aut bu ac7:=eN 69 Tryz.f69 (λt=>([.d ez t],[])) (λx=>⟨.d tB x,[],[]⟩) [some ez] [XP,amv,agl,aEb] {loops:=nY [(3,{aV:=[1,3,13,14,15]}),(9,{aV:=[1,3,35,36,37]})],outs:=nX [(3,{aV:=[1,3]},{aV:=[2]}),(9,{aV:=[1,3]},{aV:=[2]})],fF:=nK [(3,qQ.E),(9,qR.E)],res:=[some tB]}
theorem aeW:qQ.RS:=rL [.d ez,.d tB,.d (.slice gh),.d ti,.d ti] qQ
theorem JV{R:Type}(oO b t13 t14 t15)(kn:K2 R)(kx:K3 R):va.R 0 qQ (oO,b,t13,t14,t15) kn kx=aJ ((gr t15 t14)) (aJ (ed t15 (t13.length:Int)) (al (LI.call (b,(nth gh t13 (ae t15)).1.1)) λx1=>al (AN.call (x1,(nth gh t13 (ae t15)).1.2.1)) λx2=>kn (qQ.st (oO,x2,t13,t14,(bI .i64 t15 1)))) none) (qQ.go kx (oO,b)):=b8
theorem aeY:qR.RS:=rL [.d ez,.d tB,.d (.slice gl),.d ti,.d ti] qR
theorem JX{R:Type}(vl iR t35 t36 t37)(kn:K2 R)(kx:K3 R):va.R 1 qR (vl,iR,t35,t36,t37) kn kx=aJ ((gr t37 t36)) (aJ (ed t37 (t35.length:Int)) (al (AN.call (iR,(nth gl t35 (ae t37)).1)) λx1=>al (tf.call (nth gl t35 (ae t37)).2.1) λx2=>al (Zn.call (x1,x2)) λx3=>kn (qR.st (vl,x3,t35,t36,(bI .i64 t37 1)))) none) (qR.go kx (vl,iR)):=b8
theorem aBu{R:Type}(t)(k:K1 R):va.A t k=al (AN.call (([]:List Int),(t.1.length:Int))) λx1=>al (qQ.call (t,x1,t.1,(t.1.length:Int),0)) λx4=>al (AN.call (x4.2,(x4.1.2.1.length:Int))) λx5=>al (qR.call (x4.1,x5,x4.1.2.1,(x4.1.2.1.length:Int),0)) λx9=>al (AN.call (x9.2,x9.1.2.2.1)) λak8=>k (va.out ak8):=b8
theorem akC:(va.kM 0 qQ):=by
 refine(va.mf 0 qQ) (λ(t,b,l,n,i)=>(l).length - ae i) ?_
 rintro⟨t,b,l,n,i⟩ ⟨hlen,k,hk,rfl,rfl,FM,hx,hb⟩;have hlen:(l).length<=1000000000:=hlen;have hk:k<=(l).length:=hk;have FM:l.length<=64:=FM;have hx:∀x∈l,x.1.1.length=32/\x.1.2.1<=9223372036854775807:=hx;have hb:b.length<=100+50*k:=hb;by_cases h:k < (l).length
 ·left;have n1:nth gh l k=l[k]:=cd (t:=gh) h;have hd:bR k l=l[k]::bR (k+1) l:=aq h;refine⟨(t,(KI b l[k]),l,((l).length:Int),((k+1:Nat):Int)),⟨hlen,k+1,ak,rfl,rfl,FM,hx,by have:=ai8 b l[k];have:=(hx _ (aN h)).1;omega⟩,by simp only[aa];omega,?_,λkn kx=> ?_⟩
  ·simp only[w8,CQ,aa,hd,bq]
  ·rw[JV,aU ak,bj ak ak,aa,n1];simp only[aj];have e:=hx _ (aN h);have e2:(b++l[k].1.1).length=b.length+l[k].1.1.length:=ai;rw[Ks (d:=(b,l[k].1.1)) ⟨by show b.length+l[k].1.1.length<=_;omega,e.1⟩];simp only[ah,bu,PW];rw[jA (d:=(b++l[k].1.1,l[k].1.2.1)) ⟨by show(b++l[k].1.1).length<=_;omega,e.2⟩];simp only[ah,bu,pd];rw[N.mD ak];rfl
 ·right;obtain rfl:k=(l).length:=ak;intro R kn kx;rw[JV,aQ ak,ao];simp only[w8,CQ,aa,aL,cO]
theorem akD:(va.kM 1 qR):=by
 refine(va.mf 1 qR) (λ(t,b,l,n,i)=>(l).length - ae i) ?_
 rintro⟨t,b,l,n,i⟩ ⟨hlen,k,hk,rfl,rfl,FM,hx,hb⟩;have hlen:(l).length<=1000000000:=hlen;have hk:k<=(l).length:=hk;have FM:l.length<=64:=FM;have hx:∀o∈l,o.1<=9223372036854775807/\aN3 o.2.1:=hx;have hb:b.length<=4000+1100*k:=hb;by_cases h:k < (l).length
 ·left;have n1:nth gl l k=l[k]:=cd (t:=gl) h;have hd:bR k l=l[k]::bR (k+1) l:=aq h;refine⟨(t,(Ll b l[k]),l,((l).length:Int),((k+1:Nat):Int)),⟨hlen,k+1,ak,rfl,rfl,FM,hx,by have:=abn b l[k];omega⟩,by simp only[aa];omega,?_,λkn kx=> ?_⟩
  ·simp only[w9,CR,aa,hd,bq]
  ·rw[JX,aU ak,bj ak ak,aa,n1];simp only[aj];have e:=hx _ (aN h);have e1:=dy b l[k].1;have e2:=KM l[k].2.1;rw[jA (d:=(b,l[k].1)) ⟨by show b.length<=_;omega,e.1⟩];simp only[ah,bu,pd];rw[aar (d:=l[k].2.1) e.2];simp only[ah,bu,QQ];rw[ayb (d:=(cF b l[k].1,N7 l[k].2.1)) (by show(cF b l[k].1).length+(N7 l[k].2.1).length<=_;omega)];simp only[ah,bu,aij];rw[N.mD ak];rfl
 ·right;obtain rfl:k=(l).length:=ak;intro R kn kx;rw[JX,aQ ak,ao];simp only[w9,CR,aa,aL,cO]
theorem X2:∀(l:List gK) (b:List Int),(∀x∈l,x.1.1.length=32)->(l.foldl KI b).length<=b.length+43*l.length
 |[],b,_=>ax _
 |x::l,b,h=>by
  have h1:=ai8 b x;have h2:=h x aI;have h3:=X2 l (KI b x) λy hy=>h y (aG _ hy)
  rw[bq,aA];omega
theorem Q9:∀(l:List gm) (b:List Int),(l.foldl Ll b).length<=b.length+1022*l.length
 |[],b=>ax _
 |x::l,b=>by have h1:=abn b x;have h3:=Q9 l (Ll b x);rw[bq,aA];omega
theorem OE{t:dw}(jn:hJ t=true)(hv:nU t):(uW t).length<=70000:=by
 obtain⟨⟨_,a2,a3,_⟩,_,_⟩:=jM jn;have h1:=X2 t.1 (cF [] t.1.length) λx hx=>(hv.2.1 x hx).1.1
 have h2:=dy [] t.1.length;have h3:=dy (t.1.foldl KI (cF [] t.1.length)) t.2.1.length;have h4:=Q9 t.2.1 (cF (t.1.foldl KI (cF [] t.1.length)) t.2.1.length);have h5:=dy (t.2.1.foldl Ll (cF (t.1.foldl KI (cF [] t.1.length)) t.2.1.length)) t.2.2.1;have h0:([]:List Int).length=0:=rfl;unfold uW;omega
theorem aBv:va.Ok:=by
 rintro t ⟨jn,hv⟩;have hv:nU t:=hv;obtain⟨⟨_,a2,a3,_⟩,b1,b2⟩:=jM jn;have h0:([]:List Int).length=0:=rfl;have l0:=dy [] t.1.length;have l1:=X2 t.1 (cF [] t.1.length) λx hx=>(hv.2.1 x hx).1.1
 have l2:=dy (t.1.foldl KI (cF [] t.1.length)) t.2.1.length;have l3:=Q9 t.2.1 (cF (t.1.foldl KI (cF [] t.1.length)) t.2.1.length);rw[aBu,jA (d:=([],(t.1.length:Int))) ⟨by show([]:List Int).length<=_;omega,by show(t.1.length:Int)<=_;omega⟩];simp only[ah,bu,pd];rw[aeW (d:=(t,cF [] t.1.length,t.1,t.1.length,0)) ⟨by show t.1.length<=_;omega,0,aK _,rfl,rfl,a2,λx hx=>⟨(hv.2.1 x hx).1.1,by have:=A6 (mH _ _ b1 x hx);omega⟩,by show(cF [] t.1.length).length<=_;omega⟩];simp only[ah,w8,CQ,aX,aD];rw[jA (d:=(t.1.foldl KI (cF [] t.1.length),(t.2.1.length:Int))) ⟨by show(t.1.foldl KI (cF [] t.1.length)).length<=_;omega,by show(t.2.1.length:Int)<=_;omega⟩];simp only[ah,bu,pd];rw[aeY (d:=(t,cF (t.1.foldl KI (cF [] t.1.length)) t.2.1.length,t.2.1,t.2.1.length,0)) ⟨by show t.2.1.length<=_;omega,0,aK _,rfl,rfl,a3,λo ho=>⟨by have:=(ky _ _ b2 o ho).1;omega,hv.1.1 o ho⟩,by show(cF (t.1.foldl KI (cF [] t.1.length)) t.2.1.length).length<=_;omega⟩];simp only[ah,w9,CR,aX,aD];rw[jA (d:=(t.2.1.foldl Ll (cF (t.1.foldl KI (cF [] t.1.length)) t.2.1.length),t.2.2.1)) ⟨by show(t.2.1.foldl Ll (cF (t.1.foldl KI (cF [] t.1.length)) t.2.1.length)).length<=_;omega,hv.2.2⟩];rfl
theorem ac8:va.RS:=rE [.d ez] va
def ahm:=va.eU aBv 2 ⟨.fv akC,⟨.fv akD,trivial⟩⟩
def ahA(t:dw):Prop:=(t.1.length<=1000000000/\∀x∈t.1,x.2.1.2.1.length<=1000000000)/\t.2.1.length<=1000000000/\∀x∈t.2.1,x.2.1.1.length<=1000000000/\∀b∈x.2.1.1,b.1.length<=1000000000
def yq(n:Int)(x:gK):Int:=n+(10+8*x.2.1.2.1.length)+(if x.2.1.2.2.1=0 then 0 else 4)
def GP(t:dw):Int:=if hJ t then t.1.foldl yq (10+8*t.2.1.length) else 0
def dM(t:dw):List bC:=if hJ t then t.1.map (·.1) else []
def Hb(id:List Int)(k n:Nat):List bC:=(List.range' k n).map λi:Nat=>(id,((i:Int),()))
def gX(t:dw):List bC:=if hJ t then Hb (iC t) 0 t.2.1.length else []
def aMV:dw->Prop:=λt=>nU t
def R6:dw->Bs:=λt=>iC t
def tid:Fs Tryz.prog aMV bu R6:=eN 32 Tryz.f32 (λt=>([.d ez t],[])) (λx=>⟨.d tH x,[],[]⟩) [some ez] [tV,ahm,XZ]
theorem aP6{R:Type}(t)(k:K1 R):tid.A t k=al (iN.call t) λx1=>aJ ((!x1)) (k (tid.out (ab 32 0))) (al (va.call t) λx2=>al (Tv.call ((⟨#[116,120]⟩:ByteArray),[x2])) λx3=>k (tid.out x3)):=b8
theorem aP7:tid.Ok:=by
 intro t hv;have hv:nU t:=hv;rw[aP6,pZ (d:=t) hv.1];simp only[ah,bu,rT,bu,R6,iC];cases jn:hJ t
 ·rfl
 ·have hl:=OE jn hv;rw[ac8 (d:=t) ⟨jn,hv⟩];simp only[cm,ao,bG,ah,bu,ac7];rw[QE (d:=((⟨#[116,120]⟩:ByteArray),[uW t])) (R0 (by decide) ak)];rfl
theorem GG:tid.RS:=rE [.d ez] tid
def UC:=tid.eU aP7
abbrev Sd:=Int×(List gK)×Int×Int
def ado:Sd->Prop:=λ(n,l,m,i)=>(l).length<=1000000000/\∃k:Nat,k<=(l).length/\i=k/\m=(l).length/\(l.length<=64)/\(∀x∈l,x.2.1.2.1.length<=12)/\(0<=n)/\(n<=1000+200*(k:Int))
def Ah:Sd->Int:=λ(n,l,m,i)=>(bR (ae i) l).foldl yq n
def ap6:dw->Prop:=λt=>nU t
def UG:dw->Int:=λt=>GP t
def mj:Ls ado bu Ah:=rp (λ(n,t15,t16,t17)=>⟨([bF,bF,bF,.d ti n]++aP 11 ([.d (.slice gh) t15,.d ti t16,.d ti t17]++aP 19 [])),[],(ab 37 [])⟩) (λx=>(.exit 0,⟨([bF,bF,bF,.d ti x]++aP 33 []),[],(ab 37 [])⟩))
def vf:Fs Tryz.prog ap6 bu UG:=eN 242 Tryz.f242 (λt=>([.d ez t],[])) (λx=>⟨.d ti x,[],[]⟩) [some ez] [tV] {loops:=nY [(5,{aV:=[3,15,16,17]})],outs:=nX [(5,{aV:=[3]},{aV:=[2]})],fF:=nK [(5,mj.E)]}
theorem adp:mj.RS:=rL [.d ti,.d (.slice gh),.d ti,.d ti] mj
theorem Hx{R:Type}(n t15 t16 t17)(kn:K2 R)(kx:K3 R):vf.R 0 mj (n,t15,t16,t17) kn kx=aJ ((gr t17 t16)) (aJ (ed t17 (t15.length:Int)) (aJ ((A7 (nth gh t15 (ae t17)).2.1.2.2.1 0)) (kn (mj.st ((bI .i64 (bI .i64 n (bI .i64 10 (gB .i64 8 (((ag (nth gh t15 (ae t17)).2.1.2.1):Nat):Int)))) 4),t15,t16,(bI .i64 t17 1)))) (kn (mj.st ((bI .i64 n (bI .i64 10 (gB .i64 8 (((ag (nth gh t15 (ae t17)).2.1.2.1):Nat):Int)))),t15,t16,(bI .i64 t17 1))))) none) (mj.go kx n):=b8
theorem auE{R:Type}(t)(k:K1 R):vf.A t k=al (iN.call t) λx1=>aJ ((!x1)) (k (vf.out 0)) (al (mj.call ((bI .i64 10 (gB .i64 8 (t.2.1.length:Int))),t.1,(t.1.length:Int),0)) λx2=>k (vf.out x2)):=b8
theorem ae2:(vf.kM 0 mj):=by
 refine(vf.mf 0 mj) (λ(n,l,m,i)=>(l).length - ae i) ?_
 rintro⟨n,l,m,i⟩ ⟨hlen,k,hk,rfl,rfl,FM,hx,h0,h1⟩;have hlen:(l).length<=1000000000:=hlen;have hk:k<=(l).length:=hk;have FM:l.length<=64:=FM;have hx:∀x∈l,x.2.1.2.1.length<=12:=hx;have h0:0<=n:=h0;have h1:n<=1000+200*(k:Int):=h1;by_cases h:k < (l).length
 ·left;have n1:nth gh l k=l[k]:=cd (t:=gh) h;have hd:bR k l=l[k]::bR (k+1) l:=aq h;refine⟨((yq n l[k]),l,((l).length:Int),((k+1:Nat):Int)),⟨hlen,k+1,ak,rfl,rfl,FM,hx,by unfold yq;split <;> omega,by have:=hx _ (aN h);unfold yq;split <;> omega⟩,by simp only[aa];omega,?_,λkn kx=> ?_⟩
  ·simp only[bu,Ah,aa,hd,bq]
  ·rw[Hx,aU ak,bj ak ak,aa,n1];simp only[aj];have e:=hx _ (aN h);rw[N.aSb ak];have e2:bI .i64 10 ((8*l[k].2.1.2.1.length:Nat):Int)=10+8*(l[k].2.1.2.1.length:Int):=by rw[fZ ak ak];omega
   rw[e2,fZ (x:=n) ak ak,N.mD ak];unfold yq;by_cases hs:l[k].2.1.2.2.1=0
   ·rw[dB hs,ao,if_pos hs,Int.add_zero]
   ·rw[fo hs,aj,if_neg hs,fZ ak ak]
 ·right;obtain rfl:k=(l).length:=ak;intro R kn kx;rw[Hx,aQ ak,ao];simp only[bu,Ah,aa,aL,cO]
theorem auF:vf.Ok:=by
 intro t hv;have hv:nU t:=hv;rw[auE,pZ (d:=t) hv.1];simp only[ah,bu,rT,bu,UG,GP];cases jn:hJ t
 ·rfl
 ·obtain⟨⟨_,a2,a3,_⟩,b1,b2⟩:=jM jn;rw[N.aSb ak,fZ ak ak,adp (d:=(10+((8*t.2.1.length:Nat):Int),t.1,t.1.length,0)) ⟨by show t.1.length<=_;omega,0,aK _,rfl,rfl,a2,λx hx=>(A6 (mH _ _ b1 x hx)).2.2.2.2,by show(0:Int)<=10+((8*t.2.1.length:Nat):Int);omega,by show 10+((8*t.2.1.length:Nat):Int)<=_;omega⟩];simp only[ah,bu,Ah,aX,aD,cm,ao,bG,kU];rfl
theorem ap7:vf.RS:=rE [.d ez] vf
def auG:=vf.eU auF 1 ⟨.fv ae2,trivial⟩
abbrev WM:=Bs×(List gK)×Int×Int
abbrev JQ:=Bs×(List gK)×Int×Int×(List Sg)×Int×Int×gK
def w7:JQ->Bs->(((List gK)×Int×Int×gK)×(Bs)):=λ(iR,acP,acQ,BF,t32,t33,t34,n5) y=>((acP,acQ,BF,n5),y)
def aeQ:JQ->Prop:=λ(b,l1,aS3,i1,l,n,i,x)=>(l).length<=1000000000/\∃k:Nat,k<=(l).length/\i=k/\n=(l).length/\(l.length<=12)/\(b.length<=80000000+16*k)
def CO:JQ->Bs:=λ(b,l1,aS3,i1,l,n,i,x)=>(bR (ae i) l).foldl acB b
def aeO:WM->Prop:=λ(b,l,n,i)=>(l).length<=1000000000/\∃k:Nat,k<=(l).length/\i=k/\n=(l).length/\(l.length<=64)/\(∀x∈l,x.2.1.2.1.length<=12/\x.2.1.1<=9223372036854775807)/\(b.length<=100000+1000*k)
def JO:WM->Bs:=λ(b,l,n,i)=>(bR (ae i) l).foldl auN b
theorem acC:∀(l:List Sg) (b:List Int),(l.foldl acB b).length=b.length+16*l.length
 |[],b=>rfl
 |x::l,b=>by have h1:=apy b x;have h3:=acC l (acB b x);rw[bq,aA];omega
theorem aI2(b:List Int)(x:gK)(h:x.2.1.2.1.length<=12):(auN b x).length<=b.length+300:=by have e1:=dy b x.2.1.1;have e2:=dy (cF b x.2.1.1) x.2.1.2.1.length;have e3:=acC x.2.1.2.1 (cF (cF b x.2.1.1) x.2.1.2.1.length);unfold auN;rw[ai,cn];omega
def aun:dw->Prop:=λt=>nU t
def JN:dw->Bs:=λt=>auH t
def qO:Ls aeO bu JO:=rp (λ(b,t14,t15,t16)=>⟨([bF,bF,bF,.d tB b]++aP 10 ([.d (.slice gh) t14,.d ti t15,.d ti t16]++aP 36 [])),[],(ab 53 [])⟩) (λx=>(.exit 0,⟨([bF,bF,bF,.d tB x]++aP 49 []),[],(ab 53 [])⟩))
def qP:Ls aeQ w7 CO:=rp (λ(iR,acP,acQ,BF,t32,t33,t34,n5)=>⟨([bF,bF,bF,.d tB iR,bF,eT 5]++aP 8 ([.d (.slice gh) acP,.d ti acQ,.d ti BF]++aP 15 ([.d (.slice Av) t32,.d ti t33,.d ti t34]++aP 18 []))),[],(bM 5 ([dK (.d gh n5)]++bM 47 []))⟩) (λx=>(.exit 2,⟨([bF,bF,bF,.d tB x.2,bF,eT 5]++aP 8 ([.d (.slice gh) x.1.1,.d ti x.1.2.1,.d ti x.1.2.2.1]++aP 36 [])),[],(bM 5 ([dK (.d gh x.1.2.2.2)]++bM 47 []))⟩))
def rn:Fs Tryz.prog aun bu JN:=eN 74 Tryz.f74 (λt=>([.d ez t],[])) (λx=>⟨.d tB x,[],[]⟩) [some ez] [tV,ahm,XP,amw] {loops:=nY [(5,{aV:=[3,14,15,16]}),(9,{aV:=[3,5,14,15,16,32,33,34],sites:=[5]})],outs:=nX [(5,{aV:=[3]},{aV:=[2]}),(9,{aV:=[3,5,14,15,16],sites:=[5]},{aV:=[2]})],fF:=nK [(5,qO.E),(9,qP.E)],res:=[some tB]}
theorem aeP:qO.RS:=rL [.d tB,.d (.slice gh),.d ti,.d ti] qO
theorem JP{R:Type}(b t14 t15 t16)(kn:K2 R)(kx:K3 R):rn.R 0 qO (b,t14,t15,t16) kn kx=aJ ((gr t16 t15)) (aJ (ed t16 (t14.length:Int)) (al (AN.call (b,(nth gh t14 (ae t16)).2.1.1)) λx1=>al (AN.call (x1,(((ag (nth gh t14 (ae t16)).2.1.2.1):Nat):Int))) λx2=>al (qP.call (x2,t14,t15,t16,(nth gh t14 (ae t16)).2.1.2.1,(((ag (nth gh t14 (ae t16)).2.1.2.1):Nat):Int),0,(nth gh t14 (ae t16)))) λx3=>al (Ib.call (x3.2,x3.1.2.2.2.2.1.2.2.1)) λx4=>kn (qO.st (x4,x3.1.1,x3.1.2.1,(bI .i64 x3.1.2.2.1 1)))) none) (qO.go kx b):=b8
theorem aeR:qP.RS:=rL [.d tB,.d (.slice gh),.d ti,.d ti,.d (.slice Av),.d ti,.d ti,.d gh] qP
theorem JR{R:Type}(iR acP acQ BF t32 t33 t34 n5)(kn:K2 R)(kx:K3 R):rn.R 1 qP (iR,acP,acQ,BF,t32,t33,t34,n5) kn kx=aJ ((gr t34 t33)) (aJ (ed t34 (t32.length:Int)) (al (Ib.call (iR,(nth Av t32 (ae t34)).1)) λx1=>al (Ib.call (x1,(nth Av t32 (ae t34)).2.1)) λx2=>kn (qP.st (x2,acP,acQ,BF,t32,t33,(bI .i64 t34 1),n5))) none) (qP.go kx ((acP,acQ,BF,n5),iR)):=b8
theorem aBq{R:Type}(t)(k:K1 R):rn.A t k=al (iN.call t) λx1=>aJ ((!x1)) (k (rn.out ([]:List Int))) (al (va.call t) λx2=>al (qO.call (x2,t.1,(t.1.length:Int),0)) λx9=>k (rn.out x9)):=b8
theorem aky:(rn.kM 1 qP):=by
 refine(rn.mf 1 qP) (λ(b,l1,aS3,i1,l,n,i,x)=>(l).length - ae i) ?_
 rintro⟨b,l1,aS3,i1,l,n,i,x⟩ ⟨hlen,k,hk,rfl,rfl,af9,hb⟩;have hlen:(l).length<=1000000000:=hlen;have hk:k<=(l).length:=hk;have af9:l.length<=12:=af9;have hb:b.length<=80000000+16*k:=hb;by_cases h:k < (l).length
 ·left;have n1:nth Av l k=l[k]:=cd (t:=Av) h;have hd:bR k l=l[k]::bR (k+1) l:=aq h;refine⟨((acB b l[k]),l1,aS3,i1,l,((l).length:Int),((k+1:Nat):Int),x),⟨hlen,k+1,ak,rfl,rfl,af9,by have:=apy b l[k];omega⟩,by simp only[aa];omega,?_,λkn kx=> ?_⟩
  ·simp only[w7,CO,aa,hd,bq]
  ·rw[JR,aU ak,bj ak ak,aa,n1];simp only[aj];rw[D9 (d:=(b,l[k].1)) (by show b.length<=_;omega)];simp only[ah,bu,PX];rw[D9 (d:=(b++jr l[k].1,l[k].2.1)) (by show(b++jr l[k].1).length<=_;rw[ai,cn];omega)];simp only[ah,bu,PX];rw[N.mD ak];rfl
 ·right;obtain rfl:k=(l).length:=ak;intro R kn kx;rw[JR,aQ ak,ao];simp only[w7,CO,aa,aL,cO]
theorem akx:(rn.kM 0 qO):=by
 refine(rn.mf 0 qO) (λ(b,l,n,i)=>(l).length - ae i) ?_
 rintro⟨b,l,n,i⟩ ⟨hlen,k,hk,rfl,rfl,FM,hx,hb⟩;have hlen:(l).length<=1000000000:=hlen;have hk:k<=(l).length:=hk;have FM:l.length<=64:=FM;have hx:∀x∈l,x.2.1.2.1.length<=12/\x.2.1.1<=9223372036854775807:=hx;have hb:b.length<=100000+1000*k:=hb;by_cases h:k < (l).length
 ·left;have n1:nth gh l k=l[k]:=cd (t:=gh) h;have hd:bR k l=l[k]::bR (k+1) l:=aq h;refine⟨((auN b l[k]),l,((l).length:Int),((k+1:Nat):Int)),⟨hlen,k+1,ak,rfl,rfl,FM,hx,by have:=aI2 b l[k] (hx _ (aN h)).1;omega⟩,by simp only[aa];omega,?_,λkn kx=> ?_⟩
  ·simp only[bu,JO,aa,hd,bq]
  ·rw[JP,aU ak,bj ak ak,aa,n1];simp only[aj];have e:=hx _ (aN h);have e1:=dy b l[k].2.1.1;have e2:=dy (cF b l[k].2.1.1) l[k].2.1.2.1.length;have e3:=acC l[k].2.1.2.1 (cF (cF b l[k].2.1.1) l[k].2.1.2.1.length);rw[jA (d:=(b,l[k].2.1.1)) ⟨by show b.length<=_;omega,e.2⟩];simp only[ah,bu,pd];rw[jA (d:=(cF b l[k].2.1.1,(l[k].2.1.2.1.length:Int))) ⟨by show(cF b l[k].2.1.1).length<=_;omega,by show(l[k].2.1.2.1.length:Int)<=_;omega⟩];simp only[ah,bu,pd];rw[aeR (d:=(cF (cF b l[k].2.1.1) l[k].2.1.2.1.length,l,l.length,k,l[k].2.1.2.1,l[k].2.1.2.1.length,0,l[k])) ⟨by show l[k].2.1.2.1.length<=_;omega,0,aK _,rfl,rfl,e.1,by show(cF (cF b l[k].2.1.1) l[k].2.1.2.1.length).length<=_;omega⟩];simp only[ah,w7,CO,aX,aD];rw[D9 (d:=(l[k].2.1.2.1.foldl acB (cF (cF b l[k].2.1.1) l[k].2.1.2.1.length),l[k].2.1.2.2.1)) (by show(l[k].2.1.2.1.foldl acB (cF (cF b l[k].2.1.1) l[k].2.1.2.1.length)).length<=_;omega)];simp only[ah,bu,PX];rw[N.mD ak];rfl
 ·right;obtain rfl:k=(l).length:=ak;intro R kn kx;rw[JP,aQ ak,ao];simp only[bu,JO,aa,aL,cO]
theorem aBr:rn.Ok:=by
 intro t hv;have hv:nU t:=hv;rw[aBq,pZ (d:=t) hv.1];simp only[ah,bu,rT,bu,JN,auH];cases jn:hJ t
 ·rfl
 ·obtain⟨⟨_,a2,a3,_⟩,b1,b2⟩:=jM jn;have hl:=OE jn hv;rw[ac8 (d:=t) ⟨jn,hv⟩];simp only[cm,ao,bG,ah,bu,ac7];rw[aeP (d:=(uW t,t.1,t.1.length,0)) ⟨by show t.1.length<=_;omega,0,aK _,rfl,rfl,a2,λx hx=>by have:=A6 (mH _ _ b1 x hx);exact⟨this.2.2.2.2,ak⟩,by show(uW t).length<=_;omega⟩];rfl
theorem OV:rn.RS:=rE [.d ez] rn
def UB:=rn.eU aBr 2 ⟨.fv akx,⟨.fv aky,trivial⟩⟩
abbrev Sb:=Nat×(List gK)×Int×Int×(List bC)
def adl:Sb->Prop:=λ(L,l,n,i,r)=>(l).length<=1000000/\∃k:Nat,k<=(l).length/\i=k/\n=(l).length/\L=(r).length/\(r).length<=1000000+k
def Ag:Sb->(Nat×(List bC)):=λ(L,l,n,i,r)=>(L+(bR (ae i) l).length,r++(bR (ae i) l).map (λx:gK=>x.1))
def ap5:dw->Prop:=λt=>aQl t
def K4:dw->(List bC):=λt=>dM t
def nR:Ls adl bu Ag:=rp (λ(lL,t9,t10,t11,n19)=>⟨([bF,bF,om 19 lL]++aP 6 ([.d (.slice gh) t9,.d ti t10,.d ti t11]++aP 10 [])),[],(bM 19 [dK (.vec 38 bg n19),[],[]])⟩) (λx=>(.exit 0,⟨([bF,bF,om 19 x.1]++aP 19 []),[],(bM 19 [dK (.vec 38 bg x.2),[],[]])⟩))
def sN:Fs Tryz.prog ap5 bu K4:=eN 72 Tryz.f72 (λt=>([.d ez t],[])) (λx=>⟨.d (.slice bg) x,[],[]⟩) [some ez] [tV] {loops:=nY [(4,{aV:=[2,9,10,11],sites:=[19],owns:=[⟨2,[],19,46⟩]})],outs:=nX [(4,{aV:=[2],sites:=[19]},{aV:=[2]})],fF:=nK [(4,nR.E)],res:=[some (.slice bg)]}
theorem adm:nR.RS:=rL [.n,.d (.slice gh),.d ti,.d ti,.d (.slice bg)] nR
theorem Hw{R:Type}(lL t9 t10 t11 n19)(kn:K2 R)(kx:K3 R):sN.R 0 nR (lL,t9,t10,t11,n19) kn kx=aJ ((gr t11 t10)) (aJ (ed t11 (t9.length:Int)) (aJ (decide (lL<=(ag n19))) (aJ (db (lL+1) 40) (kn (nR.st ((lL+1),t9,t10,(bI .i64 t11 1),((aR lL n19)++ [(nth gh t9 (ae t11)).1])))) none) none) none) (nR.go kx (lL,n19)):=b8
theorem auC{R:Type}(t)(k:K1 R):sN.A t k=al (iN.call t) λx1=>aJ ((!x1)) (k (sN.out ([]:List bC))) (al (nR.call (0,t.1,(t.1.length:Int),0,([]:List bC))) λx2=>aJ (decide (0=0/\(0+x2.1)<=(ag x2.2))) (k (sN.out (cut x2.2 0 x2.1))) none):=b8
theorem ae1:(sN.kM 0 nR):=by
 refine(sN.mf 0 nR) (λ(L,l,n,i,r)=>(l).length - ae i) ?_
 rintro⟨L,l,n,i,r⟩ ⟨hlen,k,hk,rfl,rfl,rfl,s9⟩;have hlen:(l).length<=1000000:=hlen;have hk:k<=(l).length:=hk;have s9:(r).length<=1000000+k:=s9;by_cases h:k < (l).length
 ·left;have n1:nth gh l k=l[k]:=cd (t:=gh) h;have hd:bR k l=l[k]::bR (k+1) l:=aq h;refine⟨((r).length+1,l,((l).length:Int),((k+1:Nat):Int),r++ [(λx:gK=>x.1) l[k]]),⟨hlen,k+1,ak,rfl,rfl,by rw[ai];rfl,by rw[ai];show(r).length+1<=_;omega⟩,by simp only[aa];omega,?_,λkn kx=> ?_⟩
  ·simp only[bu,Ag,aa,hd,bQ,aA,aF,c9];rw[show ∀a c:Nat,a+1+c=a+(c+1) from λa c=>ak]
  ·rw[Hw,aU ak,bj (show(0:Int)<=(k:Int) by omega) ak,aa,n1];simp only[aj];rw[aM (ax _),dr ak ak,N.mD ak,bK];rfl
 ·right;obtain rfl:k=(l).length:=ak;intro R kn kx;rw[Hw,aQ ak,ao];simp only[bu,Ag,aa,aL,iq,aZ,ba,cq]
theorem auD:sN.Ok:=by
 intro t hv;have hv:aQl t:=hv;rw[auC,pZ (d:=t) hv];simp only[ah,bu,rT,bu,K4,dM];cases jn:hJ t
 ·rfl
 ·obtain⟨⟨_,a2,a3,_⟩,b1,b2⟩:=jM jn;rw[adm (d:=(0,t.1,t.1.length,0,[])) ⟨by show t.1.length<=_;omega,0,aK _,rfl,rfl,rfl,aK _⟩];simp only[cm,ao,bG,ah,bu,Ag,aX,aD,aT,aO];rw[aM ⟨by trivial,by rw[bV];exact ax _⟩,aj,eY (by rw[bV])]
theorem WX:sN.RS:=rE [.d ez] sN
def adn:=sN.eU auD 1 ⟨.fv ae1,trivial⟩
abbrev ac5:=Nat×Int×Int×Bs×(List bC)
def akz:ac5->Prop:=λ(L,n,i,id,r)=>∃k m:Nat,k<=m/\i=k/\n=m/\m<=1000/\L=r.length/\L=k
def GH:ac5->(Nat×(List bC)):=λ(L,n,i,id,r)=>(L+(n - i).toNat,r++Hb id i.toNat (n - i).toNat)
def aBt:dw->Prop:=λt=>nU t
def Yk:dw->(List bC):=λt=>gX t
def u9:Ls akz bu GH:=rp (λ(lL,t12,t13,n3,n21)=>⟨([bF,bF,om 21 lL,eT 3]++aP 8 ([.d ti t12,.d ti t13]++aP 10 [])),[],([[],[],[],dK (.d tH n3)]++bM 17 [dK (.vec 38 bg n21),[],[]])⟩) (λx=>(.exit 0,⟨([bF,bF,om 21 x.1]++aP 21 []),[],(bM 21 [dK (.vec 38 bg x.2),[],[]])⟩))
def Hv:Fs Tryz.prog aBt bu Yk:=eN 197 Tryz.f197 (λt=>([.d ez t],[])) (λx=>⟨.d (.slice bg) x,[],[]⟩) [some ez] [UC,tV] {loops:=nY [(5,{aV:=[2,3,12,13],sites:=[3,21],owns:=[⟨2,[],21,46⟩]})],outs:=nX [(5,{aV:=[2],sites:=[21]},{aV:=[2]})],fF:=nK [(5,u9.E)],res:=[some (.slice bg)]}
theorem akA:u9.RS:=rL [.n,.d ti,.d ti,.d tB,.d (.slice bg)] u9
theorem MO{R:Type}(lL t12 t13 n3 n21)(kn:K2 R)(kx:K3 R):Hv.R 0 u9 (lL,t12,t13,n3,n21) kn kx=aJ ((gr t13 t12)) (aJ (decide (lL<=(ag n21))) (aJ (db (lL+1) 40) (kn (u9.st ((lL+1),t12,(bI .i64 t13 1),n3,((aR lL n21)++ [(n3,(t13,()))])))) none) none) (u9.go kx (lL,n21)):=b8
theorem aIx{R:Type}(t)(k:K1 R):Hv.A t k=al (tid.call t) λx1=>al (iN.call t) λx2=>aJ ((!x2)) (k (Hv.out ([]:List bC))) (al (u9.call (0,(t.2.1.length:Int),0,x1,([]:List bC))) λx3=>aJ (decide (0=0/\(0+x3.1)<=(ag x3.2))) (k (Hv.out (cut x3.2 0 x3.1))) none):=b8
theorem azt(id:List Int)(k n:Nat):(Hb id k n).length=n:=by simp[Hb]
theorem asB(id:List Int)(k n:Nat):Hb id k (n+1)=(id,((k:Int),()))::Hb id (k+1) n:=by unfold Hb;rw[List.range'_succ,bQ]
theorem apT:(Hv.kM 0 u9):=by
 refine(Hv.mf 0 u9) (λ(L,n,i,id,r)=>(n - i).toNat) ?_
 rintro⟨L,n,i,id,r⟩ ⟨k,m,hk,rfl,rfl,hm,rfl,aVJ⟩;have aVJ:r.length=k:=aVJ;by_cases h:k < m
 ·left;have e1:((m:Int) - (k:Int)).toNat=(m - (k+1))+1:=ak;have e2:((m:Int) - ((k+1:Nat):Int)).toNat=m - (k+1):=ak;refine⟨(r.length+1,(m:Int),((k+1:Nat):Int),id,r++ [(id,((k:Int),()))]),⟨k+1,m,ak,rfl,rfl,hm,by rw[ai];rfl,by show r.length+1=_;omega⟩,by show((m:Int) - ((k+1:Nat):Int)).toNat < ((m:Int) - (k:Int)).toNat;omega,?_,λkn kx=> ?_⟩
  ·simp only[bu,GH,e1,e2,aa,asB,aF,c9];rw[show r.length+1+(m - (k+1))=r.length+(m - (k+1)+1) by omega]
  ·rw[MO,aU ak,aM (ax _),dr ak ak,N.mD ak,bK];rfl
 ·right;obtain rfl:k=m:=ak;intro R kn kx;rw[MO,aQ ak,ao];simp only[bu,GH,Int.sub_self,aX,cq];rw[show Hb id (k:Int).toNat 0=[] from rfl,aZ]
theorem aIy:Hv.Ok:=by
 intro t hv;have hv:nU t:=hv;rw[aIx,GG (d:=t) hv,pZ (d:=t) hv.1];simp only[ah,bu,R6,bu,rT,bu,Yk,gX];cases jn:hJ t
 ·rfl
 ·obtain⟨⟨_,a2,a3,_⟩,b1,b2⟩:=jM jn;have hl:=azt (iC t) 0 t.2.1.length;rw[akA (d:=(0,t.2.1.length,0,iC t,[])) ⟨0,t.2.1.length,aK _,rfl,rfl,ak,rfl,rfl⟩];simp only[cm,ao,bG,ah,bu,GH,qe,aa,aX,aT,aO];rw[aM ⟨by trivial,by rw[hl];exact ax _⟩,aj,eY hl]
theorem ahl:Hv.RS:=rE [.d ez] Hv
def apU:=Hv.eU aIy 1 ⟨.fv apT,trivial⟩
def aDM:(List gK)->Prop:=λl=>l.length<=1000000
def arw:(List gK)->(Nat×(List gK)):=λl=>(l.length,l)
def aia:Fs Tryz.prog aDM bu arw:=eN 137 Tryz.f137 (λsv=>([.d (.slice gh) sv],[])) (λx=>⟨.bA (.new 0 0) 0 [] 0 0 x.1,[],[.obj 0 false (.vec 86 gh x.2)]⟩) [some (.slice gh)] [] {bJ:=[5],owns:=[⟨2,[],5,53⟩]}
theorem aKr{R:Type}(sv)(k:K1 R):aia.A sv k=aJ (decide (0 < (ag sv))) (aJ (db (0+(ag sv)) 80) (k (aia.out ((0+(ag sv)),((aR 0 (ab 0 (((ab 32 0),(0,())),((0,(([]:List Sg),(0,()))),()))))++sv)))) none) (nd (k (aia.out (0,([]:List gK)))) (aJ (db (0+(ag sv)) 80) (k (aia.out ((0+(ag sv)),((aR 0 (ab 0 (((ab 32 0),(0,())),((0,(([]:List Sg),(0,()))),()))))++sv)))) none)):=b8
theorem aKs:aia.Ok:=by
 intro l hl;have hl:l.length<=1000000:=hl;have hr:db l.length 80=true:=dr ak ak;rw[aKr];simp only[aO,hr,aj,dH,aT,bu,arw];by_cases h:0 < l.length
 ·simp only[aM h,aj]
 ·have:l=[]:=bE ak;subst this;simp only[ba,zH,aS (ik 0),ao]
theorem aDN:aia.RS:=rE [.d (.slice gh)] aia
def aKt:=aia.eU aKs
def ax0:(List gm)->Prop:=λl=>l.length<=1000000
def aic:(List gm)->(Nat×(List gm)):=λl=>(l.length,l)
def PR:Fs Tryz.prog ax0 bu aic:=eN 138 Tryz.f138 (λsv=>([.d (.slice gl) sv],[])) (λx=>⟨.bA (.new 0 0) 0 [] 0 0 x.1,[],[.obj 0 false (.vec 79 gl x.2)]⟩) [some (.slice gl)] [] {bJ:=[5],owns:=[⟨2,[],5,22⟩]}
theorem aDQ{R:Type}(sv)(k:K1 R):PR.A sv k=aJ (decide (0 < (ag sv))) (aJ (db (0+(ag sv)) 32) (k (PR.out ((0+(ag sv)),((aR 0 (ab 0 (0,((([]:List ot),()),()))))++sv)))) none) (nd (k (PR.out (0,([]:List gm)))) (aJ (db (0+(ag sv)) 32) (k (PR.out ((0+(ag sv)),((aR 0 (ab 0 (0,((([]:List ot),()),()))))++sv)))) none)):=b8
theorem aDR:PR.Ok:=by
 intro l hl;have hl:l.length<=1000000:=hl;have hr:db l.length 32=true:=dr ak ak;rw[aDQ];simp only[aO,hr,aj,dH,aT,bu,aic];by_cases h:0 < l.length
 ·simp only[aM h,aj]
 ·have:l=[]:=bE ak;subst this;simp only[ba,zH,aS (ik 0),ao]
theorem ax1:PR.RS:=rE [.d (.slice gl)] PR
def aDS:=PR.eU aDR
def aDL:(List ot)->Prop:=λl=>l.length<=1000000
def ah9:(List ot)->(Nat×(List ot)):=λl=>(l.length,l)
def adV:Fs Tryz.prog aDL bu ah9:=eN 140 Tryz.f140 (λsv=>([.d (.slice ki) sv],[])) (λx=>⟨.bA (.new 0 0) 0 [] 0 0 x.1,[],[.obj 0 false (.vec 98 ki x.2)]⟩) [some (.slice ki)] [] {bJ:=[5],owns:=[⟨2,[],5,70⟩]}
theorem aKp{R:Type}(sv)(k:K1 R):adV.A sv k=aJ (decide (0 < (ag sv))) (aJ (db (0+(ag sv)) 48) (k (adV.out ((0+(ag sv)),((aR 0 (ab 0 (([]:List Int),(0,(0,(0,()))))))++sv)))) none) (nd (k (adV.out (0,([]:List ot)))) (aJ (db (0+(ag sv)) 48) (k (adV.out ((0+(ag sv)),((aR 0 (ab 0 (([]:List Int),(0,(0,(0,()))))))++sv)))) none)):=b8
theorem aKq:adV.Ok:=by
 intro l hl;have hl:l.length<=1000000:=hl;have hr:db l.length 48=true:=dr ak ak;rw[aKp];simp only[aO,hr,aj,dH,aT,bu,ah9];by_cases h:0 < l.length
 ·simp only[aM h,aj]
 ·have:l=[]:=bE ak;subst this;simp only[ba,zH,aS (ik 0),ao]
theorem ami:adV.RS:=rE [.d (.slice ki)] adV
def avo:=adV.eU aKq
def ax2:(List Sg)->Prop:=λl=>l.length<=1000000
def aid:(List Sg)->(List Sg):=λl=>l
def PS:Fs Tryz.prog ax2 bu aid:=eN 139 Tryz.f139 (λsv=>([.d (.slice Av) sv],[])) (λx=>⟨.d (.slice Av) x,[],[]⟩) [some (.slice Av)] [] {bJ:=[5],res:=[some (.slice Av)]}
theorem aDT{R:Type}(sv)(k:K1 R):PS.A sv k=aJ (decide (0 < (ag sv))) (aJ (db (0+(ag sv)) 16) (aJ (decide (0=0/\(0+(0+(ag sv)))<=(ag ((aR 0 (ab 0 (0,(0,()))))++sv)))) (k (PS.out (cut ((aR 0 (ab 0 (0,(0,()))))++sv) 0 (0+(ag sv))))) none) none) (nd (k (PS.out ([]:List Sg))) (aJ (db (0+(ag sv)) 16) (aJ (decide (0=0/\(0+(0+(ag sv)))<=(ag ((aR 0 (ab 0 (0,(0,()))))++sv)))) (k (PS.out (cut ((aR 0 (ab 0 (0,(0,()))))++sv) 0 (0+(ag sv))))) none) none)):=b8
theorem aDU:PS.Ok:=by
 intro l hl;have hl:l.length<=1000000:=hl;have hr:db l.length 16=true:=dr ak ak;rw[aDT];simp only[aO,hr,aj,dH,aT,ax,jl,cv,eY,bu,aid];by_cases h:0 < l.length
 ·simp only[aM h,aj]
 ·have:l=[]:=bE ak;subst this;simp only[ba,zH,aS (ik 0),ao]
theorem ax3:PS.RS:=rE [.d (.slice Av)] PS
def aDV:=PS.eU aDU
abbrev GD:=Int×Int×Nat×Nat×(Int×Unit)×(Int×Unit)×(List gK)×(List gm)
def JS:GD->(List gK)->((Nat×Nat×(Int×Unit)×(Int×Unit)×(List gm))×((List gK))):=λ(t17,t18,aLS,aaU,n1,n2,n9,n12) y=>((aLS,aaU,n1,n2,n12),y)
abbrev R2:=Int×Int×Nat×Nat×(Int×Unit)×(Int×Unit)×(List gK)×(List gm)
abbrev GF:=Int×Nat×Int×Int×Int×Int×Nat×Nat×(Int×Unit)×(Int×Unit)×(List gK)×(List gm)×(List ot)
abbrev R5:=(List ot)×(List ot)
def JT:GF->R5->((Int×Int×Int×Nat×Nat×(Int×Unit)×(Int×Unit)×(List gK)×(List gm))×((List ot)×(List ot))):=λ(kv,lL,acT,acU,t51,t52,aaV,aaW,asF,th,asH,aaP,n49) y=>((kv,acT,acU,aaV,aaW,asF,th,asH,aaP),y)
def acY:GD->Prop:=λ(m,i,L,L2,u,v,l,os)=>(l.length<=1000/\∀x∈l,x.2.1.2.1.length<=1000000)/\∃k:Nat,k<=l.length/\i=k/\m=l.length/\L=l.length
def R1:GD->(List gK):=λ(m,i,L,L2,u,v,l,os)=>l
def ac2:GF->Prop:=λ(kv,L,m1,i1,m,i,L5,L6,u,v,ls,os,bs)=>(bs.length<=1000/\∀x∈bs,x.1.length<=1000000)/\∃k:Nat,k<=bs.length/\i=k/\m=bs.length/\L=bs.length
def R4:GF->R5:=λ(kv,L,m1,i1,m,i,L5,L6,u,v,ls,os,bs)=>(bs,bs)
def ac0:R2->Prop:=λ(m,i,L3,L,u,v,ls,os)=>(os.length<=1000/\∀x∈os,x.2.1.1.length<=1000/\∀b∈x.2.1.1,b.1.length<=1000000)/\∃k:Nat,k<=os.length/\i=k/\m=os.length/\L=os.length
def R3:R2->(Nat×Nat×(Int×Unit)×(Int×Unit)×(List gK)×(List gm)):=λ(m,i,L3,L,u,v,ls,os)=>(L3,L,u,v,ls,os)
def apQ:dw->Prop:=λt=>hJ t=true
def ahk:dw->(Nat×((List gm)×(Int×Unit))×(List gK)):=λt=>(t.1.length,(t.2.1,t.2.2),t.1)
def mg:Ls acY JS R1:=rp (λ(t17,t18,aLS,aaU,n1,n2,n9,n12)=>⟨([bF,eT 1,eT 2]++aP 14 ([.d ti t17,.d ti t18]++aP 56 [])),[],([[],dK (.pr (om 9 aLS) (.pr (om 12 aaU) (.d (.pair ti .unit) n1))),dK (.pr (.de) (.pr (.de) (.d (.pair ti .unit) n2)))]++bM 6 ([dK (.vec 86 gh n9),[],[],dK (.vec 79 gl n12)]++bM 62 []))⟩) (λx=>(.exit 0,⟨([bF,eT 1,eT 2]++aP 72 []),[],([[],dK (.pr (om 9 x.1.1) (.pr (om 12 x.1.2.1) (.d (.pair ti .unit) x.1.2.2.1))),dK (.pr (.de) (.pr (.de) (.d (.pair ti .unit) x.1.2.2.2.1)))]++bM 6 ([dK (.vec 86 gh x.2),[],[],dK (.vec 79 gl x.1.2.2.2.2)]++bM 62 []))⟩))
def mh:Ls ac0 bu R3:=rp (λ(t38,t39,an4,agx,aGp,kQ,Q4,aaO)=>⟨([bF,eT 1,eT 2]++aP 35 ([.d ti t38,.d ti t39]++aP 35 [])),[],([[],dK (.pr (om 9 an4) (.pr (om 12 agx) (.d (.pair ti .unit) aGp))),dK (.pr (.de) (.pr (.de) (.d (.pair ti .unit) kQ)))]++bM 6 ([dK (.vec 86 gh Q4),[],[],dK (.vec 79 gl aaO)]++bM 62 []))⟩) (λx=>(.exit 2,⟨([bF,eT 1,eT 2]++aP 72 []),[],([[],dK (.pr (om 9 x.1) (.pr (om 12 x.2.1) (.d (.pair ti .unit) x.2.2.1))),dK (.pr (.de) (.pr (.de) (.d (.pair ti .unit) x.2.2.2.1)))]++bM 6 ([dK (.vec 86 gh x.2.2.2.2.1),[],[],dK (.vec 79 gl x.2.2.2.2.2)]++bM 62 []))⟩))
def mi:Ls ac2 JT R4:=rp (λ(kv,lL,acT,acU,t51,t52,aaV,aaW,asF,th,asH,aaP,n49)=>⟨([bF,eT 1,eT 2,bF,.d ti kv,om 49 lL]++aP 32 ([.d ti acT,.d ti acU]++aP 11 ([.d ti t51,.d ti t52]++aP 22 []))),[],([[],dK (.pr (om 9 aaV) (.pr (om 12 aaW) (.d (.pair ti .unit) asF))),dK (.pr (.de) (.pr (.de) (.d (.pair ti .unit) th)))]++bM 6 ([dK (.vec 86 gh asH),[],[],dK (.vec 79 gl aaP)]++bM 36 ([dK (.vec 98 ki n49)]++bM 25 [])))⟩) (λx=>(.exit 4,⟨([bF,eT 1,eT 2,bF,.d ti x.1.1,.d (.slice ki) x.2.1]++aP 32 ([.d ti x.1.2.1,.d ti x.1.2.2.1]++aP 35 [])),[],([[],dK (.pr (om 9 x.1.2.2.2.1) (.pr (om 12 x.1.2.2.2.2.1) (.d (.pair ti .unit) x.1.2.2.2.2.2.1))),dK (.pr (.de) (.pr (.de) (.d (.pair ti .unit) x.1.2.2.2.2.2.2.1)))]++bM 6 ([dK (.vec 86 gh x.1.2.2.2.2.2.2.2.1),[],[],dK (.vec 79 gl x.1.2.2.2.2.2.2.2.2)]++bM 36 ([[.obj 0 true (.vec 98 ki x.2.2)]]++bM 25 [])))⟩))
def my:Fs Tryz.prog apQ bu ahk:=eN 90 Tryz.f90 (λt=>([.d ez t],[])) (λx=>⟨.pr (.bA (.new 0 0) 0 [] 0 0 x.1) (.d (.pair (.slice gl) (.pair ti .unit)) x.2.1),[],[.obj 0 false (.vec 86 gh x.2.2)]⟩) [some ez] [aKt,aDS,aDV,avo,TV] {bJ:=[1],loops:=nY [(3,{aV:=[1,2,17,18],sites:=[1,2,9,12]}),(8,{aV:=[1,2,38,39],sites:=[1,2,9,12]}),(12,{aV:=[1,2,4,5,38,39,51,52],sites:=[1,2,9,12,49]})],outs:=nX [(3,{aV:=[1,2],sites:=[1,2,9,12]},{aV:=[2]}),(8,{aV:=[1,2],sites:=[1,2,9,12]},{aV:=[2]}),(12,{aV:=[1,2,4,5,38,39],sites:=[1,2,9,12,49],data:=[(5,(.slice ki))]},{aV:=[2]})],fF:=nK [(3,mg.E),(8,mh.E),(12,mi.E)],NF:=[⟨2,[.snd,.fst],(.slice gl)⟩]}
theorem acZ:mg.RS:=rL [.d ti,.d ti,.n,.n,.d (.pair ti .unit),.d (.pair ti .unit),.d (.slice gh),.d (.slice gl)] mg
theorem Hs{R:Type}(t17 t18 aLS aaU n1 n2 n9 n12)(kn:K2 R)(kx:K3 R):my.R 0 mg (t17,t18,aLS,aaU,n1,n2,n9,n12) kn kx=aJ ((gr t18 t17)) (aJ (ed t18 ((aLS:Nat):Int)) (aJ (decide ((0+(ae t18)) < (ag n9))) (aJ (decide ((((0+(ae t18))*36)+34)=(((0+((ae t18)*36))+33)+1))) (al (PS.call (nth gh n9 (0+(ae t18))).2.1.2.1) λx1=>aJ (ed t18 ((aLS:Nat):Int)) (aJ (decide ((0+(ae t18)) < (ag n9))) (aJ (decide ((((0+(ae t18))*36)+34)=(((0+((ae t18)*36))+33)+1))) (aJ (decide ((0+(ae t18)) < (ag n9))) (kn (mg.st (t17,(bI .i64 t18 1),aLS,aaU,n1,n2,(fX n9 (0+(ae t18)) ((nth gh n9 (0+(ae t18))).1,(((nth gh n9 (0+(ae t18))).2.1.1,(x1,(nth gh n9 (0+(ae t18))).2.1.2.2)),(nth gh n9 (0+(ae t18))).2.2))),n12))) none) none) none) none) none) none) none) (mg.go kx ((aLS,aaU,n1,n2,n12),n9)):=b8
theorem ac1:mh.RS:=rL [.d ti,.d ti,.n,.n,.d (.pair ti .unit),.d (.pair ti .unit),.d (.slice gh),.d (.slice gl)] mh
theorem Ht{R:Type}(t38 t39 an4 agx aGp kQ Q4 aaO)(kn:K2 R)(kx:K3 R):my.R 1 mh (t38,t39,an4,agx,aGp,kQ,Q4,aaO) kn kx=aJ ((gr t39 t38)) (aJ (ed t39 ((agx:Nat):Int)) (aJ (decide ((0+(ae t39)) < (ag aaO))) (aJ (decide ((((0+(ae t39))*2)+1)=(((0+((ae t39)*2))+1)+0))) (al (adV.call (nth gl aaO (0+(ae t39))).2.1.1) λx1=>al (mi.call (t39,x1.1,t38,t39,((x1.1:Nat):Int),0,an4,agx,aGp,kQ,Q4,aaO,x1.2)) λx2=>aJ (ed x2.1.1 ((x2.1.2.2.2.2.1:Nat):Int)) (aJ (decide ((0+(ae x2.1.1)) < (ag x2.1.2.2.2.2.2.2.2.2))) (aJ (decide ((((0+(ae x2.1.1))*2)+1)=(((0+((ae x2.1.1)*2))+1)+0))) (aJ (decide ((0+(ae x2.1.1)) < (ag x2.1.2.2.2.2.2.2.2.2))) (kn (mh.st (x2.1.2.1,(bI .i64 x2.1.2.2.1 1),x2.1.2.2.2.1,x2.1.2.2.2.2.1,x2.1.2.2.2.2.2.1,x2.1.2.2.2.2.2.2.1,x2.1.2.2.2.2.2.2.2.1,(fX x2.1.2.2.2.2.2.2.2.2 (0+(ae x2.1.1)) ((nth gl x2.1.2.2.2.2.2.2.2.2 (0+(ae x2.1.1))).1,((x2.2.1,(nth gl x2.1.2.2.2.2.2.2.2.2 (0+(ae x2.1.1))).2.1.2),(nth gl x2.1.2.2.2.2.2.2.2.2 (0+(ae x2.1.1))).2.2)))))) none) none) none) none) none) none) none) (mh.go kx (an4,agx,aGp,kQ,Q4,aaO)):=b8
theorem ac3:mi.RS:=rL [.d ti,.n,.d ti,.d ti,.d ti,.d ti,.n,.n,.d (.pair ti .unit),.d (.pair ti .unit),.d (.slice gh),.d (.slice gl),.d (.slice ki)] mi
theorem Hu{R:Type}(kv lL acT acU t51 t52 aaV aaW asF th asH aaP n49)(kn:K2 R)(kx:K3 R):my.R 2 mi (kv,lL,acT,acU,t51,t52,aaV,aaW,asF,th,asH,aaP,n49) kn kx=aJ ((gr t52 t51)) (aJ (ed t52 ((lL:Nat):Int)) (aJ (decide ((0+(ae t52)) < (ag n49))) (aJ (decide ((((0+(ae t52))*4)+0)=((0+((ae t52)*4))+0))) (al (Bo.call (nth ki n49 (0+(ae t52))).1) λx1=>aJ (ed t52 ((lL:Nat):Int)) (aJ (decide ((0+(ae t52)) < (ag n49))) (aJ (decide ((((0+(ae t52))*4)+0)=((0+((ae t52)*4))+0))) (aJ (decide ((0+(ae t52)) < (ag n49))) (kn (mi.st (kv,lL,acT,acU,t51,(bI .i64 t52 1),aaV,aaW,asF,th,asH,aaP,(fX n49 (0+(ae t52)) (x1,(nth ki n49 (0+(ae t52))).2))))) none) none) none) none) none) none) none) (aJ (decide (0=0/\(0+lL)<=(ag n49))) (mi.go kx ((kv,acT,acU,aaV,aaW,asF,th,asH,aaP),((cut n49 0 lL),n49))) none):=b8
theorem auo{R:Type}(t)(k:K1 R):my.A t k=al (aia.call t.1) λx1=>al (PR.call t.2.1) λx2=>al (mg.call (((x1.1:Nat):Int),0,x1.1,x2.1,t.2.2,(0,()),x1.2,x2.2)) λx4=>al (mh.call (((x4.1.2.1:Nat):Int),0,x4.1.1,x4.1.2.1,x4.1.2.2.1,x4.1.2.2.2.1,x4.2,x4.1.2.2.2.2)) λx8=>aJ (decide (0=0/\(0+x8.2.1)<=(ag x8.2.2.2.2.2))) (k (my.out (x8.1,((cut x8.2.2.2.2.2 0 x8.2.1),x8.2.2.1),x8.2.2.2.2.1))) none:=b8
theorem aeS:(my.kM 0 mg):=by
 refine(my.mf 0 mg) (λ(m,i,L,L2,u,v,l,os)=>l.length - ae i) ?_
 rintro⟨m,i,L,L2,u,v,l,os⟩ ⟨⟨hlen,hx⟩,k,hk,rfl,rfl,rfl⟩;have hlen:l.length<=1000:=hlen;have hk:k<=l.length:=hk;by_cases h:k < l.length
 ·left;have n1:nth gh l k=l[k]:=cd (t:=gh) h;have hs:l.set k l[k]=l:=gI h;have e:=hx _ (aN h);refine⟨((l.length:Int),((k+1:Nat):Int),l.length,L2,u,v,l,os),⟨⟨hlen,hx⟩,k+1,ak,rfl,rfl,rfl⟩,by simp only[aa];omega,rfl,λkn kx=> ?_⟩;rw[Hs,aU ak,bj ak ak];simp only[aa,aO,cq,eP,Nat.reduceAdd,aj,aM h,cv,n1];rw[ax3 (d:=l[k].2.1.2.1) e];simp only[ah,bu,aid];rw[N.mD ak];exact bo (λz=>kn (mg.st (_,_,_,_,_,_,z,_))) hs
 ·right;obtain rfl:k=l.length:=ak;intro R kn kx;rw[Hs,aQ ak,ao];rfl
theorem aeU:(my.kM 2 mi):=by
 refine(my.mf 2 mi) (λ(kv,L,m1,i1,m,i,L5,L6,u,v,ls,os,bs)=>bs.length - ae i) ?_
 rintro⟨kv,L,m1,i1,m,i,L5,L6,u,v,ls,os,bs⟩ ⟨⟨hlen,hx⟩,k,hk,rfl,rfl,rfl⟩;have hlen:bs.length<=1000:=hlen;have hk:k<=bs.length:=hk;by_cases h:k < bs.length
 ·left;have n1:nth ki bs k=bs[k]:=cd (t:=ki) h;have hs:bs.set k bs[k]=bs:=gI h;have e:=hx _ (aN h);refine⟨(kv,bs.length,m1,i1,(bs.length:Int),((k+1:Nat):Int),L5,L6,u,v,ls,os,bs),⟨⟨hlen,hx⟩,k+1,ak,rfl,rfl,rfl⟩,by simp only[aa];omega,rfl,λkn kx=> ?_⟩;rw[Hu,aU ak,bj ak ak];simp only[aa,aO,cq,eP,Nat.reduceAdd,aj,aM h,cv,n1];rw[OB (d:=bs[k].1) e];simp only[ah,bu,Re];rw[N.mD ak];exact bo (λz=>kn (mi.st (_,_,_,_,_,_,_,_,_,_,_,_,z))) hs
 ·right;obtain rfl:k=bs.length:=ak;intro R kn kx;rw[Hu,aQ ak,ao];simp only[aO,ax,jl,cv,aj,eY];rfl
theorem aeT:(my.kM 1 mh):=by
 refine(my.mf 1 mh) (λ(m,i,L3,L,u,v,ls,os)=>os.length - ae i) ?_
 rintro⟨m,i,L3,L,u,v,ls,os⟩ ⟨⟨hlen,hx⟩,k,hk,rfl,rfl,rfl⟩;have hlen:os.length<=1000:=hlen;have hk:k<=os.length:=hk;by_cases h:k < os.length
 ·left;have n1:nth gl os k=os[k]:=cd (t:=gl) h;have hs:os.set k os[k]=os:=gI h;have e:=hx _ (aN h);refine⟨((os.length:Int),((k+1:Nat):Int),L3,os.length,u,v,ls,os),⟨⟨hlen,hx⟩,k+1,ak,rfl,rfl,rfl⟩,by simp only[aa];omega,rfl,λkn kx=> ?_⟩;rw[Ht,aU ak,bj ak ak];simp only[aa,aO,cq,eP,Nat.reduceAdd,aj,aM h,cv,n1];rw[ami (d:=os[k].2.1.1) (by show os[k].2.1.1.length<=_;have:=e.1;omega)];simp only[ah,bu,ah9];rw[ac3 (d:=((k:Int),os[k].2.1.1.length,(os.length:Int),(k:Int),(os[k].2.1.1.length:Int),0,L3,os.length,u,v,ls,os,os[k].2.1.1)) ⟨e,0,aK _,rfl,rfl,rfl⟩];simp only[ah,JT,R4,aa,n1,aj,aM h,bj (show(0:Int)<=(k:Int) by omega) (show(k:Int) < (os.length:Int) by omega)];rw[N.mD ak];exact bo (λz=>kn (mh.st (_,_,_,_,_,_,_,z))) hs
 ·right;obtain rfl:k=os.length:=ak;intro R kn kx;rw[Ht,aQ ak,ao];rfl
theorem TM{l:Lk}(h:kS l=true):l.1.length<=4/\∀b∈l.1,b.1.length<=12:=by unfold kS at h;simp only[au,cW,aW]at h;refine⟨h.2.2,λb hb=> ?_⟩;have:=h.1 b hb;unfold vh at this;simp only[au,aW]at this;exact this.1
theorem aup:my.Ok:=by
 rintro⟨is,os,nt,u⟩ jn;obtain⟨⟨_,a2,a3,_⟩,b1,b2⟩:=jM jn;have a2:is.length<=64:=a2;have a3:os.length<=64:=a3;rw[auo,aDN (d:=is) (by show is.length<=_;omega),ax1 (d:=os) (by show os.length<=_;omega)];simp only[ah,bu,arw,bu,aic];rw[acZ (d:=(is.length,0,is.length,os.length,(nt,u),(0,()),is,os)) ⟨⟨by show is.length<=_;omega,λx hx=>by have:=(A6 (mH _ _ b1 x hx)).2.2.2.2;omega⟩,0,aK _,rfl,rfl,rfl⟩];simp only[ah,JS,R1];rw[ac1 (d:=(os.length,0,is.length,os.length,(nt,u),(0,()),is,os)) ⟨⟨by show os.length<=_;omega,λx hx=>by
  have:=TM (ky _ _ b2 x hx).2;exact⟨ak,λb hb=>by have:=this.2 b hb;omega⟩⟩,0,aK _,rfl,rfl,rfl⟩]
 simp only[ah,bu,R3,aO,ax,jl,cv,aj,eY];rfl
theorem apR:my.RS:=rE [.d ez] my
def auq:=my.eU aup 3 ⟨.fv aeS,⟨.fv aeT,⟨.fv aeU,trivial⟩⟩⟩
theorem Rg(x:Int)(m:Int):∀k:Nat,(x%m)^k%m=x^k%m
 | 0=>by rw[lk,lk]
 |k+1=>by rw[fO,fO,jD,Rg x m k,gS _ (qb m),<-jD]
theorem aP3(a:Int)(k:Nat):(a*a)^k=a^(2*k):=by rw[Int.pow_mul,fO,fO,lk,Int.one_mul]
theorem aG3:∀(f:Nat) (a:Int) (n:Nat) (out:Int),n < 2^f->Pn out->alg f a n out=out*a^n%4611686018427377339
 | 0,a,n,out,h,ho=>by obtain rfl:n=0:=ak;rw[Bt,lk,xj,fe ho.1 ho.2]
 |f+1,a,n,out,h,ho=>by
  have e:(2:Nat)^(f+1)=2^f*2:=Nat.pow_succ 2 f;rw[alg];split
  ·rename_i h0;subst h0;rw[lk,xj,fe ho.1 ho.2]
  ·have hp:Pn (if n%2=1 then pG out a else out):=by
    split
    ·exact wI _ _
    ·exact ho
   rw[aG3 f _ _ _ ak hp,jD];have e1:(pG a a)^(n / 2)%4611686018427377339=a^(2*(n / 2))%4611686018427377339:=by unfold pG;rw[Rg,aP3]
   have e2:(if n%2=1 then pG out a else out)%4611686018427377339=(out*a^(n%2))%4611686018427377339:=by
    split
    ·rename_i h1;rw[h1,fO,lk,Int.one_mul];exact gS _ (qb _)
    ·have h1:n%2=0:=ak;rw[h1,lk,xj]
   rw[e1,e2,<-jD,rq,<-Int.pow_add];have e3:n%2+2*(n / 2)=n:=ak;rw[e3]
theorem abC(a:Int)(n:Nat)(h:n < 18446744073709551616):pw a n=a^n%4611686018427377339:=by unfold pw;rw[aG3 64 a n 1 h ⟨ak,ak⟩,Int.one_mul]
theorem one_pow(k:Nat):(1:Int)^k=1:=Int.one_pow
theorem aG5(a:Int)(k q:Nat)(hk:k < 18446744073709551616)(hq:q < 18446744073709551616)(h:pw a q=1):pw (pw a k) q=1:=by rw[abC _ _ hq]at h;rw[abC _ _ hq,abC _ _ hk,Rg,<-Int.pow_mul,ql,Int.pow_mul,<-Rg,h,one_pow];rfl
theorem af3:pw 4 2305843009213688669=1:=by decide+kernel
theorem azO:pw 1 2305843009213688669=1:=by decide+kernel
theorem aLz:vu 4=true:=by rw[vu,af3];rfl
theorem QI:vu 1=true:=by rw[vu,azO];rfl
theorem aLZ:an5 1=1:=by
 have e:pw 1 2305843009213688668=1:=by decide+kernel
 rw[an5,tk,QI];exact e
theorem ajP{a:Int}(h:Pn a)(q:Nat)(hq:0 < q)(Tq:q < 18446744073709551616)(hp:pw a q=1):0 < a:=by
 rcases Int.lt_or_eq_of_le h.1 with h0 | h0
 ·exact h0
 ·subst h0;rw[abC _ _ Tq,Int.zero_pow ak]at hp;cases hp
theorem aPm{a:Int}(h:Pn a)(hp:pw a 2305843009213688669=1):vu a=true:=by have h0:=ajP h 2305843009213688669 (by decide) (by decide) hp;rw[vu,hp,fY ⟨h0,h.2⟩];rfl
theorem ay6{a:Int}(h:vu a=true):pw a 2305843009213688669=1/\Pn a:=by rw[vu,au,aW,aW]at h;exact⟨h.2,ak,h.1.2⟩
theorem aPn{a:Int}(h:vu a=true)(k:Nat)(hk:k < 18446744073709551616):vu (pw a k)=true:=
 aPm (aoB _ _) (aG5 a k _ hk (by decide) (ay6 h).1)
theorem aPo(a:Int):vu (tk a)=true:=by
 unfold tk;cases h:vu a
 ·exact QI
 ·exact h
theorem ay7(p k:Int):vu (Gw p k)=true:=aPn (aPo p) _ ak
theorem ac4{a:Int}(h:vu a=true):tk a=a:=by rw[tk,h];rfl
theorem aaj(k:Int):vu (gq k)=true:=ay7 4 k
theorem an2{a:Int}(h:Pn a):pG a 1=a:=by rw[pG,xj,fe h.1 h.2]
def pm(m:Nat):Nat->Nat->Nat->Nat->Nat
 | 0,_,_,out=>out%m
 |f+1,a,n,out=>if n=0 then out%m else pm m f (a*a%m) (n / 2) (if n%2=1 then out*a%m else out)
theorem aNU(m:Nat):∀(f a n out:Nat),n < 2^f->pm m f a n out=out*a^n%m
 | 0,a,n,out,h=>by obtain rfl:n=0:=ak;rw[pm,Nat.pow_zero,gT]
 |f+1,a,n,out,h=>by
  have e:(2:Nat)^(f+1)=2^f*2:=Nat.pow_succ (n:=2) (m:=f);rw[pm];split
  ·rename_i h0;subst h0;rw[Nat.pow_zero,gT]
  ·rw[aNU m f _ _ _ ak,lp];have e1:(a*a%m)^(n / 2)%m=a^(2*(n / 2))%m:=by rw[<-Nat.pow_mod,Nat.pow_mul,Nat.pow_two]
   have e2:(if n%2=1 then out*a%m else out)%m=(out*a^(n%2))%m:=by
    split
    ·rename_i h1;rw[h1,Nat.pow_one,Nat.mod_mod]
    ·have h1:n%2=0:=ak;rw[h1,Nat.pow_zero,gT]
   rw[e1,e2,<-lp,Nat.mul_assoc,<-oT];have e3:n%2+2*(n / 2)=n:=ak;rw[e3]
theorem aFg:∀(r q:Nat) (f:Nat->Nat),(∀i,i < q->f i < r)->(∀i j,i < j->j < q->f i≠f j)->q<=r
 | 0,q,f,h,_=>by
  rcases iY q with h0 | h0
  ·omega
  ·exact absurd (h 0 h0) (Nat.not_lt_zero _)
 |r+1,q,f,h,g=>by
  by_cases hx:∃i,i < q/\f i=r
  ·obtain⟨i,hi,hr⟩:=hx;have e:=aFg r (q - 1) (λj=>if j < i then f j else f (j+1)) (λj hj=>by
    by_cases h1:j < i
    ·have a:=h j ak;have b:=g j i h1 hi;simp only[h1,bG];omega
    ·have a:=h (j+1) ak;have b:=g i (j+1) ak ak;simp only[h1,bt];omega) (λj k aWD hk=>by
    by_cases h1:j < i
    ·by_cases h2:k < i
     ·simp only[h1,h2,bG];exact g j k aWD ak
     ·simp only[h1,h2,bG,bt];exact g j (k+1) ak ak
    ·have h2:¬k < i:=ak;simp only[h1,h2,bt];exact g (j+1) (k+1) ak ak)
   omega
  ·have e:=aFg r q f (λi hi=>by
    have a:=h i hi;have b:f i≠r:=λx=>hx ⟨i,hi,x⟩
    omega) g
   omega
theorem awo(a m:Nat)(h1:1%m=1):∀i j:Nat,a^i%m=1->a^j%m=1->a^(Nat.gcd i j)%m=1:=by
 intro i
 induction i using Nat.strongRecOn with
 |ind i ih=>
  intro j hi hj;rcases iY i with h0 | h0
  ·subst h0;rw[Nat.gcd_zero_left];exact hj
  ·rw[Nat.gcd_rec];refine ih (j%i) (Nat.mod_lt _ h0) i ?_ hi
   have e:a^j=(a^i)^(j / i)*a^(j%i):=by rw[<-Nat.pow_mul,<-oT,Nat.div_add_mod]
   rw[e,lp,Nat.pow_mod,hi,Nat.one_pow,h1,iE,Nat.mod_mod]at hj;exact hj
def aCq(n:Nat):Prop:=∀d,d∣n->d=1\/d=n
theorem awp{n k:Nat}(h:aCq n)(h0:0 < k)(hk:k < n):Nat.gcd k n=1:=by
 rcases h _ (Nat.gcd_dvd_right k n) with h1 | h1
 ·exact h1
 ·have:=Nat.le_of_dvd h0 (Nat.gcd_dvd_left k n);omega
theorem an8{n:Nat}(hn:1 < n)(h:∀r,1 < r->r*r<=n->¬r∣n):aCq n:=by
 intro d hd;obtain⟨e,he⟩:=hd;have aSL:0 < d:=Nat.pos_of_ne_zero (by intro x;rw[x,nu]at he;omega);have aiY:0 < e:=Nat.pos_of_ne_zero (by intro x;rw[x,Nat.mul_zero]at he;omega);by_cases h1:d=1
 ·exact .inl h1
 by_cases h2:e=1
 ·right;rw[he,h2,gT]
 exfalso;rcases Nat.le_total d e with hle | hle
 ·exact h d ak (by rw[he];exact Nat.mul_le_mul_left d hle) ⟨e,he⟩
 ·exact h e ak (by rw[he];exact cS e hle) ⟨d,by rw[he,ql]⟩
theorem aPP{n q b:Nat}(hn:1 < n)(hq:aCq q)(aQD:1 < q)(aUb:n < q*q)(hb:b^q%n=1)(hg:Nat.gcd (b - 1) n=1)(aSK:0 < b):aCq n:=by
 refine an8 hn λr hr aWX ai4=> ?_
 have aVm:1%r=1:=kc hr;have aVq:b^q%r=1:=by have:=Nat.mod_mod_of_dvd (b^q) ai4;rw[<-this,hb,aVm]
 have gF:b%r≠1:=by
  intro hx;have hd:r∣b - 1:=by have e:=Nat.dvd_sub_mod (n:=r) b;rw[hx]at e;exact e
  have:=Nat.dvd_gcd hd ai4;rw[hg]at this;have:=Nat.le_of_dvd ak this;omega
 have key:q<=r:=by
  refine aFg r q (λi=>b^i%r) (λi _=>Nat.mod_lt _ ak) λi j aSS hj he=> ?_
  have e1:b^(j - i)%r=1:=by
   have x1:b^(q - i)*b^i%r=b^(q - i)*b^j%r:=by rw[lp,he,<-lp]
   rw[<-oT,<-oT,show q - i+i=q by omega,show q - i+j=q+(j - i) by omega,oT,lp,aVq,iE,Nat.mod_mod]at x1;exact x1.symm
  have e2:=awo b r aVm (j - i) q e1 aVq;rw[awp hq ak ak,Nat.pow_one]at e2;exact gF e2
 have:q*q<=r*r:=Nat.mul_le_mul key key;omega
def aGw(n:Nat):Nat->Bool
 | 0=>true
 |k+1=>n%(k+2) !=0 && aGw n k
theorem an7(n:Nat):∀k,aGw n k=true->∀d,1 < d->d<=k+1->¬d∣n
 | 0,_,d,h1,h2=>ak
 |k+1,h,d,h1,h2=>by
  rw[aGw,au]at h;by_cases hd:d=k+2
  ·intro hx;have:=Nat.mod_eq_zero_of_dvd hx;rw[hd]at this;rw[this]at h;exact absurd h.1 (by decide)
  ·exact an7 n k h.2 d h1 ak
theorem aUG:aCq 7930907:=by
 refine an8 (by decide) λr hr aWX=>an7 7930907 2820 (by decide+kernel) r hr ?_
 apply Nat.le_of_not_lt;intro h;have:2822*2822<=r*r:=Nat.mul_le_mul ak ak;omega
theorem Rh{n q:Nat}(a e:Nat)(hq:aCq q)(aQD:1 < q)(hn:1 < n)(aUb:n < q*q)(he:e < 2^64)(Tq:q < 2^64)(h1:pm n 64 (pm n 64 a e 1) q 1=1)(h2:Nat.gcd (pm n 64 a e 1 - 1) n=1)(h3:0 < pm n 64 a e 1):aCq n:=by generalize pm n 64 a e 1=b at*;rw[aNU _ _ _ _ _ Tq,iE]at h1;exact aPP hn hq aQD aUb h1 h2 h3
theorem aUF:aCq 11864636873:=Rh (q:=7930907) 2 1496 aUG (by decide) (by decide) (by decide) (by decide) (by decide) (by decide+kernel) (by decide+kernel) (by decide+kernel)
theorem aUE:aCq 1732236983459:=Rh (q:=11864636873) 2 146 aUF (by decide) (by decide) (by decide) (by decide) (by decide) (by decide+kernel) (by decide+kernel) (by decide+kernel)
theorem aUD:aCq 249442125618097:=Rh (q:=1732236983459) 2 144 aUE (by decide) (by decide) (by decide) (by decide) (by decide) (by decide+kernel) (by decide+kernel) (by decide+kernel)
theorem aUH:aCq 2305843009213688669:=Rh (q:=249442125618097) 2 9244 aUD (by decide) (by decide) (by decide) (by decide) (by decide) (by decide+kernel) (by decide+kernel) (by decide+kernel)
def gP(n:Nat):Int:=((4^n%4611686018427377339:Nat):Int)
theorem aen(a m q:Nat)(h1:1%m=1)(h:a^q%m=1)(n:Nat):a^(n%q)%m=a^n%m:=by
 have e:a^n=(a^q)^(n / q)*a^(n%q):=by rw[<-Nat.pow_mul,<-oT,Nat.div_add_mod]
 rw[e,lp,Nat.pow_mod (a^q),h,Nat.one_pow,h1,iE,Nat.mod_mod]
theorem aNk:∀q:Nat,q=2305843009213688669->4^q%4611686018427377339=1:=by
 intro q hq;have h:=af3;rw[abC _ _ (by decide)]at h;rw[<-hq]at h;have e:(((4^q%4611686018427377339:Nat)):Int)=1:=by rw[qd,kV];exact h
 omega
theorem aiT(n:Nat):gP (n%2305843009213688669)=gP n:=by unfold gP;obtain⟨q,hq⟩:∃q:Nat,q=2305843009213688669:=⟨_,rfl⟩;rw[<-hq,aen 4 4611686018427377339 q (by decide) (aNk q hq)]
theorem aRe(n:Nat)(h:n < 18446744073709551616):pw 4 n=gP n:=by rw[abC _ _ h];unfold gP;rw[qd,kV];rfl
theorem aE5(k:Int)(h:0<=k):(k%2305843009213688669).toNat=k.toNat%2305843009213688669:=ak
theorem XM(k:Int)(h:0<=k):gq k=gP k.toNat:=by show pw (tk 4) _=_;rw[ac4 aLz,aRe _ ak,aE5 k h,aiT]
theorem aK0(n:Nat):gP n=gq n:=by rw[XM _ ak,aa]
theorem ZW(n:Nat):vu (gP n)=true:=by rw[aK0];exact aaj _
theorem arY(a b:Nat):pG (gP a) (gP b)=gP (a+b):=by unfold pG gP;rw[<-kU,oT];have e:(4611686018427377339:Int)=((4611686018427377339:Nat):Int):=rfl;rw[e,<-qd,<-lp]
theorem aE6(a:Nat)(c:Int)(h:0<=c):Gw (gP a) c=gP (a*c.toNat):=by
 show pw (tk (gP a)) _=_;rw[ac4 (ZW a),abC _ _ ak,aE5 c h];obtain⟨b,hb⟩:∃b:Nat,b=c.toNat:=⟨_,rfl⟩;rw[<-hb];obtain⟨d,hd⟩:∃d:Nat,d=b%2305843009213688669:=⟨_,rfl⟩;have hx:gP (a*b)=gP (a*d):=by rw[<-aiT (a*b),<-aiT (a*d),lp a b,lp a d,hd,Nat.mod_mod]
 rw[hx,<-hd];unfold gP;have e:(4611686018427377339:Int)=((4611686018427377339:Nat):Int):=rfl;rw[e,<-kV,<-qd,<-Nat.pow_mod,<-Nat.pow_mul]
theorem avI:gP 0=1:=by decide
theorem aRd{n:Nat}(h:0 < n)(hn:n < 2305843009213688669):gP n≠1:=by intro he;unfold gP at he;have he:4^n%4611686018427377339=1:=ak;obtain⟨q,hq⟩:∃q:Nat,q=2305843009213688669:=⟨_,rfl⟩;have e:=awo 4 4611686018427377339 (by decide) n q he (aNk q hq);rw[awp (by rw[hq];exact aUH) h ak]at e;exact absurd e (by decide)
theorem aMI(k:Int)(m:List Int)(h0:0 < k)(hq:k < 2305843009213688669):AJ (gq k) m 1 (mN k m)=true:=by
 obtain⟨kn,hk⟩:∃kn:Nat,kn=k.toNat:=⟨_,rfl⟩;have hb:gq k=gP kn:=by rw[hk];exact XM k ak
 have hn:=ZU (aIs asI [jr k,m]);unfold mN aGx;rw[if_pos ⟨hq,ak⟩];obtain⟨n,gF⟩:∃n,Qr (aIs asI [jr k,m])=n:=⟨_,rfl⟩;rw[gF]at hn ⊢;unfold ahH;have hr:XI [gq n,1]=gP n.toNat:=by show pG (pG 1 (tk (gq n))) (tk 1)=_;rw[ac4 (aaj n),ac4 QI,an2 (wI _ _),XM n ak,<-avI,arY,aO]
 rw[hr,hb];have hc:=Y3 (gP n.toNat) (gP kn) m;obtain⟨c,aOV⟩:∃c,G3 (gP n.toNat) (gP kn) m=c:=⟨_,rfl⟩;rw[aOV]at hc ⊢;have ha:=au3 n (ajy c k);have h1:=hc.1;have h2:=ha.1;have h3:=ha.2;unfold AJ;rw[if_neg (by
  intro h;rcases h with h | h | h | h | h
  ·exact aRd ak ak h
  ·rw[ZW]at h;cases h
  ·rw[QI]at h;cases h
  ·have h:vu (gP n.toNat)=false:=h;rw[ZW]at h;cases h
  ·exact h h3)]
 have e:gq (aqD n (ajy c k))=XI [gP n.toNat,Gw (gP kn) c,an5 1]:=by
  show _=pG (pG (pG 1 (tk (gP n.toNat))) (tk (Gw (gP kn) c))) (tk (an5 1));rw[aLZ,ac4 QI,an2 (wI _ _),ac4 (ZW _),aE6 _ _ h1,ac4 (ZW _)];rw[show(pG 1 (gP n.toNat))=gP n.toNat by rw[<-avI,arY,aO]];rw[arY,XM _ h2];have hx:(aqD n (ajy c k)).toNat=(n.toNat+kn*c.toNat)%2305843009213688669:=by
   unfold aqD ajy aGz;have g1:c%2305843009213688669=c:=fe h1 hc.2;have g2:k%2305843009213688669=k:=fe ak hq;have g3:n%2305843009213688669=n:=fe ak hn.2;rw[g1,g2,g3,gS _ (qb _)];have g4:((kn*c.toNat:Nat):Int)=c*k:=by rw[kU,hk,Int.toNat_of_nonneg ak,Int.toNat_of_nonneg h1,qc]
   have g5:0<=c*k:=by rw[<-g4];exact gR _
   obtain⟨z,hz⟩:∃z,c*k=z:=⟨_,rfl⟩;rw[hz]at g4 g5 ⊢;obtain⟨zn,aW7⟩:∃zn,kn*c.toNat=zn:=⟨_,rfl⟩;rw[aW7]at g4 ⊢;omega
  rw[hx,aiT]
 show decide (gq (aqD n (ajy c k))=XI [gP n.toNat,Gw (gP kn) (G3 (gP n.toNat) (gP kn) m),an5 1])=true;rw[aOV];exact fY e
def Is{α:Type}(p:α->Bool):List α->Int->Int⊕Unit
 |[],_=> .inr ()
 |x::xs,i=>if p x then .inl i else Is p xs (i+1)
def ans{α:Type}(p:α->Bool)(l:List α):Int:=match Is p l 0 with | .inl i=>i | .inr _=> -1
theorem ant{α:Type}(p:α->Bool):∀(l:List α) (i:Int),0<=i->(match Is p l i with | .inl i=>decide (i>=0) | .inr _=>false)=l.any p
 |[],_,_=>rfl
 |x::l,i,h=>by
  rw[Is,ru];cases hp:p x
  ·simp only[bn,bt,wj];exact ant p l (i+1) ak
  ·simp[h]
theorem Z7{α:Type}(p:α->Bool)(l:List α):Cn (ans p l) 0=l.any p:=by
 have:=ant p l 0 ak;unfold ans Cn;cases h:Is p l 0
 ·rw[h]at this;exact this
 ·rw[h]at this;rw[<-this];rfl
def Nb(k:Int):Bool:=decide (¬(k < 2305843009213688669/\k≠0))
def Gy(t:dw)(i br:Int)(ks:List Int):Bool:=hJ t && (decide (0<=i/\i < t.1.length/\0<=br/\br < 4/\ks.length<=12) && !(ks.any Nb))
def aH4(t:dw)(i br:Int)(ks:List Int)(sc:Int):dw×Int:=if Gy t i br ks then((t.1.set i.toNat ((nth gh t.1 i.toNat).1,(br,ks.map (λk=>mN k (iC t)),sc,()),()),t.2),0) else(([],[],0,()),1)
theorem GN{t:dw}:Sm (iC t):=by
 unfold iC;split
 ·exact akp _ _
 ·exact⟨by rw[cg],λx hx=>by obtain rfl:=(nr.1 hx).2;exact⟨by decide,by decide⟩⟩
def aBJ:Int->Prop:=λ_=>True
def awI:Int->Bool:=λk=>Nb k
def WW:Fs Tryz.prog aBJ bu awI:=eN 85 Tryz.f85 (λkv=>([.d tu kv],[])) (λx=>⟨.d .bool x,[],[]⟩) [some tu] [To]
theorem aIE{R:Type}(kv)(k:K1 R):WW.A kv k=aJ ((qY kv 0)) (k (WW.out true)) (al (FK.call kv) λx1=>k (WW.out (!x1))):=b8
theorem aIF:WW.Ok:=by
 intro(k:Int) _;rw[aIE,NU (d:=k) trivial];simp only[bu,awI,Nb,ah,bu,Qq];by_cases h:k=0
 ·rw[du h,aj,aM ak]
 ·rw[eS h,ao];by_cases h2:k < 2305843009213688669
  ·rw[aU h2,aS ak];rfl
  ·rw[aQ h2,aM ak];rfl
theorem aBK:WW.RS:=rE [.d tu] WW
def aIG:=WW.eU aIF
abbrev xJ:=Bs×Int×Int
def nO:xJ->AS:=λ(mq,t7,t8)=>⟨([.d tU mq,.fn 85 (.nil)]++aP 5 ([.d ti t7,.d ti t8]++aP 10 [])),[],(ab 19 [])⟩
def oD:Int->Exit×AS:=λx=>(.ret,⟨(aP 4 ([.d ti x]++aP 14 [])),[],(ab 19 [])⟩)
def w6:Unit->Exit×AS:=λx=>(.exit 0,⟨(aP 19 []),[],(ab 19 [])⟩)
abbrev JD:=(Int)⊕(Unit)
abbrev WE:=(Int)⊕(Unit)
def DI:JD->Out (Exit×AS):=λx=> .br x.isLeft (.get x.getLeft? λa=> .ok (oD a)) (.get x.getRight? λb=> .ok (w6 b))
def j4:xJ->WE->JD:=λ(mq,t7,t8) y=>match y with | .inl y=> .inl y | .inr z=> .inr (z)
def w5:xJ->Prop:=λ(l,n,i)=>(∀x∈l,True)/\l.length<=1000000000/\n=l.length/\∃k:Nat,k<=l.length/\i=k
def nj:xJ->WE:=λ(l,n,i)=>Is Nb (l.drop i.toNat) i
def at4:Bs->Prop:=λl=>(∀x∈l,True)/\l.length<=1000000000
def acD:Bs->Int:=λl=>ans Nb l
def WD:=dz.fv nO w5 j4 nj DI
def JE:xJ->Option JD:=gM WD nO
def yn:Fs Tryz.prog at4 bu acD:=eN 132 Tryz.f132 (λsv=>([.d tU sv,.fn 85 (.nil)],[])) (λx=>⟨.d ti x,[],[]⟩) [some tU,none] [aIG] {loops:=nY [(2,{aV:=[0,1,7,8]})],outs:=nX [(2,{},{aV:=[4]})],fF:=nK [(2,WD)]}
def JC:= @eC Tryz.prog (jI yn.G) yn.an 0 Tryz.f132 0 _ nO
abbrev RT:=kP Tryz.prog (jI yn.G) yn.an 0 Tryz.f132 0 nO w5 j4 nj DI
theorem aeL:jf JE w5 j4 nj:=mn (jx [.d tU,.d ti,.d ti] λ_=>b8)
theorem OR:nq @JC nO w5 j4 nj DI RT:=oa
theorem JF{R:Type}(mq:Bs)(t7:Int)(t8:Int)(kn:AS->Option R)(kx:Exit->AS->Option R):JC (mq,t7,t8) kn kx=aJ ((gr t8 t7)) (aJ (ed t8 (((ag mq):Nat):Int)) (al (WW.call (nth tu mq (ae t8))) λx1=>aJ (x1) (kx (oD t8).1 (oD t8).2) (kn (nO (mq,t7,(bI .i64 t8 (1:Int)))))) none) (kx (w6 ()).1 (w6 ()).2):=b8
theorem aA8{R:Type}(sv)(k:K1 R):yn.A sv k=al (JE (sv,(sv.length:Int),0)) λx2=>aJ (x2.isLeft) (al (x2.getLeft?) λa3=>k (yn.out a3)) (al (x2.getRight?) λb4=>k (yn.out (-1))):=b8
theorem akn:RT:=by
 refine OR (λ(l,n,i)=>l.length - i.toNat) ?_
 rintro⟨l,n,i⟩ ⟨hl,hb,rfl,k,hk,rfl⟩;have hb:l.length<=1000000000:=hb;have hk:k<=l.length:=hk;by_cases h:k < l.length
 ·have hx:=hl _ (aN h);have n1:nth tu l k=l[k]:=cd (t:=tu) h;have hd:Is Nb (l.drop k) k=if Nb l[k] then .inl (k:Int) else Is Nb (l.drop (k+1)) ((k+1:Nat):Int):=by rw[aq h];rfl
  have step:∀ {R:Type} (kn:AS->Option R) (kx:Exit->AS->Option R),JC (l,(l.length:Int),(k:Int)) kn kx=aJ (Nb l[k]) (kx (oD (k:Int)).1 (oD (k:Int)).2) (kn (nO (l,(l.length:Int),((k+1:Nat):Int)))):=by intro R kn kx;rw[JF,aU ak,bj ak ak,aa,n1,aBK (d:=l[k]) hx,N.mD ak];rfl
  cases hp:Nb l[k]
  ·left;refine⟨(l,l.length,((k+1:Nat):Int)),⟨hl,hb,rfl,k+1,ak,rfl⟩,by simp only[aa];omega,?_,λkn kx=> ?_⟩
   ·simp only[j4,nj,aa,hd,hp,bn,bt]
   ·rw[step,hp,ao]
  ·right;refine⟨oD (k:Int),?_,λkn kx=> ?_⟩
   ·simp only[j4,nj,aa,hd,hp,bG];rfl
   ·rw[step,hp,aj]
 ·right;obtain rfl:k=l.length:=ak;refine⟨w6 (),?_,λkn kx=> ?_⟩
  ·simp only[j4,nj,aa,aL];rfl
  ·rw[JF,aQ ak,ao]
theorem aA9:yn.Ok:=by rintro l ⟨hl,hb⟩;rw[aA8,aeL (d:=(l,l.length,0)) ⟨hl,hb,rfl,0,ak,rfl⟩];simp only[ah,j4,nj,aX,aD,bu,acD,ans];cases Is Nb l 0 <;> rfl
theorem at5:yn.RS:=rE [.d tU] yn
def aBa:=yn.eU aA9 1 ⟨.fv akn,trivial⟩
def aeI:Bs->Prop:=λl=>(∀x∈l,True)/\l.length<=1000000000
def WC:Bs->Bool:=λl=>l.any Nb
def wa:Fs Tryz.prog aeI bu WC:=eN 88 Tryz.f88 (λsv=>([.d tU sv,.fn 85 (.nil)],[])) (λx=>⟨.d .bool x,[],[]⟩) [some tU,none] [aBa]
theorem akj{R:Type}(sv)(k:K1 R):wa.A sv k=al (yn.call sv) λx1=>k (wa.out (Cn x1 0)):=b8
theorem akk:wa.Ok:=by rintro l ⟨hl,hb⟩;rw[akj,at5 (d:=l) ⟨hl,hb⟩];simp only[ah,bu,acD,Z7];rfl
theorem aeJ:wa.RS:=rE [.d tU] wa
def akl:=wa.eU akk
abbrev O6:=Int×Bs×Int×Int×dw×(Int×Unit)×Int×Nat×(Int×Unit)×Bs×(List Sg)
def Af:O6->(UR×(List Sg))->((Int×dw×(Int×Unit))×(UR×(List Sg))):=λ(aai,t52,t53,t54,n5,n10,n13,HG,agv,n14,aLU) y=>((aai,n5,n10),y)
abbrev awJ:=dw×Int×Int×Bs×Int
def akP:O6->Prop:=λ(i0,l,n,i,t,e,br,L,sc,id,r)=>l.length<=1000/\(∀x∈l,nV x)/\Sm id/\∃k:Nat,k<=l.length/\i=k/\n=l.length/\L=r.length/\r.length<=1000+k
def GM:O6->(UR×(List Sg)):=λ(i0,l,n,i,t,e,br,L,sc,id,r)=>((br,r++(l.drop i.toNat).map (λk=>mN k id),sc),r++(l.drop i.toNat).map (λk=>mN k id))
def aBL:awJ->Prop:=λ(t,i,br,ks,sc)=>nU t/\(∀x∈ks,nV x)/\ks.length<=1000000000
def akO:awJ->(dw×Int):=λ(t,i,br,ks,sc)=>aH4 t i br ks sc
def vd:Ls akP Af GM:=rp (λ(aai,t52,t53,t54,n5,n10,n13,HG,agv,n14,aLU)=>⟨([bF,.d ti aai,bF,bF,bF,eT 5]++aP 4 ([eT 10,bF,bF,eT 13,eT 14]++aP 37 ([.d tU t52,.d ti t53,.d ti t54]++aP 21 []))),[],(bM 5 ([dK (.d ez n5)]++bM 4 ([dK (.pr (.de) (.pr (.de) (.d (.pair ti .unit) n10))),[],[],dK (.pr (.d ti n13) (.pr (om 64 HG) (.d (.pair tu .unit) agv))),dK (.d tH n14)]++bM 49 ([dK (.vec 143 Av aLU)]++bM 11 []))))⟩) (λx=>(.exit 0,⟨([bF,.d ti x.1.1,bF,bF,bF,eT 5]++aP 4 ([eT 10,bF,bF,eT 13]++aP 62 [])),[],(bM 5 ([dK (.d ez x.1.2.1)]++bM 4 ([dK (.pr (.de) (.pr (.de) (.d (.pair ti .unit) x.1.2.2))),[],[],dK (.d aBl x.2.1)]++bM 50 ([[.obj 0 true (.vec 143 Av x.2.2)]]++bM 11 []))))⟩))
def vz:Fs Tryz.prog aBL bu akO:=eN 39 Tryz.f39 (λ(t,inv,branch,keys,secret)=>([.d ez t,.d ti inv,.d ti branch,.d tU keys,.d tu secret],[])) (λx=>⟨.cons (.d ez x.1) (.cons (.d ti x.2) (.nil)),[],[]⟩) [some ez,some ti,some ti,some tU,some tu] [tV,awK,akl,UC,aIm,auq] {bJ:=[5],loops:=nY [(7,{aV:=[1,5,10,13,14,52,53,54],sites:=[5,10,13,14,64],owns:=[⟨13,[.snd,.fst],64,82⟩]})],outs:=nX [(7,{aV:=[1,5,10,13],sites:=[5,10,13,64],NF:=[⟨13,[.snd,.fst],(.slice Av)⟩]},{aV:=[10,11]})],fF:=nK [(7,vd.E)],res:=[some ez,none]}
theorem akQ:vd.RS:=rL [.d ti,.d tU,.d ti,.d ti,.d ez,.d (.pair ti .unit),.d ti,.n,.d (.pair tu .unit),.d tB,.d (.slice Av)] vd
theorem MW{R:Type}(aai t52 t53 t54 n5 n10 n13 HG agv n14 aLU)(kn:K2 R)(kx:K3 R):vz.R 0 vd (aai,t52,t53,t54,n5,n10,n13,HG,agv,n14,aLU) kn kx=aJ ((gr t54 t53)) (aJ (ed t54 (t52.length:Int)) (al (WJ.call ((nth tu t52 (ae t54)),n14)) λx4=>aJ (decide (HG<=(ag aLU))) (aJ (db (HG+1) 16) (kn (vd.st (aai,t52,t53,(bI .i64 t54 1),n5,n10,n13,(HG+1),agv,n14,((aR HG aLU)++ [x4])))) none) none) none) (aJ (decide (0=0/\(0+HG)<=(ag aLU))) (vd.go kx ((aai,n5,n10),((n13,((cut aLU 0 HG),agv)),aLU))) none):=b8
theorem aIH{R:Type}(t inv branch keys secret)(k:K1 R):vz.A (t,inv,branch,keys,secret) k=al (iN.call t) λak8=>aJ ((!ak8)) (k (vz.out ((([]:List gK),(([]:List gm),(0,()))),1))) (aJ ((gr inv 0)) (k (vz.out ((([]:List gK),(([]:List gm),(0,()))),1))) (aJ ((Cn inv (t.1.length:Int))) (k (vz.out ((([]:List gK),(([]:List gm),(0,()))),1))) (al (ae3.call (branch,(([]:List Sg),(secret,())))) λawZ=>aJ ((!awZ)) (k (vz.out ((([]:List gK),(([]:List gm),(0,()))),1))) (aJ ((qZ (keys.length:Int) 12)) (k (vz.out ((([]:List gK),(([]:List gm),(0,()))),1))) (al (wa.call keys) λaJm=>aJ (aJm) (k (vz.out ((([]:List gK),(([]:List gm),(0,()))),1))) (al (tid.call t) λafd=>al (vd.call (inv,keys,(keys.length:Int),0,t,(0,()),branch,0,(secret,()),afd,([]:List Sg))) λadG=>al (my.call adG.1.2.1) λahw=>aJ (ed adG.1.1 ((ahw.1:Nat):Int)) (aJ (decide ((0+(ae adG.1.1)) < (ag ahw.2.2))) (aJ (decide ((((0+(ae adG.1.1))*36)+33)=((0+((ae adG.1.1)*36))+33))) (aJ (decide ((0+(ae adG.1.1)) < (ag ahw.2.2))) (aJ (decide (0=0/\(0+ahw.1)<=(ag (fX ahw.2.2 (0+(ae adG.1.1)) ((nth gh ahw.2.2 (0+(ae adG.1.1))).1,(adG.2.1,(nth gh ahw.2.2 (0+(ae adG.1.1))).2.2)))))) (k (vz.out (((cut (fX ahw.2.2 (0+(ae adG.1.1)) ((nth gh ahw.2.2 (0+(ae adG.1.1))).1,(adG.2.1,(nth gh ahw.2.2 (0+(ae adG.1.1))).2.2))) 0 ahw.1),ahw.2.1),0))) none) none) none) none) none)))))):=b8
theorem ap4:(vz.kM 0 vd):=by
 refine(vz.mf 0 vd) (λ(i0,l,n,i,t,e,br,L,sc,id,r)=>l.length - i.toNat) ?_
 rintro⟨i0,l,n,i,t,e,br,L,sc,id,r⟩ ⟨hlen,hu,hm,k,hk,rfl,rfl,rfl,hr⟩;have hlen:l.length<=1000:=hlen;have hk:k<=l.length:=hk;have hr:r.length<=1000+k:=hr;by_cases h:k < l.length
 ·left;have n1:nth tu l k=l[k]:=cd (t:=tu) h;have hd:bR k l=l[k]::bR (k+1) l:=aq h;refine⟨(i0,l,l.length,((k+1:Nat):Int),t,e,br,r.length+1,sc,id,r++ [mN l[k] id]),⟨hlen,hu,hm,k+1,ak,rfl,rfl,by rw[ai];rfl,by rw[ai];show r.length+1<=_;omega⟩,by simp only[aa];omega,?_,λkn kx=> ?_⟩
  ·simp only[Af,GM,aa,hd,bQ,aF,c9]
  ·rw[MW,aU ak,bj ak ak,aa,n1,aBi (d:=(l[k],id)) ⟨hu _ (aN h),hm⟩];simp only[aj,ah,bu,akv];rw[aM (ax _),dr ak ak,N.mD ak,bK];rfl
 ·right;obtain rfl:k=l.length:=ak;intro R kn kx;rw[MW,aQ ak,ao];simp only[Af,GM,aa,aL,iq,aZ,aO,ax,jl,cv,aj,eY]
theorem aII:vz.Ok:=by
 rintro⟨⟨is,os,nt,u⟩,i,br,ks,sc⟩ ⟨hv,hu,hl⟩;have hv:nU (is,os,nt,u):=hv;have hl:ks.length<=1000000000:=hl;rw[aIH,pZ (d:=(is,os,nt,u)) hv.1];simp only[ah,bu,rT,bu,akO,aH4,Gy];rcases je (hJ (is,os,nt,u)) with jn | jn;rotate_left
 ·simp only[jn];rfl
 obtain⟨⟨_,a2,a3,_⟩,b1,b2⟩:=jM jn;have a2:is.length<=64:=a2;simp only[jn,cm,ao,bw];by_cases h1:i < 0
 ·rw[aU h1,aj,aS ak];rfl
 rw[aQ h1,ao];by_cases h2:i>=(is.length:Int)
 ·rw[gA h2,aj,aS ak];rfl
 rw[eF h2,ao,ap8 (d:=(br,([],(sc,())))) trivial];simp only[ah,bu,akR,BP];by_cases h3:0<=br/\br < 4
 ·rw[aM h3];by_cases h4:ks.length > 12
  ·rw[cP ak,aS (p:=0<=i/\i < (is.length:Int)/\0<=br/\br < 4/\ks.length<=12) ak];rfl
  ·rw[cr ak,aM (p:=0<=i/\i < (is.length:Int)/\0<=br/\br < 4/\ks.length<=12) ak,aeJ (d:=ks) ⟨λ_ _=>trivial,hl⟩];simp only[ah,bu,WC];rcases je (ks.any Nb) with hb | hb;rotate_left
   ·simp only[hb];obtain⟨k,rfl⟩:∃k:Nat,i=k:=⟨i.toNat,ak⟩;have hk:k < is.length:=ak;simp only[show(([]:List Sg).length<=12)=True from eq_true (aK _),cv,wi,cm,fb,ao,bw,bG];rw[GG (d:=(is,os,nt,u)) hv];simp only[ah,bu,R6];rw[akQ (d:=((k:Int),ks,ks.length,0,(is,os,nt,u),(0,()),br,0,(sc,()),iC (is,os,nt,u),[])) ⟨by show ks.length<=_;omega,hu,GN,0,aK _,rfl,rfl,rfl,aK _⟩];simp only[ah,Af,GM,aX,aD,aT];rw[apR (d:=(is,os,nt,u)) jn];simp only[ah,bu,ahk,aa,aO,cq,bj (show(0:Int)<=(k:Int) by omega) (show(k:Int) < (is.length:Int) by omega),aj,aM hk,cv,rX,ax,jl];rw[eY (by rw[rX])]
   ·simp only[hb];rfl
 ·rw[aS h3,aS (p:=0<=i/\i < (is.length:Int)/\0<=br/\br < 4/\ks.length<=12) ak];rfl
theorem aBM:vz.RS:=rE [.d ez,.d ti,.d ti,.d tU,.d tu] vz
def aIJ:=vz.eU aII 1 ⟨.fv ap4,trivial⟩
abbrev eO:Ty:=(.pair gl (.pair ti .unit))
abbrev dP:=(gm×(Int×Unit))
abbrev aBk:Ty:=(.pair bg (.pair eO .unit))
abbrev XL:=(bC×(dP×Unit))
abbrev cD:Ty:=(.pair (.slice aBk) (.pair (.slice bg) .unit))
abbrev bT:=((List XL)×((List bC)×Unit))
def aCO:(Bs×Bs)->Prop:=λ_=>True
def aCN:(Bs×Bs)->Int:=λ(a,b)=>adW a b
def aqN:Fs Tryz.prog aCO bu aCN:=eN 64 Tryz.f64 (λ(a,b)=>([.d tB a,.d tB b],[])) (λx=>⟨.d ti x,[],[]⟩) [some tB,some tB] [⟨108,mr,au7,.of (aOb (fn:=Tryz.f108) b8 b8 b8 b8 b8) (by rfl)⟩]
theorem aJX{R:Type}(a b)(k:K1 R):aqN.A (a,b) k=al (alD (a,b)) λx1=>k (aqN.out x1):=b8
theorem aJY:aqN.Ok:=by rintro⟨a,b⟩ _;rw[aJX,au8];rfl
theorem aCP:aqN.RS:=rE [.d tB,.d tB] aqN
def aJZ:=aqN.eU aJY
def aFv:Int->Prop:=λ_=>True
def ai9:Int->Bool:=λ_=>false
def anu:Fs Tryz.prog aFv bu ai9:=eN 109 Tryz.f109 (λx=>([.d ti x],[])) (λx=>⟨.d .bool x,[],[]⟩) [some ti]
theorem aLr{R:Type}(x)(k:K1 R):anu.A x k=k (anu.out (A7 x x)):=b8
theorem aLs:anu.Ok:=by intro x _;rw[aLr];simp only[bu,ai9,dB rfl]
theorem anv:anu.RS:=rE [.d ti] anu
def aLt:=anu.eU aLs
def ary(x y:Int):Int:=if x < y then -1 else if x > y then 1 else 0
def aFr:(Int×Int)->Prop:=λ_=>True
def asf:(Int×Int)->Int:=λ(x,y)=>ary x y
def Xc:Fs Tryz.prog aFr bu asf:=eN 65 Tryz.f65 (λ(x,yv)=>([.d ti x,.d ti yv],[])) (λx=>⟨.d ti x,[],[]⟩) [some ti,some ti] [aLt]
theorem aLl{R:Type}(x yv)(k:K1 R):Xc.A (x,yv) k=al (anu.call x) λx1=>al (anu.call yv) λx2=>aJ (x1) (aJ (x2) (k (Xc.out 0)) (k (Xc.out (-1)))) (aJ (x2) (k (Xc.out 1)) (aJ ((gr x yv)) (k (Xc.out (-1))) (aJ ((qZ x yv)) (k (Xc.out 1)) (k (Xc.out 0))))):=b8
theorem aLm:Xc.Ok:=by
 rintro⟨x,y⟩ _;rw[aLl,anv (d:=x) trivial];simp only[ah,bu,ai9];rw[anv (d:=y) trivial];simp only[ah,bu,ai9,ao,bu,asf,ary];by_cases h:x < y
 ·rw[aU h,aj,if_pos h]
 ·rw[aQ h,ao,if_neg h];by_cases h2:x > y
  ·rw[cP h2,aj,if_pos h2]
  ·rw[cr h2,ao,if_neg h2]
theorem aFs:Xc.RS:=rE [.d ti,.d ti] Xc
def aLn:=Xc.eU aLm
abbrev H9:=Int×(List Int)×Int×Int
def Aq:H9->AS:=λ(zero,t6,t7,t8)=>⟨([bF,bF,bF,.d ti zero,bF,bF,.d (.slice ti) t6,.d ti t7,.d ti t8]++aP 9 []),[],(ab 18 [])⟩
def Fl:Int->Exit×AS:=λx=>(.ret,⟨([bF,bF,.d ti x]++aP 15 []),[],(ab 18 [])⟩)
def Fm:Int->Exit×AS:=λx=>(.exit 0,⟨([bF,bF,bF,.d ti x]++aP 14 []),[],(ab 18 [])⟩)
abbrev Zm:=(Int)⊕(Int)
abbrev amq:=(Int)⊕(Unit)
def Nv:Zm->Out (Exit×AS):=λx=> .br x.isLeft (.get x.getLeft? λa=> .ok (Fl a)) (.get x.getRight? λb=> .ok (Fm b))
def pc:H9->amq->Zm:=λ(zero,t6,t7,t8) y=>match y with | .inl y=> .inl y | .inr z=> .inr (zero)
def aQL:List Int->Int
 |[]=>0
 |x::l=>if x≠0 then x else aQL l
def aNS:List Int->Int⊕Unit
 |[]=> .inr ()
 |x::l=>if x≠0 then .inl x else aNS l
theorem aNT:∀l:List Int,aQL l=match aNS l with | .inl x=>x | .inr _=>0
 |[]=>rfl
 |x::l=>by
  simp only[aQL,aNS];split
  ·rfl
  ·exact aNT l
def Fk:H9->Prop:=λ(z,l,n,i)=>z=0/\l.length<=1000000000/\n=l.length/\∃k:Nat,k<=l.length/\i=k
def xr:H9->amq:=λ(z,l,n,i)=>aNS (l.drop i.toNat)
def aKE:(List Int)->Prop:=λl=>l.length<=1000000000
def aD6:(List Int)->Int:=λl=>aQL l
def amo:=dz.fv Aq Fk pc xr Nv
def Vd:H9->Option Zm:=gM amo Aq
def aCe:Fs Tryz.prog aKE bu aD6:=eN 63 Tryz.f63 (λji=>([.d (.slice ti) ji],[])) (λx=>⟨.d ti x,[],[]⟩) [some (.slice ti)] [] {loops:=nY [(3,{aV:=[3,6,7,8]})],outs:=nX [(3,{aV:=[3]},{aV:=[2]})],fF:=nK [(3,amo)]}
def amp:= @eC Tryz.prog (jI aCe.G) aCe.an 0 Tryz.f63 0 _ Aq
abbrev afO:=kP Tryz.prog (jI aCe.G) aCe.an 0 Tryz.f63 0 Aq Fk pc xr Nv
theorem arE:jf Vd Fk pc xr:=mn (jx [.d ti,.d (.slice ti),.d ti,.d ti] λ_=>b8)
theorem W7:nq @amp Aq Fk pc xr Nv afO:=oa
theorem Ia{R:Type}(zero:Int)(t6:(List Int))(t7:Int)(t8:Int)(kn:AS->Option R)(kx:Exit->AS->Option R):amp (zero,t6,t7,t8) kn kx=aJ ((gr t8 t7)) (aJ (ed t8 (((ag t6):Nat):Int)) (aJ ((A7 (nth ti t6 (ae t8)) zero)) (kx (Fl (nth ti t6 (ae t8))).1 (Fl (nth ti t6 (ae t8))).2) (kn (Aq (zero,t6,t7,(bI .i64 t8 (1:Int)))))) none) (kx (Fm zero).1 (Fm zero).2):=b8
theorem aOt{R:Type}(ji)(k:K1 R):aCe.A ji k=al (Vd (0,ji,(ji.length:Int),0)) λx1=>aJ (x1.isLeft) (al (x1.getLeft?) λa2=>k (aCe.out a2)) (al (x1.getRight?) λb3=>k (aCe.out b3)):=b8
theorem ax8:afO:=by
 refine W7 (λ(z,l,n,i)=>l.length - i.toNat) ?_
 rintro⟨z,l,n,i⟩ ⟨rfl,hl,rfl,k,hk,rfl⟩;by_cases h:k < l.length
 ·have hd:l.drop k=l[k]::l.drop (k+1):=aq h;have n1:nth ti l k=l[k]:=cd (t:=ti) h;by_cases h2:l[k]≠0
  ·right;refine⟨Fl l[k],?_,λkn kx=> ?_⟩;rotate_left
   ·rw[Ia,aU ak,aj,bj ak ak,aj,aa,n1,fo h2,aj]
   ·simp only[pc,xr,aa,hd,aNS,if_pos h2];rfl
  ·left;refine⟨(0,l,(l.length:Int),((k+1:Nat):Int)),⟨rfl,hl,rfl,k+1,ak,rfl⟩,by simp only[aa];omega,?_,λkn kx=> ?_⟩
   ·simp only[pc,xr,aa,hd,aNS,if_neg h2]
   ·rw[Ia,aU ak,aj,bj ak ak,aj,aa,n1,dB ak,ao,N.mD ak]
 ·right;obtain rfl:k=l.length:=ak;refine⟨Fm 0,?_,λkn kx=> ?_⟩;rotate_left
  ·rw[Ia,aQ ak,ao]
  ·simp only[pc,xr,aa,aL,aNS];rfl
theorem aOu:aCe.Ok:=by intro l hl;rw[aOt,arE (d:=(0,l,(l.length:Int),0)) ⟨rfl,hl,rfl,0,aK _,rfl⟩];simp only[ah,pc,xr,aX,aD,bu,aD6];rw[aNT];cases aNS l <;> rfl
theorem aKF:aCe.RS:=rE [.d (.slice ti)] aCe
def aOv:=aCe.eU aOu 1 ⟨.fv ax8,trivial⟩
abbrev dR:Ty:=(.pair ti (.pair tH (.pair (.slice ez) (.pair ti (.pair (.slice bg) .unit)))))
abbrev cZ:=(Int×(Bs×((List dw)×(Int×((List bC)×Unit)))))
theorem aQ8(x y:List Int):Ty.beq tH x y=decide (x=y):=by
 by_cases h:x=y
 ·rw[h,fY rfl];exact beq_refl tH y rfl
 ·rw[jw h];cases hb:Ty.beq tH x y with
  |false=>rfl
  |true=>exact absurd (beq_eq tH x y rfl hb) h
def aw0(o:bC):Prop:=o.1.length=32/\o.2.1<=9223372036854775807
def auX(b:cZ):Prop:=(b.2.2.1.length<=1000/\∀t∈b.2.2.1,nU t)/\(b.1<=9223372036854775807/\b.2.1.length=32/\b.2.2.2.1<=9223372036854775807)/\b.2.2.2.2.1.length<=1000/\∀o∈b.2.2.2.2.1,aw0 o
def aqo(n:Nat)(l:List cZ):Prop:=n<=l.length/\n<=1000000/\∀b∈l,auX b
abbrev ahZ:=Nat×Nat×(List (bC×dP))×(List bT)×(List cZ)
def afz:ahZ->Unit->(Nat×Nat×(List (bC×dP))×(List bT)×(List cZ)):=λ(o0baL,o1baL,o2,o3,o4) y=>(o0baL,o1baL,o2,o3,o4)
def axR:ahZ->Prop:=λ_=>True
def avj:ahZ->Unit:=λ_=>()
def Y2:Fs Tryz.prog axR afz avj:=eN 70 Tryz.f70 (λ(o0baL,o1baL,o2,o3,o4)=>([.ptr (.bm 0) 0 [] 0],[.obj 0 false (.pr (.ptr (.bm 1) 0 [] 0) (.pr (.bA (.bm 4) 0 [] 0 0 o0baL) (.d .unit ()))),.obj 0 false (.pr (.cj (.bm 2) 0) (.pr (.bA (.bm 3) 0 [] 0 0 o1baL) (.d .unit ()))),.obj 0 false (.mp bg eO o2),.obj 0 false (.vec 256 cD o3),.obj 0 false (.vec 48 dR o4)])) (λx=>⟨.fn 117 (.cons (.ptr (.new 0 0) 0 [] 0) (.nil)),[.obj 0 false (.pr (.ptr (.bm 1) 0 [] 0) (.pr (.bA (.bm 4) 0 [] 0 0 x.1) (.d .unit ()))),.obj 0 false (.pr (.cj (.bm 2) 0) (.pr (.bA (.bm 3) 0 [] 0 0 x.2.1) (.d .unit ()))),.obj 0 false (.mp bg eO x.2.2.1),.obj 0 false (.vec 256 cD x.2.2.2.1),.obj 0 false (.vec 48 dR x.2.2.2.2)],[.obj 0 false (.ptr (.bm 0) 0 [] 0)]⟩) [none] [] {bJ:=[1]}
theorem aDr{R:Type}(o0baL o1baL o2 o3 o4)(k:K1 R):Y2.A (o0baL,o1baL,o2,o3,o4) k=k (Y2.out (o0baL,o1baL,o2,o3,o4)):=b8
theorem aDs:Y2.Ok:=by intro d _;rw[aDr];rfl
theorem axS:Y2.RS:=rE [.n,.n,.d (.slice (.pair bg eO)),.d (.slice cD),.d (.slice dR)] Y2
def aDt:=Y2.eU aDs
def avR(x:Bs)(t:dw):Bs:=x++iC t
def aLp(x:Bs)(o:bC):Bs:=cF (x++o.1) o.2.1
def aOh(b:cZ):Bs:=b.2.2.2.2.1.foldl aLp (cF (cF (b.2.2.1.foldl avR (cF (cF [] b.1++b.2.1) b.2.2.1.length)) b.2.2.2.1) b.2.2.2.2.1.length)
def aqV(b:cZ):Bs:=tag (bH (⟨#[98,108,111,99,107]⟩:ByteArray)) [aOh b]
theorem X1:∀(l:List dw) (x:Bs),(l.foldl avR x).length=x.length+32*l.length
 |[],x=>rfl
 |t::l,x=>by rw[bq,X1 l,avR,ai,GN.1,aA];omega
theorem KH:∀(l:List bC) (x:Bs),(∀o∈l,aw0 o)->(l.foldl aLp x).length<=x.length+43*l.length
 |[],x,_=>ax _
 |o::l,x,h=>by
  have h1:=KH l (aLp x o) λy hy=>h y (aG _ hy)
  have h2:=dy (x++o.1) o.2.1;have h3:=(h o (aI ..)).1;rw[ai]at h2;rw[bq,aA];unfold aLp at h1 ⊢;omega
abbrev SU:=cZ×Bs×(List dw)×Int×Int×Bs
def B9:SU->Bs->((cZ×Bs)×(Bs)):=λ(iR,x,t19,t20,t21,n2) y=>((iR,n2),y)
abbrev SV:=Bs×(List bC)×Int×Int×Bs
def Ca:SV->Bs->((Bs)×(Bs)):=λ(aCk,t39,t40,t41,kQ) y=>(kQ,y)
def alK:SU->Prop:=λ(b,x,l,n,i,z)=>(l).length<=1000000000/\∃k:Nat,k<=(l).length/\i=k/\n=(l).length/\(l.length<=1000)/\(∀t∈l,nU t)/\(x.length<=1000+32*k)
def Kl:SU->Bs:=λ(b,x,l,n,i,z)=>(bR (ae i) l).foldl avR x
def alM:SV->Prop:=λ(x,l,n,i,z)=>(l).length<=1000000000/\∃k:Nat,k<=(l).length/\i=k/\n=(l).length/\(l.length<=1000)/\(∀o∈l,aw0 o)/\(x.length<=100000+43*k)
def Km:SV->Bs:=λ(x,l,n,i,z)=>(bR (ae i) l).foldl aLp x
def aC2:cZ->Prop:=λb=>auX b
def aqY:cZ->Bs:=λb=>aqV b
def yJ:Ls alK B9 Kl:=rp (λ(iR,x,t19,t20,t21,n2)=>⟨([bF,.dO dR iR,eT 2,.d tB x]++aP 15 ([.d (.slice ez) t19,.d ti t20,.d ti t21]++aP 34 [])),[],([[],[],dK (.d tH n2)]++bM 53 [])⟩) (λx=>(.exit 0,⟨([bF,.dO dR x.1.1,eT 2,.d tB x.2]++aP 52 []),[],([[],[],dK (.d tH x.1.2)]++bM 53 [])⟩))
def yK:Ls alM Ca Km:=rp (λ(aCk,t39,t40,t41,kQ)=>⟨([bF,bF,eT 2,.d tB aCk]++aP 35 ([.d (.slice bg) t39,.d ti t40,.d ti t41]++aP 14 [])),[],([[],[],dK (.d tH kQ)]++bM 53 [])⟩) (λx=>(.exit 2,⟨([bF,bF,eT 2,.d tB x.2]++aP 52 []),[],([[],[],dK (.d tH x.1)]++bM 53 [])⟩))
def SS:Fs Tryz.prog aC2 bu aqY:=eN 94 Tryz.f94 (λb=>([.d dR b],[])) (λx=>⟨.d tH x,[],[]⟩) [some dR] [XP,amv,UC,XZ] {loops:=nY [(3,{aV:=[1,2,3,19,20,21],sites:=[2]}),(9,{aV:=[2,3,39,40,41],sites:=[2]})],outs:=nX [(3,{aV:=[1,2,3],sites:=[2]},{aV:=[2]}),(9,{aV:=[2,3],sites:=[2]},{aV:=[2]})],fF:=nK [(3,yJ.E),(9,yK.E)]}
theorem alL:yJ.RS:=rL [.d dR,.d tB,.d (.slice ez),.d ti,.d ti,.d tB] yJ
theorem Pz{R:Type}(iR x t19 t20 t21 n2)(kn:K2 R)(kx:K3 R):SS.R 0 yJ (iR,x,t19,t20,t21,n2) kn kx=aJ ((gr t21 t20)) (aJ (ed t21 (t19.length:Int)) (al (tid.call (nth ez t19 (ae t21))) λx1=>al (LI.call (x,x1)) λx2=>kn (yJ.st (iR,x2,t19,t20,(bI .i64 t21 1),n2))) none) (yJ.go kx ((iR,n2),x)):=b8
theorem alN:yK.RS:=rL [.d tB,.d (.slice bg),.d ti,.d ti,.d tB] yK
theorem PA{R:Type}(aCk t39 t40 t41 kQ)(kn:K2 R)(kx:K3 R):SS.R 1 yK (aCk,t39,t40,t41,kQ) kn kx=aJ ((gr t41 t40)) (aJ (ed t41 (t39.length:Int)) (al (LI.call (aCk,(nth bg t39 (ae t41)).1)) λx1=>al (AN.call (x1,(nth bg t39 (ae t41)).2.1)) λx2=>kn (yK.st (x2,t39,t40,(bI .i64 t41 1),kQ))) none) (yK.go kx (kQ,aCk)):=b8
theorem aJ5{R:Type}(b)(k:K1 R):SS.A b k=al (AN.call (([]:List Int),b.1)) λx1=>al (LI.call (x1,b.2.1)) λx2=>al (AN.call (x2,(b.2.2.1.length:Int))) λx3=>al (yJ.call (b,x3,b.2.2.1,(b.2.2.1.length:Int),0,(ab 32 0))) λx6=>al (AN.call (x6.2,x6.1.1.2.2.2.1)) λx7=>al (AN.call (x7,(x6.1.1.2.2.2.2.1.length:Int))) λx8=>al (yK.call (x8,x6.1.1.2.2.2.2.1,(x6.1.1.2.2.2.2.1.length:Int),0,x6.1.2)) λawZ=>al (Tv.call ((⟨#[98,108,111,99,107]⟩:ByteArray),[awZ.2])) λaJm=>k (SS.out aJm):=b8
theorem aqZ:(SS.kM 0 yJ):=by
 refine(SS.mf 0 yJ) (λ(b,x,l,n,i,z)=>(l).length - ae i) ?_
 rintro⟨b,x,l,n,i,z⟩ ⟨hlen,k,hk,rfl,rfl,h3,hx,hb⟩;have hlen:(l).length<=1000000000:=hlen;have hk:k<=(l).length:=hk;have h3:l.length<=1000:=h3;have hx:∀t∈l,nU t:=hx;have hb:x.length<=1000+32*k:=hb;by_cases h:k < (l).length
 ·left;have n1:nth ez l k=l[k]:=cd (t:=ez) h;have hd:bR k l=l[k]::bR (k+1) l:=aq h;refine⟨(b,(avR x l[k]),l,((l).length:Int),((k+1:Nat):Int),z),⟨hlen,k+1,ak,rfl,rfl,h3,hx,by unfold avR;rw[ai,GN.1];omega⟩,by simp only[aa];omega,?_,λkn kx=> ?_⟩
  ·simp only[B9,Kl,aa,hd,bq]
  ·rw[Pz,aU ak,bj ak ak,aa,n1];simp only[aj];rw[GG (d:=l[k]) (hx _ (aN h))];simp only[ah,bu,R6];rw[Ks (d:=(x,iC l[k])) ⟨by show x.length+(iC l[k]).length<=_;rw[GN.1];omega,GN.1⟩];simp only[ah,bu,PW];rw[N.mD ak];rfl
 ·right;obtain rfl:k=(l).length:=ak;intro R kn kx;rw[Pz,aQ ak,ao];simp only[B9,Kl,aa,aL,cO]
theorem aq0:(SS.kM 1 yK):=by
 refine(SS.mf 1 yK) (λ(x,l,n,i,z)=>(l).length - ae i) ?_
 rintro⟨x,l,n,i,z⟩ ⟨hlen,k,hk,rfl,rfl,h3,hx,hb⟩;have hlen:(l).length<=1000000000:=hlen;have hk:k<=(l).length:=hk;have h3:l.length<=1000:=h3;have hx:∀o∈l,aw0 o:=hx;have hb:x.length<=100000+43*k:=hb;by_cases h:k < (l).length
 ·left;have n1:nth bg l k=l[k]:=cd (t:=bg) h;have hd:bR k l=l[k]::bR (k+1) l:=aq h;refine⟨((aLp x l[k]),l,((l).length:Int),((k+1:Nat):Int),z),⟨hlen,k+1,ak,rfl,rfl,h3,hx,by have:=KH [l[k]] x (λo ho=>by rw[bk]at ho;subst ho;exact hx _ (aN h));simp only[bq,cO,aA,ba]at this;omega⟩,by simp only[aa];omega,?_,λkn kx=> ?_⟩
  ·simp only[Ca,Km,aa,hd,bq]
  ·rw[PA,aU ak,bj ak ak,aa,n1];simp only[aj];obtain⟨e1,e2⟩:=hx _ (aN h);rw[Ks (d:=(x,l[k].1)) ⟨by show x.length+l[k].1.length<=_;rw[e1];omega,e1⟩];simp only[ah,bu,PW];rw[jA (d:=(x++l[k].1,l[k].2.1)) ⟨by show(x++l[k].1).length<=_;rw[ai,e1];omega,e2⟩];simp only[ah,bu,pd];rw[N.mD ak];rfl
 ·right;obtain rfl:k=(l).length:=ak;intro R kn kx;rw[PA,aQ ak,ao];simp only[Ca,Km,aa,aL,cO]
theorem aJ6:SS.Ok:=by rintro b ⟨⟨h1,h2⟩,⟨h3,h4,h5⟩,h6,h7⟩;have z1:((0:Int)).toNat=0:=rfl;have p1:=dy [] b.1;have p2:=dy (cF [] b.1++b.2.1) b.2.2.1.length;rw[ai,h4]at p2;have l0:([]:Bs).length=0:=rfl;rw[l0]at p1;have q1:=X1 b.2.2.1 (cF (cF [] b.1++b.2.1) b.2.2.1.length);obtain⟨x3,e3⟩:∃x,cF (cF [] b.1++b.2.1) b.2.2.1.length=x:=⟨_,rfl⟩;rw[e3]at p2 q1;obtain⟨x6,e6⟩:∃x,b.2.2.1.foldl avR x3=x:=⟨_,rfl⟩;rw[e6]at q1;have p7:=dy x6 b.2.2.2.1;have p8:=dy (cF x6 b.2.2.2.1) b.2.2.2.2.1.length;obtain⟨x8,e8⟩:∃x,cF (cF x6 b.2.2.2.1) b.2.2.2.2.1.length=x:=⟨_,rfl⟩;have q2:=KH b.2.2.2.2.1 x8 h7;rw[e8]at p8;rw[aJ5,jA (d:=(([]:List Int),b.1)) ⟨by show(0:Nat)<=_;omega,h3⟩];simp only[ah,bu,pd];rw[Ks (d:=(cF [] b.1,b.2.1)) ⟨by show(cF [] b.1).length+b.2.1.length<=_;rw[h4];omega,h4⟩];simp only[ah,bu,PW];rw[jA (d:=(cF [] b.1++b.2.1,(b.2.2.1.length:Int))) ⟨by show(cF [] b.1++b.2.1).length<=_;rw[ai,h4];omega,by show(b.2.2.1.length:Int)<=_;omega⟩];simp only[ah,bu,pd];rw[e3,alL (d:=(b,x3,b.2.2.1,(b.2.2.1.length:Int),0,ab 32 0)) ⟨by show b.2.2.1.length<=_;omega,0,aK _,rfl,rfl,h1,h2,ak⟩];simp only[ah,B9,Kl,z1,aD];rw[e6,jA (d:=(x6,b.2.2.2.1)) ⟨by show x6.length<=_;omega,h5⟩];simp only[ah,bu,pd];rw[jA (d:=(cF x6 b.2.2.2.1,(b.2.2.2.2.1.length:Int))) ⟨by show(cF x6 b.2.2.2.1).length<=_;omega,by show(b.2.2.2.2.1.length:Int)<=_;omega⟩];simp only[ah,bu,pd];rw[e8,alN (d:=(x8,b.2.2.2.2.1,(b.2.2.2.2.1.length:Int),0,ab 32 0)) ⟨by show b.2.2.2.2.1.length<=_;omega,0,aK _,rfl,rfl,h6,h7,ak⟩];simp only[ah,Ca,Km,z1,aD];rw[QE (d:=((⟨#[98,108,111,99,107]⟩:ByteArray),[b.2.2.2.2.1.foldl aLp x8])) (R0 (by decide) ak)];simp only[ah,bu,aqY,aqV,aOh,e3,e6,e8];rfl
theorem aC3:SS.RS:=rE [.d dR] SS
def aJ7:=SS.eU aJ6 2 ⟨.fv aqZ,⟨.fv aq0,trivial⟩⟩
abbrev alR:=Int×(List dw)×Int×Int
theorem ahs:∀(l:List gK) (n:Int),(∀x∈l,x.2.1.2.1.length<=12)->n<=l.foldl yq n/\l.foldl yq n<=n+110*l.length
 |[],n,_=>by simp
 |x::l,n,h=>by
  have h1:=ahs l (yq n x) λy hy=>h y (aG _ hy)
  have h2:=h x (aI ..);have h3:n<=yq n x/\yq n x<=n+110:=by unfold yq;split <;> omega
  rw[bq,aA];omega
theorem UJ(t:dw):0<=GP t/\GP t<=8000:=by
 unfold GP;split
 ·rename_i jn;obtain⟨⟨_,a2,a3,_⟩,b1,b2⟩:=jM jn;have:=ahs t.1 (10+8*t.2.1.length) λx hx=>(A6 (mH _ _ b1 x hx)).2.2.2.2
  omega
 ·omega
def aI1(n:Int)(t:dw):Int:=n+GP t
def aQr(b:cZ):Int:=b.2.2.1.foldl aI1 b.2.2.2.1
def aq3:alR->Prop:=λ(n,l,m,i)=>(l).length<=1000000000/\∃k:Nat,k<=(l).length/\i=k/\m=(l).length/\(l.length<=1000)/\(∀t∈l,nU t)/\(0<=n)/\(n<=1000000+8000*(k:Int))
def PC:alR->Int:=λ(n,l,m,i)=>(bR (ae i) l).foldl aI1 n
def aJ8:cZ->Prop:=λb=>auX b/\0<=b.2.2.2.1/\b.2.2.2.1<=1000000
def aC7:cZ->Int:=λb=>aQr b
def E5:Ls aq3 bu PC:=rp (λ(n,t9,t10,t11)=>⟨([bF,bF,bF,.d ti n]++aP 5 ([.d (.slice ez) t9,.d ti t10,.d ti t11]++aP 9 [])),[],(ab 21 [])⟩) (λx=>(.exit 0,⟨([bF,bF,bF,.d ti x]++aP 17 []),[],(ab 21 [])⟩))
def aJu:Fs Tryz.prog aJ8 bu aC7:=eN 226 Tryz.f226 (λb=>([.d dR b],[])) (λx=>⟨.d ti x,[],[]⟩) [some dR] [auG] {loops:=nY [(3,{aV:=[3,9,10,11]})],outs:=nX [(3,{aV:=[3]},{aV:=[2]})],fF:=nK [(3,E5.E)]}
theorem aq4:E5.RS:=rL [.d ti,.d (.slice ez),.d ti,.d ti] E5
theorem U4{R:Type}(n t9 t10 t11)(kn:K2 R)(kx:K3 R):aJu.R 0 E5 (n,t9,t10,t11) kn kx=aJ ((gr t11 t10)) (aJ (ed t11 (t9.length:Int)) (al (vf.call (nth ez t9 (ae t11))) λx1=>kn (E5.st ((bI .i64 n x1),t9,t10,(bI .i64 t11 1)))) none) (E5.go kx n):=b8
theorem aOi{R:Type}(b)(k:K1 R):aJu.A b k=al (E5.call (b.2.2.2.1,b.2.2.1,(b.2.2.1.length:Int),0)) λx2=>k (aJu.out x2):=b8
theorem axw:(aJu.kM 0 E5):=by
 refine(aJu.mf 0 E5) (λ(n,l,m,i)=>(l).length - ae i) ?_
 rintro⟨n,l,m,i⟩ ⟨hlen,k,hk,rfl,rfl,h3,hx,h0,h1⟩;have hlen:(l).length<=1000000000:=hlen;have hk:k<=(l).length:=hk;have h3:l.length<=1000:=h3;have hx:∀t∈l,nU t:=hx;have h0:0<=n:=h0;have h1:n<=1000000+8000*(k:Int):=h1;by_cases h:k < (l).length
 ·left;have n1:nth ez l k=l[k]:=cd (t:=ez) h;have hd:bR k l=l[k]::bR (k+1) l:=aq h;refine⟨((aI1 n l[k]),l,((l).length:Int),((k+1:Nat):Int)),⟨hlen,k+1,ak,rfl,rfl,h3,hx,by have:=UJ l[k];unfold aI1;omega,by have:=UJ l[k];unfold aI1;omega⟩,by simp only[aa];omega,?_,λkn kx=> ?_⟩
  ·simp only[bu,PC,aa,hd,bq]
  ·rw[U4,aU ak,bj ak ak,aa,n1];simp only[aj];have e:=UJ l[k];rw[ap7 (d:=l[k]) (hx _ (aN h))];simp only[ah,bu,UG];rw[fZ (x:=n) ak ak,N.mD ak];rfl
 ·right;obtain rfl:k=(l).length:=ak;intro R kn kx;rw[U4,aQ ak,ao];simp only[bu,PC,aa,aL,cO]
theorem aOj:aJu.Ok:=by rintro b ⟨⟨⟨h1,h2⟩,_⟩,h3,h4⟩;have z1:((0:Int)).toNat=0:=rfl;rw[aOi,aq4 (d:=(b.2.2.2.1,b.2.2.1,(b.2.2.1.length:Int),0)) ⟨by show b.2.2.1.length<=_;omega,0,aK _,rfl,rfl,h1,h2,h3,by show b.2.2.2.1<=_;omega⟩];simp only[ah,bu,PC,z1,aD,bu,aC7,aQr]
theorem aJ9:aJu.RS:=rE [.d dR] aJu
def aOk:=aJu.eU aOj 1 ⟨.fv axw,trivial⟩
def Il(h f:Int):Bool:=decide (1<=h/\h<=1048576/\0<=f/\f<=4000)
def aqW:(Int×Int)->Prop:=λ_=>True
def YT:(Int×Int)->Bool:=λ(h,f)=>Il h f
def CW:Fs Tryz.prog aqW bu YT:=eN 225 Tryz.f225 (λ(height,fill)=>([.d ti height,.d ti fill],[])) (λx=>⟨.d .bool x,[],[]⟩) [some ti,some ti]
theorem axo{R:Type}(height fill)(k:K1 R):CW.A (height,fill) k=aJ ((Cn height 1)) (aJ ((ai7 height 1048576)) (aJ ((Cn fill 0)) (k (CW.out (ai7 fill 4000))) (k (CW.out false))) (k (CW.out false))) (k (CW.out false)):=b8
theorem axp:CW.Ok:=by
 rintro⟨h,f⟩ _;rw[axo];simp only[bu,YT,Il];by_cases a1:1<=h
 ·rw[gA a1,aj];by_cases a2:h<=1048576
  ·rw[og a2,aj];by_cases a3:0<=f
   ·rw[gA a3,aj];by_cases a4:f<=4000
    ·rw[og a4,fY ⟨a1,a2,a3,a4⟩]
    ·rw[ke ak,jw ak]
   ·rw[eF ak,ao,jw ak]
  ·rw[ke ak,ao,jw ak]
 ·rw[eF ak,ao,jw ak]
theorem aqX:CW.RS:=rE [.d ti,.d ti] CW
def axq:=CW.eU axp
end Go.Ab
end
