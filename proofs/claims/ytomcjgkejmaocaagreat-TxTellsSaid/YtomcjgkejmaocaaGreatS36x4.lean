/-
  Made short by a program of mine (wip/tools/mini.py).
-/
import Derived.Test.YtomcjgkejmaocaaGreatS36x3
import Derived.Test.YtomcjgkejmaocaaGreatProg
set_option linter.unusedVariables false
set_option linter.unusedSimpArgs false
set_option maxRecDepth 100000
set_option synthInstance.maxSize 5000
open List renaming replicate->ag,set->eE,length->ae,take->aP,drop->aX
open BitVec renaming ofInt->bk
open Int renaming toNat->ab
open Or renaming inr->ez,inl->jH
open Option renaming some->aw,none->aF
open Bool renaming true->aW,false->aQ
noncomputable section
variable {R:Type}
namespace Go.Ab
open Go.Proofs
def T9:Bs->Prop:=λb=>4<=b.length
def afV:Bs->Int:=λb=>vw (aEo (b.getD 0 0) (b.getD 1 0) (b.getD 2 0) (b.getD 3 0))
def binary:Fs Tryz.prog T9 bm afV:=fg 162 Tryz.f162 (λb=>([.d tB b],[])) (λx=>⟨.d (.int .u32) x,[],[]⟩) [aw tB]
theorem apx(b)(k:K1 R):binary.A b k=aG (ei 0 (b.length:Int)) (aG (ei 1 (b.length:Int)) (aG (ei 2 (b.length:Int)) (aG (ei 3 (b.length:Int)) (k (binary.out (cF .or .u32 (cF .or .u32 (cF .or .u32 (mH .u32 (dC .u32 (nth tb b 0)) 24) (mH .u32 (dC .u32 (nth tb b 1)) 16)) (mH .u32 (dC .u32 (nth tb b 2)) 8)) (dC .u32 (nth tb b 3))))) aF) aF) aF) aF:=cK
theorem apy:binary.Ok:=by intro b h;have h:4<=b.length:=h;rw[apx,bo ak ak,bo ak ak,bo ak ak,bo ak ak];simp only[ao,aox,MF,pR];rfl
theorem akc:binary.RS:=rE [.d tB] binary
def apz:=binary.fh apy
def rl(w:W)(k:Nat):W:=w <<< k ||| w >>> (32 - k)
def Xh:(Int×Int)->Prop:=λ(x,k)=>0<=x/\x < 4294967296
def axR:(Int×Int)->Int:=λ(x,k)=>vw (rl (bk 32 x) (k%32).toNat)
def pA:Fs Tryz.prog Xh bm axR:=fg 155 Tryz.f155 (λ(x,kv)=>([.d (.int .u32) x,.d ti kv],[])) (λx=>⟨.d (.int .u32) x,[],[]⟩) [aw (.int .u32),aw ti]
theorem asO(x kv)(k:K1 R):pA.A (x,kv) k=aG (mL (cF .and .u64 (dC .u64 kv) 31)) (aG (mL (dD .u64 32 (cF .and .u64 (dC .u64 kv) 31))) (k (pA.out (cF .or .u32 (mH .u32 x (cF .and .u64 (dC .u64 kv) 31)) (cl .u32 x (dD .u64 32 (cF .and .u64 (dC .u64 kv) 31)))))) aF) aF:=cK
theorem aEn(k:Int):cF .and .u64 (dC .u64 k) 31=k%32:=by have e:(31:Int)=vw (31:BitVec 64):=rfl;rw[Mz,e,apA];simp only;have:(31:BitVec 64)=BitVec.ofNat 64 (2^5 - 1):=rfl;unfold vw;rw[BitVec.toNat_and,si,show(31:BitVec 64).toNat=2^5 - 1 from rfl,Nat.and_two_pow_sub_one_eq_mod];omega
theorem asP:pA.Ok:=by
 rintro⟨x,k⟩ ⟨h1,h2⟩;have e1:dD .u64 32 (k%32)=32 - k%32:=by unfold dD;rw[wrap_u64,gh];omega
 have hx:x=vw (bk 32 x):=by rw[gh];omega
 rw[asO,aEn,e1,s5 ak,s5 ak];simp only[ao];have e2:cF .or .u32 (mH .u32 x (k%32)) (cl .u32 x (32 - k%32))=vw (rl (bk 32 x) (k%32).toNat):=by
  conv=>lhs;rw[hx]
  rw[MF,F9,pR];simp only[rl];congr 3;omega
 rw[e2];rfl
theorem am1:pA.RS:=rE [.d (.int .u32),.d ti] pA
def abX:=pA.fh asP
theorem abW(w:W)(k:Int):pA.call (vw w,k)=aw (vw (rl w (k%32).toNat)):=by have h:Xh (vw w,k):=⟨QL w,by have:=ayK w;simpa using this⟩;rw[am1 h];show aw (vw (rl (bk 32 (vw w)) (k%32).toNat))=_;rw[tI]
def ath:Unit->Prop:=λ_=>True
def apf:Unit->(List Int):=λ_=>Px
def table:Fs Tryz.prog ath bm apf:=fg 154 Tryz.f154 (λ_=>([],[])) (λx=>⟨.d (.arr 64 (.int .u32)) x,[],[]⟩) []
theorem ayi(d)(k:K1 R):table.A d k=k (table.out [1116352408,1899447441,3049323471,3921009573,961987163,1508970993,2453635748,2870763221,3624381080,310598401,607225278,1426881987,1925078388,2162078206,2614888103,3248222580,3835390401,4022224774,264347078,604807628,770255983,1249150122,1555081692,1996064986,2554220882,2821834349,2952996808,3210313671,3336571891,3584528711,113926993,338241895,666307205,773529912,1294757372,1396182291,1695183700,1986661051,2177026350,2456956037,2730485921,2820302411,3259730800,3345764771,3516065817,3600352804,4094571909,275423344,430227734,506948616,659060556,883997877,958139571,1322822218,1537002063,1747873779,1955562222,2024104815,2227730452,2361852424,2428436474,2756734187,3204031479,3329325298]):=cK
theorem ayj:table.Ok:=by intro d _;rw[ayi];rfl
theorem ati:table.RS:=rE [] table
def ayk:=table.fh ayj
def aqa:Unit->Prop:=λ_=>True
def aom:Unit->(List Int):=λ_=>sx.l
def first:Fs Tryz.prog aqa bm aom:=fg 136 Tryz.f136 (λ_=>([],[])) (λx=>⟨.d (.arr 8 (.int .u32)) x,[],[]⟩) []
theorem ave(d)(k:K1 R):first.A d k=k (first.out [1779033703,3144134277,1013904242,2773480762,1359893119,2600822924,528734635,1541459225]):=cK
theorem avg:first.Ok:=by intro d _;rw[ave];rfl
theorem aqb:first.RS:=rE [] first
def avh:=first.fh avg
abbrev JW:=Bs×Int×(List Int)
def wl(l:List W):List Int:=l.map vw
def FO(l:List W):List Int:=wl l++ag (64 - l.length) 0
def EE(b:List Int)(k:Nat):List W:=if k<=16 then(words b).take k else ayX (words b) (k - 16)
def Fk:JW->Prop:=λ(b,t8,n2)=>64<=b.length/\∃k:Nat,k<=64/\t8=k/\n2=FO (EE b k)
def BX:JW->(List Int):=λ(b,t8,n2)=>wl (sched b)
def N1:Bs->Prop:=λb=>64<=b.length
def Lo:Bs->(List Int):=λb=>wl (sched b)
def j3:Ls Fk bm BX:=oP (λ(fI,t8,n2)=>⟨([.d tB fI,bK,dX 2]++a9 5 ([.d ti t8]++a9 52 [])),[],([[],[],cH (.d (.arr 64 (.int .u32)) n2)]++bC 58 [])⟩) (λx=>(.exit 0,⟨([bK,bK,dX 2]++a9 58 []),[],([[],[],cH (.d (.arr 64 (.int .u32)) x)]++bC 58 [])⟩))
def schedule:Fs Tryz.prog N1 bm Lo:=fg 153 Tryz.f153 (λb=>([.d tB b],[])) (λx=>⟨.d (.arr 64 (.int .u32)) x,[],[]⟩) [aw tB] [apz,abX] {loops:=oN [(2,{aY:=[0,2,8],sites:=[2]})],outs:=oM [(2,{aY:=[2],sites:=[2]},{aY:=[2]})],fE:=pX [(2,j3.E)]}
theorem Tj:j3.RS:=rL [.d tB,.d ti,.d (.slice (.int .u32))] j3
theorem CT(fI t8 n2)(kn:K2 R)(kx:K3 R):schedule.R 0 j3 (fI,t8,n2) kn kx=aG (fV t8 64) (aG (fV t8 16) (aG (inc (eB .i64 4 t8) (fI.length:Int)) (aj (binary.call (cut fI (ab (eB .i64 4 t8)) ((ae fI) - (ab (eB .i64 4 t8))))) λx1=>aG (ei t8 64) (aG (decide ((ab t8) < (ae n2))) (aG (decide ((((ab t8)*1)+0)=(0+((ab t8)*1)))) (aG (decide ((ab t8) < (ae n2))) (kn (j3.st (fI,(bB .i64 t8 1),(eE n2 (ab t8) x1)))) aF) aF) aF) aF) aF) (aG (ei (dD .i64 t8 15) 64) (aG (decide ((ab (dD .i64 t8 15)) < (ae n2))) (aG (decide ((((ab (dD .i64 t8 15))*1)+0)=(0+((ab (dD .i64 t8 15))*1)))) (aG (ei (dD .i64 t8 2) 64) (aG (decide ((ab (dD .i64 t8 2)) < (ae n2))) (aG (decide ((((ab (dD .i64 t8 2))*1)+0)=(0+((ab (dD .i64 t8 2))*1)))) (aj (pA.call ((nth (.int .u32) n2 (ab (dD .i64 t8 15))),(-7))) λx2=>aj (pA.call ((nth (.int .u32) n2 (ab (dD .i64 t8 15))),(-18))) λx3=>aj (pA.call ((nth (.int .u32) n2 (ab (dD .i64 t8 2))),(-17))) λx4=>aj (pA.call ((nth (.int .u32) n2 (ab (dD .i64 t8 2))),(-19))) λx5=>aG (ei (dD .i64 t8 16) 64) (aG (decide ((ab (dD .i64 t8 16)) < (ae n2))) (aG (decide ((((ab (dD .i64 t8 16))*1)+0)=(0+((ab (dD .i64 t8 16))*1)))) (aG (ei (dD .i64 t8 7) 64) (aG (decide ((ab (dD .i64 t8 7)) < (ae n2))) (aG (decide ((((ab (dD .i64 t8 7))*1)+0)=(0+((ab (dD .i64 t8 7))*1)))) (aG (ei t8 64) (aG (decide ((ab t8) < (ae n2))) (aG (decide ((((ab t8)*1)+0)=(0+((ab t8)*1)))) (aG (decide ((ab t8) < (ae n2))) (kn (j3.st (fI,(bB .i64 t8 1),(eE n2 (ab t8) (bB .u32 (bB .u32 (bB .u32 (nth (.int .u32) n2 (ab (dD .i64 t8 16))) (cF .xor .u32 (cF .xor .u32 x2 x3) (cl .u32 (nth (.int .u32) n2 (ab (dD .i64 t8 15))) 3))) (nth (.int .u32) n2 (ab (dD .i64 t8 7)))) (cF .xor .u32 (cF .xor .u32 x4 x5) (cl .u32 (nth (.int .u32) n2 (ab (dD .i64 t8 2))) 10))))))) aF) aF) aF) aF) aF) aF) aF) aF) aF) aF) aF) aF) aF) aF) aF) aF)) (j3.go kx n2):=cK
theorem aiT(b)(k:K1 R):schedule.A b k=aj (j3.call (b,0,(ag 64 0))) λx6=>k (schedule.out x6):=cK
theorem ajM(b:List Int)(k:Nat)(h:k<=64):(EE b k).length=k:=by
 unfold EE;split
 ·simp[eY];omega
 ·rw[zS,eY];omega
theorem aBi(b:List Int):EE b 64=sched b:=rfl
theorem atQ(b:List Int)(k:Nat)(h:k < 16):EE b (k+1)=EE b k++ [be b k]:=by unfold EE;rw[if_pos ak,if_pos ak,dV (by rw[eY];exact h)];simp[words]
theorem ayN(b:List Int)(k:Nat)(h:16<=k):EE b (k+1)=ext (EE b k):=by
 unfold EE;rw[if_neg ak];by_cases aGA:k=16
 ·subst aGA;rw[if_pos ak,bg (by rw[eY];omega)];rfl
 ·rw[if_neg ak,show k+1 - 16=(k - 16)+1 by omega];rfl
theorem acG(l:List W)(h:l.length<=64):(FO l).length=64:=by simp[FO,wl];omega
theorem Ij(l:List W)(i:Nat)(h:i < l.length):nth (.int .u32) (FO l) i=vw (l.getD i 0):=by unfold nth FO wl;rw[aK,iy (by simpa using h)];simp[h]
theorem aaA(l:List W)(w:W)(h:l.length < 64):(FO l).set l.length (vw w)=FO (l++ [w]):=by unfold FO wl;rw[List.set_append_right _ _ (by simp)];simp only[bR,Nat.sub_self,List.map_append,ai,aE,bj];rw[show 64 - l.length=(64 - (l.length+(0+1)))+1 by omega,List.replicate_succ,List.set_cons_zero];simp
theorem aj5(l:List W)(h:l.length=64):FO l=wl l:=by simp[FO,h]
theorem aB7(b:List Int)(k:Nat)(h:4*k+4<=b.length):aEo ((cut b (4*k) (b.length - 4*k)).getD 0 0) ((cut b (4*k) (b.length - 4*k)).getD 1 0) ((cut b (4*k) (b.length - 4*k)).getD 2 0) ((cut b (4*k) (b.length - 4*k)).getD 3 0)=be b k:=by
 have e:∀j,j < 4->(cut b (4*k) (b.length - 4*k)).getD j 0=b.getD (4*k+j) 0:=λj hj=>by unfold cut;rw[aK,aK,List.getElem?_take_of_lt ak,fN]
 unfold be;rw[e 0 ak,e 1 ak,e 2 ak,e 3 ak,bM]
theorem Xv:(schedule.j8 0 j3):=by
 refine(schedule.lX 0 j3) (λ(b,t8,n2)=>64 - t8.toNat) ?_
 rintro⟨b,t8,n2⟩ ⟨hb,k,hk,rfl,rfl⟩;have aD0:=ajM b k hk;have avu:=acG (EE b k) ak;by_cases h:k < 64
 ·left;refine⟨(b,((k+1:Nat):Int),FO (EE b (k+1))),⟨hb,k+1,ak,rfl,rfl⟩,by simp;omega,rfl,λkn kx=> ?_⟩;have e1:bB .i64 (k:Int) 1=((k+1:Nat):Int):=by rw[iC ak ak];omega
  have e2:ab (k:Int)=k:=ak;rw[CT,aU ak];simp only[ao,e1,e2,avu,gq,aH,bM,bA];by_cases aGA:k < 16
  ·have e3:eB .i64 4 (k:Int)=((4*k:Nat):Int):=by rw[wE ak ak];omega
   have e4:ab ((4*k:Nat):Int)=4*k:=ak;rw[aU ak,e3,tz ak ak,e4,bo ak ak,aI h];have hp:T9 (cut b (4*k) (b.length - 4*k)):=by show 4<=_;rw[C9 ak];omega
   simp only[ao,akc hp,ah];have e5:bm (cut b (4*k) (b.length - 4*k)) (afV (cut b (4*k) (b.length - 4*k)))=vw (be b k):=by show vw (aEo _ _ _ _)=_;rw[aB7 b k ak]
   have e6:=aaA (EE b k) (be b k) ak;rw[aD0]at e6;rw[e5,e6,atQ b k aGA]
  ·have a15:ab (dD .i64 (k:Int) 15)=k - 15:=by rw[gY ak ak];omega
   have a2:ab (dD .i64 (k:Int) 2)=k - 2:=by rw[gY ak ak];omega
   have a16:ab (dD .i64 (k:Int) 16)=k - 16:=by rw[gY ak ak];omega
   have a7:ab (dD .i64 (k:Int) 7)=k - 7:=by rw[gY ak ak];omega
   have i15:ei (dD .i64 (k:Int) 15) 64=aW:=bo (by rw[gY ak ak];omega) (by rw[gY ak ak];omega);have i2:ei (dD .i64 (k:Int) 2) 64=aW:=bo (by rw[gY ak ak];omega) (by rw[gY ak ak];omega);have i16:ei (dD .i64 (k:Int) 16) 64=aW:=bo (by rw[gY ak ak];omega) (by rw[gY ak ak];omega);have i7:ei (dD .i64 (k:Int) 7) 64=aW:=bo (by rw[gY ak ak];omega) (by rw[gY ak ak];omega);have i0:ei (k:Int) 64=aW:=bo ak ak;have d15:decide (k - 15 < 64)=aW:=aI ak;have d2:decide (k - 2 < 64)=aW:=aI ak;have d16:decide (k - 16 < 64)=aW:=aI ak;have d7:decide (k - 7 < 64)=aW:=aI ak;have d0:decide (k < 64)=aW:=aI h;rw[aT ak];simp only[ao,au,a15,a2,a16,a7,i15,i2,i16,i7,i0,d15,d2,d16,d7,d0,Ij (EE b k) (k - 15) ak,Ij (EE b k) (k - 2) ak,Ij (EE b k) (k - 16) ak,Ij (EE b k) (k - 7) ak,abW,ah,pR,F9,Ck];have e6:=aaA (EE b k) (aBX (EE b k) k) ak;rw[aD0]at e6;rw[ayN b k ak,ext,aD0,<-e6];rfl
 ·right;obtain rfl:k=64:=ak;intro R kn kx;rw[CT,aT ak,aj5 _ aD0,aBi];simp only[au,bm,BX]
theorem aiU:schedule.Ok:=by intro b hb;have hp:Fk (b,0,ag 64 0):=⟨hb,0,ak,rfl,rfl⟩;rw[aiT,Tj hp];simp only[ah,bm,BX,bm,Lo]
theorem aeR:schedule.RS:=rE [.d tB] schedule
def aiV:=schedule.fh aiU 1 ⟨.fD Xv,trivial⟩
abbrev U2:=(List Int)×Int×(List Int)×(List Int)×(List Int)×(List Int)
def KK:U2->(List Int)->(((List Int)×(List Int))×((List Int))):=λ(B7,t18,n4,n5,n6,n7) y=>((B7,n4),y)
abbrev U5:=(List Int)×Int×(List Int)×(List Int)
def Du:U5->(List Int)->(((List Int))×((List Int))):=λ(aos,t104,y5,Y9) y=>(y5,y)
def afb(l:List Int):St:=⟨bk 32 (l.getD 0 0),bk 32 (l.getD 1 0),bk 32 (l.getD 2 0),bk 32 (l.getD 3 0),bk 32 (l.getD 4 0),bk 32 (l.getD 5 0),bk 32 (l.getD 6 0),bk 32 (l.getD 7 0)⟩
theorem oJ(s:St):afb s.l=s:=by obtain⟨a,b,c,d,e,f,g,h⟩:=s;simp[afb,St.l,tI]
def ayI(l:List Int):List W:=l.map (bk 32)
theorem EC(l:List W):ayI (wl l)=l:=by
 unfold ayI wl;rw[lq];have:(bk 32∘vw)=(id:W->W):=by funext w;exact tI w
 rw[this,jP]
def U4:U2->Prop:=λ(h,t,n4,n5,n6,n7)=>∃(s:St) (ws:List W) (k:Nat),h=s.l/\n5=wl ws/\ws.length=64/\k<=64/\t=k/\n6=Px/\n7=(rounds ws s k).l
def U3:U2->(List Int):=λ(h,t,n4,n5,n6,n7)=>(rounds (ayI n5) (afb h) 64).l
def U6:U5->Prop:=λ(h,t,n4,n7)=>n7.length=8/\∃k:Nat,k<=8/\t=k
def MP:U5->(List Int):=λ(h,t,n4,n7)=>from_ (λi x=>bB .u32 x (nth (.int .u32) h i)) t.toNat n7
def adH:((List Int)×Bs)->Prop:=λ(h,b)=>(∃s:St,h=s.l)/\64<=b.length
def aoF:((List Int)×Bs)->(List Int):=λ(h,b)=>(PF (afb h) b).l
def Bj:Ls U4 KK U3:=oP (λ(B7,t18,n4,n5,n6,n7)=>⟨([bK,bK,.dB (.arr 8 (.int .u32)) B7,bK,dX 4,dX 5,dX 6,dX 7]++a9 10 ([.d ti t18]++a9 98 [])),[],(bC 4 ([cH (.d (.arr 8 (.int .u32)) n4),cH (.d (.arr 64 (.int .u32)) n5),cH (.d (.arr 64 (.int .u32)) n6),cH (.d (.arr 8 (.int .u32)) n7)]++bC 109 []))⟩) (λx=>(.exit 0,⟨([bK,bK,.dB (.arr 8 (.int .u32)) x.1.1,bK,dX 4,bK,bK,dX 7]++a9 109 []),[],(bC 4 ([cH (.d (.arr 8 (.int .u32)) x.1.2),[],[],cH (.d (.arr 8 (.int .u32)) x.2)]++bC 109 []))⟩))
def Dt:Ls U6 Du MP:=oP (λ(aos,t104,y5,Y9)=>⟨([bK,bK,.dB (.arr 8 (.int .u32)) aos,bK,dX 4,bK,bK,dX 7]++a9 96 ([.d ti t104]++a9 12 [])),[],(bC 4 ([cH (.d (.arr 8 (.int .u32)) y5),[],[],cH (.d (.arr 8 (.int .u32)) Y9)]++bC 109 []))⟩) (λx=>(.exit 2,⟨(a9 4 ([dX 4,bK,bK,dX 7]++a9 109 [])),[],(bC 4 ([cH (.d (.arr 8 (.int .u32)) x.1),[],[],cH (.d (.arr 8 (.int .u32)) x.2)]++bC 109 []))⟩))
def mix:Fs Tryz.prog adH bm aoF:=fg 137 Tryz.f137 (λ(h,b)=>([.d (.arr 8 (.int .u32)) h,.d tB b],[])) (λx=>⟨.d (.arr 8 (.int .u32)) x,[],[]⟩) [aw (.arr 8 (.int .u32)),aw tB] [aiV,ayk,abX] {loops:=oN [(4,{aY:=[2,4,5,6,7,18],sites:=[4,5,6,7]}),(13,{aY:=[2,4,7,104],sites:=[4,7]})],outs:=oM [(4,{aY:=[2,4,7],sites:=[4,7]},{aY:=[4]}),(13,{aY:=[4,7],sites:=[4,7]},{aY:=[4]})],fE:=pX [(4,Bj.E),(13,Dt.E)]}
theorem alh:Bj.RS:=rL [.d (.arr 8 (.int .u32)),.d ti,.d (.slice (.int .u32)),.d (.slice (.int .u32)),.d (.slice (.int .u32)),.d (.slice (.int .u32))] Bj
theorem Ro(B7 t18 n4 n5 n6 n7)(kn:K2 R)(kx:K3 R):mix.R 0 Bj (B7,t18,n4,n5,n6,n7) kn kx=aG (fV t18 64) (aG (decide (4 < (ae n7))) (aj (pA.call ((nth (.int .u32) n7 4),(-6))) λx1=>aG (decide (4 < (ae n7))) (aj (pA.call ((nth (.int .u32) n7 4),(-11))) λx2=>aG (decide (4 < (ae n7))) (aj (pA.call ((nth (.int .u32) n7 4),(-25))) λx3=>aG (decide (7 < (ae n7))) (aG (decide (6 < (ae n7))) (aG (decide (4 < (ae n7))) (aG (decide (5 < (ae n7))) (aG (decide (6 < (ae n7))) (aG (ei t18 64) (aG (decide ((ab t18) < (ae n6))) (aG (decide ((((ab t18)*1)+0)=(0+((ab t18)*1)))) (aG (ei t18 64) (aG (decide ((ab t18) < (ae n5))) (aG (decide ((((ab t18)*1)+0)=(0+((ab t18)*1)))) (aG (decide (0 < (ae n7))) (aj (pA.call ((nth (.int .u32) n7 0),(-2))) λx4=>aG (decide (0 < (ae n7))) (aj (pA.call ((nth (.int .u32) n7 0),(-13))) λx5=>aG (decide (0 < (ae n7))) (aj (pA.call ((nth (.int .u32) n7 0),(-22))) λx6=>aG (decide (0 < (ae n7))) (aG (decide (1 < (ae n7))) (aG (decide (2 < (ae n7))) (aG (decide (0 < (ae n7))) (aG (decide (1 < (ae n7))) (aG (decide (0 < (ae n7))) (aG (decide (1 < (ae n7))) (aG (decide (2 < (ae n7))) (aG (decide (3 < (ae n7))) (aG (decide (4 < (ae n7))) (aG (decide (5 < (ae n7))) (aG (decide (6 < (ae n7))) (kn (Bj.st (B7,(bB .i64 t18 1),n4,n5,n6,[(bB .u32 (bB .u32 (bB .u32 (bB .u32 (bB .u32 (bB .u32 (nth (.int .u32) n7 7) (cF .xor .u32 (cF .xor .u32 x1 x2) x3)) (cF .xor .u32 (nth (.int .u32) n7 6) (cF .and .u32 (nth (.int .u32) n7 4) (cF .xor .u32 (nth (.int .u32) n7 5) (nth (.int .u32) n7 6))))) (nth (.int .u32) n6 (ab t18))) (nth (.int .u32) n5 (ab t18))) (cF .xor .u32 (cF .xor .u32 x4 x5) x6)) (cF .or .u32 (cF .and .u32 (nth (.int .u32) n7 0) (nth (.int .u32) n7 1)) (cF .and .u32 (nth (.int .u32) n7 2) (cF .or .u32 (nth (.int .u32) n7 0) (nth (.int .u32) n7 1))))),(nth (.int .u32) n7 0),(nth (.int .u32) n7 1),(nth (.int .u32) n7 2),(bB .u32 (nth (.int .u32) n7 3) (bB .u32 (bB .u32 (bB .u32 (bB .u32 (nth (.int .u32) n7 7) (cF .xor .u32 (cF .xor .u32 x1 x2) x3)) (cF .xor .u32 (nth (.int .u32) n7 6) (cF .and .u32 (nth (.int .u32) n7 4) (cF .xor .u32 (nth (.int .u32) n7 5) (nth (.int .u32) n7 6))))) (nth (.int .u32) n6 (ab t18))) (nth (.int .u32) n5 (ab t18)))),(nth (.int .u32) n7 4),(nth (.int .u32) n7 5),(nth (.int .u32) n7 6)]))) aF) aF) aF) aF) aF) aF) aF) aF) aF) aF) aF) aF) aF) aF) aF) aF) aF) aF) aF) aF) aF) aF) aF) aF) aF) aF) aF) aF) aF) (Bj.go kx ((B7,n4),n7)):=cK
theorem ali:Dt.RS:=rL [.d (.arr 8 (.int .u32)),.d ti,.d (.slice (.int .u32)),.d (.slice (.int .u32))] Dt
theorem Rp(aos t104 y5 Y9)(kn:K2 R)(kx:K3 R):mix.R 1 Dt (aos,t104,y5,Y9) kn kx=aG (fV t104 8) (aG (ei t104 8) (aG (decide ((ab t104) < (ae Y9))) (aG (decide ((((ab t104)*1)+0)=(0+((ab t104)*1)))) (aG (ei t104 8) (aG (ei t104 8) (aG (decide ((ab t104) < (ae Y9))) (aG (decide ((((ab t104)*1)+0)=(0+((ab t104)*1)))) (aG (decide ((ab t104) < (ae Y9))) (kn (Dt.st (aos,(bB .i64 t104 1),y5,(eE Y9 (ab t104) (bB .u32 (nth (.int .u32) Y9 (ab t104)) (nth (.int .u32) aos (ab t104))))))) aF) aF) aF) aF) aF) aF) aF) aF) (Dt.go kx (y5,Y9)):=cK
theorem aCV(h b)(k:K1 R):mix.A (h,b) k=aj (schedule.call b) λx1=>aj (table.call ()) λx2=>aj (Bj.call (h,0,(ag 8 0),x1,x2,h)) λx9=>aj (Dt.call (x9.1.1,0,x9.1.2,x9.2)) λQN=>k (mix.out QN.2):=cK
theorem St.agR(s:St):s.l.length=8:=rfl
theorem Re:Px.length=64:=rfl
theorem agQ(k:Nat)(h:k < 64):nth (.int .u32) Px k=vw (kw k):=by
 have hh:∀k:Fin 64,nth (.int .u32) Px k.val=vw (kw k.val):=by decide+kernel
 exact hh ⟨k,h⟩
theorem QM(ws:List W)(k:Nat)(h:k < ws.length):nth (.int .u32) (wl ws) k=vw (ws.getD k 0):=by unfold nth wl;simp[h]
theorem aKm(w:W):rl w ((-6:Int)%32).toNat=vA w 6:=rfl
theorem aHC(w:W):rl w ((-11:Int)%32).toNat=vA w 11:=rfl
theorem aHF(w:W):rl w ((-25:Int)%32).toNat=vA w 25:=rfl
theorem aKl(w:W):rl w ((-2:Int)%32).toNat=vA w 2:=rfl
theorem aHD(w:W):rl w ((-13:Int)%32).toNat=vA w 13:=rfl
theorem aHE(w:W):rl w ((-22:Int)%32).toNat=vA w 22:=rfl
theorem n0(s:St):nth (.int .u32) s.l 0=vw s.a:=rfl
theorem n1(s:St):nth (.int .u32) s.l 1=vw s.b:=rfl
theorem n2(s:St):nth (.int .u32) s.l 2=vw s.c:=rfl
theorem n3(s:St):nth (.int .u32) s.l 3=vw s.d:=rfl
theorem n4(s:St):nth (.int .u32) s.l 4=vw s.e:=rfl
theorem n5(s:St):nth (.int .u32) s.l 5=vw s.f:=rfl
theorem n6(s:St):nth (.int .u32) s.l 6=vw s.g:=rfl
theorem n7(s:St):nth (.int .u32) s.l 7=vw s.h:=rfl
theorem aqT:(mix.j8 0 Bj):=by
 refine(mix.lX 0 Bj) (λ(h,t,n4,n5,n6,n7)=>64 - t.toNat) ?_
 rintro⟨h,t,m4,m5,m6,m7⟩ ⟨s,ws,k,rfl,rfl,hw,hk,rfl,rfl,rfl⟩;by_cases jQ:k < 64
 ·left;refine⟨(s.l,((k+1:Nat):Int),m4,wl ws,Px,(rounds ws s (k+1)).l),⟨s,ws,k+1,rfl,rfl,hw,ak,rfl,rfl,rfl⟩,by simp;omega,rfl,λkn kx=> ?_⟩;have e1:bB .i64 (k:Int) 1=((k+1:Nat):Int):=by rw[iC ak ak];omega
  have e2:ab (k:Int)=k:=ak;have aD0:(wl ws).length=64:=by simp[wl,hw]
  have d0:decide (k < 64)=aW:=aI jQ;have i0:ei (k:Int) 64=aW:=bo ak ak;rw[Ro,aU ak];generalize hv:rounds ws s k=v;simp only[e1,e2,gq,aH,bM,bA,ao,St.agR,Nat.reduceLT,Re,aD0,d0,i0,n0,n1,n2,n3,n4,n5,n6,n7,abW,ah,agQ k jQ,QM ws k ak,pR,Ck,aKm,aHC,aHF,aKl,aHD,aHE];show kn _=kn (Bj.st (s.l,((k+1:Nat):Int),m4,wl ws,Px,(lX (rounds ws s k) (kw k) (ws.getD k 0)).l));rw[hv];rfl
 ·right;obtain rfl:k=64:=ak;intro R kn kx;rw[Ro,aT ak];simp only[au,KK,U3,EC,oJ]
theorem aqU:(mix.j8 1 Dt):=by
 refine(mix.lX 1 Dt) (λ(h,t,n4,n7)=>8 - t.toNat) ?_
 rintro⟨h,t,m4,m7⟩ ⟨hl,k,hk,rfl⟩;have hl:m7.length=8:=hl;have e2:ab (k:Int)=k:=ak;have e3:ab ((k+1:Nat):Int)=k+1:=ak;by_cases jQ:k < 8
 ·left;have e1:bB .i64 (k:Int) 1=((k+1:Nat):Int):=by rw[iC ak ak];omega
  have hn:nth (.int .u32) m7 k=m7[k]:=cC (t:= .int .u32) ak;refine⟨(h,((k+1:Nat):Int),m4,m7.set k (bB .u32 m7[k] (nth (.int .u32) h k))),⟨by simpa using hl,k+1,ak,rfl⟩,by simp;omega,?_,λkn kx=> ?_⟩
  ·simp only[Du,MP,e2,e3];rw[Ip (λi x=>bB .u32 x (nth (.int .u32) h i)) m7 k ak]
  ·have d0:decide (k < 8)=aW:=aI jQ;have i0:ei (k:Int) 8=aW:=bo ak ak;rw[Rp,aU ak];simp only[e1,e2,gq,aH,bM,bA,ao,hl,d0,i0,hn]
 ·right;obtain rfl:k=8:=ak;intro R kn kx;rw[Rp,aT ak];simp only[au,Du,MP,e2];rw[Mk _ _ _ ak]
theorem aCW:mix.Ok:=by
 rintro⟨h,b⟩ ⟨⟨s,rfl⟩,hb⟩;have hs:N1 b:=hb;have ajS:(sched b).length=64:=by unfold sched;rw[zS,eY]
 have hp:U4 (s.l,0,ag 8 0,wl (sched b),Px,s.l):=⟨s,sched b,0,rfl,rfl,ajS,ak,rfl,rfl,rfl⟩;rw[aCV,aeR hs];simp only[ah,ati (d:=()) trivial,bm,Lo,bm,apf,alh hp,KK,U3,EC,oJ];have aDU:U6 (s.l,0,ag 8 0,(rounds (sched b) s 64).l):=⟨rfl,0,ak,rfl⟩;simp only[ali aDU,ah,Du,MP,bm,aoF,oJ];unfold PF;generalize rounds (sched b) s 64=v;obtain⟨a1,b1,c1,d1,f1,g1,h1,i1⟩:=v;simp only[St.l,from_,List.mapIdx_cons,List.mapIdx_nil,aS,rv,bz,aH,Nat.reduceAdd];simp only[nth,jB,qB,Ck]
theorem aoG:mix.RS:=rE [.d (.slice (.int .u32)),.d tB] mix
def aCX:=mix.fh aCW 2 ⟨.fD aqT,⟨.fD aqU,trivial⟩⟩
theorem sV(n:Int)(k:Int)(h0:0<=k)(h1:k<=64):dC .u8 (cl .i64 n k)=n / 2^k.toNat%256:=by
 rw[Pr,gh,cl];have e:min k.toNat IntKind.i64.bits=k.toNat:=by simp only[IntKind.bits];omega
 rw[e,kj _ (Int.le_of_lt (Int.pow_pos ak))];rfl
theorem CS{n:Nat}(h:n<=140737488355328):db n 1=aW:=cV ak ak
def Uh:Bs->Prop:=λb=>b.length<=140737488355328
def F0:Bs->(Nat×(List Int)):=λb=>(b.length,b)
def yR:Fs Tryz.prog Uh bm F0:=fg 79 Tryz.f79 (λsv=>([.d tB sv],[])) (λx=>⟨.dx (.new 0 0) 0 [] 0 0 x.1,[],[.obj 0 aQ (.vec 5 tb x.2)]⟩) [aw tB] [] {bD:=[5],owns:=[⟨2,[],5,26⟩]}
theorem apO(sv)(k:K1 R):yR.A sv k=aG (decide (0 < (ae sv))) (aG (db (0+(ae sv)) 1) (k (yR.out ((0+(ae sv)),((aP 0 (ag 0 0))++sv)))) aF) (nd (k (yR.out (0,([]:List Int)))) (aG (db (0+(ae sv)) 1) (k (yR.out ((0+(ae sv)),((aP 0 (ag 0 0))++sv)))) aF)):=cK
theorem apP:yR.Ok:=by
 intro b hb;have hr:db b.length 1=aW:=CS hb;rw[apO];have e0:(aP 0 (ag 0 0):List Int)=[]:=rfl;simp only[aH,hr,ao,e0,aO,bm,F0];by_cases h:0 < b.length
 ·simp only[aI h,ao]
 ·have:b=[]:=bP ak;subst this;simp only[bj,DH,aJ (iM 0),au]
theorem Kl:yR.RS:=rE [.d tB] yR
def O4:=yR.fh apP
def aqM:Int->Prop:=λ_=>True
def aoD:Int->(Nat×(List Int)):=λn=>(8,gV n)
def UX:Fs Tryz.prog aqM bm aoD:=fg 109 Tryz.f109 (λn=>([.cw,.d ti n],[])) (λx=>⟨.dx (.new 0 0) 0 [] 0 0 x.1,[],[.obj 0 aQ (.vec 5 tb x.2)]⟩) [aF,aw ti] [] {loops:=oN [(2,{aY:=[0,1,5],sites:=[16]})],outs:=oM [(2,{aY:=[0],sites:=[16]},{aY:=[4],sites:=[16]})],owns:=[⟨4,[],16,26⟩]} 12
theorem av6(n)(k:K1 R):UX.A n k=k (UX.out (8,[(dC .u8 (cl .i64 n 56)),(dC .u8 (cl .i64 n 48)),(dC .u8 (cl .i64 n 40)),(dC .u8 (cl .i64 n 32)),(dC .u8 (cl .i64 n 24)),(dC .u8 (cl .i64 n 16)),(dC .u8 (cl .i64 n 8)),(dC .u8 (cl .i64 n 0))])):=cK
theorem aj8(n:Int): [dC .u8 (cl .i64 n 56),dC .u8 (cl .i64 n 48),dC .u8 (cl .i64 n 40),dC .u8 (cl .i64 n 32),dC .u8 (cl .i64 n 24),dC .u8 (cl .i64 n 16),dC .u8 (cl .i64 n 8),dC .u8 (cl .i64 n 0)]=gV n:=by rw[sV n 56 ak ak,sV n 48 ak ak,sV n 40 ak ak,sV n 32 ak ak,sV n 24 ak ak,sV n 16 ak ak,sV n 8 ak ak,sV n 0 ak ak];simp[gV]
theorem av7:UX.Ok:=by intro n _;rw[av6,aj8];rfl
theorem aqN:UX.RS:=rE [.d ti] UX
def av8:=UX.aHI aq5 av7 1 ⟨.none cK,trivial⟩
def PA:(Nat×Int×Bs)->Prop:=λ(m,n,l)=>m=l.length/\l.length<=140737488355320
def TH:(Nat×Int×Bs)->(Nat×(List Int)):=λ(m,n,l)=>(l.length+8,l++gV n)
def Ri:Fs Tryz.prog PA bm TH:=fg 109 Tryz.f109 (λ(bL,n,o0)=>([.dx (.eC 0) 0 [] 0 0 bL,.d ti n],[.obj 0 aQ (.vec 5 tb o0)])) (λx=>⟨.dx (.eC 0) 8 [] 0 0 x.1,[.obj 8 aQ (.vec 5 tb x.2)],[]⟩) [aF,aw ti] [] {loops:=oN [(2,{aY:=[0,1,5],sites:=[16]})],outs:=oM [(2,{aY:=[0],sites:=[16]},{aY:=[4],sites:=[16]})]} 12
theorem av9(bL n o0)(k:K1 R):Ri.A (bL,n,o0) k=aG (decide (bL<=(ae o0))) (aG (db (bL+1) 1) (aG (decide ((bL+1)<=(ae ((aP bL o0)++ [(dC .u8 (cl .i64 n 56))])))) (aG (db ((bL+1)+1) 1) (aG (decide (((bL+1)+1)<=(ae ((aP (bL+1) ((aP bL o0)++ [(dC .u8 (cl .i64 n 56))]))++ [(dC .u8 (cl .i64 n 48))])))) (aG (db (((bL+1)+1)+1) 1) (aG (decide ((((bL+1)+1)+1)<=(ae ((aP ((bL+1)+1) ((aP (bL+1) ((aP bL o0)++ [(dC .u8 (cl .i64 n 56))]))++ [(dC .u8 (cl .i64 n 48))]))++ [(dC .u8 (cl .i64 n 40))])))) (aG (db ((((bL+1)+1)+1)+1) 1) (aG (decide (((((bL+1)+1)+1)+1)<=(ae ((aP (((bL+1)+1)+1) ((aP ((bL+1)+1) ((aP (bL+1) ((aP bL o0)++ [(dC .u8 (cl .i64 n 56))]))++ [(dC .u8 (cl .i64 n 48))]))++ [(dC .u8 (cl .i64 n 40))]))++ [(dC .u8 (cl .i64 n 32))])))) (aG (db (((((bL+1)+1)+1)+1)+1) 1) (aG (decide ((((((bL+1)+1)+1)+1)+1)<=(ae ((aP ((((bL+1)+1)+1)+1) ((aP (((bL+1)+1)+1) ((aP ((bL+1)+1) ((aP (bL+1) ((aP bL o0)++ [(dC .u8 (cl .i64 n 56))]))++ [(dC .u8 (cl .i64 n 48))]))++ [(dC .u8 (cl .i64 n 40))]))++ [(dC .u8 (cl .i64 n 32))]))++ [(dC .u8 (cl .i64 n 24))])))) (aG (db ((((((bL+1)+1)+1)+1)+1)+1) 1) (aG (decide (((((((bL+1)+1)+1)+1)+1)+1)<=(ae ((aP (((((bL+1)+1)+1)+1)+1) ((aP ((((bL+1)+1)+1)+1) ((aP (((bL+1)+1)+1) ((aP ((bL+1)+1) ((aP (bL+1) ((aP bL o0)++ [(dC .u8 (cl .i64 n 56))]))++ [(dC .u8 (cl .i64 n 48))]))++ [(dC .u8 (cl .i64 n 40))]))++ [(dC .u8 (cl .i64 n 32))]))++ [(dC .u8 (cl .i64 n 24))]))++ [(dC .u8 (cl .i64 n 16))])))) (aG (db (((((((bL+1)+1)+1)+1)+1)+1)+1) 1) (aG (decide ((((((((bL+1)+1)+1)+1)+1)+1)+1)<=(ae ((aP ((((((bL+1)+1)+1)+1)+1)+1) ((aP (((((bL+1)+1)+1)+1)+1) ((aP ((((bL+1)+1)+1)+1) ((aP (((bL+1)+1)+1) ((aP ((bL+1)+1) ((aP (bL+1) ((aP bL o0)++ [(dC .u8 (cl .i64 n 56))]))++ [(dC .u8 (cl .i64 n 48))]))++ [(dC .u8 (cl .i64 n 40))]))++ [(dC .u8 (cl .i64 n 32))]))++ [(dC .u8 (cl .i64 n 24))]))++ [(dC .u8 (cl .i64 n 16))]))++ [(dC .u8 (cl .i64 n 8))])))) (aG (db ((((((((bL+1)+1)+1)+1)+1)+1)+1)+1) 1) (k (Ri.out (((((((((bL+1)+1)+1)+1)+1)+1)+1)+1),((aP (((((((bL+1)+1)+1)+1)+1)+1)+1) ((aP ((((((bL+1)+1)+1)+1)+1)+1) ((aP (((((bL+1)+1)+1)+1)+1) ((aP ((((bL+1)+1)+1)+1) ((aP (((bL+1)+1)+1) ((aP ((bL+1)+1) ((aP (bL+1) ((aP bL o0)++ [(dC .u8 (cl .i64 n 56))]))++ [(dC .u8 (cl .i64 n 48))]))++ [(dC .u8 (cl .i64 n 40))]))++ [(dC .u8 (cl .i64 n 32))]))++ [(dC .u8 (cl .i64 n 24))]))++ [(dC .u8 (cl .i64 n 16))]))++ [(dC .u8 (cl .i64 n 8))]))++ [(dC .u8 (cl .i64 n 0))])))) aF) aF) aF) aF) aF) aF) aF) aF) aF) aF) aF) aF) aF) aF) aF) aF:=cK
theorem awa:Ri.Ok:=by rintro⟨m,n,l⟩ ⟨rfl,hl⟩;have hl:l.length<=140737488355320:=hl;rw[av9];simp only[az,bA,ao,bg,ai,aE,bj,aH];rw[CS ak,CS ak,CS ak,CS ak,CS ak,CS ak,CS ak,CS ak];simp only[ao,bm,TH,<-aj8,aC,mz,aO]
theorem aba:Ri.RS:=rE [.n,.d ti,.d tB] Ri
def agX:=Ri.aHI ate awa 1 ⟨.none cK,trivial⟩
abbrev Pk:=Bs×Nat×Bs×(List Int)
abbrev aa0:=Nat×(List Int)
def Ag:Pk->aa0->((Bs×Bs)×(Nat×(List Int))):=λ(fI,endL,n2,OO) y=>((fI,n2),y)
abbrev Pm:=Bs×Nat×Bs×(List Int)×(List Int)
def Ah:Pm->(List Int)->((Nat×Bs×(List Int))×((List Int))):=λ(xu,Ks,gD,n4,Vc) y=>((Ks,gD,Vc),y)
abbrev Po:=Bs×Bs×(List Int)
def Ai:Po->(List Int)->((Bs)×((List Int))):=λ(endv,kc,y5) y=>(kc,y)
abbrev aa1:=Int×Bs×(List Int)
def zc(n:Nat):Nat:=(120 - n%64)%64
def Q8:Pk->Prop:=λ(b,m,n2,l)=>m=l.length/\l.length+zc l.length<=140737488355328
def Ir:Pk->aa0:=λ(b,m,n2,l)=>(l.length+zc l.length,l++ag (zc l.length) 0)
def Q9:Pm->Prop:=λ(b,m,n2,h,l)=>∃s:St,h=s.l
def Is:Pm->(List Int):=λ(b,m,n2,h,l)=>(blocks (afb h) b).l
def Ra:Po->Prop:=λ(b,n2,h)=>b.length%64=0/\∃s:St,h=s.l
def It:Po->(List Int):=λ(b,n2,h)=>(blocks (afb h) b).l
def Ja(h:List Int)(i:Nat)(_:Int):Int:=dC .u8 (cl .u32 (nth (.int .u32) h (i / 4)) ((24 - 8*(i%4):Nat):Int))
def Rb:aa1->Prop:=λ(t,n2,h)=>n2.length=32/\h.length=8/\∃k:Nat,k<=32/\t=k
def Iu:aa1->Bs:=λ(t,n2,h)=>from_ (Ja h) t.toNat n2
def agE:Bs->Prop:=λb=>b.length<=140737488350000
def akJ:Bs->Bs:=λb=>aDk b
def xN:Ls Q8 Ag Ir:=oP (λ(fI,endL,n2,OO)=>⟨([.d tB fI,bK,dX 2,iw 14 endL]++a9 61 []),[],([[],[],cH (.d tH n2)]++bC 11 ([cH (.vec 5 tb OO)]++bC 50 []))⟩) (λx=>(.exit 0,⟨([.d tB x.1.1,bK,dX 2,iw 14 x.2.1]++a9 61 []),[],([[],[],cH (.d tH x.1.2)]++bC 11 ([cH (.vec 5 tb x.2.2)]++bC 50 []))⟩))
def xO:Ls Q9 Ah Is:=oP (λ(xu,Ks,gD,n4,Vc)=>⟨([.d tB xu,bK,dX 2,.dx (.new 14 0) 8 [] 0 0 Ks,dX 4]++a9 60 []),[],([[],[],cH (.d tH gD),[],cH (.d (.arr 8 (.int .u32)) n4)]++bC 9 ([[.obj 8 aQ (.vec 5 tb Vc)]]++bC 50 []))⟩) (λx=>(.exit 2,⟨([bK,bK,dX 2,.dx (.new 14 0) 8 [] 0 0 x.1.1,dX 4]++a9 60 []),[],([[],[],cH (.d tH x.1.2.1),[],cH (.d (.arr 8 (.int .u32)) x.2)]++bC 9 ([[.obj 8 aQ (.vec 5 tb x.1.2.2)]]++bC 50 []))⟩))
def xP:Ls Ra Ai It:=oP (λ(endv,kc,y5)=>⟨([bK,bK,dX 2,.d tB endv,dX 4]++a9 60 []),[],([[],[],cH (.d tH kc),[],cH (.d (.arr 8 (.int .u32)) y5)]++bC 60 [])⟩) (λx=>(.exit 4,⟨([bK,bK,dX 2,bK,dX 4]++a9 60 []),[],([[],[],cH (.d tH x.1),[],cH (.d (.arr 8 (.int .u32)) x.2)]++bC 60 [])⟩))
def xQ:Ls Rb bm Iu:=oP (λ(t48,KQ,MV)=>⟨([bK,bK,dX 2,bK,dX 4]++a9 43 ([.d ti t48]++a9 16 [])),[],([[],[],cH (.d tH KQ),[],cH (.d (.arr 8 (.int .u32)) MV)]++bC 60 [])⟩) (λx=>(.exit 6,⟨([bK,bK,dX 2]++a9 62 []),[],([[],[],cH (.d tH x)]++bC 62 [])⟩))
def Be:Fs Tryz.prog agE bm akJ:=fg 110 Tryz.f110 (λb=>([.d tB b],[])) (λx=>⟨.d tH x,[],[]⟩) [aw tB] [O4,agX,avh,aCX] {loops:=oN [(2,{aY:=[0,2,3],sites:=[2,14],owns:=[⟨3,[],14,26⟩]}),(6,{aY:=[0,2,3,4],sites:=[2,4,14]}),(9,{aY:=[2,3,4],sites:=[2,4],data:=[(3,tB)]}),(13,{aY:=[2,4,48],sites:=[2,4]})],outs:=oM [(2,{aY:=[0,2,3],sites:=[2,14]},{aY:=[2]}),(6,{aY:=[2,3,4],sites:=[2,4,14]},{aY:=[2]}),(9,{aY:=[2,4],sites:=[2,4]},{aY:=[2]}),(13,{aY:=[2],sites:=[2]},{aY:=[2]})],fE:=pX [(2,xN.E),(6,xO.E),(9,xP.E),(13,xQ.E)]}
theorem agA:xN.RS:=rL [.d tB,.n,.d tB,.d tB] xN
theorem Ms(fI endL n2 OO)(kn:K2 R)(kx:K3 R):Be.R 0 xN (fI,endL,n2,OO) kn kx=aG (Ak (gN ((endL:Nat):Int) 64) 56) (aG (decide (endL<=(ae OO))) (aG (db (endL+1) 1) (kn (xN.st (fI,(endL+1),n2,((aP endL OO)++ [0])))) aF) aF) (xN.go kx ((fI,n2),(endL,OO))):=cK
theorem agB:xO.RS:=rL [.d tB,.n,.d tB,.d (.slice (.int .u32)),.d tB] xO
theorem Mt(xu Ks gD n4 Vc)(kn:K2 R)(kx:K3 R):Be.R 1 xO (xu,Ks,gD,n4,Vc) kn kx=aG (B8 (xu.length:Int) 64) (aG (inc 64 (xu.length:Int)) (aj (mix.call (n4,(cut xu 0 64))) λx1=>aG (inc 64 (xu.length:Int)) (kn (xO.st ((cut xu 64 ((ae xu) - 64)),Ks,gD,x1,Vc))) aF) aF) (xO.go kx ((Ks,gD,Vc),n4)):=cK
theorem agC:xP.RS:=rL [.d tB,.d tB,.d (.slice (.int .u32))] xP
theorem Mu(endv kc y5)(kn:K2 R)(kx:K3 R):Be.R 2 xP (endv,kc,y5) kn kx=aG (xS (endv.length:Int) 0) (aG (inc 64 (endv.length:Int)) (aj (mix.call (y5,(cut endv 0 64))) λx1=>aG (inc 64 (endv.length:Int)) (kn (xP.st ((cut endv 64 ((ae endv) - 64)),kc,x1))) aF) aF) (xP.go kx (kc,y5)):=cK
theorem agD:xQ.RS:=rL [.d ti,.d tB,.d (.slice (.int .u32))] xQ
theorem Mv(t48 KQ MV)(kn:K2 R)(kx:K3 R):Be.R 3 xQ (t48,KQ,MV) kn kx=aG (fV t48 32) (aG (ei (qG .i64 t48 4) 8) (aG (decide ((ab (qG .i64 t48 4)) < (ae MV))) (aG (decide ((((ab (qG .i64 t48 4))*1)+0)=(0+((ab (qG .i64 t48 4))*1)))) (aG (mL (dD .i64 24 (eB .i64 8 (gN t48 4)))) (aG (ei t48 32) (aG (decide ((ab t48) < (ae KQ))) (aG (decide ((((ab t48)*1)+0)=(0+((ab t48)*1)))) (aG (decide ((ab t48) < (ae KQ))) (kn (xQ.st ((bB .i64 t48 1),(eE KQ (ab t48) (dC .u8 (cl .u32 (nth (.int .u32) MV (ab (qG .i64 t48 4))) (dD .i64 24 (eB .i64 8 (gN t48 4)))))),MV))) aF) aF) aF) aF) aF) aF) aF) aF) (xQ.go kx KQ):=cK
theorem azL(b)(k:K1 R):Be.A b k=aG (inc (dD .i64 (b.length:Int) (gN (b.length:Int) 64)) (b.length:Int)) (aj (yR.call (cut b (ab (dD .i64 (b.length:Int) (gN (b.length:Int) 64))) ((ae b) - (ab (dD .i64 (b.length:Int) (gN (b.length:Int) 64)))))) λx1=>aG (decide (x1.1<=(ae x1.2))) (aG (db (x1.1+1) 1) (aj (xN.call (b,(x1.1+1),(ag 32 0),((aP x1.1 x1.2)++ [128]))) λx2=>aj (Ri.call (x2.2.1,(eB .i64 8 (x2.1.1.length:Int)),x2.2.2)) λx3=>aj (first.call ()) λx4=>aj (xO.call (x2.1.1,x3.1,x2.1.2,x4,x3.2)) λx6=>aG (decide (0=0/\(0+x6.1.1)<=(ae x6.1.2.2))) (aj (xP.call ((cut x6.1.2.2 0 x6.1.1),x6.1.2.1,x6.2)) λx9=>aj (xQ.call (0,x9.1,x9.2)) λQN=>k (Be.out QN)) aF) aF) aF) aF:=cK
theorem akK:(Be.j8 0 xN):=by
 refine(Be.lX 0 xN) (λ(b,m,n2,l)=>zc l.length) ?_
 rintro⟨b,m,n2,l⟩ ⟨rfl,hl⟩;have hl:l.length+zc l.length<=140737488355328:=hl;have hr:gN ((l.length:Nat):Int) 64=((l.length%64:Nat):Int):=by unfold gN;rw[gX ak];omega
 by_cases h:l.length%64=56
 ·right;intro R kn kx;have hz:zc l.length=0:=by unfold zc;omega
  rw[Ms,hr,cZ ak];simp only[au,Ag,Ir,hz,bM,List.replicate_zero,bn]
 ·left;have hz:zc l.length=zc (l.length+1)+1:=by unfold zc;omega
  refine⟨(b,l.length+1,n2,l++ [0]),⟨by simp,by simp only[ai,aE,bj,aH];omega⟩,by simp only[ai,aE,bj,aH];omega,?_,λkn kx=> ?_⟩
  ·simp only[Ag,Ir,ai,aE,bj,aH,hz,aC,mz,aO,List.replicate_succ];rw[show l.length+1+zc (l.length+1)=l.length+(zc (l.length+1)+1) by omega]
  ·rw[Ms,hr,eR ak,CS ak];simp only[ao,az,bA,bt]
theorem akL:(Be.j8 1 xO):=by
 refine(Be.lX 1 xO) (λ(b,m,n2,h,l)=>b.length) ?_
 rintro⟨b,m,n2,h,l⟩ ⟨s,rfl⟩;by_cases hb:64<=b.length
 ·left;have e1:cut b 64 (b.length - 64)=b.drop 64:=by unfold cut;rw[bg (by simp)]
  have e2:cut b 0 64=b.take 64:=rfl;have hp:adH (s.l,b.take 64):=⟨⟨s,rfl⟩,by simp;omega⟩;refine⟨(b.drop 64,m,n2,(PF s (b.take 64)).l,l),⟨_,rfl⟩,by simp;omega,?_,λkn kx=> ?_⟩
  ·simp only[Ah,Is,oJ];rw[FW s b hb]
  ·rw[Mt,gf ak,tz ak ak,e1,e2];simp only[ao,aoG hp,ah,bm,aoF,oJ]
 ·right;intro R kn kx;rw[Mt,eH ak];simp only[au,Ah,Is,oJ];rw[C4 s b ak]
theorem akM:(Be.j8 2 xP):=by
 refine(Be.lX 2 xP) (λ(b,n2,h)=>b.length) ?_
 rintro⟨b,n2,h⟩ ⟨hm,s,rfl⟩;have hm:b.length%64=0:=hm;by_cases hb:0 < b.length
 ·left;have e1:cut b 64 (b.length - 64)=b.drop 64:=by unfold cut;rw[bg (by simp)]
  have e2:cut b 0 64=b.take 64:=rfl;have hp:adH (s.l,b.take 64):=⟨⟨s,rfl⟩,by simp;omega⟩;refine⟨(b.drop 64,n2,(PF s (b.take 64)).l),⟨by simp;omega,_,rfl⟩,by simp;omega,?_,λkn kx=> ?_⟩
  ·simp only[Ai,It,oJ];rw[FW s b ak]
  ·rw[Mu,dk ak,tz ak ak,e1,e2];simp only[ao,aoG hp,ah,bm,aoF,oJ]
 ·right;intro R kn kx;rw[Mu,cJ ak];simp only[au,Ai,It,oJ];rw[C4 s b ak]
theorem akN:(Be.j8 3 xQ):=by
 refine(Be.lX 3 xQ) (λ(t,n2,h)=>32 - t.toNat) ?_
 rintro⟨t,m,h⟩ ⟨hl,h8,k,hk,rfl⟩;have hl:m.length=32:=hl;have h8:h.length=8:=h8;have e2:ab (k:Int)=k:=ak;have e3:ab ((k+1:Nat):Int)=k+1:=ak;by_cases jQ:k < 32
 ·left;have e1:bB .i64 (k:Int) 1=((k+1:Nat):Int):=by rw[iC ak ak];omega
  have q4:qG .i64 (k:Int) 4=((k / 4:Nat):Int):=by
   have:(k:Int).tdiv 4=((k / 4:Nat):Int):=by rw[kk ak];omega
   unfold qG;rw[this,tx ak ak]
  have r4:gN (k:Int) 4=((k%4:Nat):Int):=by unfold gN;rw[gX ak];omega
  have s4:dD .i64 24 (eB .i64 8 ((k%4:Nat):Int))=((24 - 8*(k%4):Nat):Int):=by rw[wE ak ak,gY ak ak];omega
  have e4:ab ((k / 4:Nat):Int)=k / 4:=ak;refine⟨(((k+1:Nat):Int),m.set k (Ja h k m[k]),h),⟨by simpa using hl,h8,k+1,ak,rfl⟩,by simp;omega,?_,λkn kx=> ?_⟩
  ·simp only[bm,Iu,e2,e3];rw[Ip (Ja h) m k ak]
  ·have d0:decide (k < 32)=aW:=aI jQ;have d1:decide (k / 4 < 8)=aW:=aI ak;rw[Mv,aU ak,q4,r4,s4,bo ak ak,bo ak ak,s5 ak];simp only[e1,e2,e4,gq,aH,bM,bA,ao,hl,h8,d0,d1,Ja]
 ·right;obtain rfl:k=32:=ak;intro R kn kx;rw[Mv,aT ak];simp only[au,bm,Iu,e2];rw[Mk _ _ _ ak]
theorem ara(w:W):bk 8 (vw w)=w.setWidth 8:=by apply BitVec.eq_of_toNat_eq;rw[si,BitVec.toNat_setWidth];unfold vw;omega
theorem aCe(w:W)(k:Int):dC .u8 (cl .u32 (vw w) k)=vw ((w >>> k.toNat).setWidth 8):=by rw[F9,Pr,ara]
theorem aoP(s:St):from_ (Ja s.l) 0 (ag 32 0)=aAq s:=by rw[Uz];simp only[List.range_eq_range',List.range',bS,eX,Ja,Nat.reduceAdd,Nat.reduceDiv,Nat.reduceMod,Nat.reduceMul,Nat.reduceSub,n0,n1,n2,n3,n4,n5,n6,n7,aCe];rfl
theorem azM:Be.Ok:=by
 intro b hb;have hb:b.length<=140737488350000:=hb;have hr:gN ((b.length:Nat):Int) 64=((b.length%64:Nat):Int):=by unfold gN;rw[gX ak];omega
 have hs:dD .i64 ((b.length:Nat):Int) ((b.length%64:Nat):Int)=((b.length - b.length%64:Nat):Int):=by rw[gY ak ak];omega
 have hn:ab ((b.length - b.length%64:Nat):Int)=b.length - b.length%64:=ak;have hm:eB .i64 8 ((b.length:Nat):Int)=8*(b.length:Int):=wE ak ak;generalize hq:b.length - b.length%64=q at hs hn;have hc:cut b q (b.length - q)=b.drop q:=by unfold cut;rw[bg (by simp)]
 have atY:(b.drop q).length=b.length%64:=by simp;omega
 have p1:Uh (b.drop q):=by show(b.drop q).length<=_;omega
 rw[azL,hr,hs,tz ak ak,hn,hc];simp only[ao,Kl p1,ah,bm,F0,az,bA,bt];have p2:Q8 (b,(b.drop q).length+1,ag 32 0,b.drop q++ [128]):=by refine⟨by simp,?_⟩;simp only[ai,aE,bj,zc];omega
 have hz:zc (b.drop q++ [128]).length=za b.length:=by simp only[ai,aE,bj,zc,za];omega
 rw[CS ak];simp only[ao,agA p2,ah,Ag,Ir,hm,hz];have hlen:(b.drop q++ [128]).length+za b.length=(b.drop q++ [128]++ag (za b.length) 0).length:=by rw[@ai _ (b.drop q++ [128]),cO]
 have p3:PA ((b.drop q++ [128]).length+za b.length,8*(b.length:Int),b.drop q++ [128]++ag (za b.length) 0):=by refine⟨hlen,?_⟩;simp only[ai,aE,bj,cO,za];omega
 have p4:Q9 (b,(b.drop q++ [128]++ag (za b.length) 0).length+8,ag 32 0,sx.l,b.drop q++ [128]++ag (za b.length) 0++gV (8*(b.length:Int))):=⟨sx,rfl⟩;simp only[aba p3,ah,bm,TH,aqb (d:=()) trivial,bm,aom,agB p4,Ah,Is,oJ];generalize he:b.drop q++ [128]++ag (za b.length) 0++gV (8*(b.length:Int))=e;have IS:(b.drop q++ [128]++ag (za b.length) 0).length+8=e.length:=by rw[<-he,@ai _ _ (gV _),bT]
 have aDN:e.length%64=0:=by rw[<-IS];simp only[ai,aE,bj,cO,za,atY];omega
 have aCq:cut e 0 ((b.drop q++ [128]++ag (za b.length) 0).length+8)=e:=by rw[IS];unfold cut;rw[aM,bt]
 rw[aCq,IS,aI ⟨trivial,ak⟩];have p5:Ra (e,ag 32 0,(blocks sx b).l):=⟨aDN,blocks sx b,rfl⟩;have p6:Rb (0,ag 32 0,(blocks (blocks sx b) e).l):=⟨rfl,rfl,0,ak,rfl⟩;simp only[ao,agC p5,ah,Ai,It,oJ,agD p6,bm,Iu,bm,akJ];rw[show ab 0=0 from rfl,aoP];have aDJ:blocks sx (pad b)=blocks (blocks sx b) e:=by
  have h1:pad b=b.take q++e:=by rw[<-he];unfold pad;rw[aC,aC,<-aC (b.take q),dm];rfl
  have h2:blocks sx b=blocks (blocks sx (b.take q)) (b.drop q):=by rw[<-I7 _ _ _ (by simp;omega),dm]
  rw[h1,I7 _ _ _ (by simp;omega),h2,C4 _ (b.drop q) ak]
 rw[aDk,aDJ]
theorem avH:Be.RS:=rE [.d tB] Be
def azN:=Be.fh azM 4 ⟨.fD akK,⟨.fD akL,⟨.fD akM,⟨.fD akN,trivial⟩⟩⟩⟩
abbrev Pq:=Nat×(List Bs)×Int×Int×Bs×(List Int)
abbrev aa2:=Nat×(List Int)
def Aj:Pq->aa2->((Bs)×(Nat×(List Int))):=λ(bL,t13,t14,t15,n4,Jl) y=>(n4,y)
abbrev avI:=ByteArray×(List Bs)
def Rc:Pq->Prop:=λ(m,ps,n,i,n4,l)=>m=l.length/\n=ps.length/\ps.length<=140737488350000/\∃k:Nat,k<=ps.length/\i=k/\l.length+(oU (ps.drop k)).length<=140737488350000
def Iv:Pq->aa2:=λ(m,ps,n,i,n4,l)=>(l.length+(oU (ps.drop i.toNat)).length,l++oU (ps.drop i.toNat))
def Mx:avI->Prop:=λ(name,ps)=>(QC (bw name) ps).length<=140737488350000
def UH:avI->Bs:=λ(name,ps)=>tag (bw name) ps
def xR:Ls Rc Aj Iv:=oP (λ(bL,t13,t14,t15,n4,Jl)=>⟨(a9 4 ([dX 4,iw 10 bL]++a9 7 ([.d (.slice tB) t13,.d ti t14,.d ti t15]++a9 12 []))),[],(bC 4 ([cH (.d tH n4)]++bC 5 ([cH (.vec 5 tb Jl)]++bC 17 [])))⟩) (λx=>(.exit 0,⟨(a9 4 ([dX 4,iw 10 x.2.1]++a9 22 [])),[],(bC 4 ([cH (.d tH x.1)]++bC 5 ([cH (.vec 5 tb x.2.2)]++bC 17 [])))⟩))
def Pp:Fs Tryz.prog Mx bm UH:=fg 60 Tryz.f60 (λ(name,parts)=>([.d .str name,.d (.slice tB) parts],[])) (λx=>⟨.d tH x,[],[]⟩) [aw .str,aw (.slice tB)] [av8,agX,azN] {loops:=oN [(3,{aY:=[4,5,13,14,15],sites:=[4,10],owns:=[⟨5,[],10,26⟩]})],outs:=oM [(3,{aY:=[4,5],sites:=[4,10]},{aY:=[4]})],fE:=pX [(3,xR.E)]}
theorem agF:xR.RS:=rL [.n,.d (.slice tB),.d ti,.d ti,.d tB,.d tB] xR
theorem Mw(bL t13 t14 t15 n4 Jl)(kn:K2 R)(kx:K3 R):Pp.R 0 xR (bL,t13,t14,t15,n4,Jl) kn kx=aG (fV t15 t14) (aG (ei t15 (t13.length:Int)) (aj (Ri.call (bL,(((ae (nth tB t13 (ab t15))):Nat):Int),Jl)) λx1=>aG (decide (x1.1<=(ae x1.2))) (aG (db (x1.1+(ae (nth tB t13 (ab t15)))) 1) (kn (xR.st ((x1.1+(ae (nth tB t13 (ab t15)))),t13,t14,(bB .i64 t15 1),n4,((aP x1.1 x1.2)++(nth tB t13 (ab t15)))))) aF) aF) aF) (xR.go kx (n4,(bL,Jl))):=cK
theorem azO(name parts)(k:K1 R):Pp.A (name,parts) k=aj (UX.call (((ByteArray.size name):Nat):Int)) λx1=>aG (decide (x1.1<=(ae x1.2))) (aG (db (x1.1+(ae (bw name))) 1) (aj (xR.call ((x1.1+(ae (bw name))),parts,(parts.length:Int),0,(ag 32 0),((aP x1.1 x1.2)++(bw name)))) λx4=>aG (decide (0=0/\(0+x4.2.1)<=(ae x4.2.2))) (aj (Be.call (cut x4.2.2 0 x4.2.1)) λx5=>k (Pp.out x5)) aF) aF) aF:=cK
theorem ace(p:List Int)(ps:List (List Int)):oU (p::ps)=gV p.length++p++oU ps:=by simp[oU]
theorem acf(ps:List (List Int))(k:Nat)(h:k < ps.length):oU (ps.drop k)=gV ps[k].length++ps[k]++oU (ps.drop (k+1)):=by rw[aq h,ace]
theorem akO:(Pp.j8 0 xR):=by
 refine(Pp.lX 0 xR) (λ(m,ps,n,i,n4,l)=>ps.length - i.toNat) ?_
 rintro⟨m,ps,n,i,n4,l⟩ ⟨rfl,rfl,Jg,k,hk,rfl,hl⟩;have hl:l.length+(oU (ps.drop k)).length<=140737488350000:=hl;have hk:k<=ps.length:=hk;have e2:ab (k:Int)=k:=ak;have e3:ab ((k+1:Nat):Int)=k+1:=ak;by_cases h:k < ps.length
 ·left;have ht:=acf ps k h;have hlen:(oU (ps.drop k)).length=8+ps[k].length+(oU (ps.drop (k+1))).length:=by rw[ht];simp only[ai,bT]
  have hn:nth (.slice (.int .u8)) ps k=ps[k]:=cC (t:= .slice (.int .u8)) h;have Jg:ps.length<=140737488350000:=Jg;have e1:bB .i64 (k:Int) 1=((k+1:Nat):Int):=by rw[iC ak ak];omega
  refine⟨((l++gV ps[k].length++ps[k]).length,ps,(ps.length:Int),((k+1:Nat):Int),n4,l++gV ps[k].length++ps[k]),⟨rfl,rfl,Jg,k+1,by show k+1<=ps.length;omega,rfl,?_⟩,?_,?_,λkn kx=> ?_⟩
  ·show(l++gV ps[k].length++ps[k]).length+(oU (ps.drop (k+1))).length<=_;simp only[ai,bT];omega
  ·show ps.length - ab ((k+1:Nat):Int) < ps.length - ab (k:Int);omega
  ·simp only[Aj,Iv,e2,e3,ht,aC];simp only[ai,bT,dz]
  ·have p1:PA (l.length,(ps[k].length:Int),l):=⟨rfl,by show l.length<=_;omega⟩;rw[Mw,aU ak,bo ak ak,e1,e2];simp only[ao,hn,aba p1,ah,bm,TH];have aqt:(l++gV ps[k].length).length=l.length+8:=by simp[bT]
   rw[aqt,aI (az _),CS ak];simp only[ao];rw[bg (by rw[aqt];omega)];simp only[ai,bT,dz]
 ·right;obtain rfl:k=ps.length:=ak;intro R kn kx;rw[Mw,aT ak];simp only[au,Aj,Iv,e2,aN];simp[oU]
theorem XN:∀ps:List (List Int),8*ps.length<=(oU ps).length
 |[]=>by simp[oU]
 |p::ps=>by rw[ace];have:=XN ps;simp only[ai,bT,aE];omega
theorem lz(s:ByteArray):(bw s).length=s.size:=by simp only[bw,bR,cG];rfl
theorem azP:Pp.Ok:=by
 rintro⟨name,ps⟩ hp;have hp:(gV (bw name).length++bw name++oU ps).length<=140737488350000:=hp;have hl:(gV (bw name).length++bw name++oU ps).length=8+(bw name).length+(oU ps).length:=by simp only[ai,bT]
 have Jg:=XN ps;have pd:((name.size:Nat):Int)=(((bw name).length:Nat):Int):=by rw[lz]
 rw[azO,aqN (d:=((name.size:Nat):Int)) trivial,pd];simp only[ah,bm,aoD,bT,az,bA,ao];rw[CS ak,bg (by rw[bT];omega)];have p2:Rc (8+(bw name).length,ps,(ps.length:Int),0,ag 32 0,gV ((bw name).length:Int)++bw name):=by refine⟨by simp only[ai,bT],rfl,by show ps.length<=_;omega,0,aL _,rfl,?_⟩;rw[aM];simp only[ai,bT];omega
 simp only[ao,agF p2,ah,Aj,Iv,aS,aM];have aqq:cut (gV ((bw name).length:Int)++bw name++oU ps) 0 ((gV ((bw name).length:Int)++bw name).length+(oU ps).length)=QC (bw name) ps:=by unfold cut;rw[aM,bg (by simp only[ai];omega)];rfl
 have p3:agE (QC (bw name) ps):=hp;rw[aI ⟨trivial,by simp only[ai];omega⟩,aqq];simp only[ao,avH p3,ah,bm,akJ,bm,UH,tag]
theorem My:Pp.RS:=rE [.d .str,.d (.slice tB)] Pp
def Tw:=Pp.fh azP 1 ⟨.fD akO,trivial⟩
def ab1:(Int×Int)->Prop:=λ(x,n)=>0<=x/\x < 4294967296/\0<=n/\n<=32
def aAT:(Int×Int)->Int:=λ(x,n)=>vw (vA (bk 32 x) n.toNat)
def pB:Fs Tryz.prog ab1 bm aAT:=fg 159 Tryz.f159 (λ(x,n)=>([.d (.int .u32) x,.d ti n],[])) (λx=>⟨.d (.int .u32) x,[],[]⟩) [aw (.int .u32),aw ti]
theorem axW(x n)(k:K1 R):pB.A (x,n) k=aG (mL n) (aG (mL (dD .i64 32 n)) (k (pB.out (cF .or .u32 (cl .u32 x n) (mH .u32 x (dD .i64 32 n))))) aF) aF:=cK
theorem axX:pB.Ok:=by
 rintro⟨x,n⟩ ⟨h1,h2,h3,h4⟩;obtain⟨n,rfl⟩:=Int.eq_ofNat_of_zero_le h3;have hx:x=vw (bk 32 x):=by rw[gh];have h1:0<=x:=h1;have h2:x < 4294967296:=h2;omega
 have h4:(n:Int)<=32:=h4;rw[axW];simp(disch:=omega) only[↓S1,↓if_pos,↓if_neg,if_pos,if_neg,bN,bz,S2];have e2:cF .or .u32 (cl .u32 x (n:Int)) (mH .u32 x ((32 - n:Nat):Int))=vw (vA (bk 32 x) n):=by
  conv=>lhs;rw[hx]
  rw[MF,F9,pR];simp only[vA,aa];rw[BitVec.or_comm]
 rw[e2];rfl
theorem asS:pB.RS:=rE [.d (.int .u32),.d ti] pB
def aiK:=pB.fh axX
theorem zB(w:W){k:Int}(h:0<=k/\k<=32):pB.call (vw w,k)=aw (vw (vA w k.toNat)):=by have h:ab1 (vw w,k):=⟨QL w,by have:=ayK w;simpa using this,h.1,h.2⟩;rw[asS h];show aw (vw (vA (bk 32 (vw w)) k.toNat))=_;rw[tI]
def aiz:Unit->Prop:=λ_=>True
def abR:Unit->(List Int):=λ_=>sx.l
def Ef:Fs Tryz.prog aiz bm abR:=fg 140 Tryz.f140 (λ_=>([],[])) (λx=>⟨.d (.slice (.int .u32)) x,[],[]⟩) [] [] {bD:=[1],res:=[aw (.slice (.int .u32))]}
theorem amW(d)(k:K1 R):Ef.A d k=k (Ef.out [1779033703,3144134277,1013904242,2773480762,1359893119,2600822924,528734635,1541459225]):=cK
theorem amX:Ef.Ok:=by intro d _;rw[amW];rfl
theorem aiA:Ef.RS:=rE [] Ef
def amY:=Ef.fh amX
def asv:Unit->Prop:=λ_=>True
def ao3:Unit->(List Int):=λ_=>Px
def WY:Fs Tryz.prog asv bm ao3:=fg 158 Tryz.f158 (λ_=>([],[])) (λx=>⟨.d (.slice (.int .u32)) x,[],[]⟩) [] [] {bD:=[1],res:=[aw (.slice (.int .u32))]}
theorem axp(d)(k:K1 R):WY.A d k=k (WY.out [1116352408,1899447441,3049323471,3921009573,961987163,1508970993,2453635748,2870763221,3624381080,310598401,607225278,1426881987,1925078388,2162078206,2614888103,3248222580,3835390401,4022224774,264347078,604807628,770255983,1249150122,1555081692,1996064986,2554220882,2821834349,2952996808,3210313671,3336571891,3584528711,113926993,338241895,666307205,773529912,1294757372,1396182291,1695183700,1986661051,2177026350,2456956037,2730485921,2820302411,3259730800,3345764771,3516065817,3600352804,4094571909,275423344,430227734,506948616,659060556,883997877,958139571,1322822218,1537002063,1747873779,1955562222,2024104815,2227730452,2361852424,2428436474,2756734187,3204031479,3329325298]):=cK
theorem axq:WY.Ok:=by intro d _;rw[axp];rfl
theorem asw:WY.RS:=rE [] WY
def axr:=WY.fh axq
abbrev Eh:=Bs×Nat×(List Int)
abbrev NS:=Nat×(List Int)
def uz:Eh->NS->((Bs)×(Nat×(List Int))):=λ(fI,outL,n6) y=>(fI,y)
abbrev NT:=Nat×Int×Int×(List Int)
def Hr:Eh->Prop:=λ(b,m,l)=>m=l.length/\l.length+zc l.length<=140737488355328
def yp:Eh->NS:=λ(b,m,l)=>(l.length+zc l.length,l++ag (zc l.length) 0)
def Hs:NT->Prop:=λ(m,n,kv,l)=>0<=n/\n < 18446744073709551616/\∃j:Nat,j<=8/\kv=56 - 8*(j:Int)/\m=l.length/\l.length<=140737488355320+j
def yq:NT->(Nat×(List Int)):=λ(m,n,kv,l)=>(l.length+(gV n).length - (7 - (kv / 8)).toNat,l++(gV n).drop (7 - (kv / 8)).toNat)
def R9:Bs->Prop:=λb=>b.length<=140737488350000
def Qj:Bs->Bs:=λb=>pad b
def nN:Ls Hr uz yp:=oP (λ(fI,outL,n6)=>⟨([.d tB fI,bK,bK,iw 6 outL]++a9 31 []),[],(bC 6 ([cH (.vec 5 tb n6)]++bC 28 []))⟩) (λx=>(.exit 0,⟨([.d tB x.1,bK,bK,iw 6 x.2.1]++a9 31 []),[],(bC 6 ([cH (.vec 5 tb x.2.2)]++bC 28 []))⟩))
def nO:Ls Hs bm yq:=oP (λ(Gr,n,kv,aqZ)=>⟨([bK,bK,bK,iw 6 Gr,.d tu n,.d ti kv]++a9 29 []),[],(bC 6 ([cH (.vec 5 tb aqZ)]++bC 28 []))⟩) (λx=>(.exit 2,⟨([bK,bK,bK,iw 6 x.1]++a9 31 []),[],(bC 6 ([cH (.vec 5 tb x.2)]++bC 28 []))⟩))
def qn:Fs Tryz.prog R9 bm Qj:=fg 139 Tryz.f139 (λb=>([.d tB b],[])) (λx=>⟨.d tB x,[],[]⟩) [aw tB] [] {bD:=[6],loops:=oN [(3,{aY:=[0,3],sites:=[6],owns:=[⟨3,[],6,26⟩]}),(7,{aY:=[3,4,5],sites:=[6],owns:=[⟨3,[],6,26⟩]})],outs:=oM [(3,{aY:=[0,3],sites:=[6]},{aY:=[2]}),(7,{aY:=[3],sites:=[6]},{aY:=[2]})],fE:=pX [(3,nN.E),(7,nO.E)],res:=[aw tB]}
theorem Xl:nN.RS:=rL [.d tB,.n,.d tB] nN
theorem Fh(fI outL n6)(kn:K2 R)(kx:K3 R):qn.R 0 nN (fI,outL,n6) kn kx=aG (Ak (gN ((outL:Nat):Int) 64) 56) (aG (decide (outL<=(ae n6))) (aG (db (outL+1) 1) (kn (nN.st (fI,(outL+1),((aP outL n6)++ [0])))) aF) aF) (nN.go kx (fI,(outL,n6))):=cK
theorem Xm:nO.RS:=rL [.n,.d tu,.d ti,.d tB] nO
theorem Fi(Gr n kv aqZ)(kn:K2 R)(kx:K3 R):qn.R 1 nO (Gr,n,kv,aqZ) kn kx=aG (B8 kv 0) (aG (mL kv) (aG (decide (Gr<=(ae aqZ))) (aG (db (Gr+1) 1) (kn (nO.st ((Gr+1),n,(dD .i64 kv 8),((aP Gr aqZ)++ [(dC .u8 (cl .u64 n kv))])))) aF) aF) aF) (nO.go kx (Gr,aqZ)):=cK
theorem am3(b)(k:K1 R):qn.A b k=aG (db (0+(ae b)) 1) (aG (decide ((0+(ae b))<=(ae ((aP 0 (ag 0 0))++b)))) (aG (db ((0+(ae b))+1) 1) (aj (nN.call (b,((0+(ae b))+1),((aP (0+(ae b)) ((aP 0 (ag 0 0))++b))++ [128]))) λx1=>aj (nO.call (x1.2.1,(eB .u64 8 (dC .u64 (x1.1.length:Int))),56,x1.2.2)) λx2=>aG (decide (0=0/\(0+x2.1)<=(ae x2.2))) (k (qn.out (cut x2.2 0 x2.1))) aF) aF) aF) aF:=cK
theorem Z0:(qn.j8 0 nN):=by
 refine(qn.lX 0 nN) (λ(b,m,l)=>zc l.length) ?_
 rintro⟨b,m,l⟩ ⟨rfl,hl⟩;have hl:l.length+zc l.length<=140737488355328:=hl;by_cases h:l.length%64=56
 ·right;intro R kn kx;have hz:zc l.length=0:=by unfold zc;omega
  rw[Fh];simp(disch:=omega) only[↓S1,↓if_pos,↓if_neg,if_pos,if_neg,bN,bz,S2,uz,yp,hz,bM,List.replicate_zero,bn]
 ·left;have hz:zc l.length=zc (l.length+1)+1:=by unfold zc;omega
  refine⟨(b,l.length+1,l++ [0]),⟨by simp,by simp only[ai,aE,bj,aH];omega⟩,by simp only[ai,aE,bj,aH];omega,?_,λkn kx=> ?_⟩
  ·simp only[uz,yp,ai,aE,bj,aH,hz,aC,mz,aO,List.replicate_succ];rw[show l.length+1+zc (l.length+1)=l.length+(zc (l.length+1)+1) by omega]
  ·rw[Fh];simp(disch:=omega) only[↓S1,↓if_pos,↓if_neg,if_pos,if_neg,bN,bz,S2,bt]
theorem afR(n:Int)(j:Nat)(h:j < 8):(gV n).drop j=n / 2^(56 - 8*j)%256::(gV n).drop (j+1):=by rcases(by omega:j=0\/j=1\/j=2\/j=3\/j=4\/j=5\/j=6\/j=7) with rfl | rfl | rfl | rfl | rfl | rfl | rfl | rfl <;> simp[gV]
theorem YC(n:Int)(k:Nat)(h1:k<=64):dC .u8 (cl .u64 n (k:Int))=n / 2^k%256:=by
 rw[Pr,gh,cl];have e:min (k:Int).toNat IntKind.u64.bits=k:=by simp only[IntKind.bits];omega
 rw[e,kj _ (Int.le_of_lt (Int.pow_pos ak))];rfl
theorem Z1:(qn.j8 1 nO):=by
 refine(qn.lX 1 nO) (λ(m,n,kv,l)=>(kv+8).toNat) ?_
 rintro⟨m,n,kv,l⟩ ⟨h1,h2,j,hj,rfl,rfl,hl⟩;have hl:l.length<=140737488355320+j:=hl;have e1:(7 - ((56 - 8*(j:Int)) / 8)).toNat=j:=ak;by_cases h:j < 8
 ·left;have e2:dD .i64 (56 - 8*(j:Int)) 8=56 - 8*((j+1:Nat):Int):=by rw[gY ak ak];omega
  have e3:(7 - ((56 - 8*((j+1:Nat):Int)) / 8)).toNat=j+1:=ak;have e4:(56 - 8*(j:Int))=((56 - 8*j:Nat):Int):=ak;refine⟨(l.length+1,n,56 - 8*((j+1:Nat):Int),l++ [n / 2^(56 - 8*j)%256]),⟨h1,h2,j+1,ak,rfl,by simp,by simp only[ai,aE,bj];omega⟩,by simp only;omega,?_,λkn kx=> ?_⟩
  ·simp only[bm,yq,e1,e3,afR n j h,ai,aE,bj,aC,mz,aO,bT];rw[show l.length+(0+1)+8 - (j+1)=l.length+8 - j by omega]
  ·rw[Fi,e2,e4,YC n _ ak];simp(disch:=omega) only[↓S1,↓if_pos,↓if_neg,if_pos,if_neg,bN,bz,S2,bt]
 ·right;obtain rfl:j=8:=ak;intro R kn kx;rw[Fi];simp(disch:=omega) only[↓S1,↓if_pos,↓if_neg,if_pos,if_neg,bN,bz,S2,bm,yq,e1];simp[gV]
theorem am4:qn.Ok:=by
 intro b hb;have hb:b.length<=140737488350000:=hb;have hz:zc (b++ [128]).length=za b.length:=by simp only[ai,aE,bj,zc,za];omega
 have aLq:za b.length < 64:=by unfold za;omega
 have p1:Hr (b,b.length+1,b++ [128]):=⟨by simp,by rw[hz];simp only[ai,aE,bj] <;> omega⟩;have e1:dC .u64 ((b.length:Nat):Int)=((b.length:Nat):Int):=by rw[Mz,gh];omega
 have e2:eB .u64 8 ((b.length:Nat):Int)=8*(b.length:Int):=by unfold eB;rw[wrap_u64,gh];omega
 have e3:aP b.length b=b:=bt;rw[am3];simp only[List.replicate_zero,List.take_nil,aO,aH,e1,e2,e3];simp(disch:=omega) only[↓S1,↓if_pos,↓if_neg,if_pos,if_neg,bN,bz,S2,Xl p1,uz,yp,hz];have p2:Hs ((b++ [128]).length+za b.length,8*(b.length:Int),56,b++ [128]++ag (za b.length) 0):=by refine⟨ak,ak,0,ak,rfl,by simp only[ai,aE,bj,cO] <;> omega,?_⟩;simp only[ai,aE,bj,cO];omega
 simp(disch:=omega) only[↓S1,↓if_pos,↓if_neg,if_pos,if_neg,bN,bz,S2,e1,e2,Xm p2,bm,yq];have e5:(7 - ((56:Int) / 8)).toNat=0:=gw;rw[e5,aM];have e6:(b++ [128]++ag (za b.length) 0).length+(gV (8*(b.length:Int))).length - 0=(b++ [128]++ag (za b.length) 0++gV (8*(b.length:Int))).length:=by rw[@ai _ _ (gV _)];omega
 rw[e6,if_pos (az _)];unfold cut;rw[aM,bt];simp only[bm,Qj,pad,aC,mz,aO]
theorem aiF:qn.RS:=rE [.d tB] qn
def am5:=qn.fh am4 2 ⟨.fD Z0,⟨.fD Z1,trivial⟩⟩
abbrev Sd:=Bs×Nat×Int×(List Int)
abbrev Se:=Nat×Int×(List Int)
def JU:Sd->Prop:=λ(b,m,i,l)=>64<=b.length/\∃k:Nat,k<=16/\i=k/\k=m/\l=wl ((words b).take k)
def Hv:Sd->(Nat×(List Int)):=λ(b,m,i,l)=>(16,wl (words b))
def JV:Se->Prop:=λ(m,i,l)=>∃ws:List W,16<=ws.length/\ws.length<=64/\l=wl ws/\m=ws.length/\i=(ws.length:Nat)
def AW:Se->(Nat×(List Int)):=λ(m,i,l)=>(64,wl (ayX (ayI l) (64 - l.length)))
def Xs:Bs->Prop:=λb=>64<=b.length
def Xr:Bs->(List Int):=λb=>wl (sched b)
def qo:Ls JU bm Hv:=oP (λ(fI,wL,i,IC)=>⟨([.d tB fI,bK,bK,iw 49 wL,.d ti i]++a9 94 []),[],(bC 49 ([cH (.vec 143 (.int .u32) IC)]++bC 49 []))⟩) (λx=>(.exit 0,⟨([bK,bK,bK,iw 49 x.1]++a9 95 []),[],(bC 49 ([cH (.vec 143 (.int .u32) x.2)]++bC 49 []))⟩))
def qp:Ls JV bm AW:=oP (λ(Tl,eI,uV)=>⟨([bK,bK,bK,iw 49 Tl,bK,.d ti eI]++a9 93 []),[],(bC 49 ([cH (.vec 143 (.int .u32) uV)]++bC 49 []))⟩) (λx=>(.exit 2,⟨([bK,bK,bK,iw 49 x.1]++a9 95 []),[],(bC 49 ([cH (.vec 143 (.int .u32) x.2)]++bC 49 []))⟩))
def vB:Fs Tryz.prog Xs bm Xr:=fg 157 Tryz.f157 (λb=>([.d tB b],[])) (λx=>⟨.d (.slice (.int .u32)) x,[],[]⟩) [aw tB] [aiK] {loops:=oN [(3,{aY:=[0,3,4],sites:=[49],owns:=[⟨3,[],49,149⟩]}),(7,{aY:=[3,5],sites:=[49],owns:=[⟨3,[],49,149⟩]})],outs:=oM [(3,{aY:=[3],sites:=[49]},{aY:=[2]}),(7,{aY:=[3],sites:=[49]},{aY:=[2]})],fE:=pX [(3,qo.E),(7,qp.E)],res:=[aw (.slice (.int .u32))]}
theorem Z2:qo.RS:=rL [.d tB,.n,.d ti,.d (.slice (.int .u32))] qo
theorem Hw(fI wL i IC)(kn:K2 R)(kx:K3 R):vB.R 0 qo (fI,wL,i,IC) kn kx=aG (fV i 16) (aG (ei (eB .i64 4 i) (fI.length:Int)) (aG (ei (bB .i64 (eB .i64 4 i) 1) (fI.length:Int)) (aG (ei (bB .i64 (eB .i64 4 i) 2) (fI.length:Int)) (aG (ei (bB .i64 (eB .i64 4 i) 3) (fI.length:Int)) (aG (decide (wL<=(ae IC))) (aG (db (wL+1) 4) (kn (qo.st (fI,(wL+1),(bB .i64 i 1),((aP wL IC)++ [(cF .or .u32 (cF .or .u32 (cF .or .u32 (mH .u32 (dC .u32 (nth tb fI (ab (eB .i64 4 i)))) 24) (mH .u32 (dC .u32 (nth tb fI (ab (bB .i64 (eB .i64 4 i) 1)))) 16)) (mH .u32 (dC .u32 (nth tb fI (ab (bB .i64 (eB .i64 4 i) 2)))) 8)) (dC .u32 (nth tb fI (ab (bB .i64 (eB .i64 4 i) 3)))))])))) aF) aF) aF) aF) aF) aF) (qo.go kx (wL,IC)):=cK
theorem Z3:qp.RS:=rL [.n,.d ti,.d (.slice (.int .u32))] qp
theorem Hx(Tl eI uV)(kn:K2 R)(kx:K3 R):vB.R 1 qp (Tl,eI,uV) kn kx=aG (fV eI 64) (aG (ei (dD .i64 eI 15) ((Tl:Nat):Int)) (aG (decide ((0+(ab (dD .i64 eI 15))) < (ae uV))) (aG (decide ((((0+(ab (dD .i64 eI 15)))*1)+0)=(0+((ab (dD .i64 eI 15))*1)))) (aG (ei (dD .i64 eI 2) ((Tl:Nat):Int)) (aG (decide ((0+(ab (dD .i64 eI 2))) < (ae uV))) (aG (decide ((((0+(ab (dD .i64 eI 2)))*1)+0)=(0+((ab (dD .i64 eI 2))*1)))) (aj (pB.call ((nth (.int .u32) uV (0+(ab (dD .i64 eI 15)))),7)) λx1=>aj (pB.call ((nth (.int .u32) uV (0+(ab (dD .i64 eI 15)))),18)) λx2=>aj (pB.call ((nth (.int .u32) uV (0+(ab (dD .i64 eI 2)))),17)) λx3=>aj (pB.call ((nth (.int .u32) uV (0+(ab (dD .i64 eI 2)))),19)) λx4=>aG (ei (dD .i64 eI 16) ((Tl:Nat):Int)) (aG (decide ((0+(ab (dD .i64 eI 16))) < (ae uV))) (aG (decide ((((0+(ab (dD .i64 eI 16)))*1)+0)=(0+((ab (dD .i64 eI 16))*1)))) (aG (ei (dD .i64 eI 7) ((Tl:Nat):Int)) (aG (decide ((0+(ab (dD .i64 eI 7))) < (ae uV))) (aG (decide ((((0+(ab (dD .i64 eI 7)))*1)+0)=(0+((ab (dD .i64 eI 7))*1)))) (aG (decide (Tl<=(ae uV))) (aG (db (Tl+1) 4) (kn (qp.st ((Tl+1),(bB .i64 eI 1),((aP Tl uV)++ [(bB .u32 (bB .u32 (bB .u32 (nth (.int .u32) uV (0+(ab (dD .i64 eI 16)))) (cF .xor .u32 (cF .xor .u32 x1 x2) (cl .u32 (nth (.int .u32) uV (0+(ab (dD .i64 eI 15)))) 3))) (nth (.int .u32) uV (0+(ab (dD .i64 eI 7))))) (cF .xor .u32 (cF .xor .u32 x3 x4) (cl .u32 (nth (.int .u32) uV (0+(ab (dD .i64 eI 2)))) 10)))])))) aF) aF) aF) aF) aF) aF) aF) aF) aF) aF) aF) aF) aF) aF) (qp.go kx (Tl,uV)):=cK
theorem asV(b)(k:K1 R):vB.A b k=aj (qo.call (b,0,0,([]:List Int))) λx1=>aj (qp.call (x1.1,16,x1.2)) λQN=>aG (decide (0=0/\(0+QN.1)<=(ae QN.2))) (k (vB.out (cut QN.2 0 QN.1))) aF:=cK
theorem yM(ws:List W):(wl ws).length=ws.length:=by simp[wl]
theorem apn(m:List W):∀n,ayX (ext m) n=ayX m (n+1)
 | 0=>rfl
 |n+1=>by rw[ayX,apn m n];rfl
theorem aB8(b:List Int)(k:Nat)(h:4*k+3 < b.length):be b k=aEo (nth (.int .u8) b (4*k)) (nth (.int .u8) b (4*k+1)) (nth (.int .u8) b (4*k+2)) (nth (.int .u8) b (4*k+3)):=rfl
theorem aeP:(vB.j8 0 qo):=by
 refine(vB.lX 0 qo) (λ(b,m,i,l)=>16 - m) ?_
 rintro⟨b,m,i,l⟩ ⟨hb,k,hk,rfl,rfl,rfl⟩;have hb:64<=b.length:=hb;have hl:(wl ((words b).take k)).length=k:=by rw[yM,ct,eY];omega
 by_cases h:k < 16
 ·left;refine⟨(b,k+1,((k+1:Nat):Int),wl ((words b).take (k+1))),⟨hb,k+1,ak,rfl,rfl,rfl⟩,by simp only;omega,rfl,λkn kx=> ?_⟩;rw[Hw];simp(disch:=omega) only[↓S1,↓if_pos,↓if_neg,if_pos,if_neg,bN,bz,S2,hl,bg (Nat.le_of_eq hl)];rw[dV (by rw[eY];exact h)];simp only[aox,MF,pR,wl,List.map_append,bS,eX];have e:(words b)[k]'(by rw[eY];exact h)=be b k:=by simp[words]
  rw[e,aB8 b k ak];rfl
 ·right;obtain rfl:k=16:=ak;intro R kn kx;rw[Hw];simp(disch:=omega) only[↓S1,↓if_pos,↓if_neg,if_pos,if_neg,bN,bz,S2,bm,Hv];rw[bg (by rw[eY];omega)]
theorem aeQ:(vB.j8 1 qp):=by
 refine(vB.lX 1 qp) (λ(m,i,l)=>64 - m) ?_
 rintro⟨m,i,l⟩ ⟨ws,h1,h2,rfl,rfl,rfl⟩;have hl:=yM ws;by_cases h:ws.length < 64
 ·left;refine⟨(ws.length+1,((ws.length+1:Nat):Int),wl (ext ws)),⟨ext ws,by rw[u7];omega,by rw[u7];omega,rfl,by rw[u7],by rw[u7]⟩,by simp only;omega,?_,λkn kx=> ?_⟩
  ·simp only[bm,AW,EC,yM,u7];rw[apn,show 64 - (ws.length+1)+1=64 - ws.length by omega]
  ·rw[Hx];simp(disch:=omega) only[↓S1,↓if_pos,↓if_neg,if_pos,if_neg,bN,bz,S2,hl,aH,gq,bM,QM ws _ (by omega:ws.length - 15 < ws.length),QM ws _ (by omega:ws.length - 2 < ws.length),QM ws _ (by omega:ws.length - 16 < ws.length),QM ws _ (by omega:ws.length - 7 < ws.length),zB,pR,F9,Ck,bg (Nat.le_of_eq hl)];unfold ext wl;rw[List.map_append];rfl
 ·right;have yU:ws.length=64:=ak;intro R kn kx;rw[Hx];simp(disch:=omega) only[↓S1,↓if_pos,↓if_neg,if_pos,if_neg,bN,bz,S2,bm,AW,hl,yU,EC,Nat.sub_self];rfl
theorem asW:vB.Ok:=by
 intro b hb;have p1:JU (b,0,0,[]):=⟨hb,0,ak,rfl,rfl,rfl⟩;have p2:JV (16,16,wl (words b)):=⟨words b,by rw[eY];omega,by rw[eY];omega,rfl,by rw[eY],by rw[eY];rfl⟩;have hs:(sched b).length=64:=by unfold sched;rw[zS,eY]
 rw[asV];simp(disch:=omega) only[↓S1,↓if_pos,↓if_neg,if_pos,if_neg,bN,bz,S2,Z2 p1,bm,Hv,Z3 p2,bm,AW,EC,yM,eY,aH,Nat.reduceSub];have e:ayX (words b) 48=sched b:=rfl;rw[e,hs,if_pos (az _)];unfold cut;rw[aM,bg (by rw[yM];omega)];simp only[bm,Xr]
theorem ane:vB.RS:=rE [.d tB] vB
def asX:=vB.fh asW 2 ⟨.fD aeP,⟨.fD aeQ,trivial⟩⟩
abbrev Hh:=(List Int)×(List Int)×(List Int)×Nat×Int×(List Int)
abbrev R4:=Nat×(List Int)
def BS:Hh->R4->(((List Int))×(Nat×(List Int))):=λ(B7,wv,kv,vL,i,uP) y=>(B7,y)
abbrev Hk:=(List Int)×Nat×Int×(List Int)
def v7:Hk->(List Int)->((Nat)×((List Int))):=λ(aos,afx,eI,Jm) y=>(afx,y)
def JR:Hh->Prop:=λ(h,wv,kv,m,i,l)=>∃(s:St) (ws:List W) (k:Nat),h=s.l/\wv=wl ws/\ws.length=64/\k<=64/\i=k/\kv=Px/\m=8/\l=(rounds ws s k).l
def Hi:Hh->R4:=λ(h,wv,kv,m,i,l)=>(8,(rounds (ayI wv) (afb h) 64).l)
def JS:Hk->Prop:=λ(h,m,i,l)=>h.length=8/\l.length=8/\m=8/\∃k:Nat,k<=8/\i=k
def AP:Hk->(List Int):=λ(h,m,i,l)=>from_ (λi x=>bB .u32 x (nth (.int .u32) h i)) i.toNat l
def W2:((List Int)×Bs)->Prop:=λ(h,b)=>(∃s:St,h=s.l)/\64<=b.length
def W1:((List Int)×Bs)->(List Int):=λ(h,b)=>(PF (afb h) b).l
def oC:Ls JR BS Hi:=oP (λ(B7,wv,kv,vL,i,uP)=>⟨([.d (.slice (.int .u32)) B7]++a9 4 ([.d (.slice (.int .u32)) wv,.d (.slice (.int .u32)) kv,iw 18 vL,.d ti i]++a9 146 [])),[],(bC 18 ([cH (.vec 143 (.int .u32) uP)]++bC 136 []))⟩) (λx=>(.exit 0,⟨([.d (.slice (.int .u32)) x.1]++a9 6 ([iw 18 x.2.1]++a9 147 [])),[],(bC 18 ([cH (.vec 143 (.int .u32) x.2.2)]++bC 136 []))⟩))
def qm:Ls JS v7 AP:=oP (λ(aos,afx,eI,Jm)=>⟨([.d (.slice (.int .u32)) aos]++a9 6 ([iw 18 afx]++a9 6 ([.d ti eI]++a9 140 []))),[],(bC 18 ([cH (.vec 143 (.int .u32) Jm)]++bC 136 []))⟩) (λx=>(.exit 2,⟨(a9 7 ([iw 18 x.1]++a9 147 [])),[],(bC 18 ([cH (.vec 143 (.int .u32) x.2)]++bC 136 []))⟩))
def vu:Fs Tryz.prog W2 bm W1:=fg 141 Tryz.f141 (λ(h,b)=>([.d (.slice (.int .u32)) h,.d tB b],[])) (λx=>⟨.d (.slice (.int .u32)) x,[],[]⟩) [aw (.slice (.int .u32)),aw tB] [asX,axr,aiK] {bD:=[18,137],loops:=oN [(5,{aY:=[0,5,6,7,8],sites:=[18,137],owns:=[⟨7,[],18,0⟩]}),(14,{aY:=[0,7,14],sites:=[18]})],outs:=oM [(5,{aY:=[0,7],sites:=[18]},{aY:=[4]}),(14,{aY:=[7],sites:=[18]},{aY:=[4]})],fE:=pX [(5,oC.E),(14,qm.E)],res:=[aw (.slice (.int .u32))]}
theorem ZW:oC.RS:=rL [.d (.slice (.int .u32)),.d (.slice (.int .u32)),.d (.slice (.int .u32)),.n,.d ti,.d (.slice (.int .u32))] oC
theorem Hj(B7 wv kv vL i uP)(kn:K2 R)(kx:K3 R):vu.R 0 oC (B7,wv,kv,vL,i,uP) kn kx=aG (fV i 64) (aG (ei 4 ((vL:Nat):Int)) (aG (decide (4 < (ae uP))) (aj (pB.call ((nth (.int .u32) uP 4),6)) λx1=>aG (ei 4 ((vL:Nat):Int)) (aG (decide (4 < (ae uP))) (aj (pB.call ((nth (.int .u32) uP 4),11)) λx2=>aG (ei 4 ((vL:Nat):Int)) (aG (decide (4 < (ae uP))) (aj (pB.call ((nth (.int .u32) uP 4),25)) λx3=>aG (ei 4 ((vL:Nat):Int)) (aG (decide (4 < (ae uP))) (aG (ei 5 ((vL:Nat):Int)) (aG (decide (5 < (ae uP))) (aG (ei 4 ((vL:Nat):Int)) (aG (decide (4 < (ae uP))) (aG (ei 6 ((vL:Nat):Int)) (aG (decide (6 < (ae uP))) (aG (ei 7 ((vL:Nat):Int)) (aG (decide (7 < (ae uP))) (aG (ei i (kv.length:Int)) (aG (ei i (wv.length:Int)) (aG (ei 0 ((vL:Nat):Int)) (aG (decide (0 < (ae uP))) (aj (pB.call ((nth (.int .u32) uP 0),2)) λx4=>aG (ei 0 ((vL:Nat):Int)) (aG (decide (0 < (ae uP))) (aj (pB.call ((nth (.int .u32) uP 0),13)) λx5=>aG (ei 0 ((vL:Nat):Int)) (aG (decide (0 < (ae uP))) (aj (pB.call ((nth (.int .u32) uP 0),22)) λx6=>aG (ei 0 ((vL:Nat):Int)) (aG (decide (0 < (ae uP))) (aG (ei 1 ((vL:Nat):Int)) (aG (decide (1 < (ae uP))) (aG (ei 0 ((vL:Nat):Int)) (aG (decide (0 < (ae uP))) (aG (ei 2 ((vL:Nat):Int)) (aG (decide (2 < (ae uP))) (aG (ei 1 ((vL:Nat):Int)) (aG (decide (1 < (ae uP))) (aG (ei 2 ((vL:Nat):Int)) (aG (decide (2 < (ae uP))) (aG (ei 0 ((vL:Nat):Int)) (aG (decide (0 < (ae uP))) (aG (ei 1 ((vL:Nat):Int)) (aG (decide (1 < (ae uP))) (aG (ei 2 ((vL:Nat):Int)) (aG (decide (2 < (ae uP))) (aG (ei 3 ((vL:Nat):Int)) (aG (decide (3 < (ae uP))) (aG (ei 4 ((vL:Nat):Int)) (aG (decide (4 < (ae uP))) (aG (ei 5 ((vL:Nat):Int)) (aG (decide (5 < (ae uP))) (aG (ei 6 ((vL:Nat):Int)) (aG (decide (6 < (ae uP))) (kn (oC.st (B7,wv,kv,8,(bB .i64 i 1),[(bB .u32 (bB .u32 (bB .u32 (bB .u32 (bB .u32 (bB .u32 (nth (.int .u32) uP 7) (cF .xor .u32 (cF .xor .u32 x1 x2) x3)) (cF .xor .u32 (cF .and .u32 (nth (.int .u32) uP 4) (nth (.int .u32) uP 5)) (cF .and .u32 (azZ .u32 (nth (.int .u32) uP 4)) (nth (.int .u32) uP 6)))) (nth (.int .u32) kv (ab i))) (nth (.int .u32) wv (ab i))) (cF .xor .u32 (cF .xor .u32 x4 x5) x6)) (cF .xor .u32 (cF .xor .u32 (cF .and .u32 (nth (.int .u32) uP 0) (nth (.int .u32) uP 1)) (cF .and .u32 (nth (.int .u32) uP 0) (nth (.int .u32) uP 2))) (cF .and .u32 (nth (.int .u32) uP 1) (nth (.int .u32) uP 2)))),(nth (.int .u32) uP 0),(nth (.int .u32) uP 1),(nth (.int .u32) uP 2),(bB .u32 (nth (.int .u32) uP 3) (bB .u32 (bB .u32 (bB .u32 (bB .u32 (nth (.int .u32) uP 7) (cF .xor .u32 (cF .xor .u32 x1 x2) x3)) (cF .xor .u32 (cF .and .u32 (nth (.int .u32) uP 4) (nth (.int .u32) uP 5)) (cF .and .u32 (azZ .u32 (nth (.int .u32) uP 4)) (nth (.int .u32) uP 6)))) (nth (.int .u32) kv (ab i))) (nth (.int .u32) wv (ab i)))),(nth (.int .u32) uP 4),(nth (.int .u32) uP 5),(nth (.int .u32) uP 6)]))) aF) aF) aF) aF) aF) aF) aF) aF) aF) aF) aF) aF) aF) aF) aF) aF) aF) aF) aF) aF) aF) aF) aF) aF) aF) aF) aF) aF) aF) aF) aF) aF) aF) aF) aF) aF) aF) aF) aF) aF) aF) aF) aF) aF) aF) aF) aF) aF) aF) aF) (oC.go kx (B7,(vL,uP))):=cK
theorem ZX:qm.RS:=rL [.d (.slice (.int .u32)),.n,.d ti,.d (.slice (.int .u32))] qm
theorem Hl(aos afx eI Jm)(kn:K2 R)(kx:K3 R):vu.R 1 qm (aos,afx,eI,Jm) kn kx=aG (fV eI 8) (aG (ei eI ((afx:Nat):Int)) (aG (decide ((0+(ab eI)) < (ae Jm))) (aG (decide ((((0+(ab eI))*1)+0)=(0+((ab eI)*1)))) (aG (ei eI (aos.length:Int)) (aG (ei eI ((afx:Nat):Int)) (aG (decide ((0+(ab eI)) < (ae Jm))) (aG (decide ((((0+(ab eI))*1)+0)=(0+((ab eI)*1)))) (aG (decide ((0+(ab eI)) < (ae Jm))) (kn (qm.st (aos,afx,(bB .i64 eI 1),(eE Jm (0+(ab eI)) (bB .u32 (nth (.int .u32) Jm (0+(ab eI))) (nth (.int .u32) aos (ab eI))))))) aF) aF) aF) aF) aF) aF) aF) aF) (qm.go kx (afx,Jm)):=cK
theorem asx(h b)(k:K1 R):vu.A (h,b) k=aj (vB.call b) λx1=>aj (WY.call ()) λx2=>aG (db (0+(ae h)) 4) (aj (oC.call (h,x1,x2,(0+(ae h)),0,((aP 0 (ag 0 0))++h))) λaFR=>aj (qm.call (aFR.1,aFR.2.1,0,aFR.2.2)) λLK=>aG (decide (0=0/\(0+LK.1)<=(ae LK.2))) (k (vu.out (cut LK.2 0 LK.1))) aF) aF:=cK
theorem avS(w:W):azZ .u32 (vw w)=vw (~~~w):=by have e:(if IntKind.u32.signed then -1 else IntKind.u32.max:Int)=vw (BitVec.allOnes 32):=rfl;unfold azZ;rw[e,pR];simp only[BitVec.allOnes_xor]
theorem aEr(e f g:W):(e &&& f)^^^(~~~e &&& g)=g^^^(e &&& (f^^^g)):=by
 ext i hi
 simp only[BitVec.getElem_xor,BitVec.getElem_and,BitVec.getElem_not];cases e[i] <;> cases f[i] <;> cases g[i] <;> rfl
theorem aCT(a b c:W):(a &&& b)^^^(a &&& c)^^^(b &&& c)=(a &&& b) ||| (c &&& (a ||| b)):=by
 ext i hi
 simp only[BitVec.getElem_xor,BitVec.getElem_and,BitVec.getElem_or];cases a[i] <;> cases b[i] <;> cases c[i] <;> rfl
theorem aeJ:(vu.j8 0 oC):=by
 refine(vu.lX 0 oC) (λ(h,wv,kv,m,i,l)=>64 - i.toNat) ?_
 rintro⟨h,wv,kv,m,i,l⟩ ⟨s,ws,k,rfl,rfl,hw,hk,rfl,rfl,rfl,rfl⟩;by_cases jQ:k < 64
 ·left;refine⟨(s.l,wl ws,Px,8,((k+1:Nat):Int),(rounds ws s (k+1)).l),⟨s,ws,k+1,rfl,rfl,hw,ak,rfl,rfl,rfl,rfl⟩,by simp only;omega,rfl,λkn kx=> ?_⟩;rw[Hj];generalize hv:rounds ws s k=v;have t1:∀w:W,pB.call (vw w,6)=aw (vw (vA w 6)):=λw=>zB w ak
  have t2:∀w:W,pB.call (vw w,11)=aw (vw (vA w 11)):=λw=>zB w ak
  have t3:∀w:W,pB.call (vw w,25)=aw (vw (vA w 25)):=λw=>zB w ak
  have t4:∀w:W,pB.call (vw w,2)=aw (vw (vA w 2)):=λw=>zB w ak
  have t5:∀w:W,pB.call (vw w,13)=aw (vw (vA w 13)):=λw=>zB w ak
  have t6:∀w:W,pB.call (vw w,22)=aw (vw (vA w 22)):=λw=>zB w ak
  rw[n0,n1,n2,n3,n4,n5,n6,n7,t1,ah,t2,ah,t3,ah,t4,ah,t5,ah,t6,ah];simp(disch:=omega) only[↓S1,↓if_pos,↓if_neg,if_pos,if_neg,bN,bz,S2,St.agR,Re,yM,hw,agQ k jQ,QM ws k ak,pR,Ck,avS,aEr,aCT];show kn _=kn (oC.st (s.l,wl ws,Px,8,((k+1:Nat):Int),(lX (rounds ws s k) (kw k) (ws.getD k 0)).l));rw[hv];rfl
 ·right;obtain rfl:k=64:=ak;intro R kn kx;rw[Hj];simp(disch:=omega) only[↓S1,↓if_pos,↓if_neg,if_pos,if_neg,bN,bz,S2,BS,Hi,EC,oJ]
theorem aeK:(vu.j8 1 qm):=by
 refine(vu.lX 1 qm) (λ(h,m,i,l)=>8 - i.toNat) ?_
 rintro⟨h,m,i,l⟩ ⟨hh,hl,rfl,k,hk,rfl⟩;have hl:l.length=8:=hl;have hh:h.length=8:=hh;by_cases jQ:k < 8
 ·left;have hn:nth (.int .u32) l k=l[k]:=cC (t:= .int .u32) ak;refine⟨(h,8,((k+1:Nat):Int),l.set k (bB .u32 l[k] (nth (.int .u32) h k))),⟨hh,by simpa using hl,rfl,k+1,ak,rfl⟩,by simp only;omega,?_,λkn kx=> ?_⟩
  ·simp only[v7,AP,aa];rw[Ip (λi x=>bB .u32 x (nth (.int .u32) h i)) l k ak]
  ·rw[Hl];simp(disch:=omega) only[↓S1,↓if_pos,↓if_neg,if_pos,if_neg,bN,bz,S2,hl,hh,aH,gq,bM,hn]
 ·right;obtain rfl:k=8:=ak;intro R kn kx;rw[Hl];simp(disch:=omega) only[↓S1,↓if_pos,↓if_neg,if_pos,if_neg,bN,bz,S2,v7,AP];rw[Mk _ _ _ ak]
theorem aCU(s:St)(b:List Int):from_ (λi x=>bB .u32 x (nth (.int .u32) s.l i)) 0 (rounds (sched b) s 64).l=(PF s b).l:=by unfold PF;generalize rounds (sched b) s 64=v;obtain⟨a1,b1,c1,d1,f1,g1,h1,i1⟩:=v;simp only[St.l,from_,List.mapIdx_cons,List.mapIdx_nil,rv,bz,aH,Nat.reduceAdd];simp only[nth,jB,qB,Ck]
theorem asy:vu.Ok:=by
 rintro⟨h,b⟩ ⟨⟨s,rfl⟩,hb⟩;have p0:Xs b:=hb;have ajS:(sched b).length=64:=by unfold sched;rw[zS,eY]
 have p1:JR (s.l,wl (sched b),Px,8,0,s.l):=⟨s,sched b,0,rfl,rfl,ajS,ak,rfl,rfl,rfl,rfl⟩;have p2:JS (s.l,8,0,(rounds (sched b) s 64).l):=⟨rfl,rfl,rfl,0,ak,rfl⟩;have e0:0+s.l.length=8:=rfl;have e1:aP 0 (ag 0 (0:Int))++s.l=s.l:=rfl;rw[asx];simp(disch:=omega) only[↓S1,↓if_pos,↓if_neg,if_pos,if_neg,bN,bz,S2,ane p0,bm,Xr,asw (d:=()) trivial,bm,ao3,e0,e1,ZW p1,BS,Hi,EC,oJ,ZX p2,v7,AP,aS,aCU];have e2:(PF s b).l.length=8:=rfl;have e3:cut (PF s b).l 0 8=(PF s b).l:=rfl;simp only[e2,aH,az,bN,e3,bm,W1,oJ]
theorem amR:vu.RS:=rE [.d (.slice (.int .u32)),.d tB] vu
def asz:=vu.fh asy 2 ⟨.fD aeJ,⟨.fD aeK,trivial⟩⟩
abbrev Ql:=Bs×(List Int)×Int×Bs
def AT:Ql->(List Int)->((Bs)×((List Int))):=λ(p,h,i,n2) y=>(n2,y)
abbrev Qm:=(List Int)×Int×Bs×Bs
def AU:Qm->Bs->((Bs)×(Bs)):=λ(B7,eI,gD,n6) y=>(gD,y)
def Sa:Ql->Prop:=λ(p,h,i,n2)=>p.length%64=0/\p.length<=140737488355328/\∃(s:St) (k:Nat),h=s.l/\i=((64*k:Nat):Int)/\64*k<=p.length
def IJ:Ql->(List Int):=λ(p,h,i,n2)=>(blocks (afb h) (p.drop i.toNat)).l
def Sb:Qm->Prop:=λ(h,i,n2,l)=>h.length=8/\l.length=32/\∃k:Nat,k<=32/\i=k
def IK:Qm->Bs:=λ(h,i,n2,l)=>from_ (Ja h) i.toNat l
def aiI:Bs->Prop:=λb=>b.length<=140737488350000
def aDh:Bs->Bs:=λb=>aDk b
def yr:Ls Sa AT IJ:=oP (λ(p,h,i,n2)=>⟨([bK,bK,dX 2,.d tB p,.d (.slice (.int .u32)) h,.d ti i]++a9 36 []),[],([[],[],cH (.d tH n2)]++bC 39 [])⟩) (λx=>(.exit 0,⟨([bK,bK,dX 2,bK,.d (.slice (.int .u32)) x.2]++a9 37 []),[],([[],[],cH (.d tH x.1)]++bC 39 [])⟩))
def yt:Ls Sb AU IK:=oP (λ(B7,eI,gD,n6)=>⟨([bK,bK,dX 2,bK,.d (.slice (.int .u32)) B7,bK,dX 6,.d ti eI]++a9 34 []),[],([[],[],cH (.d tH gD),[],[],[],cH (.d tH n6)]++bC 35 [])⟩) (λx=>(.exit 2,⟨([bK,bK,dX 2,bK,bK,bK,dX 6]++a9 35 []),[],([[],[],cH (.d tH x.1),[],[],[],cH (.d tH x.2)]++bC 35 [])⟩))
def Qk:Fs Tryz.prog aiI bm aDh:=fg 113 Tryz.f113 (λb=>([.d tB b],[])) (λx=>⟨.d tH x,[],[]⟩) [aw tB] [am5,amY,asz] {loops:=oN [(4,{aY:=[2,3,4,5],sites:=[2]}),(9,{aY:=[2,4,6,7],sites:=[2,6]})],outs:=oM [(4,{aY:=[2,4],sites:=[2]},{aY:=[2]}),(9,{aY:=[2,6],sites:=[2,6]},{aY:=[2]})],fE:=pX [(4,yr.E),(9,yt.E)]}
theorem aiG:yr.RS:=rL [.d tB,.d (.slice (.int .u32)),.d ti,.d tB] yr
theorem NU(p h i n2)(kn:K2 R)(kx:K3 R):Qk.R 0 yr (p,h,i,n2) kn kx=aG (fV i (p.length:Int)) (aG (inc (bB .i64 i 64) (p.length:Int)) (aG (inc i (((ab (bB .i64 i 64)):Nat):Int)) (aj (vu.call (h,(cut p (ab i) ((ab (bB .i64 i 64)) - (ab i))))) λx1=>kn (yr.st (p,x1,(bB .i64 i 64),n2))) aF) aF) (yr.go kx (n2,h)):=cK
theorem aiH:yt.RS:=rL [.d (.slice (.int .u32)),.d ti,.d tB,.d tB] yt
theorem NV(B7 eI gD n6)(kn:K2 R)(kx:K3 R):Qk.R 1 yt (B7,eI,gD,n6) kn kx=aG (fV eI 32) (aG (ei (qG .i64 eI 4) (B7.length:Int)) (aG (mL (dD .i64 24 (eB .i64 8 (gN eI 4)))) (aG (ei eI 32) (aG (decide ((ab eI) < (ae n6))) (aG (decide ((((ab eI)*1)+0)=(0+((ab eI)*1)))) (aG (decide ((ab eI) < (ae n6))) (kn (yt.st (B7,(bB .i64 eI 1),gD,(eE n6 (ab eI) (dC .u8 (cl .u32 (nth (.int .u32) B7 (ab (qG .i64 eI 4))) (dD .i64 24 (eB .i64 8 (gN eI 4))))))))) aF) aF) aF) aF) aF) aF) (yt.go kx (gD,n6)):=cK
theorem aAO(b)(k:K1 R):Qk.A b k=aj (qn.call b) λx1=>aj (Ef.call ()) λx2=>aj (yr.call (x1,x2,0,(ag 32 0))) λx4=>aj (yt.call (x4.2,0,x4.1,(ag 32 0))) λx5=>k (Qk.out x5.2):=cK
theorem am6:(Qk.j8 0 yr):=by
 refine(Qk.lX 0 yr) (λ(p,h,i,n2)=>p.length - i.toNat) ?_
 rintro⟨p,h,i,n2⟩ ⟨hm,hb,s,k,rfl,rfl,hk⟩;have hm:p.length%64=0:=hm;have hb:p.length<=140737488355328:=hb;have hk:64*k<=p.length:=hk;by_cases jQ:64*k < p.length
 ·left;have e1:cut p (64*k) (64*k+64 - 64*k)=(p.drop (64*k)).take 64:=by unfold cut;rw[show 64*k+64 - 64*k=64 by omega]
  have e2:(p.drop (64*k)).drop 64=p.drop (64*(k+1)):=by rw[fL];congr 1
  have e3:(64*(k+1):Nat)=64*k+64:=ak;have p1:W2 (s.l,(p.drop (64*k)).take 64):=⟨⟨s,rfl⟩,by simp;omega⟩;refine⟨(p,(PF s ((p.drop (64*k)).take 64)).l,((64*(k+1):Nat):Int),n2),⟨hm,hb,_,k+1,rfl,rfl,ak⟩,by simp only[aa];omega,?_,λkn kx=> ?_⟩
  ·simp only[AT,IJ,oJ,aa];rw[FW s (p.drop (64*k)) (by simp;omega),e2]
  ·rw[NU];simp(disch:=omega) only[↓S1,↓if_pos,↓if_neg,if_pos,if_neg,bN,bz,S2,e1,amR p1,bm,W1,oJ,e3]
 ·right;intro R kn kx;rw[NU];simp(disch:=omega) only[↓S1,↓if_pos,↓if_neg,if_pos,if_neg,bN,bz,S2,AT,IJ,oJ];rw[C4 s _ (by simp;omega)]
theorem am7:(Qk.j8 1 yt):=by
 refine(Qk.lX 1 yt) (λ(h,i,n2,l)=>32 - i.toNat) ?_
 rintro⟨h,i,n2,l⟩ ⟨h8,hl,k,hk,rfl⟩;have hl:l.length=32:=hl;have h8:h.length=8:=h8;by_cases jQ:k < 32
 ·left;refine⟨(h,((k+1:Nat):Int),n2,l.set k (Ja h k l[k])),⟨h8,by simpa using hl,k+1,ak,rfl⟩,by simp only[aa];omega,?_,λkn kx=> ?_⟩
  ·simp only[AU,IK,aa];rw[Ip (Ja h) l k ak]
  ·rw[NV];simp(disch:=omega) only[↓S1,↓if_pos,↓if_neg,if_pos,if_neg,bN,bz,S2,hl,h8,gq,bM,aH,Ja]
 ·right;obtain rfl:k=32:=ak;intro R kn kx;rw[NV];simp(disch:=omega) only[↓S1,↓if_pos,↓if_neg,if_pos,if_neg,bN,bz,S2,AU,IK];rw[Mk _ _ _ ak]
theorem alu(b:List Int):(pad b).length%64=0/\(pad b).length<=b.length+73:=by unfold pad;simp only[ai,aE,cO,bT,za];omega
theorem aAP:Qk.Ok:=by intro b hb;have hb:b.length<=140737488350000:=hb;have p1:R9 b:=hb;obtain⟨h1,h2⟩:=alu b;have p2:Sa (pad b,sx.l,0,ag 32 0):=⟨h1,ak,sx,0,rfl,rfl,ak⟩;have p3:Sb ((blocks sx (pad b)).l,0,ag 32 0,ag 32 0):=⟨rfl,rfl,0,ak,rfl⟩;rw[aAO];simp(disch:=omega) only[↓S1,↓if_pos,↓if_neg,if_pos,if_neg,bN,bz,S2,aiF p1,bm,Qj,aiA (d:=()) trivial,bm,abR,aiG p2,AT,IJ,oJ,aS,aM,aiH p3,AU,IK,aoP];rfl
theorem axS:Qk.RS:=rE [.d tB] Qk
def aAQ:=Qk.fh aAP 2 ⟨.fD am6,⟨.fD am7,trivial⟩⟩
def asM:Int->Prop:=λn=>0<=n/\n < 18446744073709551616
def aeM:Int->(Nat×(List Int)):=λn=>(8,gV n)
def Hp:Fs Tryz.prog asM bm aeM:=fg 101 Tryz.f101 (λn=>([.d tu n],[])) (λx=>⟨.dx (.new 0 0) 0 [] 0 0 x.1,[],[.obj 0 aQ (.vec 5 tb x.2)]⟩) [aw tu] [] {loops:=oN [(3,{aY:=[0,3,4],sites:=[15]})],outs:=oM [(3,{aY:=[3],sites:=[15]},{aY:=[2],sites:=[15]})],owns:=[⟨2,[],15,26⟩]} 10
theorem axJ(n)(k:K1 R):Hp.A n k=k (Hp.out (8,[(dC .u8 (cl .u64 n 56)),(dC .u8 (cl .u64 n 48)),(dC .u8 (cl .u64 n 40)),(dC .u8 (cl .u64 n 32)),(dC .u8 (cl .u64 n 24)),(dC .u8 (cl .u64 n 16)),(dC .u8 (cl .u64 n 8)),(dC .u8 (cl .u64 n 0))])):=cK
theorem axK:Hp.Ok:=by
 intro n _;have e:∀k:Nat,k<=64->dC .u8 (cl .u64 n (k:Int))=n / 2^k%256:=λk hk=>YC n k hk
 rw[axJ];have e56:dC .u8 (cl .u64 n 56)=n / 2^56%256:=e 56 ak;have e48:dC .u8 (cl .u64 n 48)=n / 2^48%256:=e 48 ak;have e40:dC .u8 (cl .u64 n 40)=n / 2^40%256:=e 40 ak;have e32:dC .u8 (cl .u64 n 32)=n / 2^32%256:=e 32 ak;have e24:dC .u8 (cl .u64 n 24)=n / 2^24%256:=e 24 ak;have e16:dC .u8 (cl .u64 n 16)=n / 2^16%256:=e 16 ak;have e8:dC .u8 (cl .u64 n 8)=n / 2^8%256:=e 8 ak;have e0:=e 0 ak;rw[e56,e48,e40,e32,e24,e16,e8];have e0:dC .u8 (cl .u64 n 0)=n%256:=by rw[show(0:Int)=((0:Nat):Int) from rfl,e0];simp
 rw[e0];rfl
theorem Qd:Hp.RS:=rE [.d tu] Hp
def Xf:=Hp.fh axK 1 ⟨.none cK,trivial⟩
abbrev Qo:=(List Bs)×Nat×Int×Bs×(List Int)
abbrev ab0:=Nat×(List Int)
def AV:Qo->ab0->((Bs)×(Nat×(List Int))):=λ(rC,bL,i,n4,aqX) y=>(n4,y)
abbrev axT:=ByteArray×(List Bs)
def Sc:Qo->Prop:=λ(ps,m,i,n4,l)=>m=l.length/\∃k:Nat,k<=ps.length/\ps.length<=140737488350000/\i=k/\l.length+(oU (ps.drop k)).length<=140737488350000
def IL:Qo->ab0:=λ(ps,m,i,n4,l)=>(l.length+(oU (ps.drop i.toNat)).length,l++oU (ps.drop i.toNat))
def Xn:axT->Prop:=λ(name,ps)=>(QC (bw name) ps).length<=140737488350000
def am8:axT->Bs:=λ(name,ps)=>tag (bw name) ps
def yu:Ls Sc AV IL:=oP (λ(rC,bL,i,n4,aqX)=>⟨([bK,.d (.slice tB) rC,bK,bK,dX 4,iw 11 bL,.d ti i]++a9 32 []),[],(bC 4 ([cH (.d tH n4)]++bC 6 ([cH (.vec 5 tb aqX)]++bC 27 [])))⟩) (λx=>(.exit 0,⟨(a9 4 ([dX 4,iw 11 x.2.1]++a9 33 [])),[],(bC 4 ([cH (.d tH x.1)]++bC 6 ([cH (.vec 5 tb x.2.2)]++bC 27 [])))⟩))
def Ti:Fs Tryz.prog Xn bm am8:=fg 62 Tryz.f62 (λ(name,parts)=>([.d .str name,.d (.slice tB) parts],[])) (λx=>⟨.d tH x,[],[]⟩) [aw .str,aw (.slice tB)] [Xf,aAQ] {loops:=oN [(3,{aY:=[1,4,5,6],sites:=[4,11],owns:=[⟨5,[],11,26⟩]})],outs:=oM [(3,{aY:=[4,5],sites:=[4,11]},{aY:=[4]})],fE:=pX [(3,yu.E)]}
theorem aiJ:yu.RS:=rL [.d (.slice tB),.n,.d ti,.d tB,.d tB] yu
theorem NW(rC bL i n4 aqX)(kn:K2 R)(kx:K3 R):Ti.R 0 yu (rC,bL,i,n4,aqX) kn kx=aG (fV i (rC.length:Int)) (aG (ei i (rC.length:Int)) (aj (Hp.call (dC .u64 (((ae (nth tB rC (ab i))):Nat):Int))) λx1=>aG (decide (0=0/\(0+x1.1)<=(ae x1.2))) (aG (decide (bL<=(ae aqX))) (aG (db (bL+(ae (cut x1.2 0 x1.1))) 1) (aG (ei i (rC.length:Int)) (aG (decide ((bL+(ae (cut x1.2 0 x1.1)))<=(ae ((aP bL aqX)++(cut x1.2 0 x1.1))))) (aG (db ((bL+(ae (cut x1.2 0 x1.1)))+(ae (nth tB rC (ab i)))) 1) (kn (yu.st (rC,((bL+(ae (cut x1.2 0 x1.1)))+(ae (nth tB rC (ab i)))),(bB .i64 i 1),n4,((aP (bL+(ae (cut x1.2 0 x1.1))) ((aP bL aqX)++(cut x1.2 0 x1.1)))++(nth tB rC (ab i)))))) aF) aF) aF) aF) aF) aF) aF) (yu.go kx (n4,(bL,aqX))):=cK
theorem aAR(name parts)(k:K1 R):Ti.A (name,parts) k=aj (Hp.call (dC .u64 (((ByteArray.size name):Nat):Int))) λx1=>aG (decide (x1.1<=(ae x1.2))) (aG (db (x1.1+(ae (bw name))) 1) (aj (yu.call (parts,(x1.1+(ae (bw name))),0,(ag 32 0),((aP x1.1 x1.2)++(bw name)))) λx4=>aG (decide (0=0/\(0+x4.2.1)<=(ae x4.2.2))) (aj (Qk.call (cut x4.2.2 0 x4.2.1)) λx5=>k (Ti.out x5)) aF) aF) aF:=cK
theorem apk{n:Nat}(h:n < 18446744073709551616):dC .u64 ((n:Nat):Int)=n:=by rw[Mz,gh];omega
theorem aiB{n:Nat}(h:n < 18446744073709551616):Hp.call (n:Int)=aw (8,gV (n:Int)):=Qd (d:=(n:Int)) (show 0<=(n:Int)/\(n:Int) < 18446744073709551616 from⟨ak,ak⟩)
theorem aEs{l:List Int}{n:Nat}(h:l.length=n):cut l 0 n=l:=by unfold cut;rw[aM,bg ak]
theorem am9:(Ti.j8 0 yu):=by
 refine(Ti.lX 0 yu) (λ(ps,m,i,n4,l)=>ps.length - i.toNat) ?_
 rintro⟨ps,m,i,n4,l⟩ ⟨rfl,k,hk,Jg,rfl,hl⟩;have hk:k<=ps.length:=hk;have Jg:ps.length<=140737488350000:=Jg;have hl:l.length+(oU (ps.drop k)).length<=140737488350000:=hl;by_cases h:k < ps.length
 ·left;have ht:=acf ps k h;have hlen:(oU (ps.drop k)).length=8+ps[k].length+(oU (ps.drop (k+1))).length:=by rw[ht];simp only[ai,bT]
  have hn:nth (.slice (.int .u8)) ps k=ps[k]:=cC (t:= .slice (.int .u8)) h;have aqt:(l++gV (ps[k].length:Int)).length=l.length+8:=by simp[bT]
  refine⟨(ps,(l++gV ps[k].length++ps[k]).length,((k+1:Nat):Int),n4,l++gV ps[k].length++ps[k]),⟨rfl,k+1,ak,Jg,rfl,?_⟩,by simp only[aa];omega,?_,λkn kx=> ?_⟩
  ·simp only[ai,bT];omega
  ·simp only[AV,IL,aa,ht,aC];simp only[ai,bT,dz]
  ·have c8:cut (gV (ps[k].length:Int)) 0 8=gV (ps[k].length:Int):=aEs (bT _);have yU:ps[k].length < 18446744073709551616:=ak;rw[NW];simp(disch:=omega) only[↓S1,↓if_pos,↓if_neg,if_pos,if_neg,bN,bz,S2,hn,apk yU,aiB yU,bT,c8,bt,aqt,aH,az,eW,bN];rw[bg (by rw[aqt];omega)];simp only[ai,bT,dz]
 ·right;obtain rfl:k=ps.length:=ak;intro R kn kx;rw[NW];simp(disch:=omega) only[↓S1,↓if_pos,↓if_neg,if_pos,if_neg,bN,bz,S2,AV,IL,aN];simp[oU]
theorem aAS:Ti.Ok:=by
 rintro⟨name,ps⟩ hp;have hp:(gV (bw name).length++bw name++oU ps).length<=140737488350000:=hp;have hl:(gV (bw name).length++bw name++oU ps).length=8+(bw name).length+(oU ps).length:=by simp only[ai,bT]
 have Jg:=XN ps;have pd:name.size=(bw name).length:=by rw[lz]
 have yU:(bw name).length < 18446744073709551616:=ak;have p2:Sc (ps,8+(bw name).length,0,ag 32 0,gV ((bw name).length:Int)++bw name):=by refine⟨by simp only[ai,bT],0,aL _,ak,rfl,?_⟩;rw[aM];simp only[ai,bT];omega
 rw[aAR,pd];simp(disch:=omega) only[↓S1,↓if_pos,↓if_neg,if_pos,if_neg,bN,bz,S2,apk yU,aiB yU,bT,bg (Nat.le_of_eq (bT _)),aiJ p2,AV,IL,aS,aM,aH];have aqq:cut (gV ((bw name).length:Int)++bw name++oU ps) 0 ((gV ((bw name).length:Int)++bw name).length+(oU ps).length)=QC (bw name) ps:=aEs (by simp only[ai]);have p3:aiI (QC (bw name) ps):=hp;rw[if_pos (by simp only[ai];omega),aqq,axS p3];rfl
theorem Xo:Ti.RS:=rE [.d .str,.d (.slice tB)] Ti
def aeO:=Ti.fh aAS 1 ⟨.fD am9,trivial⟩
theorem OI{n:Int}(h1:0<=n)(h2:n < 18446744073709551616):IntKind.u64.wrap n=n:=by rw[wrap_u64,gh];omega
theorem OH(n:Int):IntKind.u64.wrap n=n%18446744073709551616:=by rw[wrap_u64,gh];rfl
theorem mu(x y:Int):bB .u64 x y=(x+y)%18446744073709551616:=OH _
theorem TA(x y:Int):dD .u64 x y=(x - y)%18446744073709551616:=OH _
theorem vI(x y:Int):eB .u64 x y=(x*y)%18446744073709551616:=OH _
theorem akS(x:Int):dC .u64 x=x%18446744073709551616:=OH _
theorem afM{x:Int}(h:0<=x)(h2:x < 18446744073709551616):cF .and .u64 x 4294967295=x%4294967296:=by
 obtain⟨n,rfl⟩:∃n:Nat,x=n:=⟨x.toNat,ak⟩;have e:(bk 64 (n:Int) &&& bk 64 4294967295).toNat=n%4294967296:=by
  rw[BitVec.toNat_and];have a:(bk 64 (n:Int)).toNat=n:=by rw[iU,ki];omega
  have b:(bk 64 4294967295).toNat=2^32 - 1:=gw;rw[a,b,Nat.and_two_pow_sub_one_eq_mod]
 show IntKind.u64.wrap ((bk 64 (n:Int) &&& bk 64 4294967295).toNat:Int)=_;rw[e,OI ak ak];omega
theorem aEm{x:Int}(h:0<=x)(h2:x < 18446744073709551616):cF .and .u64 x 1=x%2:=by
 obtain⟨n,rfl⟩:∃n:Nat,x=n:=⟨x.toNat,ak⟩;have e:(bk 64 (n:Int) &&& bk 64 1).toNat=n%2:=by
  rw[BitVec.toNat_and];have a:(bk 64 (n:Int)).toNat=n:=by rw[iU,ki];omega
  have b:(bk 64 1).toNat=2^1 - 1:=gw;rw[a,b,Nat.and_two_pow_sub_one_eq_mod]
 show IntKind.u64.wrap ((bk 64 (n:Int) &&& bk 64 1).toNat:Int)=_;rw[e,OI ak ak];omega
theorem uB{x k:Int}(n:Nat)(hk:k=n)(hn:n<=64):cl .u64 x k=x / 2^n:=by
 subst hk;rw[cl];have e:min (ab (n:Int)) IntKind.u64.bits=n:=by simp only[IntKind.bits];omega
 rw[e,kj _ (Int.le_of_lt (Int.pow_pos ak))]
theorem v9{x k:Int}(n:Nat)(hk:k=n)(hn:n<=64):mH .u64 x k=x*2^n%18446744073709551616:=by
 subst hk;rw[mH,OH];have e:min (ab (n:Int)) IntKind.u64.bits=n:=by simp only[IntKind.bits];omega
 rw[e]
theorem MX{x y:Int}(k:Nat)(m:Int)(hm:m=2^k)(hx:x%m=0)(h0:0<=x)(h1:x < 18446744073709551616)(hy:0<=y)(aD2:y < m)(h2:x+y < 18446744073709551616):cF .or .u64 x y=x+y:=by
 subst hm;obtain⟨n,rfl⟩:∃n:Nat,x=n:=⟨x.toNat,ak⟩;obtain⟨j,rfl⟩:∃j:Nat,y=j:=⟨y.toNat,ak⟩;have hx:n%2^k=0:=by
  have:((n%2^k:Nat):Int)=0:=by rw[pM];simpa using hx
  omega
 have hj:j < 2^k:=by
  have:((j:Nat):Int) < ((2^k:Nat):Int):=by simpa using aD2
  omega
 obtain⟨q,rfl⟩:∃q,n=2^k*q:=⟨n / 2^k,by have:=Nat.div_add_mod n (2^k);omega⟩;have e:(bk 64 ((2^k*q:Nat):Int) ||| bk 64 (j:Int)).toNat=2^k*q+j:=by
  rw[BitVec.toNat_or];have a:(bk 64 ((2^k*q:Nat):Int)).toNat=2^k*q:=by rw[iU,ki];exact mD ak
  have b:(bk 64 (j:Int)).toNat=j:=by rw[iU,ki];exact mD ak
  rw[a,b,Nat.two_pow_add_eq_or_of_lt hj]
 show IntKind.u64.wrap ((bk 64 ((2^k*q:Nat):Int) ||| bk 64 (j:Int)).toNat:Int)=_;rw[e,OI ak ak];omega
theorem Tz{x y:Int}(h:0<=x)(h1:0<=y)(h2:x < 18446744073709551616):qG .u64 x y=x / y:=by rw[qG,kk h];exact OI (Int.ediv_nonneg h h1) (Int.lt_of_le_of_lt (Int.ediv_le_self _ h) h2)
theorem jJ{x y:Int}(h:0<=x):gN x y=x%y:=by rw[gN,gX h]
theorem k1{e u w r q:Int}(he:e=42260\/e=42264\/e=42272)(hu:0<=u)(afD:u < 18446744073709551616 - e)(hw:0<=w)(at1:w < 4294967296)(hr:0<=r)(aow:r < 4294967296)
  (hq:q*4294967295+r=u) (hQ:(u*4294967296+w) / (18446744073709551616 - e)<=q):
  (4294967296<=q->(u*4294967296+w) / (18446744073709551616 - e)<=q - 1)/\
  (q < 4294967296->4294967296*r+w < q*(4294967296 - e)->(u*4294967296+w) / (18446744073709551616 - e)<=q - 1)/\
  (q < 4294967296->q*(4294967296 - e)<=4294967296*r+w->(u*4294967296+w) / (18446744073709551616 - e)=q)/\
  (4294967296<=r+4294967295->(u*4294967296+w) / (18446744073709551616 - e)<=q - 1->(u*4294967296+w) / (18446744073709551616 - e)=q - 1)/\0<=(u*4294967296+w) / (18446744073709551616 - e)/\q<=4294967297:=by
 rcases he with rfl | rfl | rfl
 ·refine⟨?_,?_,?_,?_,?_,?_⟩ <;> omega
 ·refine⟨?_,?_,?_,?_,?_,?_⟩ <;> omega
 ·refine⟨?_,?_,?_,?_,?_,?_⟩ <;> omega
theorem k0{e u w:Int}(he:e=42260\/e=42264\/e=42272)(hu:0<=u)(afD:u < 18446744073709551616 - e)(hw:0<=w)(at1:w < 4294967296):
  (u*4294967296+w) / (18446744073709551616 - e)<=u / 4294967295/\0<=u - u / 4294967295*4294967295/\u - u / 4294967295*4294967295 < 4294967296/\
  (u*4294967296+w) - (u*4294967296+w) / (18446744073709551616 - e)*(18446744073709551616 - e)=(u*4294967296+w)%(18446744073709551616 - e)/\
  0<=(u*4294967296+w)%(18446744073709551616 - e)/\(u*4294967296+w)%(18446744073709551616 - e) < 18446744073709551616 - e/\
  0<=(u*4294967296+w) / (18446744073709551616 - e)/\(u*4294967296+w) / (18446744073709551616 - e) < 4294967296:=by
 rcases he with rfl | rfl | rfl
 ·refine⟨?_,?_,?_,?_,?_,?_,?_,?_⟩ <;> omega
 ·refine⟨?_,?_,?_,?_,?_,?_,?_,?_⟩ <;> omega
 ·refine⟨?_,?_,?_,?_,?_,?_,?_,?_⟩ <;> omega
theorem kd(Y u w1 w0:Int)(hY:0 < Y)(h0:0<=w0)(h1:w0 < 4294967296):
  ((u*4294967296+w1)*4294967296+w0) / Y=(u*4294967296+w1) / Y*4294967296+((u*4294967296+w1)%Y*4294967296+w0) / Y/\
  ((u*4294967296+w1)*4294967296+w0)%Y=((u*4294967296+w1)%Y*4294967296+w0)%Y:=by
 generalize u*4294967296+w1=n;have e:n*4294967296+w0=(n%Y*4294967296+w0)+Y*(n / Y*4294967296):=by
  have:=Int.emod_add_mul_ediv n Y;have h:Y*(n / Y*4294967296)=(Y*(n / Y))*4294967296:=by rw[lY]
  rw[h];omega
 rw[e,Int.add_mul_ediv_left _ _ ak,Int.add_mul_emod_self_left];exact⟨ak,rfl⟩
def aD4(y:Int):Prop:=y=4611686018427377339\/y=2305843009213688669\/y=2305843009213688668
def aqJ:Int->Prop:=aD4
def az4:Int->Int:=λy=>if y=4611686018427377339 then 62 else 61
def Ao:Fs Tryz.prog aqJ bm az4:=fg 163 Tryz.f163 (λx=>([.d tu x],[])) (λx=>⟨.d ti x,[],[]⟩) [aw tu]
theorem av1(x)(k:K1 R):Ao.A x k=aG (B8 x 4294967296) (aG (B8 (cl .u64 x 32) 65536) (aG (B8 (cl .u64 (cl .u64 x 32) 16) 256) (aG (ei (dC .u8 (cl .u64 (cl .u64 (cl .u64 x 32) 16) 8)) 256) (k (Ao.out (bB .i64 56 (dC .i64 (ai4 (⟨#[0,1,2,2,3,3,3,3,4,4,4,4,4,4,4,4,5,5,5,5,5,5,5,5,5,5,5,5,5,5,5,5,6,6,6,6,6,6,6,6,6,6,6,6,6,6,6,6,6,6,6,6,6,6,6,6,6,6,6,6,6,6,6,6,7,7,7,7,7,7,7,7,7,7,7,7,7,7,7,7,7,7,7,7,7,7,7,7,7,7,7,7,7,7,7,7,7,7,7,7,7,7,7,7,7,7,7,7,7,7,7,7,7,7,7,7,7,7,7,7,7,7,7,7,7,7,7,7,8,8,8,8,8,8,8,8,8,8,8,8,8,8,8,8,8,8,8,8,8,8,8,8,8,8,8,8,8,8,8,8,8,8,8,8,8,8,8,8,8,8,8,8,8,8,8,8,8,8,8,8,8,8,8,8,8,8,8,8,8,8,8,8,8,8,8,8,8,8,8,8,8,8,8,8,8,8,8,8,8,8,8,8,8,8,8,8,8,8,8,8,8,8,8,8,8,8,8,8,8,8,8,8,8,8,8,8,8,8,8,8,8,8,8,8,8,8,8,8,8,8,8,8,8,8,8,8]⟩:ByteArray) (dC .u8 (cl .u64 (cl .u64 (cl .u64 x 32) 16) 8))))))) aF) (aG (ei (dC .u8 (cl .u64 (cl .u64 x 32) 16)) 256) (k (Ao.out (bB .i64 48 (dC .i64 (ai4 (⟨#[0,1,2,2,3,3,3,3,4,4,4,4,4,4,4,4,5,5,5,5,5,5,5,5,5,5,5,5,5,5,5,5,6,6,6,6,6,6,6,6,6,6,6,6,6,6,6,6,6,6,6,6,6,6,6,6,6,6,6,6,6,6,6,6,7,7,7,7,7,7,7,7,7,7,7,7,7,7,7,7,7,7,7,7,7,7,7,7,7,7,7,7,7,7,7,7,7,7,7,7,7,7,7,7,7,7,7,7,7,7,7,7,7,7,7,7,7,7,7,7,7,7,7,7,7,7,7,7,8,8,8,8,8,8,8,8,8,8,8,8,8,8,8,8,8,8,8,8,8,8,8,8,8,8,8,8,8,8,8,8,8,8,8,8,8,8,8,8,8,8,8,8,8,8,8,8,8,8,8,8,8,8,8,8,8,8,8,8,8,8,8,8,8,8,8,8,8,8,8,8,8,8,8,8,8,8,8,8,8,8,8,8,8,8,8,8,8,8,8,8,8,8,8,8,8,8,8,8,8,8,8,8,8,8,8,8,8,8,8,8,8,8,8,8,8,8,8,8,8,8,8,8,8,8,8,8]⟩:ByteArray) (dC .u8 (cl .u64 (cl .u64 x 32) 16))))))) aF)) (aG (B8 (cl .u64 x 32) 256) (aG (ei (dC .u8 (cl .u64 (cl .u64 x 32) 8)) 256) (k (Ao.out (bB .i64 40 (dC .i64 (ai4 (⟨#[0,1,2,2,3,3,3,3,4,4,4,4,4,4,4,4,5,5,5,5,5,5,5,5,5,5,5,5,5,5,5,5,6,6,6,6,6,6,6,6,6,6,6,6,6,6,6,6,6,6,6,6,6,6,6,6,6,6,6,6,6,6,6,6,7,7,7,7,7,7,7,7,7,7,7,7,7,7,7,7,7,7,7,7,7,7,7,7,7,7,7,7,7,7,7,7,7,7,7,7,7,7,7,7,7,7,7,7,7,7,7,7,7,7,7,7,7,7,7,7,7,7,7,7,7,7,7,7,8,8,8,8,8,8,8,8,8,8,8,8,8,8,8,8,8,8,8,8,8,8,8,8,8,8,8,8,8,8,8,8,8,8,8,8,8,8,8,8,8,8,8,8,8,8,8,8,8,8,8,8,8,8,8,8,8,8,8,8,8,8,8,8,8,8,8,8,8,8,8,8,8,8,8,8,8,8,8,8,8,8,8,8,8,8,8,8,8,8,8,8,8,8,8,8,8,8,8,8,8,8,8,8,8,8,8,8,8,8,8,8,8,8,8,8,8,8,8,8,8,8,8,8,8,8,8,8]⟩:ByteArray) (dC .u8 (cl .u64 (cl .u64 x 32) 8))))))) aF) (aG (ei (dC .u8 (cl .u64 x 32)) 256) (k (Ao.out (bB .i64 32 (dC .i64 (ai4 (⟨#[0,1,2,2,3,3,3,3,4,4,4,4,4,4,4,4,5,5,5,5,5,5,5,5,5,5,5,5,5,5,5,5,6,6,6,6,6,6,6,6,6,6,6,6,6,6,6,6,6,6,6,6,6,6,6,6,6,6,6,6,6,6,6,6,7,7,7,7,7,7,7,7,7,7,7,7,7,7,7,7,7,7,7,7,7,7,7,7,7,7,7,7,7,7,7,7,7,7,7,7,7,7,7,7,7,7,7,7,7,7,7,7,7,7,7,7,7,7,7,7,7,7,7,7,7,7,7,7,8,8,8,8,8,8,8,8,8,8,8,8,8,8,8,8,8,8,8,8,8,8,8,8,8,8,8,8,8,8,8,8,8,8,8,8,8,8,8,8,8,8,8,8,8,8,8,8,8,8,8,8,8,8,8,8,8,8,8,8,8,8,8,8,8,8,8,8,8,8,8,8,8,8,8,8,8,8,8,8,8,8,8,8,8,8,8,8,8,8,8,8,8,8,8,8,8,8,8,8,8,8,8,8,8,8,8,8,8,8,8,8,8,8,8,8,8,8,8,8,8,8,8,8,8,8,8,8]⟩:ByteArray) (dC .u8 (cl .u64 x 32))))))) aF))) (aG (B8 x 65536) (aG (B8 (cl .u64 x 16) 256) (aG (ei (dC .u8 (cl .u64 (cl .u64 x 16) 8)) 256) (k (Ao.out (bB .i64 24 (dC .i64 (ai4 (⟨#[0,1,2,2,3,3,3,3,4,4,4,4,4,4,4,4,5,5,5,5,5,5,5,5,5,5,5,5,5,5,5,5,6,6,6,6,6,6,6,6,6,6,6,6,6,6,6,6,6,6,6,6,6,6,6,6,6,6,6,6,6,6,6,6,7,7,7,7,7,7,7,7,7,7,7,7,7,7,7,7,7,7,7,7,7,7,7,7,7,7,7,7,7,7,7,7,7,7,7,7,7,7,7,7,7,7,7,7,7,7,7,7,7,7,7,7,7,7,7,7,7,7,7,7,7,7,7,7,8,8,8,8,8,8,8,8,8,8,8,8,8,8,8,8,8,8,8,8,8,8,8,8,8,8,8,8,8,8,8,8,8,8,8,8,8,8,8,8,8,8,8,8,8,8,8,8,8,8,8,8,8,8,8,8,8,8,8,8,8,8,8,8,8,8,8,8,8,8,8,8,8,8,8,8,8,8,8,8,8,8,8,8,8,8,8,8,8,8,8,8,8,8,8,8,8,8,8,8,8,8,8,8,8,8,8,8,8,8,8,8,8,8,8,8,8,8,8,8,8,8,8,8,8,8,8,8]⟩:ByteArray) (dC .u8 (cl .u64 (cl .u64 x 16) 8))))))) aF) (aG (ei (dC .u8 (cl .u64 x 16)) 256) (k (Ao.out (bB .i64 16 (dC .i64 (ai4 (⟨#[0,1,2,2,3,3,3,3,4,4,4,4,4,4,4,4,5,5,5,5,5,5,5,5,5,5,5,5,5,5,5,5,6,6,6,6,6,6,6,6,6,6,6,6,6,6,6,6,6,6,6,6,6,6,6,6,6,6,6,6,6,6,6,6,7,7,7,7,7,7,7,7,7,7,7,7,7,7,7,7,7,7,7,7,7,7,7,7,7,7,7,7,7,7,7,7,7,7,7,7,7,7,7,7,7,7,7,7,7,7,7,7,7,7,7,7,7,7,7,7,7,7,7,7,7,7,7,7,8,8,8,8,8,8,8,8,8,8,8,8,8,8,8,8,8,8,8,8,8,8,8,8,8,8,8,8,8,8,8,8,8,8,8,8,8,8,8,8,8,8,8,8,8,8,8,8,8,8,8,8,8,8,8,8,8,8,8,8,8,8,8,8,8,8,8,8,8,8,8,8,8,8,8,8,8,8,8,8,8,8,8,8,8,8,8,8,8,8,8,8,8,8,8,8,8,8,8,8,8,8,8,8,8,8,8,8,8,8,8,8,8,8,8,8,8,8,8,8,8,8,8,8,8,8,8,8]⟩:ByteArray) (dC .u8 (cl .u64 x 16))))))) aF)) (aG (B8 x 256) (aG (ei (dC .u8 (cl .u64 x 8)) 256) (k (Ao.out (bB .i64 8 (dC .i64 (ai4 (⟨#[0,1,2,2,3,3,3,3,4,4,4,4,4,4,4,4,5,5,5,5,5,5,5,5,5,5,5,5,5,5,5,5,6,6,6,6,6,6,6,6,6,6,6,6,6,6,6,6,6,6,6,6,6,6,6,6,6,6,6,6,6,6,6,6,7,7,7,7,7,7,7,7,7,7,7,7,7,7,7,7,7,7,7,7,7,7,7,7,7,7,7,7,7,7,7,7,7,7,7,7,7,7,7,7,7,7,7,7,7,7,7,7,7,7,7,7,7,7,7,7,7,7,7,7,7,7,7,7,8,8,8,8,8,8,8,8,8,8,8,8,8,8,8,8,8,8,8,8,8,8,8,8,8,8,8,8,8,8,8,8,8,8,8,8,8,8,8,8,8,8,8,8,8,8,8,8,8,8,8,8,8,8,8,8,8,8,8,8,8,8,8,8,8,8,8,8,8,8,8,8,8,8,8,8,8,8,8,8,8,8,8,8,8,8,8,8,8,8,8,8,8,8,8,8,8,8,8,8,8,8,8,8,8,8,8,8,8,8,8,8,8,8,8,8,8,8,8,8,8,8,8,8,8,8,8,8]⟩:ByteArray) (dC .u8 (cl .u64 x 8))))))) aF) (aG (ei (dC .u8 x) 256) (k (Ao.out (bB .i64 0 (dC .i64 (ai4 (⟨#[0,1,2,2,3,3,3,3,4,4,4,4,4,4,4,4,5,5,5,5,5,5,5,5,5,5,5,5,5,5,5,5,6,6,6,6,6,6,6,6,6,6,6,6,6,6,6,6,6,6,6,6,6,6,6,6,6,6,6,6,6,6,6,6,7,7,7,7,7,7,7,7,7,7,7,7,7,7,7,7,7,7,7,7,7,7,7,7,7,7,7,7,7,7,7,7,7,7,7,7,7,7,7,7,7,7,7,7,7,7,7,7,7,7,7,7,7,7,7,7,7,7,7,7,7,7,7,7,8,8,8,8,8,8,8,8,8,8,8,8,8,8,8,8,8,8,8,8,8,8,8,8,8,8,8,8,8,8,8,8,8,8,8,8,8,8,8,8,8,8,8,8,8,8,8,8,8,8,8,8,8,8,8,8,8,8,8,8,8,8,8,8,8,8,8,8,8,8,8,8,8,8,8,8,8,8,8,8,8,8,8,8,8,8,8,8,8,8,8,8,8,8,8,8,8,8,8,8,8,8,8,8,8,8,8,8,8,8,8,8,8,8,8,8,8,8,8,8,8,8,8,8,8,8,8,8]⟩:ByteArray) (dC .u8 x)))))) aF))):=cK
theorem av2:Ao.Ok:=by intro y h;rw[av1];obtain rfl | rfl | rfl:=h <;> kernel_rfl
theorem aqK:Ao.RS:=rE [.d tu] Ao
def av3:=Ao.fh av2
def awf:Int->Prop:=aD4
def awe:Int->Int:=λy=>if y=4611686018427377339 then 2 else 3
def alb:Fs Tryz.prog awf bm awe:=fg 160 Tryz.f160 (λx=>([.d tu x],[])) (λx=>⟨.d ti x,[],[]⟩) [aw tu] [av3]
theorem az7(x)(k:K1 R):alb.A x k=aj (Ao.call x) λx1=>k (alb.out (dD .i64 64 x1)):=cK
theorem az8:alb.Ok:=by intro y h;rw[az7,aqK (d:=y) h];obtain rfl | rfl | rfl:=h <;> rfl
theorem awg:alb.RS:=rE [.d tu] alb
def az9:=alb.fh az8
abbrev Kp:=Int×Int×Int×Int×Int×Int×Int×Int×Int
def Md:Kp->Int->((Int×Int×Int×Int×Int×Int×Int)×(Int)):=λ(aav,sv,yn1,yn0,un32,un1,un0,q1,rhat) y=>((aav,sv,yn1,yn0,un32,un1,un0),y)
abbrev Kq:=Int×Int×Int×Int×Int×Int×Int×Int×Int
def Mf:Kq->Int->((Int×Int×Int×Int×Int)×(Int)):=λ(aaw,wY,Kc,YF,Ib,Zl,Eg,un21,q0) y=>((aaw,wY,Ib,Zl,un21),y)
def Mc:Kp->Prop:=λ(y,sv,yn1,yn0,u,w,un0,q,r)=>∃e:Int,(e=42260\/e=42264\/e=42272)/\y=18446744073709551616 - e/\yn1=4294967295/\yn0=4294967296 - e/\0<=u/\u < 18446744073709551616 - e/\0<=w/\w < 4294967296/\0<=r/\r < 4294967296/\q*4294967295+r=u/\(u*4294967296+w) / (18446744073709551616 - e)<=q
def Db:Kp->Int:=λ(y,sv,yn1,yn0,u,w,un0,q,r)=>(u*4294967296+w) / y
def Me:Kq->Prop:=λ(y,sv,yn1,yn0,w,q1,r,u,q)=>∃e:Int,(e=42260\/e=42264\/e=42272)/\y=18446744073709551616 - e/\yn1=4294967295/\yn0=4294967296 - e/\0<=u/\u < 18446744073709551616 - e/\0<=w/\w < 4294967296/\0<=r/\r < 4294967296/\q*4294967295+r=u/\(u*4294967296+w) / (18446744073709551616 - e)<=q
def Dc:Kq->Int:=λ(y,sv,yn1,yn0,w,q1,r,u,q)=>(u*4294967296+w) / y
def aaO:(Int×Int×Int)->Prop:=λ(hi,lo,y)=>(aD4 y\/hi=0/\0 < y/\y < 18446744073709551616)/\0<=hi/\hi < y/\0<=lo/\lo < 18446744073709551616
def acU:(Int×Int×Int)->(Int×Int):=λ(hi,lo,y)=>((hi*18446744073709551616+lo) / y,(hi*18446744073709551616+lo)%y)
def nZ:Ls Mc Md Db:=oP (λ(aav,sv,yn1,yn0,un32,un1,un0,q1,rhat)=>⟨([bK,bK,.d tu aav]++a9 5 ([.d tu sv,.d tu yn1,.d tu yn0,.d tu un32,bK,.d tu un1,.d tu un0,.d tu q1,.d tu rhat]++a9 118 [])),[],(ag 135 [])⟩) (λx=>(.exit 0,⟨([bK,bK,.d tu x.1.1]++a9 5 ([.d tu x.1.2.1,.d tu x.1.2.2.1,.d tu x.1.2.2.2.1,.d tu x.1.2.2.2.2.1,bK,.d tu x.1.2.2.2.2.2.1,.d tu x.1.2.2.2.2.2.2,.d tu x.2]++a9 119 [])),[],(ag 135 [])⟩))
def oa:Ls Me Mf Dc:=oP (λ(aaw,wY,Kc,YF,Ib,Zl,Eg,un21,q0)=>⟨([bK,bK,.d tu aaw]++a9 5 ([.d tu wY,.d tu Kc,.d tu YF,bK,bK,bK,.d tu Ib,.d tu Zl,.d tu Eg,.d tu un21,.d tu q0]++a9 116 [])),[],(ag 135 [])⟩) (λx=>(.exit 2,⟨([bK,bK,.d tu x.1.1]++a9 5 ([.d tu x.1.2.1]++a9 5 ([.d tu x.1.2.2.1,.d tu x.1.2.2.2.1,bK,.d tu x.1.2.2.2.2,.d tu x.2]++a9 116 []))),[],(ag 135 [])⟩))
def Ae:Fs Tryz.prog aaO bm acU:=fg 142 Tryz.f142 (λ(hi,lo,yv)=>([.d tu hi,.d tu lo,.d tu yv],[])) (λx=>⟨.cons (.d tu x.1) (.cons (.d tu x.2) (.nil)),[],[]⟩) [aw tu,aw tu,aw tu] [az9] {loops:=oN [(17,{aY:=[2,8,9,10,11,13,14,15,16]}),(24,{aY:=[2,8,9,10,14,15,16,17,18]})],outs:=oM [(17,{aY:=[2,8,9,10,11,13,14,15]},{aY:=[6,7]}),(24,{aY:=[2,8,14,15,17,18]},{aY:=[6,7]})],fE:=pX [(17,nZ.E),(24,oa.E)]}
theorem acV:nZ.RS:=rL [.d tu,.d tu,.d tu,.d tu,.d tu,.d tu,.d tu,.d tu,.d tu] nZ
theorem Bb(aav sv yn1 yn0 un32 un1 un0 q1 rhat)(kn:K2 R)(kx:K3 R):Ae.R 0 nZ (aav,sv,yn1,yn0,un32,un1,un0,q1,rhat) kn kx=aG (B8 q1 4294967296) (aG (B8 (bB .u64 rhat yn1) 4294967296) (nZ.go kx ((aav,sv,yn1,yn0,un32,un1,un0),(dD .u64 q1 1))) (kn (nZ.st (aav,sv,yn1,yn0,un32,un1,un0,(dD .u64 q1 1),(bB .u64 rhat yn1))))) (aG (xS (eB .u64 q1 yn0) (bB .u64 (eB .u64 4294967296 rhat) un1)) (aG (B8 (bB .u64 rhat yn1) 4294967296) (nZ.go kx ((aav,sv,yn1,yn0,un32,un1,un0),(dD .u64 q1 1))) (kn (nZ.st (aav,sv,yn1,yn0,un32,un1,un0,(dD .u64 q1 1),(bB .u64 rhat yn1))))) (nZ.go kx ((aav,sv,yn1,yn0,un32,un1,un0),q1))):=cK
theorem acW:oa.RS:=rL [.d tu,.d tu,.d tu,.d tu,.d tu,.d tu,.d tu,.d tu,.d tu] oa
theorem Bc(aaw wY Kc YF Ib Zl Eg un21 q0)(kn:K2 R)(kx:K3 R):Ae.R 1 oa (aaw,wY,Kc,YF,Ib,Zl,Eg,un21,q0) kn kx=aG (B8 q0 4294967296) (aG (B8 (bB .u64 Eg Kc) 4294967296) (oa.go kx ((aaw,wY,Ib,Zl,un21),(dD .u64 q0 1))) (kn (oa.st (aaw,wY,Kc,YF,Ib,Zl,(bB .u64 Eg Kc),un21,(dD .u64 q0 1))))) (aG (xS (eB .u64 q0 YF) (bB .u64 (eB .u64 4294967296 Eg) Ib)) (aG (B8 (bB .u64 Eg Kc) 4294967296) (oa.go kx ((aaw,wY,Ib,Zl,un21),(dD .u64 q0 1))) (kn (oa.st (aaw,wY,Kc,YF,Ib,Zl,(bB .u64 Eg Kc),un21,(dD .u64 q0 1))))) (oa.go kx ((aaw,wY,Ib,Zl,un21),q0))):=cK
theorem au2(hi lo yv)(k:K1 R):Ae.A (hi,lo,yv) k=aG (wD yv 0) (aF) (aG (aoy yv hi) (aF) (aG (wD hi 0) (aG (rB yv) (aG (rB yv) (k (Ae.out ((qG .u64 lo yv),(gN lo yv)))) aF) aF) (aj (alb.call yv) λx1=>aG (mL (dC .u64 x1)) (aG (mL (dC .u64 x1)) (aG (mL (dD .u64 64 (dC .u64 x1))) (aG (mL (dC .u64 x1)) (aG (rB (cl .u64 (mH .u64 yv (dC .u64 x1)) 32)) (aj (nZ.call ((mH .u64 yv (dC .u64 x1)),(dC .u64 x1),(cl .u64 (mH .u64 yv (dC .u64 x1)) 32),(cF .and .u64 (mH .u64 yv (dC .u64 x1)) 4294967295),(cF .or .u64 (mH .u64 hi (dC .u64 x1)) (cl .u64 lo (dD .u64 64 (dC .u64 x1)))),(cl .u64 (mH .u64 lo (dC .u64 x1)) 32),(cF .and .u64 (mH .u64 lo (dC .u64 x1)) 4294967295),(qG .u64 (cF .or .u64 (mH .u64 hi (dC .u64 x1)) (cl .u64 lo (dD .u64 64 (dC .u64 x1)))) (cl .u64 (mH .u64 yv (dC .u64 x1)) 32)),(dD .u64 (cF .or .u64 (mH .u64 hi (dC .u64 x1)) (cl .u64 lo (dD .u64 64 (dC .u64 x1)))) (eB .u64 (qG .u64 (cF .or .u64 (mH .u64 hi (dC .u64 x1)) (cl .u64 lo (dD .u64 64 (dC .u64 x1)))) (cl .u64 (mH .u64 yv (dC .u64 x1)) 32)) (cl .u64 (mH .u64 yv (dC .u64 x1)) 32))))) λx2=>aG (rB x2.1.2.2.1) (aj (oa.call (x2.1.1,x2.1.2.1,x2.1.2.2.1,x2.1.2.2.2.1,x2.1.2.2.2.2.2.2,x2.2,(dD .u64 (dD .u64 (bB .u64 (eB .u64 x2.1.2.2.2.2.1 4294967296) x2.1.2.2.2.2.2.1) (eB .u64 x2.2 x2.1.1)) (eB .u64 (qG .u64 (dD .u64 (bB .u64 (eB .u64 x2.1.2.2.2.2.1 4294967296) x2.1.2.2.2.2.2.1) (eB .u64 x2.2 x2.1.1)) x2.1.2.2.1) x2.1.2.2.1)),(dD .u64 (bB .u64 (eB .u64 x2.1.2.2.2.2.1 4294967296) x2.1.2.2.2.2.2.1) (eB .u64 x2.2 x2.1.1)),(qG .u64 (dD .u64 (bB .u64 (eB .u64 x2.1.2.2.2.2.1 4294967296) x2.1.2.2.2.2.2.1) (eB .u64 x2.2 x2.1.1)) x2.1.2.2.1))) λx3=>aG (mL x3.1.2.1) (k (Ae.out ((bB .u64 (eB .u64 x3.1.2.2.2.1 4294967296) x3.2),(cl .u64 (dD .u64 (bB .u64 (eB .u64 x3.1.2.2.2.2 4294967296) x3.1.2.2.1) (eB .u64 x3.2 x3.1.1)) x3.1.2.1)))) aF) aF) aF) aF) aF) aF) aF))):=cK
theorem agj:(Ae.j8 0 nZ):=by
 refine(Ae.lX 0 nZ) (λ(y,sv,yn1,yn0,u,w,un0,q,r)=>q.toNat) ?_
 rintro⟨y,sv,yn1,yn0,u,w,un0,q,r⟩ ⟨e,he,rfl,rfl,rfl,hu,afD,hw,at1,hr,aow,hq,hQ⟩;have hu:0<=u:=hu;have afD:u < 18446744073709551616 - e:=afD;have hw:0<=w:=hw;have at1:w < 4294967296:=at1;have hr:0<=r:=hr;have aow:r < 4294967296:=aow;have hq:q*4294967295+r=u:=hq;obtain⟨k1,k2,k3,k4,k5,k6⟩:=k1 he hu afD hw at1 hr aow hq hQ;have q0:0<=q:=Int.le_trans k5 hQ;have a1:bB .u64 r 4294967295=r+4294967295:=by rw[mu];omega
 have a2:bB .u64 (eB .u64 4294967296 r) w=4294967296*r+w:=by rw[vI,mu];omega
 have a3:q < 4294967296->eB .u64 q (4294967296 - e)=q*(4294967296 - e):=by intro h;rw[vI];rcases he with rfl | rfl | rfl <;> omega
 have a4:0 < q->dD .u64 q 1=q - 1:=by intro h;rw[TA];omega
 have pos:4294967296<=q\/(q < 4294967296/\4294967296*r+w < q*(4294967296 - e))->0 < q/\(u*4294967296+w) / (18446744073709551616 - e)<=q - 1:=by
  rintro(h | ⟨h,h2⟩)
  ·exact⟨ak,k1 h⟩
  ·exact⟨by have:=k2 h h2;omega,k2 h h2⟩
 by_cases hc:4294967296<=q\/(q < 4294967296/\4294967296*r+w < q*(4294967296 - e))
 ·obtain⟨p1,p2⟩:=pos hc;by_cases hb:4294967296<=r+4294967295
  ·right;have hF:Db (18446744073709551616 - e,sv,4294967295,4294967296 - e,u,w,un0,q,r)=q - 1:=k4 hb p2;intro R kn kx;rw[Bb,a1,a2,a4 p1,gf hb,hF];rcases hc with h | ⟨h,h2⟩
   ·rw[gf h];rfl
   ·rw[eH ak,a3 h,dk h2];rfl
  ·left;refine⟨(18446744073709551616 - e,sv,4294967295,4294967296 - e,u,w,un0,q - 1,r+4294967295),⟨e,he,rfl,rfl,rfl,hu,afD,hw,at1,ak,ak,ak,p2⟩,by simp only[];omega,rfl,λkn kx=> ?_⟩;rw[Bb,a1,a2,a4 p1,eH hb];rcases hc with h | ⟨h,h2⟩
   ·rw[gf h];rfl
   ·rw[eH ak,a3 h,dk h2];rfl
 ·right;have h:q < 4294967296:=ak;have h2:¬4294967296*r+w < q*(4294967296 - e):=λx=>hc (ez ⟨h,x⟩)
  have hF:Db (18446744073709551616 - e,sv,4294967295,4294967296 - e,u,w,un0,q,r)=q:=k3 h ak;intro R kn kx;rw[Bb,a2,a3 h,eH ak,cJ h2,hF];rfl
theorem agk:(Ae.j8 1 oa):=by
 refine(Ae.lX 1 oa) (λ(y,sv,yn1,yn0,w,q1,r,u,q)=>q.toNat) ?_
 rintro⟨y,sv,yn1,yn0,w,q1,r,u,q⟩ ⟨e,he,rfl,rfl,rfl,hu,afD,hw,at1,hr,aow,hq,hQ⟩;have hu:0<=u:=hu;have afD:u < 18446744073709551616 - e:=afD;have hw:0<=w:=hw;have at1:w < 4294967296:=at1;have hr:0<=r:=hr;have aow:r < 4294967296:=aow;have hq:q*4294967295+r=u:=hq;obtain⟨k1,k2,k3,k4,k5,k6⟩:=k1 he hu afD hw at1 hr aow hq hQ;have q0:0<=q:=Int.le_trans k5 hQ;have a1:bB .u64 r 4294967295=r+4294967295:=by rw[mu];omega
 have a2:bB .u64 (eB .u64 4294967296 r) w=4294967296*r+w:=by rw[vI,mu];omega
 have a3:q < 4294967296->eB .u64 q (4294967296 - e)=q*(4294967296 - e):=by intro h;rw[vI];rcases he with rfl | rfl | rfl <;> omega
 have a4:0 < q->dD .u64 q 1=q - 1:=by intro h;rw[TA];omega
 have pos:4294967296<=q\/(q < 4294967296/\4294967296*r+w < q*(4294967296 - e))->0 < q/\(u*4294967296+w) / (18446744073709551616 - e)<=q - 1:=by
  rintro(h | ⟨h,h2⟩)
  ·exact⟨ak,k1 h⟩
  ·exact⟨by have:=k2 h h2;omega,k2 h h2⟩
 by_cases hc:4294967296<=q\/(q < 4294967296/\4294967296*r+w < q*(4294967296 - e))
 ·obtain⟨p1,p2⟩:=pos hc;by_cases hb:4294967296<=r+4294967295
  ·right;have hF:Dc (18446744073709551616 - e,sv,4294967295,4294967296 - e,w,q1,r,u,q)=q - 1:=k4 hb p2;intro R kn kx;rw[Bc,a1,a2,a4 p1,gf hb,hF];rcases hc with h | ⟨h,h2⟩
   ·rw[gf h];rfl
   ·rw[eH ak,a3 h,dk h2];rfl
  ·left;refine⟨(18446744073709551616 - e,sv,4294967295,4294967296 - e,w,q1,r+4294967295,u,q - 1),⟨e,he,rfl,rfl,rfl,hu,afD,hw,at1,ak,ak,ak,p2⟩,by simp only[];omega,rfl,λkn kx=> ?_⟩;rw[Bc,a1,a2,a4 p1,eH hb];rcases hc with h | ⟨h,h2⟩
   ·rw[gf h];rfl
   ·rw[eH ak,a3 h,dk h2];rfl
 ·right;have h:q < 4294967296:=ak;have h2:¬4294967296*r+w < q*(4294967296 - e):=λx=>hc (ez ⟨h,x⟩)
  have hF:Dc (18446744073709551616 - e,sv,4294967295,4294967296 - e,w,q1,r,u,q)=q:=k3 h ak;intro R kn kx;rw[Bc,a2,a3 h,eH ak,cJ h2,hF];rfl
theorem aCg{y hi lo:Int}(hy:aD4 y)(h0:0<=hi)(h1:hi < y)(h2:0<=lo)(h3:lo < 18446744073709551616):∃(s:Nat) (e m:Int),awe y=s/\(s=2\/s=3)/\m=2^s/\(e=42260\/e=42264\/e=42272)/\y*m=18446744073709551616 - e/\
  mH .u64 y (s:Int)=18446744073709551616 - e/\
  cF .or .u64 (mH .u64 hi (s:Int)) (cl .u64 lo (dD .u64 64 (s:Int)))=(hi*18446744073709551616+lo)*m / 18446744073709551616/\
  mH .u64 lo (s:Int)=(hi*18446744073709551616+lo)*m%18446744073709551616/\
  (hi*18446744073709551616+lo)*m / 18446744073709551616 < 18446744073709551616 - e/\
  (hi*18446744073709551616+lo)*m / (18446744073709551616 - e)=(hi*18446744073709551616+lo) / y/\
  (hi*18446744073709551616+lo)*m%(18446744073709551616 - e) / m=(hi*18446744073709551616+lo)%y:=by
 have e1:dD .u64 64 ((2:Nat):Int)=((62:Nat):Int):=rfl;have e2:dD .u64 64 ((3:Nat):Int)=((61:Nat):Int):=rfl;have p2:(2:Int)^2=4:=rfl;have p3:(2:Int)^3=8:=rfl;have p61:(2:Int)^61=2305843009213693952:=rfl;have p62:(2:Int)^62=4611686018427387904:=rfl;obtain rfl | rfl | rfl:=hy
 ·refine⟨2,42260,4,rfl,jH rfl,rfl,jH rfl,rfl,by rw[v9 2 (by rfl) ak,p2];omega,?_,?_,ak,ak,ak⟩
  ·rw[e1,v9 2 (by rfl) ak,uB 62 (by rfl) ak,p2,p62,MX 2 4 rfl ak ak ak ak ak ak];omega
  ·rw[v9 2 (by rfl) ak,p2];omega
 ·refine⟨3,42264,8,rfl,ez rfl,rfl,ez (jH rfl),rfl,by rw[v9 3 (by rfl) ak,p3];omega,?_,?_,ak,ak,ak⟩
  ·rw[e2,v9 3 (by rfl) ak,uB 61 (by rfl) ak,p3,p61,MX 3 8 rfl ak ak ak ak ak ak];omega
  ·rw[v9 3 (by rfl) ak,p3];omega
 ·refine⟨3,42272,8,rfl,ez rfl,rfl,ez (ez rfl),rfl,by rw[v9 3 (by rfl) ak,p3];omega,?_,?_,ak,ak,ak⟩
  ·rw[e2,v9 3 (by rfl) ak,uB 61 (by rfl) ak,p3,p61,MX 3 8 rfl ak ak ak ak ak ak];omega
  ·rw[v9 3 (by rfl) ak,p3];omega
theorem aHr(a b c:Int):(((a%18446744073709551616+b)%18446744073709551616) - c%18446744073709551616)%18446744073709551616=(a+b - c)%18446744073709551616:=ak
theorem au3:Ae.Ok:=by
 rintro⟨hi,lo,y⟩ ⟨hy,h0,h1,h2,h3⟩;have h0:0<=hi:=h0;have h1:hi < y:=h1;have h2:0<=lo:=h2;have h3:lo < 18446744073709551616:=h3;have yb:0 < y/\y < 18446744073709551616:=by
  rcases hy with hy | hy
  ·obtain rfl | rfl | rfl:=hy <;> omega
  ·exact hy.2
 rw[au2,fj ak,sS ak];simp only[au];have z:rB y=aW:=by simp[rB];omega
 by_cases hz:hi=0
 ·subst hz;rw[dJ rfl,z,Tz h2 ak h3,jJ h2];simp only[ao,acU,bm,Int.zero_mul,Int.zero_add]
 ·have hy:aD4 y:=hy.resolve_right λe=>hz e.1
  obtain⟨s,e,m,hs,YI,hm,he,aLp,a1,a2,a3,a4,a5,a6⟩:=aCg hy h0 h1 h2 h3;have c1:dC .u64 (s:Int)=(s:Int):=by rw[akS];omega
  have c2:mL (s:Int)=aW:=s5 ak;have c3:mL (dD .u64 64 (s:Int))=aW:=by rcases YI with rfl | rfl <;> rfl
  rw[fj hz,awg (d:=y) hy];simp only[au,ah,bm,hs,c1,c2,c3,ao,a1,a2,a3];have hN:0<=(hi*18446744073709551616+lo)*m:=Int.mul_nonneg ak (by rcases YI with rfl | rfl <;> omega)
  revert a4 a5 a6
  generalize (hi*18446744073709551616+lo)*m=N at hN;intro a4 a5 a6;have u0:0<=N / 18446744073709551616:=ak;have t0:0<=N%18446744073709551616:=ak;have t1:N%18446744073709551616 < 18446744073709551616:=ak;have hd:N=(N / 18446744073709551616*4294967296+N%18446744073709551616 / 4294967296)*4294967296+N%18446744073709551616%4294967296:=ak;have w10:0<=N%18446744073709551616 / 4294967296:=ak;have w11:N%18446744073709551616 / 4294967296 < 4294967296:=ak;have w00:0<=N%18446744073709551616%4294967296:=ak;have w01:N%18446744073709551616%4294967296 < 4294967296:=ak;have p32:(2:Int)^32=4294967296:=rfl;have b1:cl .u64 (18446744073709551616 - e) 32=4294967295:=by rw[uB 32 (by rfl) ak,p32];rcases he with rfl | rfl | rfl <;> rfl
  have b2:cF .and .u64 (18446744073709551616 - e) 4294967295=4294967296 - e:=by rw[afM ak ak];omega
  have b3:cl .u64 (N%18446744073709551616) 32=N%18446744073709551616 / 4294967296:=by rw[uB 32 (by rfl) ak,p32]
  have b4:cF .and .u64 (N%18446744073709551616) 4294967295=N%18446744073709551616%4294967296:=afM t0 t1;have z2:rB 4294967295=aW:=rfl;simp only[b1,b2,b3,b4,z2,ao];clear a1 a2 a3 b1 b2 b3 b4;have kdd:=kd (18446744073709551616 - e) (N / 18446744073709551616) (N%18446744073709551616 / 4294967296) (N%18446744073709551616%4294967296) ak w00 w01;rw[<-hd,a5]at kdd
  revert a4 kdd
  generalize N / 18446744073709551616=u at u0;generalize N%18446744073709551616 / 4294967296=w1 at w10 w11;generalize N%18446744073709551616%4294967296=w0 at w00 w01;intro a4 kdd
  have g:∀u w:Int,0<=u->u < 18446744073709551616 - e->0<=w->w < 4294967296->
    qG .u64 u 4294967295=u / 4294967295/\dD .u64 u (eB .u64 (u / 4294967295) 4294967295)=u - u / 4294967295*4294967295/\
    dD .u64 (bB .u64 (eB .u64 u 4294967296) w) (eB .u64 ((u*4294967296+w) / (18446744073709551616 - e)) (18446744073709551616 - e))=(u*4294967296+w)%(18446744073709551616 - e):=by
   intro u w k1 k2 k3 k4;obtain⟨q1,q2,q3,q4,q5,q6,q7,q8⟩:=k0 he k1 k2 k3 k4;refine⟨Tz k1 ak ak,by rw[TA,vI];omega,?_⟩;rw[TA,mu,vI,vI,aHr,q4];exact dU q5 ak
  obtain⟨f1,f2,f3⟩:=g u w1 u0 a4 w10 w11;obtain⟨q1,q2,q3,q4,q5,q6,q7,q8⟩:=k0 he u0 a4 w10 w11;have p1:Mc (18446744073709551616 - e,(s:Int),4294967295,4294967296 - e,u,w1,w0,u / 4294967295,u - u / 4294967295*4294967295):=⟨e,he,rfl,rfl,rfl,u0,a4,w10,w11,q2,q3,ak,q1⟩;rw[f1,f2,acV p1];simp only[ah,Md,Db,z2,ao,f3]
  revert f3 q1 kdd
  generalize (u*4294967296+w1)%(18446744073709551616 - e)=v at q4 q5 q6;generalize (u*4294967296+w1) / (18446744073709551616 - e)=Q at q4 q7 q8;intro kdd f3 q1;obtain⟨g1,g2,g3⟩:=g v w0 q5 q6 w00 w01;obtain⟨r1,r2,r3,r4,r5,r6,r7,r8⟩:=k0 he q5 q6 w00 w01;have p2:Me (18446744073709551616 - e,(s:Int),4294967295,4294967296 - e,w0,Q,v - v / 4294967295*4294967295,v,v / 4294967295):=⟨e,he,rfl,rfl,rfl,q5,q6,w00,w01,r2,r3,ak,r1⟩;rw[g1,g2,acW p2];simp only[ah,Mf,Dc,c2,ao,g3];rw[<-kdd.2,uB s (by rfl) ak,<-hm,a6,vI,mu];have e9:(Q*4294967296%18446744073709551616+(v*4294967296+w0) / (18446744073709551616 - e))%18446744073709551616=(hi*18446744073709551616+lo) / y:=by rw[kdd.1];omega
  rw[e9];rfl
theorem ap4:Ae.RS:=rE [.d tu,.d tu,.d tu] Ae
def au4:=Ae.fh au3 2 ⟨.fD agj,⟨.fD agk,trivial⟩⟩
def P9:(Int×Int×Int)->Prop:=λ(hi,lo,y)=>aD4 y/\0<=hi/\hi < 18446744073709551616/\0<=lo/\lo < 18446744073709551616
def NJ:(Int×Int×Int)->Int:=λ(hi,lo,y)=>(hi*18446744073709551616+lo)%y
def NI:Fs Tryz.prog P9 bm NJ:=fg 119 Tryz.f119 (λ(hi,lo,yv)=>([.d tu hi,.d tu lo,.d tu yv],[])) (λx=>⟨.d tu x,[],[]⟩) [aw tu,aw tu,aw tu] [au4]
theorem axx(hi lo yv)(k:K1 R):NI.A (hi,lo,yv) k=aG (rB yv) (aj (Ae.call ((gN hi yv),lo,yv)) λx1=>k (NI.out x1.2)) aF:=cK
theorem axy:NI.Ok:=by
 rintro⟨hi,lo,y⟩ ⟨hy,h0,h1,h2,h3⟩;have h0:0<=hi:=h0;have yb:0 < y:=by obtain rfl | rfl | rfl:=hy <;> omega
 have z:rB y=aW:=by simp[rB];omega
 have p:aaO (hi%y,lo,y):=⟨.inl hy,jv _ ak,iE _ yb,h2,h3⟩;rw[axx,z,jJ h0,ap4 p];have e:(hi%y*18446744073709551616+lo)%y=(hi*18446744073709551616+lo)%y:=by rw[lk,gH,fK _ (np y),<-gH,<-lk]
 simp only[ao,ah,bm,acU,bm,NJ,e]
theorem Qa:NI.RS:=rE [.d tu,.d tu,.d tu] NI
def W7:=NI.fh axy
def aqW:(Int×Int)->Prop:=λ(x,y)=>(0<=x/\x < 18446744073709551616)/\0<=y/\y < 18446744073709551616
def TI:(Int×Int)->(Int×Int):=λ(x,y)=>(x*y / 18446744073709551616,x*y%18446744073709551616)
def MR:Fs Tryz.prog aqW bm TI:=fg 161 Tryz.f161 (λ(x,yv)=>([.d tu x,.d tu yv],[])) (λx=>⟨.cons (.d tu x.1) (.cons (.d tu x.2) (.nil)),[],[]⟩) [aw tu,aw tu]
theorem awi(x yv)(k:K1 R):MR.A (x,yv) k=k (MR.out ((bB .u64 (bB .u64 (eB .u64 (cl .u64 x 32) (cl .u64 yv 32)) (cl .u64 (bB .u64 (eB .u64 (cl .u64 x 32) (cF .and .u64 yv 4294967295)) (cl .u64 (eB .u64 (cF .and .u64 x 4294967295) (cF .and .u64 yv 4294967295)) 32)) 32)) (cl .u64 (bB .u64 (cF .and .u64 (bB .u64 (eB .u64 (cl .u64 x 32) (cF .and .u64 yv 4294967295)) (cl .u64 (eB .u64 (cF .and .u64 x 4294967295) (cF .and .u64 yv 4294967295)) 32)) 4294967295) (eB .u64 (cF .and .u64 x 4294967295) (cl .u64 yv 32))) 32)),(eB .u64 x yv))):=cK
theorem PI{a b m n:Int}(h0:0<=a)(h1:a<=m)(h2:0<=b)(h3:b<=n):0<=a*b/\a*b<=m*n:=⟨Int.mul_nonneg h0 h2,Int.mul_le_mul h1 h3 h2 (Int.le_trans h0 h1)⟩
theorem awj:MR.Ok:=by
 rintro⟨x,y⟩ ⟨⟨h0,h1⟩,h2,h3⟩;have h0:0<=x:=h0;have h1:x < 18446744073709551616:=h1;have h2:0<=y:=h2;have h3:y < 18446744073709551616:=h3;rw[awi];have p32:(2:Int)^32=4294967296:=rfl;have aKn:∀x:Int,cl .u64 x 32=x / 4294967296:=λx=>by rw[uB 32 (by rfl) ak,p32]
 simp only[aKn,afM h0 h1,afM h2 h3];obtain⟨a,b,rfl,a0,a1,b0,b1⟩:∃a b:Int,x=a*4294967296+b/\0<=a/\a<=4294967295/\0<=b/\b<=4294967295:=⟨x / 4294967296,x%4294967296,ak,ak,ak,ak,ak⟩;obtain⟨c,d,rfl,c0,c1,d0,d1⟩:∃a b:Int,y=a*4294967296+b/\0<=a/\a<=4294967295/\0<=b/\b<=4294967295:=⟨y / 4294967296,y%4294967296,ak,ak,ak,ak,ak⟩;have e1:(a*4294967296+b) / 4294967296=a:=ak;have e2:(a*4294967296+b)%4294967296=b:=ak;have e3:(c*4294967296+d) / 4294967296=c:=ak;have e4:(c*4294967296+d)%4294967296=d:=ak;have e5:(a*4294967296+b)*(c*4294967296+d)=a*c*18446744073709551616+(a*d+b*c)*4294967296+b*d:=by
  have q:(4294967296:Int)*4294967296=18446744073709551616:=rfl;rw[Int.add_mul,Int.mul_add,Int.mul_add];have q1:a*4294967296*(c*4294967296)=a*c*18446744073709551616:=by rw[<-q];ac_rfl
  have q2:a*4294967296*d=a*d*4294967296:=by ac_rfl
  have q3:b*(c*4294967296)=b*c*4294967296:=by ac_rfl
  rw[q1,q2,q3];omega
 obtain⟨m1,m2⟩:=PI a0 a1 c0 c1;obtain⟨m3,m4⟩:=PI a0 a1 d0 d1;obtain⟨m5,m6⟩:=PI b0 b1 c0 c1;obtain⟨m7,m8⟩:=PI b0 b1 d0 d1;have n:(4294967295:Int)*4294967295=18446744065119617025:=rfl;rw[n]at m2 m4 m6 m8;simp only[e1,e2,e3,e4,bm,TI,e5,vI,mu]
 revert m1 m2 m3 m4 m5 m6 m7 m8
 generalize a*c=ac;generalize a*d=ad;generalize b*c=bc;generalize b*d=bd;intro m1 m2 m3 m4 m5 m6 m7 m8;have q1:bd%18446744073709551616=bd:=ak;have q2:ad%18446744073709551616=ad:=ak;have q3:bc%18446744073709551616=bc:=ak;have q4:ac%18446744073709551616=ac:=ak;rw[q1,q2,q3,q4];have q5:(ad+bd / 4294967296)%18446744073709551616=ad+bd / 4294967296:=ak;have q6:cF .and .u64 (ad+bd / 4294967296) 4294967295=(ad+bd / 4294967296)%4294967296:=afM ak ak;rw[q5,q6];refine c7 aw (c7 MR.out (Prod.ext ?_ ?_))
 ·show _=(_:Int);simp only[];omega
 ·rfl
theorem abg:MR.RS:=rE [.d tu,.d tu] MR
def aha:=MR.fh awj
def Pn(x:Int):Prop:=0<=x/\x < 4611686018427377339
def iN(x:Int):Prop:=0<=x/\x < 18446744073709551616
theorem Pn.u{x:Int}(h:Pn x):iN x:=⟨h.1,by have:=h.2;omega⟩
def mS(a b:Int):Int:=a*b%4611686018427377339
theorem vO(a b:Int):Pn (mS a b):=⟨jv _ ak,iE _ ak⟩
def afE:Nat->Int->Nat->Int->Int
 | 0,_,_,out=>out
 |f+1,a,n,out=>if n=0 then out else afE f (mS a a) (n / 2) (if n%2=1 then mS out a else out)
def pw(a:Int)(n:Nat):Int:=afE 64 a n 1
theorem zf(f:Nat)(a out:Int):afE f a 0 out=out:=by cases f <;> rfl
theorem VR:∀(f g:Nat) (a:Int) (n:Nat) (out:Int),n < 2^f->n < 2^g->afE f a n out=afE g a n out
 | 0,g,a,n,out,h,_=>by obtain rfl:n=0:=ak;rw[zf,zf]
 |f+1,0,a,n,out,_,h=>by obtain rfl:n=0:=ak;rw[zf,zf]
 |f+1,g+1,a,n,out,h,h'=>by
  have e:(2:Nat)^(f+1)=2^f*2:=tn 2 f;have e':(2:Nat)^(g+1)=2^g*2:=tn 2 g;unfold afE;split
  ·rfl
  ·exact VR f g _ _ _ ak ak
theorem awU:∀(f:Nat) (a:Int) (n:Nat) (out:Int),Pn out->Pn (afE f a n out)
 | 0,_,_,_,h=>h
 |f+1,a,n,out,h=>by
  unfold afE;split
  ·exact h
  ·refine awU f _ _ _ ?_
   split
   ·exact vO _ _
   ·exact h
theorem VU(a:Int)(n:Nat):Pn (pw a n):=awU _ _ _ _ ⟨ak,ak⟩
def alJ:(Int×Int)->Prop:=λ(a,b)=>iN a/\iN b
def awS:(Int×Int)->Int:=λ(a,b)=>mS a b
def Bp:Fs Tryz.prog alJ bm awS:=fg 143 Tryz.f143 (λ(a,b)=>([.d tu a,.d tu b],[])) (λx=>⟨.d tu x,[],[]⟩) [aw tu,aw tu] [aha,W7]
theorem arA(a b)(k:K1 R):Bp.A (a,b) k=aj (MR.call (a,b)) λx1=>aj (NI.call (x1.1,x1.2,4611686018427377339)) λx2=>k (Bp.out x2):=cK
theorem Yt(n:Int):n / 18446744073709551616*18446744073709551616+n%18446744073709551616=n:=ak
theorem arB:Bp.Ok:=by rintro⟨a,b⟩ ⟨ha,hb⟩;have ha:iN a:=ha;have hb:iN b:=hb;obtain⟨m1,m2⟩:=PI ha.1 (show a<=18446744073709551615 by have:=ha.2;omega) hb.1 (show b<=18446744073709551615 by have:=hb.2;omega);have n:(18446744073709551615:Int)*18446744073709551615=340282366920938463426481119284349108225:=rfl;rw[n]at m2;have p:P9 (a*b / 18446744073709551616,a*b%18446744073709551616,4611686018427377339):=⟨jH rfl,ak,ak,ak,ak⟩;rw[arA,abg (d:=(a,b)) ⟨ha,hb⟩];simp only[ah,bm,TI];rw[Qa p];simp only[ah,bm,NJ,Yt];rfl
theorem K5:Bp.RS:=rE [.d tu,.d tu] Bp
def aby:=Bp.fh arB
def Zi:(Int×Int×Int)->Prop:=λ(a,n,o)=>iN a/\iN n/\Pn o
def Ax:(Int×Int×Int)->Int:=λ(a,n,o)=>afE 64 a n.toNat o
def alF:(Int×Int)->Prop:=λ(a,n)=>iN a/\iN n
def ahF:(Int×Int)->Int:=λ(a,n)=>pw a n.toNat
def oz:Ls Zi bm Ax:=oP (λ(oY,vg,outv)=>⟨([.d tu oY,.d tu vg,bK,bK,bK,.d tu outv]++a9 14 []),[],(ag 20 [])⟩) (λx=>(.exit 0,⟨(a9 5 ([.d tu x]++a9 14 [])),[],(ag 20 [])⟩))
def xg:Fs Tryz.prog alF bm ahF:=fg 120 Tryz.f120 (λ(a,n)=>([.d tu a,.d tu n],[])) (λx=>⟨.d tu x,[],[]⟩) [aw tu,aw tu] [aby] {loops:=oN [(2,{aY:=[0,1,5]})],outs:=oM [(2,{aY:=[5]},{aY:=[4]})],fE:=pX [(2,oz.E)]}
theorem Zj:oz.RS:=rL [.d tu,.d tu,.d tu] oz
theorem Gy(oY vg outv)(kn:K2 R)(kx:K3 R):xg.R 0 oz (oY,vg,outv) kn kx=aG (xS vg 0) (aG (wD (cF .and .u64 vg 1) 1) (aj (Bp.call (outv,oY)) λx1=>aj (Bp.call (oY,oY)) λx2=>kn (oz.st (x2,(cl .u64 vg 1),x1))) (aj (Bp.call (oY,oY)) λx3=>kn (oz.st (x3,(cl .u64 vg 1),outv)))) (oz.go kx outv):=cK
theorem ars(a n)(k:K1 R):xg.A (a,n) k=aj (oz.call (a,n,1)) λx4=>k (xg.out x4):=cK
theorem aHJ{n:Int}(h:iN n):cl .u64 n 1=n / 2:=uB 1 (by rfl) ak
theorem ad8:(xg.j8 0 oz):=by
 refine(xg.lX 0 oz) (λ(a,n,o)=>n.toNat) ?_
 rintro⟨a,n,o⟩ ⟨ha,hn,ho⟩;have ha:iN a:=ha;have hn:iN n:=hn;have ho:Pn o:=ho;have n0:=hn.1;have n1:=hn.2;by_cases h:0 < n
 ·left;have e:Ax (a,n,o)=Ax (mS a a,n / 2,if n%2=1 then mS o a else o):=by
   show afE 64 a n.toNat o=afE 64 (mS a a) (n / 2).toNat _;rw[VR 64 65 a n.toNat o ak ak];have t1:(n / 2).toNat=n.toNat / 2:=ak;have t2:(n%2=1)=(n.toNat%2=1):=by apply propext;omega
   rw[t1];simp only[t2];show(if n.toNat=0 then o else _)=_;rw[if_neg ak]
  refine⟨(mS a a,n / 2,if n%2=1 then mS o a else o),⟨(vO a a).u,⟨ak,ak⟩,?_⟩,by show(n / 2).toNat < n.toNat;omega,?_,λkn kx=> ?_⟩
  ·show Pn (if n%2=1 then mS o a else o);split
   ·exact vO _ _
   ·exact ho
  ·exact c7 _ e.symm
  ·rw[Gy,dk h,aHJ hn,aEm n0 n1,K5 (d:=(o,a)) ⟨ho.u,ha⟩,K5 (d:=(a,a)) ⟨ha,ha⟩];by_cases h1:n%2=1
   ·rw[dJ h1,if_pos h1];rfl
   ·rw[fj h1,if_neg h1];rfl
 ·right;intro R kn kx;obtain rfl:n=0:=ak;rw[Gy,cJ ak];simp only[au,bm,Ax];rw[show afE 64 a (ab 0) o=o from zf _ _ _]
theorem art:xg.Ok:=by rintro⟨a,n⟩ ⟨ha,hn⟩;rw[ars,Zj (d:=(a,n,1)) ⟨ha,hn,ak,ak⟩];rfl
theorem KZ:xg.RS:=rE [.d tu,.d tu] xg
def PM:=xg.fh art 1 ⟨.fD ad8,trivial⟩
def vc(p:Int):Bool:=decide (0 < p/\p < 4611686018427377339) && decide (pw p 2305843009213688669=1)
def tk(p:Int):Int:=if vc p then p else 1
theorem X3(p:Int):Pn (tk p):=by
 unfold tk;split
 ·rename_i h;simp only[vc,al,bh]at h;exact⟨ak,ak⟩
 ·exact⟨ak,ak⟩
def BW(p k:Int):Int:=pw (tk p) (k%2305843009213688669).toNat
def iX(k:Int):Int:=BW 4 k
def ahh(p:Int):Int:=pw (tk p) 2305843009213688668
def En(l:List Int):Int:=l.foldl (λo p=>mS o (tk p)) 1
theorem aA9(l:List Int)(o:Int)(h:Pn o):Pn (l.foldl (λo p=>mS o (tk p)) o):=by
 induction l generalizing o with
 |nil=>exact h
 |cons p l ih=>exact ih _ (vO _ _)
theorem ape(l:List Int):Pn (En l):=aA9 l 1 ⟨ak,ak⟩
def alG:Int->Prop:=λp=>iN p
def M7:Int->Bool:=λp=>vc p
def vm:Fs Tryz.prog alG bm M7:=fg 105 Tryz.f105 (λp=>([.d tu p],[])) (λx=>⟨.d .bool x,[],[]⟩) [aw tu] [PM]
theorem aru(p)(k:K1 R):vm.A p k=aG (xS p 0) (aG (fV p 4611686018427377339) (aj (xg.call (p,2305843009213688669)) λx1=>k (vm.out (wD x1 1))) (k (vm.out aQ))) (k (vm.out aQ)):=cK
theorem arv:vm.Ok:=by
 intro p hp;have hp:iN p:=hp;rw[aru,KZ (d:=(p,2305843009213688669)) ⟨hp,by constructor <;> decide⟩];simp only[ah,bm,ahF,bm,M7,vc];by_cases h:0 < p
 ·rw[dk h,ao];by_cases h2:p < 4611686018427377339
  ·rw[aU h2,ao,aI ⟨h,h2⟩,bI];rfl
  ·rw[aT h2,au,aJ (λx=>h2 x.2),dG]
 ·rw[cJ h,au,aJ (λx=>h x.1),dG]
theorem zd:vm.RS:=rE [.d tu] vm
def PN:=vm.fh arv
def alI:Int->Prop:=λp=>iN p
def GA:Int->Int:=λp=>tk p
def Bo:Fs Tryz.prog alI bm GA:=fg 121 Tryz.f121 (λp=>([.d tu p],[])) (λx=>⟨.d tu x,[],[]⟩) [aw tu] [PN]
theorem ary(p)(k:K1 R):Bo.A p k=aj (vm.call p) λx1=>aG (x1) (k (Bo.out p)) (k (Bo.out 1)):=cK
theorem arz:Bo.Ok:=by intro p hp;rw[ary,zd (d:=p) hp];simp only[ah,bm,M7,bm,GA,tk];cases vc p <;> rfl
theorem K4:Bo.RS:=rE [.d tu] Bo
def PO:=Bo.fh arz
def alH:(Int×Int)->Prop:=λ(p,k)=>iN p/\iN k
def ahG:(Int×Int)->Int:=λ(p,k)=>BW p k
def Gz:Fs Tryz.prog alH bm ahG:=fg 77 Tryz.f77 (λ(p,kv)=>([.d tu p,.d tu kv],[])) (λx=>⟨.d tu x,[],[]⟩) [aw tu,aw tu] [PO,PM]
theorem arw(p kv)(k:K1 R):Gz.A (p,kv) k=aj (Bo.call p) λx1=>aj (xg.call (x1,(gN kv 2305843009213688669))) λx2=>k (Gz.out x2):=cK
theorem arx:Gz.Ok:=by rintro⟨p,k⟩ ⟨hp,hk⟩;have hk:iN k:=hk;have e:=jJ (y:=2305843009213688669) hk.1;have b:iN (k%2305843009213688669):=⟨ak,ak⟩;rw[arw,K4 (d:=p) hp,e];simp only[ah,bm,GA];rw[KZ (d:=(tk p,k%2305843009213688669)) ⟨(X3 p).u,b⟩];rfl
theorem VQ:Gz.RS:=rE [.d tu,.d tu] Gz
def abx:=Gz.fh arx
def arf:Int->Prop:=λk=>iN k
def adZ:Int->Int:=λk=>iX k
def Gt:Fs Tryz.prog arf bm adZ:=fg 27 Tryz.f27 (λkv=>([.d tu kv],[])) (λx=>⟨.d tu x,[],[]⟩) [aw tu] [abx]
theorem awJ(kv)(k:K1 R):Gt.A kv k=aj (Gz.call (4,kv)) λx1=>k (Gt.out x1):=cK
theorem awK:Gt.Ok:=by intro k hk;rw[awJ,VQ (d:=(4,k)) ⟨⟨ak,ak⟩,hk⟩];rfl
theorem ID:Gt.RS:=rE [.d tu] Gt
def VJ:=Gt.fh awK
def awQ:Int->Prop:=λp=>iN p
def awP:Int->Int:=λp=>ahh p
def alE:Fs Tryz.prog awQ bm awP:=fg 124 Tryz.f124 (λp=>([.d tu p],[])) (λx=>⟨.d tu x,[],[]⟩) [aw tu] [PO,PM]
theorem aAz(p)(k:K1 R):alE.A p k=aj (Bo.call p) λx1=>aj (xg.call (x1,2305843009213688668)) λx2=>k (alE.out x2):=cK
theorem aAA:alE.Ok:=by intro p hp;rw[aAz,K4 (d:=p) hp];simp only[ah,bm,GA];rw[KZ (d:=(tk p,2305843009213688668)) ⟨(X3 p).u,by constructor <;> decide⟩];rfl
theorem awR:alE.RS:=rE [.d tu] alE
def aAB:=alE.fh aAA
abbrev abu:=Int×Bs×Int×Int
def ahy:abu->Prop:=λ(o,l,n,i)=>Pn o/\(∀x∈l,iN x)/\l.length<=1000000000/\n=l.length/\∃k:Nat,k<=l.length/\i=k
def PK:abu->Int:=λ(o,l,n,i)=>(l.drop i.toNat).foldl (λo p=>mS o (tk p)) o
def VH:Bs->Prop:=λl=>(∀x∈l,iN x)/\l.length<=1000000000
def aC8:Bs->Int:=λl=>En l
def yd:Ls ahy bm PK:=oP (λ(outv,t6,t7,t8)=>⟨([bK,bK,bK,.d tu outv,bK,bK,.d tU t6,.d ti t7,.d ti t8]++a9 9 []),[],(ag 18 [])⟩) (λx=>(.exit 0,⟨([bK,bK,bK,.d tu x]++a9 14 []),[],(ag 18 [])⟩))
def VG:Fs Tryz.prog VH bm aC8:=fg 122 Tryz.f122 (λl=>([.d tU l],[])) (λx=>⟨.d tu x,[],[]⟩) [aw tU] [PO,aby] {loops:=oN [(3,{aY:=[3,6,7,8]})],outs:=oM [(3,{aY:=[3]},{aY:=[2]})],fE:=pX [(3,yd.E)]}
theorem ahz:yd.RS:=rL [.d tu,.d tU,.d ti,.d ti] yd
theorem M0(outv t6 t7 t8)(kn:K2 R)(kx:K3 R):VG.R 0 yd (outv,t6,t7,t8) kn kx=aG (fV t8 t7) (aG (ei t8 (t6.length:Int)) (aj (Bo.call (nth tu t6 (ab t8))) λx1=>aj (Bp.call (outv,x1)) λx2=>kn (yd.st (x2,t6,t7,(bB .i64 t8 1)))) aF) (yd.go kx outv):=cK
theorem aAv(l)(k:K1 R):VG.A l k=aj (yd.call (1,l,(l.length:Int),0)) λx3=>k (VG.out x3):=cK
theorem alw:(VG.j8 0 yd):=by
 refine(VG.lX 0 yd) (λ(o,l,n,i)=>l.length - i.toNat) ?_
 rintro⟨o,l,n,i⟩ ⟨ho,hl,hb,rfl,k,hk,rfl⟩;have ho:Pn o:=ho;have hb:l.length<=1000000000:=hb;have hk:k<=l.length:=hk;by_cases h:k < l.length
 ·left;have hx:=hl _ (ba h);have n1:nth (.int .u64) l k=l[k]:=cC (t:= .int .u64) h;refine⟨(mS o (tk l[k]),l,l.length,((k+1:Nat):Int)),⟨vO _ _,hl,hb,rfl,k+1,ak,rfl⟩,by simp only[aa];omega,?_,λkn kx=> ?_⟩
  ·simp only[bm,PK,aa];rw[aq h];rfl
  ·rw[M0];simp(disch:=omega) only[↓S1,↓if_pos,↓if_neg,if_pos,if_neg,bN,bz,S2,n1];rw[K4 (d:=l[k]) hx];simp only[ah,bm,GA];rw[K5 (d:=(o,tk l[k])) ⟨ho.u,(X3 _).u⟩];rfl
 ·right;obtain rfl:k=l.length:=ak;intro R kn kx;rw[M0];simp(disch:=omega) only[↓S1,↓if_pos,↓if_neg,if_pos,if_neg,bN,bz,S2,bm,PK,aN];rfl
theorem aAw:VG.Ok:=by rintro l ⟨hl,hb⟩;rw[aAv,ahz (d:=(1,l,l.length,0)) ⟨⟨ak,ak⟩,hl,hb,rfl,0,ak,rfl⟩];rfl
theorem ahA:VG.RS:=rE [.d tU] VG
def aoR:=VG.fh aAw 1 ⟨.fD alw,trivial⟩
def awH:(Int×Int)->Prop:=λ(p,q)=>iN p/\iN q
def awG:(Int×Int)->Int:=λ(p,q)=>En [p,q]
def alv:Fs Tryz.prog awH bm awG:=fg 125 Tryz.f125 (λ(p,q)=>([.d tu p,.d tu q],[])) (λx=>⟨.d tu x,[],[]⟩) [aw tu,aw tu] [aoR]
theorem aAs(p q)(k:K1 R):alv.A (p,q) k=aj (VG.call [p,q]) λx1=>k (alv.out x1):=cK
theorem aAt:alv.Ok:=by rintro⟨p,q⟩ ⟨hp,hq⟩;have h:VH [p,q]:=⟨by intro x hx;simp only[cz,j9,or_false]at hx;rcases hx with rfl | rfl <;> assumption,by simp only[aE,bj];omega⟩;rw[aAs,ahA h];rfl
theorem awI:alv.RS:=rE [.d tu,.d tu] alv
def aAu:=alv.fh aAt
def Qn(x:Int):Prop:=0<=x/\x < 2305843009213688669
theorem Qn.u{x:Int}(h:Qn x):iN x:=⟨h.1,by have:=h.2;omega⟩
def VA(a:Int):Int:=a%2305843009213688669
theorem adP(a:Int):Qn (VA a):=⟨jv _ ak,iE _ ak⟩
def acD(a b:Int):Int:=(VA a+VA b)%2305843009213688669
def KL(a b:Int):Int:=VA a*VA b%2305843009213688669
def Af(h:List Int):Int:=h.foldl (λn b=>(n*256+b)%2305843009213688668) 0+1
def acx.b(n:Int):Prop:=0<=n/\n < 2305843009213688668
theorem Uy(h:List Int)(n:Int)(hn:acx.b n):acx.b (h.foldl (λn b=>(n*256+b)%2305843009213688668) n):=by
 induction h generalizing n with
 |nil=>exact hn
 |cons p l ih=>exact ih _ ⟨jv _ ak,iE _ ak⟩
theorem Mj(h:List Int):0 < Af h/\Af h < 2305843009213688669:=by have:=Uy h 0 ⟨ak,ak⟩;have h1:=this.1;have h2:=this.2;unfold Af;omega
theorem an8(a b:Int):Qn (acD a b):=⟨jv _ ak,iE _ ak⟩
theorem aoJ(a b:Int):Qn (KL a b):=⟨jv _ ak,iE _ ak⟩
def akB:Int->Prop:=λ_=>True
def Mi:Int->Bool:=λa=>fV a 2305843009213688669
def Di:Fs Tryz.prog akB bm Mi:=fg 48 Tryz.f48 (λa=>([.d tu a],[])) (λx=>⟨.d .bool x,[],[]⟩) [aw tu]
theorem aqf(a)(k:K1 R):Di.A a k=k (Di.out (fV a 2305843009213688669)):=cK
theorem aqg:Di.Ok:=by intro a _;rw[aqf];rfl
theorem Kx:Di.RS:=rE [.d tu] Di
def Pf:=Di.fh aqg
def azy:Int->Prop:=λa=>iN a
def avl:Int->Int:=λa=>VA a
def ayP:Fs Tryz.prog azy bm avl:=fg 144 Tryz.f144 (λa=>([.d tu a],[])) (λx=>⟨.d tu x,[],[]⟩) [aw tu]
theorem aCk(a)(k:K1 R):ayP.A a k=k (ayP.out (gN a 2305843009213688669)):=cK
theorem aCl:ayP.Ok:=by intro a ha;rw[aCk,jJ ha.1];rfl
theorem Tu:ayP.RS:=rE [.d tu] ayP
def avm:=ayP.fh aCl
def aqd:(Int×Int)->Prop:=λ(a,b)=>Qn a/\Qn b
def azz:(Int×Int)->Int:=λ(a,b)=>(a+b)%2305843009213688669
def Ux:Fs Tryz.prog aqd bm azz:=fg 145 Tryz.f145 (λ(a,b)=>([.d tu a,.d tu b],[])) (λx=>⟨.d tu x,[],[]⟩) [aw tu,aw tu]
theorem avn(a b)(k:K1 R):Ux.A (a,b) k=k (Ux.out (gN (bB .u64 a b) 2305843009213688669)):=cK
theorem avo:Ux.Ok:=by
 rintro⟨a,b⟩ ⟨ha,hb⟩;have ha:Qn a:=ha;have hb:Qn b:=hb;obtain⟨h1,h2⟩:=ha;obtain⟨h3,h4⟩:=hb;have e:bB .u64 a b=a+b:=by rw[mu];omega
 rw[avn,e,jJ ak];rfl
theorem aqe:Ux.RS:=rE [.d tu,.d tu] Ux
def avp:=Ux.fh avo
def akC:(Int×Int)->Prop:=λ(a,b)=>Qn a/\Qn b
def avq:(Int×Int)->Int:=λ(a,b)=>a*b%2305843009213688669
def Ky:Fs Tryz.prog akC bm avq:=fg 146 Tryz.f146 (λ(a,b)=>([.d tu a,.d tu b],[])) (λx=>⟨.d tu x,[],[]⟩) [aw tu,aw tu] [aha,W7]
theorem aqh(a b)(k:K1 R):Ky.A (a,b) k=aj (MR.call (a,b)) λx1=>aj (NI.call (x1.1,x1.2,2305843009213688669)) λx2=>k (Ky.out x2):=cK
theorem aqi:Ky.Ok:=by rintro⟨a,b⟩ ⟨ha,hb⟩;have ha:Qn a:=ha;have hb:Qn b:=hb;obtain⟨m1,m2⟩:=PI ha.1 (show a<=18446744073709551615 by have:=ha.2;omega) hb.1 (show b<=18446744073709551615 by have:=hb.2;omega);have n:(18446744073709551615:Int)*18446744073709551615=340282366920938463426481119284349108225:=rfl;rw[n]at m2;have p:P9 (a*b / 18446744073709551616,a*b%18446744073709551616,2305843009213688669):=⟨ez (jH rfl),ak,ak,ak,ak⟩;rw[aqh,abg (d:=(a,b)) ⟨ha.u,hb.u⟩];simp only[ah,bm,TI];rw[Qa p];simp only[ah,bm,NJ,Yt];rfl
theorem akD:Ky.RS:=rE [.d tu,.d tu] Ky
def aqj:=Ky.fh aqi
def au9:(Int×Int)->Prop:=λ(a,b)=>iN a/\iN b
def aCi:(Int×Int)->Int:=λ(a,b)=>acD a b
def akw:Fs Tryz.prog au9 bm aCi:=fg 126 Tryz.f126 (λ(a,b)=>([.d tu a,.d tu b],[])) (λx=>⟨.d tu x,[],[]⟩) [aw tu,aw tu] [avm,avp]
theorem azo(a b)(k:K1 R):akw.A (a,b) k=aj (ayP.call a) λx1=>aj (ayP.call b) λx2=>aj (Ux.call (x1,x2)) λx3=>k (akw.out x3):=cK
theorem azp:akw.Ok:=by rintro⟨a,b⟩ ⟨ha,hb⟩;rw[azo,Tu (d:=a) ha,Tu (d:=b) hb];simp only[ah,bm,avl];rw[aqe (d:=(VA a,VA b)) ⟨adP a,adP b⟩];rfl
theorem ava:akw.RS:=rE [.d tu,.d tu] akw
def azq:=akw.fh azp
def avj:(Int×Int)->Prop:=λ(a,b)=>iN a/\iN b
def avi:(Int×Int)->Int:=λ(a,b)=>KL a b
def akA:Fs Tryz.prog avj bm avi:=fg 127 Tryz.f127 (λ(a,b)=>([.d tu a,.d tu b],[])) (λx=>⟨.d tu x,[],[]⟩) [aw tu,aw tu] [avm,aqj]
theorem azv(a b)(k:K1 R):akA.A (a,b) k=aj (ayP.call a) λx1=>aj (ayP.call b) λx2=>aj (Ky.call (x1,x2)) λx3=>k (akA.out x3):=cK
theorem azw:akA.Ok:=by rintro⟨a,b⟩ ⟨ha,hb⟩;rw[azv,Tu (d:=a) ha,Tu (d:=b) hb];simp only[ah,bm,avl];rw[akD (d:=(VA a,VA b)) ⟨adP a,adP b⟩];rfl
theorem avk:akA.RS:=rE [.d tu,.d tu] akA
def azx:=akA.fh azw
def ac4:(Int×Bs×Int)->Prop:=λ(n,h,i)=>acx.b n/\h.length=32/\Bytes h/\∃k:Nat,k<=32/\i=k
def Dg:(Int×Bs×Int)->Int:=λ(n,h,i)=>(h.drop i.toNat).foldl (λn b=>(n*256+b)%2305843009213688668) n
def ap8:Bs->Prop:=λh=>h.length=32/\Bytes h
def ac3:Bs->Int:=λh=>Af h
def tv:Ls ac4 bm Dg:=oP (λ(n,t6,t7)=>⟨([bK,bK,bK,.d tu n,bK,bK,.d tH t6,.d ti t7]++a9 13 []),[],(ag 21 [])⟩) (λx=>(.exit 0,⟨([bK,bK,bK,.d tu x]++a9 17 []),[],(ag 21 [])⟩))
def EL:Fs Tryz.prog ap8 bm ac3:=fg 76 Tryz.f76 (λh=>([.d tH h],[])) (λx=>⟨.d tu x,[],[]⟩) [aw tH] [W7] {loops:=oN [(3,{aY:=[3,6,7]})],outs:=oM [(3,{aY:=[3]},{aY:=[2]})],fE:=pX [(3,tv.E)]}
theorem ac5:tv.RS:=rL [.d tu,.d tB,.d ti] tv
theorem Je(n t6 t7)(kn:K2 R)(kx:K3 R):EL.R 0 tv (n,t6,t7) kn kx=aG (fV t7 32) (aG (ei t7 32) (aj (NI.call ((cl .u64 n 56),(cF .or .u64 (mH .u64 n 8) (dC .u64 (nth tb t6 (ab t7)))),2305843009213688668)) λx1=>kn (tv.st (x1,t6,(bB .i64 t7 1)))) aF) (tv.go kx n):=cK
theorem avc(h)(k:K1 R):EL.A h k=aj (tv.call (0,h,0)) λx2=>k (EL.out (bB .u64 x2 1)):=cK
theorem Q1{n b:Int}(hn:acx.b n)(hb:SB b):cl .u64 n 56*18446744073709551616+cF .or .u64 (mH .u64 n 8) (dC .u64 b)=n*256+b/\iN (cl .u64 n 56)/\iN (cF .or .u64 (mH .u64 n 8) (dC .u64 b)):=by
 obtain⟨h1,h2⟩:=hn;obtain⟨h3,h4⟩:=hb;have p56:(2:Int)^56=72057594037927936:=rfl;have p8:(2:Int)^8=256:=rfl;have e:dC .u64 b=b:=by rw[akS];omega
 rw[uB 56 (by rfl) ak,v9 8 (by rfl) ak,p56,p8,e,MX 8 256 rfl ak ak ak ak ak ak];exact⟨ak,⟨ak,ak⟩,ak,ak⟩
theorem agq:(EL.j8 0 tv):=by
 refine(EL.lX 0 tv) (λ(n,h,i)=>32 - i.toNat) ?_
 rintro⟨n,h,i⟩ ⟨hn,hl,hb,k,hk,rfl⟩;have hn:acx.b n:=hn;have hl:h.length=32:=hl;have hb:Bytes h:=hb;by_cases jQ:k < 32
 ·left;have hx:SB (h[k]'(ak)):=hb _ (ba _);have n1:nth (.int .u8) h k=h[k]'(ak):=cC (t:= .int .u8) ak;obtain⟨d1,d2,d3⟩:=Q1 hn hx;refine⟨((n*256+h[k]'(ak))%2305843009213688668,h,((k+1:Nat):Int)),⟨⟨ak,ak⟩,hl,hb,k+1,ak,rfl⟩,by simp only[aa];omega,?_,λkn kx=> ?_⟩
  ·simp only[bm,Dg,aa];rw[aq (by omega:k < h.length)];rfl
  ·rw[Je];simp(disch:=omega) only[↓S1,↓if_pos,↓if_neg,if_pos,if_neg,bN,bz,S2,n1];rw[Qa (d:=(_,_,2305843009213688668)) ⟨ez (ez rfl),d2.1,d2.2,d3.1,d3.2⟩];simp only[ah,bm,NJ,d1]
 ·right;obtain rfl:k=32:=ak;intro R kn kx;rw[Je];simp(disch:=omega) only[↓S1,↓if_pos,↓if_neg,if_pos,if_neg,bN,bz,S2,bm,Dg];rw[dh ak];rfl
theorem avd:EL.Ok:=by
 rintro h ⟨hl,hb⟩;have e:=Uy h 0 ⟨ak,ak⟩;have h1:=e.1;have h2:=e.2;rw[avc,ac5 (d:=(0,h,0)) ⟨⟨ak,ak⟩,hl,hb,0,ak,rfl⟩];simp only[ah,bm,Dg,bm,ac3,Af,aS,aM]
 revert h1 h2
 generalize h.foldl (λn b=>(n*256+b)%2305843009213688668) 0=m;intro h1 h2;have e:bB .u64 m 1=m+1:=by rw[mu];omega
 rw[e]
theorem Pb:EL.RS:=rE [.d tB] EL
def Ut:=EL.fh avd 1 ⟨.fD agq,trivial⟩
theorem afS(n:Int): [dC .u8 (cl .u64 n 56),dC .u8 (cl .u64 n 48),dC .u8 (cl .u64 n 40),dC .u8 (cl .u64 n 32),dC .u8 (cl .u64 n 24),dC .u8 (cl .u64 n 16),dC .u8 (cl .u64 n 8),dC .u8 (cl .u64 n 0)]=gV n:=aj8 n
theorem dw{α:Type}{l:List α}{n:Nat}(h:l.length=n):cut l 0 n=l:=by subst h;simp[cut]
theorem aji{n:ByteArray}{a b c:List Int}(hn:n.size<=100)(ha:a.length<=1000000)(hb:b.length<=1000000)(hc:c.length<=1000000):Mx (n,[a,b,c]):=by show(QC _ [a,b,c]).length<=_;rw[QC];simp only[oU,cI,pO,ai,bT,lz,bj];omega
theorem ajh{n:ByteArray}{a b:List Int}(hn:n.size<=100)(ha:a.length<=1000000)(hb:b.length<=1000000):Mx (n,[a,b]):=by show(QC _ [a,b]).length<=_;rw[QC];simp only[oU,cI,pO,ai,bT,lz,bj];omega
theorem XM{n:ByteArray}{a:List Int}(hn:n.size<=100)(ha:a.length<=1000000):Mx (n,[a]):=by show(QC _ [a]).length<=_;rw[QC];simp only[oU,cI,pO,ai,bT,lz,bj];omega
def Sm(m:List Int):Prop:=m.length=32/\Bytes m
theorem aDp(b:List Int):Sm (aDk b):=⟨ano b,apJ b⟩
theorem Qz(n:List Int)(ps:List (List Int)):Sm (tag n ps):=aDp _
def anF(n:ByteArray)(ps:List (List Int)):List Int:=tag (bw n) ps
def aFv:ByteArray:=⟨#[115,105,103]⟩
def alo:ByteArray:=⟨#[110,111,110,99,101]⟩
def wB(r p:Int)(m:List Int):Int:=Af (anF aFv [gV r,gV p,m])
theorem L7(r p:Int)(m:List Int):Qn (wB r p m):=by have:=Mj (anF aFv [gV r,gV p,m]);exact⟨by unfold wB;omega,by unfold wB;omega⟩
def ay2(s:Sg):Prop:=iN s.1/\iN s.2.1
def Uf(p:Int)(m:List Int)(t:Int)(s:Sg):Bool:=if p=1\/vc p=aQ\/vc t=aQ\/vc s.1=aQ\/¬s.2.1 < 2305843009213688669 then aQ else decide (iX s.2.1=En [s.1,BW p (wB s.1 p m),ahh t])
def Tm(k nonce:Int)(m:List Int)(t:Int):Sg:=(En [iX nonce,t],acD nonce (KL (wB (En [iX nonce,t]) (iX k) m) k),())
def aws(k:Int)(m:List Int):Int:=Af (anF alo [gV k,m])
def pD(k:Int)(m:List Int):Sg:=if k < 2305843009213688669/\k≠0 then Tm k (aws k m) m 1 else(0,0,())
def akr:Int->Prop:=λ_=>True
def Uq:Int->Bs:=λn=>gV n
def De:Fs Tryz.prog akr bm Uq:=fg 93 Tryz.f93 (λn=>([.d tu n],[])) (λx=>⟨.d tB x,[],[]⟩) [aw tu] [] {loops:=oN [(3,{aY:=[0,3,7,8],sites:=[5]})],outs:=oM [(3,{aY:=[3],sites:=[5]},{aY:=[2],sites:=[5]})],res:=[aw tB]} 12
theorem ap5(n)(k:K1 R):De.A n k=k (De.out [(dC .u8 (cl .u64 n 56)),(dC .u8 (cl .u64 n 48)),(dC .u8 (cl .u64 n 40)),(dC .u8 (cl .u64 n 32)),(dC .u8 (cl .u64 n 24)),(dC .u8 (cl .u64 n 16)),(dC .u8 (cl .u64 n 8)),(dC .u8 (cl .u64 n 0))]):=cK
theorem ap6:De.Ok:=by intro n _;rw[ap5,afS];rfl
theorem Kr:De.RS:=rE [.d tu] De
def aaP:=De.fh ap6 1 ⟨.none cK,trivial⟩
def apN:(Int×Int×Bs)->Prop:=λ(r,p,m)=>Sm m
def acM:(Int×Int×Bs)->Int:=λ(r,p,m)=>wB r p m
def QY:Fs Tryz.prog apN bm acM:=fg 123 Tryz.f123 (λ(r,p,m)=>([.d tu r,.d tu p,.d tH m],[])) (λx=>⟨.d tu x,[],[]⟩) [aw tu,aw tu,aw tH] [aaP,Tw,Ut]
theorem auB(r p m)(k:K1 R):QY.A (r,p,m) k=aj (De.call r) λx1=>aj (De.call p) λx2=>aj (Pp.call ((⟨#[115,105,103]⟩:ByteArray),[x1,x2,(cut m 0 32)])) λx3=>aj (EL.call x3) λx4=>k (QY.out x4):=cK
theorem auC:QY.Ok:=by rintro⟨r,p,m⟩ hm;have hm:Sm m:=hm;rw[auB,Kr (d:=r) trivial,Kr (d:=p) trivial];simp only[ah,bm,Uq];rw[dw hm.1,My (aji gw (by rw[bT];omega) (by rw[bT];omega) (by rw[hm.1];omega))];simp only[ah,bm,UH];rw[Pb (d:=tag (bw (⟨#[115,105,103]⟩:ByteArray)) [gV r,gV p,m]) (Qz _ _)];rfl
theorem aaG:QY.RS:=rE [.d tu,.d tu,.d tB] QY
def af7:=QY.fh auC
abbrev ab4:=Int×Bs×Int×Sg
def aiR:ab4->Prop:=λ(p,m,t,s)=>iN p/\Sm m/\iN t/\ay2 s
def ab5:ab4->Bool:=λ(p,m,t,s)=>Uf p m t s
def r9:Fs Tryz.prog aiR bm ab5:=fg 78 Tryz.f78 (λ(p,m,t,pre)=>([.d tu p,.d tH m,.d tu t,.d oE pre],[])) (λx=>⟨.d .bool x,[],[]⟩) [aw tu,aw tH,aw tu,aw oE] [PN,Pf,af7,abx,aAB,aoR,VJ]
theorem anj(p m t pre)(k:K1 R):r9.A (p,m,t,pre) k=aG (wD p 1) (k (r9.out aQ)) (aj (vm.call p) λx1=>aG (!x1) (k (r9.out aQ)) (aj (vm.call t) λx2=>aG (!x2) (k (r9.out aQ)) (aj (vm.call pre.1) λx3=>aG (!x3) (k (r9.out aQ)) (aj (Di.call pre.2.1) λx4=>aG (!x4) (k (r9.out aQ)) (aj (QY.call (pre.1,p,m)) λx5=>aj (Gz.call (p,x5)) λx6=>aj (alE.call t) λx7=>aj (VG.call [pre.1,x6,x7]) λx8=>aj (Gt.call pre.2.1) λx9=>k (r9.out (wD x9 x8))))))):=cK
theorem ank:r9.Ok:=by
 rintro⟨p,m,t,s⟩ ⟨hp,hm,ht,hs⟩;have hp:iN p:=hp;have ht:iN t:=ht;have hm:Sm m:=hm;have hs:ay2 s:=hs;rw[anj,zd (d:=p) hp,zd (d:=t) ht,zd (d:=s.1) hs.1,Kx (d:=s.2.1) trivial];simp only[ah,bm,M7,bm,Mi,bm,ab5,Uf];by_cases h1:p=1
 ·rw[dJ h1,ao,if_pos (jH h1)]
 rw[fj h1,au];cases h2:vc p
 ·rw[if_pos (ez (jH rfl))];rfl
 cases h3:vc t
 ·rw[if_pos (ez (ez (jH rfl)))];rfl
 cases h4:vc s.1
 ·rw[if_pos (ez (ez (ez (jH rfl))))];rfl
 by_cases h5:s.2.1 < 2305843009213688669
 ·rw[aU h5,if_neg (by simp[h1,h5])];have hq:=L7 s.1 p m;rw[aaG (d:=(s.1,p,m)) hm];simp only[cd,au,ah,bm,acM];rw[VQ (d:=(p,wB s.1 p m)) ⟨hp,hq.u⟩,awR (d:=t) ht];simp only[ah,bm,ahG,bm,awP];have q:VH [s.1,BW p (wB s.1 p m),ahh t]:=⟨by
   intro x hx;simp only[cz,j9,or_false]at hx;rcases hx with rfl | rfl | rfl
   ·exact hs.1
   ·exact(VU _ _).u
   ·exact(VU _ _).u,by simp only[aE,bj];omega⟩
  rw[ahA q,ID (d:=s.2.1) hs.2];rfl
 ·rw[aT h5,if_pos (ez (ez (ez (ez h5))))];rfl
theorem aiS:r9.RS:=rE [.d tu,.d tB,.d tu,.d oE] r9
def anl:=r9.fh ank
def ajf:(Int×Bs×Sg)->Prop:=λ(p,m,s)=>iN p/\Sm m/\ay2 s
def acd:(Int×Bs×Sg)->Bool:=λ(p,m,s)=>Uf p m 1 s
def A0:Fs Tryz.prog ajf bm acd:=fg 29 Tryz.f29 (λ(p,m,sv)=>([.d tu p,.d tH m,.d oE sv],[])) (λx=>⟨.d .bool x,[],[]⟩) [aw tu,aw tH,aw oE] [anl]
theorem anC(p m sv)(k:K1 R):A0.A (p,m,sv) k=aj (r9.call (p,m,1,sv)) λx1=>k (A0.out x1):=cK
theorem anD:A0.Ok:=by rintro⟨p,m,s⟩ ⟨hp,hm,hs⟩;rw[anC,aiS (d:=(p,m,1,s)) ⟨hp,hm,⟨ak,ak⟩,hs⟩];rfl
theorem ajg:A0.RS:=rE [.d tu,.d tB,.d oE] A0
def anE:=A0.fh anD
def ax8:Int->Prop:=λ_=>True
def anr:Int->Bool:=λk=>decide (k < 2305843009213688669/\k≠0)
def ai6:Fs Tryz.prog ax8 bm anr:=fg 91 Tryz.f91 (λkv=>([.d tu kv],[])) (λx=>⟨.d .bool x,[],[]⟩) [aw tu] [Pf]
theorem aA6(kv)(k:K1 R):ai6.A kv k=aj (Di.call kv) λx1=>aG (x1) (k (ai6.out (Ak kv 0))) (k (ai6.out aQ)):=cK
theorem aA7:ai6.Ok:=by
 intro k _;rw[aA6,Kx (d:=k) trivial];simp only[ah,bm,Mi,bm,anr];by_cases h:k < 2305843009213688669
 ·rw[aU h,ao];by_cases h0:k=0
  ·rw[cZ h0,aJ (λx=>x.2 h0)]
  ·rw[eR h0,aI ⟨h,h0⟩]
 ·rw[aT h,au,aJ (λx=>h x.1)]
theorem ax9:ai6.RS:=rE [.d tu] ai6
def aA8:=ai6.fh aA7
abbrev ab3:=Int×Int×Bs×Int
def aiP:ab3->Prop:=λ(k,n,m,t)=>iN k/\iN n/\Sm m/\iN t
def as2:ab3->Sg:=λ(k,n,m,t)=>Tm k n m t
def Ej:Fs Tryz.prog aiP bm as2:=fg 92 Tryz.f92 (λ(kv,nonce,m,t)=>([.d tu kv,.d tu nonce,.d tH m,.d tu t],[])) (λx=>⟨.d oE x,[],[]⟩) [aw tu,aw tu,aw tH,aw tu] [VJ,aAu,af7,azx,azq]
theorem ang(kv nonce m t)(k:K1 R):Ej.A (kv,nonce,m,t) k=aj (Gt.call nonce) λx1=>aj (alv.call (x1,t)) λx2=>aj (Gt.call kv) λx3=>aj (QY.call (x2,x3,m)) λx4=>aj (akA.call (x4,kv)) λx5=>aj (akw.call (nonce,x5)) λx6=>k (Ej.out (x2,(x6,()))):=cK
theorem anh:Ej.Ok:=by rintro⟨k,n,m,t⟩ ⟨hk,hn,hm,ht⟩;have hk:iN k:=hk;have hn:iN n:=hn;have hm:Sm m:=hm;have ht:iN t:=ht;rw[ang,ID (d:=n) hn];simp only[ah,bm,adZ];rw[awI (d:=(iX n,t)) ⟨(VU _ _).u,ht⟩,ID (d:=k) hk];simp only[ah,bm,adZ,bm,awG];rw[aaG (d:=(En [iX n,t],iX k,m)) hm];simp only[ah,bm,acM];rw[avk (d:=(wB (En [iX n,t]) (iX k) m,k)) ⟨(L7 _ _ _).u,hk⟩];simp only[ah,bm,avi];rw[ava (d:=(n,KL (wB (En [iX n,t]) (iX k) m) k)) ⟨hn,(aoJ _ _).u⟩];rfl
theorem aiQ:Ej.RS:=rE [.d tu,.d tu,.d tB,.d tu] Ej
def ani:=Ej.fh anh
def atf:(Int×Bs)->Prop:=λ(k,m)=>iN k/\Sm m
def TR:(Int×Bs)->Sg:=λ(k,m)=>pD k m
def Oi:Fs Tryz.prog atf bm TR:=fg 51 Tryz.f51 (λ(kv,m)=>([.d tu kv,.d tH m],[])) (λx=>⟨.d oE x,[],[]⟩) [aw tu,aw tH] [aA8,aaP,Tw,Ut,ani]
theorem aye(kv m)(k:K1 R):Oi.A (kv,m) k=aj (ai6.call kv) λx1=>aG (!x1) (k (Oi.out (0,(0,())))) (aj (De.call kv) λx2=>aj (Pp.call ((⟨#[110,111,110,99,101]⟩:ByteArray),[x2,(cut m 0 32)])) λx3=>aj (EL.call x3) λx4=>aj (Ej.call (kv,x4,m,1)) λx5=>k (Oi.out x5)):=cK
theorem ayf:Oi.Ok:=by
 rintro⟨k,m⟩ ⟨hk,hm⟩;have hk:iN k:=hk;have hm:Sm m:=hm;rw[aye,ax9 (d:=k) trivial];simp only[ah,bm,anr,bm,TR,pD];by_cases h:k < 2305843009213688669/\k≠0
 ·rw[aI h,if_pos h,Kr (d:=k) trivial,dw hm.1];simp only[cd,au,ah,bm,Uq];rw[My (ajh gw (by rw[bT];omega) (by rw[hm.1];omega))];simp only[ah,bm,UH];rw[Pb (d:=tag (bw (⟨#[110,111,110,99,101]⟩:ByteArray)) [gV k,m]) (Qz _ _)];simp only[ah,bm,ac3];have q:=Mj (tag (bw (⟨#[110,111,110,99,101]⟩:ByteArray)) [gV k,m]);rw[aiQ (d:=(k,Af (tag (bw (⟨#[110,111,110,99,101]⟩:ByteArray)) [gV k,m]),m,1)) ⟨hk,⟨ak,ak⟩,hm,ak,ak⟩];rfl
 ·rw[aJ h,if_neg h];rfl
theorem acb:Oi.RS:=rE [.d tu,.d tB] Oi
def ajc:=Oi.fh ayf
def TX(l:List Int):Prop:=∀x∈l,iN x
def atT(b:mr):Prop:=TX b.1/\iN b.2.2.2.1
def YH(l:Lk):Prop:=∀b∈l.1,atT b
def adl(n:Int):Bool:=decide (0<=n/\n<=1048576)
def xG(b:mr):Bool:=decide (b.1.length<=12) && (b.1.all vc && (adl b.2.1 && (adl b.2.2.1 && (decide (b.2.2.2.1=0) || vc b.2.2.2.1))))
def og(l:Lk):Bool:=l.1.all xG && decide (0 < l.1.length/\l.1.length<=4)
def xC:List Int->Int->Int⊕Unit
 |[],_=> .inr ()
 |p::ps,i=>if vc p then xC ps (i+1) else .inl i
def aoa(l:List Int):Int:=match xC l 0 with | .inl i=>i | .inr _=> -1
theorem QP:∀(l:List Int) (i:Int),0<=i->(match xC l i with | .inl i=>decide (i>=0) | .inr _=>aQ)= !(l.all vc)
 |[],_,_=>rfl
 |p::ps,i,h=>by
  rw[xC,fp];cases hp:vc p
  ·simp[h]
  ·simp only[bN,bI];exact QP ps (i+1) ak
theorem apu(l:List Int):B8 (aoa l) 0= !(l.all vc):=by
 have:=QP l 0 ak;unfold aoa B8;cases h:xC l 0
 ·rw[h]at this;exact this
 ·rw[h]at this;rw[<-this];rfl
def av0:Int->Prop:=λp=>iN p
def ads:Int->Bool:=λp=> !vc p
def agS:Fs Tryz.prog av0 bm ads:=fg 104 Tryz.f104 (λp=>([.d tu p],[])) (λx=>⟨.d .bool x,[],[]⟩) [aw tu] [PN]
theorem az2(p)(k:K1 R):agS.A p k=aj (vm.call p) λx1=>k (agS.out (!x1)):=cK
theorem az3:agS.Ok:=by intro p hp;rw[az2,zd (d:=p) hp];rfl
theorem UP:agS.RS:=rE [.d tu] agS
def aoB:=agS.fh az3
abbrev wN:=Bs×Int×Int
def p9:wN->AS:=λ(wY,t7,t8)=>⟨([.d tU wY,.fn 104 (.nil)]++a9 5 ([.d ti t7,.d ti t8]++a9 10 [])),[],(ag 19 [])⟩
def vQ:Int->Exit×AS:=λx=>(.ret,⟨(a9 4 ([.d ti x]++a9 14 [])),[],(ag 19 [])⟩)
def vR:Unit->Exit×AS:=λx=>(.exit 0,⟨(a9 19 []),[],(ag 19 [])⟩)
abbrev Gw:=(Int)⊕(Unit)
abbrev RJ:=(Int)⊕(Unit)
def Bn:Gw->Out (Exit×AS):=λx=> .br x.isLeft (.get x.getLeft? λa=> .ok (vQ a)) (.get x.getRight? λb=> .ok (vR b))
def jT:wN->RJ->Gw:=λ(wY,t7,t8) y=>match y with | .inl y=> .inl y | .inr z=> .inr (z)
def vP:wN->Prop:=λ(l,n,i)=>TX l/\l.length<=1000000000/\n=l.length/\∃k:Nat,k<=l.length/\i=k
def na:wN->RJ:=λ(l,n,i)=>xC (l.drop i.toNat) i
def alC:Bs->Prop:=λl=>TX l/\l.length<=1000000000
def VP:Bs->Int:=λl=>aoa l
def RH:=eu.fD p9 vP jT na Bn
def Gx:wN->Option Gw:=jq RH p9
def xf:Fs Tryz.prog alC bm VP:=fg 134 Tryz.f134 (λsv=>([.d tU sv,.fn 104 (.nil)],[])) (λx=>⟨.d ti x,[],[]⟩) [aw tU,aF] [aoB] {loops:=oN [(2,{aY:=[0,1,7,8]})],outs:=oM [(2,{},{aY:=[4]})],fE:=pX [(2,RH)]}
def RI:= @fO Tryz.prog (oc xf.G) xf.an 0 Tryz.f134 0 _ p9
abbrev M4:=oT Tryz.prog (oc xf.G) xf.an 0 Tryz.f134 0 p9 vP jT na Bn
theorem Zg:nw Gx vP jT na:=qL (qF [.d tU,.d ti,.d ti] λ_=>cK)
theorem KY:qN @RI p9 vP jT na Bn M4:=sk
theorem zb(wY t7 t8)(kn:K2 R)(kx:K3 R):RI (wY,t7,t8) kn kx=aG (fV t8 t7) (aG (ei t8 (((ae wY):Nat):Int)) (aj (agS.call (nth tu wY (ab t8))) λx1=>aG (x1) (kx (vQ t8).1 (vQ t8).2) (kn (p9 (wY,t7,(bB .i64 t8 (1:Int)))))) aF) (kx (vR ()).1 (vR ()).2):=cK
theorem arn(sv)(k:K1 R):xf.A sv k=aj (Gx (sv,(sv.length:Int),0)) λx2=>aG x2.isLeft (aj x2.getLeft? λa3=>k (xf.out a3)) (aj x2.getRight? λb4=>k (xf.out (-1))):=cK
theorem ad5:M4:=by
 refine KY (λ(l,n,i)=>l.length - i.toNat) ?_
 rintro⟨l,n,i⟩ ⟨hl,hb,rfl,k,hk,rfl⟩;have hb:l.length<=1000000000:=hb;have hk:k<=l.length:=hk;by_cases h:k < l.length
 ·have hx:=hl _ (ba h);have n1:nth (.int .u64) l k=l[k]:=cC (t:= .int .u64) h;have hd:xC (l.drop k) k=if vc l[k] then xC (l.drop (k+1)) ((k+1:Nat):Int) else .inl (k:Int):=by rw[aq h];rfl
  cases hp:vc l[k]
  ·right;refine⟨vQ (k:Int),?_,λkn kx=> ?_⟩
   ·simp only[jT,na,aa,hd,hp,bU,bz];rfl
   ·rw[zb];simp(disch:=omega) only[↓S1,↓if_pos,↓if_neg,if_pos,if_neg,bN,bz,S2,n1];rw[UP (d:=l[k]) hx];simp only[ah,bm,ads,hp,eP,ao]
  ·left;refine⟨(l,l.length,((k+1:Nat):Int)),⟨hl,hb,rfl,k+1,ak,rfl⟩,by simp only[aa];omega,?_,λkn kx=> ?_⟩
   ·simp only[jT,na,aa,hd,hp,bN]
   ·rw[zb];simp(disch:=omega) only[↓S1,↓if_pos,↓if_neg,if_pos,if_neg,bN,bz,S2,n1];rw[UP (d:=l[k]) hx];simp only[ah,bm,ads,hp,cd,au]
 ·right;obtain rfl:k=l.length:=ak;refine⟨vR (),?_,λkn kx=> ?_⟩
  ·simp only[jT,na,aa,aN];rfl
  ·rw[zb];simp(disch:=omega) only[↓S1,↓if_pos,↓if_neg,if_pos,if_neg,bN,bz,S2]
theorem aro:xf.Ok:=by rintro l ⟨hl,hb⟩;rw[arn,Zg (d:=(l,l.length,0)) ⟨hl,hb,rfl,0,ak,rfl⟩];simp only[ah,jT,na,aS,aM,bm,VP,aoa];cases xC l 0 <;> rfl
theorem alD:xf.RS:=rE [.d tU] xf
def arp:=xf.fh aro 1 ⟨.fD ad5,trivial⟩
def Ze:Bs->Prop:=λl=>TX l/\l.length<=1000000000
def RB:Bs->Bool:=λl=> !(l.all vc)
def vj:Fs Tryz.prog Ze bm RB:=fg 106 Tryz.f106 (λsv=>([.d tU sv,.fn 104 (.nil)],[])) (λx=>⟨.d .bool x,[],[]⟩) [aw tU,aF] [arp]
theorem ad1(sv)(k:K1 R):vj.A sv k=aj (xf.call sv) λx1=>k (vj.out (B8 x1 0)):=cK
theorem ad2:vj.Ok:=by rintro l ⟨hl,hb⟩;rw[ad1,alD (d:=l) ⟨hl,hb⟩];simp only[ah,bm,VP,apu];rfl
theorem Zf:vj.RS:=rE [.d tU] vj
def ad3:=vj.fh ad2
def agT:Int->Prop:=λ_=>True
def Pz:Int->Bool:=λn=>adl n
def xU:Fs Tryz.prog agT bm Pz:=fg 107 Tryz.f107 (λn=>([.d ti n],[])) (λx=>⟨.d .bool x,[],[]⟩) [aw ti]
theorem ak5(n)(k:K1 R):xU.A n k=aG (B8 n 0) (k (xU.out (aoy n 1048576))) (k (xU.out aQ)):=cK
theorem ak6:xU.Ok:=by
 intro n _;rw[ak5];simp only[bm,Pz,adl];by_cases h:0<=n
 ·rw[gf h,ao];by_cases h2:n<=1048576
  ·rw[yV h2,aI ⟨h,h2⟩]
  ·rw[sS h2,aJ (λx=>h2 x.2)]
 ·rw[eH h,au,aJ (λx=>h x.1)]
theorem Rh:xU.RS:=rE [.d ti] xU
def ak7:=xU.fh ak6
abbrev wI:=Lk×(List mr)×Int×Int
def lB:wI->AS:=λ(Py,t7,t8,t9)=>⟨([bK,.dB zV Py,bK,.fn 104 (.nil),bK,bK,bK,.d (.slice gW) t7,.d ti t8,.d ti t9]++a9 47 []),[],(ag 57 [])⟩
def ff:Unit->Exit×AS:=λx=>(.ret,⟨([bK,bK,.d .bool aQ]++a9 54 []),[],(ag 57 [])⟩)
def vN:Lk->Exit×AS:=λx=>(.exit 0,⟨([bK,.dB zV x]++a9 55 []),[],(ag 57 [])⟩)
abbrev Gi:=(Unit)⊕(Lk)
abbrev Rl:=(Unit)⊕(Unit)
def Bi:Gi->Out (Exit×AS):=λx=> .br x.isLeft (.get x.getLeft? λa=> .ok (ff a)) (.get x.getRight? λb=> .ok (vN b))
def jS:wI->Rl->Gi:=λ(Py,t7,t8,t9) y=>match y with | .inl y=> .inl y | .inr z=> .inr (Py)
def vM:wI->Prop:=λ(l,bs,n,i)=>(∀b∈bs,atT b)/\bs.length<=9223372036854775807/\n=bs.length/\∃k:Nat,k<=bs.length/\i=k
def mZ:wI->Rl:=λ(l,bs,n,i)=>if(bs.drop i.toNat).all xG then .inr () else .inl ()
def ala:Lk->Prop:=λl=>YH l/\l.1.length<=9223372036854775807
def Gg:Lk->Bool:=λl=>og l
def Rk:=eu.fD lB vM jS mZ Bi
def Gj:wI->Option Gi:=jq Rk lB
def sE:Fs Tryz.prog ala bm Gg:=fg 57 Tryz.f57 (λl=>([.d zV l],[])) (λx=>⟨.d .bool x,[],[]⟩) [aw zV] [ak7,ad3,aoB] {loops:=oN [(3,{aY:=[1,3,7,8,9]})],outs:=oM [(3,{aY:=[1]},{aY:=[2]})],fE:=pX [(3,Rk)]}
def Gh:= @fO Tryz.prog (oc sE.G) sE.an 0 Tryz.f57 0 _ lB
abbrev MN:=oT Tryz.prog (oc sE.G) sE.an 0 Tryz.f57 0 lB vM jS mZ Bi
theorem Y3:nw Gj vM jS mZ:=qL (qF [.d zV,.d (.slice gW),.d ti,.d ti] λ_=>cK)
theorem KH:qN @Gh lB vM jS mZ Bi MN:=sk
theorem Gk(Py t7 t8 t9)(kn:K2 R)(kx:K3 R):Gh (Py,t7,t8,t9) kn kx=aG (fV t9 t8) (aG (ei t9 (((ae t7):Nat):Int)) (aG (xS (((ae (nth gW t7 (ab t9)).1):Nat):Int) (12:Int)) (kx (ff ()).1 (ff ()).2) (aj (vj.call (nth gW t7 (ab t9)).1) λx1=>aG (x1) (kx (ff ()).1 (ff ()).2) (aj (xU.call (nth gW t7 (ab t9)).2.1) λx2=>aG (!x2) (kx (ff ()).1 (ff ()).2) (aj (xU.call (nth gW t7 (ab t9)).2.2.1) λx3=>aG (!x3) (kx (ff ()).1 (ff ()).2) (aG (Ak (nth gW t7 (ab t9)).2.2.2.1 (0:Int)) (aj (agS.call (nth gW t7 (ab t9)).2.2.2.1) λx4=>aG (x4) (kx (ff ()).1 (ff ()).2) (kn (lB (Py,t7,t8,(bB .i64 t9 (1:Int)))))) (kn (lB (Py,t7,t8,(bB .i64 t9 (1:Int)))))))))) aF) (kx (vN Py).1 (vN Py).2):=cK
theorem aqQ(l)(k:K1 R):sE.A l k=aj (Gj (l,l.1,(l.1.length:Int),0)) λx5=>aG x5.isLeft (aj x5.getLeft? λa6=>k (sE.out aQ)) (aj x5.getRight? λb7=>aG (xS (b7.1.length:Int) 0) (k (sE.out (aoy (b7.1.length:Int) 4))) (k (sE.out aQ))):=cK
theorem adE:MN:=by
 refine KH (λ(l,bs,n,i)=>bs.length - i.toNat) ?_
 rintro⟨l,bs,n,i⟩ ⟨hl,hb,rfl,k,hk,rfl⟩;have hb:bs.length<=9223372036854775807:=hb;have hk:k<=bs.length:=hk;by_cases h:k < bs.length
 ·have hx:atT bs[k]:=hl _ (ba h);have n1:nth (.pair (.slice (.int .u64)) (.pair (.int .i64) (.pair (.int .i64) (.pair (.int .u64) .unit)))) bs k=bs[k]:=cC (t:=(.pair (.slice (.int .u64)) (.pair (.int .i64) (.pair (.int .i64) (.pair (.int .u64) .unit))))) h;have hd:(bs.drop k).all xG=(xG bs[k] && (bs.drop (k+1)).all xG):=by rw[aq h,fp]
  have step:∀ {R:Type} (kn:AS->Option R) (kx:Exit->AS->Option R),Gh (l,bs,(bs.length:Int),(k:Int)) kn kx=aG (xG bs[k]) (kn (lB (l,bs,(bs.length:Int),((k+1:Nat):Int)))) (kx (ff ()).1 (ff ()).2):=by
   intro R kn kx;rw[Gk,aU ak,bo ak ak,aa,n1,N.ot ak];obtain⟨⟨ks,af,dl,sc,u⟩,aEH⟩:∃b,bs[k]=b:=⟨_,rfl⟩;rw[aEH]at hx ⊢;have h1:TX ks:=hx.1;have h2:iN sc:=hx.2;simp only[ao,xG];by_cases hk:ks.length<=12
   ·rw[cJ ak,Zf (d:=ks) ⟨h1,ak⟩,Rh (d:=af) trivial,Rh (d:=dl) trivial,UP (d:=sc) h2,aI hk];simp only[au,ah,bm,RB,bm,Pz,bm,ads,bI];cases ks.all vc
    ·rfl
    cases adl af
    ·rfl
    cases adl dl
    ·rfl
    by_cases hs:sc=0
    ·rw[cZ hs,aI hs];rfl
    ·rw[eR hs,aJ hs];cases vc sc <;> rfl
   ·rw[dk ak,aJ hk];rfl
  cases hp:xG bs[k]
  ·right;refine⟨ff (),?_,λkn kx=> ?_⟩
   ·simp only[jS,mZ,aa,hd,hp,dG,bU,bz];rfl
   ·rw[step,hp,au]
  ·left;refine⟨(l,bs,bs.length,((k+1:Nat):Int)),⟨hl,hb,rfl,k+1,ak,rfl⟩,by simp only[aa];omega,?_,λkn kx=> ?_⟩
   ·simp only[jS,mZ,aa,hd,hp,bI]
   ·rw[step,hp,ao]
 ·right;obtain rfl:k=bs.length:=ak;refine⟨vN l,?_,λkn kx=> ?_⟩
  ·simp only[jS,mZ,aa,aN];rfl
  ·rw[Gk];simp(disch:=omega) only[↓S1,↓if_pos,↓if_neg,if_pos,if_neg,bN,bz,S2]
theorem aqR:sE.Ok:=by
 rintro l ⟨hl,hb⟩;have hb:l.1.length<=9223372036854775807:=hb;rw[aqQ,Y3 (d:=(l,l.1,l.1.length,0)) ⟨hl,hb,rfl,0,ak,rfl⟩];simp only[ah,jS,mZ,aS,aM,bm,Gg,og];cases l.1.all xG
 ·rfl
 ·simp only[bN,bI];show aG (xS _ _) _ _=_;by_cases h0:0 < l.1.length
  ·rw[dk ak];by_cases h4:l.1.length<=4
   ·rw[yV ak,aI ⟨h0,h4⟩];rfl
   ·rw[sS ak,aJ (λx=>h4 x.2)];rfl
  ·rw[cJ ak,aJ (λx=>h0 x.1)];rfl
theorem KI:sE.RS:=rE [.d zV] sE
def PB:=sE.fh aqR 1 ⟨.fD adE,trivial⟩
def OU(w:FB):Prop:=(∀s∈w.2.1,ay2 s)/\iN w.2.2.1
def apv:Int->Prop:=λn=>∃k:Nat,n=k/\k<=100000000
def aoc:Int->(Nat×(List Int)):=λn=>(0,ag n.toNat 0)
def QR:Fs Tryz.prog apv bm aoc:=fg 156 Tryz.f156 (λn=>([.cw,.d ti n],[])) (λx=>⟨.dx (.new 0 0) 0 [] 0 0 x.1,[],[.obj 0 aQ (.vec 5 tb x.2)]⟩) [aF,aw ti] [] {owns:=[⟨4,[],22,26⟩]}
theorem auj(n)(k:K1 R):QR.A n k=aG (fV n 0) (aF) (aG (xS (dD .i64 n 0) 0) (aG (decide (0 < (dD .i64 n 0)) && db (ab (dD .i64 n 0)) 1) (aG (inc 0 (((ab (dD .i64 n 0)):Nat):Int)) (k (QR.out (0,(ag (ab (dD .i64 n 0)) 0)))) aF) aF) (k (QR.out (0,([]:List Int))))):=cK
theorem auk:QR.Ok:=by
 rintro n ⟨k,rfl,hk⟩;have e:dD .i64 (k:Int) 0=(k:Int):=by rw[gY ak ak];omega
 rw[auj,e,aT ak,au];by_cases h:0 < k
 ·rw[dk ak,aa,aI ak,cV ak ak,tz ak ak];rfl
 ·obtain rfl:k=0:=ak;rfl
theorem apw:QR.RS:=rE [.d ti] QR
def aul:=QR.fh auk
def tC(l:List (List Int)):Nat:=l.flatten.length
def YN(n:Nat)(l:List Int):List (List Int)->Nat×List Int
 |[]=>(n,l)
 |s::r=>(n+(s::r).flatten.length,l.take n++(s::r).flatten)
theorem apL(n:Nat)(l s:List Int)(r:List (List Int))(h:n<=l.length):YN n l (s::r)=YN (n+s.length) (l.take n++s) r:=by
 have hl:(l.take n++s).length=n+s.length:=by rw[ai,ct];omega
 cases r with
 |nil=>simp[YN]
 |cons t r=>
  simp only[YN];rw[bg (Nat.le_of_eq hl)];simp only[lp,ai,aC,dz]
theorem azl(n:Nat)(z:List Int)(r:List (List Int)):(YN 0 z r).1<=(YN 0 z r).2.length/\cut (YN 0 z r).2 0 (YN 0 z r).1=r.flatten:=by
 cases r with
 |nil=>exact⟨aL _,rfl⟩
 |cons s r=>
  simp only[YN,dI,aO,aH];exact⟨az _,by show aP _ (aX 0 _)=_;rw[aM,bt]⟩
abbrev C2:=(List Bs)×Int×(List Bs)×Int×Int
def tr:C2->Int->(((List Bs))×(Int)):=λ(zE,size,t9,t10,t11) y=>(zE,y)
abbrev LV:=Nat×(List Bs)×Int×Int×(List Int)
def FP:C2->Prop:=λ(s,size,t,n,i)=>s.length<=1000000/\t=s/\n=s.length/\∃k z:Nat,k<=s.length/\i=k/\size=z/\z+tC (s.drop k)<=100000000
def xD:C2->Int:=λ(s,size,t,n,i)=>((size:Int)+((tC (s.drop i.toNat):Nat):Int):Int)
def FQ:LV->Prop:=λ(n,s,t,i,l)=>s.length<=1000000/\n<=l.length/\t=s.length/\∃k:Nat,k<=s.length/\i=k/\n+tC (s.drop k)<=100000000
def xE:LV->(Nat×(List Int)):=λ(n,s,t,i,l)=>YN n l (s.drop i.toNat)
def afQ:(List Bs)->Prop:=λs=>s.length<=1000000/\tC s<=100000000
def OV:(List Bs)->Bs:=λs=>s.flatten
def nA:Ls FP tr xD:=oP (λ(zE,size,t9,t10,t11)=>⟨([.d (.slice tB) zE,bK,bK,.d ti size]++a9 5 ([.d (.slice tB) t9,.d ti t10,.d ti t11]++a9 24 [])),[],(ag 36 [])⟩) (λx=>(.exit 0,⟨([.d (.slice tB) x.1,bK,bK,.d ti x.2]++a9 32 []),[],(ag 36 [])⟩))
def nB:Ls FQ bm xE:=oP (λ(newsliceL,t25,t26,t27,aD9)=>⟨(a9 6 ([iw 24 newsliceL]++a9 18 ([.d (.slice tB) t25,.d ti t26,.d ti t27]++a9 8 []))),[],(bC 24 ([cH (.vec 5 tb aD9)]++bC 11 []))⟩) (λx=>(.exit 2,⟨(a9 6 ([iw 24 x.1]++a9 29 [])),[],(bC 24 ([cH (.vec 5 tb x.2)]++bC 11 []))⟩))
def oL:Fs Tryz.prog afQ bm OV:=fg 138 Tryz.f138 (λslices=>([.d (.slice tB) slices],[])) (λx=>⟨.d tB x,[],[]⟩) [aw (.slice tB)] [aul] {loops:=oN [(3,{aY:=[0,3,9,10,11]}),(11,{aY:=[6,25,26,27],sites:=[24],owns:=[⟨6,[],24,26⟩]})],outs:=oM [(3,{aY:=[0,3]},{aY:=[2]}),(11,{aY:=[6],sites:=[24]},{aY:=[2]})],fE:=pX [(3,nA.E),(11,nB.E)],res:=[aw tB]}
theorem T4:nA.RS:=rL [.d (.slice tB),.d ti,.d (.slice tB),.d ti,.d ti] nA
theorem EH(zE size t9 t10 t11)(kn:K2 R)(kx:K3 R):oL.R 0 nA (zE,size,t9,t10,t11) kn kx=aG (fV t11 t10) (aG (ei t11 (t9.length:Int)) (aG (fV (bB .i64 size (((ae (nth tB t9 (ab t11))):Nat):Int)) 0) (aF) (kn (nA.st (zE,(bB .i64 size (((ae (nth tB t9 (ab t11))):Nat):Int)),t9,t10,(bB .i64 t11 1))))) aF) (nA.go kx (zE,size)):=cK
theorem T5:nB.RS:=rL [.n,.d (.slice tB),.d ti,.d ti,.d tB] nB
theorem EI(newsliceL t25 t26 t27 aD9)(kn:K2 R)(kx:K3 R):oL.R 1 nB (newsliceL,t25,t26,t27,aD9) kn kx=aG (fV t27 t26) (aG (ei t27 (t25.length:Int)) (aG (decide (newsliceL<=(ae aD9))) (aG (db (newsliceL+(ae (nth tB t25 (ab t27)))) 1) (kn (nB.st ((newsliceL+(ae (nth tB t25 (ab t27)))),t25,t26,(bB .i64 t27 1),((aP newsliceL aD9)++(nth tB t25 (ab t27)))))) aF) aF) aF) (nB.go kx (newsliceL,aD9)):=cK
theorem aj6(slices)(k:K1 R):oL.A slices k=aj (nA.call (slices,0,slices,(slices.length:Int),0)) λx1=>aj (QR.call x1.2) λx2=>aj (nB.call (x2.1,x1.1,(x1.1.length:Int),0,x2.2)) λx3=>aG (decide (0=0/\(0+x3.1)<=(ae x3.2))) (k (oL.out (cut x3.2 0 x3.1))) aF:=cK
theorem aoC(s:List (List Int))(k:Nat)(h:k < s.length):tC (s.drop k)=s[k].length+tC (s.drop (k+1)):=by unfold tC;rw[aq h,lp,ai]
theorem YK:(oL.j8 0 nA):=by
 refine(oL.lX 0 nA) (λ(s,size,t,n,i)=>s.length - i.toNat) ?_
 rintro⟨s,size,t,n,i⟩ ⟨hs,rfl,rfl,k,z,hk,rfl,rfl,hz⟩;have hs:t.length<=1000000:=hs;have hk:k<=t.length:=hk;have hz:z+tC (t.drop k)<=100000000:=hz;by_cases h:k < t.length
 ·left;have n1:nth (.slice (.int .u8)) t k=t[k]:=cC (t:= .slice (.int .u8)) h;have hd:=aoC t k h;refine⟨(t,((z+t[k].length:Nat):Int),t,t.length,((k+1:Nat):Int)),⟨hs,rfl,rfl,k+1,z+t[k].length,ak,rfl,rfl,ak⟩,by simp only[aa];omega,?_,λkn kx=> ?_⟩
  ·simp only[tr,xD,aa];rw[hd];refine c7 _ ?_
   omega
  ·rw[EH];simp(disch:=omega) only[↓S1,↓if_pos,↓if_neg,if_pos,if_neg,bN,bz,S2,n1]
 ·right;obtain rfl:k=t.length:=ak;intro R kn kx;rw[EH];simp(disch:=omega) only[↓S1,↓if_pos,↓if_neg,if_pos,if_neg,bN,bz,S2,tr,xD,aN];simp only[tC,pP,bj,Int.natCast_zero,Int.add_zero]
theorem YL:(oL.j8 1 nB):=by
 refine(oL.lX 1 nB) (λ(n,s,t,i,l)=>s.length - i.toNat) ?_
 rintro⟨n,s,t,i,l⟩ ⟨hs,hn,rfl,k,hk,rfl,hz⟩;have hs:s.length<=1000000:=hs;have hn:n<=l.length:=hn;have hk:k<=s.length:=hk;have hz:n+tC (s.drop k)<=100000000:=hz;by_cases h:k < s.length
 ·left;have n1:nth (.slice (.int .u8)) s k=s[k]:=cC (t:= .slice (.int .u8)) h;have hd:=aoC s k h;refine⟨(n+s[k].length,s,s.length,((k+1:Nat):Int),l.take n++s[k]),⟨hs,by rw[ai,ct];omega,rfl,k+1,ak,rfl,ak⟩,by simp only[aa];omega,?_,λkn kx=> ?_⟩
  ·simp only[bm,xE,aa];rw[aq h,apL _ _ _ _ hn]
  ·rw[EI];simp(disch:=omega) only[↓S1,↓if_pos,↓if_neg,if_pos,if_neg,bN,bz,S2,n1]
 ·right;obtain rfl:k=s.length:=ak;intro R kn kx;rw[EI];simp(disch:=omega) only[↓S1,↓if_pos,↓if_neg,if_pos,if_neg,bN,bz,S2,bm,xE,aN];rfl
theorem aj7:oL.Ok:=by rintro s ⟨hs,hz⟩;have hs:s.length<=1000000:=hs;have hz:tC s<=100000000:=hz;have p1:FP (s,0,s,s.length,0):=⟨hs,rfl,rfl,0,0,ak,rfl,rfl,by rw[aM];omega⟩;have p2:FQ (0,s,s.length,0,ag (tC s) 0):=⟨hs,ak,rfl,0,ak,rfl,by rw[aM];omega⟩;rw[aj6,T4 p1];simp only[ah,tr,xD,aS,aM,Int.zero_add];rw[apw (d:=((tC s:Nat):Int)) ⟨tC s,rfl,hz⟩];simp only[ah,bm,aoc,aa];rw[T5 p2];simp only[ah,bm,xE,aS,aM];obtain⟨c1,c2⟩:=azl 0 (ag (tC s) 0) s;simp only[aH,c1,eW,bA,ao,c2];rfl
theorem QQ:oL.RS:=rE [.d (.slice tB)] oL
def T6:=oL.fh aj7 2 ⟨.fD YK,⟨.fD YL,trivial⟩⟩
def aaI:(Bs×Bs)->Prop:=λ(a,b)=>a.length+b.length<=100000000
def acN:(Bs×Bs)->Bs:=λ(a,b)=>a++b
def FZ:Fs Tryz.prog aaI bm acN:=fg 116 Tryz.f116 (λ(b,more)=>([.d tB b,.d tB more],[])) (λx=>⟨.d tB x,[],[]⟩) [aw tB,aw tB] [T6]
theorem auD(b more)(k:K1 R):FZ.A (b,more) k=aj (oL.call [b,more]) λx1=>k (FZ.out x1):=cK
theorem auE:FZ.Ok:=by rintro⟨a,b⟩ h;have h:a.length+b.length<=100000000:=h;rw[auD,QQ (d:=[a,b]) ⟨by show [a,b].length<=_;simp,by show tC [a,b]<=_;simp only[tC,lp,pP,bn,ai];omega⟩];simp only[ah,bm,OV,bm,acN,lp,pP,bn]
theorem Il:FZ.RS:=rE [.d tB,.d tB] FZ
def Ug:=FZ.fh auE
def gF:Nat->Int->List Int×Int
 | 0,n=>([],n)
 |f+1,n=>if 128<=n then((n%128+128)::(gF f (n / 128)).1,(gF f (n / 128)).2) else([],n)
def fe(n:Int):List Int:=(gF 10 n).1++ [(gF 10 n).2]
theorem II:∀(f g:Nat) (n:Int),n < 128^(f+1)->n < 128^(g+1)->gF f n=gF g n
 | 0,0,n,_,_=>rfl
 | 0,g+1,n,h,_=>by have h:n < 128:=h;rw[gF,gF,if_neg ak]
 |f+1,0,n,_,h=>by have h:n < 128:=h;rw[gF,gF,if_neg ak]
 |f+1,g+1,n,h,h'=>by
  rw[gF,gF];split
  ·have e:(128:Int)^(f+1+1)=128^(f+1)*128:=fA 128 (f+1);have e':(128:Int)^(g+1+1)=128^(g+1)*128:=fA 128 (g+1);rw[II f g (n / 128) ak ak]
  ·rfl
theorem Xj:∀(f:Nat) (n:Int),(gF f n).1.length<=f
 | 0,_=>az _
 |f+1,n=>by
  rw[gF];split
  ·have:=Xj f (n / 128);simp only[aE];omega
  ·exact aL _
theorem abY:∀(f:Nat) (n:Int),0<=n->n < 128^(f+1)->0<=(gF f n).2/\(gF f n).2 < 128
 | 0,n,h,h'=>by have h':n < 128:=h';exact⟨h,h'⟩
 |f+1,n,h,h'=>by
  rw[gF];have e:(128:Int)^(f+1+1)=128^(f+1)*128:=fA 128 (f+1);split
  ·exact abY f (n / 128) ak ak
  ·exact⟨h,ak⟩
theorem abZ{n:Int}(h:128<=n)(h2:n<=9223372036854775807):gF 10 n=((n%128+128)::(gF 10 (n / 128)).1,(gF 10 (n / 128)).2):=by have e:(128:Int)^(9+1)=1180591620717411303424:=rfl;have e2:(128:Int)^(10+1)=151115727451828646838272:=rfl;rw[gF,if_pos h,II 9 10 (n / 128) (by rw[e];omega) (by rw[e2];omega)]
theorem kH(n:Int):(fe n).length<=11:=by have:=Xj 10 n;unfold fe;simp only[ai,aE,bj];omega
def zX(n:Int):Prop:=0<=n/\n<=9223372036854775807
abbrev aaN:=Int×Nat×(List Int)
def QZ:aaN->Prop:=λ(n,m,l)=>zX n/\m=l.length/\l.length<=1000+0*n.toNat/\l.length+(gF 10 n).1.length<=100
def Im:aaN->(Int×Nat×(List Int)):=λ(n,m,l)=>((gF 10 n).2,(l++(gF 10 n).1).length,l++(gF 10 n).1)
def auY:Int->Prop:=λn=>zX n
def ako:Int->Bs:=λn=>fe n
def xJ:Ls QZ bm Im:=oP (λ(vg,outL,OO)=>⟨([.d ti vg,bK,bK,iw 14 outL]++a9 16 []),[],(bC 14 ([cH (.vec 5 tb OO)]++bC 5 []))⟩) (λx=>(.exit 0,⟨([.d ti x.1,bK,bK,iw 14 x.2.1]++a9 16 []),[],(bC 14 ([cH (.vec 5 tb x.2.2)]++bC 5 []))⟩))
def Um:Fs Tryz.prog auY bm ako:=fg 117 Tryz.f117 (λn=>([.d ti n],[])) (λx=>⟨.d tB x,[],[]⟩) [aw ti] [] {loops:=oN [(2,{aY:=[0,3],sites:=[14],owns:=[⟨3,[],14,26⟩]})],outs:=oM [(2,{aY:=[0,3],sites:=[14]},{aY:=[2]})],fE:=pX [(2,xJ.E)],res:=[aw tB]}
theorem agf:xJ.RS:=rL [.d ti,.n,.d tB] xJ
theorem Mb(vg outL OO)(kn:K2 R)(kx:K3 R):Um.R 0 xJ (vg,outL,OO) kn kx=aG (B8 vg 128) (aG (decide (outL<=(ae OO))) (aG (db (outL+1) 1) (kn (xJ.st ((qG .i64 vg 128),(outL+1),((aP outL OO)++ [(dC .u8 (bB .i64 (gN vg 128) 128))])))) aF) aF) (xJ.go kx (vg,outL,OO)):=cK
theorem azj(n)(k:K1 R):Um.A n k=aj (xJ.call (n,0,([]:List Int))) λx1=>aG (decide (x1.2.1<=(ae x1.2.2))) (aG (db (x1.2.1+1) 1) (aG (decide (0=0/\(0+(x1.2.1+1))<=(ae ((aP x1.2.1 x1.2.2)++ [(dC .u8 x1.1)])))) (k (Um.out (cut ((aP x1.2.1 x1.2.2)++ [(dC .u8 x1.1)]) 0 (x1.2.1+1)))) aF) aF) aF:=cK
theorem au1{n:Int}(h:zX n):dC .u8 (bB .i64 (gN n 128) 128)=n%128+128:=by have h1:=h.1;rw[jJ h.1,iC ak ak,Pr,gh];omega
theorem akp:(Um.j8 0 xJ):=by
 refine(Um.lX 0 xJ) (λ(n,m,l)=>n.toNat) ?_
 rintro⟨n,m,l⟩ ⟨hn,rfl,hl,hz⟩;have hn:zX n:=hn;have hz:l.length+(gF 10 n).1.length<=100:=hz;have h1:=hn.1;have h2:=hn.2;by_cases h:128<=n
 ·left;have e:=abZ h h2;have hq:qG .i64 n 128=n / 128:=by rw[qG,kk h1];exact tx ak ak
  have el:((n%128+128)::(gF 10 (n / 128)).1).length=(gF 10 (n / 128)).1.length+1:=aE;rw[e]at hz;have hz:l.length+((n%128+128)::(gF 10 (n / 128)).1).length<=100:=hz;rw[el]at hz;refine⟨(n / 128,l.length+1,l++ [n%128+128]),⟨⟨ak,ak⟩,by rw[ai];rfl,by rw[ai];simp only[aE,bj];omega,by rw[ai];simp only[aE,bj];omega⟩,by simp only[];omega,?_,λkn kx=> ?_⟩
  ·simp only[bm,Im,e,aC,mz,aO]
  ·rw[Mb,gf h,au1 hn,hq];simp(disch:=omega) only[↓S1,↓if_pos,↓if_neg,if_pos,if_neg,bN,bz,S2,az,bt]
 ·right;have e:gF 10 n=([],n):=by rw[gF,if_neg h]
  intro R kn kx;rw[Mb,eH h];simp only[au,bm,Im,e,bn]
theorem azk:Um.Ok:=by
 intro n hn;have hn:zX n:=hn;have hl:=Xj 10 n;have e2:(128:Int)^(10+1)=151115727451828646838272:=rfl;have hd:=abY 10 n hn.1 (by have:=hn.2;rw[e2];omega);have p:QZ (n,0,[]):=⟨hn,rfl,by simp,by simp only[bj];omega⟩;have hi:dC .u8 (gF 10 n).2=(gF 10 n).2:=by rw[Pr,gh];omega
 rw[azj,agf p];simp only[ah,bm,Im,aO,hi,bt,az,bA,ao];rw[cV ak ak];simp only[ao,aH,ai,aE,bj,az,eW,bA];rw[dw (by rw[ai];rfl)];rfl
theorem agh:Um.RS:=rE [.d ti] Um
def aok:=Um.fh azk 1 ⟨.fD akp,trivial⟩
def df(b:List Int)(n:Int):List Int:=if n < 0 then b else b++fe n
theorem eJ(b:List Int)(n:Int):(df b n).length<=b.length+11:=by
 unfold df;have:=kH n;split
 ·omega
 ·rw[ai];omega
def auP:(Bs×Int)->Prop:=λ(b,n)=>b.length<=90000000/\n<=9223372036854775807
def xc:(Bs×Int)->Bs:=λ(b,n)=>df b n
def FC:Fs Tryz.prog auP bm xc:=fg 64 Tryz.f64 (λ(b,n)=>([.d tB b,.d ti n],[])) (λx=>⟨.d tB x,[],[]⟩) [aw tB,aw ti] [Ug,aok]
theorem azh(b n)(k:K1 R):FC.A (b,n) k=aG (fV n 0) (aj (FZ.call (b,([]:List Int))) λx1=>k (FC.out x1)) (aj (Um.call n) λx2=>aj (FZ.call (b,x2)) λx3=>k (FC.out x3)):=cK
theorem azi:FC.Ok:=by
 rintro⟨b,n⟩ ⟨hb,hn⟩;have hb:b.length<=90000000:=hb;have hn:n<=9223372036854775807:=hn;rw[azh];simp only[bm,xc,df];by_cases h:n < 0
 ·rw[aU h,if_pos h,ao,Il (d:=(b,[])) (by show b.length+([]:List Int).length<=_;simp only[bj];omega)];simp only[ah,bm,acN,bn]
 ·have hl:=kH n;rw[aT h,if_neg h,au,agh (d:=n) ⟨ak,hn⟩];simp only[ah,bm,ako];rw[Il (d:=(b,fe n)) (by show b.length+(fe n).length<=_;omega)];rfl
theorem o9:FC.RS:=rE [.d tB,.d ti] FC
def acS:=FC.fh azi
def ap1:(Bs×Int)->Prop:=λ(b,n)=>b.length<=90000000
def Ma:(Bs×Int)->Bs:=λ(b,n)=>b++gV n
def F1:Fs Tryz.prog ap1 bm Ma:=fg 65 Tryz.f65 (λ(b,n)=>([.d tB b,.d tu n],[])) (λx=>⟨.d tB x,[],[]⟩) [aw tB,aw tu] [Ug] {loops:=oN [(3,{aY:=[0,1,5,7],sites:=[5,21]})],outs:=oM [(3,{aY:=[0,5],sites:=[5,21]},{aY:=[4],sites:=[5,21]})]} 12
theorem auW(b n)(k:K1 R):F1.A (b,n) k=aj (FZ.call (b,[(dC .u8 (cl .u64 n 56)),(dC .u8 (cl .u64 n 48)),(dC .u8 (cl .u64 n 40)),(dC .u8 (cl .u64 n 32)),(dC .u8 (cl .u64 n 24)),(dC .u8 (cl .u64 n 16)),(dC .u8 (cl .u64 n 8)),(dC .u8 (cl .u64 n 0))])) λx1=>k (F1.out x1):=cK
theorem auX:F1.Ok:=by
 rintro⟨b,n⟩ hb;have hb:b.length<=90000000:=hb;have p:aaI (b,gV n):=by show b.length+(gV n).length<=_;rw[bT];omega
 have e:FZ.call (b,[dC .u8 (cl .u64 n 56),dC .u8 (cl .u64 n 48),dC .u8 (cl .u64 n 40),dC .u8 (cl .u64 n 32),dC .u8 (cl .u64 n 24),dC .u8 (cl .u64 n 16),dC .u8 (cl .u64 n 8),dC .u8 (cl .u64 n 0)])=aw (b++gV n):=by rw[afS];exact Il p
 rw[auW];refine Eq.trans (c7 (λx=>aj x _) e) ?_
 rfl
theorem Cg:F1.RS:=rE [.d tB,.d tu] F1
def age:=F1.fh auX 1 ⟨.none cK,trivial⟩
def xA(w:FB):Bool:=decide (0<=w.1/\w.1 < 4) && decide (w.2.1.length<=12)
def F7(x:fB):Bool:=decide (0<=x.1.2.1/\x.1.2.1 < 64) && xA x.2.1
def Q4(m:List (tj×Bool))(x:fB):Bool:=(sX oS x.1 m).getD aQ
def MC:List (tj×Bool)->List fB->Bool
 |_,[]=>aW
 |m,x::l=>(!(Q4 m x) && F7 x) && MC (sY oS x.1 aW m) l
def u6(a:Int):Bool:=decide (0<=a/\a<=1125899906842624)
def I6(a b:Int):Bool:=u6 a && (u6 b && decide (a+b<=1125899906842624))
def y9:Int->List gb->Bool
 |_,[]=>aW
 |s,o::l=>(I6 s o.1 && og o.2.1) && y9 (s+o.1) l
def Yu(t:eT):Bool:=decide (1<=t.1.length/\t.1.length<=64/\t.2.1.length<=64/\0<=t.2.2.1)
def gS(t:eT):Bool:=Yu t && (MC [] t.1 && y9 0 t.2.1)
def aBm(l:Lk):Prop:=YH l/\l.1.length<=9223372036854775807
def aBn(t:eT):Prop:=(∀o∈t.2.1,aBm o.2.1)/\t.1.length<=9223372036854775807/\t.2.1.length<=9223372036854775807
def ayE:FB->Prop:=λ_=>True
def Yr:FB->Bool:=λw=>xA w
def Yq:Fs Tryz.prog ayE bm Yr:=fg 49 Tryz.f49 (λwv=>([.d TS wv],[])) (λx=>⟨.d .bool x,[],[]⟩) [aw TS]
theorem aBc(wv)(k:K1 R):Yq.A wv k=aG (B8 wv.1 0) (aG (fV wv.1 4) (k (Yq.out (aoy (wv.2.1.length:Int) 12))) (k (Yq.out aQ))) (k (Yq.out aQ)):=cK
theorem aBd:Yq.Ok:=by
 rintro⟨b,ss,sc,u⟩ _;rw[aBc];simp only[bm,Yr,xA];by_cases h:0<=b
 ·rw[gf h,ao];by_cases h2:b < 4
  ·rw[aU h2,ao,aI ⟨h,h2⟩];by_cases h3:ss.length<=12
   ·rw[yV ak,aI h3];rfl
   ·rw[sS ak,aJ h3];rfl
  ·rw[aT h2,au,aJ (λx=>h2 x.2)];rfl
 ·rw[eH h,au,aJ (λx=>h x.1)];rfl
theorem Ys:Yq.RS:=rE [.d TS] Yq
def afr:=Yq.fh aBd
def alq:Int->Prop:=λ_=>True
def Vw:Int->Bool:=λa=>u6 a
def DG:Fs Tryz.prog alq bm Vw:=fg 103 Tryz.f103 (λa=>([.d ti a],[])) (λx=>⟨.d .bool x,[],[]⟩) [aw ti]
theorem aq0(a)(k:K1 R):DG.A a k=aG (B8 a 0) (k (DG.out (aoy a 1125899906842624))) (k (DG.out aQ)):=cK
theorem aq1:DG.Ok:=by
 intro(a:Int) _;rw[aq0];simp only[bm,Vw,u6];by_cases h:0<=a
 ·rw[gf h,ao];by_cases h2:a<=1125899906842624
  ·rw[yV h2,aI ⟨h,h2⟩]
  ·rw[sS h2,aJ (λx=>h2 x.2)]
 ·rw[eH h,au,aJ (λx=>h x.1)]
theorem Vx:DG.RS:=rE [.d ti] DG
def aq2:=DG.fh aq1
def awm:(Int×Int)->Prop:=λ_=>True
def alp:(Int×Int)->(Int×Bool):=λ(a,b)=>(bif I6 a b then a+b else 0,I6 a b)
def Za:Fs Tryz.prog awm bm alp:=fg 56 Tryz.f56 (λ(a,b)=>([.d ti a,.d ti b],[])) (λx=>⟨.cons (.d ti x.1) (.cons (.d .bool x.2) (.nil)),[],[]⟩) [aw ti,aw ti] [aq2]
theorem aAh(a b)(k:K1 R):Za.A (a,b) k=aj (DG.call a) λx1=>aG (!x1) (k (Za.out (0,aQ))) (aj (DG.call b) λx2=>aG (!x2) (k (Za.out (0,aQ))) (aG (xS a (dD .i64 1125899906842624 b)) (k (Za.out (0,aQ))) (k (Za.out ((bB .i64 a b),aW))))):=cK
theorem aAi:Za.Ok:=by
 rintro⟨a,b⟩ _;rw[aAh,Vx (d:=a) trivial,Vx (d:=b) trivial];simp only[ah,bm,Vw,bm,alp,I6];cases ha:u6 a
 ·rfl
 ·cases hb:u6 b
  ·rfl
  ·simp only[u6,bh]at ha hb;simp only[cd,au,bI];rw[gY ak ak];by_cases h:a+b<=1125899906842624
   ·rw[cJ ak,au,aI h,iC ak ak];rfl
   ·rw[dk ak,ao,aJ h];rfl
theorem awn:Za.RS:=rE [.d ti,.d ti] Za
def aAj:=Za.fh aAi
abbrev wZ:=eT×(List fB)×Int×Int×(List (tj×Bool))
def nS:wZ->AS:=λ(gR,t33,t34,t35,aEa)=>⟨([bK,.dB eU gR,bK,.sG (.new 31 0) 0]++a9 29 ([.d (.slice dM) t33,.d ti t34,.d ti t35]++a9 52 [])),[],(bC 31 ([cH (.mp oS .bool aEa)]++bC 56 []))⟩
def fU:Unit->Exit×AS:=λx=>(.ret,⟨([bK,bK,.d .bool aQ]++a9 85 []),[],(ag 88 [])⟩)
def wk:eT->Exit×AS:=λx=>(.exit 0,⟨([bK,.dB eU x]++a9 86 []),[],(ag 88 [])⟩)
abbrev HV:=(Unit)⊕(eT)
abbrev Sp:=(Unit)⊕(Unit)
def B1:HV->Out (Exit×AS):=λx=> .br x.isLeft (.get x.getLeft? λa=> .ok (fU a)) (.get x.getRight? λb=> .ok (wk b))
def j5:wZ->Sp->HV:=λ(gR,t33,t34,t35,aEa) y=>match y with | .inl y=> .inl y | .inr z=> .inr (gR)
abbrev w5:=Int×(List gb)×Int×Int
def nT:w5->AS:=λ(sum,t66,t67,t68)=>⟨(a9 6 ([.d ti sum]++a9 59 ([.d (.slice dO) t66,.d ti t67,.d ti t68]++a9 19 []))),[],(ag 88 [])⟩
def j7:Unit->Exit×AS:=λx=>(.ret,⟨([bK,bK,.d .bool aQ]++a9 85 []),[],(ag 88 [])⟩)
def wo:Unit->Exit×AS:=λx=>(.exit 2,⟨(a9 88 []),[],(ag 88 [])⟩)
abbrev HZ:=(Unit)⊕(Unit)
abbrev Sr:=(Unit)⊕(Unit)
def B2:HZ->Out (Exit×AS):=λx=> .br x.isLeft (.get x.getLeft? λa=> .ok (j7 a)) (.get x.getRight? λb=> .ok (wo b))
def j6:w5->Sr->HZ:=λ(sum,t66,t67,t68) y=>match y with | .inl y=> .inl y | .inr z=> .inr (z)
def wj:wZ->Prop:=λ(t,l,n,i,m)=>l.length<=9223372036854775807/\n=l.length/\∃k:Nat,k<=l.length/\i=k
def nj:wZ->Sp:=λ(t,l,n,i,m)=>if MC m (l.drop i.toNat) then .inr () else .inl ()
def wm:w5->Prop:=λ(s,l,n,i)=>(∀o∈l,aBm o.2.1)/\l.length<=9223372036854775807/\n=l.length/\∃k:Nat,k<=l.length/\i=k
def nk:w5->Sr:=λ(s,l,n,i)=>if y9 s (l.drop i.toNat) then .inr () else .inl ()
def anM:eT->Prop:=λt=>aBn t
def mQ:eT->Bool:=λt=>gS t
def So:=eu.fD nS wj j5 nj B1
def HW:wZ->Option HV:=jq So nS
def Sq:=eu.fD nT wm j6 nk B2
def zL:w5->Option HZ:=jq Sq nT
def eV:Fs Tryz.prog anM bm mQ:=fg 12 Tryz.f12 (λt=>([.d eU t],[])) (λx=>⟨.d .bool x,[],[]⟩) [aw eU] [afr,aAj,PB] {loops:=oN [(5,{aY:=[1,3,33,34,35],sites:=[31]}),(13,{aY:=[6,66,67,68]})],outs:=oM [(5,{aY:=[1]},{aY:=[2]}),(13,{},{aY:=[2]})],fE:=pX [(5,So),(13,Sq)]}
def HU:= @fO Tryz.prog (oc eV.G) eV.an 0 Tryz.f12 0 _ nS
abbrev Ow:=oT Tryz.prog (oc eV.G) eV.an 0 Tryz.f12 0 nS wj j5 nj B1
def HY:= @fO Tryz.prog (oc eV.G) eV.an 0 Tryz.f12 1 _ nT
abbrev Ox:=oT Tryz.prog (oc eV.G) eV.an 0 Tryz.f12 1 nT wm j6 nk B2
theorem aak:nw HW wj j5 nj:=qL (qF [.d eU,.d (.slice dM),.d ti,.d ti,.d (.slice (.pair oS .bool))] λ_=>cK)
theorem LC:qN @HU nS wj j5 nj B1 Ow:=sk
theorem HX(gR t33 t34 t35 aEa)(kn:K2 R)(kx:K3 R):HU (gR,t33,t34,t35,aEa) kn kx=aG (fV t35 t34) (aG (ei t35 (((ae t33):Nat):Int)) (aG ((sX oS (nth dM t33 (ab t35)).1 aEa).getD aQ) (kx (fU ()).1 (fU ()).2) (aG (fV (nth dM t33 (ab t35)).1.2.1 (0:Int)) (kx (fU ()).1 (fU ()).2) (aG (B8 (nth dM t33 (ab t35)).1.2.1 (64:Int)) (kx (fU ()).1 (fU ()).2) (aj (Yq.call (nth dM t33 (ab t35)).2.1) λx8=>aG (!x8) (kx (fU ()).1 (fU ()).2) (kn (nS (gR,t33,t34,(bB .i64 t35 (1:Int)),(sY oS (nth dM t33 (ab t35)).1 aW aEa)))))))) aF) (kx (wk gR).1 (wk gR).2):=cK
theorem aal:nw zL wm j6 nk:=qL (qF [.d ti,.d (.slice dO),.d ti,.d ti] λ_=>cK)
theorem LD:qN @HY nT wm j6 nk B2 Ox:=sk
theorem H0(sum t66 t67 t68)(kn:K2 R)(kx:K3 R):HY (sum,t66,t67,t68) kn kx=aG (fV t68 t67) (aG (ei t68 (((ae t66):Nat):Int)) (aj (Za.call (sum,(nth dO t66 (ab t68)).1)) λQN=>aG (!QN.2) (kx (j7 ()).1 (j7 ()).2) (aj (sE.call (nth dO t66 (ab t68)).2.1) λTW=>aG (!TW) (kx (j7 ()).1 (j7 ()).2) (kn (nT (QN.1,t66,t67,(bB .i64 t68 (1:Int))))))) aF) (kx (wo ()).1 (wo ()).2):=cK
theorem atu(t)(k:K1 R):eV.A t k=aG (fV (t.1.length:Int) 1) (k (eV.out aQ)) (aG (xS (t.1.length:Int) 64) (k (eV.out aQ)) (aG (xS (t.2.1.length:Int) 64) (k (eV.out aQ)) (aG (fV t.2.2.1 0) (k (eV.out aQ)) (aj (HW (t,t.1,(t.1.length:Int),0,([]:List (tj×Bool)))) λTW=>aG TW.isLeft (aj TW.getLeft? λa13=>k (eV.out aQ)) (aj TW.getRight? λb14=>aj (zL (0,b14.2.1,(b14.2.1.length:Int),0)) λI4=>aG I4.isLeft (aj I4.getLeft? λa31=>k (eV.out aQ)) (aj I4.getRight? λb32=>k (eV.out aW))))))):=cK
theorem afm:Ow:=by
 refine LC (λ(t,l,n,i,m)=>l.length - i.toNat) ?_
 rintro⟨t,l,n,i,m⟩ ⟨hb,rfl,k,hk,rfl⟩;have hb:l.length<=9223372036854775807:=hb;have hk:k<=l.length:=hk;by_cases h:k < l.length
 ·have n1:nth dM l k=l[k]:=cC (t:=dM) h;have hd:MC m (l.drop k)=((!(Q4 m l[k]) && F7 l[k]) && MC (sY oS l[k].1 aW m) (l.drop (k+1))):=by rw[aq h];rfl
  have step:∀ {R:Type} (kn:AS->Option R) (kx:Exit->AS->Option R),HU (t,l,(l.length:Int),(k:Int),m) kn kx=aG (!(Q4 m l[k]) && F7 l[k]) (kn (nS (t,l,(l.length:Int),((k+1:Nat):Int),sY oS l[k].1 aW m))) (kx (fU ()).1 (fU ()).2):=by
   intro R kn kx;rw[HX,aU ak,bo ak ak,aa,n1,N.ot ak,Ys (d:=l[k].2.1) trivial];simp only[ao,ah,bm,Yr];have e:(sX oS l[k].1 m).getD aQ=Q4 m l[k]:=rfl;rw[e];cases Q4 m l[k]
   ·simp only[eP,bI,au,F7];by_cases h1:l[k].1.2.1 < 0
    ·rw[aU h1,ao,aJ (λx=>ak)];rfl
    ·rw[aT h1,au];by_cases h2:64<=l[k].1.2.1
     ·rw[gf h2,ao,aJ (λx=>ak)];rfl
     ·rw[eH h2,au,aI ⟨ak,ak⟩];cases xA l[k].2.1 <;> rfl
   ·rfl
  cases hp:(!(Q4 m l[k]) && F7 l[k])
  ·right;refine⟨fU (),?_,λkn kx=> ?_⟩
   ·simp only[j5,nj,aa,hd,hp,dG,bU,bz];rfl
   ·rw[step,hp,au]
  ·left;refine⟨(t,l,l.length,((k+1:Nat):Int),sY oS l[k].1 aW m),⟨hb,rfl,k+1,ak,rfl⟩,by simp only[aa];omega,?_,λkn kx=> ?_⟩
   ·simp only[j5,nj,aa,hd,hp,bI]
   ·rw[step,hp,ao]
 ·right;obtain rfl:k=l.length:=ak;refine⟨wk t,?_,λkn kx=> ?_⟩
  ·simp only[j5,nj,aa,aN];rfl
  ·rw[HX];simp(disch:=omega) only[↓S1,↓if_pos,↓if_neg,if_pos,if_neg,bN,bz,S2]
theorem afn:Ox:=by
 refine LD (λ(s,l,n,i)=>l.length - i.toNat) ?_
 rintro⟨s,l,n,i⟩ ⟨hl,hb,rfl,k,hk,rfl⟩;have hb:l.length<=9223372036854775807:=hb;have hk:k<=l.length:=hk;by_cases h:k < l.length
 ·have hx:aBm l[k].2.1:=hl _ (ba h);have n1:nth dO l k=l[k]:=cC (t:=dO) h;have hd:y9 s (l.drop k)=((I6 s l[k].1 && og l[k].2.1) && y9 (s+l[k].1) (l.drop (k+1))):=by rw[aq h];rfl
  have step:∀ {R:Type} (kn:AS->Option R) (kx:Exit->AS->Option R),HY (s,l,(l.length:Int),(k:Int)) kn kx=aG (I6 s l[k].1 && og l[k].2.1) (kn (nT (s+l[k].1,l,(l.length:Int),((k+1:Nat):Int)))) (kx (j7 ()).1 (j7 ()).2):=by
   intro R kn kx;rw[H0,aU ak,bo ak ak,aa,n1,N.ot ak,awn (d:=(s,l[k].1)) trivial,KI (d:=l[k].2.1) hx];simp only[ao,ah,bm,alp,bm,Gg];cases I6 s l[k].1
   ·rfl
   ·cases og l[k].2.1 <;> rfl
  cases hp:(I6 s l[k].1 && og l[k].2.1)
  ·right;refine⟨j7 (),?_,λkn kx=> ?_⟩
   ·simp only[j6,nk,aa,hd,hp,dG,bU,bz];rfl
   ·rw[step,hp,au]
  ·left;refine⟨(s+l[k].1,l,l.length,((k+1:Nat):Int)),⟨hl,hb,rfl,k+1,ak,rfl⟩,by simp only[aa];omega,?_,λkn kx=> ?_⟩
   ·simp only[j6,nk,aa,hd,hp,bI]
   ·rw[step,hp,ao]
 ·right;obtain rfl:k=l.length:=ak;refine⟨wo (),?_,λkn kx=> ?_⟩
  ·simp only[j6,nk,aa,aN];rfl
  ·rw[H0];simp(disch:=omega) only[↓S1,↓if_pos,↓if_neg,if_pos,if_neg,bN,bz,S2]
theorem atv:eV.Ok:=by
 rintro⟨is,os,nt,u⟩ ⟨hl,h1,h2⟩;have h1:is.length<=9223372036854775807:=h1;have h2:os.length<=9223372036854775807:=h2;rw[atu,aak (d:=((is,os,nt,u),is,is.length,0,[])) ⟨h1,rfl,0,ak,rfl⟩];simp only[ah,j5,nj,aS,aM,bm,mQ,gS,Yu];by_cases a1:is.length < 1
 ·rw[aU ak,ao,aJ (λx=>ak)];rfl
 rw[aT ak,au];by_cases a2:64 < is.length
 ·rw[dk ak,ao,aJ (λx=>ak)];rfl
 rw[cJ ak,au];by_cases a3:64 < os.length
 ·rw[dk ak,ao,aJ (λx=>ak)];rfl
 rw[cJ ak,au];by_cases a4:nt < 0
 ·rw[aU ak,ao,aJ (λx=>ak)];rfl
 rw[aT ak,au,aI ⟨ak,ak,ak,ak⟩];cases MC [] is
 ·rfl
 ·simp only[bN,bI];show aj (zL (0,os,(os.length:Int),0)) _=_;rw[aal (d:=(0,os,os.length,0)) ⟨hl,h2,rfl,0,ak,rfl⟩];simp only[ah,j6,nk,aS,aM];cases y9 0 os <;> rfl
theorem jz:eV.RS:=rE [.d eU] eV
def oF:=eV.fh atv 2 ⟨.fD afm,⟨.fD afn,trivial⟩⟩
def aly:Bs->Prop:=λl=>l.length<=1000000
def M1:Bs->Bs:=λl=>l
def Bm:Fs Tryz.prog aly bm M1:=fg 98 Tryz.f98 (λsv=>([.d tU sv],[])) (λx=>⟨.d tU x,[],[]⟩) [aw tU] [] {bD:=[5],res:=[aw tU]}
theorem arh(sv)(k:K1 R):Bm.A sv k=aG (decide (0 < (ae sv))) (aG (db (0+(ae sv)) 8) (aG (decide (0=0/\(0+(0+(ae sv)))<=(ae ((aP 0 (ag 0 0))++sv)))) (k (Bm.out (cut ((aP 0 (ag 0 0))++sv) 0 (0+(ae sv))))) aF) aF) (nd (k (Bm.out ([]:List Int))) (aG (db (0+(ae sv)) 8) (aG (decide (0=0/\(0+(0+(ae sv)))<=(ae ((aP 0 (ag 0 0))++sv)))) (k (Bm.out (cut ((aP 0 (ag 0 0))++sv) 0 (0+(ae sv))))) aF) aF)):=cK
theorem ari:Bm.Ok:=by
 intro l hl;have hl:l.length<=1000000:=hl;have hr:db l.length 8=aW:=cV ak ak;have e0:(aP 0 (ag 0 0):List Int)=[]:=rfl;rw[arh];simp only[aH,hr,ao,e0,aO,az,eW,bA,dw,bm,M1];by_cases h:0 < l.length
 ·simp only[aI h,ao]
 ·have:l=[]:=bP ak;subst this;simp only[bj,DH,aJ (iM 0),au]
theorem VK:Bm.RS:=rE [.d tU] Bm
def abv:=Bm.fh ari
def mI(o:List Int)(ks:List Int):List Int:=ks.foldl (λo p=>o++gV p) o
def atV(o:List Int)(b:mr):List Int:=df (df (mI (df o b.1.length) b.1) b.2.1) b.2.2.1++gV b.2.2.2.1
def EO(l:Lk):List Int:=if og l then l.1.foldl atV (df [] l.1.length) else []
theorem Iz:∀(ks:List Int) (o:List Int),(mI o ks).length=o.length+8*ks.length
 |[],o=>rfl
 |k::ks,o=>by show(mI (o++gV k) ks).length=_;rw[Iz ks,ai,bT,aE];omega
theorem acI(o:List Int)(b:mr)(h:b.1.length<=12):(atV o b).length<=o.length+200:=by unfold atV;have h1:=eJ o b.1.length;have h2:=Iz b.1 (df o b.1.length);have h3:=eJ (mI (df o b.1.length) b.1) b.2.1;have h4:=eJ (df (mI (df o b.1.length) b.1) b.2.1) b.2.2.1;rw[ai,bT];omega
def ayZ(n:Int):Prop:=n<=9223372036854775807
def aEd(b:mr):Prop:=b.1.length<=12/\ayZ b.2.1/\ayZ b.2.2.1
theorem aCc{b:mr}(h:xG b=aW):aEd b:=by unfold xG adl at h;simp only[al,bh]at h;obtain⟨h1,_,h2,h3,_⟩:=h;exact⟨h1,by unfold ayZ;omega,by unfold ayZ;omega⟩
theorem UO(o:List Int)(ks:List Int)(k:Nat)(h:k < ks.length):mI o (ks.drop k)=mI (o++gV ks[k]) (ks.drop (k+1)):=by rw[aq h];rfl
abbrev Rf:=Bs×(List mr)×Int×Int
abbrev Gd:=Bs×(List mr)×Int×Int×Bs×Int×Int×mr
def vJ:Gd->Bs->(((List mr)×Int×Int×mr)×(Bs)):=λ(vi,zF,XJ,XK,t28,t29,t30,n5) y=>((zF,XJ,XK,n5),y)
def Y0:Gd->Prop:=λ(o,bs,n,i,ks,m,j,b)=>ks.length<=12/\o.length+8*ks.length<=80000000+8*j.toNat/\m=ks.length/\∃k:Nat,k<=ks.length/\j=k
def An:Gd->Bs:=λ(o,bs,n,i,ks,m,j,b)=>mI o (ks.drop j.toNat)
def YY:Rf->Prop:=λ(o,bs,n,i)=>(∀b∈bs,aEd b)/\bs.length<=4/\o.length<=1000+200*i.toNat/\n=bs.length/\∃k:Nat,k<=bs.length/\i=k
def Gb:Rf->Bs:=λ(o,bs,n,i)=>(bs.drop i.toNat).foldl atV o
def ak2:Lk->Prop:=λl=>YH l/\l.1.length<=9223372036854775807
def MK:Lk->Bs:=λl=>EO l
def pV:Ls YY bm Gb:=oP (λ(outv,t16,t17,t18)=>⟨([bK,bK,bK,.d tB outv]++a9 12 ([.d (.slice gW) t16,.d ti t17,.d ti t18]++a9 31 [])),[],(ag 50 [])⟩) (λx=>(.exit 0,⟨([bK,bK,bK,.d tB x]++a9 46 []),[],(ag 50 [])⟩))
def pW:Ls Y0 vJ An:=oP (λ(vi,zF,XJ,XK,t28,t29,t30,n5)=>⟨([bK,bK,bK,.d tB vi,bK,dX 5]++a9 10 ([.d (.slice gW) zF,.d ti XJ,.d ti XK]++a9 9 ([.d tU t28,.d ti t29,.d ti t30]++a9 19 []))),[],(bC 5 ([cH (.d gW n5)]++bC 44 []))⟩) (λx=>(.exit 2,⟨([bK,bK,bK,.d tB x.2,bK,dX 5]++a9 10 ([.d (.slice gW) x.1.1,.d ti x.1.2.1,.d ti x.1.2.2.1]++a9 31 [])),[],(bC 5 ([cH (.d gW x.1.2.2.2)]++bC 44 []))⟩))
def sD:Fs Tryz.prog ak2 bm MK:=fg 84 Tryz.f84 (λl=>([.d zV l],[])) (λx=>⟨.d tB x,[],[]⟩) [aw zV] [PB,acS,age] {loops:=oN [(5,{aY:=[3,16,17,18]}),(9,{aY:=[3,5,16,17,18,28,29,30],sites:=[5]})],outs:=oM [(5,{aY:=[3]},{aY:=[2]}),(9,{aY:=[3,5,16,17,18],sites:=[5]},{aY:=[2]})],fE:=pX [(5,pV.E),(9,pW.E)],res:=[aw tB]}
theorem YZ:pV.RS:=rL [.d tB,.d (.slice gW),.d ti,.d ti] pV
theorem Gc(outv t16 t17 t18)(kn:K2 R)(kx:K3 R):sD.R 0 pV (outv,t16,t17,t18) kn kx=aG (fV t18 t17) (aG (ei t18 (t16.length:Int)) (aj (FC.call (outv,(((ae (nth gW t16 (ab t18)).1):Nat):Int))) λx1=>aj (pW.call (x1,t16,t17,t18,(nth gW t16 (ab t18)).1,(((ae (nth gW t16 (ab t18)).1):Nat):Int),0,(nth gW t16 (ab t18)))) λx2=>aj (FC.call (x2.2,x2.1.2.2.2.2.1)) λx3=>aj (FC.call (x3,x2.1.2.2.2.2.2.1)) λx4=>aj (F1.call (x4,x2.1.2.2.2.2.2.2.1)) λx5=>kn (pV.st (x5,x2.1.1,x2.1.2.1,(bB .i64 x2.1.2.2.1 1)))) aF) (pV.go kx outv):=cK
theorem Y1:pW.RS:=rL [.d tB,.d (.slice gW),.d ti,.d ti,.d tU,.d ti,.d ti,.d gW] pW
theorem Ge(vi zF XJ XK t28 t29 t30 n5)(kn:K2 R)(kx:K3 R):sD.R 1 pW (vi,zF,XJ,XK,t28,t29,t30,n5) kn kx=aG (fV t30 t29) (aG (ei t30 (t28.length:Int)) (aj (F1.call (vi,(nth tu t28 (ab t30)))) λx1=>kn (pW.st (x1,zF,XJ,XK,t28,t29,(bB .i64 t30 1),n5))) aF) (pW.go kx ((zF,XJ,XK,n5),vi)):=cK
theorem aqH(l)(k:K1 R):sD.A l k=aj (sE.call l) λx1=>aG (!x1) (k (sD.out ([]:List Int))) (aj (FC.call (([]:List Int),(l.1.length:Int))) λx2=>aj (pV.call (x2,l.1,(l.1.length:Int),0)) λx9=>k (sD.out x9)):=cK
theorem adu:(sD.j8 1 pW):=by
 refine(sD.lX 1 pW) (λ(o,bs,n,i,ks,m,j,b)=>ks.length - j.toNat) ?_
 rintro⟨o,bs,n,i,ks,m,j,b⟩ ⟨aCx,hl,rfl,k,hk,rfl⟩;have aCx:ks.length<=12:=aCx;have hk:k<=ks.length:=hk;have hl:o.length+8*ks.length<=80000000+8*(k:Int).toNat:=hl;rw[aa]at hl;by_cases h:k < ks.length
 ·left;have n1:nth (.int .u64) ks k=ks[k]:=cC (t:= .int .u64) h;refine⟨(o++gV ks[k],bs,n,i,ks,ks.length,((k+1:Nat):Int),b),⟨aCx,by rw[ai,bT,aa];omega,rfl,k+1,ak,rfl⟩,by simp only[aa];omega,?_,λkn kx=> ?_⟩
  ·simp only[vJ,An,aa];rw[UO _ _ _ h]
  ·rw[Ge];simp(disch:=omega) only[↓S1,↓if_pos,↓if_neg,if_pos,if_neg,bN,bz,S2,n1];rw[Cg (d:=(o,ks[k])) (by show o.length<=90000000;omega)];rfl
 ·right;obtain rfl:k=ks.length:=ak;intro R kn kx;rw[Ge];simp(disch:=omega) only[↓S1,↓if_pos,↓if_neg,if_pos,if_neg,bN,bz,S2,vJ,An,aN];rfl
theorem adt:(sD.j8 0 pV):=by
 refine(sD.lX 0 pV) (λ(o,bs,n,i)=>bs.length - i.toNat) ?_
 rintro⟨o,bs,n,i⟩ ⟨hb,h4,hl,rfl,k,hk,rfl⟩;have h4:bs.length<=4:=h4;have hk:k<=bs.length:=hk;have hl:o.length<=1000+200*(k:Int).toNat:=hl;rw[aa]at hl;by_cases h:k < bs.length
 ·left;have hx:=hb _ (ba h);have n1:nth (.pair (.slice (.int .u64)) (.pair (.int .i64) (.pair (.int .i64) (.pair (.int .u64) .unit)))) bs k=bs[k]:=cC (t:=(.pair (.slice (.int .u64)) (.pair (.int .i64) (.pair (.int .i64) (.pair (.int .u64) .unit))))) h;have e0:=acI o bs[k] hx.1;refine⟨(atV o bs[k],bs,bs.length,((k+1:Nat):Int)),⟨hb,h4,by rw[aa];omega,rfl,k+1,ak,rfl⟩,by simp only[aa];omega,?_,λkn kx=> ?_⟩
  ·simp only[bm,Gb,aa];rw[aq h];rfl
  ·rw[Gc,aU ak,bo ak ak,aa,n1];obtain⟨⟨ks,af,dl,sc,u⟩,aEH⟩:∃b,bs[k]=b:=⟨_,rfl⟩;rw[aEH]at hx e0 ⊢;obtain⟨Q3,ha,hd⟩:=hx;have Q3:ks.length<=12:=Q3;have ha:af<=9223372036854775807:=ha;have hd:dl<=9223372036854775807:=hd;have l1:=eJ o ks.length;have l2:=Iz ks (df o ks.length);have l3:=eJ (mI (df o ks.length) ks) af;have l4:=eJ (df (mI (df o ks.length) ks) af) dl;simp only[ao];rw[o9 (d:=(o,(ks.length:Int))) ⟨by show o.length<=90000000;omega,by show(ks.length:Int)<=9223372036854775807;omega⟩];simp only[ah,bm,xc];rw[Y1 (d:=(df o ks.length,bs,bs.length,k,ks,ks.length,0,(ks,af,dl,sc,u))) ⟨Q3,by show(df o ks.length).length+8*ks.length<=_;omega,rfl,0,ak,rfl⟩];simp only[ah,vJ,An,aS,aM];rw[o9 (d:=(mI (df o ks.length) ks,af)) ⟨by show(mI (df o ks.length) ks).length<=90000000;omega,ha⟩];simp only[ah,bm,xc];rw[o9 (d:=(df (mI (df o ks.length) ks) af,dl)) ⟨by show(df (mI (df o ks.length) ks) af).length<=90000000;omega,hd⟩];simp only[ah,bm,xc];rw[Cg (d:=(df (df (mI (df o ks.length) ks) af) dl,sc)) (by show(df (df (mI (df o ks.length) ks) af) dl).length<=90000000;omega)];simp only[ah,bm,Ma];rw[N.ot ak];rfl
 ·right;obtain rfl:k=bs.length:=ak;intro R kn kx;rw[Gc];simp(disch:=omega) only[↓S1,↓if_pos,↓if_neg,if_pos,if_neg,bN,bz,S2,bm,Gb,aN];rfl
theorem ak9{l:Lk}(h:og l=aW):(∀b∈l.1,aEd b)/\0 < l.1.length/\l.1.length<=4:=by unfold og at h;simp only[al,cf,bh]at h;exact⟨λb hb=>aCc (h.1 b hb),h.2⟩
theorem aqI:sD.Ok:=by
 rintro l ⟨hl,hb⟩;have hl:YH l:=hl;rw[aqH,KI (d:=l) ⟨hl,hb⟩];simp only[ah,bm,Gg,bm,MK,EO];cases gT:og l
 ·rfl
 ·obtain⟨h1,h2,h3⟩:=ak9 gT;have l1:=eJ [] l.1.length;have l0:([]:List Int).length=0:=rfl;simp only[cd,au,bN];rw[o9 (d:=([],(l.1.length:Int))) ⟨by show([]:List Int).length<=90000000;omega,by show(l.1.length:Int)<=9223372036854775807;omega⟩];simp only[ah,bm,xc];rw[YZ (d:=(df [] l.1.length,l.1,l.1.length,0)) ⟨h1,h3,by show(df [] l.1.length).length<=_;omega,rfl,0,ak,rfl⟩];rfl
theorem Dk(l:Lk):(EO l).length<=1000:=by
 unfold EO;split
 ·rename_i h;obtain⟨h1,h2,h3⟩:=ak9 h;have key:∀(bs:List mr) (o:List Int),(∀b∈bs,aEd b)->(bs.foldl atV o).length<=o.length+200*bs.length:=by
   intro bs
   induction bs with
   |nil=>intro o _;exact az _
   |cons b bs ih=>
    intro o hb;have e1:=ih (atV o b) λx hx=>hb x (aV _ hx)
    have e2:=acI o b (hb b bf).1;rw[cS,aE];omega
  have e:=key l.1 (df [] l.1.length) h1;have e2:=eJ [] l.1.length;have l0:([]:List Int).length=0:=rfl;omega
 ·exact aL _
theorem UQ:sD.RS:=rE [.d zV] sD
def aa7:=sD.fh aqI 2 ⟨.fD adt,⟨.fD adu,trivial⟩⟩
def apZ:(Bs×Bs)->Prop:=λ(b,h)=>b.length+h.length<=100000000/\h.length=32
def aoj:(Bs×Bs)->Bs:=λ(b,h)=>b++h
def Ul:Fs Tryz.prog apZ bm aoj:=fg 111 Tryz.f111 (λ(b,h)=>([.d tB b,.d tH h],[])) (λx=>⟨.d tB x,[],[]⟩) [aw tB,aw tH] [Ug]
theorem auT(b h)(k:K1 R):Ul.A (b,h) k=aj (FZ.call (b,(cut h 0 32))) λx1=>k (Ul.out x1):=cK
theorem auU:Ul.Ok:=by rintro⟨b,h⟩ ⟨h1,h2⟩;have h1:b.length+h.length<=100000000:=h1;have h2:h.length=32:=h2;rw[auT,dw h2,Il (d:=(b,h)) h1];rfl
theorem ap0:Ul.RS:=rE [.d tB,.d tB] Ul
def auV:=Ul.fh auU
def apX:(Bs×Bs)->Prop:=λ(b,c)=>b.length+c.length<=90000000
def acT:(Bs×Bs)->Bs:=λ(b,c)=>b++(fe c.length++c)
def Uk:Fs Tryz.prog apX bm acT:=fg 112 Tryz.f112 (λ(b,c)=>([.d tB b,.d tB c],[])) (λx=>⟨.d tB x,[],[]⟩) [aw tB,aw tB] [aok,T6] {res:=[aw tB]}
theorem auQ(b c)(k:K1 R):Uk.A (b,c) k=aj (Um.call (c.length:Int)) λx1=>aj (oL.call [b,x1,c]) λx2=>k (Uk.out x2):=cK
theorem auR:Uk.Ok:=by rintro⟨b,c⟩ h;have h:b.length+c.length<=90000000:=h;have hl:=kH c.length;rw[auQ,agh (d:=(c.length:Int)) ⟨ak,ak⟩];simp only[ah,bm,ako];rw[QQ (d:=[b,fe c.length,c]) ⟨by show [b,fe c.length,c].length<=_;simp,by show tC [b,fe c.length,c]<=_;simp only[tC,lp,pP,bn,ai];omega⟩];simp only[ah,bm,OV,bm,acT,lp,pP,bn]
theorem apY:Uk.RS:=rE [.d tB,.d tB] Uk
def auS:=Uk.fh auR
def Iw(b:List Int)(x:fB):List Int:=df (b++x.1.1) x.1.2.1
def IV(b:List Int)(o:gb):List Int:=df b o.1++(fe (EO o.2.1).length++EO o.2.1)
def qJ(t:eT):List Int:=df (t.2.1.foldl IV (df (t.1.foldl Iw (df [] t.1.length)) t.2.1.length)) t.2.2.1
def Lp(b:List Int)(s:Sg):List Int:=b++gV s.1++gV s.2.1
def afy(b:List Int)(x:fB):List Int:=x.2.1.2.1.foldl Lp (df (df b x.2.1.1) x.2.1.2.1.length)++gV x.2.1.2.2.1
def aap(t:eT):List Int:=if gS t then t.1.foldl afy (qJ t) else []
def OF(t:eT):List Int:=if gS t then tag (bw (⟨#[116,120]⟩:ByteArray)) [qJ t] else ag 32 0
def aIX(x:fB):Prop:=Sm x.1.1/\OU x.2.1/\x.2.1.2.1.length<=9223372036854775807
def Ca(t:eT):Prop:=aBn t/\(∀x∈t.1,aIX x)/\t.2.2.1<=9223372036854775807
theorem iD:∀(l:List fB) (m:List (tj×Bool)),MC m l=aW->∀x∈l,F7 x=aW
 |[],_,_,x,hx=>by cases hx
 |y::l,m,h,x,hx=>by
  rw[MC,al,al]at h;rcases cz.1 hx with rfl | hx
  ·exact h.1.2
  ·exact iD l _ h.2 x hx
theorem ku:∀(l:List gb) (s:Int),y9 s l=aW->∀o∈l,(0<=o.1/\o.1<=1125899906842624)/\og o.2.1=aW
 |[],_,_,o,ho=>by cases ho
 |y::l,s,h,o,ho=>by
  rw[y9,al,al]at h;rcases cz.1 ho with rfl | ho
  ·have h1:=h.1.1;unfold I6 u6 at h1;simp only[al,bh]at h1;exact⟨h1.2.1,h.1.2⟩
  ·exact ku l _ h.2 o ho
theorem qE{x:fB}(h:F7 x=aW):0<=x.1.2.1/\x.1.2.1 < 64/\0<=x.2.1.1/\x.2.1.1 < 4/\x.2.1.2.1.length<=12:=by unfold F7 xA at h;simp only[al,bh]at h;exact⟨h.1.1,h.1.2,h.2.1.1,h.2.1.2,h.2.2⟩
theorem jO{t:eT}(h:gS t=aW):(1<=t.1.length/\t.1.length<=64/\t.2.1.length<=64/\0<=t.2.2.1)/\MC [] t.1=aW/\y9 0 t.2.1=aW:=by unfold gS Yu at h;simp only[al,bh]at h;exact h
theorem adn(b:List Int)(x:fB):(Iw b x).length<=b.length+x.1.1.length+11:=by have:=eJ (b++x.1.1) x.1.2.1;rw[ai]at this;exact this
theorem VB(b:List Int)(o:gb):(IV b o).length<=b.length+1022:=by have h1:=eJ b o.1;have h2:=kH (EO o.2.1).length;have h3:=Dk o.2.1;unfold IV;rw[ai,ai];omega
theorem Xx(b:List Int)(s:Sg):(Lp b s).length=b.length+16:=by unfold Lp;rw[ai,ai,bT,bT]
abbrev HQ:=eT×Bs×(List fB)×Int×Int
def wh:HQ->Bs->((eT)×(Bs)):=λ(gR,b,t13,t14,t15) y=>(gR,y)
abbrev HS:=eT×Bs×(List gb)×Int×Int
def wi:HS->Bs->((eT)×(Bs)):=λ(sh,fI,t35,t36,t37) y=>(sh,y)
def aag:HQ->Prop:=λ(t,b,l,n,i)=>(l).length<=1000000000/\∃k:Nat,k<=(l).length/\i=k/\n=(l).length/\(l.length<=64)/\(∀x∈l,x.1.1.length=32/\x.1.2.1<=9223372036854775807)/\(b.length<=100+50*k)
def A4:HQ->Bs:=λ(t,b,l,n,i)=>(aX (ab i) l).foldl Iw b
def aai:HS->Prop:=λ(t,b,l,n,i)=>(l).length<=1000000000/\∃k:Nat,k<=(l).length/\i=k/\n=(l).length/\(l.length<=64)/\(∀o∈l,o.1<=9223372036854775807/\aBm o.2.1)/\(b.length<=4000+1100*k)
def A5:HS->Bs:=λ(t,b,l,n,i)=>(aX (ab i) l).foldl IV b
def anL:eT->Prop:=λt=>gS t=aW/\Ca t
def X6:eT->Bs:=λt=>qJ t
def qu:Ls aag wh A4:=oP (λ(gR,b,t13,t14,t15)=>⟨([bK,.dB eU gR,bK,.d tB b]++a9 9 ([.d (.slice dM) t13,.d ti t14,.d ti t15]++a9 38 [])),[],(ag 54 [])⟩) (λx=>(.exit 0,⟨([bK,.dB eU x.1,bK,.d tB x.2]++a9 50 []),[],(ag 54 [])⟩))
def qv:Ls aai wi A5:=oP (λ(sh,fI,t35,t36,t37)=>⟨([bK,.dB eU sh,bK,.d tB fI]++a9 31 ([.d (.slice dO) t35,.d ti t36,.d ti t37]++a9 16 [])),[],(ag 54 [])⟩) (λx=>(.exit 2,⟨([bK,.dB eU x.1,bK,.d tB x.2]++a9 50 []),[],(ag 54 [])⟩))
def uI:Fs Tryz.prog anL bm X6:=fg 61 Tryz.f61 (λt=>([.d eU t],[])) (λx=>⟨.d tB x,[],[]⟩) [aw eU] [acS,auV,aa7,auS] {loops:=oN [(3,{aY:=[1,3,13,14,15]}),(9,{aY:=[1,3,35,36,37]})],outs:=oM [(3,{aY:=[1,3]},{aY:=[2]}),(9,{aY:=[1,3]},{aY:=[2]})],fE:=pX [(3,qu.E),(9,qv.E)],res:=[aw tB]}
theorem aah:qu.RS:=rL [.d eU,.d tB,.d (.slice dM),.d ti,.d ti] qu
theorem HR(gR b t13 t14 t15)(kn:K2 R)(kx:K3 R):uI.R 0 qu (gR,b,t13,t14,t15) kn kx=aG (fV t15 t14) (aG (ei t15 (t13.length:Int)) (aj (Ul.call (b,(nth dM t13 (ab t15)).1.1)) λx1=>aj (FC.call (x1,(nth dM t13 (ab t15)).1.2.1)) λx2=>kn (qu.st (gR,x2,t13,t14,(bB .i64 t15 1)))) aF) (qu.go kx (gR,b)):=cK
theorem aaj:qv.RS:=rL [.d eU,.d tB,.d (.slice dO),.d ti,.d ti] qv
theorem HT(sh fI t35 t36 t37)(kn:K2 R)(kx:K3 R):uI.R 1 qv (sh,fI,t35,t36,t37) kn kx=aG (fV t37 t36) (aG (ei t37 (t35.length:Int)) (aj (FC.call (fI,(nth dO t35 (ab t37)).1)) λx1=>aj (sD.call (nth dO t35 (ab t37)).2.1) λx2=>aj (Uk.call (x1,x2)) λx3=>kn (qv.st (sh,x3,t35,t36,(bB .i64 t37 1)))) aF) (qv.go kx (sh,fI)):=cK
theorem atr(t)(k:K1 R):uI.A t k=aj (FC.call (([]:List Int),(t.1.length:Int))) λx1=>aj (qu.call (t,x1,t.1,(t.1.length:Int),0)) λx4=>aj (FC.call (x4.2,(x4.1.2.1.length:Int))) λx5=>aj (qv.call (x4.1,x5,x4.1.2.1,(x4.1.2.1.length:Int),0)) λx9=>aj (FC.call (x9.2,x9.1.2.2.1)) λQN=>k (uI.out QN):=cK
theorem afd:(uI.j8 0 qu):=by
 refine(uI.lX 0 qu) (λ(t,b,l,n,i)=>(l).length - ab i) ?_
 rintro⟨t,b,l,n,i⟩ ⟨hlen,k,hk,rfl,rfl,yU,hx,hb⟩;have hlen:(l).length<=1000000000:=hlen;have hk:k<=(l).length:=hk;have yU:l.length<=64:=yU;have hx:∀x∈l,x.1.1.length=32/\x.1.2.1<=9223372036854775807:=hx;have hb:b.length<=100+50*k:=hb;by_cases h:k < (l).length
 ·left;have n1:nth dM l k=l[k]:=cC (t:=dM) h;have hd:aX k l=l[k]::aX (k+1) l:=aq h;refine⟨(t,(Iw b l[k]),l,((l).length:Int),((k+1:Nat):Int)),⟨hlen,k+1,ak,rfl,rfl,yU,hx,by have:=adn b l[k];have:=(hx _ (ba h)).1;omega⟩,by simp only[aa];omega,?_,λkn kx=> ?_⟩
  ·simp only[wh,A4,aa,hd,cS]
  ·rw[HR,aU ak,bo ak ak,aa,n1];simp only[ao];have e:=hx _ (ba h);have e2:(b++l[k].1.1).length=b.length+l[k].1.1.length:=ai;rw[ap0 (d:=(b,l[k].1.1)) ⟨by show b.length+l[k].1.1.length<=_;omega,e.1⟩];simp only[ah,bm,aoj];rw[o9 (d:=(b++l[k].1.1,l[k].1.2.1)) ⟨by show(b++l[k].1.1).length<=_;omega,e.2⟩];simp only[ah,bm,xc];rw[N.ot ak];rfl
 ·right;obtain rfl:k=(l).length:=ak;intro R kn kx;rw[HR,aT ak,au];simp only[wh,A4,aa,aN,fM]
theorem afe:(uI.j8 1 qv):=by
 refine(uI.lX 1 qv) (λ(t,b,l,n,i)=>(l).length - ab i) ?_
 rintro⟨t,b,l,n,i⟩ ⟨hlen,k,hk,rfl,rfl,yU,hx,hb⟩;have hlen:(l).length<=1000000000:=hlen;have hk:k<=(l).length:=hk;have yU:l.length<=64:=yU;have hx:∀o∈l,o.1<=9223372036854775807/\aBm o.2.1:=hx;have hb:b.length<=4000+1100*k:=hb;by_cases h:k < (l).length
 ·left;have n1:nth dO l k=l[k]:=cC (t:=dO) h;have hd:aX k l=l[k]::aX (k+1) l:=aq h;refine⟨(t,(IV b l[k]),l,((l).length:Int),((k+1:Nat):Int)),⟨hlen,k+1,ak,rfl,rfl,yU,hx,by have:=VB b l[k];omega⟩,by simp only[aa];omega,?_,λkn kx=> ?_⟩
  ·simp only[wi,A5,aa,hd,cS]
  ·rw[HT,aU ak,bo ak ak,aa,n1];simp only[ao];have e:=hx _ (ba h);have e1:=eJ b l[k].1;have e2:=Dk l[k].2.1;rw[o9 (d:=(b,l[k].1)) ⟨by show b.length<=_;omega,e.1⟩];simp only[ah,bm,xc];rw[UQ (d:=l[k].2.1) e.2];simp only[ah,bm,MK];rw[apY (d:=(df b l[k].1,EO l[k].2.1)) (by show(df b l[k].1).length+(EO l[k].2.1).length<=_;omega)];simp only[ah,bm,acT];rw[N.ot ak];rfl
 ·right;obtain rfl:k=(l).length:=ak;intro R kn kx;rw[HT,aT ak,au];simp only[wi,A5,aa,aN,fM]
theorem Tx:∀(l:List fB) (b:List Int),(∀x∈l,x.1.1.length=32)->(l.foldl Iw b).length<=b.length+43*l.length
 |[],b,_=>az _
 |x::l,b,h=>by
  have h1:=adn b x;have h2:=h x bf;have h3:=Tx l (Iw b x) λy hy=>h y (aV _ hy)
  rw[cS,aE];omega
theorem MZ:∀(l:List gb) (b:List Int),(l.foldl IV b).length<=b.length+1022*l.length
 |[],b=>az _
 |x::l,b=>by have h1:=VB b x;have h3:=MZ l (IV b x);rw[cS,aE];omega
theorem DM{t:eT}(gT:gS t=aW)(hv:Ca t):(qJ t).length<=70000:=by
 obtain⟨⟨_,a2,a3,_⟩,_,_⟩:=jO gT;have h1:=Tx t.1 (df [] t.1.length) λx hx=>(hv.2.1 x hx).1.1
 have h2:=eJ [] t.1.length;have h3:=eJ (t.1.foldl Iw (df [] t.1.length)) t.2.1.length;have h4:=MZ t.2.1 (df (t.1.foldl Iw (df [] t.1.length)) t.2.1.length);have h5:=eJ (t.2.1.foldl IV (df (t.1.foldl Iw (df [] t.1.length)) t.2.1.length)) t.2.2.1;have h0:([]:List Int).length=0:=rfl;unfold qJ;omega
theorem ats:uI.Ok:=by
 rintro t ⟨gT,hv⟩;have hv:Ca t:=hv;obtain⟨⟨_,a2,a3,_⟩,b1,b2⟩:=jO gT;have h0:([]:List Int).length=0:=rfl;have l0:=eJ [] t.1.length;have l1:=Tx t.1 (df [] t.1.length) λx hx=>(hv.2.1 x hx).1.1
 have l2:=eJ (t.1.foldl Iw (df [] t.1.length)) t.2.1.length;have l3:=MZ t.2.1 (df (t.1.foldl Iw (df [] t.1.length)) t.2.1.length);rw[atr,o9 (d:=([],(t.1.length:Int))) ⟨by show([]:List Int).length<=_;omega,by show(t.1.length:Int)<=_;omega⟩];simp only[ah,bm,xc];rw[aah (d:=(t,df [] t.1.length,t.1,t.1.length,0)) ⟨by show t.1.length<=_;omega,0,aL _,rfl,rfl,a2,λx hx=>⟨(hv.2.1 x hx).1.1,by have:=qE (iD _ _ b1 x hx);omega⟩,by show(df [] t.1.length).length<=_;omega⟩];simp only[ah,wh,A4,aS,aM];rw[o9 (d:=(t.1.foldl Iw (df [] t.1.length),(t.2.1.length:Int))) ⟨by show(t.1.foldl Iw (df [] t.1.length)).length<=_;omega,by show(t.2.1.length:Int)<=_;omega⟩];simp only[ah,bm,xc];rw[aaj (d:=(t,df (t.1.foldl Iw (df [] t.1.length)) t.2.1.length,t.2.1,t.2.1.length,0)) ⟨by show t.2.1.length<=_;omega,0,aL _,rfl,rfl,a3,λo ho=>⟨by have:=(ku _ _ b2 o ho).1;omega,hv.1.1 o ho⟩,by show(df (t.1.foldl Iw (df [] t.1.length)) t.2.1.length).length<=_;omega⟩];simp only[ah,wi,A5,aS,aM];rw[o9 (d:=(t.2.1.foldl IV (df (t.1.foldl Iw (df [] t.1.length)) t.2.1.length),t.2.2.1)) ⟨by show(t.2.1.foldl IV (df (t.1.foldl Iw (df [] t.1.length)) t.2.1.length)).length<=_;omega,hv.2.2⟩];rfl
theorem X7:uI.RS:=rE [.d eU] uI
def ack:=uI.fh ats 2 ⟨.fD afd,⟨.fD afe,trivial⟩⟩
def CZ(t:eT):Prop:=(t.1.length<=1000000000/\∀x∈t.1,x.2.1.2.1.length<=1000000000)/\t.2.1.length<=1000000000/\∀x∈t.2.1,x.2.1.1.length<=1000000000/\∀b∈x.2.1.1,b.1.length<=1000000000
def ED(n:Int)(x:fB):Int:=n+(10+8*x.2.1.2.1.length)+(if x.2.1.2.2.1=0 then 0 else 4)
def Ig(t:eT):Int:=if gS t then t.1.foldl ED (10+8*t.2.1.length) else 0
def jt(t:eT):List tj:=if gS t then t.1.map (·.1) else []
def Jk(id:List Int)(k n:Nat):List tj:=(List.range' k n).map λi:Nat=>(id,((i:Int),()))
def sW(t:eT):List tj:=if gS t then Jk (OF t) 0 t.2.1.length else []
def aBb:eT->Prop:=λt=>Ca t
def X0:eT->Bs:=λt=>OF t
def tid:Fs Tryz.prog aBb bm X0:=fg 14 Tryz.f14 (λt=>([.d eU t],[])) (λx=>⟨.d tH x,[],[]⟩) [aw eU] [oF,ack,Tw]
theorem aDt(t)(k:K1 R):tid.A t k=aj (eV.call t) λx1=>aG (!x1) (k (tid.out (ag 32 0))) (aj (uI.call t) λx2=>aj (Pp.call ((⟨#[116,120]⟩:ByteArray),[x2])) λx3=>k (tid.out x3)):=cK
theorem aDu:tid.Ok:=by
 intro t hv;have hv:Ca t:=hv;rw[aDt,jz (d:=t) hv.1];simp only[ah,bm,mQ,bm,X0,OF];cases gT:gS t
 ·rfl
 ·have hl:=DM gT hv;rw[X7 (d:=t) ⟨gT,hv⟩];simp only[cd,au,bN,ah,bm,X6];rw[My (d:=((⟨#[116,120]⟩:ByteArray),[qJ t])) (XM gw ak)];rfl
theorem Es:tid.RS:=rE [.d eU] tid
def X1:=tid.fh aDu
abbrev OD:=Int×(List fB)×Int×Int
def Yn:OD->Prop:=λ(n,l,m,i)=>(l).length<=1000000000/\∃k:Nat,k<=(l).length/\i=k/\m=(l).length/\(l.length<=64)/\(∀x∈l,x.2.1.2.1.length<=12)/\(0<=n)/\(n<=1000+200*(k:Int))
def yJ:OD->Int:=λ(n,l,m,i)=>(aX (ab i) l).foldl ED n
def ajF:eT->Prop:=λt=>Ca t
def IP:eT->Int:=λt=>Ig t
def mq:Ls Yn bm yJ:=oP (λ(n,t15,t16,t17)=>⟨([bK,bK,bK,.d ti n]++a9 11 ([.d (.slice dM) t15,.d ti t16,.d ti t17]++a9 19 [])),[],(ag 37 [])⟩) (λx=>(.exit 0,⟨([bK,bK,bK,.d ti x]++a9 33 []),[],(ag 37 [])⟩))
def hP:Fs Tryz.prog ajF bm IP:=fg 16 Tryz.f16 (λt=>([.d eU t],[])) (λx=>⟨.d ti x,[],[]⟩) [aw eU] [oF] {loops:=oN [(5,{aY:=[3,15,16,17]})],outs:=oM [(5,{aY:=[3]},{aY:=[2]})],fE:=pX [(5,mq.E)]}
theorem Yo:mq.RS:=rL [.d ti,.d (.slice dM),.d ti,.d ti] mq
theorem Ft(n t15 t16 t17)(kn:K2 R)(kx:K3 R):hP.R 0 mq (n,t15,t16,t17) kn kx=aG (fV t17 t16) (aG (ei t17 (t15.length:Int)) (aG (Ak (nth dM t15 (ab t17)).2.1.2.2.1 0) (kn (mq.st ((bB .i64 (bB .i64 n (bB .i64 10 (eB .i64 8 (((ae (nth dM t15 (ab t17)).2.1.2.1):Nat):Int)))) 4),t15,t16,(bB .i64 t17 1)))) (kn (mq.st ((bB .i64 n (bB .i64 10 (eB .i64 8 (((ae (nth dM t15 (ab t17)).2.1.2.1):Nat):Int)))),t15,t16,(bB .i64 t17 1))))) aF) (mq.go kx n):=cK
theorem anW(t)(k:K1 R):hP.A t k=aj (eV.call t) λx1=>aG (!x1) (k (hP.out 0)) (aj (mq.call ((bB .i64 10 (eB .i64 8 (t.2.1.length:Int))),t.1,(t.1.length:Int),0)) λx2=>k (hP.out x2)):=cK
theorem aao:(hP.j8 0 mq):=by
 refine(hP.lX 0 mq) (λ(n,l,m,i)=>(l).length - ab i) ?_
 rintro⟨n,l,m,i⟩ ⟨hlen,k,hk,rfl,rfl,yU,hx,h0,h1⟩;have hlen:(l).length<=1000000000:=hlen;have hk:k<=(l).length:=hk;have yU:l.length<=64:=yU;have hx:∀x∈l,x.2.1.2.1.length<=12:=hx;have h0:0<=n:=h0;have h1:n<=1000+200*(k:Int):=h1;by_cases h:k < (l).length
 ·left;have n1:nth dM l k=l[k]:=cC (t:=dM) h;have hd:aX k l=l[k]::aX (k+1) l:=aq h;refine⟨((ED n l[k]),l,((l).length:Int),((k+1:Nat):Int)),⟨hlen,k+1,ak,rfl,rfl,yU,hx,by unfold ED;split <;> omega,by have:=hx _ (ba h);unfold ED;split <;> omega⟩,by simp only[aa];omega,?_,λkn kx=> ?_⟩
  ·simp only[bm,yJ,aa,hd,cS]
  ·rw[Ft,aU ak,bo ak ak,aa,n1];simp only[ao];have e:=hx _ (ba h);rw[N.aD5 ak];have e2:bB .i64 10 ((8*l[k].2.1.2.1.length:Nat):Int)=10+8*(l[k].2.1.2.1.length:Int):=by rw[iC ak ak];omega
   rw[e2,iC (x:=n) ak ak,N.ot ak];unfold ED;by_cases hs:l[k].2.1.2.2.1=0
   ·rw[cZ hs,au,if_pos hs,Int.add_zero]
   ·rw[eR hs,ao,if_neg hs,iC ak ak]
 ·right;obtain rfl:k=(l).length:=ak;intro R kn kx;rw[Ft,aT ak,au];simp only[bm,yJ,aa,aN,fM]
theorem anX:hP.Ok:=by
 intro t hv;have hv:Ca t:=hv;rw[anW,jz (d:=t) hv.1];simp only[ah,bm,mQ,bm,IP,Ig];cases gT:gS t
 ·rfl
 ·obtain⟨⟨_,a2,a3,_⟩,b1,b2⟩:=jO gT;rw[N.aD5 ak,iC ak ak,Yo (d:=(10+((8*t.2.1.length:Nat):Int),t.1,t.1.length,0)) ⟨by show t.1.length<=_;omega,0,aL _,rfl,rfl,a2,λx hx=>(qE (iD _ _ b1 x hx)).2.2.2.2,by show(0:Int)<=10+((8*t.2.1.length:Nat):Int);omega,by show 10+((8*t.2.1.length:Nat):Int)<=_;omega⟩];simp only[ah,bm,yJ,aS,aM,cd,au,bN,jw];rfl
theorem H9:hP.RS:=rE [.d eU] hP
def Yp:=hP.fh anX 1 ⟨.fD aao,trivial⟩
abbrev Si:=Bs×(List fB)×Int×Int
abbrev HM:=Bs×(List fB)×Int×Int×(List Sg)×Int×Int×fB
def wg:HM->Bs->(((List fB)×Int×Int×fB)×(Bs)):=λ(fI,XH,XI,zF,t32,t33,t34,n5) y=>((XH,XI,zF,n5),y)
def aab:HM->Prop:=λ(b,l1,aGi,i1,l,n,i,x)=>(l).length<=1000000000/\∃k:Nat,k<=(l).length/\i=k/\n=(l).length/\(l.length<=12)/\(b.length<=80000000+16*k)
def A1:HM->Bs:=λ(b,l1,aGi,i1,l,n,i,x)=>(aX (ab i) l).foldl Lp b
def Z9:Si->Prop:=λ(b,l,n,i)=>(l).length<=1000000000/\∃k:Nat,k<=(l).length/\i=k/\n=(l).length/\(l.length<=64)/\(∀x∈l,x.2.1.2.1.length<=12/\x.2.1.1<=9223372036854775807)/\(b.length<=100000+1000*k)
def HK:Si->Bs:=λ(b,l,n,i)=>(aX (ab i) l).foldl afy b
theorem Ob:∀(l:List Sg) (b:List Int),(l.foldl Lp b).length=b.length+16*l.length
 |[],b=>rfl
 |x::l,b=>by have h1:=Xx b x;have h3:=Ob l (Lp b x);rw[cS,aE];omega
theorem ajL(b:List Int)(x:fB)(h:x.2.1.2.1.length<=12):(afy b x).length<=b.length+300:=by have e1:=eJ b x.2.1.1;have e2:=eJ (df b x.2.1.1) x.2.1.2.1.length;have e3:=Ob x.2.1.2.1 (df (df b x.2.1.1) x.2.1.2.1.length);unfold afy;rw[ai,bT];omega
def anG:eT->Prop:=λt=>Ca t
def ajj:eT->Bs:=λt=>aap t
def qs:Ls Z9 bm HK:=oP (λ(b,t14,t15,t16)=>⟨([bK,bK,bK,.d tB b]++a9 10 ([.d (.slice dM) t14,.d ti t15,.d ti t16]++a9 36 [])),[],(ag 53 [])⟩) (λx=>(.exit 0,⟨([bK,bK,bK,.d tB x]++a9 49 []),[],(ag 53 [])⟩))
def qt:Ls aab wg A1:=oP (λ(fI,XH,XI,zF,t32,t33,t34,n5)=>⟨([bK,bK,bK,.d tB fI,bK,dX 5]++a9 8 ([.d (.slice dM) XH,.d ti XI,.d ti zF]++a9 15 ([.d (.slice oE) t32,.d ti t33,.d ti t34]++a9 18 []))),[],(bC 5 ([cH (.d dM n5)]++bC 47 []))⟩) (λx=>(.exit 2,⟨([bK,bK,bK,.d tB x.2,bK,dX 5]++a9 8 ([.d (.slice dM) x.1.1,.d ti x.1.2.1,.d ti x.1.2.2.1]++a9 36 [])),[],(bC 5 ([cH (.d dM x.1.2.2.2)]++bC 47 []))⟩))
def jN:Fs Tryz.prog anG bm ajj:=fg 18 Tryz.f18 (λt=>([.d eU t],[])) (λx=>⟨.d tB x,[],[]⟩) [aw eU] [oF,ack,acS,age] {loops:=oN [(5,{aY:=[3,14,15,16]}),(9,{aY:=[3,5,14,15,16,32,33,34],sites:=[5]})],outs:=oM [(5,{aY:=[3]},{aY:=[2]}),(9,{aY:=[3,5,14,15,16],sites:=[5]},{aY:=[2]})],fE:=pX [(5,qs.E),(9,qt.E)],res:=[aw tB]}
theorem aaa:qs.RS:=rL [.d tB,.d (.slice dM),.d ti,.d ti] qs
theorem HL(b t14 t15 t16)(kn:K2 R)(kx:K3 R):jN.R 0 qs (b,t14,t15,t16) kn kx=aG (fV t16 t15) (aG (ei t16 (t14.length:Int)) (aj (FC.call (b,(nth dM t14 (ab t16)).2.1.1)) λx1=>aj (FC.call (x1,(((ae (nth dM t14 (ab t16)).2.1.2.1):Nat):Int))) λx2=>aj (qt.call (x2,t14,t15,t16,(nth dM t14 (ab t16)).2.1.2.1,(((ae (nth dM t14 (ab t16)).2.1.2.1):Nat):Int),0,(nth dM t14 (ab t16)))) λx3=>aj (F1.call (x3.2,x3.1.2.2.2.2.1.2.2.1)) λx4=>kn (qs.st (x4,x3.1.1,x3.1.2.1,(bB .i64 x3.1.2.2.1 1)))) aF) (qs.go kx b):=cK
theorem aac:qt.RS:=rL [.d tB,.d (.slice dM),.d ti,.d ti,.d (.slice oE),.d ti,.d ti,.d dM] qt
theorem HN(fI XH XI zF t32 t33 t34 n5)(kn:K2 R)(kx:K3 R):jN.R 1 qt (fI,XH,XI,zF,t32,t33,t34,n5) kn kx=aG (fV t34 t33) (aG (ei t34 (t32.length:Int)) (aj (F1.call (fI,(nth oE t32 (ab t34)).1)) λx1=>aj (F1.call (x1,(nth oE t32 (ab t34)).2.1)) λx2=>kn (qt.st (x2,XH,XI,zF,t32,t33,(bB .i64 t34 1),n5))) aF) (qt.go kx ((XH,XI,zF,n5),fI)):=cK
theorem atj(t)(k:K1 R):jN.A t k=aj (eV.call t) λx1=>aG (!x1) (k (jN.out ([]:List Int))) (aj (uI.call t) λx2=>aj (qs.call (x2,t.1,(t.1.length:Int),0)) λx9=>k (jN.out x9)):=cK
theorem ae1:(jN.j8 1 qt):=by
 refine(jN.lX 1 qt) (λ(b,l1,aGi,i1,l,n,i,x)=>(l).length - ab i) ?_
 rintro⟨b,l1,aGi,i1,l,n,i,x⟩ ⟨hlen,k,hk,rfl,rfl,Q3,hb⟩;have hlen:(l).length<=1000000000:=hlen;have hk:k<=(l).length:=hk;have Q3:l.length<=12:=Q3;have hb:b.length<=80000000+16*k:=hb;by_cases h:k < (l).length
 ·left;have n1:nth oE l k=l[k]:=cC (t:=oE) h;have hd:aX k l=l[k]::aX (k+1) l:=aq h;refine⟨((Lp b l[k]),l1,aGi,i1,l,((l).length:Int),((k+1:Nat):Int),x),⟨hlen,k+1,ak,rfl,rfl,Q3,by have:=Xx b l[k];omega⟩,by simp only[aa];omega,?_,λkn kx=> ?_⟩
  ·simp only[wg,A1,aa,hd,cS]
  ·rw[HN,aU ak,bo ak ak,aa,n1];simp only[ao];rw[Cg (d:=(b,l[k].1)) (by show b.length<=_;omega)];simp only[ah,bm,Ma];rw[Cg (d:=(b++gV l[k].1,l[k].2.1)) (by show(b++gV l[k].1).length<=_;rw[ai,bT];omega)];simp only[ah,bm,Ma];rw[N.ot ak];rfl
 ·right;obtain rfl:k=(l).length:=ak;intro R kn kx;rw[HN,aT ak,au];simp only[wg,A1,aa,aN,fM]
theorem ae0:(jN.j8 0 qs):=by
 refine(jN.lX 0 qs) (λ(b,l,n,i)=>(l).length - ab i) ?_
 rintro⟨b,l,n,i⟩ ⟨hlen,k,hk,rfl,rfl,yU,hx,hb⟩;have hlen:(l).length<=1000000000:=hlen;have hk:k<=(l).length:=hk;have yU:l.length<=64:=yU;have hx:∀x∈l,x.2.1.2.1.length<=12/\x.2.1.1<=9223372036854775807:=hx;have hb:b.length<=100000+1000*k:=hb;by_cases h:k < (l).length
 ·left;have n1:nth dM l k=l[k]:=cC (t:=dM) h;have hd:aX k l=l[k]::aX (k+1) l:=aq h;refine⟨((afy b l[k]),l,((l).length:Int),((k+1:Nat):Int)),⟨hlen,k+1,ak,rfl,rfl,yU,hx,by have:=ajL b l[k] (hx _ (ba h)).1;omega⟩,by simp only[aa];omega,?_,λkn kx=> ?_⟩
  ·simp only[bm,HK,aa,hd,cS]
  ·rw[HL,aU ak,bo ak ak,aa,n1];simp only[ao];have e:=hx _ (ba h);have e1:=eJ b l[k].2.1.1;have e2:=eJ (df b l[k].2.1.1) l[k].2.1.2.1.length;have e3:=Ob l[k].2.1.2.1 (df (df b l[k].2.1.1) l[k].2.1.2.1.length);rw[o9 (d:=(b,l[k].2.1.1)) ⟨by show b.length<=_;omega,e.2⟩];simp only[ah,bm,xc];rw[o9 (d:=(df b l[k].2.1.1,(l[k].2.1.2.1.length:Int))) ⟨by show(df b l[k].2.1.1).length<=_;omega,by show(l[k].2.1.2.1.length:Int)<=_;omega⟩];simp only[ah,bm,xc];rw[aac (d:=(df (df b l[k].2.1.1) l[k].2.1.2.1.length,l,l.length,k,l[k].2.1.2.1,l[k].2.1.2.1.length,0,l[k])) ⟨by show l[k].2.1.2.1.length<=_;omega,0,aL _,rfl,rfl,e.1,by show(df (df b l[k].2.1.1) l[k].2.1.2.1.length).length<=_;omega⟩];simp only[ah,wg,A1,aS,aM];rw[Cg (d:=(l[k].2.1.2.1.foldl Lp (df (df b l[k].2.1.1) l[k].2.1.2.1.length),l[k].2.1.2.2.1)) (by show(l[k].2.1.2.1.foldl Lp (df (df b l[k].2.1.1) l[k].2.1.2.1.length)).length<=_;omega)];simp only[ah,bm,Ma];rw[N.ot ak];rfl
 ·right;obtain rfl:k=(l).length:=ak;intro R kn kx;rw[HL,aT ak,au];simp only[bm,HK,aa,aN,fM]
theorem atk:jN.Ok:=by
 intro t hv;have hv:Ca t:=hv;rw[atj,jz (d:=t) hv.1];simp only[ah,bm,mQ,bm,ajj,aap];cases gT:gS t
 ·rfl
 ·obtain⟨⟨_,a2,a3,_⟩,b1,b2⟩:=jO gT;have hl:=DM gT hv;rw[X7 (d:=t) ⟨gT,hv⟩];simp only[cd,au,bN,ah,bm,X6];rw[aaa (d:=(qJ t,t.1,t.1.length,0)) ⟨by show t.1.length<=_;omega,0,aL _,rfl,rfl,a2,λx hx=>by have:=qE (iD _ _ b1 x hx);exact⟨this.2.2.2.2,ak⟩,by show(qJ t).length<=_;omega⟩];rfl
theorem XP:jN.RS:=rE [.d eU] jN
def ach:=jN.fh atk 2 ⟨.fD ae0,⟨.fD ae1,trivial⟩⟩
abbrev OB:=Nat×(List fB)×Int×Int×(List tj)
def Yk:OB->Prop:=λ(L,l,n,i,r)=>(l).length<=1000000/\∃k:Nat,k<=(l).length/\i=k/\n=(l).length/\L=(r).length/\(r).length<=1000000+k
def yI:OB->(Nat×(List tj)):=λ(L,l,n,i,r)=>(L+(aX (ab i) l).length,r++(aX (ab i) l).map (λx:fB=>x.1))
def ajE:eT->Prop:=λt=>aBn t
def QI:eT->(List tj):=λt=>jt t
def nV:Ls Yk bm yI:=oP (λ(lL,t9,t10,t11,aD7)=>⟨([bK,bK,iw 19 lL]++a9 6 ([.d (.slice dM) t9,.d ti t10,.d ti t11]++a9 10 [])),[],(bC 19 [cH (.vec 45 oS aD7),[],[]])⟩) (λx=>(.exit 0,⟨([bK,bK,iw 19 x.1]++a9 19 []),[],(bC 19 [cH (.vec 45 oS x.2),[],[]])⟩))
def iT:Fs Tryz.prog ajE bm QI:=fg 21 Tryz.f21 (λt=>([.d eU t],[])) (λx=>⟨.d (.slice oS) x,[],[]⟩) [aw eU] [oF] {loops:=oN [(4,{aY:=[2,9,10,11],sites:=[19],owns:=[⟨2,[],19,60⟩]})],outs:=oM [(4,{aY:=[2],sites:=[19]},{aY:=[2]})],fE:=pX [(4,nV.E)],res:=[aw (.slice oS)]}
theorem Yl:nV.RS:=rL [.n,.d (.slice dM),.d ti,.d ti,.d (.slice oS)] nV
theorem Fq(lL t9 t10 t11 aD7)(kn:K2 R)(kx:K3 R):iT.R 0 nV (lL,t9,t10,t11,aD7) kn kx=aG (fV t11 t10) (aG (ei t11 (t9.length:Int)) (aG (decide (lL<=(ae aD7))) (aG (db (lL+1) 40) (kn (nV.st ((lL+1),t9,t10,(bB .i64 t11 1),((aP lL aD7)++ [(nth dM t9 (ab t11)).1])))) aF) aF) aF) (nV.go kx (lL,aD7)):=cK
theorem anU(t)(k:K1 R):iT.A t k=aj (eV.call t) λx1=>aG (!x1) (k (iT.out ([]:List tj))) (aj (nV.call (0,t.1,(t.1.length:Int),0,([]:List tj))) λx2=>aG (decide (0=0/\(0+x2.1)<=(ae x2.2))) (k (iT.out (cut x2.2 0 x2.1))) aF):=cK
theorem aan:(iT.j8 0 nV):=by
 refine(iT.lX 0 nV) (λ(L,l,n,i,r)=>(l).length - ab i) ?_
 rintro⟨L,l,n,i,r⟩ ⟨hlen,k,hk,rfl,rfl,rfl,nD⟩;have hlen:(l).length<=1000000:=hlen;have hk:k<=(l).length:=hk;have nD:(r).length<=1000000+k:=nD;by_cases h:k < (l).length
 ·left;have n1:nth dM l k=l[k]:=cC (t:=dM) h;have hd:aX k l=l[k]::aX (k+1) l:=aq h;refine⟨((r).length+1,l,((l).length:Int),((k+1:Nat):Int),r++ [(λx:fB=>x.1) l[k]]),⟨hlen,k+1,ak,rfl,rfl,by rw[ai];rfl,by rw[ai];show(r).length+1<=_;omega⟩,by simp only[aa];omega,?_,λkn kx=> ?_⟩
  ·simp only[bm,yI,aa,hd,bS,aE,aC,bQ];rw[show ∀a c:Nat,a+1+c=a+(c+1) from λa c=>ak]
  ·rw[Fq,aU ak,bo (show(0:Int)<=(k:Int) by omega) ak,aa,n1];simp only[ao];rw[aI (az _),cV ak ak,N.ot ak,bt];rfl
 ·right;obtain rfl:k=(l).length:=ak;intro R kn kx;rw[Fq,aT ak,au];simp only[bm,yI,aa,aN,eX,bn,bj,bM]
theorem anV:iT.Ok:=by
 intro t hv;have hv:aBn t:=hv;rw[anU,jz (d:=t) hv];simp only[ah,bm,mQ,bm,QI,jt];cases gT:gS t
 ·rfl
 ·obtain⟨⟨_,a2,a3,_⟩,b1,b2⟩:=jO gT;rw[Yl (d:=(0,t.1,t.1.length,0,[])) ⟨by show t.1.length<=_;omega,0,aL _,rfl,rfl,rfl,aL _⟩];simp only[cd,au,bN,ah,bm,yI,aS,aM,aO,aH];rw[aI ⟨by trivial,by rw[bR];exact az _⟩,ao,dw (by rw[bR])]
theorem Sx:iT.RS:=rE [.d eU] iT
def Ym:=iT.fh anV 1 ⟨.fD aan,trivial⟩
abbrev X4:=Nat×Int×Int×Bs×(List tj)
def ae9:X4->Prop:=λ(L,n,i,id,r)=>∃k m:Nat,k<=m/\i=k/\n=m/\m<=1000/\L=r.length/\L=k
def Et:X4->(Nat×(List tj)):=λ(L,n,i,id,r)=>(L+(n - i).toNat,r++Jk id i.toNat (n - i).toNat)
def ato:eT->Prop:=λt=>Ca t
def ae8:eT->(List tj):=λt=>sW t
def uG:Ls ae9 bm Et:=oP (λ(lL,t12,t13,n3,aD8)=>⟨([bK,bK,iw 21 lL,dX 3]++a9 8 ([.d ti t12,.d ti t13]++a9 10 [])),[],([[],[],[],cH (.d tH n3)]++bC 17 [cH (.vec 45 oS aD8),[],[]])⟩) (λx=>(.exit 0,⟨([bK,bK,iw 21 x.1]++a9 21 []),[],(bC 21 [cH (.vec 45 oS x.2),[],[]])⟩))
def rk:Fs Tryz.prog ato bm ae8:=fg 23 Tryz.f23 (λt=>([.d eU t],[])) (λx=>⟨.d (.slice oS) x,[],[]⟩) [aw eU] [X1,oF] {loops:=oN [(5,{aY:=[2,3,12,13],sites:=[3,21],owns:=[⟨2,[],21,60⟩]})],outs:=oM [(5,{aY:=[2],sites:=[21]},{aY:=[2]})],fE:=pX [(5,uG.E)],res:=[aw (.slice oS)]}
theorem afa:uG.RS:=rL [.n,.d ti,.d ti,.d tB,.d (.slice oS)] uG
theorem J1(lL t12 t13 n3 aD8)(kn:K2 R)(kx:K3 R):rk.R 0 uG (lL,t12,t13,n3,aD8) kn kx=aG (fV t13 t12) (aG (decide (lL<=(ae aD8))) (aG (db (lL+1) 40) (kn (uG.st ((lL+1),t12,(bB .i64 t13 1),n3,((aP lL aD8)++ [(n3,(t13,()))])))) aF) aF) (uG.go kx (lL,aD8)):=cK
theorem ayp(t)(k:K1 R):rk.A t k=aj (tid.call t) λx1=>aj (eV.call t) λx2=>aG (!x2) (k (rk.out ([]:List tj))) (aj (uG.call (0,(t.2.1.length:Int),0,x1,([]:List tj))) λx3=>aG (decide (0=0/\(0+x3.1)<=(ae x3.2))) (k (rk.out (cut x3.2 0 x3.1))) aF):=cK
theorem PD(id:List Int)(k n:Nat):(Jk id k n).length=n:=by simp[Jk]
theorem U0(id:List Int)(k n:Nat):Jk id k (n+1)=(id,((k:Int),()))::Jk id (k+1) n:=by unfold Jk;rw[List.range'_succ,bS]
theorem ajq:(rk.j8 0 uG):=by
 refine(rk.lX 0 uG) (λ(L,n,i,id,r)=>(n - i).toNat) ?_
 rintro⟨L,n,i,id,r⟩ ⟨k,m,hk,rfl,rfl,hm,rfl,aBI⟩;have aBI:r.length=k:=aBI;by_cases h:k < m
 ·left;have e1:((m:Int) - (k:Int)).toNat=(m - (k+1))+1:=ak;have e2:((m:Int) - ((k+1:Nat):Int)).toNat=m - (k+1):=ak;refine⟨(r.length+1,(m:Int),((k+1:Nat):Int),id,r++ [(id,((k:Int),()))]),⟨k+1,m,ak,rfl,rfl,hm,by rw[ai];rfl,by show r.length+1=_;omega⟩,by show((m:Int) - ((k+1:Nat):Int)).toNat < ((m:Int) - (k:Int)).toNat;omega,?_,λkn kx=> ?_⟩
  ·simp only[bm,Et,e1,e2,aa,U0,aC,bQ];rw[show r.length+1+(m - (k+1))=r.length+(m - (k+1)+1) by omega]
  ·rw[J1,aU ak,aI (az _),cV ak ak,N.ot ak,bt];rfl
 ·right;obtain rfl:k=m:=ak;intro R kn kx;rw[J1,aT ak,au];simp only[bm,Et,Int.sub_self,aS,bM];rw[show Jk id (k:Int).toNat 0=[] from rfl,bn]
theorem ayq:rk.Ok:=by
 intro t hv;have hv:Ca t:=hv;rw[ayp,Es (d:=t) hv,jz (d:=t) hv.1];simp only[ah,bm,X0,bm,mQ,bm,ae8,sW];cases gT:gS t
 ·rfl
 ·obtain⟨⟨_,a2,a3,_⟩,b1,b2⟩:=jO gT;have hl:=PD (OF t) 0 t.2.1.length;rw[afa (d:=(0,t.2.1.length,0,OF t,[])) ⟨0,t.2.1.length,aL _,rfl,rfl,ak,rfl,rfl⟩];simp only[cd,au,bN,ah,bm,Et,iK,aa,aS,aO,aH];rw[aI ⟨by trivial,by rw[hl];exact az _⟩,ao,dw hl]
theorem acj:rk.RS:=rE [.d eU] rk
def ajr:=rk.fh ayq 1 ⟨.fD ajq,trivial⟩
def auG:(List fB)->Prop:=λl=>l.length<=1000000
def acP:(List fB)->(Nat×(List fB)):=λl=>(l.length,l)
def YP:Fs Tryz.prog auG bm acP:=fg 94 Tryz.f94 (λsv=>([.d (.slice dM) sv],[])) (λx=>⟨.dx (.new 0 0) 0 [] 0 0 x.1,[],[.obj 0 aQ (.vec 47 dM x.2)]⟩) [aw (.slice dM)] [] {bD:=[5],owns:=[⟨2,[],5,22⟩]}
theorem aze(sv)(k:K1 R):YP.A sv k=aG (decide (0 < (ae sv))) (aG (db (0+(ae sv)) 80) (k (YP.out ((0+(ae sv)),((aP 0 (ag 0 (((ag 32 0),(0,())),((0,(([]:List Sg),(0,()))),()))))++sv)))) aF) (nd (k (YP.out (0,([]:List fB)))) (aG (db (0+(ae sv)) 80) (k (YP.out ((0+(ae sv)),((aP 0 (ag 0 (((ag 32 0),(0,())),((0,(([]:List Sg),(0,()))),()))))++sv)))) aF)):=cK
theorem azf:YP.Ok:=by
 intro l hl;have hl:l.length<=1000000:=hl;have hr:db l.length 80=aW:=cV ak ak;rw[aze];simp only[aH,hr,ao,dI,aO,bm,acP];by_cases h:0 < l.length
 ·simp only[aI h,ao]
 ·have:l=[]:=bP ak;subst this;simp only[bj,DH,aJ (iM 0),au]
theorem af9:YP.RS:=rE [.d (.slice dM)] YP
def aoi:=YP.fh azf
def apQ:(List gb)->Prop:=λl=>l.length<=1000000
def Tr:(List gb)->(Nat×(List gb)):=λl=>(l.length,l)
def Jc:Fs Tryz.prog apQ bm Tr:=fg 95 Tryz.f95 (λsv=>([.d (.slice dO) sv],[])) (λx=>⟨.dx (.new 0 0) 0 [] 0 0 x.1,[],[.obj 0 aQ (.vec 55 dO x.2)]⟩) [aw (.slice dO)] [] {bD:=[5],owns:=[⟨2,[],5,23⟩]}
theorem auH(sv)(k:K1 R):Jc.A sv k=aG (decide (0 < (ae sv))) (aG (db (0+(ae sv)) 32) (k (Jc.out ((0+(ae sv)),((aP 0 (ag 0 (0,((([]:List mr),()),()))))++sv)))) aF) (nd (k (Jc.out (0,([]:List gb)))) (aG (db (0+(ae sv)) 32) (k (Jc.out ((0+(ae sv)),((aP 0 (ag 0 (0,((([]:List mr),()),()))))++sv)))) aF)):=cK
theorem auI:Jc.Ok:=by
 intro l hl;have hl:l.length<=1000000:=hl;have hr:db l.length 32=aW:=cV ak ak;rw[auH];simp only[aH,hr,ao,dI,aO,bm,Tr];by_cases h:0 < l.length
 ·simp only[aI h,ao]
 ·have:l=[]:=bP ak;subst this;simp only[bj,DH,aJ (iM 0),au]
theorem aaJ:Jc.RS:=rE [.d (.slice dO)] Jc
def aga:=Jc.fh auI
def auF:(List mr)->Prop:=λl=>l.length<=1000000
def acO:(List mr)->(Nat×(List mr)):=λl=>(l.length,l)
def YO:Fs Tryz.prog auF bm acO:=fg 97 Tryz.f97 (λsv=>([.d (.slice gW) sv],[])) (λx=>⟨.dx (.new 0 0) 0 [] 0 0 x.1,[],[.obj 0 aQ (.vec 69 gW x.2)]⟩) [aw (.slice gW)] [] {bD:=[5],owns:=[⟨2,[],5,51⟩]}
theorem azc(sv)(k:K1 R):YO.A sv k=aG (decide (0 < (ae sv))) (aG (db (0+(ae sv)) 48) (k (YO.out ((0+(ae sv)),((aP 0 (ag 0 (([]:List Int),(0,(0,(0,()))))))++sv)))) aF) (nd (k (YO.out (0,([]:List mr)))) (aG (db (0+(ae sv)) 48) (k (YO.out ((0+(ae sv)),((aP 0 (ag 0 (([]:List Int),(0,(0,(0,()))))))++sv)))) aF)):=cK
theorem azd:YO.Ok:=by
 intro l hl;have hl:l.length<=1000000:=hl;have hr:db l.length 48=aW:=cV ak ak;rw[azc];simp only[aH,hr,ao,dI,aO,bm,acO];by_cases h:0 < l.length
 ·simp only[aI h,ao]
 ·have:l=[]:=bP ak;subst this;simp only[bj,DH,aJ (iM 0),au]
theorem af8:YO.RS:=rE [.d (.slice gW)] YO
def aoh:=YO.fh azd
def apU:(List Sg)->Prop:=λl=>l.length<=1000000
def acQ:(List Sg)->(List Sg):=λl=>l
def L8:Fs Tryz.prog apU bm acQ:=fg 96 Tryz.f96 (λsv=>([.d (.slice oE) sv],[])) (λx=>⟨.d (.slice oE) x,[],[]⟩) [aw (.slice oE)] [] {bD:=[5],res:=[aw (.slice oE)]}
theorem auJ(sv)(k:K1 R):L8.A sv k=aG (decide (0 < (ae sv))) (aG (db (0+(ae sv)) 16) (aG (decide (0=0/\(0+(0+(ae sv)))<=(ae ((aP 0 (ag 0 (0,(0,()))))++sv)))) (k (L8.out (cut ((aP 0 (ag 0 (0,(0,()))))++sv) 0 (0+(ae sv))))) aF) aF) (nd (k (L8.out ([]:List Sg))) (aG (db (0+(ae sv)) 16) (aG (decide (0=0/\(0+(0+(ae sv)))<=(ae ((aP 0 (ag 0 (0,(0,()))))++sv)))) (k (L8.out (cut ((aP 0 (ag 0 (0,(0,()))))++sv) 0 (0+(ae sv))))) aF) aF)):=cK
theorem auK:L8.Ok:=by
 intro l hl;have hl:l.length<=1000000:=hl;have hr:db l.length 16=aW:=cV ak ak;rw[auJ];simp only[aH,hr,ao,dI,aO,az,eW,bA,dw,bm,acQ];by_cases h:0 < l.length
 ·simp only[aI h,ao]
 ·have:l=[]:=bP ak;subst this;simp only[bj,DH,aJ (iM 0),au]
theorem apV:L8.RS:=rE [.d (.slice oE)] L8
def auL:=L8.fh auK
abbrev Ep:=Int×Int×Nat×Nat×(Int×Unit)×(Int×Unit)×(List fB)×(List gb)
def HO:Ep->(List fB)->((Nat×Nat×(Int×Unit)×(Int×Unit)×(List gb))×((List fB))):=λ(t17,t18,adI,yZ,n1,n2,n9,Va) y=>((adI,yZ,n1,n2,Va),y)
abbrev Om:=Int×Int×Nat×Nat×(Int×Unit)×(Int×Unit)×(List fB)×(List gb)
abbrev Er:=Int×Nat×Int×Int×Int×Int×Nat×Nat×(Int×Unit)×(Int×Unit)×(List fB)×(List gb)×(List mr)
abbrev Oq:=(List mr)×(List mr)
def HP:Er->Oq->((Int×Int×Int×Nat×Nat×(Int×Unit)×(Int×Unit)×(List fB)×(List gb))×((List mr)×(List mr))):=λ(kv,lL,zG,zH,t51,t52,y1,y2,KM,kc,KS,yY,IC) y=>((kv,zG,zH,y1,y2,KM,kc,KS,yY),y)
def XU:Ep->Prop:=λ(m,i,L,L2,u,v,l,os)=>(l.length<=1000/\∀x∈l,x.2.1.2.1.length<=1000000)/\∃k:Nat,k<=l.length/\i=k/\m=l.length/\L=l.length
def Ol:Ep->(List fB):=λ(m,i,L,L2,u,v,l,os)=>l
def XY:Er->Prop:=λ(kv,L,m1,i1,m,i,L5,L6,u,v,ls,os,bs)=>(bs.length<=1000/\∀x∈bs,x.1.length<=1000000)/\∃k:Nat,k<=bs.length/\i=k/\m=bs.length/\L=bs.length
def Oo:Er->Oq:=λ(kv,L,m1,i1,m,i,L5,L6,u,v,ls,os,bs)=>(bs,bs)
def XW:Om->Prop:=λ(m,i,L3,L,u,v,ls,os)=>(os.length<=1000/\∀x∈os,x.2.1.1.length<=1000/\∀b∈x.2.1.1,b.1.length<=1000000)/\∃k:Nat,k<=os.length/\i=k/\m=os.length/\L=os.length
def On:Om->(Nat×Nat×(Int×Unit)×(Int×Unit)×(List fB)×(List gb)):=λ(m,i,L3,L,u,v,ls,os)=>(L3,L,u,v,ls,os)
def ajn:eT->Prop:=λt=>gS t=aW
def aci:eT->(Nat×((List gb)×(Int×Unit))×(List fB)):=λt=>(t.1.length,(t.2.1,t.2.2),t.1)
def mj:Ls XU HO Ol:=oP (λ(t17,t18,adI,yZ,n1,n2,n9,Va)=>⟨([bK,dX 1,dX 2]++a9 14 ([.d ti t17,.d ti t18]++a9 56 [])),[],([[],cH (.pr (iw 9 adI) (.pr (iw 12 yZ) (.d (.pair ti .unit) n1))),cH (.pr (.cw) (.pr (.cw) (.d (.pair ti .unit) n2)))]++bC 6 ([cH (.vec 47 dM n9),[],[],cH (.vec 55 dO Va)]++bC 62 []))⟩) (λx=>(.exit 0,⟨([bK,dX 1,dX 2]++a9 72 []),[],([[],cH (.pr (iw 9 x.1.1) (.pr (iw 12 x.1.2.1) (.d (.pair ti .unit) x.1.2.2.1))),cH (.pr (.cw) (.pr (.cw) (.d (.pair ti .unit) x.1.2.2.2.1)))]++bC 6 ([cH (.vec 47 dM x.2),[],[],cH (.vec 55 dO x.1.2.2.2.2)]++bC 62 []))⟩))
def ml:Ls XW bm On:=oP (λ(t38,t39,Gp,Cp,Vf,gD,Vv,ph)=>⟨([bK,dX 1,dX 2]++a9 35 ([.d ti t38,.d ti t39]++a9 35 [])),[],([[],cH (.pr (iw 9 Gp) (.pr (iw 12 Cp) (.d (.pair ti .unit) Vf))),cH (.pr (.cw) (.pr (.cw) (.d (.pair ti .unit) gD)))]++bC 6 ([cH (.vec 47 dM Vv),[],[],cH (.vec 55 dO ph)]++bC 62 []))⟩) (λx=>(.exit 2,⟨([bK,dX 1,dX 2]++a9 72 []),[],([[],cH (.pr (iw 9 x.1) (.pr (iw 12 x.2.1) (.d (.pair ti .unit) x.2.2.1))),cH (.pr (.cw) (.pr (.cw) (.d (.pair ti .unit) x.2.2.2.1)))]++bC 6 ([cH (.vec 47 dM x.2.2.2.2.1),[],[],cH (.vec 55 dO x.2.2.2.2.2)]++bC 62 []))⟩))
def mm:Ls XY HP Oo:=oP (λ(kv,lL,zG,zH,t51,t52,y1,y2,KM,kc,KS,yY,IC)=>⟨([bK,dX 1,dX 2,bK,.d ti kv,iw 49 lL]++a9 32 ([.d ti zG,.d ti zH]++a9 11 ([.d ti t51,.d ti t52]++a9 22 []))),[],([[],cH (.pr (iw 9 y1) (.pr (iw 12 y2) (.d (.pair ti .unit) KM))),cH (.pr (.cw) (.pr (.cw) (.d (.pair ti .unit) kc)))]++bC 6 ([cH (.vec 47 dM KS),[],[],cH (.vec 55 dO yY)]++bC 36 ([cH (.vec 69 gW IC)]++bC 25 [])))⟩) (λx=>(.exit 4,⟨([bK,dX 1,dX 2,bK,.d ti x.1.1,.d (.slice gW) x.2.1]++a9 32 ([.d ti x.1.2.1,.d ti x.1.2.2.1]++a9 35 [])),[],([[],cH (.pr (iw 9 x.1.2.2.2.1) (.pr (iw 12 x.1.2.2.2.2.1) (.d (.pair ti .unit) x.1.2.2.2.2.2.1))),cH (.pr (.cw) (.pr (.cw) (.d (.pair ti .unit) x.1.2.2.2.2.2.2.1)))]++bC 6 ([cH (.vec 47 dM x.1.2.2.2.2.2.2.2.1),[],[],cH (.vec 55 dO x.1.2.2.2.2.2.2.2.2)]++bC 36 ([[.obj 0 aW (.vec 69 gW x.2.2)]]++bC 25 [])))⟩))
def my:Fs Tryz.prog ajn bm aci:=fg 52 Tryz.f52 (λt=>([.d eU t],[])) (λx=>⟨.pr (.dx (.new 0 0) 0 [] 0 0 x.1) (.d (.pair (.slice dO) (.pair ti .unit)) x.2.1),[],[.obj 0 aQ (.vec 47 dM x.2.2)]⟩) [aw eU] [aoi,aga,auL,aoh,abv] {bD:=[1],loops:=oN [(3,{aY:=[1,2,17,18],sites:=[1,2,9,12]}),(8,{aY:=[1,2,38,39],sites:=[1,2,9,12]}),(12,{aY:=[1,2,4,5,38,39,51,52],sites:=[1,2,9,12,49]})],outs:=oM [(3,{aY:=[1,2],sites:=[1,2,9,12]},{aY:=[2]}),(8,{aY:=[1,2],sites:=[1,2,9,12]},{aY:=[2]}),(12,{aY:=[1,2,4,5,38,39],sites:=[1,2,9,12,49],data:=[(5,(.slice gW))]},{aY:=[2]})],fE:=pX [(3,mj.E),(8,ml.E),(12,mm.E)],Ch:=[⟨2,[.snd,.fst],(.slice dO)⟩]}
theorem XV:mj.RS:=rL [.d ti,.d ti,.n,.n,.d (.pair ti .unit),.d (.pair ti .unit),.d (.slice dM),.d (.slice dO)] mj
theorem Fm(t17 t18 adI yZ n1 n2 n9 Va)(kn:K2 R)(kx:K3 R):my.R 0 mj (t17,t18,adI,yZ,n1,n2,n9,Va) kn kx=aG (fV t18 t17) (aG (ei t18 ((adI:Nat):Int)) (aG (decide ((0+(ab t18)) < (ae n9))) (aG (decide ((((0+(ab t18))*36)+34)=(((0+((ab t18)*36))+33)+1))) (aj (L8.call (nth dM n9 (0+(ab t18))).2.1.2.1) λx1=>aG (ei t18 ((adI:Nat):Int)) (aG (decide ((0+(ab t18)) < (ae n9))) (aG (decide ((((0+(ab t18))*36)+34)=(((0+((ab t18)*36))+33)+1))) (aG (decide ((0+(ab t18)) < (ae n9))) (kn (mj.st (t17,(bB .i64 t18 1),adI,yZ,n1,n2,(eE n9 (0+(ab t18)) ((nth dM n9 (0+(ab t18))).1,(((nth dM n9 (0+(ab t18))).2.1.1,(x1,(nth dM n9 (0+(ab t18))).2.1.2.2)),(nth dM n9 (0+(ab t18))).2.2))),Va))) aF) aF) aF) aF) aF) aF) aF) (mj.go kx ((adI,yZ,n1,n2,Va),n9)):=cK
theorem XX:ml.RS:=rL [.d ti,.d ti,.n,.n,.d (.pair ti .unit),.d (.pair ti .unit),.d (.slice dM),.d (.slice dO)] ml
theorem Fo(t38 t39 Gp Cp Vf gD Vv ph)(kn:K2 R)(kx:K3 R):my.R 1 ml (t38,t39,Gp,Cp,Vf,gD,Vv,ph) kn kx=aG (fV t39 t38) (aG (ei t39 ((Cp:Nat):Int)) (aG (decide ((0+(ab t39)) < (ae ph))) (aG (decide ((((0+(ab t39))*2)+1)=(((0+((ab t39)*2))+1)+0))) (aj (YO.call (nth dO ph (0+(ab t39))).2.1.1) λx1=>aj (mm.call (t39,x1.1,t38,t39,((x1.1:Nat):Int),0,Gp,Cp,Vf,gD,Vv,ph,x1.2)) λx2=>aG (ei x2.1.1 ((x2.1.2.2.2.2.1:Nat):Int)) (aG (decide ((0+(ab x2.1.1)) < (ae x2.1.2.2.2.2.2.2.2.2))) (aG (decide ((((0+(ab x2.1.1))*2)+1)=(((0+((ab x2.1.1)*2))+1)+0))) (aG (decide ((0+(ab x2.1.1)) < (ae x2.1.2.2.2.2.2.2.2.2))) (kn (ml.st (x2.1.2.1,(bB .i64 x2.1.2.2.1 1),x2.1.2.2.2.1,x2.1.2.2.2.2.1,x2.1.2.2.2.2.2.1,x2.1.2.2.2.2.2.2.1,x2.1.2.2.2.2.2.2.2.1,(eE x2.1.2.2.2.2.2.2.2.2 (0+(ab x2.1.1)) ((nth dO x2.1.2.2.2.2.2.2.2.2 (0+(ab x2.1.1))).1,((x2.2.1,(nth dO x2.1.2.2.2.2.2.2.2.2 (0+(ab x2.1.1))).2.1.2),(nth dO x2.1.2.2.2.2.2.2.2.2 (0+(ab x2.1.1))).2.2)))))) aF) aF) aF) aF) aF) aF) aF) (ml.go kx (Gp,Cp,Vf,gD,Vv,ph)):=cK
theorem XZ:mm.RS:=rL [.d ti,.n,.d ti,.d ti,.d ti,.d ti,.n,.n,.d (.pair ti .unit),.d (.pair ti .unit),.d (.slice dM),.d (.slice dO),.d (.slice gW)] mm
theorem Fp(kv lL zG zH t51 t52 y1 y2 KM kc KS yY IC)(kn:K2 R)(kx:K3 R):my.R 2 mm (kv,lL,zG,zH,t51,t52,y1,y2,KM,kc,KS,yY,IC) kn kx=aG (fV t52 t51) (aG (ei t52 ((lL:Nat):Int)) (aG (decide ((0+(ab t52)) < (ae IC))) (aG (decide ((((0+(ab t52))*4)+0)=((0+((ab t52)*4))+0))) (aj (Bm.call (nth gW IC (0+(ab t52))).1) λx1=>aG (ei t52 ((lL:Nat):Int)) (aG (decide ((0+(ab t52)) < (ae IC))) (aG (decide ((((0+(ab t52))*4)+0)=((0+((ab t52)*4))+0))) (aG (decide ((0+(ab t52)) < (ae IC))) (kn (mm.st (kv,lL,zG,zH,t51,(bB .i64 t52 1),y1,y2,KM,kc,KS,yY,(eE IC (0+(ab t52)) (x1,(nth gW IC (0+(ab t52))).2))))) aF) aF) aF) aF) aF) aF) aF) (aG (decide (0=0/\(0+lL)<=(ae IC))) (mm.go kx ((kv,zG,zH,y1,y2,KM,kc,KS,yY),((cut IC 0 lL),IC))) aF):=cK
theorem anH(t)(k:K1 R):my.A t k=aj (YP.call t.1) λx1=>aj (Jc.call t.2.1) λx2=>aj (mj.call (((x1.1:Nat):Int),0,x1.1,x2.1,t.2.2,(0,()),x1.2,x2.2)) λx4=>aj (ml.call (((x4.1.2.1:Nat):Int),0,x4.1.1,x4.1.2.1,x4.1.2.2.1,x4.1.2.2.2.1,x4.2,x4.1.2.2.2.2)) λx8=>aG (decide (0=0/\(0+x8.2.1)<=(ae x8.2.2.2.2.2))) (k (my.out (x8.1,((cut x8.2.2.2.2.2 0 x8.2.1),x8.2.2.1),x8.2.2.2.2.1))) aF:=cK
theorem aad:(my.j8 0 mj):=by
 refine(my.lX 0 mj) (λ(m,i,L,L2,u,v,l,os)=>l.length - ab i) ?_
 rintro⟨m,i,L,L2,u,v,l,os⟩ ⟨⟨hlen,hx⟩,k,hk,rfl,rfl,rfl⟩;have hlen:l.length<=1000:=hlen;have hk:k<=l.length:=hk;by_cases h:k < l.length
 ·left;have n1:nth dM l k=l[k]:=cC (t:=dM) h;have hs:l.set k l[k]=l:=fw h;have e:=hx _ (ba h);refine⟨((l.length:Int),((k+1:Nat):Int),l.length,L2,u,v,l,os),⟨⟨hlen,hx⟩,k+1,ak,rfl,rfl,rfl⟩,by simp only[aa];omega,rfl,λkn kx=> ?_⟩;rw[Fm,aU ak,bo ak ak];simp only[aa,aH,bM,dz,Nat.reduceAdd,ao,aI h,bA,n1];rw[apV (d:=l[k].2.1.2.1) e];simp only[ah,bm,acQ];rw[N.ot ak];exact c7 (λz=>kn (mj.st (_,_,_,_,_,_,z,_))) hs
 ·right;obtain rfl:k=l.length:=ak;intro R kn kx;rw[Fm,aT ak,au];rfl
theorem aaf:(my.j8 2 mm):=by
 refine(my.lX 2 mm) (λ(kv,L,m1,i1,m,i,L5,L6,u,v,ls,os,bs)=>bs.length - ab i) ?_
 rintro⟨kv,L,m1,i1,m,i,L5,L6,u,v,ls,os,bs⟩ ⟨⟨hlen,hx⟩,k,hk,rfl,rfl,rfl⟩;have hlen:bs.length<=1000:=hlen;have hk:k<=bs.length:=hk;by_cases h:k < bs.length
 ·left;have n1:nth gW bs k=bs[k]:=cC (t:=gW) h;have hs:bs.set k bs[k]=bs:=fw h;have e:=hx _ (ba h);refine⟨(kv,bs.length,m1,i1,(bs.length:Int),((k+1:Nat):Int),L5,L6,u,v,ls,os,bs),⟨⟨hlen,hx⟩,k+1,ak,rfl,rfl,rfl⟩,by simp only[aa];omega,rfl,λkn kx=> ?_⟩;rw[Fp,aU ak,bo ak ak];simp only[aa,aH,bM,dz,Nat.reduceAdd,ao,aI h,bA,n1];rw[VK (d:=bs[k].1) e];simp only[ah,bm,M1];rw[N.ot ak];exact c7 (λz=>kn (mm.st (_,_,_,_,_,_,_,_,_,_,_,_,z))) hs
 ·right;obtain rfl:k=bs.length:=ak;intro R kn kx;rw[Fp,aT ak,au];simp only[aH,az,eW,bA,ao,dw];rfl
theorem aae:(my.j8 1 ml):=by
 refine(my.lX 1 ml) (λ(m,i,L3,L,u,v,ls,os)=>os.length - ab i) ?_
 rintro⟨m,i,L3,L,u,v,ls,os⟩ ⟨⟨hlen,hx⟩,k,hk,rfl,rfl,rfl⟩;have hlen:os.length<=1000:=hlen;have hk:k<=os.length:=hk;by_cases h:k < os.length
 ·left;have n1:nth dO os k=os[k]:=cC (t:=dO) h;have hs:os.set k os[k]=os:=fw h;have e:=hx _ (ba h);refine⟨((os.length:Int),((k+1:Nat):Int),L3,os.length,u,v,ls,os),⟨⟨hlen,hx⟩,k+1,ak,rfl,rfl,rfl⟩,by simp only[aa];omega,rfl,λkn kx=> ?_⟩;rw[Fo,aU ak,bo ak ak];simp only[aa,aH,bM,dz,Nat.reduceAdd,ao,aI h,bA,n1];rw[af8 (d:=os[k].2.1.1) (by show os[k].2.1.1.length<=_;have:=e.1;omega)];simp only[ah,bm,acO];rw[XZ (d:=((k:Int),os[k].2.1.1.length,(os.length:Int),(k:Int),(os[k].2.1.1.length:Int),0,L3,os.length,u,v,ls,os,os[k].2.1.1)) ⟨e,0,aL _,rfl,rfl,rfl⟩];simp only[ah,HP,Oo,aa,n1,ao,aI h,bo (show(0:Int)<=(k:Int) by omega) (show(k:Int) < (os.length:Int) by omega)];rw[N.ot ak];exact c7 (λz=>kn (ml.st (_,_,_,_,_,_,_,z))) hs
 ·right;obtain rfl:k=os.length:=ak;intro R kn kx;rw[Fo,aT ak,au];rfl
theorem adx{l:Lk}(h:og l=aW):l.1.length<=4/\∀b∈l.1,b.1.length<=12:=by unfold og at h;simp only[al,cf,bh]at h;refine⟨h.2.2,λb hb=> ?_⟩;have:=h.1 b hb;unfold xG at this;simp only[al,bh]at this;exact this.1
theorem anI:my.Ok:=by
 rintro⟨is,os,nt,u⟩ gT;obtain⟨⟨_,a2,a3,_⟩,b1,b2⟩:=jO gT;have a2:is.length<=64:=a2;have a3:os.length<=64:=a3;rw[anH,af9 (d:=is) (by show is.length<=_;omega),aaJ (d:=os) (by show os.length<=_;omega)];simp only[ah,bm,acP,bm,Tr];rw[XV (d:=(is.length,0,is.length,os.length,(nt,u),(0,()),is,os)) ⟨⟨by show is.length<=_;omega,λx hx=>by have:=(qE (iD _ _ b1 x hx)).2.2.2.2;omega⟩,0,aL _,rfl,rfl,rfl⟩];simp only[ah,HO,Ol];rw[XX (d:=(os.length,0,is.length,os.length,(nt,u),(0,()),is,os)) ⟨⟨by show os.length<=_;omega,λx hx=>by
  have:=adx (ku _ _ b2 x hx).2;exact⟨ak,λb hb=>by have:=this.2 b hb;omega⟩⟩,0,aL _,rfl,rfl,rfl⟩]
 simp only[ah,bm,On,aH,az,eW,bA,ao,dw];rfl
theorem ajo:my.RS:=rE [.d eU] my
def anJ:=my.fh anI 3 ⟨.fD aad,⟨.fD aae,⟨.fD aaf,trivial⟩⟩⟩
theorem M5(x:Int)(m:Int):∀k:Nat,(x%m)^k%m=x^k%m
 | 0=>by rw[ln,ln]
 |k+1=>by rw[fA,fA,gH,M5 x m k,fK _ (np m),<-gH]
theorem aDr(a:Int)(k:Nat):(a*a)^k=a^(2*k):=by rw[Int.pow_mul,fA,fA,ln,Int.one_mul]
theorem awT:∀(f:Nat) (a:Int) (n:Nat) (out:Int),n < 2^f->Pn out->afE f a n out=out*a^n%4611686018427377339
 | 0,a,n,out,h,ho=>by obtain rfl:n=0:=ak;rw[zf,ln,sL,dU ho.1 ho.2]
 |f+1,a,n,out,h,ho=>by
  have e:(2:Nat)^(f+1)=2^f*2:=tn 2 f;rw[afE];split
  ·rename_i h0;subst h0;rw[ln,sL,dU ho.1 ho.2]
  ·have hp:Pn (if n%2=1 then mS out a else out):=by
    split
    ·exact vO _ _
    ·exact ho
   rw[awT f _ _ _ ak hp,gH];have e1:(mS a a)^(n / 2)%4611686018427377339=a^(2*(n / 2))%4611686018427377339:=by unfold mS;rw[M5,aDr]
   have e2:(if n%2=1 then mS out a else out)%4611686018427377339=(out*a^(n%2))%4611686018427377339:=by
    split
    ·rename_i h1;rw[h1,fA,ln,Int.one_mul];exact fK _ (np _)
    ·have h1:n%2=0:=ak;rw[h1,ln,sL]
   rw[e1,e2,<-gH,lY,<-Int.pow_add];have e3:n%2+2*(n / 2)=n:=ak;rw[e3]
theorem VT(a:Int)(n:Nat)(h:n < 18446744073709551616):pw a n=a^n%4611686018427377339:=by unfold pw;rw[awT 64 a n 1 h ⟨ak,ak⟩,Int.one_mul]
theorem one_pow(k:Nat):(1:Int)^k=1:=Int.one_pow
theorem awV(a:Int)(k q:Nat)(hk:k < 18446744073709551616)(hq:q < 18446744073709551616)(h:pw a q=1):pw (pw a k) q=1:=by rw[VT _ _ hq]at h;rw[VT _ _ hq,VT _ _ hk,M5,<-Int.pow_mul,nr,Int.pow_mul,<-M5,h,one_pow];rfl
theorem aaS:pw 4 2305843009213688669=1:=by decide+kernel
theorem arb:pw 1 2305843009213688669=1:=by decide+kernel
theorem az1:vc 4=aW:=by rw[vc,aaS];rfl
theorem ME:vc 1=aW:=by rw[vc,arb];rfl
theorem aAk:ahh 1=1:=by
 have e:pw 1 2305843009213688668=1:=by decide+kernel
 rw[ahh,tk,ME];exact e
theorem ad6{a:Int}(h:Pn a)(q:Nat)(hq:0 < q)(Pj:q < 18446744073709551616)(hp:pw a q=1):0 < a:=by
 rcases Int.lt_or_eq_of_le h.1 with h0 | h0
 ·exact h0
 ·subst h0;rw[VT _ _ Pj,Int.zero_pow ak]at hp;cases hp
theorem aCL{a:Int}(h:Pn a)(hp:pw a 2305843009213688669=1):vc a=aW:=by have h0:=ad6 h 2305843009213688669 gw gw hp;rw[vc,hp,pa ⟨h0,h.2⟩];rfl
theorem aqz{a:Int}(h:vc a=aW):pw a 2305843009213688669=1/\Pn a:=by rw[vc,al,bh,bh]at h;exact⟨h.2,ak,h.1.2⟩
theorem aCM{a:Int}(h:vc a=aW)(k:Nat)(hk:k < 18446744073709551616):vc (pw a k)=aW:=aCL (VU _ _) (awV a k _ hk gw (aqz h).1)
theorem aCN(a:Int):vc (tk a)=aW:=by
 unfold tk;cases h:vc a
 ·exact ME
 ·exact h
theorem aqA(p k:Int):vc (BW p k)=aW:=aCM (aCN p) _ ak
theorem X2{a:Int}(h:vc a=aW):tk a=a:=by rw[tk,h];rfl
theorem agN(k:Int):vc (iX k)=aW:=aqA 4 k
theorem ahb{a:Int}(h:Pn a):mS a 1=a:=by rw[mS,sL,dU h.1 h.2]
def pm(m:Nat):Nat->Nat->Nat->Nat->Nat
 | 0,_,_,out=>out%m
 |f+1,a,n,out=>if n=0 then out%m else pm m f (a*a%m) (n / 2) (if n%2=1 then out*a%m else out)
theorem aB0(m:Nat):∀(f a n out:Nat),n < 2^f->pm m f a n out=out*a^n%m
 | 0,a,n,out,h=>by obtain rfl:n=0:=ak;rw[pm,Nat.pow_zero,gq]
 |f+1,a,n,out,h=>by
  have e:(2:Nat)^(f+1)=2^f*2:=tn (n:=2) (m:=f);rw[pm];split
  ·rename_i h0;subst h0;rw[Nat.pow_zero,gq]
  ·rw[aB0 m f _ _ _ ak,lr];have e1:(a*a%m)^(n / 2)%m=a^(2*(n / 2))%m:=by rw[<-Nat.pow_mod,Nat.pow_mul,Nat.pow_two]
   have e2:(if n%2=1 then out*a%m else out)%m=(out*a^(n%2))%m:=by
    split
    ·rename_i h1;rw[h1,Nat.pow_one,Nat.mod_mod]
    ·have h1:n%2=0:=ak;rw[h1,Nat.pow_zero,gq]
   rw[e1,e2,<-lr,Nat.mul_assoc,<-oX];have e3:n%2+2*(n / 2)=n:=ak;rw[e3]
theorem avA:∀(r q:Nat) (f:Nat->Nat),(∀i,i < q->f i < r)->(∀i j,i < j->j < q->f i≠f j)->q<=r
 | 0,q,f,h,_=>by
  rcases nq q with h0 | h0
  ·omega
  ·exact absurd (h 0 h0) (rv _)
 |r+1,q,f,h,g=>by
  by_cases hx:∃i,i < q/\f i=r
  ·obtain⟨i,hi,hr⟩:=hx;have e:=avA r (q - 1) (λj=>if j < i then f j else f (j+1)) (λj hj=>by
    by_cases h1:j < i
    ·have a:=h j ak;have b:=g j i h1 hi;simp only[h1,bN];omega
    ·have a:=h (j+1) ak;have b:=g i (j+1) ak ak;simp only[h1,bz];omega) (λj k aJQ hk=>by
    by_cases h1:j < i
    ·by_cases h2:k < i
     ·simp only[h1,h2,bN];exact g j k aJQ ak
     ·simp only[h1,h2,bN,bz];exact g j (k+1) ak ak
    ·have h2:¬k < i:=ak;simp only[h1,h2,bz];exact g (j+1) (k+1) ak ak)
   omega
  ·have e:=avA r q f (λi hi=>by
    have a:=h i hi;have b:f i≠r:=λx=>hx ⟨i,hi,x⟩
    omega) g
   omega
theorem aoU(a m:Nat)(h1:1%m=1):∀i j:Nat,a^i%m=1->a^j%m=1->a^(Nat.gcd i j)%m=1:=by
 intro i
 induction i using Nat.strongRecOn with
 |ind i ih=>
  intro j hi hj;rcases nq i with h0 | h0
  ·subst h0;rw[Nat.gcd_zero_left];exact hj
  ·rw[Nat.gcd_rec];refine ih (j%i) (Nat.mod_lt _ h0) i ?_ hi
   have e:a^j=(a^i)^(j / i)*a^(j%i):=by rw[<-Nat.pow_mul,<-oX,Nat.div_add_mod]
   rw[e,lr,Nat.pow_mod,hi,Nat.one_pow,h1,iW,Nat.mod_mod]at hj;exact hj
def at8(n:Nat):Prop:=∀d,d∣n->d=1\/d=n
theorem aoV{n k:Nat}(h:at8 n)(h0:0 < k)(hk:k < n):Nat.gcd k n=1:=by
 rcases h _ (Nat.gcd_dvd_right k n) with h1 | h1
 ·exact h1
 ·have:=Nat.le_of_dvd h0 (Nat.gcd_dvd_left k n);omega
theorem ahl{n:Nat}(hn:1 < n)(h:∀r,1 < r->r*r<=n->¬r∣n):at8 n:=by
 intro d hd;obtain⟨e,he⟩:=hd;have aF3:0 < d:=Nat.pos_of_ne_zero (by intro x;rw[x,nv]at he;omega);have adf:0 < e:=Nat.pos_of_ne_zero (by intro x;rw[x,Nat.mul_zero]at he;omega);by_cases h1:d=1
 ·exact .inl h1
 by_cases h2:e=1
 ·right;rw[he,h2,gq]
 exfalso;rcases Nat.le_total d e with hle | hle
 ·exact h d ak (by rw[he];exact Nat.mul_le_mul_left d hle) ⟨e,he⟩
 ·exact h e ak (by rw[he];exact cM e hle) ⟨d,by rw[he,nr]⟩
theorem aDd{n q b:Nat}(hn:1 < n)(hq:at8 q)(aDW:1 < q)(aHb:n < q*q)(hb:b^q%n=1)(hg:Nat.gcd (b - 1) n=1)(aF2:0 < b):at8 n:=by
 refine ahl hn λr hr aJ7 ayR=> ?_
 have aI1:1%r=1:=mD hr;have aI4:b^q%r=1:=by have:=Nat.mod_mod_of_dvd (b^q) ayR;rw[<-this,hb,aI1]
 have jR:b%r≠1:=by
  intro hx;have hd:r∣b - 1:=by have e:=Nat.dvd_sub_mod (n:=r) b;rw[hx]at e;exact e
  have:=Nat.dvd_gcd hd ayR;rw[hg]at this;have:=Nat.le_of_dvd ak this;omega
 have key:q<=r:=by
  refine avA r q (λi=>b^i%r) (λi _=>Nat.mod_lt _ ak) λi j aJb hj he=> ?_
  have e1:b^(j - i)%r=1:=by
   have x1:b^(q - i)*b^i%r=b^(q - i)*b^j%r:=by rw[lr,he,<-lr]
   rw[<-oX,<-oX,show q - i+i=q by omega,show q - i+j=q+(j - i) by omega,oX,lr,aI4,iW,Nat.mod_mod]at x1;exact x1.symm
  have e2:=aoU b r aI1 (j - i) q e1 aI4;rw[aoV hq ak ak,Nat.pow_one]at e2;exact jR e2
 have:q*q<=r*r:=Nat.mul_le_mul key key;omega
def awr(n:Nat):Nat->Bool
 | 0=>aW
 |k+1=>n%(k+2) !=0 && awr n k
theorem ahj(n:Nat):∀k,awr n k=aW->∀d,1 < d->d<=k+1->¬d∣n
 | 0,_,d,h1,h2=>ak
 |k+1,h,d,h1,h2=>by
  rw[awr,al]at h;by_cases hd:d=k+2
  ·intro hx;have:=Nat.mod_eq_zero_of_dvd hx;rw[hd]at this;rw[this]at h;exact absurd h.1 gw
  ·exact ahj n k h.2 d h1 ak
theorem aHw:at8 7930907:=by
 refine ahl gw λr hr aJ7=>ahj 7930907 2820 (by decide+kernel) r hr ?_
 apply Nat.le_of_not_lt;intro h;have:2822*2822<=r*r:=Nat.mul_le_mul ak ak;omega
theorem M6{n q:Nat}(a e:Nat)(hq:at8 q)(aDW:1 < q)(hn:1 < n)(aHb:n < q*q)(he:e < 2^64)(Pj:q < 2^64)(h1:pm n 64 (pm n 64 a e 1) q 1=1)(h2:Nat.gcd (pm n 64 a e 1 - 1) n=1)(h3:0 < pm n 64 a e 1):at8 n:=by generalize pm n 64 a e 1=b at*;rw[aB0 _ _ _ _ _ Pj,iW]at h1;exact aDd hn hq aDW aHb h1 h2 h3
theorem aHv:at8 11864636873:=M6 (q:=7930907) 2 1496 aHw gw gw gw gw gw (by decide+kernel) (by decide+kernel) (by decide+kernel)
theorem aHu:at8 1732236983459:=M6 (q:=11864636873) 2 146 aHv gw gw gw gw gw (by decide+kernel) (by decide+kernel) (by decide+kernel)
theorem aHt:at8 249442125618097:=M6 (q:=1732236983459) 2 144 aHu gw gw gw gw gw (by decide+kernel) (by decide+kernel) (by decide+kernel)
theorem aHx:at8 2305843009213688669:=M6 (q:=249442125618097) 2 9244 aHt gw gw gw gw gw (by decide+kernel) (by decide+kernel) (by decide+kernel)
def gP(n:Nat):Int:=((4^n%4611686018427377339:Nat):Int)
theorem Zh(a m q:Nat)(h1:1%m=1)(h:a^q%m=1)(n:Nat):a^(n%q)%m=a^n%m:=by
 have e:a^n=(a^q)^(n / q)*a^(n%q):=by rw[<-Nat.pow_mul,<-oX,Nat.div_add_mod]
 rw[e,lr,Nat.pow_mod (a^q),h,Nat.one_pow,h1,iW,Nat.mod_mod]
theorem aBt:∀q:Nat,q=2305843009213688669->4^q%4611686018427377339=1:=by
 intro q hq;have h:=aaS;rw[VT _ _ gw]at h;rw[<-hq]at h;have e:(((4^q%4611686018427377339:Nat)):Int)=1:=by rw[pM,kW];exact h
 omega
theorem ac9(n:Nat):gP (n%2305843009213688669)=gP n:=by unfold gP;obtain⟨q,hq⟩:∃q:Nat,q=2305843009213688669:=⟨_,rfl⟩;rw[<-hq,Zh 4 4611686018427377339 q gw (aBt q hq)]
theorem aEz(n:Nat)(h:n < 18446744073709551616):pw 4 n=gP n:=by rw[VT _ _ h];unfold gP;rw[pM,kW];rfl
theorem avr(k:Int)(h:0<=k):(k%2305843009213688669).toNat=k.toNat%2305843009213688669:=ak
theorem To(k:Int)(h:0<=k):iX k=gP k.toNat:=by show pw (tk 4) _=_;rw[X2 az1,aEz _ ak,avr k h,ac9]
theorem azB(n:Nat):gP n=iX n:=by rw[To _ ak,aa]
theorem UA(n:Nat):vc (gP n)=aW:=by rw[azB];exact agN _
theorem akE(a b:Nat):mS (gP a) (gP b)=gP (a+b):=by unfold mS gP;rw[<-jw,oX];have e:(4611686018427377339:Int)=((4611686018427377339:Nat):Int):=rfl;rw[e,<-pM,<-lr]
theorem avs(a:Nat)(c:Int)(h:0<=c):BW (gP a) c=gP (a*c.toNat):=by
 show pw (tk (gP a)) _=_;rw[X2 (UA a),VT _ _ ak,avr c h];obtain⟨b,hb⟩:∃b:Nat,b=c.toNat:=⟨_,rfl⟩;rw[<-hb];obtain⟨d,hd⟩:∃d:Nat,d=b%2305843009213688669:=⟨_,rfl⟩;have hx:gP (a*b)=gP (a*d):=by rw[<-ac9 (a*b),<-ac9 (a*d),lr a b,lr a d,hd,Nat.mod_mod]
 rw[hx,<-hd];unfold gP;have e:(4611686018427377339:Int)=((4611686018427377339:Nat):Int):=rfl;rw[e,<-kW,<-pM,<-Nat.pow_mod,<-Nat.pow_mul]
theorem aoo:gP 0=1:=gw
theorem aEy{n:Nat}(h:0 < n)(hn:n < 2305843009213688669):gP n≠1:=by intro he;unfold gP at he;have he:4^n%4611686018427377339=1:=ak;obtain⟨q,hq⟩:∃q:Nat,q=2305843009213688669:=⟨_,rfl⟩;have e:=aoU 4 4611686018427377339 gw n q he (aBt q hq);rw[aoV (by rw[hq];exact aHx) h ak]at e;exact absurd e gw
theorem aA5(k:Int)(m:List Int)(h0:0 < k)(hq:k < 2305843009213688669):Uf (iX k) m 1 (pD k m)=aW:=by
 obtain⟨kn,hk⟩:∃kn:Nat,kn=k.toNat:=⟨_,rfl⟩;have hb:iX k=gP kn:=by rw[hk];exact To k ak
 have hn:=Mj (anF alo [gV k,m]);unfold pD aws;rw[if_pos ⟨hq,ak⟩];obtain⟨n,jR⟩:∃n,Af (anF alo [gV k,m])=n:=⟨_,rfl⟩;rw[jR]at hn ⊢;unfold Tm;have hr:En [iX n,1]=gP n.toNat:=by show mS (mS 1 (tk (iX n))) (tk 1)=_;rw[X2 (agN n),X2 ME,ahb (vO _ _),To n ak,<-aoo,akE,aH]
 rw[hr,hb];have hc:=L7 (gP n.toNat) (gP kn) m;obtain⟨c,aCq⟩:∃c,wB (gP n.toNat) (gP kn) m=c:=⟨_,rfl⟩;rw[aCq]at hc ⊢;have ha:=an8 n (KL c k);have h1:=hc.1;have h2:=ha.1;have h3:=ha.2;unfold Uf;rw[if_neg (by
  intro h;rcases h with h | h | h | h | h
  ·exact aEy ak ak h
  ·rw[UA]at h;cases h
  ·rw[ME]at h;cases h
  ·have h:vc (gP n.toNat)=aQ:=h;rw[UA]at h;cases h
  ·exact h h3)]
 have e:iX (acD n (KL c k))=En [gP n.toNat,BW (gP kn) c,ahh 1]:=by
  show _=mS (mS (mS 1 (tk (gP n.toNat))) (tk (BW (gP kn) c))) (tk (ahh 1));rw[aAk,X2 ME,ahb (vO _ _),X2 (UA _),avs _ _ h1,X2 (UA _)];rw[show(mS 1 (gP n.toNat))=gP n.toNat by rw[<-aoo,akE,aH]];rw[akE,To _ h2];have hx:(acD n (KL c k)).toNat=(n.toNat+kn*c.toNat)%2305843009213688669:=by
   unfold acD KL VA;have g1:c%2305843009213688669=c:=dU h1 hc.2;have g2:k%2305843009213688669=k:=dU ak hq;have g3:n%2305843009213688669=n:=dU ak hn.2;rw[g1,g2,g3,fK _ (np _)];have g4:((kn*c.toNat:Nat):Int)=c*k:=by rw[jw,hk,Int.toNat_of_nonneg ak,Int.toNat_of_nonneg h1,jG]
   have g5:0<=c*k:=by rw[<-g4];exact gJ _
   obtain⟨z,hz⟩:∃z,c*k=z:=⟨_,rfl⟩;rw[hz]at g4 g5 ⊢;obtain⟨zn,aKi⟩:∃zn,kn*c.toNat=zn:=⟨_,rfl⟩;rw[aKi]at g4 ⊢;omega
  rw[hx,ac9]
 show decide (iX (acD n (KL c k))=En [gP n.toNat,BW (gP kn) (wB (gP n.toNat) (gP kn) m),ahh 1])=aW;rw[aCq];exact pa e
def adm{α:Type}(p:α->Bool):List α->Int->Int⊕Unit
 |[],_=> .inr ()
 |x::xs,i=>if p x then .inl i else adm p xs (i+1)
def azV{α:Type}(p:α->Bool)(l:List α):Int:=match adm p l 0 with | .inl i=>i | .inr _=> -1
theorem agI{α:Type}(p:α->Bool):∀(l:List α) (i:Int),0<=i->(match adm p l i with | .inl i=>decide (i>=0) | .inr _=>aQ)=l.any p
 |[],_,_=>rfl
 |x::l,i,h=>by
  rw[adm,List.any_cons];cases hp:p x
  ·simp only[bU,bz,Bool.false_or];exact agI p l (i+1) ak
  ·simp[h]
theorem avM{α:Type}(p:α->Bool)(l:List α):B8 (azV p l) 0=l.any p:=by
 have:=agI p l 0 ak;unfold azV B8;cases h:adm p l 0
 ·rw[h]at this;exact this
 ·rw[h]at this;rw[<-this];rfl
def w9(k:Int):Bool:=decide (¬(k < 2305843009213688669/\k≠0))
def uC(t:eT)(i br:Int)(ks:List Int):Bool:=gS t && (decide (0<=i/\i < t.1.length/\0<=br/\br < 4/\ks.length<=12) && !(ks.any w9))
def Oa(t:eT)(i br:Int)(ks:List Int)(sc:Int):eT×Int:=if uC t i br ks then((t.1.set i.toNat ((nth dM t.1 i.toNat).1,(br,ks.map (λk=>pD k (OF t)),sc,()),()),t.2),0) else(([],[],0,()),1)
theorem aft{t:eT}:Sm (OF t):=by
 unfold OF;split
 ·exact Qz _ _
 ·exact⟨by rw[cO],λx hx=>by obtain rfl:=(List.mem_replicate.1 hx).2;exact⟨gw,gw⟩⟩
def atG:Int->Prop:=λ_=>True
def aph:Int->Bool:=λk=>w9 k
def Ss:Fs Tryz.prog atG bm aph:=fg 47 Tryz.f47 (λkv=>([.d tu kv],[])) (λx=>⟨.d .bool x,[],[]⟩) [aw tu] [Pf]
theorem ayv(kv)(k:K1 R):Ss.A kv k=aG (wD kv 0) (k (Ss.out aW)) (aj (Di.call kv) λx1=>k (Ss.out (!x1))):=cK
theorem ayw:Ss.Ok:=by
 intro(k:Int) _;rw[ayv,Kx (d:=k) trivial];simp only[bm,aph,w9,ah,bm,Mi];by_cases h:k=0
 ·rw[dJ h,ao,aI ak]
 ·rw[fj h,au];by_cases h2:k < 2305843009213688669
  ·rw[aU h2,aJ ak];rfl
  ·rw[aT h2,aI ak];rfl
theorem atH:Ss.RS:=rE [.d tu] Ss
def ayx:=Ss.fh ayw
abbrev wV:=Bs×Int×Int
def nQ:wV->AS:=λ(wY,t7,t8)=>⟨([.d tU wY,.fn 47 (.nil)]++a9 5 ([.d ti t7,.d ti t8]++a9 10 [])),[],(ag 19 [])⟩
def oD:Int->Exit×AS:=λx=>(.ret,⟨(a9 4 ([.d ti x]++a9 14 [])),[],(ag 19 [])⟩)
def wb:Unit->Exit×AS:=λx=>(.exit 0,⟨(a9 19 []),[],(ag 19 [])⟩)
abbrev HC:=(Int)⊕(Unit)
abbrev Sh:=(Int)⊕(Unit)
def BZ:HC->Out (Exit×AS):=λx=> .br x.isLeft (.get x.getLeft? λa=> .ok (oD a)) (.get x.getRight? λb=> .ok (wb b))
def j4:wV->Sh->HC:=λ(wY,t7,t8) y=>match y with | .inl y=> .inl y | .inr z=> .inr (z)
def wa:wV->Prop:=λ(l,n,i)=>(∀x∈l,True)/\l.length<=1000000000/\n=l.length/\∃k:Nat,k<=l.length/\i=k
def ni:wV->Sh:=λ(l,n,i)=>adm w9 (l.drop i.toNat) i
def anp:Bs->Prop:=λl=>(∀x∈l,True)/\l.length<=1000000000
def Xz:Bs->Int:=λl=>azV w9 l
def Sf:=eu.fD nQ wa j4 ni BZ
def HD:wV->Option HC:=jq Sf nQ
def xr:Fs Tryz.prog anp bm Xz:=fg 90 Tryz.f90 (λsv=>([.d tU sv,.fn 47 (.nil)],[])) (λx=>⟨.d ti x,[],[]⟩) [aw tU,aF] [ayx] {loops:=oN [(2,{aY:=[0,1,7,8]})],outs:=oM [(2,{},{aY:=[4]})],fE:=pX [(2,Sf)]}
def HB:= @fO Tryz.prog (oc xr.G) xr.an 0 Tryz.f90 0 _ nQ
abbrev Od:=oT Tryz.prog (oc xr.G) xr.an 0 Tryz.f90 0 nQ wa j4 ni BZ
theorem Z5:nw HD wa j4 ni:=qL (qF [.d tU,.d ti,.d ti] λ_=>cK)
theorem Lq:qN @HB nQ wa j4 ni BZ Od:=sk
theorem HE(wY t7 t8)(kn:K2 R)(kx:K3 R):HB (wY,t7,t8) kn kx=aG (fV t8 t7) (aG (ei t8 (((ae wY):Nat):Int)) (aj (Ss.call (nth tu wY (ab t8))) λx1=>aG (x1) (kx (oD t8).1 (oD t8).2) (kn (nQ (wY,t7,(bB .i64 t8 (1:Int)))))) aF) (kx (wb ()).1 (wb ()).2):=cK
theorem as6(sv)(k:K1 R):xr.A sv k=aj (HD (sv,(sv.length:Int),0)) λx2=>aG x2.isLeft (aj x2.getLeft? λa3=>k (xr.out a3)) (aj x2.getRight? λb4=>k (xr.out (-1))):=cK
theorem aeW:Od:=by
 refine Lq (λ(l,n,i)=>l.length - i.toNat) ?_
 rintro⟨l,n,i⟩ ⟨hl,hb,rfl,k,hk,rfl⟩;have hb:l.length<=1000000000:=hb;have hk:k<=l.length:=hk;by_cases h:k < l.length
 ·have hx:=hl _ (ba h);have n1:nth tu l k=l[k]:=cC (t:=tu) h;have hd:adm w9 (l.drop k) k=if w9 l[k] then .inl (k:Int) else adm w9 (l.drop (k+1)) ((k+1:Nat):Int):=by rw[aq h];rfl
  have step:∀ {R:Type} (kn:AS->Option R) (kx:Exit->AS->Option R),HB (l,(l.length:Int),(k:Int)) kn kx=aG (w9 l[k]) (kx (oD (k:Int)).1 (oD (k:Int)).2) (kn (nQ (l,(l.length:Int),((k+1:Nat):Int)))):=by intro R kn kx;rw[HE,aU ak,bo ak ak,aa,n1,atH (d:=l[k]) hx,N.ot ak];rfl
  cases hp:w9 l[k]
  ·left;refine⟨(l,l.length,((k+1:Nat):Int)),⟨hl,hb,rfl,k+1,ak,rfl⟩,by simp only[aa];omega,?_,λkn kx=> ?_⟩
   ·simp only[j4,ni,aa,hd,hp,bU,bz]
   ·rw[step,hp,au]
  ·right;refine⟨oD (k:Int),?_,λkn kx=> ?_⟩
   ·simp only[j4,ni,aa,hd,hp,bN];rfl
   ·rw[step,hp,ao]
 ·right;obtain rfl:k=l.length:=ak;refine⟨wb (),?_,λkn kx=> ?_⟩
  ·simp only[j4,ni,aa,aN];rfl
  ·rw[HE,aT ak,au]
theorem as7:xr.Ok:=by rintro l ⟨hl,hb⟩;rw[as6,Z5 (d:=(l,l.length,0)) ⟨hl,hb,rfl,0,ak,rfl⟩];simp only[ah,j4,ni,aS,aM,bm,Xz,azV];cases adm w9 l 0 <;> rfl
theorem anq:xr.RS:=rE [.d tU] xr
def as8:=xr.fh as7 1 ⟨.fD aeW,trivial⟩
def Z4:Bs->Prop:=λl=>(∀x∈l,True)/\l.length<=1000000000
def Hy:Bs->Bool:=λl=>l.any w9
def tc:Fs Tryz.prog Z4 bm Hy:=fg 50 Tryz.f50 (λsv=>([.d tU sv,.fn 47 (.nil)],[])) (λx=>⟨.d .bool x,[],[]⟩) [aw tU,aF] [as8]
theorem aeS(sv)(k:K1 R):tc.A sv k=aj (xr.call sv) λx1=>k (tc.out (B8 x1 0)):=cK
theorem aeT:tc.Ok:=by rintro l ⟨hl,hb⟩;rw[aeS,anq (d:=l) ⟨hl,hb⟩];simp only[ah,bm,Xz,avM];rfl
theorem JX:tc.RS:=rE [.d tU] tc
def N2:=tc.fh aeT
abbrev LH:=Int×Bs×Int×Int×eT×(Int×Unit)×Int×Nat×(Int×Unit)×Bs×(List Sg)
def yH:LH->(FB×(List Sg))->((Int×eT×(Int×Unit))×(FB×(List Sg))):=λ(oe,t52,t53,t54,n5,Jl,Y7,Co,Ar,OO,adK) y=>((oe,n5,Jl),y)
abbrev api:=eT×Int×Int×Bs×Int
def afp:LH->Prop:=λ(i0,l,n,i,t,e,br,L,sc,id,r)=>l.length<=1000/\(∀x∈l,iN x)/\Sm id/\∃k:Nat,k<=l.length/\i=k/\n=l.length/\L=r.length/\r.length<=1000+k
def Ey:LH->(FB×(List Sg)):=λ(i0,l,n,i,t,e,br,L,sc,id,r)=>((br,r++(l.drop i.toNat).map (λk=>pD k id),sc),r++(l.drop i.toNat).map (λk=>pD k id))
def atM:api->Prop:=λ(t,i,br,ks,sc)=>Ca t/\(∀x∈ks,iN x)/\ks.length<=1000000000
def OA:api->(eT×Int):=λ(t,i,br,ks,sc)=>Oa t i br ks sc
def uL:Ls afp yH Ey:=oP (λ(oe,t52,t53,t54,n5,Jl,Y7,Co,Ar,OO,adK)=>⟨([bK,.d ti oe,bK,bK,bK,dX 5]++a9 4 ([dX 10,bK,bK,dX 13,dX 14]++a9 37 ([.d tU t52,.d ti t53,.d ti t54]++a9 21 []))),[],(bC 5 ([cH (.d eU n5)]++bC 4 ([cH (.pr (.cw) (.pr (.cw) (.d (.pair ti .unit) Jl))),[],[],cH (.pr (.d ti Y7) (.pr (iw 64 Co) (.d (.pair tu .unit) Ar))),cH (.d tH OO)]++bC 49 ([cH (.vec 50 oE adK)]++bC 11 []))))⟩) (λx=>(.exit 0,⟨([bK,.d ti x.1.1,bK,bK,bK,dX 5]++a9 4 ([dX 10,bK,bK,dX 13]++a9 62 [])),[],(bC 5 ([cH (.d eU x.1.2.1)]++bC 4 ([cH (.pr (.cw) (.pr (.cw) (.d (.pair ti .unit) x.1.2.2))),[],[],cH (.d TS x.2.1)]++bC 50 ([[.obj 0 aW (.vec 50 oE x.2.2)]]++bC 11 []))))⟩))
def rp:Fs Tryz.prog atM bm OA:=fg 9 Tryz.f9 (λ(t,inv,branch,keys,secret)=>([.d eU t,.d ti inv,.d ti branch,.d tU keys,.d tu secret],[])) (λx=>⟨.cons (.d eU x.1) (.cons (.d ti x.2) (.nil)),[],[]⟩) [aw eU,aw ti,aw ti,aw tU,aw tu] [oF,afr,N2,X1,ajc,anJ] {bD:=[5],loops:=oN [(7,{aY:=[1,5,10,13,14,52,53,54],sites:=[5,10,13,14,64],owns:=[⟨13,[.snd,.fst],64,39⟩]})],outs:=oM [(7,{aY:=[1,5,10,13],sites:=[5,10,13,64],Ch:=[⟨13,[.snd,.fst],(.slice oE)⟩]},{aY:=[10,11]})],fE:=pX [(7,uL.E)],res:=[aw eU,aF]}
theorem afq:uL.RS:=rL [.d ti,.d tU,.d ti,.d ti,.d eU,.d (.pair ti .unit),.d ti,.n,.d (.pair tu .unit),.d tB,.d (.slice oE)] uL
theorem Ka(oe t52 t53 t54 n5 Jl Y7 Co Ar OO adK)(kn:K2 R)(kx:K3 R):rp.R 0 uL (oe,t52,t53,t54,n5,Jl,Y7,Co,Ar,OO,adK) kn kx=aG (fV t54 t53) (aG (ei t54 (t52.length:Int)) (aj (Oi.call ((nth tu t52 (ab t54)),OO)) λx4=>aG (decide (Co<=(ae adK))) (aG (db (Co+1) 16) (kn (uL.st (oe,t52,t53,(bB .i64 t54 1),n5,Jl,Y7,(Co+1),Ar,OO,((aP Co adK)++ [x4])))) aF) aF) aF) (aG (decide (0=0/\(0+Co)<=(ae adK))) (uL.go kx ((oe,n5,Jl),((Y7,((cut adK 0 Co),Ar)),adK))) aF):=cK
theorem ayy(t inv branch keys secret)(k:K1 R):rp.A (t,inv,branch,keys,secret) k=aj (eV.call t) λQN=>aG (!QN) (k (rp.out ((([]:List fB),(([]:List gb),(0,()))),1))) (aG (fV inv 0) (k (rp.out ((([]:List fB),(([]:List gb),(0,()))),1))) (aG (B8 inv (t.1.length:Int)) (k (rp.out ((([]:List fB),(([]:List gb),(0,()))),1))) (aj (Yq.call (branch,(([]:List Sg),(secret,())))) λaHX=>aG (!aHX) (k (rp.out ((([]:List fB),(([]:List gb),(0,()))),1))) (aG (xS (keys.length:Int) 12) (k (rp.out ((([]:List fB),(([]:List gb),(0,()))),1))) (aj (tc.call keys) λTW=>aG (TW) (k (rp.out ((([]:List fB),(([]:List gb),(0,()))),1))) (aj (tid.call t) λLK=>aj (uL.call (inv,keys,(keys.length:Int),0,t,(0,()),branch,0,(secret,()),LK,([]:List Sg))) λFK=>aj (my.call FK.1.2.1) λI4=>aG (ei FK.1.1 ((I4.1:Nat):Int)) (aG (decide ((0+(ab FK.1.1)) < (ae I4.2.2))) (aG (decide ((((0+(ab FK.1.1))*36)+33)=((0+((ab FK.1.1)*36))+33))) (aG (decide ((0+(ab FK.1.1)) < (ae I4.2.2))) (aG (decide (0=0/\(0+I4.1)<=(ae (eE I4.2.2 (0+(ab FK.1.1)) ((nth dM I4.2.2 (0+(ab FK.1.1))).1,(FK.2.1,(nth dM I4.2.2 (0+(ab FK.1.1))).2.2)))))) (k (rp.out (((cut (eE I4.2.2 (0+(ab FK.1.1)) ((nth dM I4.2.2 (0+(ab FK.1.1))).1,(FK.2.1,(nth dM I4.2.2 (0+(ab FK.1.1))).2.2))) 0 I4.1),I4.2.1),0))) aF) aF) aF) aF) aF)))))):=cK
theorem ajD:(rp.j8 0 uL):=by
 refine(rp.lX 0 uL) (λ(i0,l,n,i,t,e,br,L,sc,id,r)=>l.length - i.toNat) ?_
 rintro⟨i0,l,n,i,t,e,br,L,sc,id,r⟩ ⟨hlen,hu,hm,k,hk,rfl,rfl,rfl,hr⟩;have hlen:l.length<=1000:=hlen;have hk:k<=l.length:=hk;have hr:r.length<=1000+k:=hr;by_cases h:k < l.length
 ·left;have n1:nth tu l k=l[k]:=cC (t:=tu) h;have hd:aX k l=l[k]::aX (k+1) l:=aq h;refine⟨(i0,l,l.length,((k+1:Nat):Int),t,e,br,r.length+1,sc,id,r++ [pD l[k] id]),⟨hlen,hu,hm,k+1,ak,rfl,rfl,by rw[ai];rfl,by rw[ai];show r.length+1<=_;omega⟩,by simp only[aa];omega,?_,λkn kx=> ?_⟩
  ·simp only[yH,Ey,aa,hd,bS,aC,bQ]
  ·rw[Ka,aU ak,bo ak ak,aa,n1,acb (d:=(l[k],id)) ⟨hu _ (ba h),hm⟩];simp only[ao,ah,bm,TR];rw[aI (az _),cV ak ak,N.ot ak,bt];rfl
 ·right;obtain rfl:k=l.length:=ak;intro R kn kx;rw[Ka,aT ak,au];simp only[yH,Ey,aa,aN,eX,bn,aH,az,eW,bA,ao,dw]
theorem ayz:rp.Ok:=by
 rintro⟨⟨is,os,nt,u⟩,i,br,ks,sc⟩ ⟨hv,hu,hl⟩;have hv:Ca (is,os,nt,u):=hv;have hl:ks.length<=1000000000:=hl;rw[ayy,jz (d:=(is,os,nt,u)) hv.1];simp only[ah,bm,mQ,bm,OA,Oa,uC];rcases dN (gS (is,os,nt,u)) with gT | gT;rotate_left
 ·simp only[gT];rfl
 obtain⟨⟨_,a2,a3,_⟩,b1,b2⟩:=jO gT;have a2:is.length<=64:=a2;simp only[gT,cd,au,bI];by_cases h1:i < 0
 ·rw[aU h1,ao,aJ ak];rfl
 rw[aT h1,au];by_cases h2:i>=(is.length:Int)
 ·rw[gf h2,ao,aJ ak];rfl
 rw[eH h2,au,Ys (d:=(br,([],(sc,())))) trivial];simp only[ah,bm,Yr,xA];by_cases h3:0<=br/\br < 4
 ·rw[aI h3];by_cases h4:ks.length > 12
  ·rw[dk ak,aJ (p:=0<=i/\i < (is.length:Int)/\0<=br/\br < 4/\ks.length<=12) ak];rfl
  ·rw[cJ ak,aI (p:=0<=i/\i < (is.length:Int)/\0<=br/\br < 4/\ks.length<=12) ak,JX (d:=ks) ⟨λ_ _=>trivial,hl⟩];simp only[ah,bm,Hy];rcases dN (ks.any w9) with hb | hb;rotate_left
   ·simp only[hb];obtain⟨k,rfl⟩:∃k:Nat,i=k:=⟨i.toNat,ak⟩;have hk:k < is.length:=ak;simp only[show(([]:List Sg).length<=12)=True from eq_true (aL _),bA,oq,cd,eP,au,bI,bN];rw[Es (d:=(is,os,nt,u)) hv];simp only[ah,bm,X0];rw[afq (d:=((k:Int),ks,ks.length,0,(is,os,nt,u),(0,()),br,0,(sc,()),OF (is,os,nt,u),[])) ⟨by show ks.length<=_;omega,hu,aft,0,aL _,rfl,rfl,rfl,aL _⟩];simp only[ah,yH,Ey,aS,aM,aO];rw[ajo (d:=(is,os,nt,u)) gT];simp only[ah,bm,aci,aa,aH,bM,bo (show(0:Int)<=(k:Int) by omega) (show(k:Int) < (is.length:Int) by omega),ao,aI hk,bA,ed,az,eW];rw[dw (by rw[ed])]
   ·simp only[hb];rfl
 ·rw[aJ h3,aJ (p:=0<=i/\i < (is.length:Int)/\0<=br/\br < 4/\ks.length<=12) ak];rfl
theorem QH:rp.RS:=rE [.d eU,.d ti,.d ti,.d tU,.d tu] rp
def ayA:=rp.fh ayz 1 ⟨.fD ajD,trivial⟩
abbrev aFK:Ty:=(.pair ti (.pair (.eK oE) (.pair tu .unit)))
abbrev ay3:=(Int×((Bool×List Sg)×(Int×Unit)))
abbrev nR:Ty:=(.pair oS (.pair aFK .unit))
abbrev LQ:=(tj×(ay3×Unit))
abbrev aHM:Ty:=(.pair ti (.pair (.js 2) (.pair tu .unit)))
abbrev aGt:=(Int×(Nat×(Int×Unit)))
abbrev yy:Ty:=(.pair oS (.pair aHM .unit))
abbrev FA:=(tj×(aGt×Unit))
def aoH(b:Bool)(x:fB):LQ:=(x.1,((x.2.1.1,((b,x.2.1.2.1),x.2.1.2.2)),()))
def aFA(x:LQ):LQ:=(x.1,((x.2.1.1,((aW,x.2.1.2.1.2),x.2.1.2.2)),()))
theorem azn(l:List fB):aBr (.slice dM) (.slice nR) l=l.map (aoH aQ):=rfl
theorem aDe(l:List fB):(l.map (aoH aQ)).map aFA=l.map (aoH aW):=by rw[lq];rfl
theorem apc{α:Type}(f:α->α){l:List α}{k:Nat}(h:k < l.length):(l.set k (f l[k])).take (k+1)++((l.set k (f l[k])).drop (k+1)).map f=l.take k++(l.drop k).map f:=by
 have hl:(l.take k).length=k:=by rw[ct];omega
 rw[aq h,bS,List.set_eq_take_append_cons_drop,if_pos h];have e1:(l.take k++f l[k]::l.drop (k+1)).take (k+1)=l.take k++ [f l[k]]:=by rw[mB,hl,bg ak,show k+1 - k=1 by omega];rfl
 have e2:(l.take k++f l[k]::l.drop (k+1)).drop (k+1)=l.drop (k+1):=by rw[iG,hl,dh ak,show k+1 - k=1 by omega];rfl
 rw[e1,e2,aC];rfl
def akj:(List Sg)->Prop:=λl=>l.length<=1000000
def Ui:(List Sg)->(Bool×List Sg):=λl=>(aW,l)
def C8:Fs Tryz.prog akj bm Ui:=fg 96 Tryz.f96 (λsv=>([.d (.slice oE) sv],[])) (λx=>⟨.d (.eK oE) x,[],[]⟩) [aw (.slice oE)] [] {bD:=[5],res:=[aw (.eK oE)],aq7:=[(2,[])]}
theorem apR(sv)(k:K1 R):C8.A sv k=aG (decide (0 < (ae sv))) (aG (db (0+(ae sv)) 16) (aG (decide ((0+(ae sv))=(ae ((aP 0 (ag 0 (0,(0,()))))++sv)))) (k (C8.out (aW,((aP 0 (ag 0 (0,(0,()))))++sv)))) aF) aF) (nd (k (C8.out (aW,([]:List Sg)))) (aG (db (0+(ae sv)) 16) (aG (decide ((0+(ae sv))=(ae ((aP 0 (ag 0 (0,(0,()))))++sv)))) (k (C8.out (aW,((aP 0 (ag 0 (0,(0,()))))++sv)))) aF) aF)):=cK
theorem apS:C8.Ok:=by
 intro l hl;have hl:l.length<=1000000:=hl;have hr:db l.length 16=aW:=cV ak ak;rw[apR];simp only[aH,hr,ao,dI,aO,bA,bm,Ui];by_cases h:0 < l.length
 ·simp only[aI h,ao]
 ·have:l=[]:=bP ak;subst this;simp only[bj,DH,aJ (iM 0),au]
theorem akk:C8.RS:=rE [.d (.slice oE)] C8
def apT:=C8.fh apS
abbrev Lt:=Int×Int×Nat×Nat×(Int×Unit)×(Int×Unit)×(List LQ)×(List gb)
def yz:Lt->(List LQ)->((Nat×Nat×(Int×Unit)×(Int×Unit)×(List gb))×((List LQ))):=λ(t17,t18,adI,yZ,n1,n2,n9,Va) y=>((adI,yZ,n1,n2,Va),y)
abbrev XQ:=Int×Int×Nat×Nat×(Int×Unit)×(Int×Unit)×(List LQ)×(List gb)
abbrev Lu:=Int×Nat×Int×Int×Int×Int×Nat×Nat×(Int×Unit)×(Int×Unit)×(List LQ)×(List gb)×(List mr)
abbrev XT:=(List mr)×(List mr)
def Oj:Lu->XT->((Int×Int×Int×Nat×Nat×(Int×Unit)×(Int×Unit)×(List LQ)×(List gb))×((List mr)×(List mr))):=λ(kv,lL,zG,zH,t51,t52,y1,y2,KM,kc,KS,yY,IC) y=>((kv,zG,zH,y1,y2,KM,kc,KS,yY),y)
def ae2:Lt->Prop:=λ(m,i,L,L2,u,v,l,os)=>(l.length<=1000/\∀x∈l,x.2.1.2.1.2.length<=1000000)/\∃k:Nat,k<=l.length/\i=k/\m=l.length/\L=l.length/\∀j (h:j < l.length),k<=j->l[j].2.1.2.1.1=aQ
def Eo:Lt->(List LQ):=λ(m,i,L,L2,u,v,l,os)=>l.take i.toNat++(l.drop i.toNat).map aFA
def ae6:Lu->Prop:=λ(kv,L,m1,i1,m,i,L5,L6,u,v,ls,os,bs)=>(bs.length<=1000/\∀x∈bs,x.1.length<=1000000)/\∃k:Nat,k<=bs.length/\i=k/\m=bs.length/\L=bs.length
def XS:Lu->XT:=λ(kv,L,m1,i1,m,i,L5,L6,u,v,ls,os,bs)=>(bs,bs)
def ae4:XQ->Prop:=λ(m,i,L3,L,u,v,ls,os)=>(os.length<=1000/\∀x∈os,x.2.1.1.length<=1000/\∀b∈x.2.1.1,b.1.length<=1000000)/\∃k:Nat,k<=os.length/\i=k/\m=os.length/\L=os.length
def XR:XQ->(Nat×Nat×(Int×Unit)×(Int×Unit)×(List LQ)×(List gb)):=λ(m,i,L3,L,u,v,ls,os)=>(L3,L,u,v,ls,os)
def atl:eT->Prop:=λt=>gS t=aW
def apg:eT->(Nat×Nat×(Int×Unit)×(List LQ)×(List gb)):=λt=>(t.1.length,(t.2.1.length,(t.2.2,(t.1.map (aoH aW),t.2.1))))
def uF:Ls ae2 yz Eo:=oP (λ(t17,t18,adI,yZ,n1,n2,n9,Va)=>⟨([bK,dX 1,dX 2]++a9 14 ([.d ti t17,.d ti t18]++a9 56 [])),[],([[],cH (.pr (iw 9 adI) (.pr (iw 12 yZ) (.d (.pair ti .unit) n1))),cH (.pr (.cw) (.pr (.cw) (.d (.pair ti .unit) n2)))]++bC 6 ([cH (.vec 47 nR n9),[],[],cH (.vec 55 dO Va)]++bC 62 []))⟩) (λx=>(.exit 0,⟨([bK,dX 1,dX 2]++a9 72 []),[],([[],cH (.pr (iw 9 x.1.1) (.pr (iw 12 x.1.2.1) (.d (.pair ti .unit) x.1.2.2.1))),cH (.pr (.cw) (.pr (.cw) (.d (.pair ti .unit) x.1.2.2.2.1)))]++bC 6 ([cH (.vec 47 nR x.2),[],[],cH (.vec 55 dO x.1.2.2.2.2)]++bC 62 []))⟩))
def ri:Ls ae4 bm XR:=oP (λ(t38,t39,Gp,Cp,Vf,gD,Vv,ph)=>⟨([bK,dX 1,dX 2]++a9 35 ([.d ti t38,.d ti t39]++a9 35 [])),[],([[],cH (.pr (iw 9 Gp) (.pr (iw 12 Cp) (.d (.pair ti .unit) Vf))),cH (.pr (.cw) (.pr (.cw) (.d (.pair ti .unit) gD)))]++bC 6 ([cH (.vec 47 nR Vv),[],[],cH (.vec 55 dO ph)]++bC 62 []))⟩) (λx=>(.exit 2,⟨([bK,dX 1,dX 2]++a9 72 []),[],([[],cH (.pr (iw 9 x.1) (.pr (iw 12 x.2.1) (.d (.pair ti .unit) x.2.2.1))),cH (.pr (.cw) (.pr (.cw) (.d (.pair ti .unit) x.2.2.2.1)))]++bC 6 ([cH (.vec 47 nR x.2.2.2.2.1),[],[],cH (.vec 55 dO x.2.2.2.2.2)]++bC 62 []))⟩))
def rj:Ls ae6 Oj XS:=oP (λ(kv,lL,zG,zH,t51,t52,y1,y2,KM,kc,KS,yY,IC)=>⟨([bK,dX 1,dX 2,bK,.d ti kv,iw 49 lL]++a9 32 ([.d ti zG,.d ti zH]++a9 11 ([.d ti t51,.d ti t52]++a9 22 []))),[],([[],cH (.pr (iw 9 y1) (.pr (iw 12 y2) (.d (.pair ti .unit) KM))),cH (.pr (.cw) (.pr (.cw) (.d (.pair ti .unit) kc)))]++bC 6 ([cH (.vec 47 nR KS),[],[],cH (.vec 55 dO yY)]++bC 36 ([cH (.vec 69 gW IC)]++bC 25 [])))⟩) (λx=>(.exit 4,⟨([bK,dX 1,dX 2,bK,.d ti x.1.1,.d (.slice gW) x.2.1]++a9 32 ([.d ti x.1.2.1,.d ti x.1.2.2.1]++a9 35 [])),[],([[],cH (.pr (iw 9 x.1.2.2.2.1) (.pr (iw 12 x.1.2.2.2.2.1) (.d (.pair ti .unit) x.1.2.2.2.2.2.1))),cH (.pr (.cw) (.pr (.cw) (.d (.pair ti .unit) x.1.2.2.2.2.2.2.1)))]++bC 6 ([cH (.vec 47 nR x.1.2.2.2.2.2.2.2.1),[],[],cH (.vec 55 dO x.1.2.2.2.2.2.2.2.2)]++bC 36 ([[.obj 0 aW (.vec 69 gW x.2.2)]]++bC 25 [])))⟩))
def xy:Fs Tryz.prog atl bm apg:=fg 52 Tryz.f52 (λt=>([.d eU t],[])) (λx=>⟨.pr (.dx (.new 0 0) 0 [] 0 0 x.1) (.pr (.dx (.new 0 1) 0 [] 0 0 x.2.1) (.d (.pair ti .unit) x.2.2.1)),[],[.obj 0 aQ (.vec 47 nR x.2.2.2.1),.obj 0 aQ (.vec 55 dO x.2.2.2.2)]⟩) [aw eU] [aoi,aga,apT,aoh,abv] {bD:=[1],loops:=oN [(3,{aY:=[1,2,17,18],sites:=[1,2,9,12],aHH:=[((.new 9 0),nR)]}),(8,{aY:=[1,2,38,39],sites:=[1,2,9,12]}),(12,{aY:=[1,2,4,5,38,39,51,52],sites:=[1,2,9,12,49]})],outs:=oM [(3,{aY:=[1,2],sites:=[1,2,9,12]},{aY:=[2]}),(8,{aY:=[1,2],sites:=[1,2,9,12]},{aY:=[2]}),(12,{aY:=[1,2,4,5,38,39],sites:=[1,2,9,12,49],data:=[(5,(.slice gW))]},{aY:=[2]})],fE:=pX [(3,uF.E),(8,ri.E),(12,rj.E)]}
theorem ae3:uF.RS:=rL [.d ti,.d ti,.n,.n,.d (.pair ti .unit),.d (.pair ti .unit),.d (.slice nR),.d (.slice dO)] uF
theorem JY(t17 t18 adI yZ n1 n2 n9 Va)(kn:K2 R)(kx:K3 R):xy.R 0 uF (t17,t18,adI,yZ,n1,n2,n9,Va) kn kx=aG (fV t18 t17) (aG (ei t18 ((adI:Nat):Int)) (aG (decide ((0+(ab t18)) < (ae n9))) (aG (decide ((((0+(ab t18))*36)+34)=(((0+((ab t18)*36))+33)+1))) (aG (!(nth nR n9 (0+(ab t18))).2.1.2.1.1) (aj (C8.call (nth nR n9 (0+(ab t18))).2.1.2.1.2) λx1=>aG (ei t18 ((adI:Nat):Int)) (aG (decide ((0+(ab t18)) < (ae n9))) (aG (decide ((((0+(ab t18))*36)+34)=(((0+((ab t18)*36))+33)+1))) (aG (decide ((0+(ab t18)) < (ae n9))) (kn (uF.st (t17,(bB .i64 t18 1),adI,yZ,n1,n2,(eE n9 (0+(ab t18)) ((nth nR n9 (0+(ab t18))).1,(((nth nR n9 (0+(ab t18))).2.1.1,(x1,(nth nR n9 (0+(ab t18))).2.1.2.2)),(nth nR n9 (0+(ab t18))).2.2))),Va))) aF) aF) aF) aF) aF) aF) aF) aF) (uF.go kx ((adI,yZ,n1,n2,Va),n9)):=cK
theorem ae5:ri.RS:=rL [.d ti,.d ti,.n,.n,.d (.pair ti .unit),.d (.pair ti .unit),.d (.slice nR),.d (.slice dO)] ri
theorem JZ(t38 t39 Gp Cp Vf gD Vv ph)(kn:K2 R)(kx:K3 R):xy.R 1 ri (t38,t39,Gp,Cp,Vf,gD,Vv,ph) kn kx=aG (fV t39 t38) (aG (ei t39 ((Cp:Nat):Int)) (aG (decide ((0+(ab t39)) < (ae ph))) (aG (decide ((((0+(ab t39))*2)+1)=(((0+((ab t39)*2))+1)+0))) (aj (YO.call (nth dO ph (0+(ab t39))).2.1.1) λx1=>aj (rj.call (t39,x1.1,t38,t39,((x1.1:Nat):Int),0,Gp,Cp,Vf,gD,Vv,ph,x1.2)) λx2=>aG (ei x2.1.1 ((x2.1.2.2.2.2.1:Nat):Int)) (aG (decide ((0+(ab x2.1.1)) < (ae x2.1.2.2.2.2.2.2.2.2))) (aG (decide ((((0+(ab x2.1.1))*2)+1)=(((0+((ab x2.1.1)*2))+1)+0))) (aG (decide ((0+(ab x2.1.1)) < (ae x2.1.2.2.2.2.2.2.2.2))) (kn (ri.st (x2.1.2.1,(bB .i64 x2.1.2.2.1 1),x2.1.2.2.2.1,x2.1.2.2.2.2.1,x2.1.2.2.2.2.2.1,x2.1.2.2.2.2.2.2.1,x2.1.2.2.2.2.2.2.2.1,(eE x2.1.2.2.2.2.2.2.2.2 (0+(ab x2.1.1)) ((nth dO x2.1.2.2.2.2.2.2.2.2 (0+(ab x2.1.1))).1,((x2.2.1,(nth dO x2.1.2.2.2.2.2.2.2.2 (0+(ab x2.1.1))).2.1.2),(nth dO x2.1.2.2.2.2.2.2.2.2 (0+(ab x2.1.1))).2.2)))))) aF) aF) aF) aF) aF) aF) aF) (ri.go kx (Gp,Cp,Vf,gD,Vv,ph)):=cK
theorem ae7:rj.RS:=rL [.d ti,.n,.d ti,.d ti,.d ti,.d ti,.n,.n,.d (.pair ti .unit),.d (.pair ti .unit),.d (.slice nR),.d (.slice dO),.d (.slice gW)] rj
theorem J0(kv lL zG zH t51 t52 y1 y2 KM kc KS yY IC)(kn:K2 R)(kx:K3 R):xy.R 2 rj (kv,lL,zG,zH,t51,t52,y1,y2,KM,kc,KS,yY,IC) kn kx=aG (fV t52 t51) (aG (ei t52 ((lL:Nat):Int)) (aG (decide ((0+(ab t52)) < (ae IC))) (aG (decide ((((0+(ab t52))*4)+0)=((0+((ab t52)*4))+0))) (aj (Bm.call (nth gW IC (0+(ab t52))).1) λx1=>aG (ei t52 ((lL:Nat):Int)) (aG (decide ((0+(ab t52)) < (ae IC))) (aG (decide ((((0+(ab t52))*4)+0)=((0+((ab t52)*4))+0))) (aG (decide ((0+(ab t52)) < (ae IC))) (kn (rj.st (kv,lL,zG,zH,t51,(bB .i64 t52 1),y1,y2,KM,kc,KS,yY,(eE IC (0+(ab t52)) (x1,(nth gW IC (0+(ab t52))).2))))) aF) aF) aF) aF) aF) aF) aF) (aG (decide (0=0/\(0+lL)<=(ae IC))) (rj.go kx ((kv,zG,zH,y1,y2,KM,kc,KS,yY),((cut IC 0 lL),IC))) aF):=cK
theorem ayl(t)(k:K1 R):xy.A t k=aj (YP.call t.1) λx1=>aj (Jc.call t.2.1) λx2=>aj (uF.call (((x1.1:Nat):Int),0,x1.1,x2.1,t.2.2,(0,()),(aBr (.slice dM) (.slice nR) x1.2),x2.2)) λx4=>aj (ri.call (((x4.1.2.1:Nat):Int),0,x4.1.1,x4.1.2.1,x4.1.2.2.1,x4.1.2.2.2.1,x4.2,x4.1.2.2.2.2)) λx8=>k (xy.out (x8.1,x8.2.1,x8.2.2.1,x8.2.2.2.2.1,x8.2.2.2.2.2)):=cK
theorem ajk:(xy.j8 0 uF):=by
 refine(xy.lX 0 uF) (λ(m,i,L,L2,u,v,l,os)=>l.length - ab i) ?_
 rintro⟨m,i,L,L2,u,v,l,os⟩ ⟨⟨hlen,hx⟩,k,hk,rfl,rfl,rfl,hf⟩;have hlen:l.length<=1000:=hlen;have hk:k<=l.length:=hk;by_cases h:k < l.length
 ·left;have n1:nth nR l k=l[k]:=cC (t:=nR) h;have e:=hx _ (ba h);have aDO:l[k].2.1.2.1.1=aQ:=hf k h (az _);refine⟨((l.length:Int),((k+1:Nat):Int),l.length,L2,u,v,l.set k (aFA l[k]),os),⟨⟨by rw[ed];exact hlen,λx hm=> ?_⟩,k+1,by rw[ed];omega,rfl,by rw[ed],by rw[ed],λj hj aLh=> ?_⟩,by show(l.set k (aFA l[k])).length - ab ((k+1:Nat):Int) < l.length - ab (k:Int);rw[ed];simp only[aa];omega,?_,λkn kx=> ?_⟩
  ·rcases List.mem_or_eq_of_mem_set hm with hm | rfl
   ·exact hx x hm
   ·exact e
  ·rw[ed]at hj;rw[List.getElem_set_ne ak];exact hf j hj ak
  ·simp only[yz,Eo,aa];rw[apc aFA h]
  ·rw[JY,aU ak,bo ak ak];simp only[aa,aH,bM,dz,Nat.reduceAdd,ao,aI h,bA,n1,aDO,eP];rw[akk (d:=l[k].2.1.2.1.2) e];simp only[ah,bm,Ui];rw[N.ot ak];rfl
 ·right;obtain rfl:k=l.length:=ak;intro R kn kx;rw[JY,aT ak,au];simp only[yz,Eo,aa,bt,aN,eX,bn]
theorem ajm:(xy.j8 2 rj):=by
 refine(xy.lX 2 rj) (λ(kv,L,m1,i1,m,i,L5,L6,u,v,ls,os,bs)=>bs.length - ab i) ?_
 rintro⟨kv,L,m1,i1,m,i,L5,L6,u,v,ls,os,bs⟩ ⟨⟨hlen,hx⟩,k,hk,rfl,rfl,rfl⟩;have hlen:bs.length<=1000:=hlen;have hk:k<=bs.length:=hk;by_cases h:k < bs.length
 ·left;have n1:nth gW bs k=bs[k]:=cC (t:=gW) h;have hs:bs.set k bs[k]=bs:=fw h;have e:=hx _ (ba h);refine⟨(kv,bs.length,m1,i1,(bs.length:Int),((k+1:Nat):Int),L5,L6,u,v,ls,os,bs),⟨⟨hlen,hx⟩,k+1,ak,rfl,rfl,rfl⟩,by simp only[aa];omega,rfl,λkn kx=> ?_⟩;rw[J0,aU ak,bo ak ak];simp only[aa,aH,bM,dz,Nat.reduceAdd,ao,aI h,bA,n1];rw[VK (d:=bs[k].1) e];simp only[ah,bm,M1];rw[N.ot ak];exact c7 (λz=>kn (rj.st (_,_,_,_,_,_,_,_,_,_,_,_,z))) hs
 ·right;obtain rfl:k=bs.length:=ak;intro R kn kx;rw[J0,aT ak,au];simp only[aH,az,eW,bA,ao,dw];rfl
theorem ajl:(xy.j8 1 ri):=by
 refine(xy.lX 1 ri) (λ(m,i,L3,L,u,v,ls,os)=>os.length - ab i) ?_
 rintro⟨m,i,L3,L,u,v,ls,os⟩ ⟨⟨hlen,hx⟩,k,hk,rfl,rfl,rfl⟩;have hlen:os.length<=1000:=hlen;have hk:k<=os.length:=hk;by_cases h:k < os.length
 ·left;have n1:nth dO os k=os[k]:=cC (t:=dO) h;have hs:os.set k os[k]=os:=fw h;have e:=hx _ (ba h);refine⟨((os.length:Int),((k+1:Nat):Int),L3,os.length,u,v,ls,os),⟨⟨hlen,hx⟩,k+1,ak,rfl,rfl,rfl⟩,by simp only[aa];omega,rfl,λkn kx=> ?_⟩;rw[JZ,aU ak,bo ak ak];simp only[aa,aH,bM,dz,Nat.reduceAdd,ao,aI h,bA,n1];rw[af8 (d:=os[k].2.1.1) (by show os[k].2.1.1.length<=_;have:=e.1;omega)];simp only[ah,bm,acO];rw[ae7 (d:=((k:Int),os[k].2.1.1.length,(os.length:Int),(k:Int),(os[k].2.1.1.length:Int),0,L3,os.length,u,v,ls,os,os[k].2.1.1)) ⟨e,0,aL _,rfl,rfl,rfl⟩];simp only[ah,Oj,XS,aa,n1,ao,aI h,bo (show(0:Int)<=(k:Int) by omega) (show(k:Int) < (os.length:Int) by omega)];rw[N.ot ak];exact c7 (λz=>kn (ri.st (_,_,_,_,_,_,_,z))) hs
 ·right;obtain rfl:k=os.length:=ak;intro R kn kx;rw[JZ,aT ak,au];rfl
theorem aym:xy.Ok:=by
 rintro⟨is,os,nt,u⟩ gT;obtain⟨⟨_,a2,a3,_⟩,b1,b2⟩:=jO gT;have a2:is.length<=64:=a2;have a3:os.length<=64:=a3;have hl:(is.map (aoH aQ)).length=is.length:=bR _;rw[ayl,af9 (d:=is) (by show is.length<=_;omega),aaJ (d:=os) (by show os.length<=_;omega)];simp only[ah,bm,acP,bm,Tr];rw[azn,ae3 (d:=(is.length,0,is.length,os.length,(nt,u),(0,()),is.map (aoH aQ),os)) ⟨⟨by rw[hl];omega,λx hx=>by
  obtain⟨y,hy,rfl⟩:=fm.1 hx;have:=(qE (iD _ _ b1 y hy)).2.2.2.2;show y.2.1.2.1.length<=_;omega⟩,0,aL _,rfl,by rw[hl],by rw[hl],λj hj _=>by rw[List.getElem_map];rfl⟩]
 simp only[ah,yz,Eo,aS,dI,aM,aO,aDe];rw[ae5 (d:=(os.length,0,is.length,os.length,(nt,u),(0,()),is.map (aoH aW),os)) ⟨⟨by show os.length<=_;omega,λx hx=>by
  have:=adx (ku _ _ b2 x hx).2;exact⟨ak,λb hb=>by have:=this.2 b hb;omega⟩⟩,0,aL _,rfl,rfl,rfl⟩]
 simp only[ah,bm,XR];rfl
theorem atm:xy.RS:=rE [.d eU] xy
def ayn:=xy.fh aym 3 ⟨.fD ajk,⟨.fD ajl,⟨.fD ajm,trivial⟩⟩⟩
abbrev w6:=Int×Bs×Int×Int×eT×(Int×Unit)×Int×Nat×(Int×Unit)×Bs×(List Sg)
def qy:w6->AS:=λ(oe,t52,t53,t54,n5,Jl,Y7,Co,Ar,OO,adK)=>⟨([bK,.d ti oe,bK,bK,bK,dX 5]++a9 4 ([dX 10,bK,bK,dX 13,dX 14]++a9 37 ([.d tU t52,.d ti t53,.d ti t54]++a9 21 []))),[],(bC 5 ([cH (.d eU n5)]++bC 4 ([cH (.pr (.cw) (.pr (.cw) (.d (.pair ti .unit) Jl))),[],[],cH (.pr (.d ti Y7) (.pr (iw 64 Co) (.d (.pair tu .unit) Ar))),cH (.d tH OO)]++bC 49 ([cH (.vec 50 oE adK)]++bC 11 []))))⟩
abbrev Oz:=(Int×eT×(Int×Unit))×(ay3)
def wu:Oz->Exit×AS:=λ((a,b,c),e)=>(.exit 0,⟨([bK,.d ti a,bK,bK,bK,dX 5]++a9 4 ([dX 10,bK,bK,dX 13]++a9 62 [])),[],(bC 5 ([cH (.d eU b)]++bC 4 ([cH (.pr (.cw) (.pr (.cw) (.d (.pair ti .unit) c))),[],[],cH (.d aFK e)]++bC 50 ([[.dead]]++bC 11 []))))⟩)
abbrev H6:=Oz
def J9:H6->Out (Exit×AS):=λx=> .ok (wu x)
def mn:w6->ay3->H6:=λ(oe,t52,t53,t54,n5,Jl,Y7,Co,Ar,OO,adK) y=>((oe,n5,Jl),y)
abbrev H4:=eT×Int×Int×Bs×Int
def QG:H4->SA:=λ(t,inv,branch,keys,secret)=>([.d eU t,.d ti inv,.d ti branch,.d tU keys,.d tu secret],[])
abbrev ajC:=((Int×Unit)×Int)⊕(Nat×Nat×(Int×Unit)×Int×(List LQ)×(List gb))
abbrev Yj:=((Int×Unit)×Int)⊕(Nat×Nat×(Int×Unit)×Int×(List LQ)×(List gb))
def nU:Yj->oH:=λx=>match x with | .inl x=>⟨.cons (.pr (.cw) (.pr (.cw) (.d (.pair ti .unit) x.1))) (.cons (.d ti x.2) (.nil)),[],[]⟩ | .inr x=>⟨.cons (.pr (iw 0 x.1) (.pr (.dx (.new 0 1) 0 [] 0 0 x.2.1) (.d (.pair ti .unit) x.2.2.1))) (.cons (.d ti x.2.2.2.1) (.nil)),[],[EJ (.vec 47 nR x.2.2.2.2.1),EJ (.vec 55 dO x.2.2.2.2.2)]⟩
def zM:H4->ajC->Yj:=λ(t,inv,branch,keys,secret) y=>match y with | .inl y=> .inl y | .inr y=> .inr y
def wq:w6->Prop:=λ(i0,l,n,i,t,e,br,L,sc,id,r)=>l.length<=1000/\(∀x∈l,iN x)/\Sm id/\∃k:Nat,k<=l.length/\i=k/\n=l.length/\L=r.length/\r.length<=1000+k
def pJ:w6->ay3:=λ(i0,l,n,i,t,e,br,L,sc,id,r)=>(br,((aW,r++(l.drop i.toNat).map (λk=>pD k id)),sc))
def LG:H4->Prop:=λ(t,i,br,ks,sc)=>Ca t/\(∀x∈ks,iN x)/\ks.length<=1000000000
def H5:H4->ajC:=λ(t,i,br,ks,sc)=>if uC t i br ks then .inr (t.1.length,(t.2.1.length,(t.2.2,(0,((Oa t i br ks sc).1.1.map (aoH aW),t.2.1))))) else .inl ((0,()),1)
def Yi:uO:=oc (P:=Tryz.prog) [oF,afr,N2,X1,ajc,ayn]
def Su:=eu.fD qy wq mn pJ J9
def H7:w6->Option H6:=jq Su qy
def QF:Ih:= {bD:=[5],loops:=oN [(7,{aY:=[1,5,10,13,14,52,53,54],sites:=[5,10,13,14,64],owns:=[⟨13,[.snd,.fst],64,39⟩]})],outs:=oM [(7,{aY:=[1,5,10,13],sites:=[5,10,13,64],aq7:=[(13,[.snd,.fst])]},{aY:=[10,11]})],fE:=pX [(7,Su)]}
def ajA:= @ayY Tryz.prog Yi QF 0 Tryz.f9 _ QG
abbrev atI:=aEg @ajA LG zM H5 nU
def Sv:= @fO Tryz.prog Yi QF 0 Tryz.f9 0 _ qy
abbrev Oy:=oT Tryz.prog Yi QF 0 Tryz.f9 0 qy wq mn pJ J9
theorem aam:nw H7 wq mn pJ:=qL (qF [.d ti,.d tU,.d ti,.d ti,.d eU,.d (.pair ti .unit),.d ti,.n,.d (.pair tu .unit),.d tB,.d (.slice oE)] λ_=>cK)
theorem LF:aB4 @Sv qy wq mn pJ wu Oy:=aGw
theorem H8(oe t52 t53 t54 n5 Jl Y7 Co Ar OO adK)(kn:K2 R)(kx:K3 R):Sv (oe,t52,t53,t54,n5,Jl,Y7,Co,Ar,OO,adK) kn kx=aG (fV t54 t53) (aG (ei t54 (((ae t52):Nat):Int)) (aj (Oi.call ((nth tu t52 (ab t54)),OO)) λx4=>aG (decide (Co<=(ae adK))) (aG (db (Co+1) 16) (kn (qy (oe,t52,t53,(bB .i64 t54 (1:Int)),n5,Jl,Y7,(Co+1),Ar,OO,((aP Co adK)++ [x4])))) aF) aF) aF) (aG (decide (Co=(ae adK))) (kx (wu ((oe,n5,Jl),(Y7,((aW,adK),Ar)))).1 (wu ((oe,n5,Jl),(Y7,((aW,adK),Ar)))).2) aF):=cK
theorem atJ(t inv branch keys secret)(k:K1 R):ajA (t,inv,branch,keys,secret) k=aj (eV.call t) λQN=>aG (!QN) (k (nU (.inl (((0:Int),()),(1:Int))))) (aG (fV inv (0:Int)) (k (nU (.inl (((0:Int),()),(1:Int))))) (aG (B8 inv (((ae t.1):Nat):Int)) (k (nU (.inl (((0:Int),()),(1:Int))))) (aj (Yq.call (branch,(([]:List Sg),(secret,())))) λaHX=>aG (!aHX) (k (nU (.inl (((0:Int),()),(1:Int))))) (aG (xS (((ae keys):Nat):Int) (12:Int)) (k (nU (.inl (((0:Int),()),(1:Int))))) (aj (tc.call keys) λTW=>aG (TW) (k (nU (.inl (((0:Int),()),(1:Int))))) (aj (tid.call t) λLK=>aj (H7 (inv,keys,(((ae keys):Nat):Int),(0:Int),t,((0:Int),()),branch,0,(secret,()),LK,([]:List Sg))) λFK=>aj (xy.call FK.1.2.1) λI4=>aG (ei FK.1.1 ((I4.1:Nat):Int)) (aG (decide ((0+(ab FK.1.1)) < (ae I4.2.2.2.1))) (aG (decide ((((0+(ab FK.1.1))*36)+33)=((0+((ab FK.1.1)*36))+33))) (aG (decide ((0+(ab FK.1.1)) < (ae I4.2.2.2.1))) (k (nU (.inr (I4.1,I4.2.1,I4.2.2.1,(0:Int),(eE I4.2.2.2.1 (0+(ab FK.1.1)) ((nth nR I4.2.2.2.1 (0+(ab FK.1.1))).1,(FK.2,(nth nR I4.2.2.2.1 (0+(ab FK.1.1))).2.2))),I4.2.2.2.2)))) aF) aF) aF) aF)))))):=cK
theorem afo:Oy:=by
 refine LF (λ(i0,l,n,i,t,e,br,L,sc,id,r)=>l.length - i.toNat) ?_
 rintro⟨i0,l,n,i,t,e,br,L,sc,id,r⟩ ⟨hlen,hu,hm,k,hk,rfl,rfl,rfl,hr⟩;have hlen:l.length<=1000:=hlen;have hk:k<=l.length:=hk;have hr:r.length<=1000+k:=hr;by_cases h:k < l.length
 ·left;have n1:nth tu l k=l[k]:=cC (t:=tu) h;have hd:aX k l=l[k]::aX (k+1) l:=aq h;refine⟨(i0,l,l.length,((k+1:Nat):Int),t,e,br,r.length+1,sc,id,r++ [pD l[k] id]),⟨hlen,hu,hm,k+1,ak,rfl,rfl,by rw[ai];rfl,by rw[ai];show r.length+1<=_;omega⟩,by simp only[aa];omega,?_,λkn kx=> ?_⟩
  ·simp only[mn,pJ,aa,hd,bS,aC,bQ]
  ·rw[H8,aU ak,bo ak ak,aa,n1,acb (d:=(l[k],id)) ⟨hu _ (ba h),hm⟩];simp only[ao,ah,bm,TR];rw[aI (az _),cV ak ak,N.ot ak,bt];rfl
 ·right;obtain rfl:k=l.length:=ak;intro R kn kx;rw[H8,aT ak,au,aI rfl,ao];simp only[mn,pJ,aa,aN,eX,bn]
theorem atK:atI:=by
 rintro⟨⟨is,os,nt,u⟩,i,br,ks,sc⟩ ⟨hv,hu,hl⟩;have hv:Ca (is,os,nt,u):=hv;have hl:ks.length<=1000000000:=hl;rw[atJ,jz (d:=(is,os,nt,u)) hv.1];simp only[ah,bm,mQ,zM,H5,Oa,uC];rcases dN (gS (is,os,nt,u)) with gT | gT;rotate_left
 ·simp only[gT];rfl
 obtain⟨⟨_,a2,a3,_⟩,b1,b2⟩:=jO gT;have a2:is.length<=64:=a2;simp only[gT,cd,au,bI];by_cases h1:i < 0
 ·rw[aU h1,ao,aJ ak];rfl
 rw[aT h1,au];by_cases h2:i>=(is.length:Int)
 ·rw[gf h2,ao,aJ ak];rfl
 rw[eH h2,au,Ys (d:=(br,([],(sc,())))) trivial];simp only[ah,bm,Yr,xA];by_cases h3:0<=br/\br < 4
 ·rw[aI h3];by_cases h4:ks.length > 12
  ·rw[dk ak,aJ (p:=0<=i/\i < (is.length:Int)/\0<=br/\br < 4/\ks.length<=12) ak];rfl
  ·rw[cJ ak,aI (p:=0<=i/\i < (is.length:Int)/\0<=br/\br < 4/\ks.length<=12) ak,JX (d:=ks) ⟨λ_ _=>trivial,hl⟩];simp only[ah,bm,Hy];rcases dN (ks.any w9) with hb | hb;rotate_left
   ·simp only[hb];obtain⟨k,rfl⟩:∃k:Nat,i=k:=⟨i.toNat,ak⟩;have hk:k < is.length:=ak;have n0:nth dM is k=is[k]:=cC (t:=dM) hk;have n1:nth nR (is.map (aoH aW)) k=aoH aW is[k]:=by
     have e:k < (is.map (aoH aW)).length:=by rw[bR];exact hk
     rw[cC (t:=nR) e,List.getElem_map]
    simp only[show(([]:List Sg).length<=12)=True from eq_true (aL _),bA,oq,cd,eP,au,bI,bN];rw[Es (d:=(is,os,nt,u)) hv];simp only[ah,bm,X0];rw[aam (d:=((k:Int),ks,ks.length,0,(is,os,nt,u),(0,()),br,0,(sc,()),OF (is,os,nt,u),[])) ⟨by show ks.length<=_;omega,hu,aft,0,aL _,rfl,rfl,rfl,aL _⟩];simp only[ah,mn,pJ,aS,aM,aO];rw[atm (d:=(is,os,nt,u)) gT];simp only[ah,bm,apg,aa,aH,bM,bo (show(0:Int)<=(k:Int) by omega) (show(k:Int) < (is.length:Int) by omega),ao,bR,aI hk,bA,n0,n1,List.map_set];rfl
   ·simp only[hb];rfl
 ·rw[aJ h3,aJ (p:=0<=i/\i < (is.length:Int)/\0<=br/\br < 4/\ks.length<=12) ak];rfl
def ajB:=Entry.aCY [aw eU,aw ti,aw ti,aw tU,aw tu] QG LG zM H5 nU
def Sw:H4->Option Yj:=aog ajB QG
theorem anT:nw Sw LG zM H5:=aFD (aCK [.d eU,.d ti,.d ti,.d tU,.d tu] λ_=>cK)
def atL:SG Tryz.prog:=⟨9,Tn,ajB,.of (.aKp (.fn 1 cK atK (And.intro (.fD afo cK) trivial))) (by rfl)⟩
theorem aiZ(k:Int)(m:List Int):ay2 (pD k m):=by
 unfold pD;split
 ·exact⟨(ape _).u,(an8 _ _).u⟩
 ·exact⟨⟨wx 0,gw⟩,wx 0,gw⟩
theorem agr:∀(l l':List fB) (b:List Int),l.map (·.1)=l'.map (·.1)->l.foldl Iw b=l'.foldl Iw b
 |[],[],_,_=>rfl
 |[],_::_,_,h=>by cases h
 |_::_,[],_,h=>by cases h
 |x::l,y::l',b,h=>by
  rw[bS,bS,bF]at h;have e:Iw b x=Iw b y:=by unfold Iw;rw[h.1]
  rw[cS,cS,e,agr l l' _ h.2]
theorem arq{l l':List fB}(t:List gb×Int×Unit)(h:l.map (·.1)=l'.map (·.1)):qJ (l,t)=qJ (l',t):=by
 have hl:l.length=l'.length:=by have:=c7 ae h;simpa using this
 unfold qJ;simp only[hl];rw[agr l l' _ h]
theorem agK:∀(l l':List fB) (m:List (tj×Bool)),l.map (·.1)=l'.map (·.1)->MC m l=aW->(∀x∈l',xA x.2.1=aW)->MC m l'=aW
 |[],[],_,_,_,_=>rfl
 |[],_::_,_,h,_,_=>by cases h
 |_::_,[],_,h,_,_=>by cases h
 |x::l,y::l',m,h,hi,hw=>by
  rw[bS,bS,bF]at h;rw[MC,al,al]at hi ⊢;have hx:=hi.1.2;unfold F7 at hx;rw[al]at hx;refine⟨⟨?_,?_⟩,?_⟩
  ·have:=hi.1.1;unfold Q4 at this ⊢;rw[<-h.1];exact this
  ·unfold F7;rw[<-h.1,hx.1,hw y bf];rfl
  ·rw[<-h.1];exact agK l l' _ h.2 hi.2 λz hz=>hw z (aV _ hz)
theorem ayG{l l':List fB}{t:List gb×Int×Unit}(h:l.map (·.1)=l'.map (·.1))(gT:gS (l,t)=aW)(hw:∀x∈l',xA x.2.1=aW):gS (l',t)=aW:=by
 have hl:l.length=l'.length:=by have:=c7 ae h;simpa using this
 unfold gS Yu at gT ⊢;rw[al,al]at gT ⊢;simp only[hl]at gT;exact⟨gT.1,agK l l' _ h gT.2.1 hw,gT.2.2⟩
theorem apj{l l':List fB}{t:List gb×Int×Unit}(h:l.map (·.1)=l'.map (·.1))(h1:gS (l,t)=aW)(h2:gS (l',t)=aW):OF (l',t)=OF (l,t):=by unfold OF;rw[h1,h2,arq t h]
theorem anx{l l':List fB}{t:List gb×Int×Unit}(h:l.map (·.1)=l'.map (·.1))(h1:gS (l,t)=aW)(h2:gS (l',t)=aW):jt (l',t)=jt (l,t):=by unfold jt;rw[h1,h2];exact h.symm
theorem awh{l l':List fB}{t:List gb×Int×Unit}(h:l.map (·.1)=l'.map (·.1))(h1:gS (l,t)=aW)(h2:gS (l',t)=aW):sW (l',t)=sW (l,t):=by unfold sW;rw[h1,h2,apj h h1 h2]
theorem awu{t:Ty}{l:List t.den}{k:Nat}{y:t.den}(h:k < l.length):nth t (l.set k y) k=y:=by simp[nth,h]
def I2(t:eT)(k:Nat)(w:FB):eT:=(t.1.set k ((nth dM t.1 k).1,w,()),t.2)
theorem N5(l:List fB)(k:Nat)(w:FB)(h:k < l.length):l.map (·.1)=(l.set k ((nth dM l k).1,w,())).map (·.1):=by
 have n1:nth dM l k=l[k]:=cC (t:=dM) h;rw[n1,List.map_set];have e:(l[k].1:tj)=(l.map (·.1))[k]'(by rw[bR];exact h):=by rw[List.getElem_map]
 show _=(l.map (·.1)).set k l[k].1;rw[e,fw]
theorem aiX{l:List fB}{k:Nat}{w:FB}{x:fB}(h:k < l.length)(hx:x∈l.set k ((nth dM l k).1,w,())):x∈l\/(x.1=l[k].1/\x.2.1=w):=by
 have n1:nth dM l k=l[k]:=cC (t:=dM) h;rw[n1]at hx;rcases List.mem_or_eq_of_mem_set hx with h1 | h1
 ·exact .inl h1
 ·exact .inr ⟨by rw[h1],by rw[h1]⟩
theorem N6{t:eT}{k:Nat}{w:FB}(h:k < t.1.length)(gT:gS t=aW)(hw:xA w=aW):gS (I2 t k w)=aW:=by
 obtain⟨_,b1,_⟩:=jO gT;refine ayG (l:=t.1) (N5 t.1 k w h) gT λx hx=> ?_
 rcases aiX h hx with h1 | h1
 ·have:=iD _ _ b1 x h1;unfold F7 at this;rw[al]at this;exact this.2
 ·rw[h1.2];exact hw
theorem aDj{t:eT}{k:Nat}{w:FB}(h:k < t.1.length)(hv:Ca t)(hu:OU w)(hl:w.2.1.length<=9223372036854775807):Ca (I2 t k w):=by
 refine⟨⟨hv.1.1,by show(t.1.set k _).length<=_;rw[ed];exact hv.1.2.1,hv.1.2.2⟩,λx hx=> ?_,hv.2.2⟩;rcases aiX h hx with h1 | h1
 ·exact hv.2.1 x h1
 ·refine⟨?_,by rw[h1.2];exact hu,by rw[h1.2];exact hl⟩;rw[h1.1];exact(hv.2.1 _ (ba h)).1
theorem aAZ{t:eT}{k:Nat}{w:FB}(h:k < t.1.length)(gT:gS t=aW)(hw:xA w=aW):OF (I2 t k w)=OF t/\jt (I2 t k w)=jt t/\sW (I2 t k w)=sW t:=⟨apj (l:=t.1) (N5 t.1 k w h) gT (N6 h gT hw),anx (l:=t.1) (N5 t.1 k w h) gT (N6 h gT hw),awh (l:=t.1) (N5 t.1 k w h) gT (N6 h gT hw)⟩
theorem aAY{t:eT}{k:Nat}{w:FB}(h:k < t.1.length):nth dM (I2 t k w).1 k=((nth dM t.1 k).1,w,()):=awu (t:=dM) h
theorem aiW(t:eT)(k:Nat)(w:FB):(I2 t k w).1.length=t.1.length:=ed
def El(t:eT)(br:Int)(ks:List Int)(sc:Int):FB:=(br,ks.map (λk=>pD k (OF t)),sc,())
theorem CW(t:eT)(i br:Int)(ks:List Int)(sc:Int):Oa t i br ks sc=if uC t i br ks then(I2 t i.toNat (El t br ks sc),0) else(([],[],0,()),1):=rfl
theorem Xy{t:eT}{i br:Int}{ks:List Int}(h:uC t i br ks=aW):gS t=aW/\(0<=i/\i < t.1.length/\0<=br/\br < 4/\ks.length<=12)/\∀k∈ks,k < 2305843009213688669/\k≠0:=by unfold uC at h;simp only[al,bh,cD]at h;refine⟨h.1,h.2.1,λk hk=> ?_⟩;have:=h.2.2;rw[oK]at this;have:=this k hk;unfold w9 at this;simpa using this
theorem apd{t:eT}{i br:Int}{ks:List Int}(sc:Int)(h:uC t i br ks=aW):xA (El t br ks sc)=aW:=by have e:=(Xy h).2.1;unfold xA El;rw[aI ⟨e.2.2.1,e.2.2.2.1⟩,aI (by rw[bR];exact e.2.2.2.2)];rfl
theorem aDn(t:eT)(br:Int)(ks:List Int){sc:Int}(h:iN sc):OU (El t br ks sc):=⟨λs hs=>by
  obtain⟨k,_,rfl⟩:=fm.1 (show s∈ks.map λk=>pD k (OF t) from hs);exact aiZ k _,h⟩
theorem ax6{t:eT}{i br sc:Int}{ks:List Int}(hv:Ca t)(h:uC t i br ks=aW)(hs:iN sc):
  gS (I2 t i.toNat (El t br ks sc))=aW/\Ca (I2 t i.toNat (El t br ks sc))/\OF (I2 t i.toNat (El t br ks sc))=OF t/\jt (I2 t i.toNat (El t br ks sc))=jt t/\sW (I2 t i.toNat (El t br ks sc))=sW t:=by
 obtain⟨gT,e,_⟩:=Xy h;have hk:i.toNat < t.1.length:=ak;have hw:=apd sc h;exact⟨N6 hk gT hw,aDj hk hv (aDn t br ks hs) (by show(ks.map _).length<=_;rw[bR];omega),aAZ hk gT hw⟩
abbrev Cb:=Bs×Bs×Int×Int
def sj:Cb->AS:=λ(zC,kI,t12,t13)=>⟨([.d tB zC,.d tB kI]++a9 10 ([.d ti t12,.d ti t13]++a9 12 [])),[],(ag 26 [])⟩
def sP:Unit->Exit×AS:=λx=>(.ret,⟨(a9 4 ([.d .bool aQ]++a9 21 [])),[],(ag 26 [])⟩)
def Aa:Unit->Exit×AS:=λx=>(.exit 0,⟨(a9 26 []),[],(ag 26 [])⟩)
abbrev OY:=(Unit)⊕(Unit)
abbrev aaD:=(Unit)⊕(Unit)
def FR:OY->Out (Exit×AS):=λx=> .br x.isLeft (.get x.getLeft? λa=> .ok (sP a)) (.get x.getRight? λb=> .ok (Aa b))
def mU:Cb->aaD->OY:=λ(zC,kI,t12,t13) y=>match y with | .inl y=> .inl y | .inr z=> .inr (z)
def z9:Cb->Prop:=λ(a,b,m,i)=>a.length<=1000000000/\a.length=b.length/\m=a.length/\∃k:Nat,k<=a.length/\i=k
def sO:Cb->aaD:=λ(a,b,m,i)=>if a.drop i.toNat=b.drop i.toNat then .inr () else .inl ()
def aug:(Bs×Bs)->Prop:=λ(a,b)=>a.length<=1000000000
def aj9:(Bs×Bs)->Bool:=λ(a,b)=>decide (a=b)
def aaC:=eu.fD sj z9 mU sO FR
def LW:Cb->Option OY:=jq aaC sj
def OW:Fs Tryz.prog aug bm aj9:=fg 83 Tryz.f83 (λ(s1,s2)=>([.d tB s1,.d tB s2],[])) (λx=>⟨.d .bool x,[],[]⟩) [aw tB,aw tB] [] {loops:=oN [(4,{aY:=[0,1,12,13]})],outs:=oM [(4,{},{aY:=[4]})],fE:=pX [(4,aaC)]}
def OX:= @fO Tryz.prog (oc OW.G) OW.an 0 Tryz.f83 0 _ sj
abbrev T7:=oT Tryz.prog (oc OW.G) OW.an 0 Tryz.f83 0 sj z9 mU sO FR
theorem afT:nw LW z9 mU sO:=qL (qF [.d tB,.d tB,.d ti,.d ti] λ_=>cK)
theorem OZ:qN @OX sj z9 mU sO FR T7:=sk
theorem LX(zC kI t12 t13)(kn:K2 R)(kx:K3 R):OX (zC,kI,t12,t13) kn kx=aG (fV t13 t12) (aG (ei t13 (((ae zC):Nat):Int)) (aG (ei t13 (((ae kI):Nat):Int)) (aG (Ak (nth tb zC (ab t13)) (nth tb kI (ab t13))) (kx (sP ()).1 (sP ()).2) (kn (sj (zC,kI,t12,(bB .i64 t13 (1:Int)))))) aF) aF) (kx (Aa ()).1 (Aa ()).2):=cK
theorem ay4(s1 s2)(k:K1 R):OW.A (s1,s2) k=aG (Ak (s1.length:Int) (s2.length:Int)) (k (OW.out aQ)) (aj (LW (s1,s2,(s1.length:Int),0)) λx1=>aG x1.isLeft (aj x1.getLeft? λa2=>k (OW.out aQ)) (aj x1.getRight? λb3=>k (OW.out aW))):=cK
theorem aka:T7:=by
 refine OZ (λ(a,b,m,i)=>a.length - i.toNat) ?_
 rintro⟨a,b,m,i⟩ ⟨hl,qz,rfl,k,hk,rfl⟩;have hl:a.length<=1000000000:=hl;have qz:a.length=b.length:=qz;have hk:k<=a.length:=hk;by_cases h:k < a.length
 ·have h2:k < b.length:=ak;have n1:nth (.int .u8) a k=a[k]:=cC (t:=(.int .u8)) h;have n2:nth (.int .u8) b k=b[k]:=cC (t:=(.int .u8)) h2;have hd:(a.drop k=b.drop k)=(a[k]=b[k]/\a.drop (k+1)=b.drop (k+1)):=by rw[aq h,aq h2,bF]
  have step:∀ {R:Type} (kn:AS->Option R) (kx:Exit->AS->Option R),OX (a,b,(a.length:Int),(k:Int)) kn kx=if a[k]=b[k] then kn (sj (a,b,(a.length:Int),((k+1:Nat):Int))) else kx (sP ()).1 (sP ()).2:=by
   intro R kn kx;rw[LX,aU ak,bo ak ak,bo ak ak,aa,n1,n2,N.ot ak];simp only[ao];by_cases hx:a[k]=b[k]
   ·rw[cZ hx,if_pos hx];rfl
   ·rw[eR hx,if_neg hx];rfl
  by_cases hx:a[k]=b[k]
  ·left;refine⟨(a,b,(a.length:Int),((k+1:Nat):Int)),⟨hl,qz,rfl,k+1,ak,rfl⟩,by simp only[aa];omega,?_,λkn kx=> ?_⟩
   ·simp only[mU,sO,aa,hd,hx,hJ]
   ·rw[step,if_pos hx]
  ·right;refine⟨sP (),?_,λkn kx=> ?_⟩
   ·simp only[mU,sO,aa,hd,hx,mG,bz];rfl
   ·rw[step,if_neg hx]
 ·right;obtain rfl:k=a.length:=ak;refine⟨Aa (),?_,λkn kx=> ?_⟩
  ·simp only[mU,sO,aa,aN];rw[qz,aN,if_pos rfl];rfl
  ·rw[LX,aT ak,au]
theorem ay5:OW.Ok:=by
 rintro⟨a,b⟩ hl;have hl:a.length<=1000000000:=hl;rw[ay4];simp only[bm,aj9];by_cases h:a.length=b.length
 ·rw[cZ ak,au,afT (d:=(a,b,(a.length:Int),0)) ⟨hl,h,rfl,0,aL _,rfl⟩];simp only[ah,mU,sO,aS,aM];by_cases hx:a=b
  ·rw[if_pos hx,aI hx];rfl
  ·rw[if_neg hx,aJ hx];rfl
 ·rw[eR ak,aJ (λx=>h (by rw[x]))];rfl
theorem auh:OW.RS:=rE [.d tB,.d tB] OW
def ay6:=OW.fh ay5 1 ⟨.fD aka,trivial⟩
abbrev Gv:=Bs×Bs×Int×Int
def vl:Gv->AS:=λ(zC,kI,t12,t13)=>⟨([.d tU zC,.d tU kI]++a9 10 ([.d ti t12,.d ti t13]++a9 12 [])),[],(ag 26 [])⟩
def vk:Unit->Exit×AS:=λx=>(.ret,⟨(a9 4 ([.d .bool aQ]++a9 21 [])),[],(ag 26 [])⟩)
def DL:Unit->Exit×AS:=λx=>(.exit 0,⟨(a9 26 []),[],(ag 26 [])⟩)
abbrev VN:=(Unit)⊕(Unit)
abbrev ahD:=(Unit)⊕(Unit)
def KX:VN->Out (Exit×AS):=λx=> .br x.isLeft (.get x.getLeft? λa=> .ok (vk a)) (.get x.getRight? λb=> .ok (DL b))
def pq:Gv->ahD->VN:=λ(zC,kI,t12,t13) y=>match y with | .inl y=> .inl y | .inr z=> .inr (z)
def DK:Gv->Prop:=λ(a,b,m,i)=>a.length<=1000000000/\a.length=b.length/\m=a.length/\∃k:Nat,k<=a.length/\i=k
def wM:Gv->ahD:=λ(a,b,m,i)=>if a.drop i.toNat=b.drop i.toNat then .inr () else .inl ()
def aAx:(Bs×Bs)->Prop:=λ(a,b)=>a.length<=1000000000
def awM:(Bs×Bs)->Bool:=λ(a,b)=>decide (a=b)
def ahC:=eu.fD vl DK pq wM KX
def RF:Gv->Option VN:=jq ahC vl
def arj:Fs Tryz.prog aAx bm awM:=fg 71 Tryz.f71 (λ(s1,s2)=>([.d tU s1,.d tU s2],[])) (λx=>⟨.d .bool x,[],[]⟩) [aw tU,aw tU] [] {loops:=oN [(4,{aY:=[0,1,12,13]})],outs:=oM [(4,{},{aY:=[4]})],fE:=pX [(4,ahC)]}
def VM:= @fO Tryz.prog (oc arj.G) arj.an 0 Tryz.f71 0 _ vl
abbrev abw:=oT Tryz.prog (oc arj.G) arj.an 0 Tryz.f71 0 vl DK pq wM KX
theorem alA:nw RF DK pq wM:=qL (qF [.d tU,.d tU,.d ti,.d ti] λ_=>cK)
theorem SL:qN @VM vl DK pq wM KX abw:=sk
theorem RG(zC kI t12 t13)(kn:K2 R)(kx:K3 R):VM (zC,kI,t12,t13) kn kx=aG (fV t13 t12) (aG (ei t13 (((ae zC):Nat):Int)) (aG (ei t13 (((ae kI):Nat):Int)) (aG (Ak (nth tu zC (ab t13)) (nth tu kI (ab t13))) (kx (vk ()).1 (vk ()).2) (kn (vl (zC,kI,t12,(bB .i64 t13 (1:Int)))))) aF) aF) (kx (DL ()).1 (DL ()).2):=cK
theorem aC9(s1 s2)(k:K1 R):arj.A (s1,s2) k=aG (Ak (s1.length:Int) (s2.length:Int)) (k (arj.out aQ)) (aj (RF (s1,s2,(s1.length:Int),0)) λx1=>aG x1.isLeft (aj x1.getLeft? λa2=>k (arj.out aQ)) (aj x1.getRight? λb3=>k (arj.out aW))):=cK
theorem ark:abw:=by
 refine SL (λ(a,b,m,i)=>a.length - i.toNat) ?_
 rintro⟨a,b,m,i⟩ ⟨hl,qz,rfl,k,hk,rfl⟩;have hl:a.length<=1000000000:=hl;have qz:a.length=b.length:=qz;have hk:k<=a.length:=hk;by_cases h:k < a.length
 ·have h2:k < b.length:=ak;have n1:nth (.int .u64) a k=a[k]:=cC (t:=(.int .u64)) h;have n2:nth (.int .u64) b k=b[k]:=cC (t:=(.int .u64)) h2;have hd:(a.drop k=b.drop k)=(a[k]=b[k]/\a.drop (k+1)=b.drop (k+1)):=by rw[aq h,aq h2,bF]
  have step:∀ {R:Type} (kn:AS->Option R) (kx:Exit->AS->Option R),VM (a,b,(a.length:Int),(k:Int)) kn kx=if a[k]=b[k] then kn (vl (a,b,(a.length:Int),((k+1:Nat):Int))) else kx (vk ()).1 (vk ()).2:=by
   intro R kn kx;rw[RG,aU ak,bo ak ak,bo ak ak,aa,n1,n2,N.ot ak];simp only[ao];by_cases hx:a[k]=b[k]
   ·rw[cZ hx,if_pos hx];rfl
   ·rw[eR hx,if_neg hx];rfl
  by_cases hx:a[k]=b[k]
  ·left;refine⟨(a,b,(a.length:Int),((k+1:Nat):Int)),⟨hl,qz,rfl,k+1,ak,rfl⟩,by simp only[aa];omega,?_,λkn kx=> ?_⟩
   ·simp only[pq,wM,aa,hd,hx,hJ]
   ·rw[step,if_pos hx]
  ·right;refine⟨vk (),?_,λkn kx=> ?_⟩
   ·simp only[pq,wM,aa,hd,hx,mG,bz];rfl
   ·rw[step,if_neg hx]
 ·right;obtain rfl:k=a.length:=ak;refine⟨DL (),?_,λkn kx=> ?_⟩
  ·simp only[pq,wM,aa,aN];rw[qz,aN,if_pos rfl];rfl
  ·rw[RG,aT ak,au]
theorem aDa:arj.Ok:=by
 rintro⟨a,b⟩ hl;have hl:a.length<=1000000000:=hl;rw[aC9];simp only[bm,awM];by_cases h:a.length=b.length
 ·rw[cZ ak,au,alA (d:=(a,b,(a.length:Int),0)) ⟨hl,h,rfl,0,aL _,rfl⟩];simp only[ah,pq,wM,aS,aM];by_cases hx:a=b
  ·rw[if_pos hx,aI hx];rfl
  ·rw[if_neg hx,aJ hx];rfl
 ·rw[eR ak,aJ (λx=>h (by rw[x]))];rfl
theorem aAy:arj.RS:=rE [.d tU,.d tU] arj
def aDb:=arj.fh aDa 1 ⟨.fD ark,trivial⟩
end Go.Ab
end
