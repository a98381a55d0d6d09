/-
  Made short by a program of mine (wip/tools/mini.py).
-/
import Derived.Test.YtijaodmgbbcbmaaGreatS33x3
import Derived.Test.YtijaodmgbbcbmaaGreatProg
set_option linter.unusedVariables false
set_option linter.unusedSimpArgs false
set_option maxRecDepth 100000
set_option synthInstance.maxSize 5000
open List renaming replicate->ai,set->gF,length->ae,take->aM,drop->bD
open BitVec renaming ofInt->bA
open Int renaming toNat_natCast->aa,toNat->ab,toNat_zero->aT
open Or renaming inr->eI,inl->jg
open Option renaming some->av,none->aH
open Bool renaming true->bm,false->aZ
noncomputable section
variable {R:Type}
namespace Go.Ab
open Go.Proofs
def acd:Bs->Prop:=λb=>4<=b.length
def aqx:Bs->Int:=λb=>vw (aWL (b.getD 0 0) (b.getD 1 0) (b.getD 2 0) (b.getD 3 0))
def binary:Fs Tryz.prog acd bq aqx:=eV 269 Tryz.f269 (λb=>([.d tB b],[])) (λx=>⟨.d (.int .u32) x,[],[]⟩) [av tB]
theorem aCQ(b)(k:K1 R):binary.A b k=aJ (eA 0 (b.length:Int)) (aJ (eA 1 (b.length:Int)) (aJ (eA 2 (b.length:Int)) (aJ (eA 3 (b.length:Int)) (k (binary.out (cX .or .u32 (cX .or .u32 (cX .or .u32 (oq .u32 (dR .u32 (nth tb b 0)) 24) (oq .u32 (dR .u32 (nth tb b 1)) 16)) (oq .u32 (dR .u32 (nth tb b 2)) 8)) (dR .u32 (nth tb b 3))))) aH) aH) aH) aH:=cd
theorem aCR:binary.Ok:=by intro b h;have h:4<=b.length:=h;rw[aCQ,ba aq aq,ba aq aq,ba aq aq,ba aq aq];simp only[aj,aBc,TP,si];rfl
theorem av5:binary.RS:=rE [.d tB] binary
def aCS:=binary.eY aCR
def rl(w:W)(k:Nat):W:=w <<< k ||| w >>> (32 - k)
def agv:(Int×Int)->Prop:=λ(x,k)=>0<=x/\x < 4294967296
def aNH:(Int×Int)->Int:=λ(x,k)=>vw (rl (bA 32 x) (k%32).toNat)
def rJ:Fs Tryz.prog agv bq aNH:=eV 245 Tryz.f245 (λ(x,kv)=>([.d (.int .u32) x,.d ti kv],[])) (λx=>⟨.d (.int .u32) x,[],[]⟩) [av (.int .u32),av ti]
theorem aGN(x kv)(k:K1 R):rJ.A (x,kv) k=aJ (ou (cX .and .u64 (dR .u64 kv) 31)) (aJ (ou (df .u64 32 (cX .and .u64 (dR .u64 kv) 31))) (k (rJ.out (cX .or .u32 (oq .u32 x (cX .and .u64 (dR .u64 kv) 31)) (cF .u32 x (df .u64 32 (cX .and .u64 (dR .u64 kv) 31)))))) aH) aH:=cd
theorem aWI(k:Int):cX .and .u64 (dR .u64 k) 31=k%32:=by have e:(31:Int)=vw (31:BitVec 64):=rfl;rw[TL,e,aCT];simp only;have:(31:BitVec 64)=BitVec.ofNat 64 (2^5 - 1):=rfl;unfold vw;rw[BitVec.toNat_and,uX,show(31:BitVec 64).toNat=2^5 - 1 from rfl,Nat.and_two_pow_sub_one_eq_mod];omega
theorem aGO:rJ.Ok:=by
 rintro⟨x,k⟩ ⟨h1,h2⟩;have e1:df .u64 32 (k%32)=32 - k%32:=by unfold df;rw[wrap_u64,iH];omega
 have hx:x=vw (bA 32 x):=by rw[iH];omega
 rw[aGN,aWI,e1,v7 aq,v7 aq];simp only[aj];have e2:cX .or .u32 (oq .u32 x (k%32)) (cF .u32 x (32 - k%32))=vw (rl (bA 32 x) (k%32).toNat):=by
  conv=>lhs;rw[hx]
  rw[TP,Lv,si];simp only[rl];congr 3;omega
 rw[e2];rfl
theorem azr:rJ.RS:=rE [.d (.int .u32),.d ti] rJ
def alD:=rJ.eY aGO
theorem alC(w:W)(k:Int):rJ.call (vw w,k)=av (vw (rl w (k%32).toNat)):=by have h:agv (vw w,k):=⟨Ye w,by have:=aON w;simpa using this⟩;rw[azr h];show av (vw (rl (bA 32 (vw w)) (k%32).toNat))=_;rw[xg]
def aHh:Unit->Prop:=λ_=>True
def aCk:Unit->(List Int):=λ_=>WX
def table:Fs Tryz.prog aHh bq aCk:=eV 244 Tryz.f244 (λ_=>([],[])) (λx=>⟨.d (.arr 64 (.int .u32)) x,[],[]⟩) []
theorem aOi(d)(k:K1 R):table.A d k=k (table.out [1116352408,1899447441,3049323471,3921009573,961987163,1508970993,2453635748,2870763221,3624381080,310598401,607225278,1426881987,1925078388,2162078206,2614888103,3248222580,3835390401,4022224774,264347078,604807628,770255983,1249150122,1555081692,1996064986,2554220882,2821834349,2952996808,3210313671,3336571891,3584528711,113926993,338241895,666307205,773529912,1294757372,1396182291,1695183700,1986661051,2177026350,2456956037,2730485921,2820302411,3259730800,3345764771,3516065817,3600352804,4094571909,275423344,430227734,506948616,659060556,883997877,958139571,1322822218,1537002063,1747873779,1955562222,2024104815,2227730452,2361852424,2428436474,2756734187,3204031479,3329325298]):=cd
theorem aOj:table.Ok:=by intro d _;rw[aOi];rfl
theorem aHi:table.RS:=rE [] table
def aOk:=table.eY aOj
def aDY:Unit->Prop:=λ_=>True
def aA2:Unit->(List Int):=λ_=>vf.l
def first:Fs Tryz.prog aDY bq aA2:=eV 192 Tryz.f192 (λ_=>([],[])) (λx=>⟨.d (.arr 8 (.int .u32)) x,[],[]⟩) []
theorem aJY(d)(k:K1 R):first.A d k=k (first.out [1779033703,3144134277,1013904242,2773480762,1359893119,2600822924,528734635,1541459225]):=cd
theorem aJ0:first.Ok:=by intro d _;rw[aJY];rfl
theorem aDZ:first.RS:=rE [] first
def aJ1:=first.eY aJ0
abbrev P8:=Bs×Int×(List Int)
def wl(l:List W):List Int:=l.map vw
def KL(l:List W):List Int:=wl l++ai (64 - l.length) 0
def JU(b:List Int)(k:Nat):List W:=if k<=16 then(words b).take k else aO7 (words b) (k - 16)
def Kh:P8->Prop:=λ(b,t8,n2)=>64<=b.length/\∃k:Nat,k<=64/\t8=k/\n2=KL (JU b k)
def G3:P8->(List Int):=λ(b,t8,n2)=>wl (sched b)
def VD:Bs->Prop:=λb=>64<=b.length
def RX:Bs->(List Int):=λb=>wl (sched b)
def kW:Ls Kh bq G3:=pD (λ(eU,t8,n2)=>⟨([.d tB eU,bE,eP 2]++aW 5 ([.d ti t8]++aW 52 [])),[],([[],[],dm (.d (.arr 64 (.int .u32)) n2)]++bw 58 [])⟩) (λx=>(.exit 0,⟨([bE,bE,eP 2]++aW 58 []),[],([[],[],dm (.d (.arr 64 (.int .u32)) x)]++bw 58 [])⟩))
def schedule:Fs Tryz.prog VD bq RX:=eV 243 Tryz.f243 (λb=>([.d tB b],[])) (λx=>⟨.d (.arr 64 (.int .u32)) x,[],[]⟩) [av tB] [aCS,alD] {loops:=lz [(2,{bg:=[0,2,8],sites:=[2]})],outs:=lu [(2,{bg:=[2],sites:=[2]},{bg:=[2]})],fa:=mc [(2,kW.E)]}
theorem abn:kW.RS:=rL [.d tB,.d ti,.d (.slice (.int .u32))] kW
theorem Ii(eU t8 n2)(kn:K2 R)(kx:K3 R):schedule.R 0 kW (eU,t8,n2) kn kx=aJ (fv t8 64) (aJ (fv t8 16) (aJ (inc (fO .i64 4 t8) (eU.length:Int)) (ao (binary.call (cut eU (ab (fO .i64 4 t8)) ((ae eU) - (ab (fO .i64 4 t8))))) λx1=>aJ (eA t8 64) (aJ (decide ((ab t8) < (ae n2))) (aJ (decide ((((ab t8)*1)+0)=(0+((ab t8)*1)))) (aJ (decide ((ab t8) < (ae n2))) (kn (kW.st (eU,(bz .i64 t8 1),(gF n2 (ab t8) x1)))) aH) aH) aH) aH) aH) (aJ (eA (df .i64 t8 15) 64) (aJ (decide ((ab (df .i64 t8 15)) < (ae n2))) (aJ (decide ((((ab (df .i64 t8 15))*1)+0)=(0+((ab (df .i64 t8 15))*1)))) (aJ (eA (df .i64 t8 2) 64) (aJ (decide ((ab (df .i64 t8 2)) < (ae n2))) (aJ (decide ((((ab (df .i64 t8 2))*1)+0)=(0+((ab (df .i64 t8 2))*1)))) (ao (rJ.call ((nth (.int .u32) n2 (ab (df .i64 t8 15))),(-7))) λx2=>ao (rJ.call ((nth (.int .u32) n2 (ab (df .i64 t8 15))),(-18))) λx3=>ao (rJ.call ((nth (.int .u32) n2 (ab (df .i64 t8 2))),(-17))) λx4=>ao (rJ.call ((nth (.int .u32) n2 (ab (df .i64 t8 2))),(-19))) λx5=>aJ (eA (df .i64 t8 16) 64) (aJ (decide ((ab (df .i64 t8 16)) < (ae n2))) (aJ (decide ((((ab (df .i64 t8 16))*1)+0)=(0+((ab (df .i64 t8 16))*1)))) (aJ (eA (df .i64 t8 7) 64) (aJ (decide ((ab (df .i64 t8 7)) < (ae n2))) (aJ (decide ((((ab (df .i64 t8 7))*1)+0)=(0+((ab (df .i64 t8 7))*1)))) (aJ (eA t8 64) (aJ (decide ((ab t8) < (ae n2))) (aJ (decide ((((ab t8)*1)+0)=(0+((ab t8)*1)))) (aJ (decide ((ab t8) < (ae n2))) (kn (kW.st (eU,(bz .i64 t8 1),(gF n2 (ab t8) (bz .u32 (bz .u32 (bz .u32 (nth (.int .u32) n2 (ab (df .i64 t8 16))) (cX .xor .u32 (cX .xor .u32 x2 x3) (cF .u32 (nth (.int .u32) n2 (ab (df .i64 t8 15))) 3))) (nth (.int .u32) n2 (ab (df .i64 t8 7)))) (cX .xor .u32 (cX .xor .u32 x4 x5) (cF .u32 (nth (.int .u32) n2 (ab (df .i64 t8 2))) 10))))))) aH) aH) aH) aH) aH) aH) aH) aH) aH) aH) aH) aH) aH) aH) aH) aH)) (kW.go kx n2):=cd
theorem auT(b)(k:K1 R):schedule.A b k=ao (kW.call (b,0,(ai 64 0))) λx6=>k (schedule.out x6):=cd
theorem avz(b:List Int)(k:Nat)(h:k<=64):(JU b k).length=k:=by
 unfold JU;split
 ·simp[fL];omega
 ·rw[EA,fL];omega
theorem aSQ(b:List Int):JU b 64=sched b:=rfl
theorem aHF(b:List Int)(k:Nat)(h:k < 16):JU b (k+1)=JU b k++ [be b k]:=by unfold JU;rw[if_pos aq,if_pos aq,iN (by rw[fL];exact h)];simp[words]
theorem aOQ(b:List Int)(k:Nat)(h:16<=k):JU b (k+1)=ext (JU b k):=by
 unfold JU;rw[if_neg aq];by_cases aZj:k=16
 ·subst aZj;rw[if_pos aq,bu (by rw[fL];omega)];rfl
 ·rw[if_neg aq,show k+1 - 16=(k - 16)+1 by omega];rfl
theorem ame(l:List W)(h:l.length<=64):(KL l).length=64:=by simp[KL,wl];omega
theorem NT(l:List W)(i:Nat)(h:i < l.length):nth (.int .u32) (KL l) i=vw (l.getD i 0):=by unfold nth KL wl;rw[bh,fV (by simpa using h)];simp[h]
theorem ajx(l:List W)(w:W)(h:l.length < 64):(KL l).set l.length (vw w)=KL (l++ [w]):=by unfold KL wl;rw[List.set_append_right _ _ (by simp)];simp only[da,Nat.sub_self,ui,ak,aF,bp];rw[show 64 - l.length=(64 - (l.length+(0+1)))+1 by omega,tn,List.set_cons_zero];simp
theorem avV(l:List W)(h:l.length=64):KL l=wl l:=by simp[KL,h]
theorem aT3(b:List Int)(k:Nat)(h:4*k+4<=b.length):aWL ((cut b (4*k) (b.length - 4*k)).getD 0 0) ((cut b (4*k) (b.length - 4*k)).getD 1 0) ((cut b (4*k) (b.length - 4*k)).getD 2 0) ((cut b (4*k) (b.length - 4*k)).getD 3 0)=be b k:=by
 have e:∀j,j < 4->(cut b (4*k) (b.length - 4*k)).getD j 0=b.getD (4*k+j) 0:=λj hj=>by unfold cut;rw[bh,bh,List.getElem?_take_of_lt aq,fW]
 unfold be;rw[e 0 aq,e 1 aq,e 2 aq,e 3 aq,cD]
theorem agK:(schedule.jx 0 kW):=by
 refine(schedule.mf 0 kW) (λ(b,t8,n2)=>64 - t8.toNat) ?_
 rintro⟨b,t8,n2⟩ ⟨hb,k,hk,rfl,rfl⟩;have aWr:=avz b k hk;have aKf:=ame (JU b k) aq;by_cases h:k < 64
 ·left;refine⟨(b,((k+1:Nat):Int),KL (JU b (k+1))),⟨hb,k+1,aq,rfl,rfl⟩,by simp;omega,rfl,λkn kx=> ?_⟩;have e1:bz .i64 (k:Int) 1=((k+1:Nat):Int):=by rw[fA aq aq];omega
  have e2:ab (k:Int)=k:=aq;rw[Ii,aS aq];simp only[aj,e1,e2,aKf,jJ,aV,cD,b8];by_cases aZj:k < 16
  ·have e3:fO .i64 4 (k:Int)=((4*k:Nat):Int):=by rw[Ah aq aq];omega
   have e4:ab ((4*k:Nat):Int)=4*k:=aq;rw[aS aq,e3,oo aq aq,e4,ba aq aq,aX h];have hp:acd (cut b (4*k) (b.length - 4*k)):=by show 4<=_;rw[IG aq];omega
   simp only[aj,av5 hp,ag];have e5:bq (cut b (4*k) (b.length - 4*k)) (aqx (cut b (4*k) (b.length - 4*k)))=vw (be b k):=by show vw (aWL _ _ _ _)=_;rw[aT3 b k aq]
   have e6:=ajx (JU b k) (be b k) aq;rw[aWr]at e6;rw[e5,e6,aHF b k aZj]
  ·have a15:ab (df .i64 (k:Int) 15)=k - 15:=by rw[fI aq aq];omega
   have a2:ab (df .i64 (k:Int) 2)=k - 2:=by rw[fI aq aq];omega
   have a16:ab (df .i64 (k:Int) 16)=k - 16:=by rw[fI aq aq];omega
   have a7:ab (df .i64 (k:Int) 7)=k - 7:=by rw[fI aq aq];omega
   have i15:eA (df .i64 (k:Int) 15) 64=bm:=ba (by rw[fI aq aq];omega) (by rw[fI aq aq];omega);have i2:eA (df .i64 (k:Int) 2) 64=bm:=ba (by rw[fI aq aq];omega) (by rw[fI aq aq];omega);have i16:eA (df .i64 (k:Int) 16) 64=bm:=ba (by rw[fI aq aq];omega) (by rw[fI aq aq];omega);have i7:eA (df .i64 (k:Int) 7) 64=bm:=ba (by rw[fI aq aq];omega) (by rw[fI aq aq];omega);have i0:eA (k:Int) 64=bm:=ba aq aq;have d15:decide (k - 15 < 64)=bm:=aX aq;have d2:decide (k - 2 < 64)=bm:=aX aq;have d16:decide (k - 16 < 64)=bm:=aX aq;have d7:decide (k - 7 < 64)=bm:=aX aq;have d0:decide (k < 64)=bm:=aX h;rw[aQ aq];simp only[aj,al,a15,a2,a16,a7,i15,i2,i16,i7,i0,d15,d2,d16,d7,d0,NT (JU b k) (k - 15) aq,NT (JU b k) (k - 2) aq,NT (JU b k) (k - 16) aq,NT (JU b k) (k - 7) aq,alC,ag,si,Lv,Hv];have e6:=ajx (JU b k) (aTE (JU b k) k) aq;rw[aWr]at e6;rw[aOQ b k aq,ext,aWr,<-e6];rfl
 ·right;obtain rfl:k=64:=aq;intro R kn kx;rw[Ii,aQ aq,avV _ aWr,aSQ];simp only[al,bq,G3]
theorem auU:schedule.Ok:=by intro b hb;have hp:Kh (b,0,ai 64 0):=⟨hb,0,aq,rfl,rfl⟩;rw[auT,abn hp];simp only[ag,bq,G3,bq,RX]
theorem apk:schedule.RS:=rE [.d tB] schedule
def auV:=schedule.eY auU 1 ⟨.e7 agK,trivial⟩
abbrev adQ:=(List Int)×Int×(List Int)×(List Int)×(List Int)×(List Int)
def Rk:adQ->(List Int)->(((List Int)×(List Int))×((List Int))):=λ(Hd,t18,n4,n5,n6,n7) y=>((Hd,n4),y)
abbrev adT:=(List Int)×Int×(List Int)×(List Int)
def I3:adT->(List Int)->(((List Int))×((List Int))):=λ(aA7,t104,DP,aib) y=>(DP,y)
def apD(l:List Int):St:=⟨bA 32 (l.getD 0 0),bA 32 (l.getD 1 0),bA 32 (l.getD 2 0),bA 32 (l.getD 3 0),bA 32 (l.getD 4 0),bA 32 (l.getD 5 0),bA 32 (l.getD 6 0),bA 32 (l.getD 7 0)⟩
theorem qq(s:St):apD s.l=s:=by obtain⟨a,b,c,d,e,f,g,h⟩:=s;simp[apD,St.l,xg]
def aOL(l:List Int):List W:=l.map (bA 32)
theorem JT(l:List W):aOL (wl l)=l:=by
 unfold aOL wl;rw[wG];have:(bA 32∘vw)=(id:W->W):=by funext w;exact xg w
 rw[this,List.map_id]
def adS:adQ->Prop:=λ(h,t,n4,n5,n6,n7)=>∃(s:St) (ws:List W) (k:Nat),h=s.l/\n5=wl ws/\ws.length=64/\k<=64/\t=k/\n6=WX/\n7=(rounds ws s k).l
def adR:adQ->(List Int):=λ(h,t,n4,n5,n6,n7)=>(rounds (aOL n5) (apD h) 64).l
def adU:adT->Prop:=λ(h,t,n4,n7)=>n7.length=8/\∃k:Nat,k<=8/\t=k
def T0:adT->(List Int):=λ(h,t,n4,n7)=>from_ (λi x=>bz .u32 x (nth (.int .u32) h i)) t.toNat n7
def anT:((List Int)×Bs)->Prop:=λ(h,b)=>(∃s:St,h=s.l)/\64<=b.length
def aBq:((List Int)×Bs)->(List Int):=λ(h,b)=>(W5 (apD h) b).l
def Gm:Ls adS Rk adR:=pD (λ(Hd,t18,n4,n5,n6,n7)=>⟨([bE,bE,.dz (.arr 8 (.int .u32)) Hd,bE,eP 4,eP 5,eP 6,eP 7]++aW 10 ([.d ti t18]++aW 98 [])),[],(bw 4 ([dm (.d (.arr 8 (.int .u32)) n4),dm (.d (.arr 64 (.int .u32)) n5),dm (.d (.arr 64 (.int .u32)) n6),dm (.d (.arr 8 (.int .u32)) n7)]++bw 109 []))⟩) (λx=>(.exit 0,⟨([bE,bE,.dz (.arr 8 (.int .u32)) x.1.1,bE,eP 4,bE,bE,eP 7]++aW 109 []),[],(bw 4 ([dm (.d (.arr 8 (.int .u32)) x.1.2),[],[],dm (.d (.arr 8 (.int .u32)) x.2)]++bw 109 []))⟩))
def I2:Ls adU I3 T0:=pD (λ(aA7,t104,DP,aib)=>⟨([bE,bE,.dz (.arr 8 (.int .u32)) aA7,bE,eP 4,bE,bE,eP 7]++aW 96 ([.d ti t104]++aW 12 [])),[],(bw 4 ([dm (.d (.arr 8 (.int .u32)) DP),[],[],dm (.d (.arr 8 (.int .u32)) aib)]++bw 109 []))⟩) (λx=>(.exit 2,⟨(aW 4 ([eP 4,bE,bE,eP 7]++aW 109 [])),[],(bw 4 ([dm (.d (.arr 8 (.int .u32)) x.1),[],[],dm (.d (.arr 8 (.int .u32)) x.2)]++bw 109 []))⟩))
def mix:Fs Tryz.prog anT bq aBq:=eV 193 Tryz.f193 (λ(h,b)=>([.d (.arr 8 (.int .u32)) h,.d tB b],[])) (λx=>⟨.d (.arr 8 (.int .u32)) x,[],[]⟩) [av (.arr 8 (.int .u32)),av tB] [auV,aOk,alD] {loops:=lz [(4,{bg:=[2,4,5,6,7,18],sites:=[4,5,6,7]}),(13,{bg:=[2,4,7,104],sites:=[4,7]})],outs:=lu [(4,{bg:=[2,4,7],sites:=[4,7]},{bg:=[4]}),(13,{bg:=[4,7],sites:=[4,7]},{bg:=[4]})],fa:=mc [(4,Gm.E),(13,I2.E)]}
theorem axq:Gm.RS:=rL [.d (.arr 8 (.int .u32)),.d ti,.d (.slice (.int .u32)),.d (.slice (.int .u32)),.d (.slice (.int .u32)),.d (.slice (.int .u32))] Gm
theorem Zd(Hd t18 n4 n5 n6 n7)(kn:K2 R)(kx:K3 R):mix.R 0 Gm (Hd,t18,n4,n5,n6,n7) kn kx=aJ (fv t18 64) (aJ (decide (4 < (ae n7))) (ao (rJ.call ((nth (.int .u32) n7 4),(-6))) λx1=>aJ (decide (4 < (ae n7))) (ao (rJ.call ((nth (.int .u32) n7 4),(-11))) λx2=>aJ (decide (4 < (ae n7))) (ao (rJ.call ((nth (.int .u32) n7 4),(-25))) λx3=>aJ (decide (7 < (ae n7))) (aJ (decide (6 < (ae n7))) (aJ (decide (4 < (ae n7))) (aJ (decide (5 < (ae n7))) (aJ (decide (6 < (ae n7))) (aJ (eA t18 64) (aJ (decide ((ab t18) < (ae n6))) (aJ (decide ((((ab t18)*1)+0)=(0+((ab t18)*1)))) (aJ (eA t18 64) (aJ (decide ((ab t18) < (ae n5))) (aJ (decide ((((ab t18)*1)+0)=(0+((ab t18)*1)))) (aJ (decide (0 < (ae n7))) (ao (rJ.call ((nth (.int .u32) n7 0),(-2))) λx4=>aJ (decide (0 < (ae n7))) (ao (rJ.call ((nth (.int .u32) n7 0),(-13))) λx5=>aJ (decide (0 < (ae n7))) (ao (rJ.call ((nth (.int .u32) n7 0),(-22))) λx6=>aJ (decide (0 < (ae n7))) (aJ (decide (1 < (ae n7))) (aJ (decide (2 < (ae n7))) (aJ (decide (0 < (ae n7))) (aJ (decide (1 < (ae n7))) (aJ (decide (0 < (ae n7))) (aJ (decide (1 < (ae n7))) (aJ (decide (2 < (ae n7))) (aJ (decide (3 < (ae n7))) (aJ (decide (4 < (ae n7))) (aJ (decide (5 < (ae n7))) (aJ (decide (6 < (ae n7))) (kn (Gm.st (Hd,(bz .i64 t18 1),n4,n5,n6,[(bz .u32 (bz .u32 (bz .u32 (bz .u32 (bz .u32 (bz .u32 (nth (.int .u32) n7 7) (cX .xor .u32 (cX .xor .u32 x1 x2) x3)) (cX .xor .u32 (nth (.int .u32) n7 6) (cX .and .u32 (nth (.int .u32) n7 4) (cX .xor .u32 (nth (.int .u32) n7 5) (nth (.int .u32) n7 6))))) (nth (.int .u32) n6 (ab t18))) (nth (.int .u32) n5 (ab t18))) (cX .xor .u32 (cX .xor .u32 x4 x5) x6)) (cX .or .u32 (cX .and .u32 (nth (.int .u32) n7 0) (nth (.int .u32) n7 1)) (cX .and .u32 (nth (.int .u32) n7 2) (cX .or .u32 (nth (.int .u32) n7 0) (nth (.int .u32) n7 1))))),(nth (.int .u32) n7 0),(nth (.int .u32) n7 1),(nth (.int .u32) n7 2),(bz .u32 (nth (.int .u32) n7 3) (bz .u32 (bz .u32 (bz .u32 (bz .u32 (nth (.int .u32) n7 7) (cX .xor .u32 (cX .xor .u32 x1 x2) x3)) (cX .xor .u32 (nth (.int .u32) n7 6) (cX .and .u32 (nth (.int .u32) n7 4) (cX .xor .u32 (nth (.int .u32) n7 5) (nth (.int .u32) n7 6))))) (nth (.int .u32) n6 (ab t18))) (nth (.int .u32) n5 (ab t18)))),(nth (.int .u32) n7 4),(nth (.int .u32) n7 5),(nth (.int .u32) n7 6)]))) aH) aH) aH) aH) aH) aH) aH) aH) aH) aH) aH) aH) aH) aH) aH) aH) aH) aH) aH) aH) aH) aH) aH) aH) aH) aH) aH) aH) aH) (Gm.go kx ((Hd,n4),n7)):=cd
theorem axr:I2.RS:=rL [.d (.arr 8 (.int .u32)),.d ti,.d (.slice (.int .u32)),.d (.slice (.int .u32))] I2
theorem Ze(aA7 t104 DP aib)(kn:K2 R)(kx:K3 R):mix.R 1 I2 (aA7,t104,DP,aib) kn kx=aJ (fv t104 8) (aJ (eA t104 8) (aJ (decide ((ab t104) < (ae aib))) (aJ (decide ((((ab t104)*1)+0)=(0+((ab t104)*1)))) (aJ (eA t104 8) (aJ (eA t104 8) (aJ (decide ((ab t104) < (ae aib))) (aJ (decide ((((ab t104)*1)+0)=(0+((ab t104)*1)))) (aJ (decide ((ab t104) < (ae aib))) (kn (I2.st (aA7,(bz .i64 t104 1),DP,(gF aib (ab t104) (bz .u32 (nth (.int .u32) aib (ab t104)) (nth (.int .u32) aA7 (ab t104))))))) aH) aH) aH) aH) aH) aH) aH) aH) (I2.go kx (DP,aib)):=cd
theorem aVc(h b)(k:K1 R):mix.A (h,b) k=ao (schedule.call b) λx1=>ao (table.call ()) λx2=>ao (Gm.call (h,0,(ai 8 0),x1,x2,h)) λx9=>ao (I2.call (x9.1.1,0,x9.1.2,x9.2)) λal6=>k (mix.out al6.2):=cd
theorem St.asm(s:St):s.l.length=8:=rfl
theorem Y1:WX.length=64:=rfl
theorem asl(k:Nat)(h:k < 64):nth (.int .u32) WX k=vw (kw k):=by
 have hh:∀k:Fin 64,nth (.int .u32) WX k.val=vw (kw k.val):=by decide+kernel
 exact hh ⟨k,h⟩
theorem Yf(ws:List W)(k:Nat)(h:k < ws.length):nth (.int .u32) (wl ws) k=vw (ws.getD k 0):=by unfold nth wl;simp[h]
theorem bcB(w:W):rl w ((-6:Int)%32).toNat=yN w 6:=rfl
theorem ban(w:W):rl w ((-11:Int)%32).toNat=yN w 11:=rfl
theorem baq(w:W):rl w ((-25:Int)%32).toNat=yN w 25:=rfl
theorem bcA(w:W):rl w ((-2:Int)%32).toNat=yN w 2:=rfl
theorem bao(w:W):rl w ((-13:Int)%32).toNat=yN w 13:=rfl
theorem bap(w:W):rl w ((-22:Int)%32).toNat=yN w 22:=rfl
theorem n0(s:St):nth (.int .u32) s.l 0=vw s.a:=rfl
theorem n1(s:St):nth (.int .u32) s.l 1=vw s.b:=rfl
theorem n2(s:St):nth (.int .u32) s.l 2=vw s.c:=rfl
theorem n3(s:St):nth (.int .u32) s.l 3=vw s.d:=rfl
theorem n4(s:St):nth (.int .u32) s.l 4=vw s.e:=rfl
theorem n5(s:St):nth (.int .u32) s.l 5=vw s.f:=rfl
theorem n6(s:St):nth (.int .u32) s.l 6=vw s.g:=rfl
theorem n7(s:St):nth (.int .u32) s.l 7=vw s.h:=rfl
theorem aEQ:(mix.jx 0 Gm):=by
 refine(mix.mf 0 Gm) (λ(h,t,n4,n5,n6,n7)=>64 - t.toNat) ?_
 rintro⟨h,t,m4,m5,m6,m7⟩ ⟨s,ws,k,rfl,rfl,hw,hk,rfl,rfl,rfl⟩;by_cases fF:k < 64
 ·left;refine⟨(s.l,((k+1:Nat):Int),m4,wl ws,WX,(rounds ws s (k+1)).l),⟨s,ws,k+1,rfl,rfl,hw,aq,rfl,rfl,rfl⟩,by simp;omega,rfl,λkn kx=> ?_⟩;have e1:bz .i64 (k:Int) 1=((k+1:Nat):Int):=by rw[fA aq aq];omega
  have e2:ab (k:Int)=k:=aq;have aWr:(wl ws).length=64:=by simp[wl,hw]
  have d0:decide (k < 64)=bm:=aX fF;have i0:eA (k:Int) 64=bm:=ba aq aq;rw[Zd,aS aq];generalize hv:rounds ws s k=v;simp only[e1,e2,jJ,aV,cD,b8,aj,St.asm,Nat.reduceLT,Y1,aWr,d0,i0,n0,n1,n2,n3,n4,n5,n6,n7,alC,ag,asl k fF,Yf ws k aq,si,Hv,bcB,ban,baq,bcA,bao,bap];show kn _=kn (Gm.st (s.l,((k+1:Nat):Int),m4,wl ws,WX,(mf (rounds ws s k) (kw k) (ws.getD k 0)).l));rw[hv];rfl
 ·right;obtain rfl:k=64:=aq;intro R kn kx;rw[Zd,aQ aq];simp only[al,Rk,adR,JT,qq]
theorem aER:(mix.jx 1 I2):=by
 refine(mix.mf 1 I2) (λ(h,t,n4,n7)=>8 - t.toNat) ?_
 rintro⟨h,t,m4,m7⟩ ⟨hl,k,hk,rfl⟩;have hl:m7.length=8:=hl;have e2:ab (k:Int)=k:=aq;have e3:ab ((k+1:Nat):Int)=k+1:=aq;by_cases fF:k < 8
 ·left;have e1:bz .i64 (k:Int) 1=((k+1:Nat):Int):=by rw[fA aq aq];omega
  have hn:nth (.int .u32) m7 k=m7[k]:=bY (t:= .int .u32) aq;refine⟨(h,((k+1:Nat):Int),m4,m7.set k (bz .u32 m7[k] (nth (.int .u32) h k))),⟨by simpa using hl,k+1,aq,rfl⟩,by simp;omega,?_,λkn kx=> ?_⟩
  ·simp only[I3,T0,e2,e3];rw[N8 (λi x=>bz .u32 x (nth (.int .u32) h i)) m7 k aq]
  ·have d0:decide (k < 8)=bm:=aX fF;have i0:eA (k:Int) 8=bm:=ba aq aq;rw[Ze,aS aq];simp only[e1,e2,jJ,aV,cD,b8,aj,hl,d0,i0,hn]
 ·right;obtain rfl:k=8:=aq;intro R kn kx;rw[Ze,aQ aq];simp only[al,I3,T0,e2];rw[Tx _ _ _ aq]
theorem aVd:mix.Ok:=by
 rintro⟨h,b⟩ ⟨⟨s,rfl⟩,hb⟩;have hs:VD b:=hb;have aO2:(sched b).length=64:=by unfold sched;rw[EA,fL]
 have hp:adS (s.l,0,ai 8 0,wl (sched b),WX,s.l):=⟨s,sched b,0,rfl,rfl,aO2,aq,rfl,rfl,rfl⟩;rw[aVc,apk hs];simp only[ag,aHi (d:=()) trivial,bq,RX,bq,aCk,axq hp,Rk,adR,JT,qq];have aZQ:adU (s.l,0,ai 8 0,(rounds (sched b) s 64).l):=⟨rfl,0,aq,rfl⟩;simp only[axr aZQ,ag,I3,T0,bq,aBq,qq];unfold W5;generalize rounds (sched b) s 64=v;obtain⟨a1,b1,c1,d1,f1,g1,h1,i1⟩:=v;simp only[St.l,from_,List.mapIdx_cons,List.mapIdx_nil,aT,Nat.not_lt_zero,bC,aV,Nat.reduceAdd];simp only[nth,nU,tm,Hv]
theorem aBr:mix.RS:=rE [.d (.slice (.int .u32)),.d tB] mix
def aVe:=mix.eY aVd 2 ⟨.e7 aEQ,⟨.e7 aER,trivial⟩⟩
theorem vX(n:Int)(k:Int)(h0:0<=k)(h1:k<=64):dR .u8 (cF .i64 n k)=n / 2^k.toNat%256:=by
 rw[WS,iH,cF];have e:min k.toNat IntKind.i64.bits=k.toNat:=by simp only[IntKind.bits];omega
 rw[e,lC _ (Int.le_of_lt (Int.pow_pos aq))];rfl
theorem Ih{n:Nat}(h:n<=140737488355328):cZ n 1=bm:=cM aq aq
def acA:Bs->Prop:=λb=>b.length<=140737488355328
def K8:Bs->(Nat×(List Int)):=λb=>(b.length,b)
def Dq:Fs Tryz.prog acA bq K8:=eV 191 Tryz.f191 (λsv=>([.d tB sv],[])) (λx=>⟨.bU (.new 0 0) 0 [] 0 0 x.1,[],[.obj 0 aZ (.vec 5 tb x.2)]⟩) [av tB] [] {cg:=[5],owns:=[⟨2,[],5,114⟩]}
theorem aDp(sv)(k:K1 R):Dq.A sv k=aJ (decide (0 < (ae sv))) (aJ (cZ (0+(ae sv)) 1) (k (Dq.out ((0+(ae sv)),((aM 0 (ai 0 0))++sv)))) aH) (nd (k (Dq.out (0,([]:List Int)))) (aJ (cZ (0+(ae sv)) 1) (k (Dq.out ((0+(ae sv)),((aM 0 (ai 0 0))++sv)))) aH)):=cd
theorem aDq:Dq.Ok:=by
 intro b hb;have hr:cZ b.length 1=bm:=Ih hb;rw[aDp];have e0:(aM 0 (ai 0 0):List Int)=[]:=rfl;simp only[aV,hr,aj,e0,aY,bq,K8];by_cases h:0 < b.length
 ·simp only[aX h,aj]
 ·have:b=[]:=bJ aq;subst this;simp only[bp,E3,bo (iI 0),al]
theorem Qx:Dq.RS:=rE [.d tB] Dq
def Wx:=Dq.eY aDq
def aEE:Int->Prop:=λ_=>True
def aBm:Int->(Nat×(List Int)):=λn=>(8,jo n)
def adJ:Fs Tryz.prog aEE bq aBm:=eV 132 Tryz.f132 (λn=>([.dJ,.d ti n],[])) (λx=>⟨.bU (.new 0 0) 0 [] 0 0 x.1,[],[.obj 0 aZ (.vec 5 tb x.2)]⟩) [aH,av ti] [] {loops:=lz [(2,{bg:=[0,1,5],sites:=[16]})],outs:=lu [(2,{bg:=[0],sites:=[16]},{bg:=[4],sites:=[16]})],owns:=[⟨4,[],16,114⟩]} 12
theorem aKW(n)(k:K1 R):adJ.A n k=k (adJ.out (8,[(dR .u8 (cF .i64 n 56)),(dR .u8 (cF .i64 n 48)),(dR .u8 (cF .i64 n 40)),(dR .u8 (cF .i64 n 32)),(dR .u8 (cF .i64 n 24)),(dR .u8 (cF .i64 n 16)),(dR .u8 (cF .i64 n 8)),(dR .u8 (cF .i64 n 0))])):=cd
theorem av1(n:Int): [dR .u8 (cF .i64 n 56),dR .u8 (cF .i64 n 48),dR .u8 (cF .i64 n 40),dR .u8 (cF .i64 n 32),dR .u8 (cF .i64 n 24),dR .u8 (cF .i64 n 16),dR .u8 (cF .i64 n 8),dR .u8 (cF .i64 n 0)]=jo n:=by rw[vX n 56 aq aq,vX n 48 aq aq,vX n 40 aq aq,vX n 32 aq aq,vX n 24 aq aq,vX n 16 aq aq,vX n 8 aq aq,vX n 0 aq aq];simp[jo]
theorem aKX:adJ.Ok:=by intro n _;rw[aKW,av1];rfl
theorem aEF:adJ.RS:=rE [.d ti] adJ
def aKY:=adJ.aYU aE0 aKX 1 ⟨.none cd,trivial⟩
def W1:(Nat×Int×Bs)->Prop:=λ(m,n,l)=>m=l.length/\l.length<=140737488355320
def abL:(Nat×Int×Bs)->(Nat×(List Int)):=λ(m,n,l)=>(l.length+8,l++jo n)
def Y6:Fs Tryz.prog W1 bq abL:=eV 132 Tryz.f132 (λ(bL,n,o0)=>([.bU (.bP 0) 0 [] 0 0 bL,.d ti n],[.obj 0 aZ (.vec 5 tb o0)])) (λx=>⟨.bU (.bP 0) 8 [] 0 0 x.1,[.obj 8 aZ (.vec 5 tb x.2)],[]⟩) [aH,av ti] [] {loops:=lz [(2,{bg:=[0,1,5],sites:=[16]})],outs:=lu [(2,{bg:=[0],sites:=[16]},{bg:=[4],sites:=[16]})]} 12
theorem aKZ(bL n o0)(k:K1 R):Y6.A (bL,n,o0) k=aJ (decide (bL<=(ae o0))) (aJ (cZ (bL+1) 1) (aJ (decide ((bL+1)<=(ae ((aM bL o0)++ [(dR .u8 (cF .i64 n 56))])))) (aJ (cZ ((bL+1)+1) 1) (aJ (decide (((bL+1)+1)<=(ae ((aM (bL+1) ((aM bL o0)++ [(dR .u8 (cF .i64 n 56))]))++ [(dR .u8 (cF .i64 n 48))])))) (aJ (cZ (((bL+1)+1)+1) 1) (aJ (decide ((((bL+1)+1)+1)<=(ae ((aM ((bL+1)+1) ((aM (bL+1) ((aM bL o0)++ [(dR .u8 (cF .i64 n 56))]))++ [(dR .u8 (cF .i64 n 48))]))++ [(dR .u8 (cF .i64 n 40))])))) (aJ (cZ ((((bL+1)+1)+1)+1) 1) (aJ (decide (((((bL+1)+1)+1)+1)<=(ae ((aM (((bL+1)+1)+1) ((aM ((bL+1)+1) ((aM (bL+1) ((aM bL o0)++ [(dR .u8 (cF .i64 n 56))]))++ [(dR .u8 (cF .i64 n 48))]))++ [(dR .u8 (cF .i64 n 40))]))++ [(dR .u8 (cF .i64 n 32))])))) (aJ (cZ (((((bL+1)+1)+1)+1)+1) 1) (aJ (decide ((((((bL+1)+1)+1)+1)+1)<=(ae ((aM ((((bL+1)+1)+1)+1) ((aM (((bL+1)+1)+1) ((aM ((bL+1)+1) ((aM (bL+1) ((aM bL o0)++ [(dR .u8 (cF .i64 n 56))]))++ [(dR .u8 (cF .i64 n 48))]))++ [(dR .u8 (cF .i64 n 40))]))++ [(dR .u8 (cF .i64 n 32))]))++ [(dR .u8 (cF .i64 n 24))])))) (aJ (cZ ((((((bL+1)+1)+1)+1)+1)+1) 1) (aJ (decide (((((((bL+1)+1)+1)+1)+1)+1)<=(ae ((aM (((((bL+1)+1)+1)+1)+1) ((aM ((((bL+1)+1)+1)+1) ((aM (((bL+1)+1)+1) ((aM ((bL+1)+1) ((aM (bL+1) ((aM bL o0)++ [(dR .u8 (cF .i64 n 56))]))++ [(dR .u8 (cF .i64 n 48))]))++ [(dR .u8 (cF .i64 n 40))]))++ [(dR .u8 (cF .i64 n 32))]))++ [(dR .u8 (cF .i64 n 24))]))++ [(dR .u8 (cF .i64 n 16))])))) (aJ (cZ (((((((bL+1)+1)+1)+1)+1)+1)+1) 1) (aJ (decide ((((((((bL+1)+1)+1)+1)+1)+1)+1)<=(ae ((aM ((((((bL+1)+1)+1)+1)+1)+1) ((aM (((((bL+1)+1)+1)+1)+1) ((aM ((((bL+1)+1)+1)+1) ((aM (((bL+1)+1)+1) ((aM ((bL+1)+1) ((aM (bL+1) ((aM bL o0)++ [(dR .u8 (cF .i64 n 56))]))++ [(dR .u8 (cF .i64 n 48))]))++ [(dR .u8 (cF .i64 n 40))]))++ [(dR .u8 (cF .i64 n 32))]))++ [(dR .u8 (cF .i64 n 24))]))++ [(dR .u8 (cF .i64 n 16))]))++ [(dR .u8 (cF .i64 n 8))])))) (aJ (cZ ((((((((bL+1)+1)+1)+1)+1)+1)+1)+1) 1) (k (Y6.out (((((((((bL+1)+1)+1)+1)+1)+1)+1)+1),((aM (((((((bL+1)+1)+1)+1)+1)+1)+1) ((aM ((((((bL+1)+1)+1)+1)+1)+1) ((aM (((((bL+1)+1)+1)+1)+1) ((aM ((((bL+1)+1)+1)+1) ((aM (((bL+1)+1)+1) ((aM ((bL+1)+1) ((aM (bL+1) ((aM bL o0)++ [(dR .u8 (cF .i64 n 56))]))++ [(dR .u8 (cF .i64 n 48))]))++ [(dR .u8 (cF .i64 n 40))]))++ [(dR .u8 (cF .i64 n 32))]))++ [(dR .u8 (cF .i64 n 24))]))++ [(dR .u8 (cF .i64 n 16))]))++ [(dR .u8 (cF .i64 n 8))]))++ [(dR .u8 (cF .i64 n 0))])))) aH) aH) aH) aH) aH) aH) aH) aH) aH) aH) aH) aH) aH) aH) aH) aH:=cd
theorem aK0:Y6.Ok:=by rintro⟨m,n,l⟩ ⟨rfl,hl⟩;have hl:l.length<=140737488355320:=hl;rw[aKZ];simp only[az,b8,aj,bu,ak,aF,bp,aV];rw[Ih aq,Ih aq,Ih aq,Ih aq,Ih aq,Ih aq,Ih aq,Ih aq];simp only[aj,bq,abL,<-av1,aO,nY,aY]
theorem akp:Y6.RS:=rE [.n,.d ti,.d tB] Y6
def ass:=Y6.aYU alQ aK0 1 ⟨.none cd,trivial⟩
abbrev WL:=Bs×Nat×Bs×(List Int)
abbrev akg:=Nat×(List Int)
def EV:WL->akg->((Bs×Bs)×(Nat×(List Int))):=λ(eU,endL,n2,n14) y=>((eU,n2),y)
abbrev WM:=Bs×Nat×Bs×(List Int)×(List Int)
def EW:WM->(List Int)->((Nat×Bs×(List Int))×((List Int))):=λ(Wa,QR,mW,n4,ad2) y=>((QR,mW,ad2),y)
abbrev WN:=Bs×Bs×(List Int)
def EX:WN->(List Int)->((Bs)×((List Int))):=λ(endv,vp,DP) y=>(vp,y)
abbrev akh:=Int×Bs×(List Int)
def zc(n:Nat):Nat:=(120 - n%64)%64
def YU:WL->Prop:=λ(b,m,n2,l)=>m=l.length/\l.length+zc l.length<=140737488355328
def Oa:WL->akg:=λ(b,m,n2,l)=>(l.length+zc l.length,l++ai (zc l.length) 0)
def YV:WM->Prop:=λ(b,m,n2,h,l)=>∃s:St,h=s.l
def Ob:WM->(List Int):=λ(b,m,n2,h,l)=>(blocks (apD h) b).l
def YW:WN->Prop:=λ(b,n2,h)=>b.length%64=0/\∃s:St,h=s.l
def Oc:WN->(List Int):=λ(b,n2,h)=>(blocks (apD h) b).l
def O4(h:List Int)(i:Nat)(_:Int):Int:=dR .u8 (cF .u32 (nth (.int .u32) h (i / 4)) ((24 - 8*(i%4):Nat):Int))
def YX:akh->Prop:=λ(t,n2,h)=>n2.length=32/\h.length=8/\∃k:Nat,k<=32/\t=k
def Od:akh->Bs:=λ(t,n2,h)=>from_ (O4 h) t.toNat n2
def ar5:Bs->Prop:=λb=>b.length<=140737488350000
def aw0:Bs->Bs:=λb=>aVG b
def B6:Ls YU EV Oa:=pD (λ(eU,endL,n2,n14)=>⟨([.d tB eU,bE,eP 2,jl 14 endL]++aW 61 []),[],([[],[],dm (.d tH n2)]++bw 11 ([dm (.vec 5 tb n14)]++bw 50 []))⟩) (λx=>(.exit 0,⟨([.d tB x.1.1,bE,eP 2,jl 14 x.2.1]++aW 61 []),[],([[],[],dm (.d tH x.1.2)]++bw 11 ([dm (.vec 5 tb x.2.2)]++bw 50 []))⟩))
def B7:Ls YV EW Ob:=pD (λ(Wa,QR,mW,n4,ad2)=>⟨([.d tB Wa,bE,eP 2,.bU (.new 14 0) 8 [] 0 0 QR,eP 4]++aW 60 []),[],([[],[],dm (.d tH mW),[],dm (.d (.arr 8 (.int .u32)) n4)]++bw 9 ([[.obj 8 aZ (.vec 5 tb ad2)]]++bw 50 []))⟩) (λx=>(.exit 2,⟨([bE,bE,eP 2,.bU (.new 14 0) 8 [] 0 0 x.1.1,eP 4]++aW 60 []),[],([[],[],dm (.d tH x.1.2.1),[],dm (.d (.arr 8 (.int .u32)) x.2)]++bw 9 ([[.obj 8 aZ (.vec 5 tb x.1.2.2)]]++bw 50 []))⟩))
def B8:Ls YW EX Oc:=pD (λ(endv,vp,DP)=>⟨([bE,bE,eP 2,.d tB endv,eP 4]++aW 60 []),[],([[],[],dm (.d tH vp),[],dm (.d (.arr 8 (.int .u32)) DP)]++bw 60 [])⟩) (λx=>(.exit 4,⟨([bE,bE,eP 2,bE,eP 4]++aW 60 []),[],([[],[],dm (.d tH x.1),[],dm (.d (.arr 8 (.int .u32)) x.2)]++bw 60 [])⟩))
def B9:Ls YX bq Od:=pD (λ(t48,Rn,T8)=>⟨([bE,bE,eP 2,bE,eP 4]++aW 43 ([.d ti t48]++aW 16 [])),[],([[],[],dm (.d tH Rn),[],dm (.d (.arr 8 (.int .u32)) T8)]++bw 60 [])⟩) (λx=>(.exit 6,⟨([bE,bE,eP 2]++aW 62 []),[],([[],[],dm (.d tH x)]++bw 62 [])⟩))
def B5:Fs Tryz.prog ar5 bq aw0:=eV 133 Tryz.f133 (λb=>([.d tB b],[])) (λx=>⟨.d tH x,[],[]⟩) [av tB] [Wx,ass,aJ1,aVe] {loops:=lz [(2,{bg:=[0,2,3],sites:=[2,14],owns:=[⟨3,[],14,114⟩]}),(6,{bg:=[0,2,3,4],sites:=[2,4,14]}),(9,{bg:=[2,3,4],sites:=[2,4],data:=[(3,tB)]}),(13,{bg:=[2,4,48],sites:=[2,4]})],outs:=lu [(2,{bg:=[0,2,3],sites:=[2,14]},{bg:=[2]}),(6,{bg:=[2,3,4],sites:=[2,4,14]},{bg:=[2]}),(9,{bg:=[2,4],sites:=[2,4]},{bg:=[2]}),(13,{bg:=[2],sites:=[2]},{bg:=[2]})],fa:=mc [(2,B6.E),(6,B7.E),(9,B8.E),(13,B9.E)]}
theorem ar1:B6.RS:=rL [.d tB,.n,.d tB,.d tB] B6
theorem TD(eU endL n2 n14)(kn:K2 R)(kx:K3 R):B5.R 0 B6 (eU,endL,n2,n14) kn kx=aJ (C3 (kj ((endL:Nat):Int) 64) 56) (aJ (decide (endL<=(ae n14))) (aJ (cZ (endL+1) 1) (kn (B6.st (eU,(endL+1),n2,((aM endL n14)++ [0])))) aH) aH) (B6.go kx ((eU,n2),(endL,n14))):=cd
theorem ar2:B7.RS:=rL [.d tB,.n,.d tB,.d (.slice (.int .u32)),.d tB] B7
theorem TE(Wa QR mW n4 ad2)(kn:K2 R)(kx:K3 R):B5.R 1 B7 (Wa,QR,mW,n4,ad2) kn kx=aJ (AM (Wa.length:Int) 64) (aJ (inc 64 (Wa.length:Int)) (ao (mix.call (n4,(cut Wa 0 64))) λx1=>aJ (inc 64 (Wa.length:Int)) (kn (B7.st ((cut Wa 64 ((ae Wa) - 64)),QR,mW,x1,ad2))) aH) aH) (B7.go kx ((QR,mW,ad2),n4)):=cd
theorem ar3:B8.RS:=rL [.d tB,.d tB,.d (.slice (.int .u32))] B8
theorem TF(endv vp DP)(kn:K2 R)(kx:K3 R):B5.R 2 B8 (endv,vp,DP) kn kx=aJ (xW (endv.length:Int) 0) (aJ (inc 64 (endv.length:Int)) (ao (mix.call (DP,(cut endv 0 64))) λx1=>aJ (inc 64 (endv.length:Int)) (kn (B8.st ((cut endv 64 ((ae endv) - 64)),vp,x1))) aH) aH) (B8.go kx (vp,DP)):=cd
theorem ar4:B9.RS:=rL [.d ti,.d tB,.d (.slice (.int .u32))] B9
theorem TG(t48 Rn T8)(kn:K2 R)(kx:K3 R):B5.R 3 B9 (t48,Rn,T8) kn kx=aJ (fv t48 32) (aJ (eA (wC .i64 t48 4) 8) (aJ (decide ((ab (wC .i64 t48 4)) < (ae T8))) (aJ (decide ((((ab (wC .i64 t48 4))*1)+0)=(0+((ab (wC .i64 t48 4))*1)))) (aJ (ou (df .i64 24 (fO .i64 8 (kj t48 4)))) (aJ (eA t48 32) (aJ (decide ((ab t48) < (ae Rn))) (aJ (decide ((((ab t48)*1)+0)=(0+((ab t48)*1)))) (aJ (decide ((ab t48) < (ae Rn))) (kn (B9.st ((bz .i64 t48 1),(gF Rn (ab t48) (dR .u8 (cF .u32 (nth (.int .u32) T8 (ab (wC .i64 t48 4))) (df .i64 24 (fO .i64 8 (kj t48 4)))))),T8))) aH) aH) aH) aH) aH) aH) aH) aH) (B9.go kx Rn):=cd
theorem aQw(b)(k:K1 R):B5.A b k=aJ (inc (df .i64 (b.length:Int) (kj (b.length:Int) 64)) (b.length:Int)) (ao (Dq.call (cut b (ab (df .i64 (b.length:Int) (kj (b.length:Int) 64))) ((ae b) - (ab (df .i64 (b.length:Int) (kj (b.length:Int) 64)))))) λx1=>aJ (decide (x1.1<=(ae x1.2))) (aJ (cZ (x1.1+1) 1) (ao (B6.call (b,(x1.1+1),(ai 32 0),((aM x1.1 x1.2)++ [128]))) λx2=>ao (Y6.call (x2.2.1,(fO .i64 8 (x2.1.1.length:Int)),x2.2.2)) λx3=>ao (first.call ()) λx4=>ao (B7.call (x2.1.1,x3.1,x2.1.2,x4,x3.2)) λx6=>aJ (decide (0=0/\(0+x6.1.1)<=(ae x6.1.2.2))) (ao (B8.call ((cut x6.1.2.2 0 x6.1.1),x6.1.2.1,x6.2)) λx9=>ao (B9.call (0,x9.1,x9.2)) λal6=>k (B5.out al6)) aH) aH) aH) aH:=cd
theorem aw1:(B5.jx 0 B6):=by
 refine(B5.mf 0 B6) (λ(b,m,n2,l)=>zc l.length) ?_
 rintro⟨b,m,n2,l⟩ ⟨rfl,hl⟩;have hl:l.length+zc l.length<=140737488355328:=hl;have hr:kj ((l.length:Nat):Int) 64=((l.length%64:Nat):Int):=by unfold kj;rw[iK aq];omega
 by_cases h:l.length%64=56
 ·right;intro R kn kx;have hz:zc l.length=0:=by unfold zc;omega
  rw[TD,hr,dN aq];simp only[al,EV,Oa,hz,cD,List.replicate_zero,bK]
 ·left;have hz:zc l.length=zc (l.length+1)+1:=by unfold zc;omega
  refine⟨(b,l.length+1,n2,l++ [0]),⟨by simp,by simp only[ak,aF,bp,aV];omega⟩,by simp only[ak,aF,bp,aV];omega,?_,λkn kx=> ?_⟩
  ·simp only[EV,Oa,ak,aF,bp,aV,hz,aO,nY,aY,tn];rw[show l.length+1+zc (l.length+1)=l.length+(zc (l.length+1)+1) by omega]
  ·rw[TD,hr,fH aq,Ih aq];simp only[aj,az,b8,bN]
theorem aw2:(B5.jx 1 B7):=by
 refine(B5.mf 1 B7) (λ(b,m,n2,h,l)=>b.length) ?_
 rintro⟨b,m,n2,h,l⟩ ⟨s,rfl⟩;by_cases hb:64<=b.length
 ·left;have e1:cut b 64 (b.length - 64)=b.drop 64:=by unfold cut;rw[bu (by simp)]
  have e2:cut b 0 64=b.take 64:=rfl;have hp:anT (s.l,b.take 64):=⟨⟨s,rfl⟩,by simp;omega⟩;refine⟨(b.drop 64,m,n2,(W5 s (b.take 64)).l,l),⟨_,rfl⟩,by simp;omega,?_,λkn kx=> ?_⟩
  ·simp only[EW,Ob,qq];rw[KU s b hb]
  ·rw[TE,fG aq,oo aq aq,e1,e2];simp only[aj,aBr hp,ag,bq,aBq,qq]
 ·right;intro R kn kx;rw[TE,eg aq];simp only[al,EW,Ob,qq];rw[It s b aq]
theorem aw3:(B5.jx 2 B8):=by
 refine(B5.mf 2 B8) (λ(b,n2,h)=>b.length) ?_
 rintro⟨b,n2,h⟩ ⟨hm,s,rfl⟩;have hm:b.length%64=0:=hm;by_cases hb:0 < b.length
 ·left;have e1:cut b 64 (b.length - 64)=b.drop 64:=by unfold cut;rw[bu (by simp)]
  have e2:cut b 0 64=b.take 64:=rfl;have hp:anT (s.l,b.take 64):=⟨⟨s,rfl⟩,by simp;omega⟩;refine⟨(b.drop 64,n2,(W5 s (b.take 64)).l),⟨by simp;omega,_,rfl⟩,by simp;omega,?_,λkn kx=> ?_⟩
  ·simp only[EX,Oc,qq];rw[KU s b aq]
  ·rw[TF,dw aq,oo aq aq,e1,e2];simp only[aj,aBr hp,ag,bq,aBq,qq]
 ·right;intro R kn kx;rw[TF,cI aq];simp only[al,EX,Oc,qq];rw[It s b aq]
theorem aw4:(B5.jx 3 B9):=by
 refine(B5.mf 3 B9) (λ(t,n2,h)=>32 - t.toNat) ?_
 rintro⟨t,m,h⟩ ⟨hl,h8,k,hk,rfl⟩;have hl:m.length=32:=hl;have h8:h.length=8:=h8;have e2:ab (k:Int)=k:=aq;have e3:ab ((k+1:Nat):Int)=k+1:=aq;by_cases fF:k < 32
 ·left;have e1:bz .i64 (k:Int) 1=((k+1:Nat):Int):=by rw[fA aq aq];omega
  have q4:wC .i64 (k:Int) 4=((k / 4:Nat):Int):=by
   have:(k:Int).tdiv 4=((k / 4:Nat):Int):=by rw[lD aq];omega
   unfold wC;rw[this,w7 aq aq]
  have r4:kj (k:Int) 4=((k%4:Nat):Int):=by unfold kj;rw[iK aq];omega
  have s4:df .i64 24 (fO .i64 8 ((k%4:Nat):Int))=((24 - 8*(k%4):Nat):Int):=by rw[Ah aq aq,fI aq aq];omega
  have e4:ab ((k / 4:Nat):Int)=k / 4:=aq;refine⟨(((k+1:Nat):Int),m.set k (O4 h k m[k]),h),⟨by simpa using hl,h8,k+1,aq,rfl⟩,by simp;omega,?_,λkn kx=> ?_⟩
  ·simp only[bq,Od,e2,e3];rw[N8 (O4 h) m k aq]
  ·have d0:decide (k < 32)=bm:=aX fF;have d1:decide (k / 4 < 8)=bm:=aX aq;rw[TG,aS aq,q4,r4,s4,ba aq aq,ba aq aq,v7 aq];simp only[e1,e2,e4,jJ,aV,cD,b8,aj,hl,h8,d0,d1,O4]
 ·right;obtain rfl:k=32:=aq;intro R kn kx;rw[TG,aQ aq];simp only[al,bq,Od,e2];rw[Tx _ _ _ aq]
theorem aE6(w:W):bA 8 (vw w)=w.setWidth 8:=by apply BitVec.eq_of_toNat_eq;rw[uX,BitVec.toNat_setWidth];unfold vw;omega
theorem aUg(w:W)(k:Int):dR .u8 (cF .u32 (vw w) k)=vw ((w >>> k.toNat).setWidth 8):=by rw[Lv,WS,aE6]
theorem aBB(s:St):from_ (O4 s.l) 0 (ai 32 0)=aRh s:=by rw[ade];simp only[List.range_eq_range',List.range',cj,fK,O4,Nat.reduceAdd,Nat.reduceDiv,Nat.reduceMod,Nat.reduceMul,Nat.reduceSub,n0,n1,n2,n3,n4,n5,n6,n7,aUg];rfl
theorem aQx:B5.Ok:=by
 intro b hb;have hb:b.length<=140737488350000:=hb;have hr:kj ((b.length:Nat):Int) 64=((b.length%64:Nat):Int):=by unfold kj;rw[iK aq];omega
 have hs:df .i64 ((b.length:Nat):Int) ((b.length%64:Nat):Int)=((b.length - b.length%64:Nat):Int):=by rw[fI aq aq];omega
 have hn:ab ((b.length - b.length%64:Nat):Int)=b.length - b.length%64:=aq;have hm:fO .i64 8 ((b.length:Nat):Int)=8*(b.length:Int):=Ah aq aq;generalize hq:b.length - b.length%64=q at hs hn;have hc:cut b q (b.length - q)=b.drop q:=by unfold cut;rw[bu (by simp)]
 have aHP:(b.drop q).length=b.length%64:=by simp;omega
 have p1:acA (b.drop q):=by show(b.drop q).length<=_;omega
 rw[aQw,hr,hs,oo aq aq,hn,hc];simp only[aj,Qx p1,ag,bq,K8,az,b8,bN];have p2:YU (b,(b.drop q).length+1,ai 32 0,b.drop q++ [128]):=by refine⟨by simp,?_⟩;simp only[ak,aF,bp,zc];omega
 have hz:zc (b.drop q++ [128]).length=DW b.length:=by simp only[ak,aF,bp,zc,DW];omega
 rw[Ih aq];simp only[aj,ar1 p2,ag,EV,Oa,hm,hz];have hlen:(b.drop q++ [128]).length+DW b.length=(b.drop q++ [128]++ai (DW b.length) 0).length:=by rw[@ak _ (b.drop q++ [128]),dd]
 have p3:W1 ((b.drop q++ [128]).length+DW b.length,8*(b.length:Int),b.drop q++ [128]++ai (DW b.length) 0):=by refine⟨hlen,?_⟩;simp only[ak,aF,bp,dd,DW];omega
 have p4:YV (b,(b.drop q++ [128]++ai (DW b.length) 0).length+8,ai 32 0,vf.l,b.drop q++ [128]++ai (DW b.length) 0++jo (8*(b.length:Int))):=⟨vf,rfl⟩;simp only[akp p3,ag,bq,abL,aDZ (d:=()) trivial,bq,aA2,ar2 p4,EW,Ob,qq];generalize he:b.drop q++ [128]++ai (DW b.length) 0++jo (8*(b.length:Int))=e;have OO:(b.drop q++ [128]++ai (DW b.length) 0).length+8=e.length:=by rw[<-he,@ak _ _ (jo _),cv]
 have aWg:e.length%64=0:=by rw[<-OO];simp only[ak,aF,bp,dd,DW,aHP];omega
 have aYw:cut e 0 ((b.drop q++ [128]++ai (DW b.length) 0).length+8)=e:=by rw[OO];unfold cut;rw[ay,bN]
 rw[aYw,OO,aX ⟨trivial,aq⟩];have p5:YW (e,ai 32 0,(blocks vf b).l):=⟨aWg,blocks vf b,rfl⟩;have p6:YX (0,ai 32 0,(blocks (blocks vf b) e).l):=⟨rfl,rfl,0,aq,rfl⟩;simp only[aj,ar3 p5,ag,EX,Oc,qq,ar4 p6,bq,Od,bq,aw0];rw[show ab 0=0 from rfl,aBB];have aUF:blocks vf (pad b)=blocks (blocks vf b) e:=by
  have h1:pad b=b.take q++e:=by rw[<-he];unfold pad;rw[aO,aO,<-aO (b.take q),eC];rfl
  have h2:blocks vf b=blocks (blocks vf (b.take q)) (b.drop q):=by rw[<-O1 _ _ _ (by simp;omega),eC]
  rw[h1,O1 _ _ _ (by simp;omega),h2,It _ (b.drop q) aq]
 rw[aVG,aUF]
theorem aKr:B5.RS:=rE [.d tB] B5
def aQy:=B5.eY aQx 4 ⟨.e7 aw1,⟨.e7 aw2,⟨.e7 aw3,⟨.e7 aw4,trivial⟩⟩⟩⟩
abbrev WR:=Nat×(List Bs)×Int×Int×Bs×(List Int)
abbrev aki:=Nat×(List Int)
def EY:WR->aki->((Bs)×(Nat×(List Int))):=λ(bL,t13,t14,t15,n4,n10) y=>(n4,y)
abbrev aKs:=ByteArray×(List Bs)
def YY:WR->Prop:=λ(m,ps,n,i,n4,l)=>m=l.length/\n=ps.length/\ps.length<=140737488350000/\∃k:Nat,k<=ps.length/\i=k/\l.length+(qG (ps.drop k)).length<=140737488350000
def Oe:WR->aki:=λ(m,ps,n,i,n4,l)=>(l.length+(qG (ps.drop i.toNat)).length,l++qG (ps.drop i.toNat))
def TI:aKs->Prop:=λ(name,ps)=>(X8 (bS name) ps).length<=140737488350000
def anr:aKs->Bs:=λ(name,ps)=>tag (bS name) ps
def Ca:Ls YY EY Oe:=pD (λ(bL,t13,t14,t15,n4,n10)=>⟨(aW 4 ([eP 4,jl 10 bL]++aW 7 ([.d (.slice tB) t13,.d ti t14,.d ti t15]++aW 12 []))),[],(bw 4 ([dm (.d tH n4)]++bw 5 ([dm (.vec 5 tb n10)]++bw 17 [])))⟩) (λx=>(.exit 0,⟨(aW 4 ([eP 4,jl 10 x.2.1]++aW 22 [])),[],(bw 4 ([dm (.d tH x.1)]++bw 5 ([dm (.vec 5 tb x.2.2)]++bw 17 [])))⟩))
def WQ:Fs Tryz.prog TI bq anr:=eV 61 Tryz.f61 (λ(name,parts)=>([.d .str name,.d (.slice tB) parts],[])) (λx=>⟨.d tH x,[],[]⟩) [av .str,av (.slice tB)] [aKY,ass,aQy] {loops:=lz [(3,{bg:=[4,5,13,14,15],sites:=[4,10],owns:=[⟨5,[],10,114⟩]})],outs:=lu [(3,{bg:=[4,5],sites:=[4,10]},{bg:=[4]})],fa:=mc [(3,Ca.E)]}
theorem ar6:Ca.RS:=rL [.n,.d (.slice tB),.d ti,.d ti,.d tB,.d tB] Ca
theorem TH(bL t13 t14 t15 n4 n10)(kn:K2 R)(kx:K3 R):WQ.R 0 Ca (bL,t13,t14,t15,n4,n10) kn kx=aJ (fv t15 t14) (aJ (eA t15 (t13.length:Int)) (ao (Y6.call (bL,(((ae (nth tB t13 (ab t15))):Nat):Int),n10)) λx1=>aJ (decide (x1.1<=(ae x1.2))) (aJ (cZ (x1.1+(ae (nth tB t13 (ab t15)))) 1) (kn (Ca.st ((x1.1+(ae (nth tB t13 (ab t15)))),t13,t14,(bz .i64 t15 1),n4,((aM x1.1 x1.2)++(nth tB t13 (ab t15)))))) aH) aH) aH) (Ca.go kx (n4,(bL,n10))):=cd
theorem aQz(name parts)(k:K1 R):WQ.A (name,parts) k=ao (adJ.call (((ByteArray.size name):Nat):Int)) λx1=>aJ (decide (x1.1<=(ae x1.2))) (aJ (cZ (x1.1+(ae (bS name))) 1) (ao (Ca.call ((x1.1+(ae (bS name))),parts,(parts.length:Int),0,(ai 32 0),((aM x1.1 x1.2)++(bS name)))) λx4=>aJ (decide (0=0/\(0+x4.2.1)<=(ae x4.2.2))) (ao (B5.call (cut x4.2.2 0 x4.2.1)) λx5=>k (WQ.out x5)) aH) aH) aH:=cd
theorem alT(p:List Int)(ps:List (List Int)):qG (p::ps)=jo p.length++p++qG ps:=by simp[qG]
theorem alU(ps:List (List Int))(k:Nat)(h:k < ps.length):qG (ps.drop k)=jo ps[k].length++ps[k]++qG (ps.drop (k+1)):=by rw[au h,alT]
theorem aw5:(WQ.jx 0 Ca):=by
 refine(WQ.mf 0 Ca) (λ(m,ps,n,i,n4,l)=>ps.length - i.toNat) ?_
 rintro⟨m,ps,n,i,n4,l⟩ ⟨rfl,rfl,Sh,k,hk,rfl,hl⟩;have hl:l.length+(qG (ps.drop k)).length<=140737488350000:=hl;have hk:k<=ps.length:=hk;have e2:ab (k:Int)=k:=aq;have e3:ab ((k+1:Nat):Int)=k+1:=aq;by_cases h:k < ps.length
 ·left;have ht:=alU ps k h;have hlen:(qG (ps.drop k)).length=8+ps[k].length+(qG (ps.drop (k+1))).length:=by rw[ht];simp only[ak,cv]
  have hn:nth (.slice (.int .u8)) ps k=ps[k]:=bY (t:= .slice (.int .u8)) h;have Sh:ps.length<=140737488350000:=Sh;have e1:bz .i64 (k:Int) 1=((k+1:Nat):Int):=by rw[fA aq aq];omega
  refine⟨((l++jo ps[k].length++ps[k]).length,ps,(ps.length:Int),((k+1:Nat):Int),n4,l++jo ps[k].length++ps[k]),⟨rfl,rfl,Sh,k+1,by show k+1<=ps.length;omega,rfl,?_⟩,?_,?_,λkn kx=> ?_⟩
  ·show(l++jo ps[k].length++ps[k]).length+(qG (ps.drop (k+1))).length<=_;simp only[ak,cv];omega
  ·show ps.length - ab ((k+1:Nat):Int) < ps.length - ab (k:Int);omega
  ·simp only[EY,Oe,e2,e3,ht,aO];simp only[ak,cv,fB]
  ·have p1:W1 (l.length,(ps[k].length:Int),l):=⟨rfl,by show l.length<=_;omega⟩;rw[TH,aS aq,ba aq aq,e1,e2];simp only[aj,hn,akp p1,ag,bq,abL];have aUP:(l++jo ps[k].length).length=l.length+8:=by simp[cv]
   rw[aUP,aX (az _),Ih aq];simp only[aj];rw[bu (by rw[aUP];omega)];simp only[ak,cv,fB]
 ·right;obtain rfl:k=ps.length:=aq;intro R kn kx;rw[TH,aQ aq];simp only[al,EY,Oe,e2,aI];simp[qG]
theorem ag2:∀ps:List (List Int),8*ps.length<=(qG ps).length
 |[]=>by simp[qG]
 |p::ps=>by rw[alT];have:=ag2 ps;simp only[ak,cv,aF];omega
theorem mK(s:ByteArray):(bS s).length=s.size:=by simp only[bS,da,dv];rfl
theorem aQA:WQ.Ok:=by
 rintro⟨name,ps⟩ hp;have hp:(jo (bS name).length++bS name++qG ps).length<=140737488350000:=hp;have hl:(jo (bS name).length++bS name++qG ps).length=8+(bS name).length+(qG ps).length:=by simp only[ak,cv]
 have Sh:=ag2 ps;have AL:((name.size:Nat):Int)=(((bS name).length:Nat):Int):=by rw[mK]
 rw[aQz,aEF (d:=((name.size:Nat):Int)) trivial,AL];simp only[ag,bq,aBm,cv,az,b8,aj];rw[Ih aq,bu (by rw[cv];omega)];have p2:YY (8+(bS name).length,ps,(ps.length:Int),0,ai 32 0,jo ((bS name).length:Int)++bS name):=by refine⟨by simp only[ak,cv],rfl,by show ps.length<=_;omega,0,aL _,rfl,?_⟩;rw[ay];simp only[ak,cv];omega
 simp only[aj,ar6 p2,ag,EY,Oe,aT,ay];have aEe:cut (jo ((bS name).length:Int)++bS name++qG ps) 0 ((jo ((bS name).length:Int)++bS name).length+(qG ps).length)=X8 (bS name) ps:=by unfold cut;rw[ay,bu (by simp only[ak];omega)];rfl
 have p3:ar5 (X8 (bS name) ps):=hp;rw[aX ⟨trivial,by simp only[ak];omega⟩,aEe];simp only[aj,aKr p3,ag,bq,aw0,bq,anr,tag]
theorem TJ:WQ.RS:=rE [.d .str,.d (.slice tB)] WQ
def abG:=WQ.eY aQA 1 ⟨.e7 aw5,trivial⟩
def alI:(Int×Int)->Prop:=λ(x,n)=>0<=x/\x < 4294967296/\0<=n/\n<=32
def aSe:(Int×Int)->Int:=λ(x,n)=>vw (yN (bA 32 x) n.toNat)
def rM:Fs Tryz.prog alI bq aSe:=eV 248 Tryz.f248 (λ(x,n)=>([.d (.int .u32) x,.d ti n],[])) (λx=>⟨.d (.int .u32) x,[],[]⟩) [av (.int .u32),av ti]
theorem aNS(x n)(k:K1 R):rM.A (x,n) k=aJ (ou n) (aJ (ou (df .i64 32 n)) (k (rM.out (cX .or .u32 (cF .u32 x n) (oq .u32 x (df .i64 32 n))))) aH) aH:=cd
theorem aNT:rM.Ok:=by
 rintro⟨x,n⟩ ⟨h1,h2,h3,h4⟩;obtain⟨n,rfl⟩:=Int.eq_ofNat_of_zero_le h3;have hx:x=vw (bA 32 x):=by rw[iH];have h1:0<=x:=h1;have h2:x < 4294967296:=h2;omega
 have h4:(n:Int)<=32:=h4;rw[aNS];simp(disch:=omega) only[↓S1,↓if_pos,↓if_neg,if_pos,if_neg,bO,bC,S2];have e2:cX .or .u32 (cF .u32 x (n:Int)) (oq .u32 x ((32 - n:Nat):Int))=vw (yN (bA 32 x) n):=by
  conv=>lhs;rw[hx]
  rw[TP,Lv,si];simp only[yN,aa];rw[BitVec.or_comm]
 rw[e2];rfl
theorem aGT:rM.RS:=rE [.d (.int .u32),.d ti] rM
def auI:=rM.eY aNT
theorem El(w:W){k:Int}(h:0<=k/\k<=32):rM.call (vw w,k)=av (vw (yN w k.toNat)):=by have h:alI (vw w,k):=⟨Ye w,by have:=aON w;simpa using this,h.1,h.2⟩;rw[aGT h];show av (vw (yN (bA 32 (vw w)) k.toNat))=_;rw[xg]
def auo:Unit->Prop:=λ_=>True
def alq:Unit->(List Int):=λ_=>vf.l
def Jx:Fs Tryz.prog auo bq alq:=eV 195 Tryz.f195 (λ_=>([],[])) (λx=>⟨.d (.slice (.int .u32)) x,[],[]⟩) [] [] {cg:=[1],res:=[av (.slice (.int .u32))]}
theorem azj(d)(k:K1 R):Jx.A d k=k (Jx.out [1779033703,3144134277,1013904242,2773480762,1359893119,2600822924,528734635,1541459225]):=cd
theorem azk:Jx.Ok:=by intro d _;rw[azj];rfl
theorem aup:Jx.RS:=rE [] Jx
def azl:=Jx.eY azk
def aGs:Unit->Prop:=λ_=>True
def aB4:Unit->(List Int):=λ_=>WX
def afW:Fs Tryz.prog aGs bq aB4:=eV 247 Tryz.f247 (λ_=>([],[])) (λx=>⟨.d (.slice (.int .u32)) x,[],[]⟩) [] [] {cg:=[1],res:=[av (.slice (.int .u32))]}
theorem aM1(d)(k:K1 R):afW.A d k=k (afW.out [1116352408,1899447441,3049323471,3921009573,961987163,1508970993,2453635748,2870763221,3624381080,310598401,607225278,1426881987,1925078388,2162078206,2614888103,3248222580,3835390401,4022224774,264347078,604807628,770255983,1249150122,1555081692,1996064986,2554220882,2821834349,2952996808,3210313671,3336571891,3584528711,113926993,338241895,666307205,773529912,1294757372,1396182291,1695183700,1986661051,2177026350,2456956037,2730485921,2820302411,3259730800,3345764771,3516065817,3600352804,4094571909,275423344,430227734,506948616,659060556,883997877,958139571,1322822218,1537002063,1747873779,1955562222,2024104815,2227730452,2361852424,2428436474,2756734187,3204031479,3329325298]):=cd
theorem aM2:afW.Ok:=by intro d _;rw[aM1];rfl
theorem aGt:afW.RS:=rE [] afW
def aM3:=afW.eY aM2
abbrev JB:=Bs×Nat×(List Int)
abbrev Vq:=Nat×(List Int)
def xF:JB->Vq->((Bs)×(Nat×(List Int))):=λ(eU,outL,n6) y=>(eU,y)
abbrev Vr:=Nat×Int×Int×(List Int)
def Na:JB->Prop:=λ(b,m,l)=>m=l.length/\l.length+zc l.length<=140737488355328
def CK:JB->Vq:=λ(b,m,l)=>(l.length+zc l.length,l++ai (zc l.length) 0)
def Nb:Vr->Prop:=λ(m,n,kv,l)=>0<=n/\n < 18446744073709551616/\∃j:Nat,j<=8/\kv=56 - 8*(j:Int)/\m=l.length/\l.length<=140737488355320+j
def CL:Vr->(Nat×(List Int)):=λ(m,n,kv,l)=>(l.length+(jo n).length - (7 - (kv / 8)).toNat,l++(jo n).drop (7 - (kv / 8)).toNat)
def aag:Bs->Prop:=λb=>b.length<=140737488350000
def XV:Bs->Bs:=λb=>pad b
def pP:Ls Na xF CK:=pD (λ(eU,outL,n6)=>⟨([.d tB eU,bE,bE,jl 6 outL]++aW 31 []),[],(bw 6 ([dm (.vec 5 tb n6)]++bw 28 []))⟩) (λx=>(.exit 0,⟨([.d tB x.1,bE,bE,jl 6 x.2.1]++aW 31 []),[],(bw 6 ([dm (.vec 5 tb x.2.2)]++bw 28 []))⟩))
def pQ:Ls Nb bq CL:=pD (λ(vv,n,kv,aEU)=>⟨([bE,bE,bE,jl 6 vv,.d tu n,.d ti kv]++aW 29 []),[],(bw 6 ([dm (.vec 5 tb aEU)]++bw 28 []))⟩) (λx=>(.exit 2,⟨([bE,bE,bE,jl 6 x.1]++aW 31 []),[],(bw 6 ([dm (.vec 5 tb x.2)]++bw 28 []))⟩))
def sW:Fs Tryz.prog aag bq XV:=eV 194 Tryz.f194 (λb=>([.d tB b],[])) (λx=>⟨.d tB x,[],[]⟩) [av tB] [] {cg:=[6],loops:=lz [(3,{bg:=[0,3],sites:=[6],owns:=[⟨3,[],6,114⟩]}),(7,{bg:=[3,4,5],sites:=[6],owns:=[⟨3,[],6,114⟩]})],outs:=lu [(3,{bg:=[0,3],sites:=[6]},{bg:=[2]}),(7,{bg:=[3],sites:=[6]},{bg:=[2]})],fa:=mc [(3,pP.E),(7,pQ.E)],res:=[av tB]}
theorem agz:pP.RS:=rL [.d tB,.n,.d tB] pP
theorem Kd(eU outL n6)(kn:K2 R)(kx:K3 R):sW.R 0 pP (eU,outL,n6) kn kx=aJ (C3 (kj ((outL:Nat):Int) 64) 56) (aJ (decide (outL<=(ae n6))) (aJ (cZ (outL+1) 1) (kn (pP.st (eU,(outL+1),((aM outL n6)++ [0])))) aH) aH) (pP.go kx (eU,(outL,n6))):=cd
theorem agA:pQ.RS:=rL [.n,.d tu,.d ti,.d tB] pQ
theorem Ke(vv n kv aEU)(kn:K2 R)(kx:K3 R):sW.R 1 pQ (vv,n,kv,aEU) kn kx=aJ (AM kv 0) (aJ (ou kv) (aJ (decide (vv<=(ae aEU))) (aJ (cZ (vv+1) 1) (kn (pQ.st ((vv+1),n,(df .i64 kv 8),((aM vv aEU)++ [(dR .u8 (cF .u64 n kv))])))) aH) aH) aH) (pQ.go kx (vv,aEU)):=cd
theorem azt(b)(k:K1 R):sW.A b k=aJ (cZ (0+(ae b)) 1) (aJ (decide ((0+(ae b))<=(ae ((aM 0 (ai 0 0))++b)))) (aJ (cZ ((0+(ae b))+1) 1) (ao (pP.call (b,((0+(ae b))+1),((aM (0+(ae b)) ((aM 0 (ai 0 0))++b))++ [128]))) λx1=>ao (pQ.call (x1.2.1,(fO .u64 8 (dR .u64 (x1.1.length:Int))),56,x1.2.2)) λx2=>aJ (decide (0=0/\(0+x2.1)<=(ae x2.2))) (k (sW.out (cut x2.2 0 x2.1))) aH) aH) aH) aH:=cd
theorem aiX:(sW.jx 0 pP):=by
 refine(sW.mf 0 pP) (λ(b,m,l)=>zc l.length) ?_
 rintro⟨b,m,l⟩ ⟨rfl,hl⟩;have hl:l.length+zc l.length<=140737488355328:=hl;by_cases h:l.length%64=56
 ·right;intro R kn kx;have hz:zc l.length=0:=by unfold zc;omega
  rw[Kd];simp(disch:=omega) only[↓S1,↓if_pos,↓if_neg,if_pos,if_neg,bO,bC,S2,xF,CK,hz,cD,List.replicate_zero,bK]
 ·left;have hz:zc l.length=zc (l.length+1)+1:=by unfold zc;omega
  refine⟨(b,l.length+1,l++ [0]),⟨by simp,by simp only[ak,aF,bp,aV];omega⟩,by simp only[ak,aF,bp,aV];omega,?_,λkn kx=> ?_⟩
  ·simp only[xF,CK,ak,aF,bp,aV,hz,aO,nY,aY,tn];rw[show l.length+1+zc (l.length+1)=l.length+(zc (l.length+1)+1) by omega]
  ·rw[Kd];simp(disch:=omega) only[↓S1,↓if_pos,↓if_neg,if_pos,if_neg,bO,bC,S2,bN]
theorem aqt(n:Int)(j:Nat)(h:j < 8):(jo n).drop j=n / 2^(56 - 8*j)%256::(jo n).drop (j+1):=by rcases(by omega:j=0\/j=1\/j=2\/j=3\/j=4\/j=5\/j=6\/j=7) with rfl | rfl | rfl | rfl | rfl | rfl | rfl | rfl <;> simp[jo]
theorem ahw(n:Int)(k:Nat)(h1:k<=64):dR .u8 (cF .u64 n (k:Int))=n / 2^k%256:=by
 rw[WS,iH,cF];have e:min (k:Int).toNat IntKind.u64.bits=k:=by simp only[IntKind.bits];omega
 rw[e,lC _ (Int.le_of_lt (Int.pow_pos aq))];rfl
theorem aiY:(sW.jx 1 pQ):=by
 refine(sW.mf 1 pQ) (λ(m,n,kv,l)=>(kv+8).toNat) ?_
 rintro⟨m,n,kv,l⟩ ⟨h1,h2,j,hj,rfl,rfl,hl⟩;have hl:l.length<=140737488355320+j:=hl;have e1:(7 - ((56 - 8*(j:Int)) / 8)).toNat=j:=aq;by_cases h:j < 8
 ·left;have e2:df .i64 (56 - 8*(j:Int)) 8=56 - 8*((j+1:Nat):Int):=by rw[fI aq aq];omega
  have e3:(7 - ((56 - 8*((j+1:Nat):Int)) / 8)).toNat=j+1:=aq;have e4:(56 - 8*(j:Int))=((56 - 8*j:Nat):Int):=aq;refine⟨(l.length+1,n,56 - 8*((j+1:Nat):Int),l++ [n / 2^(56 - 8*j)%256]),⟨h1,h2,j+1,aq,rfl,by simp,by simp only[ak,aF,bp];omega⟩,by simp only;omega,?_,λkn kx=> ?_⟩
  ·simp only[bq,CL,e1,e3,aqt n j h,ak,aF,bp,aO,nY,aY,cv];rw[show l.length+(0+1)+8 - (j+1)=l.length+8 - j by omega]
  ·rw[Ke,e2,e4,ahw n _ aq];simp(disch:=omega) only[↓S1,↓if_pos,↓if_neg,if_pos,if_neg,bO,bC,S2,bN]
 ·right;obtain rfl:j=8:=aq;intro R kn kx;rw[Ke];simp(disch:=omega) only[↓S1,↓if_pos,↓if_neg,if_pos,if_neg,bO,bC,S2,bq,CL,e1];simp[jo]
theorem azu:sW.Ok:=by
 intro b hb;have hb:b.length<=140737488350000:=hb;have hz:zc (b++ [128]).length=DW b.length:=by simp only[ak,aF,bp,zc,DW];omega
 have bdb:DW b.length < 64:=by unfold DW;omega
 have p1:Na (b,b.length+1,b++ [128]):=⟨by simp,by rw[hz];simp only[ak,aF,bp] <;> omega⟩;have e1:dR .u64 ((b.length:Nat):Int)=((b.length:Nat):Int):=by rw[TL,iH];omega
 have e2:fO .u64 8 ((b.length:Nat):Int)=8*(b.length:Int):=by unfold fO;rw[wrap_u64,iH];omega
 have e3:aM b.length b=b:=bN;rw[azt];simp only[List.replicate_zero,List.take_nil,aY,aV,e1,e2,e3];simp(disch:=omega) only[↓S1,↓if_pos,↓if_neg,if_pos,if_neg,bO,bC,S2,agz p1,xF,CK,hz];have p2:Nb ((b++ [128]).length+DW b.length,8*(b.length:Int),56,b++ [128]++ai (DW b.length) 0):=by refine⟨aq,aq,0,aq,rfl,by simp only[ak,aF,bp,dd] <;> omega,?_⟩;simp only[ak,aF,bp,dd];omega
 simp(disch:=omega) only[↓S1,↓if_pos,↓if_neg,if_pos,if_neg,bO,bC,S2,e1,e2,agA p2,bq,CL];have e5:(7 - ((56:Int) / 8)).toNat=0:=eX;rw[e5,ay];have e6:(b++ [128]++ai (DW b.length) 0).length+(jo (8*(b.length:Int))).length - 0=(b++ [128]++ai (DW b.length) 0++jo (8*(b.length:Int))).length:=by rw[@ak _ _ (jo _)];omega
 rw[e6,if_pos (az _)];unfold cut;rw[ay,bN];simp only[bq,XV,pad,aO,nY,aY]
theorem auy:sW.RS:=rE [.d tB] sW
def azv:=sW.eY azu 2 ⟨.e7 aiX,⟨.e7 aiY,trivial⟩⟩
abbrev aan:=Bs×Nat×Int×(List Int)
abbrev aao:=Nat×Int×(List Int)
def P6:aan->Prop:=λ(b,m,i,l)=>64<=b.length/\∃k:Nat,k<=16/\i=k/\k=m/\l=wl ((words b).take k)
def Ni:aan->(Nat×(List Int)):=λ(b,m,i,l)=>(16,wl (words b))
def P7:aao->Prop:=λ(m,i,l)=>∃ws:List W,16<=ws.length/\ws.length<=64/\l=wl ws/\m=ws.length/\i=(ws.length:Nat)
def FV:aao->(Nat×(List Int)):=λ(m,i,l)=>(64,wl (aO7 (aOL l) (64 - l.length)))
def agH:Bs->Prop:=λb=>64<=b.length
def agG:Bs->(List Int):=λb=>wl (sched b)
def sY:Ls P6 bq Ni:=pD (λ(eU,wL,i,n49)=>⟨([.d tB eU,bE,bE,jl 49 wL,.d ti i]++aW 94 []),[],(bw 49 ([dm (.vec 260 (.int .u32) n49)]++bw 49 []))⟩) (λx=>(.exit 0,⟨([bE,bE,bE,jl 49 x.1]++aW 95 []),[],(bw 49 ([dm (.vec 260 (.int .u32) x.2)]++bw 49 []))⟩))
def sZ:Ls P7 bq FV:=pD (λ(abq,fk,yg)=>⟨([bE,bE,bE,jl 49 abq,bE,.d ti fk]++aW 93 []),[],(bw 49 ([dm (.vec 260 (.int .u32) yg)]++bw 49 []))⟩) (λx=>(.exit 2,⟨([bE,bE,bE,jl 49 x.1]++aW 95 []),[],(bw 49 ([dm (.vec 260 (.int .u32) x.2)]++bw 49 []))⟩))
def yO:Fs Tryz.prog agH bq agG:=eV 246 Tryz.f246 (λb=>([.d tB b],[])) (λx=>⟨.d (.slice (.int .u32)) x,[],[]⟩) [av tB] [auI] {loops:=lz [(3,{bg:=[0,3,4],sites:=[49],owns:=[⟨3,[],49,265⟩]}),(7,{bg:=[3,5],sites:=[49],owns:=[⟨3,[],49,265⟩]})],outs:=lu [(3,{bg:=[3],sites:=[49]},{bg:=[2]}),(7,{bg:=[3],sites:=[49]},{bg:=[2]})],fa:=mc [(3,sY.E),(7,sZ.E)],res:=[av (.slice (.int .u32))]}
theorem ai0:sY.RS:=rL [.d tB,.n,.d ti,.d (.slice (.int .u32))] sY
theorem Nj(eU wL i n49)(kn:K2 R)(kx:K3 R):yO.R 0 sY (eU,wL,i,n49) kn kx=aJ (fv i 16) (aJ (eA (fO .i64 4 i) (eU.length:Int)) (aJ (eA (bz .i64 (fO .i64 4 i) 1) (eU.length:Int)) (aJ (eA (bz .i64 (fO .i64 4 i) 2) (eU.length:Int)) (aJ (eA (bz .i64 (fO .i64 4 i) 3) (eU.length:Int)) (aJ (decide (wL<=(ae n49))) (aJ (cZ (wL+1) 4) (kn (sY.st (eU,(wL+1),(bz .i64 i 1),((aM wL n49)++ [(cX .or .u32 (cX .or .u32 (cX .or .u32 (oq .u32 (dR .u32 (nth tb eU (ab (fO .i64 4 i)))) 24) (oq .u32 (dR .u32 (nth tb eU (ab (bz .i64 (fO .i64 4 i) 1)))) 16)) (oq .u32 (dR .u32 (nth tb eU (ab (bz .i64 (fO .i64 4 i) 2)))) 8)) (dR .u32 (nth tb eU (ab (bz .i64 (fO .i64 4 i) 3)))))])))) aH) aH) aH) aH) aH) aH) (sY.go kx (wL,n49)):=cd
theorem ai1:sZ.RS:=rL [.n,.d ti,.d (.slice (.int .u32))] sZ
theorem Nk(abq fk yg)(kn:K2 R)(kx:K3 R):yO.R 1 sZ (abq,fk,yg) kn kx=aJ (fv fk 64) (aJ (eA (df .i64 fk 15) ((abq:Nat):Int)) (aJ (decide ((0+(ab (df .i64 fk 15))) < (ae yg))) (aJ (decide ((((0+(ab (df .i64 fk 15)))*1)+0)=(0+((ab (df .i64 fk 15))*1)))) (aJ (eA (df .i64 fk 2) ((abq:Nat):Int)) (aJ (decide ((0+(ab (df .i64 fk 2))) < (ae yg))) (aJ (decide ((((0+(ab (df .i64 fk 2)))*1)+0)=(0+((ab (df .i64 fk 2))*1)))) (ao (rM.call ((nth (.int .u32) yg (0+(ab (df .i64 fk 15)))),7)) λx1=>ao (rM.call ((nth (.int .u32) yg (0+(ab (df .i64 fk 15)))),18)) λx2=>ao (rM.call ((nth (.int .u32) yg (0+(ab (df .i64 fk 2)))),17)) λx3=>ao (rM.call ((nth (.int .u32) yg (0+(ab (df .i64 fk 2)))),19)) λx4=>aJ (eA (df .i64 fk 16) ((abq:Nat):Int)) (aJ (decide ((0+(ab (df .i64 fk 16))) < (ae yg))) (aJ (decide ((((0+(ab (df .i64 fk 16)))*1)+0)=(0+((ab (df .i64 fk 16))*1)))) (aJ (eA (df .i64 fk 7) ((abq:Nat):Int)) (aJ (decide ((0+(ab (df .i64 fk 7))) < (ae yg))) (aJ (decide ((((0+(ab (df .i64 fk 7)))*1)+0)=(0+((ab (df .i64 fk 7))*1)))) (aJ (decide (abq<=(ae yg))) (aJ (cZ (abq+1) 4) (kn (sZ.st ((abq+1),(bz .i64 fk 1),((aM abq yg)++ [(bz .u32 (bz .u32 (bz .u32 (nth (.int .u32) yg (0+(ab (df .i64 fk 16)))) (cX .xor .u32 (cX .xor .u32 x1 x2) (cF .u32 (nth (.int .u32) yg (0+(ab (df .i64 fk 15)))) 3))) (nth (.int .u32) yg (0+(ab (df .i64 fk 7))))) (cX .xor .u32 (cX .xor .u32 x3 x4) (cF .u32 (nth (.int .u32) yg (0+(ab (df .i64 fk 2)))) 10)))])))) aH) aH) aH) aH) aH) aH) aH) aH) aH) aH) aH) aH) aH) aH) (sZ.go kx (abq,yg)):=cd
theorem aGY(b)(k:K1 R):yO.A b k=ao (sY.call (b,0,0,([]:List Int))) λx1=>ao (sZ.call (x1.1,16,x1.2)) λal6=>aJ (decide (0=0/\(0+al6.1)<=(ae al6.2))) (k (yO.out (cut al6.2 0 al6.1))) aH:=cd
theorem C9(ws:List W):(wl ws).length=ws.length:=by simp[wl]
theorem aCu(m:List W):∀n,aO7 (ext m) n=aO7 m (n+1)
 | 0=>rfl
 |n+1=>by rw[aO7,aCu m n];rfl
theorem aT4(b:List Int)(k:Nat)(h:4*k+3 < b.length):be b k=aWL (nth (.int .u8) b (4*k)) (nth (.int .u8) b (4*k+1)) (nth (.int .u8) b (4*k+2)) (nth (.int .u8) b (4*k+3)):=rfl
theorem api:(yO.jx 0 sY):=by
 refine(yO.mf 0 sY) (λ(b,m,i,l)=>16 - m) ?_
 rintro⟨b,m,i,l⟩ ⟨hb,k,hk,rfl,rfl,rfl⟩;have hb:64<=b.length:=hb;have hl:(wl ((words b).take k)).length=k:=by rw[C9,bV,fL];omega
 by_cases h:k < 16
 ·left;refine⟨(b,k+1,((k+1:Nat):Int),wl ((words b).take (k+1))),⟨hb,k+1,aq,rfl,rfl,rfl⟩,by simp only;omega,rfl,λkn kx=> ?_⟩;rw[Nj];simp(disch:=omega) only[↓S1,↓if_pos,↓if_neg,if_pos,if_neg,bO,bC,S2,hl,bu (Nat.le_of_eq hl)];rw[iN (by rw[fL];exact h)];simp only[aBc,TP,si,wl,ui,cj,fK];have e:(words b)[k]'(by rw[fL];exact h)=be b k:=by simp[words]
  rw[e,aT4 b k aq];rfl
 ·right;obtain rfl:k=16:=aq;intro R kn kx;rw[Nj];simp(disch:=omega) only[↓S1,↓if_pos,↓if_neg,if_pos,if_neg,bO,bC,S2,bq,Ni];rw[bu (by rw[fL];omega)]
theorem apj:(yO.jx 1 sZ):=by
 refine(yO.mf 1 sZ) (λ(m,i,l)=>64 - m) ?_
 rintro⟨m,i,l⟩ ⟨ws,h1,h2,rfl,rfl,rfl⟩;have hl:=C9 ws;by_cases h:ws.length < 64
 ·left;refine⟨(ws.length+1,((ws.length+1:Nat):Int),wl (ext ws)),⟨ext ws,by rw[yo];omega,by rw[yo];omega,rfl,by rw[yo],by rw[yo]⟩,by simp only;omega,?_,λkn kx=> ?_⟩
  ·simp only[bq,FV,JT,C9,yo];rw[aCu,show 64 - (ws.length+1)+1=64 - ws.length by omega]
  ·rw[Nk];simp(disch:=omega) only[↓S1,↓if_pos,↓if_neg,if_pos,if_neg,bO,bC,S2,hl,aV,jJ,cD,Yf ws _ (by omega:ws.length - 15 < ws.length),Yf ws _ (by omega:ws.length - 2 < ws.length),Yf ws _ (by omega:ws.length - 16 < ws.length),Yf ws _ (by omega:ws.length - 7 < ws.length),El,si,Lv,Hv,bu (Nat.le_of_eq hl)];unfold ext wl;rw[ui];rfl
 ·right;have wZ:ws.length=64:=aq;intro R kn kx;rw[Nk];simp(disch:=omega) only[↓S1,↓if_pos,↓if_neg,if_pos,if_neg,bO,bC,S2,bq,FV,hl,wZ,JT,Nat.sub_self];rfl
theorem aGZ:yO.Ok:=by
 intro b hb;have p1:P6 (b,0,0,[]):=⟨hb,0,aq,rfl,rfl,rfl⟩;have p2:P7 (16,16,wl (words b)):=⟨words b,by rw[fL];omega,by rw[fL];omega,rfl,by rw[fL],by rw[fL];rfl⟩;have hs:(sched b).length=64:=by unfold sched;rw[EA,fL]
 rw[aGY];simp(disch:=omega) only[↓S1,↓if_pos,↓if_neg,if_pos,if_neg,bO,bC,S2,ai0 p1,bq,Ni,ai1 p2,bq,FV,JT,C9,fL,aV,Nat.reduceSub];have e:aO7 (words b) 48=sched b:=rfl;rw[e,hs,if_pos (az _)];unfold cut;rw[ay,bu (by rw[C9];omega)];simp only[bq,agG]
theorem azF:yO.RS:=rE [.d tB] yO
def aG0:=yO.eY aGZ 2 ⟨.e7 api,⟨.e7 apj,trivial⟩⟩
abbrev MU:=(List Int)×(List Int)×(List Int)×Nat×Int×(List Int)
abbrev aab:=Nat×(List Int)
def GX:MU->aab->(((List Int))×(Nat×(List Int))):=λ(Hd,wv,kv,vL,i,n18) y=>(Hd,y)
abbrev MX:=(List Int)×Nat×Int×(List Int)
def zG:MX->(List Int)->((Nat)×((List Int))):=λ(aA7,apY,fk,Pw) y=>(apY,y)
def P2:MU->Prop:=λ(h,wv,kv,m,i,l)=>∃(s:St) (ws:List W) (k:Nat),h=s.l/\wv=wl ws/\ws.length=64/\k<=64/\i=k/\kv=WX/\m=8/\l=(rounds ws s k).l
def MV:MU->aab:=λ(h,wv,kv,m,i,l)=>(8,(rounds (aOL wv) (apD h) 64).l)
def P3:MX->Prop:=λ(h,m,i,l)=>h.length=8/\l.length=8/\m=8/\∃k:Nat,k<=8/\i=k
def FA:MX->(List Int):=λ(h,m,i,l)=>from_ (λi x=>bz .u32 x (nth (.int .u32) h i)) i.toNat l
def af6:((List Int)×Bs)->Prop:=λ(h,b)=>(∃s:St,h=s.l)/\64<=b.length
def af5:((List Int)×Bs)->(List Int):=λ(h,b)=>(W5 (apD h) b).l
def ql:Ls P2 GX MV:=pD (λ(Hd,wv,kv,vL,i,n18)=>⟨([.d (.slice (.int .u32)) Hd]++aW 4 ([.d (.slice (.int .u32)) wv,.d (.slice (.int .u32)) kv,jl 18 vL,.d ti i]++aW 146 [])),[],(bw 18 ([dm (.vec 260 (.int .u32) n18)]++bw 136 []))⟩) (λx=>(.exit 0,⟨([.d (.slice (.int .u32)) x.1]++aW 6 ([jl 18 x.2.1]++aW 147 [])),[],(bw 18 ([dm (.vec 260 (.int .u32) x.2.2)]++bw 136 []))⟩))
def sU:Ls P3 zG FA:=pD (λ(aA7,apY,fk,Pw)=>⟨([.d (.slice (.int .u32)) aA7]++aW 6 ([jl 18 apY]++aW 6 ([.d ti fk]++aW 140 []))),[],(bw 18 ([dm (.vec 260 (.int .u32) Pw)]++bw 136 []))⟩) (λx=>(.exit 2,⟨(aW 7 ([jl 18 x.1]++aW 147 [])),[],(bw 18 ([dm (.vec 260 (.int .u32) x.2)]++bw 136 []))⟩))
def yF:Fs Tryz.prog af6 bq af5:=eV 196 Tryz.f196 (λ(h,b)=>([.d (.slice (.int .u32)) h,.d tB b],[])) (λx=>⟨.d (.slice (.int .u32)) x,[],[]⟩) [av (.slice (.int .u32)),av tB] [aG0,aM3,auI] {cg:=[18,137],loops:=lz [(5,{bg:=[0,5,6,7,8],sites:=[18,137],owns:=[⟨7,[],18,0⟩]}),(14,{bg:=[0,7,14],sites:=[18]})],outs:=lu [(5,{bg:=[0,7],sites:=[18]},{bg:=[4]}),(14,{bg:=[7],sites:=[18]},{bg:=[4]})],fa:=mc [(5,ql.E),(14,sU.E)],res:=[av (.slice (.int .u32))]}
theorem aiT:ql.RS:=rL [.d (.slice (.int .u32)),.d (.slice (.int .u32)),.d (.slice (.int .u32)),.n,.d ti,.d (.slice (.int .u32))] ql
theorem MW(Hd wv kv vL i n18)(kn:K2 R)(kx:K3 R):yF.R 0 ql (Hd,wv,kv,vL,i,n18) kn kx=aJ (fv i 64) (aJ (eA 4 ((vL:Nat):Int)) (aJ (decide (4 < (ae n18))) (ao (rM.call ((nth (.int .u32) n18 4),6)) λx1=>aJ (eA 4 ((vL:Nat):Int)) (aJ (decide (4 < (ae n18))) (ao (rM.call ((nth (.int .u32) n18 4),11)) λx2=>aJ (eA 4 ((vL:Nat):Int)) (aJ (decide (4 < (ae n18))) (ao (rM.call ((nth (.int .u32) n18 4),25)) λx3=>aJ (eA 4 ((vL:Nat):Int)) (aJ (decide (4 < (ae n18))) (aJ (eA 5 ((vL:Nat):Int)) (aJ (decide (5 < (ae n18))) (aJ (eA 4 ((vL:Nat):Int)) (aJ (decide (4 < (ae n18))) (aJ (eA 6 ((vL:Nat):Int)) (aJ (decide (6 < (ae n18))) (aJ (eA 7 ((vL:Nat):Int)) (aJ (decide (7 < (ae n18))) (aJ (eA i (kv.length:Int)) (aJ (eA i (wv.length:Int)) (aJ (eA 0 ((vL:Nat):Int)) (aJ (decide (0 < (ae n18))) (ao (rM.call ((nth (.int .u32) n18 0),2)) λx4=>aJ (eA 0 ((vL:Nat):Int)) (aJ (decide (0 < (ae n18))) (ao (rM.call ((nth (.int .u32) n18 0),13)) λx5=>aJ (eA 0 ((vL:Nat):Int)) (aJ (decide (0 < (ae n18))) (ao (rM.call ((nth (.int .u32) n18 0),22)) λx6=>aJ (eA 0 ((vL:Nat):Int)) (aJ (decide (0 < (ae n18))) (aJ (eA 1 ((vL:Nat):Int)) (aJ (decide (1 < (ae n18))) (aJ (eA 0 ((vL:Nat):Int)) (aJ (decide (0 < (ae n18))) (aJ (eA 2 ((vL:Nat):Int)) (aJ (decide (2 < (ae n18))) (aJ (eA 1 ((vL:Nat):Int)) (aJ (decide (1 < (ae n18))) (aJ (eA 2 ((vL:Nat):Int)) (aJ (decide (2 < (ae n18))) (aJ (eA 0 ((vL:Nat):Int)) (aJ (decide (0 < (ae n18))) (aJ (eA 1 ((vL:Nat):Int)) (aJ (decide (1 < (ae n18))) (aJ (eA 2 ((vL:Nat):Int)) (aJ (decide (2 < (ae n18))) (aJ (eA 3 ((vL:Nat):Int)) (aJ (decide (3 < (ae n18))) (aJ (eA 4 ((vL:Nat):Int)) (aJ (decide (4 < (ae n18))) (aJ (eA 5 ((vL:Nat):Int)) (aJ (decide (5 < (ae n18))) (aJ (eA 6 ((vL:Nat):Int)) (aJ (decide (6 < (ae n18))) (kn (ql.st (Hd,wv,kv,8,(bz .i64 i 1),[(bz .u32 (bz .u32 (bz .u32 (bz .u32 (bz .u32 (bz .u32 (nth (.int .u32) n18 7) (cX .xor .u32 (cX .xor .u32 x1 x2) x3)) (cX .xor .u32 (cX .and .u32 (nth (.int .u32) n18 4) (nth (.int .u32) n18 5)) (cX .and .u32 (aQN .u32 (nth (.int .u32) n18 4)) (nth (.int .u32) n18 6)))) (nth (.int .u32) kv (ab i))) (nth (.int .u32) wv (ab i))) (cX .xor .u32 (cX .xor .u32 x4 x5) x6)) (cX .xor .u32 (cX .xor .u32 (cX .and .u32 (nth (.int .u32) n18 0) (nth (.int .u32) n18 1)) (cX .and .u32 (nth (.int .u32) n18 0) (nth (.int .u32) n18 2))) (cX .and .u32 (nth (.int .u32) n18 1) (nth (.int .u32) n18 2)))),(nth (.int .u32) n18 0),(nth (.int .u32) n18 1),(nth (.int .u32) n18 2),(bz .u32 (nth (.int .u32) n18 3) (bz .u32 (bz .u32 (bz .u32 (bz .u32 (nth (.int .u32) n18 7) (cX .xor .u32 (cX .xor .u32 x1 x2) x3)) (cX .xor .u32 (cX .and .u32 (nth (.int .u32) n18 4) (nth (.int .u32) n18 5)) (cX .and .u32 (aQN .u32 (nth (.int .u32) n18 4)) (nth (.int .u32) n18 6)))) (nth (.int .u32) kv (ab i))) (nth (.int .u32) wv (ab i)))),(nth (.int .u32) n18 4),(nth (.int .u32) n18 5),(nth (.int .u32) n18 6)]))) aH) aH) aH) aH) aH) aH) aH) aH) aH) aH) aH) aH) aH) aH) aH) aH) aH) aH) aH) aH) aH) aH) aH) aH) aH) aH) aH) aH) aH) aH) aH) aH) aH) aH) aH) aH) aH) aH) aH) aH) aH) aH) aH) aH) aH) aH) aH) aH) aH) aH) (ql.go kx (Hd,(vL,n18))):=cd
theorem aiU:sU.RS:=rL [.d (.slice (.int .u32)),.n,.d ti,.d (.slice (.int .u32))] sU
theorem MY(aA7 apY fk Pw)(kn:K2 R)(kx:K3 R):yF.R 1 sU (aA7,apY,fk,Pw) kn kx=aJ (fv fk 8) (aJ (eA fk ((apY:Nat):Int)) (aJ (decide ((0+(ab fk)) < (ae Pw))) (aJ (decide ((((0+(ab fk))*1)+0)=(0+((ab fk)*1)))) (aJ (eA fk (aA7.length:Int)) (aJ (eA fk ((apY:Nat):Int)) (aJ (decide ((0+(ab fk)) < (ae Pw))) (aJ (decide ((((0+(ab fk))*1)+0)=(0+((ab fk)*1)))) (aJ (decide ((0+(ab fk)) < (ae Pw))) (kn (sU.st (aA7,apY,(bz .i64 fk 1),(gF Pw (0+(ab fk)) (bz .u32 (nth (.int .u32) Pw (0+(ab fk))) (nth (.int .u32) aA7 (ab fk))))))) aH) aH) aH) aH) aH) aH) aH) aH) (sU.go kx (apY,Pw)):=cd
theorem aGu(h b)(k:K1 R):yF.A (h,b) k=ao (yO.call b) λx1=>ao (afW.call ()) λx2=>aJ (cZ (0+(ae h)) 4) (ao (ql.call (h,x1,x2,(0+(ae h)),0,((aM 0 (ai 0 0))++h))) λbaL=>ao (sU.call (baL.1,baL.2.1,0,baL.2.2)) λvG=>aJ (decide (0=0/\(0+vG.1)<=(ae vG.2))) (k (yF.out (cut vG.2 0 vG.1))) aH) aH:=cd
theorem aKG(w:W):aQN .u32 (vw w)=vw (~~~w):=by have e:(if IntKind.u32.signed then -1 else IntKind.u32.max:Int)=vw (BitVec.allOnes 32):=rfl;unfold aQN;rw[e,si];simp only[BitVec.allOnes_xor]
theorem aWP(e f g:W):(e &&& f)^^^(~~~e &&& g)=g^^^(e &&& (f^^^g)):=by
 ext i hi
 simp only[BitVec.getElem_xor,BitVec.getElem_and,BitVec.getElem_not];cases e[i] <;> cases f[i] <;> cases g[i] <;> rfl
theorem aVa(a b c:W):(a &&& b)^^^(a &&& c)^^^(b &&& c)=(a &&& b) ||| (c &&& (a ||| b)):=by
 ext i hi
 simp only[BitVec.getElem_xor,BitVec.getElem_and,BitVec.getElem_or];cases a[i] <;> cases b[i] <;> cases c[i] <;> rfl
theorem ao4:(yF.jx 0 ql):=by
 refine(yF.mf 0 ql) (λ(h,wv,kv,m,i,l)=>64 - i.toNat) ?_
 rintro⟨h,wv,kv,m,i,l⟩ ⟨s,ws,k,rfl,rfl,hw,hk,rfl,rfl,rfl,rfl⟩;by_cases fF:k < 64
 ·left;refine⟨(s.l,wl ws,WX,8,((k+1:Nat):Int),(rounds ws s (k+1)).l),⟨s,ws,k+1,rfl,rfl,hw,aq,rfl,rfl,rfl,rfl⟩,by simp only;omega,rfl,λkn kx=> ?_⟩;rw[MW];generalize hv:rounds ws s k=v;have t1:∀w:W,rM.call (vw w,6)=av (vw (yN w 6)):=λw=>El w aq
  have t2:∀w:W,rM.call (vw w,11)=av (vw (yN w 11)):=λw=>El w aq
  have t3:∀w:W,rM.call (vw w,25)=av (vw (yN w 25)):=λw=>El w aq
  have t4:∀w:W,rM.call (vw w,2)=av (vw (yN w 2)):=λw=>El w aq
  have t5:∀w:W,rM.call (vw w,13)=av (vw (yN w 13)):=λw=>El w aq
  have t6:∀w:W,rM.call (vw w,22)=av (vw (yN w 22)):=λw=>El w aq
  rw[n0,n1,n2,n3,n4,n5,n6,n7,t1,ag,t2,ag,t3,ag,t4,ag,t5,ag,t6,ag];simp(disch:=omega) only[↓S1,↓if_pos,↓if_neg,if_pos,if_neg,bO,bC,S2,St.asm,Y1,C9,hw,asl k fF,Yf ws k aq,si,Hv,aKG,aWP,aVa];show kn _=kn (ql.st (s.l,wl ws,WX,8,((k+1:Nat):Int),(mf (rounds ws s k) (kw k) (ws.getD k 0)).l));rw[hv];rfl
 ·right;obtain rfl:k=64:=aq;intro R kn kx;rw[MW];simp(disch:=omega) only[↓S1,↓if_pos,↓if_neg,if_pos,if_neg,bO,bC,S2,GX,MV,JT,qq]
theorem ao5:(yF.jx 1 sU):=by
 refine(yF.mf 1 sU) (λ(h,m,i,l)=>8 - i.toNat) ?_
 rintro⟨h,m,i,l⟩ ⟨hh,hl,rfl,k,hk,rfl⟩;have hl:l.length=8:=hl;have hh:h.length=8:=hh;by_cases fF:k < 8
 ·left;have hn:nth (.int .u32) l k=l[k]:=bY (t:= .int .u32) aq;refine⟨(h,8,((k+1:Nat):Int),l.set k (bz .u32 l[k] (nth (.int .u32) h k))),⟨hh,by simpa using hl,rfl,k+1,aq,rfl⟩,by simp only;omega,?_,λkn kx=> ?_⟩
  ·simp only[zG,FA,aa];rw[N8 (λi x=>bz .u32 x (nth (.int .u32) h i)) l k aq]
  ·rw[MY];simp(disch:=omega) only[↓S1,↓if_pos,↓if_neg,if_pos,if_neg,bO,bC,S2,hl,hh,aV,jJ,cD,hn]
 ·right;obtain rfl:k=8:=aq;intro R kn kx;rw[MY];simp(disch:=omega) only[↓S1,↓if_pos,↓if_neg,if_pos,if_neg,bO,bC,S2,zG,FA];rw[Tx _ _ _ aq]
theorem aVb(s:St)(b:List Int):from_ (λi x=>bz .u32 x (nth (.int .u32) s.l i)) 0 (rounds (sched b) s 64).l=(W5 s b).l:=by unfold W5;generalize rounds (sched b) s 64=v;obtain⟨a1,b1,c1,d1,f1,g1,h1,i1⟩:=v;simp only[St.l,from_,List.mapIdx_cons,List.mapIdx_nil,Nat.not_lt_zero,bC,aV,Nat.reduceAdd];simp only[nth,nU,tm,Hv]
theorem aGv:yF.Ok:=by
 rintro⟨h,b⟩ ⟨⟨s,rfl⟩,hb⟩;have p0:agH b:=hb;have aO2:(sched b).length=64:=by unfold sched;rw[EA,fL]
 have p1:P2 (s.l,wl (sched b),WX,8,0,s.l):=⟨s,sched b,0,rfl,rfl,aO2,aq,rfl,rfl,rfl,rfl⟩;have p2:P3 (s.l,8,0,(rounds (sched b) s 64).l):=⟨rfl,rfl,rfl,0,aq,rfl⟩;have e0:0+s.l.length=8:=rfl;have e1:aM 0 (ai 0 (0:Int))++s.l=s.l:=rfl;rw[aGu];simp(disch:=omega) only[↓S1,↓if_pos,↓if_neg,if_pos,if_neg,bO,bC,S2,azF p0,bq,agG,aGt (d:=()) trivial,bq,aB4,e0,e1,aiT p1,GX,MV,JT,qq,aiU p2,zG,FA,aT,aVb];have e2:(W5 s b).l.length=8:=rfl;have e3:cut (W5 s b).l 0 8=(W5 s b).l:=rfl;simp only[e2,aV,az,bO,e3,bq,af5,qq]
theorem aza:yF.RS:=rE [.d (.slice (.int .u32)),.d tB] yF
def aGw:=yF.eY aGv 2 ⟨.e7 ao4,⟨.e7 ao5,trivial⟩⟩
abbrev XX:=Bs×(List Int)×Int×Bs
def FQ:XX->(List Int)->((Bs)×((List Int))):=λ(p,h,i,n2) y=>(n2,y)
abbrev XY:=(List Int)×Int×Bs×Bs
def FR:XY->Bs->((Bs)×(Bs)):=λ(Hd,fk,mW,n6) y=>(mW,y)
def aak:XX->Prop:=λ(p,h,i,n2)=>p.length%64=0/\p.length<=140737488355328/\∃(s:St) (k:Nat),h=s.l/\i=((64*k:Nat):Int)/\64*k<=p.length
def OC:XX->(List Int):=λ(p,h,i,n2)=>(blocks (apD h) (p.drop i.toNat)).l
def aal:XY->Prop:=λ(h,i,n2,l)=>h.length=8/\l.length=32/\∃k:Nat,k<=32/\i=k
def OD:XY->Bs:=λ(h,i,n2,l)=>from_ (O4 h) i.toNat l
def auD:Bs->Prop:=λb=>b.length<=140737488350000
def aVD:Bs->Bs:=λb=>aVG b
def CM:Ls aak FQ OC:=pD (λ(p,h,i,n2)=>⟨([bE,bE,eP 2,.d tB p,.d (.slice (.int .u32)) h,.d ti i]++aW 36 []),[],([[],[],dm (.d tH n2)]++bw 39 [])⟩) (λx=>(.exit 0,⟨([bE,bE,eP 2,bE,.d (.slice (.int .u32)) x.2]++aW 37 []),[],([[],[],dm (.d tH x.1)]++bw 39 [])⟩))
def CN:Ls aal FR OD:=pD (λ(Hd,fk,mW,n6)=>⟨([bE,bE,eP 2,bE,.d (.slice (.int .u32)) Hd,bE,eP 6,.d ti fk]++aW 34 []),[],([[],[],dm (.d tH mW),[],[],[],dm (.d tH n6)]++bw 35 [])⟩) (λx=>(.exit 2,⟨([bE,bE,eP 2,bE,bE,bE,eP 6]++aW 35 []),[],([[],[],dm (.d tH x.1),[],[],[],dm (.d tH x.2)]++bw 35 [])⟩))
def XW:Fs Tryz.prog auD bq aVD:=eV 135 Tryz.f135 (λb=>([.d tB b],[])) (λx=>⟨.d tH x,[],[]⟩) [av tB] [azv,azl,aGw] {loops:=lz [(4,{bg:=[2,3,4,5],sites:=[2]}),(9,{bg:=[2,4,6,7],sites:=[2,6]})],outs:=lu [(4,{bg:=[2,4],sites:=[2]},{bg:=[2]}),(9,{bg:=[2,6],sites:=[2,6]},{bg:=[2]})],fa:=mc [(4,CM.E),(9,CN.E)]}
theorem auB:CM.RS:=rL [.d tB,.d (.slice (.int .u32)),.d ti,.d tB] CM
theorem Vt(p h i n2)(kn:K2 R)(kx:K3 R):XW.R 0 CM (p,h,i,n2) kn kx=aJ (fv i (p.length:Int)) (aJ (inc (bz .i64 i 64) (p.length:Int)) (aJ (inc i (((ab (bz .i64 i 64)):Nat):Int)) (ao (yF.call (h,(cut p (ab i) ((ab (bz .i64 i 64)) - (ab i))))) λx1=>kn (CM.st (p,x1,(bz .i64 i 64),n2))) aH) aH) (CM.go kx (n2,h)):=cd
theorem auC:CN.RS:=rL [.d (.slice (.int .u32)),.d ti,.d tB,.d tB] CN
theorem Vu(Hd fk mW n6)(kn:K2 R)(kx:K3 R):XW.R 1 CN (Hd,fk,mW,n6) kn kx=aJ (fv fk 32) (aJ (eA (wC .i64 fk 4) (Hd.length:Int)) (aJ (ou (df .i64 24 (fO .i64 8 (kj fk 4)))) (aJ (eA fk 32) (aJ (decide ((ab fk) < (ae n6))) (aJ (decide ((((ab fk)*1)+0)=(0+((ab fk)*1)))) (aJ (decide ((ab fk) < (ae n6))) (kn (CN.st (Hd,(bz .i64 fk 1),mW,(gF n6 (ab fk) (dR .u8 (cF .u32 (nth (.int .u32) Hd (ab (wC .i64 fk 4))) (df .i64 24 (fO .i64 8 (kj fk 4))))))))) aH) aH) aH) aH) aH) aH) (CN.go kx (mW,n6)):=cd
theorem aR6(b)(k:K1 R):XW.A b k=ao (sW.call b) λx1=>ao (Jx.call ()) λx2=>ao (CM.call (x1,x2,0,(ai 32 0))) λx4=>ao (CN.call (x4.2,0,x4.1,(ai 32 0))) λx5=>k (XW.out x5.2):=cd
theorem azy:(XW.jx 0 CM):=by
 refine(XW.mf 0 CM) (λ(p,h,i,n2)=>p.length - i.toNat) ?_
 rintro⟨p,h,i,n2⟩ ⟨hm,hb,s,k,rfl,rfl,hk⟩;have hm:p.length%64=0:=hm;have hb:p.length<=140737488355328:=hb;have hk:64*k<=p.length:=hk;by_cases fF:64*k < p.length
 ·left;have e1:cut p (64*k) (64*k+64 - 64*k)=(p.drop (64*k)).take 64:=by unfold cut;rw[show 64*k+64 - 64*k=64 by omega]
  have e2:(p.drop (64*k)).drop 64=p.drop (64*(k+1)):=by rw[gE];congr 1
  have e3:(64*(k+1):Nat)=64*k+64:=aq;have p1:af6 (s.l,(p.drop (64*k)).take 64):=⟨⟨s,rfl⟩,by simp;omega⟩;refine⟨(p,(W5 s ((p.drop (64*k)).take 64)).l,((64*(k+1):Nat):Int),n2),⟨hm,hb,_,k+1,rfl,rfl,aq⟩,by simp only[aa];omega,?_,λkn kx=> ?_⟩
  ·simp only[FQ,OC,qq,aa];rw[KU s (p.drop (64*k)) (by simp;omega),e2]
  ·rw[Vt];simp(disch:=omega) only[↓S1,↓if_pos,↓if_neg,if_pos,if_neg,bO,bC,S2,e1,aza p1,bq,af5,qq,e3]
 ·right;intro R kn kx;rw[Vt];simp(disch:=omega) only[↓S1,↓if_pos,↓if_neg,if_pos,if_neg,bO,bC,S2,FQ,OC,qq];rw[It s _ (by simp;omega)]
theorem azz:(XW.jx 1 CN):=by
 refine(XW.mf 1 CN) (λ(h,i,n2,l)=>32 - i.toNat) ?_
 rintro⟨h,i,n2,l⟩ ⟨h8,hl,k,hk,rfl⟩;have hl:l.length=32:=hl;have h8:h.length=8:=h8;by_cases fF:k < 32
 ·left;refine⟨(h,((k+1:Nat):Int),n2,l.set k (O4 h k l[k])),⟨h8,by simpa using hl,k+1,aq,rfl⟩,by simp only[aa];omega,?_,λkn kx=> ?_⟩
  ·simp only[FR,OD,aa];rw[N8 (O4 h) l k aq]
  ·rw[Vu];simp(disch:=omega) only[↓S1,↓if_pos,↓if_neg,if_pos,if_neg,bO,bC,S2,hl,h8,jJ,cD,aV,O4]
 ·right;obtain rfl:k=32:=aq;intro R kn kx;rw[Vu];simp(disch:=omega) only[↓S1,↓if_pos,↓if_neg,if_pos,if_neg,bO,bC,S2,FR,OD];rw[Tx _ _ _ aq]
theorem axM(b:List Int):(pad b).length%64=0/\(pad b).length<=b.length+73:=by unfold pad;simp only[ak,aF,dd,cv,DW];omega
theorem aR7:XW.Ok:=by intro b hb;have hb:b.length<=140737488350000:=hb;have p1:aag b:=hb;obtain⟨h1,h2⟩:=axM b;have p2:aak (pad b,vf.l,0,ai 32 0):=⟨h1,aq,vf,0,rfl,rfl,aq⟩;have p3:aal ((blocks vf (pad b)).l,0,ai 32 0,ai 32 0):=⟨rfl,rfl,0,aq,rfl⟩;rw[aR6];simp(disch:=omega) only[↓S1,↓if_pos,↓if_neg,if_pos,if_neg,bO,bC,S2,auy p1,bq,XV,aup (d:=()) trivial,bq,alq,auB p2,FQ,OC,qq,aT,ay,auC p3,FR,OD,aBB];rfl
theorem aNI:XW.RS:=rE [.d tB] XW
def aR8:=XW.eY aR7 2 ⟨.e7 azy,⟨.e7 azz,trivial⟩⟩
def aGL:Int->Prop:=λn=>0<=n/\n < 18446744073709551616
def aCd:Int->(Nat×(List Int)):=λn=>(8,jo n)
def P5:Fs Tryz.prog aGL bq aCd:=eV 134 Tryz.f134 (λn=>([.d tu n],[])) (λx=>⟨.bU (.new 0 0) 0 [] 0 0 x.1,[],[.obj 0 aZ (.vec 5 tb x.2)]⟩) [av tu] [] {loops:=lz [(3,{bg:=[0,3,4],sites:=[15]})],outs:=lu [(3,{bg:=[3],sites:=[15]},{bg:=[2],sites:=[15]})],owns:=[⟨2,[],15,114⟩]} 10
theorem aNv(n)(k:K1 R):P5.A n k=k (P5.out (8,[(dR .u8 (cF .u64 n 56)),(dR .u8 (cF .u64 n 48)),(dR .u8 (cF .u64 n 40)),(dR .u8 (cF .u64 n 32)),(dR .u8 (cF .u64 n 24)),(dR .u8 (cF .u64 n 16)),(dR .u8 (cF .u64 n 8)),(dR .u8 (cF .u64 n 0))])):=cd
theorem aNw:P5.Ok:=by
 intro n _;have e:∀k:Nat,k<=64->dR .u8 (cF .u64 n (k:Int))=n / 2^k%256:=λk hk=>ahw n k hk
 rw[aNv];have e56:dR .u8 (cF .u64 n 56)=n / 2^56%256:=e 56 aq;have e48:dR .u8 (cF .u64 n 48)=n / 2^48%256:=e 48 aq;have e40:dR .u8 (cF .u64 n 40)=n / 2^40%256:=e 40 aq;have e32:dR .u8 (cF .u64 n 32)=n / 2^32%256:=e 32 aq;have e24:dR .u8 (cF .u64 n 24)=n / 2^24%256:=e 24 aq;have e16:dR .u8 (cF .u64 n 16)=n / 2^16%256:=e 16 aq;have e8:dR .u8 (cF .u64 n 8)=n / 2^8%256:=e 8 aq;have e0:=e 0 aq;rw[e56,e48,e40,e32,e24,e16,e8];have e0:dR .u8 (cF .u64 n 0)=n%256:=by rw[show(0:Int)=((0:Nat):Int) from rfl,e0];simp
 rw[e0];rfl
theorem als:P5.RS:=rE [.d tu] P5
def aur:=P5.eY aNw 1 ⟨.none cd,trivial⟩
abbrev XZ:=(List Bs)×Nat×Int×Bs×(List Int)
abbrev alH:=Nat×(List Int)
def FT:XZ->alH->((Bs)×(Nat×(List Int))):=λ(uw,bL,i,n4,n11) y=>(n4,y)
abbrev aNJ:=ByteArray×(List Bs)
def aam:XZ->Prop:=λ(ps,m,i,n4,l)=>m=l.length/\∃k:Nat,k<=ps.length/\ps.length<=140737488350000/\i=k/\l.length+(qG (ps.drop k)).length<=140737488350000
def OE:XZ->alH:=λ(ps,m,i,n4,l)=>(l.length+(qG (ps.drop i.toNat)).length,l++qG (ps.drop i.toNat))
def auF:aNJ->Prop:=λ(name,ps)=>(X8 (bS name) ps).length<=140737488350000
def aNK:aNJ->Bs:=λ(name,ps)=>tag (bS name) ps
def CO:Ls aam FT OE:=pD (λ(uw,bL,i,n4,n11)=>⟨([bE,.d (.slice tB) uw,bE,bE,eP 4,jl 11 bL,.d ti i]++aW 32 []),[],(bw 4 ([dm (.d tH n4)]++bw 6 ([dm (.vec 5 tb n11)]++bw 27 [])))⟩) (λx=>(.exit 0,⟨(aW 4 ([eP 4,jl 11 x.2.1]++aW 33 [])),[],(bw 4 ([dm (.d tH x.1)]++bw 6 ([dm (.vec 5 tb x.2.2)]++bw 27 [])))⟩))
def abm:Fs Tryz.prog auF bq aNK:=eV 62 Tryz.f62 (λ(name,parts)=>([.d .str name,.d (.slice tB) parts],[])) (λx=>⟨.d tH x,[],[]⟩) [av .str,av (.slice tB)] [aur,aR8] {loops:=lz [(3,{bg:=[1,4,5,6],sites:=[4,11],owns:=[⟨5,[],11,114⟩]})],outs:=lu [(3,{bg:=[4,5],sites:=[4,11]},{bg:=[4]})],fa:=mc [(3,CO.E)]}
theorem auE:CO.RS:=rL [.d (.slice tB),.n,.d ti,.d tB,.d tB] CO
theorem Vv(uw bL i n4 n11)(kn:K2 R)(kx:K3 R):abm.R 0 CO (uw,bL,i,n4,n11) kn kx=aJ (fv i (uw.length:Int)) (aJ (eA i (uw.length:Int)) (ao (P5.call (dR .u64 (((ae (nth tB uw (ab i))):Nat):Int))) λx1=>aJ (decide (0=0/\(0+x1.1)<=(ae x1.2))) (aJ (decide (bL<=(ae n11))) (aJ (cZ (bL+(ae (cut x1.2 0 x1.1))) 1) (aJ (eA i (uw.length:Int)) (aJ (decide ((bL+(ae (cut x1.2 0 x1.1)))<=(ae ((aM bL n11)++(cut x1.2 0 x1.1))))) (aJ (cZ ((bL+(ae (cut x1.2 0 x1.1)))+(ae (nth tB uw (ab i)))) 1) (kn (CO.st (uw,((bL+(ae (cut x1.2 0 x1.1)))+(ae (nth tB uw (ab i)))),(bz .i64 i 1),n4,((aM (bL+(ae (cut x1.2 0 x1.1))) ((aM bL n11)++(cut x1.2 0 x1.1)))++(nth tB uw (ab i)))))) aH) aH) aH) aH) aH) aH) aH) (CO.go kx (n4,(bL,n11))):=cd
theorem aR9(name parts)(k:K1 R):abm.A (name,parts) k=ao (P5.call (dR .u64 (((ByteArray.size name):Nat):Int))) λx1=>aJ (decide (x1.1<=(ae x1.2))) (aJ (cZ (x1.1+(ae (bS name))) 1) (ao (CO.call (parts,(x1.1+(ae (bS name))),0,(ai 32 0),((aM x1.1 x1.2)++(bS name)))) λx4=>aJ (decide (0=0/\(0+x4.2.1)<=(ae x4.2.2))) (ao (XW.call (cut x4.2.2 0 x4.2.1)) λx5=>k (abm.out x5)) aH) aH) aH:=cd
theorem aCp{n:Nat}(h:n < 18446744073709551616):dR .u64 ((n:Nat):Int)=n:=by rw[TL,iH];omega
theorem auq{n:Nat}(h:n < 18446744073709551616):P5.call (n:Int)=av (8,jo (n:Int)):=als (d:=(n:Int)) (show 0<=(n:Int)/\(n:Int) < 18446744073709551616 from⟨aq,aq⟩)
theorem aWQ{l:List Int}{n:Nat}(h:l.length=n):cut l 0 n=l:=by unfold cut;rw[ay,bu aq]
theorem azA:(abm.jx 0 CO):=by
 refine(abm.mf 0 CO) (λ(ps,m,i,n4,l)=>ps.length - i.toNat) ?_
 rintro⟨ps,m,i,n4,l⟩ ⟨rfl,k,hk,Sh,rfl,hl⟩;have hk:k<=ps.length:=hk;have Sh:ps.length<=140737488350000:=Sh;have hl:l.length+(qG (ps.drop k)).length<=140737488350000:=hl;by_cases h:k < ps.length
 ·left;have ht:=alU ps k h;have hlen:(qG (ps.drop k)).length=8+ps[k].length+(qG (ps.drop (k+1))).length:=by rw[ht];simp only[ak,cv]
  have hn:nth (.slice (.int .u8)) ps k=ps[k]:=bY (t:= .slice (.int .u8)) h;have aUP:(l++jo (ps[k].length:Int)).length=l.length+8:=by simp[cv]
  refine⟨(ps,(l++jo ps[k].length++ps[k]).length,((k+1:Nat):Int),n4,l++jo ps[k].length++ps[k]),⟨rfl,k+1,aq,Sh,rfl,?_⟩,by simp only[aa];omega,?_,λkn kx=> ?_⟩
  ·simp only[ak,cv];omega
  ·simp only[FT,OE,aa,ht,aO];simp only[ak,cv,fB]
  ·have c8:cut (jo (ps[k].length:Int)) 0 8=jo (ps[k].length:Int):=aWQ (cv _);have wZ:ps[k].length < 18446744073709551616:=aq;rw[Vv];simp(disch:=omega) only[↓S1,↓if_pos,↓if_neg,if_pos,if_neg,bO,bC,S2,hn,aCp wZ,auq wZ,cv,c8,bN,aUP,aV,az,gm,bO];rw[bu (by rw[aUP];omega)];simp only[ak,cv,fB]
 ·right;obtain rfl:k=ps.length:=aq;intro R kn kx;rw[Vv];simp(disch:=omega) only[↓S1,↓if_pos,↓if_neg,if_pos,if_neg,bO,bC,S2,FT,OE,aI];simp[qG]
theorem aSa:abm.Ok:=by
 rintro⟨name,ps⟩ hp;have hp:(jo (bS name).length++bS name++qG ps).length<=140737488350000:=hp;have hl:(jo (bS name).length++bS name++qG ps).length=8+(bS name).length+(qG ps).length:=by simp only[ak,cv]
 have Sh:=ag2 ps;have AL:name.size=(bS name).length:=by rw[mK]
 have wZ:(bS name).length < 18446744073709551616:=aq;have p2:aam (ps,8+(bS name).length,0,ai 32 0,jo ((bS name).length:Int)++bS name):=by refine⟨by simp only[ak,cv],0,aL _,aq,rfl,?_⟩;rw[ay];simp only[ak,cv];omega
 rw[aR9,AL];simp(disch:=omega) only[↓S1,↓if_pos,↓if_neg,if_pos,if_neg,bO,bC,S2,aCp wZ,auq wZ,cv,bu (Nat.le_of_eq (cv _)),auE p2,FT,OE,aT,ay,aV];have aEe:cut (jo ((bS name).length:Int)++bS name++qG ps) 0 ((jo ((bS name).length:Int)++bS name).length+(qG ps).length)=X8 (bS name) ps:=aWQ (by simp only[ak]);have p3:auD (X8 (bS name) ps):=hp;rw[if_pos (by simp only[ak];omega),aEe,aNI p3];rfl
theorem agB:abm.RS:=rE [.d .str,.d (.slice tB)] abm
def ape:=abm.eY aSa 1 ⟨.e7 azA,trivial⟩
theorem V7{n:Int}(h1:0<=n)(h2:n < 18446744073709551616):IntKind.u64.wrap n=n:=by rw[wrap_u64,iH];omega
theorem V6(n:Int):IntKind.u64.wrap n=n%18446744073709551616:=by rw[wrap_u64,iH];rfl
theorem sw(x y:Int):bz .u64 x y=(x+y)%18446744073709551616:=V6 _
theorem abJ(x y:Int):df .u64 x y=(x - y)%18446744073709551616:=V6 _
theorem y7(x y:Int):fO .u64 x y=(x*y)%18446744073709551616:=V6 _
theorem aw8(x:Int):dR .u64 x=x%18446744073709551616:=V6 _
theorem aql{x:Int}(h:0<=x)(h2:x < 18446744073709551616):cX .and .u64 x 4294967295=x%4294967296:=by
 obtain⟨n,rfl⟩:∃n:Nat,x=n:=⟨x.toNat,aq⟩;have e:(bA 64 (n:Int) &&& bA 64 4294967295).toNat=n%4294967296:=by
  rw[BitVec.toNat_and];have a:(bA 64 (n:Int)).toNat=n:=by rw[jG,lA];omega
  have b:(bA 64 4294967295).toNat=2^32 - 1:=eX;rw[a,b,Nat.and_two_pow_sub_one_eq_mod]
 show IntKind.u64.wrap ((bA 64 (n:Int) &&& bA 64 4294967295).toNat:Int)=_;rw[e,V7 aq aq];omega
theorem aWH{x:Int}(h:0<=x)(h2:x < 18446744073709551616):cX .and .u64 x 1=x%2:=by
 obtain⟨n,rfl⟩:∃n:Nat,x=n:=⟨x.toNat,aq⟩;have e:(bA 64 (n:Int) &&& bA 64 1).toNat=n%2:=by
  rw[BitVec.toNat_and];have a:(bA 64 (n:Int)).toNat=n:=by rw[jG,lA];omega
  have b:(bA 64 1).toNat=2^1 - 1:=eX;rw[a,b,Nat.and_two_pow_sub_one_eq_mod]
 show IntKind.u64.wrap ((bA 64 (n:Int) &&& bA 64 1).toNat:Int)=_;rw[e,V7 aq aq];omega
theorem xJ{x k:Int}(n:Nat)(hk:k=n)(hn:n<=64):cF .u64 x k=x / 2^n:=by
 subst hk;rw[cF];have e:min (ab (n:Int)) IntKind.u64.bits=n:=by simp only[IntKind.bits];omega
 rw[e,lC _ (Int.le_of_lt (Int.pow_pos aq))]
theorem zL{x k:Int}(n:Nat)(hk:k=n)(hn:n<=64):oq .u64 x k=x*2^n%18446744073709551616:=by
 subst hk;rw[oq,V6];have e:min (ab (n:Int)) IntKind.u64.bits=n:=by simp only[IntKind.bits];omega
 rw[e]
theorem Uc{x y:Int}(k:Nat)(m:Int)(hm:m=2^k)(hx:x%m=0)(h0:0<=x)(h1:x < 18446744073709551616)(hy:0<=y)(aYJ:y < m)(h2:x+y < 18446744073709551616):cX .or .u64 x y=x+y:=by
 subst hm;obtain⟨n,rfl⟩:∃n:Nat,x=n:=⟨x.toNat,aq⟩;obtain⟨j,rfl⟩:∃j:Nat,y=j:=⟨y.toNat,aq⟩;have hx:n%2^k=0:=by
  have:((n%2^k:Nat):Int)=0:=by rw[rU];simpa using hx
  omega
 have hj:j < 2^k:=by
  have:((j:Nat):Int) < ((2^k:Nat):Int):=by simpa using aYJ
  omega
 obtain⟨q,rfl⟩:∃q,n=2^k*q:=⟨n / 2^k,by have:=Nat.div_add_mod n (2^k);omega⟩;have e:(bA 64 ((2^k*q:Nat):Int) ||| bA 64 (j:Int)).toNat=2^k*q+j:=by
  rw[BitVec.toNat_or];have a:(bA 64 ((2^k*q:Nat):Int)).toNat=2^k*q:=by rw[jG,lA];exact lj aq
  have b:(bA 64 (j:Int)).toNat=j:=by rw[jG,lA];exact lj aq
  rw[a,b,Nat.two_pow_add_eq_or_of_lt hj]
 show IntKind.u64.wrap ((bA 64 ((2^k*q:Nat):Int) ||| bA 64 (j:Int)).toNat:Int)=_;rw[e,V7 aq aq];omega
theorem anz{x y:Int}(h:0<=x)(h1:0<=y)(h2:x < 18446744073709551616):wC .u64 x y=x / y:=by rw[wC,lD h];exact V7 (Int.ediv_nonneg h h1) (Int.lt_of_le_of_lt (Int.ediv_le_self _ h) h2)
theorem uo{x y:Int}(h:0<=x):kj x y=x%y:=by rw[kj,iK h]
theorem k1{e u w r q:Int}(he:e=42260\/e=42264\/e=42272)(hu:0<=u)(ap7:u < 18446744073709551616 - e)(hw:0<=w)(aKv:w < 4294967296)(hr:0<=r)(aBb:r < 4294967296)
  (hq:q*4294967295+r=u) (hQ:(u*4294967296+w) / (18446744073709551616 - e)<=q):
  (4294967296<=q->(u*4294967296+w) / (18446744073709551616 - e)<=q - 1)/\
  (q < 4294967296->4294967296*r+w < q*(4294967296 - e)->(u*4294967296+w) / (18446744073709551616 - e)<=q - 1)/\
  (q < 4294967296->q*(4294967296 - e)<=4294967296*r+w->(u*4294967296+w) / (18446744073709551616 - e)=q)/\
  (4294967296<=r+4294967295->(u*4294967296+w) / (18446744073709551616 - e)<=q - 1->(u*4294967296+w) / (18446744073709551616 - e)=q - 1)/\0<=(u*4294967296+w) / (18446744073709551616 - e)/\q<=4294967297:=by
 rcases he with rfl | rfl | rfl
 ·refine⟨?_,?_,?_,?_,?_,?_⟩ <;> omega
 ·refine⟨?_,?_,?_,?_,?_,?_⟩ <;> omega
 ·refine⟨?_,?_,?_,?_,?_,?_⟩ <;> omega
theorem k0{e u w:Int}(he:e=42260\/e=42264\/e=42272)(hu:0<=u)(ap7:u < 18446744073709551616 - e)(hw:0<=w)(aKv:w < 4294967296):
  (u*4294967296+w) / (18446744073709551616 - e)<=u / 4294967295/\0<=u - u / 4294967295*4294967295/\u - u / 4294967295*4294967295 < 4294967296/\
  (u*4294967296+w) - (u*4294967296+w) / (18446744073709551616 - e)*(18446744073709551616 - e)=(u*4294967296+w)%(18446744073709551616 - e)/\
  0<=(u*4294967296+w)%(18446744073709551616 - e)/\(u*4294967296+w)%(18446744073709551616 - e) < 18446744073709551616 - e/\
  0<=(u*4294967296+w) / (18446744073709551616 - e)/\(u*4294967296+w) / (18446744073709551616 - e) < 4294967296:=by
 rcases he with rfl | rfl | rfl
 ·refine⟨?_,?_,?_,?_,?_,?_,?_,?_⟩ <;> omega
 ·refine⟨?_,?_,?_,?_,?_,?_,?_,?_⟩ <;> omega
 ·refine⟨?_,?_,?_,?_,?_,?_,?_,?_⟩ <;> omega
theorem kd(Y u w1 w0:Int)(hY:0 < Y)(h0:0<=w0)(h1:w0 < 4294967296):
  ((u*4294967296+w1)*4294967296+w0) / Y=(u*4294967296+w1) / Y*4294967296+((u*4294967296+w1)%Y*4294967296+w0) / Y/\
  ((u*4294967296+w1)*4294967296+w0)%Y=((u*4294967296+w1)%Y*4294967296+w0)%Y:=by
 generalize u*4294967296+w1=n;have e:n*4294967296+w0=(n%Y*4294967296+w0)+Y*(n / Y*4294967296):=by
  have:=Int.emod_add_mul_ediv n Y;have h:Y*(n / Y*4294967296)=(Y*(n / Y))*4294967296:=by rw[tG]
  rw[h];omega
 rw[e,Int.add_mul_ediv_left _ _ aq,Int.add_mul_emod_self_left];exact⟨aq,rfl⟩
def aWv(y:Int):Prop:=y=4611686018427377339\/y=2305843009213688669\/y=2305843009213688668
def aEA:Int->Prop:=aWv
def aQS:Int->Int:=λy=>if y=4611686018427377339 then 62 else 61
def E1:Fs Tryz.prog aEA bq aQS:=eV 213 Tryz.f213 (λx=>([.d tu x],[])) (λx=>⟨.d ti x,[],[]⟩) [av tu]
theorem aKP(x)(k:K1 R):E1.A x k=aJ (AM x 4294967296) (aJ (AM (cF .u64 x 32) 65536) (aJ (AM (cF .u64 (cF .u64 x 32) 16) 256) (aJ (eA (dR .u8 (cF .u64 (cF .u64 (cF .u64 x 32) 16) 8)) 256) (k (E1.out (bz .i64 56 (dR .i64 (auY (⟨#[0,1,2,2,3,3,3,3,4,4,4,4,4,4,4,4,5,5,5,5,5,5,5,5,5,5,5,5,5,5,5,5,6,6,6,6,6,6,6,6,6,6,6,6,6,6,6,6,6,6,6,6,6,6,6,6,6,6,6,6,6,6,6,6,7,7,7,7,7,7,7,7,7,7,7,7,7,7,7,7,7,7,7,7,7,7,7,7,7,7,7,7,7,7,7,7,7,7,7,7,7,7,7,7,7,7,7,7,7,7,7,7,7,7,7,7,7,7,7,7,7,7,7,7,7,7,7,7,8,8,8,8,8,8,8,8,8,8,8,8,8,8,8,8,8,8,8,8,8,8,8,8,8,8,8,8,8,8,8,8,8,8,8,8,8,8,8,8,8,8,8,8,8,8,8,8,8,8,8,8,8,8,8,8,8,8,8,8,8,8,8,8,8,8,8,8,8,8,8,8,8,8,8,8,8,8,8,8,8,8,8,8,8,8,8,8,8,8,8,8,8,8,8,8,8,8,8,8,8,8,8,8,8,8,8,8,8,8,8,8,8,8,8,8,8,8,8,8,8,8,8,8,8,8,8,8]⟩:ByteArray) (dR .u8 (cF .u64 (cF .u64 (cF .u64 x 32) 16) 8))))))) aH) (aJ (eA (dR .u8 (cF .u64 (cF .u64 x 32) 16)) 256) (k (E1.out (bz .i64 48 (dR .i64 (auY (⟨#[0,1,2,2,3,3,3,3,4,4,4,4,4,4,4,4,5,5,5,5,5,5,5,5,5,5,5,5,5,5,5,5,6,6,6,6,6,6,6,6,6,6,6,6,6,6,6,6,6,6,6,6,6,6,6,6,6,6,6,6,6,6,6,6,7,7,7,7,7,7,7,7,7,7,7,7,7,7,7,7,7,7,7,7,7,7,7,7,7,7,7,7,7,7,7,7,7,7,7,7,7,7,7,7,7,7,7,7,7,7,7,7,7,7,7,7,7,7,7,7,7,7,7,7,7,7,7,7,8,8,8,8,8,8,8,8,8,8,8,8,8,8,8,8,8,8,8,8,8,8,8,8,8,8,8,8,8,8,8,8,8,8,8,8,8,8,8,8,8,8,8,8,8,8,8,8,8,8,8,8,8,8,8,8,8,8,8,8,8,8,8,8,8,8,8,8,8,8,8,8,8,8,8,8,8,8,8,8,8,8,8,8,8,8,8,8,8,8,8,8,8,8,8,8,8,8,8,8,8,8,8,8,8,8,8,8,8,8,8,8,8,8,8,8,8,8,8,8,8,8,8,8,8,8,8,8]⟩:ByteArray) (dR .u8 (cF .u64 (cF .u64 x 32) 16))))))) aH)) (aJ (AM (cF .u64 x 32) 256) (aJ (eA (dR .u8 (cF .u64 (cF .u64 x 32) 8)) 256) (k (E1.out (bz .i64 40 (dR .i64 (auY (⟨#[0,1,2,2,3,3,3,3,4,4,4,4,4,4,4,4,5,5,5,5,5,5,5,5,5,5,5,5,5,5,5,5,6,6,6,6,6,6,6,6,6,6,6,6,6,6,6,6,6,6,6,6,6,6,6,6,6,6,6,6,6,6,6,6,7,7,7,7,7,7,7,7,7,7,7,7,7,7,7,7,7,7,7,7,7,7,7,7,7,7,7,7,7,7,7,7,7,7,7,7,7,7,7,7,7,7,7,7,7,7,7,7,7,7,7,7,7,7,7,7,7,7,7,7,7,7,7,7,8,8,8,8,8,8,8,8,8,8,8,8,8,8,8,8,8,8,8,8,8,8,8,8,8,8,8,8,8,8,8,8,8,8,8,8,8,8,8,8,8,8,8,8,8,8,8,8,8,8,8,8,8,8,8,8,8,8,8,8,8,8,8,8,8,8,8,8,8,8,8,8,8,8,8,8,8,8,8,8,8,8,8,8,8,8,8,8,8,8,8,8,8,8,8,8,8,8,8,8,8,8,8,8,8,8,8,8,8,8,8,8,8,8,8,8,8,8,8,8,8,8,8,8,8,8,8,8]⟩:ByteArray) (dR .u8 (cF .u64 (cF .u64 x 32) 8))))))) aH) (aJ (eA (dR .u8 (cF .u64 x 32)) 256) (k (E1.out (bz .i64 32 (dR .i64 (auY (⟨#[0,1,2,2,3,3,3,3,4,4,4,4,4,4,4,4,5,5,5,5,5,5,5,5,5,5,5,5,5,5,5,5,6,6,6,6,6,6,6,6,6,6,6,6,6,6,6,6,6,6,6,6,6,6,6,6,6,6,6,6,6,6,6,6,7,7,7,7,7,7,7,7,7,7,7,7,7,7,7,7,7,7,7,7,7,7,7,7,7,7,7,7,7,7,7,7,7,7,7,7,7,7,7,7,7,7,7,7,7,7,7,7,7,7,7,7,7,7,7,7,7,7,7,7,7,7,7,7,8,8,8,8,8,8,8,8,8,8,8,8,8,8,8,8,8,8,8,8,8,8,8,8,8,8,8,8,8,8,8,8,8,8,8,8,8,8,8,8,8,8,8,8,8,8,8,8,8,8,8,8,8,8,8,8,8,8,8,8,8,8,8,8,8,8,8,8,8,8,8,8,8,8,8,8,8,8,8,8,8,8,8,8,8,8,8,8,8,8,8,8,8,8,8,8,8,8,8,8,8,8,8,8,8,8,8,8,8,8,8,8,8,8,8,8,8,8,8,8,8,8,8,8,8,8,8,8]⟩:ByteArray) (dR .u8 (cF .u64 x 32))))))) aH))) (aJ (AM x 65536) (aJ (AM (cF .u64 x 16) 256) (aJ (eA (dR .u8 (cF .u64 (cF .u64 x 16) 8)) 256) (k (E1.out (bz .i64 24 (dR .i64 (auY (⟨#[0,1,2,2,3,3,3,3,4,4,4,4,4,4,4,4,5,5,5,5,5,5,5,5,5,5,5,5,5,5,5,5,6,6,6,6,6,6,6,6,6,6,6,6,6,6,6,6,6,6,6,6,6,6,6,6,6,6,6,6,6,6,6,6,7,7,7,7,7,7,7,7,7,7,7,7,7,7,7,7,7,7,7,7,7,7,7,7,7,7,7,7,7,7,7,7,7,7,7,7,7,7,7,7,7,7,7,7,7,7,7,7,7,7,7,7,7,7,7,7,7,7,7,7,7,7,7,7,8,8,8,8,8,8,8,8,8,8,8,8,8,8,8,8,8,8,8,8,8,8,8,8,8,8,8,8,8,8,8,8,8,8,8,8,8,8,8,8,8,8,8,8,8,8,8,8,8,8,8,8,8,8,8,8,8,8,8,8,8,8,8,8,8,8,8,8,8,8,8,8,8,8,8,8,8,8,8,8,8,8,8,8,8,8,8,8,8,8,8,8,8,8,8,8,8,8,8,8,8,8,8,8,8,8,8,8,8,8,8,8,8,8,8,8,8,8,8,8,8,8,8,8,8,8,8,8]⟩:ByteArray) (dR .u8 (cF .u64 (cF .u64 x 16) 8))))))) aH) (aJ (eA (dR .u8 (cF .u64 x 16)) 256) (k (E1.out (bz .i64 16 (dR .i64 (auY (⟨#[0,1,2,2,3,3,3,3,4,4,4,4,4,4,4,4,5,5,5,5,5,5,5,5,5,5,5,5,5,5,5,5,6,6,6,6,6,6,6,6,6,6,6,6,6,6,6,6,6,6,6,6,6,6,6,6,6,6,6,6,6,6,6,6,7,7,7,7,7,7,7,7,7,7,7,7,7,7,7,7,7,7,7,7,7,7,7,7,7,7,7,7,7,7,7,7,7,7,7,7,7,7,7,7,7,7,7,7,7,7,7,7,7,7,7,7,7,7,7,7,7,7,7,7,7,7,7,7,8,8,8,8,8,8,8,8,8,8,8,8,8,8,8,8,8,8,8,8,8,8,8,8,8,8,8,8,8,8,8,8,8,8,8,8,8,8,8,8,8,8,8,8,8,8,8,8,8,8,8,8,8,8,8,8,8,8,8,8,8,8,8,8,8,8,8,8,8,8,8,8,8,8,8,8,8,8,8,8,8,8,8,8,8,8,8,8,8,8,8,8,8,8,8,8,8,8,8,8,8,8,8,8,8,8,8,8,8,8,8,8,8,8,8,8,8,8,8,8,8,8,8,8,8,8,8,8]⟩:ByteArray) (dR .u8 (cF .u64 x 16))))))) aH)) (aJ (AM x 256) (aJ (eA (dR .u8 (cF .u64 x 8)) 256) (k (E1.out (bz .i64 8 (dR .i64 (auY (⟨#[0,1,2,2,3,3,3,3,4,4,4,4,4,4,4,4,5,5,5,5,5,5,5,5,5,5,5,5,5,5,5,5,6,6,6,6,6,6,6,6,6,6,6,6,6,6,6,6,6,6,6,6,6,6,6,6,6,6,6,6,6,6,6,6,7,7,7,7,7,7,7,7,7,7,7,7,7,7,7,7,7,7,7,7,7,7,7,7,7,7,7,7,7,7,7,7,7,7,7,7,7,7,7,7,7,7,7,7,7,7,7,7,7,7,7,7,7,7,7,7,7,7,7,7,7,7,7,7,8,8,8,8,8,8,8,8,8,8,8,8,8,8,8,8,8,8,8,8,8,8,8,8,8,8,8,8,8,8,8,8,8,8,8,8,8,8,8,8,8,8,8,8,8,8,8,8,8,8,8,8,8,8,8,8,8,8,8,8,8,8,8,8,8,8,8,8,8,8,8,8,8,8,8,8,8,8,8,8,8,8,8,8,8,8,8,8,8,8,8,8,8,8,8,8,8,8,8,8,8,8,8,8,8,8,8,8,8,8,8,8,8,8,8,8,8,8,8,8,8,8,8,8,8,8,8,8]⟩:ByteArray) (dR .u8 (cF .u64 x 8))))))) aH) (aJ (eA (dR .u8 x) 256) (k (E1.out (bz .i64 0 (dR .i64 (auY (⟨#[0,1,2,2,3,3,3,3,4,4,4,4,4,4,4,4,5,5,5,5,5,5,5,5,5,5,5,5,5,5,5,5,6,6,6,6,6,6,6,6,6,6,6,6,6,6,6,6,6,6,6,6,6,6,6,6,6,6,6,6,6,6,6,6,7,7,7,7,7,7,7,7,7,7,7,7,7,7,7,7,7,7,7,7,7,7,7,7,7,7,7,7,7,7,7,7,7,7,7,7,7,7,7,7,7,7,7,7,7,7,7,7,7,7,7,7,7,7,7,7,7,7,7,7,7,7,7,7,8,8,8,8,8,8,8,8,8,8,8,8,8,8,8,8,8,8,8,8,8,8,8,8,8,8,8,8,8,8,8,8,8,8,8,8,8,8,8,8,8,8,8,8,8,8,8,8,8,8,8,8,8,8,8,8,8,8,8,8,8,8,8,8,8,8,8,8,8,8,8,8,8,8,8,8,8,8,8,8,8,8,8,8,8,8,8,8,8,8,8,8,8,8,8,8,8,8,8,8,8,8,8,8,8,8,8,8,8,8,8,8,8,8,8,8,8,8,8,8,8,8,8,8,8,8,8,8]⟩:ByteArray) (dR .u8 x)))))) aH))):=cd
theorem aKQ:E1.Ok:=by intro y h;rw[aKP];obtain rfl | rfl | rfl:=h <;> kernel_rfl
theorem aEB:E1.RS:=rE [.d tu] E1
def aKR:=E1.eY aKQ
def aLa:Int->Prop:=aWv
def aK9:Int->Int:=λy=>if y=4611686018427377339 then 2 else 3
def axn:Fs Tryz.prog aLa bq aK9:=eV 284 Tryz.f284 (λx=>([.d tu x],[])) (λx=>⟨.d ti x,[],[]⟩) [av tu] [aKR]
theorem aQV(x)(k:K1 R):axn.A x k=ao (E1.call x) λx1=>k (axn.out (df .i64 64 x1)):=cd
theorem aQW:axn.Ok:=by intro y h;rw[aQV,aEB (d:=y) h];obtain rfl | rfl | rfl:=h <;> rfl
theorem aLb:axn.RS:=rE [.d tu] axn
def aQX:=axn.eY aQW
abbrev QO:=Int×Int×Int×Int×Int×Int×Int×Int×Int
def Tn:QO->Int->((Int×Int×Int×Int×Int×Int×Int)×(Int)):=λ(ajr,sv,yn1,yn0,un32,un1,un0,q1,rhat) y=>((ajr,sv,yn1,yn0,un32,un1,un0),y)
abbrev QP:=Int×Int×Int×Int×Int×Int×Int×Int×Int
def Tp:QP->Int->((Int×Int×Int×Int×Int)×(Int)):=λ(ajs,ko,Qm,ahD,NQ,ais,Jy,un21,q0) y=>((ajs,ko,NQ,ais,un21),y)
def Tm:QO->Prop:=λ(y,sv,yn1,yn0,u,w,un0,q,r)=>∃e:Int,(e=42260\/e=42264\/e=42272)/\y=18446744073709551616 - e/\yn1=4294967295/\yn0=4294967296 - e/\0<=u/\u < 18446744073709551616 - e/\0<=w/\w < 4294967296/\0<=r/\r < 4294967296/\q*4294967295+r=u/\(u*4294967296+w) / (18446744073709551616 - e)<=q
def II:QO->Int:=λ(y,sv,yn1,yn0,u,w,un0,q,r)=>(u*4294967296+w) / y
def To:QP->Prop:=λ(y,sv,yn1,yn0,w,q1,r,u,q)=>∃e:Int,(e=42260\/e=42264\/e=42272)/\y=18446744073709551616 - e/\yn1=4294967295/\yn0=4294967296 - e/\0<=u/\u < 18446744073709551616 - e/\0<=w/\w < 4294967296/\0<=r/\r < 4294967296/\q*4294967295+r=u/\(u*4294967296+w) / (18446744073709551616 - e)<=q
def IJ:QP->Int:=λ(y,sv,yn1,yn0,w,q1,r,u,q)=>(u*4294967296+w) / y
def ajX:(Int×Int×Int)->Prop:=λ(hi,lo,y)=>(aWv y\/hi=0/\0 < y/\y < 18446744073709551616)/\0<=hi/\hi < y/\0<=lo/\lo < 18446744073709551616
def amZ:(Int×Int×Int)->(Int×Int):=λ(hi,lo,y)=>((hi*18446744073709551616+lo) / y,(hi*18446744073709551616+lo)%y)
def pX:Ls Tm Tn II:=pD (λ(ajr,sv,yn1,yn0,un32,un1,un0,q1,rhat)=>⟨([bE,bE,.d tu ajr]++aW 5 ([.d tu sv,.d tu yn1,.d tu yn0,.d tu un32,bE,.d tu un1,.d tu un0,.d tu q1,.d tu rhat]++aW 118 [])),[],(ai 135 [])⟩) (λx=>(.exit 0,⟨([bE,bE,.d tu x.1.1]++aW 5 ([.d tu x.1.2.1,.d tu x.1.2.2.1,.d tu x.1.2.2.2.1,.d tu x.1.2.2.2.2.1,bE,.d tu x.1.2.2.2.2.2.1,.d tu x.1.2.2.2.2.2.2,.d tu x.2]++aW 119 [])),[],(ai 135 [])⟩))
def pY:Ls To Tp IJ:=pD (λ(ajs,ko,Qm,ahD,NQ,ais,Jy,un21,q0)=>⟨([bE,bE,.d tu ajs]++aW 5 ([.d tu ko,.d tu Qm,.d tu ahD,bE,bE,bE,.d tu NQ,.d tu ais,.d tu Jy,.d tu un21,.d tu q0]++aW 116 [])),[],(ai 135 [])⟩) (λx=>(.exit 2,⟨([bE,bE,.d tu x.1.1]++aW 5 ([.d tu x.1.2.1]++aW 5 ([.d tu x.1.2.2.1,.d tu x.1.2.2.2.1,bE,.d tu x.1.2.2.2.2,.d tu x.2]++aW 116 []))),[],(ai 135 [])⟩))
def EU:Fs Tryz.prog ajX bq amZ:=eV 280 Tryz.f280 (λ(hi,lo,yv)=>([.d tu hi,.d tu lo,.d tu yv],[])) (λx=>⟨.cons (.d tu x.1) (.cons (.d tu x.2) (.nil)),[],[]⟩) [av tu,av tu,av tu] [aQX] {loops:=lz [(17,{bg:=[2,8,9,10,11,13,14,15,16]}),(24,{bg:=[2,8,9,10,14,15,16,17,18]})],outs:=lu [(17,{bg:=[2,8,9,10,11,13,14,15]},{bg:=[6,7]}),(24,{bg:=[2,8,14,15,17,18]},{bg:=[6,7]})],fa:=mc [(17,pX.E),(24,pY.E)]}
theorem am0:pX.RS:=rL [.d tu,.d tu,.d tu,.d tu,.d tu,.d tu,.d tu,.d tu,.d tu] pX
theorem Gd(ajr sv yn1 yn0 un32 un1 un0 q1 rhat)(kn:K2 R)(kx:K3 R):EU.R 0 pX (ajr,sv,yn1,yn0,un32,un1,un0,q1,rhat) kn kx=aJ (AM q1 4294967296) (aJ (AM (bz .u64 rhat yn1) 4294967296) (pX.go kx ((ajr,sv,yn1,yn0,un32,un1,un0),(df .u64 q1 1))) (kn (pX.st (ajr,sv,yn1,yn0,un32,un1,un0,(df .u64 q1 1),(bz .u64 rhat yn1))))) (aJ (xW (fO .u64 q1 yn0) (bz .u64 (fO .u64 4294967296 rhat) un1)) (aJ (AM (bz .u64 rhat yn1) 4294967296) (pX.go kx ((ajr,sv,yn1,yn0,un32,un1,un0),(df .u64 q1 1))) (kn (pX.st (ajr,sv,yn1,yn0,un32,un1,un0,(df .u64 q1 1),(bz .u64 rhat yn1))))) (pX.go kx ((ajr,sv,yn1,yn0,un32,un1,un0),q1))):=cd
theorem am1:pY.RS:=rL [.d tu,.d tu,.d tu,.d tu,.d tu,.d tu,.d tu,.d tu,.d tu] pY
theorem Ge(ajs ko Qm ahD NQ ais Jy un21 q0)(kn:K2 R)(kx:K3 R):EU.R 1 pY (ajs,ko,Qm,ahD,NQ,ais,Jy,un21,q0) kn kx=aJ (AM q0 4294967296) (aJ (AM (bz .u64 Jy Qm) 4294967296) (pY.go kx ((ajs,ko,NQ,ais,un21),(df .u64 q0 1))) (kn (pY.st (ajs,ko,Qm,ahD,NQ,ais,(bz .u64 Jy Qm),un21,(df .u64 q0 1))))) (aJ (xW (fO .u64 q0 ahD) (bz .u64 (fO .u64 4294967296 Jy) NQ)) (aJ (AM (bz .u64 Jy Qm) 4294967296) (pY.go kx ((ajs,ko,NQ,ais,un21),(df .u64 q0 1))) (kn (pY.st (ajs,ko,Qm,ahD,NQ,ais,(bz .u64 Jy Qm),un21,(df .u64 q0 1))))) (pY.go kx ((ajs,ko,NQ,ais,un21),q0))):=cd
theorem aJH(hi lo yv)(k:K1 R):EU.A (hi,lo,yv) k=aJ (Il yv 0) (aH) (aJ (ahY yv hi) (aH) (aJ (Il hi 0) (aJ (ur yv) (aJ (ur yv) (k (EU.out ((wC .u64 lo yv),(kj lo yv)))) aH) aH) (ao (axn.call yv) λx1=>aJ (ou (dR .u64 x1)) (aJ (ou (dR .u64 x1)) (aJ (ou (df .u64 64 (dR .u64 x1))) (aJ (ou (dR .u64 x1)) (aJ (ur (cF .u64 (oq .u64 yv (dR .u64 x1)) 32)) (ao (pX.call ((oq .u64 yv (dR .u64 x1)),(dR .u64 x1),(cF .u64 (oq .u64 yv (dR .u64 x1)) 32),(cX .and .u64 (oq .u64 yv (dR .u64 x1)) 4294967295),(cX .or .u64 (oq .u64 hi (dR .u64 x1)) (cF .u64 lo (df .u64 64 (dR .u64 x1)))),(cF .u64 (oq .u64 lo (dR .u64 x1)) 32),(cX .and .u64 (oq .u64 lo (dR .u64 x1)) 4294967295),(wC .u64 (cX .or .u64 (oq .u64 hi (dR .u64 x1)) (cF .u64 lo (df .u64 64 (dR .u64 x1)))) (cF .u64 (oq .u64 yv (dR .u64 x1)) 32)),(df .u64 (cX .or .u64 (oq .u64 hi (dR .u64 x1)) (cF .u64 lo (df .u64 64 (dR .u64 x1)))) (fO .u64 (wC .u64 (cX .or .u64 (oq .u64 hi (dR .u64 x1)) (cF .u64 lo (df .u64 64 (dR .u64 x1)))) (cF .u64 (oq .u64 yv (dR .u64 x1)) 32)) (cF .u64 (oq .u64 yv (dR .u64 x1)) 32))))) λx2=>aJ (ur x2.1.2.2.1) (ao (pY.call (x2.1.1,x2.1.2.1,x2.1.2.2.1,x2.1.2.2.2.1,x2.1.2.2.2.2.2.2,x2.2,(df .u64 (df .u64 (bz .u64 (fO .u64 x2.1.2.2.2.2.1 4294967296) x2.1.2.2.2.2.2.1) (fO .u64 x2.2 x2.1.1)) (fO .u64 (wC .u64 (df .u64 (bz .u64 (fO .u64 x2.1.2.2.2.2.1 4294967296) x2.1.2.2.2.2.2.1) (fO .u64 x2.2 x2.1.1)) x2.1.2.2.1) x2.1.2.2.1)),(df .u64 (bz .u64 (fO .u64 x2.1.2.2.2.2.1 4294967296) x2.1.2.2.2.2.2.1) (fO .u64 x2.2 x2.1.1)),(wC .u64 (df .u64 (bz .u64 (fO .u64 x2.1.2.2.2.2.1 4294967296) x2.1.2.2.2.2.2.1) (fO .u64 x2.2 x2.1.1)) x2.1.2.2.1))) λx3=>aJ (ou x3.1.2.1) (k (EU.out ((bz .u64 (fO .u64 x3.1.2.2.2.1 4294967296) x3.2),(cF .u64 (df .u64 (bz .u64 (fO .u64 x3.1.2.2.2.2 4294967296) x3.1.2.2.1) (fO .u64 x3.2 x3.1.1)) x3.1.2.1)))) aH) aH) aH) aH) aH) aH) aH))):=cd
theorem arD:(EU.jx 0 pX):=by
 refine(EU.mf 0 pX) (λ(y,sv,yn1,yn0,u,w,un0,q,r)=>q.toNat) ?_
 rintro⟨y,sv,yn1,yn0,u,w,un0,q,r⟩ ⟨e,he,rfl,rfl,rfl,hu,ap7,hw,aKv,hr,aBb,hq,hQ⟩;have hu:0<=u:=hu;have ap7:u < 18446744073709551616 - e:=ap7;have hw:0<=w:=hw;have aKv:w < 4294967296:=aKv;have hr:0<=r:=hr;have aBb:r < 4294967296:=aBb;have hq:q*4294967295+r=u:=hq;obtain⟨k1,k2,k3,k4,k5,k6⟩:=k1 he hu ap7 hw aKv hr aBb hq hQ;have q0:0<=q:=Int.le_trans k5 hQ;have a1:bz .u64 r 4294967295=r+4294967295:=by rw[sw];omega
 have a2:bz .u64 (fO .u64 4294967296 r) w=4294967296*r+w:=by rw[y7,sw];omega
 have a3:q < 4294967296->fO .u64 q (4294967296 - e)=q*(4294967296 - e):=by intro h;rw[y7];rcases he with rfl | rfl | rfl <;> omega
 have a4:0 < q->df .u64 q 1=q - 1:=by intro h;rw[abJ];omega
 have pos:4294967296<=q\/(q < 4294967296/\4294967296*r+w < q*(4294967296 - e))->0 < q/\(u*4294967296+w) / (18446744073709551616 - e)<=q - 1:=by
  rintro(h | ⟨h,h2⟩)
  ·exact⟨aq,k1 h⟩
  ·exact⟨by have:=k2 h h2;omega,k2 h h2⟩
 by_cases hc:4294967296<=q\/(q < 4294967296/\4294967296*r+w < q*(4294967296 - e))
 ·obtain⟨p1,p2⟩:=pos hc;by_cases hb:4294967296<=r+4294967295
  ·right;have hF:II (18446744073709551616 - e,sv,4294967295,4294967296 - e,u,w,un0,q,r)=q - 1:=k4 hb p2;intro R kn kx;rw[Gd,a1,a2,a4 p1,fG hb,hF];rcases hc with h | ⟨h,h2⟩
   ·rw[fG h];rfl
   ·rw[eg aq,a3 h,dw h2];rfl
  ·left;refine⟨(18446744073709551616 - e,sv,4294967295,4294967296 - e,u,w,un0,q - 1,r+4294967295),⟨e,he,rfl,rfl,rfl,hu,ap7,hw,aKv,aq,aq,aq,p2⟩,by simp only[];omega,rfl,λkn kx=> ?_⟩;rw[Gd,a1,a2,a4 p1,eg hb];rcases hc with h | ⟨h,h2⟩
   ·rw[fG h];rfl
   ·rw[eg aq,a3 h,dw h2];rfl
 ·right;have h:q < 4294967296:=aq;have h2:¬4294967296*r+w < q*(4294967296 - e):=λx=>hc (eI ⟨h,x⟩)
  have hF:II (18446744073709551616 - e,sv,4294967295,4294967296 - e,u,w,un0,q,r)=q:=k3 h aq;intro R kn kx;rw[Gd,a2,a3 h,eg aq,cI h2,hF];rfl
theorem arE:(EU.jx 1 pY):=by
 refine(EU.mf 1 pY) (λ(y,sv,yn1,yn0,w,q1,r,u,q)=>q.toNat) ?_
 rintro⟨y,sv,yn1,yn0,w,q1,r,u,q⟩ ⟨e,he,rfl,rfl,rfl,hu,ap7,hw,aKv,hr,aBb,hq,hQ⟩;have hu:0<=u:=hu;have ap7:u < 18446744073709551616 - e:=ap7;have hw:0<=w:=hw;have aKv:w < 4294967296:=aKv;have hr:0<=r:=hr;have aBb:r < 4294967296:=aBb;have hq:q*4294967295+r=u:=hq;obtain⟨k1,k2,k3,k4,k5,k6⟩:=k1 he hu ap7 hw aKv hr aBb hq hQ;have q0:0<=q:=Int.le_trans k5 hQ;have a1:bz .u64 r 4294967295=r+4294967295:=by rw[sw];omega
 have a2:bz .u64 (fO .u64 4294967296 r) w=4294967296*r+w:=by rw[y7,sw];omega
 have a3:q < 4294967296->fO .u64 q (4294967296 - e)=q*(4294967296 - e):=by intro h;rw[y7];rcases he with rfl | rfl | rfl <;> omega
 have a4:0 < q->df .u64 q 1=q - 1:=by intro h;rw[abJ];omega
 have pos:4294967296<=q\/(q < 4294967296/\4294967296*r+w < q*(4294967296 - e))->0 < q/\(u*4294967296+w) / (18446744073709551616 - e)<=q - 1:=by
  rintro(h | ⟨h,h2⟩)
  ·exact⟨aq,k1 h⟩
  ·exact⟨by have:=k2 h h2;omega,k2 h h2⟩
 by_cases hc:4294967296<=q\/(q < 4294967296/\4294967296*r+w < q*(4294967296 - e))
 ·obtain⟨p1,p2⟩:=pos hc;by_cases hb:4294967296<=r+4294967295
  ·right;have hF:IJ (18446744073709551616 - e,sv,4294967295,4294967296 - e,w,q1,r,u,q)=q - 1:=k4 hb p2;intro R kn kx;rw[Ge,a1,a2,a4 p1,fG hb,hF];rcases hc with h | ⟨h,h2⟩
   ·rw[fG h];rfl
   ·rw[eg aq,a3 h,dw h2];rfl
  ·left;refine⟨(18446744073709551616 - e,sv,4294967295,4294967296 - e,w,q1,r+4294967295,u,q - 1),⟨e,he,rfl,rfl,rfl,hu,ap7,hw,aKv,aq,aq,aq,p2⟩,by simp only[];omega,rfl,λkn kx=> ?_⟩;rw[Ge,a1,a2,a4 p1,eg hb];rcases hc with h | ⟨h,h2⟩
   ·rw[fG h];rfl
   ·rw[eg aq,a3 h,dw h2];rfl
 ·right;have h:q < 4294967296:=aq;have h2:¬4294967296*r+w < q*(4294967296 - e):=λx=>hc (eI ⟨h,x⟩)
  have hF:IJ (18446744073709551616 - e,sv,4294967295,4294967296 - e,w,q1,r,u,q)=q:=k3 h aq;intro R kn kx;rw[Ge,a2,a3 h,eg aq,cI h2,hF];rfl
theorem aUn{y hi lo:Int}(hy:aWv y)(h0:0<=hi)(h1:hi < y)(h2:0<=lo)(h3:lo < 18446744073709551616):∃(s:Nat) (e m:Int),aK9 y=s/\(s=2\/s=3)/\m=2^s/\(e=42260\/e=42264\/e=42272)/\y*m=18446744073709551616 - e/\
  oq .u64 y (s:Int)=18446744073709551616 - e/\
  cX .or .u64 (oq .u64 hi (s:Int)) (cF .u64 lo (df .u64 64 (s:Int)))=(hi*18446744073709551616+lo)*m / 18446744073709551616/\
  oq .u64 lo (s:Int)=(hi*18446744073709551616+lo)*m%18446744073709551616/\
  (hi*18446744073709551616+lo)*m / 18446744073709551616 < 18446744073709551616 - e/\
  (hi*18446744073709551616+lo)*m / (18446744073709551616 - e)=(hi*18446744073709551616+lo) / y/\
  (hi*18446744073709551616+lo)*m%(18446744073709551616 - e) / m=(hi*18446744073709551616+lo)%y:=by
 have e1:df .u64 64 ((2:Nat):Int)=((62:Nat):Int):=rfl;have e2:df .u64 64 ((3:Nat):Int)=((61:Nat):Int):=rfl;have p2:(2:Int)^2=4:=rfl;have p3:(2:Int)^3=8:=rfl;have p61:(2:Int)^61=2305843009213693952:=rfl;have p62:(2:Int)^62=4611686018427387904:=rfl;obtain rfl | rfl | rfl:=hy
 ·refine⟨2,42260,4,rfl,jg rfl,rfl,jg rfl,rfl,by rw[zL 2 (by rfl) aq,p2];omega,?_,?_,aq,aq,aq⟩
  ·rw[e1,zL 2 (by rfl) aq,xJ 62 (by rfl) aq,p2,p62,Uc 2 4 rfl aq aq aq aq aq aq];omega
  ·rw[zL 2 (by rfl) aq,p2];omega
 ·refine⟨3,42264,8,rfl,eI rfl,rfl,eI (jg rfl),rfl,by rw[zL 3 (by rfl) aq,p3];omega,?_,?_,aq,aq,aq⟩
  ·rw[e2,zL 3 (by rfl) aq,xJ 61 (by rfl) aq,p3,p61,Uc 3 8 rfl aq aq aq aq aq aq];omega
  ·rw[zL 3 (by rfl) aq,p3];omega
 ·refine⟨3,42272,8,rfl,eI rfl,rfl,eI (eI rfl),rfl,by rw[zL 3 (by rfl) aq,p3];omega,?_,?_,aq,aq,aq⟩
  ·rw[e2,zL 3 (by rfl) aq,xJ 61 (by rfl) aq,p3,p61,Uc 3 8 rfl aq aq aq aq aq aq];omega
  ·rw[zL 3 (by rfl) aq,p3];omega
theorem aZ8(a b c:Int):(((a%18446744073709551616+b)%18446744073709551616) - c%18446744073709551616)%18446744073709551616=(a+b - c)%18446744073709551616:=aq
theorem aJI:EU.Ok:=by
 rintro⟨hi,lo,y⟩ ⟨hy,h0,h1,h2,h3⟩;have h0:0<=hi:=h0;have h1:hi < y:=h1;have h2:0<=lo:=h2;have h3:lo < 18446744073709551616:=h3;have yb:0 < y/\y < 18446744073709551616:=by
  rcases hy with hy | hy
  ·obtain rfl | rfl | rfl:=hy <;> omega
  ·exact hy.2
 rw[aJH,j3 aq,j4 aq];simp only[al];have z:ur y=bm:=by simp[ur];omega
 by_cases hz:hi=0
 ·subst hz;rw[mQ rfl,z,anz h2 aq h3,uo h2];simp only[aj,amZ,bq,Int.zero_mul,mD]
 ·have hy:aWv y:=hy.resolve_right λe=>hz e.1
  obtain⟨s,e,m,hs,ahW,hm,he,bda,a1,a2,a3,a4,a5,a6⟩:=aUn hy h0 h1 h2 h3;have c1:dR .u64 (s:Int)=(s:Int):=by rw[aw8];omega
  have c2:ou (s:Int)=bm:=v7 aq;have c3:ou (df .u64 64 (s:Int))=bm:=by rcases ahW with rfl | rfl <;> rfl
  rw[j3 hz,aLb (d:=y) hy];simp only[al,ag,bq,hs,c1,c2,c3,aj,a1,a2,a3];have hN:0<=(hi*18446744073709551616+lo)*m:=Int.mul_nonneg aq (by rcases ahW with rfl | rfl <;> omega)
  revert a4 a5 a6
  generalize (hi*18446744073709551616+lo)*m=N at hN;intro a4 a5 a6;have u0:0<=N / 18446744073709551616:=aq;have t0:0<=N%18446744073709551616:=aq;have t1:N%18446744073709551616 < 18446744073709551616:=aq;have hd:N=(N / 18446744073709551616*4294967296+N%18446744073709551616 / 4294967296)*4294967296+N%18446744073709551616%4294967296:=aq;have w10:0<=N%18446744073709551616 / 4294967296:=aq;have w11:N%18446744073709551616 / 4294967296 < 4294967296:=aq;have w00:0<=N%18446744073709551616%4294967296:=aq;have w01:N%18446744073709551616%4294967296 < 4294967296:=aq;have p32:(2:Int)^32=4294967296:=rfl;have b1:cF .u64 (18446744073709551616 - e) 32=4294967295:=by rw[xJ 32 (by rfl) aq,p32];rcases he with rfl | rfl | rfl <;> rfl
  have b2:cX .and .u64 (18446744073709551616 - e) 4294967295=4294967296 - e:=by rw[aql aq aq];omega
  have b3:cF .u64 (N%18446744073709551616) 32=N%18446744073709551616 / 4294967296:=by rw[xJ 32 (by rfl) aq,p32]
  have b4:cX .and .u64 (N%18446744073709551616) 4294967295=N%18446744073709551616%4294967296:=aql t0 t1;have z2:ur 4294967295=bm:=rfl;simp only[b1,b2,b3,b4,z2,aj];clear a1 a2 a3 b1 b2 b3 b4;have kdd:=kd (18446744073709551616 - e) (N / 18446744073709551616) (N%18446744073709551616 / 4294967296) (N%18446744073709551616%4294967296) aq w00 w01;rw[<-hd,a5]at kdd
  revert a4 kdd
  generalize N / 18446744073709551616=u at u0;generalize N%18446744073709551616 / 4294967296=w1 at w10 w11;generalize N%18446744073709551616%4294967296=w0 at w00 w01;intro a4 kdd
  have g:∀u w:Int,0<=u->u < 18446744073709551616 - e->0<=w->w < 4294967296->
    wC .u64 u 4294967295=u / 4294967295/\df .u64 u (fO .u64 (u / 4294967295) 4294967295)=u - u / 4294967295*4294967295/\
    df .u64 (bz .u64 (fO .u64 u 4294967296) w) (fO .u64 ((u*4294967296+w) / (18446744073709551616 - e)) (18446744073709551616 - e))=(u*4294967296+w)%(18446744073709551616 - e):=by
   intro u w k1 k2 k3 k4;obtain⟨q1,q2,q3,q4,q5,q6,q7,q8⟩:=k0 he k1 k2 k3 k4;refine⟨anz k1 aq aq,by rw[abJ,y7];omega,?_⟩;rw[abJ,sw,y7,y7,aZ8,q4];exact eW q5 aq
  obtain⟨f1,f2,f3⟩:=g u w1 u0 a4 w10 w11;obtain⟨q1,q2,q3,q4,q5,q6,q7,q8⟩:=k0 he u0 a4 w10 w11;have p1:Tm (18446744073709551616 - e,(s:Int),4294967295,4294967296 - e,u,w1,w0,u / 4294967295,u - u / 4294967295*4294967295):=⟨e,he,rfl,rfl,rfl,u0,a4,w10,w11,q2,q3,aq,q1⟩;rw[f1,f2,am0 p1];simp only[ag,Tn,II,z2,aj,f3]
  revert f3 q1 kdd
  generalize (u*4294967296+w1)%(18446744073709551616 - e)=v at q4 q5 q6;generalize (u*4294967296+w1) / (18446744073709551616 - e)=Q at q4 q7 q8;intro kdd f3 q1;obtain⟨g1,g2,g3⟩:=g v w0 q5 q6 w00 w01;obtain⟨r1,r2,r3,r4,r5,r6,r7,r8⟩:=k0 he q5 q6 w00 w01;have p2:To (18446744073709551616 - e,(s:Int),4294967295,4294967296 - e,w0,Q,v - v / 4294967295*4294967295,v,v / 4294967295):=⟨e,he,rfl,rfl,rfl,q5,q6,w00,w01,r2,r3,aq,r1⟩;rw[g1,g2,am1 p2];simp only[ag,Tp,IJ,c2,aj,g3];rw[<-kdd.2,xJ s (by rfl) aq,<-hm,a6,y7,sw];have e9:(Q*4294967296%18446744073709551616+(v*4294967296+w0) / (18446744073709551616 - e))%18446744073709551616=(hi*18446744073709551616+lo) / y:=by rw[kdd.1];omega
  rw[e9];rfl
theorem aDP:EU.RS:=rE [.d tu,.d tu,.d tu] EU
def aJJ:=EU.eY aJI 2 ⟨.e7 arD,⟨.e7 arE,trivial⟩⟩
def XJ:(Int×Int×Int)->Prop:=λ(hi,lo,y)=>aWv y/\0<=hi/\hi < 18446744073709551616/\0<=lo/\lo < 18446744073709551616
def Vd:(Int×Int×Int)->Int:=λ(hi,lo,y)=>(hi*18446744073709551616+lo)%y
def Vc:Fs Tryz.prog XJ bq Vd:=eV 261 Tryz.f261 (λ(hi,lo,yv)=>([.d tu hi,.d tu lo,.d tu yv],[])) (λx=>⟨.d tu x,[],[]⟩) [av tu,av tu,av tu] [aJJ]
theorem aNk(hi lo yv)(k:K1 R):Vc.A (hi,lo,yv) k=aJ (ur yv) (ao (EU.call ((kj hi yv),lo,yv)) λx1=>k (Vc.out x1.2)) aH:=cd
theorem aNl:Vc.Ok:=by
 rintro⟨hi,lo,y⟩ ⟨hy,h0,h1,h2,h3⟩;have h0:0<=hi:=h0;have yb:0 < y:=by obtain rfl | rfl | rfl:=hy <;> omega
 have z:ur y=bm:=by simp[ur];omega
 have p:ajX (hi%y,lo,y):=⟨.inl hy,mg _ aq,lB _ yb,h2,h3⟩;rw[aNk,z,uo h0,aDP p];have e:(hi%y*18446744073709551616+lo)%y=(hi*18446744073709551616+lo)%y:=by rw[pa,iJ,gD _ (pb y),<-iJ,<-pa]
 simp only[aj,ag,bq,amZ,bq,Vd,e]
theorem XK:Vc.RS:=rE [.d tu,.d tu,.d tu] Vc
def agh:=Vc.eY aNl
def aET:(Int×Int)->Prop:=λ(x,y)=>(0<=x/\x < 18446744073709551616)/\0<=y/\y < 18446744073709551616
def T4:(Int×Int)->(Int×Int):=λ(x,y)=>(x*y / 18446744073709551616,x*y%18446744073709551616)
def LN:Fs Tryz.prog aET bq T4:=eV 184 Tryz.f184 (λ(x,yv)=>([.d tu x,.d tu yv],[])) (λx=>⟨.cons (.d tu x.1) (.cons (.d tu x.2) (.nil)),[],[]⟩) [av tu,av tu]
theorem aLf(x yv)(k:K1 R):LN.A (x,yv) k=k (LN.out ((bz .u64 (bz .u64 (fO .u64 (cF .u64 x 32) (cF .u64 yv 32)) (cF .u64 (bz .u64 (fO .u64 (cF .u64 x 32) (cX .and .u64 yv 4294967295)) (cF .u64 (fO .u64 (cX .and .u64 x 4294967295) (cX .and .u64 yv 4294967295)) 32)) 32)) (cF .u64 (bz .u64 (cX .and .u64 (bz .u64 (fO .u64 (cF .u64 x 32) (cX .and .u64 yv 4294967295)) (cF .u64 (fO .u64 (cX .and .u64 x 4294967295) (cX .and .u64 yv 4294967295)) 32)) 4294967295) (fO .u64 (cX .and .u64 x 4294967295) (cF .u64 yv 32))) 32)),(fO .u64 x yv))):=cd
theorem W7{a b m n:Int}(h0:0<=a)(h1:a<=m)(h2:0<=b)(h3:b<=n):0<=a*b/\a*b<=m*n:=⟨Int.mul_nonneg h0 h2,Int.mul_le_mul h1 h3 h2 (Int.le_trans h0 h1)⟩
theorem aLg:LN.Ok:=by
 rintro⟨x,y⟩ ⟨⟨h0,h1⟩,h2,h3⟩;have h0:0<=x:=h0;have h1:x < 18446744073709551616:=h1;have h2:0<=y:=h2;have h3:y < 18446744073709551616:=h3;rw[aLf];have p32:(2:Int)^32=4294967296:=rfl;have bcC:∀x:Int,cF .u64 x 32=x / 4294967296:=λx=>by rw[xJ 32 (by rfl) aq,p32]
 simp only[bcC,aql h0 h1,aql h2 h3];obtain⟨a,b,rfl,a0,a1,b0,b1⟩:∃a b:Int,x=a*4294967296+b/\0<=a/\a<=4294967295/\0<=b/\b<=4294967295:=⟨x / 4294967296,x%4294967296,aq,aq,aq,aq,aq⟩;obtain⟨c,d,rfl,c0,c1,d0,d1⟩:∃a b:Int,y=a*4294967296+b/\0<=a/\a<=4294967295/\0<=b/\b<=4294967295:=⟨y / 4294967296,y%4294967296,aq,aq,aq,aq,aq⟩;have e1:(a*4294967296+b) / 4294967296=a:=aq;have e2:(a*4294967296+b)%4294967296=b:=aq;have e3:(c*4294967296+d) / 4294967296=c:=aq;have e4:(c*4294967296+d)%4294967296=d:=aq;have e5:(a*4294967296+b)*(c*4294967296+d)=a*c*18446744073709551616+(a*d+b*c)*4294967296+b*d:=by
  have q:(4294967296:Int)*4294967296=18446744073709551616:=rfl;rw[Int.add_mul,Int.mul_add,Int.mul_add];have q1:a*4294967296*(c*4294967296)=a*c*18446744073709551616:=by rw[<-q];ac_rfl
  have q2:a*4294967296*d=a*d*4294967296:=by ac_rfl
  have q3:b*(c*4294967296)=b*c*4294967296:=by ac_rfl
  rw[q1,q2,q3];omega
 obtain⟨m1,m2⟩:=W7 a0 a1 c0 c1;obtain⟨m3,m4⟩:=W7 a0 a1 d0 d1;obtain⟨m5,m6⟩:=W7 b0 b1 c0 c1;obtain⟨m7,m8⟩:=W7 b0 b1 d0 d1;have n:(4294967295:Int)*4294967295=18446744065119617025:=rfl;rw[n]at m2 m4 m6 m8;simp only[e1,e2,e3,e4,bq,T4,e5,y7,sw]
 revert m1 m2 m3 m4 m5 m6 m7 m8
 generalize a*c=ac;generalize a*d=ad;generalize b*c=bc;generalize b*d=bd;intro m1 m2 m3 m4 m5 m6 m7 m8;have q1:bd%18446744073709551616=bd:=aq;have q2:ad%18446744073709551616=ad:=aq;have q3:bc%18446744073709551616=bc:=aq;have q4:ac%18446744073709551616=ac:=aq;rw[q1,q2,q3,q4];have q5:(ad+bd / 4294967296)%18446744073709551616=ad+bd / 4294967296:=aq;have q6:cX .and .u64 (ad+bd / 4294967296) 4294967295=(ad+bd / 4294967296)%4294967296:=aql aq aq;rw[q5,q6];refine bW av (bW LN.out (Prod.ext ?_ ?_))
 ·show _=(_:Int);simp only[];omega
 ·rfl
theorem On:LN.RS:=rE [.d tu,.d tu] LN
def adY:=LN.eY aLg
def Pn(x:Int):Prop:=0<=x/\x < 4611686018427377339
def lG(x:Int):Prop:=0<=x/\x < 18446744073709551616
theorem Pn.u{x:Int}(h:Pn x):lG x:=⟨h.1,by have:=h.2;omega⟩
def ln(a b:Int):Int:=a*b%4611686018427377339
theorem uq(a b:Int):Pn (ln a b):=⟨mg _ aq,lB _ aq⟩
def ap8:Nat->Int->Nat->Int->Int
 | 0,_,_,out=>out
 |f+1,a,n,out=>if n=0 then out else ap8 f (ln a a) (n / 2) (if n%2=1 then ln out a else out)
def pw(a:Int)(n:Nat):Int:=ap8 64 a n 1
theorem D7(f:Nat)(a out:Int):ap8 f a 0 out=out:=by cases f <;> rfl
theorem afa:∀(f g:Nat) (a:Int) (n:Nat) (out:Int),n < 2^f->n < 2^g->ap8 f a n out=ap8 g a n out
 | 0,g,a,n,out,h,_=>by obtain rfl:n=0:=aq;rw[D7,D7]
 |f+1,0,a,n,out,_,h=>by obtain rfl:n=0:=aq;rw[D7,D7]
 |f+1,g+1,a,n,out,h,h'=>by
  have e:(2:Nat)^(f+1)=2^f*2:=Nat.pow_succ 2 f;have e':(2:Nat)^(g+1)=2^g*2:=Nat.pow_succ 2 g;unfold ap8;split
  ·rfl
  ·exact afa f g _ _ _ aq aq
theorem aMH:∀(f:Nat) (a:Int) (n:Nat) (out:Int),Pn out->Pn (ap8 f a n out)
 | 0,_,_,_,h=>h
 |f+1,a,n,out,h=>by
  unfold ap8;split
  ·exact h
  ·refine aMH f _ _ _ ?_
   split
   ·exact uq _ _
   ·exact h
theorem afc(a:Int)(n:Nat):Pn (pw a n):=aMH _ _ _ _ ⟨aq,aq⟩
def ayg:(Int×Int)->Prop:=λ(a,b)=>lG a/\lG b
def aME:(Int×Int)->Int:=λ(a,b)=>ln a b
def Gv:Fs Tryz.prog ayg bq aME:=eV 240 Tryz.f240 (λ(a,b)=>([.d tu a,.d tu b],[])) (λx=>⟨.d tu x,[],[]⟩) [av tu,av tu] [adY,agh]
theorem aFQ(a b)(k:K1 R):Gv.A (a,b) k=ao (LN.call (a,b)) λx1=>ao (Vc.call (x1.1,x1.2,4611686018427377339)) λx2=>k (Gv.out x2):=cd
theorem aht(n:Int):n / 18446744073709551616*18446744073709551616+n%18446744073709551616=n:=aq
theorem aFR:Gv.Ok:=by rintro⟨a,b⟩ ⟨ha,hb⟩;have ha:lG a:=ha;have hb:lG b:=hb;obtain⟨m1,m2⟩:=W7 ha.1 (show a<=18446744073709551615 by have:=ha.2;omega) hb.1 (show b<=18446744073709551615 by have:=hb.2;omega);have n:(18446744073709551615:Int)*18446744073709551615=340282366920938463426481119284349108225:=rfl;rw[n]at m2;have p:XJ (a*b / 18446744073709551616,a*b%18446744073709551616,4611686018427377339):=⟨jg rfl,aq,aq,aq,aq⟩;rw[aFQ,On (d:=(a,b)) ⟨ha,hb⟩];simp only[ag,bq,T4];rw[XK p];simp only[ag,bq,Vd,aht];rfl
theorem RG:Gv.RS:=rE [.d tu,.d tu] Gv
def akT:=Gv.eY aFR
def aip:(Int×Int×Int)->Prop:=λ(a,n,o)=>lG a/\lG n/\Pn o
def Fb:(Int×Int×Int)->Int:=λ(a,n,o)=>ap8 64 a n.toNat o
def aya:(Int×Int)->Prop:=λ(a,n)=>lG a/\lG n
def atq:(Int×Int)->Int:=λ(a,n)=>pw a n.toNat
def qi:Ls aip bq Fb:=pD (λ(Dd,ze,outv)=>⟨([.d tu Dd,.d tu ze,bE,bE,bE,.d tu outv]++aW 14 []),[],(ai 20 [])⟩) (λx=>(.exit 0,⟨(aW 5 ([.d tu x]++aW 14 [])),[],(ai 20 [])⟩))
def A3:Fs Tryz.prog aya bq atq:=eV 187 Tryz.f187 (λ(a,n)=>([.d tu a,.d tu n],[])) (λx=>⟨.d tu x,[],[]⟩) [av tu,av tu] [akT] {loops:=lz [(2,{bg:=[0,1,5]})],outs:=lu [(2,{bg:=[5]},{bg:=[4]})],fa:=mc [(2,qi.E)]}
theorem aiq:qi.RS:=rL [.d tu,.d tu,.d tu] qi
theorem Mb(Dd ze outv)(kn:K2 R)(kx:K3 R):A3.R 0 qi (Dd,ze,outv) kn kx=aJ (xW ze 0) (aJ (Il (cX .and .u64 ze 1) 1) (ao (Gv.call (outv,Dd)) λx1=>ao (Gv.call (Dd,Dd)) λx2=>kn (qi.st (x2,(cF .u64 ze 1),x1))) (ao (Gv.call (Dd,Dd)) λx3=>kn (qi.st (x3,(cF .u64 ze 1),outv)))) (qi.go kx outv):=cd
theorem aFG(a n)(k:K1 R):A3.A (a,n) k=ao (qi.call (a,n,1)) λx4=>k (A3.out x4):=cd
theorem baw{n:Int}(h:lG n):cF .u64 n 1=n / 2:=xJ 1 (by rfl) aq
theorem aov:(A3.jx 0 qi):=by
 refine(A3.mf 0 qi) (λ(a,n,o)=>n.toNat) ?_
 rintro⟨a,n,o⟩ ⟨ha,hn,ho⟩;have ha:lG a:=ha;have hn:lG n:=hn;have ho:Pn o:=ho;have n0:=hn.1;have n1:=hn.2;by_cases h:0 < n
 ·left;have e:Fb (a,n,o)=Fb (ln a a,n / 2,if n%2=1 then ln o a else o):=by
   show ap8 64 a n.toNat o=ap8 64 (ln a a) (n / 2).toNat _;rw[afa 64 65 a n.toNat o aq aq];have t1:(n / 2).toNat=n.toNat / 2:=aq;have t2:(n%2=1)=(n.toNat%2=1):=by apply propext;omega
   rw[t1];simp only[t2];show(if n.toNat=0 then o else _)=_;rw[if_neg aq]
  refine⟨(ln a a,n / 2,if n%2=1 then ln o a else o),⟨(uq a a).u,⟨aq,aq⟩,?_⟩,by show(n / 2).toNat < n.toNat;omega,?_,λkn kx=> ?_⟩
  ·show Pn (if n%2=1 then ln o a else o);split
   ·exact uq _ _
   ·exact ho
  ·exact bW _ e.symm
  ·rw[Mb,dw h,baw hn,aWH n0 n1,RG (d:=(o,a)) ⟨ho.u,ha⟩,RG (d:=(a,a)) ⟨ha,ha⟩];by_cases h1:n%2=1
   ·rw[mQ h1,if_pos h1];rfl
   ·rw[j3 h1,if_neg h1];rfl
 ·right;intro R kn kx;obtain rfl:n=0:=aq;rw[Mb,cI aq];simp only[al,bq,Fb];rw[show ap8 64 a (ab 0) o=o from D7 _ _ _]
theorem aFH:A3.Ok:=by rintro⟨a,n⟩ ⟨ha,hn⟩;rw[aFG,aiq (d:=(a,n,1)) ⟨ha,hn,aq,aq⟩];rfl
theorem RE:A3.RS:=rE [.d tu,.d tu] A3
def Xi:=A3.eY aFH 1 ⟨.e7 aov,trivial⟩
def tA(p:Int):Bool:=decide (0 < p/\p < 4611686018427377339) && decide (pw p 2305843009213688669=1)
def tk(p:Int):Int:=if tA p then p else 1
theorem ahd(p:Int):Pn (tk p):=by
 unfold tk;split
 ·rename_i h;simp only[tA,aw,bt]at h;exact⟨aq,aq⟩
 ·exact⟨aq,aq⟩
def xI(p k:Int):Int:=pw (tk p) (k%2305843009213688669).toNat
def gb(k:Int):Int:=xI 4 k
def aep(p:Int):Int:=pw (tk p) 2305843009213688668
def Er(l:List Int):Int:=l.foldl (λo p=>ln o (tk p)) 1
theorem aSw(l:List Int)(o:Int)(h:Pn o):Pn (l.foldl (λo p=>ln o (tk p)) o):=by
 induction l generalizing o with
 |nil=>exact h
 |cons p l ih=>exact ih _ (uq _ _)
theorem aSx(l:List Int):Pn (Er l):=aSw l 1 ⟨aq,aq⟩
def ayb:Int->Prop:=λp=>lG p
def UC:Int->Bool:=λp=>tA p
def yw:Fs Tryz.prog ayb bq UC:=eV 124 Tryz.f124 (λp=>([.d tu p],[])) (λx=>⟨.d .bool x,[],[]⟩) [av tu] [Xi]
theorem aFI(p)(k:K1 R):yw.A p k=aJ (xW p 0) (aJ (fv p 4611686018427377339) (ao (A3.call (p,2305843009213688669)) λx1=>k (yw.out (Il x1 1))) (k (yw.out aZ))) (k (yw.out aZ)):=cd
theorem aFJ:yw.Ok:=by
 intro p hp;have hp:lG p:=hp;rw[aFI,RE (d:=(p,2305843009213688669)) ⟨hp,by constructor <;> decide⟩];simp only[ag,bq,atq,bq,UC,tA];by_cases h:0 < p
 ·rw[dw h,aj];by_cases h2:p < 4611686018427377339
  ·rw[aS h2,aj,aX ⟨h,h2⟩,bM];rfl
  ·rw[aQ h2,al,bo (λx=>h2 x.2),dA]
 ·rw[cI h,al,bo (λx=>h x.1),dA]
theorem D5:yw.RS:=rE [.d tu] yw
def Xj:=yw.eY aFJ
def ayf:Int->Prop:=λp=>lG p
def Md:Int->Int:=λp=>tk p
def Gu:Fs Tryz.prog ayf bq Md:=eV 214 Tryz.f214 (λp=>([.d tu p],[])) (λx=>⟨.d tu x,[],[]⟩) [av tu] [Xj]
theorem aFO(p)(k:K1 R):Gu.A p k=ao (yw.call p) λx1=>aJ (x1) (k (Gu.out p)) (k (Gu.out 1)):=cd
theorem aFP:Gu.Ok:=by intro p hp;rw[aFO,D5 (d:=p) hp];simp only[ag,bq,UC,bq,Md,tk];cases tA p <;> rfl
theorem RF:Gu.RS:=rE [.d tu] Gu
def Xk:=Gu.eY aFP
def ayc:(Int×Int)->Prop:=λ(p,k)=>lG p/\lG k
def atr:(Int×Int)->Int:=λ(p,k)=>xI p k
def Mc:Fs Tryz.prog ayc bq atr:=eV 153 Tryz.f153 (λ(p,kv)=>([.d tu p,.d tu kv],[])) (λx=>⟨.d tu x,[],[]⟩) [av tu,av tu] [Xk,Xi]
theorem aFK(p kv)(k:K1 R):Mc.A (p,kv) k=ao (Gu.call p) λx1=>ao (A3.call (x1,(kj kv 2305843009213688669))) λx2=>k (Mc.out x2):=cd
theorem aFL:Mc.Ok:=by rintro⟨p,k⟩ ⟨hp,hk⟩;have hk:lG k:=hk;have e:=uo (y:=2305843009213688669) hk.1;have b:lG (k%2305843009213688669):=⟨aq,aq⟩;rw[aFK,RF (d:=p) hp,e];simp only[ag,bq,Md];rw[RE (d:=(tk p,k%2305843009213688669)) ⟨(ahd p).u,b⟩];rfl
theorem ae5:Mc.RS:=rE [.d tu,.d tu] Mc
def akQ:=Mc.eY aFL
def aFh:Int->Prop:=λk=>lG k
def abQ:Int->Int:=λk=>gb k
def LX:Fs Tryz.prog aFh bq abQ:=eV 81 Tryz.f81 (λkv=>([.d tu kv],[])) (λx=>⟨.d tu x,[],[]⟩) [av tu] [akQ]
theorem aLT(kv)(k:K1 R):LX.A kv k=ao (Mc.call (4,kv)) λx1=>k (LX.out x1):=cd
theorem aLU:LX.Ok:=by intro k hk;rw[aLT,ae5 (d:=(4,k)) ⟨⟨aq,aq⟩,hk⟩];rfl
theorem HF:LX.RS:=rE [.d tu] LX
def Ug:=LX.eY aLU
def aMs:Int->Prop:=λp=>lG p
def aMr:Int->Int:=λp=>aep p
def ax7:Fs Tryz.prog aMs bq aMr:=eV 283 Tryz.f283 (λp=>([.d tu p],[])) (λx=>⟨.d tu x,[],[]⟩) [av tu] [Xk,Xi]
theorem aRy(p)(k:K1 R):ax7.A p k=ao (Gu.call p) λx1=>ao (A3.call (x1,2305843009213688668)) λx2=>k (ax7.out x2):=cd
theorem aRz:ax7.Ok:=by intro p hp;rw[aRy,RF (d:=p) hp];simp only[ag,bq,Md];rw[RE (d:=(tk p,2305843009213688668)) ⟨(ahd p).u,by constructor <;> decide⟩];rfl
theorem aMt:ax7.RS:=rE [.d tu] ax7
def aRA:=ax7.eY aRz
abbrev akH:=Int×Bs×Int×Int
def as3:akH->Prop:=λ(o,l,n,i)=>Pn o/\(∀x∈l,lG x)/\l.length<=1000000000/\n=l.length/\∃k:Nat,k<=l.length/\i=k
def Xb:akH->Int:=λ(o,l,n,i)=>(l.drop i.toNat).foldl (λo p=>ln o (tk p)) o
def aeA:Bs->Prop:=λl=>(∀x∈l,lG x)/\l.length<=1000000000
def aVt:Bs->Int:=λl=>Er l
def Cn:Ls as3 bq Xb:=pD (λ(outv,t6,t7,t8)=>⟨([bE,bE,bE,.d tu outv,bE,bE,.d tU t6,.d ti t7,.d ti t8]++aW 9 []),[],(ai 18 [])⟩) (λx=>(.exit 0,⟨([bE,bE,bE,.d tu x]++aW 14 []),[],(ai 18 [])⟩))
def aez:Fs Tryz.prog aeA bq aVt:=eV 276 Tryz.f276 (λl=>([.d tU l],[])) (λx=>⟨.d tu x,[],[]⟩) [av tU] [Xk,akT] {loops:=lz [(3,{bg:=[3,6,7,8]})],outs:=lu [(3,{bg:=[3]},{bg:=[2]})],fa:=mc [(3,Cn.E)]}
theorem as4:Cn.RS:=rL [.d tu,.d tU,.d ti,.d ti] Cn
theorem Uf(outv t6 t7 t8)(kn:K2 R)(kx:K3 R):aez.R 0 Cn (outv,t6,t7,t8) kn kx=aJ (fv t8 t7) (aJ (eA t8 (t6.length:Int)) (ao (Gu.call (nth tu t6 (ab t8))) λx1=>ao (Gv.call (outv,x1)) λx2=>kn (Cn.st (x2,t6,t7,(bz .i64 t8 1)))) aH) (Cn.go kx outv):=cd
theorem aRm(l)(k:K1 R):aez.A l k=ao (Cn.call (1,l,(l.length:Int),0)) λx3=>k (aez.out x3):=cd
theorem axP:(aez.jx 0 Cn):=by
 refine(aez.mf 0 Cn) (λ(o,l,n,i)=>l.length - i.toNat) ?_
 rintro⟨o,l,n,i⟩ ⟨ho,hl,hb,rfl,k,hk,rfl⟩;have ho:Pn o:=ho;have hb:l.length<=1000000000:=hb;have hk:k<=l.length:=hk;by_cases h:k < l.length
 ·left;have hx:=hl _ (aK h);have n1:nth (.int .u64) l k=l[k]:=bY (t:= .int .u64) h;refine⟨(ln o (tk l[k]),l,l.length,((k+1:Nat):Int)),⟨uq _ _,hl,hb,rfl,k+1,aq,rfl⟩,by simp only[aa];omega,?_,λkn kx=> ?_⟩
  ·simp only[bq,Xb,aa];rw[au h];rfl
  ·rw[Uf];simp(disch:=omega) only[↓S1,↓if_pos,↓if_neg,if_pos,if_neg,bO,bC,S2,n1];rw[RF (d:=l[k]) hx];simp only[ag,bq,Md];rw[RG (d:=(o,tk l[k])) ⟨ho.u,(ahd _).u⟩];rfl
 ·right;obtain rfl:k=l.length:=aq;intro R kn kx;rw[Uf];simp(disch:=omega) only[↓S1,↓if_pos,↓if_neg,if_pos,if_neg,bO,bC,S2,bq,Xb,aI];rfl
theorem aRn:aez.Ok:=by rintro l ⟨hl,hb⟩;rw[aRm,as4 (d:=(1,l,l.length,0)) ⟨⟨aq,aq⟩,hl,hb,rfl,0,aq,rfl⟩];rfl
theorem as5:aez.RS:=rE [.d tU] aez
def aBC:=aez.eY aRn 1 ⟨.e7 axP,trivial⟩
def aLM:(Int×Int)->Prop:=λ(p,q)=>lG p/\lG q
def aLL:(Int×Int)->Int:=λ(p,q)=>Er [p,q]
def axN:Fs Tryz.prog aLM bq aLL:=eV 257 Tryz.f257 (λ(p,q)=>([.d tu p,.d tu q],[])) (λx=>⟨.d tu x,[],[]⟩) [av tu,av tu] [aBC]
theorem aRj(p q)(k:K1 R):axN.A (p,q) k=ao (aez.call [p,q]) λx1=>k (axN.out x1):=cd
theorem aRk:axN.Ok:=by rintro⟨p,q⟩ ⟨hp,hq⟩;have h:aeA [p,q]:=⟨by intro x hx;simp only[cq,List.not_mem_nil,or_false]at hx;rcases hx with rfl | rfl <;> assumption,by simp only[aF,bp];omega⟩;rw[aRj,as5 h];rfl
theorem aLO:axN.RS:=rE [.d tu,.d tu] axN
def aRl:=axN.eY aRk
def Qn(x:Int):Prop:=0<=x/\x < 2305843009213688669
theorem Qn.u{x:Int}(h:Qn x):lG x:=⟨h.1,by have:=h.2;omega⟩
def aLy(a:Int):Int:=a%2305843009213688669
theorem anX(a:Int):Qn (aLy a):=⟨mg _ aq,lB _ aq⟩
def avT(a b:Int):Int:=(aLy a+aLy b)%2305843009213688669
def anU(a b:Int):Int:=aLy a*aLy b%2305843009213688669
def Lp(h:List Int):Int:=h.foldl (λn b=>(n*256+b)%2305843009213688668) 0+1
def al8.b(n:Int):Prop:=0<=n/\n < 2305843009213688668
theorem ada(h:List Int)(n:Int)(hn:al8.b n):al8.b (h.foldl (λn b=>(n*256+b)%2305843009213688668) n):=by
 induction h generalizing n with
 |nil=>exact hn
 |cons p l ih=>exact ih _ ⟨mg _ aq,lB _ aq⟩
theorem adb(h:List Int):0 < Lp h/\Lp h < 2305843009213688669:=by have:=ada h 0 ⟨aq,aq⟩;have h1:=this.1;have h2:=this.2;unfold Lp;omega
theorem aAr(a b:Int):Qn (avT a b):=⟨mg _ aq,lB _ aq⟩
theorem aQZ(a b:Int):Qn (anU a b):=⟨mg _ aq,lB _ aq⟩
def awP:Int->Prop:=λ_=>True
def Tw:Int->Bool:=λa=>fv a 2305843009213688669
def IT:Fs Tryz.prog awP bq Tw:=eV 155 Tryz.f155 (λa=>([.d tu a],[])) (λx=>⟨.d .bool x,[],[]⟩) [av tu]
theorem aD3(a)(k:K1 R):IT.A a k=k (IT.out (fv a 2305843009213688669)):=cd
theorem aD4:IT.Ok:=by intro a _;rw[aD3];rfl
theorem Q1:IT.RS:=rE [.d tu] IT
def WJ:=IT.eY aD4
def aQc:Int->Prop:=λa=>lG a
def aJ5:Int->Int:=λa=>aLy a
def aOY:Fs Tryz.prog aQc bq aJ5:=eV 277 Tryz.f277 (λa=>([.d tu a],[])) (λx=>⟨.d tu x,[],[]⟩) [av tu]
theorem aUC(a)(k:K1 R):aOY.A a k=k (aOY.out (kj a 2305843009213688669)):=cd
theorem aUD:aOY.Ok:=by intro a ha;rw[aUC,uo ha.1];rfl
theorem abD:aOY.RS:=rE [.d tu] aOY
def aJ6:=aOY.eY aUD
def aD1:(Int×Int)->Prop:=λ(a,b)=>Qn a/\Qn b
def aQd:(Int×Int)->Int:=λ(a,b)=>(a+b)%2305843009213688669
def ac9:Fs Tryz.prog aD1 bq aQd:=eV 278 Tryz.f278 (λ(a,b)=>([.d tu a,.d tu b],[])) (λx=>⟨.d tu x,[],[]⟩) [av tu,av tu]
theorem aJ7(a b)(k:K1 R):ac9.A (a,b) k=k (ac9.out (kj (bz .u64 a b) 2305843009213688669)):=cd
theorem aJ8:ac9.Ok:=by
 rintro⟨a,b⟩ ⟨ha,hb⟩;have ha:Qn a:=ha;have hb:Qn b:=hb;obtain⟨h1,h2⟩:=ha;obtain⟨h3,h4⟩:=hb;have e:bz .u64 a b=a+b:=by rw[sw];omega
 rw[aJ7,e,uo aq];rfl
theorem aD2:ac9.RS:=rE [.d tu,.d tu] ac9
def aJ9:=ac9.eY aJ8
def awQ:(Int×Int)->Prop:=λ(a,b)=>Qn a/\Qn b
def aKa:(Int×Int)->Int:=λ(a,b)=>a*b%2305843009213688669
def Q2:Fs Tryz.prog awQ bq aKa:=eV 279 Tryz.f279 (λ(a,b)=>([.d tu a,.d tu b],[])) (λx=>⟨.d tu x,[],[]⟩) [av tu,av tu] [adY,agh]
theorem aD5(a b)(k:K1 R):Q2.A (a,b) k=ao (LN.call (a,b)) λx1=>ao (Vc.call (x1.1,x1.2,2305843009213688669)) λx2=>k (Q2.out x2):=cd
theorem aD6:Q2.Ok:=by rintro⟨a,b⟩ ⟨ha,hb⟩;have ha:Qn a:=ha;have hb:Qn b:=hb;obtain⟨m1,m2⟩:=W7 ha.1 (show a<=18446744073709551615 by have:=ha.2;omega) hb.1 (show b<=18446744073709551615 by have:=hb.2;omega);have n:(18446744073709551615:Int)*18446744073709551615=340282366920938463426481119284349108225:=rfl;rw[n]at m2;have p:XJ (a*b / 18446744073709551616,a*b%18446744073709551616,2305843009213688669):=⟨eI (jg rfl),aq,aq,aq,aq⟩;rw[aD5,On (d:=(a,b)) ⟨ha.u,hb.u⟩];simp only[ag,bq,T4];rw[XK p];simp only[ag,bq,Vd,aht];rfl
theorem awR:Q2.RS:=rE [.d tu,.d tu] Q2
def aD7:=Q2.eY aD6
def aJQ:(Int×Int)->Prop:=λ(a,b)=>lG a/\lG b
def aUB:(Int×Int)->Int:=λ(a,b)=>avT a b
def awK:Fs Tryz.prog aJQ bq aUB:=eV 258 Tryz.f258 (λ(a,b)=>([.d tu a,.d tu b],[])) (λx=>⟨.d tu x,[],[]⟩) [av tu,av tu] [aJ6,aJ9]
theorem aP1(a b)(k:K1 R):awK.A (a,b) k=ao (aOY.call a) λx1=>ao (aOY.call b) λx2=>ao (ac9.call (x1,x2)) λx3=>k (awK.out x3):=cd
theorem aP2:awK.Ok:=by rintro⟨a,b⟩ ⟨ha,hb⟩;rw[aP1,abD (d:=a) ha,abD (d:=b) hb];simp only[ag,bq,aJ5];rw[aD2 (d:=(aLy a,aLy b)) ⟨anX a,anX b⟩];rfl
theorem aJR:awK.RS:=rE [.d tu,.d tu] awK
def aP3:=awK.eY aP2
def aJ3:(Int×Int)->Prop:=λ(a,b)=>lG a/\lG b
def aJ2:(Int×Int)->Int:=λ(a,b)=>anU a b
def awO:Fs Tryz.prog aJ3 bq aJ2:=eV 259 Tryz.f259 (λ(a,b)=>([.d tu a,.d tu b],[])) (λx=>⟨.d tu x,[],[]⟩) [av tu,av tu] [aJ6,aD7]
theorem aP8(a b)(k:K1 R):awO.A (a,b) k=ao (aOY.call a) λx1=>ao (aOY.call b) λx2=>ao (Q2.call (x1,x2)) λx3=>k (awO.out x3):=cd
theorem aP9:awO.Ok:=by rintro⟨a,b⟩ ⟨ha,hb⟩;rw[aP8,abD (d:=a) ha,abD (d:=b) hb];simp only[ag,bq,aJ5];rw[awR (d:=(aLy a,aLy b)) ⟨anX a,anX b⟩];rfl
theorem aJ4:awO.RS:=rE [.d tu,.d tu] awO
def aQa:=awO.eY aP9
def ana:(Int×Bs×Int)->Prop:=λ(n,h,i)=>al8.b n/\h.length=32/\Bytes h/\∃k:Nat,k<=32/\i=k
def IQ:(Int×Bs×Int)->Int:=λ(n,h,i)=>(h.drop i.toNat).foldl (λn b=>(n*256+b)%2305843009213688668) n
def aDW:Bs->Prop:=λh=>h.length=32/\Bytes h
def am9:Bs->Int:=λh=>Lp h
def wX:Ls ana bq IQ:=pD (λ(n,t6,t7)=>⟨([bE,bE,bE,.d tu n,bE,bE,.d tH t6,.d ti t7]++aW 13 []),[],(ai 21 [])⟩) (λx=>(.exit 0,⟨([bE,bE,bE,.d tu x]++aW 17 []),[],(ai 21 [])⟩))
def Lj:Fs Tryz.prog aDW bq am9:=eV 218 Tryz.f218 (λh=>([.d tH h],[])) (λx=>⟨.d tu x,[],[]⟩) [av tH] [agh] {loops:=lz [(3,{bg:=[3,6,7]})],outs:=lu [(3,{bg:=[3]},{bg:=[2]})],fa:=mc [(3,wX.E)]}
theorem anb:wX.RS:=rL [.d tu,.d tB,.d ti] wX
theorem Pp(n t6 t7)(kn:K2 R)(kx:K3 R):Lj.R 0 wX (n,t6,t7) kn kx=aJ (fv t7 32) (aJ (eA t7 32) (ao (Vc.call ((cF .u64 n 56),(cX .or .u64 (oq .u64 n 8) (dR .u64 (nth tb t6 (ab t7)))),2305843009213688668)) λx1=>kn (wX.st (x1,t6,(bz .i64 t7 1)))) aH) (wX.go kx n):=cd
theorem aJW(h)(k:K1 R):Lj.A h k=ao (wX.call (0,h,0)) λx2=>k (Lj.out (bz .u64 x2 1)):=cd
theorem YQ{n b:Int}(hn:al8.b n)(hb:ab0 b):cF .u64 n 56*18446744073709551616+cX .or .u64 (oq .u64 n 8) (dR .u64 b)=n*256+b/\lG (cF .u64 n 56)/\lG (cX .or .u64 (oq .u64 n 8) (dR .u64 b)):=by
 obtain⟨h1,h2⟩:=hn;obtain⟨h3,h4⟩:=hb;have p56:(2:Int)^56=72057594037927936:=rfl;have p8:(2:Int)^8=256:=rfl;have e:dR .u64 b=b:=by rw[aw8];omega
 rw[xJ 56 (by rfl) aq,zL 8 (by rfl) aq,p56,p8,e,Uc 8 256 rfl aq aq aq aq aq aq];exact⟨aq,⟨aq,aq⟩,aq,aq⟩
theorem arM:(Lj.jx 0 wX):=by
 refine(Lj.mf 0 wX) (λ(n,h,i)=>32 - i.toNat) ?_
 rintro⟨n,h,i⟩ ⟨hn,hl,hb,k,hk,rfl⟩;have hn:al8.b n:=hn;have hl:h.length=32:=hl;have hb:Bytes h:=hb;by_cases fF:k < 32
 ·left;have hx:ab0 (h[k]'(aq)):=hb _ (aK _);have n1:nth (.int .u8) h k=h[k]'(aq):=bY (t:= .int .u8) aq;obtain⟨d1,d2,d3⟩:=YQ hn hx;refine⟨((n*256+h[k]'(aq))%2305843009213688668,h,((k+1:Nat):Int)),⟨⟨aq,aq⟩,hl,hb,k+1,aq,rfl⟩,by simp only[aa];omega,?_,λkn kx=> ?_⟩
  ·simp only[bq,IQ,aa];rw[au (by omega:k < h.length)];rfl
  ·rw[Pp];simp(disch:=omega) only[↓S1,↓if_pos,↓if_neg,if_pos,if_neg,bO,bC,S2,n1];rw[XK (d:=(_,_,2305843009213688668)) ⟨eI (eI rfl),d2.1,d2.2,d3.1,d3.2⟩];simp only[ag,bq,Vd,d1]
 ·right;obtain rfl:k=32:=aq;intro R kn kx;rw[Pp];simp(disch:=omega) only[↓S1,↓if_pos,↓if_neg,if_pos,if_neg,bO,bC,S2,bq,IQ];rw[dO aq];rfl
theorem aJX:Lj.Ok:=by
 rintro h ⟨hl,hb⟩;have e:=ada h 0 ⟨aq,aq⟩;have h1:=e.1;have h2:=e.2;rw[aJW,anb (d:=(0,h,0)) ⟨⟨aq,aq⟩,hl,hb,0,aq,rfl⟩];simp only[ag,bq,IQ,bq,am9,Lp,aT,ay]
 revert h1 h2
 generalize h.foldl (λn b=>(n*256+b)%2305843009213688668) 0=m;intro h1 h2;have e:bz .u64 m 1=m+1:=by rw[sw];omega
 rw[e]
theorem aj4:Lj.RS:=rE [.d tB] Lj
def arN:=Lj.eY aJX 1 ⟨.e7 arM,trivial⟩
theorem aqu(n:Int): [dR .u8 (cF .u64 n 56),dR .u8 (cF .u64 n 48),dR .u8 (cF .u64 n 40),dR .u8 (cF .u64 n 32),dR .u8 (cF .u64 n 24),dR .u8 (cF .u64 n 16),dR .u8 (cF .u64 n 8),dR .u8 (cF .u64 n 0)]=jo n:=av1 n
theorem ea{α:Type}{l:List α}{n:Nat}(h:l.length=n):cut l 0 n=l:=by subst h;simp[cut]
theorem avd{n:ByteArray}{a b c:List Int}(hn:n.size<=100)(ha:a.length<=1000000)(hb:b.length<=1000000)(hc:c.length<=1000000):TI (n,[a,b,c]):=by show(X8 _ [a,b,c]).length<=_;rw[X8];simp only[qG,dK,rX,ak,cv,mK,bp];omega
theorem aOm{n:ByteArray}{a b:List Int}(hn:n.size<=100)(ha:a.length<=1000000)(hb:b.length<=1000000):TI (n,[a,b]):=by show(X8 _ [a,b]).length<=_;rw[X8];simp only[qG,dK,rX,ak,cv,mK,bp];omega
theorem VQ{n:ByteArray}{a:List Int}(hn:n.size<=100)(ha:a.length<=1000000):TI (n,[a]):=by show(X8 _ [a]).length<=_;rw[X8];simp only[qG,dK,rX,ak,cv,mK,bp];omega
def Sm(m:List Int):Prop:=m.length=32/\Bytes m
theorem aVL(b:List Int):Sm (aVG b):=⟨azP b,aDi b⟩
theorem apu(n:List Int)(ps:List (List Int)):Sm (tag n ps):=aVL _
def aOl(n:ByteArray)(ps:List (List Int)):List Int:=tag (bS n) ps
def aXU:ByteArray:=⟨#[115,105,103]⟩
def axA:ByteArray:=⟨#[110,111,110,99,101]⟩
def yf(r p:Int)(m:List Int):Int:=Lp (aOl aXU [jo r,jo p,m])
theorem SR(r p:Int)(m:List Int):Qn (yf r p m):=by have:=adb (aOl aXU [jo r,jo p,m]);exact⟨by unfold yf;omega,by unfold yf;omega⟩
def aOV(s:Sg):Prop:=lG s.1/\lG s.2.1
def qR(p:Int)(m:List Int)(t:Int)(s:Sg):Bool:=if p=1\/tA p=aZ\/tA t=aZ\/tA s.1=aZ\/¬s.2.1 < 2305843009213688669 then aZ else decide (gb s.2.1=Er [s.1,xI p (yf s.1 p m),aep t])
def amc(k nonce:Int)(m:List Int)(t:Int):Sg:=(Er [gb nonce,t],avT nonce (anU (yf (Er [gb nonce,t]) (gb k) m) k),())
def aLs(k:Int)(m:List Int):Int:=Lp (aOl axA [jo k,m])
def qC(k:Int)(m:List Int):Sg:=if k < 2305843009213688669/\k≠0 then amc k (aLs k m) m 1 else(0,0,())
def awF:Int->Prop:=λ_=>True
def ac2:Int->Bs:=λn=>jo n
def IL:Fs Tryz.prog awF bq ac2:=eV 219 Tryz.f219 (λn=>([.d tu n],[])) (λx=>⟨.d tB x,[],[]⟩) [av tu] [] {loops:=lz [(3,{bg:=[0,3,7,8],sites:=[5]})],outs:=lu [(3,{bg:=[3],sites:=[5]},{bg:=[2],sites:=[5]})],res:=[av tB]} 12
theorem aDR(n)(k:K1 R):IL.A n k=k (IL.out [(dR .u8 (cF .u64 n 56)),(dR .u8 (cF .u64 n 48)),(dR .u8 (cF .u64 n 40)),(dR .u8 (cF .u64 n 32)),(dR .u8 (cF .u64 n 24)),(dR .u8 (cF .u64 n 16)),(dR .u8 (cF .u64 n 8)),(dR .u8 (cF .u64 n 0))]):=cd
theorem aDS:IL.Ok:=by intro n _;rw[aDR,aqu];rfl
theorem QQ:IL.RS:=rE [.d tu] IL
def ajY:=IL.eY aDS 1 ⟨.none cd,trivial⟩
def aDn:(Int×Int×Bs)->Prop:=λ(r,p,m)=>Sm m
def ams:(Int×Int×Bs)->Int:=λ(r,p,m)=>yf r p m
def Yz:Fs Tryz.prog aDn bq ams:=eV 260 Tryz.f260 (λ(r,p,m)=>([.d tu r,.d tu p,.d tH m],[])) (λx=>⟨.d tu x,[],[]⟩) [av tu,av tu,av tH] [ajY,abG,arN]
theorem aIP(r p m)(k:K1 R):Yz.A (r,p,m) k=ao (IL.call r) λx1=>ao (IL.call p) λx2=>ao (WQ.call ((⟨#[115,105,103]⟩:ByteArray),[x1,x2,(cut m 0 32)])) λx3=>ao (Lj.call x3) λx4=>k (Yz.out x4):=cd
theorem aIQ:Yz.Ok:=by rintro⟨r,p,m⟩ hm;have hm:Sm m:=hm;rw[aIP,QQ (d:=r) trivial,QQ (d:=p) trivial];simp only[ag,bq,ac2];rw[ea hm.1,TJ (avd eX (by rw[cv];omega) (by rw[cv];omega) (by rw[hm.1];omega))];simp only[ag,bq,anr];rw[aj4 (d:=tag (bS (⟨#[115,105,103]⟩:ByteArray)) [jo r,jo p,m]) (apu _ _)];rfl
theorem ajL:Yz.RS:=rE [.d tu,.d tu,.d tB] Yz
def aqZ:=Yz.eY aIQ
abbrev alM:=Int×Bs×Int×Sg
def auR:alM->Prop:=λ(p,m,t,s)=>lG p/\Sm m/\lG t/\aOV s
def alN:alM->Bool:=λ(p,m,t,s)=>qR p m t s
def uU:Fs Tryz.prog auR bq alN:=eV 274 Tryz.f274 (λ(p,m,t,pre)=>([.d tu p,.d tH m,.d tu t,.d KF pre],[])) (λx=>⟨.d .bool x,[],[]⟩) [av tu,av tH,av tu,av KF] [Xj,WJ,aqZ,akQ,aRA,aBC,Ug]
theorem azM(p m t pre)(k:K1 R):uU.A (p,m,t,pre) k=aJ (Il p 1) (k (uU.out aZ)) (ao (yw.call p) λx1=>aJ (!x1) (k (uU.out aZ)) (ao (yw.call t) λx2=>aJ (!x2) (k (uU.out aZ)) (ao (yw.call pre.1) λx3=>aJ (!x3) (k (uU.out aZ)) (ao (IT.call pre.2.1) λx4=>aJ (!x4) (k (uU.out aZ)) (ao (Yz.call (pre.1,p,m)) λx5=>ao (Mc.call (p,x5)) λx6=>ao (ax7.call t) λx7=>ao (aez.call [pre.1,x6,x7]) λx8=>ao (LX.call pre.2.1) λx9=>k (uU.out (Il x9 x8))))))):=cd
theorem azN:uU.Ok:=by
 rintro⟨p,m,t,s⟩ ⟨hp,hm,ht,hs⟩;have hp:lG p:=hp;have ht:lG t:=ht;have hm:Sm m:=hm;have hs:aOV s:=hs;rw[azM,D5 (d:=p) hp,D5 (d:=t) ht,D5 (d:=s.1) hs.1,Q1 (d:=s.2.1) trivial];simp only[ag,bq,UC,bq,Tw,bq,alN,qR];by_cases h1:p=1
 ·rw[mQ h1,aj,if_pos (jg h1)]
 rw[j3 h1,al];cases h2:tA p
 ·rw[if_pos (eI (jg rfl))];rfl
 cases h3:tA t
 ·rw[if_pos (eI (eI (jg rfl)))];rfl
 cases h4:tA s.1
 ·rw[if_pos (eI (eI (eI (jg rfl))))];rfl
 by_cases h5:s.2.1 < 2305843009213688669
 ·rw[aS h5,if_neg (by simp[h1,h5])];have hq:=SR s.1 p m;rw[ajL (d:=(s.1,p,m)) hm];simp only[bT,al,ag,bq,ams];rw[ae5 (d:=(p,yf s.1 p m)) ⟨hp,hq.u⟩,aMt (d:=t) ht];simp only[ag,bq,atr,bq,aMr];have q:aeA [s.1,xI p (yf s.1 p m),aep t]:=⟨by
   intro x hx;simp only[cq,List.not_mem_nil,or_false]at hx;rcases hx with rfl | rfl | rfl
   ·exact hs.1
   ·exact(afc _ _).u
   ·exact(afc _ _).u,by simp only[aF,bp];omega⟩
  rw[as5 q,HF (d:=s.2.1) hs.2];rfl
 ·rw[aQ h5,if_pos (eI (eI (eI (eI h5))))];rfl
theorem auS:uU.RS:=rE [.d tu,.d tB,.d tu,.d KF] uU
def azO:=uU.eY azN
def avb:(Int×Bs×Sg)->Prop:=λ(p,m,s)=>lG p/\Sm m/\aOV s
def alS:(Int×Bs×Sg)->Bool:=λ(p,m,s)=>qR p m 1 s
def JI:Fs Tryz.prog avb bq alS:=eV 251 Tryz.f251 (λ(p,m,sv)=>([.d tu p,.d tH m,.d KF sv],[])) (λx=>⟨.d .bool x,[],[]⟩) [av tu,av tH,av KF] [azO]
theorem az1(p m sv)(k:K1 R):JI.A (p,m,sv) k=ao (uU.call (p,m,1,sv)) λx1=>k (JI.out x1):=cd
theorem az2:JI.Ok:=by rintro⟨p,m,s⟩ ⟨hp,hm,hs⟩;rw[az1,auS (d:=(p,m,1,s)) ⟨hp,hm,⟨aq,aq⟩,hs⟩];rfl
theorem avc:JI.RS:=rE [.d tu,.d tB,.d KF] JI
def az3:=JI.eY az2
def aN8:Int->Prop:=λ_=>True
def azS:Int->Bool:=λk=>decide (k < 2305843009213688669/\k≠0)
def au2:Fs Tryz.prog aN8 bq azS:=eV 216 Tryz.f216 (λkv=>([.d tu kv],[])) (λx=>⟨.d .bool x,[],[]⟩) [av tu] [WJ]
theorem aSp(kv)(k:K1 R):au2.A kv k=ao (IT.call kv) λx1=>aJ (x1) (k (au2.out (C3 kv 0))) (k (au2.out aZ)):=cd
theorem aSq:au2.Ok:=by
 intro k _;rw[aSp,Q1 (d:=k) trivial];simp only[ag,bq,Tw,bq,azS];by_cases h:k < 2305843009213688669
 ·rw[aS h,aj];by_cases h0:k=0
  ·rw[dN h0,bo (λx=>x.2 h0)]
  ·rw[fH h0,aX ⟨h,h0⟩]
 ·rw[aQ h,al,bo (λx=>h x.1)]
theorem aN9:au2.RS:=rE [.d tu] au2
def aSr:=au2.eY aSq
abbrev alL:=Int×Int×Bs×Int
def auP:alL->Prop:=λ(k,n,m,t)=>lG k/\lG n/\Sm m/\lG t
def aG4:alL->Sg:=λ(k,n,m,t)=>amc k n m t
def JD:Fs Tryz.prog auP bq aG4:=eV 217 Tryz.f217 (λ(kv,nonce,m,t)=>([.d tu kv,.d tu nonce,.d tH m,.d tu t],[])) (λx=>⟨.d KF x,[],[]⟩) [av tu,av tu,av tH,av tu] [Ug,aRl,aqZ,aQa,aP3]
theorem azJ(kv nonce m t)(k:K1 R):JD.A (kv,nonce,m,t) k=ao (LX.call nonce) λx1=>ao (axN.call (x1,t)) λx2=>ao (LX.call kv) λx3=>ao (Yz.call (x2,x3,m)) λx4=>ao (awO.call (x4,kv)) λx5=>ao (awK.call (nonce,x5)) λx6=>k (JD.out (x2,(x6,()))):=cd
theorem azK:JD.Ok:=by rintro⟨k,n,m,t⟩ ⟨hk,hn,hm,ht⟩;have hk:lG k:=hk;have hn:lG n:=hn;have hm:Sm m:=hm;have ht:lG t:=ht;rw[azJ,HF (d:=n) hn];simp only[ag,bq,abQ];rw[aLO (d:=(gb n,t)) ⟨(afc _ _).u,ht⟩,HF (d:=k) hk];simp only[ag,bq,abQ,bq,aLL];rw[ajL (d:=(Er [gb n,t],gb k,m)) hm];simp only[ag,bq,ams];rw[aJ4 (d:=(yf (Er [gb n,t]) (gb k) m,k)) ⟨(SR _ _ _).u,hk⟩];simp only[ag,bq,aJ2];rw[aJR (d:=(n,anU (yf (Er [gb n,t]) (gb k) m) k)) ⟨hn,(aQZ _ _).u⟩];rfl
theorem auQ:JD.RS:=rE [.d tu,.d tu,.d tB,.d tu] JD
def azL:=JD.eY azK
def aHd:(Int×Bs)->Prop:=λ(k,m)=>lG k/\Sm m
def apx:(Int×Bs)->Sg:=λ(k,m)=>qC k m
def aat:Fs Tryz.prog aHd bq apx:=eV 158 Tryz.f158 (λ(kv,m)=>([.d tu kv,.d tH m],[])) (λx=>⟨.d KF x,[],[]⟩) [av tu,av tH] [aSr,ajY,abG,arN,azL]
theorem aOd(kv m)(k:K1 R):aat.A (kv,m) k=ao (au2.call kv) λx1=>aJ (!x1) (k (aat.out (0,(0,())))) (ao (IL.call kv) λx2=>ao (WQ.call ((⟨#[110,111,110,99,101]⟩:ByteArray),[x2,(cut m 0 32)])) λx3=>ao (Lj.call x3) λx4=>ao (JD.call (kv,x4,m,1)) λx5=>k (aat.out x5)):=cd
theorem aOe:aat.Ok:=by
 rintro⟨k,m⟩ ⟨hk,hm⟩;have hk:lG k:=hk;have hm:Sm m:=hm;rw[aOd,aN9 (d:=k) trivial];simp only[ag,bq,azS,bq,apx,qC];by_cases h:k < 2305843009213688669/\k≠0
 ·rw[aX h,if_pos h,QQ (d:=k) trivial,ea hm.1];simp only[bT,al,ag,bq,ac2];rw[TJ (aOm eX (by rw[cv];omega) (by rw[hm.1];omega))];simp only[ag,bq,anr];rw[aj4 (d:=tag (bS (⟨#[110,111,110,99,101]⟩:ByteArray)) [jo k,m]) (apu _ _)];simp only[ag,bq,am9];have q:=adb (tag (bS (⟨#[110,111,110,99,101]⟩:ByteArray)) [jo k,m]);rw[auQ (d:=(k,Lp (tag (bS (⟨#[110,111,110,99,101]⟩:ByteArray)) [jo k,m]),m,1)) ⟨hk,⟨aq,aq⟩,hm,aq,aq⟩];rfl
 ·rw[bo h,if_neg h];rfl
theorem aHe:aat.RS:=rE [.d tu,.d tB] aat
def aOf:=aat.eY aOe
def aCO:Int->Prop:=λn=>∃k:Nat,n=k/\k<=100000000
def aAx:Int->(Nat×(List Int)):=λn=>(0,ai n.toNat 0)
def Yj:Fs Tryz.prog aCO bq aAx:=eV 242 Tryz.f242 (λn=>([.dJ,.d ti n],[])) (λx=>⟨.bU (.new 0 0) 0 [] 0 0 x.1,[],[.obj 0 aZ (.vec 5 tb x.2)]⟩) [aH,av ti] [] {owns:=[⟨4,[],22,114⟩]}
theorem aIh(n)(k:K1 R):Yj.A n k=aJ (fv n 0) (aH) (aJ (xW (df .i64 n 0) 0) (aJ (decide (0 < (df .i64 n 0)) && cZ (ab (df .i64 n 0)) 1) (aJ (inc 0 (((ab (df .i64 n 0)):Nat):Int)) (k (Yj.out (0,(ai (ab (df .i64 n 0)) 0)))) aH) aH) (k (Yj.out (0,([]:List Int))))):=cd
theorem aIi:Yj.Ok:=by
 rintro n ⟨k,rfl,hk⟩;have e:df .i64 (k:Int) 0=(k:Int):=by rw[fI aq aq];omega
 rw[aIh,e,aQ aq,al];by_cases h:0 < k
 ·rw[dw aq,aa,aX aq,cM aq aq,oo aq aq];rfl
 ·obtain rfl:k=0:=aq;rfl
theorem aCP:Yj.RS:=rE [.d ti] Yj
def aIj:=Yj.eY aIi
def w8(l:List (List Int)):Nat:=l.flatten.length
def ahM(n:Nat)(l:List Int):List (List Int)->Nat×List Int
 |[]=>(n,l)
 |s::r=>(n+(s::r).flatten.length,l.take n++(s::r).flatten)
theorem aDl(n:Nat)(l s:List Int)(r:List (List Int))(h:n<=l.length):ahM n l (s::r)=ahM (n+s.length) (l.take n++s) r:=by
 have hl:(l.take n++s).length=n+s.length:=by rw[ak,bV];omega
 cases r with
 |nil=>simp[ahM]
 |cons t r=>
  simp only[ahM];rw[bu (Nat.le_of_eq hl)];simp only[jZ,ak,aO,fB]
theorem aPY(n:Nat)(z:List Int)(r:List (List Int)):(ahM 0 z r).1<=(ahM 0 z r).2.length/\cut (ahM 0 z r).2 0 (ahM 0 z r).1=r.flatten:=by
 cases r with
 |nil=>exact⟨aL _,rfl⟩
 |cons s r=>
  simp only[ahM,dD,aY,aV];exact⟨az _,by show aM _ (bD 0 _)=_;rw[ay,bN]⟩
abbrev Ip:=(List Bs)×Int×(List Bs)×Int×Int
def wK:Ip->Int->(((List Bs))×(Int)):=λ(Ep,size,t9,t10,t11) y=>(Ep,y)
abbrev Sv:=Nat×(List Bs)×Int×Int×(List Int)
def KM:Ip->Prop:=λ(s,size,t,n,i)=>s.length<=1000000/\t=s/\n=s.length/\∃k z:Nat,k<=s.length/\i=k/\size=z/\z+w8 (s.drop k)<=100000000
def Bu:Ip->Int:=λ(s,size,t,n,i)=>((size:Int)+((w8 (s.drop i.toNat):Nat):Int):Int)
def KN:Sv->Prop:=λ(n,s,t,i,l)=>s.length<=1000000/\n<=l.length/\t=s.length/\∃k:Nat,k<=s.length/\i=k/\n+w8 (s.drop k)<=100000000
def Bv:Sv->(Nat×(List Int)):=λ(n,s,t,i,l)=>ahM n l (s.drop i.toNat)
def aqs:(List Bs)->Prop:=λs=>s.length<=1000000/\w8 s<=100000000
def Wm:(List Bs)->Bs:=λs=>s.flatten
def pj:Ls KM wK Bu:=pD (λ(Ep,size,t9,t10,t11)=>⟨([.d (.slice tB) Ep,bE,bE,.d ti size]++aW 5 ([.d (.slice tB) t9,.d ti t10,.d ti t11]++aW 24 [])),[],(ai 36 [])⟩) (λx=>(.exit 0,⟨([.d (.slice tB) x.1,bE,bE,.d ti x.2]++aW 32 []),[],(ai 36 [])⟩))
def pn:Ls KN bq Bv:=pD (λ(newsliceL,t25,t26,t27,n24)=>⟨(aW 6 ([jl 24 newsliceL]++aW 18 ([.d (.slice tB) t25,.d ti t26,.d ti t27]++aW 8 []))),[],(bw 24 ([dm (.vec 5 tb n24)]++bw 11 []))⟩) (λx=>(.exit 2,⟨(aW 6 ([jl 24 x.1]++aW 29 [])),[],(bw 24 ([dm (.vec 5 tb x.2)]++bw 11 []))⟩))
def qu:Fs Tryz.prog aqs bq Wm:=eV 190 Tryz.f190 (λslices=>([.d (.slice tB) slices],[])) (λx=>⟨.d tB x,[],[]⟩) [av (.slice tB)] [aIj] {loops:=lz [(3,{bg:=[0,3,9,10,11]}),(11,{bg:=[6,25,26,27],sites:=[24],owns:=[⟨6,[],24,114⟩]})],outs:=lu [(3,{bg:=[0,3]},{bg:=[2]}),(11,{bg:=[6],sites:=[24]},{bg:=[2]})],fa:=mc [(3,pj.E),(11,pn.E)],res:=[av tB]}
theorem ab8:pj.RS:=rL [.d (.slice tB),.d ti,.d (.slice tB),.d ti,.d ti] pj
theorem JW(Ep size t9 t10 t11)(kn:K2 R)(kx:K3 R):qu.R 0 pj (Ep,size,t9,t10,t11) kn kx=aJ (fv t11 t10) (aJ (eA t11 (t9.length:Int)) (aJ (fv (bz .i64 size (((ae (nth tB t9 (ab t11))):Nat):Int)) 0) (aH) (kn (pj.st (Ep,(bz .i64 size (((ae (nth tB t9 (ab t11))):Nat):Int)),t9,t10,(bz .i64 t11 1))))) aH) (pj.go kx (Ep,size)):=cd
theorem ab9:pn.RS:=rL [.n,.d (.slice tB),.d ti,.d ti,.d tB] pn
theorem JX(newsliceL t25 t26 t27 n24)(kn:K2 R)(kx:K3 R):qu.R 1 pn (newsliceL,t25,t26,t27,n24) kn kx=aJ (fv t27 t26) (aJ (eA t27 (t25.length:Int)) (aJ (decide (newsliceL<=(ae n24))) (aJ (cZ (newsliceL+(ae (nth tB t25 (ab t27)))) 1) (kn (pn.st ((newsliceL+(ae (nth tB t25 (ab t27)))),t25,t26,(bz .i64 t27 1),((aM newsliceL n24)++(nth tB t25 (ab t27)))))) aH) aH) aH) (pn.go kx (newsliceL,n24)):=cd
theorem avZ(slices)(k:K1 R):qu.A slices k=ao (pj.call (slices,0,slices,(slices.length:Int),0)) λx1=>ao (Yj.call x1.2) λx2=>ao (pn.call (x2.1,x1.1,(x1.1.length:Int),0,x2.2)) λx3=>aJ (decide (0=0/\(0+x3.1)<=(ae x3.2))) (k (qu.out (cut x3.2 0 x3.1))) aH:=cd
theorem aBl(s:List (List Int))(k:Nat)(h:k < s.length):w8 (s.drop k)=s[k].length+w8 (s.drop (k+1)):=by unfold w8;rw[au h,jZ,ak]
theorem ahI:(qu.jx 0 pj):=by
 refine(qu.mf 0 pj) (λ(s,size,t,n,i)=>s.length - i.toNat) ?_
 rintro⟨s,size,t,n,i⟩ ⟨hs,rfl,rfl,k,z,hk,rfl,rfl,hz⟩;have hs:t.length<=1000000:=hs;have hk:k<=t.length:=hk;have hz:z+w8 (t.drop k)<=100000000:=hz;by_cases h:k < t.length
 ·left;have n1:nth (.slice (.int .u8)) t k=t[k]:=bY (t:= .slice (.int .u8)) h;have hd:=aBl t k h;refine⟨(t,((z+t[k].length:Nat):Int),t,t.length,((k+1:Nat):Int)),⟨hs,rfl,rfl,k+1,z+t[k].length,aq,rfl,rfl,aq⟩,by simp only[aa];omega,?_,λkn kx=> ?_⟩
  ·simp only[wK,Bu,aa];rw[hd];refine bW _ ?_
   omega
  ·rw[JW];simp(disch:=omega) only[↓S1,↓if_pos,↓if_neg,if_pos,if_neg,bO,bC,S2,n1]
 ·right;obtain rfl:k=t.length:=aq;intro R kn kx;rw[JW];simp(disch:=omega) only[↓S1,↓if_pos,↓if_neg,if_pos,if_neg,bO,bC,S2,wK,Bu,aI];simp only[w8,rY,bp,Int.natCast_zero,Int.add_zero]
theorem ahJ:(qu.jx 1 pn):=by
 refine(qu.mf 1 pn) (λ(n,s,t,i,l)=>s.length - i.toNat) ?_
 rintro⟨n,s,t,i,l⟩ ⟨hs,hn,rfl,k,hk,rfl,hz⟩;have hs:s.length<=1000000:=hs;have hn:n<=l.length:=hn;have hk:k<=s.length:=hk;have hz:n+w8 (s.drop k)<=100000000:=hz;by_cases h:k < s.length
 ·left;have n1:nth (.slice (.int .u8)) s k=s[k]:=bY (t:= .slice (.int .u8)) h;have hd:=aBl s k h;refine⟨(n+s[k].length,s,s.length,((k+1:Nat):Int),l.take n++s[k]),⟨hs,by rw[ak,bV];omega,rfl,k+1,aq,rfl,aq⟩,by simp only[aa];omega,?_,λkn kx=> ?_⟩
  ·simp only[bq,Bv,aa];rw[au h,aDl _ _ _ _ hn]
  ·rw[JX];simp(disch:=omega) only[↓S1,↓if_pos,↓if_neg,if_pos,if_neg,bO,bC,S2,n1]
 ·right;obtain rfl:k=s.length:=aq;intro R kn kx;rw[JX];simp(disch:=omega) only[↓S1,↓if_pos,↓if_neg,if_pos,if_neg,bO,bC,S2,bq,Bv,aI];rfl
theorem av0:qu.Ok:=by rintro s ⟨hs,hz⟩;have hs:s.length<=1000000:=hs;have hz:w8 s<=100000000:=hz;have p1:KM (s,0,s,s.length,0):=⟨hs,rfl,rfl,0,0,aq,rfl,rfl,by rw[ay];omega⟩;have p2:KN (0,s,s.length,0,ai (w8 s) 0):=⟨hs,aq,rfl,0,aq,rfl,by rw[ay];omega⟩;rw[avZ,ab8 p1];simp only[ag,wK,Bu,aT,ay,mD];rw[aCP (d:=((w8 s:Nat):Int)) ⟨w8 s,rfl,hz⟩];simp only[ag,bq,aAx,aa];rw[ab9 p2];simp only[ag,bq,Bv,aT,ay];obtain⟨c1,c2⟩:=aPY 0 (ai (w8 s) 0) s;simp only[aV,c1,gm,b8,aj,c2];rfl
theorem Yi:qu.RS:=rE [.d (.slice tB)] qu
def aca:=qu.eY av0 2 ⟨.e7 ahI,⟨.e7 ahJ,trivial⟩⟩
def ajN:(Bs×Bs)->Prop:=λ(a,b)=>a.length+b.length<=100000000
def amu:(Bs×Bs)->Bs:=λ(a,b)=>a++b
def K7:Fs Tryz.prog ajN bq amu:=eV 130 Tryz.f130 (λ(b,more)=>([.d tB b,.d tB more],[])) (λx=>⟨.d tB x,[],[]⟩) [av tB,av tB] [aca]
theorem aIR(b more)(k:K1 R):K7.A (b,more) k=ao (qu.call [b,more]) λx1=>k (K7.out x1):=cd
theorem aIS:K7.Ok:=by rintro⟨a,b⟩ h;have h:a.length+b.length<=100000000:=h;rw[aIR,Yi (d:=[a,b]) ⟨by show [a,b].length<=_;simp,by show w8 [a,b]<=_;simp only[w8,jZ,rY,bK,ak];omega⟩];simp only[ag,bq,Wm,bq,amu,jZ,rY,bK]
theorem NX:K7.RS:=rE [.d tB,.d tB] K7
def acz:=K7.eY aIS
def gW:Nat->Int->List Int×Int
 | 0,n=>([],n)
 |f+1,n=>if 128<=n then((n%128+128)::(gW f (n / 128)).1,(gW f (n / 128)).2) else([],n)
def gO(n:Int):List Int:=(gW 10 n).1++ [(gW 10 n).2]
theorem OB:∀(f g:Nat) (n:Int),n < 128^(f+1)->n < 128^(g+1)->gW f n=gW g n
 | 0,0,n,_,_=>rfl
 | 0,g+1,n,h,_=>by have h:n < 128:=h;rw[gW,gW,if_neg aq]
 |f+1,0,n,_,h=>by have h:n < 128:=h;rw[gW,gW,if_neg aq]
 |f+1,g+1,n,h,h'=>by
  rw[gW,gW];split
  ·have e:(128:Int)^(f+1+1)=128^(f+1)*128:=gj 128 (f+1);have e':(128:Int)^(g+1+1)=128^(g+1)*128:=gj 128 (g+1);rw[OB f g (n / 128) aq aq]
  ·rfl
theorem agx:∀(f:Nat) (n:Int),(gW f n).1.length<=f
 | 0,_=>az _
 |f+1,n=>by
  rw[gW];split
  ·have:=agx f (n / 128);simp only[aF];omega
  ·exact aL _
theorem alE:∀(f:Nat) (n:Int),0<=n->n < 128^(f+1)->0<=(gW f n).2/\(gW f n).2 < 128
 | 0,n,h,h'=>by have h':n < 128:=h';exact⟨h,h'⟩
 |f+1,n,h,h'=>by
  rw[gW];have e:(128:Int)^(f+1+1)=128^(f+1)*128:=gj 128 (f+1);split
  ·exact alE f (n / 128) aq aq
  ·exact⟨h,aq⟩
theorem alF{n:Int}(h:128<=n)(h2:n<=9223372036854775807):gW 10 n=((n%128+128)::(gW 10 (n / 128)).1,(gW 10 (n / 128)).2):=by have e:(128:Int)^(9+1)=1180591620717411303424:=rfl;have e2:(128:Int)^(10+1)=151115727451828646838272:=rfl;rw[gW,if_pos h,OB 9 10 (n / 128) (by rw[e];omega) (by rw[e2];omega)]
theorem lR(n:Int):(gO n).length<=11:=by have:=agx 10 n;unfold gO;simp only[ak,aF,bp];omega
def Ku(n:Int):Prop:=0<=n/\n<=9223372036854775807
abbrev ajS:=Int×Nat×(List Int)
def YC:ajS->Prop:=λ(n,m,l)=>Ku n/\m=l.length/\l.length<=1000+0*n.toNat/\l.length+(gW 10 n).1.length<=100
def NZ:ajS->(Int×Nat×(List Int)):=λ(n,m,l)=>((gW 10 n).2,(l++(gW 10 n).1).length,l++(gW 10 n).1)
def aJl:Int->Prop:=λn=>Ku n
def awy:Int->Bs:=λn=>gO n
def BG:Ls YC bq NZ:=pD (λ(ze,outL,n14)=>⟨([.d ti ze,bE,bE,jl 14 outL]++aW 16 []),[],(bw 14 ([dm (.vec 5 tb n14)]++bw 5 []))⟩) (λx=>(.exit 0,⟨([.d ti x.1,bE,bE,jl 14 x.2.1]++aW 16 []),[],(bw 14 ([dm (.vec 5 tb x.2.2)]++bw 5 []))⟩))
def acH:Fs Tryz.prog aJl bq awy:=eV 131 Tryz.f131 (λn=>([.d ti n],[])) (λx=>⟨.d tB x,[],[]⟩) [av ti] [] {loops:=lz [(2,{bg:=[0,3],sites:=[14],owns:=[⟨3,[],14,114⟩]})],outs:=lu [(2,{bg:=[0,3],sites:=[14]},{bg:=[2]})],fa:=mc [(2,BG.E)],res:=[av tB]}
theorem arf:BG.RS:=rL [.d ti,.n,.d tB] BG
theorem S4(ze outL n14)(kn:K2 R)(kx:K3 R):acH.R 0 BG (ze,outL,n14) kn kx=aJ (AM ze 128) (aJ (decide (outL<=(ae n14))) (aJ (cZ (outL+1) 1) (kn (BG.st ((wC .i64 ze 128),(outL+1),((aM outL n14)++ [(dR .u8 (bz .i64 (kj ze 128) 128))])))) aH) aH) (BG.go kx (ze,outL,n14)):=cd
theorem aPW(n)(k:K1 R):acH.A n k=ao (BG.call (n,0,([]:List Int))) λx1=>aJ (decide (x1.2.1<=(ae x1.2.2))) (aJ (cZ (x1.2.1+1) 1) (aJ (decide (0=0/\(0+(x1.2.1+1))<=(ae ((aM x1.2.1 x1.2.2)++ [(dR .u8 x1.1)])))) (k (acH.out (cut ((aM x1.2.1 x1.2.2)++ [(dR .u8 x1.1)]) 0 (x1.2.1+1)))) aH) aH) aH:=cd
theorem aJG{n:Int}(h:Ku n):dR .u8 (bz .i64 (kj n 128) 128)=n%128+128:=by have h1:=h.1;rw[uo h.1,fA aq aq,WS,iH];omega
theorem awz:(acH.jx 0 BG):=by
 refine(acH.mf 0 BG) (λ(n,m,l)=>n.toNat) ?_
 rintro⟨n,m,l⟩ ⟨hn,rfl,hl,hz⟩;have hn:Ku n:=hn;have hz:l.length+(gW 10 n).1.length<=100:=hz;have h1:=hn.1;have h2:=hn.2;by_cases h:128<=n
 ·left;have e:=alF h h2;have hq:wC .i64 n 128=n / 128:=by rw[wC,lD h1];exact w7 aq aq
  have el:((n%128+128)::(gW 10 (n / 128)).1).length=(gW 10 (n / 128)).1.length+1:=aF;rw[e]at hz;have hz:l.length+((n%128+128)::(gW 10 (n / 128)).1).length<=100:=hz;rw[el]at hz;refine⟨(n / 128,l.length+1,l++ [n%128+128]),⟨⟨aq,aq⟩,by rw[ak];rfl,by rw[ak];simp only[aF,bp];omega,by rw[ak];simp only[aF,bp];omega⟩,by simp only[];omega,?_,λkn kx=> ?_⟩
  ·simp only[bq,NZ,e,aO,nY,aY]
  ·rw[S4,fG h,aJG hn,hq];simp(disch:=omega) only[↓S1,↓if_pos,↓if_neg,if_pos,if_neg,bO,bC,S2,az,bN]
 ·right;have e:gW 10 n=([],n):=by rw[gW,if_neg h]
  intro R kn kx;rw[S4,eg h];simp only[al,bq,NZ,e,bK]
theorem aPX:acH.Ok:=by
 intro n hn;have hn:Ku n:=hn;have hl:=agx 10 n;have e2:(128:Int)^(10+1)=151115727451828646838272:=rfl;have hd:=alE 10 n hn.1 (by have:=hn.2;rw[e2];omega);have p:YC (n,0,[]):=⟨hn,rfl,by simp,by simp only[bp];omega⟩;have hi:dR .u8 (gW 10 n).2=(gW 10 n).2:=by rw[WS,iH];omega
 rw[aPW,arf p];simp only[ag,bq,NZ,aY,hi,bN,az,b8,aj];rw[cM aq aq];simp only[aj,aV,ak,aF,bp,az,gm,b8];rw[ea (by rw[ak];rfl)];rfl
theorem arh:acH.RS:=rE [.d ti] acH
def aAN:=acH.eY aPX 1 ⟨.e7 awz,trivial⟩
def cQ(b:List Int)(n:Int):List Int:=if n < 0 then b else b++gO n
theorem dT(b:List Int)(n:Int):(cQ b n).length<=b.length+11:=by
 unfold cQ;have:=lR n;split
 ·omega
 ·rw[ak];omega
def aJd:(Bs×Int)->Prop:=λ(b,n)=>b.length<=90000000/\n<=9223372036854775807
def qT:(Bs×Int)->Bs:=λ(b,n)=>cQ b n
def Dr:Fs Tryz.prog aJd bq qT:=eV 59 Tryz.f59 (λ(b,n)=>([.d tB b,.d ti n],[])) (λx=>⟨.d tB x,[],[]⟩) [av tB,av ti] [acz,aAN]
theorem aPU(b n)(k:K1 R):Dr.A (b,n) k=aJ (fv n 0) (ao (K7.call (b,([]:List Int))) λx1=>k (Dr.out x1)) (ao (acH.call n) λx2=>ao (K7.call (b,x2)) λx3=>k (Dr.out x3)):=cd
theorem aPV:Dr.Ok:=by
 rintro⟨b,n⟩ ⟨hb,hn⟩;have hb:b.length<=90000000:=hb;have hn:n<=9223372036854775807:=hn;rw[aPU];simp only[bq,qT,cQ];by_cases h:n < 0
 ·rw[aS h,if_pos h,aj,NX (d:=(b,[])) (by show b.length+([]:List Int).length<=_;simp only[bp];omega)];simp only[ag,bq,amu,bK]
 ·have hl:=lR n;rw[aQ h,if_neg h,al,arh (d:=n) ⟨aq,hn⟩];simp only[ag,bq,awy];rw[NX (d:=(b,gO n)) (by show b.length+(gO n).length<=_;omega)];rfl
theorem ki:Dr.RS:=rE [.d tB,.d ti] Dr
def abA:=Dr.eY aPV
def aDF:(Bs×Int)->Prop:=λ(b,n)=>b.length<=90000000
def S3:(Bs×Int)->Bs:=λ(b,n)=>b++jo n
def Lc:Fs Tryz.prog aDF bq S3:=eV 236 Tryz.f236 (λ(b,n)=>([.d tB b,.d tu n],[])) (λx=>⟨.d tB x,[],[]⟩) [av tB,av tu] [acz] {loops:=lz [(3,{bg:=[0,1,5,7],sites:=[5,21]})],outs:=lu [(3,{bg:=[0,5],sites:=[5,21]},{bg:=[4],sites:=[5,21]})]} 12
theorem aJj(b n)(k:K1 R):Lc.A (b,n) k=ao (K7.call (b,[(dR .u8 (cF .u64 n 56)),(dR .u8 (cF .u64 n 48)),(dR .u8 (cF .u64 n 40)),(dR .u8 (cF .u64 n 32)),(dR .u8 (cF .u64 n 24)),(dR .u8 (cF .u64 n 16)),(dR .u8 (cF .u64 n 8)),(dR .u8 (cF .u64 n 0))])) λx1=>k (Lc.out x1):=cd
theorem aJk:Lc.Ok:=by
 rintro⟨b,n⟩ hb;have hb:b.length<=90000000:=hb;have p:ajN (b,jo n):=by show b.length+(jo n).length<=_;rw[cv];omega
 have e:K7.call (b,[dR .u8 (cF .u64 n 56),dR .u8 (cF .u64 n 48),dR .u8 (cF .u64 n 40),dR .u8 (cF .u64 n 32),dR .u8 (cF .u64 n 24),dR .u8 (cF .u64 n 16),dR .u8 (cF .u64 n 8),dR .u8 (cF .u64 n 0)])=av (b++jo n):=by rw[aqu];exact NX p
 rw[aJj];refine Eq.trans (bW (λx=>ao x _) e) ?_
 rfl
theorem Hp:Lc.RS:=rE [.d tB,.d tu] Lc
def are:=Lc.eY aJk 1 ⟨.none cd,trivial⟩
def Tt:ij:=([],bm,())
def tI(r:ij):Prop:=r.1.length<=1000000000/\Bytes r.1
def oE(n:Nat)(r:ij):List Int×ij:=if r.2.1=bm\/r.1.length < n then([],Tt) else(r.1.take n,(r.1.drop n,r.2))
def Rq(l:List Int):Int:=l.foldl (λn b=>n*256+b) 0
def uh(r:ij):Int×ij:=(Rq (oE 8 r).1,(oE 8 r).2)
theorem am6:tI Tt:=⟨aL _,λx hx=>by cases hx⟩
theorem CR{n:Nat}{r:ij}(h:tI r):(oE n r).1.length<=n/\Bytes (oE n r).1/\tI (oE n r).2:=by
 unfold oE;split
 ·exact⟨aL _,λx hx=>(by cases hx),am6⟩
 ·refine⟨by rw[bV];omega,λx hx=>h.2 x (qK hx),?_,λx hx=>h.2 x (qJ hx)⟩;show(r.1.drop n).length<=_;rw[du];have:=h.1;omega
theorem aE4(l:List Int)(b:Int):Rq (l++ [b])=Rq l*256+b:=by unfold Rq;rw[List.foldl_append];rfl
theorem asQ:∀(l:List Int) (n:Int) (k:Nat),Bytes l->0<=n->n < 256^k->0<=l.foldl (λn b=>n*256+b) n/\l.foldl (λn b=>n*256+b) n < 256^(k+l.length)
 |[],n,k,_,h0,h1=>⟨h0,h1⟩
 |b::l,n,k,hb,h0,h1=>by obtain⟨aYH,aYI⟩:=hb b aU;have e:(256:Int)^(k+1)=256^k*256:=gj 256 k;have:=asQ l (n*256+b) (k+1) (λx hx=>hb x (aP _ hx)) aq (by rw[e];omega);rw[show k+(b::l).length=k+1+l.length by rw[aF];omega];exact this
theorem aBw{l:List Int}(h:Bytes l):0<=Rq l/\Rq l < 256^l.length:=by have:=asQ l 0 0 h (eF 0) eX;rw[aV]at this;exact this
theorem akP{a b:Nat}(h:a<=b):(256:Int)^a<=256^b:=by have:((256^a:Nat):Int)<=((256^b:Nat):Int):=Int.ofNat_le.2 (Nat.pow_le_pow_right eX h);rw[mi,mi]at this;exact this
theorem aVn{l:List Int}(h:Bytes l)(h8:l.length<=8):lG (Rq l):=by have e:=aBw h;have e2:=akP h8;have e3:(256:Int)^8=18446744073709551616:=rfl;exact⟨e.1,aq⟩
theorem Yb{r:ij}(h:tI r):lG (uh r).1/\tI (uh r).2:=⟨aVn (CR h).2.1 (CR h).1,(CR h).2.2⟩
theorem aYg{n b:Int}(h0:0<=n)(h1:n < 72057594037927936)(hb:ab0 b):cX .or .u64 (oq .u64 n 8) (dR .u64 b)=n*256+b:=by have e:=(YQ (n:=n) (b:=b) ⟨h0,aq⟩ hb).1;rw[xJ 56 (by rfl) aq]at e;have p:(2:Int)^56=72057594037927936:=rfl;rw[p]at e;omega
def aGG:ij->Prop:=λ_=>True
def aRW:ij->ij:=λ_=>Tt
def Vi:Fs Tryz.prog aGG bq aRW:=eV 265 Tryz.f265 (λo0=>([.ptr (.bP 0) 0 [] 0],[.obj 0 aZ (.d wE o0)])) (λx=>⟨.nil,[.obj 0 aZ (.d wE x)],[]⟩) [aH] [] {QN:=[⟨0,[.arr],wE⟩]}
theorem aNn(o0)(k:K1 R):Vi.A o0 k=k (Vi.out (([]:List Int),(bm,o0.2.2))):=cd
theorem aNo:Vi.Ok:=by intro o _;rw[aNn];rfl
theorem XL:Vi.RS:=rE [.d wE] Vi
def aun:=Vi.eY aNo
def alr:ij->Int->((ij)×(Int)):=λo0 y=>(o0,y)
def aGJ:ij->Prop:=λ_=>True
def aCc:ij->Int:=λo=>(o.1.length:Int)
def agm:Fs Tryz.prog aGJ alr aCc:=eV 235 Tryz.f235 (λo0=>([.ptr (.bP 0) 0 [] 0],[.obj 0 aZ (.d wE o0)])) (λx=>⟨.d ti x.2,[.obj 0 aZ (.d wE x.1)],[]⟩) [aH]
theorem aNs(o0)(k:K1 R):agm.A o0 k=k (agm.out (o0,(o0.1.length:Int))):=cd
theorem aNt:agm.Ok:=by intro o _;rw[aNs];rfl
theorem aGK:agm.RS:=rE [.d wE] agm
def aNu:=agm.eY aNt
def auv:ij->Bool->((ij)×(Bool)):=λo0 y=>(o0,y)
def aND:ij->Prop:=λ_=>True
def aNC:ij->Bool:=λo=> !o.2.1
def azq:Fs Tryz.prog aND auv aNC:=eV 234 Tryz.f234 (λo0=>([.ptr (.bP 0) 0 [] 0],[.obj 0 aZ (.d wE o0)])) (λx=>⟨.d .bool x.2,[.obj 0 aZ (.d wE x.1)],[]⟩) [aH]
theorem aR3(o0)(k:K1 R):azq.A o0 k=k (azq.out (o0,(!o0.2.1))):=cd
theorem aR4:azq.Ok:=by intro o _;rw[aR3];rfl
theorem aNE:azq.RS:=rE [.d wE] azq
def aR5:=azq.eY aR4
def aGS:(Int×ij)->Prop:=λ(n,o)=>0<=n/\o.1.length<=1000000000
def abW:(Int×ij)->(Bs×ij):=λ(n,o)=>oE n.toNat o
def Nf:Fs Tryz.prog aGS bq abW:=eV 266 Tryz.f266 (λ(n,o0)=>([.ptr (.bP 0) 0 [] 0,.d ti n],[.obj 0 aZ (.d wE o0)])) (λx=>⟨.d tB x.1,[.obj 0 aZ (.d wE x.2)],[]⟩) [aH,av ti] [aun,Wx] {res:=[av tB],QN:=[⟨0,[.arr],wE⟩]}
theorem aNM(n o0)(k:K1 R):Nf.A (n,o0) k=aJ (o0.2.1) (ao (Vi.call o0) λx1=>k (Nf.out (([]:List Int),x1))) (aJ (xW n (o0.1.length:Int)) (ao (Vi.call o0) λx2=>k (Nf.out (([]:List Int),x2))) (aJ (inc n (o0.1.length:Int)) (ao (Dq.call (cut o0.1 0 ((ab n) - 0))) λx3=>aJ (inc n (o0.1.length:Int)) (aJ (decide (0=0/\(0+x3.1)<=(ae x3.2))) (k (Nf.out ((cut x3.2 0 x3.1),((cut o0.1 (ab n) ((ae o0.1) - (ab n))),o0.2)))) aH) aH) aH)):=cd
theorem aNO:Nf.Ok:=by
 rintro⟨n,o⟩ ⟨h0,hl⟩;have h0:0<=n:=h0;have hl:o.1.length<=1000000000:=hl;obtain⟨k,rfl⟩:∃k:Nat,n=k:=⟨n.toNat,aq⟩;rw[aNM];simp only[bq,abW,oE,aa,kr];cases h2:o.2.1
 ·by_cases hn:o.1.length < k
  ·rw[dw aq,if_pos (eI hn),XL (d:=o) trivial];rfl
  ·have e1:cut o.1 0 k=o.1.take k:=rfl;have e2:cut o.1 k (o.1.length - k)=o.1.drop k:=by unfold cut;rw[bu];rw[du];omega
   rw[cI aq,if_neg (by intro x;rcases x with x | x;exact absurd x eX;exact hn x),oo aq aq,e1,e2,Qx (d:=o.1.take k) (by show(o.1.take k).length<=_;rw[bV];omega)];simp only[al,aj,ag,bq,K8,aV,az,gm,b8,ea]
 ·rw[aj,if_pos (jg rfl),XL (d:=o) trivial];rfl
theorem X0:Nf.RS:=rE [.d ti,.d wE] Nf
def agC:=Nf.eY aNO
abbrev X3:=Int×Bs×Int×Int×ij
def auK:X3->Int->((ij)×(Int)):=λ(n,t7,t8,t9,jq) y=>(jq,y)
def auJ:X3->Prop:=λ(n,l,m,i,o)=>Bytes l/\l.length<=8/\m=l.length/\∃k:Nat,k<=l.length/\i=k/\n=Rq (l.take k)
def aGU:X3->Int:=λ(n,l,m,i,o)=>Rq l
def aNU:ij->Prop:=λo=>tI o
def X2:ij->(Int×ij):=λo=>uh o
def CQ:Ls auJ auK aGU:=pD (λ(n,t7,t8,t9,jq)=>⟨([bE,bE,bE,.d tu n,bE,bE,bE,.d tB t7,.d ti t8,.d ti t9]++aW 10 []),dm (.d wE jq),(ai 20 [])⟩) (λx=>(.exit 0,⟨([bE,bE,bE,.d tu x.2]++aW 16 []),dm (.d wE x.1),(ai 20 [])⟩))
def Vx:Fs Tryz.prog aNU bq X2:=eV 233 Tryz.f233 (λo0=>([.ptr (.bP 0) 0 [] 0],[.obj 0 aZ (.d wE o0)])) (λx=>⟨.d tu x.1,[.obj 0 aZ (.d wE x.2)],[]⟩) [aH] [agC] {loops:=lz [(3,{bg:=[3,7,8,9]})],outs:=lu [(3,{bg:=[3]},{bg:=[2]})],fa:=mc [(3,CQ.E)]}
theorem auL:CQ.RS:=rL [.d tu,.d tB,.d ti,.d ti,.d wE] CQ
theorem Vy(n t7 t8 t9 jq)(kn:K2 R)(kx:K3 R):Vx.R 0 CQ (n,t7,t8,t9,jq) kn kx=aJ (fv t9 t8) (aJ (eA t9 (t7.length:Int)) (kn (CQ.st ((cX .or .u64 (oq .u64 n 8) (dR .u64 (nth tb t7 (ab t9)))),t7,t8,(bz .i64 t9 1),jq))) aH) (CQ.go kx (jq,n)):=cd
theorem aSf(o0)(k:K1 R):Vx.A o0 k=ao (Nf.call (8,o0)) λx1=>ao (CQ.call (0,x1.1,(x1.1.length:Int),0,x1.2)) λx2=>k (Vx.out (x2.2,x2.1)):=cd
theorem azD:(Vx.jx 0 CQ):=by
 refine(Vx.mf 0 CQ) (λ(n,l,m,i,o)=>l.length - i.toNat) ?_
 rintro⟨n,l,m,i,o⟩ ⟨hb,h8,rfl,k,hk,rfl,rfl⟩;have h8:l.length<=8:=h8;have hk:k<=l.length:=hk;by_cases h:k < l.length
 ·left;have hx:=hb _ (aK h);have n1:nth (.int .u8) l k=l[k]:=bY (t:= .int .u8) h;have ht:(l.take k).length=k:=by rw[bV];omega
  have b0:=aBw (l:=l.take k) λx hx=>hb x (qK hx)
  rw[ht]at b0;have b1:=akP (show k<=7 by omega);have b2:(256:Int)^7=72057594037927936:=rfl;refine⟨(Rq (l.take (k+1)),l,l.length,((k+1:Nat):Int),o),⟨hb,h8,rfl,k+1,aq,rfl,rfl⟩,by simp only[aa];omega,rfl,λkn kx=> ?_⟩;rw[Vy,aS aq,ba aq aq,aa,n1,N.jL aq,aYg b0.1 aq hx,iN h,aE4];rfl
 ·right;obtain rfl:k=l.length:=aq;intro R kn kx;rw[Vy,aQ aq,al,bN];rfl
theorem aSg:Vx.Ok:=by intro o h;have h:tI o:=h;have t:=CR (n:=8) h;rw[aSf,X0 (d:=(8,o)) ⟨eX,h.1⟩];simp only[ag,bq,abW];rw[show ab 8=8 from rfl,auL (d:=(0,(oE 8 o).1,(oE 8 o).1.length,0,(oE 8 o).2)) ⟨t.2.1,t.1,rfl,0,aL _,rfl,rfl⟩];rfl
theorem Ng:Vx.RS:=rE [.d wE] Vx
def aCf:=Vx.eY aSg 1 ⟨.e7 azD,trivial⟩
def aGM:Bs->Prop:=λb=>b.length<=1000000000
def apc:Bs->ij:=λb=>(b,aZ,())
def aaf:Fs Tryz.prog aGM bq apc:=eV 227 Tryz.f227 (λb=>([.d tB b],[])) (λx=>⟨.ptr (.new 0 0) 0 [] 0,[],[.obj 0 aZ (.d wE x)]⟩) [av tB] [Wx] {cg:=[6],QN:=[⟨2,[.arr],wE⟩]}
theorem aNF(b)(k:K1 R):aaf.A b k=ao (Dq.call b) λx1=>aJ (decide (0=0/\(0+x1.1)<=(ae x1.2))) (k (aaf.out ((cut x1.2 0 x1.1),(aZ,())))) aH:=cd
theorem aNG:aaf.Ok:=by intro b hb;have hb:b.length<=1000000000:=hb;rw[aNF,Qx (d:=b) (by show b.length<=_;omega)];simp only[ag,bq,K8,aV,az,gm,b8,aj,ea];rfl
theorem alB:aaf.RS:=rE [.d tB] aaf
def auw:=aaf.eY aNG
abbrev agI:=Int×ij
def JC:agI->Bool->((Int×ij)×(Bool)):=λ(o0,o2) y=>((o0,o2),y)
def azG:agI->Prop:=λ(a,o)=>0<=a
def VB:agI->Bool:=λ(a,o)=>decide (o.1.length<=a.toNat\/8 < a.toNat\/(0 < a.toNat/\nth (.int .u8) o.1 a.toNat=0))
def G2:Fs Tryz.prog azG JC VB:=eV 264 Tryz.f264 (λ(o0,o2)=>([.ptr (.bP 0) 0 [] 0,.ptr (.bP 1) 0 [] 0],[.obj 0 aZ (.d ti o0),.obj 0 aZ (.ptr (.bP 2) 0 [] 0),.obj 0 aZ (.d wE o2)])) (λx=>⟨.d .bool x.2,[.obj 0 aZ (.d ti x.1.1),.obj 0 aZ (.ptr (.bP 2) 0 [] 0),.obj 0 aZ (.d wE x.1.2)],[]⟩) [aH,aH]
theorem aG1(o0 o2)(k:K1 R):G2.A (o0,o2) k=aJ (AM o0 (o2.1.length:Int)) (k (G2.out ((o0,o2),bm))) (aJ (xW o0 8) (k (G2.out ((o0,o2),bm))) (aJ (xW o0 0) (aJ (eA o0 (o2.1.length:Int)) (k (G2.out ((o0,o2),(Il (nth tb o2.1 (ab o0)) 0)))) aH) (k (G2.out ((o0,o2),aZ))))):=cd
theorem aG2:G2.Ok:=by
 rintro⟨a,o⟩ h0;obtain⟨k,rfl⟩:∃k:Nat,a=k:=⟨a.toNat,by have h0:0<=a:=h0;omega⟩;rw[aG1];simp only[JC,VB,aa];by_cases h1:o.1.length<=k
 ·rw[fG aq,aX (jg h1)];rfl
 by_cases h2:8 < k
 ·rw[eg aq,dw aq,aX (eI (jg h2))];rfl
 by_cases h3:0 < k
 ·rw[eg aq,cI aq,dw aq,ba aq aq];simp only[al,aj];by_cases h4:nth (.int .u8) o.1 k=0
  ·rw[mQ h4,aX (eI (eI ⟨h3,h4⟩))]
  ·rw[j3 h4,bo (by rintro(x | x | x);exact h1 x;exact h2 x;exact h4 x.2)]
 ·rw[eg aq,cI aq,cI aq,bo (by rintro(x | x | x);exact h1 x;exact h2 x;exact h3 x.1)];rfl
theorem agJ:G2.RS:=rE [.d ti,.d wE] G2
def aG3:=G2.eY aG2
def DS:List Int->Nat->Int->(Int×Nat)⊕Unit
 |[],_,_=> .inr ()
 |d::l,a,n=>if 8 < a\/(0 < a/\d=0) then .inr () else if d < 128 then .inl (n+d%128*128^a,a+1) else DS l (a+1) (n+d%128*128^a)
def eh(r:ij):Int×ij:=match DS r.1 0 0 with | .inl v=>(v.1,(r.1.drop v.2,r.2)) | .inr _=>(0,Tt)
theorem ax9(k:Nat):(128:Int)^k=((128^k:Nat):Int):=by rw[mi];rfl
theorem arC{n d k:Nat}(hk:k<=8)(hn:n < 128^k)(hd:d < 128):cX .or .i64 (n:Int) (oq .i64 (d:Int) ((7*k:Nat):Int))=((n+d*128^k:Nat):Int)/\n+d*128^k < 128^(k+1)/\128^(k+1)<=9223372036854775808:=by
 have p:128^k<=128^8:=Nat.pow_le_pow_right eX hk;have p8:128^8=72057594037927936:=rfl;have e1:128^(k+1)=128^k*128:=Nat.pow_succ (n:=128) (m:=k);have e2:2^(7*k)=128^k:=by rw[Nat.pow_mul]
 have e3:d*128^k<=127*128^k:=dE _ aq;refine⟨?_,aq,aq⟩;have s:oq .i64 (d:Int) ((7*k:Nat):Int)=((d*128^k:Nat):Int):=by
  rw[oq];have e:min (ab ((7*k:Nat):Int)) IntKind.i64.bits=7*k:=by simp only[IntKind.bits,aa];omega
  rw[e,show(2:Int)^(7*k)=((2^(7*k):Nat):Int) by rw[mi];rfl,e2,<-mh];exact w7 aq aq
 rw[s];have e:(bA 64 (n:Int) ||| bA 64 ((d*128^k:Nat):Int)).toNat=n+d*128^k:=by
  rw[BitVec.toNat_or];have a:(bA 64 ((d*128^k:Nat):Int)).toNat=2^(7*k)*d:=by rw[jG,lA,e2,sh];exact lj (by rw[sh];omega)
  have b:(bA 64 (n:Int)).toNat=n:=by rw[jG,lA];exact lj aq
  rw[a,b,Nat.or_comm,<-Nat.two_pow_add_eq_or_of_lt (by rw[e2];exact hn),e2,sh];omega
 show IntKind.i64.wrap ((bA 64 (n:Int) ||| bA 64 ((d*128^k:Nat):Int)).toNat:Int)=_;rw[e];exact w7 aq aq
theorem anW:∀(l:List Int) (a:Nat) (n:Int) (v:Int×Nat),Bytes l->a<=9->0<=n->n < 128^a->DS l a n= .inl v->0<=v.1/\v.1 < 9223372036854775808/\a < v.2/\v.2<=a+l.length/\v.2<=9
 |[],a,n,v,_,_,_,_,h=>by cases h
 |d::l,a,n,v,hb,ha,h0,h1,h=>by
  have hx:=hb d aU;obtain⟨x1,x2⟩:=hx;rw[DS]at h;split at h
  ·cases h
  ·rename_i hc;have ba4:a<=8:=aq;rw[ax9]at h1 h;obtain⟨nn,rfl⟩:∃m:Nat,n=m:=⟨n.toNat,aq⟩;obtain⟨dn,aOZ⟩:∃m:Nat,d%128=m:=⟨(d%128).toNat,aq⟩;have g:=(arC (n:=nn) (d:=dn) ba4 aq aq).2;rw[aOZ]at h;have ec:((nn:Int)+(dn:Int)*((128^a:Nat):Int))=((nn+dn*128^a:Nat):Int):=by rw[Int.natCast_add,mh]
   rw[ec]at h;split at h
   ·cases h;simp only[aF];exact⟨aq,aq,aq,aq,aq⟩
   ·have:=anW l (a+1) _ v (λx hx=>hb x (aP _ hx)) aq aq (by rw[ax9];omega) h;simp only[aF];exact⟨this.1,this.2.1,aq,aq,this.2.2.2.2⟩
theorem uu{r:ij}(h:tI r):0<=(eh r).1/\(eh r).1<=9223372036854775807/\tI (eh r).2:=by
 unfold eh;cases hf:DS r.1 0 0 with
 |inl v=>
  have:=anW r.1 0 0 v h.2 eX eX eX hf;refine⟨this.1,by have:=this.2.1;show v.1<=_;omega,?_,λx hx=>h.2 x (qJ hx)⟩;show(r.1.drop v.2).length<=_;rw[du];have:=h.1;omega
 |inr _=>exact⟨eF 0,(show(0:Int)<=9223372036854775807 by decide),am6⟩
theorem asS:∀(f:Nat) (n:Int) (a:Nat) (m:Int) (rest:List Int),0<=n->n < 128^(f+1)->a+f<=8->(a=0\/0 < n)->
  DS ((gW f n).1++(gW f n).2::rest) a m= .inl (m+n*128^a,a+(gW f n).1.length+1)
 | 0,n,a,m,rest,h0,h1,ha,hp=>by have h1:n < 128:=h1;show DS (n::rest) a m=_;rw[DS,if_neg aq,if_pos h1,eW h0 h1];rfl
 |f+1,n,a,m,rest,h0,h1,ha,hp=>by
  rw[gW];have e:(128:Int)^(f+1+1)=128^(f+1)*128:=gj 128 (f+1);split
  ·rename_i h;show DS ((n%128+128)::((gW f (n / 128)).1++(gW f (n / 128)).2::rest)) a m=_;rw[DS,if_neg aq,if_neg aq,asS f (n / 128) (a+1) _ rest aq aq aq (eI aq)];have e2:(128:Int)^(a+1)=128^a*128:=gj 128 a;have e3:(n%128+128)%128=n%128:=aq;have e4:m+n%128*128^a+n / 128*(128^a*128)=m+n*128^a:=by
    have:n*128^a=(n%128+n / 128*128)*128^a:=by rw[show n%128+n / 128*128=n by omega]
    rw[this,Int.add_mul,tG (n / 128),rT 128 (128^a),tF]
   rw[e3,e2,e4];simp only[aF];rw[show a+1+(gW f (n / 128)).1.length+1=a+((gW f (n / 128)).1.length+1)+1 by omega]
  ·rename_i h;show DS (n::rest) a m=_;rw[DS,if_neg aq,if_pos aq,eW h0 aq];rfl
theorem LR(n:Int)(h:Ku n)(rest:List Int)(u:Bool×Unit):eh (gO n++rest,u)=(n,(rest,u)):=by
 have h0:=h.1;have h1:=h.2;have e8:(128:Int)^(8+1)=9223372036854775808:=rfl;have e10:(128:Int)^(10+1)=151115727451828646838272:=rfl;have er:gW 10 n=gW 8 n:=OB 10 8 n (by rw[e10];omega) (by rw[e8];omega);have el:gO n++rest=(gW 8 n).1++(gW 8 n).2::rest:=by unfold gO;rw[er,aO];rfl
 have e:=asS 8 n 0 0 rest h0 (by rw[e8];omega) eX (jg rfl);unfold eh;show(match DS (gO n++rest) 0 0 with | .inl v=>(v.1,((gO n++rest).drop v.2,u)) | .inr _=>(0,Tt))=_;rw[el,e];show(0+n*128^0,(((gW 8 n).1++(gW 8 n).2::rest).drop (0+(gW 8 n).1.length+1),u))=_;rw[mC,zY,mD,aV,List.append_cons,mj (by rw[ak];rfl)]
theorem aLv(n:Int)(h:lG n):Rq (jo n)=n:=by obtain⟨h0,h1⟩:=h;unfold Rq jo;simp only[bn,ct];omega
theorem NP(n:Int)(h:lG n)(rest:List Int):uh (jo n++rest,aZ,())=(n,(rest,aZ,())):=by
 unfold uh oE;have l8:=cv n;rw[if_neg (by
  intro x;rcases x with x | x
  ·have x:aZ=bm:=x;cases x
  ·have x:(jo n++rest).length < 8:=x;rw[ak]at x;omega)]
 show(Rq ((jo n++rest).take 8),((jo n++rest).drop 8,aZ,()))=_;rw[ml l8,mj l8,aLv n h]
abbrev Ig:=Int×ij×Int
def vD:Ig->AS:=λ(n,jq,n4)=>⟨([.ptr (.bP 0) 0 [] 0,eP 1,bE,.d ti n,eP 4,.fn 264 (.cons (eP 4) (.cons (eP 1) (.nil)))]++aW 35 []),dm (.d wE jq),([[],dm (.ptr (.bP 0) 0 [] 0),[],[],dm (.d ti n4)]++bw 36 [])⟩
def FP:ij->Exit×AS:=λx=>(.ret,⟨([.ptr (.bP 0) 0 [] 0,bE,.d ti (0:Int)]++aW 38 []),dm (.d wE x),(ai 41 [])⟩)
def wx:(Int×ij×Int)->Exit×AS:=λ(a,b,c)=>(.exit 0,⟨([.ptr (.bP 0) 0 [] 0,eP 1,bE,.d ti a,eP 4]++aW 36 []),dm (.d wE b),([[],dm (.ptr (.bP 0) 0 [] 0),[],[],dm (.d ti c)]++bw 36 [])⟩)
abbrev XQ:=(ij)⊕((Int×ij×Int))
abbrev alA:=(ij)⊕((Int×ij×Int))
def M9:XQ->Out (Exit×AS):=λx=> .br x.isLeft (.get x.getLeft? λa=> .ok (FP a)) (.get x.getRight? λb=> .ok (wx b))
def oY:Ig->alA->XQ:=λ(n,jq,n4) y=>match y with | .inl y=> .inl y | .inr z=> .inr (z)
def FO:Ig->Prop:=λ(n,o,i)=>tI o/\∃(k m:Nat),k<=9/\i=k/\n=m/\m < 128^k
def wu:Ig->alA:=λ(n,o,i)=>match DS (o.1.drop i.toNat) i.toNat n with | .inl v=> .inr (v.1,o,(v.2:Int)) | .inr _=> .inl Tt
def aNB:ij->Prop:=λo=>tI o
def yM:ij->(Int×ij):=λo=>eh o
def alz:=dB.e7 vD FO oY wu M9
def Vn:Ig->Option XQ:=fS alz vD
def GZ:Fs Tryz.prog aNB bq yM:=eV 229 Tryz.f229 (λo0=>([.ptr (.bP 0) 0 [] 0],[.obj 0 aZ (.d wE o0)])) (λx=>⟨.d ti x.1,[.obj 0 aZ (.d wE x.2)],[]⟩) [aH] [aG3,aun] {cg:=[1],loops:=lz [(3,{bg:=[0,1,3,4,5],sites:=[1,4]})],outs:=lu [(3,{bg:=[0,1,3,4],sites:=[1,4]},{bg:=[0,2]})],fa:=mc [(3,alz)],QN:=[⟨0,[.arr],wE⟩]}
def XP:= @ej Tryz.prog (jr GZ.G) GZ.an 0 Tryz.f229 0 _ vD
abbrev agu:=jj Tryz.prog (jr GZ.G) GZ.an 0 Tryz.f229 0 vD FO oY wu M9
theorem auu:ik Vn FO oY wu:=jX (jA [.d ti,.d wE,.d ti] λ_=>cd)
theorem XR:ma @XP vD FO oY wu M9 agu:=mJ
theorem Vo(n jq n4)(kn:K2 R)(kx:K3 R):XP (n,jq,n4) kn kx=ao (G2.call (n4,jq)) λx1=>aJ (x1.2) (ao (Vi.call x1.1.2) λx2=>kx (FP x2).1 (FP x2).2) (aJ (eA x1.1.1 (((ae x1.1.2.1):Nat):Int)) (aJ (ou (fO .i64 (7:Int) x1.1.1)) (aJ (fv (nth tb x1.1.2.1 (ab x1.1.1)) (128:Int)) (kx (wx ((cX .or .i64 n (oq .i64 (dR .i64 (kj (nth tb x1.1.2.1 (ab x1.1.1)) (128:Int))) (fO .i64 (7:Int) x1.1.1))),x1.1.2,(bz .i64 x1.1.1 (1:Int)))).1 (wx ((cX .or .i64 n (oq .i64 (dR .i64 (kj (nth tb x1.1.2.1 (ab x1.1.1)) (128:Int))) (fO .i64 (7:Int) x1.1.1))),x1.1.2,(bz .i64 x1.1.1 (1:Int)))).2) (kn (vD ((cX .or .i64 n (oq .i64 (dR .i64 (kj (nth tb x1.1.2.1 (ab x1.1.1)) (128:Int))) (fO .i64 (7:Int) x1.1.1))),x1.1.2,(bz .i64 x1.1.1 (1:Int)))))) aH) aH):=cd
theorem aR1(o0)(k:K1 R):GZ.A o0 k=ao (Vn (0,o0,0)) λx3=>aJ x3.isLeft (ao x3.getLeft? λa4=>k (GZ.out (0,a4))) (ao x3.getRight? λb5=>aJ (inc b5.2.2 (b5.2.1.1.length:Int)) (k (GZ.out (b5.1,((cut b5.2.1.1 (ab b5.2.2) ((ae b5.2.1.1) - (ab b5.2.2))),b5.2.1.2)))) aH):=cd
theorem azp:agu:=by
 refine XR (λ(n,o,i)=>9 - i.toNat) ?_
 rintro⟨n,o,i⟩ ⟨hr,k,m,hk,rfl,rfl,hm⟩;have hk:k<=9:=hk;have hr:tI o:=hr;by_cases hw:o.1.length<=k\/8 < k\/(0 < k/\nth (.int .u8) o.1 k=0)
 ·right;have hf:DS (o.1.drop k) k (m:Int)= .inr ():=by
   by_cases h:k < o.1.length
   ·have n1:nth (.int .u8) o.1 k=o.1[k]:=bY (t:= .int .u8) h;rw[au h,DS,if_pos (by rw[n1]at hw;rcases hw with x | x | x;exact absurd x aq;exact jg x;exact eI x)]
   ·rw[dO aq];rfl
  refine⟨FP Tt,?_,λkn kx=> ?_⟩
  ·simp only[oY,wu,aa,hf];rfl
  ·rw[Vo,agJ (d:=((k:Int),o)) (ig k)];simp only[ag,JC,VB,aa];rw[aX hw,aj,XL (d:=o) trivial];rfl
 ·have h:k < o.1.length:=aq;have hx:=hr.2 _ (aK h);obtain⟨x1,x2⟩:=hx;have n1:nth (.int .u8) o.1 k=o.1[k]:=bY (t:= .int .u8) h;have hc:¬(8 < k\/(0 < k/\o.1[k]=0)):=λx=>hw (x.elim (λy=> .inr (.inl y)) λy=> .inr (.inr ⟨y.1,n1.trans y.2⟩))
  obtain⟨dn,aOZ⟩:∃d:Nat,o.1[k]=d:=⟨o.1[k].toNat,aq⟩;have g:=arC (n:=m) (d:=dn%128) (k:=k) aq hm aq;have step:∀ {R:Type} (kn:AS->Option R) (kx:Exit->AS->Option R),XP ((m:Int),o,(k:Int)) kn kx=aJ (fv o.1[k] 128) (kx (wx (((m+dn%128*128^k:Nat):Int),o,((k+1:Nat):Int))).1 (wx (((m+dn%128*128^k:Nat):Int),o,((k+1:Nat):Int))).2) (kn (vD (((m+dn%128*128^k:Nat):Int),o,((k+1:Nat):Int)))):=by intro R kn kx;rw[Vo,agJ (d:=((k:Int),o)) (ig k)];simp only[ag,JC,VB,aa];rw[bo hw,al,ba aq aq,n1,aOZ,N.aXR aq,v7 aq,N.aYS,N.cN aq,g.1,N.jL aq];rfl
  have ef:DS (o.1.drop k) k (m:Int)=if o.1[k] < 128 then .inl (((m+dn%128*128^k:Nat):Int),k+1) else DS (o.1.drop (k+1)) (k+1) ((m+dn%128*128^k:Nat):Int):=by
   have ec:(m:Int)+o.1[k]%128*128^k=((m+dn%128*128^k:Nat):Int):=by rw[aOZ,ax9,Int.natCast_add,mh];rfl
   rw[au h,DS,if_neg hc,ec]
  by_cases hl:o.1[k] < 128
  ·right;refine⟨wx (((m+dn%128*128^k:Nat):Int),o,((k+1:Nat):Int)),?_,λkn kx=> ?_⟩
   ·simp only[oY,wu,aa,ef,if_pos hl];rfl
   ·rw[step,aS hl,aj]
  ·left;refine⟨(((m+dn%128*128^k:Nat):Int),o,((k+1:Nat):Int)),⟨hr,k+1,_,aq,rfl,rfl,g.2.1⟩,by simp only[aa];omega,?_,λkn kx=> ?_⟩
   ·simp only[oY,wu,aa,ef,if_neg hl]
   ·rw[step,aQ hl,al]
theorem aR2:GZ.Ok:=by
 intro o h;have h:tI o:=h;rw[aR1,auu (d:=(0,o,0)) ⟨h,0,0,eX,rfl,rfl,eX⟩];simp only[ag,oY,wu,aT,ay,bq,yM,eh];cases hf:DS o.1 0 0 with
 |inl v=>
  have g:=anW o.1 0 0 v h.2 eX eX eX hf;have e2:cut o.1 v.2 (o.1.length - v.2)=o.1.drop v.2:=by unfold cut;rw[bu];rw[du];omega
  simp only[db,cC,al,ag,aa];rw[oo aq aq,aj,e2]
 |inr _=>rfl
theorem rI:GZ.RS:=rE [.d wE] GZ
def abV:=GZ.eY aR2 1 ⟨.e7 azp,trivial⟩
def xD:Int->SA:=λn=>([.d ti n],[])
def Oy:Bs->jf:=λx=>⟨.d tB x,[],[]⟩
def wj:Int->Bs->Bs:=λn y=>y
def Ox:Nat->Int->Prop
 | 0=>λ_=>False
 |dep+1=>λn=>0<=n/\n<=9223372036854775807/\n < 128^(dep+1)
def Fu:Int->Bs:=λn=>gO n
theorem azs{n:Int}(h:n < 128):gO n=[n]:=by unfold gO;rw[gW,if_neg aq];rfl
theorem aGP{n:Int}(h:128<=n)(h2:n<=9223372036854775807):gO n=(n%128+128)::gO (n / 128):=by unfold gO;rw[alF h h2];rfl
theorem avs{n:Int}(h0:0<=n)(h:n < 256):dR .u8 n=n:=by rw[WS,iH];omega
theorem ak7:∀d d',xD d=xD d'->d=d':=adv [.d ti] λ_=>cd
def UX(dep:Nat):Entry:=Entry.of [av ti] xD (Ox dep) (λd=>wj d (Fu d)) Oy
def Z7(dep:Nat):Int->Option Bs:=λd=>(UX dep).run (xD d).1 (xD d).2
theorem ay2{dep:Nat}{d:Int}(h:Ox dep d):Z7 dep d=av (wj d (Fu d)):=Entry.vu ak7 h
def aB3(dep:Nat):tg:=aj7 197 nV (UX dep) (jr (P:=Tryz.prog) [])
def afV:Da:= {cg:=[8,13],res:=[av tB]}
def aB1(dep:Nat):= @Si Tryz.prog (aB3 dep) afV 0 Tryz.f197 _ xD
theorem aMZ(dep n)(k:K1 R):aB1 dep n k=aJ (fv n (128:Int)) (k (Oy [(dR .u8 n)])) (ao (Z7 dep (wC .i64 n (128:Int))) λx1=>aJ (cZ (1+(ae x1)) 1) (aJ (decide (0=0/\(0+(1+(ae x1)))<=(ae ([(bz .u8 (dR .u8 (kj n (128:Int))) (128:Int))]++x1)))) (k (Oy (cut ([(bz .u8 (dR .u8 (kj n (128:Int))) (128:Int))]++x1) 0 (1+(ae x1))))) aH) aH):=cd
theorem aM0:∀(dep:Nat) (d:Int),Ox (dep+1) d->aB1 dep d av=av (Oy (wj d (Fu d))):=by
 rintro dep (n:Int) ⟨h0,h1,h2⟩;have h0:0<=n:=h0;have h1:n<=9223372036854775807:=h1;have h2:n < 128^(dep+1):=h2;rw[aMZ];simp only[wj,Fu];by_cases h:n < 128
 ·rw[aS h,aj,azs h,avs h0 aq]
 ·obtain⟨m,rfl⟩:∃m:Nat,n=m:=⟨n.toNat,aq⟩;cases dep with
  |zero=>exact absurd h2 h
  |succ dep=>
   have e:(128:Int)^(dep+1+1)=128^(dep+1)*128:=gj 128 (dep+1);have e1:wC .i64 (m:Int) (128:Int)=((m / 128:Nat):Int):=N.bai aq;have e2:kj (m:Int) (128:Int)=((m%128:Nat):Int):=N.aYS;have e3:bz .u8 (dR .u8 ((m%128:Nat):Int)) (128:Int)=(m:Int)%128+128:=by rw[avs aq aq];show IntKind.u8.wrap _=_;rw[wrap_u8,iH];omega
   have e4:((m / 128:Nat):Int)=(m:Int) / 128:=aq;have hl:=lR ((m:Int) / 128);rw[aQ h,al,e1,e2,e3,e4,ay2 (dep:=dep+1) (d:=(m:Int) / 128) ⟨by show 0<=(m:Int) / 128;omega,by show(m:Int) / 128<=_;omega,by show(m:Int) / 128 < _;omega⟩];simp only[ag,wj,Fu];rw[cM aq aq,aGP aq h1];have el:([(m:Int)%128+128]++gO ((m:Int) / 128)).length=1+(gO ((m:Int) / 128)).length:=by rw[ak];rfl
   rw[aX ⟨by trivial,by rw[el];omega⟩,ea el];rfl
def aB2:Entry:=UX 9
def RT:Int->Option Bs:=K6 aB2 xD
theorem ak8{d:Int}(h:Ox 9 d):RT d=av (wj d (Fu d)):=show(UX 9).run (xD d).1 (xD d).2=_ from Entry.vu ak7 h
theorem Z8:∀dep,tD Tryz.prog 197 (UX dep)
 | 0=>tD.of (an:=afV) (N:=0) (fn:=Tryz.f197) cd (show Sound _ aKd from Sound.nil _) cd cd cd (jx.fn 0 cd trivial) (λ_ h=>False.elim h)
 |dep+1=>tD.of (an:=afV) (N:=0) (fn:=Tryz.f197) cd (show Sound _ (aB3 dep) from Sound.cons (OW.of (Z8 dep) (by rfl)) (Sound.jr (P:=Tryz.prog) [])) cd cd cd (jx.fn 0 cd trivial) (aM0 dep)
def auc:SG Tryz.prog:=⟨197,nV,aB2,.of (Z8 9) (by rfl)⟩
def aGg:(Bs×Int)->Prop:=λ(b,n)=>b.length<=90000000/\n<=9223372036854775807
def pO:(Bs×Int)->Bs:=λ(b,n)=>cQ b n
def ud:Fs Tryz.prog aGg bq pO:=eV 137 Tryz.f137 (λ(b,n)=>([.d tB b,.d ti n],[])) (λx=>⟨.d tB x,[],[]⟩) [av tB,av ti] [auc] {cg:=[6],res:=[av tB]}
theorem aMX(b n)(k:K1 R):ud.A (b,n) k=aJ (cZ (0+(ae b)) 1) (aJ (AM n 0) (ao (RT n) λx1=>aJ (decide ((0+(ae b))<=(ae ((aM 0 (ai 0 0))++b)))) (aJ (cZ ((0+(ae b))+(ae x1)) 1) (aJ (decide (0=0/\(0+((0+(ae b))+(ae x1)))<=(ae ((aM (0+(ae b)) ((aM 0 (ai 0 0))++b))++x1)))) (k (ud.out (cut ((aM (0+(ae b)) ((aM 0 (ai 0 0))++b))++x1) 0 ((0+(ae b))+(ae x1))))) aH) aH) aH) (aJ (decide (0=0/\(0+(0+(ae b)))<=(ae ((aM 0 (ai 0 0))++b)))) (k (ud.out (cut ((aM 0 (ai 0 0))++b) 0 (0+(ae b))))) aH)) aH:=cd
theorem aMY:ud.Ok:=by
 rintro⟨b,n⟩ ⟨hb,hn⟩;have hb:b.length<=90000000:=hb;have hn:n<=9223372036854775807:=hn;have e0:(aM 0 (ai 0 0):List Int)=[]:=rfl;rw[aMX];simp only[aV,e0,aY,bq,pO,cQ,az,gm,b8,aj,ea,bN];rw[cM aq aq,aj];by_cases h:n>=0
 ·have hl:=lR n;rw[fG h,aj,if_neg aq,ak8 (d:=n) ⟨h,hn,by have e:(128:Int)^(8+1)=9223372036854775808:=rfl;rw[e];show n < _;omega⟩];simp only[ag,wj,Fu];rw[cM aq aq,aX ⟨by trivial,by rw[ak];omega⟩,ea (by rw[ak])];rfl
 ·rw[eg h,if_pos aq];rfl
theorem j7:ud.RS:=rE [.d tB,.d ti] ud
def afQ:=ud.eY aMY
abbrev Z6:=Int×Nat×Int×(List Int)
def aiR:Z6->Prop:=λ(n,m,i,l)=>m=l.length/\∃j:Nat,j<=8/\i=7 - (j:Int)/\l.length<=100000000+j
def Ft:Z6->(Nat×(List Int)):=λ(n,m,i,l)=>(m+(i+1).toNat,l++(jo n).drop (7 - i).toNat)
def ay1:(Bs×Int)->Prop:=λ(b,n)=>b.length<=90000000
def afT:(Bs×Int)->Bs:=λ(b,n)=>b++jo n
def sT:Ls aiR bq Ft:=pD (λ(ze,outL,i,n7)=>⟨([bE,.d tu ze,bE,bE,bE,jl 7 outL,.d ti i]++aW 17 []),[],(bw 7 ([dm (.vec 5 tb n7)]++bw 16 []))⟩) (λx=>(.exit 0,⟨(aW 5 ([jl 7 x.1]++aW 18 [])),[],(bw 7 ([dm (.vec 5 tb x.2)]++bw 16 []))⟩))
def Ei:Fs Tryz.prog ay1 bq afT:=eV 262 Tryz.f262 (λ(b,n)=>([.d tB b,.d tu n],[])) (λx=>⟨.d tB x,[],[]⟩) [av tB,av tu] [] {cg:=[7],loops:=lz [(3,{bg:=[1,5,6],sites:=[7],owns:=[⟨5,[],7,114⟩]})],outs:=lu [(3,{bg:=[5],sites:=[7]},{bg:=[4]})],fa:=mc [(3,sT.E)],res:=[av tB]}
theorem aiS:sT.RS:=rL [.d tu,.n,.d ti,.d tB] sT
theorem MS(ze outL i n7)(kn:K2 R)(kx:K3 R):Ei.R 0 sT (ze,outL,i,n7) kn kx=aJ (AM i 0) (aJ (ou (dR .u64 (fO .i64 8 i))) (aJ (decide (outL<=(ae n7))) (aJ (cZ (outL+1) 1) (kn (sT.st (ze,(outL+1),(df .i64 i 1),((aM outL n7)++ [(dR .u8 (cF .u64 ze (dR .u64 (fO .i64 8 i))))])))) aH) aH) aH) (sT.go kx (outL,n7)):=cd
theorem aGp(b n)(k:K1 R):Ei.A (b,n) k=aJ (cZ (0+(ae b)) 1) (ao (sT.call (n,(0+(ae b)),7,((aM 0 (ai 0 0))++b))) λx1=>aJ (decide (0=0/\(0+x1.1)<=(ae x1.2))) (k (Ei.out (cut x1.2 0 x1.1))) aH) aH:=cd
theorem ao1:(Ei.jx 0 sT):=by
 refine(Ei.mf 0 sT) (λ(n,m,i,l)=>(i+1).toNat) ?_
 rintro⟨n,m,i,l⟩ ⟨rfl,j,hj,rfl,hl⟩;have hl:l.length<=100000000+j:=hl;have e1:(7 - (7 - (j:Int))).toNat=j:=aq;by_cases h:j < 8
 ·left;have e2:df .i64 (7 - (j:Int)) 1=7 - ((j+1:Nat):Int):=by rw[fI aq aq];omega
  have e3:(7 - (7 - ((j+1:Nat):Int))).toNat=j+1:=aq;have e4:fO .i64 8 (7 - (j:Int))=((56 - 8*j:Nat):Int):=by rw[Ah aq aq];omega
  have e5:dR .u64 ((56 - 8*j:Nat):Int)=((56 - 8*j:Nat):Int):=by rw[TL,iH];omega
  refine⟨(n,l.length+1,7 - ((j+1:Nat):Int),l++ [n / 2^(56 - 8*j)%256]),⟨by rw[ak];rfl,j+1,aq,rfl,by rw[ak];show l.length+1<=_;omega⟩,by simp only;omega,?_,λkn kx=> ?_⟩
  ·simp only[bq,Ft,e1,e3,aqt n j h,aO,cE];rw[show l.length+1+(7 - ((j+1:Nat):Int)+1).toNat=l.length+(7 - (j:Int)+1).toNat by omega]
  ·rw[MS,fG aq,e4,e5,v7 aq,ahw n _ aq,e2,aX (az _),cM aq aq,bN];rfl
 ·right;obtain rfl:j=8:=aq;intro R kn kx;rw[MS,eg aq,al];simp only[bq,Ft,e1];rw[dO (by rw[cv];omega),bK];rfl
theorem aGq:Ei.Ok:=by
 rintro⟨b,n⟩ hb;have hb:b.length<=90000000:=hb;have e0:(aM 0 (ai 0 0):List Int)=[]:=rfl;rw[aGp];simp only[aV,e0,aY];rw[cM aq aq,aj,aiS (d:=(n,b.length,7,b)) ⟨rfl,0,aq,rfl,aq⟩];simp only[ag,bq,Ft];rw[show(7 - (7:Int)).toNat=0 from rfl,show((7:Int)+1).toNat=8 from rfl,ay];have el:(b++jo n).length=b.length+8:=by rw[ak,cv]
 rw[aX ⟨by trivial,by rw[el];omega⟩,ea el];rfl
theorem afU:Ei.RS:=rE [.d tB,.d tu] Ei
def aGr:=Ei.eY aGq 1 ⟨.e7 ao1,trivial⟩
def EE(l:List Int):Prop:=∀x∈l,lG x
def aHL(b:nR):Prop:=EE b.1/\lG b.2.2.2.1
def abu(l:Lk):Prop:=∀b∈l.1,aHL b
def WO(n:Int):Bool:=decide (0<=n/\n<=1048576)
def xX(b:nR):Bool:=decide (b.1.length<=12) && (b.1.all tA && (WO b.2.1 && (WO b.2.2.1 && (decide (b.2.2.2.1=0) || tA b.2.2.2.1))))
def lI(l:Lk):Bool:=l.1.all xX && decide (0 < l.1.length/\l.1.length<=4)
def Bq:List Int->Int->Int⊕Unit
 |[],_=> .inr ()
 |p::ps,i=>if tA p then Bq ps (i+1) else .inl i
def aAs(l:List Int):Int:=match Bq l 0 with | .inl i=>i | .inr _=> -1
theorem Yh:∀(l:List Int) (i:Int),0<=i->(match Bq l i with | .inl i=>decide (i>=0) | .inr _=>aZ)= !(l.all tA)
 |[],_,_=>rfl
 |p::ps,i,h=>by
  rw[Bq,gg];cases hp:tA p
  ·simp[h]
  ·simp only[bO,bM];exact Yh ps (i+1) aq
theorem aCI(l:List Int):AM (aAs l) 0= !(l.all tA):=by
 have:=Yh l 0 aq;unfold aAs AM;cases h:Bq l 0
 ·rw[h]at this;exact this
 ·rw[h]at this;rw[<-this];rfl
def aKO:Int->Prop:=λp=>lG p
def anB:Int->Bool:=λp=> !tA p
def asn:Fs Tryz.prog aKO bq anB:=eV 123 Tryz.f123 (λp=>([.d tu p],[])) (λx=>⟨.d .bool x,[],[]⟩) [av tu] [Xj]
theorem aQQ(p)(k:K1 R):asn.A p k=ao (yw.call p) λx1=>k (asn.out (!x1)):=cd
theorem aQR:asn.Ok:=by intro p hp;rw[aQQ,D5 (d:=p) hp];rfl
theorem adD:asn.RS:=rE [.d tu] asn
def aBj:=asn.eY aQR
abbrev An:=Bs×Int×Int
def sH:An->AS:=λ(ko,t7,t8)=>⟨([.d tU ko,.fn 123 (.nil)]++aW 5 ([.d ti t7,.d ti t8]++aW 10 [])),[],(ai 19 [])⟩
def zh:Int->Exit×AS:=λx=>(.ret,⟨(aW 4 ([.d ti x]++aW 14 [])),[],(ai 19 [])⟩)
def zi:Unit->Exit×AS:=λx=>(.exit 0,⟨(aW 19 []),[],(ai 19 [])⟩)
abbrev L0:=(Int)⊕(Unit)
abbrev ZB:=(Int)⊕(Unit)
def Gr:L0->Out (Exit×AS):=λx=> .br x.isLeft (.get x.getLeft? λa=> .ok (zh a)) (.get x.getRight? λb=> .ok (zi b))
def kJ:An->ZB->L0:=λ(ko,t7,t8) y=>match y with | .inl y=> .inl y | .inr z=> .inr (z)
def zg:An->Prop:=λ(l,n,i)=>EE l/\l.length<=1000000000/\n=l.length/\∃k:Nat,k<=l.length/\i=k
def oP:An->ZB:=λ(l,n,i)=>Bq (l.drop i.toNat) i
def axZ:Bs->Prop:=λl=>EE l/\l.length<=1000000000
def aeM:Bs->Int:=λl=>aAs l
def Zz:=dB.e7 sH zg kJ oP Gr
def L1:An->Option L0:=fS Zz sH
def AZ:Fs Tryz.prog axZ bq aeM:=eV 188 Tryz.f188 (λsv=>([.d tU sv,.fn 123 (.nil)],[])) (λx=>⟨.d ti x,[],[]⟩) [av tU,aH] [aBj] {loops:=lz [(2,{bg:=[0,1,7,8]})],outs:=lu [(2,{},{bg:=[4]})],fa:=mc [(2,Zz)]}
def ZA:= @ej Tryz.prog (jr AZ.G) AZ.an 0 Tryz.f188 0 _ sH
abbrev Uo:=jj Tryz.prog (jr AZ.G) AZ.an 0 Tryz.f188 0 sH zg kJ oP Gr
theorem ail:ik L1 zg kJ oP:=jX (jA [.d tU,.d ti,.d ti] λ_=>cd)
theorem Rv:ma @ZA sH zg kJ oP Gr Uo:=mJ
theorem DY(ko t7 t8)(kn:K2 R)(kx:K3 R):ZA (ko,t7,t8) kn kx=aJ (fv t8 t7) (aJ (eA t8 (((ae ko):Nat):Int)) (ao (asn.call (nth tu ko (ab t8))) λx1=>aJ (x1) (kx (zh t8).1 (zh t8).2) (kn (sH (ko,t7,(bz .i64 t8 (1:Int)))))) aH) (kx (zi ()).1 (zi ()).2):=cd
theorem aFv(sv)(k:K1 R):AZ.A sv k=ao (L1 (sv,(sv.length:Int),0)) λx2=>aJ x2.isLeft (ao x2.getLeft? λa3=>k (AZ.out a3)) (ao x2.getRight? λb4=>k (AZ.out (-1))):=cd
theorem aod:Uo:=by
 refine Rv (λ(l,n,i)=>l.length - i.toNat) ?_
 rintro⟨l,n,i⟩ ⟨hl,hb,rfl,k,hk,rfl⟩;have hb:l.length<=1000000000:=hb;have hk:k<=l.length:=hk;by_cases h:k < l.length
 ·have hx:=hl _ (aK h);have n1:nth (.int .u64) l k=l[k]:=bY (t:= .int .u64) h;have hd:Bq (l.drop k) k=if tA l[k] then Bq (l.drop (k+1)) ((k+1:Nat):Int) else .inl (k:Int):=by rw[au h];rfl
  cases hp:tA l[k]
  ·right;refine⟨zh (k:Int),?_,λkn kx=> ?_⟩
   ·simp only[kJ,oP,aa,hd,hp,bG,bC];rfl
   ·rw[DY];simp(disch:=omega) only[↓S1,↓if_pos,↓if_neg,if_pos,if_neg,bO,bC,S2,n1];rw[adD (d:=l[k]) hx];simp only[ag,bq,anB,hp,dX,aj]
  ·left;refine⟨(l,l.length,((k+1:Nat):Int)),⟨hl,hb,rfl,k+1,aq,rfl⟩,by simp only[aa];omega,?_,λkn kx=> ?_⟩
   ·simp only[kJ,oP,aa,hd,hp,bO]
   ·rw[DY];simp(disch:=omega) only[↓S1,↓if_pos,↓if_neg,if_pos,if_neg,bO,bC,S2,n1];rw[adD (d:=l[k]) hx];simp only[ag,bq,anB,hp,bT,al]
 ·right;obtain rfl:k=l.length:=aq;refine⟨zi (),?_,λkn kx=> ?_⟩
  ·simp only[kJ,oP,aa,aI];rfl
  ·rw[DY];simp(disch:=omega) only[↓S1,↓if_pos,↓if_neg,if_pos,if_neg,bO,bC,S2]
theorem aFw:AZ.Ok:=by rintro l ⟨hl,hb⟩;rw[aFv,ail (d:=(l,l.length,0)) ⟨hl,hb,rfl,0,aq,rfl⟩];simp only[ag,kJ,oP,aT,ay,bq,aeM,aAs];cases Bq l 0 <;> rfl
theorem ax0:AZ.RS:=rE [.d tU] AZ
def aFx:=AZ.eY aFw 1 ⟨.e7 aod,trivial⟩
def aij:Bs->Prop:=λl=>EE l/\l.length<=1000000000
def Zt:Bs->Bool:=λl=> !(l.all tA)
def yt:Fs Tryz.prog aij bq Zt:=eV 125 Tryz.f125 (λsv=>([.d tU sv,.fn 123 (.nil)],[])) (λx=>⟨.d .bool x,[],[]⟩) [av tU,aH] [aFx]
theorem an6(sv)(k:K1 R):yt.A sv k=ao (AZ.call sv) λx1=>k (yt.out (AM x1 0)):=cd
theorem an7:yt.Ok:=by rintro l ⟨hl,hb⟩;rw[an6,ax0 (d:=l) ⟨hl,hb⟩];simp only[ag,bq,aeM,aCI];rfl
theorem aik:yt.RS:=rE [.d tU] yt
def an8:=yt.eY an7
def aso:Int->Prop:=λ_=>True
def WZ:Int->Bool:=λn=>WO n
def Ce:Fs Tryz.prog aso bq WZ:=eV 126 Tryz.f126 (λn=>([.d ti n],[])) (λx=>⟨.d .bool x,[],[]⟩) [av ti]
theorem axh(n)(k:K1 R):Ce.A n k=aJ (AM n 0) (k (Ce.out (ahY n 1048576))) (k (Ce.out aZ)):=cd
theorem axi:Ce.Ok:=by
 intro n _;rw[axh];simp only[bq,WZ,WO];by_cases h:0<=n
 ·rw[fG h,aj];by_cases h2:n<=1048576
  ·rw[om h2,aX ⟨h,h2⟩]
  ·rw[j4 h2,bo (λx=>h2 x.2)]
 ·rw[eg h,al,bo (λx=>h x.1)]
theorem Y5:Ce.RS:=rE [.d ti] Ce
def axj:=Ce.eY axi
abbrev Aj:=Lk×(List nR)×Int×Int
def mV:Aj->AS:=λ(tl,t7,t8,t9)=>⟨([bE,.dz P9 tl,bE,.fn 123 (.nil),bE,bE,bE,.d (.slice jE) t7,.d ti t8,.d ti t9]++aW 47 []),[],(ai 57 [])⟩
def fQ:Unit->Exit×AS:=λx=>(.ret,⟨([bE,bE,.d .bool aZ]++aW 54 []),[],(ai 57 [])⟩)
def zd:Lk->Exit×AS:=λx=>(.exit 0,⟨([bE,.dz P9 x]++aW 55 []),[],(ai 57 [])⟩)
abbrev LF:=(Unit)⊕(Lk)
abbrev Za:=(Unit)⊕(Unit)
def Gk:LF->Out (Exit×AS):=λx=> .br x.isLeft (.get x.getLeft? λa=> .ok (fQ a)) (.get x.getRight? λb=> .ok (zd b))
def kG:Aj->Za->LF:=λ(tl,t7,t8,t9) y=>match y with | .inl y=> .inl y | .inr z=> .inr (tl)
def zb:Aj->Prop:=λ(l,bs,n,i)=>(∀b∈bs,aHL b)/\bs.length<=9223372036854775807/\n=bs.length/\∃k:Nat,k<=bs.length/\i=k
def oN:Aj->Za:=λ(l,bs,n,i)=>if(bs.drop i.toNat).all xX then .inr () else .inl ()
def axm:Lk->Prop:=λl=>abu l/\l.1.length<=9223372036854775807
def Hx:Lk->Bool:=λl=>lI l
def Y9:=dB.e7 mV zb kG oN Gk
def LG:Aj->Option LF:=fS Y9 mV
def rn:Fs Tryz.prog axm bq Hx:=eV 56 Tryz.f56 (λl=>([.d P9 l],[])) (λx=>⟨.d .bool x,[],[]⟩) [av P9] [axj,an8,aBj] {loops:=lz [(3,{bg:=[1,3,7,8,9]})],outs:=lu [(3,{bg:=[1]},{bg:=[2]})],fa:=mc [(3,Y9)]}
def LD:= @ej Tryz.prog (jr rn.G) rn.an 0 Tryz.f56 0 _ mV
abbrev TX:=jj Tryz.prog (jr rn.G) rn.an 0 Tryz.f56 0 mV zb kG oN Gk
theorem ah5:ik LG zb kG oN:=jX (jA [.d P9,.d (.slice jE),.d ti,.d ti] λ_=>cd)
theorem Rh:ma @LD mV zb kG oN Gk TX:=mJ
theorem LH(tl t7 t8 t9)(kn:K2 R)(kx:K3 R):LD (tl,t7,t8,t9) kn kx=aJ (fv t9 t8) (aJ (eA t9 (((ae t7):Nat):Int)) (aJ (xW (((ae (nth jE t7 (ab t9)).1):Nat):Int) (12:Int)) (kx (fQ ()).1 (fQ ()).2) (ao (yt.call (nth jE t7 (ab t9)).1) λx1=>aJ (x1) (kx (fQ ()).1 (fQ ()).2) (ao (Ce.call (nth jE t7 (ab t9)).2.1) λx2=>aJ (!x2) (kx (fQ ()).1 (fQ ()).2) (ao (Ce.call (nth jE t7 (ab t9)).2.2.1) λx3=>aJ (!x3) (kx (fQ ()).1 (fQ ()).2) (aJ (C3 (nth jE t7 (ab t9)).2.2.2.1 (0:Int)) (ao (asn.call (nth jE t7 (ab t9)).2.2.2.1) λx4=>aJ (x4) (kx (fQ ()).1 (fQ ()).2) (kn (mV (tl,t7,t8,(bz .i64 t9 (1:Int)))))) (kn (mV (tl,t7,t8,(bz .i64 t9 (1:Int)))))))))) aH) (kx (zd tl).1 (zd tl).2):=cd
theorem aEK(l)(k:K1 R):rn.A l k=ao (LG (l,l.1,(l.1.length:Int),0)) λx5=>aJ x5.isLeft (ao x5.getLeft? λa6=>k (rn.out aZ)) (ao x5.getRight? λb7=>aJ (xW (b7.1.length:Int) 0) (k (rn.out (ahY (b7.1.length:Int) 4))) (k (rn.out aZ))):=cd
theorem anP:TX:=by
 refine Rh (λ(l,bs,n,i)=>bs.length - i.toNat) ?_
 rintro⟨l,bs,n,i⟩ ⟨hl,hb,rfl,k,hk,rfl⟩;have hb:bs.length<=9223372036854775807:=hb;have hk:k<=bs.length:=hk;by_cases h:k < bs.length
 ·have hx:aHL bs[k]:=hl _ (aK h);have n1:nth (.pair (.slice (.int .u64)) (.pair (.int .i64) (.pair (.int .i64) (.pair (.int .u64) .unit)))) bs k=bs[k]:=bY (t:=(.pair (.slice (.int .u64)) (.pair (.int .i64) (.pair (.int .i64) (.pair (.int .u64) .unit))))) h;have hd:(bs.drop k).all xX=(xX bs[k] && (bs.drop (k+1)).all xX):=by rw[au h,gg]
  have step:∀ {R:Type} (kn:AS->Option R) (kx:Exit->AS->Option R),LD (l,bs,(bs.length:Int),(k:Int)) kn kx=aJ (xX bs[k]) (kn (mV (l,bs,(bs.length:Int),((k+1:Nat):Int)))) (kx (fQ ()).1 (fQ ()).2):=by
   intro R kn kx;rw[LH,aS aq,ba aq aq,aa,n1,N.jL aq];obtain⟨⟨ks,af,dl,sc,u⟩,aQk⟩:∃b,bs[k]=b:=⟨_,rfl⟩;rw[aQk]at hx ⊢;have h1:EE ks:=hx.1;have h2:lG sc:=hx.2;simp only[aj,xX];by_cases hk:ks.length<=12
   ·rw[cI aq,aik (d:=ks) ⟨h1,aq⟩,Y5 (d:=af) trivial,Y5 (d:=dl) trivial,adD (d:=sc) h2,aX hk];simp only[al,ag,bq,Zt,bq,WZ,bq,anB,bM];cases ks.all tA
    ·rfl
    cases WO af
    ·rfl
    cases WO dl
    ·rfl
    by_cases hs:sc=0
    ·rw[dN hs,aX hs];rfl
    ·rw[fH hs,bo hs];cases tA sc <;> rfl
   ·rw[dw aq,bo hk];rfl
  cases hp:xX bs[k]
  ·right;refine⟨fQ (),?_,λkn kx=> ?_⟩
   ·simp only[kG,oN,aa,hd,hp,dA,bG,bC];rfl
   ·rw[step,hp,al]
  ·left;refine⟨(l,bs,bs.length,((k+1:Nat):Int)),⟨hl,hb,rfl,k+1,aq,rfl⟩,by simp only[aa];omega,?_,λkn kx=> ?_⟩
   ·simp only[kG,oN,aa,hd,hp,bM]
   ·rw[step,hp,aj]
 ·right;obtain rfl:k=bs.length:=aq;refine⟨zd l,?_,λkn kx=> ?_⟩
  ·simp only[kG,oN,aa,aI];rfl
  ·rw[LH];simp(disch:=omega) only[↓S1,↓if_pos,↓if_neg,if_pos,if_neg,bO,bC,S2]
theorem aEL:rn.Ok:=by
 rintro l ⟨hl,hb⟩;have hb:l.1.length<=9223372036854775807:=hb;rw[aEK,ah5 (d:=(l,l.1,l.1.length,0)) ⟨hl,hb,rfl,0,aq,rfl⟩];simp only[ag,kG,oN,aT,ay,bq,Hx,lI];cases l.1.all xX
 ·rfl
 ·simp only[bO,bM];show aJ (xW _ _) _ _=_;by_cases h0:0 < l.1.length
  ·rw[dw aq];by_cases h4:l.1.length<=4
   ·rw[om aq,aX ⟨h0,h4⟩];rfl
   ·rw[j4 aq,bo (λx=>h4 x.2)];rfl
  ·rw[cI aq,bo (λx=>h0 x.1)];rfl
theorem DM:rn.RS:=rE [.d P9] rn
def Hy:=rn.eY aEL 1 ⟨.e7 anP,trivial⟩
def vE(m:List Int):List Int->List Sg->Bool
 |[],_=>bm
 |p::ps,ss=>qR p m 1 (ss.headD (0,0,())) && vE m ps ss.tail
def v8(l:Lk)(w:V9)(m:List Int)(height age:Int):Int:=
 if lI l=aZ\/w.1 < 0\/w.1>=l.1.length then 1
 else
  let b:=nth (.pair (.slice (.int .u64)) (.pair (.int .i64) (.pair (.int .i64) (.pair (.int .u64) .unit)))) l.1 w.1.toNat
  if height < b.2.1\/age < b.2.2.1 then 11
  else if b.2.2.2.1≠0/\gb w.2.2.1≠b.2.2.2.1 then 23
  else if w.2.1.length≠b.1.length then 7
  else if vE m b.1 w.2.1 then 0 else 7
theorem al1(m:List Int)(ks:List Int)(ss:List Sg)(h:ss.length=ks.length)(k:Nat)(hk:k < ks.length):vE m (ks.drop k) (ss.drop k)=(qR ks[k] m 1 (ss[k]'(aq)) && vE m (ks.drop (k+1)) (ss.drop (k+1))):=by rw[au hk,au (by omega:k < ss.length)];rfl
def Sl(w:V9):Prop:=(∀s∈w.2.1,aOV s)/\lG w.2.2.1
abbrev DJ:=V9×Bs×Bs×Int×Int
def rj:DJ->AS:=λ(Sd,ah6,t68,t69,t70)=>⟨(aW 6 ([.dz ap9 Sd,.dz tH ah6]++aW 60 ([.d tU t68,.d ti t69,.d ti t70]++aW 14 []))),[],(ai 85 [])⟩
def sC:Unit->Exit×AS:=λx=>(.ret,⟨(aW 10 ([.d ti (7:Int)]++aW 74 [])),[],(ai 85 [])⟩)
def Cg:Unit->Exit×AS:=λx=>(.exit 1,⟨(aW 85 []),[],(ai 85 [])⟩)
abbrev Rf:=(Unit)⊕(Unit)
abbrev adL:=(Unit)⊕(Unit)
def IY:Rf->Out (Exit×AS):=λx=> .br x.isLeft (.get x.getLeft? λa=> .ok (sC a)) (.get x.getRight? λb=> .ok (Cg b))
def mU:DJ->adL->Rf:=λ(Sd,ah6,t68,t69,t70) y=>match y with | .inl y=> .inl y | .inr z=> .inr (z)
abbrev aBn:=Lk×V9×Bs×Int×Int
def Cf:DJ->Prop:=λ(w,m,ks,n,i)=>Sl w/\Sm m/\EE ks/\ks.length<=1000000000/\w.2.1.length=ks.length/\n=ks.length/\∃k:Nat,k<=ks.length/\i=k
def ri:DJ->adL:=λ(w,m,ks,n,i)=>if vE m (ks.drop i.toNat) (w.2.1.drop i.toNat) then .inr () else .inl ()
def aEG:aBn->Prop:=λ(l,w,m,h,a)=>abu l/\l.1.length<=9223372036854775807/\Sl w/\Sm m
def anI:aBn->Int:=λ(l,w,m,h,a)=>v8 l w m h a
def adK:=dB.e7 rj Cf mU ri IY
def za:DJ->Option Rf:=fS adK rj
def oM:Fs Tryz.prog aEG bq anI:=eV 203 Tryz.f203 (λ(l,wv,m,height,age)=>([.d P9 l,.d ap9 wv,.d tH m,.d ti height,.d ti age],[])) (λx=>⟨.d ti x,[],[]⟩) [av P9,av ap9,av tH,av ti,av ti] [Hy,Ug,az3] {loops:=lz [(11,{bg:=[6,7,68,69,70]})],outs:=lu [(11,{},{bg:=[10]})],fa:=mc [(11,adK)]}
def Re:= @ej Tryz.prog (jr oM.G) oM.an 0 Tryz.f203 0 _ rj
abbrev Y8:=jj Tryz.prog (jr oM.G) oM.an 0 Tryz.f203 0 rj Cf mU ri IY
theorem anJ:ik za Cf mU ri:=jX (jA [.d ap9,.d tH,.d tU,.d ti,.d ti] λ_=>cd)
theorem TW:ma @Re rj Cf mU ri IY Y8:=mJ
theorem Pu(Sd ah6 t68 t69 t70)(kn:K2 R)(kx:K3 R):Re (Sd,ah6,t68,t69,t70) kn kx=aJ (fv t70 t69) (aJ (eA t70 (((ae t68):Nat):Int)) (aJ (eA t70 (((ae Sd.2.1):Nat):Int)) (ao (JI.call ((nth tu t68 (ab t70)),ah6,(nth KF Sd.2.1 (ab t70)))) λx1=>aJ (!x1) (kx (sC ()).1 (sC ()).2) (kn (rj (Sd,ah6,t68,t69,(bz .i64 t70 (1:Int)))))) aH) aH) (kx (Cg ()).1 (Cg ()).2):=cd
theorem aK1(l wv m height age)(k:K1 R):oM.A (l,wv,m,height,age) k=ao (rn.call l) λx1=>aJ (!x1) (k (oM.out 1)) (aJ (fv wv.1 0) (k (oM.out 1)) (aJ (AM wv.1 (l.1.length:Int)) (k (oM.out 1)) (aJ (eA wv.1 (l.1.length:Int)) (aJ (fv height (nth jE l.1 (ab wv.1)).2.1) (k (oM.out 11)) (aJ (fv age (nth jE l.1 (ab wv.1)).2.2.1) (k (oM.out 11)) (aJ (C3 (nth jE l.1 (ab wv.1)).2.2.2.1 0) (ao (LX.call wv.2.2.1) λx2=>aJ (C3 x2 (nth jE l.1 (ab wv.1)).2.2.2.1) (k (oM.out 23)) (aJ (C3 (wv.2.1.length:Int) (((ae (nth jE l.1 (ab wv.1)).1):Nat):Int)) (k (oM.out 7)) (ao (za (wv,m,(nth jE l.1 (ab wv.1)).1,(((ae (nth jE l.1 (ab wv.1)).1):Nat):Int),0)) λx4=>aJ x4.isLeft (ao x4.getLeft? λa5=>k (oM.out 7)) (ao x4.getRight? λb6=>k (oM.out 0))))) (aJ (C3 (wv.2.1.length:Int) (((ae (nth jE l.1 (ab wv.1)).1):Nat):Int)) (k (oM.out 7)) (ao (za (wv,m,(nth jE l.1 (ab wv.1)).1,(((ae (nth jE l.1 (ab wv.1)).1):Nat):Int),0)) λx7=>aJ x7.isLeft (ao x7.getLeft? λa8=>k (oM.out 7)) (ao x7.getRight? λb9=>k (oM.out 0))))))) aH))):=cd
theorem asu:Y8:=by
 refine TW (λ(w,m,ks,n,i)=>ks.length - i.toNat) ?_
 rintro⟨w,m,ks,n,i⟩ ⟨hw,hm,hl,hb,hs,rfl,k,hk,rfl⟩;have hb:ks.length<=1000000000:=hb;have hk:k<=ks.length:=hk;have hs:w.2.1.length=ks.length:=hs;by_cases h:k < ks.length
 ·have hx:=hl _ (aK h);have hy:=hw.1 _ (aK (by omega:k < w.2.1.length));have n1:nth (.int .u64) ks k=ks[k]:=bY (t:= .int .u64) h;have n2:nth (.pair (.int .u64) (.pair (.int .u64) .unit)) w.2.1 k=w.2.1[k]'(aq):=bY (t:=(.pair (.int .u64) (.pair (.int .u64) .unit))) aq;have hd:=al1 m ks w.2.1 hs k h;have step:∀ {R:Type} (kn:AS->Option R) (kx:Exit->AS->Option R),Re (w,m,ks,(ks.length:Int),(k:Int)) kn kx=aJ (qR ks[k] m 1 (w.2.1[k]'(aq))) (kn (rj (w,m,ks,(ks.length:Int),((k+1:Nat):Int)))) (kx (sC ()).1 (sC ()).2):=by intro R kn kx;rw[Pu,aS aq,ba aq aq,ba aq aq,aa,n1,n2,N.jL aq,avc (d:=(ks[k],m,w.2.1[k]'(aq))) ⟨hx,hm,hy⟩];simp only[aj,ag,bq,alS];cases qR ks[k] m 1 (w.2.1[k]'(aq)) <;> rfl
  cases hp:qR ks[k] m 1 (w.2.1[k]'(aq))
  ·right;refine⟨sC (),?_,λkn kx=> ?_⟩
   ·simp only[mU,ri,aa,hd,hp,dA,bG,bC];rfl
   ·rw[step,hp,al]
  ·left;refine⟨(w,m,ks,ks.length,((k+1:Nat):Int)),⟨hw,hm,hl,hb,hs,rfl,k+1,aq,rfl⟩,by simp only[aa];omega,?_,λkn kx=> ?_⟩
   ·simp only[mU,ri,aa,hd,hp,bM]
   ·rw[step,hp,aj]
 ·right;obtain rfl:k=ks.length:=aq;refine⟨Cg (),?_,λkn kx=> ?_⟩
  ·simp only[mU,ri,aa,aI];rfl
  ·rw[Pu];simp(disch:=omega) only[↓S1,↓if_pos,↓if_neg,if_pos,if_neg,bO,bC,S2]
theorem ako{l:Lk}(h:lI l=bm){b:nR}(hb:b∈l.1):b.1.length<=12:=by unfold lI at h;rw[aw,dr]at h;have:=h.1 b hb;unfold xX at this;rw[aw]at this;simpa using this.1
theorem aK2:oM.Ok:=by
  rintro⟨l,w,m,h,a⟩ ⟨hl,hb,hw,hm⟩;have hl:abu l:=hl;have hb:l.1.length<=9223372036854775807:=hb;have hw:Sl w:=hw;have hm:Sm m:=hm;rw[aK1,DM (d:=l) ⟨hl,hb⟩];simp only[ag,bq,Hx,bq,anI,v8];cases gX:lI l
  · rw[if_pos (jg rfl)];rfl
  by_cases h0:w.1 < 0
  · rw[aS h0,if_pos (eI (jg h0))];rfl
  by_cases h1:w.1>=l.1.length
  · rw[aQ h0,fG h1,if_pos (eI (eI h1))];rfl
  rw[aQ h0,eg h1,ba aq aq,if_neg (by simp[h0];omega)];have hn:w.1.toNat < l.1.length:=aq;have n1:nth (.pair (.slice (.int .u64)) (.pair (.int .i64) (.pair (.int .i64) (.pair (.int .u64) .unit)))) l.1 w.1.toNat=l.1[w.1.toNat]:=bY (t:=(.pair (.slice (.int .u64)) (.pair (.int .i64) (.pair (.int .i64) (.pair (.int .u64) .unit))))) hn;rw[n1];have hx:aHL l.1[w.1.toNat]:=hl _ (aK hn);have aQn:=ako gX (aK hn);obtain⟨⟨ks,af,dl,sc,u⟩,aQk⟩:∃b,l.1[w.1.toNat]=b:=⟨_,rfl⟩;rw[aQk]at hx aQn ⊢;have aQo:EE ks:=hx.1;have aQn:ks.length<=12:=aQn;simp only[bT,al,aj];by_cases e1:h < af
  · rw[aS e1,if_pos (jg e1)];rfl
  by_cases e2:a < dl
  · rw[aQ e1,aS e2,if_pos (eI e2)];rfl
  rw[aQ e1,aQ e2,if_neg (by simp[e1,e2]),HF (d:=w.2.2.1) hw.2];simp only[al,ag,bq,abQ]
  have last:aJ (C3 ((w.2.1.length:Nat):Int) ((ks.length:Nat):Int)) (av (oM.out (7:Int))) (
          ao (za (w,m,ks,((ks.length:Nat):Int),(0:Int))) λx4=>
          aJ (x4.isLeft) (ao (x4.getLeft?) λa5=>av (oM.out (7:Int))) (ao (x4.getRight?) λb6=>av (oM.out (0:Int))))=av (oM.out (if w.2.1.length≠ks.length then 7 else if vE m ks w.2.1 then 0 else 7)):=by
    by_cases e3:w.2.1.length=ks.length
    · rw[dN aq,if_neg (by simp[e3]),al,anJ (d:=(w,m,ks,ks.length,0)) ⟨hw,hm,aQo,by show ks.length<=1000000000;omega,e3,rfl,0,aq,rfl⟩]
      simp only[ag,mU,ri,aT,ay];cases vE m ks w.2.1 <;> rfl
    · rw[fH aq,if_pos e3];rfl
  by_cases e4:sc=0
  · rw[dN e4,if_neg (by simp[e4]),al]
    exact last
  · rw[fH e4,aj]
    by_cases e5:gb w.2.2.1=sc
    · rw[dN e5,if_neg (by simp[e5]),al]
      exact last
    · rw[fH e5,if_pos ⟨e4,e5⟩];rfl
theorem aEH:oM.RS:=rE [.d P9,.d ap9,.d tB,.d ti,.d ti] oM
def aK3:=oM.eY aK2 1 ⟨.e7 asu,trivial⟩
def axT:Bs->Prop:=λl=>l.length<=1000000
def Uh:Bs->Bs:=λl=>l
def Gp:Fs Tryz.prog axT bq Uh:=eV 128 Tryz.f128 (λsv=>([.d tU sv],[])) (λx=>⟨.d tU x,[],[]⟩) [av tU] [] {cg:=[5],res:=[av tU]}
theorem aFl(sv)(k:K1 R):Gp.A sv k=aJ (decide (0 < (ae sv))) (aJ (cZ (0+(ae sv)) 8) (aJ (decide (0=0/\(0+(0+(ae sv)))<=(ae ((aM 0 (ai 0 0))++sv)))) (k (Gp.out (cut ((aM 0 (ai 0 0))++sv) 0 (0+(ae sv))))) aH) aH) (nd (k (Gp.out ([]:List Int))) (aJ (cZ (0+(ae sv)) 8) (aJ (decide (0=0/\(0+(0+(ae sv)))<=(ae ((aM 0 (ai 0 0))++sv)))) (k (Gp.out (cut ((aM 0 (ai 0 0))++sv) 0 (0+(ae sv))))) aH) aH)):=cd
theorem aFm:Gp.Ok:=by
 intro l hl;have hl:l.length<=1000000:=hl;have hr:cZ l.length 8=bm:=cM aq aq;have e0:(aM 0 (ai 0 0):List Int)=[]:=rfl;rw[aFl];simp only[aV,hr,aj,e0,aY,az,gm,b8,ea,bq,Uh];by_cases h:0 < l.length
 ·simp only[aX h,aj]
 ·have:l=[]:=bJ aq;subst this;simp only[bp,E3,bo (iI 0),al]
theorem aeD:Gp.RS:=rE [.d tU] Gp
def akJ:=Gp.eY aFm
def ot(o:List Int)(ks:List Int):List Int:=ks.foldl (λo p=>o++jo p) o
def aHM(o:List Int)(b:nR):List Int:=cQ (cQ (ot (cQ o b.1.length) b.1) b.2.1) b.2.2.1++jo b.2.2.2.1
def Rc(l:Lk):List Int:=if lI l then l.1.foldl aHM (cQ [] l.1.length) else []
theorem Oj:∀(ks:List Int) (o:List Int),(ot o ks).length=o.length+8*ks.length
 |[],o=>rfl
 |k::ks,o=>by show(ot (o++jo k) ks).length=_;rw[Oj ks,ak,cv,aF];omega
theorem amn(o:List Int)(b:nR)(h:b.1.length<=12):(aHM o b).length<=o.length+200:=by unfold aHM;have h1:=dT o b.1.length;have h2:=Oj b.1 (cQ o b.1.length);have h3:=dT (ot (cQ o b.1.length) b.1) b.2.1;have h4:=dT (cQ (ot (cQ o b.1.length) b.1) b.2.1) b.2.2.1;rw[ak,cv];omega
def aO8(n:Int):Prop:=n<=9223372036854775807
def aWC(b:nR):Prop:=b.1.length<=12/\aO8 b.2.1/\aO8 b.2.2.1
theorem aUc{b:nR}(h:xX b=bm):aWC b:=by unfold xX WO at h;simp only[aw,bt]at h;obtain⟨h1,_,h2,h3,_⟩:=h;exact⟨h1,by unfold aO8;omega,by unfold aO8;omega⟩
theorem adC(o:List Int)(ks:List Int)(k:Nat)(h:k < ks.length):ot o (ks.drop k)=ot (o++jo ks[k]) (ks.drop (k+1)):=by rw[au h];rfl
abbrev Y2:=Bs×(List nR)×Int×Int
abbrev LA:=Bs×(List nR)×Int×Int×Bs×Int×Int×nR
def y8:LA->Bs->(((List nR)×Int×Int×nR)×(Bs)):=λ(yr,Es,agX,agY,t28,t29,t30,n5) y=>((Es,agX,agY,n5),y)
def ah2:LA->Prop:=λ(o,bs,n,i,ks,m,j,b)=>ks.length<=12/\o.length+8*ks.length<=80000000+8*j.toNat/\m=ks.length/\∃k:Nat,k<=ks.length/\j=k
def E0:LA->Bs:=λ(o,bs,n,i,ks,m,j,b)=>ot o (ks.drop j.toNat)
def ah0:Y2->Prop:=λ(o,bs,n,i)=>(∀b∈bs,aWC b)/\bs.length<=4/\o.length<=1000+200*i.toNat/\n=bs.length/\∃k:Nat,k<=bs.length/\i=k
def Ly:Y2->Bs:=λ(o,bs,n,i)=>(bs.drop i.toNat).foldl aHM o
def axe:Lk->Prop:=λl=>abu l/\l.1.length<=9223372036854775807
def TS:Lk->Bs:=λl=>Rc l
def sy:Ls ah0 bq Ly:=pD (λ(outv,t16,t17,t18)=>⟨([bE,bE,bE,.d tB outv]++aW 12 ([.d (.slice jE) t16,.d ti t17,.d ti t18]++aW 31 [])),[],(ai 50 [])⟩) (λx=>(.exit 0,⟨([bE,bE,bE,.d tB x]++aW 46 []),[],(ai 50 [])⟩))
def sz:Ls ah2 y8 E0:=pD (λ(yr,Es,agX,agY,t28,t29,t30,n5)=>⟨([bE,bE,bE,.d tB yr,bE,eP 5]++aW 10 ([.d (.slice jE) Es,.d ti agX,.d ti agY]++aW 9 ([.d tU t28,.d ti t29,.d ti t30]++aW 19 []))),[],(bw 5 ([dm (.d jE n5)]++bw 44 []))⟩) (λx=>(.exit 2,⟨([bE,bE,bE,.d tB x.2,bE,eP 5]++aW 10 ([.d (.slice jE) x.1.1,.d ti x.1.2.1,.d ti x.1.2.2.1]++aW 31 [])),[],(bw 5 ([dm (.d jE x.1.2.2.2)]++bw 44 []))⟩))
def vn:Fs Tryz.prog axe bq TS:=eV 180 Tryz.f180 (λl=>([.d P9 l],[])) (λx=>⟨.d tB x,[],[]⟩) [av P9] [Hy,abA,are] {loops:=lz [(5,{bg:=[3,16,17,18]}),(9,{bg:=[3,5,16,17,18,28,29,30],sites:=[5]})],outs:=lu [(5,{bg:=[3]},{bg:=[2]}),(9,{bg:=[3,5,16,17,18],sites:=[5]},{bg:=[2]})],fa:=mc [(5,sy.E),(9,sz.E)],res:=[av tB]}
theorem ah1:sy.RS:=rL [.d tB,.d (.slice jE),.d ti,.d ti] sy
theorem Lz(outv t16 t17 t18)(kn:K2 R)(kx:K3 R):vn.R 0 sy (outv,t16,t17,t18) kn kx=aJ (fv t18 t17) (aJ (eA t18 (t16.length:Int)) (ao (Dr.call (outv,(((ae (nth jE t16 (ab t18)).1):Nat):Int))) λx1=>ao (sz.call (x1,t16,t17,t18,(nth jE t16 (ab t18)).1,(((ae (nth jE t16 (ab t18)).1):Nat):Int),0,(nth jE t16 (ab t18)))) λx2=>ao (Dr.call (x2.2,x2.1.2.2.2.2.1)) λx3=>ao (Dr.call (x3,x2.1.2.2.2.2.2.1)) λx4=>ao (Lc.call (x4,x2.1.2.2.2.2.2.2.1)) λx5=>kn (sy.st (x5,x2.1.1,x2.1.2.1,(bz .i64 x2.1.2.2.1 1)))) aH) (sy.go kx outv):=cd
theorem ah3:sz.RS:=rL [.d tB,.d (.slice jE),.d ti,.d ti,.d tU,.d ti,.d ti,.d jE] sz
theorem LB(yr Es agX agY t28 t29 t30 n5)(kn:K2 R)(kx:K3 R):vn.R 1 sz (yr,Es,agX,agY,t28,t29,t30,n5) kn kx=aJ (fv t30 t29) (aJ (eA t30 (t28.length:Int)) (ao (Lc.call (yr,(nth tu t28 (ab t30)))) λx1=>kn (sz.st (x1,Es,agX,agY,t28,t29,(bz .i64 t30 1),n5))) aH) (sz.go kx ((Es,agX,agY,n5),yr)):=cd
theorem aEy(l)(k:K1 R):vn.A l k=ao (rn.call l) λx1=>aJ (!x1) (k (vn.out ([]:List Int))) (ao (Dr.call (([]:List Int),(l.1.length:Int))) λx2=>ao (sy.call (x2,l.1,(l.1.length:Int),0)) λx9=>k (vn.out x9)):=cd
theorem anD:(vn.jx 1 sz):=by
 refine(vn.mf 1 sz) (λ(o,bs,n,i,ks,m,j,b)=>ks.length - j.toNat) ?_
 rintro⟨o,bs,n,i,ks,m,j,b⟩ ⟨aUO,hl,rfl,k,hk,rfl⟩;have aUO:ks.length<=12:=aUO;have hk:k<=ks.length:=hk;have hl:o.length+8*ks.length<=80000000+8*(k:Int).toNat:=hl;rw[aa]at hl;by_cases h:k < ks.length
 ·left;have n1:nth (.int .u64) ks k=ks[k]:=bY (t:= .int .u64) h;refine⟨(o++jo ks[k],bs,n,i,ks,ks.length,((k+1:Nat):Int),b),⟨aUO,by rw[ak,cv,aa];omega,rfl,k+1,aq,rfl⟩,by simp only[aa];omega,?_,λkn kx=> ?_⟩
  ·simp only[y8,E0,aa];rw[adC _ _ _ h]
  ·rw[LB];simp(disch:=omega) only[↓S1,↓if_pos,↓if_neg,if_pos,if_neg,bO,bC,S2,n1];rw[Hp (d:=(o,ks[k])) (by show o.length<=90000000;omega)];rfl
 ·right;obtain rfl:k=ks.length:=aq;intro R kn kx;rw[LB];simp(disch:=omega) only[↓S1,↓if_pos,↓if_neg,if_pos,if_neg,bO,bC,S2,y8,E0,aI];rfl
theorem anC:(vn.jx 0 sy):=by
 refine(vn.mf 0 sy) (λ(o,bs,n,i)=>bs.length - i.toNat) ?_
 rintro⟨o,bs,n,i⟩ ⟨hb,h4,hl,rfl,k,hk,rfl⟩;have h4:bs.length<=4:=h4;have hk:k<=bs.length:=hk;have hl:o.length<=1000+200*(k:Int).toNat:=hl;rw[aa]at hl;by_cases h:k < bs.length
 ·left;have hx:=hb _ (aK h);have n1:nth (.pair (.slice (.int .u64)) (.pair (.int .i64) (.pair (.int .i64) (.pair (.int .u64) .unit)))) bs k=bs[k]:=bY (t:=(.pair (.slice (.int .u64)) (.pair (.int .i64) (.pair (.int .i64) (.pair (.int .u64) .unit))))) h;have e0:=amn o bs[k] hx.1;refine⟨(aHM o bs[k],bs,bs.length,((k+1:Nat):Int)),⟨hb,h4,by rw[aa];omega,rfl,k+1,aq,rfl⟩,by simp only[aa];omega,?_,λkn kx=> ?_⟩
  ·simp only[bq,Ly,aa];rw[au h];rfl
  ·rw[Lz,aS aq,ba aq aq,aa,n1];obtain⟨⟨ks,af,dl,sc,u⟩,aQk⟩:∃b,bs[k]=b:=⟨_,rfl⟩;rw[aQk]at hx e0 ⊢;obtain⟨wD,ha,hd⟩:=hx;have wD:ks.length<=12:=wD;have ha:af<=9223372036854775807:=ha;have hd:dl<=9223372036854775807:=hd;have l1:=dT o ks.length;have l2:=Oj ks (cQ o ks.length);have l3:=dT (ot (cQ o ks.length) ks) af;have l4:=dT (cQ (ot (cQ o ks.length) ks) af) dl;simp only[aj];rw[ki (d:=(o,(ks.length:Int))) ⟨by show o.length<=90000000;omega,by show(ks.length:Int)<=9223372036854775807;omega⟩];simp only[ag,bq,qT];rw[ah3 (d:=(cQ o ks.length,bs,bs.length,k,ks,ks.length,0,(ks,af,dl,sc,u))) ⟨wD,by show(cQ o ks.length).length+8*ks.length<=_;omega,rfl,0,aq,rfl⟩];simp only[ag,y8,E0,aT,ay];rw[ki (d:=(ot (cQ o ks.length) ks,af)) ⟨by show(ot (cQ o ks.length) ks).length<=90000000;omega,ha⟩];simp only[ag,bq,qT];rw[ki (d:=(cQ (ot (cQ o ks.length) ks) af,dl)) ⟨by show(cQ (ot (cQ o ks.length) ks) af).length<=90000000;omega,hd⟩];simp only[ag,bq,qT];rw[Hp (d:=(cQ (cQ (ot (cQ o ks.length) ks) af) dl,sc)) (by show(cQ (cQ (ot (cQ o ks.length) ks) af) dl).length<=90000000;omega)];simp only[ag,bq,S3];rw[N.jL aq];rfl
 ·right;obtain rfl:k=bs.length:=aq;intro R kn kx;rw[Lz];simp(disch:=omega) only[↓S1,↓if_pos,↓if_neg,if_pos,if_neg,bO,bC,S2,bq,Ly,aI];rfl
theorem axk{l:Lk}(h:lI l=bm):(∀b∈l.1,aWC b)/\0 < l.1.length/\l.1.length<=4:=by unfold lI at h;simp only[aw,dr,bt]at h;exact⟨λb hb=>aUc (h.1 b hb),h.2⟩
theorem aEz:vn.Ok:=by
 rintro l ⟨hl,hb⟩;have hl:abu l:=hl;rw[aEy,DM (d:=l) ⟨hl,hb⟩];simp only[ag,bq,Hx,bq,TS,Rc];cases gX:lI l
 ·rfl
 ·obtain⟨h1,h2,h3⟩:=axk gX;have l1:=dT [] l.1.length;have l0:([]:List Int).length=0:=rfl;simp only[bT,al,bO];rw[ki (d:=([],(l.1.length:Int))) ⟨by show([]:List Int).length<=90000000;omega,by show(l.1.length:Int)<=9223372036854775807;omega⟩];simp only[ag,bq,qT];rw[ah1 (d:=(cQ [] l.1.length,l.1,l.1.length,0)) ⟨h1,h3,by show(cQ [] l.1.length).length<=_;omega,rfl,0,aq,rfl⟩];rfl
theorem Ol(l:Lk):(Rc l).length<=1000:=by
 unfold Rc;split
 ·rename_i h;obtain⟨h1,h2,h3⟩:=axk h;have key:∀(bs:List nR) (o:List Int),(∀b∈bs,aWC b)->(bs.foldl aHM o).length<=o.length+200*bs.length:=by
   intro bs
   induction bs with
   |nil=>intro o _;exact az _
   |cons b bs ih=>
    intro o hb;have e1:=ih (aHM o b) λx hx=>hb x (aP _ hx)
    have e2:=amn o b (hb b aU).1;rw[bn,aF];omega
  have e:=key l.1 (cQ [] l.1.length) h1;have e2:=dT [] l.1.length;have l0:([]:List Int).length=0:=rfl;omega
 ·exact aL _
theorem adE:vn.RS:=rE [.d P9] vn
def akm:=vn.eY aEz 2 ⟨.e7 anC,⟨.e7 anD,trivial⟩⟩
theorem gN{a b:List Int}(ha:Bytes a)(hb:Bytes b):Bytes (a++b):=λx hx=>by
 rcases bR.1 hx with h | h
 ·exact ha x h
 ·exact hb x h
theorem agw:∀(f:Nat) (n:Int),0<=n->n < 128^(f+1)->Bytes (gW f n).1/\ab0 (gW f n).2
 | 0,n,h0,h1=>by have h1:n < 128:=h1;exact⟨λx hx=>(by cases hx),h0,by show n < 256;omega⟩
 |f+1,n,h0,h1=>by
  have e:(128:Int)^(f+1+1)=128^(f+1)*128:=gj 128 (f+1);rw[gW];split
  ·have ih:=agw f (n / 128) aq aq;refine⟨λx hx=> ?_,ih.2⟩;rcases cq.1 hx with rfl | hx
   ·exact⟨aq,aq⟩
   ·exact ih.1 x hx
  ·exact⟨λx hx=>(by cases hx),h0,by show n < 256;omega⟩
theorem mz{n:Int}(h:Ku n):Bytes (gO n):=by have e10:(128:Int)^(10+1)=151115727451828646838272:=rfl;obtain⟨h0,h1⟩:=h;have:=agw 10 n h0 (by rw[e10];omega);unfold gO;exact gN this.1 λx hx=>by rw[bB]at hx;subst hx;exact this.2
theorem asj:∀(ks:List Int) (o:List Int),ot o ks=o++ks.flatMap jo
 |[],o=>by rw[rX,bK];rfl
 |k::ks,o=>by show ot (o++jo k) ks=_;rw[asj ks,dK,aO]
theorem axd(ks:List Int):Bytes (ks.flatMap jo):=λx hx=>by obtain⟨k,_,hk⟩:=jm.1 hx;exact Hm k x hk
def aOX(b:nR):List Int:=gO b.1.length++(b.1.flatMap jo++(gO b.2.1++(gO b.2.2.1++jo b.2.2.2.1)))
theorem abT(o:List Int){n:Int}(h:0<=n):cQ o n=o++gO n:=by rw[cQ,if_neg aq]
structure aTS(b:nR):Prop where
 len:b.1.length<=12
 af:Ku b.2.1
 dl:Ku b.2.2.1
theorem aUd{b:nR}(h:xX b=bm):aTS b:=by unfold xX WO at h;simp only[aw,bt]at h;obtain⟨h1,_,h2,h3,_⟩:=h;exact⟨h1,⟨h2.1,aq⟩,⟨h3.1,aq⟩⟩
theorem xe{n:Nat}(h:n<=1000000000):Ku (n:Int):=⟨aq,aq⟩
theorem aUb(o:List Int){b:nR}(h:aTS b):aHM o b=o++aOX b:=by unfold aHM aOX;rw[abT _ (ig _),asj,abT _ h.af.1,abT _ h.dl.1];simp only[aO]
theorem aAG:∀(bs:List nR) (o:List Int),(∀b∈bs,aTS b)->bs.foldl aHM o=o++bs.flatMap aOX
 |[],o,_=>by rw[rX,bK];rfl
 |b::bs,o,h=>by rw[bn,aUb o (h b aU),aAG bs _ λx hx=>h x (aP _ hx),dK,aO]
theorem axl{l:Lk}(h:lI l=bm):(∀b∈l.1,aTS b)/\0 < l.1.length/\l.1.length<=4:=by unfold lI at h;simp only[aw,dr,bt]at h;exact⟨λb hb=>aUd (h.1 b hb),h.2⟩
theorem aKU{l:Lk}(h:lI l=bm):Rc l=gO l.1.length++l.1.flatMap aOX:=by unfold Rc;rw[if_pos h,aAG _ _ (axl h).1,abT _ (ig _),aY]
theorem aDc{b:nR}(h:aTS b):Bytes (aOX b):=
 have wD:=h.len
 gN (mz (xe aq)) (gN (axd _) (gN (mz h.af) (gN (mz h.dl) (Hm _))))
theorem aEC(l:Lk):Bytes (Rc l):=by
 cases h:lI l
 ·unfold Rc;rw[h,if_neg eX];exact λx hx=>(by cases hx)
 ·have hk:=axl h;rw[aKU h];refine gN (mz (xe aq)) λx hx=> ?_
  obtain⟨b,hb,hx⟩:=jm.1 hx;exact aDc (hk.1 b hb) x hx
theorem azg{b:List Int}(h:Bytes b)(hl:b.length<=1000000000)(u:Bool×Unit):tI (b,u):=⟨hl,h⟩
abbrev Hg:=Bs×Bs×Int×Int
def u5:Hg->AS:=λ(azH,azI,t12,t13)=>⟨([.d tB azH,.d tB azI]++aW 10 ([.d ti t12,.d ti t13]++aW 12 [])),[],(ai 26 [])⟩
def vM:Unit->Exit×AS:=λx=>(.ret,⟨(aW 4 ([.d .bool aZ]++aW 21 [])),[],(ai 26 [])⟩)
def EH:Unit->Exit×AS:=λx=>(.exit 0,⟨(aW 26 []),[],(ai 26 [])⟩)
abbrev Wp:=(Unit)⊕(Unit)
abbrev ajA:=(Unit)⊕(Unit)
def KO:Wp->Out (Exit×AS):=λx=> .br x.isLeft (.get x.getLeft? λa=> .ok (vM a)) (.get x.getRight? λb=> .ok (EH b))
def oH:Hg->ajA->Wp:=λ(azH,azI,t12,t13) y=>match y with | .inl y=> .inl y | .inr z=> .inr (z)
def EG:Hg->Prop:=λ(a,b,m,i)=>a.length<=1000000000/\a.length=b.length/\m=a.length/\∃k:Nat,k<=a.length/\i=k
def vK:Hg->ajA:=λ(a,b,m,i)=>if a.drop i.toNat=b.drop i.toNat then .inr () else .inl ()
def aId:(Bs×Bs)->Prop:=λ(a,b)=>a.length<=1000000000
def av2:(Bs×Bs)->Bool:=λ(a,b)=>decide (a=b)
def ajz:=dB.e7 u5 EG oH vK KO
def Sw:Hg->Option Wp:=fS ajz u5
def Wn:Fs Tryz.prog aId bq av2:=eV 267 Tryz.f267 (λ(s1,s2)=>([.d tB s1,.d tB s2],[])) (λx=>⟨.d .bool x,[],[]⟩) [av tB,av tB] [] {loops:=lz [(4,{bg:=[0,1,12,13]})],outs:=lu [(4,{},{bg:=[4]})],fa:=mc [(4,ajz)]}
def Wo:= @ej Tryz.prog (jr Wn.G) Wn.an 0 Tryz.f267 0 _ u5
abbrev acb:=jj Tryz.prog (jr Wn.G) Wn.an 0 Tryz.f267 0 u5 EG oH vK KO
theorem aqv:ik Sw EG oH vK:=jX (jA [.d tB,.d tB,.d ti,.d ti] λ_=>cd)
theorem Wq:ma @Wo u5 EG oH vK KO acb:=mJ
theorem Sx(azH azI t12 t13)(kn:K2 R)(kx:K3 R):Wo (azH,azI,t12,t13) kn kx=aJ (fv t13 t12) (aJ (eA t13 (((ae azH):Nat):Int)) (aJ (eA t13 (((ae azI):Nat):Int)) (aJ (C3 (nth tb azH (ab t13)) (nth tb azI (ab t13))) (kx (vM ()).1 (vM ()).2) (kn (u5 (azH,azI,t12,(bz .i64 t13 (1:Int)))))) aH) aH) (kx (EH ()).1 (EH ()).2):=cd
theorem aPm(s1 s2)(k:K1 R):Wn.A (s1,s2) k=aJ (C3 (s1.length:Int) (s2.length:Int)) (k (Wn.out aZ)) (ao (Sw (s1,s2,(s1.length:Int),0)) λx1=>aJ x1.isLeft (ao x1.getLeft? λa2=>k (Wn.out aZ)) (ao x1.getRight? λb3=>k (Wn.out bm))):=cd
theorem av3:acb:=by
 refine Wq (λ(a,b,m,i)=>a.length - i.toNat) ?_
 rintro⟨a,b,m,i⟩ ⟨hl,ap4,rfl,k,hk,rfl⟩;have hl:a.length<=1000000000:=hl;have ap4:a.length=b.length:=ap4;have hk:k<=a.length:=hk;by_cases h:k < a.length
 ·have h2:k < b.length:=aq;have n1:nth (.int .u8) a k=a[k]:=bY (t:=(.int .u8)) h;have n2:nth (.int .u8) b k=b[k]:=bY (t:=(.int .u8)) h2;have hd:(a.drop k=b.drop k)=(a[k]=b[k]/\a.drop (k+1)=b.drop (k+1)):=by rw[au h,au h2,cR]
  have step:∀ {R:Type} (kn:AS->Option R) (kx:Exit->AS->Option R),Wo (a,b,(a.length:Int),(k:Int)) kn kx=if a[k]=b[k] then kn (u5 (a,b,(a.length:Int),((k+1:Nat):Int))) else kx (vM ()).1 (vM ()).2:=by
   intro R kn kx;rw[Sx,aS aq,ba aq aq,ba aq aq,aa,n1,n2,N.jL aq];simp only[aj];by_cases hx:a[k]=b[k]
   ·rw[dN hx,if_pos hx];rfl
   ·rw[fH hx,if_neg hx];rfl
  by_cases hx:a[k]=b[k]
  ·left;refine⟨(a,b,(a.length:Int),((k+1:Nat):Int)),⟨hl,ap4,rfl,k+1,aq,rfl⟩,by simp only[aa];omega,?_,λkn kx=> ?_⟩
   ·simp only[oH,vK,aa,hd,hx,lT]
   ·rw[step,if_pos hx]
  ·right;refine⟨vM (),?_,λkn kx=> ?_⟩
   ·simp only[oH,vK,aa,hd,hx,false_and,bC];rfl
   ·rw[step,if_neg hx]
 ·right;obtain rfl:k=a.length:=aq;refine⟨EH (),?_,λkn kx=> ?_⟩
  ·simp only[oH,vK,aa,aI];rw[ap4,aI,if_pos rfl];rfl
  ·rw[Sx,aQ aq,al]
theorem aPn:Wn.Ok:=by
 rintro⟨a,b⟩ hl;have hl:a.length<=1000000000:=hl;rw[aPm];simp only[bq,av2];by_cases h:a.length=b.length
 ·rw[dN aq,al,aqv (d:=(a,b,(a.length:Int),0)) ⟨hl,h,rfl,0,aL _,rfl⟩];simp only[ag,oH,vK,aT,ay];by_cases hx:a=b
  ·rw[if_pos hx,aX hx];rfl
  ·rw[if_neg hx,bo hx];rfl
 ·rw[fH aq,bo (λx=>h (by rw[x]))];rfl
theorem aIe:Wn.RS:=rE [.d tB,.d tB] Wn
def aPo:=Wn.eY aPn 1 ⟨.e7 av3,trivial⟩
def vV:Nat->ij->List Int×ij
 | 0,r=>([],r)
 |k+1,r=>((uh r).1::(vV k (uh r).2).1,(vV k (uh r).2).2)
def Hj(k:Nat)(r:ij):nR×ij:=(((vV k r).1,(eh (vV k r).2).1,(eh (eh (vV k r).2).2).1,(uh (eh (eh (vV k r).2).2).2).1,()),(uh (eh (eh (vV k r).2).2).2).2)
def Hk:Nat->Int->ij->List nR
 | 0,_,_=> []
 |f+1,n,r=>if 0 < n then(if f=0\/12 < (eh r).1 then [] else(Hj (eh r).1.toNat (eh r).2).1::Hk f (n - 1) (Hj (eh r).1.toNat (eh r).2).2) else []
def wo(b:List Int):List nR:=Hk 5 (eh (b,aZ,())).1 (eh (b,aZ,())).2
theorem anA:∀(k:Nat) (r:ij),tI r->EE (vV k r).1/\(vV k r).1.length=k/\tI (vV k r).2
 | 0,r,h=>⟨λx hx=>(by cases hx),rfl,h⟩
 |k+1,r,h=>by
  have e:=Yb h;have ih:=anA k _ e.2;refine⟨λx hx=> ?_,by rw[vV,aF,ih.2.1],ih.2.2⟩;rcases cq.1 hx with rfl | hx
  ·exact e.1
  ·exact ih.1 x hx
theorem aAE(k:Nat)(r:ij)(h:tI r):aHL (Hj k r).1/\(Hj k r).1.1.length=k/\tI (Hj k r).2:=by have h1:=anA k r h;have h2:=uu h1.2.2;have h3:=uu h2.2.2;have h4:=Yb h3.2.2;exact⟨⟨h1.1,h4.1⟩,h1.2.1,h4.2⟩
theorem aIE:∀(f:Nat) (n:Int) (r:ij),tI r->(∀b∈Hk f n r,aHL b)/\(Hk f n r).length<=f
 | 0,n,r,h=>⟨λx hx=>(by cases hx),az _⟩
 |f+1,n,r,h=>by
  have h1:=uu h;have h2:=aAE (eh r).1.toNat _ h1.2.2;have ih:=aIE f (n - 1) _ h2.2.2;rw[Hk];split
  ·split
   ·exact⟨λx hx=>(by cases hx),aL _⟩
   ·refine⟨λx hx=> ?_,by rw[aF];omega⟩;rcases cq.1 hx with rfl | hx
    ·exact h2.1
    ·exact ih.1 x hx
  ·exact⟨λx hx=>(by cases hx),aL _⟩
theorem aB8{b:List Int}(h:Bytes b)(hl:b.length<=1000000000):abu (wo b,())/\(wo b).length<=5:=by have e:=aIE 5 (eh (b,aZ,())).1 _ (uu (azg h hl (aZ,()))).2.2;exact⟨e.1,e.2⟩
theorem akl:∀(ks:List Int) (rest:List Int),EE ks->vV ks.length (ks.flatMap jo++rest,aZ,())=(ks,(rest,aZ,()))
 |[],rest,_=>rfl
 |k::ks,rest,h=>by
  have e:uh ((k::ks).flatMap jo++rest,aZ,())=(k,(ks.flatMap jo++rest,aZ,())):=by rw[dK,aO];exact NP k (h k aU) _
  have ih:=akl ks rest λx hx=>h x (aP _ hx)
  rw[aF,vV,e,ih]
theorem aC8(b:nR)(hb:aHL b)(hk:aTS b)(rest:List Int):Hj b.1.length (b.1.flatMap jo++(gO b.2.1++(gO b.2.2.1++(jo b.2.2.2.1++rest))),aZ,())=(b,(rest,aZ,())):=by unfold Hj;rw[akl _ _ hb.1];simp only[];rw[LR _ hk.af,LR _ hk.dl,NP _ hb.2]
theorem aID(b:nR)(rest:List Int):aOX b++rest=gO b.1.length++(b.1.flatMap jo++(gO b.2.1++(gO b.2.2.1++(jo b.2.2.2.1++rest)))):=by unfold aOX;simp only[aO]
theorem aqP:∀(bs:List nR) (f:Nat) (rest:List Int),(∀b∈bs,aHL b)->(∀b∈bs,aTS b)->bs.length+1<=f->Hk f bs.length (bs.flatMap aOX++rest,aZ,())=bs
 |[],0,rest,_,_,h=>absurd h (by simp)
 |[],f+1,rest,_,_,_=>by rw[Hk,if_neg (by show ¬(0:Int) < ((0:Nat):Int);omega)]
 |b::bs,0,rest,_,_,h=>absurd h (by simp)
 |b::bs,f+1,rest,hu,hk,h=>by
  have ub:=hu b aU;have kb:=hk b aU;have h:bs.length+1+1<=f+1:=h;have e:(b::bs).flatMap aOX++rest=gO b.1.length++(b.1.flatMap jo++(gO b.2.1++(gO b.2.2.1++(jo b.2.2.2.1++(bs.flatMap aOX++rest))))):=by rw[dK,aO,aID]
  have wD:=kb.len;rw[Hk,if_pos (by rw[aF];omega),e,LR _ (xe aq)];simp only[aa];rw[if_neg aq,aC8 b ub kb];simp only[];rw[show((b::bs).length:Int) - 1=(bs.length:Int) by rw[aF];omega,aqP bs f rest (λx hx=>hu x (aP _ hx)) (λx hx=>hk x (aP _ hx)) aq]
theorem aGD{l:Lk}(hu:abu l)(gX:lI l=bm)(rest:List Int):wo (Rc l++rest)=l.1:=by have hk:=axl gX;unfold wo;rw[aKU gX,aO,LR _ (xe aq)];exact aqP l.1 5 rest hu hk.1 aq
def Kc(b:List Int):Lk×Bool:=if lI (wo b,())=bm/\Rc (wo b,())=b then((wo b,()),bm) else(([],()),aZ)
theorem aln{l:Lk}(hu:abu l)(gX:lI l=bm):Kc (Rc l)=(l,bm):=by
 have e:wo (Rc l)=l.1:=by have e:=aGD hu gX [];rw[bK]at e;exact e
 unfold Kc;rw[e];have e2:((l.1,()):Lk)=l:=rfl;rw[e2,if_pos ⟨gX,rfl⟩]
theorem aNi{b:List Int}(h:(Kc b).2=bm):∃l:Lk,lI l=bm/\Rc l=b/\Kc b=(l,bm)/\l=(wo b,()):=by
 unfold Kc at h ⊢;split at h
 ·rename_i hc;exact⟨(wo b,()),hc.1,hc.2,by rw[if_pos hc],rfl⟩
 ·cases h
abbrev adM:=Bs×Int×Int×Nat×ij×(List nR)
abbrev Rg:=Bs×Int×Int×Int×Int×Nat×Nat×(Int×(Int×(Int×Unit)))×ij×(List Int)×(List nR)
abbrev adN:=Nat×ij×(List Int)
def Ch:Rg->adN->((Bs×Int×Int×Nat×(Int×(Int×(Int×Unit)))×(List nR))×(Nat×ij×(List Int))):=λ(Wa,ze,fk,t27,t28,aek,aQ4,n8,aku,n35,aeh) y=>((Wa,ze,fk,aek,n8,aeh),y)
def anN:Rg->Prop:=λ(b,n,i,t,j,m1,m2,x,r,ks,bs)=>tI r/\ks.length=m2/\m2<=1000/\∃k c:Nat,j=k/\t=c/\k<=c/\c<=12/\m2=k
def IZ:Rg->adN:=λ(b,n,i,t,j,m1,m2,x,r,ks,bs)=>(m2+(t - j).toNat,(vV (t - j).toNat r).2,ks++(vV (t - j).toNat r).1)
def anL:adM->Prop:=λ(b,n,i,m,r,bs)=>tI r/\n<=9223372036854775807/\bs.length=m/\∃k:Nat,i=k/\k<=4/\m=k
def DL:adM->(Bs×Nat×(List nR)):=λ(b,n,i,m,r,bs)=>(b,m+(Hk (5 - i.toNat) (n - i) r).length,bs++Hk (5 - i.toNat) (n - i) r)
def aEI:Bs->Prop:=λb=>Bytes b/\b.length<=1000000000
def anK:Bs->(Lk×Bool):=λb=>Kc b
def rk:Ls anL bq DL:=pD (λ(eU,n,i,aVf,n11,n51)=>⟨([.d tB eU,bE,eP 2,bE,eP 11,eP 5,.d ti n,.d ti i]++aW 57 []),[],([[],[],dm (.pr (.dJ) gR),[],[],dm (.pr (jl 51 aVf) gR)]++bw 5 ([dm (.d wE n11)]++bw 39 ([dm (.vec 111 jE n51)]++bw 13 [])))⟩) (λx=>(.exit 0,⟨([.d tB x.1,bE,eP 2,bE,bE,eP 5]++aW 59 []),[],([[],[],dm (.pr (.dJ) gR),[],[],dm (.pr (jl 51 x.2.1) gR)]++bw 45 ([dm (.vec 111 jE x.2.2)]++bw 13 []))⟩))
def w9:Ls anN Ch IZ:=pD (λ(Wa,ze,fk,t27,t28,aek,aQ4,n8,aku,n35,aeh)=>⟨([.d tB Wa,bE,eP 2,bE,eP 11,eP 5,.d ti ze,.d ti fk,eP 8]++aW 18 ([.d ti t27,.d ti t28]++aW 36 [])),[],([[],[],dm (.pr (.dJ) gR),[],[],dm (.pr (jl 51 aek) gR),[],[],dm (.pr (jl 35 aQ4) (.d (.pair ti (.pair ti (.pair tu .unit))) n8)),[],[],dm (.d wE aku)]++bw 23 ([dm (.vec 109 tu n35)]++bw 15 ([dm (.vec 111 jE aeh)]++bw 13 [])))⟩) (λx=>(.exit 2,⟨([.d tB x.1.1,bE,eP 2,bE,eP 11,eP 5,.d ti x.1.2.1,.d ti x.1.2.2.1,eP 8]++aW 56 []),[],([[],[],dm (.pr (.dJ) gR),[],[],dm (.pr (jl 51 x.1.2.2.2.1) gR),[],[],dm (.pr (jl 35 x.2.1) (.d (.pair ti (.pair ti (.pair tu .unit))) x.1.2.2.2.2.1)),[],[],dm (.d wE x.2.2.1)]++bw 23 ([dm (.vec 109 tu x.2.2.2)]++bw 15 ([dm (.vec 111 jE x.1.2.2.2.2.2)]++bw 13 [])))⟩))
def DK:Fs Tryz.prog aEI bq anK:=eV 231 Tryz.f231 (λb=>([.d tB b],[])) (λx=>⟨.cons (.d P9 x.1) (.cons (.d .bool x.2) (.nil)),[],[]⟩) [av tB] [auw,abV,aCf,Hy,akm,aPo] {loops:=lz [(5,{bg:=[0,2,4,5,6,7],sites:=[2,5,11,51],owns:=[⟨5,[.fst],51,80⟩]}),(11,{bg:=[0,2,4,5,6,7,8,27,28],sites:=[2,5,8,11,35,51],owns:=[⟨8,[.fst],35,108⟩]})],outs:=lu [(5,{bg:=[0,2,5],sites:=[2,5,51]},{bg:=[2,3]}),(11,{bg:=[0,2,4,5,6,7,8],sites:=[2,5,8,11,35,51]},{bg:=[2,3]})],fa:=mc [(5,rk.E),(11,w9.E)],res:=[av P9,aH]}
theorem anM:rk.RS:=rL [.d tB,.d ti,.d ti,.n,.d wE,.d (.slice jE)] rk
theorem Gj(eU n i aVf n11 n51)(kn:K2 R)(kx:K3 R):DK.R 0 rk (eU,n,i,aVf,n11,n51) kn kx=aJ (fv i n) (ao (GZ.call n11) λQl=>aJ (Il i 4) (rk.go kx (eU,aVf,n51)) (aJ (xW Ql.1 12) (rk.go kx (eU,aVf,n51)) (ao (w9.call (eU,n,i,Ql.1,0,aVf,0,(0,(0,(0,()))),Ql.2,([]:List Int),n51)) λabr=>ao (GZ.call abr.2.2.1) λbbI=>ao (GZ.call bbI.2) λaTN=>ao (Vx.call aTN.2) λaTO=>aJ (decide (0=0/\(0+abr.2.1)<=(ae abr.2.2.2))) (aJ (decide (abr.1.2.2.2.1<=(ae abr.1.2.2.2.2.2))) (aJ (cZ (abr.1.2.2.2.1+1) 48) (kn (rk.st (abr.1.1,abr.1.2.1,(bz .i64 abr.1.2.2.1 1),(abr.1.2.2.2.1+1),aTO.2,((aM abr.1.2.2.2.1 abr.1.2.2.2.2.2)++ [((cut abr.2.2.2 0 abr.2.1),(bbI.1,(aTN.1,(aTO.1,abr.1.2.2.2.2.1.2.2.2))))])))) aH) aH) aH))) (rk.go kx (eU,aVf,n51)):=cd
theorem anO:w9.RS:=rL [.d tB,.d ti,.d ti,.d ti,.d ti,.n,.n,.d (.pair ti (.pair ti (.pair tu .unit))),.d wE,.d tU,.d (.slice jE)] w9
theorem Pv(Wa ze fk t27 t28 aek aQ4 n8 aku n35 aeh)(kn:K2 R)(kx:K3 R):DK.R 1 w9 (Wa,ze,fk,t27,t28,aek,aQ4,n8,aku,n35,aeh) kn kx=aJ (fv t28 t27) (ao (Vx.call aku) λx4=>aJ (decide (aQ4<=(ae n35))) (aJ (cZ (aQ4+1) 8) (kn (w9.st (Wa,ze,fk,t27,(bz .i64 t28 1),aek,(aQ4+1),n8,x4.2,((aM aQ4 n35)++ [x4.1]),aeh))) aH) aH) (w9.go kx ((Wa,ze,fk,aek,n8,aeh),(aQ4,aku,n35))):=cd
theorem aK4(b)(k:K1 R):DK.A b k=ao (aaf.call b) λx4=>ao (GZ.call x4) λx6=>ao (rk.call (b,x6.1,0,0,x6.2,([]:List nR))) λaHK=>aJ (decide (0=0/\(0+aHK.2.1)<=(ae aHK.2.2))) (ao (rn.call ((cut aHK.2.2 0 aHK.2.1),())) λbaG=>aJ (!baG) (k (DK.out ((([]:List nR),()),aZ))) (aJ (decide (0=0/\(0+aHK.2.1)<=(ae aHK.2.2))) (ao (vn.call ((cut aHK.2.2 0 aHK.2.1),())) λbaH=>ao (Wn.call (baH,aHK.1)) λbaI=>aJ (!baI) (k (DK.out ((([]:List nR),()),aZ))) (aJ (decide (0=0/\(0+aHK.2.1)<=(ae aHK.2.2))) (k (DK.out (((cut aHK.2.2 0 aHK.2.1),()),bm))) aH)) aH)) aH:=cd
theorem asw:(DK.jx 1 w9):=by
 refine(DK.mf 1 w9) (λ(b,n,i,t,j,m1,m2,x,r,ks,bs)=>(t - j).toNat) ?_
 rintro⟨b,n,i,t,j,m1,m2,x,r,ks,bs⟩ ⟨hr,aQo,hm,k,c,rfl,rfl,bc6,hc,aKn⟩;have hr:tI r:=hr;have aQo:ks.length=m2:=aQo;have aKn:m2=k:=aKn;by_cases h:k < c
 ·left;have e1:((c:Int) - (k:Int)).toNat=(c - (k+1))+1:=aq;have e2:((c:Int) - ((k+1:Nat):Int)).toNat=c - (k+1):=aq;refine⟨(b,n,i,(c:Int),((k+1:Nat):Int),m1,m2+1,x,(uh r).2,ks++ [(uh r).1],bs),⟨(Yb hr).2,by rw[ak];show ks.length+1=_;omega,aq,k+1,c,rfl,rfl,aq,hc,aq⟩,by show((c:Int) - ((k+1:Nat):Int)).toNat < ((c:Int) - (k:Int)).toNat;omega,?_,λkn kx=> ?_⟩
  ·simp only[Ch,IZ,e1,e2,vV,aO,cE];rw[show m2+1+(c - (k+1))=m2+(c - (k+1)+1) by omega]
  ·rw[Pv,aS aq,Ng (d:=r) hr];simp only[ag,aj,bq,X2];rw[aX aq,cM aq aq,N.jL aq,bu aq];rfl
 ·right;obtain rfl:k=c:=aq;intro R kn kx;rw[Pv,aQ aq,al];simp only[Ch,IZ,Int.sub_self,aT,vV,bK,cD]
theorem asv:(DK.jx 0 rk):=by
 refine(DK.mf 0 rk) (λ(b,n,i,m,r,bs)=>5 - i.toNat) ?_
 rintro⟨b,n,i,m,r,bs⟩ ⟨hr,hn,ba6,k,rfl,hk,aKn⟩;have hr:tI r:=hr;have hn:n<=9223372036854775807:=hn;have ba6:bs.length=m:=ba6;have aKn:m=k:=aKn;have e0:5 - (k:Int).toNat=(4 - k)+1:=by rw[aa];omega
 have g1:=uu hr;by_cases h:(k:Int) < n
 ·have hp:0 < n - (k:Int):=aq;by_cases hc:4 - k=0\/12 < (eh r).1
  ·right;intro R kn kx;have eb:Hk ((4 - k)+1) (n - (k:Int)) r=[]:=by rw[Hk,if_pos hp,if_pos hc]
   rw[Gj,aS h,rI (d:=r) hr];simp only[ag,aj,bq,yM,bq,DL,e0,eb,bp,cD,bK];by_cases h4:(k:Int)=4
   ·rw[mQ h4,aj]
   ·rw[j3 h4,al,dw aq,aj]
  ·left;have h4:¬(k:Int)=4:=aq;have aXo:¬(eh r).1 > 12:=aq;obtain⟨c,ba7⟩:∃c:Nat,(eh r).1=c:=⟨(eh r).1.toNat,aq⟩;have aEd:=aAE c _ g1.2.2;have gk:=anA c _ g1.2.2;have ga:=uu gk.2.2;have gd:=uu ga.2.2;have eb:Hk ((4 - k)+1) (n - (k:Int)) r=(Hj c (eh r).2).1::Hk (4 - k) (n - (k:Int) - 1) (Hj c (eh r).2).2:=by rw[Hk,if_pos hp,if_neg hc,ba7,aa]
   have e1:5 - ((k+1:Nat):Int).toNat=4 - k:=by rw[aa];omega
   refine⟨(b,n,((k+1:Nat):Int),m+1,(Hj c (eh r).2).2,bs++ [(Hj c (eh r).2).1]),⟨aEd.2.2,hn,by rw[ak];show bs.length+1=_;omega,k+1,rfl,aq,aq⟩,by simp only[aa];omega,?_,λkn kx=> ?_⟩
   ·simp only[bq,DL,e0,e1,eb,aO,cE,aF];rw[show n - ((k+1:Nat):Int)=n - (k:Int) - 1 by omega,show m+1+(Hk (4 - k) (n - (k:Int) - 1) (Hj c (eh r).2).2).length=m+((Hk (4 - k) (n - (k:Int) - 1) (Hj c (eh r).2).2).length+1) by omega]
   ·rw[Gj,aS h,rI (d:=r) hr];simp only[ag,aj,bq,yM];rw[j3 h4,al,cI aXo,al,ba7,anO (d:=(b,n,(k:Int),(c:Int),0,m,0,(0,0,0,()),(eh r).2,[],bs)) ⟨g1.2.2,rfl,eX,0,c,rfl,rfl,aL _,aq,rfl⟩];simp only[ag,Ch,IZ,rV,aa,aV,aY];rw[rI (d:=(vV c (eh r).2).2) gk.2.2];simp only[ag,bq,yM];rw[rI (d:=(eh (vV c (eh r).2).2).2) ga.2.2];simp only[ag,bq,yM];rw[Ng (d:=(eh (eh (vV c (eh r).2).2).2).2) gd.2.2];simp only[ag,bq,X2];rw[aX ⟨by trivial,by rw[gk.2.1];exact az _⟩,aX aq,cM aq aq,N.jL aq,bu aq,ea gk.2.1];rfl
 ·right;intro R kn kx;have eb:Hk ((4 - k)+1) (n - (k:Int)) r=[]:=by rw[Hk,if_neg aq]
  rw[Gj,aQ h,al];simp only[bq,DL,e0,eb,bp,cD,bK]
theorem aK5:DK.Ok:=by
 rintro b ⟨hb,hl⟩;have hb:Bytes b:=hb;have hl:b.length<=1000000000:=hl;have g0:=azg hb hl (aZ,());have g1:=uu g0;have gu:=aB8 hb hl;rw[aK4,alB (d:=b) hl];simp only[ag,bq,apc];rw[rI (d:=(b,aZ,())) g0];simp only[ag,bq,yM];rw[anM (d:=(b,(eh (b,aZ,())).1,0,0,(eh (b,aZ,())).2,[])) ⟨g1.2.2,g1.2.1,rfl,0,rfl,eX,rfl⟩];simp only[ag,bq,DL,aT,kr,rV,aV,aY,az,gm,b8,aj,ea];rw[show Hk 5 (eh (b,aZ,())).1 (eh (b,aZ,())).2=wo b from rfl];have hL1:((wo b,()):Lk).1.length<=1000000000:=by show(wo b).length<=_;omega
 rw[DM (d:=(wo b,())) ⟨gu.1,jy hL1 eX⟩];simp only[ag,bq,Hx,bq,anK,Kc];cases gX:lI (wo b,())
 ·rw[if_neg (by rintro⟨x,_⟩;cases x)];rfl
 ·rw[adE (d:=(wo b,())) ⟨gu.1,jy hL1 eX⟩];simp only[bT,al,ag,bq,TS];rw[aIe (d:=(Rc (wo b,()),b)) (by show(Rc _).length<=_;have:=Ol (wo b,());omega)];simp only[ag,bq,av2];by_cases hx:Rc (wo b,())=b
  ·rw[aX hx,if_pos ⟨by trivial,hx⟩];rfl
  ·rw[bo hx,if_neg (λy=>hx y.2)];rfl
theorem aEJ:DK.RS:=rE [.d tB] DK
def aK6:=DK.eY aK5 2 ⟨.e7 asv,⟨.e7 asw,trivial⟩⟩
theorem Uz(x:Int)(m:Int):∀k:Nat,(x%m)^k%m=x^k%m
 | 0=>by rw[mC,mC]
 |k+1=>by rw[gj,gj,iJ,Uz x m k,gD _ (pb m),<-iJ]
theorem aVP(a:Int)(k:Nat):(a*a)^k=a^(2*k):=by rw[Int.pow_mul,gj,gj,mC,Int.one_mul]
theorem aMG:∀(f:Nat) (a:Int) (n:Nat) (out:Int),n < 2^f->Pn out->ap8 f a n out=out*a^n%4611686018427377339
 | 0,a,n,out,h,ho=>by obtain rfl:n=0:=aq;rw[D7,mC,zY,eW ho.1 ho.2]
 |f+1,a,n,out,h,ho=>by
  have e:(2:Nat)^(f+1)=2^f*2:=Nat.pow_succ 2 f;rw[ap8];split
  ·rename_i h0;subst h0;rw[mC,zY,eW ho.1 ho.2]
  ·have hp:Pn (if n%2=1 then ln out a else out):=by
    split
    ·exact uq _ _
    ·exact ho
   rw[aMG f _ _ _ aq hp,iJ];have e1:(ln a a)^(n / 2)%4611686018427377339=a^(2*(n / 2))%4611686018427377339:=by unfold ln;rw[Uz,aVP]
   have e2:(if n%2=1 then ln out a else out)%4611686018427377339=(out*a^(n%2))%4611686018427377339:=by
    split
    ·rename_i h1;rw[h1,gj,mC,Int.one_mul];exact gD _ (pb _)
    ·have h1:n%2=0:=aq;rw[h1,mC,zY]
   rw[e1,e2,<-iJ,tG,<-Int.pow_add];have e3:n%2+2*(n / 2)=n:=aq;rw[e3]
theorem afb(a:Int)(n:Nat)(h:n < 18446744073709551616):pw a n=a^n%4611686018427377339:=by unfold pw;rw[aMG 64 a n 1 h ⟨aq,aq⟩,Int.one_mul]
theorem one_pow(k:Nat):(1:Int)^k=1:=Int.one_pow
theorem aMI(a:Int)(k q:Nat)(hk:k < 18446744073709551616)(hq:q < 18446744073709551616)(h:pw a q=1):pw (pw a k) q=1:=by rw[afb _ _ hq]at h;rw[afb _ _ hq,afb _ _ hk,Uz,<-Int.pow_mul,sh,Int.pow_mul,<-Uz,h,one_pow];rfl
theorem aj8:pw 4 2305843009213688669=1:=by decide+kernel
theorem aE7:pw 1 2305843009213688669=1:=by decide+kernel
theorem aQP:tA 4=bm:=by rw[tA,aj8];rfl
theorem IV:tA 1=bm:=by rw[tA,aE7];rfl
theorem aBt:aep 1=1:=by
 have e:pw 1 2305843009213688668=1:=by decide+kernel
 rw[aep,tk,IV];exact e
theorem aol{a:Int}(h:Pn a)(q:Nat)(hq:0 < q)(ake:q < 18446744073709551616)(hp:pw a q=1):0 < a:=by
 rcases Int.lt_or_eq_of_le h.1 with h0 | h0
 ·exact h0
 ·subst h0;rw[afb _ _ ake,Int.zero_pow aq]at hp;cases hp
theorem aU2{a:Int}(h:Pn a)(hp:pw a 2305843009213688669=1):tA a=bm:=by have h0:=aol h 2305843009213688669 eX eX hp;rw[tA,hp,lH ⟨h0,h.2⟩];rfl
theorem akk{a:Int}(h:tA a=bm):pw a 2305843009213688669=1/\Pn a:=by rw[tA,aw,bt,bt]at h;exact⟨h.2,aq,h.1.2⟩
theorem aU3{a:Int}(h:tA a=bm)(k:Nat)(hk:k < 18446744073709551616):tA (pw a k)=bm:=aU2 (afc _ _) (aMI a k _ hk eX (akk h).1)
theorem aU4(a:Int):tA (tk a)=bm:=by
 unfold tk;cases h:tA a
 ·exact IV
 ·exact h
theorem aEt(p k:Int):tA (xI p k)=bm:=aU3 (aU4 p) _ aq
theorem Qa{a:Int}(h:tA a=bm):tk a=a:=by rw[tk,h];rfl
theorem Lu(k:Int):tA (gb k)=bm:=aEt 4 k
theorem T5{a:Int}(h:Pn a):ln a 1=a:=by rw[ln,zY,eW h.1 h.2]
theorem aDo(r sc s:Int):(gb s=Er [r,sc,aep 1])=(Er [gb s,1]=Er [r,sc]):=by
 have e1:Er [gb s,1]=gb s:=by show ln (ln 1 (tk (gb s))) (tk 1)=_;rw[Qa (Lu s),Qa IV,T5 (uq _ _),ln,Int.one_mul];have h:=(akk (Lu s)).2;exact eW h.1 h.2
 have e2:Er [r,sc,aep 1]=Er [r,sc]:=by rw[aBt];show ln (ln (ln 1 (tk r)) (tk sc)) (tk 1)=ln (ln 1 (tk r)) (tk sc);rw[Qa IV,T5 (uq _ _)]
 rw[e1,e2]
def afM:(Int×Int×Int)->Prop:=λ(a,b,o)=>Pn a/\lG b/\Pn o
def Jo:(Int×Int×Int)->Int:=λ(a,b,o)=>(o+a*b)%4611686018427377339
def at3:(Int×Int)->Prop:=λ(a,b)=>Pn a/\lG b
def ak2:(Int×Int)->Int:=λ(a,b)=>ln a b
def nK:Ls afM bq Jo:=pD (λ(Dd,eU,outv)=>⟨([.d tu Dd,.d tu eU,bE,bE,bE,.d tu outv]++aW 16 []),[],(ai 22 [])⟩) (λx=>(.exit 0,⟨(aW 5 ([.d tu x]++aW 16 [])),[],(ai 22 [])⟩))
def sR:Fs Tryz.prog at3 bq ak2:=eV 268 Tryz.f268 (λ(a,b)=>([.d tu a,.d tu b],[])) (λx=>⟨.d tu x,[],[]⟩) [av tu,av tu] [] {loops:=lz [(2,{bg:=[0,1,5]})],outs:=lu [(2,{bg:=[5]},{bg:=[4]})],fa:=mc [(2,nK.E)]}
theorem afN:nK.RS:=rL [.d tu,.d tu,.d tu] nK
theorem Kb(Dd eU outv)(kn:K2 R)(kx:K3 R):sR.R 0 nK (Dd,eU,outv) kn kx=aJ (xW eU 0) (aJ (Il (kj eU 2) 1) (kn (nK.st ((kj (bz .u64 Dd Dd) 4611686018427377339),(wC .u64 eU 2),(kj (bz .u64 outv Dd) 4611686018427377339)))) (kn (nK.st ((kj (bz .u64 Dd Dd) 4611686018427377339),(wC .u64 eU 2),outv)))) (nK.go kx outv):=cd
theorem ayL(a b)(k:K1 R):sR.A (a,b) k=ao (nK.call (a,b,0)) λx1=>k (sR.out x1):=cd
theorem aEb(o a b:Int)(m:Int):(o+a*b)%m=((if b%2=1 then(o+a)%m else o)+(a+a)%m*(b / 2))%m:=by
 have e:b=2*(b / 2)+b%2:=aq;have hb:b%2=0\/b%2=1:=aq;generalize b / 2=q at*;have l1:∀x y:Int,(x%m+(a+a)%m*y)%m=(x+(a+a)*y)%m:=λx y=>by rw[pa,gD _ (pb m),iJ,gD _ (pb m),<-iJ,<-pa]
 have l2:∀x y:Int,(x+(a+a)%m*y)%m=(x+(a+a)*y)%m:=λx y=>by rw[pa,iJ,gD _ (pb m),<-iJ,<-pa]
 rcases hb with h | h
 ·rw[if_neg aq,l2];rw[h]at e;rw[e,Int.add_zero,Int.add_mul,<-tG,rT a 2,Int.two_mul,Int.add_mul]
 ·rw[if_pos h,l1];rw[h]at e;rw[e,Int.mul_add,zY,<-tG,rT a 2,Int.two_mul];congr 1;omega
theorem aTt{n:Int}(h:lG n):wC .u64 n 2=n / 2:=anz h.1 aq h.2
theorem aiO:(sR.jx 0 nK):=by
 refine(sR.mf 0 nK) (λ(a,b,o)=>b.toNat) ?_
 rintro⟨a,b,o⟩ ⟨ha,hb,ho⟩;have ha:Pn a:=ha;have hb:lG b:=hb;have ho:Pn o:=ho;obtain⟨a0,a1⟩:=ha;obtain⟨b0,b1⟩:=hb;obtain⟨o0,o1⟩:=ho;by_cases h:0 < b
 ·left;have e1:kj (bz .u64 a a) 4611686018427377339=(a+a)%4611686018427377339:=by
   have:bz .u64 a a=a+a:=by rw[sw];omega
   rw[this,uo aq]
  have e2:kj (bz .u64 o a) 4611686018427377339=(o+a)%4611686018427377339:=by
   have:bz .u64 o a=o+a:=by rw[sw];omega
   rw[this,uo aq]
  refine⟨((a+a)%4611686018427377339,b / 2,if b%2=1 then(o+a)%4611686018427377339 else o),⟨⟨aq,aq⟩,⟨aq,aq⟩,?_⟩,by simp only[];omega,?_,λkn kx=> ?_⟩
  ·show Pn (if b%2=1 then(o+a)%4611686018427377339 else o);split
   ·exact⟨aq,aq⟩
   ·exact⟨o0,o1⟩
  ·exact bW _ (aEb o a b 4611686018427377339).symm
  ·rw[Kb,dw h,e1,e2,aTt ⟨b0,b1⟩,uo b0];by_cases h1:b%2=1
   ·rw[mQ h1,if_pos h1];rfl
   ·rw[j3 h1,if_neg h1];rfl
 ·right;intro R kn kx;obtain rfl:b=0:=aq;rw[Kb,cI aq];simp only[al,bq,Jo];rw[show(o+a*0)%4611686018427377339=o by omega]
theorem ayM:sR.Ok:=by rintro⟨a,b⟩ ⟨ha,hb⟩;rw[ayL,afN (d:=(a,b,0)) ⟨ha,hb,aq,aq⟩];simp only[ag,bq,Jo,mD];rfl
theorem MP:sR.RS:=rE [.d tu,.d tu] sR
def afO:=sR.eY ayM 1 ⟨.e7 aiO,trivial⟩
def afH:(Int×Int×Int)->Prop:=λ(a,n,o)=>Pn a/\lG n/\Pn o
def CF:(Int×Int×Int)->Int:=λ(a,n,o)=>ap8 64 a n.toNat o
def atZ:(Int×Int)->Prop:=λ(a,n)=>Pn a/\lG n
def aGf:(Int×Int)->Int:=λ(a,n)=>pw a n.toNat
def nJ:Ls afH bq CF:=pD (λ(Dd,ze,outv)=>⟨([.d tu Dd,.d tu ze,bE,bE,bE,.d tu outv]++aW 14 []),[],(ai 20 [])⟩) (λx=>(.exit 0,⟨(aW 5 ([.d tu x]++aW 14 [])),[],(ai 20 [])⟩))
def xC:Fs Tryz.prog atZ bq aGf:=eV 241 Tryz.f241 (λ(a,n)=>([.d tu a,.d tu n],[])) (λx=>⟨.d tu x,[],[]⟩) [av tu,av tu] [afO] {loops:=lz [(2,{bg:=[0,1,5]})],outs:=lu [(2,{bg:=[5]},{bg:=[4]})],fa:=mc [(2,nJ.E)]}
theorem afI:nJ.RS:=rL [.d tu,.d tu,.d tu] nJ
theorem Ka(Dd ze outv)(kn:K2 R)(kx:K3 R):xC.R 0 nJ (Dd,ze,outv) kn kx=aJ (xW ze 0) (aJ (Il (kj ze 2) 1) (ao (sR.call (outv,Dd)) λx1=>ao (sR.call (Dd,Dd)) λx2=>kn (nJ.st (x2,(wC .u64 ze 2),x1))) (ao (sR.call (Dd,Dd)) λx3=>kn (nJ.st (x3,(wC .u64 ze 2),outv)))) (nJ.go kx outv):=cd
theorem ayD(a n)(k:K1 R):xC.A (a,n) k=ao (nJ.call (a,n,1)) λx4=>k (xC.out x4):=cd
theorem aiN:(xC.jx 0 nJ):=by
 refine(xC.mf 0 nJ) (λ(a,n,o)=>n.toNat) ?_
 rintro⟨a,n,o⟩ ⟨ha,hn,ho⟩;have ha:Pn a:=ha;have hn:lG n:=hn;have ho:Pn o:=ho;have n0:=hn.1;have n1:=hn.2;by_cases h:0 < n
 ·left;have e:CF (a,n,o)=CF (ln a a,n / 2,if n%2=1 then ln o a else o):=by
   show ap8 64 a n.toNat o=ap8 64 (ln a a) (n / 2).toNat _;rw[afa 64 65 a n.toNat o aq aq];have t1:(n / 2).toNat=n.toNat / 2:=aq;have t2:(n%2=1)=(n.toNat%2=1):=by apply propext;omega
   rw[t1];simp only[t2];show(if n.toNat=0 then o else _)=_;rw[if_neg aq]
  refine⟨(ln a a,n / 2,if n%2=1 then ln o a else o),⟨uq a a,⟨aq,aq⟩,?_⟩,by show(n / 2).toNat < n.toNat;omega,?_,λkn kx=> ?_⟩
  ·show Pn (if n%2=1 then ln o a else o);split
   ·exact uq _ _
   ·exact ho
  ·exact bW _ e.symm
  ·rw[Ka,dw h,aTt hn,uo n0,MP (d:=(o,a)) ⟨ho,ha.u⟩,MP (d:=(a,a)) ⟨ha,ha.u⟩];by_cases h1:n%2=1
   ·rw[mQ h1,if_pos h1];rfl
   ·rw[j3 h1,if_neg h1];rfl
 ·right;intro R kn kx;obtain rfl:n=0:=aq;rw[Ka,cI aq];simp only[al,bq,CF];rw[show ap8 64 a (ab 0) o=o from D7 _ _ _]
theorem ayE:xC.Ok:=by rintro⟨a,n⟩ ⟨ha,hn⟩;rw[ayD,afI (d:=(a,n,1)) ⟨ha,hn,aq,aq⟩];rfl
theorem Z2:xC.RS:=rE [.d tu,.d tu] xC
def afJ:=xC.eY ayE 1 ⟨.e7 aiN,trivial⟩
def at0:Int->Prop:=λp=>lG p
def C6:Int->Bool:=λp=>tA p
def pN:Fs Tryz.prog at0 bq C6:=eV 189 Tryz.f189 (λp=>([.d tu p],[])) (λx=>⟨.d .bool x,[],[]⟩) [av tu] [afJ]
theorem ayF(p)(k:K1 R):pN.A p k=aJ (AM p 1) (aJ (fv p 4611686018427377339) (ao (xC.call (p,2305843009213688669)) λx1=>k (pN.out (Il x1 1))) (k (pN.out aZ))) (k (pN.out aZ)):=cd
theorem ayG:pN.Ok:=by
 intro(p:Int) hp;have hp:lG p:=hp;rw[ayF];simp only[bq,C6,tA];by_cases h:0 < p
 ·rw[fG aq,aj];by_cases h2:p < 4611686018427377339
  ·rw[aS h2,aj,aX ⟨h,h2⟩,bM,Z2 (d:=(p,2305843009213688669)) ⟨⟨aq,h2⟩,by constructor <;> decide⟩];rfl
  ·rw[aQ h2,al,bo (λx=>h2 x.2),dA]
 ·rw[eg aq,al,bo (λx=>h x.1),dA]
theorem wi:pN.RS:=rE [.d tu] pN
def RQ:=pN.eY ayG
def at2:Int->Prop:=λp=>lG p
def Ow:Int->Int:=λp=>tk p
def zF:Fs Tryz.prog at2 bq Ow:=eV 270 Tryz.f270 (λp=>([.d tu p],[])) (λx=>⟨.d tu x,[],[]⟩) [av tu] [RQ]
theorem ayJ(p)(k:K1 R):zF.A p k=ao (pN.call p) λx1=>aJ (x1) (k (zF.out p)) (k (zF.out 1)):=cd
theorem ayK:zF.Ok:=by intro p hp;rw[ayJ,wi (d:=p) hp];simp only[ag,bq,C6,bq,Ow,tk];cases tA p <;> rfl
theorem MO:zF.RS:=rE [.d tu] zF
def afL:=zF.eY ayK
def at1:(Int×Int)->Prop:=λ(p,k)=>lG p/\lG k
def ak1:(Int×Int)->Int:=λ(p,k)=>xI p k
def Fo:Fs Tryz.prog at1 bq ak1:=eV 249 Tryz.f249 (λ(p,kv)=>([.d tu p,.d tu kv],[])) (λx=>⟨.d tu x,[],[]⟩) [av tu,av tu] [afL,afJ]
theorem ayH(p kv)(k:K1 R):Fo.A (p,kv) k=ao (zF.call p) λx1=>ao (xC.call (x1,(kj kv 2305843009213688669))) λx2=>k (Fo.out x2):=cd
theorem ayI:Fo.Ok:=by rintro⟨p,k⟩ ⟨hp,hk⟩;have hk:lG k:=hk;have e:=uo (y:=2305843009213688669) hk.1;have b:lG (k%2305843009213688669):=⟨aq,aq⟩;rw[ayH,MO (d:=p) hp,e];simp only[ag,bq,Ow];rw[Z2 (d:=(tk p,k%2305843009213688669)) ⟨ahd p,b⟩];rfl
theorem Z3:Fo.RS:=rE [.d tu,.d tu] Fo
def afK:=Fo.eY ayI
def ayC:Int->Prop:=λk=>lG k
def afF:Int->Int:=λk=>gb k
def MN:Fs Tryz.prog ayC bq afF:=eV 201 Tryz.f201 (λkv=>([.d tu kv],[])) (λx=>⟨.d tu x,[],[]⟩) [av tu] [afK]
theorem aGd(kv)(k:K1 R):MN.A kv k=ao (Fo.call (4,kv)) λx1=>k (MN.out x1):=cd
theorem aGe:MN.Ok:=by intro k hk;rw[aGd,Z3 (d:=(4,k)) ⟨⟨aq,aq⟩,hk⟩];rfl
theorem afG:MN.RS:=rE [.d tu] MN
def ak0:=MN.eY aGe
theorem aSy(p q:Int):Er [p,q]=ln (tk p) (tk q):=by
 show ln (ln 1 (tk p)) (tk q)=_;have:ln 1 (tk p)=tk p:=by have h:=ahd p;unfold ln;rw[Int.one_mul];exact eW h.1 h.2
 rw[this]
def aGc:(Int×Int)->Prop:=λ(p,q)=>lG p/\lG q
def aoX:(Int×Int)->Int:=λ(p,q)=>Er [p,q]
def Z1:Fs Tryz.prog aGc bq aoX:=eV 272 Tryz.f272 (λ(p,q)=>([.d tu p,.d tu q],[])) (λx=>⟨.d tu x,[],[]⟩) [av tu,av tu] [afL,afO]
theorem aMU(p q)(k:K1 R):Z1.A (p,q) k=ao (zF.call p) λx1=>ao (zF.call q) λx2=>ao (sR.call (x1,x2)) λx3=>k (Z1.out x3):=cd
theorem aMV:Z1.Ok:=by rintro⟨p,q⟩ ⟨hp,hq⟩;rw[aMU,MO (d:=p) hp,MO (d:=q) hq];simp only[ag,bq,Ow];rw[MP (d:=(tk p,tk q)) ⟨ahd p,(ahd q).u⟩];simp only[ag,bq,ak2,bq,aoX,aSy]
theorem akZ:Z1.RS:=rE [.d tu,.d tu] Z1
def aMW:=Z1.eY aMV
def atX:Int->Prop:=λ_=>True
def akY:Int->Bool:=λa=>fv a 2305843009213688669
def Jn:Fs Tryz.prog atX bq akY:=eV 271 Tryz.f271 (λa=>([.d tu a],[])) (λx=>⟨.d .bool x,[],[]⟩) [av tu]
theorem ayz(a)(k:K1 R):Jn.A a k=k (Jn.out (fv a 2305843009213688669)):=cd
theorem ayA:Jn.Ok:=by intro a _;rw[ayz];rfl
theorem atY:Jn.RS:=rE [.d tu] Jn
def ayB:=Jn.eY ayA
def aiL:(Bs×Int×Int)->Prop:=λ(h,n,i)=>al8.b n/\h.length=32/\Bytes h/\∃k:Nat,k<=32/\i=k
def Fm:(Bs×Int×Int)->Int:=λ(h,n,i)=>(h.drop i.toNat).foldl (λn b=>(n*256+b)%2305843009213688668) n
def ayx:Bs->Prop:=λh=>h.length=32/\Bytes h
def atW:Bs->Int:=λh=>Lp h
def sQ:Ls aiL bq Fm:=pD (λ(Hd,n,i)=>⟨([bE,.dz tH Hd,bE,.d tu n,.d ti i]++aW 25 []),[],(ai 30 [])⟩) (λx=>(.exit 0,⟨([bE,bE,bE,.d tu x]++aW 26 []),[],(ai 30 [])⟩))
def GW:Fs Tryz.prog ayx bq atW:=eV 281 Tryz.f281 (λh=>([.d tH h],[])) (λx=>⟨.d tu x,[],[]⟩) [av tH] [] {loops:=lz [(3,{bg:=[1,3,4]}),(6,{bg:=[1,3,4,5]})],outs:=lu [(3,{bg:=[3]},{bg:=[2]}),(6,{bg:=[1,3,4]},{bg:=[2]})],fa:=mc [(3,sQ.E)]} 12
theorem aiM:sQ.RS:=rL [.d tH,.d tu,.d ti] sQ
theorem MM(Hd n i)(kn:K2 R)(kx:K3 R):GW.R 0 sQ (Hd,n,i) kn kx=aJ (fv i 32) (aJ (eA i 32) (aJ (eA i 32) (aJ (eA i 32) (aJ (eA i 32) (aJ (eA i 32) (aJ (eA i 32) (aJ (eA i 32) (aJ (eA i 32) (kn (sQ.st (Hd,(kj (bz .u64 (fO .u64 2 (kj (bz .u64 (fO .u64 2 (kj (bz .u64 (fO .u64 2 (kj (bz .u64 (fO .u64 2 (kj (bz .u64 (fO .u64 2 (kj (bz .u64 (fO .u64 2 (kj (bz .u64 (fO .u64 2 (kj (bz .u64 (fO .u64 2 n) (cX .and .u64 (cF .u64 (dR .u64 (nth tb Hd (ab i))) 7) 1)) 2305843009213688668)) (cX .and .u64 (cF .u64 (dR .u64 (nth tb Hd (ab i))) 6) 1)) 2305843009213688668)) (cX .and .u64 (cF .u64 (dR .u64 (nth tb Hd (ab i))) 5) 1)) 2305843009213688668)) (cX .and .u64 (cF .u64 (dR .u64 (nth tb Hd (ab i))) 4) 1)) 2305843009213688668)) (cX .and .u64 (cF .u64 (dR .u64 (nth tb Hd (ab i))) 3) 1)) 2305843009213688668)) (cX .and .u64 (cF .u64 (dR .u64 (nth tb Hd (ab i))) 2) 1)) 2305843009213688668)) (cX .and .u64 (cF .u64 (dR .u64 (nth tb Hd (ab i))) 1) 1)) 2305843009213688668)) (cX .and .u64 (cF .u64 (dR .u64 (nth tb Hd (ab i))) 0) 1)) 2305843009213688668),(bz .i64 i 1)))) aH) aH) aH) aH) aH) aH) aH) aH) (sQ.go kx n):=cd
theorem aF9(h)(k:K1 R):GW.A h k=ao (sQ.call (h,0,0)) λx1=>k (GW.out (bz .u64 x1 1)):=cd
theorem KP{c:Int}(hc:ab0 c)(k:Nat)(hk:k<=7):cX .and .u64 (cF .u64 (dR .u64 c) (k:Int)) 1=c / 2^k%2:=by
 obtain⟨h1,h2⟩:=hc;have e:dR .u64 c=c:=by rw[aw8];omega
 have p:(0:Int) < 2^k:=Int.pow_pos aq;have q0:0<=c / 2^k:=Int.ediv_nonneg h1 aq;have q1:c / 2^k<=c:=Int.ediv_le_self _ h1;rw[e,xJ k (by rfl) aq,aWH q0 aq]
theorem aIk:∀c:Fin 256,(c.val:Int) / 2^7%2*128+(c.val:Int) / 2^6%2*64+(c.val:Int) / 2^5%2*32+(c.val:Int) / 2^4%2*16+(c.val:Int) / 2^3%2*8+(c.val:Int) / 2^2%2*4+(c.val:Int) / 2^1%2*2+(c.val:Int) / 2^0%2=(c.val:Int):=by decide+kernel
theorem aIl{c:Int}(hc:ab0 c):c / 2^7%2*128+c / 2^6%2*64+c / 2^5%2*32+c / 2^4%2*16+c / 2^3%2*8+c / 2^2%2*4+c / 2^1%2*2+c / 2^0%2=c:=by obtain⟨n,rfl⟩:∃n:Nat,c=n:=⟨c.toNat,by have:=hc.1;omega⟩;exact aIk ⟨n,by have:=hc.2;omega⟩
theorem aDh{c:Int}(hc:ab0 c):∃d7 d6 d5 d4 d3 d2 d1 d0:Int,(0<=d7/\d7 < 2)/\(0<=d6/\d6 < 2)/\(0<=d5/\d5 < 2)/\(0<=d4/\d4 < 2)/\(0<=d3/\d3 < 2)/\(0<=d2/\d2 < 2)/\(0<=d1/\d1 < 2)/\(0<=d0/\d0 < 2)/\cX .and .u64 (cF .u64 (dR .u64 c) 7) 1=d7/\cX .and .u64 (cF .u64 (dR .u64 c) 6) 1=d6/\cX .and .u64 (cF .u64 (dR .u64 c) 5) 1=d5/\cX .and .u64 (cF .u64 (dR .u64 c) 4) 1=d4/\cX .and .u64 (cF .u64 (dR .u64 c) 3) 1=d3/\cX .and .u64 (cF .u64 (dR .u64 c) 2) 1=d2/\cX .and .u64 (cF .u64 (dR .u64 c) 1) 1=d1/\cX .and .u64 (cF .u64 (dR .u64 c) 0) 1=d0/\d7*128+d6*64+d5*32+d4*16+d3*8+d2*4+d1*2+d0=c:=by
 have z:∀x:Int,0<=x%2/\x%2 < 2:=λx=>aq
 exact⟨c / 2^7%2,c / 2^6%2,c / 2^5%2,c / 2^4%2,c / 2^3%2,c / 2^2%2,c / 2^1%2,c / 2^0%2,z _,z _,z _,z _,z _,z _,z _,z _,KP hc 7 aq,KP hc 6 aq,KP hc 5 aq,KP hc 4 aq,KP hc 3 aq,KP hc 2 aq,KP hc 1 aq,KP hc 0 aq,aIl hc⟩
theorem KQ{n b:Int}(hn:al8.b n)(hb:0<=b/\b < 2):kj (bz .u64 (fO .u64 2 n) b) 2305843009213688668=(2*n+b)%2305843009213688668/\al8.b ((2*n+b)%2305843009213688668):=by
 obtain⟨h1,h2⟩:=hn;have e:bz .u64 (fO .u64 2 n) b=2*n+b:=by rw[y7,sw];omega
 rw[e,uo aq];exact⟨rfl,aq,aq⟩
theorem awG(n c d7 d6 d5 d4 d3 d2 d1 d0:Int)(M:Int)(h:d7*128+d6*64+d5*32+d4*16+d3*8+d2*4+d1*2+d0=c):
  (2*((2*((2*((2*((2*((2*((2*((2*n+d7)%M)+d6)%M)+d5)%M)+d4)%M)+d3)%M)+d2)%M)+d1)%M)+d0)%M=(n*256+c)%M:=by
 have l:∀x b:Int,(2*(x%M)+b)%M=(2*x+b)%M:=λx b=>by rw[pa,iJ,gD _ (pb M),<-iJ,<-pa]
 simp only[l];have e:2*(2*(2*(2*(2*(2*(2*(2*n+d7)+d6)+d5)+d4)+d3)+d2)+d1)+d0=n*256+c:=aq;rw[e]
theorem aoW:(GW.jx 0 sQ):=by
 refine(GW.mf 0 sQ) (λ(h,n,i)=>32 - i.toNat) ?_
 rintro⟨h,n,i⟩ ⟨hn,hl,hb,k,hk,rfl⟩;have hn:al8.b n:=hn;have hl:h.length=32:=hl;have hb:Bytes h:=hb;by_cases fF:k < 32
 ·left;have hx:ab0 (h[k]'(aq)):=hb _ (aK _);have n1:nth (.int .u8) h k=h[k]'(aq):=bY (t:= .int .u8) aq;refine⟨(h,(n*256+h[k]'(aq))%2305843009213688668,((k+1:Nat):Int)),⟨⟨aq,aq⟩,hl,hb,k+1,aq,rfl⟩,by simp only[aa];omega,?_,λkn kx=> ?_⟩
  ·simp only[bq,Fm,aa];rw[au (by omega:k < h.length)];rfl
  ·rw[MM];generalize hc:h[k]'(aq)=c at hx n1;obtain⟨d7,d6,d5,d4,d3,d2,d1,d0,z7,z6,z5,z4,z3,z2,z1,z0,b7,b6,b5,b4,b3,b2,b1,b0,B5⟩:=aDh hx;obtain⟨f7,g7⟩:=KQ hn z7;obtain⟨f6,g6⟩:=KQ g7 z6;obtain⟨f5,g5⟩:=KQ g6 z5;obtain⟨f4,g4⟩:=KQ g5 z4;obtain⟨f3,g3⟩:=KQ g4 z3;obtain⟨f2,g2⟩:=KQ g3 z2;obtain⟨f1,g1⟩:=KQ g2 z1;obtain⟨f0,g0⟩:=KQ g1 z0;have e8:=awG n c _ _ _ _ _ _ _ _ 2305843009213688668 B5;have hi:fv (k:Int) 32=bm:=aS aq;have aQm:eA (k:Int) 32=bm:=ba aq aq;have ha:bz .i64 (k:Int) 1=((k+1:Nat):Int):=by rw[fA aq aq];omega
   simp only[hi,aQm,ha,aj,aa,n1,b7,b6,b5,b4,b3,b2,b1,b0,f7,f6,f5,f4,f3,f2,f1,f0,e8]
 ·right;obtain rfl:k=32:=aq;intro R kn kx;rw[MM];simp(disch:=omega) only[↓S1,↓if_pos,↓if_neg,if_pos,if_neg,bO,bC,S2,bq,Fm];rw[dO aq];rfl
theorem aGa:GW.Ok:=by
 rintro h ⟨hl,hb⟩;have e:=ada h 0 ⟨aq,aq⟩;have h1:=e.1;have h2:=e.2;rw[aF9,aiM (d:=(h,0,0)) ⟨⟨aq,aq⟩,hl,hb,0,aq,rfl⟩];simp only[ag,bq,Fm,bq,atW,Lp,aT,ay]
 revert h1 h2
 generalize h.foldl (λn b=>(n*256+b)%2305843009213688668) 0=m;intro h1 h2;have e:bz .u64 m 1=m+1:=by rw[sw];omega
 rw[e]
theorem ayy:GW.RS:=rE [.d tB] GW
def aGb:=GW.eY aGa 2 ⟨.e7 aoW,⟨.none cd,trivial⟩⟩
def at6:Int->Prop:=λn=>lG n
def ak4:Int->Bs:=λn=>jo n
def Fp:Fs Tryz.prog at6 bq ak4:=eV 282 Tryz.f282 (λp=>([.d tu p],[])) (λx=>⟨.d tB x,[],[]⟩) [av tu] [aur] {res:=[av tB]}
theorem ayQ(p)(k:K1 R):Fp.A p k=ao (P5.call p) λx1=>aJ (decide (0=0/\(0+x1.1)<=(ae x1.2))) (k (Fp.out (cut x1.2 0 x1.1))) aH:=cd
theorem ayR:Fp.Ok:=by intro n hn;rw[ayQ,als (d:=n) hn];simp only[ag,bq,aCd,cv,aV,az,gm,b8,aj];rw[ea (cv _)];rfl
theorem Z4:Fp.RS:=rE [.d tu] Fp
def ayS:=Fp.eY ayR
def at4:(Int×Int×Bs)->Prop:=λ(r,p,m)=>lG r/\lG p/\Sm m
def ak3:(Int×Int×Bs)->Int:=λ(r,p,m)=>yf r p m
def Jp:Fs Tryz.prog at4 bq ak3:=eV 273 Tryz.f273 (λ(r,p,m)=>([.d tu r,.d tu p,.d tH m],[])) (λx=>⟨.d tu x,[],[]⟩) [av tu,av tu,av tH] [ayS,ape,aGb]
theorem ayN(r p m)(k:K1 R):Jp.A (r,p,m) k=ao (Fp.call r) λx1=>ao (Fp.call p) λx2=>ao (abm.call ((⟨#[115,105,103]⟩:ByteArray),[x1,x2,(cut m 0 32)])) λx3=>ao (GW.call x3) λx4=>k (Jp.out x4):=cd
theorem ayO:Jp.Ok:=by rintro⟨r,p,m⟩ ⟨hr,hp,hm⟩;have hm:Sm m:=hm;have bcd:auF ((⟨#[115,105,103]⟩:ByteArray),[jo r,jo p,m]):=avd eX (by rw[cv];omega) (by rw[cv];omega) (by rw[hm.1];omega);rw[ayN,Z4 (d:=r) hr,Z4 (d:=p) hp];simp only[ag,bq,ak4];rw[ea hm.1,agB bcd];simp only[ag,bq,aNK];rw[ayy (d:=tag (bS (⟨#[115,105,103]⟩:ByteArray)) [jo r,jo p,m]) (apu _ _)];rfl
theorem at5:Jp.RS:=rE [.d tu,.d tu,.d tB] Jp
def ayP:=Jp.eY ayO
def ann(p:Int)(m:List Int)(t:Int)(s:Sg):Bool:=if tA p=aZ\/tA t=aZ\/tA s.1=aZ\/¬s.2.1 < 2305843009213688669\/p=1 then aZ else decide (Er [gb s.2.1,t]=Er [s.1,xI p (yf s.1 p m)])
theorem ano(p:Int)(m:List Int)(s:Sg):ann p m 1 s=qR p m 1 s:=by
 unfold ann qR;by_cases h:p=1\/tA p=aZ\/tA 1=aZ\/tA s.1=aZ\/¬s.2.1 < 2305843009213688669
 ·rw[if_pos h,if_pos (by rcases h with h | h | h | h | h <;> simp[h])]
 ·rw[if_neg h,if_neg (by
   intro h';apply h;rcases h' with h' | h' | h' | h' | h' <;> simp[h'])]
  have e:=aDo s.1 (xI p (yf s.1 p m)) s.2.1;by_cases h2:gb s.2.1=Er [s.1,xI p (yf s.1 p m),aep 1]
  ·rw[lH h2,lH (e▸h2)]
  ·rw[hJ h2,hJ (e▸h2)]
abbrev ak5:=Int×Bs×Int×Sg
def at7:ak5->Prop:=λ(p,m,t,s)=>lG p/\Sm m/\lG t/\aOV s
def Xv:ak5->Bool:=λ(p,m,t,s)=>ann p m t s
def uT:Fs Tryz.prog at7 bq Xv:=eV 250 Tryz.f250 (λ(p,m,t,sv)=>([.d tu p,.d tH m,.d tu t,.d KF sv],[])) (λx=>⟨.d .bool x,[],[]⟩) [av tu,av tH,av tu,av KF] [RQ,ayB,ak0,aMW,ayP,afK]
theorem ayT(p m t sv)(k:K1 R):uT.A (p,m,t,sv) k=ao (pN.call p) λx1=>ao (pN.call t) λx2=>ao (pN.call sv.1) λx3=>ao (Jn.call sv.2.1) λx4=>aJ (!x1) (k (uT.out aZ)) (aJ (!x2) (k (uT.out aZ)) (aJ (!x3) (k (uT.out aZ)) (aJ (!x4) (k (uT.out aZ)) (aJ (Il p 1) (k (uT.out aZ)) (ao (MN.call sv.2.1) λx5=>ao (Z1.call (x5,t)) λx6=>ao (Jp.call (sv.1,p,m)) λx7=>ao (Fo.call (p,x7)) λx8=>ao (Z1.call (sv.1,x8)) λx9=>k (uT.out (Il x6 x9))))))):=cd
theorem ayU:uT.Ok:=by
 rintro⟨p,m,t,s⟩ ⟨hp,hm,ht,hs⟩;have hp:lG p:=hp;have ht:lG t:=ht;have hm:Sm m:=hm;have hs:aOV s:=hs;rw[ayT,wi (d:=p) hp,wi (d:=t) ht,wi (d:=s.1) hs.1,atY (d:=s.2.1) trivial];simp only[ag,bq,C6,bq,akY,bq,Xv,ann];cases h2:tA p
 ·rw[if_pos (jg rfl)];rfl
 cases h3:tA t
 ·rw[if_pos (eI (jg rfl))];rfl
 cases h4:tA s.1
 ·rw[if_pos (eI (eI (jg rfl)))];rfl
 by_cases h5:s.2.1 < 2305843009213688669
 ·by_cases h1:p=1
  ·rw[aS h5,mQ h1,if_pos (eI (eI (eI (eI h1))))];rfl
  rw[aS h5,j3 h1,if_neg (by simp[h1,h5])];have hq:=SR s.1 p m;rw[afG (d:=s.2.1) hs.2,at5 (d:=(s.1,p,m)) ⟨hs.1,hp,hm⟩];simp only[bT,al,ag,bq,ak3,bq,afF];rw[akZ (d:=(gb s.2.1,t)) ⟨(afc _ _).u,ht⟩,Z3 (d:=(p,yf s.1 p m)) ⟨hp,hq.u⟩];simp only[ag,bq,ak1,bq,aoX];rw[akZ (d:=(s.1,xI p (yf s.1 p m))) ⟨hs.1,(afc _ _).u⟩];rfl
 ·rw[aQ h5,if_pos (eI (eI (eI (jg h5))))];rfl
theorem at8:uT.RS:=rE [.d tu,.d tB,.d tu,.d KF] uT
def ayV:=uT.eY ayU
def aoY:(Int×Bs×Sg)->Prop:=λ(p,m,s)=>lG p/\Sm m/\aOV s
def afP:(Int×Bs×Sg)->Bool:=λ(p,m,s)=>qR p m 1 s
def Eh:Fs Tryz.prog aoY bq afP:=eV 202 Tryz.f202 (λ(p,m,sv)=>([.d tu p,.d tH m,.d KF sv],[])) (λx=>⟨.d .bool x,[],[]⟩) [av tu,av tH,av KF] [ayV]
theorem at9(p m sv)(k:K1 R):Eh.A (p,m,sv) k=ao (uT.call (p,m,1,sv)) λx1=>k (Eh.out x1):=cd
theorem aua:Eh.Ok:=by rintro⟨p,m,s⟩ ⟨hp,hm,hs⟩;rw[at9,at8 (d:=(p,m,1,s)) ⟨hp,hm,⟨aq,aq⟩,hs⟩];simp only[ag,bq,Xv,ano];rfl
theorem aoZ:Eh.RS:=rE [.d tu,.d tB,.d KF] Eh
def aub:=Eh.eY aua
abbrev rC:=nR×Int
def ke:rC->AS:=λ(eU,i)=>⟨([bE,.dz jE eU,bE,.d ti i]++aW 50 []),[],(ai 54 [])⟩
def lq:Unit->Exit×AS:=λx=>(.ret,⟨([bE,bE,.d .bool aZ]++aW 51 []),[],(ai 54 [])⟩)
def sK:nR->Exit×AS:=λx=>(.exit 0,⟨([bE,.dz jE x]++aW 52 []),[],(ai 54 [])⟩)
abbrev D9:=(Unit)⊕(nR)
abbrev Mg:=(Unit)⊕(Unit)
def yx:D9->Out (Exit×AS):=λx=> .br x.isLeft (.get x.getLeft? λa=> .ok (lq a)) (.get x.getRight? λb=> .ok (sK b))
def iC:rC->Mg->D9:=λ(eU,i) y=>match y with | .inl y=> .inl y | .inr z=> .inr (eU)
def sJ:rC->Prop:=λ(b,i)=>aHL b/\b.1.length<=1000000000/\∃k:Nat,k<=b.1.length/\i=k
def jQ:rC->Mg:=λ(b,i)=>if(b.1.drop i.toNat).all tA then .inr () else .inl ()
def ait:nR->Prop:=λb=>aHL b
def Me:nR->Bool:=λb=>xX b
def Mf:=dB.e7 ke sJ iC jQ yx
def Fe:rC->Option D9:=fS Mf ke
def gV:Fs Tryz.prog ait bq Me:=eV 129 Tryz.f129 (λb=>([.d jE b],[])) (λx=>⟨.d .bool x,[],[]⟩) [av jE] [RQ] {loops:=lz [(4,{bg:=[1,3]})],outs:=lu [(4,{bg:=[1]},{bg:=[2]})],fa:=mc [(4,Mf)]}
def D8:= @ej Tryz.prog (jr gV.G) gV.an 0 Tryz.f129 0 _ ke
abbrev J3:=jj Tryz.prog (jr gV.G) gV.an 0 Tryz.f129 0 ke sJ iC jQ yx
theorem Xl:ik Fe sJ iC jQ:=jX (jA [.d jE,.d ti] λ_=>cd)
theorem KA:ma @D8 ke sJ iC jQ yx J3:=mJ
theorem Ff(eU i)(kn:K2 R)(kx:K3 R):D8 (eU,i) kn kx=aJ (fv i (((ae eU.1):Nat):Int)) (aJ (eA i (((ae eU.1):Nat):Int)) (ao (pN.call (nth tu eU.1 (ab i))) λx1=>aJ (!x1) (kx (lq ()).1 (lq ()).2) (kn (ke (eU,(bz .i64 i (1:Int)))))) aH) (kx (sK eU).1 (sK eU).2):=cd
theorem aow(b)(k:K1 R):gV.A b k=aJ (xW (b.1.length:Int) 12) (k (gV.out aZ)) (aJ (fv b.2.1 0) (k (gV.out aZ)) (aJ (xW b.2.1 1048576) (k (gV.out aZ)) (aJ (fv b.2.2.1 0) (k (gV.out aZ)) (aJ (xW b.2.2.1 1048576) (k (gV.out aZ)) (ao (Fe (b,0)) λx2=>aJ x2.isLeft (ao x2.getLeft? λa3=>k (gV.out aZ)) (ao x2.getRight? λb4=>ao (pN.call b4.2.2.2.1) λx5=>aJ (Il b4.2.2.2.1 0) (k (gV.out bm)) (k (gV.out x5)))))))):=cd
theorem aaY:J3:=by
 refine KA (λ(b,i)=>b.1.length - i.toNat) ?_
 rintro⟨b,i⟩ ⟨hb,hl,k,hk,rfl⟩;have hl:b.1.length<=1000000000:=hl;have hk:k<=b.1.length:=hk;by_cases h:k < b.1.length
 ·have hx:=hb.1 _ (aK h);have n1:nth (.int .u64) b.1 k=b.1[k]:=bY (t:= .int .u64) h;have hd:(b.1.drop k).all tA=(tA b.1[k] && (b.1.drop (k+1)).all tA):=by rw[au h,gg]
  have step:∀ {R:Type} (kn:AS->Option R) (kx:Exit->AS->Option R),D8 (b,(k:Int)) kn kx=aJ (tA b.1[k]) (kn (ke (b,((k+1:Nat):Int)))) (kx (lq ()).1 (lq ()).2):=by intro R kn kx;rw[Ff,aS aq,ba aq aq,aa,n1,N.jL aq,wi (d:=b.1[k]) hx];simp only[aj,ag,bq,C6];cases tA b.1[k] <;> rfl
  cases hp:tA b.1[k]
  ·right;refine⟨lq (),?_,λkn kx=> ?_⟩
   ·simp only[iC,jQ,aa,hd,hp,dA,bG,bC];rfl
   ·rw[step,hp,al]
  ·left;refine⟨(b,((k+1:Nat):Int)),⟨hb,hl,k+1,aq,rfl⟩,by simp only[aa];omega,?_,λkn kx=> ?_⟩
   ·simp only[iC,jQ,aa,hd,hp,bM]
   ·rw[step,hp,aj]
 ·right;obtain rfl:k=b.1.length:=aq;refine⟨sK b,?_,λkn kx=> ?_⟩
  ·simp only[iC,jQ,aa,aI];rfl
  ·rw[Ff];simp(disch:=omega) only[↓S1,↓if_pos,↓if_neg,if_pos,if_neg,bO,bC,S2]
theorem aox:gV.Ok:=by
 rintro⟨ks,af,dl,sc,u⟩ hb;have hb:aHL (ks,af,dl,sc,u):=hb;have h2:lG sc:=hb.2;rw[aow];simp only[bq,Me,xX,WO];by_cases hk:ks.length<=12
 ·rw[cI aq,aX hk,Xl (d:=((ks,af,dl,sc,u),0)) ⟨hb,by show ks.length<=1000000000;omega,0,aq,rfl⟩];simp only[al,bM,ag,iC,jQ,aT,ay];by_cases a1:af < 0
  ·rw[aS a1,bo (p:=0<=af/\af<=1048576) aq];cases ks.all tA <;> rfl
  by_cases a2:af > 1048576
  ·rw[aQ a1,dw a2,bo (p:=0<=af/\af<=1048576) aq];cases ks.all tA <;> rfl
  by_cases a3:dl < 0
  ·rw[aQ a1,cI a2,aS a3,bo (p:=0<=dl/\dl<=1048576) aq];cases ks.all tA <;> cases(decide (0<=af/\af<=1048576)) <;> rfl
  by_cases a4:dl > 1048576
  ·rw[aQ a1,cI a2,aQ a3,dw a4,bo (p:=0<=dl/\dl<=1048576) aq];cases ks.all tA <;> cases(decide (0<=af/\af<=1048576)) <;> rfl
  rw[aQ a1,cI a2,aQ a3,cI a4,aX (p:=0<=dl/\dl<=1048576) aq,aX (p:=0<=af/\af<=1048576) aq];cases aQo:ks.all tA
  ·simp only[aQo,bG,bC];rfl
  ·simp only[aQo,bO];show ao (pN.call sc) _=_;rw[wi (d:=sc) h2];simp only[ag,bq,C6];by_cases hs:sc=0
   ·rw[aX hs];show aJ (Il sc 0) _ _=_;rw[mQ hs];rfl
   ·rw[bo hs];show aJ (Il sc 0) _ _=_;rw[j3 hs];rfl
 ·rw[dw aq,bo hk];rfl
theorem aiu:gV.RS:=rE [.d jE] gV
def aoy:=gV.eY aox 1 ⟨.e7 aaY,trivial⟩
abbrev tV:=Lk×Int
def lJ:tV->AS:=λ(tl,i)=>⟨([bE,.dz P9 tl,bE,.d ti i]++aW 24 []),[],(ai 28 [])⟩
def mr:Unit->Exit×AS:=λx=>(.ret,⟨([bE,bE,.d .bool aZ]++aW 25 []),[],(ai 28 [])⟩)
def uC:Unit->Exit×AS:=λx=>(.exit 0,⟨(aW 28 []),[],(ai 28 [])⟩)
abbrev GA:=(Unit)⊕(Unit)
abbrev PM:=(Unit)⊕(Unit)
def A4:GA->Out (Exit×AS):=λx=> .br x.isLeft (.get x.getLeft? λa=> .ok (mr a)) (.get x.getRight? λb=> .ok (uC b))
def iX:tV->PM->GA:=λ(tl,i) y=>match y with | .inl y=> .inl y | .inr z=> .inr (z)
def uB:tV->Prop:=λ(l,i)=>abu l/\l.1.length<=1000000000/\∃k:Nat,k<=l.1.length/\i=k
def kL:tV->PM:=λ(l,i)=>if(l.1.drop i.toNat).all xX then .inr () else .inl ()
def aoB:Lk->Prop:=λl=>abu l
def vB:Lk->Bool:=λl=>lI l
def PL:=dB.e7 lJ uB iX kL A4
def HM:tV->Option GA:=fS PL lJ
def jS:Fs Tryz.prog aoB bq vB:=eV 58 Tryz.f58 (λl=>([.d P9 l],[])) (λx=>⟨.d .bool x,[],[]⟩) [av P9] [aoy] {loops:=lz [(4,{bg:=[1,3]})],outs:=lu [(4,{},{bg:=[2]})],fa:=mc [(4,PL)]}
def Gz:= @ej Tryz.prog (jr jS.G) jS.an 0 Tryz.f58 0 _ lJ
abbrev Mh:=jj Tryz.prog (jr jS.G) jS.an 0 Tryz.f58 0 lJ uB iX kL A4
theorem aa3:ik HM uB iX kL:=jX (jA [.d P9,.d ti] λ_=>cd)
theorem Mi:ma @Gz lJ uB iX kL A4 Mh:=mJ
theorem HN(tl i)(kn:K2 R)(kx:K3 R):Gz (tl,i) kn kx=aJ (fv i (((ae tl.1):Nat):Int)) (aJ (eA i (((ae tl.1):Nat):Int)) (ao (gV.call (nth jE tl.1 (ab i))) λx1=>aJ (!x1) (kx (mr ()).1 (mr ()).2) (kn (lJ (tl,(bz .i64 i (1:Int)))))) aH) (kx (uC ()).1 (uC ()).2):=cd
theorem atB(l)(k:K1 R):jS.A l k=aJ (fv (l.1.length:Int) 1) (k (jS.out aZ)) (aJ (xW (l.1.length:Int) 4) (k (jS.out aZ)) (ao (HM (l,0)) λx2=>aJ x2.isLeft (ao x2.getLeft? λa3=>k (jS.out aZ)) (ao x2.getRight? λb4=>k (jS.out bm)))):=cd
theorem afg:Mh:=by
 refine Mi (λ(l,i)=>l.1.length - i.toNat) ?_
 rintro⟨l,i⟩ ⟨hb,hl,k,hk,rfl⟩;have hl:l.1.length<=1000000000:=hl;have hk:k<=l.1.length:=hk;by_cases h:k < l.1.length
 ·have hx:=hb _ (aK h);have n1:nth (.pair (.slice (.int .u64)) (.pair (.int .i64) (.pair (.int .i64) (.pair (.int .u64) .unit)))) l.1 k=l.1[k]:=bY (t:=(.pair (.slice (.int .u64)) (.pair (.int .i64) (.pair (.int .i64) (.pair (.int .u64) .unit))))) h;have hd:(l.1.drop k).all xX=(xX l.1[k] && (l.1.drop (k+1)).all xX):=by rw[au h,gg]
  have step:∀ {R:Type} (kn:AS->Option R) (kx:Exit->AS->Option R),Gz (l,(k:Int)) kn kx=aJ (xX l.1[k]) (kn (lJ (l,((k+1:Nat):Int)))) (kx (mr ()).1 (mr ()).2):=by intro R kn kx;rw[HN,aS aq,ba aq aq,aa,n1,N.jL aq,aiu (d:=l.1[k]) hx];simp only[aj,ag,bq,Me];cases xX l.1[k] <;> rfl
  cases hp:xX l.1[k]
  ·right;refine⟨mr (),?_,λkn kx=> ?_⟩
   ·simp only[iX,kL,aa,hd,hp,dA,bG,bC];rfl
   ·rw[step,hp,al]
  ·left;refine⟨(l,((k+1:Nat):Int)),⟨hb,hl,k+1,aq,rfl⟩,by simp only[aa];omega,?_,λkn kx=> ?_⟩
   ·simp only[iX,kL,aa,hd,hp,bM]
   ·rw[step,hp,aj]
 ·right;obtain rfl:k=l.1.length:=aq;refine⟨uC (),?_,λkn kx=> ?_⟩
  ·simp only[iX,kL,aa,aI];rfl
  ·rw[HN];simp(disch:=omega) only[↓S1,↓if_pos,↓if_neg,if_pos,if_neg,bO,bC,S2]
theorem atC:jS.Ok:=by
 intro l hl;have hl:abu l:=hl;rw[atB];simp only[bq,vB,lI];by_cases h0:l.1.length < 1
 ·rw[aS aq,bo (p:=0 < l.1.length/\l.1.length<=4) aq,Bool.and_false];rfl
 by_cases h4:l.1.length > 4
 ·rw[aQ aq,dw aq,bo (p:=0 < l.1.length/\l.1.length<=4) aq,Bool.and_false];rfl
 rw[aQ aq,cI aq,aX (p:=0 < l.1.length/\l.1.length<=4) aq,Bool.and_true,aa3 (d:=(l,0)) ⟨hl,by show l.1.length<=1000000000;omega,0,aq,rfl⟩];simp only[al,ag,iX,kL,aT,ay];cases l.1.all xX <;> rfl
theorem xu:jS.RS:=rE [.d P9] jS
def Fg:=jS.eY atC 1 ⟨.e7 afg,trivial⟩
abbrev xq:=V9×Bs×Int×nR
def nH:xq->AS:=λ(Sd,ah6,i,n11)=>⟨(aW 6 ([.dz ap9 Sd,.dz tH ah6,bE,bE,bE,eP 11,.d ti i]++aW 72 [])),[],(bw 11 ([dm (.d jE n11)]++bw 73 []))⟩
def oz:Unit->Exit×AS:=λx=>(.ret,⟨(aW 10 ([.d ti (7:Int)]++aW 74 [])),[],(ai 85 [])⟩)
def xt:Unit->Exit×AS:=λx=>(.exit 0,⟨(aW 85 []),[],(ai 85 [])⟩)
abbrev Ji:=(Unit)⊕(Unit)
abbrev UE:=(Unit)⊕(Unit)
def Ea:Ji->Out (Exit×AS):=λx=> .br x.isLeft (.get x.getLeft? λa=> .ok (oz a)) (.get x.getRight? λb=> .ok (xt b))
def jR:xq->UE->Ji:=λ(Sd,ah6,i,n11) y=>match y with | .inl y=> .inl y | .inr z=> .inr (z)
abbrev akU:=Lk×V9×Bs×Int×Int
def xr:xq->Prop:=λ(w,m,i,b)=>Sl w/\Sm m/\EE b.1/\b.1.length<=1000000000/\w.2.1.length=b.1.length/\∃k:Nat,k<=b.1.length/\i=k
def nj:xq->UE:=λ(w,m,i,b)=>if vE m (b.1.drop i.toNat) (w.2.1.drop i.toNat) then .inr () else .inl ()
def atz:akU->Prop:=λ(l,w,m,h,a)=>abu l/\Sl w/\Sm m
def Xm:akU->Int:=λ(l,w,m,h,a)=>v8 l w m h a
def UD:=dB.e7 nH xr jR nj Ea
def uA:xq->Option Ji:=fS UD nH
def gT:Fs Tryz.prog atz bq Xm:=eV 144 Tryz.f144 (λ(l,wv,m,height,age)=>([.d P9 l,.d ap9 wv,.d tH m,.d ti height,.d ti age],[])) (λx=>⟨.d ti x,[],[]⟩) [av P9,av ap9,av tH,av ti,av ti] [Fg,ak0,aub] {loops:=lz [(11,{bg:=[6,7,11,12],sites:=[11]})],outs:=lu [(11,{},{bg:=[10]})],fa:=mc [(11,UD)]}
def Jh:= @ej Tryz.prog (jr gT.G) gT.an 0 Tryz.f144 0 _ nH
abbrev PK:=jj Tryz.prog (jr gT.G) gT.an 0 Tryz.f144 0 nH xr jR nj Ea
theorem aff:ik uA xr jR nj:=jX (jA [.d ap9,.d tH,.d ti,.d jE] λ_=>cd)
theorem OS:ma @Jh nH xr jR nj Ea PK:=mJ
theorem J4(Sd ah6 i n11)(kn:K2 R)(kx:K3 R):Jh (Sd,ah6,i,n11) kn kx=aJ (fv i (((ae n11.1):Nat):Int)) (aJ (eA i (((ae n11.1):Nat):Int)) (aJ (eA i (((ae Sd.2.1):Nat):Int)) (ao (Eh.call ((nth tu n11.1 (ab i)),ah6,(nth KF Sd.2.1 (ab i)))) λx1=>aJ (!x1) (kx (oz ()).1 (oz ()).2) (kn (nH (Sd,ah6,(bz .i64 i (1:Int)),n11)))) aH) aH) (kx (xt ()).1 (xt ()).2):=cd
theorem ayh(l wv m height age)(k:K1 R):gT.A (l,wv,m,height,age) k=ao (jS.call l) λx1=>aJ (!x1) (k (gT.out 1)) (aJ (fv wv.1 0) (k (gT.out 1)) (aJ (AM wv.1 (l.1.length:Int)) (k (gT.out 1)) (aJ (eA wv.1 (l.1.length:Int)) (aJ (fv height (nth jE l.1 (ab wv.1)).2.1) (k (gT.out 11)) (aJ (fv age (nth jE l.1 (ab wv.1)).2.2.1) (k (gT.out 11)) (aJ (C3 (nth jE l.1 (ab wv.1)).2.2.2.1 0) (ao (MN.call wv.2.2.1) λx2=>aJ (C3 x2 (nth jE l.1 (ab wv.1)).2.2.2.1) (k (gT.out 23)) (aJ (C3 (wv.2.1.length:Int) (((ae (nth jE l.1 (ab wv.1)).1):Nat):Int)) (k (gT.out 7)) (ao (uA (wv,m,0,(nth jE l.1 (ab wv.1)))) λx4=>aJ x4.isLeft (ao x4.getLeft? λa5=>k (gT.out 7)) (ao x4.getRight? λb6=>k (gT.out 0))))) (aJ (C3 (wv.2.1.length:Int) (((ae (nth jE l.1 (ab wv.1)).1):Nat):Int)) (k (gT.out 7)) (ao (uA (wv,m,0,(nth jE l.1 (ab wv.1)))) λx7=>aJ x7.isLeft (ao x7.getLeft? λa8=>k (gT.out 7)) (ao x7.getRight? λb9=>k (gT.out 0))))))) aH))):=cd
theorem aiv:PK:=by
 refine OS (λ(w,m,i,b)=>b.1.length - i.toNat) ?_
 rintro⟨w,m,i,b⟩ ⟨hw,hm,hl,hb,hs,k,hk,rfl⟩;have hb:b.1.length<=1000000000:=hb;have hk:k<=b.1.length:=hk;have hs:w.2.1.length=b.1.length:=hs;by_cases h:k < b.1.length
 ·have hx:=hl _ (aK h);have hy:=hw.1 _ (aK (by omega:k < w.2.1.length));have n1:nth (.int .u64) b.1 k=b.1[k]:=bY (t:= .int .u64) h;have n2:nth (.pair (.int .u64) (.pair (.int .u64) .unit)) w.2.1 k=w.2.1[k]'(aq):=bY (t:=(.pair (.int .u64) (.pair (.int .u64) .unit))) aq;have hd:=al1 m b.1 w.2.1 hs k h;have step:∀ {R:Type} (kn:AS->Option R) (kx:Exit->AS->Option R),Jh (w,m,(k:Int),b) kn kx=aJ (qR b.1[k] m 1 (w.2.1[k]'(aq))) (kn (nH (w,m,((k+1:Nat):Int),b))) (kx (oz ()).1 (oz ()).2):=by intro R kn kx;rw[J4,aS aq,ba aq aq,ba aq aq,aa,n1,n2,N.jL aq,aoZ (d:=(b.1[k],m,w.2.1[k]'(aq))) ⟨hx,hm,hy⟩];simp only[aj,ag,bq,afP];cases qR b.1[k] m 1 (w.2.1[k]'(aq)) <;> rfl
  cases hp:qR b.1[k] m 1 (w.2.1[k]'(aq))
  ·right;refine⟨oz (),?_,λkn kx=> ?_⟩
   ·simp only[jR,nj,aa,hd,hp,dA,bG,bC];rfl
   ·rw[step,hp,al]
  ·left;refine⟨(w,m,((k+1:Nat):Int),b),⟨hw,hm,hl,hb,hs,k+1,aq,rfl⟩,by simp only[aa];omega,?_,λkn kx=> ?_⟩
   ·simp only[jR,nj,aa,hd,hp,bM]
   ·rw[step,hp,aj]
 ·right;obtain rfl:k=b.1.length:=aq;refine⟨xt (),?_,λkn kx=> ?_⟩
  ·simp only[jR,nj,aa,aI];rfl
  ·rw[J4];simp(disch:=omega) only[↓S1,↓if_pos,↓if_neg,if_pos,if_neg,bO,bC,S2]
theorem ayi:gT.Ok:=by
  rintro⟨l,w,m,h,a⟩ ⟨hl,hw,hm⟩;have hl:abu l:=hl;have hw:Sl w:=hw;have hm:Sm m:=hm;rw[ayh,xu (d:=l) hl];simp only[ag,bq,vB,bq,Xm,v8];cases gX:lI l
  · rw[if_pos (jg rfl)];rfl
  by_cases h0:w.1 < 0
  · rw[aS h0,if_pos (eI (jg h0))];rfl
  by_cases h1:w.1>=l.1.length
  · rw[aQ h0,fG h1,if_pos (eI (eI h1))];rfl
  rw[aQ h0,eg h1,ba aq aq,if_neg (by simp[h0];omega)];have hn:w.1.toNat < l.1.length:=aq;have n1:nth (.pair (.slice (.int .u64)) (.pair (.int .i64) (.pair (.int .i64) (.pair (.int .u64) .unit)))) l.1 w.1.toNat=l.1[w.1.toNat]:=bY (t:=(.pair (.slice (.int .u64)) (.pair (.int .i64) (.pair (.int .i64) (.pair (.int .u64) .unit))))) hn;rw[n1];have hx:aHL l.1[w.1.toNat]:=hl _ (aK hn);have aQn:=ako gX (aK hn);obtain⟨⟨ks,af,dl,sc,u⟩,aQk⟩:∃b,l.1[w.1.toNat]=b:=⟨_,rfl⟩;rw[aQk]at hx aQn ⊢;have aQo:EE ks:=hx.1;have aQn:ks.length<=12:=aQn;simp only[bT,al,aj];by_cases e1:h < af
  · rw[aS e1,if_pos (jg e1)];rfl
  by_cases e2:a < dl
  · rw[aQ e1,aS e2,if_pos (eI e2)];rfl
  rw[aQ e1,aQ e2,if_neg (by simp[e1,e2]),afG (d:=w.2.2.1) hw.2];simp only[al,ag,bq,afF]
  have last:aJ (C3 ((w.2.1.length:Nat):Int) ((ks.length:Nat):Int)) (av (gT.out (7:Int))) (
          ao (uA (w,m,(0:Int),(ks,af,dl,sc,u))) λx4=>
          aJ (x4.isLeft) (ao (x4.getLeft?) λa5=>av (gT.out (7:Int))) (ao (x4.getRight?) λb6=>av (gT.out (0:Int))))=av (gT.out (if w.2.1.length≠ks.length then 7 else if vE m ks w.2.1 then 0 else 7)):=by
    by_cases e3:w.2.1.length=ks.length
    · rw[dN aq,if_neg (by simp[e3]),al,aff (d:=(w,m,0,(ks,af,dl,sc,u))) ⟨hw,hm,aQo,by show ks.length<=1000000000;omega,e3,0,aq,rfl⟩]
      simp only[ag,jR,nj,aT,ay];cases vE m ks w.2.1 <;> rfl
    · rw[fH aq,if_pos e3];rfl
  by_cases e4:sc=0
  · rw[dN e4,if_neg (by simp[e4]),al]
    exact last
  · rw[fH e4,aj]
    by_cases e5:gb w.2.2.1=sc
    · rw[dN e5,if_neg (by simp[e5]),al]
      exact last
    · rw[fH e5,if_pos ⟨e4,e5⟩];rfl
theorem atA:gT.RS:=rE [.d P9,.d ap9,.d tB,.d ti,.d ti] gT
def ayj:=gT.eY ayi 1 ⟨.e7 aiv,trivial⟩
abbrev Gy:=Lk×Bs×Int×Int×nR
def uz:Gy->Bs->((Lk×Int×nR)×(Bs)):=λ(aU6,yr,fk,kv,n5) y=>((aU6,fk,n5),y)
def aa1:Gy->Prop:=λ(l,o,i,j,b)=>b.1.length<=12/\∃k:Nat,k<=b.1.length/\j=k/\o.length+8*b.1.length<=80000000+8*k
def zo:Gy->Bs:=λ(l,o,i,j,b)=>ot o (b.1.drop j.toNat)
def aaZ:(Lk×Bs×Int)->Prop:=λ(l,o,i)=>(∀b∈l.1,aWC b)/\l.1.length<=4/\∃k:Nat,k<=l.1.length/\i=k/\o.length<=1000+200*k
def Gx:(Lk×Bs×Int)->Bs:=λ(l,o,i)=>(l.1.drop i.toNat).foldl aHM o
def aoz:Lk->Prop:=λl=>abu l
def RI:Lk->Bs:=λl=>Rc l
def nh:Ls aaZ bq Gx:=pD (λ(tl,outv,i)=>⟨([bE,.dz P9 tl,bE,.d tB outv,.d ti i]++aW 53 []),[],(ai 58 [])⟩) (λx=>(.exit 0,⟨([bE,bE,bE,.d tB x]++aW 54 []),[],(ai 58 [])⟩))
def ni:Ls aa1 uz zo:=pD (λ(aU6,yr,fk,kv,n5)=>⟨([bE,.dz P9 aU6,bE,.d tB yr,.d ti fk,eP 5,.d ti kv]++aW 51 []),[],(bw 5 ([dm (.d jE n5)]++bw 52 []))⟩) (λx=>(.exit 2,⟨([bE,.dz P9 x.1.1,bE,.d tB x.2,.d ti x.1.2.1,eP 5]++aW 52 []),[],(bw 5 ([dm (.d jE x.1.2.2)]++bw 52 []))⟩))
def ng:Fs Tryz.prog aoz bq RI:=eV 224 Tryz.f224 (λl=>([.d P9 l],[])) (λx=>⟨.d tB x,[],[]⟩) [av P9] [Fg,afQ,aGr] {loops:=lz [(5,{bg:=[1,3,4]}),(10,{bg:=[1,3,4,5,6],sites:=[5]})],outs:=lu [(5,{bg:=[3]},{bg:=[2]}),(10,{bg:=[1,3,4,5],sites:=[5]},{bg:=[2]})],fa:=mc [(5,nh.E),(10,ni.E)],res:=[av tB]}
theorem aa0:nh.RS:=rL [.d P9,.d tB,.d ti] nh
theorem HK(tl outv i)(kn:K2 R)(kx:K3 R):ng.R 0 nh (tl,outv,i) kn kx=aJ (fv i (tl.1.length:Int)) (aJ (eA i (tl.1.length:Int)) (ao (ud.call (outv,(((ae (nth jE tl.1 (ab i)).1):Nat):Int))) λx1=>ao (ni.call (tl,x1,i,0,(nth jE tl.1 (ab i)))) λx2=>ao (ud.call (x2.2,x2.1.2.2.2.1)) λx3=>ao (ud.call (x3,x2.1.2.2.2.2.1)) λx4=>ao (Ei.call (x4,x2.1.2.2.2.2.2.1)) λx5=>kn (nh.st (x2.1.1,x5,(bz .i64 x2.1.2.1 1)))) aH) (nh.go kx outv):=cd
theorem aa2:ni.RS:=rL [.d P9,.d tB,.d ti,.d ti,.d jE] ni
theorem HL(aU6 yr fk kv n5)(kn:K2 R)(kx:K3 R):ng.R 1 ni (aU6,yr,fk,kv,n5) kn kx=aJ (fv kv (n5.1.length:Int)) (aJ (eA kv (n5.1.length:Int)) (ao (Ei.call (yr,(nth tu n5.1 (ab kv)))) λx1=>kn (ni.st (aU6,x1,fk,(bz .i64 kv 1),n5))) aH) (ni.go kx ((aU6,fk,n5),yr)):=cd
theorem atw(l)(k:K1 R):ng.A l k=ao (jS.call l) λx1=>aJ (!x1) (k (ng.out ([]:List Int))) (ao (ud.call (([]:List Int),(l.1.length:Int))) λx2=>ao (nh.call (l,x2,0)) λx9=>k (ng.out x9)):=cd
theorem afe:(ng.jx 1 ni):=by
 refine(ng.mf 1 ni) (λ(l,o,i,j,b)=>b.1.length - j.toNat) ?_
 rintro⟨l,o,i,j,b⟩ ⟨wD,k,hk,rfl,hl⟩;have wD:b.1.length<=12:=wD;have hk:k<=b.1.length:=hk;have hl:o.length+8*b.1.length<=80000000+8*k:=hl;by_cases h:k < b.1.length
 ·left;have n1:nth (.int .u64) b.1 k=b.1[k]:=bY (t:= .int .u64) h;refine⟨(l,o++jo b.1[k],i,((k+1:Nat):Int),b),⟨wD,k+1,aq,rfl,by rw[ak,cv];omega⟩,by simp only[aa];omega,?_,λkn kx=> ?_⟩
  ·simp only[uz,zo,aa];rw[adC _ _ _ h]
  ·rw[HL,aS aq,ba aq aq,aa,n1,afU (d:=(o,b.1[k])) (by show o.length<=90000000;omega)];simp only[aj,ag,bq,afT];rw[N.jL aq]
 ·right;obtain rfl:k=b.1.length:=aq;intro R kn kx;rw[HL,aQ aq,al];simp only[uz,zo,aa,aI];rfl
theorem afd:(ng.jx 0 nh):=by
 refine(ng.mf 0 nh) (λ(l,o,i)=>l.1.length - i.toNat) ?_
 rintro⟨l,o,i⟩ ⟨hb,h4,k,hk,rfl,hl⟩;have h4:l.1.length<=4:=h4;have hk:k<=l.1.length:=hk;have hl:o.length<=1000+200*k:=hl;by_cases h:k < l.1.length
 ·left;have hx:=hb _ (aK h);have n1:nth (.pair (.slice (.int .u64)) (.pair (.int .i64) (.pair (.int .i64) (.pair (.int .u64) .unit)))) l.1 k=l.1[k]:=bY (t:=(.pair (.slice (.int .u64)) (.pair (.int .i64) (.pair (.int .i64) (.pair (.int .u64) .unit))))) h;have e0:=amn o l.1[k] hx.1;refine⟨(l,aHM o l.1[k],((k+1:Nat):Int)),⟨hb,h4,k+1,aq,rfl,aq⟩,by simp only[aa];omega,?_,λkn kx=> ?_⟩
  ·simp only[bq,Gx,aa];rw[au h];rfl
  ·rw[HK,aS aq,ba aq aq,aa,n1];obtain⟨⟨ks,af,dl,sc,u⟩,aQk⟩:∃b,l.1[k]=b:=⟨_,rfl⟩;rw[aQk]at hx e0 ⊢;obtain⟨wD,ha,hd⟩:=hx;have wD:ks.length<=12:=wD;have ha:af<=9223372036854775807:=ha;have hd:dl<=9223372036854775807:=hd;have l1:=dT o ks.length;have l2:=Oj ks (cQ o ks.length);have l3:=dT (ot (cQ o ks.length) ks) af;have l4:=dT (cQ (ot (cQ o ks.length) ks) af) dl;simp only[aj];rw[j7 (d:=(o,(ks.length:Int))) ⟨by show o.length<=90000000;omega,by show(ks.length:Int)<=9223372036854775807;omega⟩];simp only[ag,bq,pO];rw[aa2 (d:=(l,cQ o ks.length,(k:Int),0,(ks,af,dl,sc,u))) ⟨wD,0,aL _,rfl,by show(cQ o ks.length).length+8*ks.length<=_;omega⟩];simp only[ag,uz,zo,aT,ay];rw[j7 (d:=(ot (cQ o ks.length) ks,af)) ⟨by show(ot (cQ o ks.length) ks).length<=90000000;omega,ha⟩];simp only[ag,bq,pO];rw[j7 (d:=(cQ (ot (cQ o ks.length) ks) af,dl)) ⟨by show(cQ (ot (cQ o ks.length) ks) af).length<=90000000;omega,hd⟩];simp only[ag,bq,pO];rw[afU (d:=(cQ (cQ (ot (cQ o ks.length) ks) af) dl,sc)) (by show(cQ (cQ (ot (cQ o ks.length) ks) af) dl).length<=90000000;omega)];simp only[ag,bq,afT];rw[N.jL aq];rfl
 ·right;obtain rfl:k=l.1.length:=aq;intro R kn kx;rw[HK,aQ aq,al];simp only[bq,Gx,aa,aI];rfl
theorem atx:ng.Ok:=by
 intro l hl;have hl:abu l:=hl;rw[atw,xu (d:=l) hl];simp only[ag,bq,vB,bq,RI,Rc];cases gX:lI l
 ·rfl
 ·obtain⟨h1,h2,h3⟩:=axk gX;have l1:=dT [] l.1.length;have l0:([]:List Int).length=0:=rfl;simp only[bT,al,bO];rw[j7 (d:=([],(l.1.length:Int))) ⟨by show([]:List Int).length<=90000000;omega,by show(l.1.length:Int)<=9223372036854775807;omega⟩];simp only[ag,bq,pO];rw[aa0 (d:=(l,cQ [] l.1.length,0)) ⟨h1,h3,0,aL _,rfl,by show(cQ [] l.1.length).length<=_;omega⟩];rfl
theorem aoA:ng.RS:=rE [.d P9] ng
def aty:=ng.eY atx 2 ⟨.e7 afd,⟨.e7 afe,trivial⟩⟩
def Bn(w:V9):Bool:=decide (0<=w.1/\w.1 < 4) && decide (w.2.1.length<=12)
def Kz(x:ji):Bool:=decide (0<=x.1.2.1/\x.1.2.1 < 64) && Bn x.2.1
def TC(m:List (cz×Bool))(x:ji):Bool:=(cw bQ x.1 m).getD aZ
def Hw:List (cz×Bool)->List ji->Bool
 |_,[]=>bm
 |m,x::l=>(!(TC m x) && Kz x) && Hw (fp bQ x.1 bm m) l
def ym(a:Int):Bool:=decide (0<=a/\a<=1125899906842624)
def tj(a b:Int):Bool:=ym a && (ym b && decide (a+b<=1125899906842624))
def AY:Int->List jV->Bool
 |_,[]=>bm
 |s,o::l=>(tj s o.1 && lI o.2.1) && AY (s+o.1) l
def ahu(t:dM):Bool:=decide (1<=t.1.length/\t.1.length<=64/\t.2.1.length<=64/\0<=t.2.2.1)
def hP(t:dM):Bool:=ahu t && (Hw [] t.1 && AY 0 t.2.1)
def aTV(l:Lk):Prop:=abu l/\l.1.length<=9223372036854775807
def aTX(t:dM):Prop:=(∀o∈t.2.1,aTV o.2.1)/\t.1.length<=9223372036854775807/\t.2.1.length<=9223372036854775807
def aOE:V9->Prop:=λ_=>True
def apS:V9->Bool:=λw=>Bn w
def ajn:Fs Tryz.prog aOE bq apS:=eV 156 Tryz.f156 (λwv=>([.d ap9 wv],[])) (λx=>⟨.d .bool x,[],[]⟩) [av ap9]
theorem aSB(wv)(k:K1 R):ajn.A wv k=aJ (AM wv.1 0) (aJ (fv wv.1 4) (k (ajn.out (ahY (wv.2.1.length:Int) 12))) (k (ajn.out aZ))) (k (ajn.out aZ)):=cd
theorem aSC:ajn.Ok:=by
 rintro⟨b,ss,sc,u⟩ _;rw[aSB];simp only[bq,apS,Bn];by_cases h:0<=b
 ·rw[fG h,aj];by_cases h2:b < 4
  ·rw[aS h2,aj,aX ⟨h,h2⟩];by_cases h3:ss.length<=12
   ·rw[om aq,aX h3];rfl
   ·rw[j4 aq,bo h3];rfl
  ·rw[aQ h2,al,bo (λx=>h2 x.2)];rfl
 ·rw[eg h,al,bo (λx=>h x.1)];rfl
theorem avr:ajn.RS:=rE [.d ap9] ajn
def aCn:=ajn.eY aSC
def axC:Int->Prop:=λ_=>True
def aen:Int->Bool:=λa=>ym a
def I5:Fs Tryz.prog axC bq aen:=eV 238 Tryz.f238 (λa=>([.d ti a],[])) (λx=>⟨.d .bool x,[],[]⟩) [av ti]
theorem aEW(a)(k:K1 R):I5.A a k=aJ (AM a 0) (k (I5.out (ahY a 1125899906842624))) (k (I5.out aZ)):=cd
theorem aEX:I5.Ok:=by
 intro(a:Int) _;rw[aEW];simp only[bq,aen,ym];by_cases h:0<=a
 ·rw[fG h,aj];by_cases h2:a<=1125899906842624
  ·rw[om h2,aX ⟨h,h2⟩]
  ·rw[j4 h2,bo (λx=>h2 x.2)]
 ·rw[eg h,al,bo (λx=>h x.1)]
theorem aeo:I5.RS:=rE [.d ti] I5
def aEY:=I5.eY aEX
def aLl:(Int×Int)->Prop:=λ_=>True
def axB:(Int×Int)->(Int×Bool):=λ(a,b)=>(bif tj a b then a+b else 0,tj a b)
def aic:Fs Tryz.prog aLl bq axB:=eV 178 Tryz.f178 (λ(a,b)=>([.d ti a,.d ti b],[])) (λx=>⟨.cons (.d ti x.1) (.cons (.d .bool x.2) (.nil)),[],[]⟩) [av ti,av ti] [aEY]
theorem aQ5(a b)(k:K1 R):aic.A (a,b) k=ao (I5.call a) λx1=>aJ (!x1) (k (aic.out (0,aZ))) (ao (I5.call b) λx2=>aJ (!x2) (k (aic.out (0,aZ))) (aJ (xW a (df .i64 1125899906842624 b)) (k (aic.out (0,aZ))) (k (aic.out ((bz .i64 a b),bm))))):=cd
theorem aQ6:aic.Ok:=by
 rintro⟨a,b⟩ _;rw[aQ5,aeo (d:=a) trivial,aeo (d:=b) trivial];simp only[ag,bq,aen,bq,axB,tj];cases ha:ym a
 ·rfl
 ·cases hb:ym b
  ·rfl
  ·simp only[ym,bt]at ha hb;simp only[bT,al,bM];rw[fI aq aq];by_cases h:a+b<=1125899906842624
   ·rw[cI aq,al,aX h,fA aq aq];rfl
   ·rw[dw aq,aj,bo h];rfl
theorem aLm:aic.RS:=rE [.d ti,.d ti] aic
def aQ7:=aic.eY aQ6
abbrev AH:=dM×(List ji)×Int×Int×(List (cz×Bool))
def pT:AH->AS:=λ(fP,t33,t34,t35,n31)=>⟨([bE,.dz dU fP,bE,.c7 (.new 31 0) 0]++aW 29 ([.d (.slice fo) t33,.d ti t34,.d ti t35]++aW 52 [])),[],(bw 31 ([dm (.mp bQ .bool n31)]++bw 56 []))⟩
def gK:Unit->Exit×AS:=λx=>(.ret,⟨([bE,bE,.d .bool aZ]++aW 85 []),[],(ai 88 [])⟩)
def zV:dM->Exit×AS:=λx=>(.exit 0,⟨([bE,.dz dU x]++aW 86 []),[],(ai 88 [])⟩)
abbrev NI:=(Unit)⊕(dM)
abbrev aaC:=(Unit)⊕(Unit)
def G8:NI->Out (Exit×AS):=λx=> .br x.isLeft (.get x.getLeft? λa=> .ok (gK a)) (.get x.getRight? λb=> .ok (zV b))
def kZ:AH->aaC->NI:=λ(fP,t33,t34,t35,n31) y=>match y with | .inl y=> .inl y | .inr z=> .inr (fP)
abbrev AI:=Int×(List jV)×Int×Int
def pU:AI->AS:=λ(sum,t66,t67,t68)=>⟨(aW 6 ([.d ti sum]++aW 59 ([.d (.slice fi) t66,.d ti t67,.d ti t68]++aW 19 []))),[],(ai 88 [])⟩
def lg:Unit->Exit×AS:=λx=>(.ret,⟨([bE,bE,.d .bool aZ]++aW 85 []),[],(ai 88 [])⟩)
def zX:Unit->Exit×AS:=λx=>(.exit 2,⟨(aW 88 []),[],(ai 88 [])⟩)
abbrev NM:=(Unit)⊕(Unit)
abbrev aaE:=(Unit)⊕(Unit)
def G9:NM->Out (Exit×AS):=λx=> .br x.isLeft (.get x.getLeft? λa=> .ok (lg a)) (.get x.getRight? λb=> .ok (zX b))
def lf:AI->aaE->NM:=λ(sum,t66,t67,t68) y=>match y with | .inl y=> .inl y | .inr z=> .inr (z)
def zU:AH->Prop:=λ(t,l,n,i,m)=>l.length<=9223372036854775807/\n=l.length/\∃k:Nat,k<=l.length/\i=k
def o8:AH->aaC:=λ(t,l,n,i,m)=>if Hw m (l.drop i.toNat) then .inr () else .inl ()
def zW:AI->Prop:=λ(s,l,n,i)=>(∀o∈l,aTV o.2.1)/\l.length<=9223372036854775807/\n=l.length/\∃k:Nat,k<=l.length/\i=k
def o9:AI->aaE:=λ(s,l,n,i)=>if AY s (l.drop i.toNat) then .inr () else .inl ()
def aAb:dM->Prop:=λt=>aTX t
def rS:dM->Bool:=λt=>hP t
def aaB:=dB.e7 pT zU kZ o8 G8
def NJ:AH->Option NI:=fS aaB pT
def aaD:=dB.e7 pU zW lf o9 G9
def Ew:AI->Option NM:=fS aaD pU
def iQ:Fs Tryz.prog aAb bq rS:=eV 108 Tryz.f108 (λt=>([.d dU t],[])) (λx=>⟨.d .bool x,[],[]⟩) [av dU] [aCn,aQ7,Hy] {loops:=lz [(5,{bg:=[1,3,33,34,35],sites:=[31]}),(13,{bg:=[6,66,67,68]})],outs:=lu [(5,{bg:=[1]},{bg:=[2]}),(13,{},{bg:=[2]})],fa:=mc [(5,aaB),(13,aaD)]}
def NH:= @ej Tryz.prog (jr iQ.G) iQ.an 0 Tryz.f108 0 _ pT
abbrev VZ:=jj Tryz.prog (jr iQ.G) iQ.an 0 Tryz.f108 0 pT zU kZ o8 G8
def NL:= @ej Tryz.prog (jr iQ.G) iQ.an 0 Tryz.f108 1 _ pU
abbrev V1:=jj Tryz.prog (jr iQ.G) iQ.an 0 Tryz.f108 1 pU zW lf o9 G9
theorem ajj:ik NJ zU kZ o8:=jX (jA [.d dU,.d (.slice fo),.d ti,.d ti,.d (.slice (.pair bQ .bool))] λ_=>cd)
theorem R8:ma @NH pT zU kZ o8 G8 VZ:=mJ
theorem NK(fP t33 t34 t35 n31)(kn:K2 R)(kx:K3 R):NH (fP,t33,t34,t35,n31) kn kx=aJ (fv t35 t34) (aJ (eA t35 (((ae t33):Nat):Int)) (aJ ((cw bQ (nth fo t33 (ab t35)).1 n31).getD aZ) (kx (gK ()).1 (gK ()).2) (aJ (fv (nth fo t33 (ab t35)).1.2.1 (0:Int)) (kx (gK ()).1 (gK ()).2) (aJ (AM (nth fo t33 (ab t35)).1.2.1 (64:Int)) (kx (gK ()).1 (gK ()).2) (ao (ajn.call (nth fo t33 (ab t35)).2.1) λx8=>aJ (!x8) (kx (gK ()).1 (gK ()).2) (kn (pT (fP,t33,t34,(bz .i64 t35 (1:Int)),(fp bQ (nth fo t33 (ab t35)).1 bm n31)))))))) aH) (kx (zV fP).1 (zV fP).2):=cd
theorem ajk:ik Ew zW lf o9:=jX (jA [.d ti,.d (.slice fi),.d ti,.d ti] λ_=>cd)
theorem R9:ma @NL pU zW lf o9 G9 V1:=mJ
theorem NN(sum t66 t67 t68)(kn:K2 R)(kx:K3 R):NL (sum,t66,t67,t68) kn kx=aJ (fv t68 t67) (aJ (eA t68 (((ae t66):Nat):Int)) (ao (aic.call (sum,(nth fi t66 (ab t68)).1)) λal6=>aJ (!al6.2) (kx (lg ()).1 (lg ()).2) (ao (rn.call (nth fi t66 (ab t68)).2.1) λaAj=>aJ (!aAj) (kx (lg ()).1 (lg ()).2) (kn (pU (al6.1,t66,t67,(bz .i64 t68 (1:Int))))))) aH) (kx (zX ()).1 (zX ()).2):=cd
theorem aHu(t)(k:K1 R):iQ.A t k=aJ (fv (t.1.length:Int) 1) (k (iQ.out aZ)) (aJ (xW (t.1.length:Int) 64) (k (iQ.out aZ)) (aJ (xW (t.2.1.length:Int) 64) (k (iQ.out aZ)) (aJ (fv t.2.2.1 0) (k (iQ.out aZ)) (ao (NJ (t,t.1,(t.1.length:Int),0,([]:List (cz×Bool)))) λaAj=>aJ aAj.isLeft (ao aAj.getLeft? λa13=>k (iQ.out aZ)) (ao aAj.getRight? λb14=>ao (Ew (0,b14.2.1,(b14.2.1.length:Int),0)) λaaJ=>aJ aaJ.isLeft (ao aaJ.getLeft? λa31=>k (iQ.out aZ)) (ao aaJ.getRight? λb32=>k (iQ.out bm))))))):=cd
theorem apN:VZ:=by
 refine R8 (λ(t,l,n,i,m)=>l.length - i.toNat) ?_
 rintro⟨t,l,n,i,m⟩ ⟨hb,rfl,k,hk,rfl⟩;have hb:l.length<=9223372036854775807:=hb;have hk:k<=l.length:=hk;by_cases h:k < l.length
 ·have n1:nth fo l k=l[k]:=bY (t:=fo) h;have hd:Hw m (l.drop k)=((!(TC m l[k]) && Kz l[k]) && Hw (fp bQ l[k].1 bm m) (l.drop (k+1))):=by rw[au h];rfl
  have step:∀ {R:Type} (kn:AS->Option R) (kx:Exit->AS->Option R),NH (t,l,(l.length:Int),(k:Int),m) kn kx=aJ (!(TC m l[k]) && Kz l[k]) (kn (pT (t,l,(l.length:Int),((k+1:Nat):Int),fp bQ l[k].1 bm m))) (kx (gK ()).1 (gK ()).2):=by
   intro R kn kx;rw[NK,aS aq,ba aq aq,aa,n1,N.jL aq,avr (d:=l[k].2.1) trivial];simp only[aj,ag,bq,apS];have e:(cw bQ l[k].1 m).getD aZ=TC m l[k]:=rfl;rw[e];cases TC m l[k]
   ·simp only[dX,bM,al,Kz];by_cases h1:l[k].1.2.1 < 0
    ·rw[aS h1,aj,bo (λx=>aq)];rfl
    ·rw[aQ h1,al];by_cases h2:64<=l[k].1.2.1
     ·rw[fG h2,aj,bo (λx=>aq)];rfl
     ·rw[eg h2,al,aX ⟨aq,aq⟩];cases Bn l[k].2.1 <;> rfl
   ·rfl
  cases hp:(!(TC m l[k]) && Kz l[k])
  ·right;refine⟨gK (),?_,λkn kx=> ?_⟩
   ·simp only[kZ,o8,aa,hd,hp,dA,bG,bC];rfl
   ·rw[step,hp,al]
  ·left;refine⟨(t,l,l.length,((k+1:Nat):Int),fp bQ l[k].1 bm m),⟨hb,rfl,k+1,aq,rfl⟩,by simp only[aa];omega,?_,λkn kx=> ?_⟩
   ·simp only[kZ,o8,aa,hd,hp,bM]
   ·rw[step,hp,aj]
 ·right;obtain rfl:k=l.length:=aq;refine⟨zV t,?_,λkn kx=> ?_⟩
  ·simp only[kZ,o8,aa,aI];rfl
  ·rw[NK];simp(disch:=omega) only[↓S1,↓if_pos,↓if_neg,if_pos,if_neg,bO,bC,S2]
theorem apO:V1:=by
 refine R9 (λ(s,l,n,i)=>l.length - i.toNat) ?_
 rintro⟨s,l,n,i⟩ ⟨hl,hb,rfl,k,hk,rfl⟩;have hb:l.length<=9223372036854775807:=hb;have hk:k<=l.length:=hk;by_cases h:k < l.length
 ·have hx:aTV l[k].2.1:=hl _ (aK h);have n1:nth fi l k=l[k]:=bY (t:=fi) h;have hd:AY s (l.drop k)=((tj s l[k].1 && lI l[k].2.1) && AY (s+l[k].1) (l.drop (k+1))):=by rw[au h];rfl
  have step:∀ {R:Type} (kn:AS->Option R) (kx:Exit->AS->Option R),NL (s,l,(l.length:Int),(k:Int)) kn kx=aJ (tj s l[k].1 && lI l[k].2.1) (kn (pU (s+l[k].1,l,(l.length:Int),((k+1:Nat):Int)))) (kx (lg ()).1 (lg ()).2):=by
   intro R kn kx;rw[NN,aS aq,ba aq aq,aa,n1,N.jL aq,aLm (d:=(s,l[k].1)) trivial,DM (d:=l[k].2.1) hx];simp only[aj,ag,bq,axB,bq,Hx];cases tj s l[k].1
   ·rfl
   ·cases lI l[k].2.1 <;> rfl
  cases hp:(tj s l[k].1 && lI l[k].2.1)
  ·right;refine⟨lg (),?_,λkn kx=> ?_⟩
   ·simp only[lf,o9,aa,hd,hp,dA,bG,bC];rfl
   ·rw[step,hp,al]
  ·left;refine⟨(s+l[k].1,l,l.length,((k+1:Nat):Int)),⟨hl,hb,rfl,k+1,aq,rfl⟩,by simp only[aa];omega,?_,λkn kx=> ?_⟩
   ·simp only[lf,o9,aa,hd,hp,bM]
   ·rw[step,hp,aj]
 ·right;obtain rfl:k=l.length:=aq;refine⟨zX (),?_,λkn kx=> ?_⟩
  ·simp only[lf,o9,aa,aI];rfl
  ·rw[NN];simp(disch:=omega) only[↓S1,↓if_pos,↓if_neg,if_pos,if_neg,bO,bC,S2]
theorem aHv:iQ.Ok:=by
 rintro⟨is,os,nt,u⟩ ⟨hl,h1,h2⟩;have h1:is.length<=9223372036854775807:=h1;have h2:os.length<=9223372036854775807:=h2;rw[aHu,ajj (d:=((is,os,nt,u),is,is.length,0,[])) ⟨h1,rfl,0,aq,rfl⟩];simp only[ag,kZ,o8,aT,ay,bq,rS,hP,ahu];by_cases a1:is.length < 1
 ·rw[aS aq,aj,bo (λx=>aq)];rfl
 rw[aQ aq,al];by_cases a2:64 < is.length
 ·rw[dw aq,aj,bo (λx=>aq)];rfl
 rw[cI aq,al];by_cases a3:64 < os.length
 ·rw[dw aq,aj,bo (λx=>aq)];rfl
 rw[cI aq,al];by_cases a4:nt < 0
 ·rw[aS aq,aj,bo (λx=>aq)];rfl
 rw[aQ aq,al,aX ⟨aq,aq,aq,aq⟩];cases Hw [] is
 ·rfl
 ·simp only[bO,bM];show ao (Ew (0,os,(os.length:Int),0)) _=_;rw[ajk (d:=(0,os,os.length,0)) ⟨hl,h2,rfl,0,aq,rfl⟩];simp only[ag,lf,o9,aT,ay];cases AY 0 os <;> rfl
theorem pV:iQ.RS:=rE [.d dU] iQ
def te:=iQ.eY aHv 2 ⟨.e7 apN,⟨.e7 apO,trivial⟩⟩
def aDE:(Bs×Bs)->Prop:=λ(b,h)=>b.length+h.length<=100000000/\h.length=32
def S0:(Bs×Bs)->Bs:=λ(b,h)=>b++h
def O5:Fs Tryz.prog aDE bq S0:=eV 60 Tryz.f60 (λ(b,h)=>([.d tB b,.d tH h],[])) (λx=>⟨.d tB x,[],[]⟩) [av tB,av tH] [acz]
theorem aJh(b h)(k:K1 R):O5.A (b,h) k=ao (K7.call (b,(cut h 0 32))) λx1=>k (O5.out x1):=cd
theorem aJi:O5.Ok:=by rintro⟨b,h⟩ ⟨h1,h2⟩;have h1:b.length+h.length<=100000000:=h1;have h2:h.length=32:=h2;rw[aJh,ea h2,NX (d:=(b,h)) h1];rfl
theorem NY:O5.RS:=rE [.d tB,.d tB] O5
def ard:=O5.eY aJi
def aDC:(Bs×Bs)->Prop:=λ(b,c)=>b.length+c.length<=90000000
def amD:(Bs×Bs)->Bs:=λ(b,c)=>b++(gO c.length++c)
def acG:Fs Tryz.prog aDC bq amD:=eV 179 Tryz.f179 (λ(b,c)=>([.d tB b,.d tB c],[])) (λx=>⟨.d tB x,[],[]⟩) [av tB,av tB] [aAN,aca] {res:=[av tB]}
theorem aJe(b c)(k:K1 R):acG.A (b,c) k=ao (acH.call (c.length:Int)) λx1=>ao (qu.call [b,x1,c]) λx2=>k (acG.out x2):=cd
theorem aJf:acG.Ok:=by rintro⟨b,c⟩ h;have h:b.length+c.length<=90000000:=h;have hl:=lR c.length;rw[aJe,arh (d:=(c.length:Int)) ⟨aq,aq⟩];simp only[ag,bq,awy];rw[Yi (d:=[b,gO c.length,c]) ⟨by show [b,gO c.length,c].length<=_;simp,by show w8 [b,gO c.length,c]<=_;simp only[w8,jZ,rY,bK,ak];omega⟩];simp only[ag,bq,Wm,bq,amD,jZ,rY,bK]
theorem aDD:acG.RS:=rE [.d tB,.d tB] acG
def aJg:=acG.eY aJf
def Og(b:List Int)(x:ji):List Int:=cQ (b++x.1.1) x.1.2.1
def OR(b:List Int)(o:jV):List Int:=cQ b o.1++(gO (Rc o.2.1).length++Rc o.2.1)
def xl(t:dM):List Int:=cQ (t.2.1.foldl OR (cQ (t.1.foldl Og (cQ [] t.1.length)) t.2.1.length)) t.2.2.1
def agL(b:List Int)(s:Sg):List Int:=b++jo s.1++jo s.2.1
def aAh(b:List Int)(x:ji):List Int:=x.2.1.2.1.foldl agL (cQ (cQ b x.2.1.1) x.2.1.2.1.length)++jo x.2.1.2.2.1
def aSD(t:dM):List Int:=if hP t then t.1.foldl aAh (xl t) else []
def wz(t:dM):List Int:=if hP t then tag (bS (⟨#[116,120]⟩:ByteArray)) [xl t] else ai 32 0
def aY4(x:ji):Prop:=Sm x.1.1/\Sl x.2.1/\x.2.1.2.1.length<=9223372036854775807
def th(t:dM):Prop:=aTX t/\(∀x∈t.1,aY4 x)/\t.2.2.1<=9223372036854775807
theorem mS:∀(l:List ji) (m:List (cz×Bool)),Hw m l=bm->∀x∈l,Kz x=bm
 |[],_,_,x,hx=>by cases hx
 |y::l,m,h,x,hx=>by
  rw[Hw,aw,aw]at h;rcases cq.1 hx with rfl | hx
  ·exact h.1.2
  ·exact mS l _ h.2 x hx
theorem kc:∀(l:List jV) (s:Int),AY s l=bm->∀o∈l,(0<=o.1/\o.1<=1125899906842624)/\lI o.2.1=bm
 |[],_,_,o,ho=>by cases ho
 |y::l,s,h,o,ho=>by
  rw[AY,aw,aw]at h;rcases cq.1 ho with rfl | ho
  ·have h1:=h.1.1;unfold tj ym at h1;simp only[aw,bt]at h1;exact⟨h1.2.1,h.1.2⟩
  ·exact kc l _ h.2 o ho
theorem DH{x:ji}(h:Kz x=bm):0<=x.1.2.1/\x.1.2.1 < 64/\0<=x.2.1.1/\x.2.1.1 < 4/\x.2.1.2.1.length<=12:=by unfold Kz Bn at h;simp only[aw,bt]at h;exact⟨h.1.1,h.1.2,h.2.1.1,h.2.1.2,h.2.2⟩
theorem iq{t:dM}(h:hP t=bm):(1<=t.1.length/\t.1.length<=64/\t.2.1.length<=64/\0<=t.2.2.1)/\Hw [] t.1=bm/\AY 0 t.2.1=bm:=by unfold hP ahu at h;simp only[aw,bt]at h;exact h
theorem ans(b:List Int)(x:ji):(Og b x).length<=b.length+x.1.1.length+11:=by have:=dT (b++x.1.1) x.1.2.1;rw[ak]at this;exact this
theorem aew(b:List Int)(o:jV):(OR b o).length<=b.length+1022:=by have h1:=dT b o.1;have h2:=lR (Rc o.2.1).length;have h3:=Ol o.2.1;unfold OR;rw[ak,ak];omega
theorem auZ(b:List Int)(s:Sg):(agL b s).length=b.length+16:=by unfold agL;rw[ak,ak,cv,cv]
abbrev NC:=dM×Bs×(List ji)×Int×Int
def zS:NC->Bs->((dM)×(Bs)):=λ(fP,b,t13,t14,t15) y=>(fP,y)
abbrev NF:=dM×Bs×(List jV)×Int×Int
def zT:NF->Bs->((dM)×(Bs)):=λ(lS,eU,t35,t36,t37) y=>(lS,y)
def ajf:NC->Prop:=λ(t,b,l,n,i)=>(l).length<=1000000000/\∃k:Nat,k<=(l).length/\i=k/\n=(l).length/\(l.length<=64)/\(∀x∈l,x.1.1.length=32/\x.1.2.1<=9223372036854775807)/\(b.length<=100+50*k)
def FY:NC->Bs:=λ(t,b,l,n,i)=>(bD (ab i) l).foldl Og b
def ajh:NF->Prop:=λ(t,b,l,n,i)=>(l).length<=1000000000/\∃k:Nat,k<=(l).length/\i=k/\n=(l).length/\(l.length<=64)/\(∀o∈l,o.1<=9223372036854775807/\aTV o.2.1)/\(b.length<=4000+1100*k)
def FZ:NF->Bs:=λ(t,b,l,n,i)=>(bD (ab i) l).foldl OR b
def aAa:dM->Prop:=λt=>hP t=bm/\th t
def ahf:dM->Bs:=λt=>xl t
def s8:Ls ajf zS FY:=pD (λ(fP,b,t13,t14,t15)=>⟨([bE,.dz dU fP,bE,.d tB b]++aW 9 ([.d (.slice fo) t13,.d ti t14,.d ti t15]++aW 38 [])),[],(ai 54 [])⟩) (λx=>(.exit 0,⟨([bE,.dz dU x.1,bE,.d tB x.2]++aW 50 []),[],(ai 54 [])⟩))
def s9:Ls ajh zT FZ:=pD (λ(lS,eU,t35,t36,t37)=>⟨([bE,.dz dU lS,bE,.d tB eU]++aW 31 ([.d (.slice fi) t35,.d ti t36,.d ti t37]++aW 16 [])),[],(ai 54 [])⟩) (λx=>(.exit 2,⟨([bE,.dz dU x.1,bE,.d tB x.2]++aW 50 []),[],(ai 54 [])⟩))
def xP:Fs Tryz.prog aAa bq ahf:=eV 109 Tryz.f109 (λt=>([.d dU t],[])) (λx=>⟨.d tB x,[],[]⟩) [av dU] [abA,ard,akm,aJg] {loops:=lz [(3,{bg:=[1,3,13,14,15]}),(9,{bg:=[1,3,35,36,37]})],outs:=lu [(3,{bg:=[1,3]},{bg:=[2]}),(9,{bg:=[1,3]},{bg:=[2]})],fa:=mc [(3,s8.E),(9,s9.E)],res:=[av tB]}
theorem ajg:s8.RS:=rL [.d dU,.d tB,.d (.slice fo),.d ti,.d ti] s8
theorem ND(fP b t13 t14 t15)(kn:K2 R)(kx:K3 R):xP.R 0 s8 (fP,b,t13,t14,t15) kn kx=aJ (fv t15 t14) (aJ (eA t15 (t13.length:Int)) (ao (O5.call (b,(nth fo t13 (ab t15)).1.1)) λx1=>ao (Dr.call (x1,(nth fo t13 (ab t15)).1.2.1)) λx2=>kn (s8.st (fP,x2,t13,t14,(bz .i64 t15 1)))) aH) (s8.go kx (fP,b)):=cd
theorem aji:s9.RS:=rL [.d dU,.d tB,.d (.slice fi),.d ti,.d ti] s9
theorem NG(lS eU t35 t36 t37)(kn:K2 R)(kx:K3 R):xP.R 1 s9 (lS,eU,t35,t36,t37) kn kx=aJ (fv t37 t36) (aJ (eA t37 (t35.length:Int)) (ao (Dr.call (eU,(nth fi t35 (ab t37)).1)) λx1=>ao (vn.call (nth fi t35 (ab t37)).2.1) λx2=>ao (acG.call (x1,x2)) λx3=>kn (s9.st (lS,x3,t35,t36,(bz .i64 t37 1)))) aH) (s9.go kx (lS,eU)):=cd
theorem aHq(t)(k:K1 R):xP.A t k=ao (Dr.call (([]:List Int),(t.1.length:Int))) λx1=>ao (s8.call (t,x1,t.1,(t.1.length:Int),0)) λx4=>ao (Dr.call (x4.2,(x4.1.2.1.length:Int))) λx5=>ao (s9.call (x4.1,x5,x4.1.2.1,(x4.1.2.1.length:Int),0)) λx9=>ao (Dr.call (x9.2,x9.1.2.2.1)) λal6=>k (xP.out al6):=cd
theorem apE:(xP.jx 0 s8):=by
 refine(xP.mf 0 s8) (λ(t,b,l,n,i)=>(l).length - ab i) ?_
 rintro⟨t,b,l,n,i⟩ ⟨hlen,k,hk,rfl,rfl,wZ,hx,hb⟩;have hlen:(l).length<=1000000000:=hlen;have hk:k<=(l).length:=hk;have wZ:l.length<=64:=wZ;have hx:∀x∈l,x.1.1.length=32/\x.1.2.1<=9223372036854775807:=hx;have hb:b.length<=100+50*k:=hb;by_cases h:k < (l).length
 ·left;have n1:nth fo l k=l[k]:=bY (t:=fo) h;have hd:bD k l=l[k]::bD (k+1) l:=au h;refine⟨(t,(Og b l[k]),l,((l).length:Int),((k+1:Nat):Int)),⟨hlen,k+1,aq,rfl,rfl,wZ,hx,by have:=ans b l[k];have:=(hx _ (aK h)).1;omega⟩,by simp only[aa];omega,?_,λkn kx=> ?_⟩
  ·simp only[zS,FY,aa,hd,bn]
  ·rw[ND,aS aq,ba aq aq,aa,n1];simp only[aj];have e:=hx _ (aK h);have e2:(b++l[k].1.1).length=b.length+l[k].1.1.length:=ak;rw[NY (d:=(b,l[k].1.1)) ⟨by show b.length+l[k].1.1.length<=_;omega,e.1⟩];simp only[ag,bq,S0];rw[ki (d:=(b++l[k].1.1,l[k].1.2.1)) ⟨by show(b++l[k].1.1).length<=_;omega,e.2⟩];simp only[ag,bq,qT];rw[N.jL aq];rfl
 ·right;obtain rfl:k=(l).length:=aq;intro R kn kx;rw[ND,aQ aq,al];simp only[zS,FY,aa,aI,ct]
theorem apF:(xP.jx 1 s9):=by
 refine(xP.mf 1 s9) (λ(t,b,l,n,i)=>(l).length - ab i) ?_
 rintro⟨t,b,l,n,i⟩ ⟨hlen,k,hk,rfl,rfl,wZ,hx,hb⟩;have hlen:(l).length<=1000000000:=hlen;have hk:k<=(l).length:=hk;have wZ:l.length<=64:=wZ;have hx:∀o∈l,o.1<=9223372036854775807/\aTV o.2.1:=hx;have hb:b.length<=4000+1100*k:=hb;by_cases h:k < (l).length
 ·left;have n1:nth fi l k=l[k]:=bY (t:=fi) h;have hd:bD k l=l[k]::bD (k+1) l:=au h;refine⟨(t,(OR b l[k]),l,((l).length:Int),((k+1:Nat):Int)),⟨hlen,k+1,aq,rfl,rfl,wZ,hx,by have:=aew b l[k];omega⟩,by simp only[aa];omega,?_,λkn kx=> ?_⟩
  ·simp only[zT,FZ,aa,hd,bn]
  ·rw[NG,aS aq,ba aq aq,aa,n1];simp only[aj];have e:=hx _ (aK h);have e1:=dT b l[k].1;have e2:=Ol l[k].2.1;rw[ki (d:=(b,l[k].1)) ⟨by show b.length<=_;omega,e.1⟩];simp only[ag,bq,qT];rw[adE (d:=l[k].2.1) e.2];simp only[ag,bq,TS];rw[aDD (d:=(cQ b l[k].1,Rc l[k].2.1)) (by show(cQ b l[k].1).length+(Rc l[k].2.1).length<=_;omega)];simp only[ag,bq,amD];rw[N.jL aq];rfl
 ·right;obtain rfl:k=(l).length:=aq;intro R kn kx;rw[NG,aQ aq,al];simp only[zT,FZ,aa,aI,ct]
theorem abI:∀(l:List ji) (b:List Int),(∀x∈l,x.1.1.length=32)->(l.foldl Og b).length<=b.length+43*l.length
 |[],b,_=>az _
 |x::l,b,h=>by
  have h1:=ans b x;have h2:=h x aU;have h3:=abI l (Og b x) λy hy=>h y (aP _ hy)
  rw[bn,aF];omega
theorem Ud:∀(l:List jV) (b:List Int),(l.foldl OR b).length<=b.length+1022*l.length
 |[],b=>az _
 |x::l,b=>by have h1:=aew b x;have h3:=Ud l (OR b x);rw[bn,aF];omega
theorem RA{t:dM}(gX:hP t=bm)(hv:th t):(xl t).length<=70000:=by
 obtain⟨⟨_,a2,a3,_⟩,_,_⟩:=iq gX;have h1:=abI t.1 (cQ [] t.1.length) λx hx=>(hv.2.1 x hx).1.1
 have h2:=dT [] t.1.length;have h3:=dT (t.1.foldl Og (cQ [] t.1.length)) t.2.1.length;have h4:=Ud t.2.1 (cQ (t.1.foldl Og (cQ [] t.1.length)) t.2.1.length);have h5:=dT (t.2.1.foldl OR (cQ (t.1.foldl Og (cQ [] t.1.length)) t.2.1.length)) t.2.2.1;have h0:([]:List Int).length=0:=rfl;unfold xl;omega
theorem aHr:xP.Ok:=by
 rintro t ⟨gX,hv⟩;have hv:th t:=hv;obtain⟨⟨_,a2,a3,_⟩,b1,b2⟩:=iq gX;have h0:([]:List Int).length=0:=rfl;have l0:=dT [] t.1.length;have l1:=abI t.1 (cQ [] t.1.length) λx hx=>(hv.2.1 x hx).1.1
 have l2:=dT (t.1.foldl Og (cQ [] t.1.length)) t.2.1.length;have l3:=Ud t.2.1 (cQ (t.1.foldl Og (cQ [] t.1.length)) t.2.1.length);rw[aHq,ki (d:=([],(t.1.length:Int))) ⟨by show([]:List Int).length<=_;omega,by show(t.1.length:Int)<=_;omega⟩];simp only[ag,bq,qT];rw[ajg (d:=(t,cQ [] t.1.length,t.1,t.1.length,0)) ⟨by show t.1.length<=_;omega,0,aL _,rfl,rfl,a2,λx hx=>⟨(hv.2.1 x hx).1.1,by have:=DH (mS _ _ b1 x hx);omega⟩,by show(cQ [] t.1.length).length<=_;omega⟩];simp only[ag,zS,FY,aT,ay];rw[ki (d:=(t.1.foldl Og (cQ [] t.1.length),(t.2.1.length:Int))) ⟨by show(t.1.foldl Og (cQ [] t.1.length)).length<=_;omega,by show(t.2.1.length:Int)<=_;omega⟩];simp only[ag,bq,qT];rw[aji (d:=(t,cQ (t.1.foldl Og (cQ [] t.1.length)) t.2.1.length,t.2.1,t.2.1.length,0)) ⟨by show t.2.1.length<=_;omega,0,aL _,rfl,rfl,a3,λo ho=>⟨by have:=(kc _ _ b2 o ho).1;omega,hv.1.1 o ho⟩,by show(cQ (t.1.foldl Og (cQ [] t.1.length)) t.2.1.length).length<=_;omega⟩];simp only[ag,zT,FZ,aT,ay];rw[ki (d:=(t.2.1.foldl OR (cQ (t.1.foldl Og (cQ [] t.1.length)) t.2.1.length),t.2.2.1)) ⟨by show(t.2.1.foldl OR (cQ (t.1.foldl Og (cQ [] t.1.length)) t.2.1.length)).length<=_;omega,hv.2.2⟩];rfl
theorem ahg:xP.RS:=rE [.d dU] xP
def alY:=xP.eY aHr 2 ⟨.e7 apE,⟨.e7 apF,trivial⟩⟩
end Go.Ab
end
