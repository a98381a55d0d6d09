/-
  Made short by a program of mine (wip/tools/mini.py).
-/
import Derived.Test.YtodfaneojnkngaaGreatS29x3
import Derived.Test.YtodfaneojnkngaaGreatProg
import Derived.Shelf.SlSortCmp.NoneTotal
set_option linter.unusedVariables false
set_option linter.unusedSimpArgs false
set_option maxRecDepth 100000
set_option synthInstance.maxSize 5000
open List renaming replicate->ab,set->gN,length->ag,take->aW,drop->bZ
open Go renaming FuncId->fV,Program->aT,World->cd
open BitVec renaming ofInt->bo
open Go.World renaming cell?->fq
open Int renaming toNat->ae
open Or renaming inr->fN,inl->mL
open Option renaming some->av,none->aD
open Bool renaming true->aZ,false->aQ
noncomputable section
variable {R:Type}
namespace Go.Ab
open Go.Proofs
def aay:Bs->Prop:=λb=>4<=b.length
def anx:Bs->Int:=λb=>vw (aTe (b.getD 0 0) (b.getD 1 0) (b.getD 2 0) (b.getD 3 0))
def binary:Fs Tryz.prog aay bC anx:=fw 237 Tryz.f237 (λb=>([.d tB b],[])) (λx=>⟨.d (.int .u32) x,[],[]⟩) [av tB]
theorem ay7(b)(k:K1 R):binary.A b k=aL (eL 0 (b.length:Int)) (aL (eL 1 (b.length:Int)) (aL (eL 2 (b.length:Int)) (aL (eL 3 (b.length:Int)) (k (binary.out (cV .or .u32 (cV .or .u32 (cV .or .u32 (nC .u32 (eQ .u32 (nth tb b 0)) 24) (nC .u32 (eQ .u32 (nth tb b 1)) 16)) (nC .u32 (eQ .u32 (nth tb b 2)) 8)) (eQ .u32 (nth tb b 3))))) aD) aD) aD) aD:=cr
theorem ay8:binary.Ok:=by intro b h;have h:4<=b.length:=h;rw[ay7,bj ak ak,bj ak ak,bj ak ak,bj ak ak];simp only[aj,axI,Si,rn];rfl
theorem asO:binary.RS:=rE [.d tB] binary
def ay9:=binary.fC ay8
def rl(w:W)(k:Nat):W:=w <<< k ||| w >>> (32 - k)
def ad5:(Int×Int)->Prop:=λ(x,k)=>0<=x/\x < 4294967296
def aJL:(Int×Int)->Int:=λ(x,k)=>vw (rl (bo 32 x) (k%32).toNat)
def qF:Fs Tryz.prog ad5 bC aJL:=fw 211 Tryz.f211 (λ(x,kv)=>([.d (.int .u32) x,.d ti kv],[])) (λx=>⟨.d (.int .u32) x,[],[]⟩) [av (.int .u32),av ti]
theorem aCI(x kv)(k:K1 R):qF.A (x,kv) k=aL (nE (cV .and .u64 (eQ .u64 kv) 31)) (aL (nE (da .u64 32 (cV .and .u64 (eQ .u64 kv) 31))) (k (qF.out (cV .or .u32 (nC .u32 x (cV .and .u64 (eQ .u64 kv) 31)) (cP .u32 x (da .u64 32 (cV .and .u64 (eQ .u64 kv) 31)))))) aD) aD:=cr
theorem aTd(k:Int):cV .and .u64 (eQ .u64 k) 31=k%32:=by have e:(31:Int)=vw (31:BitVec 64):=rfl;rw[ZK,e,aza];simp only;have:(31:BitVec 64)=BitVec.ofNat 64 (2^5 - 1):=rfl;unfold vw;rw[BitVec.toNat_and,tO,show(31:BitVec 64).toNat=2^5 - 1 from rfl,Nat.and_two_pow_sub_one_eq_mod];omega
theorem aCJ:qF.Ok:=by
 rintro⟨x,k⟩ ⟨h1,h2⟩;have e1:da .u64 32 (k%32)=32 - k%32:=by unfold da;rw[wrap_u64,iS];omega
 have hx:x=vw (bo 32 x):=by rw[iS];omega
 rw[aCI,aTd,e1,uJ ak,uJ ak];simp only[aj];have e2:cV .or .u32 (nC .u32 x (k%32)) (cP .u32 x (32 - k%32))=vw (rl (bo 32 x) (k%32).toNat):=by
  conv=>lhs;rw[hx]
  rw[Si,JW,rn];simp only[rl];congr 3;omega
 rw[e2];rfl
theorem avC:qF.RS:=rE [.d (.int .u32),.d ti] qF
def aiQ:=qF.fC aCJ
theorem aiP(w:W)(k:Int):qF.call (vw w,k)=av (vw (rl w (k%32).toNat)):=by have h:ad5 (vw w,k):=⟨WE w,by have:=aKZ w;simpa using this⟩;rw[avC h];show av (vw (rl (bo 32 (vw w)) (k%32).toNat))=_;rw[vS]
def aDf:Unit->Prop:=λ_=>True
def ayx:Unit->(List Int):=λ_=>Vz
def table:Fs Tryz.prog aDf bC ayx:=fw 210 Tryz.f210 (λ_=>([],[])) (λx=>⟨.d (.arr 64 (.int .u32)) x,[],[]⟩) []
theorem aKs(d)(k:K1 R):table.A d k=k (table.out [1116352408,1899447441,3049323471,3921009573,961987163,1508970993,2453635748,2870763221,3624381080,310598401,607225278,1426881987,1925078388,2162078206,2614888103,3248222580,3835390401,4022224774,264347078,604807628,770255983,1249150122,1555081692,1996064986,2554220882,2821834349,2952996808,3210313671,3336571891,3584528711,113926993,338241895,666307205,773529912,1294757372,1396182291,1695183700,1986661051,2177026350,2456956037,2730485921,2820302411,3259730800,3345764771,3516065817,3600352804,4094571909,275423344,430227734,506948616,659060556,883997877,958139571,1322822218,1537002063,1747873779,1955562222,2024104815,2227730452,2361852424,2428436474,2756734187,3204031479,3329325298]):=cr
theorem aKt:table.Ok:=by intro d _;rw[aKs];rfl
theorem aDg:table.RS:=rE [] table
def aKu:=table.fC aKt
def aAo:Unit->Prop:=λ_=>True
def axz:Unit->(List Int):=λ_=>tZ.l
def first:Fs Tryz.prog aAo bC axz:=fw 171 Tryz.f171 (λ_=>([],[])) (λx=>⟨.d (.arr 8 (.int .u32)) x,[],[]⟩) []
theorem aGR(d)(k:K1 R):first.A d k=k (first.out [1779033703,3144134277,1013904242,2773480762,1359893119,2600822924,528734635,1541459225]):=cr
theorem aGS:first.Ok:=by intro d _;rw[aGR];rfl
theorem aAp:first.RS:=rE [] first
def aGT:=first.fC aGS
abbrev On:=Bs×Int×(List Int)
def wl(l:List W):List Int:=l.map vw
def Jm(l:List W):List Int:=wl l++ab (64 - l.length) 0
def H8(b:List Int)(k:Nat):List W:=if k<=16 then(words b).take k else aLF (words b) (k - 16)
def IG:On->Prop:=λ(b,t8,n2)=>64<=b.length/\∃k:Nat,k<=64/\t8=k/\n2=Jm (H8 b k)
def E3:On->(List Int):=λ(b,t8,n2)=>wl (sched b)
def TA:Bs->Prop:=λb=>64<=b.length
def Qu:Bs->(List Int):=λb=>wl (sched b)
def kE:Ls IG bC E3:=sH (λ(iK,t8,n2)=>⟨([.d tB iK,bH,fx 2]++aS 5 ([.d ti t8]++aS 52 [])),[],([[],[],ed (.d (.arr 64 (.int .u32)) n2)]++bS 58 [])⟩) (λx=>(.exit 0,⟨([bH,bH,fx 2]++aS 58 []),[],([[],[],ed (.d (.arr 64 (.int .u32)) x)]++bS 58 [])⟩))
def schedule:Fs Tryz.prog TA bC Qu:=fw 209 Tryz.f209 (λb=>([.d tB b],[])) (λx=>⟨.d (.arr 64 (.int .u32)) x,[],[]⟩) [av tB] [ay9,aiQ] {loops:=oJ [(2,{ba:=[0,2,8],sites:=[2]})],outs:=oI [(2,{ba:=[2],sites:=[2]},{ba:=[2]})],gf:=nQ [(2,kE.E)]}
theorem Zq:kE.RS:=rL [.d tB,.d ti,.d (.slice (.int .u32))] kE
theorem Gb(iK t8 n2)(kn:K2 R)(kx:K3 R):schedule.R 0 kE (iK,t8,n2) kn kx=aL (gz t8 64) (aL (gz t8 16) (aL (inc (ia .i64 4 t8) (iK.length:Int)) (al (binary.call (cut iK (ae (ia .i64 4 t8)) ((ag iK) - (ae (ia .i64 4 t8))))) λx1=>aL (eL t8 64) (aL (decide ((ae t8) < (ag n2))) (aL (decide ((((ae t8)*1)+0)=(0+((ae t8)*1)))) (aL (decide ((ae t8) < (ag n2))) (kn (kE.st (iK,(bO .i64 t8 1),(gN n2 (ae t8) x1)))) aD) aD) aD) aD) aD) (aL (eL (da .i64 t8 15) 64) (aL (decide ((ae (da .i64 t8 15)) < (ag n2))) (aL (decide ((((ae (da .i64 t8 15))*1)+0)=(0+((ae (da .i64 t8 15))*1)))) (aL (eL (da .i64 t8 2) 64) (aL (decide ((ae (da .i64 t8 2)) < (ag n2))) (aL (decide ((((ae (da .i64 t8 2))*1)+0)=(0+((ae (da .i64 t8 2))*1)))) (al (qF.call ((nth (.int .u32) n2 (ae (da .i64 t8 15))),(-7))) λx2=>al (qF.call ((nth (.int .u32) n2 (ae (da .i64 t8 15))),(-18))) λx3=>al (qF.call ((nth (.int .u32) n2 (ae (da .i64 t8 2))),(-17))) λx4=>al (qF.call ((nth (.int .u32) n2 (ae (da .i64 t8 2))),(-19))) λx5=>aL (eL (da .i64 t8 16) 64) (aL (decide ((ae (da .i64 t8 16)) < (ag n2))) (aL (decide ((((ae (da .i64 t8 16))*1)+0)=(0+((ae (da .i64 t8 16))*1)))) (aL (eL (da .i64 t8 7) 64) (aL (decide ((ae (da .i64 t8 7)) < (ag n2))) (aL (decide ((((ae (da .i64 t8 7))*1)+0)=(0+((ae (da .i64 t8 7))*1)))) (aL (eL t8 64) (aL (decide ((ae t8) < (ag n2))) (aL (decide ((((ae t8)*1)+0)=(0+((ae t8)*1)))) (aL (decide ((ae t8) < (ag n2))) (kn (kE.st (iK,(bO .i64 t8 1),(gN n2 (ae t8) (bO .u32 (bO .u32 (bO .u32 (nth (.int .u32) n2 (ae (da .i64 t8 16))) (cV .xor .u32 (cV .xor .u32 x2 x3) (cP .u32 (nth (.int .u32) n2 (ae (da .i64 t8 15))) 3))) (nth (.int .u32) n2 (ae (da .i64 t8 7)))) (cV .xor .u32 (cV .xor .u32 x4 x5) (cP .u32 (nth (.int .u32) n2 (ae (da .i64 t8 2))) 10))))))) aD) aD) aD) aD) aD) aD) aD) aD) aD) aD) aD) aD) aD) aD) aD) aD)) (kE.go kx n2):=cr
theorem arj(b)(k:K1 R):schedule.A b k=al (kE.call (b,0,(ab 64 0))) λx6=>k (schedule.out x6):=cr
theorem asb(b:List Int)(k:Nat)(h:k<=64):(H8 b k).length=k:=by
 unfold H8;split
 ·simp[fF];omega
 ·rw[C0,fF];omega
theorem aPh(b:List Int):H8 b 64=sched b:=rfl
theorem aDU(b:List Int)(k:Nat)(h:k < 16):H8 b (k+1)=H8 b k++ [be b k]:=by unfold H8;rw[if_pos ak,if_pos ak,ja (by rw[fF];exact h)];simp[words]
theorem aLh(b:List Int)(k:Nat)(h:16<=k):H8 b (k+1)=ext (H8 b k):=by
 unfold H8;rw[if_neg ak];by_cases aVJ:k=16
 ·subst aVJ;rw[if_pos ak,bk (by rw[fF];omega)];rfl
 ·rw[if_neg ak,show k+1 - 16=(k - 16)+1 by omega];rfl
theorem ajC(l:List W)(h:l.length<=64):(Jm l).length=64:=by simp[Jm,wl];omega
theorem LQ(l:List W)(i:Nat)(h:i < l.length):nth (.int .u32) (Jm l) i=vw (l.getD i 0):=by unfold nth Jm wl;rw[aJ,fS (by simpa using h)];simp[h]
theorem ahj(l:List W)(w:W)(h:l.length < 64):(Jm l).set l.length (vw w)=Jm (l++ [w]):=by unfold Jm wl;rw[List.set_append_right _ _ (by simp)];simp only[cm,Nat.sub_self,s8,ai,aB,bl];rw[show 64 - l.length=(64 - (l.length+(0+1)))+1 by omega,List.replicate_succ,List.set_cons_zero];simp
theorem asE(l:List W)(h:l.length=64):Jm l=wl l:=by simp[Jm,h]
theorem aQk(b:List Int)(k:Nat)(h:4*k+4<=b.length):aTe ((cut b (4*k) (b.length - 4*k)).getD 0 0) ((cut b (4*k) (b.length - 4*k)).getD 1 0) ((cut b (4*k) (b.length - 4*k)).getD 2 0) ((cut b (4*k) (b.length - 4*k)).getD 3 0)=be b k:=by
 have e:∀j,j < 4->(cut b (4*k) (b.length - 4*k)).getD j 0=b.getD (4*k+j) 0:=λj hj=>by unfold cut;rw[aJ,aJ,List.getElem?_take_of_lt ak,gK]
 unfold be;rw[e 0 ak,e 1 ak,e 2 ak,e 3 ak,cK]
theorem aem:(schedule.lF 0 kE):=by
 refine(schedule.mY 0 kE) (λ(b,t8,n2)=>64 - t8.toNat) ?_
 rintro⟨b,t8,n2⟩ ⟨hb,k,hk,rfl,rfl⟩;have aSS:=asb b k hk;have aG5:=ajC (H8 b k) ak;by_cases h:k < 64
 ·left;refine⟨(b,((k+1:Nat):Int),Jm (H8 b (k+1))),⟨hb,k+1,ak,rfl,rfl⟩,by simp;omega,rfl,λkn kx=> ?_⟩;have e1:bO .i64 (k:Int) 1=((k+1:Nat):Int):=by rw[gD ak ak];omega
  have e2:ae (k:Int)=k:=ak;rw[Gb,aX ak];simp only[aj,e1,e2,aG5,iJ,aR,cK,cO];by_cases aVJ:k < 16
  ·have e3:ia .i64 4 (k:Int)=((4*k:Nat):Int):=by rw[JT ak ak];omega
   have e4:ae ((4*k:Nat):Int)=4*k:=ak;rw[aX ak,e3,vG ak ak,e4,bj ak ak,aM h];have hp:aay (cut b (4*k) (b.length - 4*k)):=by show 4<=_;rw[GP ak];omega
   simp only[aj,asO hp,ah];have e5:bC (cut b (4*k) (b.length - 4*k)) (anx (cut b (4*k) (b.length - 4*k)))=vw (be b k):=by show vw (aTe _ _ _ _)=_;rw[aQk b k ak]
   have e6:=ahj (H8 b k) (be b k) ak;rw[aSS]at e6;rw[e5,e6,aDU b k aVJ]
  ·have a15:ae (da .i64 (k:Int) 15)=k - 15:=by rw[fh ak ak];omega
   have a2:ae (da .i64 (k:Int) 2)=k - 2:=by rw[fh ak ak];omega
   have a16:ae (da .i64 (k:Int) 16)=k - 16:=by rw[fh ak ak];omega
   have a7:ae (da .i64 (k:Int) 7)=k - 7:=by rw[fh ak ak];omega
   have i15:eL (da .i64 (k:Int) 15) 64=aZ:=bj (by rw[fh ak ak];omega) (by rw[fh ak ak];omega);have i2:eL (da .i64 (k:Int) 2) 64=aZ:=bj (by rw[fh ak ak];omega) (by rw[fh ak ak];omega);have i16:eL (da .i64 (k:Int) 16) 64=aZ:=bj (by rw[fh ak ak];omega) (by rw[fh ak ak];omega);have i7:eL (da .i64 (k:Int) 7) 64=aZ:=bj (by rw[fh ak ak];omega) (by rw[fh ak ak];omega);have i0:eL (k:Int) 64=aZ:=bj ak ak;have d15:decide (k - 15 < 64)=aZ:=aM ak;have d2:decide (k - 2 < 64)=aZ:=aM ak;have d16:decide (k - 16 < 64)=aZ:=aM ak;have d7:decide (k - 7 < 64)=aZ:=aM ak;have d0:decide (k < 64)=aZ:=aM h;rw[aU ak];simp only[aj,ao,a15,a2,a16,a7,i15,i2,i16,i7,i0,d15,d2,d16,d7,d0,LQ (H8 b k) (k - 15) ak,LQ (H8 b k) (k - 2) ak,LQ (H8 b k) (k - 16) ak,LQ (H8 b k) (k - 7) ak,aiP,ah,rn,JW,FC];have e6:=ahj (H8 b k) (aPY (H8 b k) k) ak;rw[aSS]at e6;rw[aLh b k ak,ext,aSS,<-e6];rfl
 ·right;obtain rfl:k=64:=ak;intro R kn kx;rw[Gb,aU ak,asE _ aSS,aPh];simp only[ao,bC,E3]
theorem ark:schedule.Ok:=by intro b hb;have hp:IG (b,0,ab 64 0):=⟨hb,0,ak,rfl,rfl⟩;rw[arj,Zq hp];simp only[ah,bC,E3,bC,Qu]
theorem amf:schedule.RS:=rE [.d tB] schedule
def arl:=schedule.fC ark 1 ⟨.fI aem,trivial⟩
abbrev acs:=(List Int)×Int×(List Int)×(List Int)×(List Int)×(List Int)
def P3:acs->(List Int)->(((List Int)×(List Int))×((List Int))):=λ(R2,t18,n4,n5,n6,n7) y=>((R2,n4),y)
abbrev acw:=(List Int)×Int×(List Int)×(List Int)
def Hh:acw->(List Int)->(((List Int))×((List Int))):=λ(axE,t104,Ci,af7) y=>(Ci,y)
def amw(l:List Int):St:=⟨bo 32 (l.getD 0 0),bo 32 (l.getD 1 0),bo 32 (l.getD 2 0),bo 32 (l.getD 3 0),bo 32 (l.getD 4 0),bo 32 (l.getD 5 0),bo 32 (l.getD 6 0),bo 32 (l.getD 7 0)⟩
theorem pD(s:St):amw s.l=s:=by obtain⟨a,b,c,d,e,f,g,h⟩:=s;simp[amw,St.l,vS]
def aKX(l:List Int):List W:=l.map (bo 32)
theorem HY(l:List W):aKX (wl l)=l:=by
 unfold aKX wl;rw[List.map_map];have:(bo 32∘vw)=(id:W->W):=by funext w;exact vS w
 rw[this,List.map_id]
def acv:acs->Prop:=λ(h,t,n4,n5,n6,n7)=>∃(s:St) (ws:List W) (k:Nat),h=s.l/\n5=wl ws/\ws.length=64/\k<=64/\t=k/\n6=Vz/\n7=(rounds ws s k).l
def acu:acs->(List Int):=λ(h,t,n4,n5,n6,n7)=>(rounds (aKX n5) (amw h) 64).l
def acx:acw->Prop:=λ(h,t,n4,n7)=>n7.length=8/\∃k:Nat,k<=8/\t=k
def SF:acw->(List Int):=λ(h,t,n4,n7)=>from_ (λi x=>bO .u32 x (nth (.int .u32) h i)) t.toNat n7
def alr:((List Int)×Bs)->Prop:=λ(h,b)=>(∃s:St,h=s.l)/\64<=b.length
def ax1:((List Int)×Bs)->(List Int):=λ(h,b)=>(VI (amw h) b).l
def Ez:Ls acv P3 acu:=sH (λ(R2,t18,n4,n5,n6,n7)=>⟨([bH,bH,.dV (.arr 8 (.int .u32)) R2,bH,fx 4,fx 5,fx 6,fx 7]++aS 10 ([.d ti t18]++aS 98 [])),[],(bS 4 ([ed (.d (.arr 8 (.int .u32)) n4),ed (.d (.arr 64 (.int .u32)) n5),ed (.d (.arr 64 (.int .u32)) n6),ed (.d (.arr 8 (.int .u32)) n7)]++bS 109 []))⟩) (λx=>(.exit 0,⟨([bH,bH,.dV (.arr 8 (.int .u32)) x.1.1,bH,fx 4,bH,bH,fx 7]++aS 109 []),[],(bS 4 ([ed (.d (.arr 8 (.int .u32)) x.1.2),[],[],ed (.d (.arr 8 (.int .u32)) x.2)]++bS 109 []))⟩))
def Hg:Ls acx Hh SF:=sH (λ(axE,t104,Ci,af7)=>⟨([bH,bH,.dV (.arr 8 (.int .u32)) axE,bH,fx 4,bH,bH,fx 7]++aS 96 ([.d ti t104]++aS 12 [])),[],(bS 4 ([ed (.d (.arr 8 (.int .u32)) Ci),[],[],ed (.d (.arr 8 (.int .u32)) af7)]++bS 109 []))⟩) (λx=>(.exit 2,⟨(aS 4 ([fx 4,bH,bH,fx 7]++aS 109 [])),[],(bS 4 ([ed (.d (.arr 8 (.int .u32)) x.1),[],[],ed (.d (.arr 8 (.int .u32)) x.2)]++bS 109 []))⟩))
def mix:Fs Tryz.prog alr bC ax1:=fw 172 Tryz.f172 (λ(h,b)=>([.d (.arr 8 (.int .u32)) h,.d tB b],[])) (λx=>⟨.d (.arr 8 (.int .u32)) x,[],[]⟩) [av (.arr 8 (.int .u32)),av tB] [arl,aKu,aiQ] {loops:=oJ [(4,{ba:=[2,4,5,6,7,18],sites:=[4,5,6,7]}),(13,{ba:=[2,4,7,104],sites:=[4,7]})],outs:=oI [(4,{ba:=[2,4,7],sites:=[4,7]},{ba:=[4]}),(13,{ba:=[4,7],sites:=[4,7]},{ba:=[4]})],gf:=nQ [(4,Ez.E),(13,Hg.E)]}
theorem auw:Ez.RS:=rL [.d (.arr 8 (.int .u32)),.d ti,.d (.slice (.int .u32)),.d (.slice (.int .u32)),.d (.slice (.int .u32)),.d (.slice (.int .u32))] Ez
theorem XP(R2 t18 n4 n5 n6 n7)(kn:K2 R)(kx:K3 R):mix.R 0 Ez (R2,t18,n4,n5,n6,n7) kn kx=aL (gz t18 64) (aL (decide (4 < (ag n7))) (al (qF.call ((nth (.int .u32) n7 4),(-6))) λx1=>aL (decide (4 < (ag n7))) (al (qF.call ((nth (.int .u32) n7 4),(-11))) λx2=>aL (decide (4 < (ag n7))) (al (qF.call ((nth (.int .u32) n7 4),(-25))) λx3=>aL (decide (7 < (ag n7))) (aL (decide (6 < (ag n7))) (aL (decide (4 < (ag n7))) (aL (decide (5 < (ag n7))) (aL (decide (6 < (ag n7))) (aL (eL t18 64) (aL (decide ((ae t18) < (ag n6))) (aL (decide ((((ae t18)*1)+0)=(0+((ae t18)*1)))) (aL (eL t18 64) (aL (decide ((ae t18) < (ag n5))) (aL (decide ((((ae t18)*1)+0)=(0+((ae t18)*1)))) (aL (decide (0 < (ag n7))) (al (qF.call ((nth (.int .u32) n7 0),(-2))) λx4=>aL (decide (0 < (ag n7))) (al (qF.call ((nth (.int .u32) n7 0),(-13))) λx5=>aL (decide (0 < (ag n7))) (al (qF.call ((nth (.int .u32) n7 0),(-22))) λx6=>aL (decide (0 < (ag n7))) (aL (decide (1 < (ag n7))) (aL (decide (2 < (ag n7))) (aL (decide (0 < (ag n7))) (aL (decide (1 < (ag n7))) (aL (decide (0 < (ag n7))) (aL (decide (1 < (ag n7))) (aL (decide (2 < (ag n7))) (aL (decide (3 < (ag n7))) (aL (decide (4 < (ag n7))) (aL (decide (5 < (ag n7))) (aL (decide (6 < (ag n7))) (kn (Ez.st (R2,(bO .i64 t18 1),n4,n5,n6,[(bO .u32 (bO .u32 (bO .u32 (bO .u32 (bO .u32 (bO .u32 (nth (.int .u32) n7 7) (cV .xor .u32 (cV .xor .u32 x1 x2) x3)) (cV .xor .u32 (nth (.int .u32) n7 6) (cV .and .u32 (nth (.int .u32) n7 4) (cV .xor .u32 (nth (.int .u32) n7 5) (nth (.int .u32) n7 6))))) (nth (.int .u32) n6 (ae t18))) (nth (.int .u32) n5 (ae t18))) (cV .xor .u32 (cV .xor .u32 x4 x5) x6)) (cV .or .u32 (cV .and .u32 (nth (.int .u32) n7 0) (nth (.int .u32) n7 1)) (cV .and .u32 (nth (.int .u32) n7 2) (cV .or .u32 (nth (.int .u32) n7 0) (nth (.int .u32) n7 1))))),(nth (.int .u32) n7 0),(nth (.int .u32) n7 1),(nth (.int .u32) n7 2),(bO .u32 (nth (.int .u32) n7 3) (bO .u32 (bO .u32 (bO .u32 (bO .u32 (nth (.int .u32) n7 7) (cV .xor .u32 (cV .xor .u32 x1 x2) x3)) (cV .xor .u32 (nth (.int .u32) n7 6) (cV .and .u32 (nth (.int .u32) n7 4) (cV .xor .u32 (nth (.int .u32) n7 5) (nth (.int .u32) n7 6))))) (nth (.int .u32) n6 (ae t18))) (nth (.int .u32) n5 (ae t18)))),(nth (.int .u32) n7 4),(nth (.int .u32) n7 5),(nth (.int .u32) n7 6)]))) aD) aD) aD) aD) aD) aD) aD) aD) aD) aD) aD) aD) aD) aD) aD) aD) aD) aD) aD) aD) aD) aD) aD) aD) aD) aD) aD) aD) aD) (Ez.go kx ((R2,n4),n7)):=cr
theorem auy:Hg.RS:=rL [.d (.arr 8 (.int .u32)),.d ti,.d (.slice (.int .u32)),.d (.slice (.int .u32))] Hg
theorem XQ(axE t104 Ci af7)(kn:K2 R)(kx:K3 R):mix.R 1 Hg (axE,t104,Ci,af7) kn kx=aL (gz t104 8) (aL (eL t104 8) (aL (decide ((ae t104) < (ag af7))) (aL (decide ((((ae t104)*1)+0)=(0+((ae t104)*1)))) (aL (eL t104 8) (aL (eL t104 8) (aL (decide ((ae t104) < (ag af7))) (aL (decide ((((ae t104)*1)+0)=(0+((ae t104)*1)))) (aL (decide ((ae t104) < (ag af7))) (kn (Hg.st (axE,(bO .i64 t104 1),Ci,(gN af7 (ae t104) (bO .u32 (nth (.int .u32) af7 (ae t104)) (nth (.int .u32) axE (ae t104))))))) aD) aD) aD) aD) aD) aD) aD) aD) (Hg.go kx (Ci,af7)):=cr
theorem aRF(h b)(k:K1 R):mix.A (h,b) k=al (schedule.call b) λx1=>al (table.call ()) λx2=>al (Ez.call (h,0,(ab 8 0),x1,x2,h)) λx9=>al (Hg.call (x9.1.1,0,x9.1.2,x9.2)) λasd=>k (mix.out asd.2):=cr
theorem St.apx(s:St):s.l.length=8:=rfl
theorem XD:Vz.length=64:=rfl
theorem apw(k:Nat)(h:k < 64):nth (.int .u32) Vz k=vw (kw k):=by
 have hh:∀k:Fin 64,nth (.int .u32) Vz k.val=vw (kw k.val):=by decide+kernel
 exact hh ⟨k,h⟩
theorem WK(ws:List W)(k:Nat)(h:k < ws.length):nth (.int .u32) (wl ws) k=vw (ws.getD k 0):=by unfold nth wl;simp[h]
theorem aZr(w:W):rl w ((-6:Int)%32).toNat=xr w 6:=rfl
theorem aW1(w:W):rl w ((-11:Int)%32).toNat=xr w 11:=rfl
theorem aW4(w:W):rl w ((-25:Int)%32).toNat=xr w 25:=rfl
theorem aZq(w:W):rl w ((-2:Int)%32).toNat=xr w 2:=rfl
theorem aW2(w:W):rl w ((-13:Int)%32).toNat=xr w 13:=rfl
theorem aW3(w:W):rl w ((-22:Int)%32).toNat=xr w 22:=rfl
theorem n0(s:St):nth (.int .u32) s.l 0=vw s.a:=rfl
theorem n1(s:St):nth (.int .u32) s.l 1=vw s.b:=rfl
theorem n2(s:St):nth (.int .u32) s.l 2=vw s.c:=rfl
theorem n3(s:St):nth (.int .u32) s.l 3=vw s.d:=rfl
theorem n4(s:St):nth (.int .u32) s.l 4=vw s.e:=rfl
theorem n5(s:St):nth (.int .u32) s.l 5=vw s.f:=rfl
theorem n6(s:St):nth (.int .u32) s.l 6=vw s.g:=rfl
theorem n7(s:St):nth (.int .u32) s.l 7=vw s.h:=rfl
theorem aBn:(mix.lF 0 Ez):=by
 refine(mix.mY 0 Ez) (λ(h,t,n4,n5,n6,n7)=>64 - t.toNat) ?_
 rintro⟨h,t,m4,m5,m6,m7⟩ ⟨s,ws,k,rfl,rfl,hw,hk,rfl,rfl,rfl⟩;by_cases iA:k < 64
 ·left;refine⟨(s.l,((k+1:Nat):Int),m4,wl ws,Vz,(rounds ws s (k+1)).l),⟨s,ws,k+1,rfl,rfl,hw,ak,rfl,rfl,rfl⟩,by simp;omega,rfl,λkn kx=> ?_⟩;have e1:bO .i64 (k:Int) 1=((k+1:Nat):Int):=by rw[gD ak ak];omega
  have e2:ae (k:Int)=k:=ak;have aSS:(wl ws).length=64:=by simp[wl,hw]
  have d0:decide (k < 64)=aZ:=aM iA;have i0:eL (k:Int) 64=aZ:=bj ak ak;rw[XP,aX ak];generalize hv:rounds ws s k=v;simp only[e1,e2,iJ,aR,cK,cO,aj,St.apx,Nat.reduceLT,XD,aSS,d0,i0,n0,n1,n2,n3,n4,n5,n6,n7,aiP,ah,apw k iA,WK ws k ak,rn,FC,aZr,aW1,aW4,aZq,aW2,aW3];show kn _=kn (Ez.st (s.l,((k+1:Nat):Int),m4,wl ws,Vz,(mY (rounds ws s k) (kw k) (ws.getD k 0)).l));rw[hv];rfl
 ·right;obtain rfl:k=64:=ak;intro R kn kx;rw[XP,aU ak];simp only[ao,P3,acu,HY,pD]
theorem aBo:(mix.lF 1 Hg):=by
 refine(mix.mY 1 Hg) (λ(h,t,n4,n7)=>8 - t.toNat) ?_
 rintro⟨h,t,m4,m7⟩ ⟨hl,k,hk,rfl⟩;have hl:m7.length=8:=hl;have e2:ae (k:Int)=k:=ak;have e3:ae ((k+1:Nat):Int)=k+1:=ak;by_cases iA:k < 8
 ·left;have e1:bO .i64 (k:Int) 1=((k+1:Nat):Int):=by rw[gD ak ak];omega
  have hn:nth (.int .u32) m7 k=m7[k]:=cg (t:= .int .u32) ak;refine⟨(h,((k+1:Nat):Int),m4,m7.set k (bO .u32 m7[k] (nth (.int .u32) h k))),⟨by simpa using hl,k+1,ak,rfl⟩,by simp;omega,?_,λkn kx=> ?_⟩
  ·simp only[Hh,SF,e2,e3];rw[Md (λi x=>bO .u32 x (nth (.int .u32) h i)) m7 k ak]
  ·have d0:decide (k < 8)=aZ:=aM iA;have i0:eL (k:Int) 8=aZ:=bj ak ak;rw[XQ,aX ak];simp only[e1,e2,iJ,aR,cK,cO,aj,hl,d0,i0,hn]
 ·right;obtain rfl:k=8:=ak;intro R kn kx;rw[XQ,aU ak];simp only[ao,Hh,SF,e2];rw[R0 _ _ _ ak]
theorem aRG:mix.Ok:=by
 rintro⟨h,b⟩ ⟨⟨s,rfl⟩,hb⟩;have hs:TA b:=hb;have axH:(sched b).length=64:=by unfold sched;rw[C0,fF]
 have hp:acv (s.l,0,ab 8 0,wl (sched b),Vz,s.l):=⟨s,sched b,0,rfl,rfl,axH,ak,rfl,rfl,rfl⟩;rw[aRF,amf hs];simp only[ah,aDg (d:=()) trivial,bC,Qu,bC,ayx,auw hp,P3,acu,HY,pD];have aLA:acx (s.l,0,ab 8 0,(rounds (sched b) s 64).l):=⟨rfl,0,ak,rfl⟩;simp only[auy aLA,ah,Hh,SF,bC,ax1,pD];unfold VI;generalize rounds (sched b) s 64=v;obtain⟨a1,b1,c1,d1,f1,g1,h1,i1⟩:=v;simp only[St.l,from_,List.mapIdx_cons,List.mapIdx_nil,bg,Nat.not_lt_zero,bA,aR,Nat.reduceAdd];simp only[nth,j6,sj,FC]
theorem ax2:mix.RS:=rE [.d (.slice (.int .u32)),.d tB] mix
def aRH:=mix.fC aRG 2 ⟨.fI aBn,⟨.fI aBo,trivial⟩⟩
theorem uI(n:Int)(k:Int)(h0:0<=k)(h1:k<=64):eQ .u8 (cP .i64 n k)=n / 2^k.toNat%256:=by
 rw[Vp,iS,cP];have e:min k.toNat IntKind.i64.bits=k.toNat:=by simp only[IntKind.bits];omega
 rw[e,kW _ (Int.le_of_lt (Int.pow_pos ak))];rfl
theorem Ga{n:Nat}(h:n<=140737488355328):dw n 1=aZ:=dC ak ak
def aaX:Bs->Prop:=λb=>b.length<=140737488355328
def JA:Bs->(Nat×(List Int)):=λb=>(b.length,b)
def BP:Fs Tryz.prog aaX bC JA:=fw 170 Tryz.f170 (λsv=>([.d tB sv],[])) (λx=>⟨.bE (.new 0 0) 0 [] 0 0 x.1,[],[.obj 0 aQ (.vec 5 tb x.2)]⟩) [av tB] [] {bT:=[5],owns:=[⟨2,[],5,127⟩]}
theorem azP(sv)(k:K1 R):BP.A sv k=aL (decide (0 < (ag sv))) (aL (dw (0+(ag sv)) 1) (k (BP.out ((0+(ag sv)),((aW 0 (ab 0 0))++sv)))) aD) (nd (k (BP.out (0,([]:List Int)))) (aL (dw (0+(ag sv)) 1) (k (BP.out ((0+(ag sv)),((aW 0 (ab 0 0))++sv)))) aD)):=cr
theorem azQ:BP.Ok:=by
 intro b hb;have hr:dw b.length 1=aZ:=Ga hb;rw[azP];have e0:(aW 0 (ab 0 0):List Int)=[]:=rfl;simp only[aR,hr,aj,e0,aY,bC,JA];by_cases h:0 < b.length
 ·simp only[aM h,aj]
 ·have:b=[]:=bK ak;subst this;simp only[bl,AQ,aV (iV 0),ao]
theorem Pd:BP.RS:=rE [.d tB] BP
def U0:=BP.fC azQ
def aBa:Int->Prop:=λ_=>True
def axV:Int->(Nat×(List Int)):=λn=>(8,jV n)
def ach:Fs Tryz.prog aBa bC axV:=fw 111 Tryz.f111 (λn=>([.dy,.d ti n],[])) (λx=>⟨.bE (.new 0 0) 0 [] 0 0 x.1,[],[.obj 0 aQ (.vec 5 tb x.2)]⟩) [aD,av ti] [] {loops:=oJ [(2,{ba:=[0,1,5],sites:=[16]})],outs:=oI [(2,{ba:=[0],sites:=[16]},{ba:=[4],sites:=[16]})],owns:=[⟨4,[],16,127⟩]} 12
theorem aH0(n)(k:K1 R):ach.A n k=k (ach.out (8,[(eQ .u8 (cP .i64 n 56)),(eQ .u8 (cP .i64 n 48)),(eQ .u8 (cP .i64 n 40)),(eQ .u8 (cP .i64 n 32)),(eQ .u8 (cP .i64 n 24)),(eQ .u8 (cP .i64 n 16)),(eQ .u8 (cP .i64 n 8)),(eQ .u8 (cP .i64 n 0))])):=cr
theorem asK(n:Int): [eQ .u8 (cP .i64 n 56),eQ .u8 (cP .i64 n 48),eQ .u8 (cP .i64 n 40),eQ .u8 (cP .i64 n 32),eQ .u8 (cP .i64 n 24),eQ .u8 (cP .i64 n 16),eQ .u8 (cP .i64 n 8),eQ .u8 (cP .i64 n 0)]=jV n:=by rw[uI n 56 ak ak,uI n 48 ak ak,uI n 40 ak ak,uI n 32 ak ak,uI n 24 ak ak,uI n 16 ak ak,uI n 8 ak ak,uI n 0 ak ak];simp[jV]
theorem aH1:ach.Ok:=by intro n _;rw[aH0,asK];rfl
theorem aBb:ach.RS:=rE [.d ti] ach
def aH2:=ach.aVk aBy aH1 1 ⟨.none cr,trivial⟩
def VE:(Nat×Int×Bs)->Prop:=λ(m,n,l)=>m=l.length/\l.length<=140737488355320
def ZS:(Nat×Int×Bs)->(Nat×(List Int)):=λ(m,n,l)=>(l.length+8,l++jV n)
def XH:Fs Tryz.prog VE bC ZS:=fw 111 Tryz.f111 (λ(bL,n,o0)=>([.bE (.bt 0) 0 [] 0 0 bL,.d ti n],[.obj 0 aQ (.vec 5 tb o0)])) (λx=>⟨.bE (.bt 0) 8 [] 0 0 x.1,[.obj 8 aQ (.vec 5 tb x.2)],[]⟩) [aD,av ti] [] {loops:=oJ [(2,{ba:=[0,1,5],sites:=[16]})],outs:=oI [(2,{ba:=[0],sites:=[16]},{ba:=[4],sites:=[16]})]} 12
theorem aH3(bL n o0)(k:K1 R):XH.A (bL,n,o0) k=aL (decide (bL<=(ag o0))) (aL (dw (bL+1) 1) (aL (decide ((bL+1)<=(ag ((aW bL o0)++ [(eQ .u8 (cP .i64 n 56))])))) (aL (dw ((bL+1)+1) 1) (aL (decide (((bL+1)+1)<=(ag ((aW (bL+1) ((aW bL o0)++ [(eQ .u8 (cP .i64 n 56))]))++ [(eQ .u8 (cP .i64 n 48))])))) (aL (dw (((bL+1)+1)+1) 1) (aL (decide ((((bL+1)+1)+1)<=(ag ((aW ((bL+1)+1) ((aW (bL+1) ((aW bL o0)++ [(eQ .u8 (cP .i64 n 56))]))++ [(eQ .u8 (cP .i64 n 48))]))++ [(eQ .u8 (cP .i64 n 40))])))) (aL (dw ((((bL+1)+1)+1)+1) 1) (aL (decide (((((bL+1)+1)+1)+1)<=(ag ((aW (((bL+1)+1)+1) ((aW ((bL+1)+1) ((aW (bL+1) ((aW bL o0)++ [(eQ .u8 (cP .i64 n 56))]))++ [(eQ .u8 (cP .i64 n 48))]))++ [(eQ .u8 (cP .i64 n 40))]))++ [(eQ .u8 (cP .i64 n 32))])))) (aL (dw (((((bL+1)+1)+1)+1)+1) 1) (aL (decide ((((((bL+1)+1)+1)+1)+1)<=(ag ((aW ((((bL+1)+1)+1)+1) ((aW (((bL+1)+1)+1) ((aW ((bL+1)+1) ((aW (bL+1) ((aW bL o0)++ [(eQ .u8 (cP .i64 n 56))]))++ [(eQ .u8 (cP .i64 n 48))]))++ [(eQ .u8 (cP .i64 n 40))]))++ [(eQ .u8 (cP .i64 n 32))]))++ [(eQ .u8 (cP .i64 n 24))])))) (aL (dw ((((((bL+1)+1)+1)+1)+1)+1) 1) (aL (decide (((((((bL+1)+1)+1)+1)+1)+1)<=(ag ((aW (((((bL+1)+1)+1)+1)+1) ((aW ((((bL+1)+1)+1)+1) ((aW (((bL+1)+1)+1) ((aW ((bL+1)+1) ((aW (bL+1) ((aW bL o0)++ [(eQ .u8 (cP .i64 n 56))]))++ [(eQ .u8 (cP .i64 n 48))]))++ [(eQ .u8 (cP .i64 n 40))]))++ [(eQ .u8 (cP .i64 n 32))]))++ [(eQ .u8 (cP .i64 n 24))]))++ [(eQ .u8 (cP .i64 n 16))])))) (aL (dw (((((((bL+1)+1)+1)+1)+1)+1)+1) 1) (aL (decide ((((((((bL+1)+1)+1)+1)+1)+1)+1)<=(ag ((aW ((((((bL+1)+1)+1)+1)+1)+1) ((aW (((((bL+1)+1)+1)+1)+1) ((aW ((((bL+1)+1)+1)+1) ((aW (((bL+1)+1)+1) ((aW ((bL+1)+1) ((aW (bL+1) ((aW bL o0)++ [(eQ .u8 (cP .i64 n 56))]))++ [(eQ .u8 (cP .i64 n 48))]))++ [(eQ .u8 (cP .i64 n 40))]))++ [(eQ .u8 (cP .i64 n 32))]))++ [(eQ .u8 (cP .i64 n 24))]))++ [(eQ .u8 (cP .i64 n 16))]))++ [(eQ .u8 (cP .i64 n 8))])))) (aL (dw ((((((((bL+1)+1)+1)+1)+1)+1)+1)+1) 1) (k (XH.out (((((((((bL+1)+1)+1)+1)+1)+1)+1)+1),((aW (((((((bL+1)+1)+1)+1)+1)+1)+1) ((aW ((((((bL+1)+1)+1)+1)+1)+1) ((aW (((((bL+1)+1)+1)+1)+1) ((aW ((((bL+1)+1)+1)+1) ((aW (((bL+1)+1)+1) ((aW ((bL+1)+1) ((aW (bL+1) ((aW bL o0)++ [(eQ .u8 (cP .i64 n 56))]))++ [(eQ .u8 (cP .i64 n 48))]))++ [(eQ .u8 (cP .i64 n 40))]))++ [(eQ .u8 (cP .i64 n 32))]))++ [(eQ .u8 (cP .i64 n 24))]))++ [(eQ .u8 (cP .i64 n 16))]))++ [(eQ .u8 (cP .i64 n 8))]))++ [(eQ .u8 (cP .i64 n 0))])))) aD) aD) aD) aD) aD) aD) aD) aD) aD) aD) aD) aD) aD) aD) aD) aD:=cr
theorem aH4:XH.Ok:=by rintro⟨m,n,l⟩ ⟨rfl,hl⟩;have hl:l.length<=140737488355320:=hl;rw[aH3];simp only[ay,cO,aj,bk,ai,aB,bl,aR];rw[Ga ak,Ga ak,Ga ak,Ga ak,Ga ak,Ga ak,Ga ak,Ga ak];simp only[aj,bC,ZS,<-asK,aI,iI,aY]
theorem aic:XH.RS:=rE [.n,.d ti,.d tB] XH
def apE:=XH.aVk ai5 aH4 1 ⟨.none cr,trivial⟩
abbrev Vj:=Bs×Nat×Bs×(List Int)
abbrev ah3:=Nat×(List Int)
def Dr:Vj->ah3->((Bs×Bs)×(Nat×(List Int))):=λ(iK,endL,n2,n14) y=>((iK,n2),y)
abbrev Vk:=Bs×Nat×Bs×(List Int)×(List Int)
def Ds:Vk->(List Int)->((Nat×Bs×(List Int))×((List Int))):=λ(Uv,Px,lG,n4,acD) y=>((Px,lG,acD),y)
abbrev Vl:=Bs×Bs×(List Int)
def Dt:Vl->(List Int)->((Bs)×((List Int))):=λ(endv,uj,Ci) y=>(uj,y)
abbrev ah4:=Int×Bs×(List Int)
def zc(n:Nat):Nat:=(120 - n%64)%64
def Xs:Vj->Prop:=λ(b,m,n2,l)=>m=l.length/\l.length+zc l.length<=140737488355328
def Mf:Vj->ah3:=λ(b,m,n2,l)=>(l.length+zc l.length,l++ab (zc l.length) 0)
def Xt:Vk->Prop:=λ(b,m,n2,h,l)=>∃s:St,h=s.l
def Mg:Vk->(List Int):=λ(b,m,n2,h,l)=>(blocks (amw h) b).l
def Xu:Vl->Prop:=λ(b,n2,h)=>b.length%64=0/\∃s:St,h=s.l
def Mh:Vl->(List Int):=λ(b,n2,h)=>(blocks (amw h) b).l
def Nc(h:List Int)(i:Nat)(_:Int):Int:=eQ .u8 (cP .u32 (nth (.int .u32) h (i / 4)) ((24 - 8*(i%4):Nat):Int))
def Xv:ah4->Prop:=λ(t,n2,h)=>n2.length=32/\h.length=8/\∃k:Nat,k<=32/\t=k
def Mi:ah4->Bs:=λ(t,n2,h)=>from_ (Nc h) t.toNat n2
def apf:Bs->Prop:=λb=>b.length<=140737488350000
def at3:Bs->Bs:=λb=>aR4 b
def Az:Ls Xs Dr Mf:=sH (λ(iK,endL,n2,n14)=>⟨([.d tB iK,bH,fx 2,pc 14 endL]++aS 61 []),[],([[],[],ed (.d tH n2)]++bS 11 ([ed (.vec 5 tb n14)]++bS 50 []))⟩) (λx=>(.exit 0,⟨([.d tB x.1.1,bH,fx 2,pc 14 x.2.1]++aS 61 []),[],([[],[],ed (.d tH x.1.2)]++bS 11 ([ed (.vec 5 tb x.2.2)]++bS 50 []))⟩))
def AA:Ls Xt Ds Mg:=sH (λ(Uv,Px,lG,n4,acD)=>⟨([.d tB Uv,bH,fx 2,.bE (.new 14 0) 8 [] 0 0 Px,fx 4]++aS 60 []),[],([[],[],ed (.d tH lG),[],ed (.d (.arr 8 (.int .u32)) n4)]++bS 9 ([[.obj 8 aQ (.vec 5 tb acD)]]++bS 50 []))⟩) (λx=>(.exit 2,⟨([bH,bH,fx 2,.bE (.new 14 0) 8 [] 0 0 x.1.1,fx 4]++aS 60 []),[],([[],[],ed (.d tH x.1.2.1),[],ed (.d (.arr 8 (.int .u32)) x.2)]++bS 9 ([[.obj 8 aQ (.vec 5 tb x.1.2.2)]]++bS 50 []))⟩))
def AB:Ls Xu Dt Mh:=sH (λ(endv,uj,Ci)=>⟨([bH,bH,fx 2,.d tB endv,fx 4]++aS 60 []),[],([[],[],ed (.d tH uj),[],ed (.d (.arr 8 (.int .u32)) Ci)]++bS 60 [])⟩) (λx=>(.exit 4,⟨([bH,bH,fx 2,bH,fx 4]++aS 60 []),[],([[],[],ed (.d tH x.1),[],ed (.d (.arr 8 (.int .u32)) x.2)]++bS 60 [])⟩))
def AD:Ls Xv bC Mi:=sH (λ(t48,P4,SM)=>⟨([bH,bH,fx 2,bH,fx 4]++aS 43 ([.d ti t48]++aS 16 [])),[],([[],[],ed (.d tH P4),[],ed (.d (.arr 8 (.int .u32)) SM)]++bS 60 [])⟩) (λx=>(.exit 6,⟨([bH,bH,fx 2]++aS 62 []),[],([[],[],ed (.d tH x)]++bS 62 [])⟩))
def FB:Fs Tryz.prog apf bC at3:=fw 112 Tryz.f112 (λb=>([.d tB b],[])) (λx=>⟨.d tH x,[],[]⟩) [av tB] [U0,apE,aGT,aRH] {loops:=oJ [(2,{ba:=[0,2,3],sites:=[2,14],owns:=[⟨3,[],14,127⟩]}),(6,{ba:=[0,2,3,4],sites:=[2,4,14]}),(9,{ba:=[2,3,4],sites:=[2,4],data:=[(3,tB)]}),(13,{ba:=[2,4,48],sites:=[2,4]})],outs:=oI [(2,{ba:=[0,2,3],sites:=[2,14]},{ba:=[2]}),(6,{ba:=[2,3,4],sites:=[2,4,14]},{ba:=[2]}),(9,{ba:=[2,4],sites:=[2,4]},{ba:=[2]}),(13,{ba:=[2],sites:=[2]},{ba:=[2]})],gf:=nQ [(2,Az.E),(6,AA.E),(9,AB.E),(13,AD.E)]}
theorem apb:Az.RS:=rL [.d tB,.n,.d tB,.d tB] Az
theorem R6(iK endL n2 n14)(kn:K2 R)(kx:K3 R):FB.R 0 Az (iK,endL,n2,n14) kn kx=aL (zg (nP ((endL:Nat):Int) 64) 56) (aL (decide (endL<=(ag n14))) (aL (dw (endL+1) 1) (kn (Az.st (iK,(endL+1),n2,((aW endL n14)++ [0])))) aD) aD) (Az.go kx ((iK,n2),(endL,n14))):=cr
theorem apc:AA.RS:=rL [.d tB,.n,.d tB,.d (.slice (.int .u32)),.d tB] AA
theorem R7(Uv Px lG n4 acD)(kn:K2 R)(kx:K3 R):FB.R 1 AA (Uv,Px,lG,n4,acD) kn kx=aL (Dv (Uv.length:Int) 64) (aL (inc 64 (Uv.length:Int)) (al (mix.call (n4,(cut Uv 0 64))) λx1=>aL (inc 64 (Uv.length:Int)) (kn (AA.st ((cut Uv 64 ((ag Uv) - 64)),Px,lG,x1,acD))) aD) aD) (AA.go kx ((Px,lG,acD),n4)):=cr
theorem apd:AB.RS:=rL [.d tB,.d tB,.d (.slice (.int .u32))] AB
theorem R8(endv uj Ci)(kn:K2 R)(kx:K3 R):FB.R 2 AB (endv,uj,Ci) kn kx=aL (pJ (endv.length:Int) 0) (aL (inc 64 (endv.length:Int)) (al (mix.call (Ci,(cut endv 0 64))) λx1=>aL (inc 64 (endv.length:Int)) (kn (AB.st ((cut endv 64 ((ag endv) - 64)),uj,x1))) aD) aD) (AB.go kx (uj,Ci)):=cr
theorem ape:AD.RS:=rL [.d ti,.d tB,.d (.slice (.int .u32))] AD
theorem R9(t48 P4 SM)(kn:K2 R)(kx:K3 R):FB.R 3 AD (t48,P4,SM) kn kx=aL (gz t48 32) (aL (eL (uX .i64 t48 4) 8) (aL (decide ((ae (uX .i64 t48 4)) < (ag SM))) (aL (decide ((((ae (uX .i64 t48 4))*1)+0)=(0+((ae (uX .i64 t48 4))*1)))) (aL (nE (da .i64 24 (ia .i64 8 (nP t48 4)))) (aL (eL t48 32) (aL (decide ((ae t48) < (ag P4))) (aL (decide ((((ae t48)*1)+0)=(0+((ae t48)*1)))) (aL (decide ((ae t48) < (ag P4))) (kn (AD.st ((bO .i64 t48 1),(gN P4 (ae t48) (eQ .u8 (cP .u32 (nth (.int .u32) SM (ae (uX .i64 t48 4))) (da .i64 24 (ia .i64 8 (nP t48 4)))))),SM))) aD) aD) aD) aD) aD) aD) aD) aD) (AD.go kx P4):=cr
theorem aNg(b)(k:K1 R):FB.A b k=aL (inc (da .i64 (b.length:Int) (nP (b.length:Int) 64)) (b.length:Int)) (al (BP.call (cut b (ae (da .i64 (b.length:Int) (nP (b.length:Int) 64))) ((ag b) - (ae (da .i64 (b.length:Int) (nP (b.length:Int) 64)))))) λx1=>aL (decide (x1.1<=(ag x1.2))) (aL (dw (x1.1+1) 1) (al (Az.call (b,(x1.1+1),(ab 32 0),((aW x1.1 x1.2)++ [128]))) λx2=>al (XH.call (x2.2.1,(ia .i64 8 (x2.1.1.length:Int)),x2.2.2)) λx3=>al (first.call ()) λx4=>al (AA.call (x2.1.1,x3.1,x2.1.2,x4,x3.2)) λx6=>aL (decide (0=0/\(0+x6.1.1)<=(ag x6.1.2.2))) (al (AB.call ((cut x6.1.2.2 0 x6.1.1),x6.1.2.1,x6.2)) λx9=>al (AD.call (0,x9.1,x9.2)) λasd=>k (FB.out asd)) aD) aD) aD) aD:=cr
theorem at4:(FB.lF 0 Az):=by
 refine(FB.mY 0 Az) (λ(b,m,n2,l)=>zc l.length) ?_
 rintro⟨b,m,n2,l⟩ ⟨rfl,hl⟩;have hl:l.length+zc l.length<=140737488355328:=hl;have hr:nP ((l.length:Nat):Int) 64=((l.length%64:Nat):Int):=by unfold nP;rw[iW ak];omega
 by_cases h:l.length%64=56
 ·right;intro R kn kx;have hz:zc l.length=0:=by unfold zc;omega
  rw[R6,hr,dP ak];simp only[ao,Dr,Mf,hz,cK,List.replicate_zero,bm]
 ·left;have hz:zc l.length=zc (l.length+1)+1:=by unfold zc;omega
  refine⟨(b,l.length+1,n2,l++ [0]),⟨by simp,by simp only[ai,aB,bl,aR];omega⟩,by simp only[ai,aB,bl,aR];omega,?_,λkn kx=> ?_⟩
  ·simp only[Dr,Mf,ai,aB,bl,aR,hz,aI,iI,aY,List.replicate_succ];rw[show l.length+1+zc (l.length+1)=l.length+(zc (l.length+1)+1) by omega]
  ·rw[R6,hr,fD ak,Ga ak];simp only[aj,ay,cO,bQ]
theorem at5:(FB.lF 1 AA):=by
 refine(FB.mY 1 AA) (λ(b,m,n2,h,l)=>b.length) ?_
 rintro⟨b,m,n2,h,l⟩ ⟨s,rfl⟩;by_cases hb:64<=b.length
 ·left;have e1:cut b 64 (b.length - 64)=b.drop 64:=by unfold cut;rw[bk (by simp)]
  have e2:cut b 0 64=b.take 64:=rfl;have hp:alr (s.l,b.take 64):=⟨⟨s,rfl⟩,by simp;omega⟩;refine⟨(b.drop 64,m,n2,(VI s (b.take 64)).l,l),⟨_,rfl⟩,by simp;omega,?_,λkn kx=> ?_⟩
  ·simp only[Ds,Mg,pD];rw[Jt s b hb]
  ·rw[R7,hZ ak,vG ak ak,e1,e2];simp only[aj,ax2 hp,ah,bC,ax1,pD]
 ·right;intro R kn kx;rw[R7,ff ak];simp only[ao,Ds,Mg,pD];rw[Gt s b ak]
theorem at6:(FB.lF 2 AB):=by
 refine(FB.mY 2 AB) (λ(b,n2,h)=>b.length) ?_
 rintro⟨b,n2,h⟩ ⟨hm,s,rfl⟩;have hm:b.length%64=0:=hm;by_cases hb:0 < b.length
 ·left;have e1:cut b 64 (b.length - 64)=b.drop 64:=by unfold cut;rw[bk (by simp)]
  have e2:cut b 0 64=b.take 64:=rfl;have hp:alr (s.l,b.take 64):=⟨⟨s,rfl⟩,by simp;omega⟩;refine⟨(b.drop 64,n2,(VI s (b.take 64)).l),⟨by simp;omega,_,rfl⟩,by simp;omega,?_,λkn kx=> ?_⟩
  ·simp only[Dt,Mh,pD];rw[Jt s b ak]
  ·rw[R8,dd ak,vG ak ak,e1,e2];simp only[aj,ax2 hp,ah,bC,ax1,pD]
 ·right;intro R kn kx;rw[R8,cH ak];simp only[ao,Dt,Mh,pD];rw[Gt s b ak]
theorem at7:(FB.lF 3 AD):=by
 refine(FB.mY 3 AD) (λ(t,n2,h)=>32 - t.toNat) ?_
 rintro⟨t,m,h⟩ ⟨hl,h8,k,hk,rfl⟩;have hl:m.length=32:=hl;have h8:h.length=8:=h8;have e2:ae (k:Int)=k:=ak;have e3:ae ((k+1:Nat):Int)=k+1:=ak;by_cases iA:k < 32
 ·left;have e1:bO .i64 (k:Int) 1=((k+1:Nat):Int):=by rw[gD ak ak];omega
  have q4:uX .i64 (k:Int) 4=((k / 4:Nat):Int):=by
   have:(k:Int).tdiv 4=((k / 4:Nat):Int):=by rw[kX ak];omega
   unfold uX;rw[this,vE ak ak]
  have r4:nP (k:Int) 4=((k%4:Nat):Int):=by unfold nP;rw[iW ak];omega
  have s4:da .i64 24 (ia .i64 8 ((k%4:Nat):Int))=((24 - 8*(k%4):Nat):Int):=by rw[JT ak ak,fh ak ak];omega
  have e4:ae ((k / 4:Nat):Int)=k / 4:=ak;refine⟨(((k+1:Nat):Int),m.set k (Nc h k m[k]),h),⟨by simpa using hl,h8,k+1,ak,rfl⟩,by simp;omega,?_,λkn kx=> ?_⟩
  ·simp only[bC,Mi,e2,e3];rw[Md (Nc h) m k ak]
  ·have d0:decide (k < 32)=aZ:=aM iA;have d1:decide (k / 4 < 8)=aZ:=aM ak;rw[R9,aX ak,q4,r4,s4,bj ak ak,bj ak ak,uJ ak];simp only[e1,e2,e4,iJ,aR,cK,cO,aj,hl,h8,d0,d1,Nc]
 ·right;obtain rfl:k=32:=ak;intro R kn kx;rw[R9,aU ak];simp only[ao,bC,Mi,e2];rw[R0 _ _ _ ak]
theorem aBF(w:W):bo 8 (vw w)=w.setWidth 8:=by apply BitVec.eq_of_toNat_eq;rw[tO,BitVec.toNat_setWidth];unfold vw;omega
theorem aQy(w:W)(k:Int):eQ .u8 (cP .u32 (vw w) k)=vw ((w >>> k.toNat).setWidth 8):=by rw[JW,Vp,aBF]
theorem ayb(s:St):from_ (Nc s.l) 0 (ab 32 0)=aN7 s:=by rw[abF];simp only[List.range_eq_range',List.range',bY,iY,Nc,Nat.reduceAdd,Nat.reduceDiv,Nat.reduceMod,Nat.reduceMul,Nat.reduceSub,n0,n1,n2,n3,n4,n5,n6,n7,aQy];rfl
theorem aNh:FB.Ok:=by
 intro b hb;have hb:b.length<=140737488350000:=hb;have hr:nP ((b.length:Nat):Int) 64=((b.length%64:Nat):Int):=by unfold nP;rw[iW ak];omega
 have hs:da .i64 ((b.length:Nat):Int) ((b.length%64:Nat):Int)=((b.length - b.length%64:Nat):Int):=by rw[fh ak ak];omega
 have hn:ae ((b.length - b.length%64:Nat):Int)=b.length - b.length%64:=ak;have hm:ia .i64 8 ((b.length:Nat):Int)=8*(b.length:Int):=JT ak ak;generalize hq:b.length - b.length%64=q at hs hn;have hc:cut b q (b.length - q)=b.drop q:=by unfold cut;rw[bk (by simp)]
 have asi:(b.drop q).length=b.length%64:=by simp;omega
 have p1:aaX (b.drop q):=by show(b.drop q).length<=_;omega
 rw[aNg,hr,hs,vG ak ak,hn,hc];simp only[aj,Pd p1,ah,bC,JA,ay,cO,bQ];have p2:Xs (b,(b.drop q).length+1,ab 32 0,b.drop q++ [128]):=by refine⟨by simp,?_⟩;simp only[ai,aB,bl,zc];omega
 have hz:zc (b.drop q++ [128]).length=Co b.length:=by simp only[ai,aB,bl,zc,Co];omega
 rw[Ga ak];simp only[aj,apb p2,ah,Dr,Mf,hm,hz];have hlen:(b.drop q++ [128]).length+Co b.length=(b.drop q++ [128]++ab (Co b.length) 0).length:=by rw[@ai _ (b.drop q++ [128]),cD]
 have p3:VE ((b.drop q++ [128]).length+Co b.length,8*(b.length:Int),b.drop q++ [128]++ab (Co b.length) 0):=by refine⟨hlen,?_⟩;simp only[ai,aB,bl,cD,Co];omega
 have p4:Xt (b,(b.drop q++ [128]++ab (Co b.length) 0).length+8,ab 32 0,tZ.l,b.drop q++ [128]++ab (Co b.length) 0++jV (8*(b.length:Int))):=⟨tZ,rfl⟩;simp only[aic p3,ah,bC,ZS,aAp (d:=()) trivial,bC,axz,apc p4,Ds,Mg,pD];generalize he:b.drop q++ [128]++ab (Co b.length) 0++jV (8*(b.length:Int))=e;have MQ:(b.drop q++ [128]++ab (Co b.length) 0).length+8=e.length:=by rw[<-he,@ai _ _ (jV _),cJ]
 have aSL:e.length%64=0:=by rw[<-MQ];simp only[ai,aB,bl,cD,Co,asi];omega
 have aQ3:cut e 0 ((b.drop q++ [128]++ab (Co b.length) 0).length+8)=e:=by rw[MQ];unfold cut;rw[aG,bQ]
 rw[aQ3,MQ,aM ⟨trivial,ak⟩];have p5:Xu (e,ab 32 0,(blocks tZ b).l):=⟨aSL,blocks tZ b,rfl⟩;have p6:Xv (0,ab 32 0,(blocks (blocks tZ b) e).l):=⟨rfl,rfl,0,ak,rfl⟩;simp only[aj,apd p5,ah,Dt,Mh,pD,ape p6,bC,Mi,bC,at3];rw[show ae 0=0 from rfl,ayb];have aSH:blocks tZ (pad b)=blocks (blocks tZ b) e:=by
  have h1:pad b=b.take q++e:=by rw[<-he];unfold pad;rw[aI,aI,<-aI (b.take q),dH];rfl
  have h2:blocks tZ b=blocks (blocks tZ (b.take q)) (b.drop q):=by rw[<-M9 _ _ _ (by simp;omega),dH]
  rw[h1,M9 _ _ _ (by simp;omega),h2,Gt _ (b.drop q) ak]
 rw[aR4,aSH]
theorem aHl:FB.RS:=rE [.d tB] FB
def aNi:=FB.fC aNh 4 ⟨.fI at4,⟨.fI at5,⟨.fI at6,⟨.fI at7,trivial⟩⟩⟩⟩
abbrev Vn:=Nat×(List Bs)×Int×Int×Bs×(List Int)
abbrev ah5:=Nat×(List Int)
def Du:Vn->ah5->((Bs)×(Nat×(List Int))):=λ(bL,t13,t14,t15,n4,n10) y=>(n4,y)
abbrev aHm:=ByteArray×(List Bs)
def Xw:Vn->Prop:=λ(m,ps,n,i,n4,l)=>m=l.length/\n=ps.length/\ps.length<=140737488350000/\∃k:Nat,k<=ps.length/\i=k/\l.length+(pL (ps.drop k)).length<=140737488350000
def Mj:Vn->ah5:=λ(m,ps,n,i,n4,l)=>(l.length+(pL (ps.drop i.toNat)).length,l++pL (ps.drop i.toNat))
def Sb:aHm->Prop:=λ(name,ps)=>(Ww (bN name) ps).length<=140737488350000
def akY:aHm->Bs:=λ(name,ps)=>tag (bN name) ps
def AE:Ls Xw Du Mj:=sH (λ(bL,t13,t14,t15,n4,n10)=>⟨(aS 4 ([fx 4,pc 10 bL]++aS 7 ([.d (.slice tB) t13,.d ti t14,.d ti t15]++aS 12 []))),[],(bS 4 ([ed (.d tH n4)]++bS 5 ([ed (.vec 5 tb n10)]++bS 17 [])))⟩) (λx=>(.exit 0,⟨(aS 4 ([fx 4,pc 10 x.2.1]++aS 22 [])),[],(bS 4 ([ed (.d tH x.1)]++bS 5 ([ed (.vec 5 tb x.2.2)]++bS 17 [])))⟩))
def Vm:Fs Tryz.prog Sb bC akY:=fw 68 Tryz.f68 (λ(name,parts)=>([.d .str name,.d (.slice tB) parts],[])) (λx=>⟨.d tH x,[],[]⟩) [av .str,av (.slice tB)] [aH2,apE,aNi] {loops:=oJ [(3,{ba:=[4,5,13,14,15],sites:=[4,10],owns:=[⟨5,[],10,127⟩]})],outs:=oI [(3,{ba:=[4,5],sites:=[4,10]},{ba:=[4]})],gf:=nQ [(3,AE.E)]}
theorem apg:AE.RS:=rL [.n,.d (.slice tB),.d ti,.d ti,.d tB,.d tB] AE
theorem Sa(bL t13 t14 t15 n4 n10)(kn:K2 R)(kx:K3 R):Vm.R 0 AE (bL,t13,t14,t15,n4,n10) kn kx=aL (gz t15 t14) (aL (eL t15 (t13.length:Int)) (al (XH.call (bL,(((ag (nth tB t13 (ae t15))):Nat):Int),n10)) λx1=>aL (decide (x1.1<=(ag x1.2))) (aL (dw (x1.1+(ag (nth tB t13 (ae t15)))) 1) (kn (AE.st ((x1.1+(ag (nth tB t13 (ae t15)))),t13,t14,(bO .i64 t15 1),n4,((aW x1.1 x1.2)++(nth tB t13 (ae t15)))))) aD) aD) aD) (AE.go kx (n4,(bL,n10))):=cr
theorem aNj(name parts)(k:K1 R):Vm.A (name,parts) k=al (ach.call (((ByteArray.size name):Nat):Int)) λx1=>aL (decide (x1.1<=(ag x1.2))) (aL (dw (x1.1+(ag (bN name))) 1) (al (AE.call ((x1.1+(ag (bN name))),parts,(parts.length:Int),0,(ab 32 0),((aW x1.1 x1.2)++(bN name)))) λx4=>aL (decide (0=0/\(0+x4.2.1)<=(ag x4.2.2))) (al (FB.call (cut x4.2.2 0 x4.2.1)) λx5=>k (Vm.out x5)) aD) aD) aD:=cr
theorem ai7(p:List Int)(ps:List (List Int)):pL (p::ps)=jV p.length++p++pL ps:=by simp[pL]
theorem ai8(ps:List (List Int))(k:Nat)(h:k < ps.length):pL (ps.drop k)=jV ps[k].length++ps[k]++pL (ps.drop (k+1)):=by rw[aq h,ai7]
theorem at8:(Vm.lF 0 AE):=by
 refine(Vm.mY 0 AE) (λ(m,ps,n,i,n4,l)=>ps.length - i.toNat) ?_
 rintro⟨m,ps,n,i,n4,l⟩ ⟨rfl,rfl,QP,k,hk,rfl,hl⟩;have hl:l.length+(pL (ps.drop k)).length<=140737488350000:=hl;have hk:k<=ps.length:=hk;have e2:ae (k:Int)=k:=ak;have e3:ae ((k+1:Nat):Int)=k+1:=ak;by_cases h:k < ps.length
 ·left;have ht:=ai8 ps k h;have hlen:(pL (ps.drop k)).length=8+ps[k].length+(pL (ps.drop (k+1))).length:=by rw[ht];simp only[ai,cJ]
  have hn:nth (.slice (.int .u8)) ps k=ps[k]:=cg (t:= .slice (.int .u8)) h;have QP:ps.length<=140737488350000:=QP;have e1:bO .i64 (k:Int) 1=((k+1:Nat):Int):=by rw[gD ak ak];omega
  refine⟨((l++jV ps[k].length++ps[k]).length,ps,(ps.length:Int),((k+1:Nat):Int),n4,l++jV ps[k].length++ps[k]),⟨rfl,rfl,QP,k+1,by show k+1<=ps.length;omega,rfl,?_⟩,?_,?_,λkn kx=> ?_⟩
  ·show(l++jV ps[k].length++ps[k]).length+(pL (ps.drop (k+1))).length<=_;simp only[ai,cJ];omega
  ·show ps.length - ae ((k+1:Nat):Int) < ps.length - ae (k:Int);omega
  ·simp only[Du,Mj,e2,e3,ht,aI];simp only[ai,cJ,fy]
  ·have p1:VE (l.length,(ps[k].length:Int),l):=⟨rfl,by show l.length<=_;omega⟩;rw[Sa,aX ak,bj ak ak,e1,e2];simp only[aj,hn,aic p1,ah,bC,ZS];have aLz:(l++jV ps[k].length).length=l.length+8:=by simp[cJ]
   rw[aLz,aM (ay _),Ga ak];simp only[aj];rw[bk (by rw[aLz];omega)];simp only[ai,cJ,fy]
 ·right;obtain rfl:k=ps.length:=ak;intro R kn kx;rw[Sa,aU ak];simp only[ao,Du,Mj,e2,aN];simp[pL]
theorem aeK:∀ps:List (List Int),8*ps.length<=(pL ps).length
 |[]=>by simp[pL]
 |p::ps=>by rw[ai7];have:=aeK ps;simp only[ai,cJ,aB];omega
theorem l9(s:ByteArray):(bN s).length=s.size:=by simp only[bN,cm,c9];rfl
theorem aNk:Vm.Ok:=by
 rintro⟨name,ps⟩ hp;have hp:(jV (bN name).length++bN name++pL ps).length<=140737488350000:=hp;have hl:(jV (bN name).length++bN name++pL ps).length=8+(bN name).length+(pL ps).length:=by simp only[ai,cJ]
 have QP:=aeK ps;have uW:((name.size:Nat):Int)=(((bN name).length:Nat):Int):=by rw[l9]
 rw[aNj,aBb (d:=((name.size:Nat):Int)) trivial,uW];simp only[ah,bC,axV,cJ,ay,cO,aj];rw[Ga ak,bk (by rw[cJ];omega)];have p2:Xw (8+(bN name).length,ps,(ps.length:Int),0,ab 32 0,jV ((bN name).length:Int)++bN name):=by refine⟨by simp only[ai,cJ],rfl,by show ps.length<=_;omega,0,aP _,rfl,?_⟩;rw[aG];simp only[ai,cJ];omega
 simp only[aj,apg p2,ah,Du,Mj,bg,aG];have aAI:cut (jV ((bN name).length:Int)++bN name++pL ps) 0 ((jV ((bN name).length:Int)++bN name).length+(pL ps).length)=Ww (bN name) ps:=by unfold cut;rw[aG,bk (by simp only[ai];omega)];rfl
 have p3:apf (Ww (bN name) ps):=hp;rw[aM ⟨trivial,by simp only[ai];omega⟩,aAI];simp only[aj,aHl p3,ah,bC,at3,bC,akY,tag]
theorem Sc:Vm.RS:=rE [.d .str,.d (.slice tB)] Vm
def ZJ:=Vm.fC aNk 1 ⟨.fI at8,trivial⟩
def aiU:(Int×Int)->Prop:=λ(x,n)=>0<=x/\x < 4294967296/\0<=n/\n<=32
def aOF:(Int×Int)->Int:=λ(x,n)=>vw (xr (bo 32 x) n.toNat)
def qG:Fs Tryz.prog aiU bC aOF:=fw 222 Tryz.f222 (λ(x,n)=>([.d (.int .u32) x,.d ti n],[])) (λx=>⟨.d (.int .u32) x,[],[]⟩) [av (.int .u32),av ti]
theorem aJV(x n)(k:K1 R):qG.A (x,n) k=aL (nE n) (aL (nE (da .i64 32 n)) (k (qG.out (cV .or .u32 (cP .u32 x n) (nC .u32 x (da .i64 32 n))))) aD) aD:=cr
theorem aJW:qG.Ok:=by
 rintro⟨x,n⟩ ⟨h1,h2,h3,h4⟩;obtain⟨n,rfl⟩:=Int.eq_ofNat_of_zero_le h3;have hx:x=vw (bo 32 x):=by rw[iS];have h1:0<=x:=h1;have h2:x < 4294967296:=h2;omega
 have h4:(n:Int)<=32:=h4;rw[aJV];simp(disch:=omega) only[↓S1,↓if_pos,↓if_neg,if_pos,if_neg,bM,bA,S2];have e2:cV .or .u32 (cP .u32 x (n:Int)) (nC .u32 x ((32 - n:Nat):Int))=vw (xr (bo 32 x) n):=by
  conv=>lhs;rw[hx]
  rw[Si,JW,rn];simp only[xr,aa];rw[BitVec.or_comm]
 rw[e2];rfl
theorem aCN:qG.RS:=rE [.d (.int .u32),.d ti] qG
def aq9:=qG.fC aJW
theorem Cy(w:W){k:Int}(h:0<=k/\k<=32):qG.call (vw w,k)=av (vw (xr w k.toNat)):=by have h:aiU (vw w,k):=⟨WE w,by have:=aKZ w;simpa using this,h.1,h.2⟩;rw[aCN h];show av (vw (xr (bo 32 (vw w)) k.toNat))=_;rw[vS]
def aqW:Unit->Prop:=λ_=>True
def aiK:Unit->(List Int):=λ_=>tZ.l
def HB:Fs Tryz.prog aqW bC aiK:=fw 189 Tryz.f189 (λ_=>([],[])) (λx=>⟨.d (.slice (.int .u32)) x,[],[]⟩) [] [] {bT:=[1],res:=[av (.slice (.int .u32))]}
theorem avx(d)(k:K1 R):HB.A d k=k (HB.out [1779033703,3144134277,1013904242,2773480762,1359893119,2600822924,528734635,1541459225]):=cr
theorem avy:HB.Ok:=by intro d _;rw[avx];rfl
theorem aqX:HB.RS:=rE [] HB
def avz:=HB.fC avy
def aCp:Unit->Prop:=λ_=>True
def ayl:Unit->(List Int):=λ_=>Vz
def adO:Fs Tryz.prog aCp bC ayl:=fw 221 Tryz.f221 (λ_=>([],[])) (λx=>⟨.d (.slice (.int .u32)) x,[],[]⟩) [] [] {bT:=[1],res:=[av (.slice (.int .u32))]}
theorem aJi(d)(k:K1 R):adO.A d k=k (adO.out [1116352408,1899447441,3049323471,3921009573,961987163,1508970993,2453635748,2870763221,3624381080,310598401,607225278,1426881987,1925078388,2162078206,2614888103,3248222580,3835390401,4022224774,264347078,604807628,770255983,1249150122,1555081692,1996064986,2554220882,2821834349,2952996808,3210313671,3336571891,3584528711,113926993,338241895,666307205,773529912,1294757372,1396182291,1695183700,1986661051,2177026350,2456956037,2730485921,2820302411,3259730800,3345764771,3516065817,3600352804,4094571909,275423344,430227734,506948616,659060556,883997877,958139571,1322822218,1537002063,1747873779,1955562222,2024104815,2227730452,2361852424,2428436474,2756734187,3204031479,3329325298]):=cr
theorem aJj:adO.Ok:=by intro d _;rw[aJi];rfl
theorem aCq:adO.RS:=rE [] adO
def aJk:=adO.fC aJj
abbrev HE:=Bs×Nat×(List Int)
abbrev Tp:=Nat×(List Int)
def vW:HE->Tp->((Bs)×(Nat×(List Int))):=λ(iK,outL,n6) y=>(iK,y)
abbrev Tq:=Nat×Int×Int×(List Int)
def KU:HE->Prop:=λ(b,m,l)=>m=l.length/\l.length+zc l.length<=140737488355328
def A3:HE->Tp:=λ(b,m,l)=>(l.length+zc l.length,l++ab (zc l.length) 0)
def KV:Tq->Prop:=λ(m,n,kv,l)=>0<=n/\n < 18446744073709551616/\∃j:Nat,j<=8/\kv=56 - 8*(j:Int)/\m=l.length/\l.length<=140737488355320+j
def A4:Tq->(Nat×(List Int)):=λ(m,n,kv,l)=>(l.length+(jV n).length - (7 - (kv / 8)).toNat,l++(jV n).drop (7 - (kv / 8)).toNat)
def Yl:Bs->Prop:=λb=>b.length<=140737488350000
def Wa:Bs->Bs:=λb=>pad b
def oM:Ls KU vW A3:=sH (λ(iK,outL,n6)=>⟨([.d tB iK,bH,bH,pc 6 outL]++aS 31 []),[],(bS 6 ([ed (.vec 5 tb n6)]++bS 28 []))⟩) (λx=>(.exit 0,⟨([.d tB x.1,bH,bH,pc 6 x.2.1]++aS 31 []),[],(bS 6 ([ed (.vec 5 tb x.2.2)]++bS 28 []))⟩))
def oN:Ls KV bC A4:=sH (λ(Ki,n,kv,aBs)=>⟨([bH,bH,bH,pc 6 Ki,.d tu n,.d ti kv]++aS 29 []),[],(bS 6 ([ed (.vec 5 tb aBs)]++bS 28 []))⟩) (λx=>(.exit 2,⟨([bH,bH,bH,pc 6 x.1]++aS 31 []),[],(bS 6 ([ed (.vec 5 tb x.2)]++bS 28 []))⟩))
def rP:Fs Tryz.prog Yl bC Wa:=fw 188 Tryz.f188 (λb=>([.d tB b],[])) (λx=>⟨.d tB x,[],[]⟩) [av tB] [] {bT:=[6],loops:=oJ [(3,{ba:=[0,3],sites:=[6],owns:=[⟨3,[],6,127⟩]}),(7,{ba:=[3,4,5],sites:=[6],owns:=[⟨3,[],6,127⟩]})],outs:=oI [(3,{ba:=[0,3],sites:=[6]},{ba:=[2]}),(7,{ba:=[3],sites:=[6]},{ba:=[2]})],gf:=nQ [(3,oM.E),(7,oN.E)],res:=[av tB]}
theorem aeb:oM.RS:=rL [.d tB,.n,.d tB] oM
theorem IC(iK outL n6)(kn:K2 R)(kx:K3 R):rP.R 0 oM (iK,outL,n6) kn kx=aL (zg (nP ((outL:Nat):Int) 64) 56) (aL (decide (outL<=(ag n6))) (aL (dw (outL+1) 1) (kn (oM.st (iK,(outL+1),((aW outL n6)++ [0])))) aD) aD) (oM.go kx (iK,(outL,n6))):=cr
theorem aec:oN.RS:=rL [.n,.d tu,.d ti,.d tB] oN
theorem ID(Ki n kv aBs)(kn:K2 R)(kx:K3 R):rP.R 1 oN (Ki,n,kv,aBs) kn kx=aL (Dv kv 0) (aL (nE kv) (aL (decide (Ki<=(ag aBs))) (aL (dw (Ki+1) 1) (kn (oN.st ((Ki+1),n,(da .i64 kv 8),((aW Ki aBs)++ [(eQ .u8 (cP .u64 n kv))])))) aD) aD) aD) (oN.go kx (Ki,aBs)):=cr
theorem avF(b)(k:K1 R):rP.A b k=aL (dw (0+(ag b)) 1) (aL (decide ((0+(ag b))<=(ag ((aW 0 (ab 0 0))++b)))) (aL (dw ((0+(ag b))+1) 1) (al (oM.call (b,((0+(ag b))+1),((aW (0+(ag b)) ((aW 0 (ab 0 0))++b))++ [128]))) λx1=>al (oN.call (x1.2.1,(ia .u64 8 (eQ .u64 (x1.1.length:Int))),56,x1.2.2)) λx2=>aL (decide (0=0/\(0+x2.1)<=(ag x2.2))) (k (rP.out (cut x2.2 0 x2.1))) aD) aD) aD) aD:=cr
theorem agx:(rP.lF 0 oM):=by
 refine(rP.mY 0 oM) (λ(b,m,l)=>zc l.length) ?_
 rintro⟨b,m,l⟩ ⟨rfl,hl⟩;have hl:l.length+zc l.length<=140737488355328:=hl;by_cases h:l.length%64=56
 ·right;intro R kn kx;have hz:zc l.length=0:=by unfold zc;omega
  rw[IC];simp(disch:=omega) only[↓S1,↓if_pos,↓if_neg,if_pos,if_neg,bM,bA,S2,vW,A3,hz,cK,List.replicate_zero,bm]
 ·left;have hz:zc l.length=zc (l.length+1)+1:=by unfold zc;omega
  refine⟨(b,l.length+1,l++ [0]),⟨by simp,by simp only[ai,aB,bl,aR];omega⟩,by simp only[ai,aB,bl,aR];omega,?_,λkn kx=> ?_⟩
  ·simp only[vW,A3,ai,aB,bl,aR,hz,aI,iI,aY,List.replicate_succ];rw[show l.length+1+zc (l.length+1)=l.length+(zc (l.length+1)+1) by omega]
  ·rw[IC];simp(disch:=omega) only[↓S1,↓if_pos,↓if_neg,if_pos,if_neg,bM,bA,S2,bQ]
theorem anu(n:Int)(j:Nat)(h:j < 8):(jV n).drop j=n / 2^(56 - 8*j)%256::(jV n).drop (j+1):=by rcases(by omega:j=0\/j=1\/j=2\/j=3\/j=4\/j=5\/j=6\/j=7) with rfl | rfl | rfl | rfl | rfl | rfl | rfl | rfl <;> simp[jV]
theorem afg(n:Int)(k:Nat)(h1:k<=64):eQ .u8 (cP .u64 n (k:Int))=n / 2^k%256:=by
 rw[Vp,iS,cP];have e:min (k:Int).toNat IntKind.u64.bits=k:=by simp only[IntKind.bits];omega
 rw[e,kW _ (Int.le_of_lt (Int.pow_pos ak))];rfl
theorem agy:(rP.lF 1 oN):=by
 refine(rP.mY 1 oN) (λ(m,n,kv,l)=>(kv+8).toNat) ?_
 rintro⟨m,n,kv,l⟩ ⟨h1,h2,j,hj,rfl,rfl,hl⟩;have hl:l.length<=140737488355320+j:=hl;have e1:(7 - ((56 - 8*(j:Int)) / 8)).toNat=j:=ak;by_cases h:j < 8
 ·left;have e2:da .i64 (56 - 8*(j:Int)) 8=56 - 8*((j+1:Nat):Int):=by rw[fh ak ak];omega
  have e3:(7 - ((56 - 8*((j+1:Nat):Int)) / 8)).toNat=j+1:=ak;have e4:(56 - 8*(j:Int))=((56 - 8*j:Nat):Int):=ak;refine⟨(l.length+1,n,56 - 8*((j+1:Nat):Int),l++ [n / 2^(56 - 8*j)%256]),⟨h1,h2,j+1,ak,rfl,by simp,by simp only[ai,aB,bl];omega⟩,by simp only;omega,?_,λkn kx=> ?_⟩
  ·simp only[bC,A4,e1,e3,anu n j h,ai,aB,bl,aI,iI,aY,cJ];rw[show l.length+(0+1)+8 - (j+1)=l.length+8 - j by omega]
  ·rw[ID,e2,e4,afg n _ ak];simp(disch:=omega) only[↓S1,↓if_pos,↓if_neg,if_pos,if_neg,bM,bA,S2,bQ]
 ·right;obtain rfl:j=8:=ak;intro R kn kx;rw[ID];simp(disch:=omega) only[↓S1,↓if_pos,↓if_neg,if_pos,if_neg,bM,bA,S2,bC,A4,e1];simp[jV]
theorem avG:rP.Ok:=by
 intro b hb;have hb:b.length<=140737488350000:=hb;have hz:zc (b++ [128]).length=Co b.length:=by simp only[ai,aB,bl,zc,Co];omega
 have aZV:Co b.length < 64:=by unfold Co;omega
 have p1:KU (b,b.length+1,b++ [128]):=⟨by simp,by rw[hz];simp only[ai,aB,bl] <;> omega⟩;have e1:eQ .u64 ((b.length:Nat):Int)=((b.length:Nat):Int):=by rw[ZK,iS];omega
 have e2:ia .u64 8 ((b.length:Nat):Int)=8*(b.length:Int):=by unfold ia;rw[wrap_u64,iS];omega
 have e3:aW b.length b=b:=bQ;rw[avF];simp only[List.replicate_zero,List.take_nil,aY,aR,e1,e2,e3];simp(disch:=omega) only[↓S1,↓if_pos,↓if_neg,if_pos,if_neg,bM,bA,S2,aeb p1,vW,A3,hz];have p2:KV ((b++ [128]).length+Co b.length,8*(b.length:Int),56,b++ [128]++ab (Co b.length) 0):=by refine⟨ak,ak,0,ak,rfl,by simp only[ai,aB,bl,cD] <;> omega,?_⟩;simp only[ai,aB,bl,cD];omega
 simp(disch:=omega) only[↓S1,↓if_pos,↓if_neg,if_pos,if_neg,bM,bA,S2,e1,e2,aec p2,bC,A4];have e5:(7 - ((56:Int) / 8)).toNat=0:=fg;rw[e5,aG];have e6:(b++ [128]++ab (Co b.length) 0).length+(jV (8*(b.length:Int))).length - 0=(b++ [128]++ab (Co b.length) 0++jV (8*(b.length:Int))).length:=by rw[@ai _ _ (jV _)];omega
 rw[e6,if_pos (ay _)];unfold cut;rw[aG,bQ];simp only[bC,Wa,pad,aI,iI,aY]
theorem aq3:rP.RS:=rE [.d tB] rP
def avH:=rP.fC avG 2 ⟨.fI agx,⟨.fI agy,trivial⟩⟩
abbrev Yp:=Bs×Nat×Int×(List Int)
abbrev Yq:=Nat×Int×(List Int)
def Ol:Yp->Prop:=λ(b,m,i,l)=>64<=b.length/\∃k:Nat,k<=16/\i=k/\k=m/\l=wl ((words b).take k)
def KZ:Yp->(Nat×(List Int)):=λ(b,m,i,l)=>(16,wl (words b))
def Om:Yq->Prop:=λ(m,i,l)=>∃ws:List W,16<=ws.length/\ws.length<=64/\l=wl ws/\m=ws.length/\i=(ws.length:Nat)
def D6:Yq->(Nat×(List Int)):=λ(m,i,l)=>(64,wl (aLF (aKX l) (64 - l.length)))
def aej:Bs->Prop:=λb=>64<=b.length
def aei:Bs->(List Int):=λb=>wl (sched b)
def rQ:Ls Ol bC KZ:=sH (λ(iK,wL,i,n49)=>⟨([.d tB iK,bH,bH,pc 49 wL,.d ti i]++aS 94 []),[],(bS 49 ([ed (.vec 231 (.int .u32) n49)]++bS 49 []))⟩) (λx=>(.exit 0,⟨([bH,bH,bH,pc 49 x.1]++aS 95 []),[],(bS 49 ([ed (.vec 231 (.int .u32) x.2)]++bS 49 []))⟩))
def rR:Ls Om bC D6:=sH (λ(Zu,gv,wS)=>⟨([bH,bH,bH,pc 49 Zu,bH,.d ti gv]++aS 93 []),[],(bS 49 ([ed (.vec 231 (.int .u32) wS)]++bS 49 []))⟩) (λx=>(.exit 2,⟨([bH,bH,bH,pc 49 x.1]++aS 95 []),[],(bS 49 ([ed (.vec 231 (.int .u32) x.2)]++bS 49 []))⟩))
def xt:Fs Tryz.prog aej bC aei:=fw 220 Tryz.f220 (λb=>([.d tB b],[])) (λx=>⟨.d (.slice (.int .u32)) x,[],[]⟩) [av tB] [aq9] {loops:=oJ [(3,{ba:=[0,3,4],sites:=[49],owns:=[⟨3,[],49,248⟩]}),(7,{ba:=[3,5],sites:=[49],owns:=[⟨3,[],49,248⟩]})],outs:=oI [(3,{ba:=[3],sites:=[49]},{ba:=[2]}),(7,{ba:=[3],sites:=[49]},{ba:=[2]})],gf:=nQ [(3,rQ.E),(7,rR.E)],res:=[av (.slice (.int .u32))]}
theorem agz:rQ.RS:=rL [.d tB,.n,.d ti,.d (.slice (.int .u32))] rQ
theorem K4(iK wL i n49)(kn:K2 R)(kx:K3 R):xt.R 0 rQ (iK,wL,i,n49) kn kx=aL (gz i 16) (aL (eL (ia .i64 4 i) (iK.length:Int)) (aL (eL (bO .i64 (ia .i64 4 i) 1) (iK.length:Int)) (aL (eL (bO .i64 (ia .i64 4 i) 2) (iK.length:Int)) (aL (eL (bO .i64 (ia .i64 4 i) 3) (iK.length:Int)) (aL (decide (wL<=(ag n49))) (aL (dw (wL+1) 4) (kn (rQ.st (iK,(wL+1),(bO .i64 i 1),((aW wL n49)++ [(cV .or .u32 (cV .or .u32 (cV .or .u32 (nC .u32 (eQ .u32 (nth tb iK (ae (ia .i64 4 i)))) 24) (nC .u32 (eQ .u32 (nth tb iK (ae (bO .i64 (ia .i64 4 i) 1)))) 16)) (nC .u32 (eQ .u32 (nth tb iK (ae (bO .i64 (ia .i64 4 i) 2)))) 8)) (eQ .u32 (nth tb iK (ae (bO .i64 (ia .i64 4 i) 3)))))])))) aD) aD) aD) aD) aD) aD) (rQ.go kx (wL,n49)):=cr
theorem agA:rR.RS:=rL [.n,.d ti,.d (.slice (.int .u32))] rR
theorem K5(Zu gv wS)(kn:K2 R)(kx:K3 R):xt.R 1 rR (Zu,gv,wS) kn kx=aL (gz gv 64) (aL (eL (da .i64 gv 15) ((Zu:Nat):Int)) (aL (decide ((0+(ae (da .i64 gv 15))) < (ag wS))) (aL (decide ((((0+(ae (da .i64 gv 15)))*1)+0)=(0+((ae (da .i64 gv 15))*1)))) (aL (eL (da .i64 gv 2) ((Zu:Nat):Int)) (aL (decide ((0+(ae (da .i64 gv 2))) < (ag wS))) (aL (decide ((((0+(ae (da .i64 gv 2)))*1)+0)=(0+((ae (da .i64 gv 2))*1)))) (al (qG.call ((nth (.int .u32) wS (0+(ae (da .i64 gv 15)))),7)) λx1=>al (qG.call ((nth (.int .u32) wS (0+(ae (da .i64 gv 15)))),18)) λx2=>al (qG.call ((nth (.int .u32) wS (0+(ae (da .i64 gv 2)))),17)) λx3=>al (qG.call ((nth (.int .u32) wS (0+(ae (da .i64 gv 2)))),19)) λx4=>aL (eL (da .i64 gv 16) ((Zu:Nat):Int)) (aL (decide ((0+(ae (da .i64 gv 16))) < (ag wS))) (aL (decide ((((0+(ae (da .i64 gv 16)))*1)+0)=(0+((ae (da .i64 gv 16))*1)))) (aL (eL (da .i64 gv 7) ((Zu:Nat):Int)) (aL (decide ((0+(ae (da .i64 gv 7))) < (ag wS))) (aL (decide ((((0+(ae (da .i64 gv 7)))*1)+0)=(0+((ae (da .i64 gv 7))*1)))) (aL (decide (Zu<=(ag wS))) (aL (dw (Zu+1) 4) (kn (rR.st ((Zu+1),(bO .i64 gv 1),((aW Zu wS)++ [(bO .u32 (bO .u32 (bO .u32 (nth (.int .u32) wS (0+(ae (da .i64 gv 16)))) (cV .xor .u32 (cV .xor .u32 x1 x2) (cP .u32 (nth (.int .u32) wS (0+(ae (da .i64 gv 15)))) 3))) (nth (.int .u32) wS (0+(ae (da .i64 gv 7))))) (cV .xor .u32 (cV .xor .u32 x3 x4) (cP .u32 (nth (.int .u32) wS (0+(ae (da .i64 gv 2)))) 10)))])))) aD) aD) aD) aD) aD) aD) aD) aD) aD) aD) aD) aD) aD) aD) (rR.go kx (Zu,wS)):=cr
theorem aCQ(b)(k:K1 R):xt.A b k=al (rQ.call (b,0,0,([]:List Int))) λx1=>al (rR.call (x1.1,16,x1.2)) λasd=>aL (decide (0=0/\(0+asd.1)<=(ag asd.2))) (k (xt.out (cut asd.2 0 asd.1))) aD:=cr
theorem BD(ws:List W):(wl ws).length=ws.length:=by simp[wl]
theorem ayM(m:List W):∀n,aLF (ext m) n=aLF m (n+1)
 | 0=>rfl
 |n+1=>by rw[aLF,ayM m n];rfl
theorem aQl(b:List Int)(k:Nat)(h:4*k+3 < b.length):be b k=aTe (nth (.int .u8) b (4*k)) (nth (.int .u8) b (4*k+1)) (nth (.int .u8) b (4*k+2)) (nth (.int .u8) b (4*k+3)):=rfl
theorem amd:(xt.lF 0 rQ):=by
 refine(xt.mY 0 rQ) (λ(b,m,i,l)=>16 - m) ?_
 rintro⟨b,m,i,l⟩ ⟨hb,k,hk,rfl,rfl,rfl⟩;have hb:64<=b.length:=hb;have hl:(wl ((words b).take k)).length=k:=by rw[BD,bB,fF];omega
 by_cases h:k < 16
 ·left;refine⟨(b,k+1,((k+1:Nat):Int),wl ((words b).take (k+1))),⟨hb,k+1,ak,rfl,rfl,rfl⟩,by simp only;omega,rfl,λkn kx=> ?_⟩;rw[K4];simp(disch:=omega) only[↓S1,↓if_pos,↓if_neg,if_pos,if_neg,bM,bA,S2,hl,bk (re hl)];rw[ja (by rw[fF];exact h)];simp only[axI,Si,rn,wl,s8,bY,iY];have e:(words b)[k]'(by rw[fF];exact h)=be b k:=by simp[words]
  rw[e,aQl b k ak];rfl
 ·right;obtain rfl:k=16:=ak;intro R kn kx;rw[K4];simp(disch:=omega) only[↓S1,↓if_pos,↓if_neg,if_pos,if_neg,bM,bA,S2,bC,KZ];rw[bk (by rw[fF];omega)]
theorem ame:(xt.lF 1 rR):=by
 refine(xt.mY 1 rR) (λ(m,i,l)=>64 - m) ?_
 rintro⟨m,i,l⟩ ⟨ws,h1,h2,rfl,rfl,rfl⟩;have hl:=BD ws;by_cases h:ws.length < 64
 ·left;refine⟨(ws.length+1,((ws.length+1:Nat):Int),wl (ext ws)),⟨ext ws,by rw[w5];omega,by rw[w5];omega,rfl,by rw[w5],by rw[w5]⟩,by simp only;omega,?_,λkn kx=> ?_⟩
  ·simp only[bC,D6,HY,BD,w5];rw[ayM,show 64 - (ws.length+1)+1=64 - ws.length by omega]
  ·rw[K5];simp(disch:=omega) only[↓S1,↓if_pos,↓if_neg,if_pos,if_neg,bM,bA,S2,hl,aR,iJ,cK,WK ws _ (by omega:ws.length - 15 < ws.length),WK ws _ (by omega:ws.length - 2 < ws.length),WK ws _ (by omega:ws.length - 16 < ws.length),WK ws _ (by omega:ws.length - 7 < ws.length),Cy,rn,JW,FC,bk (re hl)];unfold ext wl;rw[s8];rfl
 ·right;have G5:ws.length=64:=ak;intro R kn kx;rw[K5];simp(disch:=omega) only[↓S1,↓if_pos,↓if_neg,if_pos,if_neg,bM,bA,S2,bC,D6,hl,G5,HY,Nat.sub_self];rfl
theorem aCR:xt.Ok:=by
 intro b hb;have p1:Ol (b,0,0,[]):=⟨hb,0,ak,rfl,rfl,rfl⟩;have p2:Om (16,16,wl (words b)):=⟨words b,by rw[fF];omega,by rw[fF];omega,rfl,by rw[fF],by rw[fF];rfl⟩;have hs:(sched b).length=64:=by unfold sched;rw[C0,fF]
 rw[aCQ];simp(disch:=omega) only[↓S1,↓if_pos,↓if_neg,if_pos,if_neg,bM,bA,S2,agz p1,bC,KZ,agA p2,bC,D6,HY,BD,fF,aR,Nat.reduceSub];have e:aLF (words b) 48=sched b:=rfl;rw[e,hs,if_pos (ay _)];unfold cut;rw[aG,bk (by rw[BD];omega)];simp only[bC,aei]
theorem avM:xt.RS:=rE [.d tB] xt
def aCS:=xt.fC aCR 2 ⟨.fI amd,⟨.fI ame,trivial⟩⟩
abbrev KK:=(List Int)×(List Int)×(List Int)×Nat×Int×(List Int)
abbrev Yg:=Nat×(List Int)
def EZ:KK->Yg->(((List Int))×(Nat×(List Int))):=λ(R2,wv,kv,vL,i,n18) y=>(R2,y)
abbrev KN:=(List Int)×Nat×Int×(List Int)
def yg:KN->(List Int)->((Nat)×((List Int))):=λ(axE,amP,gv,NS) y=>(amP,y)
def Og:KK->Prop:=λ(h,wv,kv,m,i,l)=>∃(s:St) (ws:List W) (k:Nat),h=s.l/\wv=wl ws/\ws.length=64/\k<=64/\i=k/\kv=Vz/\m=8/\l=(rounds ws s k).l
def KL:KK->Yg:=λ(h,wv,kv,m,i,l)=>(8,(rounds (aKX wv) (amw h) 64).l)
def Oh:KN->Prop:=λ(h,m,i,l)=>h.length=8/\l.length=8/\m=8/\∃k:Nat,k<=8/\i=k
def DW:KN->(List Int):=λ(h,m,i,l)=>from_ (λi x=>bO .u32 x (nth (.int .u32) h i)) i.toNat l
def adR:((List Int)×Bs)->Prop:=λ(h,b)=>(∃s:St,h=s.l)/\64<=b.length
def adQ:((List Int)×Bs)->(List Int):=λ(h,b)=>(VI (amw h) b).l
def pt:Ls Og EZ KL:=sH (λ(R2,wv,kv,vL,i,n18)=>⟨([.d (.slice (.int .u32)) R2]++aS 4 ([.d (.slice (.int .u32)) wv,.d (.slice (.int .u32)) kv,pc 18 vL,.d ti i]++aS 146 [])),[],(bS 18 ([ed (.vec 231 (.int .u32) n18)]++bS 136 []))⟩) (λx=>(.exit 0,⟨([.d (.slice (.int .u32)) x.1]++aS 6 ([pc 18 x.2.1]++aS 147 [])),[],(bS 18 ([ed (.vec 231 (.int .u32) x.2.2)]++bS 136 []))⟩))
def rO:Ls Oh yg DW:=sH (λ(axE,amP,gv,NS)=>⟨([.d (.slice (.int .u32)) axE]++aS 6 ([pc 18 amP]++aS 6 ([.d ti gv]++aS 140 []))),[],(bS 18 ([ed (.vec 231 (.int .u32) NS)]++bS 136 []))⟩) (λx=>(.exit 2,⟨(aS 7 ([pc 18 x.1]++aS 147 [])),[],(bS 18 ([ed (.vec 231 (.int .u32) x.2)]++bS 136 []))⟩))
def xn:Fs Tryz.prog adR bC adQ:=fw 190 Tryz.f190 (λ(h,b)=>([.d (.slice (.int .u32)) h,.d tB b],[])) (λx=>⟨.d (.slice (.int .u32)) x,[],[]⟩) [av (.slice (.int .u32)),av tB] [aCS,aJk,aq9] {bT:=[18,137],loops:=oJ [(5,{ba:=[0,5,6,7,8],sites:=[18,137],owns:=[⟨7,[],18,0⟩]}),(14,{ba:=[0,7,14],sites:=[18]})],outs:=oI [(5,{ba:=[0,7],sites:=[18]},{ba:=[4]}),(14,{ba:=[7],sites:=[18]},{ba:=[4]})],gf:=nQ [(5,pt.E),(14,rO.E)],res:=[av (.slice (.int .u32))]}
theorem agt:pt.RS:=rL [.d (.slice (.int .u32)),.d (.slice (.int .u32)),.d (.slice (.int .u32)),.n,.d ti,.d (.slice (.int .u32))] pt
theorem KM(R2 wv kv vL i n18)(kn:K2 R)(kx:K3 R):xn.R 0 pt (R2,wv,kv,vL,i,n18) kn kx=aL (gz i 64) (aL (eL 4 ((vL:Nat):Int)) (aL (decide (4 < (ag n18))) (al (qG.call ((nth (.int .u32) n18 4),6)) λx1=>aL (eL 4 ((vL:Nat):Int)) (aL (decide (4 < (ag n18))) (al (qG.call ((nth (.int .u32) n18 4),11)) λx2=>aL (eL 4 ((vL:Nat):Int)) (aL (decide (4 < (ag n18))) (al (qG.call ((nth (.int .u32) n18 4),25)) λx3=>aL (eL 4 ((vL:Nat):Int)) (aL (decide (4 < (ag n18))) (aL (eL 5 ((vL:Nat):Int)) (aL (decide (5 < (ag n18))) (aL (eL 4 ((vL:Nat):Int)) (aL (decide (4 < (ag n18))) (aL (eL 6 ((vL:Nat):Int)) (aL (decide (6 < (ag n18))) (aL (eL 7 ((vL:Nat):Int)) (aL (decide (7 < (ag n18))) (aL (eL i (kv.length:Int)) (aL (eL i (wv.length:Int)) (aL (eL 0 ((vL:Nat):Int)) (aL (decide (0 < (ag n18))) (al (qG.call ((nth (.int .u32) n18 0),2)) λx4=>aL (eL 0 ((vL:Nat):Int)) (aL (decide (0 < (ag n18))) (al (qG.call ((nth (.int .u32) n18 0),13)) λx5=>aL (eL 0 ((vL:Nat):Int)) (aL (decide (0 < (ag n18))) (al (qG.call ((nth (.int .u32) n18 0),22)) λx6=>aL (eL 0 ((vL:Nat):Int)) (aL (decide (0 < (ag n18))) (aL (eL 1 ((vL:Nat):Int)) (aL (decide (1 < (ag n18))) (aL (eL 0 ((vL:Nat):Int)) (aL (decide (0 < (ag n18))) (aL (eL 2 ((vL:Nat):Int)) (aL (decide (2 < (ag n18))) (aL (eL 1 ((vL:Nat):Int)) (aL (decide (1 < (ag n18))) (aL (eL 2 ((vL:Nat):Int)) (aL (decide (2 < (ag n18))) (aL (eL 0 ((vL:Nat):Int)) (aL (decide (0 < (ag n18))) (aL (eL 1 ((vL:Nat):Int)) (aL (decide (1 < (ag n18))) (aL (eL 2 ((vL:Nat):Int)) (aL (decide (2 < (ag n18))) (aL (eL 3 ((vL:Nat):Int)) (aL (decide (3 < (ag n18))) (aL (eL 4 ((vL:Nat):Int)) (aL (decide (4 < (ag n18))) (aL (eL 5 ((vL:Nat):Int)) (aL (decide (5 < (ag n18))) (aL (eL 6 ((vL:Nat):Int)) (aL (decide (6 < (ag n18))) (kn (pt.st (R2,wv,kv,8,(bO .i64 i 1),[(bO .u32 (bO .u32 (bO .u32 (bO .u32 (bO .u32 (bO .u32 (nth (.int .u32) n18 7) (cV .xor .u32 (cV .xor .u32 x1 x2) x3)) (cV .xor .u32 (cV .and .u32 (nth (.int .u32) n18 4) (nth (.int .u32) n18 5)) (cV .and .u32 (aNy .u32 (nth (.int .u32) n18 4)) (nth (.int .u32) n18 6)))) (nth (.int .u32) kv (ae i))) (nth (.int .u32) wv (ae i))) (cV .xor .u32 (cV .xor .u32 x4 x5) x6)) (cV .xor .u32 (cV .xor .u32 (cV .and .u32 (nth (.int .u32) n18 0) (nth (.int .u32) n18 1)) (cV .and .u32 (nth (.int .u32) n18 0) (nth (.int .u32) n18 2))) (cV .and .u32 (nth (.int .u32) n18 1) (nth (.int .u32) n18 2)))),(nth (.int .u32) n18 0),(nth (.int .u32) n18 1),(nth (.int .u32) n18 2),(bO .u32 (nth (.int .u32) n18 3) (bO .u32 (bO .u32 (bO .u32 (bO .u32 (nth (.int .u32) n18 7) (cV .xor .u32 (cV .xor .u32 x1 x2) x3)) (cV .xor .u32 (cV .and .u32 (nth (.int .u32) n18 4) (nth (.int .u32) n18 5)) (cV .and .u32 (aNy .u32 (nth (.int .u32) n18 4)) (nth (.int .u32) n18 6)))) (nth (.int .u32) kv (ae i))) (nth (.int .u32) wv (ae i)))),(nth (.int .u32) n18 4),(nth (.int .u32) n18 5),(nth (.int .u32) n18 6)]))) aD) aD) aD) aD) aD) aD) aD) aD) aD) aD) aD) aD) aD) aD) aD) aD) aD) aD) aD) aD) aD) aD) aD) aD) aD) aD) aD) aD) aD) aD) aD) aD) aD) aD) aD) aD) aD) aD) aD) aD) aD) aD) aD) aD) aD) aD) aD) aD) aD) aD) (pt.go kx (R2,(vL,n18))):=cr
theorem agu:rO.RS:=rL [.d (.slice (.int .u32)),.n,.d ti,.d (.slice (.int .u32))] rO
theorem KO(axE amP gv NS)(kn:K2 R)(kx:K3 R):xn.R 1 rO (axE,amP,gv,NS) kn kx=aL (gz gv 8) (aL (eL gv ((amP:Nat):Int)) (aL (decide ((0+(ae gv)) < (ag NS))) (aL (decide ((((0+(ae gv))*1)+0)=(0+((ae gv)*1)))) (aL (eL gv (axE.length:Int)) (aL (eL gv ((amP:Nat):Int)) (aL (decide ((0+(ae gv)) < (ag NS))) (aL (decide ((((0+(ae gv))*1)+0)=(0+((ae gv)*1)))) (aL (decide ((0+(ae gv)) < (ag NS))) (kn (rO.st (axE,amP,(bO .i64 gv 1),(gN NS (0+(ae gv)) (bO .u32 (nth (.int .u32) NS (0+(ae gv))) (nth (.int .u32) axE (ae gv))))))) aD) aD) aD) aD) aD) aD) aD) aD) (rO.go kx (amP,NS)):=cr
theorem aCr(h b)(k:K1 R):xn.A (h,b) k=al (xt.call b) λx1=>al (adO.call ()) λx2=>aL (dw (0+(ag h)) 4) (al (pt.call (h,x1,x2,(0+(ag h)),0,((aW 0 (ab 0 0))++h))) λaSr=>al (rO.call (aSr.1,aSr.2.1,0,aSr.2.2)) λMH=>aL (decide (0=0/\(0+MH.1)<=(ag MH.2))) (k (xn.out (cut MH.2 0 MH.1))) aD) aD:=cr
theorem aHE(w:W):aNy .u32 (vw w)=vw (~~~w):=by have e:(if IntKind.u32.signed then -1 else IntKind.u32.max:Int)=vw (BitVec.allOnes 32):=rfl;unfold aNy;rw[e,rn];simp only[BitVec.allOnes_xor]
theorem aTh(e f g:W):(e &&& f)^^^(~~~e &&& g)=g^^^(e &&& (f^^^g)):=by
 ext i hi
 simp only[BitVec.getElem_xor,BitVec.getElem_and,BitVec.getElem_not];cases e[i] <;> cases f[i] <;> cases g[i] <;> rfl
theorem aRD(a b c:W):(a &&& b)^^^(a &&& c)^^^(b &&& c)=(a &&& b) ||| (c &&& (a ||| b)):=by
 ext i hi
 simp only[BitVec.getElem_xor,BitVec.getElem_and,BitVec.getElem_or];cases a[i] <;> cases b[i] <;> cases c[i] <;> rfl
theorem al6:(xn.lF 0 pt):=by
 refine(xn.mY 0 pt) (λ(h,wv,kv,m,i,l)=>64 - i.toNat) ?_
 rintro⟨h,wv,kv,m,i,l⟩ ⟨s,ws,k,rfl,rfl,hw,hk,rfl,rfl,rfl,rfl⟩;by_cases iA:k < 64
 ·left;refine⟨(s.l,wl ws,Vz,8,((k+1:Nat):Int),(rounds ws s (k+1)).l),⟨s,ws,k+1,rfl,rfl,hw,ak,rfl,rfl,rfl,rfl⟩,by simp only;omega,rfl,λkn kx=> ?_⟩;rw[KM];generalize hv:rounds ws s k=v;have t1:∀w:W,qG.call (vw w,6)=av (vw (xr w 6)):=λw=>Cy w ak
  have t2:∀w:W,qG.call (vw w,11)=av (vw (xr w 11)):=λw=>Cy w ak
  have t3:∀w:W,qG.call (vw w,25)=av (vw (xr w 25)):=λw=>Cy w ak
  have t4:∀w:W,qG.call (vw w,2)=av (vw (xr w 2)):=λw=>Cy w ak
  have t5:∀w:W,qG.call (vw w,13)=av (vw (xr w 13)):=λw=>Cy w ak
  have t6:∀w:W,qG.call (vw w,22)=av (vw (xr w 22)):=λw=>Cy w ak
  rw[n0,n1,n2,n3,n4,n5,n6,n7,t1,ah,t2,ah,t3,ah,t4,ah,t5,ah,t6,ah];simp(disch:=omega) only[↓S1,↓if_pos,↓if_neg,if_pos,if_neg,bM,bA,S2,St.apx,XD,BD,hw,apw k iA,WK ws k ak,rn,FC,aHE,aTh,aRD];show kn _=kn (pt.st (s.l,wl ws,Vz,8,((k+1:Nat):Int),(mY (rounds ws s k) (kw k) (ws.getD k 0)).l));rw[hv];rfl
 ·right;obtain rfl:k=64:=ak;intro R kn kx;rw[KM];simp(disch:=omega) only[↓S1,↓if_pos,↓if_neg,if_pos,if_neg,bM,bA,S2,EZ,KL,HY,pD]
theorem al7:(xn.lF 1 rO):=by
 refine(xn.mY 1 rO) (λ(h,m,i,l)=>8 - i.toNat) ?_
 rintro⟨h,m,i,l⟩ ⟨hh,hl,rfl,k,hk,rfl⟩;have hl:l.length=8:=hl;have hh:h.length=8:=hh;by_cases iA:k < 8
 ·left;have hn:nth (.int .u32) l k=l[k]:=cg (t:= .int .u32) ak;refine⟨(h,8,((k+1:Nat):Int),l.set k (bO .u32 l[k] (nth (.int .u32) h k))),⟨hh,by simpa using hl,rfl,k+1,ak,rfl⟩,by simp only;omega,?_,λkn kx=> ?_⟩
  ·simp only[yg,DW,aa];rw[Md (λi x=>bO .u32 x (nth (.int .u32) h i)) l k ak]
  ·rw[KO];simp(disch:=omega) only[↓S1,↓if_pos,↓if_neg,if_pos,if_neg,bM,bA,S2,hl,hh,aR,iJ,cK,hn]
 ·right;obtain rfl:k=8:=ak;intro R kn kx;rw[KO];simp(disch:=omega) only[↓S1,↓if_pos,↓if_neg,if_pos,if_neg,bM,bA,S2,yg,DW];rw[R0 _ _ _ ak]
theorem aRE(s:St)(b:List Int):from_ (λi x=>bO .u32 x (nth (.int .u32) s.l i)) 0 (rounds (sched b) s 64).l=(VI s b).l:=by unfold VI;generalize rounds (sched b) s 64=v;obtain⟨a1,b1,c1,d1,f1,g1,h1,i1⟩:=v;simp only[St.l,from_,List.mapIdx_cons,List.mapIdx_nil,Nat.not_lt_zero,bA,aR,Nat.reduceAdd];simp only[nth,j6,sj,FC]
theorem aCs:xn.Ok:=by
 rintro⟨h,b⟩ ⟨⟨s,rfl⟩,hb⟩;have p0:aej b:=hb;have axH:(sched b).length=64:=by unfold sched;rw[C0,fF]
 have p1:Og (s.l,wl (sched b),Vz,8,0,s.l):=⟨s,sched b,0,rfl,rfl,axH,ak,rfl,rfl,rfl,rfl⟩;have p2:Oh (s.l,8,0,(rounds (sched b) s 64).l):=⟨rfl,rfl,rfl,0,ak,rfl⟩;have e0:0+s.l.length=8:=rfl;have e1:aW 0 (ab 0 (0:Int))++s.l=s.l:=rfl;rw[aCr];simp(disch:=omega) only[↓S1,↓if_pos,↓if_neg,if_pos,if_neg,bM,bA,S2,avM p0,bC,aei,aCq (d:=()) trivial,bC,ayl,e0,e1,agt p1,EZ,KL,HY,pD,agu p2,yg,DW,bg,aRE];have e2:(VI s b).l.length=8:=rfl;have e3:cut (VI s b).l 0 8=(VI s b).l:=rfl;simp only[e2,aR,ay,bM,e3,bC,adQ,pD]
theorem avo:xn.RS:=rE [.d (.slice (.int .u32)),.d tB] xn
def aCt:=xn.fC aCs 2 ⟨.fI al6,⟨.fI al7,trivial⟩⟩
abbrev Wc:=Bs×(List Int)×Int×Bs
def D3:Wc->(List Int)->((Bs)×((List Int))):=λ(p,h,i,n2) y=>(n2,y)
abbrev Wd:=(List Int)×Int×Bs×Bs
def D4:Wd->Bs->((Bs)×(Bs)):=λ(R2,gv,lG,n6) y=>(lG,y)
def Ym:Wc->Prop:=λ(p,h,i,n2)=>p.length%64=0/\p.length<=140737488355328/\∃(s:St) (k:Nat),h=s.l/\i=((64*k:Nat):Int)/\64*k<=p.length
def Mz:Wc->(List Int):=λ(p,h,i,n2)=>(blocks (amw h) (p.drop i.toNat)).l
def Yn:Wd->Prop:=λ(h,i,n2,l)=>h.length=8/\l.length=32/\∃k:Nat,k<=32/\i=k
def MA:Wd->Bs:=λ(h,i,n2,l)=>from_ (Nc h) i.toNat l
def aq6:Bs->Prop:=λb=>b.length<=140737488350000
def aR1:Bs->Bs:=λb=>aR4 b
def A5:Ls Ym D3 Mz:=sH (λ(p,h,i,n2)=>⟨([bH,bH,fx 2,.d tB p,.d (.slice (.int .u32)) h,.d ti i]++aS 36 []),[],([[],[],ed (.d tH n2)]++bS 39 [])⟩) (λx=>(.exit 0,⟨([bH,bH,fx 2,bH,.d (.slice (.int .u32)) x.2]++aS 37 []),[],([[],[],ed (.d tH x.1)]++bS 39 [])⟩))
def A6:Ls Yn D4 MA:=sH (λ(R2,gv,lG,n6)=>⟨([bH,bH,fx 2,bH,.d (.slice (.int .u32)) R2,bH,fx 6,.d ti gv]++aS 34 []),[],([[],[],ed (.d tH lG),[],[],[],ed (.d tH n6)]++bS 35 [])⟩) (λx=>(.exit 2,⟨([bH,bH,fx 2,bH,bH,bH,fx 6]++aS 35 []),[],([[],[],ed (.d tH x.1),[],[],[],ed (.d tH x.2)]++bS 35 [])⟩))
def Wb:Fs Tryz.prog aq6 bC aR1:=fw 148 Tryz.f148 (λb=>([.d tB b],[])) (λx=>⟨.d tH x,[],[]⟩) [av tB] [avH,avz,aCt] {loops:=oJ [(4,{ba:=[2,3,4,5],sites:=[2]}),(9,{ba:=[2,4,6,7],sites:=[2,6]})],outs:=oI [(4,{ba:=[2,4],sites:=[2]},{ba:=[2]}),(9,{ba:=[2,6],sites:=[2,6]},{ba:=[2]})],gf:=nQ [(4,A5.E),(9,A6.E)]}
theorem aq4:A5.RS:=rL [.d tB,.d (.slice (.int .u32)),.d ti,.d tB] A5
theorem Tr(p h i n2)(kn:K2 R)(kx:K3 R):Wb.R 0 A5 (p,h,i,n2) kn kx=aL (gz i (p.length:Int)) (aL (inc (bO .i64 i 64) (p.length:Int)) (aL (inc i (((ae (bO .i64 i 64)):Nat):Int)) (al (xn.call (h,(cut p (ae i) ((ae (bO .i64 i 64)) - (ae i))))) λx1=>kn (A5.st (p,x1,(bO .i64 i 64),n2))) aD) aD) (A5.go kx (n2,h)):=cr
theorem aq5:A6.RS:=rL [.d (.slice (.int .u32)),.d ti,.d tB,.d tB] A6
theorem Tt(R2 gv lG n6)(kn:K2 R)(kx:K3 R):Wb.R 1 A6 (R2,gv,lG,n6) kn kx=aL (gz gv 32) (aL (eL (uX .i64 gv 4) (R2.length:Int)) (aL (nE (da .i64 24 (ia .i64 8 (nP gv 4)))) (aL (eL gv 32) (aL (decide ((ae gv) < (ag n6))) (aL (decide ((((ae gv)*1)+0)=(0+((ae gv)*1)))) (aL (decide ((ae gv) < (ag n6))) (kn (A6.st (R2,(bO .i64 gv 1),lG,(gN n6 (ae gv) (eQ .u8 (cP .u32 (nth (.int .u32) R2 (ae (uX .i64 gv 4))) (da .i64 24 (ia .i64 8 (nP gv 4))))))))) aD) aD) aD) aD) aD) aD) (A6.go kx (lG,n6)):=cr
theorem aOA(b)(k:K1 R):Wb.A b k=al (rP.call b) λx1=>al (HB.call ()) λx2=>al (A5.call (x1,x2,0,(ab 32 0))) λx4=>al (A6.call (x4.2,0,x4.1,(ab 32 0))) λx5=>k (Wb.out x5.2):=cr
theorem avI:(Wb.lF 0 A5):=by
 refine(Wb.mY 0 A5) (λ(p,h,i,n2)=>p.length - i.toNat) ?_
 rintro⟨p,h,i,n2⟩ ⟨hm,hb,s,k,rfl,rfl,hk⟩;have hm:p.length%64=0:=hm;have hb:p.length<=140737488355328:=hb;have hk:64*k<=p.length:=hk;by_cases iA:64*k < p.length
 ·left;have e1:cut p (64*k) (64*k+64 - 64*k)=(p.drop (64*k)).take 64:=by unfold cut;rw[show 64*k+64 - 64*k=64 by omega]
  have e2:(p.drop (64*k)).drop 64=p.drop (64*(k+1)):=by rw[gJ];congr 1
  have e3:(64*(k+1):Nat)=64*k+64:=ak;have p1:adR (s.l,(p.drop (64*k)).take 64):=⟨⟨s,rfl⟩,by simp;omega⟩;refine⟨(p,(VI s ((p.drop (64*k)).take 64)).l,((64*(k+1):Nat):Int),n2),⟨hm,hb,_,k+1,rfl,rfl,ak⟩,by simp only[aa];omega,?_,λkn kx=> ?_⟩
  ·simp only[D3,Mz,pD,aa];rw[Jt s (p.drop (64*k)) (by simp;omega),e2]
  ·rw[Tr];simp(disch:=omega) only[↓S1,↓if_pos,↓if_neg,if_pos,if_neg,bM,bA,S2,e1,avo p1,bC,adQ,pD,e3]
 ·right;intro R kn kx;rw[Tr];simp(disch:=omega) only[↓S1,↓if_pos,↓if_neg,if_pos,if_neg,bM,bA,S2,D3,Mz,pD];rw[Gt s _ (by simp;omega)]
theorem avJ:(Wb.lF 1 A6):=by
 refine(Wb.mY 1 A6) (λ(h,i,n2,l)=>32 - i.toNat) ?_
 rintro⟨h,i,n2,l⟩ ⟨h8,hl,k,hk,rfl⟩;have hl:l.length=32:=hl;have h8:h.length=8:=h8;by_cases iA:k < 32
 ·left;refine⟨(h,((k+1:Nat):Int),n2,l.set k (Nc h k l[k])),⟨h8,by simpa using hl,k+1,ak,rfl⟩,by simp only[aa];omega,?_,λkn kx=> ?_⟩
  ·simp only[D4,MA,aa];rw[Md (Nc h) l k ak]
  ·rw[Tt];simp(disch:=omega) only[↓S1,↓if_pos,↓if_neg,if_pos,if_neg,bM,bA,S2,hl,h8,iJ,cK,aR,Nc]
 ·right;obtain rfl:k=32:=ak;intro R kn kx;rw[Tt];simp(disch:=omega) only[↓S1,↓if_pos,↓if_neg,if_pos,if_neg,bM,bA,S2,D4,MA];rw[R0 _ _ _ ak]
theorem auM(b:List Int):(pad b).length%64=0/\(pad b).length<=b.length+73:=by unfold pad;simp only[ai,aB,cD,cJ,Co];omega
theorem aOB:Wb.Ok:=by intro b hb;have hb:b.length<=140737488350000:=hb;have p1:Yl b:=hb;obtain⟨h1,h2⟩:=auM b;have p2:Ym (pad b,tZ.l,0,ab 32 0):=⟨h1,ak,tZ,0,rfl,rfl,ak⟩;have p3:Yn ((blocks tZ (pad b)).l,0,ab 32 0,ab 32 0):=⟨rfl,rfl,0,ak,rfl⟩;rw[aOA];simp(disch:=omega) only[↓S1,↓if_pos,↓if_neg,if_pos,if_neg,bM,bA,S2,aq3 p1,bC,Wa,aqX (d:=()) trivial,bC,aiK,aq4 p2,D3,Mz,pD,bg,aG,aq5 p3,D4,MA,ayb];rfl
theorem aJQ:Wb.RS:=rE [.d tB] Wb
def aOC:=Wb.fC aOB 2 ⟨.fI avI,⟨.fI avJ,trivial⟩⟩
def aCF:Int->Prop:=λn=>0<=n/\n < 18446744073709551616
def aOu:Int->(Nat×(List Int)):=λn=>(8,jV n)
def Tk:Fs Tryz.prog aCF bC aOu:=fw 147 Tryz.f147 (λn=>([.d tu n],[])) (λx=>⟨.bE (.new 0 0) 0 [] 0 0 x.1,[],[.obj 0 aQ (.vec 5 tb x.2)]⟩) [av tu] [] {loops:=oJ [(3,{ba:=[0,3,4],sites:=[15]})],outs:=oI [(3,{ba:=[3],sites:=[15]},{ba:=[2],sites:=[15]})],owns:=[⟨2,[],15,127⟩]} 10
theorem aJC(n)(k:K1 R):Tk.A n k=k (Tk.out (8,[(eQ .u8 (cP .u64 n 56)),(eQ .u8 (cP .u64 n 48)),(eQ .u8 (cP .u64 n 40)),(eQ .u8 (cP .u64 n 32)),(eQ .u8 (cP .u64 n 24)),(eQ .u8 (cP .u64 n 16)),(eQ .u8 (cP .u64 n 8)),(eQ .u8 (cP .u64 n 0))])):=cr
theorem aJD:Tk.Ok:=by
 intro n _;have e:∀k:Nat,k<=64->eQ .u8 (cP .u64 n (k:Int))=n / 2^k%256:=λk hk=>afg n k hk
 rw[aJC];have e56:eQ .u8 (cP .u64 n 56)=n / 2^56%256:=e 56 ak;have e48:eQ .u8 (cP .u64 n 48)=n / 2^48%256:=e 48 ak;have e40:eQ .u8 (cP .u64 n 40)=n / 2^40%256:=e 40 ak;have e32:eQ .u8 (cP .u64 n 32)=n / 2^32%256:=e 32 ak;have e24:eQ .u8 (cP .u64 n 24)=n / 2^24%256:=e 24 ak;have e16:eQ .u8 (cP .u64 n 16)=n / 2^16%256:=e 16 ak;have e8:eQ .u8 (cP .u64 n 8)=n / 2^8%256:=e 8 ak;have e0:=e 0 ak;rw[e56,e48,e40,e32,e24,e16,e8];have e0:eQ .u8 (cP .u64 n 0)=n%256:=by rw[show(0:Int)=((0:Nat):Int) from rfl,e0];simp
 rw[e0];rfl
theorem aCG:Tk.RS:=rE [.d tu] Tk
def aJE:=Tk.fC aJD 1 ⟨.none cr,trivial⟩
abbrev We:=(List Bs)×Nat×Int×Bs×(List Int)
abbrev aiT:=Nat×(List Int)
def D5:We->aiT->((Bs)×(Nat×(List Int))):=λ(tg,bL,i,n4,n11) y=>(n4,y)
abbrev aJR:=ByteArray×(List Bs)
def Yo:We->Prop:=λ(ps,m,i,n4,l)=>m=l.length/\∃k:Nat,k<=ps.length/\ps.length<=140737488350000/\i=k/\l.length+(pL (ps.drop k)).length<=140737488350000
def MB:We->aiT:=λ(ps,m,i,n4,l)=>(l.length+(pL (ps.drop i.toNat)).length,l++pL (ps.drop i.toNat))
def aJS:aJR->Prop:=λ(name,ps)=>(Ww (bN name) ps).length<=140737488350000
def aR2:aJR->Bs:=λ(name,ps)=>tag (bN name) ps
def A7:Ls Yo D5 MB:=sH (λ(tg,bL,i,n4,n11)=>⟨([bH,.d (.slice tB) tg,bH,bH,fx 4,pc 11 bL,.d ti i]++aS 32 []),[],(bS 4 ([ed (.d tH n4)]++bS 6 ([ed (.vec 5 tb n11)]++bS 27 [])))⟩) (λx=>(.exit 0,⟨(aS 4 ([fx 4,pc 11 x.2.1]++aS 33 [])),[],(bS 4 ([ed (.d tH x.1)]++bS 6 ([ed (.vec 5 tb x.2.2)]++bS 27 [])))⟩))
def aed:Fs Tryz.prog aJS bC aR2:=fw 96 Tryz.f96 (λ(name,parts)=>([.d .str name,.d (.slice tB) parts],[])) (λx=>⟨.d tH x,[],[]⟩) [av .str,av (.slice tB)] [aJE,aOC] {loops:=oJ [(3,{ba:=[1,4,5,6],sites:=[4,11],owns:=[⟨5,[],11,127⟩]})],outs:=oI [(3,{ba:=[4,5],sites:=[4,11]},{ba:=[4]})],gf:=nQ [(3,A7.E)]}
theorem aq7:A7.RS:=rL [.d (.slice tB),.n,.d ti,.d tB,.d tB] A7
theorem Tu(tg bL i n4 n11)(kn:K2 R)(kx:K3 R):aed.R 0 A7 (tg,bL,i,n4,n11) kn kx=aL (gz i (tg.length:Int)) (aL (eL i (tg.length:Int)) (al (Tk.call (eQ .u64 (((ag (nth tB tg (ae i))):Nat):Int))) λx1=>aL (decide (0=0/\(0+x1.1)<=(ag x1.2))) (aL (decide (bL<=(ag n11))) (aL (dw (bL+(ag (cut x1.2 0 x1.1))) 1) (aL (eL i (tg.length:Int)) (aL (decide ((bL+(ag (cut x1.2 0 x1.1)))<=(ag ((aW bL n11)++(cut x1.2 0 x1.1))))) (aL (dw ((bL+(ag (cut x1.2 0 x1.1)))+(ag (nth tB tg (ae i)))) 1) (kn (A7.st (tg,((bL+(ag (cut x1.2 0 x1.1)))+(ag (nth tB tg (ae i)))),(bO .i64 i 1),n4,((aW (bL+(ag (cut x1.2 0 x1.1))) ((aW bL n11)++(cut x1.2 0 x1.1)))++(nth tB tg (ae i)))))) aD) aD) aD) aD) aD) aD) aD) (A7.go kx (n4,(bL,n11))):=cr
theorem aOD(name parts)(k:K1 R):aed.A (name,parts) k=al (Tk.call (eQ .u64 (((ByteArray.size name):Nat):Int))) λx1=>aL (decide (x1.1<=(ag x1.2))) (aL (dw (x1.1+(ag (bN name))) 1) (al (A7.call (parts,(x1.1+(ag (bN name))),0,(ab 32 0),((aW x1.1 x1.2)++(bN name)))) λx4=>aL (decide (0=0/\(0+x4.2.1)<=(ag x4.2.2))) (al (Wb.call (cut x4.2.2 0 x4.2.1)) λx5=>k (aed.out x5)) aD) aD) aD:=cr
theorem ayD{n:Nat}(h:n < 18446744073709551616):eQ .u64 ((n:Nat):Int)=n:=by rw[ZK,iS];omega
theorem aqY{n:Nat}(h:n < 18446744073709551616):Tk.call (n:Int)=av (8,jV (n:Int)):=aCG (d:=(n:Int)) (show 0<=(n:Int)/\(n:Int) < 18446744073709551616 from⟨ak,ak⟩)
theorem aTj{l:List Int}{n:Nat}(h:l.length=n):cut l 0 n=l:=by unfold cut;rw[aG,bk ak]
theorem avK:(aed.lF 0 A7):=by
 refine(aed.mY 0 A7) (λ(ps,m,i,n4,l)=>ps.length - i.toNat) ?_
 rintro⟨ps,m,i,n4,l⟩ ⟨rfl,k,hk,QP,rfl,hl⟩;have hk:k<=ps.length:=hk;have QP:ps.length<=140737488350000:=QP;have hl:l.length+(pL (ps.drop k)).length<=140737488350000:=hl;by_cases h:k < ps.length
 ·left;have ht:=ai8 ps k h;have hlen:(pL (ps.drop k)).length=8+ps[k].length+(pL (ps.drop (k+1))).length:=by rw[ht];simp only[ai,cJ]
  have hn:nth (.slice (.int .u8)) ps k=ps[k]:=cg (t:= .slice (.int .u8)) h;have aLz:(l++jV (ps[k].length:Int)).length=l.length+8:=by simp[cJ]
  refine⟨(ps,(l++jV ps[k].length++ps[k]).length,((k+1:Nat):Int),n4,l++jV ps[k].length++ps[k]),⟨rfl,k+1,ak,QP,rfl,?_⟩,by simp only[aa];omega,?_,λkn kx=> ?_⟩
  ·simp only[ai,cJ];omega
  ·simp only[D5,MB,aa,ht,aI];simp only[ai,cJ,fy]
  ·have c8:cut (jV (ps[k].length:Int)) 0 8=jV (ps[k].length:Int):=aTj (cJ _);have G5:ps[k].length < 18446744073709551616:=ak;rw[Tu];simp(disch:=omega) only[↓S1,↓if_pos,↓if_neg,if_pos,if_neg,bM,bA,S2,hn,ayD G5,aqY G5,cJ,c8,bQ,aLz,aR,ay,jO,bM];rw[bk (by rw[aLz];omega)];simp only[ai,cJ,fy]
 ·right;obtain rfl:k=ps.length:=ak;intro R kn kx;rw[Tu];simp(disch:=omega) only[↓S1,↓if_pos,↓if_neg,if_pos,if_neg,bM,bA,S2,D5,MB,aN];simp[pL]
theorem aOE:aed.Ok:=by
 rintro⟨name,ps⟩ hp;have hp:(jV (bN name).length++bN name++pL ps).length<=140737488350000:=hp;have hl:(jV (bN name).length++bN name++pL ps).length=8+(bN name).length+(pL ps).length:=by simp only[ai,cJ]
 have QP:=aeK ps;have uW:name.size=(bN name).length:=by rw[l9]
 have G5:(bN name).length < 18446744073709551616:=ak;have p2:Yo (ps,8+(bN name).length,0,ab 32 0,jV ((bN name).length:Int)++bN name):=by refine⟨by simp only[ai,cJ],0,aP _,ak,rfl,?_⟩;rw[aG];simp only[ai,cJ];omega
 rw[aOD,uW];simp(disch:=omega) only[↓S1,↓if_pos,↓if_neg,if_pos,if_neg,bM,bA,S2,ayD G5,aqY G5,cJ,bk (re (cJ _)),aq7 p2,D5,MB,bg,aG,aR];have aAI:cut (jV ((bN name).length:Int)++bN name++pL ps) 0 ((jV ((bN name).length:Int)++bN name).length+(pL ps).length)=Ww (bN name) ps:=aTj (by simp only[ai]);have p3:aq6 (Ww (bN name) ps):=hp;rw[if_pos (by simp only[ai];omega),aAI,aJQ p3];rfl
theorem aq8:aed.RS:=rE [.d .str,.d (.slice tB)] aed
def ays:=aed.fC aOE 1 ⟨.fI avK,trivial⟩
theorem T6{n:Int}(h1:0<=n)(h2:n < 18446744073709551616):IntKind.u64.wrap n=n:=by rw[wrap_u64,iS];omega
theorem T5(n:Int):IntKind.u64.wrap n=n%18446744073709551616:=by rw[wrap_u64,iS];rfl
theorem vF(x y:Int):bO .u64 x y=(x+y)%18446744073709551616:=T5 _
theorem ZN(x y:Int):da .u64 x y=(x - y)%18446744073709551616:=T5 _
theorem AF(x y:Int):ia .u64 x y=(x*y)%18446744073709551616:=T5 _
theorem aHs(x:Int):eQ .u64 x=x%18446744073709551616:=T5 _
theorem anl{x:Int}(h:0<=x)(h2:x < 18446744073709551616):cV .and .u64 x 4294967295=x%4294967296:=by
 obtain⟨n,rfl⟩:∃n:Nat,x=n:=⟨x.toNat,ak⟩;have e:(bo 64 (n:Int) &&& bo 64 4294967295).toNat=n%4294967296:=by
  rw[BitVec.toNat_and];have a:(bo 64 (n:Int)).toNat=n:=by rw[jM,kU];omega
  have b:(bo 64 4294967295).toNat=2^32 - 1:=fg;rw[a,b,Nat.and_two_pow_sub_one_eq_mod]
 show IntKind.u64.wrap ((bo 64 (n:Int) &&& bo 64 4294967295).toNat:Int)=_;rw[e,T6 ak ak];omega
theorem aVz{x:Int}(h:0<=x)(h2:x < 18446744073709551616):cV .and .u64 x 1=x%2:=by
 obtain⟨n,rfl⟩:∃n:Nat,x=n:=⟨x.toNat,ak⟩;have e:(bo 64 (n:Int) &&& bo 64 1).toNat=n%2:=by
  rw[BitVec.toNat_and];have a:(bo 64 (n:Int)).toNat=n:=by rw[jM,kU];omega
  have b:(bo 64 1).toNat=2^1 - 1:=fg;rw[a,b,Nat.and_two_pow_sub_one_eq_mod]
 show IntKind.u64.wrap ((bo 64 (n:Int) &&& bo 64 1).toNat:Int)=_;rw[e,T6 ak ak];omega
theorem yk{x k:Int}(n:Nat)(hk:k=n)(hn:n<=64):cP .u64 x k=x / 2^n:=by
 subst hk;rw[cP];have e:min (ae (n:Int)) IntKind.u64.bits=n:=by simp only[IntKind.bits];omega
 rw[e,kW _ (Int.le_of_lt (Int.pow_pos ak))]
theorem yj{x k:Int}(n:Nat)(hk:k=n)(hn:n<=64):nC .u64 x k=x*2^n%18446744073709551616:=by
 subst hk;rw[nC,T5];have e:min (ae (n:Int)) IntKind.u64.bits=n:=by simp only[IntKind.bits];omega
 rw[e]
theorem SQ{x y:Int}(k:Nat)(m:Int)(hm:m=2^k)(hx:x%m=0)(h0:0<=x)(h1:x < 18446744073709551616)(hy:0<=y)(aST:y < m)(h2:x+y < 18446744073709551616):cV .or .u64 x y=x+y:=by
 subst hm;obtain⟨n,rfl⟩:∃n:Nat,x=n:=⟨x.toNat,ak⟩;obtain⟨j,rfl⟩:∃j:Nat,y=j:=⟨y.toNat,ak⟩;have hx:n%2^k=0:=by
  have:((n%2^k:Nat):Int)=0:=by rw[qW];simpa using hx
  omega
 have hj:j < 2^k:=by
  have:((j:Nat):Int) < ((2^k:Nat):Int):=by simpa using aST
  omega
 obtain⟨q,rfl⟩:∃q,n=2^k*q:=⟨n / 2^k,by have:=Nat.div_add_mod n (2^k);omega⟩;have e:(bo 64 ((2^k*q:Nat):Int) ||| bo 64 (j:Int)).toNat=2^k*q+j:=by
  rw[BitVec.toNat_or];have a:(bo 64 ((2^k*q:Nat):Int)).toNat=2^k*q:=by rw[jM,kU];exact kM ak
  have b:(bo 64 (j:Int)).toNat=j:=by rw[jM,kU];exact kM ak
  rw[a,b,Nat.two_pow_add_eq_or_of_lt hj]
 show IntKind.u64.wrap ((bo 64 ((2^k*q:Nat):Int) ||| bo 64 (j:Int)).toNat:Int)=_;rw[e,T6 ak ak];omega
theorem ak5{x y:Int}(h:0<=x)(h1:0<=y)(h2:x < 18446744073709551616):uX .u64 x y=x / y:=by rw[uX,kX h];exact T6 (Int.ediv_nonneg h h1) (Int.lt_of_le_of_lt (Int.ediv_le_self _ h) h2)
theorem xM{x y:Int}(h:0<=x):nP x y=x%y:=by rw[nP,iW h]
theorem k1{e u w r q:Int}(he:e=42260\/e=42264\/e=42272)(hu:0<=u)(am3:u < 18446744073709551616 - e)(hw:0<=w)(aEd:w < 4294967296)(hr:0<=r)(afU:r < 4294967296)
  (hq:q*4294967295+r=u) (hQ:(u*4294967296+w) / (18446744073709551616 - e)<=q):
  (4294967296<=q->(u*4294967296+w) / (18446744073709551616 - e)<=q - 1)/\
  (q < 4294967296->4294967296*r+w < q*(4294967296 - e)->(u*4294967296+w) / (18446744073709551616 - e)<=q - 1)/\
  (q < 4294967296->q*(4294967296 - e)<=4294967296*r+w->(u*4294967296+w) / (18446744073709551616 - e)=q)/\
  (4294967296<=r+4294967295->(u*4294967296+w) / (18446744073709551616 - e)<=q - 1->(u*4294967296+w) / (18446744073709551616 - e)=q - 1)/\0<=(u*4294967296+w) / (18446744073709551616 - e)/\q<=4294967297:=by
 rcases he with rfl | rfl | rfl
 ·refine⟨?_,?_,?_,?_,?_,?_⟩ <;> omega
 ·refine⟨?_,?_,?_,?_,?_,?_⟩ <;> omega
 ·refine⟨?_,?_,?_,?_,?_,?_⟩ <;> omega
theorem k0{e u w:Int}(he:e=42260\/e=42264\/e=42272)(hu:0<=u)(am3:u < 18446744073709551616 - e)(hw:0<=w)(aEd:w < 4294967296):
  (u*4294967296+w) / (18446744073709551616 - e)<=u / 4294967295/\0<=u - u / 4294967295*4294967295/\u - u / 4294967295*4294967295 < 4294967296/\
  (u*4294967296+w) - (u*4294967296+w) / (18446744073709551616 - e)*(18446744073709551616 - e)=(u*4294967296+w)%(18446744073709551616 - e)/\
  0<=(u*4294967296+w)%(18446744073709551616 - e)/\(u*4294967296+w)%(18446744073709551616 - e) < 18446744073709551616 - e/\
  0<=(u*4294967296+w) / (18446744073709551616 - e)/\(u*4294967296+w) / (18446744073709551616 - e) < 4294967296:=by
 rcases he with rfl | rfl | rfl
 ·refine⟨?_,?_,?_,?_,?_,?_,?_,?_⟩ <;> omega
 ·refine⟨?_,?_,?_,?_,?_,?_,?_,?_⟩ <;> omega
 ·refine⟨?_,?_,?_,?_,?_,?_,?_,?_⟩ <;> omega
theorem kd(Y u w1 w0:Int)(hY:0 < Y)(h0:0<=w0)(h1:w0 < 4294967296):
  ((u*4294967296+w1)*4294967296+w0) / Y=(u*4294967296+w1) / Y*4294967296+((u*4294967296+w1)%Y*4294967296+w0) / Y/\
  ((u*4294967296+w1)*4294967296+w0)%Y=((u*4294967296+w1)%Y*4294967296+w0)%Y:=by
 generalize u*4294967296+w1=n;have e:n*4294967296+w0=(n%Y*4294967296+w0)+Y*(n / Y*4294967296):=by
  have:=Int.emod_add_mul_ediv n Y;have h:Y*(n / Y*4294967296)=(Y*(n / Y))*4294967296:=by rw[sy]
  rw[h];omega
 rw[e,Int.add_mul_ediv_left _ _ ak,Int.add_mul_emod_self_left];exact⟨ak,rfl⟩
def aSW(y:Int):Prop:=y=4611686018427377339\/y=2305843009213688669\/y=2305843009213688668
def aA5:Int->Prop:=aSW
def aNF:Int->Int:=λy=>if y=4611686018427377339 then 62 else 61
def DA:Fs Tryz.prog aA5 bC aNF:=fw 208 Tryz.f208 (λx=>([.d tu x],[])) (λx=>⟨.d ti x,[],[]⟩) [av tu]
theorem aHR(x)(k:K1 R):DA.A x k=aL (Dv x 4294967296) (aL (Dv (cP .u64 x 32) 65536) (aL (Dv (cP .u64 (cP .u64 x 32) 16) 256) (aL (eL (eQ .u8 (cP .u64 (cP .u64 (cP .u64 x 32) 16) 8)) 256) (k (DA.out (bO .i64 56 (eQ .i64 (arq (⟨#[0,1,2,2,3,3,3,3,4,4,4,4,4,4,4,4,5,5,5,5,5,5,5,5,5,5,5,5,5,5,5,5,6,6,6,6,6,6,6,6,6,6,6,6,6,6,6,6,6,6,6,6,6,6,6,6,6,6,6,6,6,6,6,6,7,7,7,7,7,7,7,7,7,7,7,7,7,7,7,7,7,7,7,7,7,7,7,7,7,7,7,7,7,7,7,7,7,7,7,7,7,7,7,7,7,7,7,7,7,7,7,7,7,7,7,7,7,7,7,7,7,7,7,7,7,7,7,7,8,8,8,8,8,8,8,8,8,8,8,8,8,8,8,8,8,8,8,8,8,8,8,8,8,8,8,8,8,8,8,8,8,8,8,8,8,8,8,8,8,8,8,8,8,8,8,8,8,8,8,8,8,8,8,8,8,8,8,8,8,8,8,8,8,8,8,8,8,8,8,8,8,8,8,8,8,8,8,8,8,8,8,8,8,8,8,8,8,8,8,8,8,8,8,8,8,8,8,8,8,8,8,8,8,8,8,8,8,8,8,8,8,8,8,8,8,8,8,8,8,8,8,8,8,8,8,8]⟩:ByteArray) (eQ .u8 (cP .u64 (cP .u64 (cP .u64 x 32) 16) 8))))))) aD) (aL (eL (eQ .u8 (cP .u64 (cP .u64 x 32) 16)) 256) (k (DA.out (bO .i64 48 (eQ .i64 (arq (⟨#[0,1,2,2,3,3,3,3,4,4,4,4,4,4,4,4,5,5,5,5,5,5,5,5,5,5,5,5,5,5,5,5,6,6,6,6,6,6,6,6,6,6,6,6,6,6,6,6,6,6,6,6,6,6,6,6,6,6,6,6,6,6,6,6,7,7,7,7,7,7,7,7,7,7,7,7,7,7,7,7,7,7,7,7,7,7,7,7,7,7,7,7,7,7,7,7,7,7,7,7,7,7,7,7,7,7,7,7,7,7,7,7,7,7,7,7,7,7,7,7,7,7,7,7,7,7,7,7,8,8,8,8,8,8,8,8,8,8,8,8,8,8,8,8,8,8,8,8,8,8,8,8,8,8,8,8,8,8,8,8,8,8,8,8,8,8,8,8,8,8,8,8,8,8,8,8,8,8,8,8,8,8,8,8,8,8,8,8,8,8,8,8,8,8,8,8,8,8,8,8,8,8,8,8,8,8,8,8,8,8,8,8,8,8,8,8,8,8,8,8,8,8,8,8,8,8,8,8,8,8,8,8,8,8,8,8,8,8,8,8,8,8,8,8,8,8,8,8,8,8,8,8,8,8,8,8]⟩:ByteArray) (eQ .u8 (cP .u64 (cP .u64 x 32) 16))))))) aD)) (aL (Dv (cP .u64 x 32) 256) (aL (eL (eQ .u8 (cP .u64 (cP .u64 x 32) 8)) 256) (k (DA.out (bO .i64 40 (eQ .i64 (arq (⟨#[0,1,2,2,3,3,3,3,4,4,4,4,4,4,4,4,5,5,5,5,5,5,5,5,5,5,5,5,5,5,5,5,6,6,6,6,6,6,6,6,6,6,6,6,6,6,6,6,6,6,6,6,6,6,6,6,6,6,6,6,6,6,6,6,7,7,7,7,7,7,7,7,7,7,7,7,7,7,7,7,7,7,7,7,7,7,7,7,7,7,7,7,7,7,7,7,7,7,7,7,7,7,7,7,7,7,7,7,7,7,7,7,7,7,7,7,7,7,7,7,7,7,7,7,7,7,7,7,8,8,8,8,8,8,8,8,8,8,8,8,8,8,8,8,8,8,8,8,8,8,8,8,8,8,8,8,8,8,8,8,8,8,8,8,8,8,8,8,8,8,8,8,8,8,8,8,8,8,8,8,8,8,8,8,8,8,8,8,8,8,8,8,8,8,8,8,8,8,8,8,8,8,8,8,8,8,8,8,8,8,8,8,8,8,8,8,8,8,8,8,8,8,8,8,8,8,8,8,8,8,8,8,8,8,8,8,8,8,8,8,8,8,8,8,8,8,8,8,8,8,8,8,8,8,8,8]⟩:ByteArray) (eQ .u8 (cP .u64 (cP .u64 x 32) 8))))))) aD) (aL (eL (eQ .u8 (cP .u64 x 32)) 256) (k (DA.out (bO .i64 32 (eQ .i64 (arq (⟨#[0,1,2,2,3,3,3,3,4,4,4,4,4,4,4,4,5,5,5,5,5,5,5,5,5,5,5,5,5,5,5,5,6,6,6,6,6,6,6,6,6,6,6,6,6,6,6,6,6,6,6,6,6,6,6,6,6,6,6,6,6,6,6,6,7,7,7,7,7,7,7,7,7,7,7,7,7,7,7,7,7,7,7,7,7,7,7,7,7,7,7,7,7,7,7,7,7,7,7,7,7,7,7,7,7,7,7,7,7,7,7,7,7,7,7,7,7,7,7,7,7,7,7,7,7,7,7,7,8,8,8,8,8,8,8,8,8,8,8,8,8,8,8,8,8,8,8,8,8,8,8,8,8,8,8,8,8,8,8,8,8,8,8,8,8,8,8,8,8,8,8,8,8,8,8,8,8,8,8,8,8,8,8,8,8,8,8,8,8,8,8,8,8,8,8,8,8,8,8,8,8,8,8,8,8,8,8,8,8,8,8,8,8,8,8,8,8,8,8,8,8,8,8,8,8,8,8,8,8,8,8,8,8,8,8,8,8,8,8,8,8,8,8,8,8,8,8,8,8,8,8,8,8,8,8,8]⟩:ByteArray) (eQ .u8 (cP .u64 x 32))))))) aD))) (aL (Dv x 65536) (aL (Dv (cP .u64 x 16) 256) (aL (eL (eQ .u8 (cP .u64 (cP .u64 x 16) 8)) 256) (k (DA.out (bO .i64 24 (eQ .i64 (arq (⟨#[0,1,2,2,3,3,3,3,4,4,4,4,4,4,4,4,5,5,5,5,5,5,5,5,5,5,5,5,5,5,5,5,6,6,6,6,6,6,6,6,6,6,6,6,6,6,6,6,6,6,6,6,6,6,6,6,6,6,6,6,6,6,6,6,7,7,7,7,7,7,7,7,7,7,7,7,7,7,7,7,7,7,7,7,7,7,7,7,7,7,7,7,7,7,7,7,7,7,7,7,7,7,7,7,7,7,7,7,7,7,7,7,7,7,7,7,7,7,7,7,7,7,7,7,7,7,7,7,8,8,8,8,8,8,8,8,8,8,8,8,8,8,8,8,8,8,8,8,8,8,8,8,8,8,8,8,8,8,8,8,8,8,8,8,8,8,8,8,8,8,8,8,8,8,8,8,8,8,8,8,8,8,8,8,8,8,8,8,8,8,8,8,8,8,8,8,8,8,8,8,8,8,8,8,8,8,8,8,8,8,8,8,8,8,8,8,8,8,8,8,8,8,8,8,8,8,8,8,8,8,8,8,8,8,8,8,8,8,8,8,8,8,8,8,8,8,8,8,8,8,8,8,8,8,8,8]⟩:ByteArray) (eQ .u8 (cP .u64 (cP .u64 x 16) 8))))))) aD) (aL (eL (eQ .u8 (cP .u64 x 16)) 256) (k (DA.out (bO .i64 16 (eQ .i64 (arq (⟨#[0,1,2,2,3,3,3,3,4,4,4,4,4,4,4,4,5,5,5,5,5,5,5,5,5,5,5,5,5,5,5,5,6,6,6,6,6,6,6,6,6,6,6,6,6,6,6,6,6,6,6,6,6,6,6,6,6,6,6,6,6,6,6,6,7,7,7,7,7,7,7,7,7,7,7,7,7,7,7,7,7,7,7,7,7,7,7,7,7,7,7,7,7,7,7,7,7,7,7,7,7,7,7,7,7,7,7,7,7,7,7,7,7,7,7,7,7,7,7,7,7,7,7,7,7,7,7,7,8,8,8,8,8,8,8,8,8,8,8,8,8,8,8,8,8,8,8,8,8,8,8,8,8,8,8,8,8,8,8,8,8,8,8,8,8,8,8,8,8,8,8,8,8,8,8,8,8,8,8,8,8,8,8,8,8,8,8,8,8,8,8,8,8,8,8,8,8,8,8,8,8,8,8,8,8,8,8,8,8,8,8,8,8,8,8,8,8,8,8,8,8,8,8,8,8,8,8,8,8,8,8,8,8,8,8,8,8,8,8,8,8,8,8,8,8,8,8,8,8,8,8,8,8,8,8,8]⟩:ByteArray) (eQ .u8 (cP .u64 x 16))))))) aD)) (aL (Dv x 256) (aL (eL (eQ .u8 (cP .u64 x 8)) 256) (k (DA.out (bO .i64 8 (eQ .i64 (arq (⟨#[0,1,2,2,3,3,3,3,4,4,4,4,4,4,4,4,5,5,5,5,5,5,5,5,5,5,5,5,5,5,5,5,6,6,6,6,6,6,6,6,6,6,6,6,6,6,6,6,6,6,6,6,6,6,6,6,6,6,6,6,6,6,6,6,7,7,7,7,7,7,7,7,7,7,7,7,7,7,7,7,7,7,7,7,7,7,7,7,7,7,7,7,7,7,7,7,7,7,7,7,7,7,7,7,7,7,7,7,7,7,7,7,7,7,7,7,7,7,7,7,7,7,7,7,7,7,7,7,8,8,8,8,8,8,8,8,8,8,8,8,8,8,8,8,8,8,8,8,8,8,8,8,8,8,8,8,8,8,8,8,8,8,8,8,8,8,8,8,8,8,8,8,8,8,8,8,8,8,8,8,8,8,8,8,8,8,8,8,8,8,8,8,8,8,8,8,8,8,8,8,8,8,8,8,8,8,8,8,8,8,8,8,8,8,8,8,8,8,8,8,8,8,8,8,8,8,8,8,8,8,8,8,8,8,8,8,8,8,8,8,8,8,8,8,8,8,8,8,8,8,8,8,8,8,8,8]⟩:ByteArray) (eQ .u8 (cP .u64 x 8))))))) aD) (aL (eL (eQ .u8 x) 256) (k (DA.out (bO .i64 0 (eQ .i64 (arq (⟨#[0,1,2,2,3,3,3,3,4,4,4,4,4,4,4,4,5,5,5,5,5,5,5,5,5,5,5,5,5,5,5,5,6,6,6,6,6,6,6,6,6,6,6,6,6,6,6,6,6,6,6,6,6,6,6,6,6,6,6,6,6,6,6,6,7,7,7,7,7,7,7,7,7,7,7,7,7,7,7,7,7,7,7,7,7,7,7,7,7,7,7,7,7,7,7,7,7,7,7,7,7,7,7,7,7,7,7,7,7,7,7,7,7,7,7,7,7,7,7,7,7,7,7,7,7,7,7,7,8,8,8,8,8,8,8,8,8,8,8,8,8,8,8,8,8,8,8,8,8,8,8,8,8,8,8,8,8,8,8,8,8,8,8,8,8,8,8,8,8,8,8,8,8,8,8,8,8,8,8,8,8,8,8,8,8,8,8,8,8,8,8,8,8,8,8,8,8,8,8,8,8,8,8,8,8,8,8,8,8,8,8,8,8,8,8,8,8,8,8,8,8,8,8,8,8,8,8,8,8,8,8,8,8,8,8,8,8,8,8,8,8,8,8,8,8,8,8,8,8,8,8,8,8,8,8,8]⟩:ByteArray) (eQ .u8 x)))))) aD))):=cr
theorem aHS:DA.Ok:=by intro y h;rw[aHR];obtain rfl | rfl | rfl:=h <;> kernel_rfl
theorem aA6:DA.RS:=rE [.d tu] DA
def aHT:=DA.fC aHS
def aIh:Int->Prop:=aSW
def aIg:Int->Int:=λy=>if y=4611686018427377339 then 2 else 3
def auu:Fs Tryz.prog aIh bC aIg:=fw 238 Tryz.f238 (λx=>([.d tu x],[])) (λx=>⟨.d ti x,[],[]⟩) [av tu] [aHT]
theorem aNO(x)(k:K1 R):auu.A x k=al (DA.call x) λx1=>k (auu.out (da .i64 64 x1)):=cr
theorem aNP:auu.Ok:=by intro y h;rw[aNO,aA6 (d:=y) h];obtain rfl | rfl | rfl:=h <;> rfl
theorem aIi:auu.RS:=rE [.d tu] auu
def aNQ:=auu.fC aNP
abbrev Pt:=Int×Int×Int×Int×Int×Int×Int×Int×Int
def RL:Pt->Int->((Int×Int×Int×Int×Int×Int×Int)×(Int)):=λ(ag7,sv,yn1,yn0,un32,un1,un0,q1,rhat) y=>((ag7,sv,yn1,yn0,un32,un1,un0),y)
abbrev Pu:=Int×Int×Int×Int×Int×Int×Int×Int×Int
def RN:Pu->Int->((Int×Int×Int×Int×Int)×(Int)):=λ(ag8,nf,OW,afA,LK,agk,HC,un21,q0) y=>((ag8,nf,LK,agk,un21),y)
def RK:Pt->Prop:=λ(y,sv,yn1,yn0,u,w,un0,q,r)=>∃e:Int,(e=42260\/e=42264\/e=42272)/\y=18446744073709551616 - e/\yn1=4294967295/\yn0=4294967296 - e/\0<=u/\u < 18446744073709551616 - e/\0<=w/\w < 4294967296/\0<=r/\r < 4294967296/\q*4294967295+r=u/\(u*4294967296+w) / (18446744073709551616 - e)<=q
def GR:Pt->Int:=λ(y,sv,yn1,yn0,u,w,un0,q,r)=>(u*4294967296+w) / y
def RM:Pu->Prop:=λ(y,sv,yn1,yn0,w,q1,r,u,q)=>∃e:Int,(e=42260\/e=42264\/e=42272)/\y=18446744073709551616 - e/\yn1=4294967295/\yn0=4294967296 - e/\0<=u/\u < 18446744073709551616 - e/\0<=w/\w < 4294967296/\0<=r/\r < 4294967296/\q*4294967295+r=u/\(u*4294967296+w) / (18446744073709551616 - e)<=q
def GS:Pu->Int:=λ(y,sv,yn1,yn0,w,q1,r,u,q)=>(u*4294967296+w) / y
def ahN:(Int×Int×Int)->Prop:=λ(hi,lo,y)=>(aSW y\/hi=0/\0 < y/\y < 18446744073709551616)/\0<=hi/\hi < y/\0<=lo/\lo < 18446744073709551616
def akr:(Int×Int×Int)->(Int×Int):=λ(hi,lo,y)=>((hi*18446744073709551616+lo) / y,(hi*18446744073709551616+lo)%y)
def oX:Ls RK RL GR:=sH (λ(ag7,sv,yn1,yn0,un32,un1,un0,q1,rhat)=>⟨([bH,bH,.d tu ag7]++aS 5 ([.d tu sv,.d tu yn1,.d tu yn0,.d tu un32,bH,.d tu un1,.d tu un0,.d tu q1,.d tu rhat]++aS 118 [])),[],(ab 135 [])⟩) (λx=>(.exit 0,⟨([bH,bH,.d tu x.1.1]++aS 5 ([.d tu x.1.2.1,.d tu x.1.2.2.1,.d tu x.1.2.2.2.1,.d tu x.1.2.2.2.2.1,bH,.d tu x.1.2.2.2.2.2.1,.d tu x.1.2.2.2.2.2.2,.d tu x.2]++aS 119 [])),[],(ab 135 [])⟩))
def oY:Ls RM RN GS:=sH (λ(ag8,nf,OW,afA,LK,agk,HC,un21,q0)=>⟨([bH,bH,.d tu ag8]++aS 5 ([.d tu nf,.d tu OW,.d tu afA,bH,bH,bH,.d tu LK,.d tu agk,.d tu HC,.d tu un21,.d tu q0]++aS 116 [])),[],(ab 135 [])⟩) (λx=>(.exit 2,⟨([bH,bH,.d tu x.1.1]++aS 5 ([.d tu x.1.2.1]++aS 5 ([.d tu x.1.2.2.1,.d tu x.1.2.2.2.1,bH,.d tu x.1.2.2.2.2,.d tu x.2]++aS 116 []))),[],(ab 135 [])⟩))
def Dq:Fs Tryz.prog ahN bC akr:=fw 218 Tryz.f218 (λ(hi,lo,yv)=>([.d tu hi,.d tu lo,.d tu yv],[])) (λx=>⟨.cons (.d tu x.1) (.cons (.d tu x.2) (.nil)),[],[]⟩) [av tu,av tu,av tu] [aNQ] {loops:=oJ [(17,{ba:=[2,8,9,10,11,13,14,15,16]}),(24,{ba:=[2,8,9,10,14,15,16,17,18]})],outs:=oI [(17,{ba:=[2,8,9,10,11,13,14,15]},{ba:=[6,7]}),(24,{ba:=[2,8,14,15,17,18]},{ba:=[6,7]})],gf:=nQ [(17,oX.E),(24,oY.E)]}
theorem aks:oX.RS:=rL [.d tu,.d tu,.d tu,.d tu,.d tu,.d tu,.d tu,.d tu,.d tu] oX
theorem Ep(ag7 sv yn1 yn0 un32 un1 un0 q1 rhat)(kn:K2 R)(kx:K3 R):Dq.R 0 oX (ag7,sv,yn1,yn0,un32,un1,un0,q1,rhat) kn kx=aL (Dv q1 4294967296) (aL (Dv (bO .u64 rhat yn1) 4294967296) (oX.go kx ((ag7,sv,yn1,yn0,un32,un1,un0),(da .u64 q1 1))) (kn (oX.st (ag7,sv,yn1,yn0,un32,un1,un0,(da .u64 q1 1),(bO .u64 rhat yn1))))) (aL (pJ (ia .u64 q1 yn0) (bO .u64 (ia .u64 4294967296 rhat) un1)) (aL (Dv (bO .u64 rhat yn1) 4294967296) (oX.go kx ((ag7,sv,yn1,yn0,un32,un1,un0),(da .u64 q1 1))) (kn (oX.st (ag7,sv,yn1,yn0,un32,un1,un0,(da .u64 q1 1),(bO .u64 rhat yn1))))) (oX.go kx ((ag7,sv,yn1,yn0,un32,un1,un0),q1))):=cr
theorem akt:oY.RS:=rL [.d tu,.d tu,.d tu,.d tu,.d tu,.d tu,.d tu,.d tu,.d tu] oY
theorem Er(ag8 nf OW afA LK agk HC un21 q0)(kn:K2 R)(kx:K3 R):Dq.R 1 oY (ag8,nf,OW,afA,LK,agk,HC,un21,q0) kn kx=aL (Dv q0 4294967296) (aL (Dv (bO .u64 HC OW) 4294967296) (oY.go kx ((ag8,nf,LK,agk,un21),(da .u64 q0 1))) (kn (oY.st (ag8,nf,OW,afA,LK,agk,(bO .u64 HC OW),un21,(da .u64 q0 1))))) (aL (pJ (ia .u64 q0 afA) (bO .u64 (ia .u64 4294967296 HC) LK)) (aL (Dv (bO .u64 HC OW) 4294967296) (oY.go kx ((ag8,nf,LK,agk,un21),(da .u64 q0 1))) (kn (oY.st (ag8,nf,OW,afA,LK,agk,(bO .u64 HC OW),un21,(da .u64 q0 1))))) (oY.go kx ((ag8,nf,LK,agk,un21),q0))):=cr
theorem aGv(hi lo yv)(k:K1 R):Dq.A (hi,lo,yv) k=aL (oV yv 0) (aD) (aL (akZ yv hi) (aD) (aL (oV hi 0) (aL (tc yv) (aL (tc yv) (k (Dq.out ((uX .u64 lo yv),(nP lo yv)))) aD) aD) (al (auu.call yv) λx1=>aL (nE (eQ .u64 x1)) (aL (nE (eQ .u64 x1)) (aL (nE (da .u64 64 (eQ .u64 x1))) (aL (nE (eQ .u64 x1)) (aL (tc (cP .u64 (nC .u64 yv (eQ .u64 x1)) 32)) (al (oX.call ((nC .u64 yv (eQ .u64 x1)),(eQ .u64 x1),(cP .u64 (nC .u64 yv (eQ .u64 x1)) 32),(cV .and .u64 (nC .u64 yv (eQ .u64 x1)) 4294967295),(cV .or .u64 (nC .u64 hi (eQ .u64 x1)) (cP .u64 lo (da .u64 64 (eQ .u64 x1)))),(cP .u64 (nC .u64 lo (eQ .u64 x1)) 32),(cV .and .u64 (nC .u64 lo (eQ .u64 x1)) 4294967295),(uX .u64 (cV .or .u64 (nC .u64 hi (eQ .u64 x1)) (cP .u64 lo (da .u64 64 (eQ .u64 x1)))) (cP .u64 (nC .u64 yv (eQ .u64 x1)) 32)),(da .u64 (cV .or .u64 (nC .u64 hi (eQ .u64 x1)) (cP .u64 lo (da .u64 64 (eQ .u64 x1)))) (ia .u64 (uX .u64 (cV .or .u64 (nC .u64 hi (eQ .u64 x1)) (cP .u64 lo (da .u64 64 (eQ .u64 x1)))) (cP .u64 (nC .u64 yv (eQ .u64 x1)) 32)) (cP .u64 (nC .u64 yv (eQ .u64 x1)) 32))))) λx2=>aL (tc x2.1.2.2.1) (al (oY.call (x2.1.1,x2.1.2.1,x2.1.2.2.1,x2.1.2.2.2.1,x2.1.2.2.2.2.2.2,x2.2,(da .u64 (da .u64 (bO .u64 (ia .u64 x2.1.2.2.2.2.1 4294967296) x2.1.2.2.2.2.2.1) (ia .u64 x2.2 x2.1.1)) (ia .u64 (uX .u64 (da .u64 (bO .u64 (ia .u64 x2.1.2.2.2.2.1 4294967296) x2.1.2.2.2.2.2.1) (ia .u64 x2.2 x2.1.1)) x2.1.2.2.1) x2.1.2.2.1)),(da .u64 (bO .u64 (ia .u64 x2.1.2.2.2.2.1 4294967296) x2.1.2.2.2.2.2.1) (ia .u64 x2.2 x2.1.1)),(uX .u64 (da .u64 (bO .u64 (ia .u64 x2.1.2.2.2.2.1 4294967296) x2.1.2.2.2.2.2.1) (ia .u64 x2.2 x2.1.1)) x2.1.2.2.1))) λx3=>aL (nE x3.1.2.1) (k (Dq.out ((bO .u64 (ia .u64 x3.1.2.2.2.1 4294967296) x3.2),(cP .u64 (da .u64 (bO .u64 (ia .u64 x3.1.2.2.2.2 4294967296) x3.1.2.2.1) (ia .u64 x3.2 x3.1.1)) x3.1.2.1)))) aD) aD) aD) aD) aD) aD) aD))):=cr
theorem aoI:(Dq.lF 0 oX):=by
 refine(Dq.mY 0 oX) (λ(y,sv,yn1,yn0,u,w,un0,q,r)=>q.toNat) ?_
 rintro⟨y,sv,yn1,yn0,u,w,un0,q,r⟩ ⟨e,he,rfl,rfl,rfl,hu,am3,hw,aEd,hr,afU,hq,hQ⟩;have hu:0<=u:=hu;have am3:u < 18446744073709551616 - e:=am3;have hw:0<=w:=hw;have aEd:w < 4294967296:=aEd;have hr:0<=r:=hr;have afU:r < 4294967296:=afU;have hq:q*4294967295+r=u:=hq;obtain⟨k1,k2,k3,k4,k5,k6⟩:=k1 he hu am3 hw aEd hr afU hq hQ;have q0:0<=q:=Int.le_trans k5 hQ;have a1:bO .u64 r 4294967295=r+4294967295:=by rw[vF];omega
 have a2:bO .u64 (ia .u64 4294967296 r) w=4294967296*r+w:=by rw[AF,vF];omega
 have a3:q < 4294967296->ia .u64 q (4294967296 - e)=q*(4294967296 - e):=by intro h;rw[AF];rcases he with rfl | rfl | rfl <;> omega
 have a4:0 < q->da .u64 q 1=q - 1:=by intro h;rw[ZN];omega
 have pos:4294967296<=q\/(q < 4294967296/\4294967296*r+w < q*(4294967296 - e))->0 < q/\(u*4294967296+w) / (18446744073709551616 - e)<=q - 1:=by
  rintro(h | ⟨h,h2⟩)
  ·exact⟨ak,k1 h⟩
  ·exact⟨by have:=k2 h h2;omega,k2 h h2⟩
 by_cases hc:4294967296<=q\/(q < 4294967296/\4294967296*r+w < q*(4294967296 - e))
 ·obtain⟨p1,p2⟩:=pos hc;by_cases hb:4294967296<=r+4294967295
  ·right;have hF:GR (18446744073709551616 - e,sv,4294967295,4294967296 - e,u,w,un0,q,r)=q - 1:=k4 hb p2;intro R kn kx;rw[Ep,a1,a2,a4 p1,hZ hb,hF];rcases hc with h | ⟨h,h2⟩
   ·rw[hZ h];rfl
   ·rw[ff ak,a3 h,dd h2];rfl
  ·left;refine⟨(18446744073709551616 - e,sv,4294967295,4294967296 - e,u,w,un0,q - 1,r+4294967295),⟨e,he,rfl,rfl,rfl,hu,am3,hw,aEd,ak,ak,ak,p2⟩,by simp only[];omega,rfl,λkn kx=> ?_⟩;rw[Ep,a1,a2,a4 p1,ff hb];rcases hc with h | ⟨h,h2⟩
   ·rw[hZ h];rfl
   ·rw[ff ak,a3 h,dd h2];rfl
 ·right;have h:q < 4294967296:=ak;have h2:¬4294967296*r+w < q*(4294967296 - e):=λx=>hc (fN ⟨h,x⟩)
  have hF:GR (18446744073709551616 - e,sv,4294967295,4294967296 - e,u,w,un0,q,r)=q:=k3 h ak;intro R kn kx;rw[Ep,a2,a3 h,ff ak,cH h2,hF];rfl
theorem aoJ:(Dq.lF 1 oY):=by
 refine(Dq.mY 1 oY) (λ(y,sv,yn1,yn0,w,q1,r,u,q)=>q.toNat) ?_
 rintro⟨y,sv,yn1,yn0,w,q1,r,u,q⟩ ⟨e,he,rfl,rfl,rfl,hu,am3,hw,aEd,hr,afU,hq,hQ⟩;have hu:0<=u:=hu;have am3:u < 18446744073709551616 - e:=am3;have hw:0<=w:=hw;have aEd:w < 4294967296:=aEd;have hr:0<=r:=hr;have afU:r < 4294967296:=afU;have hq:q*4294967295+r=u:=hq;obtain⟨k1,k2,k3,k4,k5,k6⟩:=k1 he hu am3 hw aEd hr afU hq hQ;have q0:0<=q:=Int.le_trans k5 hQ;have a1:bO .u64 r 4294967295=r+4294967295:=by rw[vF];omega
 have a2:bO .u64 (ia .u64 4294967296 r) w=4294967296*r+w:=by rw[AF,vF];omega
 have a3:q < 4294967296->ia .u64 q (4294967296 - e)=q*(4294967296 - e):=by intro h;rw[AF];rcases he with rfl | rfl | rfl <;> omega
 have a4:0 < q->da .u64 q 1=q - 1:=by intro h;rw[ZN];omega
 have pos:4294967296<=q\/(q < 4294967296/\4294967296*r+w < q*(4294967296 - e))->0 < q/\(u*4294967296+w) / (18446744073709551616 - e)<=q - 1:=by
  rintro(h | ⟨h,h2⟩)
  ·exact⟨ak,k1 h⟩
  ·exact⟨by have:=k2 h h2;omega,k2 h h2⟩
 by_cases hc:4294967296<=q\/(q < 4294967296/\4294967296*r+w < q*(4294967296 - e))
 ·obtain⟨p1,p2⟩:=pos hc;by_cases hb:4294967296<=r+4294967295
  ·right;have hF:GS (18446744073709551616 - e,sv,4294967295,4294967296 - e,w,q1,r,u,q)=q - 1:=k4 hb p2;intro R kn kx;rw[Er,a1,a2,a4 p1,hZ hb,hF];rcases hc with h | ⟨h,h2⟩
   ·rw[hZ h];rfl
   ·rw[ff ak,a3 h,dd h2];rfl
  ·left;refine⟨(18446744073709551616 - e,sv,4294967295,4294967296 - e,w,q1,r+4294967295,u,q - 1),⟨e,he,rfl,rfl,rfl,hu,am3,hw,aEd,ak,ak,ak,p2⟩,by simp only[];omega,rfl,λkn kx=> ?_⟩;rw[Er,a1,a2,a4 p1,ff hb];rcases hc with h | ⟨h,h2⟩
   ·rw[hZ h];rfl
   ·rw[ff ak,a3 h,dd h2];rfl
 ·right;have h:q < 4294967296:=ak;have h2:¬4294967296*r+w < q*(4294967296 - e):=λx=>hc (fN ⟨h,x⟩)
  have hF:GS (18446744073709551616 - e,sv,4294967295,4294967296 - e,w,q1,r,u,q)=q:=k3 h ak;intro R kn kx;rw[Er,a2,a3 h,ff ak,cH h2,hF];rfl
theorem aQH{y hi lo:Int}(hy:aSW y)(h0:0<=hi)(h1:hi < y)(h2:0<=lo)(h3:lo < 18446744073709551616):∃(s:Nat) (e m:Int),aIg y=s/\(s=2\/s=3)/\m=2^s/\(e=42260\/e=42264\/e=42272)/\y*m=18446744073709551616 - e/\
  nC .u64 y (s:Int)=18446744073709551616 - e/\
  cV .or .u64 (nC .u64 hi (s:Int)) (cP .u64 lo (da .u64 64 (s:Int)))=(hi*18446744073709551616+lo)*m / 18446744073709551616/\
  nC .u64 lo (s:Int)=(hi*18446744073709551616+lo)*m%18446744073709551616/\
  (hi*18446744073709551616+lo)*m / 18446744073709551616 < 18446744073709551616 - e/\
  (hi*18446744073709551616+lo)*m / (18446744073709551616 - e)=(hi*18446744073709551616+lo) / y/\
  (hi*18446744073709551616+lo)*m%(18446744073709551616 - e) / m=(hi*18446744073709551616+lo)%y:=by
 have e1:da .u64 64 ((2:Nat):Int)=((62:Nat):Int):=rfl;have e2:da .u64 64 ((3:Nat):Int)=((61:Nat):Int):=rfl;have p2:(2:Int)^2=4:=rfl;have p3:(2:Int)^3=8:=rfl;have p61:(2:Int)^61=2305843009213693952:=rfl;have p62:(2:Int)^62=4611686018427387904:=rfl;obtain rfl | rfl | rfl:=hy
 ·refine⟨2,42260,4,rfl,mL rfl,rfl,mL rfl,rfl,by rw[yj 2 (by rfl) ak,p2];omega,?_,?_,ak,ak,ak⟩
  ·rw[e1,yj 2 (by rfl) ak,yk 62 (by rfl) ak,p2,p62,SQ 2 4 rfl ak ak ak ak ak ak];omega
  ·rw[yj 2 (by rfl) ak,p2];omega
 ·refine⟨3,42264,8,rfl,fN rfl,rfl,fN (mL rfl),rfl,by rw[yj 3 (by rfl) ak,p3];omega,?_,?_,ak,ak,ak⟩
  ·rw[e2,yj 3 (by rfl) ak,yk 61 (by rfl) ak,p3,p61,SQ 3 8 rfl ak ak ak ak ak ak];omega
  ·rw[yj 3 (by rfl) ak,p3];omega
 ·refine⟨3,42272,8,rfl,fN rfl,rfl,fN (fN rfl),rfl,by rw[yj 3 (by rfl) ak,p3];omega,?_,?_,ak,ak,ak⟩
  ·rw[e2,yj 3 (by rfl) ak,yk 61 (by rfl) ak,p3,p61,SQ 3 8 rfl ak ak ak ak ak ak];omega
  ·rw[yj 3 (by rfl) ak,p3];omega
theorem aWK(a b c:Int):(((a%18446744073709551616+b)%18446744073709551616) - c%18446744073709551616)%18446744073709551616=(a+b - c)%18446744073709551616:=ak
theorem aGw:Dq.Ok:=by
 rintro⟨hi,lo,y⟩ ⟨hy,h0,h1,h2,h3⟩;have h0:0<=hi:=h0;have h1:hi < y:=h1;have h2:0<=lo:=h2;have h3:lo < 18446744073709551616:=h3;have yb:0 < y/\y < 18446744073709551616:=by
  rcases hy with hy | hy
  ·obtain rfl | rfl | rfl:=hy <;> omega
  ·exact hy.2
 rw[aGv,fm ak,kO ak];simp only[ao];have z:tc y=aZ:=by simp[tc];omega
 by_cases hz:hi=0
 ·subst hz;rw[du rfl,z,ak5 h2 ak h3,xM h2];simp only[aj,akr,bC,Int.zero_mul,Int.zero_add]
 ·have hy:aSW y:=hy.resolve_right λe=>hz e.1
  obtain⟨s,e,m,hs,abO,hm,he,aZU,a1,a2,a3,a4,a5,a6⟩:=aQH hy h0 h1 h2 h3;have c1:eQ .u64 (s:Int)=(s:Int):=by rw[aHs];omega
  have c2:nE (s:Int)=aZ:=uJ ak;have c3:nE (da .u64 64 (s:Int))=aZ:=by rcases abO with rfl | rfl <;> rfl
  rw[fm hz,aIi (d:=y) hy];simp only[ao,ah,bC,hs,c1,c2,c3,aj,a1,a2,a3];have hN:0<=(hi*18446744073709551616+lo)*m:=Int.mul_nonneg ak (by rcases abO with rfl | rfl <;> omega)
  revert a4 a5 a6
  generalize (hi*18446744073709551616+lo)*m=N at hN;intro a4 a5 a6;have u0:0<=N / 18446744073709551616:=ak;have t0:0<=N%18446744073709551616:=ak;have t1:N%18446744073709551616 < 18446744073709551616:=ak;have hd:N=(N / 18446744073709551616*4294967296+N%18446744073709551616 / 4294967296)*4294967296+N%18446744073709551616%4294967296:=ak;have w10:0<=N%18446744073709551616 / 4294967296:=ak;have w11:N%18446744073709551616 / 4294967296 < 4294967296:=ak;have w00:0<=N%18446744073709551616%4294967296:=ak;have w01:N%18446744073709551616%4294967296 < 4294967296:=ak;have p32:(2:Int)^32=4294967296:=rfl;have b1:cP .u64 (18446744073709551616 - e) 32=4294967295:=by rw[yk 32 (by rfl) ak,p32];rcases he with rfl | rfl | rfl <;> rfl
  have b2:cV .and .u64 (18446744073709551616 - e) 4294967295=4294967296 - e:=by rw[anl ak ak];omega
  have b3:cP .u64 (N%18446744073709551616) 32=N%18446744073709551616 / 4294967296:=by rw[yk 32 (by rfl) ak,p32]
  have b4:cV .and .u64 (N%18446744073709551616) 4294967295=N%18446744073709551616%4294967296:=anl t0 t1;have z2:tc 4294967295=aZ:=rfl;simp only[b1,b2,b3,b4,z2,aj];clear a1 a2 a3 b1 b2 b3 b4;have kdd:=kd (18446744073709551616 - e) (N / 18446744073709551616) (N%18446744073709551616 / 4294967296) (N%18446744073709551616%4294967296) ak w00 w01;rw[<-hd,a5]at kdd
  revert a4 kdd
  generalize N / 18446744073709551616=u at u0;generalize N%18446744073709551616 / 4294967296=w1 at w10 w11;generalize N%18446744073709551616%4294967296=w0 at w00 w01;intro a4 kdd
  have g:∀u w:Int,0<=u->u < 18446744073709551616 - e->0<=w->w < 4294967296->
    uX .u64 u 4294967295=u / 4294967295/\da .u64 u (ia .u64 (u / 4294967295) 4294967295)=u - u / 4294967295*4294967295/\
    da .u64 (bO .u64 (ia .u64 u 4294967296) w) (ia .u64 ((u*4294967296+w) / (18446744073709551616 - e)) (18446744073709551616 - e))=(u*4294967296+w)%(18446744073709551616 - e):=by
   intro u w k1 k2 k3 k4;obtain⟨q1,q2,q3,q4,q5,q6,q7,q8⟩:=k0 he k1 k2 k3 k4;refine⟨ak5 k1 ak ak,by rw[ZN,AF];omega,?_⟩;rw[ZN,vF,AF,AF,aWK,q4];exact fJ q5 ak
  obtain⟨f1,f2,f3⟩:=g u w1 u0 a4 w10 w11;obtain⟨q1,q2,q3,q4,q5,q6,q7,q8⟩:=k0 he u0 a4 w10 w11;have p1:RK (18446744073709551616 - e,(s:Int),4294967295,4294967296 - e,u,w1,w0,u / 4294967295,u - u / 4294967295*4294967295):=⟨e,he,rfl,rfl,rfl,u0,a4,w10,w11,q2,q3,ak,q1⟩;rw[f1,f2,aks p1];simp only[ah,RL,GR,z2,aj,f3]
  revert f3 q1 kdd
  generalize (u*4294967296+w1)%(18446744073709551616 - e)=v at q4 q5 q6;generalize (u*4294967296+w1) / (18446744073709551616 - e)=Q at q4 q7 q8;intro kdd f3 q1;obtain⟨g1,g2,g3⟩:=g v w0 q5 q6 w00 w01;obtain⟨r1,r2,r3,r4,r5,r6,r7,r8⟩:=k0 he q5 q6 w00 w01;have p2:RM (18446744073709551616 - e,(s:Int),4294967295,4294967296 - e,w0,Q,v - v / 4294967295*4294967295,v,v / 4294967295):=⟨e,he,rfl,rfl,rfl,q5,q6,w00,w01,r2,r3,ak,r1⟩;rw[g1,g2,akt p2];simp only[ah,RN,GS,c2,aj,g3];rw[<-kdd.2,yk s (by rfl) ak,<-hm,a6,AF,vF];have e9:(Q*4294967296%18446744073709551616+(v*4294967296+w0) / (18446744073709551616 - e))%18446744073709551616=(hi*18446744073709551616+lo) / y:=by rw[kdd.1];omega
  rw[e9];rfl
theorem aAb:Dq.RS:=rE [.d tu,.d tu,.d tu] Dq
def aGx:=Dq.fC aGw 2 ⟨.fI aoI,⟨.fI aoJ,trivial⟩⟩
def VZ:(Int×Int×Int)->Prop:=λ(hi,lo,y)=>aSW y/\0<=hi/\hi < 18446744073709551616/\0<=lo/\lo < 18446744073709551616
def Te:(Int×Int×Int)->Int:=λ(hi,lo,y)=>(hi*18446744073709551616+lo)%y
def Td:Fs Tryz.prog VZ bC Te:=fw 185 Tryz.f185 (λ(hi,lo,yv)=>([.d tu hi,.d tu lo,.d tu yv],[])) (λx=>⟨.d tu x,[],[]⟩) [av tu,av tu,av tu] [aGx]
theorem aJp(hi lo yv)(k:K1 R):Td.A (hi,lo,yv) k=aL (tc yv) (al (Dq.call ((nP hi yv),lo,yv)) λx1=>k (Td.out x1.2)) aD:=cr
theorem aJq:Td.Ok:=by
 rintro⟨hi,lo,y⟩ ⟨hy,h0,h1,h2,h3⟩;have h0:0<=hi:=h0;have yb:0 < y:=by obtain rfl | rfl | rfl:=hy <;> omega
 have z:tc y=aZ:=by simp[tc];omega
 have p:ahN (hi%y,lo,y):=⟨.inl hy,lM _ ak,kV _ yb,h2,h3⟩;rw[aJp,z,xM h0,aAb p];have e:(hi%y*18446744073709551616+lo)%y=(hi*18446744073709551616+lo)%y:=by rw[u7,ka,iH _ (qU y),<-ka,<-u7]
 simp only[aj,ah,bC,akr,bC,Te,e]
theorem V1:Td.RS:=rE [.d tu,.d tu,.d tu] Td
def adW:=Td.fC aJq
def aBr:(Int×Int)->Prop:=λ(x,y)=>(0<=x/\x < 18446744073709551616)/\0<=y/\y < 18446744073709551616
def ZT:(Int×Int)->(Int×Int):=λ(x,y)=>(x*y / 18446744073709551616,x*y%18446744073709551616)
def SI:Fs Tryz.prog aBr bC ZT:=fw 213 Tryz.f213 (λ(x,yv)=>([.d tu x,.d tu yv],[])) (λx=>⟨.cons (.d tu x.1) (.cons (.d tu x.2) (.nil)),[],[]⟩) [av tu,av tu]
theorem aIl(x yv)(k:K1 R):SI.A (x,yv) k=k (SI.out ((bO .u64 (bO .u64 (ia .u64 (cP .u64 x 32) (cP .u64 yv 32)) (cP .u64 (bO .u64 (ia .u64 (cP .u64 x 32) (cV .and .u64 yv 4294967295)) (cP .u64 (ia .u64 (cV .and .u64 x 4294967295) (cV .and .u64 yv 4294967295)) 32)) 32)) (cP .u64 (bO .u64 (cV .and .u64 (bO .u64 (ia .u64 (cP .u64 x 32) (cV .and .u64 yv 4294967295)) (cP .u64 (ia .u64 (cV .and .u64 x 4294967295) (cV .and .u64 yv 4294967295)) 32)) 4294967295) (ia .u64 (cV .and .u64 x 4294967295) (cP .u64 yv 32))) 32)),(ia .u64 x yv))):=cr
theorem VJ{a b m n:Int}(h0:0<=a)(h1:a<=m)(h2:0<=b)(h3:b<=n):0<=a*b/\a*b<=m*n:=⟨Int.mul_nonneg h0 h2,Int.mul_le_mul h1 h3 h2 (Int.le_trans h0 h1)⟩
theorem aIm:SI.Ok:=by
 rintro⟨x,y⟩ ⟨⟨h0,h1⟩,h2,h3⟩;have h0:0<=x:=h0;have h1:x < 18446744073709551616:=h1;have h2:0<=y:=h2;have h3:y < 18446744073709551616:=h3;rw[aIl];have p32:(2:Int)^32=4294967296:=rfl;have aZv:∀x:Int,cP .u64 x 32=x / 4294967296:=λx=>by rw[yk 32 (by rfl) ak,p32]
 simp only[aZv,anl h0 h1,anl h2 h3];obtain⟨a,b,rfl,a0,a1,b0,b1⟩:∃a b:Int,x=a*4294967296+b/\0<=a/\a<=4294967295/\0<=b/\b<=4294967295:=⟨x / 4294967296,x%4294967296,ak,ak,ak,ak,ak⟩;obtain⟨c,d,rfl,c0,c1,d0,d1⟩:∃a b:Int,y=a*4294967296+b/\0<=a/\a<=4294967295/\0<=b/\b<=4294967295:=⟨y / 4294967296,y%4294967296,ak,ak,ak,ak,ak⟩;have e1:(a*4294967296+b) / 4294967296=a:=ak;have e2:(a*4294967296+b)%4294967296=b:=ak;have e3:(c*4294967296+d) / 4294967296=c:=ak;have e4:(c*4294967296+d)%4294967296=d:=ak;have e5:(a*4294967296+b)*(c*4294967296+d)=a*c*18446744073709551616+(a*d+b*c)*4294967296+b*d:=by
  have q:(4294967296:Int)*4294967296=18446744073709551616:=rfl;rw[Int.add_mul,Int.mul_add,Int.mul_add];have q1:a*4294967296*(c*4294967296)=a*c*18446744073709551616:=by rw[<-q];ac_rfl
  have q2:a*4294967296*d=a*d*4294967296:=by ac_rfl
  have q3:b*(c*4294967296)=b*c*4294967296:=by ac_rfl
  rw[q1,q2,q3];omega
 obtain⟨m1,m2⟩:=VJ a0 a1 c0 c1;obtain⟨m3,m4⟩:=VJ a0 a1 d0 d1;obtain⟨m5,m6⟩:=VJ b0 b1 c0 c1;obtain⟨m7,m8⟩:=VJ b0 b1 d0 d1;have n:(4294967295:Int)*4294967295=18446744065119617025:=rfl;rw[n]at m2 m4 m6 m8;simp only[e1,e2,e3,e4,bC,ZT,e5,AF,vF]
 revert m1 m2 m3 m4 m5 m6 m7 m8
 generalize a*c=ac;generalize a*d=ad;generalize b*c=bc;generalize b*d=bd;intro m1 m2 m3 m4 m5 m6 m7 m8;have q1:bd%18446744073709551616=bd:=ak;have q2:ad%18446744073709551616=ad:=ak;have q3:bc%18446744073709551616=bc:=ak;have q4:ac%18446744073709551616=ac:=ak;rw[q1,q2,q3,q4];have q5:(ad+bd / 4294967296)%18446744073709551616=ad+bd / 4294967296:=ak;have q6:cV .and .u64 (ad+bd / 4294967296) 4294967295=(ad+bd / 4294967296)%4294967296:=anl ak ak;rw[q5,q6];refine bu av (bu SI.out (Prod.ext ?_ ?_))
 ·show _=(_:Int);simp only[];omega
 ·rfl
theorem aii:SI.RS:=rE [.d tu,.d tu] SI
def apU:=SI.fC aIm
def Pn(x:Int):Prop:=0<=x/\x < 4611686018427377339
def oU(x:Int):Prop:=0<=x/\x < 18446744073709551616
theorem Pn.u{x:Int}(h:Pn x):oU x:=⟨h.1,by have:=h.2;omega⟩
def qu(a b:Int):Int:=a*b%4611686018427377339
theorem xS(a b:Int):Pn (qu a b):=⟨lM _ ak,kV _ ak⟩
def am5:Nat->Int->Nat->Int->Int
 | 0,_,_,out=>out
 |f+1,a,n,out=>if n=0 then out else am5 f (qu a a) (n / 2) (if n%2=1 then qu out a else out)
def pw(a:Int)(n:Nat):Int:=am5 64 a n 1
theorem Ct(f:Nat)(a out:Int):am5 f a 0 out=out:=by cases f <;> rfl
theorem ado:∀(f g:Nat) (a:Int) (n:Nat) (out:Int),n < 2^f->n < 2^g->am5 f a n out=am5 g a n out
 | 0,g,a,n,out,h,_=>by obtain rfl:n=0:=ak;rw[Ct,Ct]
 |f+1,0,a,n,out,_,h=>by obtain rfl:n=0:=ak;rw[Ct,Ct]
 |f+1,g+1,a,n,out,h,h'=>by
  have e:(2:Nat)^(f+1)=2^f*2:=Nat.pow_succ 2 f;have e':(2:Nat)^(g+1)=2^g*2:=Nat.pow_succ 2 g;unfold am5;split
  ·rfl
  ·exact ado f g _ _ _ ak ak
theorem aI4:∀(f:Nat) (a:Int) (n:Nat) (out:Int),Pn out->Pn (am5 f a n out)
 | 0,_,_,_,h=>h
 |f+1,a,n,out,h=>by
  unfold am5;split
  ·exact h
  ·refine aI4 f _ _ _ ?_
   split
   ·exact xS _ _
   ·exact h
theorem aqt(a:Int)(n:Nat):Pn (pw a n):=aI4 _ _ _ _ ⟨ak,ak⟩
def au4:(Int×Int)->Prop:=λ(a,b)=>oU a/\oU b
def aI0:(Int×Int)->Int:=λ(a,b)=>qu a b
def EE:Fs Tryz.prog au4 bC aI0:=fw 180 Tryz.f180 (λ(a,b)=>([.d tu a,.d tu b],[])) (λx=>⟨.d tu x,[],[]⟩) [av tu,av tu] [apU,adW]
theorem aB4(a b)(k:K1 R):EE.A (a,b) k=al (SI.call (a,b)) λx1=>al (Td.call (x1.1,x1.2,4611686018427377339)) λx2=>k (EE.out x2):=cr
theorem afc(n:Int):n / 18446744073709551616*18446744073709551616+n%18446744073709551616=n:=ak
theorem aB5:EE.Ok:=by rintro⟨a,b⟩ ⟨ha,hb⟩;have ha:oU a:=ha;have hb:oU b:=hb;obtain⟨m1,m2⟩:=VJ ha.1 (show a<=18446744073709551615 by have:=ha.2;omega) hb.1 (show b<=18446744073709551615 by have:=hb.2;omega);have n:(18446744073709551615:Int)*18446744073709551615=340282366920938463426481119284349108225:=rfl;rw[n]at m2;have p:VZ (a*b / 18446744073709551616,a*b%18446744073709551616,4611686018427377339):=⟨mL rfl,ak,ak,ak,ak⟩;rw[aB4,aii (d:=(a,b)) ⟨ha,hb⟩];simp only[ah,bC,ZT];rw[V1 p];simp only[ah,bC,Te,afc];rfl
theorem Ql:EE.RS:=rE [.d tu,.d tu] EE
def aiB:=EE.fC aB5
def agh:(Int×Int×Int)->Prop:=λ(a,n,o)=>oU a/\oU n/\Pn o
def DP:(Int×Int×Int)->Int:=λ(a,n,o)=>am5 64 a n.toNat o
def au0:(Int×Int)->Prop:=λ(a,n)=>oU a/\oU n
def aqp:(Int×Int)->Int:=λ(a,n)=>pw a n.toNat
def pq:Ls agh bC DP:=sH (λ(Ic,xT,outv)=>⟨([.d tu Ic,.d tu xT,bH,bH,bH,.d tu outv]++aS 14 []),[],(ab 20 [])⟩) (λx=>(.exit 0,⟨(aS 5 ([.d tu x]++aS 14 [])),[],(ab 20 [])⟩))
def zj:Fs Tryz.prog au0 bC aqp:=fw 130 Tryz.f130 (λ(a,n)=>([.d tu a,.d tu n],[])) (λx=>⟨.d tu x,[],[]⟩) [av tu,av tu] [aiB] {loops:=oJ [(2,{ba:=[0,1,5]})],outs:=oI [(2,{ba:=[5]},{ba:=[4]})],gf:=nQ [(2,pq.E)]}
theorem agi:pq.RS:=rL [.d tu,.d tu,.d tu] pq
theorem Kn(Ic xT outv)(kn:K2 R)(kx:K3 R):zj.R 0 pq (Ic,xT,outv) kn kx=aL (pJ xT 0) (aL (oV (cV .and .u64 xT 1) 1) (al (EE.call (outv,Ic)) λx1=>al (EE.call (Ic,Ic)) λx2=>kn (pq.st (x2,(cP .u64 xT 1),x1))) (al (EE.call (Ic,Ic)) λx3=>kn (pq.st (x3,(cP .u64 xT 1),outv)))) (pq.go kx outv):=cr
theorem aBW(a n)(k:K1 R):zj.A (a,n) k=al (pq.call (a,n,1)) λx4=>k (zj.out x4):=cr
theorem aW8{n:Int}(h:oU n):cP .u64 n 1=n / 2:=yk 1 (by rfl) ak
theorem alL:(zj.lF 0 pq):=by
 refine(zj.mY 0 pq) (λ(a,n,o)=>n.toNat) ?_
 rintro⟨a,n,o⟩ ⟨ha,hn,ho⟩;have ha:oU a:=ha;have hn:oU n:=hn;have ho:Pn o:=ho;have n0:=hn.1;have n1:=hn.2;by_cases h:0 < n
 ·left;have e:DP (a,n,o)=DP (qu a a,n / 2,if n%2=1 then qu o a else o):=by
   show am5 64 a n.toNat o=am5 64 (qu a a) (n / 2).toNat _;rw[ado 64 65 a n.toNat o ak ak];have t1:(n / 2).toNat=n.toNat / 2:=ak;have t2:(n%2=1)=(n.toNat%2=1):=by apply propext;omega
   rw[t1];simp only[t2];show(if n.toNat=0 then o else _)=_;rw[if_neg ak]
  refine⟨(qu a a,n / 2,if n%2=1 then qu o a else o),⟨(xS a a).u,⟨ak,ak⟩,?_⟩,by show(n / 2).toNat < n.toNat;omega,?_,λkn kx=> ?_⟩
  ·show Pn (if n%2=1 then qu o a else o);split
   ·exact xS _ _
   ·exact ho
  ·exact bu _ e.symm
  ·rw[Kn,dd h,aW8 hn,aVz n0 n1,Ql (d:=(o,a)) ⟨ho.u,ha⟩,Ql (d:=(a,a)) ⟨ha,ha⟩];by_cases h1:n%2=1
   ·rw[du h1,if_pos h1];rfl
   ·rw[fm h1,if_neg h1];rfl
 ·right;intro R kn kx;obtain rfl:n=0:=ak;rw[Kn,cH ak];simp only[ao,bC,DP];rw[show am5 64 a (ae 0) o=o from Ct _ _ _]
theorem aBX:zj.Ok:=by rintro⟨a,n⟩ ⟨ha,hn⟩;rw[aBW,agi (d:=(a,n,1)) ⟨ha,hn,ak,ak⟩];rfl
theorem Qj:zj.RS:=rE [.d tu,.d tu] zj
def VM:=zj.fC aBX 1 ⟨.fI alL,trivial⟩
def wR(p:Int):Bool:=decide (0 < p/\p < 4611686018427377339) && decide (pw p 2305843009213688669=1)
def tk(p:Int):Int:=if wR p then p else 1
theorem aKz(p:Int):Pn (tk p):=by
 unfold tk;split
 ·rename_i h;simp only[wR,au,bf]at h;exact⟨ak,ak⟩
 ·exact⟨ak,ak⟩
def HH(p k:Int):Int:=pw (tk p) (k%2305843009213688669).toNat
def gX(k:Int):Int:=HH 4 k
def apZ(p:Int):Int:=pw (tk p) 2305843009213688668
def Zs(l:List Int):Int:=l.foldl (λo p=>qu o (tk p)) 1
theorem aO1(l:List Int)(o:Int)(h:Pn o):Pn (l.foldl (λo p=>qu o (tk p)) o):=by
 induction l generalizing o with
 |nil=>exact h
 |cons p l ih=>exact ih _ (xS _ _)
theorem aO2(l:List Int):Pn (Zs l):=aO1 l 1 ⟨ak,ak⟩
def au1:Int->Prop:=λp=>oU p
def S5:Int->Bool:=λp=>wR p
def xj:Fs Tryz.prog au1 bC S5:=fw 142 Tryz.f142 (λp=>([.d tu p],[])) (λx=>⟨.d .bool x,[],[]⟩) [av tu] [VM]
theorem aBY(p)(k:K1 R):xj.A p k=aL (pJ p 0) (aL (gz p 4611686018427377339) (al (zj.call (p,2305843009213688669)) λx1=>k (xj.out (oV x1 1))) (k (xj.out aQ))) (k (xj.out aQ)):=cr
theorem aBZ:xj.Ok:=by
 intro p hp;have hp:oU p:=hp;rw[aBY,Qj (d:=(p,2305843009213688669)) ⟨hp,by constructor <;> decide⟩];simp only[ah,bC,aqp,bC,S5,wR];by_cases h:0 < p
 ·rw[dd h,aj];by_cases h2:p < 4611686018427377339
  ·rw[aX h2,aj,aM ⟨h,h2⟩,bF];rfl
  ·rw[aU h2,ao,aV (λx=>h2 x.2),cY]
 ·rw[cH h,ao,aV (λx=>h x.1),cY]
theorem Cr:xj.RS:=rE [.d tu] xj
def VP:=xj.fC aBZ
def au3:Int->Prop:=λp=>oU p
def Kp:Int->Int:=λp=>tk p
def ED:Fs Tryz.prog au3 bC Kp:=fw 131 Tryz.f131 (λp=>([.d tu p],[])) (λx=>⟨.d tu x,[],[]⟩) [av tu] [VP]
theorem aB2(p)(k:K1 R):ED.A p k=al (xj.call p) λx1=>aL (x1) (k (ED.out p)) (k (ED.out 1)):=cr
theorem aB3:ED.Ok:=by intro p hp;rw[aB2,Cr (d:=p) hp];simp only[ah,bC,S5,bC,Kp,tk];cases wR p <;> rfl
theorem Qk:ED.RS:=rE [.d tu] ED
def VQ:=ED.fC aB3
def au2:(Int×Int)->Prop:=λ(p,k)=>oU p/\oU k
def aqq:(Int×Int)->Int:=λ(p,k)=>HH p k
def Ko:Fs Tryz.prog au2 bC aqq:=fw 84 Tryz.f84 (λ(p,kv)=>([.d tu p,.d tu kv],[])) (λx=>⟨.d tu x,[],[]⟩) [av tu,av tu] [VQ,VM]
theorem aB0(p kv)(k:K1 R):Ko.A (p,kv) k=al (ED.call p) λx1=>al (zj.call (x1,(nP kv 2305843009213688669))) λx2=>k (Ko.out x2):=cr
theorem aB1:Ko.Ok:=by rintro⟨p,k⟩ ⟨hp,hk⟩;have hk:oU k:=hk;have e:=xM (y:=2305843009213688669) hk.1;have b:oU (k%2305843009213688669):=⟨ak,ak⟩;rw[aB0,Qk (d:=p) hp,e];simp only[ah,bC,Kp];rw[Qj (d:=(tk p,k%2305843009213688669)) ⟨(aKz p).u,b⟩];rfl
theorem adl:Ko.RS:=rE [.d tu,.d tu] Ko
def aiA:=Ko.fC aB1
def aBN:Int->Prop:=λk=>oU k
def ZW:Int->Int:=λk=>gX k
def Iw:Fs Tryz.prog aBN bC ZW:=fw 38 Tryz.f38 (λkv=>([.d tu kv],[])) (λx=>⟨.d tu x,[],[]⟩) [av tu] [aiA]
theorem aIQ(kv)(k:K1 R):Iw.A kv k=al (Ko.call (4,kv)) λx1=>k (Iw.out x1):=cr
theorem aIR:Iw.Ok:=by intro k hk;rw[aIQ,adl (d:=(4,k)) ⟨⟨ak,ak⟩,hk⟩];rfl
theorem FL:Iw.RS:=rE [.d tu] Iw
def SY:=Iw.fC aIR
def aIX:Int->Prop:=λp=>oU p
def aIW:Int->Int:=λp=>apZ p
def auY:Fs Tryz.prog aIX bC aIW:=fw 253 Tryz.f253 (λp=>([.d tu p],[])) (λx=>⟨.d tu x,[],[]⟩) [av tu] [VQ,VM]
theorem aOh(p)(k:K1 R):auY.A p k=al (ED.call p) λx1=>al (zj.call (x1,2305843009213688668)) λx2=>k (auY.out x2):=cr
theorem aOi:auY.Ok:=by intro p hp;rw[aOh,Qk (d:=p) hp];simp only[ah,bC,Kp];rw[Qj (d:=(tk p,2305843009213688668)) ⟨(aKz p).u,by constructor <;> decide⟩];rfl
theorem aIY:auY.RS:=rE [.d tu] auY
def aOj:=auY.fC aOi
abbrev aiw:=Int×Bs×Int×Int
def aqh:aiw->Prop:=λ(o,l,n,i)=>Pn o/\(∀x∈l,oU x)/\l.length<=1000000000/\n=l.length/\∃k:Nat,k<=l.length/\i=k
def VK:aiw->Int:=λ(o,l,n,i)=>(l.drop i.toNat).foldl (λo p=>qu o (tk p)) o
def adg:Bs->Prop:=λl=>(∀x∈l,oU x)/\l.length<=1000000000
def aRU:Bs->Int:=λl=>Zs l
def A1:Ls aqh bC VK:=sH (λ(outv,t6,t7,t8)=>⟨([bH,bH,bH,.d tu outv,bH,bH,.d tU t6,.d ti t7,.d ti t8]++aS 9 []),[],(ab 18 [])⟩) (λx=>(.exit 0,⟨([bH,bH,bH,.d tu x]++aS 14 []),[],(ab 18 [])⟩))
def adf:Fs Tryz.prog adg bC aRU:=fw 214 Tryz.f214 (λl=>([.d tU l],[])) (λx=>⟨.d tu x,[],[]⟩) [av tU] [VQ,aiB] {loops:=oJ [(3,{ba:=[3,6,7,8]})],outs:=oI [(3,{ba:=[3]},{ba:=[2]})],gf:=nQ [(3,A1.E)]}
theorem aqi:A1.RS:=rL [.d tu,.d tU,.d ti,.d ti] A1
theorem SX(outv t6 t7 t8)(kn:K2 R)(kx:K3 R):adf.R 0 A1 (outv,t6,t7,t8) kn kx=aL (gz t8 t7) (aL (eL t8 (t6.length:Int)) (al (ED.call (nth tu t6 (ae t8))) λx1=>al (EE.call (outv,x1)) λx2=>kn (A1.st (x2,t6,t7,(bO .i64 t8 1)))) aD) (A1.go kx outv):=cr
theorem aOd(l)(k:K1 R):adf.A l k=al (A1.call (1,l,(l.length:Int),0)) λx3=>k (adf.out x3):=cr
theorem auO:(adf.lF 0 A1):=by
 refine(adf.mY 0 A1) (λ(o,l,n,i)=>l.length - i.toNat) ?_
 rintro⟨o,l,n,i⟩ ⟨ho,hl,hb,rfl,k,hk,rfl⟩;have ho:Pn o:=ho;have hb:l.length<=1000000000:=hb;have hk:k<=l.length:=hk;by_cases h:k < l.length
 ·left;have hx:=hl _ (aO h);have n1:nth (.int .u64) l k=l[k]:=cg (t:= .int .u64) h;refine⟨(qu o (tk l[k]),l,l.length,((k+1:Nat):Int)),⟨xS _ _,hl,hb,rfl,k+1,ak,rfl⟩,by simp only[aa];omega,?_,λkn kx=> ?_⟩
  ·simp only[bC,VK,aa];rw[aq h];rfl
  ·rw[SX];simp(disch:=omega) only[↓S1,↓if_pos,↓if_neg,if_pos,if_neg,bM,bA,S2,n1];rw[Qk (d:=l[k]) hx];simp only[ah,bC,Kp];rw[Ql (d:=(o,tk l[k])) ⟨ho.u,(aKz _).u⟩];rfl
 ·right;obtain rfl:k=l.length:=ak;intro R kn kx;rw[SX];simp(disch:=omega) only[↓S1,↓if_pos,↓if_neg,if_pos,if_neg,bM,bA,S2,bC,VK,aN];rfl
theorem aOe:adf.Ok:=by rintro l ⟨hl,hb⟩;rw[aOd,aqi (d:=(1,l,l.length,0)) ⟨⟨ak,ak⟩,hl,hb,rfl,0,ak,rfl⟩];rfl
theorem aqj:adf.RS:=rE [.d tU] adf
def ayd:=adf.fC aOe 1 ⟨.fI auO,trivial⟩
def aIO:(Int×Int)->Prop:=λ(p,q)=>oU p/\oU q
def aIN:(Int×Int)->Int:=λ(p,q)=>Zs [p,q]
def auN:Fs Tryz.prog aIO bC aIN:=fw 181 Tryz.f181 (λ(p,q)=>([.d tu p,.d tu q],[])) (λx=>⟨.d tu x,[],[]⟩) [av tu,av tu] [ayd]
theorem aN9(p q)(k:K1 R):auN.A (p,q) k=al (adf.call [p,q]) λx1=>k (auN.out x1):=cr
theorem aOa:auN.Ok:=by rintro⟨p,q⟩ ⟨hp,hq⟩;have h:adg [p,q]:=⟨by intro x hx;simp only[cv,List.not_mem_nil,or_false]at hx;rcases hx with rfl | rfl <;> assumption,by simp only[aB,bl];omega⟩;rw[aN9,aqj h];rfl
theorem aIP:auN.RS:=rE [.d tu,.d tu] auN
def aOb:=auN.fC aOa
def Qn(x:Int):Prop:=0<=x/\x < 2305843009213688669
theorem Qn.u{x:Int}(h:Qn x):oU x:=⟨h.1,by have:=h.2;omega⟩
def aIy(a:Int):Int:=a%2305843009213688669
theorem aly(a:Int):Qn (aIy a):=⟨lM _ ak,kV _ ak⟩
def asx(a b:Int):Int:=(aIy a+aIy b)%2305843009213688669
def als(a b:Int):Int:=aIy a*aIy b%2305843009213688669
def RZ(h:List Int):Int:=h.foldl (λn b=>(n*256+b)%2305843009213688668) 0+1
def aEk.b(n:Int):Prop:=0<=n/\n < 2305843009213688668
theorem aoZ(h:List Int)(n:Int)(hn:aEk.b n):aEk.b (h.foldl (λn b=>(n*256+b)%2305843009213688668) n):=by
 induction h generalizing n with
 |nil=>exact hn
 |cons p l ih=>exact ih _ ⟨lM _ ak,kV _ ak⟩
theorem abE(h:List Int):0 < RZ h/\RZ h < 2305843009213688669:=by have:=aoZ h 0 ⟨ak,ak⟩;have h1:=this.1;have h2:=this.2;unfold RZ;omega
theorem awW(a b:Int):Qn (asx a b):=⟨lM _ ak,kV _ ak⟩
theorem aNS(a b:Int):Qn (als a b):=⟨lM _ ak,kV _ ak⟩
def atP:Int->Prop:=λ_=>True
def RY:Int->Bool:=λa=>gz a 2305843009213688669
def G3:Fs Tryz.prog atP bC RY:=fw 86 Tryz.f86 (λa=>([.d tu a],[])) (λx=>⟨.d .bool x,[],[]⟩) [av tu]
theorem aAu(a)(k:K1 R):G3.A a k=k (G3.out (gz a 2305843009213688669)):=cr
theorem aAv:G3.Ok:=by intro a _;rw[aAu];rfl
theorem PH:G3.RS:=rE [.d tu] G3
def Vg:=G3.fC aAv
def aMY:Int->Prop:=λa=>oU a
def aGX:Int->Int:=λa=>aIy a
def aLy:Fs Tryz.prog aMY bC aGX:=fw 215 Tryz.f215 (λa=>([.d tu a],[])) (λx=>⟨.d tu x,[],[]⟩) [av tu]
theorem aQV(a)(k:K1 R):aLy.A a k=k (aLy.out (nP a 2305843009213688669)):=cr
theorem aQW:aLy.Ok:=by intro a ha;rw[aQV,xM ha.1];rfl
theorem ZC:aLy.RS:=rE [.d tu] aLy
def aGY:=aLy.fC aQW
def aAs:(Int×Int)->Prop:=λ(a,b)=>Qn a/\Qn b
def aMZ:(Int×Int)->Int:=λ(a,b)=>(a+b)%2305843009213688669
def abD:Fs Tryz.prog aAs bC aMZ:=fw 216 Tryz.f216 (λ(a,b)=>([.d tu a,.d tu b],[])) (λx=>⟨.d tu x,[],[]⟩) [av tu,av tu]
theorem aGZ(a b)(k:K1 R):abD.A (a,b) k=k (abD.out (nP (bO .u64 a b) 2305843009213688669)):=cr
theorem aG0:abD.Ok:=by
 rintro⟨a,b⟩ ⟨ha,hb⟩;have ha:Qn a:=ha;have hb:Qn b:=hb;obtain⟨h1,h2⟩:=ha;obtain⟨h3,h4⟩:=hb;have e:bO .u64 a b=a+b:=by rw[vF];omega
 rw[aGZ,e,xM ak];rfl
theorem aAt:abD.RS:=rE [.d tu,.d tu] abD
def aG1:=abD.fC aG0
def atQ:(Int×Int)->Prop:=λ(a,b)=>Qn a/\Qn b
def aG2:(Int×Int)->Int:=λ(a,b)=>a*b%2305843009213688669
def PI:Fs Tryz.prog atQ bC aG2:=fw 217 Tryz.f217 (λ(a,b)=>([.d tu a,.d tu b],[])) (λx=>⟨.d tu x,[],[]⟩) [av tu,av tu] [apU,adW]
theorem aAw(a b)(k:K1 R):PI.A (a,b) k=al (SI.call (a,b)) λx1=>al (Td.call (x1.1,x1.2,2305843009213688669)) λx2=>k (PI.out x2):=cr
theorem aAx:PI.Ok:=by rintro⟨a,b⟩ ⟨ha,hb⟩;have ha:Qn a:=ha;have hb:Qn b:=hb;obtain⟨m1,m2⟩:=VJ ha.1 (show a<=18446744073709551615 by have:=ha.2;omega) hb.1 (show b<=18446744073709551615 by have:=hb.2;omega);have n:(18446744073709551615:Int)*18446744073709551615=340282366920938463426481119284349108225:=rfl;rw[n]at m2;have p:VZ (a*b / 18446744073709551616,a*b%18446744073709551616,2305843009213688669):=⟨fN (mL rfl),ak,ak,ak,ak⟩;rw[aAw,aii (d:=(a,b)) ⟨ha.u,hb.u⟩];simp only[ah,bC,ZT];rw[V1 p];simp only[ah,bC,Te,afc];rfl
theorem atS:PI.RS:=rE [.d tu,.d tu] PI
def aAy:=PI.fC aAx
def aGI:(Int×Int)->Prop:=λ(a,b)=>oU a/\oU b
def aQU:(Int×Int)->Int:=λ(a,b)=>asx a b
def atK:Fs Tryz.prog aGI bC aQU:=fw 182 Tryz.f182 (λ(a,b)=>([.d tu a,.d tu b],[])) (λx=>⟨.d tu x,[],[]⟩) [av tu,av tu] [aGY,aG1]
theorem aMR(a b)(k:K1 R):atK.A (a,b) k=al (aLy.call a) λx1=>al (aLy.call b) λx2=>al (abD.call (x1,x2)) λx3=>k (atK.out x3):=cr
theorem aMS:atK.Ok:=by rintro⟨a,b⟩ ⟨ha,hb⟩;rw[aMR,ZC (d:=a) ha,ZC (d:=b) hb];simp only[ah,bC,aGX];rw[aAt (d:=(aIy a,aIy b)) ⟨aly a,aly b⟩];rfl
theorem aGJ:atK.RS:=rE [.d tu,.d tu] atK
def aMT:=atK.fC aMS
def aGV:(Int×Int)->Prop:=λ(a,b)=>oU a/\oU b
def aGU:(Int×Int)->Int:=λ(a,b)=>als a b
def atO:Fs Tryz.prog aGV bC aGU:=fw 183 Tryz.f183 (λ(a,b)=>([.d tu a,.d tu b],[])) (λx=>⟨.d tu x,[],[]⟩) [av tu,av tu] [aGY,aAy]
theorem aMV(a b)(k:K1 R):atO.A (a,b) k=al (aLy.call a) λx1=>al (aLy.call b) λx2=>al (PI.call (x1,x2)) λx3=>k (atO.out x3):=cr
theorem aMW:atO.Ok:=by rintro⟨a,b⟩ ⟨ha,hb⟩;rw[aMV,ZC (d:=a) ha,ZC (d:=b) hb];simp only[ah,bC,aGX];rw[atS (d:=(aIy a,aIy b)) ⟨aly a,aly b⟩];rfl
theorem aGW:atO.RS:=rE [.d tu,.d tu] atO
def aMX:=atO.fC aMW
def akE:(Int×Bs×Int)->Prop:=λ(n,h,i)=>aEk.b n/\h.length=32/\Bytes h/\∃k:Nat,k<=32/\i=k
def G1:(Int×Bs×Int)->Int:=λ(n,h,i)=>(h.drop i.toNat).foldl (λn b=>(n*256+b)%2305843009213688668) n
def aAn:Bs->Prop:=λh=>h.length=32/\Bytes h
def akD:Bs->Int:=λh=>RZ h
def vB:Ls akE bC G1:=sH (λ(n,t6,t7)=>⟨([bH,bH,bH,.d tu n,bH,bH,.d tH t6,.d ti t7]++aS 13 []),[],(ab 21 [])⟩) (λx=>(.exit 0,⟨([bH,bH,bH,.d tu x]++aS 17 []),[],(ab 21 [])⟩))
def JL:Fs Tryz.prog aAn bC akD:=fw 135 Tryz.f135 (λh=>([.d tH h],[])) (λx=>⟨.d tu x,[],[]⟩) [av tH] [adW] {loops:=oJ [(3,{ba:=[3,6,7]})],outs:=oI [(3,{ba:=[3]},{ba:=[2]})],gf:=nQ [(3,vB.E)]}
theorem akF:vB.RS:=rL [.d tu,.d tB,.d ti] vB
theorem NH(n t6 t7)(kn:K2 R)(kx:K3 R):JL.R 0 vB (n,t6,t7) kn kx=aL (gz t7 32) (aL (eL t7 32) (al (Td.call ((cP .u64 n 56),(cV .or .u64 (nC .u64 n 8) (eQ .u64 (nth tb t6 (ae t7)))),2305843009213688668)) λx1=>kn (vB.st (x1,t6,(bO .i64 t7 1)))) aD) (vB.go kx n):=cr
theorem aGP(h)(k:K1 R):JL.A h k=al (vB.call (0,h,0)) λx2=>k (JL.out (bO .u64 x2 1)):=cr
theorem Xq{n b:Int}(hn:aEk.b n)(hb:ajp b):cP .u64 n 56*18446744073709551616+cV .or .u64 (nC .u64 n 8) (eQ .u64 b)=n*256+b/\oU (cP .u64 n 56)/\oU (cV .or .u64 (nC .u64 n 8) (eQ .u64 b)):=by
 obtain⟨h1,h2⟩:=hn;obtain⟨h3,h4⟩:=hb;have p56:(2:Int)^56=72057594037927936:=rfl;have p8:(2:Int)^8=256:=rfl;have e:eQ .u64 b=b:=by rw[aHs];omega
 rw[yk 56 (by rfl) ak,yj 8 (by rfl) ak,p56,p8,e,SQ 8 256 rfl ak ak ak ak ak ak];exact⟨ak,⟨ak,ak⟩,ak,ak⟩
theorem aoS:(JL.lF 0 vB):=by
 refine(JL.mY 0 vB) (λ(n,h,i)=>32 - i.toNat) ?_
 rintro⟨n,h,i⟩ ⟨hn,hl,hb,k,hk,rfl⟩;have hn:aEk.b n:=hn;have hl:h.length=32:=hl;have hb:Bytes h:=hb;by_cases iA:k < 32
 ·left;have hx:ajp (h[k]'(ak)):=hb _ (aO _);have n1:nth (.int .u8) h k=h[k]'(ak):=cg (t:= .int .u8) ak;obtain⟨d1,d2,d3⟩:=Xq hn hx;refine⟨((n*256+h[k]'(ak))%2305843009213688668,h,((k+1:Nat):Int)),⟨⟨ak,ak⟩,hl,hb,k+1,ak,rfl⟩,by simp only[aa];omega,?_,λkn kx=> ?_⟩
  ·simp only[bC,G1,aa];rw[aq (by omega:k < h.length)];rfl
  ·rw[NH];simp(disch:=omega) only[↓S1,↓if_pos,↓if_neg,if_pos,if_neg,bM,bA,S2,n1];rw[V1 (d:=(_,_,2305843009213688668)) ⟨fN (fN rfl),d2.1,d2.2,d3.1,d3.2⟩];simp only[ah,bC,Te,d1]
 ·right;obtain rfl:k=32:=ak;intro R kn kx;rw[NH];simp(disch:=omega) only[↓S1,↓if_pos,↓if_neg,if_pos,if_neg,bM,bA,S2,bC,G1];rw[dS ak];rfl
theorem aGQ:JL.Ok:=by
 rintro h ⟨hl,hb⟩;have e:=aoZ h 0 ⟨ak,ak⟩;have h1:=e.1;have h2:=e.2;rw[aGP,akF (d:=(0,h,0)) ⟨⟨ak,ak⟩,hl,hb,0,ak,rfl⟩];simp only[ah,bC,G1,bC,akD,RZ,bg,aG]
 revert h1 h2
 generalize h.foldl (λn b=>(n*256+b)%2305843009213688668) 0=m;intro h1 h2;have e:bO .u64 m 1=m+1:=by rw[vF];omega
 rw[e]
theorem ahR:JL.RS:=rE [.d tB] JL
def aoT:=JL.fC aGQ 1 ⟨.fI aoS,trivial⟩
theorem anv(n:Int): [eQ .u8 (cP .u64 n 56),eQ .u8 (cP .u64 n 48),eQ .u8 (cP .u64 n 40),eQ .u8 (cP .u64 n 32),eQ .u8 (cP .u64 n 24),eQ .u8 (cP .u64 n 16),eQ .u8 (cP .u64 n 8),eQ .u8 (cP .u64 n 0)]=jV n:=asK n
theorem fB{α:Type}{l:List α}{n:Nat}(h:l.length=n):cut l 0 n=l:=by subst h;simp[cut]
theorem aKx{n:ByteArray}{a b c:List Int}(hn:n.size<=100)(ha:a.length<=1000000)(hb:b.length<=1000000)(hc:c.length<=1000000):Sb (n,[a,b,c]):=by show(Ww _ [a,b,c]).length<=_;rw[Ww];simp only[pL,dL,qY,ai,cJ,l9,bl];omega
theorem aKw{n:ByteArray}{a b:List Int}(hn:n.size<=100)(ha:a.length<=1000000)(hb:b.length<=1000000):Sb (n,[a,b]):=by show(Ww _ [a,b]).length<=_;rw[Ww];simp only[pL,dL,qY,ai,cJ,l9,bl];omega
theorem TO{n:ByteArray}{a:List Int}(hn:n.size<=100)(ha:a.length<=1000000):Sb (n,[a]):=by show(Ww _ [a]).length<=_;rw[Ww];simp only[pL,dL,qY,ai,cJ,l9,bl];omega
def Sm(m:List Int):Prop:=m.length=32/\Bytes m
theorem aR9(b:List Int):Sm (aR4 b):=⟨avW b,azC b⟩
theorem amm(n:List Int)(ps:List (List Int)):Sm (tag n ps):=aR9 _
def aKv(n:ByteArray)(ps:List (List Int)):List Int:=tag (bN n) ps
def aUm:ByteArray:=⟨#[115,105,103]⟩
def auD:ByteArray:=⟨#[110,111,110,99,101]⟩
def Il(r p:Int)(m:List Int):Int:=RZ (aKv aUm [jV r,jV p,m])
theorem aaN(r p:Int)(m:List Int):Qn (Il r p m):=by have:=abE (aKv aUm [jV r,jV p,m]);exact⟨by unfold Il;omega,by unfold Il;omega⟩
def aQc(s:Sg):Prop:=oU s.1/\oU s.2.1
def BM(p:Int)(m:List Int)(t:Int)(s:Sg):Bool:=if p=1\/wR p=aQ\/wR t=aQ\/wR s.1=aQ\/¬s.2.1 < 2305843009213688669 then aQ else decide (gX s.2.1=Zs [s.1,HH p (Il s.1 p m),apZ t])
def ajz(k nonce:Int)(m:List Int)(t:Int):Sg:=(Zs [gX nonce,t],asx nonce (als (Il (Zs [gX nonce,t]) (gX k) m) k),())
def aIw(k:Int)(m:List Int):Int:=RZ (aKv auD [jV k,m])
def nH(k:Int)(m:List Int):Sg:=if k < 2305843009213688669/\k≠0 then ajz k (aIw k m) m 1 else(0,0,())
def atE:Int->Prop:=λ_=>True
def abr:Int->Bs:=λn=>jV n
def GX:Fs Tryz.prog atE bC abr:=fw 136 Tryz.f136 (λn=>([.d tu n],[])) (λx=>⟨.d tB x,[],[]⟩) [av tu] [] {loops:=oJ [(3,{ba:=[0,3,7,8],sites:=[5]})],outs:=oI [(3,{ba:=[3],sites:=[5]},{ba:=[2],sites:=[5]})],res:=[av tB]} 12
theorem aAh(n)(k:K1 R):GX.A n k=k (GX.out [(eQ .u8 (cP .u64 n 56)),(eQ .u8 (cP .u64 n 48)),(eQ .u8 (cP .u64 n 40)),(eQ .u8 (cP .u64 n 32)),(eQ .u8 (cP .u64 n 24)),(eQ .u8 (cP .u64 n 16)),(eQ .u8 (cP .u64 n 8)),(eQ .u8 (cP .u64 n 0))]):=cr
theorem aAi:GX.Ok:=by intro n _;rw[aAh,anv];rfl
theorem Pw:GX.RS:=rE [.d tu] GX
def ahO:=GX.fC aAi 1 ⟨.none cr,trivial⟩
def azK:(Int×Int×Bs)->Prop:=λ(r,p,m)=>Sm m
def ajT:(Int×Int×Bs)->Int:=λ(r,p,m)=>Il r p m
def W5:Fs Tryz.prog azK bC ajT:=fw 184 Tryz.f184 (λ(r,p,m)=>([.d tu r,.d tu p,.d tH m],[])) (λx=>⟨.d tu x,[],[]⟩) [av tu,av tu,av tH] [ahO,ZJ,aoT]
theorem aFu(r p m)(k:K1 R):W5.A (r,p,m) k=al (GX.call r) λx1=>al (GX.call p) λx2=>al (Vm.call ((⟨#[115,105,103]⟩:ByteArray),[x1,x2,(cut m 0 32)])) λx3=>al (JL.call x3) λx4=>k (W5.out x4):=cr
theorem aFv:W5.Ok:=by rintro⟨r,p,m⟩ hm;have hm:Sm m:=hm;rw[aFu,Pw (d:=r) trivial,Pw (d:=p) trivial];simp only[ah,bC,abr];rw[fB hm.1,Sc (aKx fg (by rw[cJ];omega) (by rw[cJ];omega) (by rw[hm.1];omega))];simp only[ah,bC,akY];rw[ahR (d:=tag (bN (⟨#[115,105,103]⟩:ByteArray)) [jV r,jV p,m]) (amm _ _)];rfl
theorem aht:W5.RS:=rE [.d tu,.d tu,.d tB] W5
def anY:=W5.fC aFv
abbrev aiY:=Int×Bs×Int×Sg
def arh:aiY->Prop:=λ(p,m,t,s)=>oU p/\Sm m/\oU t/\aQc s
def aiZ:aiY->Bool:=λ(p,m,t,s)=>BM p m t s
def tI:Fs Tryz.prog arh bC aiZ:=fw 250 Tryz.f250 (λ(p,m,t,pre)=>([.d tu p,.d tH m,.d tu t,.d BB pre],[])) (λx=>⟨.d .bool x,[],[]⟩) [av tu,av tH,av tu,av BB] [VP,Vg,anY,aiA,aOj,ayd,SY]
theorem avR(p m t pre)(k:K1 R):tI.A (p,m,t,pre) k=aL (oV p 1) (k (tI.out aQ)) (al (xj.call p) λx1=>aL (!x1) (k (tI.out aQ)) (al (xj.call t) λx2=>aL (!x2) (k (tI.out aQ)) (al (xj.call pre.1) λx3=>aL (!x3) (k (tI.out aQ)) (al (G3.call pre.2.1) λx4=>aL (!x4) (k (tI.out aQ)) (al (W5.call (pre.1,p,m)) λx5=>al (Ko.call (p,x5)) λx6=>al (auY.call t) λx7=>al (adf.call [pre.1,x6,x7]) λx8=>al (Iw.call pre.2.1) λx9=>k (tI.out (oV x9 x8))))))):=cr
theorem avS:tI.Ok:=by
 rintro⟨p,m,t,s⟩ ⟨hp,hm,ht,hs⟩;have hp:oU p:=hp;have ht:oU t:=ht;have hm:Sm m:=hm;have hs:aQc s:=hs;rw[avR,Cr (d:=p) hp,Cr (d:=t) ht,Cr (d:=s.1) hs.1,PH (d:=s.2.1) trivial];simp only[ah,bC,S5,bC,RY,bC,aiZ,BM];by_cases h1:p=1
 ·rw[du h1,aj,if_pos (mL h1)]
 rw[fm h1,ao];cases h2:wR p
 ·rw[if_pos (fN (mL rfl))];rfl
 cases h3:wR t
 ·rw[if_pos (fN (fN (mL rfl)))];rfl
 cases h4:wR s.1
 ·rw[if_pos (fN (fN (fN (mL rfl))))];rfl
 by_cases h5:s.2.1 < 2305843009213688669
 ·rw[aX h5,if_neg (by simp[h1,h5])];have hq:=aaN s.1 p m;rw[aht (d:=(s.1,p,m)) hm];simp only[cQ,ao,ah,bC,ajT];rw[adl (d:=(p,Il s.1 p m)) ⟨hp,hq.u⟩,aIY (d:=t) ht];simp only[ah,bC,aqq,bC,aIW];have q:adg [s.1,HH p (Il s.1 p m),apZ t]:=⟨by
   intro x hx;simp only[cv,List.not_mem_nil,or_false]at hx;rcases hx with rfl | rfl | rfl
   ·exact hs.1
   ·exact(aqt _ _).u
   ·exact(aqt _ _).u,by simp only[aB,bl];omega⟩
  rw[aqj q,FL (d:=s.2.1) hs.2];rfl
 ·rw[aU h5,if_pos (fN (fN (fN (fN h5))))];rfl
theorem ari:tI.RS:=rE [.d tu,.d tB,.d tu,.d BB] tI
def avT:=tI.fC avS
def arH:(Int×Bs×Sg)->Prop:=λ(p,m,s)=>oU p/\Sm m/\aQc s
def ai6:(Int×Bs×Sg)->Bool:=λ(p,m,s)=>BM p m 1 s
def HN:Fs Tryz.prog arH bC ai6:=fw 244 Tryz.f244 (λ(p,m,sv)=>([.d tu p,.d tH m,.d BB sv],[])) (λx=>⟨.d .bool x,[],[]⟩) [av tu,av tH,av BB] [avT]
theorem awe(p m sv)(k:K1 R):HN.A (p,m,sv) k=al (tI.call (p,m,1,sv)) λx1=>k (HN.out x1):=cr
theorem awf:HN.Ok:=by rintro⟨p,m,s⟩ ⟨hp,hm,hs⟩;rw[awe,ari (d:=(p,m,1,s)) ⟨hp,hm,⟨ak,ak⟩,hs⟩];rfl
theorem arI:HN.RS:=rE [.d tu,.d tB,.d BB] HN
def awg:=HN.fC awf
def aKb:Int->Prop:=λ_=>True
def avZ:Int->Bool:=λk=>decide (k < 2305843009213688669/\k≠0)
def arv:Fs Tryz.prog aKb bC avZ:=fw 133 Tryz.f133 (λkv=>([.d tu kv],[])) (λx=>⟨.d .bool x,[],[]⟩) [av tu] [Vg]
theorem aOS(kv)(k:K1 R):arv.A kv k=al (G3.call kv) λx1=>aL (x1) (k (arv.out (zg kv 0))) (k (arv.out aQ)):=cr
theorem aOT:arv.Ok:=by
 intro k _;rw[aOS,PH (d:=k) trivial];simp only[ah,bC,RY,bC,avZ];by_cases h:k < 2305843009213688669
 ·rw[aX h,aj];by_cases h0:k=0
  ·rw[dP h0,aV (λx=>x.2 h0)]
  ·rw[fD h0,aM ⟨h,h0⟩]
 ·rw[aU h,ao,aV (λx=>h x.1)]
theorem aKc:arv.RS:=rE [.d tu] arv
def aOU:=arv.fC aOT
abbrev aiX:=Int×Int×Bs×Int
def are:aiX->Prop:=λ(k,n,m,t)=>oU k/\oU n/\Sm m/\oU t
def aCX:aiX->Sg:=λ(k,n,m,t)=>ajz k n m t
def HG:Fs Tryz.prog are bC aCX:=fw 134 Tryz.f134 (λ(kv,nonce,m,t)=>([.d tu kv,.d tu nonce,.d tH m,.d tu t],[])) (λx=>⟨.d BB x,[],[]⟩) [av tu,av tu,av tH,av tu] [SY,aOb,anY,aMX,aMT]
theorem avO(kv nonce m t)(k:K1 R):HG.A (kv,nonce,m,t) k=al (Iw.call nonce) λx1=>al (auN.call (x1,t)) λx2=>al (Iw.call kv) λx3=>al (W5.call (x2,x3,m)) λx4=>al (atO.call (x4,kv)) λx5=>al (atK.call (nonce,x5)) λx6=>k (HG.out (x2,(x6,()))):=cr
theorem avP:HG.Ok:=by rintro⟨k,n,m,t⟩ ⟨hk,hn,hm,ht⟩;have hk:oU k:=hk;have hn:oU n:=hn;have hm:Sm m:=hm;have ht:oU t:=ht;rw[avO,FL (d:=n) hn];simp only[ah,bC,ZW];rw[aIP (d:=(gX n,t)) ⟨(aqt _ _).u,ht⟩,FL (d:=k) hk];simp only[ah,bC,ZW,bC,aIN];rw[aht (d:=(Zs [gX n,t],gX k,m)) hm];simp only[ah,bC,ajT];rw[aGW (d:=(Il (Zs [gX n,t]) (gX k) m,k)) ⟨(aaN _ _ _).u,hk⟩];simp only[ah,bC,aGU];rw[aGJ (d:=(n,als (Il (Zs [gX n,t]) (gX k) m) k)) ⟨hn,(aNS _ _).u⟩];rfl
theorem arf:HG.RS:=rE [.d tu,.d tu,.d tB,.d tu] HG
def avQ:=HG.fC avP
def aDa:(Int×Bs)->Prop:=λ(k,m)=>oU k/\Sm m
def amq:(Int×Bs)->Sg:=λ(k,m)=>nH k m
def Yw:Fs Tryz.prog aDa bC amq:=fw 89 Tryz.f89 (λ(kv,m)=>([.d tu kv,.d tH m],[])) (λx=>⟨.d BB x,[],[]⟩) [av tu,av tH] [aOU,ahO,ZJ,aoT,avQ]
theorem aKn(kv m)(k:K1 R):Yw.A (kv,m) k=al (arv.call kv) λx1=>aL (!x1) (k (Yw.out (0,(0,())))) (al (GX.call kv) λx2=>al (Vm.call ((⟨#[110,111,110,99,101]⟩:ByteArray),[x2,(cut m 0 32)])) λx3=>al (JL.call x3) λx4=>al (HG.call (kv,x4,m,1)) λx5=>k (Yw.out x5)):=cr
theorem aKo:Yw.Ok:=by
 rintro⟨k,m⟩ ⟨hk,hm⟩;have hk:oU k:=hk;have hm:Sm m:=hm;rw[aKn,aKc (d:=k) trivial];simp only[ah,bC,avZ,bC,amq,nH];by_cases h:k < 2305843009213688669/\k≠0
 ·rw[aM h,if_pos h,Pw (d:=k) trivial,fB hm.1];simp only[cQ,ao,ah,bC,abr];rw[Sc (aKw fg (by rw[cJ];omega) (by rw[hm.1];omega))];simp only[ah,bC,akY];rw[ahR (d:=tag (bN (⟨#[110,111,110,99,101]⟩:ByteArray)) [jV k,m]) (amm _ _)];simp only[ah,bC,akD];have q:=abE (tag (bN (⟨#[110,111,110,99,101]⟩:ByteArray)) [jV k,m]);rw[arf (d:=(k,RZ (tag (bN (⟨#[110,111,110,99,101]⟩:ByteArray)) [jV k,m]),m,1)) ⟨hk,⟨ak,ak⟩,hm,ak,ak⟩];rfl
 ·rw[aV h,if_neg h];rfl
theorem aDb:Yw.RS:=rE [.d tu,.d tB] Yw
def aKp:=Yw.fC aKo
def Ia(l:List Int):Prop:=∀x∈l,oU x
def aEi(b:pM):Prop:=Ia b.1/\oU b.2.2.2.1
def afE(l:Lk):Prop:=∀b∈l.1,aEi b
def PM(n:Int):Bool:=decide (0<=n/\n<=1048576)
def wH(b:pM):Bool:=decide (b.1.length<=12) && (b.1.all wR && (PM b.2.1 && (PM b.2.2.1 && (decide (b.2.2.2.1=0) || wR b.2.2.2.1))))
def lK(l:Lk):Bool:=l.1.all wH && decide (0 < l.1.length/\l.1.length<=4)
def zK:List Int->Int->Int⊕Unit
 |[],_=> .inr ()
 |p::ps,i=>if wR p then zK ps (i+1) else .inl i
def awY(l:List Int):Int:=match zK l 0 with | .inl i=>i | .inr _=> -1
theorem WO:∀(l:List Int) (i:Int),0<=i->(match zK l i with | .inl i=>decide (i>=0) | .inr _=>aQ)= !(l.all wR)
 |[],_,_=>rfl
 |p::ps,i,h=>by
  rw[zK,fK];cases hp:wR p
  ·simp[h]
  ·simp only[bM,bF];exact WO ps (i+1) ak
theorem ayY(l:List Int):Dv (awY l) 0= !(l.all wR):=by
 have:=WO l 0 ak;unfold awY Dv;cases h:zK l 0
 ·rw[h]at this;exact this
 ·rw[h]at this;rw[<-this];rfl
def aHQ:Int->Prop:=λp=>oU p
def ala:Int->Bool:=λp=> !wR p
def apy:Fs Tryz.prog aHQ bC ala:=fw 141 Tryz.f141 (λp=>([.d tu p],[])) (λx=>⟨.d .bool x,[],[]⟩) [av tu] [VP]
theorem aND(p)(k:K1 R):apy.A p k=al (xj.call p) λx1=>k (apy.out (!x1)):=cr
theorem aNE:apy.Ok:=by intro p hp;rw[aND,Cr (d:=p) hp];rfl
theorem acb:apy.RS:=rE [.d tu] apy
def axS:=apy.fC aNE
abbrev yR:=Bs×Int×Int
def rI:yR->AS:=λ(nf,t7,t8)=>⟨([.d tU nf,.fn 141 (.nil)]++aS 5 ([.d ti t7,.d ti t8]++aS 10 [])),[],(ab 19 [])⟩
def xV:Int->Exit×AS:=λx=>(.ret,⟨(aS 4 ([.d ti x]++aS 14 [])),[],(ab 19 [])⟩)
def xW:Unit->Exit×AS:=λx=>(.exit 0,⟨(aS 19 []),[],(ab 19 [])⟩)
abbrev Kl:=(Int)⊕(Unit)
abbrev X7:=(Int)⊕(Unit)
def EC:Kl->Out (Exit×AS):=λx=> .br x.isLeft (.get x.getLeft? λa=> .ok (xV a)) (.get x.getRight? λb=> .ok (xW b))
def kr:yR->X7->Kl:=λ(nf,t7,t8) y=>match y with | .inl y=> .inl y | .inr z=> .inr (z)
def xU:yR->Prop:=λ(l,n,i)=>Ia l/\l.length<=1000000000/\n=l.length/\∃k:Nat,k<=l.length/\i=k
def od:yR->X7:=λ(l,n,i)=>zK (l.drop i.toNat) i
def auW:Bs->Prop:=λl=>Ia l/\l.length<=1000000000
def adk:Bs->Int:=λl=>awY l
def X5:=dI.fI rI xU kr od EC
def Km:yR->Option Kl:=gO X5 rI
def zi:Fs Tryz.prog auW bC adk:=fw 186 Tryz.f186 (λsv=>([.d tU sv,.fn 141 (.nil)],[])) (λx=>⟨.d ti x,[],[]⟩) [av tU,aD] [axS] {loops:=oJ [(2,{ba:=[0,1,7,8]})],outs:=oI [(2,{},{ba:=[4]})],gf:=nQ [(2,X5)]}
def X6:= @eG Tryz.prog (jQ zi.G) zi.an 0 Tryz.f186 0 _ rI
abbrev S0:=j7 Tryz.prog (jQ zi.G) zi.an 0 Tryz.f186 0 rI xU kr od EC
theorem agd:jh Km xU kr od:=lH (jx [.d tU,.d ti,.d ti] λ_=>cr)
theorem Qh:mK @X6 rI xU kr od EC S0:=nc
theorem Cq(nf t7 t8)(kn:K2 R)(kx:K3 R):X6 (nf,t7,t8) kn kx=aL (gz t8 t7) (aL (eL t8 (((ag nf):Nat):Int)) (al (apy.call (nth tu nf (ae t8))) λx1=>aL (x1) (kx (xV t8).1 (xV t8).2) (kn (rI (nf,t7,(bO .i64 t8 (1:Int)))))) aD) (kx (xW ()).1 (xW ()).2):=cr
theorem aBS(sv)(k:K1 R):zi.A sv k=al (Km (sv,(sv.length:Int),0)) λx2=>aL x2.isLeft (al x2.getLeft? λa3=>k (zi.out a3)) (al x2.getRight? λb4=>k (zi.out (-1))):=cr
theorem alJ:S0:=by
 refine Qh (λ(l,n,i)=>l.length - i.toNat) ?_
 rintro⟨l,n,i⟩ ⟨hl,hb,rfl,k,hk,rfl⟩;have hb:l.length<=1000000000:=hb;have hk:k<=l.length:=hk;by_cases h:k < l.length
 ·have hx:=hl _ (aO h);have n1:nth (.int .u64) l k=l[k]:=cg (t:= .int .u64) h;have hd:zK (l.drop k) k=if wR l[k] then zK (l.drop (k+1)) ((k+1:Nat):Int) else .inl (k:Int):=by rw[aq h];rfl
  cases hp:wR l[k]
  ·right;refine⟨xV (k:Int),?_,λkn kx=> ?_⟩
   ·simp only[kr,od,aa,hd,hp,bw,bA];rfl
   ·rw[Cq];simp(disch:=omega) only[↓S1,↓if_pos,↓if_neg,if_pos,if_neg,bM,bA,S2,n1];rw[acb (d:=l[k]) hx];simp only[ah,bC,ala,hp,fH,aj]
  ·left;refine⟨(l,l.length,((k+1:Nat):Int)),⟨hl,hb,rfl,k+1,ak,rfl⟩,by simp only[aa];omega,?_,λkn kx=> ?_⟩
   ·simp only[kr,od,aa,hd,hp,bM]
   ·rw[Cq];simp(disch:=omega) only[↓S1,↓if_pos,↓if_neg,if_pos,if_neg,bM,bA,S2,n1];rw[acb (d:=l[k]) hx];simp only[ah,bC,ala,hp,cQ,ao]
 ·right;obtain rfl:k=l.length:=ak;refine⟨xW (),?_,λkn kx=> ?_⟩
  ·simp only[kr,od,aa,aN];rfl
  ·rw[Cq];simp(disch:=omega) only[↓S1,↓if_pos,↓if_neg,if_pos,if_neg,bM,bA,S2]
theorem aBT:zi.Ok:=by rintro l ⟨hl,hb⟩;rw[aBS,agd (d:=(l,l.length,0)) ⟨hl,hb,rfl,0,ak,rfl⟩];simp only[ah,kr,od,bg,aG,bC,adk,awY];cases zK l 0 <;> rfl
theorem auX:zi.RS:=rE [.d tU] zi
def aBU:=zi.fC aBT 1 ⟨.fI alJ,trivial⟩
def agb:Bs->Prop:=λl=>Ia l/\l.length<=1000000000
def X2:Bs->Bool:=λl=> !(l.all wR)
def xg:Fs Tryz.prog agb bC X2:=fw 143 Tryz.f143 (λsv=>([.d tU sv,.fn 141 (.nil)],[])) (λx=>⟨.d .bool x,[],[]⟩) [av tU,aD] [aBU]
theorem alG(sv)(k:K1 R):xg.A sv k=al (zi.call sv) λx1=>k (xg.out (Dv x1 0)):=cr
theorem alH:xg.Ok:=by rintro l ⟨hl,hb⟩;rw[alG,auX (d:=l) ⟨hl,hb⟩];simp only[ah,bC,adk,ayY];rfl
theorem agc:xg.RS:=rE [.d tU] xg
def alI:=xg.fC alH
def apz:Int->Prop:=λ_=>True
def VB:Int->Bool:=λn=>PM n
def AK:Fs Tryz.prog apz bC VB:=fw 144 Tryz.f144 (λn=>([.d ti n],[])) (λx=>⟨.d .bool x,[],[]⟩) [av ti]
theorem aun(n)(k:K1 R):AK.A n k=aL (Dv n 0) (k (AK.out (akZ n 1048576))) (k (AK.out aQ)):=cr
theorem auo:AK.Ok:=by
 intro n _;rw[aun];simp only[bC,VB,PM];by_cases h:0<=n
 ·rw[hZ h,aj];by_cases h2:n<=1048576
  ·rw[pa h2,aM ⟨h,h2⟩]
  ·rw[kO h2,aV (λx=>h2 x.2)]
 ·rw[ff h,ao,aV (λx=>h x.1)]
theorem XG:AK.RS:=rE [.d ti] AK
def aup:=AK.fC auo
abbrev yN:=Lk×(List pM)×Int×Int
def mr:yN->AS:=λ(wJ,t7,t8,t9)=>⟨([bH,.dV QQ wJ,bH,.fn 141 (.nil),bH,bH,bH,.d (.slice kS) t7,.d ti t8,.d ti t9]++aS 47 []),[],(ab 57 [])⟩
def fL:Unit->Exit×AS:=λx=>(.ret,⟨([bH,bH,.d .bool aQ]++aS 54 []),[],(ab 57 [])⟩)
def xR:Lk->Exit×AS:=λx=>(.exit 0,⟨([bH,.dV QQ x]++aS 55 []),[],(ab 57 [])⟩)
abbrev J5:=(Unit)⊕(Lk)
abbrev XL:=(Unit)⊕(Unit)
def Ex:J5->Out (Exit×AS):=λx=> .br x.isLeft (.get x.getLeft? λa=> .ok (fL a)) (.get x.getRight? λb=> .ok (xR b))
def kq:yN->XL->J5:=λ(wJ,t7,t8,t9) y=>match y with | .inl y=> .inl y | .inr z=> .inr (wJ)
def xQ:yN->Prop:=λ(l,bs,n,i)=>(∀b∈bs,aEi b)/\bs.length<=9223372036854775807/\n=bs.length/\∃k:Nat,k<=bs.length/\i=k
def oc:yN->XL:=λ(l,bs,n,i)=>if(bs.drop i.toNat).all wH then .inr () else .inl ()
def aut:Lk->Prop:=λl=>afE l/\l.1.length<=9223372036854775807
def FG:Lk->Bool:=λl=>lK l
def XK:=dI.fI mr xQ kq oc Ex
def J6:yN->Option J5:=gO XK mr
def qs:Fs Tryz.prog aut bC FG:=fw 91 Tryz.f91 (λl=>([.d QQ l],[])) (λx=>⟨.d .bool x,[],[]⟩) [av QQ] [alI,aup,axS] {loops:=oJ [(3,{ba:=[1,3,7,8,9]})],outs:=oI [(3,{ba:=[1]},{ba:=[2]})],gf:=nQ [(3,XK)]}
def J4:= @eG Tryz.prog (jQ qs.G) qs.an 0 Tryz.f91 0 _ mr
abbrev SC:=j7 Tryz.prog (jQ qs.G) qs.an 0 Tryz.f91 0 mr xQ kq oc Ex
theorem af1:jh J6 xQ kq oc:=lH (jx [.d QQ,.d (.slice kS),.d ti,.d ti] λ_=>cr)
theorem PZ:mK @J4 mr xQ kq oc Ex SC:=nc
theorem J7(wJ t7 t8 t9)(kn:K2 R)(kx:K3 R):J4 (wJ,t7,t8,t9) kn kx=aL (gz t9 t8) (aL (eL t9 (((ag t7):Nat):Int)) (aL (pJ (((ag (nth kS t7 (ae t9)).1):Nat):Int) (12:Int)) (kx (fL ()).1 (fL ()).2) (al (xg.call (nth kS t7 (ae t9)).1) λx1=>aL (x1) (kx (fL ()).1 (fL ()).2) (al (AK.call (nth kS t7 (ae t9)).2.1) λx2=>aL (!x2) (kx (fL ()).1 (fL ()).2) (al (AK.call (nth kS t7 (ae t9)).2.2.1) λx3=>aL (!x3) (kx (fL ()).1 (fL ()).2) (aL (zg (nth kS t7 (ae t9)).2.2.2.1 (0:Int)) (al (apy.call (nth kS t7 (ae t9)).2.2.2.1) λx4=>aL (x4) (kx (fL ()).1 (fL ()).2) (kn (mr (wJ,t7,t8,(bO .i64 t9 (1:Int)))))) (kn (mr (wJ,t7,t8,(bO .i64 t9 (1:Int)))))))))) aD) (kx (xR wJ).1 (xR wJ).2):=cr
theorem aBi(l)(k:K1 R):qs.A l k=al (J6 (l,l.1,(l.1.length:Int),0)) λx5=>aL x5.isLeft (al x5.getLeft? λa6=>k (qs.out aQ)) (al x5.getRight? λb7=>aL (pJ (b7.1.length:Int) 0) (k (qs.out (akZ (b7.1.length:Int) 4))) (k (qs.out aQ))):=cr
theorem alm:SC:=by
 refine PZ (λ(l,bs,n,i)=>bs.length - i.toNat) ?_
 rintro⟨l,bs,n,i⟩ ⟨hl,hb,rfl,k,hk,rfl⟩;have hb:bs.length<=9223372036854775807:=hb;have hk:k<=bs.length:=hk;by_cases h:k < bs.length
 ·have hx:aEi bs[k]:=hl _ (aO h);have n1:nth (.pair (.slice (.int .u64)) (.pair (.int .i64) (.pair (.int .i64) (.pair (.int .u64) .unit)))) bs k=bs[k]:=cg (t:=(.pair (.slice (.int .u64)) (.pair (.int .i64) (.pair (.int .i64) (.pair (.int .u64) .unit))))) h;have hd:(bs.drop k).all wH=(wH bs[k] && (bs.drop (k+1)).all wH):=by rw[aq h,fK]
  have step:∀ {R:Type} (kn:AS->Option R) (kx:Exit->AS->Option R),J4 (l,bs,(bs.length:Int),(k:Int)) kn kx=aL (wH bs[k]) (kn (mr (l,bs,(bs.length:Int),((k+1:Nat):Int)))) (kx (fL ()).1 (fL ()).2):=by
   intro R kn kx;rw[J7,aX ak,bj ak ak,aa,n1,N.mZ ak];obtain⟨⟨ks,af,dl,sc,u⟩,aQ0⟩:∃b,bs[k]=b:=⟨_,rfl⟩;rw[aQ0]at hx ⊢;have h1:Ia ks:=hx.1;have h2:oU sc:=hx.2;simp only[aj,wH];by_cases hk:ks.length<=12
   ·rw[cH ak,agc (d:=ks) ⟨h1,ak⟩,XG (d:=af) trivial,XG (d:=dl) trivial,acb (d:=sc) h2,aM hk];simp only[ao,ah,bC,X2,bC,VB,bC,ala,bF];cases ks.all wR
    ·rfl
    cases PM af
    ·rfl
    cases PM dl
    ·rfl
    by_cases hs:sc=0
    ·rw[dP hs,aM hs];rfl
    ·rw[fD hs,aV hs];cases wR sc <;> rfl
   ·rw[dd ak,aV hk];rfl
  cases hp:wH bs[k]
  ·right;refine⟨fL (),?_,λkn kx=> ?_⟩
   ·simp only[kq,oc,aa,hd,hp,cY,bw,bA];rfl
   ·rw[step,hp,ao]
  ·left;refine⟨(l,bs,bs.length,((k+1:Nat):Int)),⟨hl,hb,rfl,k+1,ak,rfl⟩,by simp only[aa];omega,?_,λkn kx=> ?_⟩
   ·simp only[kq,oc,aa,hd,hp,bF]
   ·rw[step,hp,aj]
 ·right;obtain rfl:k=bs.length:=ak;refine⟨xR l,?_,λkn kx=> ?_⟩
  ·simp only[kq,oc,aa,aN];rfl
  ·rw[J7];simp(disch:=omega) only[↓S1,↓if_pos,↓if_neg,if_pos,if_neg,bM,bA,S2]
theorem aBj:qs.Ok:=by
 rintro l ⟨hl,hb⟩;have hb:l.1.length<=9223372036854775807:=hb;rw[aBi,af1 (d:=(l,l.1,l.1.length,0)) ⟨hl,hb,rfl,0,ak,rfl⟩];simp only[ah,kq,oc,bg,aG,bC,FG,lK];cases l.1.all wH
 ·rfl
 ·simp only[bM,bF];show aL (pJ _ _) _ _=_;by_cases h0:0 < l.1.length
  ·rw[dd ak];by_cases h4:l.1.length<=4
   ·rw[pa ak,aM ⟨h0,h4⟩];rfl
   ·rw[kO ak,aV (λx=>h4 x.2)];rfl
  ·rw[cH ak,aV (λx=>h0 x.1)];rfl
theorem Ch:qs.RS:=rE [.d QQ] qs
def FH:=qs.fC aBj 1 ⟨.fI alm,trivial⟩
def zx(m:List Int):List Int->List Sg->Bool
 |[],_=>aZ
 |p::ps,ss=>BM p m 1 (ss.headD (0,0,())) && zx m ps ss.tail
def zG(l:Lk)(w:YO)(m:List Int)(height age:Int):Int:=
 if lK l=aQ\/w.1 < 0\/w.1>=l.1.length then 1
 else
  let b:=nth (.pair (.slice (.int .u64)) (.pair (.int .i64) (.pair (.int .i64) (.pair (.int .u64) .unit)))) l.1 w.1.toNat
  if height < b.2.1\/age < b.2.2.1 then 11
  else if b.2.2.2.1≠0/\gX w.2.2.1≠b.2.2.2.1 then 23
  else if w.2.1.length≠b.1.length then 7
  else if zx m b.1 w.2.1 then 0 else 7
theorem aDK(m:List Int)(ks:List Int)(ss:List Sg)(h:ss.length=ks.length)(k:Nat)(hk:k < ks.length):zx m (ks.drop k) (ss.drop k)=(BM ks[k] m 1 (ss[k]'(ak)) && zx m (ks.drop (k+1)) (ss.drop (k+1))):=by rw[aq hk,aq (by omega:k < ss.length)];rfl
def Z9(w:YO):Prop:=(∀s∈w.2.1,aQc s)/\oU w.2.2.1
abbrev Ce:=YO×Bs×Bs×Int×Int
def qp:Ce->AS:=λ(awL,ax0,t68,t69,t70)=>⟨(aS 6 ([.dV aDe awL,.dV tH ax0]++aS 60 ([.d tU t68,.d ti t69,.d ti t70]++aS 14 []))),[],(ab 85 [])⟩
def rD:Unit->Exit×AS:=λx=>(.ret,⟨(aS 10 ([.d ti (7:Int)]++aS 74 [])),[],(ab 85 [])⟩)
def AM:Unit->Exit×AS:=λx=>(.exit 1,⟨(aS 85 []),[],(ab 85 [])⟩)
abbrev PX:=(Unit)⊕(Unit)
abbrev ack:=(Unit)⊕(Unit)
def Hc:PX->Out (Exit×AS):=λx=> .br x.isLeft (.get x.getLeft? λa=> .ok (rD a)) (.get x.getRight? λb=> .ok (AM b))
def mq:Ce->ack->PX:=λ(awL,ax0,t68,t69,t70) y=>match y with | .inl y=> .inl y | .inr z=> .inr (z)
abbrev axX:=Lk×YO×Bs×Int×Int
def AL:Ce->Prop:=λ(w,m,ks,n,i)=>Z9 w/\Sm m/\Ia ks/\ks.length<=1000000000/\w.2.1.length=ks.length/\n=ks.length/\∃k:Nat,k<=ks.length/\i=k
def qo:Ce->ack:=λ(w,m,ks,n,i)=>if zx m (ks.drop i.toNat) (w.2.1.drop i.toNat) then .inr () else .inl ()
def aBe:axX->Prop:=λ(l,w,m,h,a)=>afE l/\l.1.length<=9223372036854775807/\Z9 w/\Sm m
def ale:axX->Int:=λ(l,w,m,h,a)=>zG l w m h a
def acj:=dI.fI qp AL mq qo Hc
def xP:Ce->Option PX:=gO acj qp
def oa:Fs Tryz.prog aBe bC ale:=fw 231 Tryz.f231 (λ(l,wv,m,height,age)=>([.d QQ l,.d aDe wv,.d tH m,.d ti height,.d ti age],[])) (λx=>⟨.d ti x,[],[]⟩) [av QQ,av aDe,av tH,av ti,av ti] [FH,SY,awg] {loops:=oJ [(11,{ba:=[6,7,68,69,70]})],outs:=oI [(11,{},{ba:=[10]})],gf:=nQ [(11,acj)]}
def PW:= @eG Tryz.prog (jQ oa.G) oa.an 0 Tryz.f231 0 _ qp
abbrev XJ:=j7 Tryz.prog (jQ oa.G) oa.an 0 Tryz.f231 0 qp AL mq qo Hc
theorem alf:jh xP AL mq qo:=lH (jx [.d aDe,.d tH,.d tU,.d ti,.d ti] λ_=>cr)
theorem SB:mK @PW qp AL mq qo Hc XJ:=nc
theorem NQ(awL ax0 t68 t69 t70)(kn:K2 R)(kx:K3 R):PW (awL,ax0,t68,t69,t70) kn kx=aL (gz t70 t69) (aL (eL t70 (((ag t68):Nat):Int)) (aL (eL t70 (((ag awL.2.1):Nat):Int)) (al (HN.call ((nth tu t68 (ae t70)),ax0,(nth BB awL.2.1 (ae t70)))) λx1=>aL (!x1) (kx (rD ()).1 (rD ()).2) (kn (qp (awL,ax0,t68,t69,(bO .i64 t70 (1:Int)))))) aD) aD) (kx (AM ()).1 (AM ()).2):=cr
theorem aH8(l wv m height age)(k:K1 R):oa.A (l,wv,m,height,age) k=al (qs.call l) λx1=>aL (!x1) (k (oa.out 1)) (aL (gz wv.1 0) (k (oa.out 1)) (aL (Dv wv.1 (l.1.length:Int)) (k (oa.out 1)) (aL (eL wv.1 (l.1.length:Int)) (aL (gz height (nth kS l.1 (ae wv.1)).2.1) (k (oa.out 11)) (aL (gz age (nth kS l.1 (ae wv.1)).2.2.1) (k (oa.out 11)) (aL (zg (nth kS l.1 (ae wv.1)).2.2.2.1 0) (al (Iw.call wv.2.2.1) λx2=>aL (zg x2 (nth kS l.1 (ae wv.1)).2.2.2.1) (k (oa.out 23)) (aL (zg (wv.2.1.length:Int) (((ag (nth kS l.1 (ae wv.1)).1):Nat):Int)) (k (oa.out 7)) (al (xP (wv,m,(nth kS l.1 (ae wv.1)).1,(((ag (nth kS l.1 (ae wv.1)).1):Nat):Int),0)) λx4=>aL x4.isLeft (al x4.getLeft? λa5=>k (oa.out 7)) (al x4.getRight? λb6=>k (oa.out 0))))) (aL (zg (wv.2.1.length:Int) (((ag (nth kS l.1 (ae wv.1)).1):Nat):Int)) (k (oa.out 7)) (al (xP (wv,m,(nth kS l.1 (ae wv.1)).1,(((ag (nth kS l.1 (ae wv.1)).1):Nat):Int),0)) λx7=>aL x7.isLeft (al x7.getLeft? λa8=>k (oa.out 7)) (al x7.getRight? λb9=>k (oa.out 0))))))) aD))):=cr
theorem apL:XJ:=by
 refine SB (λ(w,m,ks,n,i)=>ks.length - i.toNat) ?_
 rintro⟨w,m,ks,n,i⟩ ⟨hw,hm,hl,hb,hs,rfl,k,hk,rfl⟩;have hb:ks.length<=1000000000:=hb;have hk:k<=ks.length:=hk;have hs:w.2.1.length=ks.length:=hs;by_cases h:k < ks.length
 ·have hx:=hl _ (aO h);have hy:=hw.1 _ (aO (by omega:k < w.2.1.length));have n1:nth (.int .u64) ks k=ks[k]:=cg (t:= .int .u64) h;have n2:nth (.pair (.int .u64) (.pair (.int .u64) .unit)) w.2.1 k=w.2.1[k]'(ak):=cg (t:=(.pair (.int .u64) (.pair (.int .u64) .unit))) ak;have hd:=aDK m ks w.2.1 hs k h;have step:∀ {R:Type} (kn:AS->Option R) (kx:Exit->AS->Option R),PW (w,m,ks,(ks.length:Int),(k:Int)) kn kx=aL (BM ks[k] m 1 (w.2.1[k]'(ak))) (kn (qp (w,m,ks,(ks.length:Int),((k+1:Nat):Int)))) (kx (rD ()).1 (rD ()).2):=by intro R kn kx;rw[NQ,aX ak,bj ak ak,bj ak ak,aa,n1,n2,N.mZ ak,arI (d:=(ks[k],m,w.2.1[k]'(ak))) ⟨hx,hm,hy⟩];simp only[aj,ah,bC,ai6];cases BM ks[k] m 1 (w.2.1[k]'(ak)) <;> rfl
  cases hp:BM ks[k] m 1 (w.2.1[k]'(ak))
  ·right;refine⟨rD (),?_,λkn kx=> ?_⟩
   ·simp only[mq,qo,aa,hd,hp,cY,bw,bA];rfl
   ·rw[step,hp,ao]
  ·left;refine⟨(w,m,ks,ks.length,((k+1:Nat):Int)),⟨hw,hm,hl,hb,hs,rfl,k+1,ak,rfl⟩,by simp only[aa];omega,?_,λkn kx=> ?_⟩
   ·simp only[mq,qo,aa,hd,hp,bF]
   ·rw[step,hp,aj]
 ·right;obtain rfl:k=ks.length:=ak;refine⟨AM (),?_,λkn kx=> ?_⟩
  ·simp only[mq,qo,aa,aN];rfl
  ·rw[NQ];simp(disch:=omega) only[↓S1,↓if_pos,↓if_neg,if_pos,if_neg,bM,bA,S2]
theorem aA8{l:Lk}(h:lK l=aZ){b:pM}(hb:b∈l.1):b.1.length<=12:=by unfold lK at h;rw[au,dp]at h;have:=h.1 b hb;unfold wH at this;rw[au]at this;simpa using this.1
theorem aH9:oa.Ok:=by
  rintro⟨l,w,m,h,a⟩ ⟨hl,hb,hw,hm⟩;have hl:afE l:=hl;have hb:l.1.length<=9223372036854775807:=hb;have hw:Z9 w:=hw;have hm:Sm m:=hm;rw[aH8,Ch (d:=l) ⟨hl,hb⟩];simp only[ah,bC,FG,bC,ale,zG];cases jR:lK l
  · rw[if_pos (mL rfl)];rfl
  by_cases h0:w.1 < 0
  · rw[aX h0,if_pos (fN (mL h0))];rfl
  by_cases h1:w.1>=l.1.length
  · rw[aU h0,hZ h1,if_pos (fN (fN h1))];rfl
  rw[aU h0,ff h1,bj ak ak,if_neg (by simp[h0];omega)];have hn:w.1.toNat < l.1.length:=ak;have n1:nth (.pair (.slice (.int .u64)) (.pair (.int .i64) (.pair (.int .i64) (.pair (.int .u64) .unit)))) l.1 w.1.toNat=l.1[w.1.toNat]:=cg (t:=(.pair (.slice (.int .u64)) (.pair (.int .i64) (.pair (.int .i64) (.pair (.int .u64) .unit))))) hn;rw[n1];have hx:aEi l.1[w.1.toNat]:=hl _ (aO hn);have aTT:=aA8 jR (aO hn);obtain⟨⟨ks,af,dl,sc,u⟩,aQ0⟩:∃b,l.1[w.1.toNat]=b:=⟨_,rfl⟩;rw[aQ0]at hx aTT ⊢;have aHa:Ia ks:=hx.1;have aTT:ks.length<=12:=aTT;simp only[cQ,ao,aj];by_cases e1:h < af
  · rw[aX e1,if_pos (mL e1)];rfl
  by_cases e2:a < dl
  · rw[aU e1,aX e2,if_pos (fN e2)];rfl
  rw[aU e1,aU e2,if_neg (by simp[e1,e2]),FL (d:=w.2.2.1) hw.2];simp only[ao,ah,bC,ZW]
  have last:aL (zg ((w.2.1.length:Nat):Int) ((ks.length:Nat):Int)) (av (oa.out (7:Int))) (
          al (xP (w,m,ks,((ks.length:Nat):Int),(0:Int))) λx4=>
          aL (x4.isLeft) (al (x4.getLeft?) λa5=>av (oa.out (7:Int))) (al (x4.getRight?) λb6=>av (oa.out (0:Int))))=av (oa.out (if w.2.1.length≠ks.length then 7 else if zx m ks w.2.1 then 0 else 7)):=by
    by_cases e3:w.2.1.length=ks.length
    · rw[dP ak,if_neg (by simp[e3]),ao,alf (d:=(w,m,ks,ks.length,0)) ⟨hw,hm,aHa,by show ks.length<=1000000000;omega,e3,rfl,0,ak,rfl⟩]
      simp only[ah,mq,qo,bg,aG];cases zx m ks w.2.1 <;> rfl
    · rw[fD ak,if_pos e3];rfl
  by_cases e4:sc=0
  · rw[dP e4,if_neg (by simp[e4]),ao]
    exact last
  · rw[fD e4,aj]
    by_cases e5:gX w.2.2.1=sc
    · rw[dP e5,if_neg (by simp[e5]),ao]
      exact last
    · rw[fD e5,if_pos ⟨e4,e5⟩];rfl
theorem aBf:oa.RS:=rE [.d QQ,.d aDe,.d tB,.d ti,.d ti] oa
def aIa:=oa.fC aH9 1 ⟨.fI apL,trivial⟩
def ay5:Int->Prop:=λn=>∃k:Nat,n=k/\k<=100000000
def aw3:Int->(Nat×(List Int)):=λn=>(0,ab n.toNat 0)
def WR:Fs Tryz.prog ay5 bC aw3:=fw 212 Tryz.f212 (λn=>([.dy,.d ti n],[])) (λx=>⟨.bE (.new 0 0) 0 [] 0 0 x.1,[],[.obj 0 aQ (.vec 5 tb x.2)]⟩) [aD,av ti] [] {owns:=[⟨4,[],22,127⟩]}
theorem aEQ(n)(k:K1 R):WR.A n k=aL (gz n 0) (aD) (aL (pJ (da .i64 n 0) 0) (aL (decide (0 < (da .i64 n 0)) && dw (ae (da .i64 n 0)) 1) (aL (inc 0 (((ae (da .i64 n 0)):Nat):Int)) (k (WR.out (0,(ab (ae (da .i64 n 0)) 0)))) aD) aD) (k (WR.out (0,([]:List Int))))):=cr
theorem aER:WR.Ok:=by
 rintro n ⟨k,rfl,hk⟩;have e:da .i64 (k:Int) 0=(k:Int):=by rw[fh ak ak];omega
 rw[aEQ,e,aU ak,ao];by_cases h:0 < k
 ·rw[dd ak,aa,aM ak,dC ak ak,vG ak ak];rfl
 ·obtain rfl:k=0:=ak;rfl
theorem ay6:WR.RS:=rE [.d ti] WR
def aES:=WR.fC aER
def vJ(l:List (List Int)):Nat:=l.flatten.length
def afK(n:Nat)(l:List Int):List (List Int)->Nat×List Int
 |[]=>(n,l)
 |s::r=>(n+(s::r).flatten.length,l.take n++(s::r).flatten)
theorem azF(n:Nat)(l s:List Int)(r:List (List Int))(h:n<=l.length):afK n l (s::r)=afK (n+s.length) (l.take n++s) r:=by
 have hl:(l.take n++s).length=n+s.length:=by rw[ai,bB];omega
 cases r with
 |nil=>simp[afK]
 |cons t r=>
  simp only[afK];rw[bk (re hl)];simp only[jX,ai,aI,fy]
theorem aMN(n:Nat)(z:List Int)(r:List (List Int)):(afK 0 z r).1<=(afK 0 z r).2.length/\cut (afK 0 z r).2 0 (afK 0 z r).1=r.flatten:=by
 cases r with
 |nil=>exact⟨aP _,rfl⟩
 |cons s r=>
  simp only[afK,dZ,aY,aR];exact⟨ay _,by show aW _ (bZ 0 _)=_;rw[aG,bQ]⟩
abbrev Gp:=(List Bs)×Int×(List Bs)×Int×Int
def vf:Gp->Int->(((List Bs))×(Int)):=λ(CC,size,t9,t10,t11) y=>(CC,y)
abbrev Q3:=Nat×(List Bs)×Int×Int×(List Int)
def Jn:Gp->Prop:=λ(s,size,t,n,i)=>s.length<=1000000/\t=s/\n=s.length/\∃k z:Nat,k<=s.length/\i=k/\size=z/\z+vJ (s.drop k)<=100000000
def zL:Gp->Int:=λ(s,size,t,n,i)=>((size:Int)+((vJ (s.drop i.toNat):Nat):Int):Int)
def Jo:Q3->Prop:=λ(n,s,t,i,l)=>s.length<=1000000/\n<=l.length/\t=s.length/\∃k:Nat,k<=s.length/\i=k/\n+vJ (s.drop k)<=100000000
def zM:Q3->(Nat×(List Int)):=λ(n,s,t,i,l)=>afK n l (s.drop i.toNat)
def ant:(List Bs)->Prop:=λs=>s.length<=1000000/\vJ s<=100000000
def UH:(List Bs)->Bs:=λs=>s.flatten
def ov:Ls Jn vf zL:=sH (λ(CC,size,t9,t10,t11)=>⟨([.d (.slice tB) CC,bH,bH,.d ti size]++aS 5 ([.d (.slice tB) t9,.d ti t10,.d ti t11]++aS 24 [])),[],(ab 36 [])⟩) (λx=>(.exit 0,⟨([.d (.slice tB) x.1,bH,bH,.d ti x.2]++aS 32 []),[],(ab 36 [])⟩))
def ow:Ls Jo bC zM:=sH (λ(newsliceL,t25,t26,t27,n24)=>⟨(aS 6 ([pc 24 newsliceL]++aS 18 ([.d (.slice tB) t25,.d ti t26,.d ti t27]++aS 8 []))),[],(bS 24 ([ed (.vec 5 tb n24)]++bS 11 []))⟩) (λx=>(.exit 2,⟨(aS 6 ([pc 24 x.1]++aS 29 [])),[],(bS 24 ([ed (.vec 5 tb x.2)]++bS 11 []))⟩))
def pF:Fs Tryz.prog ant bC UH:=fw 175 Tryz.f175 (λslices=>([.d (.slice tB) slices],[])) (λx=>⟨.d tB x,[],[]⟩) [av (.slice tB)] [aES] {loops:=oJ [(3,{ba:=[0,3,9,10,11]}),(11,{ba:=[6,25,26,27],sites:=[24],owns:=[⟨6,[],24,127⟩]})],outs:=oI [(3,{ba:=[0,3]},{ba:=[2]}),(11,{ba:=[6],sites:=[24]},{ba:=[2]})],gf:=nQ [(3,ov.E),(11,ow.E)],res:=[av tB]}
theorem aau:ov.RS:=rL [.d (.slice tB),.d ti,.d (.slice tB),.d ti,.d ti] ov
theorem Ie(CC size t9 t10 t11)(kn:K2 R)(kx:K3 R):pF.R 0 ov (CC,size,t9,t10,t11) kn kx=aL (gz t11 t10) (aL (eL t11 (t9.length:Int)) (aL (gz (bO .i64 size (((ag (nth tB t9 (ae t11))):Nat):Int)) 0) (aD) (kn (ov.st (CC,(bO .i64 size (((ag (nth tB t9 (ae t11))):Nat):Int)),t9,t10,(bO .i64 t11 1))))) aD) (ov.go kx (CC,size)):=cr
theorem aav:ow.RS:=rL [.n,.d (.slice tB),.d ti,.d ti,.d tB] ow
theorem Ig(newsliceL t25 t26 t27 n24)(kn:K2 R)(kx:K3 R):pF.R 1 ow (newsliceL,t25,t26,t27,n24) kn kx=aL (gz t27 t26) (aL (eL t27 (t25.length:Int)) (aL (decide (newsliceL<=(ag n24))) (aL (dw (newsliceL+(ag (nth tB t25 (ae t27)))) 1) (kn (ow.st ((newsliceL+(ag (nth tB t25 (ae t27)))),t25,t26,(bO .i64 t27 1),((aW newsliceL n24)++(nth tB t25 (ae t27)))))) aD) aD) aD) (ow.go kx (newsliceL,n24)):=cr
theorem asI(slices)(k:K1 R):pF.A slices k=al (ov.call (slices,0,slices,(slices.length:Int),0)) λx1=>al (WR.call x1.2) λx2=>al (ow.call (x2.1,x1.1,(x1.1.length:Int),0,x2.2)) λx3=>aL (decide (0=0/\(0+x3.1)<=(ag x3.2))) (k (pF.out (cut x3.2 0 x3.1))) aD:=cr
theorem axU(s:List (List Int))(k:Nat)(h:k < s.length):vJ (s.drop k)=s[k].length+vJ (s.drop (k+1)):=by unfold vJ;rw[aq h,jX,ai]
theorem afH:(pF.lF 0 ov):=by
 refine(pF.mY 0 ov) (λ(s,size,t,n,i)=>s.length - i.toNat) ?_
 rintro⟨s,size,t,n,i⟩ ⟨hs,rfl,rfl,k,z,hk,rfl,rfl,hz⟩;have hs:t.length<=1000000:=hs;have hk:k<=t.length:=hk;have hz:z+vJ (t.drop k)<=100000000:=hz;by_cases h:k < t.length
 ·left;have n1:nth (.slice (.int .u8)) t k=t[k]:=cg (t:= .slice (.int .u8)) h;have hd:=axU t k h;refine⟨(t,((z+t[k].length:Nat):Int),t,t.length,((k+1:Nat):Int)),⟨hs,rfl,rfl,k+1,z+t[k].length,ak,rfl,rfl,ak⟩,by simp only[aa];omega,?_,λkn kx=> ?_⟩
  ·simp only[vf,zL,aa];rw[hd];refine bu _ ?_
   omega
  ·rw[Ie];simp(disch:=omega) only[↓S1,↓if_pos,↓if_neg,if_pos,if_neg,bM,bA,S2,n1]
 ·right;obtain rfl:k=t.length:=ak;intro R kn kx;rw[Ie];simp(disch:=omega) only[↓S1,↓if_pos,↓if_neg,if_pos,if_neg,bM,bA,S2,vf,zL,aN];simp only[vJ,qZ,bl,Int.natCast_zero,Int.add_zero]
theorem afI:(pF.lF 1 ow):=by
 refine(pF.mY 1 ow) (λ(n,s,t,i,l)=>s.length - i.toNat) ?_
 rintro⟨n,s,t,i,l⟩ ⟨hs,hn,rfl,k,hk,rfl,hz⟩;have hs:s.length<=1000000:=hs;have hn:n<=l.length:=hn;have hk:k<=s.length:=hk;have hz:n+vJ (s.drop k)<=100000000:=hz;by_cases h:k < s.length
 ·left;have n1:nth (.slice (.int .u8)) s k=s[k]:=cg (t:= .slice (.int .u8)) h;have hd:=axU s k h;refine⟨(n+s[k].length,s,s.length,((k+1:Nat):Int),l.take n++s[k]),⟨hs,by rw[ai,bB];omega,rfl,k+1,ak,rfl,ak⟩,by simp only[aa];omega,?_,λkn kx=> ?_⟩
  ·simp only[bC,zM,aa];rw[aq h,azF _ _ _ _ hn]
  ·rw[Ig];simp(disch:=omega) only[↓S1,↓if_pos,↓if_neg,if_pos,if_neg,bM,bA,S2,n1]
 ·right;obtain rfl:k=s.length:=ak;intro R kn kx;rw[Ig];simp(disch:=omega) only[↓S1,↓if_pos,↓if_neg,if_pos,if_neg,bM,bA,S2,bC,zM,aN];rfl
theorem asJ:pF.Ok:=by rintro s ⟨hs,hz⟩;have hs:s.length<=1000000:=hs;have hz:vJ s<=100000000:=hz;have p1:Jn (s,0,s,s.length,0):=⟨hs,rfl,rfl,0,0,ak,rfl,rfl,by rw[aG];omega⟩;have p2:Jo (0,s,s.length,0,ab (vJ s) 0):=⟨hs,ak,rfl,0,ak,rfl,by rw[aG];omega⟩;rw[asI,aau p1];simp only[ah,vf,zL,bg,aG,Int.zero_add];rw[ay6 (d:=((vJ s:Nat):Int)) ⟨vJ s,rfl,hz⟩];simp only[ah,bC,aw3,aa];rw[aav p2];simp only[ah,bC,zM,bg,aG];obtain⟨c1,c2⟩:=aMN 0 (ab (vJ s) 0) s;simp only[aR,c1,jO,cO,aj,c2];rfl
theorem WQ:pF.RS:=rE [.d (.slice tB)] pF
def aaw:=pF.fC asJ 2 ⟨.fI afH,⟨.fI afI,trivial⟩⟩
def ahC:(Bs×Bs)->Prop:=λ(a,b)=>a.length+b.length<=100000000
def ajZ:(Bs×Bs)->Bs:=λ(a,b)=>a++b
def Jz:Fs Tryz.prog ahC bC ajZ:=fw 173 Tryz.f173 (λ(b,more)=>([.d tB b,.d tB more],[])) (λx=>⟨.d tB x,[],[]⟩) [av tB,av tB] [aaw]
theorem aFE(b more)(k:K1 R):Jz.A (b,more) k=al (pF.call [b,more]) λx1=>k (Jz.out x1):=cr
theorem aFF:Jz.Ok:=by rintro⟨a,b⟩ h;have h:a.length+b.length<=100000000:=h;rw[aFE,WQ (d:=[a,b]) ⟨by show [a,b].length<=_;simp,by show vJ [a,b]<=_;simp only[vJ,jX,qZ,bm,ai];omega⟩];simp only[ah,bC,UH,bC,ajZ,jX,qZ,bm]
theorem LZ:Jz.RS:=rE [.d tB,.d tB] Jz
def aaV:=Jz.fC aFF
def ix:Nat->Int->List Int×Int
 | 0,n=>([],n)
 |f+1,n=>if 128<=n then((n%128+128)::(ix f (n / 128)).1,(ix f (n / 128)).2) else([],n)
def gZ(n:Int):List Int:=(ix 10 n).1++ [(ix 10 n).2]
theorem My:∀(f g:Nat) (n:Int),n < 128^(f+1)->n < 128^(g+1)->ix f n=ix g n
 | 0,0,n,_,_=>rfl
 | 0,g+1,n,h,_=>by have h:n < 128:=h;rw[ix,ix,if_neg ak]
 |f+1,0,n,_,h=>by have h:n < 128:=h;rw[ix,ix,if_neg ak]
 |f+1,g+1,n,h,h'=>by
  rw[ix,ix];split
  ·have e:(128:Int)^(f+1+1)=128^(f+1)*128:=gA 128 (f+1);have e':(128:Int)^(g+1+1)=128^(g+1)*128:=gA 128 (g+1);rw[My f g (n / 128) ak ak]
  ·rfl
theorem ad8:∀(f:Nat) (n:Int),(ix f n).1.length<=f
 | 0,_=>ay _
 |f+1,n=>by
  rw[ix];split
  ·have:=ad8 f (n / 128);simp only[aB];omega
  ·exact aP _
theorem aiR:∀(f:Nat) (n:Int),0<=n->n < 128^(f+1)->0<=(ix f n).2/\(ix f n).2 < 128
 | 0,n,h,h'=>by have h':n < 128:=h';exact⟨h,h'⟩
 |f+1,n,h,h'=>by
  rw[ix];have e:(128:Int)^(f+1+1)=128^(f+1)*128:=gA 128 (f+1);split
  ·exact aiR f (n / 128) ak ak
  ·exact⟨h,ak⟩
theorem aiS{n:Int}(h:128<=n)(h2:n<=9223372036854775807):ix 10 n=((n%128+128)::(ix 10 (n / 128)).1,(ix 10 (n / 128)).2):=by have e:(128:Int)^(9+1)=1180591620717411303424:=rfl;have e2:(128:Int)^(10+1)=151115727451828646838272:=rfl;rw[ix,if_pos h,My 9 10 (n / 128) (by rw[e];omega) (by rw[e2];omega)]
theorem lv(n:Int):(gZ n).length<=11:=by have:=ad8 10 n;unfold gZ;simp only[ai,aB,bl];omega
def I5(n:Int):Prop:=0<=n/\n<=9223372036854775807
abbrev ahI:=Int×Nat×(List Int)
def W8:ahI->Prop:=λ(n,m,l)=>I5 n/\m=l.length/\l.length<=1000+0*n.toNat/\l.length+(ix 10 n).1.length<=100
def L4:ahI->(Int×Nat×(List Int)):=λ(n,m,l)=>((ix 10 n).2,(l++(ix 10 n).1).length,l++(ix 10 n).1)
def aGe:Int->Prop:=λn=>I5 n
def atz:Int->Bs:=λn=>gZ n
def z6:Ls W8 bC L4:=sH (λ(xT,outL,n14)=>⟨([.d ti xT,bH,bH,pc 14 outL]++aS 16 []),[],(bS 14 ([ed (.vec 5 tb n14)]++bS 5 []))⟩) (λx=>(.exit 0,⟨([.d ti x.1,bH,bH,pc 14 x.2.1]++aS 16 []),[],(bS 14 ([ed (.vec 5 tb x.2.2)]++bS 5 []))⟩))
def aa7:Fs Tryz.prog aGe bC atz:=fw 174 Tryz.f174 (λn=>([.d ti n],[])) (λx=>⟨.d tB x,[],[]⟩) [av ti] [] {loops:=oJ [(2,{ba:=[0,3],sites:=[14],owns:=[⟨3,[],14,127⟩]})],outs:=oI [(2,{ba:=[0,3],sites:=[14]},{ba:=[2]})],gf:=nQ [(2,z6.E)],res:=[av tB]}
theorem aoo:z6.RS:=rL [.d ti,.n,.d tB] z6
theorem Ry(xT outL n14)(kn:K2 R)(kx:K3 R):aa7.R 0 z6 (xT,outL,n14) kn kx=aL (Dv xT 128) (aL (decide (outL<=(ag n14))) (aL (dw (outL+1) 1) (kn (z6.st ((uX .i64 xT 128),(outL+1),((aW outL n14)++ [(eQ .u8 (bO .i64 (nP xT 128) 128))])))) aD) aD) (z6.go kx (xT,outL,n14)):=cr
theorem aML(n)(k:K1 R):aa7.A n k=al (z6.call (n,0,([]:List Int))) λx1=>aL (decide (x1.2.1<=(ag x1.2.2))) (aL (dw (x1.2.1+1) 1) (aL (decide (0=0/\(0+(x1.2.1+1))<=(ag ((aW x1.2.1 x1.2.2)++ [(eQ .u8 x1.1)])))) (k (aa7.out (cut ((aW x1.2.1 x1.2.2)++ [(eQ .u8 x1.1)]) 0 (x1.2.1+1)))) aD) aD) aD:=cr
theorem aGu{n:Int}(h:I5 n):eQ .u8 (bO .i64 (nP n 128) 128)=n%128+128:=by have h1:=h.1;rw[xM h.1,gD ak ak,Vp,iS];omega
theorem atA:(aa7.lF 0 z6):=by
 refine(aa7.mY 0 z6) (λ(n,m,l)=>n.toNat) ?_
 rintro⟨n,m,l⟩ ⟨hn,rfl,hl,hz⟩;have hn:I5 n:=hn;have hz:l.length+(ix 10 n).1.length<=100:=hz;have h1:=hn.1;have h2:=hn.2;by_cases h:128<=n
 ·left;have e:=aiS h h2;have hq:uX .i64 n 128=n / 128:=by rw[uX,kX h1];exact vE ak ak
  have el:((n%128+128)::(ix 10 (n / 128)).1).length=(ix 10 (n / 128)).1.length+1:=aB;rw[e]at hz;have hz:l.length+((n%128+128)::(ix 10 (n / 128)).1).length<=100:=hz;rw[el]at hz;refine⟨(n / 128,l.length+1,l++ [n%128+128]),⟨⟨ak,ak⟩,by rw[ai];rfl,by rw[ai];simp only[aB,bl];omega,by rw[ai];simp only[aB,bl];omega⟩,by simp only[];omega,?_,λkn kx=> ?_⟩
  ·simp only[bC,L4,e,aI,iI,aY]
  ·rw[Ry,hZ h,aGu hn,hq];simp(disch:=omega) only[↓S1,↓if_pos,↓if_neg,if_pos,if_neg,bM,bA,S2,ay,bQ]
 ·right;have e:ix 10 n=([],n):=by rw[ix,if_neg h]
  intro R kn kx;rw[Ry,ff h];simp only[ao,bC,L4,e,bm]
theorem aMM:aa7.Ok:=by
 intro n hn;have hn:I5 n:=hn;have hl:=ad8 10 n;have e2:(128:Int)^(10+1)=151115727451828646838272:=rfl;have hd:=aiR 10 n hn.1 (by have:=hn.2;rw[e2];omega);have p:W8 (n,0,[]):=⟨hn,rfl,by simp,by simp only[bl];omega⟩;have hi:eQ .u8 (ix 10 n).2=(ix 10 n).2:=by rw[Vp,iS];omega
 rw[aML,aoo p];simp only[ah,bC,L4,aY,hi,bQ,ay,cO,aj];rw[dC ak ak];simp only[aj,aR,ai,aB,bl,ay,jO,cO];rw[fB (by rw[ai];rfl)];rfl
theorem aoq:aa7.RS:=rE [.d ti] aa7
def axm:=aa7.fC aMM 1 ⟨.fI atA,trivial⟩
def cU(b:List Int)(n:Int):List Int:=if n < 0 then b else b++gZ n
theorem dN(b:List Int)(n:Int):(cU b n).length<=b.length+11:=by
 unfold cU;have:=lv n;split
 ·omega
 ·rw[ai];omega
def aF6:(Bs×Int)->Prop:=λ(b,n)=>b.length<=90000000/\n<=9223372036854775807
def p9:(Bs×Int)->Bs:=λ(b,n)=>cU b n
def BR:Fs Tryz.prog aF6 bC p9:=fw 113 Tryz.f113 (λ(b,n)=>([.d tB b,.d ti n],[])) (λx=>⟨.d tB x,[],[]⟩) [av tB,av ti] [aaV,axm]
theorem aMJ(b n)(k:K1 R):BR.A (b,n) k=aL (gz n 0) (al (Jz.call (b,([]:List Int))) λx1=>k (BR.out x1)) (al (aa7.call n) λx2=>al (Jz.call (b,x2)) λx3=>k (BR.out x3)):=cr
theorem aMK:BR.Ok:=by
 rintro⟨b,n⟩ ⟨hb,hn⟩;have hb:b.length<=90000000:=hb;have hn:n<=9223372036854775807:=hn;rw[aMJ];simp only[bC,p9,cU];by_cases h:n < 0
 ·rw[aX h,if_pos h,aj,LZ (d:=(b,[])) (by show b.length+([]:List Int).length<=_;simp only[bl];omega)];simp only[ah,bC,ajZ,bm]
 ·have hl:=lv n;rw[aU h,if_neg h,ao,aoq (d:=n) ⟨ak,hn⟩];simp only[ah,bC,atz];rw[LZ (d:=(b,gZ n)) (by show b.length+(gZ n).length<=_;omega)];rfl
theorem j8:BR.RS:=rE [.d tB,.d ti] BR
def Zz:=BR.fC aMK
def az4:(Bs×Int)->Prop:=λ(b,n)=>b.length<=90000000
def Rx:(Bs×Int)->Bs:=λ(b,n)=>b++jV n
def JE:Fs Tryz.prog az4 bC Rx:=fw 128 Tryz.f128 (λ(b,n)=>([.d tB b,.d tu n],[])) (λx=>⟨.d tB x,[],[]⟩) [av tB,av tu] [aaV] {loops:=oJ [(3,{ba:=[0,1,5,7],sites:=[5,21]})],outs:=oI [(3,{ba:=[0,5],sites:=[5,21]},{ba:=[4],sites:=[5,21]})]} 12
theorem aGc(b n)(k:K1 R):JE.A (b,n) k=al (Jz.call (b,[(eQ .u8 (cP .u64 n 56)),(eQ .u8 (cP .u64 n 48)),(eQ .u8 (cP .u64 n 40)),(eQ .u8 (cP .u64 n 32)),(eQ .u8 (cP .u64 n 24)),(eQ .u8 (cP .u64 n 16)),(eQ .u8 (cP .u64 n 8)),(eQ .u8 (cP .u64 n 0))])) λx1=>k (JE.out x1):=cr
theorem aGd:JE.Ok:=by
 rintro⟨b,n⟩ hb;have hb:b.length<=90000000:=hb;have p:ahC (b,jV n):=by show b.length+(jV n).length<=_;rw[cJ];omega
 have e:Jz.call (b,[eQ .u8 (cP .u64 n 56),eQ .u8 (cP .u64 n 48),eQ .u8 (cP .u64 n 40),eQ .u8 (cP .u64 n 32),eQ .u8 (cP .u64 n 24),eQ .u8 (cP .u64 n 16),eQ .u8 (cP .u64 n 8),eQ .u8 (cP .u64 n 0)])=av (b++jV n):=by rw[anv];exact LZ p
 rw[aGc];refine Eq.trans (bu (λx=>al x _) e) ?_
 rfl
theorem Fv:JE.RS:=rE [.d tB,.d tu] JE
def aon:=JE.fC aGd 1 ⟨.none cr,trivial⟩
def CP(w:YO):Bool:=decide (0<=w.1/\w.1 < 4) && decide (w.2.1.length<=12)
def JU(x:iF):Bool:=decide (0<=x.1.2.1/\x.1.2.1 < 64) && CP x.2.1
def R3(m:List (bJ×Bool))(x:iF):Bool:=(bW bh x.1 m).getD aQ
def FE:List (bJ×Bool)->List iF->Bool
 |_,[]=>aZ
 |m,x::l=>(!(R3 m x) && JU x) && FE (fj bh x.1 aZ m) l
def tV(a:Int):Bool:=decide (0<=a/\a<=1125899906842624)
def M6(a b:Int):Bool:=tV a && (tV b && decide (a+b<=1125899906842624))
def zh:Int->List iu->Bool
 |_,[]=>aZ
 |s,o::l=>(M6 s o.1 && lK o.2.1) && zh (s+o.1) l
def afd(t:dR):Bool:=decide (1<=t.1.length/\t.1.length<=64/\t.2.1.length<=64/\0<=t.2.2.1)
def iR(t:dR):Bool:=afd t && (FE [] t.1 && zh 0 t.2.1)
def aQb(l:Lk):Prop:=afE l/\l.1.length<=9223372036854775807
def aSx(t:dR):Prop:=(∀o∈t.2.1,aQb o.2.1)/\t.1.length<=9223372036854775807/\t.2.1.length<=9223372036854775807
def aKR:YO->Prop:=λ_=>True
def amL:YO->Bool:=λw=>CP w
def agX:Fs Tryz.prog aKR bC amL:=fw 87 Tryz.f87 (λwv=>([.d aDe wv],[])) (λx=>⟨.d .bool x,[],[]⟩) [av aDe]
theorem aO5(wv)(k:K1 R):agX.A wv k=aL (Dv wv.1 0) (aL (gz wv.1 4) (k (agX.out (akZ (wv.2.1.length:Int) 12))) (k (agX.out aQ))) (k (agX.out aQ)):=cr
theorem aO6:agX.Ok:=by
 rintro⟨b,ss,sc,u⟩ _;rw[aO5];simp only[bC,amL,CP];by_cases h:0<=b
 ·rw[hZ h,aj];by_cases h2:b < 4
  ·rw[aX h2,aj,aM ⟨h,h2⟩];by_cases h3:ss.length<=12
   ·rw[pa ak,aM h3];rfl
   ·rw[kO ak,aV h3];rfl
  ·rw[aU h2,ao,aV (λx=>h2 x.2)];rfl
 ·rw[ff h,ao,aV (λx=>h x.1)];rfl
theorem arZ:agX.RS:=rE [.d aDe] agX
def ayB:=agX.fC aO6
def auF:Int->Prop:=λ_=>True
def acY:Int->Bool:=λa=>tV a
def Hl:Fs Tryz.prog auF bC acY:=fw 169 Tryz.f169 (λa=>([.d ti a],[])) (λx=>⟨.d .bool x,[],[]⟩) [av ti]
theorem aBt(a)(k:K1 R):Hl.A a k=aL (Dv a 0) (k (Hl.out (akZ a 1125899906842624))) (k (Hl.out aQ)):=cr
theorem aBu:Hl.Ok:=by
 intro(a:Int) _;rw[aBt];simp only[bC,acY,tV];by_cases h:0<=a
 ·rw[hZ h,aj];by_cases h2:a<=1125899906842624
  ·rw[pa h2,aM ⟨h,h2⟩]
  ·rw[kO h2,aV (λx=>h2 x.2)]
 ·rw[ff h,ao,aV (λx=>h x.1)]
theorem acZ:Hl.RS:=rE [.d ti] Hl
def aBv:=Hl.fC aBu
def aIq:(Int×Int)->Prop:=λ_=>True
def auE:(Int×Int)->(Int×Bool):=λ(a,b)=>(bif M6 a b then a+b else 0,M6 a b)
def af8:Fs Tryz.prog aIq bC auE:=fw 110 Tryz.f110 (λ(a,b)=>([.d ti a,.d ti b],[])) (λx=>⟨.cons (.d ti x.1) (.cons (.d .bool x.2) (.nil)),[],[]⟩) [av ti,av ti] [aBv]
theorem aNX(a b)(k:K1 R):af8.A (a,b) k=al (Hl.call a) λx1=>aL (!x1) (k (af8.out (0,aQ))) (al (Hl.call b) λx2=>aL (!x2) (k (af8.out (0,aQ))) (aL (pJ a (da .i64 1125899906842624 b)) (k (af8.out (0,aQ))) (k (af8.out ((bO .i64 a b),aZ))))):=cr
theorem aNY:af8.Ok:=by
 rintro⟨a,b⟩ _;rw[aNX,acZ (d:=a) trivial,acZ (d:=b) trivial];simp only[ah,bC,acY,bC,auE,M6];cases ha:tV a
 ·rfl
 ·cases hb:tV b
  ·rfl
  ·simp only[tV,bf]at ha hb;simp only[cQ,ao,bF];rw[fh ak ak];by_cases h:a+b<=1125899906842624
   ·rw[cH ak,ao,aM h,gD ak ak];rfl
   ·rw[dd ak,aj,aV h];rfl
theorem aIr:af8.RS:=rE [.d ti,.d ti] af8
def aNZ:=af8.fC aNY
abbrev y6:=dR×(List iF)×Int×Int×(List (bJ×Bool))
def oP:y6->AS:=λ(pK,t33,t34,t35,n31)=>⟨([bH,.dV fa pK,bH,.cI (.new 31 0) 0]++aS 29 ([.d (.slice gT) t33,.d ti t34,.d ti t35]++aS 52 [])),[],(bS 31 ([ed (.mp bh .bool n31)]++bS 56 []))⟩
def gU:Unit->Exit×AS:=λx=>(.ret,⟨([bH,bH,.d .bool aQ]++aS 85 []),[],(ab 88 [])⟩)
def yt:dR->Exit×AS:=λx=>(.exit 0,⟨([bH,.dV fa x]++aS 86 []),[],(ab 88 [])⟩)
abbrev LA:=(Unit)⊕(dR)
abbrev YG:=(Unit)⊕(Unit)
def E7:LA->Out (Exit×AS):=λx=> .br x.isLeft (.get x.getLeft? λa=> .ok (gU a)) (.get x.getRight? λb=> .ok (yt b))
def kH:y6->YG->LA:=λ(pK,t33,t34,t35,n31) y=>match y with | .inl y=> .inl y | .inr z=> .inr (pK)
abbrev y7:=Int×(List iu)×Int×Int
def oQ:y7->AS:=λ(sum,t66,t67,t68)=>⟨(aS 6 ([.d ti sum]++aS 59 ([.d (.slice gV) t66,.d ti t67,.d ti t68]++aS 19 []))),[],(ab 88 [])⟩
def kJ:Unit->Exit×AS:=λx=>(.ret,⟨([bH,bH,.d .bool aQ]++aS 85 []),[],(ab 88 [])⟩)
def yw:Unit->Exit×AS:=λx=>(.exit 2,⟨(aS 88 []),[],(ab 88 [])⟩)
abbrev LF:=(Unit)⊕(Unit)
abbrev YI:=(Unit)⊕(Unit)
def E8:LF->Out (Exit×AS):=λx=> .br x.isLeft (.get x.getLeft? λa=> .ok (kJ a)) (.get x.getRight? λb=> .ok (yw b))
def kI:y7->YI->LF:=λ(sum,t66,t67,t68) y=>match y with | .inl y=> .inl y | .inr z=> .inr (z)
def yr:y6->Prop:=λ(t,l,n,i,m)=>l.length<=9223372036854775807/\n=l.length/\∃k:Nat,k<=l.length/\i=k
def oo:y6->YG:=λ(t,l,n,i,m)=>if FE m (l.drop i.toNat) then .inr () else .inl ()
def yu:y7->Prop:=λ(s,l,n,i)=>(∀o∈l,aQb o.2.1)/\l.length<=9223372036854775807/\n=l.length/\∃k:Nat,k<=l.length/\i=k
def oq:y7->YI:=λ(s,l,n,i)=>if zh s (l.drop i.toNat) then .inr () else .inl ()
def awo:dR->Prop:=λt=>aSx t
def sX:dR->Bool:=λt=>iR t
def YF:=dI.fI oP yr kH oo E7
def LB:y6->Option LA:=gO YF oP
def YH:=dI.fI oQ yu kI oq E8
def CK:y7->Option LF:=gO YH oQ
def jt:Fs Tryz.prog awo bC sX:=fw 67 Tryz.f67 (λt=>([.d fa t],[])) (λx=>⟨.d .bool x,[],[]⟩) [av fa] [ayB,aNZ,FH] {loops:=oJ [(5,{ba:=[1,3,33,34,35],sites:=[31]}),(13,{ba:=[6,66,67,68]})],outs:=oI [(5,{ba:=[1]},{ba:=[2]}),(13,{},{ba:=[2]})],gf:=nQ [(5,YF),(13,YH)]}
def Lz:= @eG Tryz.prog (jQ jt.G) jt.an 0 Tryz.f67 0 _ oP
abbrev TY:=j7 Tryz.prog (jQ jt.G) jt.an 0 Tryz.f67 0 oP yr kH oo E7
def LD:= @eG Tryz.prog (jQ jt.G) jt.an 0 Tryz.f67 1 _ oQ
abbrev TZ:=j7 Tryz.prog (jQ jt.G) jt.an 0 Tryz.f67 1 oQ yu kI oq E8
theorem agS:jh LB yr kH oo:=lH (jx [.d fa,.d (.slice gT),.d ti,.d ti,.d (.slice (.pair bh .bool))] λ_=>cr)
theorem QH:mK @Lz oP yr kH oo E7 TY:=nc
theorem LC(pK t33 t34 t35 n31)(kn:K2 R)(kx:K3 R):Lz (pK,t33,t34,t35,n31) kn kx=aL (gz t35 t34) (aL (eL t35 (((ag t33):Nat):Int)) (aL ((bW bh (nth gT t33 (ae t35)).1 n31).getD aQ) (kx (gU ()).1 (gU ()).2) (aL (gz (nth gT t33 (ae t35)).1.2.1 (0:Int)) (kx (gU ()).1 (gU ()).2) (aL (Dv (nth gT t33 (ae t35)).1.2.1 (64:Int)) (kx (gU ()).1 (gU ()).2) (al (agX.call (nth gT t33 (ae t35)).2.1) λx8=>aL (!x8) (kx (gU ()).1 (gU ()).2) (kn (oP (pK,t33,t34,(bO .i64 t35 (1:Int)),(fj bh (nth gT t33 (ae t35)).1 aZ n31)))))))) aD) (kx (yt pK).1 (yt pK).2):=cr
theorem agT:jh CK yu kI oq:=lH (jx [.d ti,.d (.slice gV),.d ti,.d ti] λ_=>cr)
theorem QI:mK @LD oQ yu kI oq E8 TZ:=nc
theorem LG(sum t66 t67 t68)(kn:K2 R)(kx:K3 R):LD (sum,t66,t67,t68) kn kx=aL (gz t68 t67) (aL (eL t68 (((ag t66):Nat):Int)) (al (af8.call (sum,(nth gV t66 (ae t68)).1)) λasd=>aL (!asd.2) (kx (kJ ()).1 (kJ ()).2) (al (qs.call (nth gV t66 (ae t68)).2.1) λaPj=>aL (!aPj) (kx (kJ ()).1 (kJ ()).2) (kn (oQ (asd.1,t66,t67,(bO .i64 t68 (1:Int))))))) aD) (kx (yw ()).1 (yw ()).2):=cr
theorem aDq(t)(k:K1 R):jt.A t k=aL (gz (t.1.length:Int) 1) (k (jt.out aQ)) (aL (pJ (t.1.length:Int) 64) (k (jt.out aQ)) (aL (pJ (t.2.1.length:Int) 64) (k (jt.out aQ)) (aL (gz t.2.2.1 0) (k (jt.out aQ)) (al (LB (t,t.1,(t.1.length:Int),0,([]:List (bJ×Bool)))) λaPj=>aL aPj.isLeft (al aPj.getLeft? λa13=>k (jt.out aQ)) (al aPj.getRight? λb14=>al (CK (0,b14.2.1,(b14.2.1.length:Int),0)) λajn=>aL ajn.isLeft (al ajn.getLeft? λa31=>k (jt.out aQ)) (al ajn.getRight? λb32=>k (jt.out aZ))))))):=cr
theorem amG:TY:=by
 refine QH (λ(t,l,n,i,m)=>l.length - i.toNat) ?_
 rintro⟨t,l,n,i,m⟩ ⟨hb,rfl,k,hk,rfl⟩;have hb:l.length<=9223372036854775807:=hb;have hk:k<=l.length:=hk;by_cases h:k < l.length
 ·have n1:nth gT l k=l[k]:=cg (t:=gT) h;have hd:FE m (l.drop k)=((!(R3 m l[k]) && JU l[k]) && FE (fj bh l[k].1 aZ m) (l.drop (k+1))):=by rw[aq h];rfl
  have step:∀ {R:Type} (kn:AS->Option R) (kx:Exit->AS->Option R),Lz (t,l,(l.length:Int),(k:Int),m) kn kx=aL (!(R3 m l[k]) && JU l[k]) (kn (oP (t,l,(l.length:Int),((k+1:Nat):Int),fj bh l[k].1 aZ m))) (kx (gU ()).1 (gU ()).2):=by
   intro R kn kx;rw[LC,aX ak,bj ak ak,aa,n1,N.mZ ak,arZ (d:=l[k].2.1) trivial];simp only[aj,ah,bC,amL];have e:(bW bh l[k].1 m).getD aQ=R3 m l[k]:=rfl;rw[e];cases R3 m l[k]
   ·simp only[fH,bF,ao,JU];by_cases h1:l[k].1.2.1 < 0
    ·rw[aX h1,aj,aV (λx=>ak)];rfl
    ·rw[aU h1,ao];by_cases h2:64<=l[k].1.2.1
     ·rw[hZ h2,aj,aV (λx=>ak)];rfl
     ·rw[ff h2,ao,aM ⟨ak,ak⟩];cases CP l[k].2.1 <;> rfl
   ·rfl
  cases hp:(!(R3 m l[k]) && JU l[k])
  ·right;refine⟨gU (),?_,λkn kx=> ?_⟩
   ·simp only[kH,oo,aa,hd,hp,cY,bw,bA];rfl
   ·rw[step,hp,ao]
  ·left;refine⟨(t,l,l.length,((k+1:Nat):Int),fj bh l[k].1 aZ m),⟨hb,rfl,k+1,ak,rfl⟩,by simp only[aa];omega,?_,λkn kx=> ?_⟩
   ·simp only[kH,oo,aa,hd,hp,bF]
   ·rw[step,hp,aj]
 ·right;obtain rfl:k=l.length:=ak;refine⟨yt t,?_,λkn kx=> ?_⟩
  ·simp only[kH,oo,aa,aN];rfl
  ·rw[LC];simp(disch:=omega) only[↓S1,↓if_pos,↓if_neg,if_pos,if_neg,bM,bA,S2]
theorem amH:TZ:=by
 refine QI (λ(s,l,n,i)=>l.length - i.toNat) ?_
 rintro⟨s,l,n,i⟩ ⟨hl,hb,rfl,k,hk,rfl⟩;have hb:l.length<=9223372036854775807:=hb;have hk:k<=l.length:=hk;by_cases h:k < l.length
 ·have hx:aQb l[k].2.1:=hl _ (aO h);have n1:nth gV l k=l[k]:=cg (t:=gV) h;have hd:zh s (l.drop k)=((M6 s l[k].1 && lK l[k].2.1) && zh (s+l[k].1) (l.drop (k+1))):=by rw[aq h];rfl
  have step:∀ {R:Type} (kn:AS->Option R) (kx:Exit->AS->Option R),LD (s,l,(l.length:Int),(k:Int)) kn kx=aL (M6 s l[k].1 && lK l[k].2.1) (kn (oQ (s+l[k].1,l,(l.length:Int),((k+1:Nat):Int)))) (kx (kJ ()).1 (kJ ()).2):=by
   intro R kn kx;rw[LG,aX ak,bj ak ak,aa,n1,N.mZ ak,aIr (d:=(s,l[k].1)) trivial,Ch (d:=l[k].2.1) hx];simp only[aj,ah,bC,auE,bC,FG];cases M6 s l[k].1
   ·rfl
   ·cases lK l[k].2.1 <;> rfl
  cases hp:(M6 s l[k].1 && lK l[k].2.1)
  ·right;refine⟨kJ (),?_,λkn kx=> ?_⟩
   ·simp only[kI,oq,aa,hd,hp,cY,bw,bA];rfl
   ·rw[step,hp,ao]
  ·left;refine⟨(s+l[k].1,l,l.length,((k+1:Nat):Int)),⟨hl,hb,rfl,k+1,ak,rfl⟩,by simp only[aa];omega,?_,λkn kx=> ?_⟩
   ·simp only[kI,oq,aa,hd,hp,bF]
   ·rw[step,hp,aj]
 ·right;obtain rfl:k=l.length:=ak;refine⟨yw (),?_,λkn kx=> ?_⟩
  ·simp only[kI,oq,aa,aN];rfl
  ·rw[LG];simp(disch:=omega) only[↓S1,↓if_pos,↓if_neg,if_pos,if_neg,bM,bA,S2]
theorem aDr:jt.Ok:=by
 rintro⟨is,os,nt,u⟩ ⟨hl,h1,h2⟩;have h1:is.length<=9223372036854775807:=h1;have h2:os.length<=9223372036854775807:=h2;rw[aDq,agS (d:=((is,os,nt,u),is,is.length,0,[])) ⟨h1,rfl,0,ak,rfl⟩];simp only[ah,kH,oo,bg,aG,bC,sX,iR,afd];by_cases a1:is.length < 1
 ·rw[aX ak,aj,aV (λx=>ak)];rfl
 rw[aU ak,ao];by_cases a2:64 < is.length
 ·rw[dd ak,aj,aV (λx=>ak)];rfl
 rw[cH ak,ao];by_cases a3:64 < os.length
 ·rw[dd ak,aj,aV (λx=>ak)];rfl
 rw[cH ak,ao];by_cases a4:nt < 0
 ·rw[aX ak,aj,aV (λx=>ak)];rfl
 rw[aU ak,ao,aM ⟨ak,ak,ak,ak⟩];cases FE [] is
 ·rfl
 ·simp only[bM,bF];show al (CK (0,os,(os.length:Int),0)) _=_;rw[agT (d:=(0,os,os.length,0)) ⟨hl,h2,rfl,0,ak,rfl⟩];simp only[ah,kI,oq,bg,aG];cases zh 0 os <;> rfl
theorem qP:jt.RS:=rE [.d fa] jt
def uV:=jt.fC aDr 2 ⟨.fI amG,⟨.fI amH,trivial⟩⟩
def auR:Bs->Prop:=λl=>l.length<=1000000
def SZ:Bs->Bs:=λl=>l
def Cp:Fs Tryz.prog auR bC SZ:=fw 129 Tryz.f129 (λsv=>([.d tU sv],[])) (λx=>⟨.d tU x,[],[]⟩) [av tU] [] {bT:=[5],res:=[av tU]}
theorem aBO(sv)(k:K1 R):Cp.A sv k=aL (decide (0 < (ag sv))) (aL (dw (0+(ag sv)) 8) (aL (decide (0=0/\(0+(0+(ag sv)))<=(ag ((aW 0 (ab 0 0))++sv)))) (k (Cp.out (cut ((aW 0 (ab 0 0))++sv) 0 (0+(ag sv))))) aD) aD) (nd (k (Cp.out ([]:List Int))) (aL (dw (0+(ag sv)) 8) (aL (decide (0=0/\(0+(0+(ag sv)))<=(ag ((aW 0 (ab 0 0))++sv)))) (k (Cp.out (cut ((aW 0 (ab 0 0))++sv) 0 (0+(ag sv))))) aD) aD)):=cr
theorem aBP:Cp.Ok:=by
 intro l hl;have hl:l.length<=1000000:=hl;have hr:dw l.length 8=aZ:=dC ak ak;have e0:(aW 0 (ab 0 0):List Int)=[]:=rfl;rw[aBO];simp only[aR,hr,aj,e0,aY,ay,jO,cO,fB,bC,SZ];by_cases h:0 < l.length
 ·simp only[aM h,aj]
 ·have:l=[]:=bK ak;subst this;simp only[bl,AQ,aV (iV 0),ao]
theorem Qf:Cp.RS:=rE [.d tU] Cp
def VL:=Cp.fC aBP
def aQg(l:List Int):Lk:=([(l,0,0,0,())],())
def aHO:Bs->Prop:=λl=>l.length<=1000000
def aRy:Bs->Lk:=λl=>aQg l
def auj:Fs Tryz.prog aHO bC aRy:=fw 83 Tryz.f83 (λl=>([.d tU l],[])) (λx=>⟨.d QQ x,[],[]⟩) [av tU] [VL]
theorem aNA(l)(k:K1 R):auj.A l k=al (Cp.call l) λx1=>k (auj.out ([(x1,(0,(0,(0,()))))],())):=cr
theorem aNB:auj.Ok:=by intro l hl;rw[aNA,Qf (d:=l) hl];rfl
theorem aHP:auj.RS:=rE [.d tU] auj
def aNC:=auj.fC aNB
def aHY:Int->Prop:=λ_=>True
def aRA:Int->Lk:=λp=>aQg [p]
def apB:Fs Tryz.prog aHY bC aRA:=fw 37 Tryz.f37 (λp=>([.d tu p],[])) (λx=>⟨.d QQ x,[],[]⟩) [av tu] [aNC]
theorem aNI(p)(k:K1 R):apB.A p k=al (auj.call [p]) λx1=>k (apB.out x1):=cr
theorem aNJ:apB.Ok:=by intro p _;rw[aNI,aHP (d:=[p]) (by show [p].length<=_;simp)];rfl
theorem aHZ:apB.RS:=rE [.d tu] apB
def aNK:=apB.fC aNJ
def nD(o:List Int)(ks:List Int):List Int:=ks.foldl (λo p=>o++jV p) o
def aD7(o:List Int)(b:pM):List Int:=cU (cU (nD (cU o b.1.length) b.1) b.2.1) b.2.2.1++jV b.2.2.2.1
def PU(l:Lk):List Int:=if lK l then l.1.foldl aD7 (cU [] l.1.length) else []
theorem Mp:∀(ks:List Int) (o:List Int),(nD o ks).length=o.length+8*ks.length
 |[],o=>rfl
 |k::ks,o=>by show(nD (o++jV k) ks).length=_;rw[Mp ks,ai,cJ,aB];omega
theorem ajK(o:List Int)(b:pM)(h:b.1.length<=12):(aD7 o b).length<=o.length+200:=by unfold aD7;have h1:=dN o b.1.length;have h2:=Mp b.1 (cU o b.1.length);have h3:=dN (nD (cU o b.1.length) b.1) b.2.1;have h4:=dN (cU (nD (cU o b.1.length) b.1) b.2.1) b.2.2.1;rw[ai,cJ];omega
def aLG(n:Int):Prop:=n<=9223372036854775807
def aS7(b:pM):Prop:=b.1.length<=12/\aLG b.2.1/\aLG b.2.2.1
theorem aQv{b:pM}(h:wH b=aZ):aS7 b:=by unfold wH PM at h;simp only[au,bf]at h;obtain⟨h1,_,h2,h3,_⟩:=h;exact⟨h1,by unfold aLG;omega,by unfold aLG;omega⟩
theorem ab5(o:List Int)(ks:List Int)(k:Nat)(h:k < ks.length):nD o (ks.drop k)=nD (o++jV ks[k]) (ks.drop (k+1)):=by rw[aq h];rfl
abbrev XE:=Bs×(List pM)×Int×Int
abbrev J0:=Bs×(List pM)×Int×Int×Bs×Int×Int×pM
def xN:J0->Bs->(((List pM)×Int×Int×pM)×(Bs)):=λ(xf,CF,aeF,aeG,t28,t29,t30,n5) y=>((CF,aeF,aeG,n5),y)
def afY:J0->Prop:=λ(o,bs,n,i,ks,m,j,b)=>ks.length<=12/\o.length+8*ks.length<=80000000+8*j.toNat/\m=ks.length/\∃k:Nat,k<=ks.length/\j=k
def Dz:J0->Bs:=λ(o,bs,n,i,ks,m,j,b)=>nD o (ks.drop j.toNat)
def afW:XE->Prop:=λ(o,bs,n,i)=>(∀b∈bs,aS7 b)/\bs.length<=4/\o.length<=1000+200*i.toNat/\n=bs.length/\∃k:Nat,k<=bs.length/\i=k
def JY:XE->Bs:=λ(o,bs,n,i)=>(bs.drop i.toNat).foldl aD7 o
def auk:Lk->Prop:=λl=>afE l/\l.1.length<=9223372036854775807
def Sr:Lk->Bs:=λl=>PU l
def rA:Ls afW bC JY:=sH (λ(outv,t16,t17,t18)=>⟨([bH,bH,bH,.d tB outv]++aS 12 ([.d (.slice kS) t16,.d ti t17,.d ti t18]++aS 31 [])),[],(ab 50 [])⟩) (λx=>(.exit 0,⟨([bH,bH,bH,.d tB x]++aS 46 []),[],(ab 50 [])⟩))
def rB:Ls afY xN Dz:=sH (λ(xf,CF,aeF,aeG,t28,t29,t30,n5)=>⟨([bH,bH,bH,.d tB xf,bH,fx 5]++aS 10 ([.d (.slice kS) CF,.d ti aeF,.d ti aeG]++aS 9 ([.d tU t28,.d ti t29,.d ti t30]++aS 19 []))),[],(bS 5 ([ed (.d kS n5)]++bS 44 []))⟩) (λx=>(.exit 2,⟨([bH,bH,bH,.d tB x.2,bH,fx 5]++aS 10 ([.d (.slice kS) x.1.1,.d ti x.1.2.1,.d ti x.1.2.2.1]++aS 31 [])),[],(bS 5 ([ed (.d kS x.1.2.2.2)]++bS 44 []))⟩))
def ug:Fs Tryz.prog auk bC Sr:=fw 116 Tryz.f116 (λl=>([.d QQ l],[])) (λx=>⟨.d tB x,[],[]⟩) [av QQ] [FH,Zz,aon] {loops:=oJ [(5,{ba:=[3,16,17,18]}),(9,{ba:=[3,5,16,17,18,28,29,30],sites:=[5]})],outs:=oI [(5,{ba:=[3]},{ba:=[2]}),(9,{ba:=[3,5,16,17,18],sites:=[5]},{ba:=[2]})],gf:=nQ [(5,rA.E),(9,rB.E)],res:=[av tB]}
theorem afX:rA.RS:=rL [.d tB,.d (.slice kS),.d ti,.d ti] rA
theorem JZ(outv t16 t17 t18)(kn:K2 R)(kx:K3 R):ug.R 0 rA (outv,t16,t17,t18) kn kx=aL (gz t18 t17) (aL (eL t18 (t16.length:Int)) (al (BR.call (outv,(((ag (nth kS t16 (ae t18)).1):Nat):Int))) λx1=>al (rB.call (x1,t16,t17,t18,(nth kS t16 (ae t18)).1,(((ag (nth kS t16 (ae t18)).1):Nat):Int),0,(nth kS t16 (ae t18)))) λx2=>al (BR.call (x2.2,x2.1.2.2.2.2.1)) λx3=>al (BR.call (x3,x2.1.2.2.2.2.2.1)) λx4=>al (JE.call (x4,x2.1.2.2.2.2.2.2.1)) λx5=>kn (rA.st (x5,x2.1.1,x2.1.2.1,(bO .i64 x2.1.2.2.1 1)))) aD) (rA.go kx outv):=cr
theorem afZ:rB.RS:=rL [.d tB,.d (.slice kS),.d ti,.d ti,.d tU,.d ti,.d ti,.d kS] rB
theorem J1(xf CF aeF aeG t28 t29 t30 n5)(kn:K2 R)(kx:K3 R):ug.R 1 rB (xf,CF,aeF,aeG,t28,t29,t30,n5) kn kx=aL (gz t30 t29) (aL (eL t30 (t28.length:Int)) (al (JE.call (xf,(nth tu t28 (ae t30)))) λx1=>kn (rB.st (x1,CF,aeF,aeG,t28,t29,(bO .i64 t30 1),n5))) aD) (rB.go kx ((CF,aeF,aeG,n5),xf)):=cr
theorem aA3(l)(k:K1 R):ug.A l k=al (qs.call l) λx1=>aL (!x1) (k (ug.out ([]:List Int))) (al (BR.call (([]:List Int),(l.1.length:Int))) λx2=>al (rA.call (x2,l.1,(l.1.length:Int),0)) λx9=>k (ug.out x9)):=cr
theorem alc:(ug.lF 1 rB):=by
 refine(ug.mY 1 rB) (λ(o,bs,n,i,ks,m,j,b)=>ks.length - j.toNat) ?_
 rintro⟨o,bs,n,i,ks,m,j,b⟩ ⟨aRd,hl,rfl,k,hk,rfl⟩;have aRd:ks.length<=12:=aRd;have hk:k<=ks.length:=hk;have hl:o.length+8*ks.length<=80000000+8*(k:Int).toNat:=hl;rw[aa]at hl;by_cases h:k < ks.length
 ·left;have n1:nth (.int .u64) ks k=ks[k]:=cg (t:= .int .u64) h;refine⟨(o++jV ks[k],bs,n,i,ks,ks.length,((k+1:Nat):Int),b),⟨aRd,by rw[ai,cJ,aa];omega,rfl,k+1,ak,rfl⟩,by simp only[aa];omega,?_,λkn kx=> ?_⟩
  ·simp only[xN,Dz,aa];rw[ab5 _ _ _ h]
  ·rw[J1];simp(disch:=omega) only[↓S1,↓if_pos,↓if_neg,if_pos,if_neg,bM,bA,S2,n1];rw[Fv (d:=(o,ks[k])) (by show o.length<=90000000;omega)];rfl
 ·right;obtain rfl:k=ks.length:=ak;intro R kn kx;rw[J1];simp(disch:=omega) only[↓S1,↓if_pos,↓if_neg,if_pos,if_neg,bM,bA,S2,xN,Dz,aN];rfl
theorem alb:(ug.lF 0 rA):=by
 refine(ug.mY 0 rA) (λ(o,bs,n,i)=>bs.length - i.toNat) ?_
 rintro⟨o,bs,n,i⟩ ⟨hb,h4,hl,rfl,k,hk,rfl⟩;have h4:bs.length<=4:=h4;have hk:k<=bs.length:=hk;have hl:o.length<=1000+200*(k:Int).toNat:=hl;rw[aa]at hl;by_cases h:k < bs.length
 ·left;have hx:=hb _ (aO h);have n1:nth (.pair (.slice (.int .u64)) (.pair (.int .i64) (.pair (.int .i64) (.pair (.int .u64) .unit)))) bs k=bs[k]:=cg (t:=(.pair (.slice (.int .u64)) (.pair (.int .i64) (.pair (.int .i64) (.pair (.int .u64) .unit))))) h;have e0:=ajK o bs[k] hx.1;refine⟨(aD7 o bs[k],bs,bs.length,((k+1:Nat):Int)),⟨hb,h4,by rw[aa];omega,rfl,k+1,ak,rfl⟩,by simp only[aa];omega,?_,λkn kx=> ?_⟩
  ·simp only[bC,JY,aa];rw[aq h];rfl
  ·rw[JZ,aX ak,bj ak ak,aa,n1];obtain⟨⟨ks,af,dl,sc,u⟩,aQ0⟩:∃b,bs[k]=b:=⟨_,rfl⟩;rw[aQ0]at hx e0 ⊢;obtain⟨ah1,ha,hd⟩:=hx;have ah1:ks.length<=12:=ah1;have ha:af<=9223372036854775807:=ha;have hd:dl<=9223372036854775807:=hd;have l1:=dN o ks.length;have l2:=Mp ks (cU o ks.length);have l3:=dN (nD (cU o ks.length) ks) af;have l4:=dN (cU (nD (cU o ks.length) ks) af) dl;simp only[aj];rw[j8 (d:=(o,(ks.length:Int))) ⟨by show o.length<=90000000;omega,by show(ks.length:Int)<=9223372036854775807;omega⟩];simp only[ah,bC,p9];rw[afZ (d:=(cU o ks.length,bs,bs.length,k,ks,ks.length,0,(ks,af,dl,sc,u))) ⟨ah1,by show(cU o ks.length).length+8*ks.length<=_;omega,rfl,0,ak,rfl⟩];simp only[ah,xN,Dz,bg,aG];rw[j8 (d:=(nD (cU o ks.length) ks,af)) ⟨by show(nD (cU o ks.length) ks).length<=90000000;omega,ha⟩];simp only[ah,bC,p9];rw[j8 (d:=(cU (nD (cU o ks.length) ks) af,dl)) ⟨by show(cU (nD (cU o ks.length) ks) af).length<=90000000;omega,hd⟩];simp only[ah,bC,p9];rw[Fv (d:=(cU (cU (nD (cU o ks.length) ks) af) dl,sc)) (by show(cU (cU (nD (cU o ks.length) ks) af) dl).length<=90000000;omega)];simp only[ah,bC,Rx];rw[N.mZ ak];rfl
 ·right;obtain rfl:k=bs.length:=ak;intro R kn kx;rw[JZ];simp(disch:=omega) only[↓S1,↓if_pos,↓if_neg,if_pos,if_neg,bM,bA,S2,bC,JY,aN];rfl
theorem auq{l:Lk}(h:lK l=aZ):(∀b∈l.1,aS7 b)/\0 < l.1.length/\l.1.length<=4:=by unfold lK at h;simp only[au,dp,bf]at h;exact⟨λb hb=>aQv (h.1 b hb),h.2⟩
theorem aA4:ug.Ok:=by
 rintro l ⟨hl,hb⟩;have hl:afE l:=hl;rw[aA3,Ch (d:=l) ⟨hl,hb⟩];simp only[ah,bC,FG,bC,Sr,PU];cases jR:lK l
 ·rfl
 ·obtain⟨h1,h2,h3⟩:=auq jR;have l1:=dN [] l.1.length;have l0:([]:List Int).length=0:=rfl;simp only[cQ,ao,bM];rw[j8 (d:=([],(l.1.length:Int))) ⟨by show([]:List Int).length<=90000000;omega,by show(l.1.length:Int)<=9223372036854775807;omega⟩];simp only[ah,bC,p9];rw[afX (d:=(cU [] l.1.length,l.1,l.1.length,0)) ⟨h1,h3,by show(cU [] l.1.length).length<=_;omega,rfl,0,ak,rfl⟩];rfl
theorem Mq(l:Lk):(PU l).length<=1000:=by
 unfold PU;split
 ·rename_i h;obtain⟨h1,h2,h3⟩:=auq h;have key:∀(bs:List pM) (o:List Int),(∀b∈bs,aS7 b)->(bs.foldl aD7 o).length<=o.length+200*bs.length:=by
   intro bs
   induction bs with
   |nil=>intro o _;exact ay _
   |cons b bs ih=>
    intro o hb;have e1:=ih (aD7 o b) λx hx=>hb x (aF _ hx)
    have e2:=ajK o b (hb b aK).1;rw[bz,aB];omega
  have e:=key l.1 (cU [] l.1.length) h1;have e2:=dN [] l.1.length;have l0:([]:List Int).length=0:=rfl;omega
 ·exact aP _
theorem acd:ug.RS:=rE [.d QQ] ug
def aia:=ug.fC aA4 2 ⟨.fI alb,⟨.fI alc,trivial⟩⟩
def az3:(Bs×Bs)->Prop:=λ(b,h)=>b.length+h.length<=100000000/\h.length=32
def Rw:(Bs×Bs)->Bs:=λ(b,h)=>b++h
def Nn:Fs Tryz.prog az3 bC Rw:=fw 114 Tryz.f114 (λ(b,h)=>([.d tB b,.d tH h],[])) (λx=>⟨.d tB x,[],[]⟩) [av tB,av tH] [aaV]
theorem aGa(b h)(k:K1 R):Nn.A (b,h) k=al (Jz.call (b,(cut h 0 32))) λx1=>k (Nn.out x1):=cr
theorem aGb:Nn.Ok:=by rintro⟨b,h⟩ ⟨h1,h2⟩;have h1:b.length+h.length<=100000000:=h1;have h2:h.length=32:=h2;rw[aGa,fB h2,LZ (d:=(b,h)) h1];rfl
theorem L1:Nn.RS:=rE [.d tB,.d tB] Nn
def aom:=Nn.fC aGb
def az1:(Bs×Bs)->Prop:=λ(b,c)=>b.length+c.length<=90000000
def aka:(Bs×Bs)->Bs:=λ(b,c)=>b++(gZ c.length++c)
def aa6:Fs Tryz.prog az1 bC aka:=fw 115 Tryz.f115 (λ(b,c)=>([.d tB b,.d tB c],[])) (λx=>⟨.d tB x,[],[]⟩) [av tB,av tB] [axm,aaw] {res:=[av tB]}
theorem aF7(b c)(k:K1 R):aa6.A (b,c) k=al (aa7.call (c.length:Int)) λx1=>al (pF.call [b,x1,c]) λx2=>k (aa6.out x2):=cr
theorem aF8:aa6.Ok:=by rintro⟨b,c⟩ h;have h:b.length+c.length<=90000000:=h;have hl:=lv c.length;rw[aF7,aoq (d:=(c.length:Int)) ⟨ak,ak⟩];simp only[ah,bC,atz];rw[WQ (d:=[b,gZ c.length,c]) ⟨by show [b,gZ c.length,c].length<=_;simp,by show vJ [b,gZ c.length,c]<=_;simp only[vJ,jX,qZ,bm,ai];omega⟩];simp only[ah,bC,UH,bC,aka,jX,qZ,bm]
theorem az2:aa6.RS:=rE [.d tB,.d tB] aa6
def aF9:=aa6.fC aF8
def Mm(b:List Int)(x:iF):List Int:=cU (b++x.1.1) x.1.2.1
def MU(b:List Int)(o:iu):List Int:=cU b o.1++(gZ (PU o.2.1).length++PU o.2.1)
def vT(t:dR):List Int:=cU (t.2.1.foldl MU (cU (t.1.foldl Mm (cU [] t.1.length)) t.2.1.length)) t.2.2.1
def aeo(b:List Int)(s:Sg):List Int:=b++jV s.1++jV s.2.1
def awG(b:List Int)(x:iF):List Int:=x.2.1.2.1.foldl aeo (cU (cU b x.2.1.1) x.2.1.2.1.length)++jV x.2.1.2.2.1
def awA(t:dR):List Int:=if iR t then t.1.foldl awG (vT t) else []
def iD(t:dR):List Int:=if iR t then tag (bN (⟨#[116,120]⟩:ByteArray)) [vT t] else ab 32 0
def aXu(x:iF):Prop:=Sm x.1.1/\Z9 x.2.1/\x.2.1.2.1.length<=9223372036854775807
def ng(t:dR):Prop:=aSx t/\(∀x∈t.1,aXu x)/\t.2.2.1<=9223372036854775807
theorem nB:∀(l:List iF) (m:List (bJ×Bool)),FE m l=aZ->∀x∈l,JU x=aZ
 |[],_,_,x,hx=>by cases hx
 |y::l,m,h,x,hx=>by
  rw[FE,au,au]at h;rcases cv.1 hx with rfl | hx
  ·exact h.1.2
  ·exact nB l _ h.2 x hx
theorem lg:∀(l:List iu) (s:Int),zh s l=aZ->∀o∈l,(0<=o.1/\o.1<=1125899906842624)/\lK o.2.1=aZ
 |[],_,_,o,ho=>by cases ho
 |y::l,s,h,o,ho=>by
  rw[zh,au,au]at h;rcases cv.1 ho with rfl | ho
  ·have h1:=h.1.1;unfold M6 tV at h1;simp only[au,bf]at h1;exact⟨h1.2.1,h.1.2⟩
  ·exact lg l _ h.2 o ho
theorem Ca{x:iF}(h:JU x=aZ):0<=x.1.2.1/\x.1.2.1 < 64/\0<=x.2.1.1/\x.2.1.1 < 4/\x.2.1.2.1.length<=12:=by unfold JU CP at h;simp only[au,bf]at h;exact⟨h.1.1,h.1.2,h.2.1.1,h.2.1.2,h.2.2⟩
theorem kk{t:dR}(h:iR t=aZ):(1<=t.1.length/\t.1.length<=64/\t.2.1.length<=64/\0<=t.2.2.1)/\FE [] t.1=aZ/\zh 0 t.2.1=aZ:=by unfold iR afd at h;simp only[au,bf]at h;exact h
theorem ak0(b:List Int)(x:iF):(Mm b x).length<=b.length+x.1.1.length+11:=by have:=dN (b++x.1.1) x.1.2.1;rw[ai]at this;exact this
theorem ac9(b:List Int)(o:iu):(MU b o).length<=b.length+1022:=by have h1:=dN b o.1;have h2:=lv (PU o.2.1).length;have h3:=Mq o.2.1;unfold MU;rw[ai,ai];omega
theorem ars(b:List Int)(s:Sg):(aeo b s).length=b.length+16:=by unfold aeo;rw[ai,ai,cJ,cJ]
abbrev Lv:=dR×Bs×(List iF)×Int×Int
def yp:Lv->Bs->((dR)×(Bs)):=λ(pK,b,t13,t14,t15) y=>(pK,y)
abbrev Lx:=dR×Bs×(List iu)×Int×Int
def yq:Lx->Bs->((dR)×(Bs)):=λ(wM,iK,t35,t36,t37) y=>(wM,y)
def agO:Lv->Prop:=λ(t,b,l,n,i)=>(l).length<=1000000000/\∃k:Nat,k<=(l).length/\i=k/\n=(l).length/\(l.length<=64)/\(∀x∈l,x.1.1.length=32/\x.1.2.1<=9223372036854775807)/\(b.length<=100+50*k)
def Ed:Lv->Bs:=λ(t,b,l,n,i)=>(bZ (ae i) l).foldl Mm b
def agQ:Lx->Prop:=λ(t,b,l,n,i)=>(l).length<=1000000000/\∃k:Nat,k<=(l).length/\i=k/\n=(l).length/\(l.length<=64)/\(∀o∈l,o.1<=9223372036854775807/\aQb o.2.1)/\(b.length<=4000+1100*k)
def Ee:Lx->Bs:=λ(t,b,l,n,i)=>(bZ (ae i) l).foldl MU b
def awn:dR->Prop:=λt=>iR t=aZ/\ng t
def aeV:dR->Bs:=λt=>vT t
def rW:Ls agO yp Ed:=sH (λ(pK,b,t13,t14,t15)=>⟨([bH,.dV fa pK,bH,.d tB b]++aS 9 ([.d (.slice gT) t13,.d ti t14,.d ti t15]++aS 38 [])),[],(ab 54 [])⟩) (λx=>(.exit 0,⟨([bH,.dV fa x.1,bH,.d tB x.2]++aS 50 []),[],(ab 54 [])⟩))
def rX:Ls agQ yq Ee:=sH (λ(wM,iK,t35,t36,t37)=>⟨([bH,.dV fa wM,bH,.d tB iK]++aS 31 ([.d (.slice gV) t35,.d ti t36,.d ti t37]++aS 16 [])),[],(ab 54 [])⟩) (λx=>(.exit 2,⟨([bH,.dV fa x.1,bH,.d tB x.2]++aS 50 []),[],(ab 54 [])⟩))
def v8:Fs Tryz.prog awn bC aeV:=fw 69 Tryz.f69 (λt=>([.d fa t],[])) (λx=>⟨.d tB x,[],[]⟩) [av fa] [Zz,aom,aia,aF9] {loops:=oJ [(3,{ba:=[1,3,13,14,15]}),(9,{ba:=[1,3,35,36,37]})],outs:=oI [(3,{ba:=[1,3]},{ba:=[2]}),(9,{ba:=[1,3]},{ba:=[2]})],gf:=nQ [(3,rW.E),(9,rX.E)],res:=[av tB]}
theorem agP:rW.RS:=rL [.d fa,.d tB,.d (.slice gT),.d ti,.d ti] rW
theorem Lw(pK b t13 t14 t15)(kn:K2 R)(kx:K3 R):v8.R 0 rW (pK,b,t13,t14,t15) kn kx=aL (gz t15 t14) (aL (eL t15 (t13.length:Int)) (al (Nn.call (b,(nth gT t13 (ae t15)).1.1)) λx1=>al (BR.call (x1,(nth gT t13 (ae t15)).1.2.1)) λx2=>kn (rW.st (pK,x2,t13,t14,(bO .i64 t15 1)))) aD) (rW.go kx (pK,b)):=cr
theorem agR:rX.RS:=rL [.d fa,.d tB,.d (.slice gV),.d ti,.d ti] rX
theorem Ly(wM iK t35 t36 t37)(kn:K2 R)(kx:K3 R):v8.R 1 rX (wM,iK,t35,t36,t37) kn kx=aL (gz t37 t36) (aL (eL t37 (t35.length:Int)) (al (BR.call (iK,(nth gV t35 (ae t37)).1)) λx1=>al (ug.call (nth gV t35 (ae t37)).2.1) λx2=>al (aa6.call (x1,x2)) λx3=>kn (rX.st (wM,x3,t35,t36,(bO .i64 t37 1)))) aD) (rX.go kx (wM,iK)):=cr
theorem aDn(t)(k:K1 R):v8.A t k=al (BR.call (([]:List Int),(t.1.length:Int))) λx1=>al (rW.call (t,x1,t.1,(t.1.length:Int),0)) λx4=>al (BR.call (x4.2,(x4.1.2.1.length:Int))) λx5=>al (rX.call (x4.1,x5,x4.1.2.1,(x4.1.2.1.length:Int),0)) λx9=>al (BR.call (x9.2,x9.1.2.2.1)) λasd=>k (v8.out asd):=cr
theorem amx:(v8.lF 0 rW):=by
 refine(v8.mY 0 rW) (λ(t,b,l,n,i)=>(l).length - ae i) ?_
 rintro⟨t,b,l,n,i⟩ ⟨hlen,k,hk,rfl,rfl,G5,hx,hb⟩;have hlen:(l).length<=1000000000:=hlen;have hk:k<=(l).length:=hk;have G5:l.length<=64:=G5;have hx:∀x∈l,x.1.1.length=32/\x.1.2.1<=9223372036854775807:=hx;have hb:b.length<=100+50*k:=hb;by_cases h:k < (l).length
 ·left;have n1:nth gT l k=l[k]:=cg (t:=gT) h;have hd:bZ k l=l[k]::bZ (k+1) l:=aq h;refine⟨(t,(Mm b l[k]),l,((l).length:Int),((k+1:Nat):Int)),⟨hlen,k+1,ak,rfl,rfl,G5,hx,by have:=ak0 b l[k];have:=(hx _ (aO h)).1;omega⟩,by simp only[aa];omega,?_,λkn kx=> ?_⟩
  ·simp only[yp,Ed,aa,hd,bz]
  ·rw[Lw,aX ak,bj ak ak,aa,n1];simp only[aj];have e:=hx _ (aO h);have e2:(b++l[k].1.1).length=b.length+l[k].1.1.length:=ai;rw[L1 (d:=(b,l[k].1.1)) ⟨by show b.length+l[k].1.1.length<=_;omega,e.1⟩];simp only[ah,bC,Rw];rw[j8 (d:=(b++l[k].1.1,l[k].1.2.1)) ⟨by show(b++l[k].1.1).length<=_;omega,e.2⟩];simp only[ah,bC,p9];rw[N.mZ ak];rfl
 ·right;obtain rfl:k=(l).length:=ak;intro R kn kx;rw[Lw,aU ak,ao];simp only[yp,Ed,aa,aN,de]
theorem amy:(v8.lF 1 rX):=by
 refine(v8.mY 1 rX) (λ(t,b,l,n,i)=>(l).length - ae i) ?_
 rintro⟨t,b,l,n,i⟩ ⟨hlen,k,hk,rfl,rfl,G5,hx,hb⟩;have hlen:(l).length<=1000000000:=hlen;have hk:k<=(l).length:=hk;have G5:l.length<=64:=G5;have hx:∀o∈l,o.1<=9223372036854775807/\aQb o.2.1:=hx;have hb:b.length<=4000+1100*k:=hb;by_cases h:k < (l).length
 ·left;have n1:nth gV l k=l[k]:=cg (t:=gV) h;have hd:bZ k l=l[k]::bZ (k+1) l:=aq h;refine⟨(t,(MU b l[k]),l,((l).length:Int),((k+1:Nat):Int)),⟨hlen,k+1,ak,rfl,rfl,G5,hx,by have:=ac9 b l[k];omega⟩,by simp only[aa];omega,?_,λkn kx=> ?_⟩
  ·simp only[yq,Ee,aa,hd,bz]
  ·rw[Ly,aX ak,bj ak ak,aa,n1];simp only[aj];have e:=hx _ (aO h);have e1:=dN b l[k].1;have e2:=Mq l[k].2.1;rw[j8 (d:=(b,l[k].1)) ⟨by show b.length<=_;omega,e.1⟩];simp only[ah,bC,p9];rw[acd (d:=l[k].2.1) e.2];simp only[ah,bC,Sr];rw[az2 (d:=(cU b l[k].1,PU l[k].2.1)) (by show(cU b l[k].1).length+(PU l[k].2.1).length<=_;omega)];simp only[ah,bC,aka];rw[N.mZ ak];rfl
 ·right;obtain rfl:k=(l).length:=ak;intro R kn kx;rw[Ly,aU ak,ao];simp only[yq,Ee,aa,aN,de]
theorem ZM:∀(l:List iF) (b:List Int),(∀x∈l,x.1.1.length=32)->(l.foldl Mm b).length<=b.length+43*l.length
 |[],b,_=>ay _
 |x::l,b,h=>by
  have h1:=ak0 b x;have h2:=h x aK;have h3:=ZM l (Mm b x) λy hy=>h y (aF _ hy)
  rw[bz,aB];omega
theorem SS:∀(l:List iu) (b:List Int),(l.foldl MU b).length<=b.length+1022*l.length
 |[],b=>ay _
 |x::l,b=>by have h1:=ac9 b x;have h3:=SS l (MU b x);rw[bz,aB];omega
theorem Qi{t:dR}(jR:iR t=aZ)(hv:ng t):(vT t).length<=70000:=by
 obtain⟨⟨_,a2,a3,_⟩,_,_⟩:=kk jR;have h1:=ZM t.1 (cU [] t.1.length) λx hx=>(hv.2.1 x hx).1.1
 have h2:=dN [] t.1.length;have h3:=dN (t.1.foldl Mm (cU [] t.1.length)) t.2.1.length;have h4:=SS t.2.1 (cU (t.1.foldl Mm (cU [] t.1.length)) t.2.1.length);have h5:=dN (t.2.1.foldl MU (cU (t.1.foldl Mm (cU [] t.1.length)) t.2.1.length)) t.2.2.1;have h0:([]:List Int).length=0:=rfl;unfold vT;omega
theorem aDo:v8.Ok:=by
 rintro t ⟨jR,hv⟩;have hv:ng t:=hv;obtain⟨⟨_,a2,a3,_⟩,b1,b2⟩:=kk jR;have h0:([]:List Int).length=0:=rfl;have l0:=dN [] t.1.length;have l1:=ZM t.1 (cU [] t.1.length) λx hx=>(hv.2.1 x hx).1.1
 have l2:=dN (t.1.foldl Mm (cU [] t.1.length)) t.2.1.length;have l3:=SS t.2.1 (cU (t.1.foldl Mm (cU [] t.1.length)) t.2.1.length);rw[aDn,j8 (d:=([],(t.1.length:Int))) ⟨by show([]:List Int).length<=_;omega,by show(t.1.length:Int)<=_;omega⟩];simp only[ah,bC,p9];rw[agP (d:=(t,cU [] t.1.length,t.1,t.1.length,0)) ⟨by show t.1.length<=_;omega,0,aP _,rfl,rfl,a2,λx hx=>⟨(hv.2.1 x hx).1.1,by have:=Ca (nB _ _ b1 x hx);omega⟩,by show(cU [] t.1.length).length<=_;omega⟩];simp only[ah,yp,Ed,bg,aG];rw[j8 (d:=(t.1.foldl Mm (cU [] t.1.length),(t.2.1.length:Int))) ⟨by show(t.1.foldl Mm (cU [] t.1.length)).length<=_;omega,by show(t.2.1.length:Int)<=_;omega⟩];simp only[ah,bC,p9];rw[agR (d:=(t,cU (t.1.foldl Mm (cU [] t.1.length)) t.2.1.length,t.2.1,t.2.1.length,0)) ⟨by show t.2.1.length<=_;omega,0,aP _,rfl,rfl,a3,λo ho=>⟨by have:=(lg _ _ b2 o ho).1;omega,hv.1.1 o ho⟩,by show(cU (t.1.foldl Mm (cU [] t.1.length)) t.2.1.length).length<=_;omega⟩];simp only[ah,yq,Ee,bg,aG];rw[j8 (d:=(t.2.1.foldl MU (cU (t.1.foldl Mm (cU [] t.1.length)) t.2.1.length),t.2.2.1)) ⟨by show(t.2.1.foldl MU (cU (t.1.foldl Mm (cU [] t.1.length)) t.2.1.length)).length<=_;omega,hv.2.2⟩];rfl
theorem aeW:v8.RS:=rE [.d fa] v8
def ajc:=v8.fC aDo 2 ⟨.fI amx,⟨.fI amy,trivial⟩⟩
def ass(t:dR):Prop:=(t.1.length<=1000000000/\∀x∈t.1,x.2.1.2.1.length<=1000000000)/\t.2.1.length<=1000000000/\∀x∈t.2.1,x.2.1.1.length<=1000000000/\∀b∈x.2.1.1,b.1.length<=1000000000
def zy(n:Int)(x:iF):Int:=n+(10+8*x.2.1.2.1.length)+(if x.2.1.2.2.1=0 then 0 else 4)
def HZ(t:dR):Int:=if iR t then t.1.foldl zy (10+8*t.2.1.length) else 0
def eh(t:dR):List bJ:=if iR t then t.1.map (·.1) else []
def It(id:List Int)(k n:Nat):List bJ:=(List.range' k n).map λi:Nat=>(id,((i:Int),()))
def iN(t:dR):List bJ:=if iR t then It (iD t) 0 t.2.1.length else []
def aO4:dR->Prop:=λt=>ng t
def YA:dR->Bs:=λt=>iD t
def tid:Fs Tryz.prog aO4 bC YA:=fw 32 Tryz.f32 (λt=>([.d fa t],[])) (λx=>⟨.d tH x,[],[]⟩) [av fa] [uV,ajc,ZJ]
theorem aSg(t)(k:K1 R):tid.A t k=al (jt.call t) λx1=>aL (!x1) (k (tid.out (ab 32 0))) (al (v8.call t) λx2=>al (Vm.call ((⟨#[116,120]⟩:ByteArray),[x2])) λx3=>k (tid.out x3)):=cr
theorem aSh:tid.Ok:=by
 intro t hv;have hv:ng t:=hv;rw[aSg,qP (d:=t) hv.1];simp only[ah,bC,sX,bC,YA,iD];cases jR:iR t
 ·rfl
 ·have hl:=Qi jR hv;rw[aeW (d:=t) ⟨jR,hv⟩];simp only[cQ,ao,bM,ah,bC,aeV];rw[Sc (d:=((⟨#[116,120]⟩:ByteArray),[vT t])) (TO fg ak)];rfl
theorem HQ:tid.RS:=rE [.d fa] tid
def Wy:=tid.fC aSh
abbrev T3:=Int×(List iF)×Int×Int
def afa:T3->Prop:=λ(n,l,m,i)=>(l).length<=1000000000/\∃k:Nat,k<=(l).length/\i=k/\m=(l).length/\(l.length<=64)/\(∀x∈l,x.2.1.2.1.length<=12)/\(0<=n)/\(n<=1000+200*(k:Int))
def Bm:T3->Int:=λ(n,l,m,i)=>(bZ (ae i) l).foldl zy n
def arX:dR->Prop:=λt=>ng t
def WC:dR->Int:=λt=>HZ t
def mV:Ls afa bC Bm:=sH (λ(n,t15,t16,t17)=>⟨([bH,bH,bH,.d ti n]++aS 11 ([.d (.slice gT) t15,.d ti t16,.d ti t17]++aS 19 [])),[],(ab 37 [])⟩) (λx=>(.exit 0,⟨([bH,bH,bH,.d ti x]++aS 33 []),[],(ab 37 [])⟩))
def we:Fs Tryz.prog arX bC WC:=fw 242 Tryz.f242 (λt=>([.d fa t],[])) (λx=>⟨.d ti x,[],[]⟩) [av fa] [uV] {loops:=oJ [(5,{ba:=[3,15,16,17]})],outs:=oI [(5,{ba:=[3]},{ba:=[2]})],gf:=nQ [(5,mV.E)]}
theorem afb:mV.RS:=rL [.d ti,.d (.slice gT),.d ti,.d ti] mV
theorem IQ(n t15 t16 t17)(kn:K2 R)(kx:K3 R):we.R 0 mV (n,t15,t16,t17) kn kx=aL (gz t17 t16) (aL (eL t17 (t15.length:Int)) (aL (zg (nth gT t15 (ae t17)).2.1.2.2.1 0) (kn (mV.st ((bO .i64 (bO .i64 n (bO .i64 10 (ia .i64 8 (((ag (nth gT t15 (ae t17)).2.1.2.1):Nat):Int)))) 4),t15,t16,(bO .i64 t17 1)))) (kn (mV.st ((bO .i64 n (bO .i64 10 (ia .i64 8 (((ag (nth gT t15 (ae t17)).2.1.2.1):Nat):Int)))),t15,t16,(bO .i64 t17 1))))) aD) (mV.go kx n):=cr
theorem awx(t)(k:K1 R):we.A t k=al (jt.call t) λx1=>aL (!x1) (k (we.out 0)) (al (mV.call ((bO .i64 10 (ia .i64 8 (t.2.1.length:Int))),t.1,(t.1.length:Int),0)) λx2=>k (we.out x2)):=cr
theorem agV:(we.lF 0 mV):=by
 refine(we.mY 0 mV) (λ(n,l,m,i)=>(l).length - ae i) ?_
 rintro⟨n,l,m,i⟩ ⟨hlen,k,hk,rfl,rfl,G5,hx,h0,h1⟩;have hlen:(l).length<=1000000000:=hlen;have hk:k<=(l).length:=hk;have G5:l.length<=64:=G5;have hx:∀x∈l,x.2.1.2.1.length<=12:=hx;have h0:0<=n:=h0;have h1:n<=1000+200*(k:Int):=h1;by_cases h:k < (l).length
 ·left;have n1:nth gT l k=l[k]:=cg (t:=gT) h;have hd:bZ k l=l[k]::bZ (k+1) l:=aq h;refine⟨((zy n l[k]),l,((l).length:Int),((k+1:Nat):Int)),⟨hlen,k+1,ak,rfl,rfl,G5,hx,by unfold zy;split <;> omega,by have:=hx _ (aO h);unfold zy;split <;> omega⟩,by simp only[aa];omega,?_,λkn kx=> ?_⟩
  ·simp only[bC,Bm,aa,hd,bz]
  ·rw[IQ,aX ak,bj ak ak,aa,n1];simp only[aj];have e:=hx _ (aO h);rw[N.aUl ak];have e2:bO .i64 10 ((8*l[k].2.1.2.1.length:Nat):Int)=10+8*(l[k].2.1.2.1.length:Int):=by rw[gD ak ak];omega
   rw[e2,gD (x:=n) ak ak,N.mZ ak];unfold zy;by_cases hs:l[k].2.1.2.2.1=0
   ·rw[dP hs,ao,if_pos hs,Int.add_zero]
   ·rw[fD hs,aj,if_neg hs,gD ak ak]
 ·right;obtain rfl:k=(l).length:=ak;intro R kn kx;rw[IQ,aU ak,ao];simp only[bC,Bm,aa,aN,de]
theorem awy:we.Ok:=by
 intro t hv;have hv:ng t:=hv;rw[awx,qP (d:=t) hv.1];simp only[ah,bC,sX,bC,WC,HZ];cases jR:iR t
 ·rfl
 ·obtain⟨⟨_,a2,a3,_⟩,b1,b2⟩:=kk jR;rw[N.aUl ak,gD ak ak,afb (d:=(10+((8*t.2.1.length:Nat):Int),t.1,t.1.length,0)) ⟨by show t.1.length<=_;omega,0,aP _,rfl,rfl,a2,λx hx=>(Ca (nB _ _ b1 x hx)).2.2.2.2,by show(0:Int)<=10+((8*t.2.1.length:Nat):Int);omega,by show 10+((8*t.2.1.length:Nat):Int)<=_;omega⟩];simp only[ah,bC,Bm,bg,aG,cQ,ao,bM,lN];rfl
theorem arY:we.RS:=rE [.d fa] we
def awz:=we.fC awy 1 ⟨.fI agV,trivial⟩
abbrev Yz:=Bs×(List iF)×Int×Int
abbrev Lq:=Bs×(List iF)×Int×Int×(List Sg)×Int×Int×iF
def yo:Lq->Bs->(((List iF)×Int×Int×iF)×(Bs)):=λ(iK,aeD,aeE,CF,t32,t33,t34,n5) y=>((aeD,aeE,CF,n5),y)
def agJ:Lq->Prop:=λ(b,l1,aVh,i1,l,n,i,x)=>(l).length<=1000000000/\∃k:Nat,k<=(l).length/\i=k/\n=(l).length/\(l.length<=12)/\(b.length<=80000000+16*k)
def Ea:Lq->Bs:=λ(b,l1,aVh,i1,l,n,i,x)=>(bZ (ae i) l).foldl aeo b
def agH:Yz->Prop:=λ(b,l,n,i)=>(l).length<=1000000000/\∃k:Nat,k<=(l).length/\i=k/\n=(l).length/\(l.length<=64)/\(∀x∈l,x.2.1.2.1.length<=12/\x.2.1.1<=9223372036854775807)/\(b.length<=100000+1000*k)
def Lo:Yz->Bs:=λ(b,l,n,i)=>(bZ (ae i) l).foldl awG b
theorem aep:∀(l:List Sg) (b:List Int),(l.foldl aeo b).length=b.length+16*l.length
 |[],b=>rfl
 |x::l,b=>by have h1:=ars b x;have h3:=aep l (aeo b x);rw[bz,aB];omega
theorem aK6(b:List Int)(x:iF)(h:x.2.1.2.1.length<=12):(awG b x).length<=b.length+300:=by have e1:=dN b x.2.1.1;have e2:=dN (cU b x.2.1.1) x.2.1.2.1.length;have e3:=aep x.2.1.2.1 (cU (cU b x.2.1.1) x.2.1.2.1.length);unfold awG;rw[ai,cJ];omega
def awh:dR->Prop:=λt=>ng t
def Ln:dR->Bs:=λt=>awA t
def rT:Ls agH bC Lo:=sH (λ(b,t14,t15,t16)=>⟨([bH,bH,bH,.d tB b]++aS 10 ([.d (.slice gT) t14,.d ti t15,.d ti t16]++aS 36 [])),[],(ab 53 [])⟩) (λx=>(.exit 0,⟨([bH,bH,bH,.d tB x]++aS 49 []),[],(ab 53 [])⟩))
def rU:Ls agJ yo Ea:=sH (λ(iK,aeD,aeE,CF,t32,t33,t34,n5)=>⟨([bH,bH,bH,.d tB iK,bH,fx 5]++aS 8 ([.d (.slice gT) aeD,.d ti aeE,.d ti CF]++aS 15 ([.d (.slice BB) t32,.d ti t33,.d ti t34]++aS 18 []))),[],(bS 5 ([ed (.d gT n5)]++bS 47 []))⟩) (λx=>(.exit 2,⟨([bH,bH,bH,.d tB x.2,bH,fx 5]++aS 8 ([.d (.slice gT) x.1.1,.d ti x.1.2.1,.d ti x.1.2.2.1]++aS 36 [])),[],(bS 5 ([ed (.d gT x.1.2.2.2)]++bS 47 []))⟩))
def sx:Fs Tryz.prog awh bC Ln:=fw 74 Tryz.f74 (λt=>([.d fa t],[])) (λx=>⟨.d tB x,[],[]⟩) [av fa] [uV,ajc,Zz,aon] {loops:=oJ [(5,{ba:=[3,14,15,16]}),(9,{ba:=[3,5,14,15,16,32,33,34],sites:=[5]})],outs:=oI [(5,{ba:=[3]},{ba:=[2]}),(9,{ba:=[3,5,14,15,16],sites:=[5]},{ba:=[2]})],gf:=nQ [(5,rT.E),(9,rU.E)],res:=[av tB]}
theorem agI:rT.RS:=rL [.d tB,.d (.slice gT),.d ti,.d ti] rT
theorem Lp(b t14 t15 t16)(kn:K2 R)(kx:K3 R):sx.R 0 rT (b,t14,t15,t16) kn kx=aL (gz t16 t15) (aL (eL t16 (t14.length:Int)) (al (BR.call (b,(nth gT t14 (ae t16)).2.1.1)) λx1=>al (BR.call (x1,(((ag (nth gT t14 (ae t16)).2.1.2.1):Nat):Int))) λx2=>al (rU.call (x2,t14,t15,t16,(nth gT t14 (ae t16)).2.1.2.1,(((ag (nth gT t14 (ae t16)).2.1.2.1):Nat):Int),0,(nth gT t14 (ae t16)))) λx3=>al (JE.call (x3.2,x3.1.2.2.2.2.1.2.2.1)) λx4=>kn (rT.st (x4,x3.1.1,x3.1.2.1,(bO .i64 x3.1.2.2.1 1)))) aD) (rT.go kx b):=cr
theorem agK:rU.RS:=rL [.d tB,.d (.slice gT),.d ti,.d ti,.d (.slice BB),.d ti,.d ti,.d gT] rU
theorem Lr(iK aeD aeE CF t32 t33 t34 n5)(kn:K2 R)(kx:K3 R):sx.R 1 rU (iK,aeD,aeE,CF,t32,t33,t34,n5) kn kx=aL (gz t34 t33) (aL (eL t34 (t32.length:Int)) (al (JE.call (iK,(nth BB t32 (ae t34)).1)) λx1=>al (JE.call (x1,(nth BB t32 (ae t34)).2.1)) λx2=>kn (rU.st (x2,aeD,aeE,CF,t32,t33,(bO .i64 t34 1),n5))) aD) (rU.go kx ((aeD,aeE,CF,n5),iK)):=cr
theorem aDj(t)(k:K1 R):sx.A t k=al (jt.call t) λx1=>aL (!x1) (k (sx.out ([]:List Int))) (al (v8.call t) λx2=>al (rT.call (x2,t.1,(t.1.length:Int),0)) λx9=>k (sx.out x9)):=cr
theorem amt:(sx.lF 1 rU):=by
 refine(sx.mY 1 rU) (λ(b,l1,aVh,i1,l,n,i,x)=>(l).length - ae i) ?_
 rintro⟨b,l1,aVh,i1,l,n,i,x⟩ ⟨hlen,k,hk,rfl,rfl,ah1,hb⟩;have hlen:(l).length<=1000000000:=hlen;have hk:k<=(l).length:=hk;have ah1:l.length<=12:=ah1;have hb:b.length<=80000000+16*k:=hb;by_cases h:k < (l).length
 ·left;have n1:nth BB l k=l[k]:=cg (t:=BB) h;have hd:bZ k l=l[k]::bZ (k+1) l:=aq h;refine⟨((aeo b l[k]),l1,aVh,i1,l,((l).length:Int),((k+1:Nat):Int),x),⟨hlen,k+1,ak,rfl,rfl,ah1,by have:=ars b l[k];omega⟩,by simp only[aa];omega,?_,λkn kx=> ?_⟩
  ·simp only[yo,Ea,aa,hd,bz]
  ·rw[Lr,aX ak,bj ak ak,aa,n1];simp only[aj];rw[Fv (d:=(b,l[k].1)) (by show b.length<=_;omega)];simp only[ah,bC,Rx];rw[Fv (d:=(b++jV l[k].1,l[k].2.1)) (by show(b++jV l[k].1).length<=_;rw[ai,cJ];omega)];simp only[ah,bC,Rx];rw[N.mZ ak];rfl
 ·right;obtain rfl:k=(l).length:=ak;intro R kn kx;rw[Lr,aU ak,ao];simp only[yo,Ea,aa,aN,de]
theorem ams:(sx.lF 0 rT):=by
 refine(sx.mY 0 rT) (λ(b,l,n,i)=>(l).length - ae i) ?_
 rintro⟨b,l,n,i⟩ ⟨hlen,k,hk,rfl,rfl,G5,hx,hb⟩;have hlen:(l).length<=1000000000:=hlen;have hk:k<=(l).length:=hk;have G5:l.length<=64:=G5;have hx:∀x∈l,x.2.1.2.1.length<=12/\x.2.1.1<=9223372036854775807:=hx;have hb:b.length<=100000+1000*k:=hb;by_cases h:k < (l).length
 ·left;have n1:nth gT l k=l[k]:=cg (t:=gT) h;have hd:bZ k l=l[k]::bZ (k+1) l:=aq h;refine⟨((awG b l[k]),l,((l).length:Int),((k+1:Nat):Int)),⟨hlen,k+1,ak,rfl,rfl,G5,hx,by have:=aK6 b l[k] (hx _ (aO h)).1;omega⟩,by simp only[aa];omega,?_,λkn kx=> ?_⟩
  ·simp only[bC,Lo,aa,hd,bz]
  ·rw[Lp,aX ak,bj ak ak,aa,n1];simp only[aj];have e:=hx _ (aO h);have e1:=dN b l[k].2.1.1;have e2:=dN (cU b l[k].2.1.1) l[k].2.1.2.1.length;have e3:=aep l[k].2.1.2.1 (cU (cU b l[k].2.1.1) l[k].2.1.2.1.length);rw[j8 (d:=(b,l[k].2.1.1)) ⟨by show b.length<=_;omega,e.2⟩];simp only[ah,bC,p9];rw[j8 (d:=(cU b l[k].2.1.1,(l[k].2.1.2.1.length:Int))) ⟨by show(cU b l[k].2.1.1).length<=_;omega,by show(l[k].2.1.2.1.length:Int)<=_;omega⟩];simp only[ah,bC,p9];rw[agK (d:=(cU (cU b l[k].2.1.1) l[k].2.1.2.1.length,l,l.length,k,l[k].2.1.2.1,l[k].2.1.2.1.length,0,l[k])) ⟨by show l[k].2.1.2.1.length<=_;omega,0,aP _,rfl,rfl,e.1,by show(cU (cU b l[k].2.1.1) l[k].2.1.2.1.length).length<=_;omega⟩];simp only[ah,yo,Ea,bg,aG];rw[Fv (d:=(l[k].2.1.2.1.foldl aeo (cU (cU b l[k].2.1.1) l[k].2.1.2.1.length),l[k].2.1.2.2.1)) (by show(l[k].2.1.2.1.foldl aeo (cU (cU b l[k].2.1.1) l[k].2.1.2.1.length)).length<=_;omega)];simp only[ah,bC,Rx];rw[N.mZ ak];rfl
 ·right;obtain rfl:k=(l).length:=ak;intro R kn kx;rw[Lp,aU ak,ao];simp only[bC,Lo,aa,aN,de]
theorem aDk:sx.Ok:=by
 intro t hv;have hv:ng t:=hv;rw[aDj,qP (d:=t) hv.1];simp only[ah,bC,sX,bC,Ln,awA];cases jR:iR t
 ·rfl
 ·obtain⟨⟨_,a2,a3,_⟩,b1,b2⟩:=kk jR;have hl:=Qi jR hv;rw[aeW (d:=t) ⟨jR,hv⟩];simp only[cQ,ao,bM,ah,bC,aeV];rw[agI (d:=(vT t,t.1,t.1.length,0)) ⟨by show t.1.length<=_;omega,0,aP _,rfl,rfl,a2,λx hx=>by have:=Ca (nB _ _ b1 x hx);exact⟨this.2.2.2.2,ak⟩,by show(vT t).length<=_;omega⟩];rfl
theorem Qz:sx.RS:=rE [.d fa] sx
def Wx:=sx.fC aDk 2 ⟨.fI ams,⟨.fI amt,trivial⟩⟩
abbrev T0:=Nat×(List iF)×Int×Int×(List bJ)
def ae7:T0->Prop:=λ(L,l,n,i,r)=>(l).length<=1000000/\∃k:Nat,k<=(l).length/\i=k/\n=(l).length/\L=(r).length/\(r).length<=1000000+k
def Bl:T0->(Nat×(List bJ)):=λ(L,l,n,i,r)=>(L+(bZ (ae i) l).length,r++(bZ (ae i) l).map (λx:iF=>x.1))
def arW:dR->Prop:=λt=>aSx t
def MD:dR->(List bJ):=λt=>eh t
def oR:Ls ae7 bC Bl:=sH (λ(lL,t9,t10,t11,n19)=>⟨([bH,bH,pc 19 lL]++aS 6 ([.d (.slice gT) t9,.d ti t10,.d ti t11]++aS 10 [])),[],(bS 19 [ed (.vec 38 bh n19),[],[]])⟩) (λx=>(.exit 0,⟨([bH,bH,pc 19 x.1]++aS 19 []),[],(bS 19 [ed (.vec 38 bh x.2),[],[]])⟩))
def tK:Fs Tryz.prog arW bC MD:=fw 72 Tryz.f72 (λt=>([.d fa t],[])) (λx=>⟨.d (.slice bh) x,[],[]⟩) [av fa] [uV] {loops:=oJ [(4,{ba:=[2,9,10,11],sites:=[19],owns:=[⟨2,[],19,46⟩]})],outs:=oI [(4,{ba:=[2],sites:=[19]},{ba:=[2]})],gf:=nQ [(4,oR.E)],res:=[av (.slice bh)]}
theorem ae8:oR.RS:=rL [.n,.d (.slice gT),.d ti,.d ti,.d (.slice bh)] oR
theorem IP(lL t9 t10 t11 n19)(kn:K2 R)(kx:K3 R):tK.R 0 oR (lL,t9,t10,t11,n19) kn kx=aL (gz t11 t10) (aL (eL t11 (t9.length:Int)) (aL (decide (lL<=(ag n19))) (aL (dw (lL+1) 40) (kn (oR.st ((lL+1),t9,t10,(bO .i64 t11 1),((aW lL n19)++ [(nth gT t9 (ae t11)).1])))) aD) aD) aD) (oR.go kx (lL,n19)):=cr
theorem awv(t)(k:K1 R):tK.A t k=al (jt.call t) λx1=>aL (!x1) (k (tK.out ([]:List bJ))) (al (oR.call (0,t.1,(t.1.length:Int),0,([]:List bJ))) λx2=>aL (decide (0=0/\(0+x2.1)<=(ag x2.2))) (k (tK.out (cut x2.2 0 x2.1))) aD):=cr
theorem agU:(tK.lF 0 oR):=by
 refine(tK.mY 0 oR) (λ(L,l,n,i,r)=>(l).length - ae i) ?_
 rintro⟨L,l,n,i,r⟩ ⟨hlen,k,hk,rfl,rfl,rfl,uc⟩;have hlen:(l).length<=1000000:=hlen;have hk:k<=(l).length:=hk;have uc:(r).length<=1000000+k:=uc;by_cases h:k < (l).length
 ·left;have n1:nth gT l k=l[k]:=cg (t:=gT) h;have hd:bZ k l=l[k]::bZ (k+1) l:=aq h;refine⟨((r).length+1,l,((l).length:Int),((k+1:Nat):Int),r++ [(λx:iF=>x.1) l[k]]),⟨hlen,k+1,ak,rfl,rfl,by rw[ai];rfl,by rw[ai];show(r).length+1<=_;omega⟩,by simp only[aa];omega,?_,λkn kx=> ?_⟩
  ·simp only[bC,Bl,aa,hd,bY,aB,aI,dv];rw[show ∀a c:Nat,a+1+c=a+(c+1) from λa c=>ak]
  ·rw[IP,aX ak,bj (show(0:Int)<=(k:Int) by omega) ak,aa,n1];simp only[aj];rw[aM (ay _),dC ak ak,N.mZ ak,bQ];rfl
 ·right;obtain rfl:k=(l).length:=ak;intro R kn kx;rw[IP,aU ak,ao];simp only[bC,Bl,aa,aN,iY,bm,bl,cK]
theorem aww:tK.Ok:=by
 intro t hv;have hv:aSx t:=hv;rw[awv,qP (d:=t) hv];simp only[ah,bC,sX,bC,MD,eh];cases jR:iR t
 ·rfl
 ·obtain⟨⟨_,a2,a3,_⟩,b1,b2⟩:=kk jR;rw[ae8 (d:=(0,t.1,t.1.length,0,[])) ⟨by show t.1.length<=_;omega,0,aP _,rfl,rfl,rfl,aP _⟩];simp only[cQ,ao,bM,ah,bC,Bl,bg,aG,aY,aR];rw[aM ⟨by trivial,by rw[cm];exact ay _⟩,aj,fB (by rw[cm])]
theorem YK:tK.RS:=rE [.d fa] tK
def ae9:=tK.fC aww 1 ⟨.fI agU,trivial⟩
abbrev aeT:=Nat×Int×Int×Bs×(List bJ)
def amu:aeT->Prop:=λ(L,n,i,id,r)=>∃k m:Nat,k<=m/\i=k/\n=m/\m<=1000/\L=r.length/\L=k
def HR:aeT->(Nat×(List bJ)):=λ(L,n,i,id,r)=>(L+(n - i).toNat,r++It id i.toNat (n - i).toNat)
def aDm:dR->Prop:=λt=>ng t
def Z5:dR->(List bJ):=λt=>iN t
def v7:Ls amu bC HR:=sH (λ(lL,t12,t13,n3,n21)=>⟨([bH,bH,pc 21 lL,fx 3]++aS 8 ([.d ti t12,.d ti t13]++aS 10 [])),[],([[],[],[],ed (.d tH n3)]++bS 17 [ed (.vec 38 bh n21),[],[]])⟩) (λx=>(.exit 0,⟨([bH,bH,pc 21 x.1]++aS 21 []),[],(bS 21 [ed (.vec 38 bh x.2),[],[]])⟩))
def IN:Fs Tryz.prog aDm bC Z5:=fw 197 Tryz.f197 (λt=>([.d fa t],[])) (λx=>⟨.d (.slice bh) x,[],[]⟩) [av fa] [Wy,uV] {loops:=oJ [(5,{ba:=[2,3,12,13],sites:=[3,21],owns:=[⟨2,[],21,46⟩]})],outs:=oI [(5,{ba:=[2],sites:=[21]},{ba:=[2]})],gf:=nQ [(5,v7.E)],res:=[av (.slice bh)]}
theorem amv:v7.RS:=rL [.n,.d ti,.d ti,.d tB,.d (.slice bh)] v7
theorem Ot(lL t12 t13 n3 n21)(kn:K2 R)(kx:K3 R):IN.R 0 v7 (lL,t12,t13,n3,n21) kn kx=aL (gz t13 t12) (aL (decide (lL<=(ag n21))) (aL (dw (lL+1) 40) (kn (v7.st ((lL+1),t12,(bO .i64 t13 1),n3,((aW lL n21)++ [(n3,(t13,()))])))) aD) aD) (v7.go kx (lL,n21)):=cr
theorem aKA(t)(k:K1 R):IN.A t k=al (tid.call t) λx1=>al (jt.call t) λx2=>aL (!x2) (k (IN.out ([]:List bJ))) (al (v7.call (0,(t.2.1.length:Int),0,x1,([]:List bJ))) λx3=>aL (decide (0=0/\(0+x3.1)<=(ag x3.2))) (k (IN.out (cut x3.2 0 x3.1))) aD):=cr
theorem aBk(id:List Int)(k n:Nat):(It id k n).length=n:=by simp[It]
theorem auv(id:List Int)(k n:Nat):It id k (n+1)=(id,((k:Int),()))::It id (k+1) n:=by unfold It;rw[List.range'_succ,bY]
theorem arM:(IN.lF 0 v7):=by
 refine(IN.mY 0 v7) (λ(L,n,i,id,r)=>(n - i).toNat) ?_
 rintro⟨L,n,i,id,r⟩ ⟨k,m,hk,rfl,rfl,hm,rfl,aXY⟩;have aXY:r.length=k:=aXY;by_cases h:k < m
 ·left;have e1:((m:Int) - (k:Int)).toNat=(m - (k+1))+1:=ak;have e2:((m:Int) - ((k+1:Nat):Int)).toNat=m - (k+1):=ak;refine⟨(r.length+1,(m:Int),((k+1:Nat):Int),id,r++ [(id,((k:Int),()))]),⟨k+1,m,ak,rfl,rfl,hm,by rw[ai];rfl,by show r.length+1=_;omega⟩,by show((m:Int) - ((k+1:Nat):Int)).toNat < ((m:Int) - (k:Int)).toNat;omega,?_,λkn kx=> ?_⟩
  ·simp only[bC,HR,e1,e2,aa,auv,aI,dv];rw[show r.length+1+(m - (k+1))=r.length+(m - (k+1)+1) by omega]
  ·rw[Ot,aX ak,aM (ay _),dC ak ak,N.mZ ak,bQ];rfl
 ·right;obtain rfl:k=m:=ak;intro R kn kx;rw[Ot,aU ak,ao];simp only[bC,HR,Int.sub_self,bg,cK];rw[show It id (k:Int).toNat 0=[] from rfl,bm]
theorem aKB:IN.Ok:=by
 intro t hv;have hv:ng t:=hv;rw[aKA,HQ (d:=t) hv,qP (d:=t) hv.1];simp only[ah,bC,YA,bC,sX,bC,Z5,iN];cases jR:iR t
 ·rfl
 ·obtain⟨⟨_,a2,a3,_⟩,b1,b2⟩:=kk jR;have hl:=aBk (iD t) 0 t.2.1.length;rw[amv (d:=(0,t.2.1.length,0,iD t,[])) ⟨0,t.2.1.length,aP _,rfl,rfl,ak,rfl,rfl⟩];simp only[cQ,ao,bM,ah,bC,HR,qX,aa,bg,aY,aR];rw[aM ⟨by trivial,by rw[hl];exact ay _⟩,aj,fB hl]
theorem ajb:IN.RS:=rE [.d fa] IN
def arN:=IN.fC aKB 1 ⟨.fI arM,trivial⟩
def aFK:(List iF)->Prop:=λl=>l.length<=1000000
def atp:(List iF)->(Nat×(List iF)):=λl=>(l.length,l)
def aj2:Fs Tryz.prog aFK bC atp:=fw 137 Tryz.f137 (λsv=>([.d (.slice gT) sv],[])) (λx=>⟨.bE (.new 0 0) 0 [] 0 0 x.1,[],[.obj 0 aQ (.vec 86 gT x.2)]⟩) [av (.slice gT)] [] {bT:=[5],owns:=[⟨2,[],5,53⟩]}
theorem aMs(sv)(k:K1 R):aj2.A sv k=aL (decide (0 < (ag sv))) (aL (dw (0+(ag sv)) 80) (k (aj2.out ((0+(ag sv)),((aW 0 (ab 0 (((ab 32 0),(0,())),((0,(([]:List Sg),(0,()))),()))))++sv)))) aD) (nd (k (aj2.out (0,([]:List iF)))) (aL (dw (0+(ag sv)) 80) (k (aj2.out ((0+(ag sv)),((aW 0 (ab 0 (((ab 32 0),(0,())),((0,(([]:List Sg),(0,()))),()))))++sv)))) aD)):=cr
theorem aMt:aj2.Ok:=by
 intro l hl;have hl:l.length<=1000000:=hl;have hr:dw l.length 80=aZ:=dC ak ak;rw[aMs];simp only[aR,hr,aj,dZ,aY,bC,atp];by_cases h:0 < l.length
 ·simp only[aM h,aj]
 ·have:l=[]:=bK ak;subst this;simp only[bl,AQ,aV (iV 0),ao]
theorem aFL:aj2.RS:=rE [.d (.slice gT)] aj2
def aMu:=aj2.fC aMt
def azR:(List iu)->Prop:=λl=>l.length<=1000000
def aj4:(List iu)->(Nat×(List iu)):=λl=>(l.length,l)
def Rr:Fs Tryz.prog azR bC aj4:=fw 138 Tryz.f138 (λsv=>([.d (.slice gV) sv],[])) (λx=>⟨.bE (.new 0 0) 0 [] 0 0 x.1,[],[.obj 0 aQ (.vec 79 gV x.2)]⟩) [av (.slice gV)] [] {bT:=[5],owns:=[⟨2,[],5,22⟩]}
theorem aFO(sv)(k:K1 R):Rr.A sv k=aL (decide (0 < (ag sv))) (aL (dw (0+(ag sv)) 32) (k (Rr.out ((0+(ag sv)),((aW 0 (ab 0 (0,((([]:List pM),()),()))))++sv)))) aD) (nd (k (Rr.out (0,([]:List iu)))) (aL (dw (0+(ag sv)) 32) (k (Rr.out ((0+(ag sv)),((aW 0 (ab 0 (0,((([]:List pM),()),()))))++sv)))) aD)):=cr
theorem aFP:Rr.Ok:=by
 intro l hl;have hl:l.length<=1000000:=hl;have hr:dw l.length 32=aZ:=dC ak ak;rw[aFO];simp only[aR,hr,aj,dZ,aY,bC,aj4];by_cases h:0 < l.length
 ·simp only[aM h,aj]
 ·have:l=[]:=bK ak;subst this;simp only[bl,AQ,aV (iV 0),ao]
theorem azS:Rr.RS:=rE [.d (.slice gV)] Rr
def aFQ:=Rr.fC aFP
def aFJ:(List pM)->Prop:=λl=>l.length<=1000000
def aj1:(List pM)->(Nat×(List pM)):=λl=>(l.length,l)
def afN:Fs Tryz.prog aFJ bC aj1:=fw 140 Tryz.f140 (λsv=>([.d (.slice kS) sv],[])) (λx=>⟨.bE (.new 0 0) 0 [] 0 0 x.1,[],[.obj 0 aQ (.vec 98 kS x.2)]⟩) [av (.slice kS)] [] {bT:=[5],owns:=[⟨2,[],5,70⟩]}
theorem aMq(sv)(k:K1 R):afN.A sv k=aL (decide (0 < (ag sv))) (aL (dw (0+(ag sv)) 48) (k (afN.out ((0+(ag sv)),((aW 0 (ab 0 (([]:List Int),(0,(0,(0,()))))))++sv)))) aD) (nd (k (afN.out (0,([]:List pM)))) (aL (dw (0+(ag sv)) 48) (k (afN.out ((0+(ag sv)),((aW 0 (ab 0 (([]:List Int),(0,(0,(0,()))))))++sv)))) aD)):=cr
theorem aMr:afN.Ok:=by
 intro l hl;have hl:l.length<=1000000:=hl;have hr:dw l.length 48=aZ:=dC ak ak;rw[aMq];simp only[aR,hr,aj,dZ,aY,bC,aj1];by_cases h:0 < l.length
 ·simp only[aM h,aj]
 ·have:l=[]:=bK ak;subst this;simp only[bl,AQ,aV (iV 0),ao]
theorem an8:afN.RS:=rE [.d (.slice kS)] afN
def axi:=afN.fC aMr
def azT:(List Sg)->Prop:=λl=>l.length<=1000000
def aj5:(List Sg)->(List Sg):=λl=>l
def Rs:Fs Tryz.prog azT bC aj5:=fw 139 Tryz.f139 (λsv=>([.d (.slice BB) sv],[])) (λx=>⟨.d (.slice BB) x,[],[]⟩) [av (.slice BB)] [] {bT:=[5],res:=[av (.slice BB)]}
theorem aFR(sv)(k:K1 R):Rs.A sv k=aL (decide (0 < (ag sv))) (aL (dw (0+(ag sv)) 16) (aL (decide (0=0/\(0+(0+(ag sv)))<=(ag ((aW 0 (ab 0 (0,(0,()))))++sv)))) (k (Rs.out (cut ((aW 0 (ab 0 (0,(0,()))))++sv) 0 (0+(ag sv))))) aD) aD) (nd (k (Rs.out ([]:List Sg))) (aL (dw (0+(ag sv)) 16) (aL (decide (0=0/\(0+(0+(ag sv)))<=(ag ((aW 0 (ab 0 (0,(0,()))))++sv)))) (k (Rs.out (cut ((aW 0 (ab 0 (0,(0,()))))++sv) 0 (0+(ag sv))))) aD) aD)):=cr
theorem aFS:Rs.Ok:=by
 intro l hl;have hl:l.length<=1000000:=hl;have hr:dw l.length 16=aZ:=dC ak ak;rw[aFR];simp only[aR,hr,aj,dZ,aY,ay,jO,cO,fB,bC,aj5];by_cases h:0 < l.length
 ·simp only[aM h,aj]
 ·have:l=[]:=bK ak;subst this;simp only[bl,AQ,aV (iV 0),ao]
theorem azU:Rs.RS:=rE [.d (.slice BB)] Rs
def aFT:=Rs.fC aFS
abbrev HO:=Int×Int×Nat×Nat×(Int×Unit)×(Int×Unit)×(List iF)×(List iu)
def Lt:HO->(List iF)->((Nat×Nat×(Int×Unit)×(Int×Unit)×(List iu))×((List iF))):=λ(t17,t18,aNT,acG,n1,n2,n9,n12) y=>((aNT,acG,n1,n2,n12),y)
abbrev TQ:=Int×Int×Nat×Nat×(Int×Unit)×(Int×Unit)×(List iF)×(List iu)
abbrev HP:=Int×Nat×Int×Int×Int×Int×Nat×Nat×(Int×Unit)×(Int×Unit)×(List iF)×(List iu)×(List pM)
abbrev TT:=(List pM)×(List pM)
def Lu:HP->TT->((Int×Int×Int×Nat×Nat×(Int×Unit)×(Int×Unit)×(List iF)×(List iu))×((List pM)×(List pM))):=λ(kv,lL,aeH,aeI,t51,t52,acH,acI,auA,uj,auC,acC,n49) y=>((kv,aeH,aeI,acH,acI,auA,uj,auC,acC),y)
def aeM:HO->Prop:=λ(m,i,L,L2,u,v,l,os)=>(l.length<=1000/\∀x∈l,x.2.1.2.1.length<=1000000)/\∃k:Nat,k<=l.length/\i=k/\m=l.length/\L=l.length
def TP:HO->(List iF):=λ(m,i,L,L2,u,v,l,os)=>l
def aeQ:HP->Prop:=λ(kv,L,m1,i1,m,i,L5,L6,u,v,ls,os,bs)=>(bs.length<=1000/\∀x∈bs,x.1.length<=1000000)/\∃k:Nat,k<=bs.length/\i=k/\m=bs.length/\L=bs.length
def TS:HP->TT:=λ(kv,L,m1,i1,m,i,L5,L6,u,v,ls,os,bs)=>(bs,bs)
def aeO:TQ->Prop:=λ(m,i,L3,L,u,v,ls,os)=>(os.length<=1000/\∀x∈os,x.2.1.1.length<=1000/\∀b∈x.2.1.1,b.1.length<=1000000)/\∃k:Nat,k<=os.length/\i=k/\m=os.length/\L=os.length
def TR:TQ->(Nat×Nat×(Int×Unit)×(Int×Unit)×(List iF)×(List iu)):=λ(m,i,L3,L,u,v,ls,os)=>(L3,L,u,v,ls,os)
def arJ:dR->Prop:=λt=>iR t=aZ
def aja:dR->(Nat×((List iu)×(Int×Unit))×(List iF)):=λt=>(t.1.length,(t.2.1,t.2.2),t.1)
def mR:Ls aeM Lt TP:=sH (λ(t17,t18,aNT,acG,n1,n2,n9,n12)=>⟨([bH,fx 1,fx 2]++aS 14 ([.d ti t17,.d ti t18]++aS 56 [])),[],([[],ed (.pr (pc 9 aNT) (.pr (pc 12 acG) (.d (.pair ti .unit) n1))),ed (.pr (.dy) (.pr (.dy) (.d (.pair ti .unit) n2)))]++bS 6 ([ed (.vec 86 gT n9),[],[],ed (.vec 79 gV n12)]++bS 62 []))⟩) (λx=>(.exit 0,⟨([bH,fx 1,fx 2]++aS 72 []),[],([[],ed (.pr (pc 9 x.1.1) (.pr (pc 12 x.1.2.1) (.d (.pair ti .unit) x.1.2.2.1))),ed (.pr (.dy) (.pr (.dy) (.d (.pair ti .unit) x.1.2.2.2.1)))]++bS 6 ([ed (.vec 86 gT x.2),[],[],ed (.vec 79 gV x.1.2.2.2.2)]++bS 62 []))⟩))
def mS:Ls aeO bC TR:=sH (λ(t38,t39,apY,aim,aIo,lG,SN,acB)=>⟨([bH,fx 1,fx 2]++aS 35 ([.d ti t38,.d ti t39]++aS 35 [])),[],([[],ed (.pr (pc 9 apY) (.pr (pc 12 aim) (.d (.pair ti .unit) aIo))),ed (.pr (.dy) (.pr (.dy) (.d (.pair ti .unit) lG)))]++bS 6 ([ed (.vec 86 gT SN),[],[],ed (.vec 79 gV acB)]++bS 62 []))⟩) (λx=>(.exit 2,⟨([bH,fx 1,fx 2]++aS 72 []),[],([[],ed (.pr (pc 9 x.1) (.pr (pc 12 x.2.1) (.d (.pair ti .unit) x.2.2.1))),ed (.pr (.dy) (.pr (.dy) (.d (.pair ti .unit) x.2.2.2.1)))]++bS 6 ([ed (.vec 86 gT x.2.2.2.2.1),[],[],ed (.vec 79 gV x.2.2.2.2.2)]++bS 62 []))⟩))
def mU:Ls aeQ Lu TS:=sH (λ(kv,lL,aeH,aeI,t51,t52,acH,acI,auA,uj,auC,acC,n49)=>⟨([bH,fx 1,fx 2,bH,.d ti kv,pc 49 lL]++aS 32 ([.d ti aeH,.d ti aeI]++aS 11 ([.d ti t51,.d ti t52]++aS 22 []))),[],([[],ed (.pr (pc 9 acH) (.pr (pc 12 acI) (.d (.pair ti .unit) auA))),ed (.pr (.dy) (.pr (.dy) (.d (.pair ti .unit) uj)))]++bS 6 ([ed (.vec 86 gT auC),[],[],ed (.vec 79 gV acC)]++bS 36 ([ed (.vec 98 kS n49)]++bS 25 [])))⟩) (λx=>(.exit 4,⟨([bH,fx 1,fx 2,bH,.d ti x.1.1,.d (.slice kS) x.2.1]++aS 32 ([.d ti x.1.2.1,.d ti x.1.2.2.1]++aS 35 [])),[],([[],ed (.pr (pc 9 x.1.2.2.2.1) (.pr (pc 12 x.1.2.2.2.2.1) (.d (.pair ti .unit) x.1.2.2.2.2.2.1))),ed (.pr (.dy) (.pr (.dy) (.d (.pair ti .unit) x.1.2.2.2.2.2.2.1)))]++bS 6 ([ed (.vec 86 gT x.1.2.2.2.2.2.2.2.1),[],[],ed (.vec 79 gV x.1.2.2.2.2.2.2.2.2)]++bS 36 ([[.obj 0 aZ (.vec 98 kS x.2.2)]]++bS 25 [])))⟩))
def nk:Fs Tryz.prog arJ bC aja:=fw 90 Tryz.f90 (λt=>([.d fa t],[])) (λx=>⟨.pr (.bE (.new 0 0) 0 [] 0 0 x.1) (.d (.pair (.slice gV) (.pair ti .unit)) x.2.1),[],[.obj 0 aQ (.vec 86 gT x.2.2)]⟩) [av fa] [aMu,aFQ,aFT,axi,VL] {bT:=[1],loops:=oJ [(3,{ba:=[1,2,17,18],sites:=[1,2,9,12]}),(8,{ba:=[1,2,38,39],sites:=[1,2,9,12]}),(12,{ba:=[1,2,4,5,38,39,51,52],sites:=[1,2,9,12,49]})],outs:=oI [(3,{ba:=[1,2],sites:=[1,2,9,12]},{ba:=[2]}),(8,{ba:=[1,2],sites:=[1,2,9,12]},{ba:=[2]}),(12,{ba:=[1,2,4,5,38,39],sites:=[1,2,9,12,49],data:=[(5,(.slice kS))]},{ba:=[2]})],gf:=nQ [(3,mR.E),(8,mS.E),(12,mU.E)],MN:=[⟨2,[.snd,.fst],(.slice gV)⟩]}
theorem aeN:mR.RS:=rL [.d ti,.d ti,.n,.n,.d (.pair ti .unit),.d (.pair ti .unit),.d (.slice gT),.d (.slice gV)] mR
theorem IK(t17 t18 aNT acG n1 n2 n9 n12)(kn:K2 R)(kx:K3 R):nk.R 0 mR (t17,t18,aNT,acG,n1,n2,n9,n12) kn kx=aL (gz t18 t17) (aL (eL t18 ((aNT:Nat):Int)) (aL (decide ((0+(ae t18)) < (ag n9))) (aL (decide ((((0+(ae t18))*36)+34)=(((0+((ae t18)*36))+33)+1))) (al (Rs.call (nth gT n9 (0+(ae t18))).2.1.2.1) λx1=>aL (eL t18 ((aNT:Nat):Int)) (aL (decide ((0+(ae t18)) < (ag n9))) (aL (decide ((((0+(ae t18))*36)+34)=(((0+((ae t18)*36))+33)+1))) (aL (decide ((0+(ae t18)) < (ag n9))) (kn (mR.st (t17,(bO .i64 t18 1),aNT,acG,n1,n2,(gN n9 (0+(ae t18)) ((nth gT n9 (0+(ae t18))).1,(((nth gT n9 (0+(ae t18))).2.1.1,(x1,(nth gT n9 (0+(ae t18))).2.1.2.2)),(nth gT n9 (0+(ae t18))).2.2))),n12))) aD) aD) aD) aD) aD) aD) aD) (mR.go kx ((aNT,acG,n1,n2,n12),n9)):=cr
theorem aeP:mS.RS:=rL [.d ti,.d ti,.n,.n,.d (.pair ti .unit),.d (.pair ti .unit),.d (.slice gT),.d (.slice gV)] mS
theorem IL(t38 t39 apY aim aIo lG SN acB)(kn:K2 R)(kx:K3 R):nk.R 1 mS (t38,t39,apY,aim,aIo,lG,SN,acB) kn kx=aL (gz t39 t38) (aL (eL t39 ((aim:Nat):Int)) (aL (decide ((0+(ae t39)) < (ag acB))) (aL (decide ((((0+(ae t39))*2)+1)=(((0+((ae t39)*2))+1)+0))) (al (afN.call (nth gV acB (0+(ae t39))).2.1.1) λx1=>al (mU.call (t39,x1.1,t38,t39,((x1.1:Nat):Int),0,apY,aim,aIo,lG,SN,acB,x1.2)) λx2=>aL (eL x2.1.1 ((x2.1.2.2.2.2.1:Nat):Int)) (aL (decide ((0+(ae x2.1.1)) < (ag x2.1.2.2.2.2.2.2.2.2))) (aL (decide ((((0+(ae x2.1.1))*2)+1)=(((0+((ae x2.1.1)*2))+1)+0))) (aL (decide ((0+(ae x2.1.1)) < (ag x2.1.2.2.2.2.2.2.2.2))) (kn (mS.st (x2.1.2.1,(bO .i64 x2.1.2.2.1 1),x2.1.2.2.2.1,x2.1.2.2.2.2.1,x2.1.2.2.2.2.2.1,x2.1.2.2.2.2.2.2.1,x2.1.2.2.2.2.2.2.2.1,(gN x2.1.2.2.2.2.2.2.2.2 (0+(ae x2.1.1)) ((nth gV x2.1.2.2.2.2.2.2.2.2 (0+(ae x2.1.1))).1,((x2.2.1,(nth gV x2.1.2.2.2.2.2.2.2.2 (0+(ae x2.1.1))).2.1.2),(nth gV x2.1.2.2.2.2.2.2.2.2 (0+(ae x2.1.1))).2.2)))))) aD) aD) aD) aD) aD) aD) aD) (mS.go kx (apY,aim,aIo,lG,SN,acB)):=cr
theorem aeR:mU.RS:=rL [.d ti,.n,.d ti,.d ti,.d ti,.d ti,.n,.n,.d (.pair ti .unit),.d (.pair ti .unit),.d (.slice gT),.d (.slice gV),.d (.slice kS)] mU
theorem IM(kv lL aeH aeI t51 t52 acH acI auA uj auC acC n49)(kn:K2 R)(kx:K3 R):nk.R 2 mU (kv,lL,aeH,aeI,t51,t52,acH,acI,auA,uj,auC,acC,n49) kn kx=aL (gz t52 t51) (aL (eL t52 ((lL:Nat):Int)) (aL (decide ((0+(ae t52)) < (ag n49))) (aL (decide ((((0+(ae t52))*4)+0)=((0+((ae t52)*4))+0))) (al (Cp.call (nth kS n49 (0+(ae t52))).1) λx1=>aL (eL t52 ((lL:Nat):Int)) (aL (decide ((0+(ae t52)) < (ag n49))) (aL (decide ((((0+(ae t52))*4)+0)=((0+((ae t52)*4))+0))) (aL (decide ((0+(ae t52)) < (ag n49))) (kn (mU.st (kv,lL,aeH,aeI,t51,(bO .i64 t52 1),acH,acI,auA,uj,auC,acC,(gN n49 (0+(ae t52)) (x1,(nth kS n49 (0+(ae t52))).2))))) aD) aD) aD) aD) aD) aD) aD) (aL (decide (0=0/\(0+lL)<=(ag n49))) (mU.go kx ((kv,aeH,aeI,acH,acI,auA,uj,auC,acC),((cut n49 0 lL),n49))) aD):=cr
theorem awi(t)(k:K1 R):nk.A t k=al (aj2.call t.1) λx1=>al (Rr.call t.2.1) λx2=>al (mR.call (((x1.1:Nat):Int),0,x1.1,x2.1,t.2.2,(0,()),x1.2,x2.2)) λx4=>al (mS.call (((x4.1.2.1:Nat):Int),0,x4.1.1,x4.1.2.1,x4.1.2.2.1,x4.1.2.2.2.1,x4.2,x4.1.2.2.2.2)) λx8=>aL (decide (0=0/\(0+x8.2.1)<=(ag x8.2.2.2.2.2))) (k (nk.out (x8.1,((cut x8.2.2.2.2.2 0 x8.2.1),x8.2.2.1),x8.2.2.2.2.1))) aD:=cr
theorem agL:(nk.lF 0 mR):=by
 refine(nk.mY 0 mR) (λ(m,i,L,L2,u,v,l,os)=>l.length - ae i) ?_
 rintro⟨m,i,L,L2,u,v,l,os⟩ ⟨⟨hlen,hx⟩,k,hk,rfl,rfl,rfl⟩;have hlen:l.length<=1000:=hlen;have hk:k<=l.length:=hk;by_cases h:k < l.length
 ·left;have n1:nth gT l k=l[k]:=cg (t:=gT) h;have hs:l.set k l[k]=l:=iv h;have e:=hx _ (aO h);refine⟨((l.length:Int),((k+1:Nat):Int),l.length,L2,u,v,l,os),⟨⟨hlen,hx⟩,k+1,ak,rfl,rfl,rfl⟩,by simp only[aa];omega,rfl,λkn kx=> ?_⟩;rw[IK,aX ak,bj ak ak];simp only[aa,aR,cK,fy,Nat.reduceAdd,aj,aM h,cO,n1];rw[azU (d:=l[k].2.1.2.1) e];simp only[ah,bC,aj5];rw[N.mZ ak];exact bu (λz=>kn (mR.st (_,_,_,_,_,_,z,_))) hs
 ·right;obtain rfl:k=l.length:=ak;intro R kn kx;rw[IK,aU ak,ao];rfl
theorem agN:(nk.lF 2 mU):=by
 refine(nk.mY 2 mU) (λ(kv,L,m1,i1,m,i,L5,L6,u,v,ls,os,bs)=>bs.length - ae i) ?_
 rintro⟨kv,L,m1,i1,m,i,L5,L6,u,v,ls,os,bs⟩ ⟨⟨hlen,hx⟩,k,hk,rfl,rfl,rfl⟩;have hlen:bs.length<=1000:=hlen;have hk:k<=bs.length:=hk;by_cases h:k < bs.length
 ·left;have n1:nth kS bs k=bs[k]:=cg (t:=kS) h;have hs:bs.set k bs[k]=bs:=iv h;have e:=hx _ (aO h);refine⟨(kv,bs.length,m1,i1,(bs.length:Int),((k+1:Nat):Int),L5,L6,u,v,ls,os,bs),⟨⟨hlen,hx⟩,k+1,ak,rfl,rfl,rfl⟩,by simp only[aa];omega,rfl,λkn kx=> ?_⟩;rw[IM,aX ak,bj ak ak];simp only[aa,aR,cK,fy,Nat.reduceAdd,aj,aM h,cO,n1];rw[Qf (d:=bs[k].1) e];simp only[ah,bC,SZ];rw[N.mZ ak];exact bu (λz=>kn (mU.st (_,_,_,_,_,_,_,_,_,_,_,_,z))) hs
 ·right;obtain rfl:k=bs.length:=ak;intro R kn kx;rw[IM,aU ak,ao];simp only[aR,ay,jO,cO,aj,fB];rfl
theorem agM:(nk.lF 1 mS):=by
 refine(nk.mY 1 mS) (λ(m,i,L3,L,u,v,ls,os)=>os.length - ae i) ?_
 rintro⟨m,i,L3,L,u,v,ls,os⟩ ⟨⟨hlen,hx⟩,k,hk,rfl,rfl,rfl⟩;have hlen:os.length<=1000:=hlen;have hk:k<=os.length:=hk;by_cases h:k < os.length
 ·left;have n1:nth gV os k=os[k]:=cg (t:=gV) h;have hs:os.set k os[k]=os:=iv h;have e:=hx _ (aO h);refine⟨((os.length:Int),((k+1:Nat):Int),L3,os.length,u,v,ls,os),⟨⟨hlen,hx⟩,k+1,ak,rfl,rfl,rfl⟩,by simp only[aa];omega,rfl,λkn kx=> ?_⟩;rw[IL,aX ak,bj ak ak];simp only[aa,aR,cK,fy,Nat.reduceAdd,aj,aM h,cO,n1];rw[an8 (d:=os[k].2.1.1) (by show os[k].2.1.1.length<=_;have:=e.1;omega)];simp only[ah,bC,aj1];rw[aeR (d:=((k:Int),os[k].2.1.1.length,(os.length:Int),(k:Int),(os[k].2.1.1.length:Int),0,L3,os.length,u,v,ls,os,os[k].2.1.1)) ⟨e,0,aP _,rfl,rfl,rfl⟩];simp only[ah,Lu,TS,aa,n1,aj,aM h,bj (show(0:Int)<=(k:Int) by omega) (show(k:Int) < (os.length:Int) by omega)];rw[N.mZ ak];exact bu (λz=>kn (mS.st (_,_,_,_,_,_,_,z))) hs
 ·right;obtain rfl:k=os.length:=ak;intro R kn kx;rw[IL,aU ak,ao];rfl
theorem VD{l:Lk}(h:lK l=aZ):l.1.length<=4/\∀b∈l.1,b.1.length<=12:=by unfold lK at h;simp only[au,dp,bf]at h;refine⟨h.2.2,λb hb=> ?_⟩;have:=h.1 b hb;unfold wH at this;simp only[au,bf]at this;exact this.1
theorem awj:nk.Ok:=by
 rintro⟨is,os,nt,u⟩ jR;obtain⟨⟨_,a2,a3,_⟩,b1,b2⟩:=kk jR;have a2:is.length<=64:=a2;have a3:os.length<=64:=a3;rw[awi,aFL (d:=is) (by show is.length<=_;omega),azS (d:=os) (by show os.length<=_;omega)];simp only[ah,bC,atp,bC,aj4];rw[aeN (d:=(is.length,0,is.length,os.length,(nt,u),(0,()),is,os)) ⟨⟨by show is.length<=_;omega,λx hx=>by have:=(Ca (nB _ _ b1 x hx)).2.2.2.2;omega⟩,0,aP _,rfl,rfl,rfl⟩];simp only[ah,Lt,TP];rw[aeP (d:=(os.length,0,is.length,os.length,(nt,u),(0,()),is,os)) ⟨⟨by show os.length<=_;omega,λx hx=>by
  have:=VD (lg _ _ b2 x hx).2;exact⟨ak,λb hb=>by have:=this.2 b hb;omega⟩⟩,0,aP _,rfl,rfl,rfl⟩]
 simp only[ah,bC,TR,aR,ay,jO,cO,aj,fB];rfl
theorem arK:nk.RS:=rE [.d fa] nk
def awk:=nk.fC awj 3 ⟨.fI agL,⟨.fI agM,⟨.fI agN,trivial⟩⟩⟩
theorem S3(x:Int)(m:Int):∀k:Nat,(x%m)^k%m=x^k%m
 | 0=>by rw[lW,lW]
 |k+1=>by rw[gA,gA,ka,S3 x m k,iH _ (qU m),<-ka]
theorem aSd(a:Int)(k:Nat):(a*a)^k=a^(2*k):=by rw[Int.pow_mul,gA,gA,lW,Int.one_mul]
theorem aI3:∀(f:Nat) (a:Int) (n:Nat) (out:Int),n < 2^f->Pn out->am5 f a n out=out*a^n%4611686018427377339
 | 0,a,n,out,h,ho=>by obtain rfl:n=0:=ak;rw[Ct,lW,yy,fJ ho.1 ho.2]
 |f+1,a,n,out,h,ho=>by
  have e:(2:Nat)^(f+1)=2^f*2:=Nat.pow_succ 2 f;rw[am5];split
  ·rename_i h0;subst h0;rw[lW,yy,fJ ho.1 ho.2]
  ·have hp:Pn (if n%2=1 then qu out a else out):=by
    split
    ·exact xS _ _
    ·exact ho
   rw[aI3 f _ _ _ ak hp,ka];have e1:(qu a a)^(n / 2)%4611686018427377339=a^(2*(n / 2))%4611686018427377339:=by unfold qu;rw[S3,aSd]
   have e2:(if n%2=1 then qu out a else out)%4611686018427377339=(out*a^(n%2))%4611686018427377339:=by
    split
    ·rename_i h1;rw[h1,gA,lW,Int.one_mul];exact iH _ (qU _)
    ·have h1:n%2=0:=ak;rw[h1,lW,yy]
   rw[e1,e2,<-ka,sy,<-Int.pow_add];have e3:n%2+2*(n / 2)=n:=ak;rw[e3]
theorem adp(a:Int)(n:Nat)(h:n < 18446744073709551616):pw a n=a^n%4611686018427377339:=by unfold pw;rw[aI3 64 a n 1 h ⟨ak,ak⟩,Int.one_mul]
theorem one_pow(k:Nat):(1:Int)^k=1:=Int.one_pow
theorem aI5(a:Int)(k q:Nat)(hk:k < 18446744073709551616)(hq:q < 18446744073709551616)(h:pw a q=1):pw (pw a k) q=1:=by rw[adp _ _ hq]at h;rw[adp _ _ hq,adp _ _ hk,S3,<-Int.pow_mul,ri,Int.pow_mul,<-S3,h,one_pow];rfl
theorem ahV:pw 4 2305843009213688669=1:=by decide+kernel
theorem aBG:pw 1 2305843009213688669=1:=by decide+kernel
theorem aNz:wR 4=aZ:=by rw[wR,ahV];rfl
theorem Sh:wR 1=aZ:=by rw[wR,aBG];rfl
theorem aN0:apZ 1=1:=by
 have e:pw 1 2305843009213688668=1:=by decide+kernel
 rw[apZ,tk,Sh];exact e
theorem alK{a:Int}(h:Pn a)(q:Nat)(hq:0 < q)(Vi:q < 18446744073709551616)(hp:pw a q=1):0 < a:=by
 rcases Int.lt_or_eq_of_le h.1 with h0 | h0
 ·exact h0
 ·subst h0;rw[adp _ _ Vi,Int.zero_pow ak]at hp;cases hp
theorem aRv{a:Int}(h:Pn a)(hp:pw a 2305843009213688669=1):wR a=aZ:=by have h0:=alK h 2305843009213688669 fg fg hp;rw[wR,hp,eO ⟨h0,h.2⟩];rfl
theorem aAX{a:Int}(h:wR a=aZ):pw a 2305843009213688669=1/\Pn a:=by rw[wR,au,bf,bf]at h;exact⟨h.2,ak,h.1.2⟩
theorem aRw{a:Int}(h:wR a=aZ)(k:Nat)(hk:k < 18446744073709551616):wR (pw a k)=aZ:=aRv (aqt _ _) (aI5 a k _ hk fg (aAX h).1)
theorem aRx(a:Int):wR (tk a)=aZ:=by
 unfold tk;cases h:wR a
 ·exact Sh
 ·exact h
theorem aAY(p k:Int):wR (HH p k)=aZ:=aRw (aRx p) _ ak
theorem aeS{a:Int}(h:wR a=aZ):tk a=a:=by rw[tk,h];rfl
theorem ab3(k:Int):wR (gX k)=aZ:=aAY 4 k
theorem apV{a:Int}(h:Pn a):qu a 1=a:=by rw[qu,yy,fJ h.1 h.2]
def pm(m:Nat):Nat->Nat->Nat->Nat->Nat
 | 0,_,_,out=>out%m
 |f+1,a,n,out=>if n=0 then out%m else pm m f (a*a%m) (n / 2) (if n%2=1 then out*a%m else out)
theorem aP3(m:Nat):∀(f a n out:Nat),n < 2^f->pm m f a n out=out*a^n%m
 | 0,a,n,out,h=>by obtain rfl:n=0:=ak;rw[pm,Nat.pow_zero,iJ]
 |f+1,a,n,out,h=>by
  have e:(2:Nat)^(f+1)=2^f*2:=Nat.pow_succ (n:=2) (m:=f);rw[pm];split
  ·rename_i h0;subst h0;rw[Nat.pow_zero,iJ]
  ·rw[aP3 m f _ _ _ ak,lZ];have e1:(a*a%m)^(n / 2)%m=a^(2*(n / 2))%m:=by rw[<-Nat.pow_mod,Nat.pow_mul,Nat.pow_two]
   have e2:(if n%2=1 then out*a%m else out)%m=(out*a^(n%2))%m:=by
    split
    ·rename_i h1;rw[h1,Nat.pow_one,Nat.mod_mod]
    ·have h1:n%2=0:=ak;rw[h1,Nat.pow_zero,iJ]
   rw[e1,e2,<-lZ,Nat.mul_assoc,<-pR];have e3:n%2+2*(n / 2)=n:=ak;rw[e3]
theorem aHe:∀(r q:Nat) (f:Nat->Nat),(∀i,i < q->f i < r)->(∀i j,i < j->j < q->f i≠f j)->q<=r
 | 0,q,f,h,_=>by
  rcases jD q with h0 | h0
  ·omega
  ·exact absurd (h 0 h0) (Nat.not_lt_zero _)
 |r+1,q,f,h,g=>by
  by_cases hx:∃i,i < q/\f i=r
  ·obtain⟨i,hi,hr⟩:=hx;have e:=aHe r (q - 1) (λj=>if j < i then f j else f (j+1)) (λj hj=>by
    by_cases h1:j < i
    ·have a:=h j ak;have b:=g j i h1 hi;simp only[h1,bM];omega
    ·have a:=h (j+1) ak;have b:=g i (j+1) ak ak;simp only[h1,bA];omega) (λj k aYR hk=>by
    by_cases h1:j < i
    ·by_cases h2:k < i
     ·simp only[h1,h2,bM];exact g j k aYR ak
     ·simp only[h1,h2,bM,bA];exact g j (k+1) ak ak
    ·have h2:¬k < i:=ak;simp only[h1,h2,bA];exact g (j+1) (k+1) ak ak)
   omega
  ·have e:=aHe r q f (λi hi=>by
    have a:=h i hi;have b:f i≠r:=λx=>hx ⟨i,hi,x⟩
    omega) g
   omega
theorem ayf(a m:Nat)(h1:1%m=1):∀i j:Nat,a^i%m=1->a^j%m=1->a^(Nat.gcd i j)%m=1:=by
 intro i
 induction i using Nat.strongRecOn with
 |ind i ih=>
  intro j hi hj;rcases jD i with h0 | h0
  ·subst h0;rw[Nat.gcd_zero_left];exact hj
  ·rw[Nat.gcd_rec];refine ih (j%i) (Nat.mod_lt _ h0) i ?_ hi
   have e:a^j=(a^i)^(j / i)*a^(j%i):=by rw[<-Nat.pow_mul,<-pR,Nat.div_add_mod]
   rw[e,lZ,Nat.pow_mod,hi,Nat.one_pow,h1,jj,Nat.mod_mod]at hj;exact hj
def aEn(n:Nat):Prop:=∀d,d∣n->d=1\/d=n
theorem ayg{n k:Nat}(h:aEn n)(h0:0 < k)(hk:k < n):Nat.gcd k n=1:=by
 rcases h _ (Nat.gcd_dvd_right k n) with h1 | h1
 ·exact h1
 ·have:=Nat.le_of_dvd h0 (Nat.gcd_dvd_left k n);omega
theorem ap2{n:Nat}(hn:1 < n)(h:∀r,1 < r->r*r<=n->¬r∣n):aEn n:=by
 intro d hd;obtain⟨e,he⟩:=hd;have aUX:0 < d:=Nat.pos_of_ne_zero (by intro x;rw[x,ou]at he;omega);have akP:0 < e:=Nat.pos_of_ne_zero (by intro x;rw[x,Nat.mul_zero]at he;omega);by_cases h1:d=1
 ·exact .inl h1
 by_cases h2:e=1
 ·right;rw[he,h2,iJ]
 exfalso;rcases Nat.le_total d e with hle | hle
 ·exact h d ak (by rw[he];exact Nat.mul_le_mul_left d hle) ⟨e,he⟩
 ·exact h e ak (by rw[he];exact di e hle) ⟨d,by rw[he,ri]⟩
theorem aRZ{n q b:Nat}(hn:1 < n)(hq:aEn q)(aSP:1 < q)(aWo:n < q*q)(hb:b^q%n=1)(hg:Nat.gcd (b - 1) n=1)(aUW:0 < b):aEn n:=by
 refine ap2 hn λr hr aZc akW=> ?_
 have aXC:1%r=1:=kM hr;have aXG:b^q%r=1:=by have:=Nat.mod_mod_of_dvd (b^q) akW;rw[<-this,hb,aXC]
 have il:b%r≠1:=by
  intro hx;have hd:r∣b - 1:=by have e:=Nat.dvd_sub_mod (n:=r) b;rw[hx]at e;exact e
  have:=Nat.dvd_gcd hd akW;rw[hg]at this;have:=Nat.le_of_dvd ak this;omega
 have key:q<=r:=by
  refine aHe r q (λi=>b^i%r) (λi _=>Nat.mod_lt _ ak) λi j aU5 hj he=> ?_
  have e1:b^(j - i)%r=1:=by
   have x1:b^(q - i)*b^i%r=b^(q - i)*b^j%r:=by rw[lZ,he,<-lZ]
   rw[<-pR,<-pR,show q - i+i=q by omega,show q - i+j=q+(j - i) by omega,pR,lZ,aXG,jj,Nat.mod_mod]at x1;exact x1.symm
  have e2:=ayf b r aXC (j - i) q e1 aXG;rw[ayg hq ak ak,Nat.pow_one]at e2;exact il e2
 have:q*q<=r*r:=Nat.mul_le_mul key key;omega
def aIv(n:Nat):Nat->Bool
 | 0=>aZ
 |k+1=>n%(k+2) !=0 && aIv n k
theorem ap1(n:Nat):∀k,aIv n k=aZ->∀d,1 < d->d<=k+1->¬d∣n
 | 0,_,d,h1,h2=>ak
 |k+1,h,d,h1,h2=>by
  rw[aIv,au]at h;by_cases hd:d=k+2
  ·intro hx;have:=Nat.mod_eq_zero_of_dvd hx;rw[hd]at this;rw[this]at h;exact absurd h.1 fg
  ·exact ap1 n k h.2 d h1 ak
theorem aWU:aEn 7930907:=by
 refine ap2 fg λr hr aZc=>ap1 7930907 2820 (by decide+kernel) r hr ?_
 apply Nat.le_of_not_lt;intro h;have:2822*2822<=r*r:=Nat.mul_le_mul ak ak;omega
theorem S4{n q:Nat}(a e:Nat)(hq:aEn q)(aSP:1 < q)(hn:1 < n)(aWo:n < q*q)(he:e < 2^64)(Vi:q < 2^64)(h1:pm n 64 (pm n 64 a e 1) q 1=1)(h2:Nat.gcd (pm n 64 a e 1 - 1) n=1)(h3:0 < pm n 64 a e 1):aEn n:=by generalize pm n 64 a e 1=b at*;rw[aP3 _ _ _ _ _ Vi,jj]at h1;exact aRZ hn hq aSP aWo h1 h2 h3
theorem aWT:aEn 11864636873:=S4 (q:=7930907) 2 1496 aWU fg fg fg fg fg (by decide+kernel) (by decide+kernel) (by decide+kernel)
theorem aWS:aEn 1732236983459:=S4 (q:=11864636873) 2 146 aWT fg fg fg fg fg (by decide+kernel) (by decide+kernel) (by decide+kernel)
theorem aWR:aEn 249442125618097:=S4 (q:=1732236983459) 2 144 aWS fg fg fg fg fg (by decide+kernel) (by decide+kernel) (by decide+kernel)
theorem aWV:aEn 2305843009213688669:=S4 (q:=249442125618097) 2 9244 aWR fg fg fg fg fg (by decide+kernel) (by decide+kernel) (by decide+kernel)
def gP(n:Nat):Int:=((4^n%4611686018427377339:Nat):Int)
theorem agf(a m q:Nat)(h1:1%m=1)(h:a^q%m=1)(n:Nat):a^(n%q)%m=a^n%m:=by
 have e:a^n=(a^q)^(n / q)*a^(n%q):=by rw[<-Nat.pow_mul,<-pR,Nat.div_add_mod]
 rw[e,lZ,Nat.pow_mod (a^q),h,Nat.one_pow,h1,jj,Nat.mod_mod]
theorem aPu:∀q:Nat,q=2305843009213688669->4^q%4611686018427377339=1:=by
 intro q hq;have h:=ahV;rw[adp _ _ fg]at h;rw[<-hq]at h;have e:(((4^q%4611686018427377339:Nat)):Int)=1:=by rw[qW,lO];exact h
 omega
theorem akK(n:Nat):gP (n%2305843009213688669)=gP n:=by unfold gP;obtain⟨q,hq⟩:∃q:Nat,q=2305843009213688669:=⟨_,rfl⟩;rw[<-hq,agf 4 4611686018427377339 q fg (aPu q hq)]
theorem aTr(n:Nat)(h:n < 18446744073709551616):pw 4 n=gP n:=by rw[adp _ _ h];unfold gP;rw[qW,lO];rfl
theorem aG3(k:Int)(h:0<=k):(k%2305843009213688669).toNat=k.toNat%2305843009213688669:=ak
theorem Zv(k:Int)(h:0<=k):gX k=gP k.toNat:=by show pw (tk 4) _=_;rw[aeS aNz,aTr _ ak,aG3 k h,akK]
theorem aM1(n:Nat):gP n=gX n:=by rw[Zv _ ak,aa]
theorem abG(n:Nat):wR (gP n)=aZ:=by rw[aM1];exact ab3 _
theorem atT(a b:Nat):qu (gP a) (gP b)=gP (a+b):=by unfold qu gP;rw[<-lN,pR];have e:(4611686018427377339:Int)=((4611686018427377339:Nat):Int):=rfl;rw[e,<-qW,<-lZ]
theorem aG4(a:Nat)(c:Int)(h:0<=c):HH (gP a) c=gP (a*c.toNat):=by
 show pw (tk (gP a)) _=_;rw[aeS (abG a),adp _ _ ak,aG3 c h];obtain⟨b,hb⟩:∃b:Nat,b=c.toNat:=⟨_,rfl⟩;rw[<-hb];obtain⟨d,hd⟩:∃d:Nat,d=b%2305843009213688669:=⟨_,rfl⟩;have hx:gP (a*b)=gP (a*d):=by rw[<-akK (a*b),<-akK (a*d),lZ a b,lZ a d,hd,Nat.mod_mod]
 rw[hx,<-hd];unfold gP;have e:(4611686018427377339:Int)=((4611686018427377339:Nat):Int):=rfl;rw[e,<-lO,<-qW,<-Nat.pow_mod,<-Nat.pow_mul]
theorem axB:gP 0=1:=fg
theorem aTq{n:Nat}(h:0 < n)(hn:n < 2305843009213688669):gP n≠1:=by intro he;unfold gP at he;have he:4^n%4611686018427377339=1:=ak;obtain⟨q,hq⟩:∃q:Nat,q=2305843009213688669:=⟨_,rfl⟩;have e:=ayf 4 4611686018427377339 fg n q he (aPu q hq);rw[ayg (by rw[hq];exact aWV) h ak]at e;exact absurd e fg
theorem aOR(k:Int)(m:List Int)(h0:0 < k)(hq:k < 2305843009213688669):BM (gX k) m 1 (nH k m)=aZ:=by
 obtain⟨kn,hk⟩:∃kn:Nat,kn=k.toNat:=⟨_,rfl⟩;have hb:gX k=gP kn:=by rw[hk];exact Zv k ak
 have hn:=abE (aKv auD [jV k,m]);unfold nH aIw;rw[if_pos ⟨hq,ak⟩];obtain⟨n,il⟩:∃n,RZ (aKv auD [jV k,m])=n:=⟨_,rfl⟩;rw[il]at hn ⊢;unfold ajz;have hr:Zs [gX n,1]=gP n.toNat:=by show qu (qu 1 (tk (gX n))) (tk 1)=_;rw[aeS (ab3 n),aeS Sh,apV (xS _ _),Zv n ak,<-axB,atT,aR]
 rw[hr,hb];have hc:=aaN (gP n.toNat) (gP kn) m;obtain⟨c,aQ3⟩:∃c,Il (gP n.toNat) (gP kn) m=c:=⟨_,rfl⟩;rw[aQ3]at hc ⊢;have ha:=awW n (als c k);have h1:=hc.1;have h2:=ha.1;have h3:=ha.2;unfold BM;rw[if_neg (by
  intro h;rcases h with h | h | h | h | h
  ·exact aTq ak ak h
  ·rw[abG]at h;cases h
  ·rw[Sh]at h;cases h
  ·have h:wR (gP n.toNat)=aQ:=h;rw[abG]at h;cases h
  ·exact h h3)]
 have e:gX (asx n (als c k))=Zs [gP n.toNat,HH (gP kn) c,apZ 1]:=by
  show _=qu (qu (qu 1 (tk (gP n.toNat))) (tk (HH (gP kn) c))) (tk (apZ 1));rw[aN0,aeS Sh,apV (xS _ _),aeS (abG _),aG4 _ _ h1,aeS (abG _)];rw[show(qu 1 (gP n.toNat))=gP n.toNat by rw[<-axB,atT,aR]];rw[atT,Zv _ h2];have hx:(asx n (als c k)).toNat=(n.toNat+kn*c.toNat)%2305843009213688669:=by
   unfold asx als aIy;have g1:c%2305843009213688669=c:=fJ h1 hc.2;have g2:k%2305843009213688669=k:=fJ ak hq;have g3:n%2305843009213688669=n:=fJ ak hn.2;rw[g1,g2,g3,iH _ (qU _)];have g4:((kn*c.toNat:Nat):Int)=c*k:=by rw[lN,hk,Int.toNat_of_nonneg ak,Int.toNat_of_nonneg h1,qV]
   have g5:0<=c*k:=by rw[<-g4];exact iE _
   obtain⟨z,hz⟩:∃z,c*k=z:=⟨_,rfl⟩;rw[hz]at g4 g5 ⊢;obtain⟨zn,aZn⟩:∃zn,kn*c.toNat=zn:=⟨_,rfl⟩;rw[aZn]at g4 ⊢;omega
  rw[hx,akK]
 show decide (gX (asx n (als c k))=Zs [gP n.toNat,HH (gP kn) (Il (gP n.toNat) (gP kn) m),apZ 1])=aZ;rw[aQ3];exact eO e
def JS{α:Type}(p:α->Bool):List α->Int->Int⊕Unit
 |[],_=> .inr ()
 |x::xs,i=>if p x then .inl i else JS p xs (i+1)
def api{α:Type}(p:α->Bool)(l:List α):Int:=match JS p l 0 with | .inl i=>i | .inr _=> -1
theorem apj{α:Type}(p:α->Bool):∀(l:List α) (i:Int),0<=i->(match JS p l i with | .inl i=>decide (i>=0) | .inr _=>aQ)=l.any p
 |[],_,_=>rfl
 |x::l,i,h=>by
  rw[JS,sz];cases hp:p x
  ·simp only[bw,bA,xB];exact apj p l (i+1) ak
  ·simp[h]
theorem abR{α:Type}(p:α->Bool)(l:List α):Dv (api p l) 0=l.any p:=by
 have:=apj p l 0 ak;unfold api Dv;cases h:JS p l 0
 ·rw[h]at this;exact this
 ·rw[h]at this;rw[<-this];rfl
def OZ(k:Int):Bool:=decide (¬(k < 2305843009213688669/\k≠0))
def HJ(t:dR)(i br:Int)(ks:List Int):Bool:=iR t && (decide (0<=i/\i < t.1.length/\0<=br/\br < 4/\ks.length<=12) && !(ks.any OZ))
def aJ7(t:dR)(i br:Int)(ks:List Int)(sc:Int):dR×Int:=if HJ t i br ks then((t.1.set i.toNat ((nth gT t.1 i.toNat).1,(br,ks.map (λk=>nH k (iD t)),sc,()),()),t.2),0) else(([],[],0,()),1)
theorem HX{t:dR}:Sm (iD t):=by
 unfold iD;split
 ·exact amm _ _
 ·exact⟨by rw[cD],λx hx=>by obtain rfl:=(ot.1 hx).2;exact⟨fg,fg⟩⟩
def aDD:Int->Prop:=λ_=>True
def ayz:Int->Bool:=λk=>OZ k
def YJ:Fs Tryz.prog aDD bC ayz:=fw 85 Tryz.f85 (λkv=>([.d tu kv],[])) (λx=>⟨.d .bool x,[],[]⟩) [av tu] [Vg]
theorem aKI(kv)(k:K1 R):YJ.A kv k=aL (oV kv 0) (k (YJ.out aZ)) (al (G3.call kv) λx1=>k (YJ.out (!x1))):=cr
theorem aKJ:YJ.Ok:=by
 intro(k:Int) _;rw[aKI,PH (d:=k) trivial];simp only[bC,ayz,OZ,ah,bC,RY];by_cases h:k=0
 ·rw[du h,aj,aM ak]
 ·rw[fm h,ao];by_cases h2:k < 2305843009213688669
  ·rw[aX h2,aV ak];rfl
  ·rw[aU h2,aM ak];rfl
theorem aDE:YJ.RS:=rE [.d tu] YJ
def aKK:=YJ.fC aKJ
abbrev yY:=Bs×Int×Int
def oO:yY->AS:=λ(nf,t7,t8)=>⟨([.d tU nf,.fn 85 (.nil)]++aS 5 ([.d ti t7,.d ti t8]++aS 10 [])),[],(ab 19 [])⟩
def pv:Int->Exit×AS:=λx=>(.ret,⟨(aS 4 ([.d ti x]++aS 14 [])),[],(ab 19 [])⟩)
def yn:Unit->Exit×AS:=λx=>(.exit 0,⟨(aS 19 []),[],(ab 19 [])⟩)
abbrev Lb:=(Int)⊕(Unit)
abbrev Yt:=(Int)⊕(Unit)
def E5:Lb->Out (Exit×AS):=λx=> .br x.isLeft (.get x.getLeft? λa=> .ok (pv a)) (.get x.getRight? λb=> .ok (yn b))
def kF:yY->Yt->Lb:=λ(nf,t7,t8) y=>match y with | .inl y=> .inl y | .inr z=> .inr (z)
def ym:yY->Prop:=λ(l,n,i)=>(∀x∈l,True)/\l.length<=1000000000/\n=l.length/\∃k:Nat,k<=l.length/\i=k
def om:yY->Yt:=λ(l,n,i)=>JS OZ (l.drop i.toNat) i
def avX:Bs->Prop:=λl=>(∀x∈l,True)/\l.length<=1000000000
def aeq:Bs->Int:=λl=>api OZ l
def Ys:=dI.fI oO ym kF om E5
def Lc:yY->Option Lb:=gO Ys oO
def zt:Fs Tryz.prog avX bC aeq:=fw 132 Tryz.f132 (λsv=>([.d tU sv,.fn 85 (.nil)],[])) (λx=>⟨.d ti x,[],[]⟩) [av tU,aD] [aKK] {loops:=oJ [(2,{ba:=[0,1,7,8]})],outs:=oI [(2,{},{ba:=[4]})],gf:=nQ [(2,Ys)]}
def K9:= @eG Tryz.prog (jQ zt.G) zt.an 0 Tryz.f132 0 _ oO
abbrev TH:=j7 Tryz.prog (jQ zt.G) zt.an 0 Tryz.f132 0 oO ym kF om E5
theorem agE:jh Lc ym kF om:=lH (jx [.d tU,.d ti,.d ti] λ_=>cr)
theorem Qv:mK @K9 oO ym kF om E5 TH:=nc
theorem Ld(nf t7 t8)(kn:K2 R)(kx:K3 R):K9 (nf,t7,t8) kn kx=aL (gz t8 t7) (aL (eL t8 (((ag nf):Nat):Int)) (al (YJ.call (nth tu nf (ae t8))) λx1=>aL (x1) (kx (pv t8).1 (pv t8).2) (kn (oO (nf,t7,(bO .i64 t8 (1:Int)))))) aD) (kx (yn ()).1 (yn ()).2):=cr
theorem aC0(sv)(k:K1 R):zt.A sv k=al (Lc (sv,(sv.length:Int),0)) λx2=>aL x2.isLeft (al x2.getLeft? λa3=>k (zt.out a3)) (al x2.getRight? λb4=>k (zt.out (-1))):=cr
theorem amk:TH:=by
 refine Qv (λ(l,n,i)=>l.length - i.toNat) ?_
 rintro⟨l,n,i⟩ ⟨hl,hb,rfl,k,hk,rfl⟩;have hb:l.length<=1000000000:=hb;have hk:k<=l.length:=hk;by_cases h:k < l.length
 ·have hx:=hl _ (aO h);have n1:nth tu l k=l[k]:=cg (t:=tu) h;have hd:JS OZ (l.drop k) k=if OZ l[k] then .inl (k:Int) else JS OZ (l.drop (k+1)) ((k+1:Nat):Int):=by rw[aq h];rfl
  have step:∀ {R:Type} (kn:AS->Option R) (kx:Exit->AS->Option R),K9 (l,(l.length:Int),(k:Int)) kn kx=aL (OZ l[k]) (kx (pv (k:Int)).1 (pv (k:Int)).2) (kn (oO (l,(l.length:Int),((k+1:Nat):Int)))):=by intro R kn kx;rw[Ld,aX ak,bj ak ak,aa,n1,aDE (d:=l[k]) hx,N.mZ ak];rfl
  cases hp:OZ l[k]
  ·left;refine⟨(l,l.length,((k+1:Nat):Int)),⟨hl,hb,rfl,k+1,ak,rfl⟩,by simp only[aa];omega,?_,λkn kx=> ?_⟩
   ·simp only[kF,om,aa,hd,hp,bw,bA]
   ·rw[step,hp,ao]
  ·right;refine⟨pv (k:Int),?_,λkn kx=> ?_⟩
   ·simp only[kF,om,aa,hd,hp,bM];rfl
   ·rw[step,hp,aj]
 ·right;obtain rfl:k=l.length:=ak;refine⟨yn (),?_,λkn kx=> ?_⟩
  ·simp only[kF,om,aa,aN];rfl
  ·rw[Ld,aU ak,ao]
theorem aC1:zt.Ok:=by rintro l ⟨hl,hb⟩;rw[aC0,agE (d:=(l,l.length,0)) ⟨hl,hb,rfl,0,ak,rfl⟩];simp only[ah,kF,om,bg,aG,bC,aeq,api];cases JS OZ l 0 <;> rfl
theorem avY:zt.RS:=rE [.d tU] zt
def aC2:=zt.fC aC1 1 ⟨.fI amk,trivial⟩
def agB:Bs->Prop:=λl=>(∀x∈l,True)/\l.length<=1000000000
def Yr:Bs->Bool:=λl=>l.any OZ
def xu:Fs Tryz.prog agB bC Yr:=fw 88 Tryz.f88 (λsv=>([.d tU sv,.fn 85 (.nil)],[])) (λx=>⟨.d .bool x,[],[]⟩) [av tU,aD] [aC2]
theorem amg(sv)(k:K1 R):xu.A sv k=al (zt.call sv) λx1=>k (xu.out (Dv x1 0)):=cr
theorem amh:xu.Ok:=by rintro l ⟨hl,hb⟩;rw[amg,avY (d:=l) ⟨hl,hb⟩];simp only[ah,bC,aeq,abR];rfl
theorem agC:xu.RS:=rE [.d tU] xu
def ami:=xu.fC amh
abbrev QK:=Int×Bs×Int×Int×dR×(Int×Unit)×Int×Nat×(Int×Unit)×Bs×(List Sg)
def Bk:QK->(YO×(List Sg))->((Int×dR×(Int×Unit))×(YO×(List Sg))):=λ(ab2,t52,t53,t54,n5,n10,n13,I9,aik,n14,aNV) y=>((ab2,n5,n10),y)
abbrev ayA:=dR×Int×Int×Bs×Int
def amJ:QK->Prop:=λ(i0,l,n,i,t,e,br,L,sc,id,r)=>l.length<=1000/\(∀x∈l,oU x)/\Sm id/\∃k:Nat,k<=l.length/\i=k/\n=l.length/\L=r.length/\r.length<=1000+k
def HW:QK->(YO×(List Sg)):=λ(i0,l,n,i,t,e,br,L,sc,id,r)=>((br,r++(l.drop i.toNat).map (λk=>nH k id),sc),r++(l.drop i.toNat).map (λk=>nH k id))
def aDF:ayA->Prop:=λ(t,i,br,ks,sc)=>ng t/\(∀x∈ks,oU x)/\ks.length<=1000000000
def amI:ayA->(dR×Int):=λ(t,i,br,ks,sc)=>aJ7 t i br ks sc
def wc:Ls amJ Bk HW:=sH (λ(ab2,t52,t53,t54,n5,n10,n13,I9,aik,n14,aNV)=>⟨([bH,.d ti ab2,bH,bH,bH,fx 5]++aS 4 ([fx 10,bH,bH,fx 13,fx 14]++aS 37 ([.d tU t52,.d ti t53,.d ti t54]++aS 21 []))),[],(bS 5 ([ed (.d fa n5)]++bS 4 ([ed (.pr (.dy) (.pr (.dy) (.d (.pair ti .unit) n10))),[],[],ed (.pr (.d ti n13) (.pr (pc 64 I9) (.d (.pair tu .unit) aik))),ed (.d tH n14)]++bS 49 ([ed (.vec 143 BB aNV)]++bS 11 []))))⟩) (λx=>(.exit 0,⟨([bH,.d ti x.1.1,bH,bH,bH,fx 5]++aS 4 ([fx 10,bH,bH,fx 13]++aS 62 [])),[],(bS 5 ([ed (.d fa x.1.2.1)]++bS 4 ([ed (.pr (.dy) (.pr (.dy) (.d (.pair ti .unit) x.1.2.2))),[],[],ed (.d aDe x.2.1)]++bS 50 ([[.obj 0 aZ (.vec 143 BB x.2.2)]]++bS 11 []))))⟩))
def wT:Fs Tryz.prog aDF bC amI:=fw 39 Tryz.f39 (λ(t,inv,branch,keys,secret)=>([.d fa t,.d ti inv,.d ti branch,.d tU keys,.d tu secret],[])) (λx=>⟨.cons (.d fa x.1) (.cons (.d ti x.2) (.nil)),[],[]⟩) [av fa,av ti,av ti,av tU,av tu] [uV,ayB,ami,Wy,aKp,awk] {bT:=[5],loops:=oJ [(7,{ba:=[1,5,10,13,14,52,53,54],sites:=[5,10,13,14,64],owns:=[⟨13,[.snd,.fst],64,82⟩]})],outs:=oI [(7,{ba:=[1,5,10,13],sites:=[5,10,13,64],MN:=[⟨13,[.snd,.fst],(.slice BB)⟩]},{ba:=[10,11]})],gf:=nQ [(7,wc.E)],res:=[av fa,aD]}
theorem amK:wc.RS:=rL [.d ti,.d tU,.d ti,.d ti,.d fa,.d (.pair ti .unit),.d ti,.n,.d (.pair tu .unit),.d tB,.d (.slice BB)] wc
theorem OD(ab2 t52 t53 t54 n5 n10 n13 I9 aik n14 aNV)(kn:K2 R)(kx:K3 R):wT.R 0 wc (ab2,t52,t53,t54,n5,n10,n13,I9,aik,n14,aNV) kn kx=aL (gz t54 t53) (aL (eL t54 (t52.length:Int)) (al (Yw.call ((nth tu t52 (ae t54)),n14)) λx4=>aL (decide (I9<=(ag aNV))) (aL (dw (I9+1) 16) (kn (wc.st (ab2,t52,t53,(bO .i64 t54 1),n5,n10,n13,(I9+1),aik,n14,((aW I9 aNV)++ [x4])))) aD) aD) aD) (aL (decide (0=0/\(0+I9)<=(ag aNV))) (wc.go kx ((ab2,n5,n10),((n13,((cut aNV 0 I9),aik)),aNV))) aD):=cr
theorem aKL(t inv branch keys secret)(k:K1 R):wT.A (t,inv,branch,keys,secret) k=al (jt.call t) λasd=>aL (!asd) (k (wT.out ((([]:List iF),(([]:List iu),(0,()))),1))) (aL (gz inv 0) (k (wT.out ((([]:List iF),(([]:List iu),(0,()))),1))) (aL (Dv inv (t.1.length:Int)) (k (wT.out ((([]:List iF),(([]:List iu),(0,()))),1))) (al (agX.call (branch,(([]:List Sg),(secret,())))) λayQ=>aL (!ayQ) (k (wT.out ((([]:List iF),(([]:List iu),(0,()))),1))) (aL (pJ (keys.length:Int) 12) (k (wT.out ((([]:List iF),(([]:List iu),(0,()))),1))) (al (xu.call keys) λaPj=>aL (aPj) (k (wT.out ((([]:List iF),(([]:List iu),(0,()))),1))) (al (tid.call t) λMH=>al (wc.call (inv,keys,(keys.length:Int),0,t,(0,()),branch,0,(secret,()),MH,([]:List Sg))) λafz=>al (nk.call afz.1.2.1) λajn=>aL (eL afz.1.1 ((ajn.1:Nat):Int)) (aL (decide ((0+(ae afz.1.1)) < (ag ajn.2.2))) (aL (decide ((((0+(ae afz.1.1))*36)+33)=((0+((ae afz.1.1)*36))+33))) (aL (decide ((0+(ae afz.1.1)) < (ag ajn.2.2))) (aL (decide (0=0/\(0+ajn.1)<=(ag (gN ajn.2.2 (0+(ae afz.1.1)) ((nth gT ajn.2.2 (0+(ae afz.1.1))).1,(afz.2.1,(nth gT ajn.2.2 (0+(ae afz.1.1))).2.2)))))) (k (wT.out (((cut (gN ajn.2.2 (0+(ae afz.1.1)) ((nth gT ajn.2.2 (0+(ae afz.1.1))).1,(afz.2.1,(nth gT ajn.2.2 (0+(ae afz.1.1))).2.2))) 0 ajn.1),ajn.2.1),0))) aD) aD) aD) aD) aD)))))):=cr
theorem arV:(wT.lF 0 wc):=by
 refine(wT.mY 0 wc) (λ(i0,l,n,i,t,e,br,L,sc,id,r)=>l.length - i.toNat) ?_
 rintro⟨i0,l,n,i,t,e,br,L,sc,id,r⟩ ⟨hlen,hu,hm,k,hk,rfl,rfl,rfl,hr⟩;have hlen:l.length<=1000:=hlen;have hk:k<=l.length:=hk;have hr:r.length<=1000+k:=hr;by_cases h:k < l.length
 ·left;have n1:nth tu l k=l[k]:=cg (t:=tu) h;have hd:bZ k l=l[k]::bZ (k+1) l:=aq h;refine⟨(i0,l,l.length,((k+1:Nat):Int),t,e,br,r.length+1,sc,id,r++ [nH l[k] id]),⟨hlen,hu,hm,k+1,ak,rfl,rfl,by rw[ai];rfl,by rw[ai];show r.length+1<=_;omega⟩,by simp only[aa];omega,?_,λkn kx=> ?_⟩
  ·simp only[Bk,HW,aa,hd,bY,aI,dv]
  ·rw[OD,aX ak,bj ak ak,aa,n1,aDb (d:=(l[k],id)) ⟨hu _ (aO h),hm⟩];simp only[aj,ah,bC,amq];rw[aM (ay _),dC ak ak,N.mZ ak,bQ];rfl
 ·right;obtain rfl:k=l.length:=ak;intro R kn kx;rw[OD,aU ak,ao];simp only[Bk,HW,aa,aN,iY,bm,aR,ay,jO,cO,aj,fB]
theorem aKM:wT.Ok:=by
 rintro⟨⟨is,os,nt,u⟩,i,br,ks,sc⟩ ⟨hv,hu,hl⟩;have hv:ng (is,os,nt,u):=hv;have hl:ks.length<=1000000000:=hl;rw[aKL,qP (d:=(is,os,nt,u)) hv.1];simp only[ah,bC,sX,bC,amI,aJ7,HJ];rcases jI (iR (is,os,nt,u)) with jR | jR;rotate_left
 ·simp only[jR];rfl
 obtain⟨⟨_,a2,a3,_⟩,b1,b2⟩:=kk jR;have a2:is.length<=64:=a2;simp only[jR,cQ,ao,bF];by_cases h1:i < 0
 ·rw[aX h1,aj,aV ak];rfl
 rw[aU h1,ao];by_cases h2:i>=(is.length:Int)
 ·rw[hZ h2,aj,aV ak];rfl
 rw[ff h2,ao,arZ (d:=(br,([],(sc,())))) trivial];simp only[ah,bC,amL,CP];by_cases h3:0<=br/\br < 4
 ·rw[aM h3];by_cases h4:ks.length > 12
  ·rw[dd ak,aV (p:=0<=i/\i < (is.length:Int)/\0<=br/\br < 4/\ks.length<=12) ak];rfl
  ·rw[cH ak,aM (p:=0<=i/\i < (is.length:Int)/\0<=br/\br < 4/\ks.length<=12) ak,agC (d:=ks) ⟨λ_ _=>trivial,hl⟩];simp only[ah,bC,Yr];rcases jI (ks.any OZ) with hb | hb;rotate_left
   ·simp only[hb];obtain⟨k,rfl⟩:∃k:Nat,i=k:=⟨i.toNat,ak⟩;have hk:k < is.length:=ak;simp only[show(([]:List Sg).length<=12)=True from eq_true (aP _),cO,xA,cQ,fH,ao,bF,bM];rw[HQ (d:=(is,os,nt,u)) hv];simp only[ah,bC,YA];rw[amK (d:=((k:Int),ks,ks.length,0,(is,os,nt,u),(0,()),br,0,(sc,()),iD (is,os,nt,u),[])) ⟨by show ks.length<=_;omega,hu,HX,0,aP _,rfl,rfl,rfl,aP _⟩];simp only[ah,Bk,HW,bg,aG,aY];rw[arK (d:=(is,os,nt,u)) jR];simp only[ah,bC,aja,aa,aR,cK,bj (show(0:Int)<=(k:Int) by omega) (show(k:Int) < (is.length:Int) by omega),aj,aM hk,cO,sZ,ay,jO];rw[fB (by rw[sZ])]
   ·simp only[hb];rfl
 ·rw[aV h3,aV (p:=0<=i/\i < (is.length:Int)/\0<=br/\br < 4/\ks.length<=12) ak];rfl
theorem aDG:wT.RS:=rE [.d fa,.d ti,.d ti,.d tU,.d tu] wT
def aKN:=wT.fC aKM 1 ⟨.fI arV,trivial⟩
abbrev fv:Ty:=(.pair gV (.pair ti .unit))
abbrev eV:=(iu×(Int×Unit))
abbrev aDd:Ty:=(.pair bh (.pair fv .unit))
abbrev afD:=(bJ×(eV×Unit))
abbrev cR:Ty:=(.pair (.slice aDd) (.pair (.slice bh) .unit))
abbrev cG:=((List afD)×((List bJ)×Unit))
def aEL:(Bs×Bs)->Prop:=λ_=>True
def aEK:(Bs×Bs)->Int:=λ(a,b)=>afO a b
def asH:Fs Tryz.prog aEL bC aEK:=fw 64 Tryz.f64 (λ(a,b)=>([.d tB a,.d tB b],[])) (λx=>⟨.d ti x,[],[]⟩) [av tB,av tB] [⟨108,nh,aw0,.of (aQj (fn:=Tryz.f108) cr cr cr cr cr) (by rfl)⟩]
theorem aLX(a b)(k:K1 R):asH.A (a,b) k=al (ans (a,b)) λx1=>k (asH.out x1):=cr
theorem aLY:asH.Ok:=by rintro⟨a,b⟩ _;rw[aLX,aw1];rfl
theorem aEM:asH.RS:=rE [.d tB,.d tB] asH
def aLZ:=asH.fC aLY
def aHu:Int->Prop:=λ_=>True
def ak1:Int->Bool:=λ_=>aQ
def apk:Fs Tryz.prog aHu bC ak1:=fw 109 Tryz.f109 (λx=>([.d ti x],[])) (λx=>⟨.d .bool x,[],[]⟩) [av ti]
theorem aNr(x)(k:K1 R):apk.A x k=k (apk.out (zg x x)):=cr
theorem aNs:apk.Ok:=by intro x _;rw[aNr];simp only[bC,ak1,dP rfl]
theorem apl:apk.RS:=rE [.d ti] apk
def aNt:=apk.fC aNs
def an9(x y:Int):Int:=if x < y then -1 else if x > y then 1 else 0
def aHq:(Int×Int)->Prop:=λ_=>True
def aua:(Int×Int)->Int:=λ(x,y)=>an9 x y
def YV:Fs Tryz.prog aHq bC aua:=fw 65 Tryz.f65 (λ(x,yv)=>([.d ti x,.d ti yv],[])) (λx=>⟨.d ti x,[],[]⟩) [av ti,av ti] [aNt]
theorem aNl(x yv)(k:K1 R):YV.A (x,yv) k=al (apk.call x) λx1=>al (apk.call yv) λx2=>aL (x1) (aL (x2) (k (YV.out 0)) (k (YV.out (-1)))) (aL (x2) (k (YV.out 1)) (aL (gz x yv) (k (YV.out (-1))) (aL (pJ x yv) (k (YV.out 1)) (k (YV.out 0))))):=cr
theorem aNm:YV.Ok:=by
 rintro⟨x,y⟩ _;rw[aNl,apl (d:=x) trivial];simp only[ah,bC,ak1];rw[apl (d:=y) trivial];simp only[ah,bC,ak1,ao,bC,aua,an9];by_cases h:x < y
 ·rw[aX h,aj,if_pos h]
 ·rw[aU h,ao,if_neg h];by_cases h2:x > y
  ·rw[dd h2,aj,if_pos h2]
  ·rw[cH h2,ao,if_neg h2]
theorem aHr:YV.RS:=rE [.d ti,.d ti] YV
def aNn:=YV.fC aNm
abbrev JC:=Int×(List Int)×Int×Int
def Bx:JC->AS:=λ(zero,t6,t7,t8)=>⟨([bH,bH,bH,.d ti zero,bH,bH,.d (.slice ti) t6,.d ti t7,.d ti t8]++aS 9 []),[],(ab 18 [])⟩
def GH:Int->Exit×AS:=λx=>(.ret,⟨([bH,bH,.d ti x]++aS 15 []),[],(ab 18 [])⟩)
def GI:Int->Exit×AS:=λx=>(.exit 0,⟨([bH,bH,bH,.d ti x]++aS 14 []),[],(ab 18 [])⟩)
abbrev aa5:=(Int)⊕(Int)
abbrev aoh:=(Int)⊕(Unit)
def Ph:aa5->Out (Exit×AS):=λx=> .br x.isLeft (.get x.getLeft? λa=> .ok (GH a)) (.get x.getRight? λb=> .ok (GI b))
def pZ:JC->aoh->aa5:=λ(zero,t6,t7,t8) y=>match y with | .inl y=> .inl y | .inr z=> .inr (zero)
def aSX:List Int->Int
 |[]=>0
 |x::l=>if x≠0 then x else aSX l
def aP1:List Int->Int⊕Unit
 |[]=> .inr ()
 |x::l=>if x≠0 then .inl x else aP1 l
theorem aP2:∀l:List Int,aSX l=match aP1 l with | .inl x=>x | .inr _=>0
 |[]=>rfl
 |x::l=>by
  simp only[aSX,aP1];split
  ·rfl
  ·exact aP2 l
def GG:JC->Prop:=λ(z,l,n,i)=>z=0/\l.length<=1000000000/\n=l.length/\∃k:Nat,k<=l.length/\i=k
def yH:JC->aoh:=λ(z,l,n,i)=>aP1 (l.drop i.toNat)
def aMF:(List Int)->Prop:=λl=>l.length<=1000000000
def aF4:(List Int)->Int:=λl=>aSX l
def aof:=dI.fI Bx GG pZ yH Ph
def W7:JC->Option aa5:=gO aof Bx
def aD8:Fs Tryz.prog aMF bC aF4:=fw 63 Tryz.f63 (λjL=>([.d (.slice ti) jL],[])) (λx=>⟨.d ti x,[],[]⟩) [av (.slice ti)] [] {loops:=oJ [(3,{ba:=[3,6,7,8]})],outs:=oI [(3,{ba:=[3]},{ba:=[2]})],gf:=nQ [(3,aof)]}
def aog:= @eG Tryz.prog (jQ aD8.G) aD8.an 0 Tryz.f63 0 _ Bx
abbrev ahG:=j7 Tryz.prog (jQ aD8.G) aD8.an 0 Tryz.f63 0 Bx GG pZ yH Ph
theorem atw:jh W7 GG pZ yH:=lH (jx [.d ti,.d (.slice ti),.d ti,.d ti] λ_=>cr)
theorem YQ:mK @aog Bx GG pZ yH Ph ahG:=nc
theorem JD(zero t6 t7 t8)(kn:K2 R)(kx:K3 R):aog (zero,t6,t7,t8) kn kx=aL (gz t8 t7) (aL (eL t8 (((ag t6):Nat):Int)) (aL (zg (nth ti t6 (ae t8)) zero) (kx (GH (nth ti t6 (ae t8))).1 (GH (nth ti t6 (ae t8))).2) (kn (Bx (zero,t6,t7,(bO .i64 t8 (1:Int)))))) aD) (kx (GI zero).1 (GI zero).2):=cr
theorem aQB(jL)(k:K1 R):aD8.A jL k=al (W7 (0,jL,(jL.length:Int),0)) λx1=>aL x1.isLeft (al x1.getLeft? λa2=>k (aD8.out a2)) (al x1.getRight? λb3=>k (aD8.out b3)):=cr
theorem azZ:ahG:=by
 refine YQ (λ(z,l,n,i)=>l.length - i.toNat) ?_
 rintro⟨z,l,n,i⟩ ⟨rfl,hl,rfl,k,hk,rfl⟩;by_cases h:k < l.length
 ·have hd:l.drop k=l[k]::l.drop (k+1):=aq h;have n1:nth ti l k=l[k]:=cg (t:=ti) h;by_cases h2:l[k]≠0
  ·right;refine⟨GH l[k],?_,λkn kx=> ?_⟩;rotate_left
   ·rw[JD,aX ak,aj,bj ak ak,aj,aa,n1,fD h2,aj]
   ·simp only[pZ,yH,aa,hd,aP1,if_pos h2];rfl
  ·left;refine⟨(0,l,(l.length:Int),((k+1:Nat):Int)),⟨rfl,hl,rfl,k+1,ak,rfl⟩,by simp only[aa];omega,?_,λkn kx=> ?_⟩
   ·simp only[pZ,yH,aa,hd,aP1,if_neg h2]
   ·rw[JD,aX ak,aj,bj ak ak,aj,aa,n1,dP ak,ao,N.mZ ak]
 ·right;obtain rfl:k=l.length:=ak;refine⟨GI 0,?_,λkn kx=> ?_⟩;rotate_left
  ·rw[JD,aU ak,ao]
  ·simp only[pZ,yH,aa,aN,aP1];rfl
theorem aQC:aD8.Ok:=by intro l hl;rw[aQB,atw (d:=(0,l,(l.length:Int),0)) ⟨rfl,hl,rfl,0,aP _,rfl⟩];simp only[ah,pZ,yH,bg,aG,bC,aF4];rw[aP2];cases aP1 l <;> rfl
theorem aMG:aD8.RS:=rE [.d (.slice ti)] aD8
def aQD:=aD8.fC aQC 1 ⟨.fI azZ,trivial⟩
abbrev eA:Ty:=(.pair ti (.pair tH (.pair (.slice fa) (.pair ti (.pair (.slice bh) .unit)))))
abbrev dz:=(Int×(Bs×((List dR)×(Int×((List bJ)×Unit)))))
theorem aTl(x y:List Int):Ty.beq tH x y=decide (x=y):=by
 by_cases h:x=y
 ·rw[h,eO rfl];exact beq_refl tH y rfl
 ·rw[iC h];cases hb:Ty.beq tH x y with
  |false=>rfl
  |true=>exact absurd (beq_eq tH x y rfl hb) h
def ayR(o:bJ):Prop:=o.1.length=32/\o.2.1<=9223372036854775807
def awQ(b:dz):Prop:=(b.2.2.1.length<=1000/\∀t∈b.2.2.1,ng t)/\(b.1<=9223372036854775807/\b.2.1.length=32/\b.2.2.2.1<=9223372036854775807)/\b.2.2.2.2.1.length<=1000/\∀o∈b.2.2.2.2.1,ayR o
def asg(n:Nat)(l:List dz):Prop:=n<=l.length/\n<=1000000/\∀b∈l,awQ b
abbrev ajR:=Nat×Nat×(List (bJ×eV))×(List cG)×(List dz)
def ahr:ajR->Unit->(Nat×Nat×(List (bJ×eV))×(List cG)×(List dz)):=λ(o0baL,o1baL,o2,o3,o4) y=>(o0baL,o1baL,o2,o3,o4)
def azI:ajR->Prop:=λ_=>True
def axd:ajR->Unit:=λ_=>()
def aaM:Fs Tryz.prog azI ahr axd:=fw 70 Tryz.f70 (λ(o0baL,o1baL,o2,o3,o4)=>([.ptr (.bt 0) 0 [] 0],[.obj 0 aQ (.pr (.ptr (.bt 1) 0 [] 0) (.pr (.bE (.bt 4) 0 [] 0 0 o0baL) (.d .unit ()))),.obj 0 aQ (.pr (.cI (.bt 2) 0) (.pr (.bE (.bt 3) 0 [] 0 0 o1baL) (.d .unit ()))),.obj 0 aQ (.mp bh fv o2),.obj 0 aQ (.vec 256 cR o3),.obj 0 aQ (.vec 48 eA o4)])) (λx=>⟨.fn 117 (.cons (.ptr (.new 0 0) 0 [] 0) (.nil)),[.obj 0 aQ (.pr (.ptr (.bt 1) 0 [] 0) (.pr (.bE (.bt 4) 0 [] 0 0 x.1) (.d .unit ()))),.obj 0 aQ (.pr (.cI (.bt 2) 0) (.pr (.bE (.bt 3) 0 [] 0 0 x.2.1) (.d .unit ()))),.obj 0 aQ (.mp bh fv x.2.2.1),.obj 0 aQ (.vec 256 cR x.2.2.2.1),.obj 0 aQ (.vec 48 eA x.2.2.2.2)],[.obj 0 aQ (.ptr (.bt 0) 0 [] 0)]⟩) [aD] [] {bT:=[1]}
theorem aFp(o0baL o1baL o2 o3 o4)(k:K1 R):aaM.A (o0baL,o1baL,o2,o3,o4) k=k (aaM.out (o0baL,o1baL,o2,o3,o4)):=cr
theorem aFq:aaM.Ok:=by intro d _;rw[aFp];rfl
theorem azJ:aaM.RS:=rE [.n,.n,.d (.slice (.pair bh fv)),.d (.slice cR),.d (.slice eA)] aaM
def aFr:=aaM.fC aFq
def axJ(x:Bs)(t:dR):Bs:=x++iD t
def aNp(x:Bs)(o:bJ):Bs:=cU (x++o.1) o.2.1
def aQp(b:dz):Bs:=b.2.2.2.2.1.foldl aNp (cU (cU (b.2.2.1.foldl axJ (cU (cU [] b.1++b.2.1) b.2.2.1.length)) b.2.2.2.1) b.2.2.2.2.1.length)
def asP(b:dz):Bs:=tag (bN (⟨#[98,108,111,99,107]⟩:ByteArray)) [aQp b]
theorem ZL:∀(l:List dR) (x:Bs),(l.foldl axJ x).length=x.length+32*l.length
 |[],x=>rfl
 |t::l,x=>by rw[bz,ZL l,axJ,ai,HX.1,aB];omega
theorem Ml:∀(l:List bJ) (x:Bs),(∀o∈l,ayR o)->(l.foldl aNp x).length<=x.length+43*l.length
 |[],x,_=>ay _
 |o::l,x,h=>by
  have h1:=Ml l (aNp x o) λy hy=>h y (aF _ hy)
  have h2:=dN (x++o.1) o.2.1;have h3:=(h o (aK ..)).1;rw[ai]at h2;rw[bz,aB];unfold aNp at h1 ⊢;omega
abbrev UN:=dz×Bs×(List dR)×Int×Int×Bs
def Dg:UN->Bs->((dz×Bs)×(Bs)):=λ(iK,x,t19,t20,t21,n2) y=>((iK,n2),y)
abbrev UO:=Bs×(List bJ)×Int×Int×Bs
def Dh:UO->Bs->((Bs)×(Bs)):=λ(aEh,t39,t40,t41,lG) y=>(lG,y)
def anA:UN->Prop:=λ(b,x,l,n,i,z)=>(l).length<=1000000000/\∃k:Nat,k<=(l).length/\i=k/\n=(l).length/\(l.length<=1000)/\(∀t∈l,ng t)/\(x.length<=1000+32*k)
def LR:UN->Bs:=λ(b,x,l,n,i,z)=>(bZ (ae i) l).foldl axJ x
def anC:UO->Prop:=λ(x,l,n,i,z)=>(l).length<=1000000000/\∃k:Nat,k<=(l).length/\i=k/\n=(l).length/\(l.length<=1000)/\(∀o∈l,ayR o)/\(x.length<=100000+43*k)
def LS:UO->Bs:=λ(x,l,n,i,z)=>(bZ (ae i) l).foldl aNp x
def aEZ:dz->Prop:=λb=>awQ b
def asS:dz->Bs:=λb=>asP b
def zQ:Ls anA Dg LR:=sH (λ(iK,x,t19,t20,t21,n2)=>⟨([bH,.dV eA iK,fx 2,.d tB x]++aS 15 ([.d (.slice fa) t19,.d ti t20,.d ti t21]++aS 34 [])),[],([[],[],ed (.d tH n2)]++bS 53 [])⟩) (λx=>(.exit 0,⟨([bH,.dV eA x.1.1,fx 2,.d tB x.2]++aS 52 []),[],([[],[],ed (.d tH x.1.2)]++bS 53 [])⟩))
def zR:Ls anC Dh LS:=sH (λ(aEh,t39,t40,t41,lG)=>⟨([bH,bH,fx 2,.d tB aEh]++aS 35 ([.d (.slice bh) t39,.d ti t40,.d ti t41]++aS 14 [])),[],([[],[],ed (.d tH lG)]++bS 53 [])⟩) (λx=>(.exit 2,⟨([bH,bH,fx 2,.d tB x.2]++aS 52 []),[],([[],[],ed (.d tH x.1)]++bS 53 [])⟩))
def UM:Fs Tryz.prog aEZ bC asS:=fw 94 Tryz.f94 (λb=>([.d eA b],[])) (λx=>⟨.d tH x,[],[]⟩) [av eA] [Zz,aom,Wy,ZJ] {loops:=oJ [(3,{ba:=[1,2,3,19,20,21],sites:=[2]}),(9,{ba:=[2,3,39,40,41],sites:=[2]})],outs:=oI [(3,{ba:=[1,2,3],sites:=[2]},{ba:=[2]}),(9,{ba:=[2,3],sites:=[2]},{ba:=[2]})],gf:=nQ [(3,zQ.E),(9,zR.E)]}
theorem anB:zQ.RS:=rL [.d eA,.d tB,.d (.slice fa),.d ti,.d ti,.d tB] zQ
theorem Q8(iK x t19 t20 t21 n2)(kn:K2 R)(kx:K3 R):UM.R 0 zQ (iK,x,t19,t20,t21,n2) kn kx=aL (gz t21 t20) (aL (eL t21 (t19.length:Int)) (al (tid.call (nth fa t19 (ae t21))) λx1=>al (Nn.call (x,x1)) λx2=>kn (zQ.st (iK,x2,t19,t20,(bO .i64 t21 1),n2))) aD) (zQ.go kx ((iK,n2),x)):=cr
theorem anD:zR.RS:=rL [.d tB,.d (.slice bh),.d ti,.d ti,.d tB] zR
theorem Q9(aEh t39 t40 t41 lG)(kn:K2 R)(kx:K3 R):UM.R 1 zR (aEh,t39,t40,t41,lG) kn kx=aL (gz t41 t40) (aL (eL t41 (t39.length:Int)) (al (Nn.call (aEh,(nth bh t39 (ae t41)).1)) λx1=>al (BR.call (x1,(nth bh t39 (ae t41)).2.1)) λx2=>kn (zR.st (x2,t39,t40,(bO .i64 t41 1),lG))) aD) (zR.go kx (lG,aEh)):=cr
theorem aL5(b)(k:K1 R):UM.A b k=al (BR.call (([]:List Int),b.1)) λx1=>al (Nn.call (x1,b.2.1)) λx2=>al (BR.call (x2,(b.2.2.1.length:Int))) λx3=>al (zQ.call (b,x3,b.2.2.1,(b.2.2.1.length:Int),0,(ab 32 0))) λx6=>al (BR.call (x6.2,x6.1.1.2.2.2.1)) λx7=>al (BR.call (x7,(x6.1.1.2.2.2.2.1.length:Int))) λx8=>al (zR.call (x8,x6.1.1.2.2.2.2.1,(x6.1.1.2.2.2.2.1.length:Int),0,x6.1.2)) λayQ=>al (Vm.call ((⟨#[98,108,111,99,107]⟩:ByteArray),[ayQ.2])) λaPj=>k (UM.out aPj):=cr
theorem asT:(UM.lF 0 zQ):=by
 refine(UM.mY 0 zQ) (λ(b,x,l,n,i,z)=>(l).length - ae i) ?_
 rintro⟨b,x,l,n,i,z⟩ ⟨hlen,k,hk,rfl,rfl,h3,hx,hb⟩;have hlen:(l).length<=1000000000:=hlen;have hk:k<=(l).length:=hk;have h3:l.length<=1000:=h3;have hx:∀t∈l,ng t:=hx;have hb:x.length<=1000+32*k:=hb;by_cases h:k < (l).length
 ·left;have n1:nth fa l k=l[k]:=cg (t:=fa) h;have hd:bZ k l=l[k]::bZ (k+1) l:=aq h;refine⟨(b,(axJ x l[k]),l,((l).length:Int),((k+1:Nat):Int),z),⟨hlen,k+1,ak,rfl,rfl,h3,hx,by unfold axJ;rw[ai,HX.1];omega⟩,by simp only[aa];omega,?_,λkn kx=> ?_⟩
  ·simp only[Dg,LR,aa,hd,bz]
  ·rw[Q8,aX ak,bj ak ak,aa,n1];simp only[aj];rw[HQ (d:=l[k]) (hx _ (aO h))];simp only[ah,bC,YA];rw[L1 (d:=(x,iD l[k])) ⟨by show x.length+(iD l[k]).length<=_;rw[HX.1];omega,HX.1⟩];simp only[ah,bC,Rw];rw[N.mZ ak];rfl
 ·right;obtain rfl:k=(l).length:=ak;intro R kn kx;rw[Q8,aU ak,ao];simp only[Dg,LR,aa,aN,de]
theorem asU:(UM.lF 1 zR):=by
 refine(UM.mY 1 zR) (λ(x,l,n,i,z)=>(l).length - ae i) ?_
 rintro⟨x,l,n,i,z⟩ ⟨hlen,k,hk,rfl,rfl,h3,hx,hb⟩;have hlen:(l).length<=1000000000:=hlen;have hk:k<=(l).length:=hk;have h3:l.length<=1000:=h3;have hx:∀o∈l,ayR o:=hx;have hb:x.length<=100000+43*k:=hb;by_cases h:k < (l).length
 ·left;have n1:nth bh l k=l[k]:=cg (t:=bh) h;have hd:bZ k l=l[k]::bZ (k+1) l:=aq h;refine⟨((aNp x l[k]),l,((l).length:Int),((k+1:Nat):Int),z),⟨hlen,k+1,ak,rfl,rfl,h3,hx,by have:=Ml [l[k]] x (λo ho=>by rw[bp]at ho;subst ho;exact hx _ (aO h));simp only[bz,de,aB,bl]at this;omega⟩,by simp only[aa];omega,?_,λkn kx=> ?_⟩
  ·simp only[Dh,LS,aa,hd,bz]
  ·rw[Q9,aX ak,bj ak ak,aa,n1];simp only[aj];obtain⟨e1,e2⟩:=hx _ (aO h);rw[L1 (d:=(x,l[k].1)) ⟨by show x.length+l[k].1.length<=_;rw[e1];omega,e1⟩];simp only[ah,bC,Rw];rw[j8 (d:=(x++l[k].1,l[k].2.1)) ⟨by show(x++l[k].1).length<=_;rw[ai,e1];omega,e2⟩];simp only[ah,bC,p9];rw[N.mZ ak];rfl
 ·right;obtain rfl:k=(l).length:=ak;intro R kn kx;rw[Q9,aU ak,ao];simp only[Dh,LS,aa,aN,de]
theorem aL6:UM.Ok:=by rintro b ⟨⟨h1,h2⟩,⟨h3,h4,h5⟩,h6,h7⟩;have z1:((0:Int)).toNat=0:=rfl;have p1:=dN [] b.1;have p2:=dN (cU [] b.1++b.2.1) b.2.2.1.length;rw[ai,h4]at p2;have l0:([]:Bs).length=0:=rfl;rw[l0]at p1;have q1:=ZL b.2.2.1 (cU (cU [] b.1++b.2.1) b.2.2.1.length);obtain⟨x3,e3⟩:∃x,cU (cU [] b.1++b.2.1) b.2.2.1.length=x:=⟨_,rfl⟩;rw[e3]at p2 q1;obtain⟨x6,e6⟩:∃x,b.2.2.1.foldl axJ x3=x:=⟨_,rfl⟩;rw[e6]at q1;have p7:=dN x6 b.2.2.2.1;have p8:=dN (cU x6 b.2.2.2.1) b.2.2.2.2.1.length;obtain⟨x8,e8⟩:∃x,cU (cU x6 b.2.2.2.1) b.2.2.2.2.1.length=x:=⟨_,rfl⟩;have q2:=Ml b.2.2.2.2.1 x8 h7;rw[e8]at p8;rw[aL5,j8 (d:=(([]:List Int),b.1)) ⟨by show(0:Nat)<=_;omega,h3⟩];simp only[ah,bC,p9];rw[L1 (d:=(cU [] b.1,b.2.1)) ⟨by show(cU [] b.1).length+b.2.1.length<=_;rw[h4];omega,h4⟩];simp only[ah,bC,Rw];rw[j8 (d:=(cU [] b.1++b.2.1,(b.2.2.1.length:Int))) ⟨by show(cU [] b.1++b.2.1).length<=_;rw[ai,h4];omega,by show(b.2.2.1.length:Int)<=_;omega⟩];simp only[ah,bC,p9];rw[e3,anB (d:=(b,x3,b.2.2.1,(b.2.2.1.length:Int),0,ab 32 0)) ⟨by show b.2.2.1.length<=_;omega,0,aP _,rfl,rfl,h1,h2,ak⟩];simp only[ah,Dg,LR,z1,aG];rw[e6,j8 (d:=(x6,b.2.2.2.1)) ⟨by show x6.length<=_;omega,h5⟩];simp only[ah,bC,p9];rw[j8 (d:=(cU x6 b.2.2.2.1,(b.2.2.2.2.1.length:Int))) ⟨by show(cU x6 b.2.2.2.1).length<=_;omega,by show(b.2.2.2.2.1.length:Int)<=_;omega⟩];simp only[ah,bC,p9];rw[e8,anD (d:=(x8,b.2.2.2.2.1,(b.2.2.2.2.1.length:Int),0,ab 32 0)) ⟨by show b.2.2.2.2.1.length<=_;omega,0,aP _,rfl,rfl,h6,h7,ak⟩];simp only[ah,Dh,LS,z1,aG];rw[Sc (d:=((⟨#[98,108,111,99,107]⟩:ByteArray),[b.2.2.2.2.1.foldl aNp x8])) (TO fg ak)];simp only[ah,bC,asS,asP,aQp,e3,e6,e8];rfl
theorem aE0:UM.RS:=rE [.d eA] UM
def aL7:=UM.fC aL6 2 ⟨.fI asT,⟨.fI asU,trivial⟩⟩
abbrev anH:=Int×(List dR)×Int×Int
theorem ajh:∀(l:List iF) (n:Int),(∀x∈l,x.2.1.2.1.length<=12)->n<=l.foldl zy n/\l.foldl zy n<=n+110*l.length
 |[],n,_=>by simp
 |x::l,n,h=>by
  have h1:=ajh l (zy n x) λy hy=>h y (aF _ hy)
  have h2:=h x (aK ..);have h3:n<=zy n x/\zy n x<=n+110:=by unfold zy;split <;> omega
  rw[bz,aB];omega
theorem WH(t:dR):0<=HZ t/\HZ t<=8000:=by
 unfold HZ;split
 ·rename_i jR;obtain⟨⟨_,a2,a3,_⟩,b1,b2⟩:=kk jR;have:=ajh t.1 (10+8*t.2.1.length) λx hx=>(Ca (nB _ _ b1 x hx)).2.2.2.2
  omega
 ·omega
def aK5(n:Int)(t:dR):Int:=n+HZ t
def aSD(b:dz):Int:=b.2.2.1.foldl aK5 b.2.2.2.1
def asX:anH->Prop:=λ(n,l,m,i)=>(l).length<=1000000000/\∃k:Nat,k<=(l).length/\i=k/\m=(l).length/\(l.length<=1000)/\(∀t∈l,ng t)/\(0<=n)/\(n<=1000000+8000*(k:Int))
def Rb:anH->Int:=λ(n,l,m,i)=>(bZ (ae i) l).foldl aK5 n
def aL8:dz->Prop:=λb=>awQ b/\0<=b.2.2.2.1/\b.2.2.2.1<=1000000
def aE4:dz->Int:=λb=>aSD b
def Gs:Ls asX bC Rb:=sH (λ(n,t9,t10,t11)=>⟨([bH,bH,bH,.d ti n]++aS 5 ([.d (.slice fa) t9,.d ti t10,.d ti t11]++aS 9 [])),[],(ab 21 [])⟩) (λx=>(.exit 0,⟨([bH,bH,bH,.d ti x]++aS 17 []),[],(ab 21 [])⟩))
def aLv:Fs Tryz.prog aL8 bC aE4:=fw 226 Tryz.f226 (λb=>([.d eA b],[])) (λx=>⟨.d ti x,[],[]⟩) [av eA] [awz] {loops:=oJ [(3,{ba:=[3,9,10,11]})],outs:=oI [(3,{ba:=[3]},{ba:=[2]})],gf:=nQ [(3,Gs.E)]}
theorem asY:Gs.RS:=rL [.d ti,.d (.slice fa),.d ti,.d ti] Gs
theorem WY(n t9 t10 t11)(kn:K2 R)(kx:K3 R):aLv.R 0 Gs (n,t9,t10,t11) kn kx=aL (gz t11 t10) (aL (eL t11 (t9.length:Int)) (al (we.call (nth fa t9 (ae t11))) λx1=>kn (Gs.st ((bO .i64 n x1),t9,t10,(bO .i64 t11 1)))) aD) (Gs.go kx n):=cr
theorem aQq(b)(k:K1 R):aLv.A b k=al (Gs.call (b.2.2.2.1,b.2.2.1,(b.2.2.1.length:Int),0)) λx2=>k (aLv.out x2):=cr
theorem azn:(aLv.lF 0 Gs):=by
 refine(aLv.mY 0 Gs) (λ(n,l,m,i)=>(l).length - ae i) ?_
 rintro⟨n,l,m,i⟩ ⟨hlen,k,hk,rfl,rfl,h3,hx,h0,h1⟩;have hlen:(l).length<=1000000000:=hlen;have hk:k<=(l).length:=hk;have h3:l.length<=1000:=h3;have hx:∀t∈l,ng t:=hx;have h0:0<=n:=h0;have h1:n<=1000000+8000*(k:Int):=h1;by_cases h:k < (l).length
 ·left;have n1:nth fa l k=l[k]:=cg (t:=fa) h;have hd:bZ k l=l[k]::bZ (k+1) l:=aq h;refine⟨((aK5 n l[k]),l,((l).length:Int),((k+1:Nat):Int)),⟨hlen,k+1,ak,rfl,rfl,h3,hx,by have:=WH l[k];unfold aK5;omega,by have:=WH l[k];unfold aK5;omega⟩,by simp only[aa];omega,?_,λkn kx=> ?_⟩
  ·simp only[bC,Rb,aa,hd,bz]
  ·rw[WY,aX ak,bj ak ak,aa,n1];simp only[aj];have e:=WH l[k];rw[arY (d:=l[k]) (hx _ (aO h))];simp only[ah,bC,WC];rw[gD (x:=n) ak ak,N.mZ ak];rfl
 ·right;obtain rfl:k=(l).length:=ak;intro R kn kx;rw[WY,aU ak,ao];simp only[bC,Rb,aa,aN,de]
theorem aQr:aLv.Ok:=by rintro b ⟨⟨⟨h1,h2⟩,_⟩,h3,h4⟩;have z1:((0:Int)).toNat=0:=rfl;rw[aQq,asY (d:=(b.2.2.2.1,b.2.2.1,(b.2.2.1.length:Int),0)) ⟨by show b.2.2.1.length<=_;omega,0,aP _,rfl,rfl,h1,h2,h3,by show b.2.2.2.1<=_;omega⟩];simp only[ah,bC,Rb,z1,aG,bC,aE4,aSD]
theorem aL9:aLv.RS:=rE [.d eA] aLv
def aQs:=aLv.fC aQr 1 ⟨.fI azn,trivial⟩
def JM(h f:Int):Bool:=decide (1<=h/\h<=1048576/\0<=f/\f<=4000)
def asQ:(Int×Int)->Prop:=λ_=>True
def aaD:(Int×Int)->Bool:=λ(h,f)=>JM h f
def Eh:Fs Tryz.prog asQ bC aaD:=fw 225 Tryz.f225 (λ(height,fill)=>([.d ti height,.d ti fill],[])) (λx=>⟨.d .bool x,[],[]⟩) [av ti,av ti]
theorem azf(height fill)(k:K1 R):Eh.A (height,fill) k=aL (Dv height 1) (aL (akZ height 1048576) (aL (Dv fill 0) (k (Eh.out (akZ fill 4000))) (k (Eh.out aQ))) (k (Eh.out aQ))) (k (Eh.out aQ)):=cr
theorem azg:Eh.Ok:=by
 rintro⟨h,f⟩ _;rw[azf];simp only[bC,aaD,JM];by_cases a1:1<=h
 ·rw[hZ a1,aj];by_cases a2:h<=1048576
  ·rw[pa a2,aj];by_cases a3:0<=f
   ·rw[hZ a3,aj];by_cases a4:f<=4000
    ·rw[pa a4,eO ⟨a1,a2,a3,a4⟩]
    ·rw[kO ak,iC ak]
   ·rw[ff ak,ao,iC ak]
  ·rw[kO ak,ao,iC ak]
 ·rw[ff ak,ao,iC ak]
theorem asR:Eh.RS:=rE [.d ti,.d ti] Eh
def azh:=Eh.fC azg
end Go.Ab
namespace Go.Ab
open Go.Sort (grow)
structure aSv(P:aT)(t:Ty)(g:fV)(Q:t.den->Prop)(cf:t.den->t.den->Int):Prop where
 cq:∃en,si P g en/\∀x y,Q x->Q y->∃X,en.run [.d t x,.d t y] []=av X/\en.out [.d t x,.d t y] [] X=⟨.d (.int .i64) (cf x y),[],[]⟩
 enters:∀args w,(callFunc g args).run P w= .ok (.enter g args) w
 irrefl:∀x,Q x->¬cf x x < 0
 trans:∀x y z,Q x->Q y->Q z->cf x y < 0->cf y z < 0->cf x z < 0
 ntrans:∀x y z,Q x->Q y->Q z->¬cf x y < 0->¬cf y z < 0->¬cf x z < 0
theorem aM5{w w':cd}(aPJ:w'.os=w.os)(aWz:w'.tape=w.tape)(akT:w'.output=w.output/\w.drawn<=w'.drawn)(uW:w.heap.size<=w'.heap.size)(hb:∀b:Nat,b < w.heap.size->w'.heap[b]? =w.heap[b]?):
  ∃q os,w'=grow (w.drewN q) os:=by
 obtain⟨h1,t1,d1,o1,p1⟩:=w;obtain⟨h2,t2,d2,o2,p2⟩:=w';simp only at*;obtain⟨akT,hd⟩:=akT;subst aPJ aWz akT;obtain⟨q,rfl⟩:∃q,d2=d1+q:=⟨d2 - d1,ak⟩;refine⟨q,h2.extract h1.size h2.size,?_⟩;have hh:h2=h1++h2.extract h1.size h2.size:=by
  apply tN;intro i;rw[lB];by_cases hi:i < h1.size
  ·rw[if_pos hi,hb i hi]
  ·rw[if_neg hi,Array.getElem?_extract];by_cases h3:i < h2.size
   ·rw[if_pos ak];congr 1;omega
   ·rw[if_neg ak,Array.getElem?_eq_none ak]
 show({heap:=h2,tape:=_,drawn:=_,os:=_,output:=_}:cd)= {heap:=h1++h2.extract h1.size h2.size,tape:=_,drawn:=_,os:=_,output:=_};rw[<-hh];rfl
section
variable {P:aT} {t:Ty} {g:fV} {Q:t.den->Prop} {cf:t.den->t.den->Int}
theorem aSv.aTs(h:aSv P t g Q cf)(ha:t.agg=aZ){W:cd}{cx cy:List Value}{x y:t.den}(hx:dA ((gw []).env W (λ_=> .free) (λ_=>aD)) t cx x)
  (hy:dA ((gw []).env W (λ_=> .free) (λ_=>aD)) t cy y) (qx:Q x) (qy:Q y):
  Calls P g #[.agg cx.toArray,.agg cy.toArray] W λe w'=>e= .returned (.int .i64 (cf x y))/\∃q os,w'=grow (W.drewN q) os:=by
 obtain⟨en,hd,im⟩:=h.cq;obtain⟨X,hX1,hX2⟩:=im x y qx qy;have one:∀ {c:List Value} {z:t.den},dA ((gw []).env W (λ_=> .free) (λ_=>aD)) t c z->VS ((gw []).env W (λ_=> .free) (λ_=>aD)) (.d t z) (.agg c.toArray):=λhz=>
  ⟨_,by simpa only[V]using hz,by show gI t.agg _ _;rw[ha];rfl⟩
 have ho:jE ((gw []).env W (λ_=> .free) (λ_=>aD)):=λid ver fr c h=>by
  exfalso;cases id with
  |bt k=>simp[AS.env,AS.cq,gw]at h
  |new i j=>simp[AS.env,AS.cq,gw]at h
 rcases hd W (λ_=> .free) (λ_=>aD) [.d t x,.d t y] [] [.agg cx.toArray,.agg cy.toArray] X ⟨one hx,one hy,trivial⟩ ho hX1 with⟨_,hc⟩ | ⟨v,w',hc,_⟩
 ·refine hc.mono λe w' he=> ?_
  obtain⟨v,rfl,g',β',hv,_,ht,_⟩:=he;rw[hX2]at hv;obtain⟨cs,k1,k2⟩:=hv;have k1:cs=[.int .i64 (cf x y)]:=k1;subst k1;have k2: [Value.int .i64 (cf x y)]=[v]:=k2;have hv:v= .int .i64 (cf x y):=by simpa using k2.symm
  exact⟨by rw[hv],aM5 ht.os ht.tape ht.output ht.size λb hb=>(ht.UP b hb).2⟩
 ·rw[h.enters]at hc;cases hc
def aEo(cf:t.den->t.den->Int)(l l':List t.den):Prop:=l'.Perm l/\l'.Pairwise λx y=>¬cf y x < 0
open Classical in
def Qx(cf:t.den->t.den->Int)(l:List t.den):List t.den:=if h:∃l',aEo cf l l' then h.choose else l
theorem aez(h:aSv P t g Q cf){l:List t.den}(hQ:∀x∈l,Q x):aEo cf l (Qx cf l):=by
 have hx:∃l',aEo cf l l':=by
  let le: {x // Q x}-> {x // Q x}->Bool:=λx y=> !decide (cf y.1 x.1 < 0)
  refine⟨((l.attachWith Q hQ).mergeSort le).map (·.1),?_,?_⟩
  ·have h1:=(List.mergeSort_perm (l.attachWith Q hQ) le).map (·.1);rwa[List.attachWith_map_subtype_val]at h1
  ·have h2:=List.pairwise_mergeSort (le:=le) (λa b c h1 h2=>by
    simp only[le,cS,iL]at*;exact h.ntrans _ _ _ c.2 b.2 a.2 h2 h1) (λa b=>by
    simp only[le,gR,cS,iL];by_cases h1:cf b.1 a.1 < 0
    ·exact .inr λh2=>h.irrefl _ a.2 (h.trans _ _ _ a.2 b.2 a.2 h2 h1)
    ·exact .inl h1) (l.attachWith Q hQ)
   rw[List.pairwise_map];exact h2.imp λ {a b} h3=>by simpa[le]using h3
 unfold Qx;rw[Ao hx];exact hx.choose_spec
theorem HL(h:aSv P t g Q cf){l l':List t.den}(hQ:∀x∈l,Q x)(hT:∀x∈l,∀y∈l,¬cf x y < 0->¬cf y x < 0->x=y)(hs:aEo cf l l'):l'=Qx cf l:=by have h2:=aez h hQ;exact List.Perm.eq_of_pairwise (λa b ha hb h3 h4=>hT a (hs.1.mem_iff.1 ha) b (h2.1.mem_iff.1 hb) h4 h3) hs.2 h2.2 (hs.1.trans h2.1.symm)
def TN(g:fV)(e:TypeId)(t:Ty):Nat×List t.den->List aC×List dW:=λd=>([.bE (.bt 0) 0 [] 0 0 d.1,.fn g .nil],[.obj 0 aQ (.vec e t d.2)])
def aey(Q:t.den->Prop)(cf:t.den->t.den->Int):Nat×List t.den->Prop:=λd=>d.1=d.2.length/\d.2.length < 4611686018427387904/\(∀x∈d.2,Q x)/\∀x∈d.2,∀y∈d.2,¬cf x y < 0->¬cf y x < 0->x=y
def aSf(e:TypeId)(t:Ty):Nat×List t.den->iB:=λx=>⟨.nil,[.obj 0 aQ (.vec e t x.2)],[]⟩
def aOV(g:fV)(e:TypeId)(t:Ty)(Q:t.den->Prop)(cf:t.den->t.den->Int):Entry:=Entry.of [aD,aD] (TN g e t) (aey Q cf) (λd=>(d.1,Qx cf d.2)) (aSf e t)
theorem aO0{g:fV}{e:TypeId}{t:Ty}(d d':Nat×List t.den)(h:TN g e t d=TN g e t d'):d=d':=by obtain⟨n,l⟩:=d;obtain⟨n',l'⟩:=d';simp only[TN,cT,dB,aC.bE.injEq,dW.obj.injEq,nL,jw]at h;obtain⟨rfl,h2⟩:=h;rw[aO8 h2]
def amp(g:fV)(e:TypeId)(t:Ty)(Q:t.den->Prop)(cf:t.den->t.den->Int):Nat×List t.den->Option (Nat×List t.den):=λd=>(aOV g e t Q cf).run (TN g e t d).1 (TN g e t d).2
theorem ayw{g:fV}{e:TypeId}{t:Ty}{Q:t.den->Prop}{cf:t.den->t.den->Int}{d:Nat×List t.den}(h:aey Q cf d):amp g e t Q cf d=av (d.1,Qx cf d.2):=Entry.xe aO0 h
theorem Rq{R:List Value->t.den->Prop}:∀ {cs:List Value} {l:List t.den},bI R cs l->(∀x∈l,Q x)->∃ps:List {p:List Value×t.den // R p.1 p.2/\Q p.2},ps.map (·.1.2)=l/\(ps.map (·.1.1)).flatten=cs
 |cs,[],h,_=>⟨[],rfl,by have h:cs=[]:=h;rw[h];rfl⟩
 |cs,x::l,⟨c,cs',h1,h2,h3⟩,hq=>by
  obtain⟨ps,h4,h5⟩:=Rq h3 λy hy=>hq y (aF _ hy)
  exact⟨⟨(c,x),h2,hq x (aK ..)⟩::ps,by simp[h4],by simp[h5,h1]⟩
theorem SV{R R':List Value->t.den->Prop}(hR:∀c x,R c x->R' c x):∀ps:List {p:List Value×t.den // R p.1 p.2/\Q p.2},bI R' (ps.map (·.1.1)).flatten (ps.map (·.1.2))
 |[]=>rfl
 |p::ps=>⟨p.1.1,(ps.map (·.1.1)).flatten,by simp,hR _ _ p.2.1,SV hR ps⟩
theorem aoW{α:Type} [Inhabited α] (enc:α->List Value) {k:Nat} (hk:∀x,(enc x).length=k):∀(ps:List α) (j:Nat),j < ps.length*k->((ps.map enc).flatten)[j]? =(enc (ps.toArray[j / k]!))[j%k]?
 |[],j,h=>by simp at h
 |p::ps,j,h=>by
  have k0:0 < k:=by
   rcases jD k with h0 | h0
   ·subst h0;simp at h
   ·exact h0
  simp only[bY,jX];by_cases hj:j < k
  ·rw[fS (by rw[hk];exact hj),Nat.div_eq_of_lt hj,kM hj];rfl
  ·have e1:j / k=(j - k) / k+1:=by rw[Nat.div_eq_sub_div k0 ak]
   have e2:j%k=(j - k)%k:=by rw[Nat.mod_eq_sub_mod ak]
   rw[List.getElem?_append_right (by rw[hk];omega),hk,aoW enc hk ps (j - k) (by simp only[aB,fe,jj]at h;omega),e1,e2];congr 2;simp
theorem PG{α:Type} [Inhabited α] (enc:α->List Value) {k:Nat} (hk:∀x,(enc x).length=k) (d:Array α):(Go.Sort.flatK enc k d).toList=(d.toList.map enc).flatten:=by
 have hl:((d.toList.map enc).flatten).length=d.size*k:=by
  rw[List.length_flatten,List.map_map];have:(d.toList.map (ag∘enc))=ab d.size k:=by rw[List.eq_replicate_iff];exact⟨by simp,λx hx=>by obtain⟨y,_,rfl⟩:=df.1 hx;exact hk y⟩
  rw[this,List.sum_replicate_nat]
 apply lY;intro j;by_cases hj:j < d.size*k
 ·rw[aoW enc hk d.toList j (by simpa using hj)];have h2:(Go.Sort.flatK enc k d).toList[j]? =av ((Go.Sort.flatK enc k d)[j]!):=by rw[jv,ml _ j (by rw[Go.Sort.size_flatK];exact hj)];simp[hj]
  rw[h2,Go.Sort.get_flatK _ _ _ _ hj];have aTR:0 < k:=by
   rcases jD k with h0 | h0
   ·subst h0;simp at hj
   ·exact h0
  have hm:j%k < k:=Nat.mod_lt _ aTR;simp only[Array.toArray_toList];rw[cj (by rw[hk];exact hm),ml _ _ (by rw[hk];exact hm)]
 ·rw[dY (by simpa using hj),dY (by rw[hl];omega)]
theorem aI1{F cur:Array Value}(h:F.size<=cur.size):(Go.Sort.putCells id 0 F cur).toList=F.toList++cur.toList.drop F.size:=by
 apply lY;intro j;simp only[Go.Sort.putCells,jv,Array.getElem?_mapIdx,aP,nL,aR,Nat.sub_zero,id];by_cases hj:j < F.size
 ·rw[fS (by simpa using hj),jv,fR hj,fR ak,eJ,if_pos hj,ml F j hj]
 ·rw[List.getElem?_append_right (by simpa using hj),gK,jv,c9,show F.size+(j - F.size)=j by omega];cases cur[j]? with
  |none=>rfl
  |some y=>rw[eJ,if_neg hj]
end
section
open Go.Proofs Go.Shelf Go.Lib Go.Sort
variable {P:aT} {ρ:Go.Shelf.Ren} {t:Ty} {g:fV} {Q:t.den->Prop} {cf:t.den->t.den->Int}
theorem aeC{α:Type} [Inhabited α] (enc:α->List Value) (k:Nat) (w:cd) (UP m:Nat) (dk:Array α) (os:Array Obj) {b:Nat} (hb:b < w.heap.size) (il:b≠UP):(sortWorldK enc k w UP 0 m dk os).heap[b]? =w.heap[b]? :=by
 show((w.heap.modify UP _)++os)[b]? =_
 rw[lB,if_pos (by simpa using hb),iq,if_neg (λe=>il e.symm)]
theorem aO3{α:Type} [Inhabited α] (enc:α->List Value) (k:Nat) (w:cd) (UP m:Nat) (dk:Array α) (os:Array Obj) {cur:Array Value} {e:TypeId} {fr:Nat×Nat} (hb:w.heap[UP]? =av (.cells cur e fr)):
  (sortWorldK enc k w UP 0 m dk os).heap[UP]? =av (.cells (putCells id 0 (flatK enc k dk) cur) e fr):=by
 have iA:UP < w.heap.size:=(bX.1 hb).1;show((w.heap.modify UP _)++os)[UP]? =_
 rw[lB,if_pos (by simpa using iA),iq,if_pos rfl,hb];rfl
set_option maxHeartbeats 1000000 in
theorem aKm(L:SlLaysF0.n6 P ρ){e:TypeId}(ha:t.agg=aZ)(aE:∀w,(isAgg (ρ.t 24)).run P w= .ok aZ w)(zE:∀w,(Go.sizeOf (ρ.t 24)).run P w= .ok t.size w)(hc:aSv P t g Q cf):
  si P (ρ.f 6) (aOV g e t Q cf):=by
 intro w γ β args cz jL x hv ho hx;obtain⟨d0,aUX,akV⟩:∃d,TN g e t d=(args,cz)/\aey Q cf d:=by
  by_cases hh:∃d,TN g e t d=(args,cz)/\aey Q cf d
  ·exact hh
  ·exfalso;have hn:(aOV g e t Q cf).run args cz=aD:=Dp hh;rw[hn]at hx;cases hx
 have hr:=ayw (g:=g) (e:=e) akV;unfold amp at hr;rw[aUX]at hr;obtain rfl:x=(d0.1,Qx cf d0.2):=bn (hx.symm.trans hr);obtain⟨n,l⟩:=d0;simp only[TN,cT]at aUX;obtain⟨rfl,rfl⟩:=aUX;obtain⟨hn,uW,hQ,hT⟩:=akV;have hn:n=l.length:=hn;subst hn
 match jL,hv with
 |[y1,y2],⟨aRn,Xx,_⟩=>
 obtain⟨vs,rfl,Xy⟩:=abB Xx;have Xy:vs=[]:=by simpa only[VC]using Xy
 subst Xy;have h1:=aRn.single rfl rfl;simp only[V]at h1;obtain⟨a,cap,h1,R4,sa,_,gb⟩:=h1;have h1:y1= .slice a l.length cap:=by simpa using h1
 subst h1;have dh:(gw [dW.obj 0 aQ (.vec e t l)]).cq (.bt 0)=av (.obj 0 aQ (.vec e t l)):=rfl;obtain⟨hz,hO⟩:aTc ((gw [dW.obj 0 aQ (.vec e t l)]).env w γ β) (.bt 0) aQ e t l:=ho (.bt 0) 0 aQ _ dh;have gb:=gb ⟨aQ,_,dh⟩;refine .inl ⟨L.f6.enters rfl _ _,?_⟩;have aY3:∀v:Value,v= .tuple #[]->VS ((iB.st ⟨.nil,[.obj 0 aQ (.vec e t (Qx cf l))],[]⟩).env w γ β) .nil v:=λv hv=>by rw[hv];exact rfl
 have hS:=aez hc hQ;by_cases hl:l=[]
 ·subst hl;have hs:Qx cf ([]:List t.den)=[]:=bK hS.1.length_eq;refine(AnyF.slices_SortFunc_none L a cap _ w).mono λe' w' he=> ?_
  obtain⟨rfl,rfl⟩:=he;refine⟨_,rfl,?_⟩;show u5 _ (⟨.nil,[.obj 0 aQ (.vec e t (Qx cf []))],[]⟩:iB) _ _;rw[hs];exact u5.same rfl ho
 ·have vD:0 < l.length:=List.length_pos_iff.2 hl
  change (match β (.bt 0) with | none=>l=[] | some pl=>∃cur k,w.heap[pl.b]? =av (.cells cur e (0,0))/\cur.size=pl.cap*t.size/\l.length<=pl.cap/\pl.cap<=maxLen/\γ pl.b= .own (.id (.bt 0)) k/\
   k<=l.length*t.size/\(aQ=aQ->k=0)/\bI (dA ((gw [dW.obj 0 aQ (.vec e t l)]).env w γ β) t) (cur.toList.take (l.length*t.size)) l) at hO
  change (match β (.bt 0) with | some pl=>(0 < l.length\/True->a=av ⟨pl.b,0,aD⟩)/\(True->True->cap=pl.cap) | none=>a=aD/\l.length=0/\cap=0) at gb;cases hβ:β (.bt 0) with
  |none=>rw[hβ]at hO;exact absurd hO hl
  |some pl=>
  rw[hβ]at hO gb;obtain⟨cur,k0,q1,q2,q3,q4,q5,_,q7,q8⟩:=hO;obtain rfl:=q7 rfl;obtain rfl:=gb.1 (.inl vD);have hblk:pl.b < w.heap.size:=(bX.1 q1).1;obtain⟨R,hR⟩:∃R:List Value->t.den->Prop,R=dA ((gw [dW.obj 0 aQ (.vec e t l)]).env w γ β) t:=⟨_,rfl⟩;have hRm:∀c x,R c x->dA ((gw [dW.obj 0 aQ (.vec e t l)]).env w γ β) t c x:=by rw[hR];exact λ_ _ h=>h
  rw[<-hR]at q8;obtain⟨ps,p1,p2⟩:=Rq (Q:=Q) q8 hQ;have aT5:ps.length=l.length:=by rw[<-p1,cm]
  let α:= {p:List Value×t.den // R p.1 p.2/\Q p.2}
  have:0 < ps.length:=ak
  letI:Inhabited α:=⟨ps[0]⟩
  let enc:α->List Value:=λp=>p.1.1
  let cf':α->α->Int:=λp q=>cf p.1.2 q.1.2
  have hk:∀x,(enc x).length=t.size:=λx=>(hRm _ _ x.2.1).size
  have hO:SWO (ltOf cf'):=⟨λx=>by simpa[ltOf,cf']using hc.irrefl _ x.2.2,λx y z h1 h2=>by
   simp only[ltOf,bf,cf']at*;exact hc.trans _ _ _ x.2.2 y.2.2 z.2.2 h1 h2,λx y z h1 h2=>by
   simp only[ltOf,iL,cf']at*;exact hc.ntrans _ _ _ x.2.2 y.2.2 z.2.2 h1 h2⟩
  have Fz:∀j,j < l.length*t.size->cur[j]? =((ps.map enc).flatten)[j]? :=λj hj=>by have:(ps.map enc).flatten=cur.toList.take (l.length*t.size):=p2;rw[this,dD,if_pos hj,jv]
  have hH:HoldsK enc t.size w pl.b 0 ps.toArray:=λj hj=>by
   rw[size_flatK]at hj;have hj:j < ps.length*t.size:=by simpa using hj
   have h2:=Fz j (by rw[<-aT5];exact hj);have h3:((flatK enc t.size ps.toArray).toList)[j]? =((ps.map enc).flatten)[j]? :=by rw[PG enc hk]
   rw[jv,fR (by rw[size_flatK];simpa using hj)]at h3;refine⟨?_,?_⟩
   ·show(match w.heap[pl.b]? with | some (.cells c _ _)=>if(aD:Option _).isSome then aD else c[0+j]? | _=>aD)=_;rw[q1];simp only[Option.isSome_none,bw,bA,aR];rw[h2,<-h3,ml _ j (by rw[size_flatK];simpa using hj)];rfl
   ·show(match w.heap[pl.b]? with | some (.cells _ _ (lo,hi))=>decide (lo<=0+j) && decide (0+j < hi) | _=>aQ)=aQ;rw[q1];simp
  have G7:∀(m:Nat) (dk:Array α) (os:Array Obj),va ((gw [dW.obj 0 aQ (.vec e t l)]).env w γ β) ((gw []).env (sortWorldK enc t.size w pl.b 0 m dk os) (λ_=> .free) (λ_=>aD)):=λm dk os=>by
   refine⟨λb off v hh=>⟨?_,trivial⟩,λb ob hf mX=>⟨rfl,?_⟩⟩
   ·obtain⟨h1,h2⟩:=hh;have hb:b < w.heap.size:=World.block_lt_of_cell? _ _ h1;have il:b≠pl.b:=λe=>by have h2:wK γ b off:=h2;unfold wK at h2;rw[e,q5]at h2;exact Nat.not_lt_zero _ h2
    have h1:w.cell? ⟨b,off,aD⟩=av v:=h1;show(sortWorldK enc t.size w pl.b 0 m dk os).cell? ⟨b,off,aD⟩=av v;simpa only[fq,aeC enc t.size w pl.b m dk os hb il]using h1
   ·have mX:w.heap[b]? =av ob:=mX
    have hb:b < w.heap.size:=(bX.1 mX).1;have il:b≠pl.b:=λe=>by have hf:γ b= .free:=hf;rw[e,q5]at hf;cases hf
    exact(aeC enc t.size w pl.b m dk os hb il).trans mX
  have aVT:CmpLays P g #[] enc t.size cf' pl.b 0 ps.toArray.size w:=λm os dk _ p q=>
   hc.aTs ha ((hRm _ _ p.2.1).mono (G7 m dk os)) ((hRm _ _ q.2.1).mono (G7 m dk os)) p.2.2 q.2.2
  have aTG:=AnyQ.slices_SortFunc L t.size aE zE enc hk (λp=>(hRm _ _ p.2.1).one) cf' hO g #[] pl.b 0 cap ps.toArray w hc.enters aVT hH hblk (by simpa[aT5]using uW);rw[show ps.toArray.size=l.length by simpa using aT5]at aTG;refine aTG.mono λe' w' he=> ?_
  obtain⟨rfl,d',m,os,hp,hs,rfl⟩:=he;refine⟨_,rfl,?_⟩;obtain⟨s1,_,s2⟩:=hp;have hd:d'.size=l.length:=by rw[s1];simpa using aT5
  have apa:d'.toList.Perm ps:=by
   have e1:(d'.extract 0 l.length)=d':=by rw[<-hd];simp
   have e2:(ps.toArray.extract 0 l.length)=ps.toArray:=by rw[<-aT5];simp
   rw[e1,e2]at s2;exact s2
  have hl':aEo cf l (d'.toList.map (·.1.2)):=by refine⟨by rw[<-p1];exact apa.map _,?_⟩;rw[List.pairwise_map,List.pairwise_iff_getElem];intro i j hi hj aU5;have:=hs i j (aP _) aU5 (by rw[<-hd];simpa using hj);rw[ml d' i (by simpa using hi),ml d' j (by simpa using hj)]at this;simpa[ltOf,cf']using this
  have heq:=HL hc hQ hT hl';show u5 _ (⟨.nil,[.obj 0 aQ (.vec e t (Qx cf l))],[]⟩:iB) _ _;rw[<-heq];have mm:=aO3 enc t.size w pl.b m d' os q1;have hFs:(flatK enc t.size d').size<=cur.size:=by rw[size_flatK,hd,q2];exact di _ q3
  have MR:∀b,b < w.heap.size->b≠pl.b->(sortWorldK enc t.size w pl.b 0 m d' os).heap[b]? =w.heap[b]? :=λb hb il=>aeC enc t.size w pl.b m d' os hb il
  have aHi:w.heap.size<=(sortWorldK enc t.size w pl.b 0 m d' os).heap.size:=size_sortWorldK_c enc t.size w pl.b 0 m d' os;have hw:(sortWorldK enc t.size w pl.b 0 m d' os).os=w.os/\(sortWorldK enc t.size w pl.b 0 m d' os).tape=w.tape/\((sortWorldK enc t.size w pl.b 0 m d' os).output=w.output/\w.drawn<=(sortWorldK enc t.size w pl.b 0 m d' os).drawn):=⟨rfl,rfl,rfl,rb _ _⟩;generalize sortWorldK enc t.size w pl.b 0 m d' os=w' at mm MR aHi hw;have ht:Trans w w' γ γ:=by
   refine⟨hw.1,hw.2.1,hw.2.2,aHi,λb hb=> ?_⟩;by_cases aVO:b=pl.b
   ·subst aVO;rw[q5];exact⟨.inr ⟨_,0,rfl,ay _⟩,λ_ _ hh=>ak⟩
   ·rw[MR b hb aVO];cases YT:γ b with
    |free=>exact⟨rfl,rfl⟩
    |own o' k=>cases o' with
     |eY=>exact⟨rfl,rfl⟩
     |id i'=>exact⟨.inr ⟨i',k,rfl,ay _⟩,λoff v _ hv=>by simpa only[fq,MR b hb aVO]using hv⟩
  have hle:db ((gw [dW.obj 0 aQ (.vec e t l)]).env w γ β) ((iB.st ⟨.nil,[.obj 0 aQ (.vec e t (d'.toList.map (·.1.2)))],[]⟩).env w' γ β):=by
   have e0:∀id,(∃c,(gw [dW.obj 0 aQ (.vec e t l)]).cq id=av (.obj 0 aQ c)/\id= .bt 0)\/((gw [dW.obj 0 aQ (.vec e t l)]).cq id=aD/\(iB.st ⟨.nil,[.obj 0 aQ (.vec e t (d'.toList.map (·.1.2)))],[]⟩).cq id=aD):=λid=>by
    cases id with
    |bt k=>cases k with
     |zero=>exact .inl ⟨_,rfl,rfl⟩
     |succ k=>exact .inr ⟨rfl,rfl⟩
    |new i j=>refine .inr ⟨?_,?_⟩ <;> cases i <;> rfl
   refine⟨Trans.mem (E:=(gw [dW.obj 0 aQ (.vec e t l)]).env w γ β) (E':=(iB.st ⟨.nil,[.obj 0 aQ (.vec e t (d'.toList.map (·.1.2)))],[]⟩).env w' γ β) ht,λid ver hb=> ?_,λid ver hb aYD=> ?_⟩
   ·rcases e0 id with⟨c,_,rfl⟩ | ⟨h1,_⟩
    ·refine⟨by show(av _:Option dW)≠aD;simp,λv fr c h=> ?_⟩;have h:av (dW.obj 0 aQ (.vec e t (d'.toList.map (·.1.2))))=av (.obj v fr c):=h;simp only[aA,dW.obj.injEq]at h;have:=hb.2 0 aQ _ rfl;omega
    ·exact absurd h1 hb.1
   ·rcases e0 id with⟨c,_,rfl⟩ | ⟨h1,_⟩
    ·obtain⟨fr,c,h⟩:=aYD;have h:av (dW.obj 0 aQ (.vec e t (d'.toList.map (·.1.2))))=av (.obj ver fr c):=h;simp only[aA,dW.obj.injEq]at h;obtain⟨rfl,rfl,_⟩:=h;exact⟨⟨aQ,_,rfl⟩,rfl⟩
    ·exact absurd h1 hb.1
  refine⟨γ,β,rfl,λid ver fr c h=> ?_,ht,hle⟩;have dr:id= .bt 0/\ver=0/\fr=aQ/\c= .vec e t (d'.toList.map (·.1.2)):=by
   cases id with
   |bt k=>cases k with
    |zero=>
     have h:av (dW.obj 0 aQ (.vec e t (d'.toList.map (·.1.2))))=av (.obj ver fr c):=h;simp only[aA,dW.obj.injEq]at h;obtain⟨rfl,rfl,rfl⟩:=h;exact⟨rfl,rfl,rfl,rfl⟩
    |succ k=>cases h
   |new i j=>cases i <;> cases h
  obtain⟨rfl,rfl,rfl,rfl⟩:=dr;refine⟨hz,?_⟩;show(match β (.bt 0) with | none=>(d'.toList.map (·.1.2))=[] | some pl=>_);rw[hβ];have hlen:(d'.toList.map (λp:α=>p.1.2)).length=l.length:=by simpa using hd
  refine⟨_,0,mm,?_,by rw[hlen];exact q3,q4,q5,aP _,λ_=>rfl,?_⟩
  ·rw[<-q2];simp[putCells]
  ·have e3:(putCells id 0 (flatK enc t.size d') cur).toList.take ((d'.toList.map (λp:α=>p.1.2)).length*t.size)=(d'.toList.map enc).flatten:=by
    rw[aI1 hFs,PG enc hk,hlen];have e4:((d'.toList.map enc).flatten).length=l.length*t.size:=by rw[<-PG enc hk,c9,size_flatK,hd]
    rw[<-e4,List.take_left]
   rw[e3];exact SV (Q:=Q) (λc x h=>(hRm c x h).mono hle.mem) d'.toList
end
end Go.Ab
end
