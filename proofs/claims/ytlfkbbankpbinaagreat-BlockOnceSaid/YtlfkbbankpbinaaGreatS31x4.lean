/-
  Made short by a program of mine (wip/tools/mini.py).
-/
import Derived.Test.YtlfkbbankpbinaaGreatS31x3
import Derived.Test.YtlfkbbankpbinaaGreatProg
import Derived.Shelf.SlSortCmp.NoneTotal
set_option linter.unusedVariables false
set_option linter.unusedSimpArgs false
set_option maxRecDepth 100000
set_option synthInstance.maxSize 5000
open List renaming replicate->ai,set->gr,length->ag,take->bn,drop->bV
open Go renaming FuncId->fK,Program->aM,World->bW
open BitVec renaming ofInt->bj
open UInt8 renaming ofNat->fo
open Go.World renaming cell?->eN
open Int renaming toNat->ab
open Or renaming inr->fm,inl->lG
open Option renaming some->ao,none->aJ
open Bool renaming true->aT,false->aR
noncomputable section
variable {R:Type}
namespace Go.Ab
open Go.Proofs
def SI:Bs->Prop:=λb=>4<=b.length
def ad3:Bs->Int:=λb=>vw (aHJ (b.getD 0 0) (b.getD 1 0) (b.getD 2 0) (b.getD 3 0))
def binary:Fs Tryz.prog SI bG ad3:=fV 165 Tryz.f165 (λb=>([.d tB b],[])) (λx=>⟨.d (.int .u32) x,[],[]⟩) [ao tB]
theorem an9(b)(k:K1 R):binary.A b k=aS (gI 0 (b.length:Int)) (aS (gI 1 (b.length:Int)) (aS (gI 2 (b.length:Int)) (aS (gI 3 (b.length:Int)) (k (binary.out (eh .or .u32 (eh .or .u32 (eh .or .u32 (oe .u32 (eD .u32 (nth tb b 0)) 24) (oe .u32 (eD .u32 (nth tb b 1)) 16)) (oe .u32 (eD .u32 (nth tb b 2)) 8)) (eD .u32 (nth tb b 3))))) aJ) aJ) aJ) aJ:=cM
theorem aoa:binary.Ok:=by intro b h;have h:4<=b.length:=h;rw[an9,bz au au,bz au au,bz au au,bz au au];simp only[aj,aAm,afL,GZ];rfl
theorem aiq:binary.RS:=rE [.d tB] binary
def aob:=binary.gf aoa
def rl(w:W)(k:Nat):W:=w <<< k ||| w >>> (32 - k)
def V1:(Int×Int)->Prop:=λ(x,k)=>0<=x/\x < 4294967296
def axJ:(Int×Int)->Int:=λ(x,k)=>vw (rl (bj 32 x) (k%32).toNat)
def pc:Fs Tryz.prog V1 bG axJ:=fV 152 Tryz.f152 (λ(x,kv)=>([.d (.int .u32) x,.d ti kv],[])) (λx=>⟨.d (.int .u32) x,[],[]⟩) [ao (.int .u32),ao ti]
theorem arq(x kv)(k:K1 R):pc.A (x,kv) k=aS (rN (eh .and .u64 (eD .u64 kv) 31)) (aS (rN (dL .u64 32 (eh .and .u64 (eD .u64 kv) 31))) (k (pc.out (eh .or .u32 (oe .u32 x (eh .and .u64 (eD .u64 kv) 31)) (cW .u32 x (dL .u64 32 (eh .and .u64 (eD .u64 kv) 31)))))) aJ) aJ:=cM
theorem aFR(k:Int):eh .and .u64 (eD .u64 k) 31=k%32:=by have e:(31:Int)=vw (31:BitVec 64):=rfl;rw[amw,e,aoc];simp only;have:(31:BitVec 64)=BitVec.ofNat 64 (2^5 - 1):=rfl;unfold vw;rw[BitVec.toNat_and,rk,show(31:BitVec 64).toNat=2^5 - 1 from rfl,Nat.and_two_pow_sub_one_eq_mod];omega
theorem ars:pc.Ok:=by
 rintro⟨x,k⟩ ⟨h1,h2⟩;have e1:dL .u64 32 (k%32)=32 - k%32:=by unfold dL;rw[wrap_u64,mm];omega
 have hx:x=vw (bj 32 x):=by rw[mm];omega
 rw[arq,aFR,e1,vZ au,vZ au];simp only[aj];have e2:eh .or .u32 (oe .u32 x (k%32)) (cW .u32 x (32 - k%32))=vw (rl (bj 32 x) (k%32).toNat):=by
  conv=>lhs;rw[hx]
  rw[afL,T9,GZ];simp only[rl];congr 3;omega
 rw[e2];rfl
theorem akQ:pc.RS:=rE [.d (.int .u32),.d ti] pc
def ZS:=pc.gf ars
theorem ZR(w:W)(k:Int):pc.call (vw w,k)=ao (vw (rl w (k%32).toNat)):=by have h:V1 (vw w,k):=⟨aac w,by have:=aCV w;simpa using this⟩;rw[akQ h];show ao (vw (rl (bj 32 (vw w)) (k%32).toNat))=_;rw[v7]
def arR:Unit->Prop:=λ_=>True
def anB:Unit->(List Int):=λ_=>afO
def table:Fs Tryz.prog arR bG anB:=fV 151 Tryz.f151 (λ_=>([],[])) (λx=>⟨.d (.arr 64 (.int .u32)) x,[],[]⟩) []
theorem ax6(d)(k:K1 R):table.A d k=k (table.out [1116352408,1899447441,3049323471,3921009573,961987163,1508970993,2453635748,2870763221,3624381080,310598401,607225278,1426881987,1925078388,2162078206,2614888103,3248222580,3835390401,4022224774,264347078,604807628,770255983,1249150122,1555081692,1996064986,2554220882,2821834349,2952996808,3210313671,3336571891,3584528711,113926993,338241895,666307205,773529912,1294757372,1396182291,1695183700,1986661051,2177026350,2456956037,2730485921,2820302411,3259730800,3345764771,3516065817,3600352804,4094571909,275423344,430227734,506948616,659060556,883997877,958139571,1322822218,1537002063,1747873779,1955562222,2024104815,2227730452,2361852424,2428436474,2756734187,3204031479,3329325298]):=cM
theorem ax7:table.Ok:=by intro d _;rw[ax6];rfl
theorem arS:table.RS:=rE [] table
def ax8:=table.gf ax7
def apg:Unit->Prop:=λ_=>True
def amm:Unit->(List Int):=λ_=>zu.l
def first:Fs Tryz.prog apg bG amm:=fV 124 Tryz.f124 (λ_=>([],[])) (λx=>⟨.d (.arr 8 (.int .u32)) x,[],[]⟩) []
theorem auH(d)(k:K1 R):first.A d k=k (first.out [1779033703,3144134277,1013904242,2773480762,1359893119,2600822924,528734635,1541459225]):=cM
theorem auI:first.Ok:=by intro d _;rw[auH];rfl
theorem aph:first.RS:=rE [] first
def auJ:=first.gf auI
abbrev Iy:=Bs×Int×(List Int)
def wl(l:List W):List Int:=l.map vw
def EV(l:List W):List Int:=wl l++ai (64 - l.length) 0
def Ea(b:List Int)(k:Nat):List W:=if k<=16 then(words b).take k else aHA (words b) (k - 16)
def Et:Iy->Prop:=λ(b,t8,n2)=>64<=b.length/\∃k:Nat,k<=64/\t8=k/\n2=EV (Ea b k)
def BR:Iy->(List Int):=λ(b,t8,n2)=>wl (sched b)
def M8:Bs->Prop:=λb=>64<=b.length
def Kb:Bs->(List Int):=λb=>wl (sched b)
def jQ:Ls Et bG BR:=yg (λ(ov,t8,n2)=>⟨([.d tB ov,cq,fu 2]++bf 5 ([.d ti t8]++bf 52 [])),[],([[],[],dG (.d (.arr 64 (.int .u32)) n2)]++bI 58 [])⟩) (λx=>(.exit 0,⟨([cq,cq,fu 2]++bf 58 []),[],([[],[],dG (.d (.arr 64 (.int .u32)) x)]++bI 58 [])⟩))
def schedule:Fs Tryz.prog M8 bG Kb:=fV 150 Tryz.f150 (λb=>([.d tB b],[])) (λx=>⟨.d (.arr 64 (.int .u32)) x,[],[]⟩) [ao tB] [aob,ZS] {loops:=so [(2,{bp:=[0,2,8],sites:=[2]})],outs:=sm [(2,{bp:=[2],sites:=[2]},{bp:=[2]})],gS:=tt [(2,jQ.E)]}
theorem RL:jQ.RS:=rL [.d tB,.d ti,.d (.slice (.int .u32))] jQ
theorem CN(ov t8 n2)(kn:K2 R)(kx:K3 R):schedule.R 0 jQ (ov,t8,n2) kn kx=aS (gY t8 64) (aS (gY t8 16) (aS (inc (jj .i64 4 t8) (ov.length:Int)) (aq (binary.call (cut ov (ab (jj .i64 4 t8)) ((ag ov) - (ab (jj .i64 4 t8))))) λx1=>aS (gI t8 64) (aS (decide ((ab t8) < (ag n2))) (aS (decide ((((ab t8)*1)+0)=(0+((ab t8)*1)))) (aS (decide ((ab t8) < (ag n2))) (kn (jQ.st (ov,(bT .i64 t8 1),(gr n2 (ab t8) x1)))) aJ) aJ) aJ) aJ) aJ) (aS (gI (dL .i64 t8 15) 64) (aS (decide ((ab (dL .i64 t8 15)) < (ag n2))) (aS (decide ((((ab (dL .i64 t8 15))*1)+0)=(0+((ab (dL .i64 t8 15))*1)))) (aS (gI (dL .i64 t8 2) 64) (aS (decide ((ab (dL .i64 t8 2)) < (ag n2))) (aS (decide ((((ab (dL .i64 t8 2))*1)+0)=(0+((ab (dL .i64 t8 2))*1)))) (aq (pc.call ((nth (.int .u32) n2 (ab (dL .i64 t8 15))),(-7))) λx2=>aq (pc.call ((nth (.int .u32) n2 (ab (dL .i64 t8 15))),(-18))) λx3=>aq (pc.call ((nth (.int .u32) n2 (ab (dL .i64 t8 2))),(-17))) λx4=>aq (pc.call ((nth (.int .u32) n2 (ab (dL .i64 t8 2))),(-19))) λx5=>aS (gI (dL .i64 t8 16) 64) (aS (decide ((ab (dL .i64 t8 16)) < (ag n2))) (aS (decide ((((ab (dL .i64 t8 16))*1)+0)=(0+((ab (dL .i64 t8 16))*1)))) (aS (gI (dL .i64 t8 7) 64) (aS (decide ((ab (dL .i64 t8 7)) < (ag n2))) (aS (decide ((((ab (dL .i64 t8 7))*1)+0)=(0+((ab (dL .i64 t8 7))*1)))) (aS (gI t8 64) (aS (decide ((ab t8) < (ag n2))) (aS (decide ((((ab t8)*1)+0)=(0+((ab t8)*1)))) (aS (decide ((ab t8) < (ag n2))) (kn (jQ.st (ov,(bT .i64 t8 1),(gr n2 (ab t8) (bT .u32 (bT .u32 (bT .u32 (nth (.int .u32) n2 (ab (dL .i64 t8 16))) (eh .xor .u32 (eh .xor .u32 x2 x3) (cW .u32 (nth (.int .u32) n2 (ab (dL .i64 t8 15))) 3))) (nth (.int .u32) n2 (ab (dL .i64 t8 7)))) (eh .xor .u32 (eh .xor .u32 x4 x5) (cW .u32 (nth (.int .u32) n2 (ab (dL .i64 t8 2))) 10))))))) aJ) aJ) aJ) aJ) aJ) aJ) aJ) aJ) aJ) aJ) aJ) aJ) aJ) aJ) aJ) aJ)) (jQ.go kx n2):=cM
theorem ahe(b)(k:K1 R):schedule.A b k=aq (jQ.call (b,0,(ai 64 0))) λx6=>k (schedule.out x6):=cM
theorem ah0(b:List Int)(k:Nat)(h:k<=64):(Ea b k).length=k:=by
 unfold Ea;split
 ·simp[uc];omega
 ·rw[Ku,uc];omega
theorem aB1(b:List Int):Ea b 64=sched b:=rfl
theorem ash(b:List Int)(k:Nat)(h:k < 16):Ea b (k+1)=Ea b k++ [be b k]:=by unfold Ea;rw[if_pos au,if_pos au,List.take_succ_eq_append_getElem (by rw[uc];exact h)];simp[words]
theorem ayD(b:List Int)(k:Nat)(h:16<=k):Ea b (k+1)=ext (Ea b k):=by
 unfold Ea;rw[if_neg au];by_cases aIy:k=16
 ·subst aIy;rw[if_pos au,bJ (by rw[uc];omega)];rfl
 ·rw[if_neg au,show k+1 - 16=(k - 16)+1 by omega];rfl
theorem aaq(l:List W)(h:l.length<=64):(EV l).length=64:=by simp[EV,wl];omega
theorem GY(l:List W)(i:Nat)(h:i < l.length):nth (.int .u32) (EV l) i=vw (l.getD i 0):=by unfold nth EV wl;rw[aI,fq (by simpa using h)];simp[h]
theorem Yr(l:List W)(w:W)(h:l.length < 64):(EV l).set l.length (vw w)=EV (l++ [w]):=by unfold EV wl;rw[List.set_append_right _ _ (by simp)];simp only[cH,Nat.sub_self,List.map_append,ak,aH,bB];rw[show 64 - l.length=(64 - (l.length+(0+1)))+1 by omega,List.replicate_succ,List.set_cons_zero];simp
theorem aif(l:List W)(h:l.length=64):EV l=wl l:=by simp[EV,h]
theorem aDc(b:List Int)(k:Nat)(h:4*k+4<=b.length):aHJ ((cut b (4*k) (b.length - 4*k)).getD 0 0) ((cut b (4*k) (b.length - 4*k)).getD 1 0) ((cut b (4*k) (b.length - 4*k)).getD 2 0) ((cut b (4*k) (b.length - 4*k)).getD 3 0)=be b k:=by
 have e:∀j,j < 4->(cut b (4*k) (b.length - 4*k)).getD j 0=b.getD (4*k+j) 0:=λj hj=>by unfold cut;rw[aI,aI,List.getElem?_take_of_lt au,fx]
 unfold be;rw[e 0 au,e 1 au,e 2 au,e 3 au,cX]
theorem Wa:(schedule.mM 0 jQ):=by
 refine(schedule.qG 0 jQ) (λ(b,t8,n2)=>64 - t8.toNat) ?_
 rintro⟨b,t8,n2⟩ ⟨hb,k,hk,rfl,rfl⟩;have aFC:=ah0 b k hk;have auW:=aaq (Ea b k) au;by_cases h:k < 64
 ·left;refine⟨(b,((k+1:Nat):Int),EV (Ea b (k+1))),⟨hb,k+1,au,rfl,rfl⟩,by simp;omega,rfl,λkn kx=> ?_⟩;have e1:bT .i64 (k:Int) 1=((k+1:Nat):Int):=by rw[gX au au];omega
  have e2:ab (k:Int)=k:=au;rw[CN,bm au];simp only[aj,e1,e2,auW,jG,bg,cX,cV];by_cases aIy:k < 16
  ·have e3:jj .i64 4 (k:Int)=((4*k:Nat):Int):=by rw[LS au au];omega
   have e4:ab ((4*k:Nat):Int)=4*k:=au;rw[bm au,e3,tq au au,e4,bz au au,ba h];have hp:SI (cut b (4*k) (b.length - 4*k)):=by show 4<=_;rw[Di au];omega
   simp only[aj,aiq hp,ae];have e5:bG (cut b (4*k) (b.length - 4*k)) (ad3 (cut b (4*k) (b.length - 4*k)))=vw (be b k):=by show vw (aHJ _ _ _ _)=_;rw[aDc b k au]
   have e6:=Yr (Ea b k) (be b k) au;rw[aFC]at e6;rw[e5,e6,ash b k aIy]
  ·have a15:ab (dL .i64 (k:Int) 15)=k - 15:=by rw[gz au au];omega
   have a2:ab (dL .i64 (k:Int) 2)=k - 2:=by rw[gz au au];omega
   have a16:ab (dL .i64 (k:Int) 16)=k - 16:=by rw[gz au au];omega
   have a7:ab (dL .i64 (k:Int) 7)=k - 7:=by rw[gz au au];omega
   have i15:gI (dL .i64 (k:Int) 15) 64=aT:=bz (by rw[gz au au];omega) (by rw[gz au au];omega);have i2:gI (dL .i64 (k:Int) 2) 64=aT:=bz (by rw[gz au au];omega) (by rw[gz au au];omega);have i16:gI (dL .i64 (k:Int) 16) 64=aT:=bz (by rw[gz au au];omega) (by rw[gz au au];omega);have i7:gI (dL .i64 (k:Int) 7) 64=aT:=bz (by rw[gz au au];omega) (by rw[gz au au];omega);have i0:gI (k:Int) 64=aT:=bz au au;have d15:decide (k - 15 < 64)=aT:=ba au;have d2:decide (k - 2 < 64)=aT:=ba au;have d16:decide (k - 16 < 64)=aT:=ba au;have d7:decide (k - 7 < 64)=aT:=ba au;have d0:decide (k < 64)=aT:=ba h;rw[bh au];simp only[aj,al,a15,a2,a16,a7,i15,i2,i16,i7,i0,d15,d2,d16,d7,d0,GY (Ea b k) (k - 15) au,GY (Ea b k) (k - 2) au,GY (Ea b k) (k - 16) au,GY (Ea b k) (k - 7) au,ZR,ae,GZ,T9,TU];have e6:=Yr (Ea b k) (aCM (Ea b k) k) au;rw[aFC]at e6;rw[ayD b k au,ext,aFC,<-e6];rfl
 ·right;obtain rfl:k=64:=au;intro R kn kx;rw[CN,bh au,aif _ aFC,aB1];simp only[al,bG,BR]
theorem ahf:schedule.Ok:=by intro b hb;have hp:Et (b,0,ai 64 0):=⟨hb,0,au,rfl,rfl⟩;rw[ahe,RL hp];simp only[ae,bG,BR,bG,Kb]
theorem acK:schedule.RS:=rE [.d tB] schedule
def ahg:=schedule.gf ahf 1 ⟨.gA Wa,trivial⟩
abbrev Ur:=(List Int)×Int×(List Int)×(List Int)×(List Int)×(List Int)
def JO:Ur->(List Int)->(((List Int)×(List Int))×((List Int))):=λ(aDP,t18,n4,n5,n6,n7) y=>((aDP,n4),y)
abbrev Uu:=(List Int)×Int×(List Int)×(List Int)
def DE:Uu->(List Int)->(((List Int))×((List Int))):=λ(aFo,t104,oW,Xz) y=>(oW,y)
def ar1(l:List Int):St:=⟨bj 32 (l.getD 0 0),bj 32 (l.getD 1 0),bj 32 (l.getD 2 0),bj 32 (l.getD 3 0),bj 32 (l.getD 4 0),bj 32 (l.getD 5 0),bj 32 (l.getD 6 0),bj 32 (l.getD 7 0)⟩
theorem z7(s:St):ar1 s.l=s:=by obtain⟨a,b,c,d,e,f,g,h⟩:=s;simp[ar1,St.l,v7]
def aE9(l:List Int):List W:=l.map (bj 32)
theorem anG(l:List W):aE9 (wl l)=l:=by
 unfold aE9 wl;rw[List.map_map];have:(bj 32∘vw)=(id:W->W):=by funext w;exact v7 w
 rw[this,List.map_id]
def Ut:Ur->Prop:=λ(h,t,n4,n5,n6,n7)=>∃(s:St) (ws:List W) (k:Nat),h=s.l/\n5=wl ws/\ws.length=64/\k<=64/\t=k/\n6=afO/\n7=(rounds ws s k).l
def Us:Ur->(List Int):=λ(h,t,n4,n5,n6,n7)=>(rounds (aE9 n5) (ar1 h) 64).l
def Uv:Uu->Prop:=λ(h,t,n4,n7)=>n7.length=8/\∃k:Nat,k<=8/\t=k
def Md:Uu->(List Int):=λ(h,t,n4,n7)=>from_ (λi x=>bT .u32 x (nth (.int .u32) h i)) t.toNat n7
def abW:((List Int)×Bs)->Prop:=λ(h,b)=>(∃s:St,h=s.l)/\64<=b.length
def amO:((List Int)×Bs)->(List Int):=λ(h,b)=>(aqa (ar1 h) b).l
def Bx:Ls Ut JO Us:=yg (λ(aDP,t18,n4,n5,n6,n7)=>⟨([cq,cq,.eI (.arr 8 (.int .u32)) aDP,cq,fu 4,fu 5,fu 6,fu 7]++bf 10 ([.d ti t18]++bf 98 [])),[],(bI 4 ([dG (.d (.arr 8 (.int .u32)) n4),dG (.d (.arr 64 (.int .u32)) n5),dG (.d (.arr 64 (.int .u32)) n6),dG (.d (.arr 8 (.int .u32)) n7)]++bI 109 []))⟩) (λx=>(.exit 0,⟨([cq,cq,.eI (.arr 8 (.int .u32)) x.1.1,cq,fu 4,cq,cq,fu 7]++bf 109 []),[],(bI 4 ([dG (.d (.arr 8 (.int .u32)) x.1.2),[],[],dG (.d (.arr 8 (.int .u32)) x.2)]++bI 109 []))⟩))
def DD:Ls Uv DE Md:=yg (λ(aFo,t104,oW,Xz)=>⟨([cq,cq,.eI (.arr 8 (.int .u32)) aFo,cq,fu 4,cq,cq,fu 7]++bf 96 ([.d ti t104]++bf 12 [])),[],(bI 4 ([dG (.d (.arr 8 (.int .u32)) oW),[],[],dG (.d (.arr 8 (.int .u32)) Xz)]++bI 109 []))⟩) (λx=>(.exit 2,⟨(bf 4 ([fu 4,cq,cq,fu 7]++bf 109 [])),[],(bI 4 ([dG (.d (.arr 8 (.int .u32)) x.1),[],[],dG (.d (.arr 8 (.int .u32)) x.2)]++bI 109 []))⟩))
def mix:Fs Tryz.prog abW bG amO:=fV 125 Tryz.f125 (λ(h,b)=>([.d (.arr 8 (.int .u32)) h,.d tB b],[])) (λx=>⟨.d (.arr 8 (.int .u32)) x,[],[]⟩) [ao (.arr 8 (.int .u32)),ao tB] [ahg,ax8,ZS] {loops:=so [(4,{bp:=[2,4,5,6,7,18],sites:=[4,5,6,7]}),(13,{bp:=[2,4,7,104],sites:=[4,7]})],outs:=sm [(4,{bp:=[2,4,7],sites:=[4,7]},{bp:=[4]}),(13,{bp:=[4,7],sites:=[4,7]},{bp:=[4]})],gS:=tt [(4,Bx.E),(13,DD.E)]}
theorem ajT:Bx.RS:=rL [.d (.arr 8 (.int .u32)),.d ti,.d (.slice (.int .u32)),.d (.slice (.int .u32)),.d (.slice (.int .u32)),.d (.slice (.int .u32))] Bx
theorem Qo(aDP t18 n4 n5 n6 n7)(kn:K2 R)(kx:K3 R):mix.R 0 Bx (aDP,t18,n4,n5,n6,n7) kn kx=aS (gY t18 64) (aS (decide (4 < (ag n7))) (aq (pc.call ((nth (.int .u32) n7 4),(-6))) λx1=>aS (decide (4 < (ag n7))) (aq (pc.call ((nth (.int .u32) n7 4),(-11))) λx2=>aS (decide (4 < (ag n7))) (aq (pc.call ((nth (.int .u32) n7 4),(-25))) λx3=>aS (decide (7 < (ag n7))) (aS (decide (6 < (ag n7))) (aS (decide (4 < (ag n7))) (aS (decide (5 < (ag n7))) (aS (decide (6 < (ag n7))) (aS (gI t18 64) (aS (decide ((ab t18) < (ag n6))) (aS (decide ((((ab t18)*1)+0)=(0+((ab t18)*1)))) (aS (gI t18 64) (aS (decide ((ab t18) < (ag n5))) (aS (decide ((((ab t18)*1)+0)=(0+((ab t18)*1)))) (aS (decide (0 < (ag n7))) (aq (pc.call ((nth (.int .u32) n7 0),(-2))) λx4=>aS (decide (0 < (ag n7))) (aq (pc.call ((nth (.int .u32) n7 0),(-13))) λx5=>aS (decide (0 < (ag n7))) (aq (pc.call ((nth (.int .u32) n7 0),(-22))) λx6=>aS (decide (0 < (ag n7))) (aS (decide (1 < (ag n7))) (aS (decide (2 < (ag n7))) (aS (decide (0 < (ag n7))) (aS (decide (1 < (ag n7))) (aS (decide (0 < (ag n7))) (aS (decide (1 < (ag n7))) (aS (decide (2 < (ag n7))) (aS (decide (3 < (ag n7))) (aS (decide (4 < (ag n7))) (aS (decide (5 < (ag n7))) (aS (decide (6 < (ag n7))) (kn (Bx.st (aDP,(bT .i64 t18 1),n4,n5,n6,[(bT .u32 (bT .u32 (bT .u32 (bT .u32 (bT .u32 (bT .u32 (nth (.int .u32) n7 7) (eh .xor .u32 (eh .xor .u32 x1 x2) x3)) (eh .xor .u32 (nth (.int .u32) n7 6) (eh .and .u32 (nth (.int .u32) n7 4) (eh .xor .u32 (nth (.int .u32) n7 5) (nth (.int .u32) n7 6))))) (nth (.int .u32) n6 (ab t18))) (nth (.int .u32) n5 (ab t18))) (eh .xor .u32 (eh .xor .u32 x4 x5) x6)) (eh .or .u32 (eh .and .u32 (nth (.int .u32) n7 0) (nth (.int .u32) n7 1)) (eh .and .u32 (nth (.int .u32) n7 2) (eh .or .u32 (nth (.int .u32) n7 0) (nth (.int .u32) n7 1))))),(nth (.int .u32) n7 0),(nth (.int .u32) n7 1),(nth (.int .u32) n7 2),(bT .u32 (nth (.int .u32) n7 3) (bT .u32 (bT .u32 (bT .u32 (bT .u32 (nth (.int .u32) n7 7) (eh .xor .u32 (eh .xor .u32 x1 x2) x3)) (eh .xor .u32 (nth (.int .u32) n7 6) (eh .and .u32 (nth (.int .u32) n7 4) (eh .xor .u32 (nth (.int .u32) n7 5) (nth (.int .u32) n7 6))))) (nth (.int .u32) n6 (ab t18))) (nth (.int .u32) n5 (ab t18)))),(nth (.int .u32) n7 4),(nth (.int .u32) n7 5),(nth (.int .u32) n7 6)]))) aJ) aJ) aJ) aJ) aJ) aJ) aJ) aJ) aJ) aJ) aJ) aJ) aJ) aJ) aJ) aJ) aJ) aJ) aJ) aJ) aJ) aJ) aJ) aJ) aJ) aJ) aJ) aJ) aJ) (Bx.go kx ((aDP,n4),n7)):=cM
theorem ajU:DD.RS:=rL [.d (.arr 8 (.int .u32)),.d ti,.d (.slice (.int .u32)),.d (.slice (.int .u32))] DD
theorem Qp(aFo t104 oW Xz)(kn:K2 R)(kx:K3 R):mix.R 1 DD (aFo,t104,oW,Xz) kn kx=aS (gY t104 8) (aS (gI t104 8) (aS (decide ((ab t104) < (ag Xz))) (aS (decide ((((ab t104)*1)+0)=(0+((ab t104)*1)))) (aS (gI t104 8) (aS (gI t104 8) (aS (decide ((ab t104) < (ag Xz))) (aS (decide ((((ab t104)*1)+0)=(0+((ab t104)*1)))) (aS (decide ((ab t104) < (ag Xz))) (kn (DD.st (aFo,(bT .i64 t104 1),oW,(gr Xz (ab t104) (bT .u32 (nth (.int .u32) Xz (ab t104)) (nth (.int .u32) aFo (ab t104))))))) aJ) aJ) aJ) aJ) aJ) aJ) aJ) aJ) (DD.go kx (oW,Xz)):=cM
theorem aEs(h b)(k:K1 R):mix.A (h,b) k=aq (schedule.call b) λx1=>aq (table.call ()) λx2=>aq (Bx.call (h,0,(ai 8 0),x1,x2,h)) λx9=>aq (DD.call (x9.1.1,0,x9.1.2,x9.2)) λasi=>k (mix.out asi.2):=cM
theorem St.avv(s:St):s.l.length=8:=rfl
theorem afP:afO.length=64:=rfl
theorem avt(k:Nat)(h:k < 64):nth (.int .u32) afO k=vw (kw k):=by
 have hh:∀k:Fin 64,nth (.int .u32) afO k.val=vw (kw k.val):=by decide+kernel
 exact hh ⟨k,h⟩
theorem aFc(ws:List W)(k:Nat)(h:k < ws.length):nth (.int .u32) (wl ws) k=vw (ws.getD k 0):=by unfold nth wl;simp[h]
theorem aLS(w:W):rl w ((-6:Int)%32).toNat=HE w 6:=rfl
theorem aJK(w:W):rl w ((-11:Int)%32).toNat=HE w 11:=rfl
theorem aJN(w:W):rl w ((-25:Int)%32).toNat=HE w 25:=rfl
theorem aLR(w:W):rl w ((-2:Int)%32).toNat=HE w 2:=rfl
theorem aJL(w:W):rl w ((-13:Int)%32).toNat=HE w 13:=rfl
theorem aJM(w:W):rl w ((-22:Int)%32).toNat=HE w 22:=rfl
theorem n0(s:St):nth (.int .u32) s.l 0=vw s.a:=rfl
theorem n1(s:St):nth (.int .u32) s.l 1=vw s.b:=rfl
theorem n2(s:St):nth (.int .u32) s.l 2=vw s.c:=rfl
theorem n3(s:St):nth (.int .u32) s.l 3=vw s.d:=rfl
theorem n4(s:St):nth (.int .u32) s.l 4=vw s.e:=rfl
theorem n5(s:St):nth (.int .u32) s.l 5=vw s.f:=rfl
theorem n6(s:St):nth (.int .u32) s.l 6=vw s.g:=rfl
theorem n7(s:St):nth (.int .u32) s.l 7=vw s.h:=rfl
theorem aqb:(mix.mM 0 Bx):=by
 refine(mix.qG 0 Bx) (λ(h,t,n4,n5,n6,n7)=>64 - t.toNat) ?_
 rintro⟨h,t,m4,m5,m6,m7⟩ ⟨s,ws,k,rfl,rfl,hw,hk,rfl,rfl,rfl⟩;by_cases je:k < 64
 ·left;refine⟨(s.l,((k+1:Nat):Int),m4,wl ws,afO,(rounds ws s (k+1)).l),⟨s,ws,k+1,rfl,rfl,hw,au,rfl,rfl,rfl⟩,by simp;omega,rfl,λkn kx=> ?_⟩;have e1:bT .i64 (k:Int) 1=((k+1:Nat):Int):=by rw[gX au au];omega
  have e2:ab (k:Int)=k:=au;have aFC:(wl ws).length=64:=by simp[wl,hw]
  have d0:decide (k < 64)=aT:=ba je;have i0:gI (k:Int) 64=aT:=bz au au;rw[Qo,bm au];generalize hv:rounds ws s k=v;simp only[e1,e2,jG,bg,cX,cV,aj,St.avv,Nat.reduceLT,afP,aFC,d0,i0,n0,n1,n2,n3,n4,n5,n6,n7,ZR,ae,avt k je,aFc ws k au,GZ,TU,aLS,aJK,aJN,aLR,aJL,aJM];show kn _=kn (Bx.st (s.l,((k+1:Nat):Int),m4,wl ws,afO,(qG (rounds ws s k) (kw k) (ws.getD k 0)).l));rw[hv];rfl
 ·right;obtain rfl:k=64:=au;intro R kn kx;rw[Qo,bh au];simp only[al,JO,Us,anG,z7]
theorem aqc:(mix.mM 1 DD):=by
 refine(mix.qG 1 DD) (λ(h,t,n4,n7)=>8 - t.toNat) ?_
 rintro⟨h,t,m4,m7⟩ ⟨hl,k,hk,rfl⟩;have hl:m7.length=8:=hl;have e2:ab (k:Int)=k:=au;have e3:ab ((k+1:Nat):Int)=k+1:=au;by_cases je:k < 8
 ·left;have e1:bT .i64 (k:Int) 1=((k+1:Nat):Int):=by rw[gX au au];omega
  have hn:nth (.int .u32) m7 k=m7[k]:=da (t:= .int .u32) au;refine⟨(h,((k+1:Nat):Int),m4,m7.set k (bT .u32 m7[k] (nth (.int .u32) h k))),⟨by simpa using hl,k+1,au,rfl⟩,by simp;omega,?_,λkn kx=> ?_⟩
  ·simp only[DE,Md,e2,e3];rw[Y1 (λi x=>bT .u32 x (nth (.int .u32) h i)) m7 k au]
  ·have d0:decide (k < 8)=aT:=ba je;have i0:gI (k:Int) 8=aT:=bz au au;rw[Qp,bm au];simp only[e1,e2,jG,bg,cX,cV,aj,hl,d0,i0,hn]
 ·right;obtain rfl:k=8:=au;intro R kn kx;rw[Qp,bh au];simp only[al,DE,Md,e2];rw[aff _ _ _ au]
theorem aEt:mix.Ok:=by
 rintro⟨h,b⟩ ⟨⟨s,rfl⟩,hb⟩;have hs:M8 b:=hb;have asr:(sched b).length=64:=by unfold sched;rw[Ku,uc]
 have hp:Ut (s.l,0,ai 8 0,wl (sched b),afO,s.l):=⟨s,sched b,0,rfl,rfl,asr,au,rfl,rfl,rfl⟩;rw[aEs,acK hs];simp only[ae,arS (d:=()) trivial,bG,Kb,bG,anB,ajT hp,JO,Us,anG,z7];have aFv:Uv (s.l,0,ai 8 0,(rounds (sched b) s 64).l):=⟨rfl,0,au,rfl⟩;simp only[ajU aFv,ae,DE,Md,bG,amO,z7];unfold aqa;generalize rounds (sched b) s 64=v;obtain⟨a1,b1,c1,d1,f1,g1,h1,i1⟩:=v;simp only[St.l,from_,List.mapIdx_cons,List.mapIdx_nil,bo,Nat.not_lt_zero,cF,bg,Nat.reduceAdd];simp only[nth,lV,List.getD_cons_succ,TU]
theorem amP:mix.RS:=rE [.d (.slice (.int .u32)),.d tB] mix
def aEu:=mix.gf aEt 2 ⟨.gA aqb,⟨.gA aqc,trivial⟩⟩
theorem sr(n:Int)(k:Int)(h0:0<=k)(h1:k<=64):eD .u8 (cW .i64 n k)=n / 2^k.toNat%256:=by
 rw[aby,mm,cW];have e:min k.toNat IntKind.i64.bits=k.toNat:=by simp only[IntKind.bits];omega
 rw[e,Int.fdiv_eq_ediv_of_nonneg _ (Int.le_of_lt (Int.pow_pos au))];rfl
theorem CM{n:Nat}(h:n<=140737488355328):ea n 1=aT:=eW au au
def S0:Bs->Prop:=λb=>b.length<=140737488355328
def E8:Bs->(Nat×(List Int)):=λb=>(b.length,b)
def zf:Fs Tryz.prog S0 bG E8:=fV 123 Tryz.f123 (λsv=>([.d tB sv],[])) (λx=>⟨.b8 (.new 0 0) 0 [] 0 0 x.1,[],[.obj 0 aR (.vec 5 tb x.2)]⟩) [ao tB] [] {bN:=[5],owns:=[⟨2,[],5,78⟩]}
theorem aoI(sv)(k:K1 R):zf.A sv k=aS (decide (0 < (ag sv))) (aS (ea (0+(ag sv)) 1) (k (zf.out ((0+(ag sv)),((bn 0 (ai 0 0))++sv)))) aJ) (nd (k (zf.out (0,([]:List Int)))) (aS (ea (0+(ag sv)) 1) (k (zf.out ((0+(ag sv)),((bn 0 (ai 0 0))++sv)))) aJ)):=cM
theorem aoJ:zf.Ok:=by
 intro b hb;have hr:ea b.length 1=aT:=CM hb;rw[aoI];have e0:(bn 0 (ai 0 0):List Int)=[]:=rfl;simp only[bg,hr,aj,e0,aY,bG,E8];by_cases h:0 < b.length
 ·simp only[ba h,aj]
 ·have:b=[]:=bu au;subst this;simp only[bB,AO,bE (gv 0),al]
theorem I6:zf.RS:=rE [.d tB] zf
def N0:=zf.gf aoJ
def apY:Int->Prop:=λ_=>True
def amI:Int->(Nat×(List Int)):=λn=>(8,mq n)
def Ui:Fs Tryz.prog apY bG amI:=fV 84 Tryz.f84 (λn=>([.dH,.d ti n],[])) (λx=>⟨.b8 (.new 0 0) 0 [] 0 0 x.1,[],[.obj 0 aR (.vec 5 tb x.2)]⟩) [aJ,ao ti] [] {loops:=so [(2,{bp:=[0,1,5],sites:=[16]})],outs:=sm [(2,{bp:=[0],sites:=[16]},{bp:=[4],sites:=[16]})],owns:=[⟨4,[],16,78⟩]} 12
theorem avG(n)(k:K1 R):Ui.A n k=k (Ui.out (8,[(eD .u8 (cW .i64 n 56)),(eD .u8 (cW .i64 n 48)),(eD .u8 (cW .i64 n 40)),(eD .u8 (cW .i64 n 32)),(eD .u8 (cW .i64 n 24)),(eD .u8 (cW .i64 n 16)),(eD .u8 (cW .i64 n 8)),(eD .u8 (cW .i64 n 0))])):=cM
theorem aim(n:Int): [eD .u8 (cW .i64 n 56),eD .u8 (cW .i64 n 48),eD .u8 (cW .i64 n 40),eD .u8 (cW .i64 n 32),eD .u8 (cW .i64 n 24),eD .u8 (cW .i64 n 16),eD .u8 (cW .i64 n 8),eD .u8 (cW .i64 n 0)]=mq n:=by rw[sr n 56 au au,sr n 48 au au,sr n 40 au au,sr n 32 au au,sr n 24 au au,sr n 16 au au,sr n 8 au au,sr n 0 au au];simp[mq]
theorem avH:Ui.Ok:=by intro n _;rw[avG,aim];rfl
theorem apZ:Ui.RS:=rE [.d ti] Ui
def avI:=Ui.aIe aql avH 1 ⟨.none cM,trivial⟩
def OB:(Nat×Int×Bs)->Prop:=λ(m,n,l)=>m=l.length/\l.length<=140737488355320
def Se:(Nat×Int×Bs)->(Nat×(List Int)):=λ(m,n,l)=>(l.length+8,l++mq n)
def Qg:Fs Tryz.prog OB bG Se:=fV 84 Tryz.f84 (λ(bL,n,o0)=>([.b8 (.bF 0) 0 [] 0 0 bL,.d ti n],[.obj 0 aR (.vec 5 tb o0)])) (λx=>⟨.b8 (.bF 0) 8 [] 0 0 x.1,[.obj 8 aR (.vec 5 tb x.2)],[]⟩) [aJ,ao ti] [] {loops:=so [(2,{bp:=[0,1,5],sites:=[16]})],outs:=sm [(2,{bp:=[0],sites:=[16]},{bp:=[4],sites:=[16]})]} 12
theorem avJ(bL n o0)(k:K1 R):Qg.A (bL,n,o0) k=aS (decide (bL<=(ag o0))) (aS (ea (bL+1) 1) (aS (decide ((bL+1)<=(ag ((bn bL o0)++ [(eD .u8 (cW .i64 n 56))])))) (aS (ea ((bL+1)+1) 1) (aS (decide (((bL+1)+1)<=(ag ((bn (bL+1) ((bn bL o0)++ [(eD .u8 (cW .i64 n 56))]))++ [(eD .u8 (cW .i64 n 48))])))) (aS (ea (((bL+1)+1)+1) 1) (aS (decide ((((bL+1)+1)+1)<=(ag ((bn ((bL+1)+1) ((bn (bL+1) ((bn bL o0)++ [(eD .u8 (cW .i64 n 56))]))++ [(eD .u8 (cW .i64 n 48))]))++ [(eD .u8 (cW .i64 n 40))])))) (aS (ea ((((bL+1)+1)+1)+1) 1) (aS (decide (((((bL+1)+1)+1)+1)<=(ag ((bn (((bL+1)+1)+1) ((bn ((bL+1)+1) ((bn (bL+1) ((bn bL o0)++ [(eD .u8 (cW .i64 n 56))]))++ [(eD .u8 (cW .i64 n 48))]))++ [(eD .u8 (cW .i64 n 40))]))++ [(eD .u8 (cW .i64 n 32))])))) (aS (ea (((((bL+1)+1)+1)+1)+1) 1) (aS (decide ((((((bL+1)+1)+1)+1)+1)<=(ag ((bn ((((bL+1)+1)+1)+1) ((bn (((bL+1)+1)+1) ((bn ((bL+1)+1) ((bn (bL+1) ((bn bL o0)++ [(eD .u8 (cW .i64 n 56))]))++ [(eD .u8 (cW .i64 n 48))]))++ [(eD .u8 (cW .i64 n 40))]))++ [(eD .u8 (cW .i64 n 32))]))++ [(eD .u8 (cW .i64 n 24))])))) (aS (ea ((((((bL+1)+1)+1)+1)+1)+1) 1) (aS (decide (((((((bL+1)+1)+1)+1)+1)+1)<=(ag ((bn (((((bL+1)+1)+1)+1)+1) ((bn ((((bL+1)+1)+1)+1) ((bn (((bL+1)+1)+1) ((bn ((bL+1)+1) ((bn (bL+1) ((bn bL o0)++ [(eD .u8 (cW .i64 n 56))]))++ [(eD .u8 (cW .i64 n 48))]))++ [(eD .u8 (cW .i64 n 40))]))++ [(eD .u8 (cW .i64 n 32))]))++ [(eD .u8 (cW .i64 n 24))]))++ [(eD .u8 (cW .i64 n 16))])))) (aS (ea (((((((bL+1)+1)+1)+1)+1)+1)+1) 1) (aS (decide ((((((((bL+1)+1)+1)+1)+1)+1)+1)<=(ag ((bn ((((((bL+1)+1)+1)+1)+1)+1) ((bn (((((bL+1)+1)+1)+1)+1) ((bn ((((bL+1)+1)+1)+1) ((bn (((bL+1)+1)+1) ((bn ((bL+1)+1) ((bn (bL+1) ((bn bL o0)++ [(eD .u8 (cW .i64 n 56))]))++ [(eD .u8 (cW .i64 n 48))]))++ [(eD .u8 (cW .i64 n 40))]))++ [(eD .u8 (cW .i64 n 32))]))++ [(eD .u8 (cW .i64 n 24))]))++ [(eD .u8 (cW .i64 n 16))]))++ [(eD .u8 (cW .i64 n 8))])))) (aS (ea ((((((((bL+1)+1)+1)+1)+1)+1)+1)+1) 1) (k (Qg.out (((((((((bL+1)+1)+1)+1)+1)+1)+1)+1),((bn (((((((bL+1)+1)+1)+1)+1)+1)+1) ((bn ((((((bL+1)+1)+1)+1)+1)+1) ((bn (((((bL+1)+1)+1)+1)+1) ((bn ((((bL+1)+1)+1)+1) ((bn (((bL+1)+1)+1) ((bn ((bL+1)+1) ((bn (bL+1) ((bn bL o0)++ [(eD .u8 (cW .i64 n 56))]))++ [(eD .u8 (cW .i64 n 48))]))++ [(eD .u8 (cW .i64 n 40))]))++ [(eD .u8 (cW .i64 n 32))]))++ [(eD .u8 (cW .i64 n 24))]))++ [(eD .u8 (cW .i64 n 16))]))++ [(eD .u8 (cW .i64 n 8))]))++ [(eD .u8 (cW .i64 n 0))])))) aJ) aJ) aJ) aJ) aJ) aJ) aJ) aJ) aJ) aJ) aJ) aJ) aJ) aJ) aJ) aJ:=cM
theorem avK:Qg.Ok:=by rintro⟨m,n,l⟩ ⟨rfl,hl⟩;have hl:l.length<=140737488355320:=hl;rw[avJ];simp only[aF,cV,aj,bJ,ak,aH,bB,bg];rw[CM au,CM au,CM au,CM au,CM au,CM au,CM au,CM au];simp only[aj,bG,Se,<-aim,aO,List.cons_append,aY]
theorem Zg:Qg.RS:=rE [.n,.d ti,.d tB] Qg
def afV:=Qg.aIe Z1 avK 1 ⟨.none cM,trivial⟩
abbrev Oj:=Bs×Nat×Bs×(List Int)
abbrev Y9:=Nat×(List Int)
def AE:Oj->Y9->((Bs×Bs)×(Nat×(List Int))):=λ(ov,endL,n2,n14) y=>((ov,n2),y)
abbrev Ol:=Bs×Nat×Bs×(List Int)×(List Int)
def AF:Ol->(List Int)->((Nat×Bs×(List Int))×((List Int))):=λ(adv,Jp,sK,n4,UD) y=>((Jp,sK,UD),y)
abbrev Om:=Bs×Bs×(List Int)
def AG:Om->(List Int)->((Bs)×((List Int))):=λ(endv,zG,oW) y=>(zG,y)
abbrev Za:=Int×Bs×(List Int)
def zc(n:Nat):Nat:=(120 - n%64)%64
def P4:Oj->Prop:=λ(b,m,n2,l)=>m=l.length/\l.length+zc l.length<=140737488355328
def Hc:Oj->Y9:=λ(b,m,n2,l)=>(l.length+zc l.length,l++ai (zc l.length) 0)
def P5:Ol->Prop:=λ(b,m,n2,h,l)=>∃s:St,h=s.l
def Hd:Ol->(List Int):=λ(b,m,n2,h,l)=>(blocks (ar1 h) b).l
def P6:Om->Prop:=λ(b,n2,h)=>b.length%64=0/\∃s:St,h=s.l
def He:Om->(List Int):=λ(b,n2,h)=>(blocks (ar1 h) b).l
def YE(h:List Int)(i:Nat)(_:Int):Int:=eD .u8 (cW .u32 (nth (.int .u32) h (i / 4)) ((24 - 8*(i%4):Nat):Int))
def P7:Za->Prop:=λ(t,n2,h)=>n2.length=32/\h.length=8/\∃k:Nat,k<=32/\t=k
def Hf:Za->Bs:=λ(t,n2,h)=>from_ (YE h) t.toNat n2
def afy:Bs->Prop:=λb=>b.length<=140737488350000
def ajs:Bs->Bs:=λb=>aFJ b
def xP:Ls P4 AE Hc:=yg (λ(ov,endL,n2,n14)=>⟨([.d tB ov,cq,fu 2,oa 14 endL]++bf 61 []),[],([[],[],dG (.d tH n2)]++bI 11 ([dG (.vec 5 tb n14)]++bI 50 []))⟩) (λx=>(.exit 0,⟨([.d tB x.1.1,cq,fu 2,oa 14 x.2.1]++bf 61 []),[],([[],[],dG (.d tH x.1.2)]++bI 11 ([dG (.vec 5 tb x.2.2)]++bI 50 []))⟩))
def xQ:Ls P5 AF Hd:=yg (λ(adv,Jp,sK,n4,UD)=>⟨([.d tB adv,cq,fu 2,.b8 (.new 14 0) 8 [] 0 0 Jp,fu 4]++bf 60 []),[],([[],[],dG (.d tH sK),[],dG (.d (.arr 8 (.int .u32)) n4)]++bI 9 ([[.obj 8 aR (.vec 5 tb UD)]]++bI 50 []))⟩) (λx=>(.exit 2,⟨([cq,cq,fu 2,.b8 (.new 14 0) 8 [] 0 0 x.1.1,fu 4]++bf 60 []),[],([[],[],dG (.d tH x.1.2.1),[],dG (.d (.arr 8 (.int .u32)) x.2)]++bI 9 ([[.obj 8 aR (.vec 5 tb x.1.2.2)]]++bI 50 []))⟩))
def xR:Ls P6 AG He:=yg (λ(endv,zG,oW)=>⟨([cq,cq,fu 2,.d tB endv,fu 4]++bf 60 []),[],([[],[],dG (.d tH zG),[],dG (.d (.arr 8 (.int .u32)) oW)]++bI 60 [])⟩) (λx=>(.exit 4,⟨([cq,cq,fu 2,cq,fu 4]++bf 60 []),[],([[],[],dG (.d tH x.1),[],dG (.d (.arr 8 (.int .u32)) x.2)]++bI 60 [])⟩))
def xS:Ls P7 bG Hf:=yg (λ(t48,JR,Mj)=>⟨([cq,cq,fu 2,cq,fu 4]++bf 43 ([.d ti t48]++bf 16 [])),[],([[],[],dG (.d tH JR),[],dG (.d (.arr 8 (.int .u32)) Mj)]++bI 60 [])⟩) (λx=>(.exit 6,⟨([cq,cq,fu 2]++bf 62 []),[],([[],[],dG (.d tH x)]++bI 62 [])⟩))
def Bn:Fs Tryz.prog afy bG ajs:=fV 85 Tryz.f85 (λb=>([.d tB b],[])) (λx=>⟨.d tH x,[],[]⟩) [ao tB] [N0,afV,auJ,aEu] {loops:=so [(2,{bp:=[0,2,3],sites:=[2,14],owns:=[⟨3,[],14,78⟩]}),(6,{bp:=[0,2,3,4],sites:=[2,4,14]}),(9,{bp:=[2,3,4],sites:=[2,4],data:=[(3,tB)]}),(13,{bp:=[2,4,48],sites:=[2,4]})],outs:=sm [(2,{bp:=[0,2,3],sites:=[2,14]},{bp:=[2]}),(6,{bp:=[2,3,4],sites:=[2,4,14]},{bp:=[2]}),(9,{bp:=[2,4],sites:=[2,4]},{bp:=[2]}),(13,{bp:=[2],sites:=[2]},{bp:=[2]})],gS:=tt [(2,xP.E),(6,xQ.E),(9,xR.E),(13,xS.E)]}
theorem afu:xP.RS:=rL [.d tB,.n,.d tB,.d tB] xP
theorem LI(ov endL n2 n14)(kn:K2 R)(kx:K3 R):Bn.R 0 xP (ov,endL,n2,n14) kn kx=aS (JE (ur ((endL:Nat):Int) 64) 56) (aS (decide (endL<=(ag n14))) (aS (ea (endL+1) 1) (kn (xP.st (ov,(endL+1),n2,((bn endL n14)++ [0])))) aJ) aJ) (xP.go kx ((ov,n2),(endL,n14))):=cM
theorem afv:xQ.RS:=rL [.d tB,.n,.d tB,.d (.slice (.int .u32)),.d tB] xQ
theorem LJ(adv Jp sK n4 UD)(kn:K2 R)(kx:K3 R):Bn.R 1 xQ (adv,Jp,sK,n4,UD) kn kx=aS (Bp (adv.length:Int) 64) (aS (inc 64 (adv.length:Int)) (aq (mix.call (n4,(cut adv 0 64))) λx1=>aS (inc 64 (adv.length:Int)) (kn (xQ.st ((cut adv 64 ((ag adv) - 64)),Jp,sK,x1,UD))) aJ) aJ) (xQ.go kx ((Jp,sK,UD),n4)):=cM
theorem afw:xR.RS:=rL [.d tB,.d tB,.d (.slice (.int .u32))] xR
theorem LL(endv zG oW)(kn:K2 R)(kx:K3 R):Bn.R 2 xR (endv,zG,oW) kn kx=aS (Ak (endv.length:Int) 0) (aS (inc 64 (endv.length:Int)) (aq (mix.call (oW,(cut endv 0 64))) λx1=>aS (inc 64 (endv.length:Int)) (kn (xR.st ((cut endv 64 ((ag endv) - 64)),zG,x1))) aJ) aJ) (xR.go kx (zG,oW)):=cM
theorem afx:xS.RS:=rL [.d ti,.d tB,.d (.slice (.int .u32))] xS
theorem LM(t48 JR Mj)(kn:K2 R)(kx:K3 R):Bn.R 3 xS (t48,JR,Mj) kn kx=aS (gY t48 32) (aS (gI (Bq .i64 t48 4) 8) (aS (decide ((ab (Bq .i64 t48 4)) < (ag Mj))) (aS (decide ((((ab (Bq .i64 t48 4))*1)+0)=(0+((ab (Bq .i64 t48 4))*1)))) (aS (rN (dL .i64 24 (jj .i64 8 (ur t48 4)))) (aS (gI t48 32) (aS (decide ((ab t48) < (ag JR))) (aS (decide ((((ab t48)*1)+0)=(0+((ab t48)*1)))) (aS (decide ((ab t48) < (ag JR))) (kn (xS.st ((bT .i64 t48 1),(gr JR (ab t48) (eD .u8 (cW .u32 (nth (.int .u32) Mj (ab (Bq .i64 t48 4))) (dL .i64 24 (jj .i64 8 (ur t48 4)))))),Mj))) aJ) aJ) aJ) aJ) aJ) aJ) aJ) aJ) (xS.go kx JR):=cM
theorem aAb(b)(k:K1 R):Bn.A b k=aS (inc (dL .i64 (b.length:Int) (ur (b.length:Int) 64)) (b.length:Int)) (aq (zf.call (cut b (ab (dL .i64 (b.length:Int) (ur (b.length:Int) 64))) ((ag b) - (ab (dL .i64 (b.length:Int) (ur (b.length:Int) 64)))))) λx1=>aS (decide (x1.1<=(ag x1.2))) (aS (ea (x1.1+1) 1) (aq (xP.call (b,(x1.1+1),(ai 32 0),((bn x1.1 x1.2)++ [128]))) λx2=>aq (Qg.call (x2.2.1,(jj .i64 8 (x2.1.1.length:Int)),x2.2.2)) λx3=>aq (first.call ()) λx4=>aq (xQ.call (x2.1.1,x3.1,x2.1.2,x4,x3.2)) λx6=>aS (decide (0=0/\(0+x6.1.1)<=(ag x6.1.2.2))) (aq (xR.call ((cut x6.1.2.2 0 x6.1.1),x6.1.2.1,x6.2)) λx9=>aq (xS.call (0,x9.1,x9.2)) λasi=>k (Bn.out asi)) aJ) aJ) aJ) aJ:=cM
theorem ajt:(Bn.mM 0 xP):=by
 refine(Bn.qG 0 xP) (λ(b,m,n2,l)=>zc l.length) ?_
 rintro⟨b,m,n2,l⟩ ⟨rfl,hl⟩;have hl:l.length+zc l.length<=140737488355328:=hl;have hr:ur ((l.length:Nat):Int) 64=((l.length%64:Nat):Int):=by unfold ur;rw[gU au];omega
 by_cases h:l.length%64=56
 ·right;intro R kn kx;have hz:zc l.length=0:=by unfold zc;omega
  rw[LI,hr,eU au];simp only[al,AE,Hc,hz,cX,List.replicate_zero,bP]
 ·left;have hz:zc l.length=zc (l.length+1)+1:=by unfold zc;omega
  refine⟨(b,l.length+1,n2,l++ [0]),⟨by simp,by simp only[ak,aH,bB,bg];omega⟩,by simp only[ak,aH,bB,bg];omega,?_,λkn kx=> ?_⟩
  ·simp only[AE,Hc,ak,aH,bB,bg,hz,aO,List.cons_append,aY,List.replicate_succ];rw[show l.length+1+zc (l.length+1)=l.length+(zc (l.length+1)+1) by omega]
  ·rw[LI,hr,gZ au,CM au];simp only[aj,aF,cV,cJ]
theorem aju:(Bn.mM 1 xQ):=by
 refine(Bn.qG 1 xQ) (λ(b,m,n2,h,l)=>b.length) ?_
 rintro⟨b,m,n2,h,l⟩ ⟨s,rfl⟩;by_cases hb:64<=b.length
 ·left;have e1:cut b 64 (b.length - 64)=b.drop 64:=by unfold cut;rw[bJ (by simp)]
  have e2:cut b 0 64=b.take 64:=rfl;have hp:abW (s.l,b.take 64):=⟨⟨s,rfl⟩,by simp;omega⟩;refine⟨(b.drop 64,m,n2,(aqa s (b.take 64)).l,l),⟨_,rfl⟩,by simp;omega,?_,λkn kx=> ?_⟩
  ·simp only[AF,Hd,z7];rw[Pz s b hb]
  ·rw[LJ,gM au,tq au au,e1,e2];simp only[aj,amP hp,ae,bG,amO,z7]
 ·right;intro R kn kx;rw[LJ,eT au];simp only[al,AF,Hd,z7];rw[I2 s b au]
theorem ajv:(Bn.mM 2 xR):=by
 refine(Bn.qG 2 xR) (λ(b,n2,h)=>b.length) ?_
 rintro⟨b,n2,h⟩ ⟨hm,s,rfl⟩;have hm:b.length%64=0:=hm;by_cases hb:0 < b.length
 ·left;have e1:cut b 64 (b.length - 64)=b.drop 64:=by unfold cut;rw[bJ (by simp)]
  have e2:cut b 0 64=b.take 64:=rfl;have hp:abW (s.l,b.take 64):=⟨⟨s,rfl⟩,by simp;omega⟩;refine⟨(b.drop 64,n2,(aqa s (b.take 64)).l),⟨by simp;omega,_,rfl⟩,by simp;omega,?_,λkn kx=> ?_⟩
  ·simp only[AG,He,z7];rw[Pz s b au]
  ·rw[LL,dT au,tq au au,e1,e2];simp only[aj,amP hp,ae,bG,amO,z7]
 ·right;intro R kn kx;rw[LL,du au];simp only[al,AG,He,z7];rw[I2 s b au]
theorem ajw:(Bn.mM 3 xS):=by
 refine(Bn.qG 3 xS) (λ(t,n2,h)=>32 - t.toNat) ?_
 rintro⟨t,m,h⟩ ⟨hl,h8,k,hk,rfl⟩;have hl:m.length=32:=hl;have h8:h.length=8:=h8;have e2:ab (k:Int)=k:=au;have e3:ab ((k+1:Nat):Int)=k+1:=au;by_cases je:k < 32
 ·left;have e1:bT .i64 (k:Int) 1=((k+1:Nat):Int):=by rw[gX au au];omega
  have q4:Bq .i64 (k:Int) 4=((k / 4:Nat):Int):=by
   have:(k:Int).tdiv 4=((k / 4:Nat):Int):=by rw[ke au];omega
   unfold Bq;rw[this,tp au au]
  have r4:ur (k:Int) 4=((k%4:Nat):Int):=by unfold ur;rw[gU au];omega
  have s4:dL .i64 24 (jj .i64 8 ((k%4:Nat):Int))=((24 - 8*(k%4):Nat):Int):=by rw[LS au au,gz au au];omega
  have e4:ab ((k / 4:Nat):Int)=k / 4:=au;refine⟨(((k+1:Nat):Int),m.set k (YE h k m[k]),h),⟨by simpa using hl,h8,k+1,au,rfl⟩,by simp;omega,?_,λkn kx=> ?_⟩
  ·simp only[bG,Hf,e2,e3];rw[Y1 (YE h) m k au]
  ·have d0:decide (k < 32)=aT:=ba je;have d1:decide (k / 4 < 8)=aT:=ba au;rw[LM,bm au,q4,r4,s4,bz au au,bz au au,vZ au];simp only[e1,e2,e4,jG,bg,cX,cV,aj,hl,h8,d0,d1,YE]
 ·right;obtain rfl:k=32:=au;intro R kn kx;rw[LM,bh au];simp only[al,bG,Hf,e2];rw[aff _ _ _ au]
theorem aqp(w:W):bj 8 (vw w)=w.setWidth 8:=by apply BitVec.eq_of_toNat_eq;rw[rk,BitVec.toNat_setWidth];unfold vw;omega
theorem aDq(w:W)(k:Int):eD .u8 (cW .u32 (vw w) k)=vw ((w >>> k.toNat).setWidth 8):=by rw[T9,aby,aqp]
theorem aAW(s:St):from_ (YE s.l) 0 (ai 32 0)=aAV s:=by rw[TI];simp only[List.range_eq_range',List.range',cr,iU,YE,Nat.reduceAdd,Nat.reduceDiv,Nat.reduceMod,Nat.reduceMul,Nat.reduceSub,n0,n1,n2,n3,n4,n5,n6,n7,aDq];rfl
theorem aAc:Bn.Ok:=by
 intro b hb;have hb:b.length<=140737488350000:=hb;have hr:ur ((b.length:Nat):Int) 64=((b.length%64:Nat):Int):=by unfold ur;rw[gU au];omega
 have hs:dL .i64 ((b.length:Nat):Int) ((b.length%64:Nat):Int)=((b.length - b.length%64:Nat):Int):=by rw[gz au au];omega
 have hn:ab ((b.length - b.length%64:Nat):Int)=b.length - b.length%64:=au;have hm:jj .i64 8 ((b.length:Nat):Int)=8*(b.length:Int):=LS au au;generalize hq:b.length - b.length%64=q at hs hn;have hc:cut b q (b.length - q)=b.drop q:=by unfold cut;rw[bJ (by simp)]
 have asp:(b.drop q).length=b.length%64:=by simp;omega
 have p1:S0 (b.drop q):=by show(b.drop q).length<=_;omega
 rw[aAb,hr,hs,tq au au,hn,hc];simp only[aj,I6 p1,ae,bG,E8,aF,cV,cJ];have p2:P4 (b,(b.drop q).length+1,ai 32 0,b.drop q++ [128]):=by refine⟨by simp,?_⟩;simp only[ak,aH,bB,zc];omega
 have hz:zc (b.drop q++ [128]).length=Mq b.length:=by simp only[ak,aH,bB,zc,Mq];omega
 rw[CM au];simp only[aj,afu p2,ae,AE,Hc,hm,hz];have hlen:(b.drop q++ [128]).length+Mq b.length=(b.drop q++ [128]++ai (Mq b.length) 0).length:=by rw[@ak _ (b.drop q++ [128]),dE]
 have p3:OB ((b.drop q++ [128]).length+Mq b.length,8*(b.length:Int),b.drop q++ [128]++ai (Mq b.length) 0):=by refine⟨hlen,?_⟩;simp only[ak,aH,bB,dE,Mq];omega
 have p4:P5 (b,(b.drop q++ [128]++ai (Mq b.length) 0).length+8,ai 32 0,zu.l,b.drop q++ [128]++ai (Mq b.length) 0++mq (8*(b.length:Int))):=⟨zu,rfl⟩;simp only[Zg p3,ae,bG,Se,aph (d:=()) trivial,bG,amm,afv p4,AF,Hd,z7];generalize he:b.drop q++ [128]++ai (Mq b.length) 0++mq (8*(b.length:Int))=e;have Hz:(b.drop q++ [128]++ai (Mq b.length) 0).length+8=e.length:=by rw[<-he,@ak _ _ (mq _),dA]
 have aFr:e.length%64=0:=by rw[<-Hz];simp only[ak,aH,bB,dE,Mq,asp];omega
 have aDT:cut e 0 ((b.drop q++ [128]++ai (Mq b.length) 0).length+8)=e:=by rw[Hz];unfold cut;rw[aQ,cJ]
 rw[aDT,Hz,ba ⟨trivial,au⟩];have p5:P6 (e,ai 32 0,(blocks zu b).l):=⟨aFr,blocks zu b,rfl⟩;have p6:P7 (0,ai 32 0,(blocks (blocks zu b) e).l):=⟨rfl,rfl,0,au,rfl⟩;simp only[aj,afw p5,ae,AG,He,z7,afx p6,bG,Hf,bG,ajs];rw[show ab 0=0 from rfl,aAW];have aDQ:blocks zu (pad b)=blocks (blocks zu b) e:=by
  have h1:pad b=b.take q++e:=by rw[<-he];unfold pad;rw[aO,aO,<-aO (b.take q),dR];rfl
  have h2:blocks zu b=blocks (blocks zu (b.take q)) (b.drop q):=by rw[<-HJ _ _ _ (by simp;omega),dR]
  rw[h1,HJ _ _ _ (by simp;omega),h2,I2 _ (b.drop q) au]
 rw[aFJ,aDQ]
theorem au8:Bn.RS:=rE [.d tB] Bn
def aAd:=Bn.gf aAc 4 ⟨.gA ajt,⟨.gA aju,⟨.gA ajv,⟨.gA ajw,trivial⟩⟩⟩⟩
abbrev Oq:=Nat×(List Bs)×Int×Int×Bs×(List Int)
abbrev Zb:=Nat×(List Int)
def AH:Oq->Zb->((Bs)×(Nat×(List Int))):=λ(bL,t13,t14,t15,n4,n10) y=>(n4,y)
abbrev au9:=ByteArray×(List Bs)
def P8:Oq->Prop:=λ(m,ps,n,i,n4,l)=>m=l.length/\n=ps.length/\ps.length<=140737488350000/\∃k:Nat,k<=ps.length/\i=k/\l.length+(yI (ps.drop k)).length<=140737488350000
def Hg:Oq->Zb:=λ(m,ps,n,i,n4,l)=>(l.length+(yI (ps.drop i.toNat)).length,l++yI (ps.drop i.toNat))
def LO:au9->Prop:=λ(name,ps)=>(X0 (cE name) ps).length<=140737488350000
def abx:au9->Bs:=λ(name,ps)=>tag (cE name) ps
def xT:Ls P8 AH Hg:=yg (λ(bL,t13,t14,t15,n4,n10)=>⟨(bf 4 ([fu 4,oa 10 bL]++bf 7 ([.d (.slice tB) t13,.d ti t14,.d ti t15]++bf 12 []))),[],(bI 4 ([dG (.d tH n4)]++bI 5 ([dG (.vec 5 tb n10)]++bI 17 [])))⟩) (λx=>(.exit 0,⟨(bf 4 ([fu 4,oa 10 x.2.1]++bf 22 [])),[],(bI 4 ([dG (.d tH x.1)]++bI 5 ([dG (.vec 5 tb x.2.2)]++bI 17 [])))⟩))
def Oo:Fs Tryz.prog LO bG abx:=fV 41 Tryz.f41 (λ(name,parts)=>([.d .str name,.d (.slice tB) parts],[])) (λx=>⟨.d tH x,[],[]⟩) [ao .str,ao (.slice tB)] [avI,afV,aAd] {loops:=so [(3,{bp:=[4,5,13,14,15],sites:=[4,10],owns:=[⟨5,[],10,78⟩]})],outs:=sm [(3,{bp:=[4,5],sites:=[4,10]},{bp:=[4]})],gS:=tt [(3,xT.E)]}
theorem afz:xT.RS:=rL [.n,.d (.slice tB),.d ti,.d ti,.d tB,.d tB] xT
theorem LN(bL t13 t14 t15 n4 n10)(kn:K2 R)(kx:K3 R):Oo.R 0 xT (bL,t13,t14,t15,n4,n10) kn kx=aS (gY t15 t14) (aS (gI t15 (t13.length:Int)) (aq (Qg.call (bL,(((ag (nth tB t13 (ab t15))):Nat):Int),n10)) λx1=>aS (decide (x1.1<=(ag x1.2))) (aS (ea (x1.1+(ag (nth tB t13 (ab t15)))) 1) (kn (xT.st ((x1.1+(ag (nth tB t13 (ab t15)))),t13,t14,(bT .i64 t15 1),n4,((bn x1.1 x1.2)++(nth tB t13 (ab t15)))))) aJ) aJ) aJ) (xT.go kx (n4,(bL,n10))):=cM
theorem aAe(name parts)(k:K1 R):Oo.A (name,parts) k=aq (Ui.call (((ByteArray.size name):Nat):Int)) λx1=>aS (decide (x1.1<=(ag x1.2))) (aS (ea (x1.1+(ag (cE name))) 1) (aq (xT.call ((x1.1+(ag (cE name))),parts,(parts.length:Int),0,(ai 32 0),((bn x1.1 x1.2)++(cE name)))) λx4=>aS (decide (0=0/\(0+x4.2.1)<=(ag x4.2.2))) (aq (Bn.call (cut x4.2.2 0 x4.2.1)) λx5=>k (Oo.out x5)) aJ) aJ) aJ:=cM
theorem Z4(p:List Int)(ps:List (List Int)):yI (p::ps)=mq p.length++p++yI ps:=by simp[yI]
theorem arT(ps:List (List Int))(k:Nat)(h:k < ps.length):yI (ps.drop k)=mq ps[k].length++ps[k]++yI (ps.drop (k+1)):=by rw[aC h,Z4]
theorem ajx:(Oo.mM 0 xT):=by
 refine(Oo.qG 0 xT) (λ(m,ps,n,i,n4,l)=>ps.length - i.toNat) ?_
 rintro⟨m,ps,n,i,n4,l⟩ ⟨rfl,rfl,Rw,k,hk,rfl,hl⟩;have hl:l.length+(yI (ps.drop k)).length<=140737488350000:=hl;have hk:k<=ps.length:=hk;have e2:ab (k:Int)=k:=au;have e3:ab ((k+1:Nat):Int)=k+1:=au;by_cases h:k < ps.length
 ·left;have ht:=arT ps k h;have hlen:(yI (ps.drop k)).length=8+ps[k].length+(yI (ps.drop (k+1))).length:=by rw[ht];simp only[ak,dA]
  have hn:nth (.slice (.int .u8)) ps k=ps[k]:=da (t:= .slice (.int .u8)) h;have Rw:ps.length<=140737488350000:=Rw;have e1:bT .i64 (k:Int) 1=((k+1:Nat):Int):=by rw[gX au au];omega
  refine⟨((l++mq ps[k].length++ps[k]).length,ps,(ps.length:Int),((k+1:Nat):Int),n4,l++mq ps[k].length++ps[k]),⟨rfl,rfl,Rw,k+1,by show k+1<=ps.length;omega,rfl,?_⟩,?_,?_,λkn kx=> ?_⟩
  ·show(l++mq ps[k].length++ps[k]).length+(yI (ps.drop (k+1))).length<=_;simp only[ak,dA];omega
  ·show ps.length - ab ((k+1:Nat):Int) < ps.length - ab (k:Int);omega
  ·simp only[AH,Hg,e2,e3,ht,aO];simp only[ak,dA,fF]
  ·have p1:OB (l.length,(ps[k].length:Int),l):=⟨rfl,by show l.length<=_;omega⟩;rw[LN,bm au,bz au au,e1,e2];simp only[aj,hn,Zg p1,ae,bG,Se];have aD3:(l++mq ps[k].length).length=l.length+8:=by simp[dA]
   rw[aD3,ba (aF _),CM au];simp only[aj];rw[bJ (by rw[aD3];omega)];simp only[ak,dA,fF]
 ·right;obtain rfl:k=ps.length:=au;intro R kn kx;rw[LN,bh au];simp only[al,AH,Hg,e2,aU];simp[yI]
theorem ahz:∀ps:List (List Int),8*ps.length<=(yI ps).length
 |[]=>by simp[yI]
 |p::ps=>by rw[Z4];have:=ahz ps;simp only[ak,dA,aH];omega
theorem nX(s:ByteArray):(cE s).length=s.size:=by simp only[cE,cH,cR];rfl
theorem aAf:Oo.Ok:=by
 rintro⟨name,ps⟩ hp;have hp:(mq (cE name).length++cE name++yI ps).length<=140737488350000:=hp;have hl:(mq (cE name).length++cE name++yI ps).length=8+(cE name).length+(yI ps).length:=by simp only[ak,dA]
 have Rw:=ahz ps;have sj:((name.size:Nat):Int)=(((cE name).length:Nat):Int):=by rw[nX]
 rw[aAe,apZ (d:=((name.size:Nat):Int)) trivial,sj];simp only[ae,bG,amI,dA,aF,cV,aj];rw[CM au,bJ (by rw[dA];omega)];have p2:P8 (8+(cE name).length,ps,(ps.length:Int),0,ai 32 0,mq ((cE name).length:Int)++cE name):=by refine⟨by simp only[ak,dA],rfl,by show ps.length<=_;omega,0,aN _,rfl,?_⟩;rw[aQ];simp only[ak,dA];omega
 simp only[aj,afz p2,ae,AH,Hg,bo,aQ];have az2:cut (mq ((cE name).length:Int)++cE name++yI ps) 0 ((mq ((cE name).length:Int)++cE name).length+(yI ps).length)=X0 (cE name) ps:=by unfold cut;rw[aQ,bJ (by simp only[ak];omega)];rfl
 have p3:afy (X0 (cE name) ps):=hp;rw[ba ⟨trivial,by simp only[ak];omega⟩,az2];simp only[aj,au8 p3,ae,bG,ajs,bG,abx,tag]
theorem LP:Oo.RS:=rE [.d .str,.d (.slice tB)] Oo
def R7:=Oo.gf aAf 1 ⟨.gA ajx,trivial⟩
theorem NF{n:Int}(h1:0<=n)(h2:n < 18446744073709551616):IntKind.u64.wrap n=n:=by rw[wrap_u64,mm];omega
theorem ND(n:Int):IntKind.u64.wrap n=n%18446744073709551616:=by rw[wrap_u64,mm];rfl
theorem xU(x y:Int):bT .u64 x y=(x+y)%18446744073709551616:=ND _
theorem R9(x y:Int):dL .u64 x y=(x - y)%18446744073709551616:=ND _
theorem xV(x y:Int):jj .u64 x y=(x*y)%18446744073709551616:=ND _
theorem avf(x:Int):eD .u64 x=x%18446744073709551616:=ND _
theorem adQ{x:Int}(h:0<=x)(h2:x < 18446744073709551616):eh .and .u64 x 4294967295=x%4294967296:=by
 obtain⟨n,rfl⟩:∃n:Nat,x=n:=⟨x.toNat,au⟩;have e:(bj 64 (n:Int) &&& bj 64 4294967295).toNat=n%4294967296:=by
  rw[BitVec.toNat_and];have a:(bj 64 (n:Int)).toNat=n:=by rw[iY,ka];omega
  have b:(bj 64 4294967295).toNat=2^32 - 1:=eZ;rw[a,b,Nat.and_two_pow_sub_one_eq_mod]
 show IntKind.u64.wrap ((bj 64 (n:Int) &&& bj 64 4294967295).toNat:Int)=_;rw[e,NF au au];omega
theorem aIt{x:Int}(h:0<=x)(h2:x < 18446744073709551616):eh .and .u64 x 1=x%2:=by
 obtain⟨n,rfl⟩:∃n:Nat,x=n:=⟨x.toNat,au⟩;have e:(bj 64 (n:Int) &&& bj 64 1).toNat=n%2:=by
  rw[BitVec.toNat_and];have a:(bj 64 (n:Int)).toNat=n:=by rw[iY,ka];omega
  have b:(bj 64 1).toNat=2^1 - 1:=eZ;rw[a,b,Nat.and_two_pow_sub_one_eq_mod]
 show IntKind.u64.wrap ((bj 64 (n:Int) &&& bj 64 1).toNat:Int)=_;rw[e,NF au au];omega
theorem vp{x k:Int}(n:Nat)(hk:k=n)(hn:n<=64):cW .u64 x k=x / 2^n:=by
 subst hk;rw[cW];have e:min (ab (n:Int)) IntKind.u64.bits=n:=by simp only[IntKind.bits];omega
 rw[e,Int.fdiv_eq_ediv_of_nonneg _ (Int.le_of_lt (Int.pow_pos au))]
theorem vo{x k:Int}(n:Nat)(hk:k=n)(hn:n<=64):oe .u64 x k=x*2^n%18446744073709551616:=by
 subst hk;rw[oe,ND];have e:min (ab (n:Int)) IntKind.u64.bits=n:=by simp only[IntKind.bits];omega
 rw[e]
theorem Mp{x y:Int}(k:Nat)(m:Int)(hm:m=2^k)(hx:x%m=0)(h0:0<=x)(h1:x < 18446744073709551616)(hy:0<=y)(aFD:y < m)(h2:x+y < 18446744073709551616):eh .or .u64 x y=x+y:=by
 subst hm;obtain⟨n,rfl⟩:∃n:Nat,x=n:=⟨x.toNat,au⟩;obtain⟨j,rfl⟩:∃j:Nat,y=j:=⟨y.toNat,au⟩;have hx:n%2^k=0:=by
  have:((n%2^k:Nat):Int)=0:=by rw[pv];simpa using hx
  omega
 have hj:j < 2^k:=by
  have:((j:Nat):Int) < ((2^k:Nat):Int):=by simpa using aFD
  omega
 obtain⟨q,rfl⟩:∃q,n=2^k*q:=⟨n / 2^k,by have:=Nat.div_add_mod n (2^k);omega⟩;have e:(bj 64 ((2^k*q:Nat):Int) ||| bj 64 (j:Int)).toNat=2^k*q+j:=by
  rw[BitVec.toNat_or];have a:(bj 64 ((2^k*q:Nat):Int)).toNat=2^k*q:=by rw[iY,ka];exact jZ au
  have b:(bj 64 (j:Int)).toNat=j:=by rw[iY,ka];exact jZ au
  rw[a,b,Nat.two_pow_add_eq_or_of_lt hj]
 show IntKind.u64.wrap ((bj 64 ((2^k*q:Nat):Int) ||| bj 64 (j:Int)).toNat:Int)=_;rw[e,NF au au];omega
theorem amD{x y:Int}(h:0<=x)(h1:0<=y)(h2:x < 18446744073709551616):Bq .u64 x y=x / y:=by rw[Bq,ke h];exact NF (Int.ediv_nonneg h h1) (Int.lt_of_le_of_lt (Int.ediv_le_self _ h) h2)
theorem Hh{x y:Int}(h:0<=x):ur x y=x%y:=by rw[ur,gU h]
theorem k1{e u w r q:Int}(he:e=42260\/e=42264\/e=42272)(hu:0<=u)(adA:u < 18446744073709551616 - e)(hw:0<=w)(ast:w < 4294967296)(hr:0<=r)(aft:r < 4294967296)
  (hq:q*4294967295+r=u) (hQ:(u*4294967296+w) / (18446744073709551616 - e)<=q):
  (4294967296<=q->(u*4294967296+w) / (18446744073709551616 - e)<=q - 1)/\
  (q < 4294967296->4294967296*r+w < q*(4294967296 - e)->(u*4294967296+w) / (18446744073709551616 - e)<=q - 1)/\
  (q < 4294967296->q*(4294967296 - e)<=4294967296*r+w->(u*4294967296+w) / (18446744073709551616 - e)=q)/\
  (4294967296<=r+4294967295->(u*4294967296+w) / (18446744073709551616 - e)<=q - 1->(u*4294967296+w) / (18446744073709551616 - e)=q - 1)/\0<=(u*4294967296+w) / (18446744073709551616 - e)/\q<=4294967297:=by
 rcases he with rfl | rfl | rfl
 ·refine⟨?_,?_,?_,?_,?_,?_⟩ <;> omega
 ·refine⟨?_,?_,?_,?_,?_,?_⟩ <;> omega
 ·refine⟨?_,?_,?_,?_,?_,?_⟩ <;> omega
theorem k0{e u w:Int}(he:e=42260\/e=42264\/e=42272)(hu:0<=u)(adA:u < 18446744073709551616 - e)(hw:0<=w)(ast:w < 4294967296):
  (u*4294967296+w) / (18446744073709551616 - e)<=u / 4294967295/\0<=u - u / 4294967295*4294967295/\u - u / 4294967295*4294967295 < 4294967296/\
  (u*4294967296+w) - (u*4294967296+w) / (18446744073709551616 - e)*(18446744073709551616 - e)=(u*4294967296+w)%(18446744073709551616 - e)/\
  0<=(u*4294967296+w)%(18446744073709551616 - e)/\(u*4294967296+w)%(18446744073709551616 - e) < 18446744073709551616 - e/\
  0<=(u*4294967296+w) / (18446744073709551616 - e)/\(u*4294967296+w) / (18446744073709551616 - e) < 4294967296:=by
 rcases he with rfl | rfl | rfl
 ·refine⟨?_,?_,?_,?_,?_,?_,?_,?_⟩ <;> omega
 ·refine⟨?_,?_,?_,?_,?_,?_,?_,?_⟩ <;> omega
 ·refine⟨?_,?_,?_,?_,?_,?_,?_,?_⟩ <;> omega
theorem kd(Y u w1 w0:Int)(hY:0 < Y)(h0:0<=w0)(h1:w0 < 4294967296):
  ((u*4294967296+w1)*4294967296+w0) / Y=(u*4294967296+w1) / Y*4294967296+((u*4294967296+w1)%Y*4294967296+w0) / Y/\
  ((u*4294967296+w1)*4294967296+w0)%Y=((u*4294967296+w1)%Y*4294967296+w0)%Y:=by
 generalize u*4294967296+w1=n;have e:n*4294967296+w0=(n%Y*4294967296+w0)+Y*(n / Y*4294967296):=by
  have:=Int.emod_add_mul_ediv n Y;have h:Y*(n / Y*4294967296)=(Y*(n / Y))*4294967296:=by rw[Int.mul_assoc]
  rw[h];omega
 rw[e,Int.add_mul_ediv_left _ _ au,Int.add_mul_emod_self_left];exact⟨au,rfl⟩
def aFF(y:Int):Prop:=y=4611686018427377339\/y=2305843009213688669\/y=2305843009213688668
def apT:Int->Prop:=aFF
def aAw:Int->Int:=λy=>if y=4611686018427377339 then 62 else 61
def AJ:Fs Tryz.prog apT bG aAw:=fV 109 Tryz.f109 (λx=>([.d tu x],[])) (λx=>⟨.d ti x,[],[]⟩) [ao tu]
theorem avy(x)(k:K1 R):AJ.A x k=aS (Bp x 4294967296) (aS (Bp (cW .u64 x 32) 65536) (aS (Bp (cW .u64 (cW .u64 x 32) 16) 256) (aS (gI (eD .u8 (cW .u64 (cW .u64 (cW .u64 x 32) 16) 8)) 256) (k (AJ.out (bT .i64 56 (eD .i64 (ahj (⟨#[0,1,2,2,3,3,3,3,4,4,4,4,4,4,4,4,5,5,5,5,5,5,5,5,5,5,5,5,5,5,5,5,6,6,6,6,6,6,6,6,6,6,6,6,6,6,6,6,6,6,6,6,6,6,6,6,6,6,6,6,6,6,6,6,7,7,7,7,7,7,7,7,7,7,7,7,7,7,7,7,7,7,7,7,7,7,7,7,7,7,7,7,7,7,7,7,7,7,7,7,7,7,7,7,7,7,7,7,7,7,7,7,7,7,7,7,7,7,7,7,7,7,7,7,7,7,7,7,8,8,8,8,8,8,8,8,8,8,8,8,8,8,8,8,8,8,8,8,8,8,8,8,8,8,8,8,8,8,8,8,8,8,8,8,8,8,8,8,8,8,8,8,8,8,8,8,8,8,8,8,8,8,8,8,8,8,8,8,8,8,8,8,8,8,8,8,8,8,8,8,8,8,8,8,8,8,8,8,8,8,8,8,8,8,8,8,8,8,8,8,8,8,8,8,8,8,8,8,8,8,8,8,8,8,8,8,8,8,8,8,8,8,8,8,8,8,8,8,8,8,8,8,8,8,8,8]⟩:ByteArray) (eD .u8 (cW .u64 (cW .u64 (cW .u64 x 32) 16) 8))))))) aJ) (aS (gI (eD .u8 (cW .u64 (cW .u64 x 32) 16)) 256) (k (AJ.out (bT .i64 48 (eD .i64 (ahj (⟨#[0,1,2,2,3,3,3,3,4,4,4,4,4,4,4,4,5,5,5,5,5,5,5,5,5,5,5,5,5,5,5,5,6,6,6,6,6,6,6,6,6,6,6,6,6,6,6,6,6,6,6,6,6,6,6,6,6,6,6,6,6,6,6,6,7,7,7,7,7,7,7,7,7,7,7,7,7,7,7,7,7,7,7,7,7,7,7,7,7,7,7,7,7,7,7,7,7,7,7,7,7,7,7,7,7,7,7,7,7,7,7,7,7,7,7,7,7,7,7,7,7,7,7,7,7,7,7,7,8,8,8,8,8,8,8,8,8,8,8,8,8,8,8,8,8,8,8,8,8,8,8,8,8,8,8,8,8,8,8,8,8,8,8,8,8,8,8,8,8,8,8,8,8,8,8,8,8,8,8,8,8,8,8,8,8,8,8,8,8,8,8,8,8,8,8,8,8,8,8,8,8,8,8,8,8,8,8,8,8,8,8,8,8,8,8,8,8,8,8,8,8,8,8,8,8,8,8,8,8,8,8,8,8,8,8,8,8,8,8,8,8,8,8,8,8,8,8,8,8,8,8,8,8,8,8,8]⟩:ByteArray) (eD .u8 (cW .u64 (cW .u64 x 32) 16))))))) aJ)) (aS (Bp (cW .u64 x 32) 256) (aS (gI (eD .u8 (cW .u64 (cW .u64 x 32) 8)) 256) (k (AJ.out (bT .i64 40 (eD .i64 (ahj (⟨#[0,1,2,2,3,3,3,3,4,4,4,4,4,4,4,4,5,5,5,5,5,5,5,5,5,5,5,5,5,5,5,5,6,6,6,6,6,6,6,6,6,6,6,6,6,6,6,6,6,6,6,6,6,6,6,6,6,6,6,6,6,6,6,6,7,7,7,7,7,7,7,7,7,7,7,7,7,7,7,7,7,7,7,7,7,7,7,7,7,7,7,7,7,7,7,7,7,7,7,7,7,7,7,7,7,7,7,7,7,7,7,7,7,7,7,7,7,7,7,7,7,7,7,7,7,7,7,7,8,8,8,8,8,8,8,8,8,8,8,8,8,8,8,8,8,8,8,8,8,8,8,8,8,8,8,8,8,8,8,8,8,8,8,8,8,8,8,8,8,8,8,8,8,8,8,8,8,8,8,8,8,8,8,8,8,8,8,8,8,8,8,8,8,8,8,8,8,8,8,8,8,8,8,8,8,8,8,8,8,8,8,8,8,8,8,8,8,8,8,8,8,8,8,8,8,8,8,8,8,8,8,8,8,8,8,8,8,8,8,8,8,8,8,8,8,8,8,8,8,8,8,8,8,8,8,8]⟩:ByteArray) (eD .u8 (cW .u64 (cW .u64 x 32) 8))))))) aJ) (aS (gI (eD .u8 (cW .u64 x 32)) 256) (k (AJ.out (bT .i64 32 (eD .i64 (ahj (⟨#[0,1,2,2,3,3,3,3,4,4,4,4,4,4,4,4,5,5,5,5,5,5,5,5,5,5,5,5,5,5,5,5,6,6,6,6,6,6,6,6,6,6,6,6,6,6,6,6,6,6,6,6,6,6,6,6,6,6,6,6,6,6,6,6,7,7,7,7,7,7,7,7,7,7,7,7,7,7,7,7,7,7,7,7,7,7,7,7,7,7,7,7,7,7,7,7,7,7,7,7,7,7,7,7,7,7,7,7,7,7,7,7,7,7,7,7,7,7,7,7,7,7,7,7,7,7,7,7,8,8,8,8,8,8,8,8,8,8,8,8,8,8,8,8,8,8,8,8,8,8,8,8,8,8,8,8,8,8,8,8,8,8,8,8,8,8,8,8,8,8,8,8,8,8,8,8,8,8,8,8,8,8,8,8,8,8,8,8,8,8,8,8,8,8,8,8,8,8,8,8,8,8,8,8,8,8,8,8,8,8,8,8,8,8,8,8,8,8,8,8,8,8,8,8,8,8,8,8,8,8,8,8,8,8,8,8,8,8,8,8,8,8,8,8,8,8,8,8,8,8,8,8,8,8,8,8]⟩:ByteArray) (eD .u8 (cW .u64 x 32))))))) aJ))) (aS (Bp x 65536) (aS (Bp (cW .u64 x 16) 256) (aS (gI (eD .u8 (cW .u64 (cW .u64 x 16) 8)) 256) (k (AJ.out (bT .i64 24 (eD .i64 (ahj (⟨#[0,1,2,2,3,3,3,3,4,4,4,4,4,4,4,4,5,5,5,5,5,5,5,5,5,5,5,5,5,5,5,5,6,6,6,6,6,6,6,6,6,6,6,6,6,6,6,6,6,6,6,6,6,6,6,6,6,6,6,6,6,6,6,6,7,7,7,7,7,7,7,7,7,7,7,7,7,7,7,7,7,7,7,7,7,7,7,7,7,7,7,7,7,7,7,7,7,7,7,7,7,7,7,7,7,7,7,7,7,7,7,7,7,7,7,7,7,7,7,7,7,7,7,7,7,7,7,7,8,8,8,8,8,8,8,8,8,8,8,8,8,8,8,8,8,8,8,8,8,8,8,8,8,8,8,8,8,8,8,8,8,8,8,8,8,8,8,8,8,8,8,8,8,8,8,8,8,8,8,8,8,8,8,8,8,8,8,8,8,8,8,8,8,8,8,8,8,8,8,8,8,8,8,8,8,8,8,8,8,8,8,8,8,8,8,8,8,8,8,8,8,8,8,8,8,8,8,8,8,8,8,8,8,8,8,8,8,8,8,8,8,8,8,8,8,8,8,8,8,8,8,8,8,8,8,8]⟩:ByteArray) (eD .u8 (cW .u64 (cW .u64 x 16) 8))))))) aJ) (aS (gI (eD .u8 (cW .u64 x 16)) 256) (k (AJ.out (bT .i64 16 (eD .i64 (ahj (⟨#[0,1,2,2,3,3,3,3,4,4,4,4,4,4,4,4,5,5,5,5,5,5,5,5,5,5,5,5,5,5,5,5,6,6,6,6,6,6,6,6,6,6,6,6,6,6,6,6,6,6,6,6,6,6,6,6,6,6,6,6,6,6,6,6,7,7,7,7,7,7,7,7,7,7,7,7,7,7,7,7,7,7,7,7,7,7,7,7,7,7,7,7,7,7,7,7,7,7,7,7,7,7,7,7,7,7,7,7,7,7,7,7,7,7,7,7,7,7,7,7,7,7,7,7,7,7,7,7,8,8,8,8,8,8,8,8,8,8,8,8,8,8,8,8,8,8,8,8,8,8,8,8,8,8,8,8,8,8,8,8,8,8,8,8,8,8,8,8,8,8,8,8,8,8,8,8,8,8,8,8,8,8,8,8,8,8,8,8,8,8,8,8,8,8,8,8,8,8,8,8,8,8,8,8,8,8,8,8,8,8,8,8,8,8,8,8,8,8,8,8,8,8,8,8,8,8,8,8,8,8,8,8,8,8,8,8,8,8,8,8,8,8,8,8,8,8,8,8,8,8,8,8,8,8,8,8]⟩:ByteArray) (eD .u8 (cW .u64 x 16))))))) aJ)) (aS (Bp x 256) (aS (gI (eD .u8 (cW .u64 x 8)) 256) (k (AJ.out (bT .i64 8 (eD .i64 (ahj (⟨#[0,1,2,2,3,3,3,3,4,4,4,4,4,4,4,4,5,5,5,5,5,5,5,5,5,5,5,5,5,5,5,5,6,6,6,6,6,6,6,6,6,6,6,6,6,6,6,6,6,6,6,6,6,6,6,6,6,6,6,6,6,6,6,6,7,7,7,7,7,7,7,7,7,7,7,7,7,7,7,7,7,7,7,7,7,7,7,7,7,7,7,7,7,7,7,7,7,7,7,7,7,7,7,7,7,7,7,7,7,7,7,7,7,7,7,7,7,7,7,7,7,7,7,7,7,7,7,7,8,8,8,8,8,8,8,8,8,8,8,8,8,8,8,8,8,8,8,8,8,8,8,8,8,8,8,8,8,8,8,8,8,8,8,8,8,8,8,8,8,8,8,8,8,8,8,8,8,8,8,8,8,8,8,8,8,8,8,8,8,8,8,8,8,8,8,8,8,8,8,8,8,8,8,8,8,8,8,8,8,8,8,8,8,8,8,8,8,8,8,8,8,8,8,8,8,8,8,8,8,8,8,8,8,8,8,8,8,8,8,8,8,8,8,8,8,8,8,8,8,8,8,8,8,8,8,8]⟩:ByteArray) (eD .u8 (cW .u64 x 8))))))) aJ) (aS (gI (eD .u8 x) 256) (k (AJ.out (bT .i64 0 (eD .i64 (ahj (⟨#[0,1,2,2,3,3,3,3,4,4,4,4,4,4,4,4,5,5,5,5,5,5,5,5,5,5,5,5,5,5,5,5,6,6,6,6,6,6,6,6,6,6,6,6,6,6,6,6,6,6,6,6,6,6,6,6,6,6,6,6,6,6,6,6,7,7,7,7,7,7,7,7,7,7,7,7,7,7,7,7,7,7,7,7,7,7,7,7,7,7,7,7,7,7,7,7,7,7,7,7,7,7,7,7,7,7,7,7,7,7,7,7,7,7,7,7,7,7,7,7,7,7,7,7,7,7,7,7,8,8,8,8,8,8,8,8,8,8,8,8,8,8,8,8,8,8,8,8,8,8,8,8,8,8,8,8,8,8,8,8,8,8,8,8,8,8,8,8,8,8,8,8,8,8,8,8,8,8,8,8,8,8,8,8,8,8,8,8,8,8,8,8,8,8,8,8,8,8,8,8,8,8,8,8,8,8,8,8,8,8,8,8,8,8,8,8,8,8,8,8,8,8,8,8,8,8,8,8,8,8,8,8,8,8,8,8,8,8,8,8,8,8,8,8,8,8,8,8,8,8,8,8,8,8,8,8]⟩:ByteArray) (eD .u8 x)))))) aJ))):=cM
theorem avz:AJ.Ok:=by intro y h;rw[avy];obtain rfl | rfl | rfl:=h <;> kernel_rfl
theorem apU:AJ.RS:=rE [.d tu] AJ
def avA:=AJ.gf avz
def avU:Int->Prop:=aFF
def avT:Int->Int:=λy=>if y=4611686018427377339 then 2 else 3
def ajP:Fs Tryz.prog avU bG avT:=fV 167 Tryz.f167 (λx=>([.d tu x],[])) (λx=>⟨.d ti x,[],[]⟩) [ao tu] [avA]
theorem aAz(x)(k:K1 R):ajP.A x k=aq (AJ.call x) λx1=>k (ajP.out (dL .i64 64 x1)):=cM
theorem aAA:ajP.Ok:=by intro y h;rw[aAz,apU (d:=y) h];obtain rfl | rfl | rfl:=h <;> rfl
theorem avV:ajP.RS:=rE [.d tu] ajP
def aAB:=ajP.gf aAA
abbrev Jm:=Int×Int×Int×Int×Int×Int×Int×Int×Int
def Lw:Jm->Int->((Int×Int×Int×Int×Int×Int×Int)×(Int)):=λ(Yl,sv,yn1,yn0,un32,un1,un0,q1,rhat) y=>((Yl,sv,yn1,yn0,un32,un1,un0),y)
abbrev Jn:=Int×Int×Int×Int×Int×Int×Int×Int×Int
def Ly:Jn->Int->((Int×Int×Int×Int×Int)×(Int)):=λ(Ym,jw,IU,W8,GM,XP,DT,un21,q0) y=>((Ym,jw,GM,XP,un21),y)
def Lv:Jm->Prop:=λ(y,sv,yn1,yn0,u,w,un0,q,r)=>∃e:Int,(e=42260\/e=42264\/e=42272)/\y=18446744073709551616 - e/\yn1=4294967295/\yn0=4294967296 - e/\0<=u/\u < 18446744073709551616 - e/\0<=w/\w < 4294967296/\0<=r/\r < 4294967296/\q*4294967295+r=u/\(u*4294967296+w) / (18446744073709551616 - e)<=q
def Dk:Jm->Int:=λ(y,sv,yn1,yn0,u,w,un0,q,r)=>(u*4294967296+w) / y
def Lx:Jn->Prop:=λ(y,sv,yn1,yn0,w,q1,r,u,q)=>∃e:Int,(e=42260\/e=42264\/e=42272)/\y=18446744073709551616 - e/\yn1=4294967295/\yn0=4294967296 - e/\0<=u/\u < 18446744073709551616 - e/\0<=w/\w < 4294967296/\0<=r/\r < 4294967296/\q*4294967295+r=u/\(u*4294967296+w) / (18446744073709551616 - e)<=q
def Dl:Jn->Int:=λ(y,sv,yn1,yn0,w,q1,r,u,q)=>(u*4294967296+w) / y
def YT:(Int×Int×Int)->Prop:=λ(hi,lo,y)=>(aFF y\/hi=0/\0 < y/\y < 18446744073709551616)/\0<=hi/\hi < y/\0<=lo/\lo < 18446744073709551616
def aa5:(Int×Int×Int)->(Int×Int):=λ(hi,lo,y)=>((hi*18446744073709551616+lo) / y,(hi*18446744073709551616+lo)%y)
def nw:Ls Lv Lw Dk:=yg (λ(Yl,sv,yn1,yn0,un32,un1,un0,q1,rhat)=>⟨([cq,cq,.d tu Yl]++bf 5 ([.d tu sv,.d tu yn1,.d tu yn0,.d tu un32,cq,.d tu un1,.d tu un0,.d tu q1,.d tu rhat]++bf 118 [])),[],(ai 135 [])⟩) (λx=>(.exit 0,⟨([cq,cq,.d tu x.1.1]++bf 5 ([.d tu x.1.2.1,.d tu x.1.2.2.1,.d tu x.1.2.2.2.1,.d tu x.1.2.2.2.2.1,cq,.d tu x.1.2.2.2.2.2.1,.d tu x.1.2.2.2.2.2.2,.d tu x.2]++bf 119 [])),[],(ai 135 [])⟩))
def nA:Ls Lx Ly Dl:=yg (λ(Ym,jw,IU,W8,GM,XP,DT,un21,q0)=>⟨([cq,cq,.d tu Ym]++bf 5 ([.d tu jw,.d tu IU,.d tu W8,cq,cq,cq,.d tu GM,.d tu XP,.d tu DT,.d tu un21,.d tu q0]++bf 116 [])),[],(ai 135 [])⟩) (λx=>(.exit 2,⟨([cq,cq,.d tu x.1.1]++bf 5 ([.d tu x.1.2.1]++bf 5 ([.d tu x.1.2.2.1,.d tu x.1.2.2.2.1,cq,.d tu x.1.2.2.2.2,.d tu x.2]++bf 116 []))),[],(ai 135 [])⟩))
def AB:Fs Tryz.prog YT bG aa5:=fV 164 Tryz.f164 (λ(hi,lo,yv)=>([.d tu hi,.d tu lo,.d tu yv],[])) (λx=>⟨.cons (.d tu x.1) (.cons (.d tu x.2) (.nil)),[],[]⟩) [ao tu,ao tu,ao tu] [aAB] {loops:=so [(17,{bp:=[2,8,9,10,11,13,14,15,16]}),(24,{bp:=[2,8,9,10,14,15,16,17,18]})],outs:=sm [(17,{bp:=[2,8,9,10,11,13,14,15]},{bp:=[6,7]}),(24,{bp:=[2,8,14,15,17,18]},{bp:=[6,7]})],gS:=tt [(17,nw.E),(24,nA.E)]}
theorem aa6:nw.RS:=rL [.d tu,.d tu,.d tu,.d tu,.d tu,.d tu,.d tu,.d tu,.d tu] nw
theorem Bk(Yl sv yn1 yn0 un32 un1 un0 q1 rhat)(kn:K2 R)(kx:K3 R):AB.R 0 nw (Yl,sv,yn1,yn0,un32,un1,un0,q1,rhat) kn kx=aS (Bp q1 4294967296) (aS (Bp (bT .u64 rhat yn1) 4294967296) (nw.go kx ((Yl,sv,yn1,yn0,un32,un1,un0),(dL .u64 q1 1))) (kn (nw.st (Yl,sv,yn1,yn0,un32,un1,un0,(dL .u64 q1 1),(bT .u64 rhat yn1))))) (aS (Ak (jj .u64 q1 yn0) (bT .u64 (jj .u64 4294967296 rhat) un1)) (aS (Bp (bT .u64 rhat yn1) 4294967296) (nw.go kx ((Yl,sv,yn1,yn0,un32,un1,un0),(dL .u64 q1 1))) (kn (nw.st (Yl,sv,yn1,yn0,un32,un1,un0,(dL .u64 q1 1),(bT .u64 rhat yn1))))) (nw.go kx ((Yl,sv,yn1,yn0,un32,un1,un0),q1))):=cM
theorem aa7:nA.RS:=rL [.d tu,.d tu,.d tu,.d tu,.d tu,.d tu,.d tu,.d tu,.d tu] nA
theorem Bl(Ym jw IU W8 GM XP DT un21 q0)(kn:K2 R)(kx:K3 R):AB.R 1 nA (Ym,jw,IU,W8,GM,XP,DT,un21,q0) kn kx=aS (Bp q0 4294967296) (aS (Bp (bT .u64 DT IU) 4294967296) (nA.go kx ((Ym,jw,GM,XP,un21),(dL .u64 q0 1))) (kn (nA.st (Ym,jw,IU,W8,GM,XP,(bT .u64 DT IU),un21,(dL .u64 q0 1))))) (aS (Ak (jj .u64 q0 W8) (bT .u64 (jj .u64 4294967296 DT) GM)) (aS (Bp (bT .u64 DT IU) 4294967296) (nA.go kx ((Ym,jw,GM,XP,un21),(dL .u64 q0 1))) (kn (nA.st (Ym,jw,IU,W8,GM,XP,(bT .u64 DT IU),un21,(dL .u64 q0 1))))) (nA.go kx ((Ym,jw,GM,XP,un21),q0))):=cM
theorem aum(hi lo yv)(k:K1 R):AB.A (hi,lo,yv) k=aS (EM yv 0) (aJ) (aS (adB yv hi) (aJ) (aS (EM hi 0) (aS (qO yv) (aS (qO yv) (k (AB.out ((Bq .u64 lo yv),(ur lo yv)))) aJ) aJ) (aq (ajP.call yv) λx1=>aS (rN (eD .u64 x1)) (aS (rN (eD .u64 x1)) (aS (rN (dL .u64 64 (eD .u64 x1))) (aS (rN (eD .u64 x1)) (aS (qO (cW .u64 (oe .u64 yv (eD .u64 x1)) 32)) (aq (nw.call ((oe .u64 yv (eD .u64 x1)),(eD .u64 x1),(cW .u64 (oe .u64 yv (eD .u64 x1)) 32),(eh .and .u64 (oe .u64 yv (eD .u64 x1)) 4294967295),(eh .or .u64 (oe .u64 hi (eD .u64 x1)) (cW .u64 lo (dL .u64 64 (eD .u64 x1)))),(cW .u64 (oe .u64 lo (eD .u64 x1)) 32),(eh .and .u64 (oe .u64 lo (eD .u64 x1)) 4294967295),(Bq .u64 (eh .or .u64 (oe .u64 hi (eD .u64 x1)) (cW .u64 lo (dL .u64 64 (eD .u64 x1)))) (cW .u64 (oe .u64 yv (eD .u64 x1)) 32)),(dL .u64 (eh .or .u64 (oe .u64 hi (eD .u64 x1)) (cW .u64 lo (dL .u64 64 (eD .u64 x1)))) (jj .u64 (Bq .u64 (eh .or .u64 (oe .u64 hi (eD .u64 x1)) (cW .u64 lo (dL .u64 64 (eD .u64 x1)))) (cW .u64 (oe .u64 yv (eD .u64 x1)) 32)) (cW .u64 (oe .u64 yv (eD .u64 x1)) 32))))) λx2=>aS (qO x2.1.2.2.1) (aq (nA.call (x2.1.1,x2.1.2.1,x2.1.2.2.1,x2.1.2.2.2.1,x2.1.2.2.2.2.2.2,x2.2,(dL .u64 (dL .u64 (bT .u64 (jj .u64 x2.1.2.2.2.2.1 4294967296) x2.1.2.2.2.2.2.1) (jj .u64 x2.2 x2.1.1)) (jj .u64 (Bq .u64 (dL .u64 (bT .u64 (jj .u64 x2.1.2.2.2.2.1 4294967296) x2.1.2.2.2.2.2.1) (jj .u64 x2.2 x2.1.1)) x2.1.2.2.1) x2.1.2.2.1)),(dL .u64 (bT .u64 (jj .u64 x2.1.2.2.2.2.1 4294967296) x2.1.2.2.2.2.2.1) (jj .u64 x2.2 x2.1.1)),(Bq .u64 (dL .u64 (bT .u64 (jj .u64 x2.1.2.2.2.2.1 4294967296) x2.1.2.2.2.2.2.1) (jj .u64 x2.2 x2.1.1)) x2.1.2.2.1))) λx3=>aS (rN x3.1.2.1) (k (AB.out ((bT .u64 (jj .u64 x3.1.2.2.2.1 4294967296) x3.2),(cW .u64 (dL .u64 (bT .u64 (jj .u64 x3.1.2.2.2.2 4294967296) x3.1.2.2.1) (jj .u64 x3.2 x3.1.1)) x3.1.2.1)))) aJ) aJ) aJ) aJ) aJ) aJ) aJ))):=cM
theorem ae1:(AB.mM 0 nw):=by
 refine(AB.qG 0 nw) (λ(y,sv,yn1,yn0,u,w,un0,q,r)=>q.toNat) ?_
 rintro⟨y,sv,yn1,yn0,u,w,un0,q,r⟩ ⟨e,he,rfl,rfl,rfl,hu,adA,hw,ast,hr,aft,hq,hQ⟩;have hu:0<=u:=hu;have adA:u < 18446744073709551616 - e:=adA;have hw:0<=w:=hw;have ast:w < 4294967296:=ast;have hr:0<=r:=hr;have aft:r < 4294967296:=aft;have hq:q*4294967295+r=u:=hq;obtain⟨k1,k2,k3,k4,k5,k6⟩:=k1 he hu adA hw ast hr aft hq hQ;have q0:0<=q:=Int.le_trans k5 hQ;have a1:bT .u64 r 4294967295=r+4294967295:=by rw[xU];omega
 have a2:bT .u64 (jj .u64 4294967296 r) w=4294967296*r+w:=by rw[xV,xU];omega
 have a3:q < 4294967296->jj .u64 q (4294967296 - e)=q*(4294967296 - e):=by intro h;rw[xV];rcases he with rfl | rfl | rfl <;> omega
 have a4:0 < q->dL .u64 q 1=q - 1:=by intro h;rw[R9];omega
 have pos:4294967296<=q\/(q < 4294967296/\4294967296*r+w < q*(4294967296 - e))->0 < q/\(u*4294967296+w) / (18446744073709551616 - e)<=q - 1:=by
  rintro(h | ⟨h,h2⟩)
  ·exact⟨au,k1 h⟩
  ·exact⟨by have:=k2 h h2;omega,k2 h h2⟩
 by_cases hc:4294967296<=q\/(q < 4294967296/\4294967296*r+w < q*(4294967296 - e))
 ·obtain⟨p1,p2⟩:=pos hc;by_cases hb:4294967296<=r+4294967295
  ·right;have hF:Dk (18446744073709551616 - e,sv,4294967295,4294967296 - e,u,w,un0,q,r)=q - 1:=k4 hb p2;intro R kn kx;rw[Bk,a1,a2,a4 p1,gM hb,hF];rcases hc with h | ⟨h,h2⟩
   ·rw[gM h];rfl
   ·rw[eT au,a3 h,dT h2];rfl
  ·left;refine⟨(18446744073709551616 - e,sv,4294967295,4294967296 - e,u,w,un0,q - 1,r+4294967295),⟨e,he,rfl,rfl,rfl,hu,adA,hw,ast,au,au,au,p2⟩,by simp only[];omega,rfl,λkn kx=> ?_⟩;rw[Bk,a1,a2,a4 p1,eT hb];rcases hc with h | ⟨h,h2⟩
   ·rw[gM h];rfl
   ·rw[eT au,a3 h,dT h2];rfl
 ·right;have h:q < 4294967296:=au;have h2:¬4294967296*r+w < q*(4294967296 - e):=λx=>hc (fm ⟨h,x⟩)
  have hF:Dk (18446744073709551616 - e,sv,4294967295,4294967296 - e,u,w,un0,q,r)=q:=k3 h au;intro R kn kx;rw[Bk,a2,a3 h,eT au,du h2,hF];rfl
theorem ae2:(AB.mM 1 nA):=by
 refine(AB.qG 1 nA) (λ(y,sv,yn1,yn0,w,q1,r,u,q)=>q.toNat) ?_
 rintro⟨y,sv,yn1,yn0,w,q1,r,u,q⟩ ⟨e,he,rfl,rfl,rfl,hu,adA,hw,ast,hr,aft,hq,hQ⟩;have hu:0<=u:=hu;have adA:u < 18446744073709551616 - e:=adA;have hw:0<=w:=hw;have ast:w < 4294967296:=ast;have hr:0<=r:=hr;have aft:r < 4294967296:=aft;have hq:q*4294967295+r=u:=hq;obtain⟨k1,k2,k3,k4,k5,k6⟩:=k1 he hu adA hw ast hr aft hq hQ;have q0:0<=q:=Int.le_trans k5 hQ;have a1:bT .u64 r 4294967295=r+4294967295:=by rw[xU];omega
 have a2:bT .u64 (jj .u64 4294967296 r) w=4294967296*r+w:=by rw[xV,xU];omega
 have a3:q < 4294967296->jj .u64 q (4294967296 - e)=q*(4294967296 - e):=by intro h;rw[xV];rcases he with rfl | rfl | rfl <;> omega
 have a4:0 < q->dL .u64 q 1=q - 1:=by intro h;rw[R9];omega
 have pos:4294967296<=q\/(q < 4294967296/\4294967296*r+w < q*(4294967296 - e))->0 < q/\(u*4294967296+w) / (18446744073709551616 - e)<=q - 1:=by
  rintro(h | ⟨h,h2⟩)
  ·exact⟨au,k1 h⟩
  ·exact⟨by have:=k2 h h2;omega,k2 h h2⟩
 by_cases hc:4294967296<=q\/(q < 4294967296/\4294967296*r+w < q*(4294967296 - e))
 ·obtain⟨p1,p2⟩:=pos hc;by_cases hb:4294967296<=r+4294967295
  ·right;have hF:Dl (18446744073709551616 - e,sv,4294967295,4294967296 - e,w,q1,r,u,q)=q - 1:=k4 hb p2;intro R kn kx;rw[Bl,a1,a2,a4 p1,gM hb,hF];rcases hc with h | ⟨h,h2⟩
   ·rw[gM h];rfl
   ·rw[eT au,a3 h,dT h2];rfl
  ·left;refine⟨(18446744073709551616 - e,sv,4294967295,4294967296 - e,w,q1,r+4294967295,u,q - 1),⟨e,he,rfl,rfl,rfl,hu,adA,hw,ast,au,au,au,p2⟩,by simp only[];omega,rfl,λkn kx=> ?_⟩;rw[Bl,a1,a2,a4 p1,eT hb];rcases hc with h | ⟨h,h2⟩
   ·rw[gM h];rfl
   ·rw[eT au,a3 h,dT h2];rfl
 ·right;have h:q < 4294967296:=au;have h2:¬4294967296*r+w < q*(4294967296 - e):=λx=>hc (fm ⟨h,x⟩)
  have hF:Dl (18446744073709551616 - e,sv,4294967295,4294967296 - e,w,q1,r,u,q)=q:=k3 h au;intro R kn kx;rw[Bl,a2,a3 h,eT au,du h2,hF];rfl
theorem aDz{y hi lo:Int}(hy:aFF y)(h0:0<=hi)(h1:hi < y)(h2:0<=lo)(h3:lo < 18446744073709551616):∃(s:Nat) (e m:Int),avT y=s/\(s=2\/s=3)/\m=2^s/\(e=42260\/e=42264\/e=42272)/\y*m=18446744073709551616 - e/\
  oe .u64 y (s:Int)=18446744073709551616 - e/\
  eh .or .u64 (oe .u64 hi (s:Int)) (cW .u64 lo (dL .u64 64 (s:Int)))=(hi*18446744073709551616+lo)*m / 18446744073709551616/\
  oe .u64 lo (s:Int)=(hi*18446744073709551616+lo)*m%18446744073709551616/\
  (hi*18446744073709551616+lo)*m / 18446744073709551616 < 18446744073709551616 - e/\
  (hi*18446744073709551616+lo)*m / (18446744073709551616 - e)=(hi*18446744073709551616+lo) / y/\
  (hi*18446744073709551616+lo)*m%(18446744073709551616 - e) / m=(hi*18446744073709551616+lo)%y:=by
 have e1:dL .u64 64 ((2:Nat):Int)=((62:Nat):Int):=rfl;have e2:dL .u64 64 ((3:Nat):Int)=((61:Nat):Int):=rfl;have p2:(2:Int)^2=4:=rfl;have p3:(2:Int)^3=8:=rfl;have p61:(2:Int)^61=2305843009213693952:=rfl;have p62:(2:Int)^62=4611686018427387904:=rfl;obtain rfl | rfl | rfl:=hy
 ·refine⟨2,42260,4,rfl,lG rfl,rfl,lG rfl,rfl,by rw[vo 2 (by rfl) au,p2];omega,?_,?_,au,au,au⟩
  ·rw[e1,vo 2 (by rfl) au,vp 62 (by rfl) au,p2,p62,Mp 2 4 rfl au au au au au au];omega
  ·rw[vo 2 (by rfl) au,p2];omega
 ·refine⟨3,42264,8,rfl,fm rfl,rfl,fm (lG rfl),rfl,by rw[vo 3 (by rfl) au,p3];omega,?_,?_,au,au,au⟩
  ·rw[e2,vo 3 (by rfl) au,vp 61 (by rfl) au,p3,p61,Mp 3 8 rfl au au au au au au];omega
  ·rw[vo 3 (by rfl) au,p3];omega
 ·refine⟨3,42272,8,rfl,fm rfl,rfl,fm (fm rfl),rfl,by rw[vo 3 (by rfl) au,p3];omega,?_,?_,au,au,au⟩
  ·rw[e2,vo 3 (by rfl) au,vp 61 (by rfl) au,p3,p61,Mp 3 8 rfl au au au au au au];omega
  ·rw[vo 3 (by rfl) au,p3];omega
theorem aJw(a b c:Int):(((a%18446744073709551616+b)%18446744073709551616) - c%18446744073709551616)%18446744073709551616=(a+b - c)%18446744073709551616:=au
theorem aun:AB.Ok:=by
 rintro⟨hi,lo,y⟩ ⟨hy,h0,h1,h2,h3⟩;have h0:0<=hi:=h0;have h1:hi < y:=h1;have h2:0<=lo:=h2;have h3:lo < 18446744073709551616:=h3;have yb:0 < y/\y < 18446744073709551616:=by
  rcases hy with hy | hy
  ·obtain rfl | rfl | rfl:=hy <;> omega
  ·exact hy.2
 rw[aum,kL au,mg au];simp only[al];have z:qO y=aT:=by simp[qO];omega
 by_cases hz:hi=0
 ·subst hz;rw[lk rfl,z,amD h2 au h3,Hh h2];simp only[aj,aa5,bG,Int.zero_mul,Int.zero_add]
 ·have hy:aFF y:=hy.resolve_right λe=>hz e.1
  obtain⟨s,e,m,hs,TQ,hm,he,aMh,a1,a2,a3,a4,a5,a6⟩:=aDz hy h0 h1 h2 h3;have c1:eD .u64 (s:Int)=(s:Int):=by rw[avf];omega
  have c2:rN (s:Int)=aT:=vZ au;have c3:rN (dL .u64 64 (s:Int))=aT:=by rcases TQ with rfl | rfl <;> rfl
  rw[kL hz,avV (d:=y) hy];simp only[al,ae,bG,hs,c1,c2,c3,aj,a1,a2,a3];have hN:0<=(hi*18446744073709551616+lo)*m:=Int.mul_nonneg au (by rcases TQ with rfl | rfl <;> omega)
  revert a4 a5 a6
  generalize (hi*18446744073709551616+lo)*m=N at hN;intro a4 a5 a6;have u0:0<=N / 18446744073709551616:=au;have t0:0<=N%18446744073709551616:=au;have t1:N%18446744073709551616 < 18446744073709551616:=au;have hd:N=(N / 18446744073709551616*4294967296+N%18446744073709551616 / 4294967296)*4294967296+N%18446744073709551616%4294967296:=au;have w10:0<=N%18446744073709551616 / 4294967296:=au;have w11:N%18446744073709551616 / 4294967296 < 4294967296:=au;have w00:0<=N%18446744073709551616%4294967296:=au;have w01:N%18446744073709551616%4294967296 < 4294967296:=au;have p32:(2:Int)^32=4294967296:=rfl;have b1:cW .u64 (18446744073709551616 - e) 32=4294967295:=by rw[vp 32 (by rfl) au,p32];rcases he with rfl | rfl | rfl <;> rfl
  have b2:eh .and .u64 (18446744073709551616 - e) 4294967295=4294967296 - e:=by rw[adQ au au];omega
  have b3:cW .u64 (N%18446744073709551616) 32=N%18446744073709551616 / 4294967296:=by rw[vp 32 (by rfl) au,p32]
  have b4:eh .and .u64 (N%18446744073709551616) 4294967295=N%18446744073709551616%4294967296:=adQ t0 t1;have z2:qO 4294967295=aT:=rfl;simp only[b1,b2,b3,b4,z2,aj];clear a1 a2 a3 b1 b2 b3 b4;have kdd:=kd (18446744073709551616 - e) (N / 18446744073709551616) (N%18446744073709551616 / 4294967296) (N%18446744073709551616%4294967296) au w00 w01;rw[<-hd,a5]at kdd
  revert a4 kdd
  generalize N / 18446744073709551616=u at u0;generalize N%18446744073709551616 / 4294967296=w1 at w10 w11;generalize N%18446744073709551616%4294967296=w0 at w00 w01;intro a4 kdd
  have g:∀u w:Int,0<=u->u < 18446744073709551616 - e->0<=w->w < 4294967296->
    Bq .u64 u 4294967295=u / 4294967295/\dL .u64 u (jj .u64 (u / 4294967295) 4294967295)=u - u / 4294967295*4294967295/\
    dL .u64 (bT .u64 (jj .u64 u 4294967296) w) (jj .u64 ((u*4294967296+w) / (18446744073709551616 - e)) (18446744073709551616 - e))=(u*4294967296+w)%(18446744073709551616 - e):=by
   intro u w k1 k2 k3 k4;obtain⟨q1,q2,q3,q4,q5,q6,q7,q8⟩:=k0 he k1 k2 k3 k4;refine⟨amD k1 au au,by rw[R9,xV];omega,?_⟩;rw[R9,xU,xV,xV,aJw,q4];exact fi q5 au
  obtain⟨f1,f2,f3⟩:=g u w1 u0 a4 w10 w11;obtain⟨q1,q2,q3,q4,q5,q6,q7,q8⟩:=k0 he u0 a4 w10 w11;have p1:Lv (18446744073709551616 - e,(s:Int),4294967295,4294967296 - e,u,w1,w0,u / 4294967295,u - u / 4294967295*4294967295):=⟨e,he,rfl,rfl,rfl,u0,a4,w10,w11,q2,q3,au,q1⟩;rw[f1,f2,aa6 p1];simp only[ae,Lw,Dk,z2,aj,f3]
  revert f3 q1 kdd
  generalize (u*4294967296+w1)%(18446744073709551616 - e)=v at q4 q5 q6;generalize (u*4294967296+w1) / (18446744073709551616 - e)=Q at q4 q7 q8;intro kdd f3 q1;obtain⟨g1,g2,g3⟩:=g v w0 q5 q6 w00 w01;obtain⟨r1,r2,r3,r4,r5,r6,r7,r8⟩:=k0 he q5 q6 w00 w01;have p2:Lx (18446744073709551616 - e,(s:Int),4294967295,4294967296 - e,w0,Q,v - v / 4294967295*4294967295,v,v / 4294967295):=⟨e,he,rfl,rfl,rfl,q5,q6,w00,w01,r2,r3,au,r1⟩;rw[g1,g2,aa7 p2];simp only[ae,Ly,Dl,c2,aj,g3];rw[<-kdd.2,vp s (by rfl) au,<-hm,a6,xV,xU];have e9:(Q*4294967296%18446744073709551616+(v*4294967296+w0) / (18446744073709551616 - e))%18446744073709551616=(hi*18446744073709551616+lo) / y:=by rw[kdd.1];omega
  rw[e9];rfl
theorem ao7:AB.RS:=rE [.d tu,.d tu,.d tu] AB
def auo:=AB.gf aun 2 ⟨.gA ae1,⟨.gA ae2,trivial⟩⟩
def OX:(Int×Int×Int)->Prop:=λ(hi,lo,y)=>aFF y/\0<=hi/\hi < 18446744073709551616/\0<=lo/\lo < 18446744073709551616
def MU:(Int×Int×Int)->Int:=λ(hi,lo,y)=>(hi*18446744073709551616+lo)%y
def MT:Fs Tryz.prog OX bG MU:=fV 149 Tryz.f149 (λ(hi,lo,yv)=>([.d tu hi,.d tu lo,.d tu yv],[])) (λx=>⟨.d tu x,[],[]⟩) [ao tu,ao tu,ao tu] [auo]
theorem axr(hi lo yv)(k:K1 R):MT.A (hi,lo,yv) k=aS (qO yv) (aq (AB.call ((ur hi yv),lo,yv)) λx1=>k (MT.out x1.2)) aJ:=cM
theorem axs:MT.Ok:=by
 rintro⟨hi,lo,y⟩ ⟨hy,h0,h1,h2,h3⟩;have h0:0<=hi:=h0;have yb:0 < y:=by obtain rfl | rfl | rfl:=hy <;> omega
 have z:qO y=aT:=by simp[qO];omega
 have p:YT (hi%y,lo,y):=⟨.inl hy,kF _ au,kc _ yb,h2,h3⟩;rw[axr,z,Hh h0,ao7 p];have e:(hi%y*18446744073709551616+lo)%y=(hi*18446744073709551616+lo)%y:=by rw[Int.add_emod,sS,om _ (Int.dvd_refl y),<-sS,<-Int.add_emod]
 simp only[aj,ae,bG,aa5,bG,MU,e]
theorem OY:MT.RS:=rE [.d tu,.d tu,.d tu] MT
def VQ:=MT.gf axs
def aqe:(Int×Int)->Prop:=λ(x,y)=>(0<=x/\x < 18446744073709551616)/\0<=y/\y < 18446744073709551616
def Mg:(Int×Int)->(Int×Int):=λ(x,y)=>(x*y / 18446744073709551616,x*y%18446744073709551616)
def FH:Fs Tryz.prog aqe bG Mg:=fV 93 Tryz.f93 (λ(x,yv)=>([.d tu x,.d tu yv],[])) (λx=>⟨.cons (.d tu x.1) (.cons (.d tu x.2) (.nil)),[],[]⟩) [ao tu,ao tu]
theorem avZ(x yv)(k:K1 R):FH.A (x,yv) k=k (FH.out ((bT .u64 (bT .u64 (jj .u64 (cW .u64 x 32) (cW .u64 yv 32)) (cW .u64 (bT .u64 (jj .u64 (cW .u64 x 32) (eh .and .u64 yv 4294967295)) (cW .u64 (jj .u64 (eh .and .u64 x 4294967295) (eh .and .u64 yv 4294967295)) 32)) 32)) (cW .u64 (bT .u64 (eh .and .u64 (bT .u64 (jj .u64 (cW .u64 x 32) (eh .and .u64 yv 4294967295)) (cW .u64 (jj .u64 (eh .and .u64 x 4294967295) (eh .and .u64 yv 4294967295)) 32)) 4294967295) (jj .u64 (eh .and .u64 x 4294967295) (cW .u64 yv 32))) 32)),(jj .u64 x yv))):=cM
theorem OF{a b m n:Int}(h0:0<=a)(h1:a<=m)(h2:0<=b)(h3:b<=n):0<=a*b/\a*b<=m*n:=⟨Int.mul_nonneg h0 h2,Int.mul_le_mul h1 h3 h2 (Int.le_trans h0 h1)⟩
theorem av0:FH.Ok:=by
 rintro⟨x,y⟩ ⟨⟨h0,h1⟩,h2,h3⟩;have h0:0<=x:=h0;have h1:x < 18446744073709551616:=h1;have h2:0<=y:=h2;have h3:y < 18446744073709551616:=h3;rw[avZ];have p32:(2:Int)^32=4294967296:=rfl;have aLT:∀x:Int,cW .u64 x 32=x / 4294967296:=λx=>by rw[vp 32 (by rfl) au,p32]
 simp only[aLT,adQ h0 h1,adQ h2 h3];obtain⟨a,b,rfl,a0,a1,b0,b1⟩:∃a b:Int,x=a*4294967296+b/\0<=a/\a<=4294967295/\0<=b/\b<=4294967295:=⟨x / 4294967296,x%4294967296,au,au,au,au,au⟩;obtain⟨c,d,rfl,c0,c1,d0,d1⟩:∃a b:Int,y=a*4294967296+b/\0<=a/\a<=4294967295/\0<=b/\b<=4294967295:=⟨y / 4294967296,y%4294967296,au,au,au,au,au⟩;have e1:(a*4294967296+b) / 4294967296=a:=au;have e2:(a*4294967296+b)%4294967296=b:=au;have e3:(c*4294967296+d) / 4294967296=c:=au;have e4:(c*4294967296+d)%4294967296=d:=au;have e5:(a*4294967296+b)*(c*4294967296+d)=a*c*18446744073709551616+(a*d+b*c)*4294967296+b*d:=by
  have q:(4294967296:Int)*4294967296=18446744073709551616:=rfl;rw[Int.add_mul,Int.mul_add,Int.mul_add];have q1:a*4294967296*(c*4294967296)=a*c*18446744073709551616:=by rw[<-q];ac_rfl
  have q2:a*4294967296*d=a*d*4294967296:=by ac_rfl
  have q3:b*(c*4294967296)=b*c*4294967296:=by ac_rfl
  rw[q1,q2,q3];omega
 obtain⟨m1,m2⟩:=OF a0 a1 c0 c1;obtain⟨m3,m4⟩:=OF a0 a1 d0 d1;obtain⟨m5,m6⟩:=OF b0 b1 c0 c1;obtain⟨m7,m8⟩:=OF b0 b1 d0 d1;have n:(4294967295:Int)*4294967295=18446744065119617025:=rfl;rw[n]at m2 m4 m6 m8;simp only[e1,e2,e3,e4,bG,Mg,e5,xV,xU]
 revert m1 m2 m3 m4 m5 m6 m7 m8
 generalize a*c=ac;generalize a*d=ad;generalize b*c=bc;generalize b*d=bd;intro m1 m2 m3 m4 m5 m6 m7 m8;have q1:bd%18446744073709551616=bd:=au;have q2:ad%18446744073709551616=ad:=au;have q3:bc%18446744073709551616=bc:=au;have q4:ac%18446744073709551616=ac:=au;rw[q1,q2,q3,q4];have q5:(ad+bd / 4294967296)%18446744073709551616=ad+bd / 4294967296:=au;have q6:eh .and .u64 (ad+bd / 4294967296) 4294967295=(ad+bd / 4294967296)%4294967296:=adQ au au;rw[q5,q6];refine bD ao (bD FH.out (Prod.ext ?_ ?_))
 ·show _=(_:Int);simp only[];omega
 ·rfl
theorem Hl:FH.RS:=rE [.d tu,.d tu] FH
def Uz:=FH.gf av0
def Pn(x:Int):Prop:=0<=x/\x < 4611686018427377339
def ou(x:Int):Prop:=0<=x/\x < 18446744073709551616
theorem Pn.u{x:Int}(h:Pn x):ou x:=⟨h.1,by have:=h.2;omega⟩
def ug(a b:Int):Int:=a*b%4611686018427377339
theorem AN(a b:Int):Pn (ug a b):=⟨kF _ au,kc _ au⟩
def anp:Nat->Int->Nat->Int->Int
 | 0,_,_,out=>out
 |f+1,a,n,out=>if n=0 then out else anp f (ug a a) (n / 2) (if n%2=1 then ug out a else out)
def pw(a:Int)(n:Nat):Int:=anp 64 a n 1
theorem CD(f:Nat)(a out:Int):anp f a 0 out=out:=by cases f <;> rfl
theorem agV:∀(f g:Nat) (a:Int) (n:Nat) (out:Int),n < 2^f->n < 2^g->anp f a n out=anp g a n out
 | 0,g,a,n,out,h,_=>by obtain rfl:n=0:=au;rw[CD,CD]
 |f+1,0,a,n,out,_,h=>by obtain rfl:n=0:=au;rw[CD,CD]
 |f+1,g+1,a,n,out,h,h'=>by
  have e:(2:Nat)^(f+1)=2^f*2:=Nat.pow_succ 2 f;have e':(2:Nat)^(g+1)=2^g*2:=Nat.pow_succ 2 g;unfold anp;split
  ·rfl
  ·exact agV f g _ _ _ au au
theorem axn:∀(f:Nat) (a:Int) (n:Nat) (out:Int),Pn out->Pn (anp f a n out)
 | 0,_,_,_,h=>h
 |f+1,a,n,out,h=>by
  unfold anp;split
  ·exact h
  ·refine axn f _ _ _ ?_
   split
   ·exact AN _ _
   ·exact h
theorem agW(a:Int)(n:Nat):Pn (pw a n):=axn _ _ _ _ ⟨au,au⟩
def akG:(Int×Int)->Prop:=λ(a,b)=>ou a/\ou b
def axj:(Int×Int)->Int:=λ(a,b)=>ug a b
def BH:Fs Tryz.prog akG bG axj:=fV 138 Tryz.f138 (λ(a,b)=>([.d tu a,.d tu b],[])) (λx=>⟨.d tu x,[],[]⟩) [ao tu,ao tu] [Uz,VQ]
theorem ara(a b)(k:K1 R):BH.A (a,b) k=aq (FH.call (a,b)) λx1=>aq (MT.call (x1.1,x1.2,4611686018427377339)) λx2=>k (BH.out x2):=cM
theorem WX(n:Int):n / 18446744073709551616*18446744073709551616+n%18446744073709551616=n:=au
theorem arb:BH.Ok:=by rintro⟨a,b⟩ ⟨ha,hb⟩;have ha:ou a:=ha;have hb:ou b:=hb;obtain⟨m1,m2⟩:=OF ha.1 (show a<=18446744073709551615 by have:=ha.2;omega) hb.1 (show b<=18446744073709551615 by have:=hb.2;omega);have n:(18446744073709551615:Int)*18446744073709551615=340282366920938463426481119284349108225:=rfl;rw[n]at m2;have p:OX (a*b / 18446744073709551616,a*b%18446744073709551616,4611686018427377339):=⟨lG rfl,au,au,au,au⟩;rw[ara,Hl (d:=(a,b)) ⟨ha,hb⟩];simp only[ae,bG,Mg];rw[OY p];simp only[ae,bG,MU,WX];rfl
theorem J7:BH.RS:=rE [.d tu,.d tu] BH
def ZK:=BH.gf arb
def XM:(Int×Int×Int)->Prop:=λ(a,n,o)=>ou a/\ou n/\Pn o
def AX:(Int×Int×Int)->Int:=λ(a,n,o)=>anp 64 a n.toNat o
def akA:(Int×Int)->Prop:=λ(a,n)=>ou a/\ou n
def agQ:(Int×Int)->Int:=λ(a,n)=>pw a n.toNat
def nN:Ls XM bG AX:=yg (λ(adH,CU,outv)=>⟨([.d tu adH,.d tu CU,cq,cq,cq,.d tu outv]++bf 14 []),[],(ai 20 [])⟩) (λx=>(.exit 0,⟨(bf 5 ([.d tu x]++bf 14 [])),[],(ai 20 [])⟩))
def wI:Fs Tryz.prog akA bG agQ:=fV 98 Tryz.f98 (λ(a,n)=>([.d tu a,.d tu n],[])) (λx=>⟨.d tu x,[],[]⟩) [ao tu,ao tu] [ZK] {loops:=so [(2,{bp:=[0,1,5]})],outs:=sm [(2,{bp:=[5]},{bp:=[4]})],gS:=tt [(2,nN.E)]}
theorem XN:nN.RS:=rL [.d tu,.d tu,.d tu] nN
theorem FZ(adH CU outv)(kn:K2 R)(kx:K3 R):wI.R 0 nN (adH,CU,outv) kn kx=aS (Ak CU 0) (aS (EM (eh .and .u64 CU 1) 1) (aq (BH.call (outv,adH)) λx1=>aq (BH.call (adH,adH)) λx2=>kn (nN.st (x2,(cW .u64 CU 1),x1))) (aq (BH.call (adH,adH)) λx3=>kn (nN.st (x3,(cW .u64 CU 1),outv)))) (nN.go kx outv):=cM
theorem aq0(a n)(k:K1 R):wI.A (a,n) k=aq (nN.call (a,n,1)) λx4=>k (wI.out x4):=cM
theorem aJS{n:Int}(h:ou n):cW .u64 n 1=n / 2:=vp 1 (by rfl) au
theorem acB:(wI.mM 0 nN):=by
 refine(wI.qG 0 nN) (λ(a,n,o)=>n.toNat) ?_
 rintro⟨a,n,o⟩ ⟨ha,hn,ho⟩;have ha:ou a:=ha;have hn:ou n:=hn;have ho:Pn o:=ho;have n0:=hn.1;have n1:=hn.2;by_cases h:0 < n
 ·left;have e:AX (a,n,o)=AX (ug a a,n / 2,if n%2=1 then ug o a else o):=by
   show anp 64 a n.toNat o=anp 64 (ug a a) (n / 2).toNat _;rw[agV 64 65 a n.toNat o au au];have t1:(n / 2).toNat=n.toNat / 2:=au;have t2:(n%2=1)=(n.toNat%2=1):=by apply propext;omega
   rw[t1];simp only[t2];show(if n.toNat=0 then o else _)=_;rw[if_neg au]
  refine⟨(ug a a,n / 2,if n%2=1 then ug o a else o),⟨(AN a a).u,⟨au,au⟩,?_⟩,by show(n / 2).toNat < n.toNat;omega,?_,λkn kx=> ?_⟩
  ·show Pn (if n%2=1 then ug o a else o);split
   ·exact AN _ _
   ·exact ho
  ·exact bD _ e.symm
  ·rw[FZ,dT h,aJS hn,aIt n0 n1,J7 (d:=(o,a)) ⟨ho.u,ha⟩,J7 (d:=(a,a)) ⟨ha,ha⟩];by_cases h1:n%2=1
   ·rw[lk h1,if_pos h1];rfl
   ·rw[kL h1,if_neg h1];rfl
 ·right;intro R kn kx;obtain rfl:n=0:=au;rw[FZ,du au];simp only[al,bG,AX];rw[show anp 64 a (ab 0) o=o from CD _ _ _]
theorem aq1:wI.Ok:=by rintro⟨a,n⟩ ⟨ha,hn⟩;rw[aq0,XN (d:=(a,n,1)) ⟨ha,hn,au,au⟩];rfl
theorem J5:wI.RS:=rE [.d tu,.d tu] wI
def OQ:=wI.gf aq1 1 ⟨.gA acB,trivial⟩
def B5(p:Int):Bool:=decide (0 < p/\p < 4611686018427377339) && decide (pw p 2305843009213688669=1)
def tk(p:Int):Int:=if B5 p then p else 1
theorem ayd(p:Int):Pn (tk p):=by
 unfold tk;split
 ·rename_i h;simp only[B5,av,aW]at h;exact⟨au,au⟩
 ·exact⟨au,au⟩
def DX(p k:Int):Int:=pw (tk p) (k%2305843009213688669).toNat
def gw(k:Int):Int:=DX 4 k
def agb(p:Int):Int:=pw (tk p) 2305843009213688668
def RN(l:List Int):Int:=l.foldl (λo p=>ug o (tk p)) 1
theorem aBJ(l:List Int)(o:Int)(h:Pn o):Pn (l.foldl (λo p=>ug o (tk p)) o):=by
 induction l generalizing o with
 |nil=>exact h
 |cons p l ih=>exact ih _ (AN _ _)
theorem aBK(l:List Int):Pn (RN l):=aBJ l 1 ⟨au,au⟩
def akB:Int->Prop:=λp=>ou p
def MO:Int->Bool:=λp=>B5 p
def uE:Fs Tryz.prog akB bG MO:=fV 60 Tryz.f60 (λp=>([.d tu p],[])) (λx=>⟨.d .bool x,[],[]⟩) [ao tu] [OQ]
theorem aq2(p)(k:K1 R):uE.A p k=aS (Ak p 0) (aS (gY p 4611686018427377339) (aq (wI.call (p,2305843009213688669)) λx1=>k (uE.out (EM x1 1))) (k (uE.out aR))) (k (uE.out aR)):=cM
theorem aq3:uE.Ok:=by
 intro p hp;have hp:ou p:=hp;rw[aq2,J5 (d:=(p,2305843009213688669)) ⟨hp,by constructor <;> decide⟩];simp only[ae,bG,agQ,bG,MO,B5];by_cases h:0 < p
 ·rw[dT h,aj];by_cases h2:p < 4611686018427377339
  ·rw[bm h2,aj,ba ⟨h,h2⟩,cD];rfl
  ·rw[bh h2,al,bE (λx=>h2 x.2),ff]
 ·rw[du h,al,bE (λx=>h x.1),ff]
theorem zT:uE.RS:=rE [.d tu] uE
def OR:=uE.gf aq3
def akF:Int->Prop:=λp=>ou p
def F1:Int->Int:=λp=>tk p
def BG:Fs Tryz.prog akF bG F1:=fV 113 Tryz.f113 (λp=>([.d tu p],[])) (λx=>⟨.d tu x,[],[]⟩) [ao tu] [OR]
theorem aq8(p)(k:K1 R):BG.A p k=aq (uE.call p) λx1=>aS (x1) (k (BG.out p)) (k (BG.out 1)):=cM
theorem aq9:BG.Ok:=by intro p hp;rw[aq8,zT (d:=p) hp];simp only[ae,bG,MO,bG,F1,tk];cases B5 p <;> rfl
theorem J6:BG.RS:=rE [.d tu] BG
def OS:=BG.gf aq9
def akC:(Int×Int)->Prop:=λ(p,k)=>ou p/\ou k
def agR:(Int×Int)->Int:=λ(p,k)=>DX p k
def F0:Fs Tryz.prog akC bG agR:=fV 75 Tryz.f75 (λ(p,kv)=>([.d tu p,.d tu kv],[])) (λx=>⟨.d tu x,[],[]⟩) [ao tu,ao tu] [OS,OQ]
theorem aq4(p kv)(k:K1 R):F0.A (p,kv) k=aq (BG.call p) λx1=>aq (wI.call (x1,(ur kv 2305843009213688669))) λx2=>k (F0.out x2):=cM
theorem aq5:F0.Ok:=by rintro⟨p,k⟩ ⟨hp,hk⟩;have hk:ou k:=hk;have e:=Hh (y:=2305843009213688669) hk.1;have b:ou (k%2305843009213688669):=⟨au,au⟩;rw[aq4,J6 (d:=p) hp,e];simp only[ae,bG,F1];rw[J5 (d:=(tk p,k%2305843009213688669)) ⟨(ayd p).u,b⟩];rfl
theorem VD:F0.RS:=rE [.d tu,.d tu] F0
def ZH:=F0.gf aq5
def aqB:Int->Prop:=λk=>ou k
def Sj:Int->Int:=λk=>gw k
def FP:Fs Tryz.prog aqB bG Sj:=fV 36 Tryz.f36 (λkv=>([.d tu kv],[])) (λx=>⟨.d tu x,[],[]⟩) [ao tu] [ZH]
theorem awy(kv)(k:K1 R):FP.A kv k=aq (F0.call (4,kv)) λx1=>k (FP.out x1):=cM
theorem awz:FP.Ok:=by intro k hk;rw[awy,VD (d:=(4,k)) ⟨⟨au,au⟩,hk⟩];rfl
theorem Cy:FP.RS:=rE [.d tu] FP
def Mt:=FP.gf awz
def aw7:Int->Prop:=λp=>ou p
def aw6:Int->Int:=λp=>agb p
def akx:Fs Tryz.prog aw7 bG aw6:=fV 166 Tryz.f166 (λp=>([.d tu p],[])) (λx=>⟨.d tu x,[],[]⟩) [ao tu] [OS,OQ]
theorem aBd(p)(k:K1 R):akx.A p k=aq (BG.call p) λx1=>aq (wI.call (x1,2305843009213688668)) λx2=>k (akx.out x2):=cM
theorem aBe:akx.Ok:=by intro p hp;rw[aBd,J6 (d:=p) hp];simp only[ae,bG,F1];rw[J5 (d:=(tk p,2305843009213688668)) ⟨(ayd p).u,by constructor <;> decide⟩];rfl
theorem aw8:akx.RS:=rE [.d tu] akx
def aBf:=akx.gf aBe
abbrev Zy:=Int×Bs×Int×Int
def agu:Zy->Prop:=λ(o,l,n,i)=>Pn o/\(∀x∈l,ou x)/\l.length<=1000000000/\n=l.length/\∃k:Nat,k<=l.length/\i=k
def OK:Zy->Int:=λ(o,l,n,i)=>(l.drop i.toNat).foldl (λo p=>ug o (tk p)) o
def U5:Bs->Prop:=λl=>(∀x∈l,ou x)/\l.length<=1000000000
def aEI:Bs->Int:=λl=>RN l
def ym:Ls agu bG OK:=yg (λ(outv,t6,t7,t8)=>⟨([cq,cq,cq,.d tu outv,cq,cq,.d tU t6,.d ti t7,.d ti t8]++bf 9 []),[],(ai 18 [])⟩) (λx=>(.exit 0,⟨([cq,cq,cq,.d tu x]++bf 14 []),[],(ai 18 [])⟩))
def U4:Fs Tryz.prog U5 bG aEI:=fV 160 Tryz.f160 (λl=>([.d tU l],[])) (λx=>⟨.d tu x,[],[]⟩) [ao tU] [OS,ZK] {loops:=so [(3,{bp:=[3,6,7,8]})],outs:=sm [(3,{bp:=[3]},{bp:=[2]})],gS:=tt [(3,ym.E)]}
theorem agv:ym.RS:=rL [.d tu,.d tU,.d ti,.d ti] ym
theorem Ms(outv t6 t7 t8)(kn:K2 R)(kx:K3 R):U4.R 0 ym (outv,t6,t7,t8) kn kx=aS (gY t8 t7) (aS (gI t8 (t6.length:Int)) (aq (BG.call (nth tu t6 (ab t8))) λx1=>aq (BH.call (outv,x1)) λx2=>kn (ym.st (x2,t6,t7,(bT .i64 t8 1)))) aJ) (ym.go kx outv):=cM
theorem aA1(l)(k:K1 R):U4.A l k=aq (ym.call (1,l,(l.length:Int),0)) λx3=>k (U4.out x3):=cM
theorem akd:(U4.mM 0 ym):=by
 refine(U4.qG 0 ym) (λ(o,l,n,i)=>l.length - i.toNat) ?_
 rintro⟨o,l,n,i⟩ ⟨ho,hl,hb,rfl,k,hk,rfl⟩;have ho:Pn o:=ho;have hb:l.length<=1000000000:=hb;have hk:k<=l.length:=hk;by_cases h:k < l.length
 ·left;have hx:=hl _ (aV h);have n1:nth (.int .u64) l k=l[k]:=da (t:= .int .u64) h;refine⟨(ug o (tk l[k]),l,l.length,((k+1:Nat):Int)),⟨AN _ _,hl,hb,rfl,k+1,au,rfl⟩,by simp only[aa];omega,?_,λkn kx=> ?_⟩
  ·simp only[bG,OK,aa];rw[aC h];rfl
  ·rw[Ms];simp(disch:=omega) only[↓S1,↓if_pos,↓if_neg,if_pos,if_neg,cY,cF,S2,n1];rw[J6 (d:=l[k]) hx];simp only[ae,bG,F1];rw[J7 (d:=(o,tk l[k])) ⟨ho.u,(ayd _).u⟩];rfl
 ·right;obtain rfl:k=l.length:=au;intro R kn kx;rw[Ms];simp(disch:=omega) only[↓S1,↓if_pos,↓if_neg,if_pos,if_neg,cY,cF,S2,bG,OK,aU];rfl
theorem aA2:U4.Ok:=by rintro l ⟨hl,hb⟩;rw[aA1,agv (d:=(1,l,l.length,0)) ⟨⟨au,au⟩,hl,hb,rfl,0,au,rfl⟩];rfl
theorem agw:U4.RS:=rE [.d tU] U4
def amY:=U4.gf aA2 1 ⟨.gA akd,trivial⟩
def aws:(Int×Int)->Prop:=λ(p,q)=>ou p/\ou q
def awr:(Int×Int)->Int:=λ(p,q)=>RN [p,q]
def akb:Fs Tryz.prog aws bG awr:=fV 145 Tryz.f145 (λ(p,q)=>([.d tu p,.d tu q],[])) (λx=>⟨.d tu x,[],[]⟩) [ao tu,ao tu] [amY]
theorem aAY(p q)(k:K1 R):akb.A (p,q) k=aq (U4.call [p,q]) λx1=>k (akb.out x1):=cM
theorem aAZ:akb.Ok:=by rintro⟨p,q⟩ ⟨hp,hq⟩;have h:U5 [p,q]:=⟨by intro x hx;simp only[cj,List.not_mem_nil,or_false]at hx;rcases hx with rfl | rfl <;> assumption,by simp only[aH,bB];omega⟩;rw[aAY,agw h];rfl
theorem awt:akb.RS:=rE [.d tu,.d tu] akb
def aA0:=akb.gf aAZ
def Qn(x:Int):Prop:=0<=x/\x < 2305843009213688669
theorem Qn.u{x:Int}(h:Qn x):ou x:=⟨h.1,by have:=h.2;omega⟩
def awd(a:Int):Int:=a%2305843009213688669
theorem ab1(a:Int):Qn (awd a):=⟨kF _ au,kc _ au⟩
def aid(a b:Int):Int:=(awd a+awd b)%2305843009213688669
def abX(a b:Int):Int:=awd a*awd b%2305843009213688669
def LF(h:List Int):Int:=h.foldl (λn b=>(n*256+b)%2305843009213688668) 0+1
def asz.b(n:Int):Prop:=0<=n/\n < 2305843009213688668
theorem afe(h:List Int)(n:Int)(hn:asz.b n):asz.b (h.foldl (λn b=>(n*256+b)%2305843009213688668) n):=by
 induction h generalizing n with
 |nil=>exact hn
 |cons p l ih=>exact ih _ ⟨kF _ au,kc _ au⟩
theorem TH(h:List Int):0 < LF h/\LF h < 2305843009213688669:=by have:=afe h 0 ⟨au,au⟩;have h1:=this.1;have h2:=this.2;unfold LF;omega
theorem alJ(a b:Int):Qn (aid a b):=⟨kF _ au,kc _ au⟩
theorem aAD(a b:Int):Qn (abX a b):=⟨kF _ au,kc _ au⟩
def aje:Int->Prop:=λ_=>True
def LD:Int->Bool:=λa=>gY a 2305843009213688669
def Dt:Fs Tryz.prog aje bG LD:=fV 78 Tryz.f78 (λa=>([.d tu a],[])) (λx=>⟨.d .bool x,[],[]⟩) [ao tu]
theorem apl(a)(k:K1 R):Dt.A a k=k (Dt.out (gY a 2305843009213688669)):=cM
theorem apm:Dt.Ok:=by intro a _;rw[apl];rfl
theorem Jz:Dt.RS:=rE [.d tu] Dt
def Og:=Dt.gf apm
def azS:Int->Prop:=λa=>ou a
def auO:Int->Int:=λa=>awd a
def ayL:Fs Tryz.prog azS bG auO:=fV 161 Tryz.f161 (λa=>([.d tu a],[])) (λx=>⟨.d tu x,[],[]⟩) [ao tu]
theorem aDN(a)(k:K1 R):ayL.A a k=k (ayL.out (ur a 2305843009213688669)):=cM
theorem aDO:ayL.Ok:=by intro a ha;rw[aDN,Hh ha.1];rfl
theorem R2:ayL.RS:=rE [.d tu] ayL
def auP:=ayL.gf aDO
def apj:(Int×Int)->Prop:=λ(a,b)=>Qn a/\Qn b
def azT:(Int×Int)->Int:=λ(a,b)=>(a+b)%2305843009213688669
def TG:Fs Tryz.prog apj bG azT:=fV 162 Tryz.f162 (λ(a,b)=>([.d tu a,.d tu b],[])) (λx=>⟨.d tu x,[],[]⟩) [ao tu,ao tu]
theorem auQ(a b)(k:K1 R):TG.A (a,b) k=k (TG.out (ur (bT .u64 a b) 2305843009213688669)):=cM
theorem auR:TG.Ok:=by
 rintro⟨a,b⟩ ⟨ha,hb⟩;have ha:Qn a:=ha;have hb:Qn b:=hb;obtain⟨h1,h2⟩:=ha;obtain⟨h3,h4⟩:=hb;have e:bT .u64 a b=a+b:=by rw[xU];omega
 rw[auQ,e,Hh au];rfl
theorem apk:TG.RS:=rE [.d tu,.d tu] TG
def auS:=TG.gf auR
def ajf:(Int×Int)->Prop:=λ(a,b)=>Qn a/\Qn b
def auT:(Int×Int)->Int:=λ(a,b)=>a*b%2305843009213688669
def JA:Fs Tryz.prog ajf bG auT:=fV 163 Tryz.f163 (λ(a,b)=>([.d tu a,.d tu b],[])) (λx=>⟨.d tu x,[],[]⟩) [ao tu,ao tu] [Uz,VQ]
theorem apn(a b)(k:K1 R):JA.A (a,b) k=aq (FH.call (a,b)) λx1=>aq (MT.call (x1.1,x1.2,2305843009213688669)) λx2=>k (JA.out x2):=cM
theorem apo:JA.Ok:=by rintro⟨a,b⟩ ⟨ha,hb⟩;have ha:Qn a:=ha;have hb:Qn b:=hb;obtain⟨m1,m2⟩:=OF ha.1 (show a<=18446744073709551615 by have:=ha.2;omega) hb.1 (show b<=18446744073709551615 by have:=hb.2;omega);have n:(18446744073709551615:Int)*18446744073709551615=340282366920938463426481119284349108225:=rfl;rw[n]at m2;have p:OX (a*b / 18446744073709551616,a*b%18446744073709551616,2305843009213688669):=⟨fm (lG rfl),au,au,au,au⟩;rw[apn,Hl (d:=(a,b)) ⟨ha.u,hb.u⟩];simp only[ae,bG,Mg];rw[OY p];simp only[ae,bG,MU,WX];rfl
theorem ajg:JA.RS:=rE [.d tu,.d tu] JA
def apq:=JA.gf apo
def auz:(Int×Int)->Prop:=λ(a,b)=>ou a/\ou b
def aDM:(Int×Int)->Int:=λ(a,b)=>aid a b
def ai9:Fs Tryz.prog auz bG aDM:=fV 146 Tryz.f146 (λ(a,b)=>([.d tu a,.d tu b],[])) (λx=>⟨.d tu x,[],[]⟩) [ao tu,ao tu] [auP,auS]
theorem azK(a b)(k:K1 R):ai9.A (a,b) k=aq (ayL.call a) λx1=>aq (ayL.call b) λx2=>aq (TG.call (x1,x2)) λx3=>k (ai9.out x3):=cM
theorem azL:ai9.Ok:=by rintro⟨a,b⟩ ⟨ha,hb⟩;rw[azK,R2 (d:=a) ha,R2 (d:=b) hb];simp only[ae,bG,auO];rw[apk (d:=(awd a,awd b)) ⟨ab1 a,ab1 b⟩];rfl
theorem auA:ai9.RS:=rE [.d tu,.d tu] ai9
def azM:=ai9.gf azL
def auL:(Int×Int)->Prop:=λ(a,b)=>ou a/\ou b
def auK:(Int×Int)->Int:=λ(a,b)=>abX a b
def ajd:Fs Tryz.prog auL bG auK:=fV 147 Tryz.f147 (λ(a,b)=>([.d tu a,.d tu b],[])) (λx=>⟨.d tu x,[],[]⟩) [ao tu,ao tu] [auP,apq]
theorem azP(a b)(k:K1 R):ajd.A (a,b) k=aq (ayL.call a) λx1=>aq (ayL.call b) λx2=>aq (JA.call (x1,x2)) λx3=>k (ajd.out x3):=cM
theorem azQ:ajd.Ok:=by rintro⟨a,b⟩ ⟨ha,hb⟩;rw[azP,R2 (d:=a) ha,R2 (d:=b) hb];simp only[ae,bG,auO];rw[ajg (d:=(awd a,awd b)) ⟨ab1 a,ab1 b⟩];rfl
theorem auM:ajd.RS:=rE [.d tu,.d tu] ajd
def azR:=ajd.gf azQ
def abi:(Int×Bs×Int)->Prop:=λ(n,h,i)=>asz.b n/\h.length=32/\Bytes h/\∃k:Nat,k<=32/\i=k
def Dr:(Int×Bs×Int)->Int:=λ(n,h,i)=>(h.drop i.toNat).foldl (λn b=>(n*256+b)%2305843009213688668) n
def apf:Bs->Prop:=λh=>h.length=32/\Bytes h
def abh:Bs->Int:=λh=>LF h
def tl:Ls abi bG Dr:=yg (λ(n,t6,t7)=>⟨([cq,cq,cq,.d tu n,cq,cq,.d tH t6,.d ti t7]++bf 13 []),[],(ai 21 [])⟩) (λx=>(.exit 0,⟨([cq,cq,cq,.d tu x]++bf 17 []),[],(ai 21 [])⟩))
def Fj:Fs Tryz.prog apf bG abh:=fV 117 Tryz.f117 (λh=>([.d tH h],[])) (λx=>⟨.d tu x,[],[]⟩) [ao tH] [VQ] {loops:=so [(3,{bp:=[3,6,7]})],outs:=sm [(3,{bp:=[3]},{bp:=[2]})],gS:=tt [(3,tl.E)]}
theorem abj:tl.RS:=rL [.d tu,.d tB,.d ti] tl
theorem H2(n t6 t7)(kn:K2 R)(kx:K3 R):Fj.R 0 tl (n,t6,t7) kn kx=aS (gY t7 32) (aS (gI t7 32) (aq (MT.call ((cW .u64 n 56),(eh .or .u64 (oe .u64 n 8) (eD .u64 (nth tb t6 (ab t7)))),2305843009213688668)) λx1=>kn (tl.st (x1,t6,(bT .i64 t7 1)))) aJ) (tl.go kx n):=cM
theorem auF(h)(k:K1 R):Fj.A h k=aq (tl.call (0,h,0)) λx2=>k (Fj.out (bT .u64 x2 1)):=cM
theorem P0{n b:Int}(hn:asz.b n)(hb:aai b):cW .u64 n 56*18446744073709551616+eh .or .u64 (oe .u64 n 8) (eD .u64 b)=n*256+b/\ou (cW .u64 n 56)/\ou (eh .or .u64 (oe .u64 n 8) (eD .u64 b)):=by
 obtain⟨h1,h2⟩:=hn;obtain⟨h3,h4⟩:=hb;have p56:(2:Int)^56=72057594037927936:=rfl;have p8:(2:Int)^8=256:=rfl;have e:eD .u64 b=b:=by rw[avf];omega
 rw[vp 56 (by rfl) au,vo 8 (by rfl) au,p56,p8,e,Mp 8 256 rfl au au au au au au];exact⟨au,⟨au,au⟩,au,au⟩
theorem ae8:(Fj.mM 0 tl):=by
 refine(Fj.qG 0 tl) (λ(n,h,i)=>32 - i.toNat) ?_
 rintro⟨n,h,i⟩ ⟨hn,hl,hb,k,hk,rfl⟩;have hn:asz.b n:=hn;have hl:h.length=32:=hl;have hb:Bytes h:=hb;by_cases je:k < 32
 ·left;have hx:aai (h[k]'(au)):=hb _ (aV _);have n1:nth (.int .u8) h k=h[k]'(au):=da (t:= .int .u8) au;obtain⟨d1,d2,d3⟩:=P0 hn hx;refine⟨((n*256+h[k]'(au))%2305843009213688668,h,((k+1:Nat):Int)),⟨⟨au,au⟩,hl,hb,k+1,au,rfl⟩,by simp only[aa];omega,?_,λkn kx=> ?_⟩
  ·simp only[bG,Dr,aa];rw[aC (by omega:k < h.length)];rfl
  ·rw[H2];simp(disch:=omega) only[↓S1,↓if_pos,↓if_neg,if_pos,if_neg,cY,cF,S2,n1];rw[OY (d:=(_,_,2305843009213688668)) ⟨fm (fm rfl),d2.1,d2.2,d3.1,d3.2⟩];simp only[ae,bG,MU,d1]
 ·right;obtain rfl:k=32:=au;intro R kn kx;rw[H2];simp(disch:=omega) only[↓S1,↓if_pos,↓if_neg,if_pos,if_neg,cY,cF,S2,bG,Dr];rw[fZ au];rfl
theorem auG:Fj.Ok:=by
 rintro h ⟨hl,hb⟩;have e:=afe h 0 ⟨au,au⟩;have h1:=e.1;have h2:=e.2;rw[auF,abj (d:=(0,h,0)) ⟨⟨au,au⟩,hl,hb,0,au,rfl⟩];simp only[ae,bG,Dr,bG,abh,LF,bo,aQ]
 revert h1 h2
 generalize h.foldl (λn b=>(n*256+b)%2305843009213688668) 0=m;intro h1 h2;have e:bT .u64 m 1=m+1:=by rw[xU];omega
 rw[e]
theorem YX:Fj.RS:=rE [.d tB] Fj
def ae9:=Fj.gf auG 1 ⟨.gA ae8,trivial⟩
theorem adZ(n:Int): [eD .u8 (cW .u64 n 56),eD .u8 (cW .u64 n 48),eD .u8 (cW .u64 n 40),eD .u8 (cW .u64 n 32),eD .u8 (cW .u64 n 24),eD .u8 (cW .u64 n 16),eD .u8 (cW .u64 n 8),eD .u8 (cW .u64 n 0)]=mq n:=aim n
theorem fA{α:Type}{l:List α}{n:Nat}(h:l.length=n):cut l 0 n=l:=by subst h;simp[cut]
theorem ayb{n:ByteArray}{a b c:List Int}(hn:n.size<=100)(ha:a.length<=1000000)(hb:b.length<=1000000)(hc:c.length<=1000000):LO (n,[a,b,c]):=by show(X0 _ [a,b,c]).length<=_;rw[X0];simp only[yI,dq,pz,ak,dA,nX,bB];omega
theorem aya{n:ByteArray}{a b:List Int}(hn:n.size<=100)(ha:a.length<=1000000)(hb:b.length<=1000000):LO (n,[a,b]):=by show(X0 _ [a,b]).length<=_;rw[X0];simp only[yI,dq,pz,ak,dA,nX,bB];omega
theorem ahy{n:ByteArray}{a:List Int}(hn:n.size<=100)(ha:a.length<=1000000):LO (n,[a]):=by show(X0 _ [a]).length<=_;rw[X0];simp only[yI,dq,pz,ak,dA,nX,bB];omega
def Sm(m:List Int):Prop:=m.length=32/\Bytes m
theorem aEW(b:List Int):Sm (aFJ b):=⟨ak1 b,aoC b⟩
theorem ak5(n:List Int)(ps:List (List Int)):Sm (tag n ps):=aEW _
def ax9(n:ByteArray)(ps:List (List Int)):List Int:=tag (cE n) ps
def aG8:ByteArray:=⟨#[115,105,103]⟩
def aj0:ByteArray:=⟨#[110,111,110,99,101]⟩
def Ei(r p:Int)(m:List Int):Int:=LF (ax9 aG8 [mq r,mq p,m])
theorem SY(r p:Int)(m:List Int):Qn (Ei r p m):=by have:=TH (ax9 aG8 [mq r,mq p,m]);exact⟨by unfold Ei;omega,by unfold Ei;omega⟩
def aC6(s:Sg):Prop:=ou s.1/\ou s.2.1
def ze(p:Int)(m:List Int)(t:Int)(s:Sg):Bool:=if p=1\/B5 p=aR\/B5 t=aR\/B5 s.1=aR\/¬s.2.1 < 2305843009213688669 then aR else decide (gw s.2.1=RN [s.1,DX p (Ei s.1 p m),agb t])
def aao(k nonce:Int)(m:List Int)(t:Int):Sg:=(RN [gw nonce,t],aid nonce (abX (Ei (RN [gw nonce,t]) (gw k) m) k),())
def av9(k:Int)(m:List Int):Int:=LF (ax9 aj0 [mq k,m])
def mI(k:Int)(m:List Int):Sg:=if k < 2305843009213688669/\k≠0 then aao k (av9 k m) m 1 else(0,0,())
def ai4:Int->Prop:=λ_=>True
def Tw:Int->Bs:=λn=>mq n
def Dn:Fs Tryz.prog ai4 bG Tw:=fV 118 Tryz.f118 (λn=>([.d tu n],[])) (λx=>⟨.d tB x,[],[]⟩) [ao tu] [] {loops:=so [(3,{bp:=[0,3,7,8],sites:=[5]})],outs:=sm [(3,{bp:=[3],sites:=[5]},{bp:=[2],sites:=[5]})],res:=[ao tB]} 12
theorem ao9(n)(k:K1 R):Dn.A n k=k (Dn.out [(eD .u8 (cW .u64 n 56)),(eD .u8 (cW .u64 n 48)),(eD .u8 (cW .u64 n 40)),(eD .u8 (cW .u64 n 32)),(eD .u8 (cW .u64 n 24)),(eD .u8 (cW .u64 n 16)),(eD .u8 (cW .u64 n 8)),(eD .u8 (cW .u64 n 0))]):=cM
theorem apa:Dn.Ok:=by intro n _;rw[ao9,adZ];rfl
theorem Jo:Dn.RS:=rE [.d tu] Dn
def YU:=Dn.gf apa 1 ⟨.none cM,trivial⟩
def aoH:(Int×Int×Bs)->Prop:=λ(r,p,m)=>Sm m
def aaz:(Int×Int×Bs)->Int:=λ(r,p,m)=>Ei r p m
def PH:Fs Tryz.prog aoH bG aaz:=fV 148 Tryz.f148 (λ(r,p,m)=>([.d tu r,.d tu p,.d tH m],[])) (λx=>⟨.d tu x,[],[]⟩) [ao tu,ao tu,ao tH] [YU,R7,ae9]
theorem att(r p m)(k:K1 R):PH.A (r,p,m) k=aq (Dn.call r) λx1=>aq (Dn.call p) λx2=>aq (Oo.call ((⟨#[115,105,103]⟩:ByteArray),[x1,x2,(cut m 0 32)])) λx3=>aq (Fj.call x3) λx4=>k (PH.out x4):=cM
theorem atu:PH.Ok:=by rintro⟨r,p,m⟩ hm;have hm:Sm m:=hm;rw[att,Jo (d:=r) trivial,Jo (d:=p) trivial];simp only[ae,bG,Tw];rw[fA hm.1,LP (ayb eZ (by rw[dA];omega) (by rw[dA];omega) (by rw[hm.1];omega))];simp only[ae,bG,abx];rw[YX (d:=tag (cE (⟨#[115,105,103]⟩:ByteArray)) [mq r,mq p,m]) (ak5 _ _)];rfl
theorem YF:PH.RS:=rE [.d tu,.d tu,.d tB] PH
def aes:=PH.gf atu
abbrev ZX:=Int×Bs×Int×Sg
def ahc:ZX->Prop:=λ(p,m,t,s)=>ou p/\Sm m/\ou t/\aC6 s
def ZY:ZX->Bool:=λ(p,m,t,s)=>ze p m t s
def qX:Fs Tryz.prog ahc bG ZY:=fV 159 Tryz.f159 (λ(p,m,t,pre)=>([.d tu p,.d tH m,.d tu t,.d No pre],[])) (λx=>⟨.d .bool x,[],[]⟩) [ao tu,ao tH,ao tu,ao No] [OR,Og,aes,ZH,aBf,amY,Mt]
theorem akY(p m t pre)(k:K1 R):qX.A (p,m,t,pre) k=aS (EM p 1) (k (qX.out aR)) (aq (uE.call p) λx1=>aS (!x1) (k (qX.out aR)) (aq (uE.call t) λx2=>aS (!x2) (k (qX.out aR)) (aq (uE.call pre.1) λx3=>aS (!x3) (k (qX.out aR)) (aq (Dt.call pre.2.1) λx4=>aS (!x4) (k (qX.out aR)) (aq (PH.call (pre.1,p,m)) λx5=>aq (F0.call (p,x5)) λx6=>aq (akx.call t) λx7=>aq (U4.call [pre.1,x6,x7]) λx8=>aq (FP.call pre.2.1) λx9=>k (qX.out (EM x9 x8))))))):=cM
theorem akZ:qX.Ok:=by
 rintro⟨p,m,t,s⟩ ⟨hp,hm,ht,hs⟩;have hp:ou p:=hp;have ht:ou t:=ht;have hm:Sm m:=hm;have hs:aC6 s:=hs;rw[akY,zT (d:=p) hp,zT (d:=t) ht,zT (d:=s.1) hs.1,Jz (d:=s.2.1) trivial];simp only[ae,bG,MO,bG,LD,bG,ZY,ze];by_cases h1:p=1
 ·rw[lk h1,aj,if_pos (lG h1)]
 rw[kL h1,al];cases h2:B5 p
 ·rw[if_pos (fm (lG rfl))];rfl
 cases h3:B5 t
 ·rw[if_pos (fm (fm (lG rfl)))];rfl
 cases h4:B5 s.1
 ·rw[if_pos (fm (fm (fm (lG rfl))))];rfl
 by_cases h5:s.2.1 < 2305843009213688669
 ·rw[bm h5,if_neg (by simp[h1,h5])];have hq:=SY s.1 p m;rw[YF (d:=(s.1,p,m)) hm];simp only[cG,al,ae,bG,aaz];rw[VD (d:=(p,Ei s.1 p m)) ⟨hp,hq.u⟩,aw8 (d:=t) ht];simp only[ae,bG,agR,bG,aw6];have q:U5 [s.1,DX p (Ei s.1 p m),agb t]:=⟨by
   intro x hx;simp only[cj,List.not_mem_nil,or_false]at hx;rcases hx with rfl | rfl | rfl
   ·exact hs.1
   ·exact(agW _ _).u
   ·exact(agW _ _).u,by simp only[aH,bB];omega⟩
  rw[agw q,Cy (d:=s.2.1) hs.2];rfl
 ·rw[bh h5,if_pos (fm (fm (fm (fm h5))))];rfl
theorem ahd:qX.RS:=rE [.d tu,.d tB,.d tu,.d No] qX
def ak0:=qX.gf akZ
def ahw:(Int×Bs×Sg)->Prop:=λ(p,m,s)=>ou p/\Sm m/\aC6 s
def Z3:(Int×Bs×Sg)->Bool:=λ(p,m,s)=>ze p m 1 s
def D0:Fs Tryz.prog ahw bG Z3:=fV 144 Tryz.f144 (λ(p,m,sv)=>([.d tu p,.d tH m,.d No sv],[])) (λx=>⟨.d .bool x,[],[]⟩) [ao tu,ao tH,ao No] [ak0]
theorem alf(p m sv)(k:K1 R):D0.A (p,m,sv) k=aq (qX.call (p,m,1,sv)) λx1=>k (D0.out x1):=cM
theorem alg:D0.Ok:=by rintro⟨p,m,s⟩ ⟨hp,hm,hs⟩;rw[alf,ahd (d:=(p,m,1,s)) ⟨hp,hm,⟨au,au⟩,hs⟩];rfl
theorem ahx:D0.RS:=rE [.d tu,.d tB,.d No] D0
def alh:=D0.gf alg
def axV:Int->Prop:=λ_=>True
def ak4:Int->Bool:=λk=>decide (k < 2305843009213688669/\k≠0)
def ahn:Fs Tryz.prog axV bG ak4:=fV 115 Tryz.f115 (λkv=>([.d tu kv],[])) (λx=>⟨.d .bool x,[],[]⟩) [ao tu] [Og]
theorem aBC(kv)(k:K1 R):ahn.A kv k=aq (Dt.call kv) λx1=>aS (x1) (k (ahn.out (JE kv 0))) (k (ahn.out aR)):=cM
theorem aBD:ahn.Ok:=by
 intro k _;rw[aBC,Jz (d:=k) trivial];simp only[ae,bG,LD,bG,ak4];by_cases h:k < 2305843009213688669
 ·rw[bm h,aj];by_cases h0:k=0
  ·rw[eU h0,bE (λx=>x.2 h0)]
  ·rw[gZ h0,ba ⟨h,h0⟩]
 ·rw[bh h,al,bE (λx=>h x.1)]
theorem axW:ahn.RS:=rE [.d tu] ahn
def aBE:=ahn.gf aBD
abbrev ZW:=Int×Int×Bs×Int
def aha:ZW->Prop:=λ(k,n,m,t)=>ou k/\ou n/\Sm m/\ou t
def arC:ZW->Sg:=λ(k,n,m,t)=>aao k n m t
def DW:Fs Tryz.prog aha bG arC:=fV 116 Tryz.f116 (λ(kv,nonce,m,t)=>([.d tu kv,.d tu nonce,.d tH m,.d tu t],[])) (λx=>⟨.d No x,[],[]⟩) [ao tu,ao tu,ao tH,ao tu] [Mt,aA0,aes,azR,azM]
theorem akV(kv nonce m t)(k:K1 R):DW.A (kv,nonce,m,t) k=aq (FP.call nonce) λx1=>aq (akb.call (x1,t)) λx2=>aq (FP.call kv) λx3=>aq (PH.call (x2,x3,m)) λx4=>aq (ajd.call (x4,kv)) λx5=>aq (ai9.call (nonce,x5)) λx6=>k (DW.out (x2,(x6,()))):=cM
theorem akW:DW.Ok:=by rintro⟨k,n,m,t⟩ ⟨hk,hn,hm,ht⟩;have hk:ou k:=hk;have hn:ou n:=hn;have hm:Sm m:=hm;have ht:ou t:=ht;rw[akV,Cy (d:=n) hn];simp only[ae,bG,Sj];rw[awt (d:=(gw n,t)) ⟨(agW _ _).u,ht⟩,Cy (d:=k) hk];simp only[ae,bG,Sj,bG,awr];rw[YF (d:=(RN [gw n,t],gw k,m)) hm];simp only[ae,bG,aaz];rw[auM (d:=(Ei (RN [gw n,t]) (gw k) m,k)) ⟨(SY _ _ _).u,hk⟩];simp only[ae,bG,auK];rw[auA (d:=(n,abX (Ei (RN [gw n,t]) (gw k) m) k)) ⟨hn,(aAD _ _).u⟩];rfl
theorem ahb:DW.RS:=rE [.d tu,.d tu,.d tB,.d tu] DW
def akX:=DW.gf akW
def arL:(Int×Bs)->Prop:=λ(k,m)=>ou k/\Sm m
def acT:(Int×Bs)->Sg:=λ(k,m)=>mI k m
def Q8:Fs Tryz.prog arL bG acT:=fV 81 Tryz.f81 (λ(kv,m)=>([.d tu kv,.d tH m],[])) (λx=>⟨.d No x,[],[]⟩) [ao tu,ao tH] [aBE,YU,R7,ae9,akX]
theorem ax1(kv m)(k:K1 R):Q8.A (kv,m) k=aq (ahn.call kv) λx1=>aS (!x1) (k (Q8.out (0,(0,())))) (aq (Dn.call kv) λx2=>aq (Oo.call ((⟨#[110,111,110,99,101]⟩:ByteArray),[x2,(cut m 0 32)])) λx3=>aq (Fj.call x3) λx4=>aq (DW.call (kv,x4,m,1)) λx5=>k (Q8.out x5)):=cM
theorem ax2:Q8.Ok:=by
 rintro⟨k,m⟩ ⟨hk,hm⟩;have hk:ou k:=hk;have hm:Sm m:=hm;rw[ax1,axW (d:=k) trivial];simp only[ae,bG,ak4,bG,acT,mI];by_cases h:k < 2305843009213688669/\k≠0
 ·rw[ba h,if_pos h,Jo (d:=k) trivial,fA hm.1];simp only[cG,al,ae,bG,Tw];rw[LP (aya eZ (by rw[dA];omega) (by rw[hm.1];omega))];simp only[ae,bG,abx];rw[YX (d:=tag (cE (⟨#[110,111,110,99,101]⟩:ByteArray)) [mq k,m]) (ak5 _ _)];simp only[ae,bG,abh];have q:=TH (tag (cE (⟨#[110,111,110,99,101]⟩:ByteArray)) [mq k,m]);rw[ahb (d:=(k,LF (tag (cE (⟨#[110,111,110,99,101]⟩:ByteArray)) [mq k,m]),m,1)) ⟨hk,⟨au,au⟩,hm,au,au⟩];rfl
 ·rw[bE h,if_neg h];rfl
theorem arM:Q8.RS:=rE [.d tu,.d tB] Q8
def ax3:=Q8.gf ax2
def Ec(l:List Int):Prop:=∀x∈l,ou x
def aB5(b:ud):Prop:=Ec b.1/\ou b.2.2.2.1
def alF(l:Lk):Prop:=∀b∈l.1,aB5 b
def On(n:Int):Bool:=decide (0<=n/\n<=1048576)
def EI(b:ud):Bool:=decide (b.1.length<=12) && (b.1.all B5 && (On b.2.1 && (On b.2.2.1 && (decide (b.2.2.2.1=0) || B5 b.2.2.2.1))))
def nT(l:Lk):Bool:=l.1.all EI && decide (0 < l.1.length/\l.1.length<=4)
def xd:List Int->Int->Int⊕Unit
 |[],_=> .inr ()
 |p::ps,i=>if B5 p then xd ps (i+1) else .inl i
def alL(l:List Int):Int:=match xd l 0 with | .inl i=>i | .inr _=> -1
theorem Pk:∀(l:List Int) (i:Int),0<=i->(match xd l i with | .inl i=>decide (i>=0) | .inr _=>aR)= !(l.all B5)
 |[],_,_=>rfl
 |p::ps,i,h=>by
  rw[xd,iT];cases hp:B5 p
  ·simp[h]
  ·simp only[cY,cD];exact Pk ps (i+1) au
theorem an1(l:List Int):Bp (alL l) 0= !(l.all B5):=by
 have:=Pk l 0 au;unfold alL Bp;cases h:xd l 0
 ·rw[h]at this;exact this
 ·rw[h]at this;rw[<-this];rfl
def avx:Int->Prop:=λp=>ou p
def abH:Int->Bool:=λp=> !B5 p
def afQ:Fs Tryz.prog avx bG abH:=fV 59 Tryz.f59 (λp=>([.d tu p],[])) (λx=>⟨.d .bool x,[],[]⟩) [ao tu] [OR]
theorem aAu(p)(k:K1 R):afQ.A p k=aq (uE.call p) λx1=>k (afQ.out (!x1)):=cM
theorem aAv:afQ.Ok:=by intro p hp;rw[aAu,zT (d:=p) hp];rfl
theorem Ub:afQ.RS:=rE [.d tu] afQ
def amF:=afQ.gf aAv
abbrev v8:=Bs×Int×Int
def pU:v8->AS:=λ(jw,t7,t8)=>⟨([.d tU jw,.fn 59 (.nil)]++bf 5 ([.d ti t7,.d ti t8]++bf 10 [])),[],(ai 19 [])⟩
def vg:Int->Exit×AS:=λx=>(.ret,⟨(bf 4 ([.d ti x]++bf 14 [])),[],(ai 19 [])⟩)
def vh:Unit->Exit×AS:=λx=>(.exit 0,⟨(bf 19 []),[],(ai 19 [])⟩)
abbrev FT:=(Int)⊕(Unit)
abbrev QM:=(Int)⊕(Unit)
def BD:FT->Out (Exit×AS):=λx=> .br x.isLeft (.get x.getLeft? λa=> .ok (vg a)) (.get x.getRight? λb=> .ok (vh b))
def jL:v8->QM->FT:=λ(jw,t7,t8) y=>match y with | .inl y=> .inl y | .inr z=> .inr (z)
def vf:v8->Prop:=λ(l,n,i)=>Ec l/\l.length<=1000000000/\n=l.length/\∃k:Nat,k<=l.length/\i=k
def mF:v8->QM:=λ(l,n,i)=>xd (l.drop i.toNat) i
def akq:Bs->Prop:=λl=>Ec l/\l.length<=1000000000
def Vi:Bs->Int:=λl=>alL l
def QK:=dW.gA pU vf jL mF BD
def FU:v8->Option FT:=iI QK pU
def wF:Fs Tryz.prog akq bG Vi:=fV 99 Tryz.f99 (λsv=>([.d tU sv,.fn 59 (.nil)],[])) (λx=>⟨.d ti x,[],[]⟩) [ao tU,aJ] [amF] {loops:=so [(2,{bp:=[0,1,7,8]})],outs:=sm [(2,{},{bp:=[4]})],gS:=tt [(2,QK)]}
def QL:= @fh Tryz.prog (lU wF.G) wF.an 0 Tryz.f99 0 _ pU
abbrev MB:=mn Tryz.prog (lU wF.G) wF.an 0 Tryz.f99 0 pU vf jL mF BD
theorem XI:kC FU vf jL mF:=og (na [.d tU,.d ti,.d ti] λ_=>cM)
theorem JY:qp @QL pU vf jL mF BD MB:=rA
theorem zN(jw t7 t8)(kn:K2 R)(kx:K3 R):QL (jw,t7,t8) kn kx=aS (gY t8 t7) (aS (gI t8 (((ag jw):Nat):Int)) (aq (afQ.call (nth tu jw (ab t8))) λx1=>aS (x1) (kx (vg t8).1 (vg t8).2) (kn (pU (jw,t7,(bT .i64 t8 (1:Int)))))) aJ) (kx (vh ()).1 (vh ()).2):=cM
theorem aqP(sv)(k:K1 R):wF.A sv k=aq (FU (sv,(sv.length:Int),0)) λx2=>aS x2.isLeft (aq x2.getLeft? λa3=>k (wF.out a3)) (aq x2.getRight? λb4=>k (wF.out (-1))):=cM
theorem aci:MB:=by
 refine JY (λ(l,n,i)=>l.length - i.toNat) ?_
 rintro⟨l,n,i⟩ ⟨hl,hb,rfl,k,hk,rfl⟩;have hb:l.length<=1000000000:=hb;have hk:k<=l.length:=hk;by_cases h:k < l.length
 ·have hx:=hl _ (aV h);have n1:nth (.int .u64) l k=l[k]:=da (t:= .int .u64) h;have hd:xd (l.drop k) k=if B5 l[k] then xd (l.drop (k+1)) ((k+1:Nat):Int) else .inl (k:Int):=by rw[aC h];rfl
  cases hp:B5 l[k]
  ·right;refine⟨vg (k:Int),?_,λkn kx=> ?_⟩
   ·simp only[jL,mF,aa,hd,hp,bR,cF];rfl
   ·rw[zN];simp(disch:=omega) only[↓S1,↓if_pos,↓if_neg,if_pos,if_neg,cY,cF,S2,n1];rw[Ub (d:=l[k]) hx];simp only[ae,bG,abH,hp,eY,aj]
  ·left;refine⟨(l,l.length,((k+1:Nat):Int)),⟨hl,hb,rfl,k+1,au,rfl⟩,by simp only[aa];omega,?_,λkn kx=> ?_⟩
   ·simp only[jL,mF,aa,hd,hp,cY]
   ·rw[zN];simp(disch:=omega) only[↓S1,↓if_pos,↓if_neg,if_pos,if_neg,cY,cF,S2,n1];rw[Ub (d:=l[k]) hx];simp only[ae,bG,abH,hp,cG,al]
 ·right;obtain rfl:k=l.length:=au;refine⟨vh (),?_,λkn kx=> ?_⟩
  ·simp only[jL,mF,aa,aU];rfl
  ·rw[zN];simp(disch:=omega) only[↓S1,↓if_pos,↓if_neg,if_pos,if_neg,cY,cF,S2]
theorem aqQ:wF.Ok:=by rintro l ⟨hl,hb⟩;rw[aqP,XI (d:=(l,l.length,0)) ⟨hl,hb,rfl,0,au,rfl⟩];simp only[ae,jL,mF,bo,aQ,bG,Vi,alL];cases xd l 0 <;> rfl
theorem akr:wF.RS:=rE [.d tU] wF
def aqR:=wF.gf aqQ 1 ⟨.gA aci,trivial⟩
def XG:Bs->Prop:=λl=>Ec l/\l.length<=1000000000
def QE:Bs->Bool:=λl=> !(l.all B5)
def uC:Fs Tryz.prog XG bG QE:=fV 61 Tryz.f61 (λsv=>([.d tU sv,.fn 59 (.nil)],[])) (λx=>⟨.d .bool x,[],[]⟩) [ao tU,aJ] [aqR]
theorem aca(sv)(k:K1 R):uC.A sv k=aq (wF.call sv) λx1=>k (uC.out (Bp x1 0)):=cM
theorem acb:uC.Ok:=by rintro l ⟨hl,hb⟩;rw[aca,akr (d:=l) ⟨hl,hb⟩];simp only[ae,bG,Vi,an1];rfl
theorem XH:uC.RS:=rE [.d tU] uC
def acd:=uC.gf acb
def afR:Int->Prop:=λ_=>True
def Oz:Int->Bool:=λn=>On n
def xZ:Fs Tryz.prog afR bG Oz:=fV 62 Tryz.f62 (λn=>([.d ti n],[])) (λx=>⟨.d .bool x,[],[]⟩) [ao ti]
theorem ajK(n)(k:K1 R):xZ.A n k=aS (Bp n 0) (k (xZ.out (adB n 1048576))) (k (xZ.out aR)):=cM
theorem ajL:xZ.Ok:=by
 intro n _;rw[ajK];simp only[bG,Oz,On];by_cases h:0<=n
 ·rw[gM h,aj];by_cases h2:n<=1048576
  ·rw[oO h2,ba ⟨h,h2⟩]
  ·rw[mg h2,bE (λx=>h2 x.2)]
 ·rw[eT h,al,bE (λx=>h x.1)]
theorem Qf:xZ.RS:=rE [.d ti] xZ
def ajM:=xZ.gf ajL
abbrev vW:=Lk×(List ud)×Int×Int
def lr:vW->AS:=λ(El,t7,t8,t9)=>⟨([cq,.eI ah7 El,cq,.fn 59 (.nil),cq,cq,cq,.d (.slice sH) t7,.d ti t8,.d ti t9]++bf 47 []),[],(ai 57 [])⟩
def fj:Unit->Exit×AS:=λx=>(.ret,⟨([cq,cq,.d .bool aR]++bf 54 []),[],(ai 57 [])⟩)
def vc:Lk->Exit×AS:=λx=>(.exit 0,⟨([cq,.eI ah7 x]++bf 55 []),[],(ai 57 [])⟩)
abbrev FA:=(Unit)⊕(Lk)
abbrev Qk:=(Unit)⊕(Unit)
def Bv:FA->Out (Exit×AS):=λx=> .br x.isLeft (.get x.getLeft? λa=> .ok (fj a)) (.get x.getRight? λb=> .ok (vc b))
def jJ:vW->Qk->FA:=λ(El,t7,t8,t9) y=>match y with | .inl y=> .inl y | .inr z=> .inr (El)
def u9:vW->Prop:=λ(l,bs,n,i)=>(∀b∈bs,aB5 b)/\bs.length<=9223372036854775807/\n=bs.length/\∃k:Nat,k<=bs.length/\i=k
def mD:vW->Qk:=λ(l,bs,n,i)=>if(bs.drop i.toNat).all EI then .inr () else .inl ()
def ajO:Lk->Prop:=λl=>alF l/\l.1.length<=9223372036854775807
def Cq:Lk->Bool:=λl=>nT l
def Qj:=dW.gA lr u9 jJ mD Bv
def FB:vW->Option FA:=iI Qj lr
def oV:Fs Tryz.prog ajO bG Cq:=fV 26 Tryz.f26 (λl=>([.d ah7 l],[])) (λx=>⟨.d .bool x,[],[]⟩) [ao ah7] [acd,ajM,amF] {loops:=so [(3,{bp:=[1,3,7,8,9]})],outs:=sm [(3,{bp:=[1]},{bp:=[2]})],gS:=tt [(3,Qj)]}
def Fz:= @fh Tryz.prog (lU oV.G) oV.an 0 Tryz.f26 0 _ lr
abbrev Ma:=mn Tryz.prog (lU oV.G) oV.an 0 Tryz.f26 0 lr u9 jJ mD Bv
theorem Xu:kC FB u9 jJ mD:=og (na [.d ah7,.d (.slice sH),.d ti,.d ti] λ_=>cM)
theorem JN:qp @Fz lr u9 jJ mD Bv Ma:=rA
theorem FC(El t7 t8 t9)(kn:K2 R)(kx:K3 R):Fz (El,t7,t8,t9) kn kx=aS (gY t9 t8) (aS (gI t9 (((ag t7):Nat):Int)) (aS (Ak (((ag (nth sH t7 (ab t9)).1):Nat):Int) (12:Int)) (kx (fj ()).1 (fj ()).2) (aq (uC.call (nth sH t7 (ab t9)).1) λx1=>aS (x1) (kx (fj ()).1 (fj ()).2) (aq (xZ.call (nth sH t7 (ab t9)).2.1) λx2=>aS (!x2) (kx (fj ()).1 (fj ()).2) (aq (xZ.call (nth sH t7 (ab t9)).2.2.1) λx3=>aS (!x3) (kx (fj ()).1 (fj ()).2) (aS (JE (nth sH t7 (ab t9)).2.2.2.1 (0:Int)) (aq (afQ.call (nth sH t7 (ab t9)).2.2.2.1) λx4=>aS (x4) (kx (fj ()).1 (fj ()).2) (kn (lr (El,t7,t8,(bT .i64 t9 (1:Int)))))) (kn (lr (El,t7,t8,(bT .i64 t9 (1:Int)))))))))) aJ) (kx (vc El).1 (vc El).2):=cM
theorem ap4(l)(k:K1 R):oV.A l k=aq (FB (l,l.1,(l.1.length:Int),0)) λx5=>aS x5.isLeft (aq x5.getLeft? λa6=>k (oV.out aR)) (aq x5.getRight? λb7=>aS (Ak (b7.1.length:Int) 0) (k (oV.out (adB (b7.1.length:Int) 4))) (k (oV.out aR))):=cM
theorem abS:Ma:=by
 refine JN (λ(l,bs,n,i)=>bs.length - i.toNat) ?_
 rintro⟨l,bs,n,i⟩ ⟨hl,hb,rfl,k,hk,rfl⟩;have hb:bs.length<=9223372036854775807:=hb;have hk:k<=bs.length:=hk;by_cases h:k < bs.length
 ·have hx:aB5 bs[k]:=hl _ (aV h);have n1:nth (.pair (.slice (.int .u64)) (.pair (.int .i64) (.pair (.int .i64) (.pair (.int .u64) .unit)))) bs k=bs[k]:=da (t:=(.pair (.slice (.int .u64)) (.pair (.int .i64) (.pair (.int .i64) (.pair (.int .u64) .unit))))) h;have hd:(bs.drop k).all EI=(EI bs[k] && (bs.drop (k+1)).all EI):=by rw[aC h,iT]
  have step:∀ {R:Type} (kn:AS->Option R) (kx:Exit->AS->Option R),Fz (l,bs,(bs.length:Int),(k:Int)) kn kx=aS (EI bs[k]) (kn (lr (l,bs,(bs.length:Int),((k+1:Nat):Int)))) (kx (fj ()).1 (fj ()).2):=by
   intro R kn kx;rw[FC,bm au,bz au au,aa,n1,N.nV au];obtain⟨⟨ks,af,dl,sc,u⟩,aGd⟩:∃b,bs[k]=b:=⟨_,rfl⟩;rw[aGd]at hx ⊢;have h1:Ec ks:=hx.1;have h2:ou sc:=hx.2;simp only[aj,EI];by_cases hk:ks.length<=12
   ·rw[du au,XH (d:=ks) ⟨h1,au⟩,Qf (d:=af) trivial,Qf (d:=dl) trivial,Ub (d:=sc) h2,ba hk];simp only[al,ae,bG,QE,bG,Oz,bG,abH,cD];cases ks.all B5
    ·rfl
    cases On af
    ·rfl
    cases On dl
    ·rfl
    by_cases hs:sc=0
    ·rw[eU hs,ba hs];rfl
    ·rw[gZ hs,bE hs];cases B5 sc <;> rfl
   ·rw[dT au,bE hk];rfl
  cases hp:EI bs[k]
  ·right;refine⟨fj (),?_,λkn kx=> ?_⟩
   ·simp only[jJ,mD,aa,hd,hp,ff,bR,cF];rfl
   ·rw[step,hp,al]
  ·left;refine⟨(l,bs,bs.length,((k+1:Nat):Int)),⟨hl,hb,rfl,k+1,au,rfl⟩,by simp only[aa];omega,?_,λkn kx=> ?_⟩
   ·simp only[jJ,mD,aa,hd,hp,cD]
   ·rw[step,hp,aj]
 ·right;obtain rfl:k=bs.length:=au;refine⟨vc l,?_,λkn kx=> ?_⟩
  ·simp only[jJ,mD,aa,aU];rfl
  ·rw[FC];simp(disch:=omega) only[↓S1,↓if_pos,↓if_neg,if_pos,if_neg,cY,cF,S2]
theorem ap5:oV.Ok:=by
 rintro l ⟨hl,hb⟩;have hb:l.1.length<=9223372036854775807:=hb;rw[ap4,Xu (d:=(l,l.1,l.1.length,0)) ⟨hl,hb,rfl,0,au,rfl⟩];simp only[ae,jJ,mD,bo,aQ,bG,Cq,nT];cases l.1.all EI
 ·rfl
 ·simp only[cY,cD];show aS (Ak _ _) _ _=_;by_cases h0:0 < l.1.length
  ·rw[dT au];by_cases h4:l.1.length<=4
   ·rw[oO au,ba ⟨h0,h4⟩];rfl
   ·rw[mg au,bE (λx=>h4 x.2)];rfl
  ·rw[du au,bE (λx=>h0 x.1)];rfl
theorem zC:oV.RS:=rE [.d ah7] oV
def Cr:=oV.gf ap5 1 ⟨.gA abS,trivial⟩
def wU(m:List Int):List Int->List Sg->Bool
 |[],_=>aT
 |p::ps,ss=>ze p m 1 (ss.headD (0,0,())) && wU m ps ss.tail
def Cv(l:Lk)(w:RT)(m:List Int)(height age:Int):Int:=
 if nT l=aR\/w.1 < 0\/w.1>=l.1.length then 1
 else
  let b:=nth (.pair (.slice (.int .u64)) (.pair (.int .i64) (.pair (.int .i64) (.pair (.int .u64) .unit)))) l.1 w.1.toNat
  if height < b.2.1\/age < b.2.2.1 then 11
  else if b.2.2.2.1≠0/\gw w.2.2.1≠b.2.2.2.1 then 23
  else if w.2.1.length≠b.1.length then 7
  else if wU m b.1 w.2.1 then 0 else 7
theorem asg(m:List Int)(ks:List Int)(ss:List Sg)(h:ss.length=ks.length)(k:Nat)(hk:k < ks.length):wU m (ks.drop k) (ss.drop k)=(ze ks[k] m 1 (ss[k]'(au)) && wU m (ks.drop (k+1)) (ss.drop (k+1))):=by rw[aC hk,aC (by omega:k < ss.length)];rfl
def Su(w:RT):Prop:=(∀s∈w.2.1,aC6 s)/\ou w.2.2.1
abbrev zz:=RT×Bs×Bs×Int×Int
def oT:zz->AS:=λ(alA,amN,t68,t69,t70)=>⟨(bf 6 ([.eI ayU alA,.eI tH amN]++bf 60 ([.d tU t68,.d ti t69,.d ti t70]++bf 14 []))),[],(ai 85 [])⟩
def pQ:Unit->Exit×AS:=λx=>(.ret,⟨(bf 10 ([.d ti (7:Int)]++bf 74 [])),[],(ai 85 [])⟩)
def yd:Unit->Exit×AS:=λx=>(.exit 1,⟨(bf 85 []),[],(ai 85 [])⟩)
abbrev JL:=(Unit)⊕(Unit)
abbrev Uk:=(Unit)⊕(Unit)
def Dz:JL->Out (Exit×AS):=λx=> .br x.isLeft (.get x.getLeft? λa=> .ok (pQ a)) (.get x.getRight? λb=> .ok (yd b))
def lq:zz->Uk->JL:=λ(alA,amN,t68,t69,t70) y=>match y with | .inl y=> .inl y | .inr z=> .inr (z)
abbrev amJ:=Lk×RT×Bs×Int×Int
def yc:zz->Prop:=λ(w,m,ks,n,i)=>Su w/\Sm m/\Ec ks/\ks.length<=1000000000/\w.2.1.length=ks.length/\n=ks.length/\∃k:Nat,k<=ks.length/\i=k
def oS:zz->Uk:=λ(w,m,ks,n,i)=>if wU m (ks.drop i.toNat) (w.2.1.drop i.toNat) then .inr () else .inl ()
def ap0:amJ->Prop:=λ(l,w,m,h,a)=>alF l/\l.1.length<=9223372036854775807/\Su w/\Sm m
def abL:amJ->Int:=λ(l,w,m,h,a)=>Cv l w m h a
def Uj:=dW.gA oT yc lq oS Dz
def u7:zz->Option JL:=iI Uj oT
def mC:Fs Tryz.prog ap0 bG abL:=fV 112 Tryz.f112 (λ(l,wv,m,height,age)=>([.d ah7 l,.d ayU wv,.d tH m,.d ti height,.d ti age],[])) (λx=>⟨.d ti x,[],[]⟩) [ao ah7,ao ayU,ao tH,ao ti,ao ti] [Cr,Mt,alh] {loops:=so [(11,{bp:=[6,7,68,69,70]})],outs:=sm [(11,{},{bp:=[10]})],gS:=tt [(11,Uj)]}
def JK:= @fh Tryz.prog (lU mC.G) mC.an 0 Tryz.f112 0 _ oT
abbrev Qi:=mn Tryz.prog (lU mC.G) mC.an 0 Tryz.f112 0 oT yc lq oS Dz
theorem abM:kC u7 yc lq oS:=og (na [.d ayU,.d tH,.d tU,.d ti,.d ti] λ_=>cM)
theorem L9:qp @JK oT yc lq oS Dz Qi:=rA
theorem H9(alA amN t68 t69 t70)(kn:K2 R)(kx:K3 R):JK (alA,amN,t68,t69,t70) kn kx=aS (gY t70 t69) (aS (gI t70 (((ag t68):Nat):Int)) (aS (gI t70 (((ag alA.2.1):Nat):Int)) (aq (D0.call ((nth tu t68 (ab t70)),amN,(nth No alA.2.1 (ab t70)))) λx1=>aS (!x1) (kx (pQ ()).1 (pQ ()).2) (kn (oT (alA,amN,t68,t69,(bT .i64 t70 (1:Int)))))) aJ) aJ) (kx (yd ()).1 (yd ()).2):=cM
theorem avL(l wv m height age)(k:K1 R):mC.A (l,wv,m,height,age) k=aq (oV.call l) λx1=>aS (!x1) (k (mC.out 1)) (aS (gY wv.1 0) (k (mC.out 1)) (aS (Bp wv.1 (l.1.length:Int)) (k (mC.out 1)) (aS (gI wv.1 (l.1.length:Int)) (aS (gY height (nth sH l.1 (ab wv.1)).2.1) (k (mC.out 11)) (aS (gY age (nth sH l.1 (ab wv.1)).2.2.1) (k (mC.out 11)) (aS (JE (nth sH l.1 (ab wv.1)).2.2.2.1 0) (aq (FP.call wv.2.2.1) λx2=>aS (JE x2 (nth sH l.1 (ab wv.1)).2.2.2.1) (k (mC.out 23)) (aS (JE (wv.2.1.length:Int) (((ag (nth sH l.1 (ab wv.1)).1):Nat):Int)) (k (mC.out 7)) (aq (u7 (wv,m,(nth sH l.1 (ab wv.1)).1,(((ag (nth sH l.1 (ab wv.1)).1):Nat):Int),0)) λx4=>aS x4.isLeft (aq x4.getLeft? λa5=>k (mC.out 7)) (aq x4.getRight? λb6=>k (mC.out 0))))) (aS (JE (wv.2.1.length:Int) (((ag (nth sH l.1 (ab wv.1)).1):Nat):Int)) (k (mC.out 7)) (aq (u7 (wv,m,(nth sH l.1 (ab wv.1)).1,(((ag (nth sH l.1 (ab wv.1)).1):Nat):Int),0)) λx7=>aS x7.isLeft (aq x7.getLeft? λa8=>k (mC.out 7)) (aq x7.getRight? λb9=>k (mC.out 0))))))) aJ))):=cM
theorem afX:Qi:=by
 refine L9 (λ(w,m,ks,n,i)=>ks.length - i.toNat) ?_
 rintro⟨w,m,ks,n,i⟩ ⟨hw,hm,hl,hb,hs,rfl,k,hk,rfl⟩;have hb:ks.length<=1000000000:=hb;have hk:k<=ks.length:=hk;have hs:w.2.1.length=ks.length:=hs;by_cases h:k < ks.length
 ·have hx:=hl _ (aV h);have hy:=hw.1 _ (aV (by omega:k < w.2.1.length));have n1:nth (.int .u64) ks k=ks[k]:=da (t:= .int .u64) h;have n2:nth (.pair (.int .u64) (.pair (.int .u64) .unit)) w.2.1 k=w.2.1[k]'(au):=da (t:=(.pair (.int .u64) (.pair (.int .u64) .unit))) au;have hd:=asg m ks w.2.1 hs k h;have step:∀ {R:Type} (kn:AS->Option R) (kx:Exit->AS->Option R),JK (w,m,ks,(ks.length:Int),(k:Int)) kn kx=aS (ze ks[k] m 1 (w.2.1[k]'(au))) (kn (oT (w,m,ks,(ks.length:Int),((k+1:Nat):Int)))) (kx (pQ ()).1 (pQ ()).2):=by intro R kn kx;rw[H9,bm au,bz au au,bz au au,aa,n1,n2,N.nV au,ahx (d:=(ks[k],m,w.2.1[k]'(au))) ⟨hx,hm,hy⟩];simp only[aj,ae,bG,Z3];cases ze ks[k] m 1 (w.2.1[k]'(au)) <;> rfl
  cases hp:ze ks[k] m 1 (w.2.1[k]'(au))
  ·right;refine⟨pQ (),?_,λkn kx=> ?_⟩
   ·simp only[lq,oS,aa,hd,hp,ff,bR,cF];rfl
   ·rw[step,hp,al]
  ·left;refine⟨(w,m,ks,ks.length,((k+1:Nat):Int)),⟨hw,hm,hl,hb,hs,rfl,k+1,au,rfl⟩,by simp only[aa];omega,?_,λkn kx=> ?_⟩
   ·simp only[lq,oS,aa,hd,hp,cD]
   ·rw[step,hp,aj]
 ·right;obtain rfl:k=ks.length:=au;refine⟨yd (),?_,λkn kx=> ?_⟩
  ·simp only[lq,oS,aa,aU];rfl
  ·rw[H9];simp(disch:=omega) only[↓S1,↓if_pos,↓if_neg,if_pos,if_neg,cY,cF,S2]
theorem apW{l:Lk}(h:nT l=aT){b:ud}(hb:b∈l.1):b.1.length<=12:=by unfold nT at h;rw[av,cS]at h;have:=h.1 b hb;unfold EI at this;rw[av]at this;simpa using this.1
theorem avM:mC.Ok:=by
  rintro⟨l,w,m,h,a⟩ ⟨hl,hb,hw,hm⟩;have hl:alF l:=hl;have hb:l.1.length<=9223372036854775807:=hb;have hw:Su w:=hw;have hm:Sm m:=hm;rw[avL,zC (d:=l) ⟨hl,hb⟩];simp only[ae,bG,Cq,bG,abL,Cv];cases iO:nT l
  · rw[if_pos (lG rfl)];rfl
  by_cases h0:w.1 < 0
  · rw[bm h0,if_pos (fm (lG h0))];rfl
  by_cases h1:w.1>=l.1.length
  · rw[bh h0,gM h1,if_pos (fm (fm h1))];rfl
  rw[bh h0,eT h1,bz au au,if_neg (by simp[h0];omega)];have hn:w.1.toNat < l.1.length:=au;have n1:nth (.pair (.slice (.int .u64)) (.pair (.int .i64) (.pair (.int .i64) (.pair (.int .u64) .unit)))) l.1 w.1.toNat=l.1[w.1.toNat]:=da (t:=(.pair (.slice (.int .u64)) (.pair (.int .i64) (.pair (.int .i64) (.pair (.int .u64) .unit))))) hn;rw[n1];have hx:aB5 l.1[w.1.toNat]:=hl _ (aV hn);have aGB:=apW iO (aV hn);obtain⟨⟨ks,af,dl,sc,u⟩,aGd⟩:∃b,l.1[w.1.toNat]=b:=⟨_,rfl⟩;rw[aGd]at hx aGB ⊢;have aHY:Ec ks:=hx.1;have aGB:ks.length<=12:=aGB;simp only[cG,al,aj];by_cases e1:h < af
  · rw[bm e1,if_pos (lG e1)];rfl
  by_cases e2:a < dl
  · rw[bh e1,bm e2,if_pos (fm e2)];rfl
  rw[bh e1,bh e2,if_neg (by simp[e1,e2]),Cy (d:=w.2.2.1) hw.2];simp only[al,ae,bG,Sj]
  have last:aS (JE ((w.2.1.length:Nat):Int) ((ks.length:Nat):Int)) (ao (mC.out (7:Int))) (
          aq (u7 (w,m,ks,((ks.length:Nat):Int),(0:Int))) λx4=>
          aS (x4.isLeft) (aq (x4.getLeft?) λa5=>ao (mC.out (7:Int))) (aq (x4.getRight?) λb6=>ao (mC.out (0:Int))))=ao (mC.out (if w.2.1.length≠ks.length then 7 else if wU m ks w.2.1 then 0 else 7)):=by
    by_cases e3:w.2.1.length=ks.length
    · rw[eU au,if_neg (by simp[e3]),al,abM (d:=(w,m,ks,ks.length,0)) ⟨hw,hm,aHY,by show ks.length<=1000000000;omega,e3,rfl,0,au,rfl⟩]
      simp only[ae,lq,oS,bo,aQ];cases wU m ks w.2.1 <;> rfl
    · rw[gZ au,if_pos e3];rfl
  by_cases e4:sc=0
  · rw[eU e4,if_neg (by simp[e4]),al]
    exact last
  · rw[gZ e4,aj]
    by_cases e5:gw w.2.2.1=sc
    · rw[eU e5,if_neg (by simp[e5]),al]
      exact last
    · rw[gZ e5,if_pos ⟨e4,e5⟩];rfl
theorem ap1:mC.RS:=rE [.d ah7,.d ayU,.d tB,.d ti,.d ti] mC
def avN:=mC.gf avM 1 ⟨.gA afX,trivial⟩
def an7:Int->Prop:=λn=>∃k:Nat,n=k/\k<=100000000
def alS:Int->(Nat×(List Int)):=λn=>(0,ai n.toNat 0)
def Po:Fs Tryz.prog an7 bG alS:=fV 153 Tryz.f153 (λn=>([.dH,.d ti n],[])) (λx=>⟨.b8 (.new 0 0) 0 [] 0 0 x.1,[],[.obj 0 aR (.vec 5 tb x.2)]⟩) [aJ,ao ti] [] {owns:=[⟨4,[],22,78⟩]}
theorem asU(n)(k:K1 R):Po.A n k=aS (gY n 0) (aJ) (aS (Ak (dL .i64 n 0) 0) (aS (decide (0 < (dL .i64 n 0)) && ea (ab (dL .i64 n 0)) 1) (aS (inc 0 (((ab (dL .i64 n 0)):Nat):Int)) (k (Po.out (0,(ai (ab (dL .i64 n 0)) 0)))) aJ) aJ) (k (Po.out (0,([]:List Int))))):=cM
theorem asV:Po.Ok:=by
 rintro n ⟨k,rfl,hk⟩;have e:dL .i64 (k:Int) 0=(k:Int):=by rw[gz au au];omega
 rw[asU,e,bh au,al];by_cases h:0 < k
 ·rw[dT au,aa,ba au,eW au au,tq au au];rfl
 ·obtain rfl:k=0:=au;rfl
theorem an8:Po.RS:=rE [.d ti] Po
def asW:=Po.gf asV
def tr(l:List (List Int)):Nat:=l.flatten.length
def Xg(n:Nat)(l:List Int):List (List Int)->Nat×List Int
 |[]=>(n,l)
 |s::r=>(n+(s::r).flatten.length,l.take n++(s::r).flatten)
theorem aoF(n:Nat)(l s:List Int)(r:List (List Int))(h:n<=l.length):Xg n l (s::r)=Xg (n+s.length) (l.take n++s) r:=by
 have hl:(l.take n++s).length=n+s.length:=by rw[ak,cT];omega
 cases r with
 |nil=>simp[Xg]
 |cons t r=>
  simp only[Xg];rw[bJ (Nat.le_of_eq hl)];simp only[jm,ak,aO,fF]
theorem azH(n:Nat)(z:List Int)(r:List (List Int)):(Xg 0 z r).1<=(Xg 0 z r).2.length/\cut (Xg 0 z r).2 0 (Xg 0 z r).1=r.flatten:=by
 cases r with
 |nil=>exact⟨aN _,rfl⟩
 |cons s r=>
  simp only[Xg,fg,aY,bg];exact⟨aF _,by show bn _ (bV 0 _)=_;rw[aQ,cJ]⟩
abbrev CZ:=(List Bs)×Int×(List Bs)×Int×Int
def sX:CZ->Int->(((List Bs))×(Int)):=λ(zY,size,t9,t10,t11) y=>(zY,y)
abbrev KE:=Nat×(List Bs)×Int×Int×(List Int)
def EW:CZ->Prop:=λ(s,size,t,n,i)=>s.length<=1000000/\t=s/\n=s.length/\∃k z:Nat,k<=s.length/\i=k/\size=z/\z+tr (s.drop k)<=100000000
def xe:CZ->Int:=λ(s,size,t,n,i)=>((size:Int)+((tr (s.drop i.toNat):Nat):Int):Int)
def EX:KE->Prop:=λ(n,s,t,i,l)=>s.length<=1000000/\n<=l.length/\t=s.length/\∃k:Nat,k<=s.length/\i=k/\n+tr (s.drop k)<=100000000
def xf:KE->(Nat×(List Int)):=λ(n,s,t,i,l)=>Xg n l (s.drop i.toNat)
def adY:(List Bs)->Prop:=λs=>s.length<=1000000/\tr s<=100000000
def NN:(List Bs)->Bs:=λs=>s.flatten
def mO:Ls EW sX xe:=yg (λ(zY,size,t9,t10,t11)=>⟨([.d (.slice tB) zY,cq,cq,.d ti size]++bf 5 ([.d (.slice tB) t9,.d ti t10,.d ti t11]++bf 24 [])),[],(ai 36 [])⟩) (λx=>(.exit 0,⟨([.d (.slice tB) x.1,cq,cq,.d ti x.2]++bf 32 []),[],(ai 36 [])⟩))
def mP:Ls EX bG xf:=yg (λ(newsliceL,t25,t26,t27,n24)=>⟨(bf 6 ([oa 24 newsliceL]++bf 18 ([.d (.slice tB) t25,.d ti t26,.d ti t27]++bf 8 []))),[],(bI 24 ([dG (.vec 5 tb n24)]++bI 11 []))⟩) (λx=>(.exit 2,⟨(bf 6 ([oa 24 x.1]++bf 29 [])),[],(bI 24 ([dG (.vec 5 tb x.2)]++bI 11 []))⟩))
def nW:Fs Tryz.prog adY bG NN:=fV 126 Tryz.f126 (λslices=>([.d (.slice tB) slices],[])) (λx=>⟨.d tB x,[],[]⟩) [ao (.slice tB)] [asW] {loops:=so [(3,{bp:=[0,3,9,10,11]}),(11,{bp:=[6,25,26,27],sites:=[24],owns:=[⟨6,[],24,78⟩]})],outs:=sm [(3,{bp:=[0,3]},{bp:=[2]}),(11,{bp:=[6],sites:=[24]},{bp:=[2]})],gS:=tt [(3,mO.E),(11,mP.E)],res:=[ao tB]}
theorem SD:mO.RS:=rL [.d (.slice tB),.d ti,.d (.slice tB),.d ti,.d ti] mO
theorem Ee(zY size t9 t10 t11)(kn:K2 R)(kx:K3 R):nW.R 0 mO (zY,size,t9,t10,t11) kn kx=aS (gY t11 t10) (aS (gI t11 (t9.length:Int)) (aS (gY (bT .i64 size (((ag (nth tB t9 (ab t11))):Nat):Int)) 0) (aJ) (kn (mO.st (zY,(bT .i64 size (((ag (nth tB t9 (ab t11))):Nat):Int)),t9,t10,(bT .i64 t11 1))))) aJ) (mO.go kx (zY,size)):=cM
theorem SE:mP.RS:=rL [.n,.d (.slice tB),.d ti,.d ti,.d tB] mP
theorem Ef(newsliceL t25 t26 t27 n24)(kn:K2 R)(kx:K3 R):nW.R 1 mP (newsliceL,t25,t26,t27,n24) kn kx=aS (gY t27 t26) (aS (gI t27 (t25.length:Int)) (aS (decide (newsliceL<=(ag n24))) (aS (ea (newsliceL+(ag (nth tB t25 (ab t27)))) 1) (kn (mP.st ((newsliceL+(ag (nth tB t25 (ab t27)))),t25,t26,(bT .i64 t27 1),((bn newsliceL n24)++(nth tB t25 (ab t27)))))) aJ) aJ) aJ) (mP.go kx (newsliceL,n24)):=cM
theorem aik(slices)(k:K1 R):nW.A slices k=aq (mO.call (slices,0,slices,(slices.length:Int),0)) λx1=>aq (Po.call x1.2) λx2=>aq (mP.call (x2.1,x1.1,(x1.1.length:Int),0,x2.2)) λx3=>aS (decide (0=0/\(0+x3.1)<=(ag x3.2))) (k (nW.out (cut x3.2 0 x3.1))) aJ:=cM
theorem amH(s:List (List Int))(k:Nat)(h:k < s.length):tr (s.drop k)=s[k].length+tr (s.drop (k+1)):=by unfold tr;rw[aC h,jm,ak]
theorem Xc:(nW.mM 0 mO):=by
 refine(nW.qG 0 mO) (λ(s,size,t,n,i)=>s.length - i.toNat) ?_
 rintro⟨s,size,t,n,i⟩ ⟨hs,rfl,rfl,k,z,hk,rfl,rfl,hz⟩;have hs:t.length<=1000000:=hs;have hk:k<=t.length:=hk;have hz:z+tr (t.drop k)<=100000000:=hz;by_cases h:k < t.length
 ·left;have n1:nth (.slice (.int .u8)) t k=t[k]:=da (t:= .slice (.int .u8)) h;have hd:=amH t k h;refine⟨(t,((z+t[k].length:Nat):Int),t,t.length,((k+1:Nat):Int)),⟨hs,rfl,rfl,k+1,z+t[k].length,au,rfl,rfl,au⟩,by simp only[aa];omega,?_,λkn kx=> ?_⟩
  ·simp only[sX,xe,aa];rw[hd];refine bD _ ?_
   omega
  ·rw[Ee];simp(disch:=omega) only[↓S1,↓if_pos,↓if_neg,if_pos,if_neg,cY,cF,S2,n1]
 ·right;obtain rfl:k=t.length:=au;intro R kn kx;rw[Ee];simp(disch:=omega) only[↓S1,↓if_pos,↓if_neg,if_pos,if_neg,cY,cF,S2,sX,xe,aU];simp only[tr,pA,bB,Int.natCast_zero,Int.add_zero]
theorem Xd:(nW.mM 1 mP):=by
 refine(nW.qG 1 mP) (λ(n,s,t,i,l)=>s.length - i.toNat) ?_
 rintro⟨n,s,t,i,l⟩ ⟨hs,hn,rfl,k,hk,rfl,hz⟩;have hs:s.length<=1000000:=hs;have hn:n<=l.length:=hn;have hk:k<=s.length:=hk;have hz:n+tr (s.drop k)<=100000000:=hz;by_cases h:k < s.length
 ·left;have n1:nth (.slice (.int .u8)) s k=s[k]:=da (t:= .slice (.int .u8)) h;have hd:=amH s k h;refine⟨(n+s[k].length,s,s.length,((k+1:Nat):Int),l.take n++s[k]),⟨hs,by rw[ak,cT];omega,rfl,k+1,au,rfl,au⟩,by simp only[aa];omega,?_,λkn kx=> ?_⟩
  ·simp only[bG,xf,aa];rw[aC h,aoF _ _ _ _ hn]
  ·rw[Ef];simp(disch:=omega) only[↓S1,↓if_pos,↓if_neg,if_pos,if_neg,cY,cF,S2,n1]
 ·right;obtain rfl:k=s.length:=au;intro R kn kx;rw[Ef];simp(disch:=omega) only[↓S1,↓if_pos,↓if_neg,if_pos,if_neg,cY,cF,S2,bG,xf,aU];rfl
theorem ail:nW.Ok:=by rintro s ⟨hs,hz⟩;have hs:s.length<=1000000:=hs;have hz:tr s<=100000000:=hz;have p1:EW (s,0,s,s.length,0):=⟨hs,rfl,rfl,0,0,au,rfl,rfl,by rw[aQ];omega⟩;have p2:EX (0,s,s.length,0,ai (tr s) 0):=⟨hs,au,rfl,0,au,rfl,by rw[aQ];omega⟩;rw[aik,SD p1];simp only[ae,sX,xe,bo,aQ,Int.zero_add];rw[an8 (d:=((tr s:Nat):Int)) ⟨tr s,rfl,hz⟩];simp only[ae,bG,alS,aa];rw[SE p2];simp only[ae,bG,xf,bo,aQ];obtain⟨c1,c2⟩:=azH 0 (ai (tr s) 0) s;simp only[bg,c1,kf,cV,aj,c2];rfl
theorem Pm:nW.RS:=rE [.d (.slice tB)] nW
def SF:=nW.gf ail 2 ⟨.gA Xc,⟨.gA Xd,trivial⟩⟩
def YH:(Bs×Bs)->Prop:=λ(a,b)=>a.length+b.length<=100000000
def aaA:(Bs×Bs)->Bs:=λ(a,b)=>a++b
def E7:Fs Tryz.prog YH bG aaA:=fV 96 Tryz.f96 (λ(b,more)=>([.d tB b,.d tB more],[])) (λx=>⟨.d tB x,[],[]⟩) [ao tB,ao tB] [SF]
theorem atv(b more)(k:K1 R):E7.A (b,more) k=aq (nW.call [b,more]) λx1=>k (E7.out x1):=cM
theorem atw:E7.Ok:=by rintro⟨a,b⟩ h;have h:a.length+b.length<=100000000:=h;rw[atv,Pm (d:=[a,b]) ⟨by show [a,b].length<=_;simp,by show tr [a,b]<=_;simp only[tr,jm,pA,bP,ak];omega⟩];simp only[ae,bG,NN,bG,aaA,jm,pA,bP]
theorem G3:E7.RS:=rE [.d tB,.d tB] E7
def SZ:=E7.gf atw
def gD:Nat->Int->List Int×Int
 | 0,n=>([],n)
 |f+1,n=>if 128<=n then((n%128+128)::(gD f (n / 128)).1,(gD f (n / 128)).2) else([],n)
def iE(n:Int):List Int:=(gD 10 n).1++ [(gD 10 n).2]
theorem Hq:∀(f g:Nat) (n:Int),n < 128^(f+1)->n < 128^(g+1)->gD f n=gD g n
 | 0,0,n,_,_=>rfl
 | 0,g+1,n,h,_=>by have h:n < 128:=h;rw[gD,gD,if_neg au]
 |f+1,0,n,_,h=>by have h:n < 128:=h;rw[gD,gD,if_neg au]
 |f+1,g+1,n,h,h'=>by
  rw[gD,gD];split
  ·have e:(128:Int)^(f+1+1)=128^(f+1)*128:=fY 128 (f+1);have e':(128:Int)^(g+1+1)=128^(g+1)*128:=fY 128 (g+1);rw[Hq f g (n / 128) au au]
  ·rfl
theorem V3:∀(f:Nat) (n:Int),(gD f n).1.length<=f
 | 0,_=>aF _
 |f+1,n=>by
  rw[gD];split
  ·have:=V3 f (n / 128);simp only[aH];omega
  ·exact aN _
theorem ZT:∀(f:Nat) (n:Int),0<=n->n < 128^(f+1)->0<=(gD f n).2/\(gD f n).2 < 128
 | 0,n,h,h'=>by have h':n < 128:=h';exact⟨h,h'⟩
 |f+1,n,h,h'=>by
  rw[gD];have e:(128:Int)^(f+1+1)=128^(f+1)*128:=fY 128 (f+1);split
  ·exact ZT f (n / 128) au au
  ·exact⟨h,au⟩
theorem art{n:Int}(h:128<=n)(h2:n<=9223372036854775807):gD 10 n=((n%128+128)::(gD 10 (n / 128)).1,(gD 10 (n / 128)).2):=by have e:(128:Int)^(9+1)=1180591620717411303424:=rfl;have e2:(128:Int)^(10+1)=151115727451828646838272:=rfl;rw[gD,if_pos h,Hq 9 10 (n / 128) (by rw[e];omega) (by rw[e2];omega)]
theorem nE(n:Int):(iE n).length<=11:=by have:=V3 10 n;unfold iE;simp only[ak,aH,bB];omega
def EH(n:Int):Prop:=0<=n/\n<=9223372036854775807
abbrev YN:=Int×Nat×(List Int)
def PJ:YN->Prop:=λ(n,m,l)=>EH n/\m=l.length/\l.length<=1000+0*n.toNat/\l.length+(gD 10 n).1.length<=100
def G5:YN->(Int×Nat×(List Int)):=λ(n,m,l)=>((gD 10 n).2,(l++(gD 10 n).1).length,l++(gD 10 n).1)
def at1:Int->Prop:=λn=>EH n
def aiX:Int->Bs:=λn=>iE n
def xr:Ls PJ bG G5:=yg (λ(CU,outL,n14)=>⟨([.d ti CU,cq,cq,oa 14 outL]++bf 16 []),[],(bI 14 ([dG (.vec 5 tb n14)]++bI 5 []))⟩) (λx=>(.exit 0,⟨([.d ti x.1,cq,cq,oa 14 x.2.1]++bf 16 []),[],(bI 14 ([dG (.vec 5 tb x.2.2)]++bI 5 []))⟩))
def S9:Fs Tryz.prog at1 bG aiX:=fV 97 Tryz.f97 (λn=>([.d ti n],[])) (λx=>⟨.d tB x,[],[]⟩) [ao ti] [] {loops:=so [(2,{bp:=[0,3],sites:=[14],owns:=[⟨3,[],14,78⟩]})],outs:=sm [(2,{bp:=[0,3],sites:=[14]},{bp:=[2]})],gS:=tt [(2,xr.E)],res:=[ao tB]}
theorem aeH:xr.RS:=rL [.d ti,.n,.d tB] xr
theorem Lb(CU outL n14)(kn:K2 R)(kx:K3 R):S9.R 0 xr (CU,outL,n14) kn kx=aS (Bp CU 128) (aS (decide (outL<=(ag n14))) (aS (ea (outL+1) 1) (kn (xr.st ((Bq .i64 CU 128),(outL+1),((bn outL n14)++ [(eD .u8 (bT .i64 (ur CU 128) 128))])))) aJ) aJ) (xr.go kx (CU,outL,n14)):=cM
theorem azF(n)(k:K1 R):S9.A n k=aq (xr.call (n,0,([]:List Int))) λx1=>aS (decide (x1.2.1<=(ag x1.2.2))) (aS (ea (x1.2.1+1) 1) (aS (decide (0=0/\(0+(x1.2.1+1))<=(ag ((bn x1.2.1 x1.2.2)++ [(eD .u8 x1.1)])))) (k (S9.out (cut ((bn x1.2.1 x1.2.2)++ [(eD .u8 x1.1)]) 0 (x1.2.1+1)))) aJ) aJ) aJ:=cM
theorem aul{n:Int}(h:EH n):eD .u8 (bT .i64 (ur n 128) 128)=n%128+128:=by have h1:=h.1;rw[Hh h.1,gX au au,aby,mm];omega
theorem aiY:(S9.mM 0 xr):=by
 refine(S9.qG 0 xr) (λ(n,m,l)=>n.toNat) ?_
 rintro⟨n,m,l⟩ ⟨hn,rfl,hl,hz⟩;have hn:EH n:=hn;have hz:l.length+(gD 10 n).1.length<=100:=hz;have h1:=hn.1;have h2:=hn.2;by_cases h:128<=n
 ·left;have e:=art h h2;have hq:Bq .i64 n 128=n / 128:=by rw[Bq,ke h1];exact tp au au
  have el:((n%128+128)::(gD 10 (n / 128)).1).length=(gD 10 (n / 128)).1.length+1:=aH;rw[e]at hz;have hz:l.length+((n%128+128)::(gD 10 (n / 128)).1).length<=100:=hz;rw[el]at hz;refine⟨(n / 128,l.length+1,l++ [n%128+128]),⟨⟨au,au⟩,by rw[ak];rfl,by rw[ak];simp only[aH,bB];omega,by rw[ak];simp only[aH,bB];omega⟩,by simp only[];omega,?_,λkn kx=> ?_⟩
  ·simp only[bG,G5,e,aO,List.cons_append,aY]
  ·rw[Lb,gM h,aul hn,hq];simp(disch:=omega) only[↓S1,↓if_pos,↓if_neg,if_pos,if_neg,cY,cF,S2,aF,cJ]
 ·right;have e:gD 10 n=([],n):=by rw[gD,if_neg h]
  intro R kn kx;rw[Lb,eT h];simp only[al,bG,G5,e,bP]
theorem azG:S9.Ok:=by
 intro n hn;have hn:EH n:=hn;have hl:=V3 10 n;have e2:(128:Int)^(10+1)=151115727451828646838272:=rfl;have hd:=ZT 10 n hn.1 (by have:=hn.2;rw[e2];omega);have p:PJ (n,0,[]):=⟨hn,rfl,by simp,by simp only[bB];omega⟩;have hi:eD .u8 (gD 10 n).2=(gD 10 n).2:=by rw[aby,mm];omega
 rw[azF,aeH p];simp only[ae,bG,G5,aY,hi,cJ,aF,cV,aj];rw[eW au au];simp only[aj,bg,ak,aH,bB,aF,kf,cV];rw[fA (by rw[ak];rfl)];rfl
theorem aeI:S9.RS:=rE [.d ti] S9
def al8:=S9.gf azG 1 ⟨.gA aiY,trivial⟩
def dX(b:List Int)(n:Int):List Int:=if n < 0 then b else b++iE n
theorem fE(b:List Int)(n:Int):(dX b n).length<=b.length+11:=by
 unfold dX;have:=nE n;split
 ·omega
 ·rw[ak];omega
def atT:(Bs×Int)->Prop:=λ(b,n)=>b.length<=90000000/\n<=9223372036854775807
def oC:(Bs×Int)->Bs:=λ(b,n)=>dX b n
def zg:Fs Tryz.prog atT bG oC:=fV 57 Tryz.f57 (λ(b,n)=>([.d tB b,.d ti n],[])) (λx=>⟨.d tB x,[],[]⟩) [ao tB,ao ti] [SZ,al8]
theorem azD(b n)(k:K1 R):zg.A (b,n) k=aS (gY n 0) (aq (E7.call (b,([]:List Int))) λx1=>k (zg.out x1)) (aq (S9.call n) λx2=>aq (E7.call (b,x2)) λx3=>k (zg.out x3)):=cM
theorem azE:zg.Ok:=by
 rintro⟨b,n⟩ ⟨hb,hn⟩;have hb:b.length<=90000000:=hb;have hn:n<=9223372036854775807:=hn;rw[azD];simp only[bG,oC,dX];by_cases h:n < 0
 ·rw[bm h,if_pos h,aj,G3 (d:=(b,[])) (by show b.length+([]:List Int).length<=_;simp only[bB];omega)];simp only[ae,bG,aaA,bP]
 ·have hl:=nE n;rw[bh h,if_neg h,al,aeI (d:=n) ⟨au,hn⟩];simp only[ae,bG,aiX];rw[G3 (d:=(b,iE n)) (by show b.length+(iE n).length<=_;omega)];rfl
theorem ju:zg.RS:=rE [.d tB,.d ti] zg
def RZ:=zg.gf azE
def aoY:(Bs×Int)->Prop:=λ(b,n)=>b.length<=90000000
def La:(Bs×Int)->Bs:=λ(b,n)=>b++mq n
def Fe:Fs Tryz.prog aoY bG La:=fV 127 Tryz.f127 (λ(b,n)=>([.d tB b,.d tu n],[])) (λx=>⟨.d tB x,[],[]⟩) [ao tB,ao tu] [SZ] {loops:=so [(3,{bp:=[0,1,5,7],sites:=[5,21]})],outs:=sm [(3,{bp:=[0,5],sites:=[5,21]},{bp:=[4],sites:=[5,21]})]} 12
theorem atZ(b n)(k:K1 R):Fe.A (b,n) k=aq (E7.call (b,[(eD .u8 (cW .u64 n 56)),(eD .u8 (cW .u64 n 48)),(eD .u8 (cW .u64 n 40)),(eD .u8 (cW .u64 n 32)),(eD .u8 (cW .u64 n 24)),(eD .u8 (cW .u64 n 16)),(eD .u8 (cW .u64 n 8)),(eD .u8 (cW .u64 n 0))])) λx1=>k (Fe.out x1):=cM
theorem at0:Fe.Ok:=by
 rintro⟨b,n⟩ hb;have hb:b.length<=90000000:=hb;have p:YH (b,mq n):=by show b.length+(mq n).length<=_;rw[dA];omega
 have e:E7.call (b,[eD .u8 (cW .u64 n 56),eD .u8 (cW .u64 n 48),eD .u8 (cW .u64 n 40),eD .u8 (cW .u64 n 32),eD .u8 (cW .u64 n 24),eD .u8 (cW .u64 n 16),eD .u8 (cW .u64 n 8),eD .u8 (cW .u64 n 0)])=ao (b++mq n):=by rw[adZ];exact G3 p
 rw[atZ];refine Eq.trans (bD (λx=>aq x _) e) ?_
 rfl
theorem Cg:Fe.RS:=rE [.d tB,.d tu] Fe
def aeG:=Fe.gf at0 1 ⟨.none cM,trivial⟩
def EF(w:RT):Bool:=decide (0<=w.1/\w.1 < 4) && decide (w.2.1.length<=12)
def TV(x:j9):Bool:=decide (0<=x.1.2.1/\x.1.2.1 < 64) && EF x.2.1
def P3(m:List (cw×Bool))(x:j9):Bool:=(cd bM x.1 m).getD aR
def EN:List (cw×Bool)->List j9->Bool
 |_,[]=>aT
 |m,x::l=>(!(P3 m x) && TV x) && EN (e7 bM x.1 aT m) l
def Fa(a:Int):Bool:=decide (0<=a/\a<=1125899906842624)
def qu(a b:Int):Bool:=Fa a && (Fa b && decide (a+b<=1125899906842624))
def Bz:Int->List lT->Bool
 |_,[]=>aT
 |s,o::l=>(qu s o.1 && nT o.2.1) && Bz (s+o.1) l
def adg(t:dM):Bool:=decide (1<=t.1.length/\t.1.length<=64/\t.2.1.length<=64/\0<=t.2.2.1)
def iF(t:dM):Bool:=adg t && (EN [] t.1 && Bz 0 t.2.1)
def aC5(l:Lk):Prop:=alF l/\l.1.length<=9223372036854775807
def aFP(t:dM):Prop:=(∀o∈t.2.1,aC5 o.2.1)/\t.1.length<=9223372036854775807/\t.2.1.length<=9223372036854775807
def ays:RT->Prop:=λ_=>True
def adf:RT->Bool:=λw=>EF w
def Yg:Fs Tryz.prog ays bG adf:=fV 79 Tryz.f79 (λwv=>([.d ayU wv],[])) (λx=>⟨.d .bool x,[],[]⟩) [ao ayU]
theorem aBN(wv)(k:K1 R):Yg.A wv k=aS (Bp wv.1 0) (aS (gY wv.1 4) (k (Yg.out (adB (wv.2.1.length:Int) 12))) (k (Yg.out aR))) (k (Yg.out aR)):=cM
theorem aBO:Yg.Ok:=by
 rintro⟨b,ss,sc,u⟩ _;rw[aBN];simp only[bG,adf,EF];by_cases h:0<=b
 ·rw[gM h,aj];by_cases h2:b < 4
  ·rw[bm h2,aj,ba ⟨h,h2⟩];by_cases h3:ss.length<=12
   ·rw[oO au,ba h3];rfl
   ·rw[mg au,bE h3];rfl
  ·rw[bh h2,al,bE (λx=>h2 x.2)];rfl
 ·rw[eT h,al,bE (λx=>h x.1)];rfl
theorem ahO:Yg.RS:=rE [.d ayU] Yg
def anE:=Yg.gf aBO
def aj2:Int->Prop:=λ_=>True
def US:Int->Bool:=λa=>Fa a
def DF:Fs Tryz.prog aj2 bG US:=fV 122 Tryz.f122 (λa=>([.d ti a],[])) (λx=>⟨.d .bool x,[],[]⟩) [ao ti]
theorem aqg(a)(k:K1 R):DF.A a k=aS (Bp a 0) (k (DF.out (adB a 1125899906842624))) (k (DF.out aR)):=cM
theorem aqh:DF.Ok:=by
 intro(a:Int) _;rw[aqg];simp only[bG,US,Fa];by_cases h:0<=a
 ·rw[gM h,aj];by_cases h2:a<=1125899906842624
  ·rw[oO h2,ba ⟨h,h2⟩]
  ·rw[mg h2,bE (λx=>h2 x.2)]
 ·rw[eT h,al,bE (λx=>h x.1)]
theorem UT:DF.RS:=rE [.d ti] DF
def aqi:=DF.gf aqh
def av2:(Int×Int)->Prop:=λ_=>True
def aj1:(Int×Int)->(Int×Bool):=λ(a,b)=>(bif qu a b then a+b else 0,qu a b)
def XA:Fs Tryz.prog av2 bG aj1:=fV 83 Tryz.f83 (λ(a,b)=>([.d ti a,.d ti b],[])) (λx=>⟨.cons (.d ti x.1) (.cons (.d .bool x.2) (.nil)),[],[]⟩) [ao ti,ao ti] [aqi]
theorem aAI(a b)(k:K1 R):XA.A (a,b) k=aq (DF.call a) λx1=>aS (!x1) (k (XA.out (0,aR))) (aq (DF.call b) λx2=>aS (!x2) (k (XA.out (0,aR))) (aS (Ak a (dL .i64 1125899906842624 b)) (k (XA.out (0,aR))) (k (XA.out ((bT .i64 a b),aT))))):=cM
theorem aAJ:XA.Ok:=by
 rintro⟨a,b⟩ _;rw[aAI,UT (d:=a) trivial,UT (d:=b) trivial];simp only[ae,bG,US,bG,aj1,qu];cases ha:Fa a
 ·rfl
 ·cases hb:Fa b
  ·rfl
  ·simp only[Fa,aW]at ha hb;simp only[cG,al,cD];rw[gz au au];by_cases h:a+b<=1125899906842624
   ·rw[du au,al,ba h,gX au au];rfl
   ·rw[dT au,aj,bE h];rfl
theorem av3:XA.RS:=rE [.d ti,.d ti] XA
def aAK:=XA.gf aAJ
abbrev wu:=dM×(List j9)×Int×Int×(List (cw×Bool))
def nk:wu->AS:=λ(oc,t33,t34,t35,n31)=>⟨([cq,.eI ee oc,cq,.cO (.new 31 0) 0]++bf 29 ([.d (.slice gB) t33,.d ti t34,.d ti t35]++bf 52 [])),[],(bI 31 ([dG (.mp bM .bool n31)]++bI 56 []))⟩
def fW:Unit->Exit×AS:=λx=>(.ret,⟨([cq,cq,.d .bool aR]++bf 85 []),[],(ai 88 [])⟩)
def vF:dM->Exit×AS:=λx=>(.exit 0,⟨([cq,.eI ee x]++bf 86 []),[],(ai 88 [])⟩)
abbrev GD:=(Unit)⊕(dM)
abbrev Rg:=(Unit)⊕(Unit)
def BW:GD->Out (Exit×AS):=λx=> .br x.isLeft (.get x.getLeft? λa=> .ok (fW a)) (.get x.getRight? λb=> .ok (vF b))
def jT:wu->Rg->GD:=λ(oc,t33,t34,t35,n31) y=>match y with | .inl y=> .inl y | .inr z=> .inr (oc)
abbrev wx:=Int×(List lT)×Int×Int
def np:wx->AS:=λ(sum,t66,t67,t68)=>⟨(bf 6 ([.d ti sum]++bf 59 ([.d (.slice jy) t66,.d ti t67,.d ti t68]++bf 19 []))),[],(ai 88 [])⟩
def jV:Unit->Exit×AS:=λx=>(.ret,⟨([cq,cq,.d .bool aR]++bf 85 []),[],(ai 88 [])⟩)
def vH:Unit->Exit×AS:=λx=>(.exit 2,⟨(bf 88 []),[],(ai 88 [])⟩)
abbrev GI:=(Unit)⊕(Unit)
abbrev Ri:=(Unit)⊕(Unit)
def BX:GI->Out (Exit×AS):=λx=> .br x.isLeft (.get x.getLeft? λa=> .ok (jV a)) (.get x.getRight? λb=> .ok (vH b))
def jU:wx->Ri->GI:=λ(sum,t66,t67,t68) y=>match y with | .inl y=> .inl y | .inr z=> .inr (z)
def vE:wu->Prop:=λ(t,l,n,i,m)=>l.length<=9223372036854775807/\n=l.length/\∃k:Nat,k<=l.length/\i=k
def mK:wu->Rg:=λ(t,l,n,i,m)=>if EN m (l.drop i.toNat) then .inr () else .inl ()
def vG:wx->Prop:=λ(s,l,n,i)=>(∀o∈l,aC5 o.2.1)/\l.length<=9223372036854775807/\n=l.length/\∃k:Nat,k<=l.length/\i=k
def mL:wx->Ri:=λ(s,l,n,i)=>if Bz s (l.drop i.toNat) then .inr () else .inl ()
def alr:dM->Prop:=λt=>aFP t
def pt:dM->Bool:=λt=>iF t
def Rf:=dW.gA nk vE jT mK BW
def GF:wu->Option GD:=iI Rf nk
def Rh:=dW.gA np vG jU mL BX
def Ad:wx->Option GI:=iI Rh np
def hP:Fs Tryz.prog alr bG pt:=fV 40 Tryz.f40 (λt=>([.d ee t],[])) (λx=>⟨.d .bool x,[],[]⟩) [ao ee] [anE,aAK,Cr] {loops:=so [(5,{bp:=[1,3,33,34,35],sites:=[31]}),(13,{bp:=[6,66,67,68]})],outs:=sm [(5,{bp:=[1]},{bp:=[2]}),(13,{},{bp:=[2]})],gS:=tt [(5,Rf),(13,Rh)]}
def GC:= @fh Tryz.prog (lU hP.G) hP.an 0 Tryz.f40 0 _ nk
abbrev Nx:=mn Tryz.prog (lU hP.G) hP.an 0 Tryz.f40 0 nk vE jT mK BW
def GH:= @fh Tryz.prog (lU hP.G) hP.an 0 Tryz.f40 1 _ np
abbrev Ny:=mn Tryz.prog (lU hP.G) hP.an 0 Tryz.f40 1 np vG jU mL BX
theorem Yc:kC GF vE jT mK:=og (na [.d ee,.d (.slice gB),.d ti,.d ti,.d (.slice (.pair bM .bool))] λ_=>cM)
theorem Kn:qp @GC nk vE jT mK BW Nx:=rA
theorem GG(oc t33 t34 t35 n31)(kn:K2 R)(kx:K3 R):GC (oc,t33,t34,t35,n31) kn kx=aS (gY t35 t34) (aS (gI t35 (((ag t33):Nat):Int)) (aS ((cd bM (nth gB t33 (ab t35)).1 n31).getD aR) (kx (fW ()).1 (fW ()).2) (aS (gY (nth gB t33 (ab t35)).1.2.1 (0:Int)) (kx (fW ()).1 (fW ()).2) (aS (Bp (nth gB t33 (ab t35)).1.2.1 (64:Int)) (kx (fW ()).1 (fW ()).2) (aq (Yg.call (nth gB t33 (ab t35)).2.1) λx8=>aS (!x8) (kx (fW ()).1 (fW ()).2) (kn (nk (oc,t33,t34,(bT .i64 t35 (1:Int)),(e7 bM (nth gB t33 (ab t35)).1 aT n31)))))))) aJ) (kx (vF oc).1 (vF oc).2):=cM
theorem Yd:kC Ad vG jU mL:=og (na [.d ti,.d (.slice jy),.d ti,.d ti] λ_=>cM)
theorem Ko:qp @GH np vG jU mL BX Ny:=rA
theorem GJ(sum t66 t67 t68)(kn:K2 R)(kx:K3 R):GH (sum,t66,t67,t68) kn kx=aS (gY t68 t67) (aS (gI t68 (((ag t66):Nat):Int)) (aq (XA.call (sum,(nth jy t66 (ab t68)).1)) λasi=>aS (!asi.2) (kx (jV ()).1 (jV ()).2) (aq (oV.call (nth jy t66 (ab t68)).2.1) λadq=>aS (!adq) (kx (jV ()).1 (jV ()).2) (kn (np (asi.1,t66,t67,(bT .i64 t68 (1:Int))))))) aJ) (kx (vH ()).1 (vH ()).2):=cM
theorem ar6(t)(k:K1 R):hP.A t k=aS (gY (t.1.length:Int) 1) (k (hP.out aR)) (aS (Ak (t.1.length:Int) 64) (k (hP.out aR)) (aS (Ak (t.2.1.length:Int) 64) (k (hP.out aR)) (aS (gY t.2.2.1 0) (k (hP.out aR)) (aq (GF (t,t.1,(t.1.length:Int),0,([]:List (cw×Bool)))) λadq=>aS adq.isLeft (aq adq.getLeft? λa13=>k (hP.out aR)) (aq adq.getRight? λb14=>aq (Ad (0,b14.2.1,(b14.2.1.length:Int),0)) λaaf=>aS aaf.isLeft (aq aaf.getLeft? λa31=>k (hP.out aR)) (aq aaf.getRight? λb32=>k (hP.out aT))))))):=cM
theorem ac8:Nx:=by
 refine Kn (λ(t,l,n,i,m)=>l.length - i.toNat) ?_
 rintro⟨t,l,n,i,m⟩ ⟨hb,rfl,k,hk,rfl⟩;have hb:l.length<=9223372036854775807:=hb;have hk:k<=l.length:=hk;by_cases h:k < l.length
 ·have n1:nth gB l k=l[k]:=da (t:=gB) h;have hd:EN m (l.drop k)=((!(P3 m l[k]) && TV l[k]) && EN (e7 bM l[k].1 aT m) (l.drop (k+1))):=by rw[aC h];rfl
  have step:∀ {R:Type} (kn:AS->Option R) (kx:Exit->AS->Option R),GC (t,l,(l.length:Int),(k:Int),m) kn kx=aS (!(P3 m l[k]) && TV l[k]) (kn (nk (t,l,(l.length:Int),((k+1:Nat):Int),e7 bM l[k].1 aT m))) (kx (fW ()).1 (fW ()).2):=by
   intro R kn kx;rw[GG,bm au,bz au au,aa,n1,N.nV au,ahO (d:=l[k].2.1) trivial];simp only[aj,ae,bG,adf];have e:(cd bM l[k].1 m).getD aR=P3 m l[k]:=rfl;rw[e];cases P3 m l[k]
   ·simp only[eY,cD,al,TV];by_cases h1:l[k].1.2.1 < 0
    ·rw[bm h1,aj,bE (λx=>au)];rfl
    ·rw[bh h1,al];by_cases h2:64<=l[k].1.2.1
     ·rw[gM h2,aj,bE (λx=>au)];rfl
     ·rw[eT h2,al,ba ⟨au,au⟩];cases EF l[k].2.1 <;> rfl
   ·rfl
  cases hp:(!(P3 m l[k]) && TV l[k])
  ·right;refine⟨fW (),?_,λkn kx=> ?_⟩
   ·simp only[jT,mK,aa,hd,hp,ff,bR,cF];rfl
   ·rw[step,hp,al]
  ·left;refine⟨(t,l,l.length,((k+1:Nat):Int),e7 bM l[k].1 aT m),⟨hb,rfl,k+1,au,rfl⟩,by simp only[aa];omega,?_,λkn kx=> ?_⟩
   ·simp only[jT,mK,aa,hd,hp,cD]
   ·rw[step,hp,aj]
 ·right;obtain rfl:k=l.length:=au;refine⟨vF t,?_,λkn kx=> ?_⟩
  ·simp only[jT,mK,aa,aU];rfl
  ·rw[GG];simp(disch:=omega) only[↓S1,↓if_pos,↓if_neg,if_pos,if_neg,cY,cF,S2]
theorem ac9:Ny:=by
 refine Ko (λ(s,l,n,i)=>l.length - i.toNat) ?_
 rintro⟨s,l,n,i⟩ ⟨hl,hb,rfl,k,hk,rfl⟩;have hb:l.length<=9223372036854775807:=hb;have hk:k<=l.length:=hk;by_cases h:k < l.length
 ·have hx:aC5 l[k].2.1:=hl _ (aV h);have n1:nth jy l k=l[k]:=da (t:=jy) h;have hd:Bz s (l.drop k)=((qu s l[k].1 && nT l[k].2.1) && Bz (s+l[k].1) (l.drop (k+1))):=by rw[aC h];rfl
  have step:∀ {R:Type} (kn:AS->Option R) (kx:Exit->AS->Option R),GH (s,l,(l.length:Int),(k:Int)) kn kx=aS (qu s l[k].1 && nT l[k].2.1) (kn (np (s+l[k].1,l,(l.length:Int),((k+1:Nat):Int)))) (kx (jV ()).1 (jV ()).2):=by
   intro R kn kx;rw[GJ,bm au,bz au au,aa,n1,N.nV au,av3 (d:=(s,l[k].1)) trivial,zC (d:=l[k].2.1) hx];simp only[aj,ae,bG,aj1,bG,Cq];cases qu s l[k].1
   ·rfl
   ·cases nT l[k].2.1 <;> rfl
  cases hp:(qu s l[k].1 && nT l[k].2.1)
  ·right;refine⟨jV (),?_,λkn kx=> ?_⟩
   ·simp only[jU,mL,aa,hd,hp,ff,bR,cF];rfl
   ·rw[step,hp,al]
  ·left;refine⟨(s+l[k].1,l,l.length,((k+1:Nat):Int)),⟨hl,hb,rfl,k+1,au,rfl⟩,by simp only[aa];omega,?_,λkn kx=> ?_⟩
   ·simp only[jU,mL,aa,hd,hp,cD]
   ·rw[step,hp,aj]
 ·right;obtain rfl:k=l.length:=au;refine⟨vH (),?_,λkn kx=> ?_⟩
  ·simp only[jU,mL,aa,aU];rfl
  ·rw[GJ];simp(disch:=omega) only[↓S1,↓if_pos,↓if_neg,if_pos,if_neg,cY,cF,S2]
theorem ar7:hP.Ok:=by
 rintro⟨is,os,nt,u⟩ ⟨hl,h1,h2⟩;have h1:is.length<=9223372036854775807:=h1;have h2:os.length<=9223372036854775807:=h2;rw[ar6,Yc (d:=((is,os,nt,u),is,is.length,0,[])) ⟨h1,rfl,0,au,rfl⟩];simp only[ae,jT,mK,bo,aQ,bG,pt,iF,adg];by_cases a1:is.length < 1
 ·rw[bm au,aj,bE (λx=>au)];rfl
 rw[bh au,al];by_cases a2:64 < is.length
 ·rw[dT au,aj,bE (λx=>au)];rfl
 rw[du au,al];by_cases a3:64 < os.length
 ·rw[dT au,aj,bE (λx=>au)];rfl
 rw[du au,al];by_cases a4:nt < 0
 ·rw[bm au,aj,bE (λx=>au)];rfl
 rw[bh au,al,ba ⟨au,au,au,au⟩];cases EN [] is
 ·rfl
 ·simp only[cY,cD];show aq (Ad (0,os,(os.length:Int),0)) _=_;rw[Yd (d:=(0,os,os.length,0)) ⟨hl,h2,rfl,0,au,rfl⟩];simp only[ae,jU,mL,bo,aQ];cases Bz 0 os <;> rfl
theorem nq:hP.RS:=rE [.d ee] hP
def qf:=hP.gf ar7 2 ⟨.gA ac8,⟨.gA ac9,trivial⟩⟩
def aki:Bs->Prop:=λl=>l.length<=1000000
def Mu:Bs->Bs:=λl=>l
def BB:Fs Tryz.prog aki bG Mu:=fV 64 Tryz.f64 (λsv=>([.d tU sv],[])) (λx=>⟨.d tU x,[],[]⟩) [ao tU] [] {bN:=[5],res:=[ao tU]}
theorem aqF(sv)(k:K1 R):BB.A sv k=aS (decide (0 < (ag sv))) (aS (ea (0+(ag sv)) 8) (aS (decide (0=0/\(0+(0+(ag sv)))<=(ag ((bn 0 (ai 0 0))++sv)))) (k (BB.out (cut ((bn 0 (ai 0 0))++sv) 0 (0+(ag sv))))) aJ) aJ) (nd (k (BB.out ([]:List Int))) (aS (ea (0+(ag sv)) 8) (aS (decide (0=0/\(0+(0+(ag sv)))<=(ag ((bn 0 (ai 0 0))++sv)))) (k (BB.out (cut ((bn 0 (ai 0 0))++sv) 0 (0+(ag sv))))) aJ) aJ)):=cM
theorem aqG:BB.Ok:=by
 intro l hl;have hl:l.length<=1000000:=hl;have hr:ea l.length 8=aT:=eW au au;have e0:(bn 0 (ai 0 0):List Int)=[]:=rfl;rw[aqF];simp only[bg,hr,aj,e0,aY,aF,kf,cV,fA,bG,Mu];by_cases h:0 < l.length
 ·simp only[ba h,aj]
 ·have:l=[]:=bu au;subst this;simp only[bB,AO,bE (gv 0),al]
theorem U9:BB.RS:=rE [.d tU] BB
def ZA:=BB.gf aqG
def aIq(l:List Int):Lk:=([(l,0,0,0,())],())
def ui(o:List Int)(ks:List Int):List Int:=ks.foldl (λo p=>o++mq p) o
def ayJ(o:List Int)(b:ud):List Int:=dX (dX (ui (dX o b.1.length) b.1) b.2.1) b.2.2.1++mq b.2.2.2.1
def OA(l:Lk):List Int:=if nT l then l.1.foldl ayJ (dX [] l.1.length) else []
theorem Ox:∀(ks:List Int) (o:List Int),(ui o ks).length=o.length+8*ks.length
 |[],o=>rfl
 |k::ks,o=>by show(ui (o++mq k) ks).length=_;rw[Ox ks,ak,dA,aH];omega
theorem al1(o:List Int)(b:ud)(h:b.1.length<=12):(ayJ o b).length<=o.length+200:=by unfold ayJ;have h1:=fE o b.1.length;have h2:=Ox b.1 (dX o b.1.length);have h3:=fE (ui (dX o b.1.length) b.1) b.2.1;have h4:=fE (dX (ui (dX o b.1.length) b.1) b.2.1) b.2.2.1;rw[ak,dA];omega
def ayV(n:Int):Prop:=n<=9223372036854775807
def aHF(b:ud):Prop:=b.1.length<=12/\ayV b.2.1/\ayV b.2.2.1
theorem aDl{b:ud}(h:EI b=aT):aHF b:=by unfold EI On at h;simp only[av,aW]at h;obtain⟨h1,_,h2,h3,_⟩:=h;exact⟨h1,by unfold ayV;omega,by unfold ayV;omega⟩
theorem ajD(o:List Int)(ks:List Int)(k:Nat)(h:k < ks.length):ui o (ks.drop k)=ui (o++mq ks[k]) (ks.drop (k+1)):=by rw[aC h];rfl
abbrev Qd:=Bs×(List ud)×Int×Int
abbrev Fw:=Bs×(List ud)×Int×Int×Bs×Int×Int×ud
def u5:Fw->Bs->(((List ud)×Int×Int×ud)×(Bs)):=λ(OJ,zZ,Wq,Wr,t28,t29,t30,n5) y=>((zZ,Wq,Wr,n5),y)
def Xr:Fw->Prop:=λ(o,bs,n,i,ks,m,j,b)=>ks.length<=12/\o.length+8*ks.length<=80000000+8*j.toNat/\m=ks.length/\∃k:Nat,k<=ks.length/\j=k
def AI:Fw->Bs:=λ(o,bs,n,i,ks,m,j,b)=>ui o (ks.drop j.toNat)
def Xp:Qd->Prop:=λ(o,bs,n,i)=>(∀b∈bs,aHF b)/\bs.length<=4/\o.length<=1000+200*i.toNat/\n=bs.length/\∃k:Nat,k<=bs.length/\i=k
def Fu:Qd->Bs:=λ(o,bs,n,i)=>(bs.drop i.toNat).foldl ayJ o
def ajH:Lk->Prop:=λl=>alF l/\l.1.length<=9223372036854775807
def L0:Lk->Bs:=λl=>OA l
def pN:Ls Xp bG Fu:=yg (λ(outv,t16,t17,t18)=>⟨([cq,cq,cq,.d tB outv]++bf 12 ([.d (.slice sH) t16,.d ti t17,.d ti t18]++bf 31 [])),[],(ai 50 [])⟩) (λx=>(.exit 0,⟨([cq,cq,cq,.d tB x]++bf 46 []),[],(ai 50 [])⟩))
def pO:Ls Xr u5 AI:=yg (λ(OJ,zZ,Wq,Wr,t28,t29,t30,n5)=>⟨([cq,cq,cq,.d tB OJ,cq,fu 5]++bf 10 ([.d (.slice sH) zZ,.d ti Wq,.d ti Wr]++bf 9 ([.d tU t28,.d ti t29,.d ti t30]++bf 19 []))),[],(bI 5 ([dG (.d sH n5)]++bI 44 []))⟩) (λx=>(.exit 2,⟨([cq,cq,cq,.d tB x.2,cq,fu 5]++bf 10 ([.d (.slice sH) x.1.1,.d ti x.1.2.1,.d ti x.1.2.2.1]++bf 31 [])),[],(bI 5 ([dG (.d sH x.1.2.2.2)]++bI 44 []))⟩))
def rK:Fs Tryz.prog ajH bG L0:=fV 87 Tryz.f87 (λl=>([.d ah7 l],[])) (λx=>⟨.d tB x,[],[]⟩) [ao ah7] [Cr,RZ,aeG] {loops:=so [(5,{bp:=[3,16,17,18]}),(9,{bp:=[3,5,16,17,18,28,29,30],sites:=[5]})],outs:=sm [(5,{bp:=[3]},{bp:=[2]}),(9,{bp:=[3,5,16,17,18],sites:=[5]},{bp:=[2]})],gS:=tt [(5,pN.E),(9,pO.E)],res:=[ao tB]}
theorem Xq:pN.RS:=rL [.d tB,.d (.slice sH),.d ti,.d ti] pN
theorem Fv(outv t16 t17 t18)(kn:K2 R)(kx:K3 R):rK.R 0 pN (outv,t16,t17,t18) kn kx=aS (gY t18 t17) (aS (gI t18 (t16.length:Int)) (aq (zg.call (outv,(((ag (nth sH t16 (ab t18)).1):Nat):Int))) λx1=>aq (pO.call (x1,t16,t17,t18,(nth sH t16 (ab t18)).1,(((ag (nth sH t16 (ab t18)).1):Nat):Int),0,(nth sH t16 (ab t18)))) λx2=>aq (zg.call (x2.2,x2.1.2.2.2.2.1)) λx3=>aq (zg.call (x3,x2.1.2.2.2.2.2.1)) λx4=>aq (Fe.call (x4,x2.1.2.2.2.2.2.2.1)) λx5=>kn (pN.st (x5,x2.1.1,x2.1.2.1,(bT .i64 x2.1.2.2.1 1)))) aJ) (pN.go kx outv):=cM
theorem Xs:pO.RS:=rL [.d tB,.d (.slice sH),.d ti,.d ti,.d tU,.d ti,.d ti,.d sH] pO
theorem Fx(OJ zZ Wq Wr t28 t29 t30 n5)(kn:K2 R)(kx:K3 R):rK.R 1 pO (OJ,zZ,Wq,Wr,t28,t29,t30,n5) kn kx=aS (gY t30 t29) (aS (gI t30 (t28.length:Int)) (aq (Fe.call (OJ,(nth tu t28 (ab t30)))) λx1=>kn (pO.st (x1,zZ,Wq,Wr,t28,t29,(bT .i64 t30 1),n5))) aJ) (pO.go kx ((zZ,Wq,Wr,n5),OJ)):=cM
theorem apR(l)(k:K1 R):rK.A l k=aq (oV.call l) λx1=>aS (!x1) (k (rK.out ([]:List Int))) (aq (zg.call (([]:List Int),(l.1.length:Int))) λx2=>aq (pN.call (x2,l.1,(l.1.length:Int),0)) λx9=>k (rK.out x9)):=cM
theorem abJ:(rK.mM 1 pO):=by
 refine(rK.qG 1 pO) (λ(o,bs,n,i,ks,m,j,b)=>ks.length - j.toNat) ?_
 rintro⟨o,bs,n,i,ks,m,j,b⟩ ⟨aD2,hl,rfl,k,hk,rfl⟩;have aD2:ks.length<=12:=aD2;have hk:k<=ks.length:=hk;have hl:o.length+8*ks.length<=80000000+8*(k:Int).toNat:=hl;rw[aa]at hl;by_cases h:k < ks.length
 ·left;have n1:nth (.int .u64) ks k=ks[k]:=da (t:= .int .u64) h;refine⟨(o++mq ks[k],bs,n,i,ks,ks.length,((k+1:Nat):Int),b),⟨aD2,by rw[ak,dA,aa];omega,rfl,k+1,au,rfl⟩,by simp only[aa];omega,?_,λkn kx=> ?_⟩
  ·simp only[u5,AI,aa];rw[ajD _ _ _ h]
  ·rw[Fx];simp(disch:=omega) only[↓S1,↓if_pos,↓if_neg,if_pos,if_neg,cY,cF,S2,n1];rw[Cg (d:=(o,ks[k])) (by show o.length<=90000000;omega)];rfl
 ·right;obtain rfl:k=ks.length:=au;intro R kn kx;rw[Fx];simp(disch:=omega) only[↓S1,↓if_pos,↓if_neg,if_pos,if_neg,cY,cF,S2,u5,AI,aU];rfl
theorem abI:(rK.mM 0 pN):=by
 refine(rK.qG 0 pN) (λ(o,bs,n,i)=>bs.length - i.toNat) ?_
 rintro⟨o,bs,n,i⟩ ⟨hb,h4,hl,rfl,k,hk,rfl⟩;have h4:bs.length<=4:=h4;have hk:k<=bs.length:=hk;have hl:o.length<=1000+200*(k:Int).toNat:=hl;rw[aa]at hl;by_cases h:k < bs.length
 ·left;have hx:=hb _ (aV h);have n1:nth (.pair (.slice (.int .u64)) (.pair (.int .i64) (.pair (.int .i64) (.pair (.int .u64) .unit)))) bs k=bs[k]:=da (t:=(.pair (.slice (.int .u64)) (.pair (.int .i64) (.pair (.int .i64) (.pair (.int .u64) .unit))))) h;have e0:=al1 o bs[k] hx.1;refine⟨(ayJ o bs[k],bs,bs.length,((k+1:Nat):Int)),⟨hb,h4,by rw[aa];omega,rfl,k+1,au,rfl⟩,by simp only[aa];omega,?_,λkn kx=> ?_⟩
  ·simp only[bG,Fu,aa];rw[aC h];rfl
  ·rw[Fv,bm au,bz au au,aa,n1];obtain⟨⟨ks,af,dl,sc,u⟩,aGd⟩:∃b,bs[k]=b:=⟨_,rfl⟩;rw[aGd]at hx e0 ⊢;obtain⟨aso,ha,hd⟩:=hx;have aso:ks.length<=12:=aso;have ha:af<=9223372036854775807:=ha;have hd:dl<=9223372036854775807:=hd;have l1:=fE o ks.length;have l2:=Ox ks (dX o ks.length);have l3:=fE (ui (dX o ks.length) ks) af;have l4:=fE (dX (ui (dX o ks.length) ks) af) dl;simp only[aj];rw[ju (d:=(o,(ks.length:Int))) ⟨by show o.length<=90000000;omega,by show(ks.length:Int)<=9223372036854775807;omega⟩];simp only[ae,bG,oC];rw[Xs (d:=(dX o ks.length,bs,bs.length,k,ks,ks.length,0,(ks,af,dl,sc,u))) ⟨aso,by show(dX o ks.length).length+8*ks.length<=_;omega,rfl,0,au,rfl⟩];simp only[ae,u5,AI,bo,aQ];rw[ju (d:=(ui (dX o ks.length) ks,af)) ⟨by show(ui (dX o ks.length) ks).length<=90000000;omega,ha⟩];simp only[ae,bG,oC];rw[ju (d:=(dX (ui (dX o ks.length) ks) af,dl)) ⟨by show(dX (ui (dX o ks.length) ks) af).length<=90000000;omega,hd⟩];simp only[ae,bG,oC];rw[Cg (d:=(dX (dX (ui (dX o ks.length) ks) af) dl,sc)) (by show(dX (dX (ui (dX o ks.length) ks) af) dl).length<=90000000;omega)];simp only[ae,bG,La];rw[N.nV au];rfl
 ·right;obtain rfl:k=bs.length:=au;intro R kn kx;rw[Fv];simp(disch:=omega) only[↓S1,↓if_pos,↓if_neg,if_pos,if_neg,cY,cF,S2,bG,Fu,aU];rfl
theorem avE{l:Lk}(h:nT l=aT):(∀b∈l.1,aHF b)/\0 < l.1.length/\l.1.length<=4:=by unfold nT at h;simp only[av,cS,aW]at h;exact⟨λb hb=>aDl (h.1 b hb),h.2⟩
theorem apS:rK.Ok:=by
 rintro l ⟨hl,hb⟩;have hl:alF l:=hl;rw[apR,zC (d:=l) ⟨hl,hb⟩];simp only[ae,bG,Cq,bG,L0,OA];cases iO:nT l
 ·rfl
 ·obtain⟨h1,h2,h3⟩:=avE iO;have l1:=fE [] l.1.length;have l0:([]:List Int).length=0:=rfl;simp only[cG,al,cY];rw[ju (d:=([],(l.1.length:Int))) ⟨by show([]:List Int).length<=90000000;omega,by show(l.1.length:Int)<=9223372036854775807;omega⟩];simp only[ae,bG,oC];rw[Xq (d:=(dX [] l.1.length,l.1,l.1.length,0)) ⟨h1,h3,by show(dX [] l.1.length).length<=_;omega,rfl,0,au,rfl⟩];rfl
theorem L4(l:Lk):(OA l).length<=1000:=by
 unfold OA;split
 ·rename_i h;obtain⟨h1,h2,h3⟩:=avE h;have key:∀(bs:List ud) (o:List Int),(∀b∈bs,aHF b)->(bs.foldl ayJ o).length<=o.length+200*bs.length:=by
   intro bs
   induction bs with
   |nil=>intro o _;exact aF _
   |cons b bs ih=>
    intro o hb;have e1:=ih (ayJ o b) λx hx=>hb x (aL _ hx)
    have e2:=al1 o b (hb b aK).1;rw[aX,aH];omega
  have e:=key l.1 (dX [] l.1.length) h1;have e2:=fE [] l.1.length;have l0:([]:List Int).length=0:=rfl;omega
 ·exact aN _
theorem Uc:rK.RS:=rE [.d ah7] rK
def Ze:=rK.gf apS 2 ⟨.gA abI,⟨.gA abJ,trivial⟩⟩
def aoX:(Bs×Bs)->Prop:=λ(b,h)=>b.length+h.length<=100000000/\h.length=32
def K9:(Bs×Bs)->Bs:=λ(b,h)=>b++h
def HK:Fs Tryz.prog aoX bG K9:=fV 58 Tryz.f58 (λ(b,h)=>([.d tB b,.d tH h],[])) (λx=>⟨.d tB x,[],[]⟩) [ao tB,ao tH] [SZ]
theorem atX(b h)(k:K1 R):HK.A (b,h) k=aq (E7.call (b,(cut h 0 32))) λx1=>k (HK.out x1):=cM
theorem atY:HK.Ok:=by rintro⟨b,h⟩ ⟨h1,h2⟩;have h1:b.length+h.length<=100000000:=h1;have h2:h.length=32:=h2;rw[atX,fA h2,G3 (d:=(b,h)) h1];rfl
theorem G4:HK.RS:=rE [.d tB,.d tB] HK
def aeF:=HK.gf atY
def aoV:(Bs×Bs)->Prop:=λ(b,c)=>b.length+c.length<=90000000
def aaJ:(Bs×Bs)->Bs:=λ(b,c)=>b++(iE c.length++c)
def S8:Fs Tryz.prog aoV bG aaJ:=fV 86 Tryz.f86 (λ(b,c)=>([.d tB b,.d tB c],[])) (λx=>⟨.d tB x,[],[]⟩) [ao tB,ao tB] [al8,SF] {res:=[ao tB]}
theorem atU(b c)(k:K1 R):S8.A (b,c) k=aq (S9.call (c.length:Int)) λx1=>aq (nW.call [b,x1,c]) λx2=>k (S8.out x2):=cM
theorem atV:S8.Ok:=by rintro⟨b,c⟩ h;have h:b.length+c.length<=90000000:=h;have hl:=nE c.length;rw[atU,aeI (d:=(c.length:Int)) ⟨au,au⟩];simp only[ae,bG,aiX];rw[Pm (d:=[b,iE c.length,c]) ⟨by show [b,iE c.length,c].length<=_;simp,by show tr [b,iE c.length,c]<=_;simp only[tr,jm,pA,bP,ak];omega⟩];simp only[ae,bG,NN,bG,aaJ,jm,pA,bP]
theorem aoW:S8.RS:=rE [.d tB,.d tB] S8
def atW:=S8.gf atV
def R8(b:List Int)(x:j9):List Int:=dX (b++x.1.1) x.1.2.1
def RE(b:List Int)(o:lT):List Int:=dX b o.1++(iE (OA o.2.1).length++OA o.2.1)
def wH(t:dM):List Int:=dX (t.2.1.foldl RE (dX (t.1.foldl R8 (dX [] t.1.length)) t.2.1.length)) t.2.2.1
def Wb(b:List Int)(s:Sg):List Int:=b++mq s.1++mq s.2.1
def aly(b:List Int)(x:j9):List Int:=x.2.1.2.1.foldl Wb (dX (dX b x.2.1.1) x.2.1.2.1.length)++mq x.2.1.2.2.1
def aBP(t:dM):List Int:=if iF t then t.1.foldl aly (wH t) else []
def sP(t:dM):List Int:=if iF t then tag (cE (⟨#[116,120]⟩:ByteArray)) [wH t] else ai 32 0
def aKc(x:j9):Prop:=Sm x.1.1/\Su x.2.1/\x.2.1.2.1.length<=9223372036854775807
def wX(t:dM):Prop:=aFP t/\(∀x∈t.1,aKc x)/\t.2.2.1<=9223372036854775807
theorem oR:∀(l:List j9) (m:List (cw×Bool)),EN m l=aT->∀x∈l,TV x=aT
 |[],_,_,x,hx=>by cases hx
 |y::l,m,h,x,hx=>by
  rw[EN,av,av]at h;rcases cj.1 hx with rfl | hx
  ·exact h.1.2
  ·exact oR l _ h.2 x hx
theorem nc:∀(l:List lT) (s:Int),Bz s l=aT->∀o∈l,(0<=o.1/\o.1<=1125899906842624)/\nT o.2.1=aT
 |[],_,_,o,ho=>by cases ho
 |y::l,s,h,o,ho=>by
  rw[Bz,av,av]at h;rcases cj.1 ho with rfl | ho
  ·have h1:=h.1.1;unfold qu Fa at h1;simp only[av,aW]at h1;exact⟨h1.2.1,h.1.2⟩
  ·exact nc l _ h.2 o ho
theorem Du{x:j9}(h:TV x=aT):0<=x.1.2.1/\x.1.2.1 < 64/\0<=x.2.1.1/\x.2.1.1 < 4/\x.2.1.2.1.length<=12:=by unfold TV EF at h;simp only[av,aW]at h;exact⟨h.1.1,h.1.2,h.2.1.1,h.2.1.2,h.2.2⟩
theorem jg{t:dM}(h:iF t=aT):(1<=t.1.length/\t.1.length<=64/\t.2.1.length<=64/\0<=t.2.2.1)/\EN [] t.1=aT/\Bz 0 t.2.1=aT:=by unfold iF adg at h;simp only[av,aW]at h;exact h
theorem amy(b:List Int)(x:j9):(R8 b x).length<=b.length+x.1.1.length+11:=by have:=fE (b++x.1.1) x.1.2.1;rw[ak]at this;exact this
theorem agr(b:List Int)(o:lT):(RE b o).length<=b.length+1022:=by have h1:=fE b o.1;have h2:=nE (OA o.2.1).length;have h3:=L4 o.2.1;unfold RE;rw[ak,ak];omega
theorem ahk(b:List Int)(s:Sg):(Wb b s).length=b.length+16:=by unfold Wb;rw[ak,ak,dA,dA]
abbrev Gy:=dM×Bs×(List j9)×Int×Int
def vC:Gy->Bs->((dM)×(Bs)):=λ(oc,b,t13,t14,t15) y=>(oc,y)
abbrev GA:=dM×Bs×(List lT)×Int×Int
def vD:GA->Bs->((dM)×(Bs)):=λ(BV,ov,t35,t36,t37) y=>(BV,y)
def X8:Gy->Prop:=λ(t,b,l,n,i)=>(l).length<=1000000000/\∃k:Nat,k<=(l).length/\i=k/\n=(l).length/\(l.length<=64)/\(∀x∈l,x.1.1.length=32/\x.1.2.1<=9223372036854775807)/\(b.length<=100+50*k)
def A8:Gy->Bs:=λ(t,b,l,n,i)=>(bV (ab i) l).foldl R8 b
def Ya:GA->Prop:=λ(t,b,l,n,i)=>(l).length<=1000000000/\∃k:Nat,k<=(l).length/\i=k/\n=(l).length/\(l.length<=64)/\(∀o∈l,o.1<=9223372036854775807/\aC5 o.2.1)/\(b.length<=4000+1100*k)
def A9:GA->Bs:=λ(t,b,l,n,i)=>(bV (ab i) l).foldl RE b
def alq:dM->Prop:=λt=>iF t=aT/\wX t
def WI:dM->Bs:=λt=>wH t
def qb:Ls X8 vC A8:=yg (λ(oc,b,t13,t14,t15)=>⟨([cq,.eI ee oc,cq,.d tB b]++bf 9 ([.d (.slice gB) t13,.d ti t14,.d ti t15]++bf 38 [])),[],(ai 54 [])⟩) (λx=>(.exit 0,⟨([cq,.eI ee x.1,cq,.d tB x.2]++bf 50 []),[],(ai 54 [])⟩))
def qc:Ls Ya vD A9:=yg (λ(BV,ov,t35,t36,t37)=>⟨([cq,.eI ee BV,cq,.d tB ov]++bf 31 ([.d (.slice jy) t35,.d ti t36,.d ti t37]++bf 16 [])),[],(ai 54 [])⟩) (λx=>(.exit 2,⟨([cq,.eI ee x.1,cq,.d tB x.2]++bf 50 []),[],(ai 54 [])⟩))
def tW:Fs Tryz.prog alq bG WI:=fV 42 Tryz.f42 (λt=>([.d ee t],[])) (λx=>⟨.d tB x,[],[]⟩) [ao ee] [RZ,aeF,Ze,atW] {loops:=so [(3,{bp:=[1,3,13,14,15]}),(9,{bp:=[1,3,35,36,37]})],outs:=sm [(3,{bp:=[1,3]},{bp:=[2]}),(9,{bp:=[1,3]},{bp:=[2]})],gS:=tt [(3,qb.E),(9,qc.E)],res:=[ao tB]}
theorem X9:qb.RS:=rL [.d ee,.d tB,.d (.slice gB),.d ti,.d ti] qb
theorem Gz(oc b t13 t14 t15)(kn:K2 R)(kx:K3 R):tW.R 0 qb (oc,b,t13,t14,t15) kn kx=aS (gY t15 t14) (aS (gI t15 (t13.length:Int)) (aq (HK.call (b,(nth gB t13 (ab t15)).1.1)) λx1=>aq (zg.call (x1,(nth gB t13 (ab t15)).1.2.1)) λx2=>kn (qb.st (oc,x2,t13,t14,(bT .i64 t15 1)))) aJ) (qb.go kx (oc,b)):=cM
theorem Yb:qc.RS:=rL [.d ee,.d tB,.d (.slice jy),.d ti,.d ti] qc
theorem GB(BV ov t35 t36 t37)(kn:K2 R)(kx:K3 R):tW.R 1 qc (BV,ov,t35,t36,t37) kn kx=aS (gY t37 t36) (aS (gI t37 (t35.length:Int)) (aq (zg.call (ov,(nth jy t35 (ab t37)).1)) λx1=>aq (rK.call (nth jy t35 (ab t37)).2.1) λx2=>aq (S8.call (x1,x2)) λx3=>kn (qc.st (BV,x3,t35,t36,(bT .i64 t37 1)))) aJ) (qc.go kx (BV,ov)):=cM
theorem ar2(t)(k:K1 R):tW.A t k=aq (zg.call (([]:List Int),(t.1.length:Int))) λx1=>aq (qb.call (t,x1,t.1,(t.1.length:Int),0)) λx4=>aq (zg.call (x4.2,(x4.1.2.1.length:Int))) λx5=>aq (qc.call (x4.1,x5,x4.1.2.1,(x4.1.2.1.length:Int),0)) λx9=>aq (zg.call (x9.2,x9.1.2.2.1)) λasi=>k (tW.out asi):=cM
theorem acZ:(tW.mM 0 qb):=by
 refine(tW.qG 0 qb) (λ(t,b,l,n,i)=>(l).length - ab i) ?_
 rintro⟨t,b,l,n,i⟩ ⟨hlen,k,hk,rfl,rfl,aji,hx,hb⟩;have hlen:(l).length<=1000000000:=hlen;have hk:k<=(l).length:=hk;have aji:l.length<=64:=aji;have hx:∀x∈l,x.1.1.length=32/\x.1.2.1<=9223372036854775807:=hx;have hb:b.length<=100+50*k:=hb;by_cases h:k < (l).length
 ·left;have n1:nth gB l k=l[k]:=da (t:=gB) h;have hd:bV k l=l[k]::bV (k+1) l:=aC h;refine⟨(t,(R8 b l[k]),l,((l).length:Int),((k+1:Nat):Int)),⟨hlen,k+1,au,rfl,rfl,aji,hx,by have:=amy b l[k];have:=(hx _ (aV h)).1;omega⟩,by simp only[aa];omega,?_,λkn kx=> ?_⟩
  ·simp only[vC,A8,aa,hd,aX]
  ·rw[Gz,bm au,bz au au,aa,n1];simp only[aj];have e:=hx _ (aV h);have e2:(b++l[k].1.1).length=b.length+l[k].1.1.length:=ak;rw[G4 (d:=(b,l[k].1.1)) ⟨by show b.length+l[k].1.1.length<=_;omega,e.1⟩];simp only[ae,bG,K9];rw[ju (d:=(b++l[k].1.1,l[k].1.2.1)) ⟨by show(b++l[k].1.1).length<=_;omega,e.2⟩];simp only[ae,bG,oC];rw[N.nV au];rfl
 ·right;obtain rfl:k=(l).length:=au;intro R kn kx;rw[Gz,bh au,al];simp only[vC,A8,aa,aU,db]
theorem ac0:(tW.mM 1 qc):=by
 refine(tW.qG 1 qc) (λ(t,b,l,n,i)=>(l).length - ab i) ?_
 rintro⟨t,b,l,n,i⟩ ⟨hlen,k,hk,rfl,rfl,aji,hx,hb⟩;have hlen:(l).length<=1000000000:=hlen;have hk:k<=(l).length:=hk;have aji:l.length<=64:=aji;have hx:∀o∈l,o.1<=9223372036854775807/\aC5 o.2.1:=hx;have hb:b.length<=4000+1100*k:=hb;by_cases h:k < (l).length
 ·left;have n1:nth jy l k=l[k]:=da (t:=jy) h;have hd:bV k l=l[k]::bV (k+1) l:=aC h;refine⟨(t,(RE b l[k]),l,((l).length:Int),((k+1:Nat):Int)),⟨hlen,k+1,au,rfl,rfl,aji,hx,by have:=agr b l[k];omega⟩,by simp only[aa];omega,?_,λkn kx=> ?_⟩
  ·simp only[vD,A9,aa,hd,aX]
  ·rw[GB,bm au,bz au au,aa,n1];simp only[aj];have e:=hx _ (aV h);have e1:=fE b l[k].1;have e2:=L4 l[k].2.1;rw[ju (d:=(b,l[k].1)) ⟨by show b.length<=_;omega,e.1⟩];simp only[ae,bG,oC];rw[Uc (d:=l[k].2.1) e.2];simp only[ae,bG,L0];rw[aoW (d:=(dX b l[k].1,OA l[k].2.1)) (by show(dX b l[k].1).length+(OA l[k].2.1).length<=_;omega)];simp only[ae,bG,aaJ];rw[N.nV au];rfl
 ·right;obtain rfl:k=(l).length:=au;intro R kn kx;rw[GB,bh au,al];simp only[vD,A9,aa,aU,db]
theorem abE:∀(l:List j9) (b:List Int),(∀x∈l,x.1.1.length=32)->(l.foldl R8 b).length<=b.length+43*l.length
 |[],b,_=>aF _
 |x::l,b,h=>by
  have h1:=amy b x;have h2:=h x aK;have h3:=abE l (R8 b x) λy hy=>h y (aL _ hy)
  rw[aX,aH];omega
theorem U3:∀(l:List lT) (b:List Int),(l.foldl RE b).length<=b.length+1022*l.length
 |[],b=>aF _
 |x::l,b=>by have h1:=agr b x;have h3:=U3 l (RE b x);rw[aX,aH];omega
theorem Vs{t:dM}(iO:iF t=aT)(hv:wX t):(wH t).length<=70000:=by
 obtain⟨⟨_,a2,a3,_⟩,_,_⟩:=jg iO;have h1:=abE t.1 (dX [] t.1.length) λx hx=>(hv.2.1 x hx).1.1
 have h2:=fE [] t.1.length;have h3:=fE (t.1.foldl R8 (dX [] t.1.length)) t.2.1.length;have h4:=U3 t.2.1 (dX (t.1.foldl R8 (dX [] t.1.length)) t.2.1.length);have h5:=fE (t.2.1.foldl RE (dX (t.1.foldl R8 (dX [] t.1.length)) t.2.1.length)) t.2.2.1;have h0:([]:List Int).length=0:=rfl;unfold wH;omega
theorem ar3:tW.Ok:=by
 rintro t ⟨iO,hv⟩;have hv:wX t:=hv;obtain⟨⟨_,a2,a3,_⟩,b1,b2⟩:=jg iO;have h0:([]:List Int).length=0:=rfl;have l0:=fE [] t.1.length;have l1:=abE t.1 (dX [] t.1.length) λx hx=>(hv.2.1 x hx).1.1
 have l2:=fE (t.1.foldl R8 (dX [] t.1.length)) t.2.1.length;have l3:=U3 t.2.1 (dX (t.1.foldl R8 (dX [] t.1.length)) t.2.1.length);rw[ar2,ju (d:=([],(t.1.length:Int))) ⟨by show([]:List Int).length<=_;omega,by show(t.1.length:Int)<=_;omega⟩];simp only[ae,bG,oC];rw[X9 (d:=(t,dX [] t.1.length,t.1,t.1.length,0)) ⟨by show t.1.length<=_;omega,0,aN _,rfl,rfl,a2,λx hx=>⟨(hv.2.1 x hx).1.1,by have:=Du (oR _ _ b1 x hx);omega⟩,by show(dX [] t.1.length).length<=_;omega⟩];simp only[ae,vC,A8,bo,aQ];rw[ju (d:=(t.1.foldl R8 (dX [] t.1.length),(t.2.1.length:Int))) ⟨by show(t.1.foldl R8 (dX [] t.1.length)).length<=_;omega,by show(t.2.1.length:Int)<=_;omega⟩];simp only[ae,bG,oC];rw[Yb (d:=(t,dX (t.1.foldl R8 (dX [] t.1.length)) t.2.1.length,t.2.1,t.2.1.length,0)) ⟨by show t.2.1.length<=_;omega,0,aN _,rfl,rfl,a3,λo ho=>⟨by have:=(nc _ _ b2 o ho).1;omega,hv.1.1 o ho⟩,by show(dX (t.1.foldl R8 (dX [] t.1.length)) t.2.1.length).length<=_;omega⟩];simp only[ae,vD,A9,bo,aQ];rw[ju (d:=(t.2.1.foldl RE (dX (t.1.foldl R8 (dX [] t.1.length)) t.2.1.length),t.2.2.1)) ⟨by show(t.2.1.foldl RE (dX (t.1.foldl R8 (dX [] t.1.length)) t.2.1.length)).length<=_;omega,hv.2.2⟩];rfl
theorem WJ:tW.RS:=rE [.d ee] tW
def Z8:=tW.gf ar3 2 ⟨.gA acZ,⟨.gA ac0,trivial⟩⟩
def wV(n:Int)(x:j9):Int:=n+(10+8*x.2.1.2.1.length)+(if x.2.1.2.2.1=0 then 0 else 4)
def kE(t:dM):Int:=if iF t then t.1.foldl wV (10+8*t.2.1.length) else 0
def dK(t:dM):List cw:=if iF t then t.1.map (·.1) else []
def Cs(id:List Int)(k n:Nat):List cw:=(List.range' k n).map λi:Nat=>(id,((i:Int),()))
def fT(t:dM):List cw:=if iF t then Cs (sP t) 0 t.2.1.length else []
def aBM:dM->Prop:=λt=>wX t
def Nu:dM->Bs:=λt=>sP t
def tid:Fs Tryz.prog aBM bG Nu:=fV 20 Tryz.f20 (λt=>([.d ee t],[])) (λx=>⟨.d tH x,[],[]⟩) [ao ee] [qf,Z8,R7]
theorem aE3(t)(k:K1 R):tid.A t k=aq (hP.call t) λx1=>aS (!x1) (k (tid.out (ai 32 0))) (aq (tW.call t) λx2=>aq (Oo.call ((⟨#[116,120]⟩:ByteArray),[x2])) λx3=>k (tid.out x3)):=cM
theorem aE4:tid.Ok:=by
 intro t hv;have hv:wX t:=hv;rw[aE3,nq (d:=t) hv.1];simp only[ae,bG,pt,bG,Nu,sP];cases iO:iF t
 ·rfl
 ·have hl:=Vs iO hv;rw[WJ (d:=t) ⟨iO,hv⟩];simp only[cG,al,cY,ae,bG,WI];rw[LP (d:=((⟨#[116,120]⟩:ByteArray),[wH t])) (ahy eZ au)];rfl
theorem A6:tid.RS:=rE [.d ee] tid
def Kf:=tid.gf aE4
abbrev NB:=Int×(List j9)×Int×Int
def WU:NB->Prop:=λ(n,l,m,i)=>(l).length<=1000000000/\∃k:Nat,k<=(l).length/\i=k/\m=(l).length/\(l.length<=64)/\(∀x∈l,x.2.1.2.1.length<=12)/\(0<=n)/\(n<=1000+200*(k:Int))
def yS:NB->Int:=λ(n,l,m,i)=>(bV (ab i) l).foldl wV n
def ahN:dM->Prop:=λt=>wX t
def Ht:dM->Int:=λt=>kE t
def lP:Ls WU bG yS:=yg (λ(n,t15,t16,t17)=>⟨([cq,cq,cq,.d ti n]++bf 11 ([.d (.slice gB) t15,.d ti t16,.d ti t17]++bf 19 [])),[],(ai 37 [])⟩) (λx=>(.exit 0,⟨([cq,cq,cq,.d ti x]++bf 33 []),[],(ai 37 [])⟩))
def q9:Fs Tryz.prog ahN bG Ht:=fV 44 Tryz.f44 (λt=>([.d ee t],[])) (λx=>⟨.d ti x,[],[]⟩) [ao ee] [qf] {loops:=so [(5,{bp:=[3,15,16,17]})],outs:=sm [(5,{bp:=[3]},{bp:=[2]})],gS:=tt [(5,lP.E)]}
theorem WV:lP.RS:=rL [.d ti,.d (.slice gB),.d ti,.d ti] lP
theorem EE(n t15 t16 t17)(kn:K2 R)(kx:K3 R):q9.R 0 lP (n,t15,t16,t17) kn kx=aS (gY t17 t16) (aS (gI t17 (t15.length:Int)) (aS (JE (nth gB t15 (ab t17)).2.1.2.2.1 0) (kn (lP.st ((bT .i64 (bT .i64 n (bT .i64 10 (jj .i64 8 (((ag (nth gB t15 (ab t17)).2.1.2.1):Nat):Int)))) 4),t15,t16,(bT .i64 t17 1)))) (kn (lP.st ((bT .i64 n (bT .i64 10 (jj .i64 8 (((ag (nth gB t15 (ab t17)).2.1.2.1):Nat):Int)))),t15,t16,(bT .i64 t17 1))))) aJ) (lP.go kx n):=cM
theorem alv(t)(k:K1 R):q9.A t k=aq (hP.call t) λx1=>aS (!x1) (k (q9.out 0)) (aq (lP.call ((bT .i64 10 (jj .i64 8 (t.2.1.length:Int))),t.1,(t.1.length:Int),0)) λx2=>k (q9.out x2)):=cM
theorem Yf:(q9.mM 0 lP):=by
 refine(q9.qG 0 lP) (λ(n,l,m,i)=>(l).length - ab i) ?_
 rintro⟨n,l,m,i⟩ ⟨hlen,k,hk,rfl,rfl,aji,hx,h0,h1⟩;have hlen:(l).length<=1000000000:=hlen;have hk:k<=(l).length:=hk;have aji:l.length<=64:=aji;have hx:∀x∈l,x.2.1.2.1.length<=12:=hx;have h0:0<=n:=h0;have h1:n<=1000+200*(k:Int):=h1;by_cases h:k < (l).length
 ·left;have n1:nth gB l k=l[k]:=da (t:=gB) h;have hd:bV k l=l[k]::bV (k+1) l:=aC h;refine⟨((wV n l[k]),l,((l).length:Int),((k+1:Nat):Int)),⟨hlen,k+1,au,rfl,rfl,aji,hx,by unfold wV;split <;> omega,by have:=hx _ (aV h);unfold wV;split <;> omega⟩,by simp only[aa];omega,?_,λkn kx=> ?_⟩
  ·simp only[bG,yS,aa,hd,aX]
  ·rw[EE,bm au,bz au au,aa,n1];simp only[aj];have e:=hx _ (aV h);rw[N.aG6 au];have e2:bT .i64 10 ((8*l[k].2.1.2.1.length:Nat):Int)=10+8*(l[k].2.1.2.1.length:Int):=by rw[gX au au];omega
   rw[e2,gX (x:=n) au au,N.nV au];unfold wV;by_cases hs:l[k].2.1.2.2.1=0
   ·rw[eU hs,al,if_pos hs,Int.add_zero]
   ·rw[gZ hs,aj,if_neg hs,gX au au]
 ·right;obtain rfl:k=(l).length:=au;intro R kn kx;rw[EE,bh au,al];simp only[bG,yS,aa,aU,db]
theorem alw:q9.Ok:=by
 intro t hv;have hv:wX t:=hv;rw[alv,nq (d:=t) hv.1];simp only[ae,bG,pt,bG,Ht,kE];cases iO:iF t
 ·rfl
 ·obtain⟨⟨_,a2,a3,_⟩,b1,b2⟩:=jg iO;rw[N.aG6 au,gX au au,WV (d:=(10+((8*t.2.1.length:Nat):Int),t.1,t.1.length,0)) ⟨by show t.1.length<=_;omega,0,aN _,rfl,rfl,a2,λx hx=>(Du (oR _ _ b1 x hx)).2.2.2.2,by show(0:Int)<=10+((8*t.2.1.length:Nat):Int);omega,by show 10+((8*t.2.1.length:Nat):Int)<=_;omega⟩];simp only[ae,bG,yS,bo,aQ,cG,al,cY,kG];rfl
theorem Rl:q9.RS:=rE [.d ee] q9
def WW:=q9.gf alw 1 ⟨.gA Yf,trivial⟩
abbrev Q9:=Bs×(List j9)×Int×Int
abbrev Gu:=Bs×(List j9)×Int×Int×(List Sg)×Int×Int×j9
def vB:Gu->Bs->(((List j9)×Int×Int×j9)×(Bs)):=λ(ov,Wo,Wp,zZ,t32,t33,t34,n5) y=>((Wo,Wp,zZ,n5),y)
def X3:Gu->Prop:=λ(b,l1,aIa,i1,l,n,i,x)=>(l).length<=1000000000/\∃k:Nat,k<=(l).length/\i=k/\n=(l).length/\(l.length<=12)/\(b.length<=80000000+16*k)
def A5:Gu->Bs:=λ(b,l1,aIa,i1,l,n,i,x)=>(bV (ab i) l).foldl Wb b
def X1:Q9->Prop:=λ(b,l,n,i)=>(l).length<=1000000000/\∃k:Nat,k<=(l).length/\i=k/\n=(l).length/\(l.length<=64)/\(∀x∈l,x.2.1.2.1.length<=12/\x.2.1.1<=9223372036854775807)/\(b.length<=100000+1000*k)
def Gs:Q9->Bs:=λ(b,l,n,i)=>(bV (ab i) l).foldl aly b
theorem Wc:∀(l:List Sg) (b:List Int),(l.foldl Wb b).length=b.length+16*l.length
 |[],b=>rfl
 |x::l,b=>by have h1:=ahk b x;have h3:=Wc l (Wb b x);rw[aX,aH];omega
theorem ayB(b:List Int)(x:j9)(h:x.2.1.2.1.length<=12):(aly b x).length<=b.length+300:=by have e1:=fE b x.2.1.1;have e2:=fE (dX b x.2.1.1) x.2.1.2.1.length;have e3:=Wc x.2.1.2.1 (dX (dX b x.2.1.1) x.2.1.2.1.length);unfold aly;rw[ak,dA];omega
def ali:dM->Prop:=λt=>wX t
def Wx:dM->Bs:=λt=>aBP t
def p9:Ls X1 bG Gs:=yg (λ(b,t14,t15,t16)=>⟨([cq,cq,cq,.d tB b]++bf 10 ([.d (.slice gB) t14,.d ti t15,.d ti t16]++bf 36 [])),[],(ai 53 [])⟩) (λx=>(.exit 0,⟨([cq,cq,cq,.d tB x]++bf 49 []),[],(ai 53 [])⟩))
def qa:Ls X3 vB A5:=yg (λ(ov,Wo,Wp,zZ,t32,t33,t34,n5)=>⟨([cq,cq,cq,.d tB ov,cq,fu 5]++bf 8 ([.d (.slice gB) Wo,.d ti Wp,.d ti zZ]++bf 15 ([.d (.slice No) t32,.d ti t33,.d ti t34]++bf 18 []))),[],(bI 5 ([dG (.d gB n5)]++bI 47 []))⟩) (λx=>(.exit 2,⟨([cq,cq,cq,.d tB x.2,cq,fu 5]++bf 8 ([.d (.slice gB) x.1.1,.d ti x.1.2.1,.d ti x.1.2.2.1]++bf 36 [])),[],(bI 5 ([dG (.d gB x.1.2.2.2)]++bI 47 []))⟩))
def tS:Fs Tryz.prog ali bG Wx:=fV 89 Tryz.f89 (λt=>([.d ee t],[])) (λx=>⟨.d tB x,[],[]⟩) [ao ee] [qf,Z8,RZ,aeG] {loops:=so [(5,{bp:=[3,14,15,16]}),(9,{bp:=[3,5,14,15,16,32,33,34],sites:=[5]})],outs:=sm [(5,{bp:=[3]},{bp:=[2]}),(9,{bp:=[3,5,14,15,16],sites:=[5]},{bp:=[2]})],gS:=tt [(5,p9.E),(9,qa.E)],res:=[ao tB]}
theorem X2:p9.RS:=rL [.d tB,.d (.slice gB),.d ti,.d ti] p9
theorem Gt(b t14 t15 t16)(kn:K2 R)(kx:K3 R):tS.R 0 p9 (b,t14,t15,t16) kn kx=aS (gY t16 t15) (aS (gI t16 (t14.length:Int)) (aq (zg.call (b,(nth gB t14 (ab t16)).2.1.1)) λx1=>aq (zg.call (x1,(((ag (nth gB t14 (ab t16)).2.1.2.1):Nat):Int))) λx2=>aq (qa.call (x2,t14,t15,t16,(nth gB t14 (ab t16)).2.1.2.1,(((ag (nth gB t14 (ab t16)).2.1.2.1):Nat):Int),0,(nth gB t14 (ab t16)))) λx3=>aq (Fe.call (x3.2,x3.1.2.2.2.2.1.2.2.1)) λx4=>kn (p9.st (x4,x3.1.1,x3.1.2.1,(bT .i64 x3.1.2.2.1 1)))) aJ) (p9.go kx b):=cM
theorem X4:qa.RS:=rL [.d tB,.d (.slice gB),.d ti,.d ti,.d (.slice No),.d ti,.d ti,.d gB] qa
theorem Gv(ov Wo Wp zZ t32 t33 t34 n5)(kn:K2 R)(kx:K3 R):tS.R 1 qa (ov,Wo,Wp,zZ,t32,t33,t34,n5) kn kx=aS (gY t34 t33) (aS (gI t34 (t32.length:Int)) (aq (Fe.call (ov,(nth No t32 (ab t34)).1)) λx1=>aq (Fe.call (x1,(nth No t32 (ab t34)).2.1)) λx2=>kn (qa.st (x2,Wo,Wp,zZ,t32,t33,(bT .i64 t34 1),n5))) aJ) (qa.go kx ((Wo,Wp,zZ,n5),ov)):=cM
theorem arW(t)(k:K1 R):tS.A t k=aq (hP.call t) λx1=>aS (!x1) (k (tS.out ([]:List Int))) (aq (tW.call t) λx2=>aq (p9.call (x2,t.1,(t.1.length:Int),0)) λx9=>k (tS.out x9)):=cM
theorem acW:(tS.mM 1 qa):=by
 refine(tS.qG 1 qa) (λ(b,l1,aIa,i1,l,n,i,x)=>(l).length - ab i) ?_
 rintro⟨b,l1,aIa,i1,l,n,i,x⟩ ⟨hlen,k,hk,rfl,rfl,aso,hb⟩;have hlen:(l).length<=1000000000:=hlen;have hk:k<=(l).length:=hk;have aso:l.length<=12:=aso;have hb:b.length<=80000000+16*k:=hb;by_cases h:k < (l).length
 ·left;have n1:nth No l k=l[k]:=da (t:=No) h;have hd:bV k l=l[k]::bV (k+1) l:=aC h;refine⟨((Wb b l[k]),l1,aIa,i1,l,((l).length:Int),((k+1:Nat):Int),x),⟨hlen,k+1,au,rfl,rfl,aso,by have:=ahk b l[k];omega⟩,by simp only[aa];omega,?_,λkn kx=> ?_⟩
  ·simp only[vB,A5,aa,hd,aX]
  ·rw[Gv,bm au,bz au au,aa,n1];simp only[aj];rw[Cg (d:=(b,l[k].1)) (by show b.length<=_;omega)];simp only[ae,bG,La];rw[Cg (d:=(b++mq l[k].1,l[k].2.1)) (by show(b++mq l[k].1).length<=_;rw[ak,dA];omega)];simp only[ae,bG,La];rw[N.nV au];rfl
 ·right;obtain rfl:k=(l).length:=au;intro R kn kx;rw[Gv,bh au,al];simp only[vB,A5,aa,aU,db]
theorem acV:(tS.mM 0 p9):=by
 refine(tS.qG 0 p9) (λ(b,l,n,i)=>(l).length - ab i) ?_
 rintro⟨b,l,n,i⟩ ⟨hlen,k,hk,rfl,rfl,aji,hx,hb⟩;have hlen:(l).length<=1000000000:=hlen;have hk:k<=(l).length:=hk;have aji:l.length<=64:=aji;have hx:∀x∈l,x.2.1.2.1.length<=12/\x.2.1.1<=9223372036854775807:=hx;have hb:b.length<=100000+1000*k:=hb;by_cases h:k < (l).length
 ·left;have n1:nth gB l k=l[k]:=da (t:=gB) h;have hd:bV k l=l[k]::bV (k+1) l:=aC h;refine⟨((aly b l[k]),l,((l).length:Int),((k+1:Nat):Int)),⟨hlen,k+1,au,rfl,rfl,aji,hx,by have:=ayB b l[k] (hx _ (aV h)).1;omega⟩,by simp only[aa];omega,?_,λkn kx=> ?_⟩
  ·simp only[bG,Gs,aa,hd,aX]
  ·rw[Gt,bm au,bz au au,aa,n1];simp only[aj];have e:=hx _ (aV h);have e1:=fE b l[k].2.1.1;have e2:=fE (dX b l[k].2.1.1) l[k].2.1.2.1.length;have e3:=Wc l[k].2.1.2.1 (dX (dX b l[k].2.1.1) l[k].2.1.2.1.length);rw[ju (d:=(b,l[k].2.1.1)) ⟨by show b.length<=_;omega,e.2⟩];simp only[ae,bG,oC];rw[ju (d:=(dX b l[k].2.1.1,(l[k].2.1.2.1.length:Int))) ⟨by show(dX b l[k].2.1.1).length<=_;omega,by show(l[k].2.1.2.1.length:Int)<=_;omega⟩];simp only[ae,bG,oC];rw[X4 (d:=(dX (dX b l[k].2.1.1) l[k].2.1.2.1.length,l,l.length,k,l[k].2.1.2.1,l[k].2.1.2.1.length,0,l[k])) ⟨by show l[k].2.1.2.1.length<=_;omega,0,aN _,rfl,rfl,e.1,by show(dX (dX b l[k].2.1.1) l[k].2.1.2.1.length).length<=_;omega⟩];simp only[ae,vB,A5,bo,aQ];rw[Cg (d:=(l[k].2.1.2.1.foldl Wb (dX (dX b l[k].2.1.1) l[k].2.1.2.1.length),l[k].2.1.2.2.1)) (by show(l[k].2.1.2.1.foldl Wb (dX (dX b l[k].2.1.1) l[k].2.1.2.1.length)).length<=_;omega)];simp only[ae,bG,La];rw[N.nV au];rfl
 ·right;obtain rfl:k=(l).length:=au;intro R kn kx;rw[Gt,bh au,al];simp only[bG,Gs,aa,aU,db]
theorem arX:tS.Ok:=by
 intro t hv;have hv:wX t:=hv;rw[arW,nq (d:=t) hv.1];simp only[ae,bG,pt,bG,Wx,aBP];cases iO:iF t
 ·rfl
 ·obtain⟨⟨_,a2,a3,_⟩,b1,b2⟩:=jg iO;have hl:=Vs iO hv;rw[WJ (d:=t) ⟨iO,hv⟩];simp only[cG,al,cY,ae,bG,WI];rw[X2 (d:=(wH t,t.1,t.1.length,0)) ⟨by show t.1.length<=_;omega,0,aN _,rfl,rfl,a2,λx hx=>by have:=Du (oR _ _ b1 x hx);exact⟨this.2.2.2.2,au⟩,by show(wH t).length<=_;omega⟩];rfl
theorem alj:tS.RS:=rE [.d ee] tS
def arY:=tS.gf arX 2 ⟨.gA acV,⟨.gA acW,trivial⟩⟩
abbrev Nz:=Nat×(List j9)×Int×Int×(List cw)
def WR:Nz->Prop:=λ(L,l,n,i,r)=>(l).length<=1000000/\∃k:Nat,k<=(l).length/\i=k/\n=(l).length/\L=(r).length/\(r).length<=1000000+k
def yR:Nz->(Nat×(List cw)):=λ(L,l,n,i,r)=>(L+(bV (ab i) l).length,r++(bV (ab i) l).map (λx:j9=>x.1))
def ahM:dM->Prop:=λt=>aFP t
def Hs:dM->(List cw):=λt=>dK t
def nr:Ls WR bG yR:=yg (λ(lL,t9,t10,t11,n19)=>⟨([cq,cq,oa 19 lL]++bf 6 ([.d (.slice gB) t9,.d ti t10,.d ti t11]++bf 10 [])),[],(bI 19 [dG (.vec 59 bM n19),[],[]])⟩) (λx=>(.exit 0,⟨([cq,cq,oa 19 x.1]++bf 19 []),[],(bI 19 [dG (.vec 59 bM x.2),[],[]])⟩))
def qZ:Fs Tryz.prog ahM bG Hs:=fV 47 Tryz.f47 (λt=>([.d ee t],[])) (λx=>⟨.d (.slice bM) x,[],[]⟩) [ao ee] [qf] {loops:=so [(4,{bp:=[2,9,10,11],sites:=[19],owns:=[⟨2,[],19,26⟩]})],outs:=sm [(4,{bp:=[2],sites:=[19]},{bp:=[2]})],gS:=tt [(4,nr.E)],res:=[ao (.slice bM)]}
theorem WS:nr.RS:=rL [.n,.d (.slice gB),.d ti,.d ti,.d (.slice bM)] nr
theorem ED(lL t9 t10 t11 n19)(kn:K2 R)(kx:K3 R):qZ.R 0 nr (lL,t9,t10,t11,n19) kn kx=aS (gY t11 t10) (aS (gI t11 (t9.length:Int)) (aS (decide (lL<=(ag n19))) (aS (ea (lL+1) 40) (kn (nr.st ((lL+1),t9,t10,(bT .i64 t11 1),((bn lL n19)++ [(nth gB t9 (ab t11)).1])))) aJ) aJ) aJ) (nr.go kx (lL,n19)):=cM
theorem als(t)(k:K1 R):qZ.A t k=aq (hP.call t) λx1=>aS (!x1) (k (qZ.out ([]:List cw))) (aq (nr.call (0,t.1,(t.1.length:Int),0,([]:List cw))) λx2=>aS (decide (0=0/\(0+x2.1)<=(ag x2.2))) (k (qZ.out (cut x2.2 0 x2.1))) aJ):=cM
theorem Ye:(qZ.mM 0 nr):=by
 refine(qZ.qG 0 nr) (λ(L,l,n,i,r)=>(l).length - ab i) ?_
 rintro⟨L,l,n,i,r⟩ ⟨hlen,k,hk,rfl,rfl,rfl,sJ⟩;have hlen:(l).length<=1000000:=hlen;have hk:k<=(l).length:=hk;have sJ:(r).length<=1000000+k:=sJ;by_cases h:k < (l).length
 ·left;have n1:nth gB l k=l[k]:=da (t:=gB) h;have hd:bV k l=l[k]::bV (k+1) l:=aC h;refine⟨((r).length+1,l,((l).length:Int),((k+1:Nat):Int),r++ [(λx:j9=>x.1) l[k]]),⟨hlen,k+1,au,rfl,rfl,by rw[ak];rfl,by rw[ak];show(r).length+1<=_;omega⟩,by simp only[aa];omega,?_,λkn kx=> ?_⟩
  ·simp only[bG,yR,aa,hd,cr,aH,aO,dQ];rw[show ∀a c:Nat,a+1+c=a+(c+1) from λa c=>au]
  ·rw[ED,bm au,bz (show(0:Int)<=(k:Int) by omega) au,aa,n1];simp only[aj];rw[ba (aF _),eW au au,N.nV au,cJ];rfl
 ·right;obtain rfl:k=(l).length:=au;intro R kn kx;rw[ED,bh au,al];simp only[bG,yR,aa,aU,iU,bP,bB,cX]
theorem alu:qZ.Ok:=by
 intro t hv;have hv:aFP t:=hv;rw[als,nq (d:=t) hv];simp only[ae,bG,pt,bG,Hs,dK];cases iO:iF t
 ·rfl
 ·obtain⟨⟨_,a2,a3,_⟩,b1,b2⟩:=jg iO;rw[WS (d:=(0,t.1,t.1.length,0,[])) ⟨by show t.1.length<=_;omega,0,aN _,rfl,rfl,rfl,aN _⟩];simp only[cG,al,cY,ae,bG,yR,bo,aQ,aY,bg];rw[ba ⟨by trivial,by rw[cH];exact aF _⟩,aj,fA (by rw[cH])]
theorem Rk:qZ.RS:=rE [.d ee] qZ
def WT:=qZ.gf alu 1 ⟨.gA Ye,trivial⟩
abbrev WG:=Nat×Int×Int×Bs×(List cw)
def acX:WG->Prop:=λ(L,n,i,id,r)=>∃k m:Nat,k<=m/\i=k/\n=m/\m<=1000/\L=r.length/\L=k
def D4:WG->(Nat×(List cw)):=λ(L,n,i,id,r)=>(L+(n - i).toNat,r++Cs id i.toNat (n - i).toNat)
def ar0:dM->Prop:=λt=>wX t
def Ss:dM->(List cw):=λt=>fT t
def tT:Ls acX bG D4:=yg (λ(lL,t12,t13,n3,n21)=>⟨([cq,cq,oa 21 lL,fu 3]++bf 8 ([.d ti t12,.d ti t13]++bf 10 [])),[],([[],[],[],dG (.d tH n3)]++bI 17 [dG (.vec 59 bM n21),[],[]])⟩) (λx=>(.exit 0,⟨([cq,cq,oa 21 x.1]++bf 21 []),[],(bI 21 [dG (.vec 59 bM x.2),[],[]])⟩))
def EC:Fs Tryz.prog ar0 bG Ss:=fV 74 Tryz.f74 (λt=>([.d ee t],[])) (λx=>⟨.d (.slice bM) x,[],[]⟩) [ao ee] [Kf,qf] {loops:=so [(5,{bp:=[2,3,12,13],sites:=[3,21],owns:=[⟨2,[],21,26⟩]})],outs:=sm [(5,{bp:=[2],sites:=[21]},{bp:=[2]})],gS:=tt [(5,tT.E)],res:=[ao (.slice bM)]}
theorem acY:tT.RS:=rL [.n,.d ti,.d ti,.d tB,.d (.slice bM)] tT
theorem IB(lL t12 t13 n3 n21)(kn:K2 R)(kx:K3 R):EC.R 0 tT (lL,t12,t13,n3,n21) kn kx=aS (gY t13 t12) (aS (decide (lL<=(ag n21))) (aS (ea (lL+1) 40) (kn (tT.st ((lL+1),t12,(bT .i64 t13 1),n3,((bn lL n21)++ [(n3,(t13,()))])))) aJ) aJ) (tT.go kx (lL,n21)):=cM
theorem aye(t)(k:K1 R):EC.A t k=aq (tid.call t) λx1=>aq (hP.call t) λx2=>aS (!x2) (k (EC.out ([]:List cw))) (aq (tT.call (0,(t.2.1.length:Int),0,x1,([]:List cw))) λx3=>aS (decide (0=0/\(0+x3.1)<=(ag x3.2))) (k (EC.out (cut x3.2 0 x3.1))) aJ):=cM
theorem ap6(id:List Int)(k n:Nat):(Cs id k n).length=n:=by simp[Cs]
theorem ajQ(id:List Int)(k n:Nat):Cs id k (n+1)=(id,((k:Int),()))::Cs id (k+1) n:=by unfold Cs;rw[List.range'_succ,cr]
theorem ahD:(EC.mM 0 tT):=by
 refine(EC.qG 0 tT) (λ(L,n,i,id,r)=>(n - i).toNat) ?_
 rintro⟨L,n,i,id,r⟩ ⟨k,m,hk,rfl,rfl,hm,rfl,aKE⟩;have aKE:r.length=k:=aKE;by_cases h:k < m
 ·left;have e1:((m:Int) - (k:Int)).toNat=(m - (k+1))+1:=au;have e2:((m:Int) - ((k+1:Nat):Int)).toNat=m - (k+1):=au;refine⟨(r.length+1,(m:Int),((k+1:Nat):Int),id,r++ [(id,((k:Int),()))]),⟨k+1,m,au,rfl,rfl,hm,by rw[ak];rfl,by show r.length+1=_;omega⟩,by show((m:Int) - ((k+1:Nat):Int)).toNat < ((m:Int) - (k:Int)).toNat;omega,?_,λkn kx=> ?_⟩
  ·simp only[bG,D4,e1,e2,aa,ajQ,aO,dQ];rw[show r.length+1+(m - (k+1))=r.length+(m - (k+1)+1) by omega]
  ·rw[IB,bm au,ba (aF _),eW au au,N.nV au,cJ];rfl
 ·right;obtain rfl:k=m:=au;intro R kn kx;rw[IB,bh au,al];simp only[bG,D4,Int.sub_self,bo,cX];rw[show Cs id (k:Int).toNat 0=[] from rfl,bP]
theorem ayf:EC.Ok:=by
 intro t hv;have hv:wX t:=hv;rw[aye,A6 (d:=t) hv,nq (d:=t) hv.1];simp only[ae,bG,Nu,bG,pt,bG,Ss,fT];cases iO:iF t
 ·rfl
 ·obtain⟨⟨_,a2,a3,_⟩,b1,b2⟩:=jg iO;have hl:=ap6 (sP t) 0 t.2.1.length;rw[acY (d:=(0,t.2.1.length,0,sP t,[])) ⟨0,t.2.1.length,aN _,rfl,rfl,au,rfl,rfl⟩];simp only[cG,al,cY,ae,bG,D4,px,aa,bo,aY,bg];rw[ba ⟨by trivial,by rw[hl];exact aF _⟩,aj,fA hl]
theorem Z7:EC.RS:=rE [.d ee] EC
def ahE:=EC.gf ayf 1 ⟨.gA ahD,trivial⟩
def aty:(List j9)->Prop:=λl=>l.length<=1000000
def aiP:(List j9)->(Nat×(List j9)):=λl=>(l.length,l)
def aaC:Fs Tryz.prog aty bG aiP:=fV 119 Tryz.f119 (λsv=>([.d (.slice gB) sv],[])) (λx=>⟨.b8 (.new 0 0) 0 [] 0 0 x.1,[],[.obj 0 aR (.vec 88 gB x.2)]⟩) [ao (.slice gB)] [] {bN:=[5],owns:=[⟨2,[],5,54⟩]}
theorem azr(sv)(k:K1 R):aaC.A sv k=aS (decide (0 < (ag sv))) (aS (ea (0+(ag sv)) 80) (k (aaC.out ((0+(ag sv)),((bn 0 (ai 0 (((ai 32 0),(0,())),((0,(([]:List Sg),(0,()))),()))))++sv)))) aJ) (nd (k (aaC.out (0,([]:List j9)))) (aS (ea (0+(ag sv)) 80) (k (aaC.out ((0+(ag sv)),((bn 0 (ai 0 (((ai 32 0),(0,())),((0,(([]:List Sg),(0,()))),()))))++sv)))) aJ)):=cM
theorem azs:aaC.Ok:=by
 intro l hl;have hl:l.length<=1000000:=hl;have hr:ea l.length 80=aT:=eW au au;rw[azr];simp only[bg,hr,aj,fg,aY,bG,aiP];by_cases h:0 < l.length
 ·simp only[ba h,aj]
 ·have:l=[]:=bu au;subst this;simp only[bB,AO,bE (gv 0),al]
theorem atz:aaC.RS:=rE [.d (.slice gB)] aaC
def azt:=aaC.gf azs
def aoK:(List lT)->Prop:=λl=>l.length<=1000000
def aaE:(List lT)->(Nat×(List lT)):=λl=>(l.length,l)
def KZ:Fs Tryz.prog aoK bG aaE:=fV 120 Tryz.f120 (λsv=>([.d (.slice jy) sv],[])) (λx=>⟨.b8 (.new 0 0) 0 [] 0 0 x.1,[],[.obj 0 aR (.vec 51 jy x.2)]⟩) [ao (.slice jy)] [] {bN:=[5],owns:=[⟨2,[],5,22⟩]}
theorem atC(sv)(k:K1 R):KZ.A sv k=aS (decide (0 < (ag sv))) (aS (ea (0+(ag sv)) 32) (k (KZ.out ((0+(ag sv)),((bn 0 (ai 0 (0,((([]:List ud),()),()))))++sv)))) aJ) (nd (k (KZ.out (0,([]:List lT)))) (aS (ea (0+(ag sv)) 32) (k (KZ.out ((0+(ag sv)),((bn 0 (ai 0 (0,((([]:List ud),()),()))))++sv)))) aJ)):=cM
theorem atD:KZ.Ok:=by
 intro l hl;have hl:l.length<=1000000:=hl;have hr:ea l.length 32=aT:=eW au au;rw[atC];simp only[bg,hr,aj,fg,aY,bG,aaE];by_cases h:0 < l.length
 ·simp only[ba h,aj]
 ·have:l=[]:=bu au;subst this;simp only[bB,AO,bE (gv 0),al]
theorem aoL:KZ.RS:=rE [.d (.slice jy)] KZ
def atE:=KZ.gf atD
def atx:(List ud)->Prop:=λl=>l.length<=1000000
def aaB:(List ud)->(Nat×(List ud)):=λl=>(l.length,l)
def Xh:Fs Tryz.prog atx bG aaB:=fV 63 Tryz.f63 (λsv=>([.d (.slice sH) sv],[])) (λx=>⟨.b8 (.new 0 0) 0 [] 0 0 x.1,[],[.obj 0 aR (.vec 93 sH x.2)]⟩) [ao (.slice sH)] [] {bN:=[5],owns:=[⟨2,[],5,44⟩]}
theorem azp(sv)(k:K1 R):Xh.A sv k=aS (decide (0 < (ag sv))) (aS (ea (0+(ag sv)) 48) (k (Xh.out ((0+(ag sv)),((bn 0 (ai 0 (([]:List Int),(0,(0,(0,()))))))++sv)))) aJ) (nd (k (Xh.out (0,([]:List ud)))) (aS (ea (0+(ag sv)) 48) (k (Xh.out ((0+(ag sv)),((bn 0 (ai 0 (([]:List Int),(0,(0,(0,()))))))++sv)))) aJ)):=cM
theorem azq:Xh.Ok:=by
 intro l hl;have hl:l.length<=1000000:=hl;have hr:ea l.length 48=aT:=eW au au;rw[azp];simp only[bg,hr,aj,fg,aY,bG,aaB];by_cases h:0 < l.length
 ·simp only[ba h,aj]
 ·have:l=[]:=bu au;subst this;simp only[bB,AO,bE (gv 0),al]
theorem aet:Xh.RS:=rE [.d (.slice sH)] Xh
def al3:=Xh.gf azq
def aoM:(List Sg)->Prop:=λl=>l.length<=1000000
def aaF:(List Sg)->(List Sg):=λl=>l
def K4:Fs Tryz.prog aoM bG aaF:=fV 121 Tryz.f121 (λsv=>([.d (.slice No) sv],[])) (λx=>⟨.d (.slice No) x,[],[]⟩) [ao (.slice No)] [] {bN:=[5],res:=[ao (.slice No)]}
theorem atF(sv)(k:K1 R):K4.A sv k=aS (decide (0 < (ag sv))) (aS (ea (0+(ag sv)) 16) (aS (decide (0=0/\(0+(0+(ag sv)))<=(ag ((bn 0 (ai 0 (0,(0,()))))++sv)))) (k (K4.out (cut ((bn 0 (ai 0 (0,(0,()))))++sv) 0 (0+(ag sv))))) aJ) aJ) (nd (k (K4.out ([]:List Sg))) (aS (ea (0+(ag sv)) 16) (aS (decide (0=0/\(0+(0+(ag sv)))<=(ag ((bn 0 (ai 0 (0,(0,()))))++sv)))) (k (K4.out (cut ((bn 0 (ai 0 (0,(0,()))))++sv) 0 (0+(ag sv))))) aJ) aJ)):=cM
theorem atG:K4.Ok:=by
 intro l hl;have hl:l.length<=1000000:=hl;have hr:ea l.length 16=aT:=eW au au;rw[atF];simp only[bg,hr,aj,fg,aY,aF,kf,cV,fA,bG,aaF];by_cases h:0 < l.length
 ·simp only[ba h,aj]
 ·have:l=[]:=bu au;subst this;simp only[bB,AO,bE (gv 0),al]
theorem aoN:K4.RS:=rE [.d (.slice No)] K4
def atH:=K4.gf atG
abbrev D1:=Int×Int×Nat×Nat×(Int×Unit)×(Int×Unit)×(List j9)×(List lT)
def Gw:D1->(List j9)->((Nat×Nat×(Int×Unit)×(Int×Unit)×(List lT))×((List j9))):=λ(t17,t18,aAE,UH,n1,n2,n9,n12) y=>((aAE,UH,n1,n2,n12),y)
abbrev Nq:=Int×Int×Nat×Nat×(Int×Unit)×(Int×Unit)×(List j9)×(List lT)
abbrev D3:=Int×Nat×Int×Int×Int×Int×Nat×Nat×(Int×Unit)×(Int×Unit)×(List j9)×(List lT)×(List ud)
abbrev Nt:=(List ud)×(List ud)
def Gx:D3->Nt->((Int×Int×Int×Nat×Nat×(Int×Unit)×(Int×Unit)×(List j9)×(List lT))×((List ud)×(List ud))):=λ(kv,lL,wq,Ws,t51,t52,UI,UJ,ajY,zG,JS,UC,n49) y=>((kv,wq,Ws,UI,UJ,ajY,zG,JS,UC),y)
def Wy:D1->Prop:=λ(m,i,L,L2,u,v,l,os)=>(l.length<=1000/\∀x∈l,x.2.1.2.1.length<=1000000)/\∃k:Nat,k<=l.length/\i=k/\m=l.length/\L=l.length
def Np:D1->(List j9):=λ(m,i,L,L2,u,v,l,os)=>l
def WC:D3->Prop:=λ(kv,L,m1,i1,m,i,L5,L6,u,v,ls,os,bs)=>(bs.length<=1000/\∀x∈bs,x.1.length<=1000000)/\∃k:Nat,k<=bs.length/\i=k/\m=bs.length/\L=bs.length
def Ns:D3->Nt:=λ(kv,L,m1,i1,m,i,L5,L6,u,v,ls,os,bs)=>(bs,bs)
def WA:Nq->Prop:=λ(m,i,L3,L,u,v,ls,os)=>(os.length<=1000/\∀x∈os,x.2.1.1.length<=1000/\∀b∈x.2.1.1,b.1.length<=1000000)/\∃k:Nat,k<=os.length/\i=k/\m=os.length/\L=os.length
def Nr:Nq->(Nat×Nat×(Int×Unit)×(Int×Unit)×(List j9)×(List lT)):=λ(m,i,L3,L,u,v,ls,os)=>(L3,L,u,v,ls,os)
def ahA:dM->Prop:=λt=>iF t=aT
def Z6:dM->(Nat×((List lT)×(Int×Unit))×(List j9)):=λt=>(t.1.length,(t.2.1,t.2.2),t.1)
def lM:Ls Wy Gw Np:=yg (λ(t17,t18,aAE,UH,n1,n2,n9,n12)=>⟨([cq,fu 1,fu 2]++bf 14 ([.d ti t17,.d ti t18]++bf 56 [])),[],([[],dG (.pr (oa 9 aAE) (.pr (oa 12 UH) (.d (.pair ti .unit) n1))),dG (.pr (.dH) (.pr (.dH) (.d (.pair ti .unit) n2)))]++bI 6 ([dG (.vec 88 gB n9),[],[],dG (.vec 51 jy n12)]++bI 62 []))⟩) (λx=>(.exit 0,⟨([cq,fu 1,fu 2]++bf 72 []),[],([[],dG (.pr (oa 9 x.1.1) (.pr (oa 12 x.1.2.1) (.d (.pair ti .unit) x.1.2.2.1))),dG (.pr (.dH) (.pr (.dH) (.d (.pair ti .unit) x.1.2.2.2.1)))]++bI 6 ([dG (.vec 88 gB x.2),[],[],dG (.vec 51 jy x.1.2.2.2.2)]++bI 62 []))⟩))
def lN:Ls WA bG Nr:=yg (λ(t38,t39,af9,Zo,av1,sK,uA,UB)=>⟨([cq,fu 1,fu 2]++bf 35 ([.d ti t38,.d ti t39]++bf 35 [])),[],([[],dG (.pr (oa 9 af9) (.pr (oa 12 Zo) (.d (.pair ti .unit) av1))),dG (.pr (.dH) (.pr (.dH) (.d (.pair ti .unit) sK)))]++bI 6 ([dG (.vec 88 gB uA),[],[],dG (.vec 51 jy UB)]++bI 62 []))⟩) (λx=>(.exit 2,⟨([cq,fu 1,fu 2]++bf 72 []),[],([[],dG (.pr (oa 9 x.1) (.pr (oa 12 x.2.1) (.d (.pair ti .unit) x.2.2.1))),dG (.pr (.dH) (.pr (.dH) (.d (.pair ti .unit) x.2.2.2.1)))]++bI 6 ([dG (.vec 88 gB x.2.2.2.2.1),[],[],dG (.vec 51 jy x.2.2.2.2.2)]++bI 62 []))⟩))
def lO:Ls WC Gx Ns:=yg (λ(kv,lL,wq,Ws,t51,t52,UI,UJ,ajY,zG,JS,UC,n49)=>⟨([cq,fu 1,fu 2,cq,.d ti kv,oa 49 lL]++bf 32 ([.d ti wq,.d ti Ws]++bf 11 ([.d ti t51,.d ti t52]++bf 22 []))),[],([[],dG (.pr (oa 9 UI) (.pr (oa 12 UJ) (.d (.pair ti .unit) ajY))),dG (.pr (.dH) (.pr (.dH) (.d (.pair ti .unit) zG)))]++bI 6 ([dG (.vec 88 gB JS),[],[],dG (.vec 51 jy UC)]++bI 36 ([dG (.vec 93 sH n49)]++bI 25 [])))⟩) (λx=>(.exit 4,⟨([cq,fu 1,fu 2,cq,.d ti x.1.1,.d (.slice sH) x.2.1]++bf 32 ([.d ti x.1.2.1,.d ti x.1.2.2.1]++bf 35 [])),[],([[],dG (.pr (oa 9 x.1.2.2.2.1) (.pr (oa 12 x.1.2.2.2.2.1) (.d (.pair ti .unit) x.1.2.2.2.2.2.1))),dG (.pr (.dH) (.pr (.dH) (.d (.pair ti .unit) x.1.2.2.2.2.2.2.1)))]++bI 6 ([dG (.vec 88 gB x.1.2.2.2.2.2.2.2.1),[],[],dG (.vec 51 jy x.1.2.2.2.2.2.2.2.2)]++bI 36 ([[.obj 0 aT (.vec 93 sH x.2.2)]]++bI 25 [])))⟩))
def lX:Fs Tryz.prog ahA bG Z6:=fV 82 Tryz.f82 (λt=>([.d ee t],[])) (λx=>⟨.pr (.b8 (.new 0 0) 0 [] 0 0 x.1) (.d (.pair (.slice jy) (.pair ti .unit)) x.2.1),[],[.obj 0 aR (.vec 88 gB x.2.2)]⟩) [ao ee] [azt,atE,atH,al3,ZA] {bN:=[1],loops:=so [(3,{bp:=[1,2,17,18],sites:=[1,2,9,12]}),(8,{bp:=[1,2,38,39],sites:=[1,2,9,12]}),(12,{bp:=[1,2,4,5,38,39,51,52],sites:=[1,2,9,12,49]})],outs:=sm [(3,{bp:=[1,2],sites:=[1,2,9,12]},{bp:=[2]}),(8,{bp:=[1,2],sites:=[1,2,9,12]},{bp:=[2]}),(12,{bp:=[1,2,4,5,38,39],sites:=[1,2,9,12,49],data:=[(5,(.slice sH))]},{bp:=[2]})],gS:=tt [(3,lM.E),(8,lN.E),(12,lO.E)],Lu:=[⟨2,[.snd,.fst],(.slice jy)⟩]}
theorem Wz:lM.RS:=rL [.d ti,.d ti,.n,.n,.d (.pair ti .unit),.d (.pair ti .unit),.d (.slice gB),.d (.slice jy)] lM
theorem Ez(t17 t18 aAE UH n1 n2 n9 n12)(kn:K2 R)(kx:K3 R):lX.R 0 lM (t17,t18,aAE,UH,n1,n2,n9,n12) kn kx=aS (gY t18 t17) (aS (gI t18 ((aAE:Nat):Int)) (aS (decide ((0+(ab t18)) < (ag n9))) (aS (decide ((((0+(ab t18))*36)+34)=(((0+((ab t18)*36))+33)+1))) (aq (K4.call (nth gB n9 (0+(ab t18))).2.1.2.1) λx1=>aS (gI t18 ((aAE:Nat):Int)) (aS (decide ((0+(ab t18)) < (ag n9))) (aS (decide ((((0+(ab t18))*36)+34)=(((0+((ab t18)*36))+33)+1))) (aS (decide ((0+(ab t18)) < (ag n9))) (kn (lM.st (t17,(bT .i64 t18 1),aAE,UH,n1,n2,(gr n9 (0+(ab t18)) ((nth gB n9 (0+(ab t18))).1,(((nth gB n9 (0+(ab t18))).2.1.1,(x1,(nth gB n9 (0+(ab t18))).2.1.2.2)),(nth gB n9 (0+(ab t18))).2.2))),n12))) aJ) aJ) aJ) aJ) aJ) aJ) aJ) (lM.go kx ((aAE,UH,n1,n2,n12),n9)):=cM
theorem WB:lN.RS:=rL [.d ti,.d ti,.n,.n,.d (.pair ti .unit),.d (.pair ti .unit),.d (.slice gB),.d (.slice jy)] lN
theorem EA(t38 t39 af9 Zo av1 sK uA UB)(kn:K2 R)(kx:K3 R):lX.R 1 lN (t38,t39,af9,Zo,av1,sK,uA,UB) kn kx=aS (gY t39 t38) (aS (gI t39 ((Zo:Nat):Int)) (aS (decide ((0+(ab t39)) < (ag UB))) (aS (decide ((((0+(ab t39))*2)+1)=(((0+((ab t39)*2))+1)+0))) (aq (Xh.call (nth jy UB (0+(ab t39))).2.1.1) λx1=>aq (lO.call (t39,x1.1,t38,t39,((x1.1:Nat):Int),0,af9,Zo,av1,sK,uA,UB,x1.2)) λx2=>aS (gI x2.1.1 ((x2.1.2.2.2.2.1:Nat):Int)) (aS (decide ((0+(ab x2.1.1)) < (ag x2.1.2.2.2.2.2.2.2.2))) (aS (decide ((((0+(ab x2.1.1))*2)+1)=(((0+((ab x2.1.1)*2))+1)+0))) (aS (decide ((0+(ab x2.1.1)) < (ag x2.1.2.2.2.2.2.2.2.2))) (kn (lN.st (x2.1.2.1,(bT .i64 x2.1.2.2.1 1),x2.1.2.2.2.1,x2.1.2.2.2.2.1,x2.1.2.2.2.2.2.1,x2.1.2.2.2.2.2.2.1,x2.1.2.2.2.2.2.2.2.1,(gr x2.1.2.2.2.2.2.2.2.2 (0+(ab x2.1.1)) ((nth jy x2.1.2.2.2.2.2.2.2.2 (0+(ab x2.1.1))).1,((x2.2.1,(nth jy x2.1.2.2.2.2.2.2.2.2 (0+(ab x2.1.1))).2.1.2),(nth jy x2.1.2.2.2.2.2.2.2.2 (0+(ab x2.1.1))).2.2)))))) aJ) aJ) aJ) aJ) aJ) aJ) aJ) (lN.go kx (af9,Zo,av1,sK,uA,UB)):=cM
theorem WD:lO.RS:=rL [.d ti,.n,.d ti,.d ti,.d ti,.d ti,.n,.n,.d (.pair ti .unit),.d (.pair ti .unit),.d (.slice gB),.d (.slice jy),.d (.slice sH)] lO
theorem EB(kv lL wq Ws t51 t52 UI UJ ajY zG JS UC n49)(kn:K2 R)(kx:K3 R):lX.R 2 lO (kv,lL,wq,Ws,t51,t52,UI,UJ,ajY,zG,JS,UC,n49) kn kx=aS (gY t52 t51) (aS (gI t52 ((lL:Nat):Int)) (aS (decide ((0+(ab t52)) < (ag n49))) (aS (decide ((((0+(ab t52))*4)+0)=((0+((ab t52)*4))+0))) (aq (BB.call (nth sH n49 (0+(ab t52))).1) λx1=>aS (gI t52 ((lL:Nat):Int)) (aS (decide ((0+(ab t52)) < (ag n49))) (aS (decide ((((0+(ab t52))*4)+0)=((0+((ab t52)*4))+0))) (aS (decide ((0+(ab t52)) < (ag n49))) (kn (lO.st (kv,lL,wq,Ws,t51,(bT .i64 t52 1),UI,UJ,ajY,zG,JS,UC,(gr n49 (0+(ab t52)) (x1,(nth sH n49 (0+(ab t52))).2))))) aJ) aJ) aJ) aJ) aJ) aJ) aJ) (aS (decide (0=0/\(0+lL)<=(ag n49))) (lO.go kx ((kv,wq,Ws,UI,UJ,ajY,zG,JS,UC),((cut n49 0 lL),n49))) aJ):=cM
theorem alk(t)(k:K1 R):lX.A t k=aq (aaC.call t.1) λx1=>aq (KZ.call t.2.1) λx2=>aq (lM.call (((x1.1:Nat):Int),0,x1.1,x2.1,t.2.2,(0,()),x1.2,x2.2)) λx4=>aq (lN.call (((x4.1.2.1:Nat):Int),0,x4.1.1,x4.1.2.1,x4.1.2.2.1,x4.1.2.2.2.1,x4.2,x4.1.2.2.2.2)) λx8=>aS (decide (0=0/\(0+x8.2.1)<=(ag x8.2.2.2.2.2))) (k (lX.out (x8.1,((cut x8.2.2.2.2.2 0 x8.2.1),x8.2.2.1),x8.2.2.2.2.1))) aJ:=cM
theorem X5:(lX.mM 0 lM):=by
 refine(lX.qG 0 lM) (λ(m,i,L,L2,u,v,l,os)=>l.length - ab i) ?_
 rintro⟨m,i,L,L2,u,v,l,os⟩ ⟨⟨hlen,hx⟩,k,hk,rfl,rfl,rfl⟩;have hlen:l.length<=1000:=hlen;have hk:k<=l.length:=hk;by_cases h:k < l.length
 ·left;have n1:nth gB l k=l[k]:=da (t:=gB) h;have hs:l.set k l[k]=l:=gm h;have e:=hx _ (aV h);refine⟨((l.length:Int),((k+1:Nat):Int),l.length,L2,u,v,l,os),⟨⟨hlen,hx⟩,k+1,au,rfl,rfl,rfl⟩,by simp only[aa];omega,rfl,λkn kx=> ?_⟩;rw[Ez,bm au,bz au au];simp only[aa,bg,cX,fF,Nat.reduceAdd,aj,ba h,cV,n1];rw[aoN (d:=l[k].2.1.2.1) e];simp only[ae,bG,aaF];rw[N.nV au];exact bD (λz=>kn (lM.st (_,_,_,_,_,_,z,_))) hs
 ·right;obtain rfl:k=l.length:=au;intro R kn kx;rw[Ez,bh au,al];rfl
theorem X7:(lX.mM 2 lO):=by
 refine(lX.qG 2 lO) (λ(kv,L,m1,i1,m,i,L5,L6,u,v,ls,os,bs)=>bs.length - ab i) ?_
 rintro⟨kv,L,m1,i1,m,i,L5,L6,u,v,ls,os,bs⟩ ⟨⟨hlen,hx⟩,k,hk,rfl,rfl,rfl⟩;have hlen:bs.length<=1000:=hlen;have hk:k<=bs.length:=hk;by_cases h:k < bs.length
 ·left;have n1:nth sH bs k=bs[k]:=da (t:=sH) h;have hs:bs.set k bs[k]=bs:=gm h;have e:=hx _ (aV h);refine⟨(kv,bs.length,m1,i1,(bs.length:Int),((k+1:Nat):Int),L5,L6,u,v,ls,os,bs),⟨⟨hlen,hx⟩,k+1,au,rfl,rfl,rfl⟩,by simp only[aa];omega,rfl,λkn kx=> ?_⟩;rw[EB,bm au,bz au au];simp only[aa,bg,cX,fF,Nat.reduceAdd,aj,ba h,cV,n1];rw[U9 (d:=bs[k].1) e];simp only[ae,bG,Mu];rw[N.nV au];exact bD (λz=>kn (lO.st (_,_,_,_,_,_,_,_,_,_,_,_,z))) hs
 ·right;obtain rfl:k=bs.length:=au;intro R kn kx;rw[EB,bh au,al];simp only[bg,aF,kf,cV,aj,fA];rfl
theorem X6:(lX.mM 1 lN):=by
 refine(lX.qG 1 lN) (λ(m,i,L3,L,u,v,ls,os)=>os.length - ab i) ?_
 rintro⟨m,i,L3,L,u,v,ls,os⟩ ⟨⟨hlen,hx⟩,k,hk,rfl,rfl,rfl⟩;have hlen:os.length<=1000:=hlen;have hk:k<=os.length:=hk;by_cases h:k < os.length
 ·left;have n1:nth jy os k=os[k]:=da (t:=jy) h;have hs:os.set k os[k]=os:=gm h;have e:=hx _ (aV h);refine⟨((os.length:Int),((k+1:Nat):Int),L3,os.length,u,v,ls,os),⟨⟨hlen,hx⟩,k+1,au,rfl,rfl,rfl⟩,by simp only[aa];omega,rfl,λkn kx=> ?_⟩;rw[EA,bm au,bz au au];simp only[aa,bg,cX,fF,Nat.reduceAdd,aj,ba h,cV,n1];rw[aet (d:=os[k].2.1.1) (by show os[k].2.1.1.length<=_;have:=e.1;omega)];simp only[ae,bG,aaB];rw[WD (d:=((k:Int),os[k].2.1.1.length,(os.length:Int),(k:Int),(os[k].2.1.1.length:Int),0,L3,os.length,u,v,ls,os,os[k].2.1.1)) ⟨e,0,aN _,rfl,rfl,rfl⟩];simp only[ae,Gx,Ns,aa,n1,aj,ba h,bz (show(0:Int)<=(k:Int) by omega) (show(k:Int) < (os.length:Int) by omega)];rw[N.nV au];exact bD (λz=>kn (lN.st (_,_,_,_,_,_,_,z))) hs
 ·right;obtain rfl:k=os.length:=au;intro R kn kx;rw[EA,bh au,al];rfl
theorem Uf{l:Lk}(h:nT l=aT):l.1.length<=4/\∀b∈l.1,b.1.length<=12:=by unfold nT at h;simp only[av,cS,aW]at h;refine⟨h.2.2,λb hb=> ?_⟩;have:=h.1 b hb;unfold EI at this;simp only[av,aW]at this;exact this.1
theorem alm:lX.Ok:=by
 rintro⟨is,os,nt,u⟩ iO;obtain⟨⟨_,a2,a3,_⟩,b1,b2⟩:=jg iO;have a2:is.length<=64:=a2;have a3:os.length<=64:=a3;rw[alk,atz (d:=is) (by show is.length<=_;omega),aoL (d:=os) (by show os.length<=_;omega)];simp only[ae,bG,aiP,bG,aaE];rw[Wz (d:=(is.length,0,is.length,os.length,(nt,u),(0,()),is,os)) ⟨⟨by show is.length<=_;omega,λx hx=>by have:=(Du (oR _ _ b1 x hx)).2.2.2.2;omega⟩,0,aN _,rfl,rfl,rfl⟩];simp only[ae,Gw,Np];rw[WB (d:=(os.length,0,is.length,os.length,(nt,u),(0,()),is,os)) ⟨⟨by show os.length<=_;omega,λx hx=>by
  have:=Uf (nc _ _ b2 x hx).2;exact⟨au,λb hb=>by have:=this.2 b hb;omega⟩⟩,0,aN _,rfl,rfl,rfl⟩]
 simp only[ae,bG,Nr,bg,aF,kf,cV,aj,fA];rfl
theorem ahB:lX.RS:=rE [.d ee] lX
def aln:=lX.gf alm 3 ⟨.gA X5,⟨.gA X6,⟨.gA X7,trivial⟩⟩⟩
theorem MM(x:Int)(m:Int):∀k:Nat,(x%m)^k%m=x^k%m
 | 0=>by rw[kQ,kQ]
 |k+1=>by rw[fY,fY,sS,MM x m k,om _ (Int.dvd_refl m),<-sS]
theorem aE0(a:Int)(k:Nat):(a*a)^k=a^(2*k):=by rw[Int.pow_mul,fY,fY,kQ,Int.one_mul]
theorem axm:∀(f:Nat) (a:Int) (n:Nat) (out:Int),n < 2^f->Pn out->anp f a n out=out*a^n%4611686018427377339
 | 0,a,n,out,h,ho=>by obtain rfl:n=0:=au;rw[CD,kQ,Int.mul_one,fi ho.1 ho.2]
 |f+1,a,n,out,h,ho=>by
  have e:(2:Nat)^(f+1)=2^f*2:=Nat.pow_succ 2 f;rw[anp];split
  ·rename_i h0;subst h0;rw[kQ,Int.mul_one,fi ho.1 ho.2]
  ·have hp:Pn (if n%2=1 then ug out a else out):=by
    split
    ·exact AN _ _
    ·exact ho
   rw[axm f _ _ _ au hp,sS];have e1:(ug a a)^(n / 2)%4611686018427377339=a^(2*(n / 2))%4611686018427377339:=by unfold ug;rw[MM,aE0]
   have e2:(if n%2=1 then ug out a else out)%4611686018427377339=(out*a^(n%2))%4611686018427377339:=by
    split
    ·rename_i h1;rw[h1,fY,kQ,Int.one_mul];exact om _ (Int.dvd_refl _)
    ·have h1:n%2=0:=au;rw[h1,kQ,Int.mul_one]
   rw[e1,e2,<-sS,Int.mul_assoc,<-Int.pow_add];have e3:n%2+2*(n / 2)=n:=au;rw[e3]
theorem VI(a:Int)(n:Nat)(h:n < 18446744073709551616):pw a n=a^n%4611686018427377339:=by unfold pw;rw[axm 64 a n 1 h ⟨au,au⟩,Int.one_mul]
theorem one_pow(k:Nat):(1:Int)^k=1:=Int.one_pow
theorem axo(a:Int)(k q:Nat)(hk:k < 18446744073709551616)(hq:q < 18446744073709551616)(h:pw a q=1):pw (pw a k) q=1:=by rw[VI _ _ hq]at h;rw[VI _ _ hq,VI _ _ hk,MM,<-Int.pow_mul,pD,Int.pow_mul,<-MM,h,one_pow];rfl
theorem Y2:pw 4 2305843009213688669=1:=by decide+kernel
theorem aqq:pw 1 2305843009213688669=1:=by decide+kernel
theorem aAt:B5 4=aT:=by rw[B5,Y2];rfl
theorem LX:B5 1=aT:=by rw[B5,aqq];rfl
theorem aAL:agb 1=1:=by
 have e:pw 1 2305843009213688668=1:=by decide+kernel
 rw[agb,tk,LX];exact e
theorem acr{a:Int}(h:Pn a)(q:Nat)(hq:0 < q)(Oi:q < 18446744073709551616)(hp:pw a q=1):0 < a:=by
 rcases Int.lt_or_eq_of_le h.1 with h0 | h0
 ·exact h0
 ·subst h0;rw[VI _ _ Oi,Int.zero_pow au]at hp;cases hp
theorem aEl{a:Int}(h:Pn a)(hp:pw a 2305843009213688669=1):B5 a=aT:=by have h0:=acr h 2305843009213688669 eZ eZ hp;rw[B5,hp,me ⟨h0,h.2⟩];rfl
theorem apL{a:Int}(h:B5 a=aT):pw a 2305843009213688669=1/\Pn a:=by rw[B5,av,aW,aW]at h;exact⟨h.2,au,h.1.2⟩
theorem aEm{a:Int}(h:B5 a=aT)(k:Nat)(hk:k < 18446744073709551616):B5 (pw a k)=aT:=aEl (agW _ _) (axo a k _ hk eZ (apL h).1)
theorem aEn(a:Int):B5 (tk a)=aT:=by
 unfold tk;cases h:B5 a
 ·exact LX
 ·exact h
theorem apM(p k:Int):B5 (DX p k)=aT:=aEm (aEn p) _ au
theorem WE{a:Int}(h:B5 a=aT):tk a=a:=by rw[tk,h];rfl
theorem T8(k:Int):B5 (gw k)=aT:=apM 4 k
theorem af8{a:Int}(h:Pn a):ug a 1=a:=by rw[ug,Int.mul_one,fi h.1 h.2]
def pm(m:Nat):Nat->Nat->Nat->Nat->Nat
 | 0,_,_,out=>out%m
 |f+1,a,n,out=>if n=0 then out%m else pm m f (a*a%m) (n / 2) (if n%2=1 then out*a%m else out)
theorem aCS(m:Nat):∀(f a n out:Nat),n < 2^f->pm m f a n out=out*a^n%m
 | 0,a,n,out,h=>by obtain rfl:n=0:=au;rw[pm,Nat.pow_zero,jG]
 |f+1,a,n,out,h=>by
  have e:(2:Nat)^(f+1)=2^f*2:=Nat.pow_succ (n:=2) (m:=f);rw[pm];split
  ·rename_i h0;subst h0;rw[Nat.pow_zero,jG]
  ·rw[aCS m f _ _ _ au,kW];have e1:(a*a%m)^(n / 2)%m=a^(2*(n / 2))%m:=by rw[<-Nat.pow_mod,Nat.pow_mul,Nat.pow_two]
   have e2:(if n%2=1 then out*a%m else out)%m=(out*a^(n%2))%m:=by
    split
    ·rename_i h1;rw[h1,Nat.pow_one,Nat.mod_mod]
    ·have h1:n%2=0:=au;rw[h1,Nat.pow_zero,jG]
   rw[e1,e2,<-kW,Nat.mul_assoc,<-ot];have e3:n%2+2*(n / 2)=n:=au;rw[e3]
theorem au4:∀(r q:Nat) (f:Nat->Nat),(∀i,i < q->f i < r)->(∀i j,i < j->j < q->f i≠f j)->q<=r
 | 0,q,f,h,_=>by
  rcases iM q with h0 | h0
  ·omega
  ·exact absurd (h 0 h0) (Nat.not_lt_zero _)
 |r+1,q,f,h,g=>by
  by_cases hx:∃i,i < q/\f i=r
  ·obtain⟨i,hi,hr⟩:=hx;have e:=au4 r (q - 1) (λj=>if j < i then f j else f (j+1)) (λj hj=>by
    by_cases h1:j < i
    ·have a:=h j au;have b:=g j i h1 hi;simp only[h1,cY];omega
    ·have a:=h (j+1) au;have b:=g i (j+1) au au;simp only[h1,cF];omega) (λj k aLj hk=>by
    by_cases h1:j < i
    ·by_cases h2:k < i
     ·simp only[h1,h2,cY];exact g j k aLj au
     ·simp only[h1,h2,cY,cF];exact g j (k+1) au au
    ·have h2:¬k < i:=au;simp only[h1,h2,cF];exact g (j+1) (k+1) au au)
   omega
  ·have e:=au4 r q f (λi hi=>by
    have a:=h i hi;have b:f i≠r:=λx=>hx ⟨i,hi,x⟩
    omega) g
   omega
theorem ank(a m:Nat)(h1:1%m=1):∀i j:Nat,a^i%m=1->a^j%m=1->a^(Nat.gcd i j)%m=1:=by
 intro i
 induction i using Nat.strongRecOn with
 |ind i ih=>
  intro j hi hj;rcases iM i with h0 | h0
  ·subst h0;rw[Nat.gcd_zero_left];exact hj
  ·rw[Nat.gcd_rec];refine ih (j%i) (Nat.mod_lt _ h0) i ?_ hi
   have e:a^j=(a^i)^(j / i)*a^(j%i):=by rw[<-Nat.pow_mul,<-ot,Nat.div_add_mod]
   rw[e,kW,Nat.pow_mod,hi,Nat.one_pow,h1,ik,Nat.mod_mod]at hj;exact hj
def asC(n:Nat):Prop:=∀d,d∣n->d=1\/d=n
theorem ann{n k:Nat}(h:asC n)(h0:0 < k)(hk:k < n):Nat.gcd k n=1:=by
 rcases h _ (Nat.gcd_dvd_right k n) with h1 | h1
 ·exact h1
 ·have:=Nat.le_of_dvd h0 (Nat.gcd_dvd_left k n);omega
theorem agf{n:Nat}(hn:1 < n)(h:∀r,1 < r->r*r<=n->¬r∣n):asC n:=by
 intro d hd;obtain⟨e,he⟩:=hd;have aHP:0 < d:=Nat.pos_of_ne_zero (by intro x;rw[x,mN]at he;omega);have abr:0 < e:=Nat.pos_of_ne_zero (by intro x;rw[x,Nat.mul_zero]at he;omega);by_cases h1:d=1
 ·exact .inl h1
 by_cases h2:e=1
 ·right;rw[he,h2,jG]
 exfalso;rcases Nat.le_total d e with hle | hle
 ·exact h d au (by rw[he];exact Nat.mul_le_mul_left d hle) ⟨e,he⟩
 ·exact h e au (by rw[he];exact c8 e hle) ⟨d,by rw[he,pD]⟩
theorem aEN{n q b:Nat}(hn:1 < n)(hq:asC q)(aFx:1 < q)(aJe:n < q*q)(hb:b^q%n=1)(hg:Nat.gcd (b - 1) n=1)(aHO:0 < b):asC n:=by
 refine agf hn λr hr aLz abv=> ?_
 have aKk:1%r=1:=jZ hr;have aGg:b^q%r=1:=by have:=Nat.mod_mod_of_dvd (b^q) abv;rw[<-this,hb,aKk]
 have gj:b%r≠1:=by
  intro hx;have hd:r∣b - 1:=by have e:=Nat.dvd_sub_mod (n:=r) b;rw[hx]at e;exact e
  have:=Nat.dvd_gcd hd abv;rw[hg]at this;have:=Nat.le_of_dvd au this;omega
 have key:q<=r:=by
  refine au4 r q (λi=>b^i%r) (λi _=>Nat.mod_lt _ au) λi j aHW hj he=> ?_
  have e1:b^(j - i)%r=1:=by
   have x1:b^(q - i)*b^i%r=b^(q - i)*b^j%r:=by rw[kW,he,<-kW]
   rw[<-ot,<-ot,show q - i+i=q by omega,show q - i+j=q+(j - i) by omega,ot,kW,aGg,ik,Nat.mod_mod]at x1;exact x1.symm
  have e2:=ank b r aKk (j - i) q e1 aGg;rw[ann hq au au,Nat.pow_one]at e2;exact gj e2
 have:q*q<=r*r:=Nat.mul_le_mul key key;omega
def av7(n:Nat):Nat->Bool
 | 0=>aT
 |k+1=>n%(k+2) !=0 && av7 n k
theorem agd(n:Nat):∀k,av7 n k=aT->∀d,1 < d->d<=k+1->¬d∣n
 | 0,_,d,h1,h2=>au
 |k+1,h,d,h1,h2=>by
  rw[av7,av]at h;by_cases hd:d=k+2
  ·intro hx;have:=Nat.mod_eq_zero_of_dvd hx;rw[hd]at this;rw[this]at h;exact absurd h.1 eZ
  ·exact agd n k h.2 d h1 au
theorem aJE:asC 7930907:=by
 refine agf eZ λr hr aLz=>agd 7930907 2820 (by decide+kernel) r hr ?_
 apply Nat.le_of_not_lt;intro h;have:2822*2822<=r*r:=Nat.mul_le_mul au au;omega
theorem MN{n q:Nat}(a e:Nat)(hq:asC q)(aFx:1 < q)(hn:1 < n)(aJe:n < q*q)(he:e < 2^64)(Oi:q < 2^64)(h1:pm n 64 (pm n 64 a e 1) q 1=1)(h2:Nat.gcd (pm n 64 a e 1 - 1) n=1)(h3:0 < pm n 64 a e 1):asC n:=by generalize pm n 64 a e 1=b at*;rw[aCS _ _ _ _ _ Oi,ik]at h1;exact aEN hn hq aFx aJe h1 h2 h3
theorem aJD:asC 11864636873:=MN (q:=7930907) 2 1496 aJE eZ eZ eZ eZ eZ (by decide+kernel) (by decide+kernel) (by decide+kernel)
theorem aJC:asC 1732236983459:=MN (q:=11864636873) 2 146 aJD eZ eZ eZ eZ eZ (by decide+kernel) (by decide+kernel) (by decide+kernel)
theorem aJB:asC 249442125618097:=MN (q:=1732236983459) 2 144 aJC eZ eZ eZ eZ eZ (by decide+kernel) (by decide+kernel) (by decide+kernel)
theorem aJF:asC 2305843009213688669:=MN (q:=249442125618097) 2 9244 aJB eZ eZ eZ eZ eZ (by decide+kernel) (by decide+kernel) (by decide+kernel)
def gP(n:Nat):Int:=((4^n%4611686018427377339:Nat):Int)
theorem XL(a m q:Nat)(h1:1%m=1)(h:a^q%m=1)(n:Nat):a^(n%q)%m=a^n%m:=by
 have e:a^n=(a^q)^(n / q)*a^(n%q):=by rw[<-Nat.pow_mul,<-ot,Nat.div_add_mod]
 rw[e,kW,Nat.pow_mod (a^q),h,Nat.one_pow,h1,ik,Nat.mod_mod]
theorem aCh:∀q:Nat,q=2305843009213688669->4^q%4611686018427377339=1:=by
 intro q hq;have h:=Y2;rw[VI _ _ eZ]at h;rw[<-hq]at h;have e:(((4^q%4611686018427377339:Nat)):Int)=1:=by rw[pv,kH];exact h
 omega
theorem abn(n:Nat):gP (n%2305843009213688669)=gP n:=by unfold gP;obtain⟨q,hq⟩:∃q:Nat,q=2305843009213688669:=⟨_,rfl⟩;rw[<-hq,XL 4 4611686018427377339 q eZ (aCh q hq)]
theorem aF3(n:Nat)(h:n < 18446744073709551616):pw 4 n=gP n:=by rw[VI _ _ h];unfold gP;rw[pv,kH];rfl
theorem auU(k:Int)(h:0<=k):(k%2305843009213688669).toNat=k.toNat%2305843009213688669:=au
theorem RU(k:Int)(h:0<=k):gw k=gP k.toNat:=by show pw (tk 4) _=_;rw[WE aAt,aF3 _ au,auU k h,abn]
theorem azV(n:Nat):gP n=gw n:=by rw[RU _ au,aa]
theorem TJ(n:Nat):B5 (gP n)=aT:=by rw[azV];exact T8 _
theorem ajh(a b:Nat):ug (gP a) (gP b)=gP (a+b):=by unfold ug gP;rw[<-kG,ot];have e:(4611686018427377339:Int)=((4611686018427377339:Nat):Int):=rfl;rw[e,<-pv,<-kW]
theorem auV(a:Nat)(c:Int)(h:0<=c):DX (gP a) c=gP (a*c.toNat):=by
 show pw (tk (gP a)) _=_;rw[WE (TJ a),VI _ _ au,auU c h];obtain⟨b,hb⟩:∃b:Nat,b=c.toNat:=⟨_,rfl⟩;rw[<-hb];obtain⟨d,hd⟩:∃d:Nat,d=b%2305843009213688669:=⟨_,rfl⟩;have hx:gP (a*b)=gP (a*d):=by rw[<-abn (a*b),<-abn (a*d),kW a b,kW a d,hd,Nat.mod_mod]
 rw[hx,<-hd];unfold gP;have e:(4611686018427377339:Int)=((4611686018427377339:Nat):Int):=rfl;rw[e,<-kH,<-pv,<-Nat.pow_mod,<-Nat.pow_mul]
theorem amo:gP 0=1:=eZ
theorem aF2{n:Nat}(h:0 < n)(hn:n < 2305843009213688669):gP n≠1:=by intro he;unfold gP at he;have he:4^n%4611686018427377339=1:=au;obtain⟨q,hq⟩:∃q:Nat,q=2305843009213688669:=⟨_,rfl⟩;have e:=ank 4 4611686018427377339 eZ n q he (aCh q hq);rw[ann (by rw[hq];exact aJF) h au]at e;exact absurd e eZ
theorem aBB(k:Int)(m:List Int)(h0:0 < k)(hq:k < 2305843009213688669):ze (gw k) m 1 (mI k m)=aT:=by
 obtain⟨kn,hk⟩:∃kn:Nat,kn=k.toNat:=⟨_,rfl⟩;have hb:gw k=gP kn:=by rw[hk];exact RU k au
 have hn:=TH (ax9 aj0 [mq k,m]);unfold mI av9;rw[if_pos ⟨hq,au⟩];obtain⟨n,gj⟩:∃n,LF (ax9 aj0 [mq k,m])=n:=⟨_,rfl⟩;rw[gj]at hn ⊢;unfold aao;have hr:RN [gw n,1]=gP n.toNat:=by show ug (ug 1 (tk (gw n))) (tk 1)=_;rw[WE (T8 n),WE LX,af8 (AN _ _),RU n au,<-amo,ajh,bg]
 rw[hr,hb];have hc:=SY (gP n.toNat) (gP kn) m;obtain⟨c,aDT⟩:∃c,Ei (gP n.toNat) (gP kn) m=c:=⟨_,rfl⟩;rw[aDT]at hc ⊢;have ha:=alJ n (abX c k);have h1:=hc.1;have h2:=ha.1;have h3:=ha.2;unfold ze;rw[if_neg (by
  intro h;rcases h with h | h | h | h | h
  ·exact aF2 au au h
  ·rw[TJ]at h;cases h
  ·rw[LX]at h;cases h
  ·have h:B5 (gP n.toNat)=aR:=h;rw[TJ]at h;cases h
  ·exact h h3)]
 have e:gw (aid n (abX c k))=RN [gP n.toNat,DX (gP kn) c,agb 1]:=by
  show _=ug (ug (ug 1 (tk (gP n.toNat))) (tk (DX (gP kn) c))) (tk (agb 1));rw[aAL,WE LX,af8 (AN _ _),WE (TJ _),auV _ _ h1,WE (TJ _)];rw[show(ug 1 (gP n.toNat))=gP n.toNat by rw[<-amo,ajh,bg]];rw[ajh,RU _ h2];have hx:(aid n (abX c k)).toNat=(n.toNat+kn*c.toNat)%2305843009213688669:=by
   unfold aid abX awd;have g1:c%2305843009213688669=c:=fi h1 hc.2;have g2:k%2305843009213688669=k:=fi au hq;have g3:n%2305843009213688669=n:=fi au hn.2;rw[g1,g2,g3,om _ (Int.dvd_refl _)];have g4:((kn*c.toNat:Nat):Int)=c*k:=by rw[kG,hk,Int.toNat_of_nonneg au,Int.toNat_of_nonneg h1,Int.mul_comm]
   have g5:0<=c*k:=by rw[<-g4];exact gF _
   obtain⟨z,hz⟩:∃z,c*k=z:=⟨_,rfl⟩;rw[hz]at g4 g5 ⊢;obtain⟨zn,aLK⟩:∃zn,kn*c.toNat=zn:=⟨_,rfl⟩;rw[aLK]at g4 ⊢;omega
  rw[hx,abn]
 show decide (gw (aid n (abX c k))=RN [gP n.toNat,DX (gP kn) (Ei (gP n.toNat) (gP kn) m),agb 1])=aT;rw[aDT];exact me e
def Bo{α:Type}(p:α->Bool):List α->Int->Int⊕Unit
 |[],_=> .inr ()
 |x::xs,i=>if p x then .inl i else Bo p xs (i+1)
def Xn{α:Type}(p:α->Bool)(l:List α):Int:=match Bo p l 0 with | .inl i=>i | .inr _=> -1
theorem afC{α:Type}(p:α->Bool):∀(l:List α) (i:Int),0<=i->(match Bo p l i with | .inl i=>decide (i>=0) | .inr _=>aR)=l.any p
 |[],_,_=>rfl
 |x::l,i,h=>by
  rw[Bo,fU];cases hp:p x
  ·simp only[bR,cF,Bool.false_or];exact afC p l (i+1) au
  ·simp[h]
theorem LR{α:Type}(p:α->Bool)(l:List α):Bp (Xn p l) 0=l.any p:=by
 have:=afC p l 0 au;unfold Xn Bp;cases h:Bo p l 0
 ·rw[h]at this;exact this
 ·rw[h]at this;rw[<-this];rfl
def IW(k:Int):Bool:=decide (¬(k < 2305843009213688669/\k≠0))
def DZ(t:dM)(i br:Int)(ks:List Int):Bool:=iF t && (decide (0<=i/\i < t.1.length/\0<=br/\br < 4/\ks.length<=12) && !(ks.any IW))
def axR(t:dM)(i br:Int)(ks:List Int)(sc:Int):dM×Int:=if DZ t i br ks then((t.1.set i.toNat ((nth gB t.1 i.toNat).1,(br,ks.map (λk=>mI k (sP t)),sc,()),()),t.2),0) else(([],[],0,()),1)
theorem BY{t:dM}:Sm (sP t):=by
 unfold sP;split
 ·exact ak5 _ _
 ·exact⟨by rw[dE],λx hx=>by obtain rfl:=(rq.1 hx).2;exact⟨eZ,eZ⟩⟩
def ar8:Int->Prop:=λ_=>True
def anC:Int->Bool:=λk=>IW k
def Rj:Fs Tryz.prog ar8 bG anC:=fV 77 Tryz.f77 (λkv=>([.d tu kv],[])) (λx=>⟨.d .bool x,[],[]⟩) [ao tu] [Og]
theorem ayj(kv)(k:K1 R):Rj.A kv k=aS (EM kv 0) (k (Rj.out aT)) (aq (Dt.call kv) λx1=>k (Rj.out (!x1))):=cM
theorem ayk:Rj.Ok:=by
 intro(k:Int) _;rw[ayj,Jz (d:=k) trivial];simp only[bG,anC,IW,ae,bG,LD];by_cases h:k=0
 ·rw[lk h,aj,ba au]
 ·rw[kL h,al];by_cases h2:k < 2305843009213688669
  ·rw[bm h2,bE au];rfl
  ·rw[bh h2,ba au];rfl
theorem ar9:Rj.RS:=rE [.d tu] Rj
def ayl:=Rj.gf ayk
abbrev wm:=Bs×Int×Int
def nj:wm->AS:=λ(jw,t7,t8)=>⟨([.d tU jw,.fn 77 (.nil)]++bf 5 ([.d ti t7,.d ti t8]++bf 10 [])),[],(ai 19 [])⟩
def nO:Int->Exit×AS:=λx=>(.ret,⟨(bf 4 ([.d ti x]++bf 14 [])),[],(ai 19 [])⟩)
def vy:Unit->Exit×AS:=λx=>(.exit 0,⟨(bf 19 []),[],(ai 19 [])⟩)
abbrev Gk:=(Int)⊕(Unit)
abbrev Q6:=(Int)⊕(Unit)
def BT:Gk->Out (Exit×AS):=λx=> .br x.isLeft (.get x.getLeft? λa=> .ok (nO a)) (.get x.getRight? λb=> .ok (vy b))
def jR:wm->Q6->Gk:=λ(jw,t7,t8) y=>match y with | .inl y=> .inl y | .inr z=> .inr (z)
def vu:wm->Prop:=λ(l,n,i)=>(∀x∈l,True)/\l.length<=1000000000/\n=l.length/\∃k:Nat,k<=l.length/\i=k
def mJ:wm->Q6:=λ(l,n,i)=>Bo IW (l.drop i.toNat) i
def ak2:Bs->Prop:=λl=>(∀x∈l,True)/\l.length<=1000000000
def Wd:Bs->Int:=λl=>Xn IW l
def Q5:=dW.gA nj vu jR mJ BT
def Gl:wm->Option Gk:=iI Q5 nj
def wO:Fs Tryz.prog ak2 bG Wd:=fV 114 Tryz.f114 (λsv=>([.d tU sv,.fn 77 (.nil)],[])) (λx=>⟨.d ti x,[],[]⟩) [ao tU,aJ] [ayl] {loops:=so [(2,{bp:=[0,1,7,8]})],outs:=sm [(2,{},{bp:=[4]})],gS:=tt [(2,Q5)]}
def Gj:= @fh Tryz.prog (lU wO.G) wO.an 0 Tryz.f114 0 _ nj
abbrev Nd:=mn Tryz.prog (lU wO.G) wO.an 0 Tryz.f114 0 nj vu jR mJ BT
theorem XX:kC Gl vu jR mJ:=og (na [.d tU,.d ti,.d ti] λ_=>cM)
theorem Kc:qp @Gj nj vu jR mJ BT Nd:=rA
theorem Gm(jw t7 t8)(kn:K2 R)(kx:K3 R):Gj (jw,t7,t8) kn kx=aS (gY t8 t7) (aS (gI t8 (((ag jw):Nat):Int)) (aq (Rj.call (nth tu jw (ab t8))) λx1=>aS (x1) (kx (nO t8).1 (nO t8).2) (kn (nj (jw,t7,(bT .i64 t8 (1:Int)))))) aJ) (kx (vy ()).1 (vy ()).2):=cM
theorem arF(sv)(k:K1 R):wO.A sv k=aq (Gl (sv,(sv.length:Int),0)) λx2=>aS x2.isLeft (aq x2.getLeft? λa3=>k (wO.out a3)) (aq x2.getRight? λb4=>k (wO.out (-1))):=cM
theorem acP:Nd:=by
 refine Kc (λ(l,n,i)=>l.length - i.toNat) ?_
 rintro⟨l,n,i⟩ ⟨hl,hb,rfl,k,hk,rfl⟩;have hb:l.length<=1000000000:=hb;have hk:k<=l.length:=hk;by_cases h:k < l.length
 ·have hx:=hl _ (aV h);have n1:nth tu l k=l[k]:=da (t:=tu) h;have hd:Bo IW (l.drop k) k=if IW l[k] then .inl (k:Int) else Bo IW (l.drop (k+1)) ((k+1:Nat):Int):=by rw[aC h];rfl
  have step:∀ {R:Type} (kn:AS->Option R) (kx:Exit->AS->Option R),Gj (l,(l.length:Int),(k:Int)) kn kx=aS (IW l[k]) (kx (nO (k:Int)).1 (nO (k:Int)).2) (kn (nj (l,(l.length:Int),((k+1:Nat):Int)))):=by intro R kn kx;rw[Gm,bm au,bz au au,aa,n1,ar9 (d:=l[k]) hx,N.nV au];rfl
  cases hp:IW l[k]
  ·left;refine⟨(l,l.length,((k+1:Nat):Int)),⟨hl,hb,rfl,k+1,au,rfl⟩,by simp only[aa];omega,?_,λkn kx=> ?_⟩
   ·simp only[jR,mJ,aa,hd,hp,bR,cF]
   ·rw[step,hp,al]
  ·right;refine⟨nO (k:Int),?_,λkn kx=> ?_⟩
   ·simp only[jR,mJ,aa,hd,hp,cY];rfl
   ·rw[step,hp,aj]
 ·right;obtain rfl:k=l.length:=au;refine⟨vy (),?_,λkn kx=> ?_⟩
  ·simp only[jR,mJ,aa,aU];rfl
  ·rw[Gm,bh au,al]
theorem arG:wO.Ok:=by rintro l ⟨hl,hb⟩;rw[arF,XX (d:=(l,l.length,0)) ⟨hl,hb,rfl,0,au,rfl⟩];simp only[ae,jR,mJ,bo,aQ,bG,Wd,Xn];cases Bo IW l 0 <;> rfl
theorem ak3:wO.RS:=rE [.d tU] wO
def arH:=wO.gf arG 1 ⟨.gA acP,trivial⟩
def XU:Bs->Prop:=λl=>(∀x∈l,True)/\l.length<=1000000000
def Q4:Bs->Bool:=λl=>l.any IW
def uI:Fs Tryz.prog XU bG Q4:=fV 80 Tryz.f80 (λsv=>([.d tU sv,.fn 77 (.nil)],[])) (λx=>⟨.d .bool x,[],[]⟩) [ao tU,aJ] [arH]
theorem acL(sv)(k:K1 R):uI.A sv k=aq (wO.call sv) λx1=>k (uI.out (Bp x1 0)):=cM
theorem acM:uI.Ok:=by rintro l ⟨hl,hb⟩;rw[acL,ak3 (d:=l) ⟨hl,hb⟩];simp only[ae,bG,Wd,LR];rfl
theorem XV:uI.RS:=rE [.d tU] uI
def acN:=uI.gf acM
abbrev Kq:=Int×Bs×Int×Int×dM×(Int×Unit)×Int×Nat×(Int×Unit)×Bs×(List Sg)
def yQ:Kq->(RT×(List Sg))->((Int×dM×(Int×Unit))×(RT×(List Sg))):=λ(T6,t52,t53,t54,n5,n10,n13,nD,mE,n14,aAG) y=>((T6,n5,n10),y)
abbrev anD:=dM×Int×Int×Bs×Int
def adb:Kq->Prop:=λ(i0,l,n,i,t,e,br,L,sc,id,r)=>l.length<=1000/\(∀x∈l,ou x)/\Sm id/\∃k:Nat,k<=l.length/\i=k/\n=l.length/\L=r.length/\r.length<=1000+k
def D9:Kq->(RT×(List Sg)):=λ(i0,l,n,i,t,e,br,L,sc,id,r)=>((br,r++(l.drop i.toNat).map (λk=>mI k id),sc),r++(l.drop i.toNat).map (λk=>mI k id))
def asa:anD->Prop:=λ(t,i,br,ks,sc)=>wX t/\(∀x∈ks,ou x)/\ks.length<=1000000000
def ada:anD->(dM×Int):=λ(t,i,br,ks,sc)=>axR t i br ks sc
def tZ:Ls adb yQ D9:=yg (λ(T6,t52,t53,t54,n5,n10,n13,nD,mE,n14,aAG)=>⟨([cq,.d ti T6,cq,cq,cq,fu 5]++bf 4 ([fu 10,cq,cq,fu 13,fu 14]++bf 37 ([.d tU t52,.d ti t53,.d ti t54]++bf 21 []))),[],(bI 5 ([dG (.d ee n5)]++bI 4 ([dG (.pr (.dH) (.pr (.dH) (.d (.pair ti .unit) n10))),[],[],dG (.pr (.d ti n13) (.pr (oa 64 nD) (.d (.pair tu .unit) mE))),dG (.d tH n14)]++bI 49 ([dG (.vec 148 No aAG)]++bI 11 []))))⟩) (λx=>(.exit 0,⟨([cq,.d ti x.1.1,cq,cq,cq,fu 5]++bf 4 ([fu 10,cq,cq,fu 13]++bf 62 [])),[],(bI 5 ([dG (.d ee x.1.2.1)]++bI 4 ([dG (.pr (.dH) (.pr (.dH) (.d (.pair ti .unit) x.1.2.2))),[],[],dG (.d ayU x.2.1)]++bI 50 ([[.obj 0 aT (.vec 148 No x.2.2)]]++bI 11 []))))⟩))
def wy:Fs Tryz.prog asa bG ada:=fV 39 Tryz.f39 (λ(t,inv,branch,keys,secret)=>([.d ee t,.d ti inv,.d ti branch,.d tU keys,.d tu secret],[])) (λx=>⟨.cons (.d ee x.1) (.cons (.d ti x.2) (.nil)),[],[]⟩) [ao ee,ao ti,ao ti,ao tU,ao tu] [qf,anE,acN,Kf,ax3,aln] {bN:=[5],loops:=so [(7,{bp:=[1,5,10,13,14,52,53,54],sites:=[5,10,13,14,64],owns:=[⟨13,[.snd,.fst],64,84⟩]})],outs:=sm [(7,{bp:=[1,5,10,13],sites:=[5,10,13,64],Lu:=[⟨13,[.snd,.fst],(.slice No)⟩]},{bp:=[10,11]})],gS:=tt [(7,tZ.E)],res:=[ao ee,aJ]}
theorem ade:tZ.RS:=rL [.d ti,.d tU,.d ti,.d ti,.d ee,.d (.pair ti .unit),.d ti,.n,.d (.pair tu .unit),.d tB,.d (.slice No)] tZ
theorem IJ(T6 t52 t53 t54 n5 n10 n13 nD mE n14 aAG)(kn:K2 R)(kx:K3 R):wy.R 0 tZ (T6,t52,t53,t54,n5,n10,n13,nD,mE,n14,aAG) kn kx=aS (gY t54 t53) (aS (gI t54 (t52.length:Int)) (aq (Q8.call ((nth tu t52 (ab t54)),n14)) λx4=>aS (decide (nD<=(ag aAG))) (aS (ea (nD+1) 16) (kn (tZ.st (T6,t52,t53,(bT .i64 t54 1),n5,n10,n13,(nD+1),mE,n14,((bn nD aAG)++ [x4])))) aJ) aJ) aJ) (aS (decide (0=0/\(0+nD)<=(ag aAG))) (tZ.go kx ((T6,n5,n10),((n13,((cut aAG 0 nD),mE)),aAG))) aJ):=cM
theorem aym(t inv branch keys secret)(k:K1 R):wy.A (t,inv,branch,keys,secret) k=aq (hP.call t) λasi=>aS (!asi) (k (wy.out ((([]:List j9),(([]:List lT),(0,()))),1))) (aS (gY inv 0) (k (wy.out ((([]:List j9),(([]:List lT),(0,()))),1))) (aS (Bp inv (t.1.length:Int)) (k (wy.out ((([]:List j9),(([]:List lT),(0,()))),1))) (aq (Yg.call (branch,(([]:List Sg),(secret,())))) λanL=>aS (!anL) (k (wy.out ((([]:List j9),(([]:List lT),(0,()))),1))) (aS (Ak (keys.length:Int) 12) (k (wy.out ((([]:List j9),(([]:List lT),(0,()))),1))) (aq (uI.call keys) λadq=>aS (adq) (k (wy.out ((([]:List j9),(([]:List lT),(0,()))),1))) (aq (tid.call t) λsQ=>aq (tZ.call (inv,keys,(keys.length:Int),0,t,(0,()),branch,0,(secret,()),sQ,([]:List Sg))) λYk=>aq (lX.call Yk.1.2.1) λaaf=>aS (gI Yk.1.1 ((aaf.1:Nat):Int)) (aS (decide ((0+(ab Yk.1.1)) < (ag aaf.2.2))) (aS (decide ((((0+(ab Yk.1.1))*36)+33)=((0+((ab Yk.1.1)*36))+33))) (aS (decide ((0+(ab Yk.1.1)) < (ag aaf.2.2))) (aS (decide (0=0/\(0+aaf.1)<=(ag (gr aaf.2.2 (0+(ab Yk.1.1)) ((nth gB aaf.2.2 (0+(ab Yk.1.1))).1,(Yk.2.1,(nth gB aaf.2.2 (0+(ab Yk.1.1))).2.2)))))) (k (wy.out (((cut (gr aaf.2.2 (0+(ab Yk.1.1)) ((nth gB aaf.2.2 (0+(ab Yk.1.1))).1,(Yk.2.1,(nth gB aaf.2.2 (0+(ab Yk.1.1))).2.2))) 0 aaf.1),aaf.2.1),0))) aJ) aJ) aJ) aJ) aJ)))))):=cM
theorem ahL:(wy.mM 0 tZ):=by
 refine(wy.qG 0 tZ) (λ(i0,l,n,i,t,e,br,L,sc,id,r)=>l.length - i.toNat) ?_
 rintro⟨i0,l,n,i,t,e,br,L,sc,id,r⟩ ⟨hlen,hu,hm,k,hk,rfl,rfl,rfl,hr⟩;have hlen:l.length<=1000:=hlen;have hk:k<=l.length:=hk;have hr:r.length<=1000+k:=hr;by_cases h:k < l.length
 ·left;have n1:nth tu l k=l[k]:=da (t:=tu) h;have hd:bV k l=l[k]::bV (k+1) l:=aC h;refine⟨(i0,l,l.length,((k+1:Nat):Int),t,e,br,r.length+1,sc,id,r++ [mI l[k] id]),⟨hlen,hu,hm,k+1,au,rfl,rfl,by rw[ak];rfl,by rw[ak];show r.length+1<=_;omega⟩,by simp only[aa];omega,?_,λkn kx=> ?_⟩
  ·simp only[yQ,D9,aa,hd,cr,aO,dQ]
  ·rw[IJ,bm au,bz au au,aa,n1,arM (d:=(l[k],id)) ⟨hu _ (aV h),hm⟩];simp only[aj,ae,bG,acT];rw[ba (aF _),eW au au,N.nV au,cJ];rfl
 ·right;obtain rfl:k=l.length:=au;intro R kn kx;rw[IJ,bh au,al];simp only[yQ,D9,aa,aU,iU,bP,bg,aF,kf,cV,aj,fA]
theorem ayn:wy.Ok:=by
 rintro⟨⟨is,os,nt,u⟩,i,br,ks,sc⟩ ⟨hv,hu,hl⟩;have hv:wX (is,os,nt,u):=hv;have hl:ks.length<=1000000000:=hl;rw[aym,nq (d:=(is,os,nt,u)) hv.1];simp only[ae,bG,pt,bG,ada,axR,DZ];rcases iS (iF (is,os,nt,u)) with iO | iO;rotate_left
 ·simp only[iO];rfl
 obtain⟨⟨_,a2,a3,_⟩,b1,b2⟩:=jg iO;have a2:is.length<=64:=a2;simp only[iO,cG,al,cD];by_cases h1:i < 0
 ·rw[bm h1,aj,bE au];rfl
 rw[bh h1,al];by_cases h2:i>=(is.length:Int)
 ·rw[gM h2,aj,bE au];rfl
 rw[eT h2,al,ahO (d:=(br,([],(sc,())))) trivial];simp only[ae,bG,adf,EF];by_cases h3:0<=br/\br < 4
 ·rw[ba h3];by_cases h4:ks.length > 12
  ·rw[dT au,bE (p:=0<=i/\i < (is.length:Int)/\0<=br/\br < 4/\ks.length<=12) au];rfl
  ·rw[du au,ba (p:=0<=i/\i < (is.length:Int)/\0<=br/\br < 4/\ks.length<=12) au,XV (d:=ks) ⟨λ_ _=>trivial,hl⟩];simp only[ae,bG,Q4];rcases iS (ks.any IW) with hb | hb;rotate_left
   ·simp only[hb];obtain⟨k,rfl⟩:∃k:Nat,i=k:=⟨i.toNat,au⟩;have hk:k < is.length:=au;simp only[show(([]:List Sg).length<=12)=True from eq_true (aN _),cV,Bool.and_self,cG,eY,al,cD,cY];rw[A6 (d:=(is,os,nt,u)) hv];simp only[ae,bG,Nu];rw[ade (d:=((k:Int),ks,ks.length,0,(is,os,nt,u),(0,()),br,0,(sc,()),sP (is,os,nt,u),[])) ⟨by show ks.length<=_;omega,hu,BY,0,aN _,rfl,rfl,rfl,aN _⟩];simp only[ae,yQ,D9,bo,aQ,aY];rw[ahB (d:=(is,os,nt,u)) iO];simp only[ae,bG,Z6,aa,bg,cX,bz (show(0:Int)<=(k:Int) by omega) (show(k:Int) < (is.length:Int) by omega),aj,ba hk,cV,List.length_set,aF,kf];rw[fA (by rw[List.length_set])]
   ·simp only[hb];rfl
 ·rw[bE h3,bE (p:=0<=i/\i < (is.length:Int)/\0<=br/\br < 4/\ks.length<=12) au];rfl
theorem asb:wy.RS:=rE [.d ee,.d ti,.d ti,.d tU,.d tu] wy
def ayo:=wy.gf ayn 1 ⟨.gA ahL,trivial⟩
abbrev eO:Ty:=(.pair jy (.pair ti .unit))
abbrev eS:=(lT×(Int×Unit))
abbrev arP:Ty:=(.pair bM (.pair eO .unit))
abbrev adD:=(cw×(eS×Unit))
abbrev cC:Ty:=(.pair (.slice arP) (.pair (.slice bM) .unit))
abbrev cZ:=((List adD)×((List cw)×Unit))
def asO:(Bs×Bs)->Prop:=λ_=>True
def aij:(Bs×Bs)->Int:=λ(a,b)=>S3 a b
def adW:Fs Tryz.prog asO bG aij:=fV 31 Tryz.f31 (λ(a,b)=>([.d tB a,.d tB b],[])) (λx=>⟨.d ti x,[],[]⟩) [ao tB,ao tB] [⟨67,qN,alO,.of (aDb (fn:=Tryz.f67) cM cM cM cM cM) (by rfl)⟩]
theorem ay2(a b)(k:K1 R):adW.A (a,b) k=aq (adV (a,b)) λx1=>k (adW.out x1):=cM
theorem ay3:adW.Ok:=by rintro⟨a,b⟩ _;rw[ay2,alP];rfl
theorem adX:adW.RS:=rE [.d tB,.d tB] adW
def alQ:=adW.gf ay3
def avh:Int->Prop:=λ_=>True
def abA:Int->Bool:=λ_=>aR
def afD:Fs Tryz.prog avh bG abA:=fV 68 Tryz.f68 (λx=>([.d ti x],[])) (λx=>⟨.d .bool x,[],[]⟩) [ao ti]
theorem aAo(x)(k:K1 R):afD.A x k=k (afD.out (JE x x)):=cM
theorem aAp:afD.Ok:=by intro x _;rw[aAo];simp only[bG,abA,eU rfl]
theorem afE:afD.RS:=rE [.d ti] afD
def aAq:=afD.gf aAp
def N4(x y:Int):Int:=if x < y then -1 else if x > y then 1 else 0
def avd:(Int×Int)->Prop:=λ_=>True
def ajz:(Int×Int)->Int:=λ(x,y)=>N4 x y
def Rz:Fs Tryz.prog avd bG ajz:=fV 32 Tryz.f32 (λ(x,yv)=>([.d ti x,.d ti yv],[])) (λx=>⟨.d ti x,[],[]⟩) [ao ti,ao ti] [aAq]
theorem aAi(x yv)(k:K1 R):Rz.A (x,yv) k=aq (afD.call x) λx1=>aq (afD.call yv) λx2=>aS (x1) (aS (x2) (k (Rz.out 0)) (k (Rz.out (-1)))) (aS (x2) (k (Rz.out 1)) (aS (gY x yv) (k (Rz.out (-1))) (aS (Ak x yv) (k (Rz.out 1)) (k (Rz.out 0))))):=cM
theorem aAj:Rz.Ok:=by
 rintro⟨x,y⟩ _;rw[aAi,afE (d:=x) trivial];simp only[ae,bG,abA];rw[afE (d:=y) trivial];simp only[ae,bG,abA,al,bG,ajz,N4];by_cases h:x < y
 ·rw[bm h,aj,if_pos h]
 ·rw[bh h,al,if_neg h];by_cases h2:x > y
  ·rw[dT h2,aj,if_pos h2]
  ·rw[du h2,al,if_neg h2]
theorem ave:Rz.RS:=rE [.d ti,.d ti] Rz
def aAk:=Rz.gf aAj
abbrev Fb:=Int×(List Int)×Int×Int
def yV:Fb->AS:=λ(zero,t6,t7,t8)=>⟨([cq,cq,cq,.d ti zero,cq,cq,.d (.slice ti) t6,.d ti t7,.d ti t8]++bf 9 []),[],(ai 18 [])⟩
def C9:Int->Exit×AS:=λx=>(.ret,⟨([cq,cq,.d ti x]++bf 15 []),[],(ai 18 [])⟩)
def Da:Int->Exit×AS:=λx=>(.exit 0,⟨([cq,cq,cq,.d ti x]++bf 14 []),[],(ai 18 [])⟩)
abbrev S7:=(Int)⊕(Int)
abbrev aeA:=(Int)⊕(Unit)
def Jc:S7->Out (Exit×AS):=λx=> .br x.isLeft (.get x.getLeft? λa=> .ok (C9 a)) (.get x.getRight? λb=> .ok (Da b))
def oB:Fb->aeA->S7:=λ(zero,t6,t7,t8) y=>match y with | .inl y=> .inl y | .inr z=> .inr (zero)
def aEF:List Int->Int
 |[]=>0
 |x::l=>if x≠0 then x else aEF l
def aCP:List Int->Int⊕Unit
 |[]=> .inr ()
 |x::l=>if x≠0 then .inl x else aCP l
theorem aCQ:∀l:List Int,aEF l=match aCP l with | .inl x=>x | .inr _=>0
 |[]=>rfl
 |x::l=>by
  simp only[aEF,aCP];split
  ·rfl
  ·exact aCQ l
def C8:Fb->Prop:=λ(z,l,n,i)=>z=0/\l.length<=1000000000/\n=l.length/\∃k:Nat,k<=l.length/\i=k
def vR:Fb->aeA:=λ(z,l,n,i)=>aCP (l.drop i.toNat)
def azA:(List Int)->Prop:=λl=>l.length<=1000000000
def atP:(List Int)->Int:=λl=>aEF l
def aey:=dW.gA yV C8 oB vR Jc
def PI:Fb->Option S7:=iI aey yV
def aoS:Fs Tryz.prog azA bG atP:=fV 30 Tryz.f30 (λjk=>([.d (.slice ti) jk],[])) (λx=>⟨.d ti x,[],[]⟩) [ao (.slice ti)] [] {loops:=so [(3,{bp:=[3,6,7,8]})],outs:=sm [(3,{bp:=[3]},{bp:=[2]})],gS:=tt [(3,aey)]}
def aez:= @fh Tryz.prog (lU aoS.G) aoS.an 0 Tryz.f30 0 _ yV
abbrev YL:=mn Tryz.prog (lU aoS.G) aoS.an 0 Tryz.f30 0 yV C8 oB vR Jc
theorem aiU:kC PI C8 oB vR:=og (na [.d ti,.d (.slice ti),.d ti,.d ti] λ_=>cM)
theorem Ro:qp @aez yV C8 oB vR Jc YL:=rA
theorem Fc(zero t6 t7 t8)(kn:K2 R)(kx:K3 R):aez (zero,t6,t7,t8) kn kx=aS (gY t8 t7) (aS (gI t8 (((ag t6):Nat):Int)) (aS (JE (nth ti t6 (ab t8)) zero) (kx (C9 (nth ti t6 (ab t8))).1 (C9 (nth ti t6 (ab t8))).2) (kn (yV (zero,t6,t7,(bT .i64 t8 (1:Int)))))) aJ) (kx (Da zero).1 (Da zero).2):=cM
theorem aDv(jk)(k:K1 R):aoS.A jk k=aq (PI (0,jk,(jk.length:Int),0)) λx1=>aS x1.isLeft (aq x1.getLeft? λa2=>k (aoS.out a2)) (aq x1.getRight? λb3=>k (aoS.out b3)):=cM
theorem aoT:YL:=by
 refine Ro (λ(z,l,n,i)=>l.length - i.toNat) ?_
 rintro⟨z,l,n,i⟩ ⟨rfl,hl,rfl,k,hk,rfl⟩;by_cases h:k < l.length
 ·have hd:l.drop k=l[k]::l.drop (k+1):=aC h;have n1:nth ti l k=l[k]:=da (t:=ti) h;by_cases h2:l[k]≠0
  ·right;refine⟨C9 l[k],?_,λkn kx=> ?_⟩;rotate_left
   ·rw[Fc,bm au,aj,bz au au,aj,aa,n1,gZ h2,aj]
   ·simp only[oB,vR,aa,hd,aCP,if_pos h2];rfl
  ·left;refine⟨(0,l,(l.length:Int),((k+1:Nat):Int)),⟨rfl,hl,rfl,k+1,au,rfl⟩,by simp only[aa];omega,?_,λkn kx=> ?_⟩
   ·simp only[oB,vR,aa,hd,aCP,if_neg h2]
   ·rw[Fc,bm au,aj,bz au au,aj,aa,n1,eU au,al,N.nV au]
 ·right;obtain rfl:k=l.length:=au;refine⟨Da 0,?_,λkn kx=> ?_⟩;rotate_left
  ·rw[Fc,bh au,al]
  ·simp only[oB,vR,aa,aU,aCP];rfl
theorem aDw:aoS.Ok:=by intro l hl;rw[aDv,aiU (d:=(0,l,(l.length:Int),0)) ⟨rfl,hl,rfl,0,aN _,rfl⟩];simp only[ae,oB,vR,bo,aQ,bG,atP];rw[aCQ];cases aCP l <;> rfl
theorem al6:aoS.RS:=rE [.d (.slice ti)] aoS
def atQ:=aoS.gf aDw 1 ⟨.gA aoT,trivial⟩
abbrev pZ:Ty:=(.pair ti (.pair tH (.pair (.slice ee) (.pair ti (.pair (.slice bM) .unit)))))
abbrev qq:=(Int×(Bs×((List dM)×(Int×((List cw)×Unit)))))
theorem Rs(x y:List Int):Ty.beq tH x y=decide (x=y):=by
 by_cases h:x=y
 ·rw[h,me rfl];exact beq_refl tH y rfl
 ·rw[jq h];cases hb:Ty.beq tH x y with
  |false=>rfl
  |true=>exact absurd (beq_eq tH x y rfl hb) h
def ah8(o:cw):Prop:=o.1.length=32/\o.2.1<=9223372036854775807
def aIj(b:qq):Prop:=(b.2.2.1.length<=1000/\∀t∈b.2.2.1,wX t)/\(b.1<=9223372036854775807/\b.2.1.length=32/\b.2.2.2.1<=9223372036854775807)/\b.2.2.2.2.1.length<=1000/\∀o∈b.2.2.2.2.1,ah8 o
def aEj(x:Bs)(t:dM):Bs:=x++sP t
def aEi(x:Bs)(o:cw):Bs:=dX (x++o.1) o.2.1
def aIu(b:qq):Bs:=b.2.2.2.2.1.foldl aEi (dX (dX (b.2.2.1.foldl aEj (dX (dX [] b.1++b.2.1) b.2.2.1.length)) b.2.2.2.1) b.2.2.2.2.1.length)
def aDf(b:qq):Bs:=tag (cE (⟨#[98,108,111,99,107]⟩:ByteArray)) [aIu b]
theorem amx:∀(l:List dM) (x:Bs),(l.foldl aEj x).length=x.length+32*l.length
 |[],x=>rfl
 |t::l,x=>by rw[aX,amx l,aEj,ak,BY.1,aH];omega
theorem abz:∀(l:List cw) (x:Bs),(∀o∈l,ah8 o)->(l.foldl aEi x).length<=x.length+43*l.length
 |[],x,_=>aF _
 |o::l,x,h=>by
  have h1:=abz l (aEi x o) λy hy=>h y (aL _ hy)
  have h2:=fE (x++o.1) o.2.1;have h3:=(h o (aK ..)).1;rw[ak]at h2;rw[aX,aH];unfold aEi at h1 ⊢;omega
abbrev NT:=qq×Bs×(List dM)×Int×Int×Bs
def Aq:NT->Bs->((qq×Bs)×(Bs)):=λ(ov,x,t19,t20,t21,n2) y=>((ov,n2),y)
abbrev NU:=Bs×(List cw)×Int×Int×Bs
def Ar:NU->Bs->((Bs)×(Bs)):=λ(aFL,t39,t40,t41,sK) y=>(sK,y)
def ad7:NT->Prop:=λ(b,x,l,n,i,z)=>(l).length<=1000000000/\∃k:Nat,k<=(l).length/\i=k/\n=(l).length/\(l.length<=1000)/\(∀t∈l,wX t)/\(x.length<=1000+32*k)
def G0:NT->Bs:=λ(b,x,l,n,i,z)=>(bV (ab i) l).foldl aEj x
def ad9:NU->Prop:=λ(x,l,n,i,z)=>(l).length<=1000000000/\∃k:Nat,k<=(l).length/\i=k/\n=(l).length/\(l.length<=1000)/\(∀o∈l,ah8 o)/\(x.length<=100000+43*k)
def G1:NU->Bs:=λ(x,l,n,i,z)=>(bV (ab i) l).foldl aEi x
def as2:qq->Prop:=λb=>aIj b
def as1:qq->Bs:=λb=>aDf b
def xj:Ls ad7 Aq G0:=yg (λ(ov,x,t19,t20,t21,n2)=>⟨([cq,.eI pZ ov,fu 2,.d tB x]++bf 15 ([.d (.slice ee) t19,.d ti t20,.d ti t21]++bf 34 [])),[],([[],[],dG (.d tH n2)]++bI 53 [])⟩) (λx=>(.exit 0,⟨([cq,.eI pZ x.1.1,fu 2,.d tB x.2]++bf 52 []),[],([[],[],dG (.d tH x.1.2)]++bI 53 [])⟩))
def xk:Ls ad9 Ar G1:=yg (λ(aFL,t39,t40,t41,sK)=>⟨([cq,cq,fu 2,.d tB aFL]++bf 35 ([.d (.slice bM) t39,.d ti t40,.d ti t41]++bf 14 [])),[],([[],[],dG (.d tH sK)]++bI 53 [])⟩) (λx=>(.exit 2,⟨([cq,cq,fu 2,.d tB x.2]++bf 52 []),[],([[],[],dG (.d tH x.1)]++bI 53 [])⟩))
def IZ:Fs Tryz.prog as2 bG as1:=fV 24 Tryz.f24 (λb=>([.d pZ b],[])) (λx=>⟨.d tH x,[],[]⟩) [ao pZ] [RZ,aeF,Kf,R7] {loops:=so [(3,{bp:=[1,2,3,19,20,21],sites:=[2]}),(9,{bp:=[2,3,39,40,41],sites:=[2]})],outs:=sm [(3,{bp:=[1,2,3],sites:=[2]},{bp:=[2]}),(9,{bp:=[2,3],sites:=[2]},{bp:=[2]})],gS:=tt [(3,xj.E),(9,xk.E)]}
theorem ad8:xj.RS:=rL [.d pZ,.d tB,.d (.slice ee),.d ti,.d ti,.d tB] xj
theorem KL(ov x t19 t20 t21 n2)(kn:K2 R)(kx:K3 R):IZ.R 0 xj (ov,x,t19,t20,t21,n2) kn kx=aS (gY t21 t20) (aS (gI t21 (t19.length:Int)) (aq (tid.call (nth ee t19 (ab t21))) λx1=>aq (HK.call (x,x1)) λx2=>kn (xj.st (ov,x2,t19,t20,(bT .i64 t21 1),n2))) aJ) (xj.go kx ((ov,n2),x)):=cM
theorem aea:xk.RS:=rL [.d tB,.d (.slice bM),.d ti,.d ti,.d tB] xk
theorem KM(aFL t39 t40 t41 sK)(kn:K2 R)(kx:K3 R):IZ.R 1 xk (aFL,t39,t40,t41,sK) kn kx=aS (gY t41 t40) (aS (gI t41 (t39.length:Int)) (aq (HK.call (aFL,(nth bM t39 (ab t41)).1)) λx1=>aq (zg.call (x1,(nth bM t39 (ab t41)).2.1)) λx2=>kn (xk.st (x2,t39,t40,(bT .i64 t41 1),sK))) aJ) (xk.go kx (sK,aFL)):=cM
theorem azb(b)(k:K1 R):IZ.A b k=aq (zg.call (([]:List Int),b.1)) λx1=>aq (HK.call (x1,b.2.1)) λx2=>aq (zg.call (x2,(b.2.2.1.length:Int))) λx3=>aq (xj.call (b,x3,b.2.2.1,(b.2.2.1.length:Int),0,(ai 32 0))) λx6=>aq (zg.call (x6.2,x6.1.1.2.2.2.1)) λx7=>aq (zg.call (x7,(x6.1.1.2.2.2.2.1.length:Int))) λx8=>aq (xk.call (x8,x6.1.1.2.2.2.2.1,(x6.1.1.2.2.2.2.1.length:Int),0,x6.1.2)) λanL=>aq (Oo.call ((⟨#[98,108,111,99,107]⟩:ByteArray),[anL.2])) λadq=>k (IZ.out adq):=cM
theorem aiu:(IZ.mM 0 xj):=by
 refine(IZ.qG 0 xj) (λ(b,x,l,n,i,z)=>(l).length - ab i) ?_
 rintro⟨b,x,l,n,i,z⟩ ⟨hlen,k,hk,rfl,rfl,h3,hx,hb⟩;have hlen:(l).length<=1000000000:=hlen;have hk:k<=(l).length:=hk;have h3:l.length<=1000:=h3;have hx:∀t∈l,wX t:=hx;have hb:x.length<=1000+32*k:=hb;by_cases h:k < (l).length
 ·left;have n1:nth ee l k=l[k]:=da (t:=ee) h;have hd:bV k l=l[k]::bV (k+1) l:=aC h;refine⟨(b,(aEj x l[k]),l,((l).length:Int),((k+1:Nat):Int),z),⟨hlen,k+1,au,rfl,rfl,h3,hx,by unfold aEj;rw[ak,BY.1];omega⟩,by simp only[aa];omega,?_,λkn kx=> ?_⟩
  ·simp only[Aq,G0,aa,hd,aX]
  ·rw[KL,bm au,bz au au,aa,n1];simp only[aj];rw[A6 (d:=l[k]) (hx _ (aV h))];simp only[ae,bG,Nu];rw[G4 (d:=(x,sP l[k])) ⟨by show x.length+(sP l[k]).length<=_;rw[BY.1];omega,BY.1⟩];simp only[ae,bG,K9];rw[N.nV au];rfl
 ·right;obtain rfl:k=(l).length:=au;intro R kn kx;rw[KL,bh au,al];simp only[Aq,G0,aa,aU,db]
theorem aiv:(IZ.mM 1 xk):=by
 refine(IZ.qG 1 xk) (λ(x,l,n,i,z)=>(l).length - ab i) ?_
 rintro⟨x,l,n,i,z⟩ ⟨hlen,k,hk,rfl,rfl,h3,hx,hb⟩;have hlen:(l).length<=1000000000:=hlen;have hk:k<=(l).length:=hk;have h3:l.length<=1000:=h3;have hx:∀o∈l,ah8 o:=hx;have hb:x.length<=100000+43*k:=hb;by_cases h:k < (l).length
 ·left;have n1:nth bM l k=l[k]:=da (t:=bM) h;have hd:bV k l=l[k]::bV (k+1) l:=aC h;refine⟨((aEi x l[k]),l,((l).length:Int),((k+1:Nat):Int),z),⟨hlen,k+1,au,rfl,rfl,h3,hx,by have:=abz [l[k]] x (λo ho=>by rw[bw]at ho;subst ho;exact hx _ (aV h));simp only[aX,db,aH,bB]at this;omega⟩,by simp only[aa];omega,?_,λkn kx=> ?_⟩
  ·simp only[Ar,G1,aa,hd,aX]
  ·rw[KM,bm au,bz au au,aa,n1];simp only[aj];obtain⟨e1,e2⟩:=hx _ (aV h);rw[G4 (d:=(x,l[k].1)) ⟨by show x.length+l[k].1.length<=_;rw[e1];omega,e1⟩];simp only[ae,bG,K9];rw[ju (d:=(x++l[k].1,l[k].2.1)) ⟨by show(x++l[k].1).length<=_;rw[ak,e1];omega,e2⟩];simp only[ae,bG,oC];rw[N.nV au];rfl
 ·right;obtain rfl:k=(l).length:=au;intro R kn kx;rw[KM,bh au,al];simp only[Ar,G1,aa,aU,db]
theorem azc:IZ.Ok:=by rintro b ⟨⟨h1,h2⟩,⟨h3,h4,h5⟩,h6,h7⟩;have z1:((0:Int)).toNat=0:=rfl;have p1:=fE [] b.1;have p2:=fE (dX [] b.1++b.2.1) b.2.2.1.length;rw[ak,h4]at p2;have l0:([]:Bs).length=0:=rfl;rw[l0]at p1;have q1:=amx b.2.2.1 (dX (dX [] b.1++b.2.1) b.2.2.1.length);obtain⟨x3,e3⟩:∃x,dX (dX [] b.1++b.2.1) b.2.2.1.length=x:=⟨_,rfl⟩;rw[e3]at p2 q1;obtain⟨x6,e6⟩:∃x,b.2.2.1.foldl aEj x3=x:=⟨_,rfl⟩;rw[e6]at q1;have p7:=fE x6 b.2.2.2.1;have p8:=fE (dX x6 b.2.2.2.1) b.2.2.2.2.1.length;obtain⟨x8,e8⟩:∃x,dX (dX x6 b.2.2.2.1) b.2.2.2.2.1.length=x:=⟨_,rfl⟩;have q2:=abz b.2.2.2.2.1 x8 h7;rw[e8]at p8;rw[azb,ju (d:=(([]:List Int),b.1)) ⟨by show(0:Nat)<=_;omega,h3⟩];simp only[ae,bG,oC];rw[G4 (d:=(dX [] b.1,b.2.1)) ⟨by show(dX [] b.1).length+b.2.1.length<=_;rw[h4];omega,h4⟩];simp only[ae,bG,K9];rw[ju (d:=(dX [] b.1++b.2.1,(b.2.2.1.length:Int))) ⟨by show(dX [] b.1++b.2.1).length<=_;rw[ak,h4];omega,by show(b.2.2.1.length:Int)<=_;omega⟩];simp only[ae,bG,oC];rw[e3,ad8 (d:=(b,x3,b.2.2.1,(b.2.2.1.length:Int),0,ai 32 0)) ⟨by show b.2.2.1.length<=_;omega,0,aN _,rfl,rfl,h1,h2,au⟩];simp only[ae,Aq,G0,z1,aQ];rw[e6,ju (d:=(x6,b.2.2.2.1)) ⟨by show x6.length<=_;omega,h5⟩];simp only[ae,bG,oC];rw[ju (d:=(dX x6 b.2.2.2.1,(b.2.2.2.2.1.length:Int))) ⟨by show(dX x6 b.2.2.2.1).length<=_;omega,by show(b.2.2.2.2.1.length:Int)<=_;omega⟩];simp only[ae,bG,oC];rw[e8,aea (d:=(x8,b.2.2.2.2.1,(b.2.2.2.2.1.length:Int),0,ai 32 0)) ⟨by show b.2.2.2.2.1.length<=_;omega,0,aN _,rfl,rfl,h6,h7,au⟩];simp only[ae,Ar,G1,z1,aQ];rw[LP (d:=((⟨#[98,108,111,99,107]⟩:ByteArray),[b.2.2.2.2.1.foldl aEi x8])) (ahy eZ au)];simp only[ae,bG,as1,aDf,aIu,e3,e6,e8];rfl
theorem as3:IZ.RS:=rE [.d pZ] IZ
def azd:=IZ.gf azc 2 ⟨.gA aiu,⟨.gA aiv,trivial⟩⟩
abbrev aed:=Int×(List dM)×Int×Int
theorem aad:∀(l:List j9) (n:Int),(∀x∈l,x.2.1.2.1.length<=12)->n<=l.foldl wV n/\l.foldl wV n<=n+110*l.length
 |[],n,_=>by simp
 |x::l,n,h=>by
  have h1:=aad l (wV n x) λy hy=>h y (aL _ hy)
  have h2:=h x (aK ..);have h3:n<=wV n x/\wV n x<=n+110:=by unfold wV;split <;> omega
  rw[aX,aH];omega
theorem Hv(t:dM):0<=kE t/\kE t<=8000:=by
 unfold kE;split
 ·rename_i iO;obtain⟨⟨_,a2,a3,_⟩,b1,b2⟩:=jg iO;have:=aad t.1 (10+8*t.2.1.length) λx hx=>(Du (oR _ _ b1 x hx)).2.2.2.2
  omega
 ·omega
def Pj(n:Int)(t:dM):Int:=n+kE t
def aza(b:qq):Int:=b.2.2.1.foldl Pj b.2.2.2.1
def aix:aed->Prop:=λ(n,l,m,i)=>(l).length<=1000000000/\∃k:Nat,k<=(l).length/\i=k/\m=(l).length/\(l.length<=1000)/\(∀t∈l,wX t)/\(0<=n)/\(n<=1000000+8000*(k:Int))
def KO:aed->Int:=λ(n,l,m,i)=>(bV (ab i) l).foldl Pj n
def aze:qq->Prop:=λb=>aIj b/\0<=b.2.2.2.1/\b.2.2.2.1<=1000000
def alW:qq->Int:=λb=>aza b
def C3:Ls aix bG KO:=yg (λ(n,t9,t10,t11)=>⟨([cq,cq,cq,.d ti n]++bf 5 ([.d (.slice ee) t9,.d ti t10,.d ti t11]++bf 9 [])),[],(ai 21 [])⟩) (λx=>(.exit 0,⟨([cq,cq,cq,.d ti x]++bf 17 []),[],(ai 21 [])⟩))
def adw:Fs Tryz.prog aze bG alW:=fV 23 Tryz.f23 (λb=>([.d pZ b],[])) (λx=>⟨.d ti x,[],[]⟩) [ao pZ] [WW] {loops:=so [(3,{bp:=[3,9,10,11]})],outs:=sm [(3,{bp:=[3]},{bp:=[2]})],gS:=tt [(3,C3.E)]}
theorem aiy:C3.RS:=rL [.d ti,.d (.slice ee),.d ti,.d ti] C3
theorem Pv(n t9 t10 t11)(kn:K2 R)(kx:K3 R):adw.R 0 C3 (n,t9,t10,t11) kn kx=aS (gY t11 t10) (aS (gI t11 (t9.length:Int)) (aq (q9.call (nth ee t9 (ab t11))) λx1=>kn (C3.st ((bT .i64 n x1),t9,t10,(bT .i64 t11 1)))) aJ) (C3.go kx n):=cM
theorem aDg(b)(k:K1 R):adw.A b k=aq (C3.call (b.2.2.2.1,b.2.2.1,(b.2.2.1.length:Int),0)) λx2=>k (adw.out x2):=cM
theorem aoo:(adw.mM 0 C3):=by
 refine(adw.qG 0 C3) (λ(n,l,m,i)=>(l).length - ab i) ?_
 rintro⟨n,l,m,i⟩ ⟨hlen,k,hk,rfl,rfl,h3,hx,h0,h1⟩;have hlen:(l).length<=1000000000:=hlen;have hk:k<=(l).length:=hk;have h3:l.length<=1000:=h3;have hx:∀t∈l,wX t:=hx;have h0:0<=n:=h0;have h1:n<=1000000+8000*(k:Int):=h1;by_cases h:k < (l).length
 ·left;have n1:nth ee l k=l[k]:=da (t:=ee) h;have hd:bV k l=l[k]::bV (k+1) l:=aC h;refine⟨((Pj n l[k]),l,((l).length:Int),((k+1:Nat):Int)),⟨hlen,k+1,au,rfl,rfl,h3,hx,by have:=Hv l[k];unfold Pj;omega,by have:=Hv l[k];unfold Pj;omega⟩,by simp only[aa];omega,?_,λkn kx=> ?_⟩
  ·simp only[bG,KO,aa,hd,aX]
  ·rw[Pv,bm au,bz au au,aa,n1];simp only[aj];have e:=Hv l[k];rw[Rl (d:=l[k]) (hx _ (aV h))];simp only[ae,bG,Ht];rw[gX (x:=n) au au,N.nV au];rfl
 ·right;obtain rfl:k=(l).length:=au;intro R kn kx;rw[Pv,bh au,al];simp only[bG,KO,aa,aU,db]
theorem aDh:adw.Ok:=by rintro b ⟨⟨⟨h1,h2⟩,_⟩,h3,h4⟩;have z1:((0:Int)).toNat=0:=rfl;rw[aDg,aiy (d:=(b.2.2.2.1,b.2.2.1,(b.2.2.1.length:Int),0)) ⟨by show b.2.2.1.length<=_;omega,0,aN _,rfl,rfl,h1,h2,h3,by show b.2.2.2.1<=_;omega⟩];simp only[ae,bG,KO,z1,aQ,bG,alW,aza]
theorem alX:adw.RS:=rE [.d pZ] adw
def as7:=adw.gf aDh 1 ⟨.gA aoo,trivial⟩
def si(h f:Int):Bool:=decide (1<=h/\h<=1048576/\0<=f/\f<=4000)
def ait:(Int×Int)->Prop:=λ_=>True
def KK:(Int×Int)->Bool:=λ(h,f)=>si h f
def y8:Fs Tryz.prog ait bG KK:=fV 52 Tryz.f52 (λ(height,fill)=>([.d ti height,.d ti fill],[])) (λx=>⟨.d .bool x,[],[]⟩) [ao ti,ao ti]
theorem aoi(height fill)(k:K1 R):y8.A (height,fill) k=aS (Bp height 1) (aS (adB height 1048576) (aS (Bp fill 0) (k (y8.out (adB fill 4000))) (k (y8.out aR))) (k (y8.out aR))) (k (y8.out aR)):=cM
theorem aoj:y8.Ok:=by
 rintro⟨h,f⟩ _;rw[aoi];simp only[bG,KK,si];by_cases a1:1<=h
 ·rw[gM a1,aj];by_cases a2:h<=1048576
  ·rw[oO a2,aj];by_cases a3:0<=f
   ·rw[gM a3,aj];by_cases a4:f<=4000
    ·rw[oO a4,me ⟨a1,a2,a3,a4⟩]
    ·rw[mg au,jq au]
   ·rw[eT au,al,jq au]
  ·rw[mg au,al,jq au]
 ·rw[eT au,al,jq au]
theorem SO:y8.RS:=rE [.d ti,.d ti] y8
def Yy:=y8.gf aoj
end Go.Ab
namespace Go.Ab
open Go.Sort (grow)
structure aFh(P:aM)(t:Ty)(g:fK)(Q:t.den->Prop)(cf:t.den->t.den->Int):Prop where
 bU:∃en,rp P g en/\∀x y,Q x->Q y->∃X,en.run [.d t x,.d t y] []=ao X/\en.out [.d t x,.d t y] [] X=⟨.d (.int .i64) (cf x y),[],[]⟩
 enters:∀args w,(callFunc g args).run P w= .ok (.enter g args) w
 irrefl:∀x,Q x->¬cf x x < 0
 trans:∀x y z,Q x->Q y->Q z->cf x y < 0->cf y z < 0->cf x z < 0
 ntrans:∀x y z,Q x->Q y->Q z->¬cf x y < 0->¬cf y z < 0->¬cf x z < 0
theorem az0{w w':bW}(aCw:w'.os=w.os)(aJo:w'.tape=w.tape)(Ru:w'.output=w.output/\w.drawn<=w'.drawn)(sj:w.heap.size<=w'.heap.size)(hb:∀b:Nat,b < w.heap.size->w'.heap[b]? =w.heap[b]?):
  ∃q os,w'=grow (w.drewN q) os:=by
 obtain⟨h1,t1,d1,o1,p1⟩:=w;obtain⟨h2,t2,d2,o2,p2⟩:=w';simp only at*;obtain⟨Ru,hd⟩:=Ru;subst aCw aJo Ru;obtain⟨q,rfl⟩:∃q,d2=d1+q:=⟨d2 - d1,au⟩;refine⟨q,h2.extract h1.size h2.size,?_⟩;have hh:h2=h1++h2.extract h1.size h2.size:=by
  apply rj;intro i;rw[kr];by_cases hi:i < h1.size
  ·rw[if_pos hi,hb i hi]
  ·rw[if_neg hi,Array.getElem?_extract];by_cases h3:i < h2.size
   ·rw[if_pos au];congr 1;omega
   ·rw[if_neg au,Array.getElem?_eq_none au]
 show({heap:=h2,tape:=_,drawn:=_,os:=_,output:=_}:bW)= {heap:=h1++h2.extract h1.size h2.size,tape:=_,drawn:=_,os:=_,output:=_};rw[<-hh];rfl
section
variable {P:aM} {t:Ty} {g:fK} {Q:t.den->Prop} {cf:t.den->t.den->Int}
theorem aFh.aF4(h:aFh P t g Q cf)(ha:t.agg=aT){W:bW}{cx cy:List Value}{x y:t.den}(hx:cI ((fM []).env W (λ_=> .free) (λ_=>aJ)) t cx x)
  (hy:cI ((fM []).env W (λ_=> .free) (λ_=>aJ)) t cy y) (qx:Q x) (qy:Q y):
  Calls P g #[.agg cx.toArray,.agg cy.toArray] W λe w'=>e= .returned (.int .i64 (cf x y))/\∃q os,w'=grow (W.drewN q) os:=by
 obtain⟨en,hd,pK⟩:=h.bU;obtain⟨X,hX1,hX2⟩:=pK x y qx qy;have one:∀ {c:List Value} {z:t.den},cI ((fM []).env W (λ_=> .free) (λ_=>aJ)) t c z->VS ((fM []).env W (λ_=> .free) (λ_=>aJ)) (.d t z) (.agg c.toArray):=λhz=>
  ⟨_,by simpa only[V]using hz,by show fR t.agg _ _;rw[ha];rfl⟩
 have ho:iN ((fM []).env W (λ_=> .free) (λ_=>aJ)):=λid ver fr c h=>by
  exfalso;cases id with
  |bF k=>simp[AS.env,AS.bU,fM]at h
  |new i j=>simp[AS.env,AS.bU,fM]at h
 rcases hd W (λ_=> .free) (λ_=>aJ) [.d t x,.d t y] [] [.agg cx.toArray,.agg cy.toArray] X ⟨one hx,one hy,trivial⟩ ho hX1 with⟨_,hc⟩ | ⟨v,w',hc,_⟩
 ·refine hc.mono λe w' he=> ?_
  obtain⟨v,rfl,g',β',hv,_,ht,_⟩:=he;rw[hX2]at hv;obtain⟨cs,k1,k2⟩:=hv;have k1:cs=[.int .i64 (cf x y)]:=k1;subst k1;have k2: [Value.int .i64 (cf x y)]=[v]:=k2;have hv:v= .int .i64 (cf x y):=by simpa using k2.symm
  exact⟨by rw[hv],az0 ht.os ht.tape ht.output ht.size λb hb=>(ht.xo b hb).2⟩
 ·rw[h.enters]at hc;cases hc
def asD(cf:t.den->t.den->Int)(l l':List t.den):Prop:=l'.Perm l/\l'.Pairwise λx y=>¬cf y x < 0
open Classical in
def Kd(cf:t.den->t.den->Int)(l:List t.den):List t.den:=if h:∃l',asD cf l l' then h.choose else l
theorem acS(h:aFh P t g Q cf){l:List t.den}(hQ:∀x∈l,Q x):asD cf l (Kd cf l):=by
 have hx:∃l',asD cf l l':=by
  let le: {x // Q x}-> {x // Q x}->Bool:=λx y=> !decide (cf y.1 x.1 < 0)
  refine⟨((l.attachWith Q hQ).mergeSort le).map (·.1),?_,?_⟩
  ·have h1:=(List.mergeSort_perm (l.attachWith Q hQ) le).map (·.1);rwa[List.attachWith_map_subtype_val]at h1
  ·have h2:=List.pairwise_mergeSort (le:=le) (λa b c h1 h2=>by
    simp only[le,cv,gJ]at*;exact h.ntrans _ _ _ c.2 b.2 a.2 h2 h1) (λa b=>by
    simp only[le,ij,cv,gJ];by_cases h1:cf b.1 a.1 < 0
    ·exact .inr λh2=>h.irrefl _ a.2 (h.trans _ _ _ a.2 b.2 a.2 h2 h1)
    ·exact .inl h1) (l.attachWith Q hQ)
   rw[List.pairwise_map];exact h2.imp λ {a b} h3=>by simpa[le]using h3
 unfold Kd;rw[xJ hx];exact hx.choose_spec
theorem Wk(h:aFh P t g Q cf){l l':List t.den}(hQ:∀x∈l,Q x)(hT:∀x∈l,∀y∈l,¬cf x y < 0->¬cf y x < 0->x=y)(hs:asD cf l l'):l'=Kd cf l:=by have h2:=acS h hQ;exact List.Perm.eq_of_pairwise (λa b ha hb h3 h4=>hT a (hs.1.mem_iff.1 ha) b (h2.1.mem_iff.1 hb) h4 h3) hs.2 h2.2 (hs.1.trans h2.1.symm)
def Nk(g:fK)(e:TypeId)(t:Ty):Nat×List t.den->List aD×List dU:=λd=>([.b8 (.bF 0) 0 [] 0 0 d.1,.fn g .nil],[.obj 0 aR (.vec e t d.2)])
def Wj(Q:t.den->Prop)(cf:t.den->t.den->Int):Nat×List t.den->Prop:=λd=>d.1=d.2.length/\d.2.length < 4611686018427387904/\(∀x∈d.2,Q x)/\∀x∈d.2,∀y∈d.2,¬cf x y < 0->¬cf y x < 0->x=y
def aE2(e:TypeId)(t:Ty):Nat×List t.den->ig:=λx=>⟨.nil,[.obj 0 aR (.vec e t x.2)],[]⟩
def aBG(g:fK)(e:TypeId)(t:Ty)(Q:t.den->Prop)(cf:t.den->t.den->Int):Entry:=Entry.of [aJ,aJ] (Nk g e t) (Wj Q cf) (λd=>(d.1,Kd cf d.2)) (aE2 e t)
theorem aBI{g:fK}{e:TypeId}{t:Ty}(d d':Nat×List t.den)(h:Nk g e t d=Nk g e t d'):d=d':=by obtain⟨n,l⟩:=d;obtain⟨n',l'⟩:=d';simp only[Nk,cK,cz,aD.b8.injEq,dU.obj.injEq,Ae,eG]at h;obtain⟨rfl,h2⟩:=h;rw[aBX h2]
def acR(g:fK)(e:TypeId)(t:Ty)(Q:t.den->Prop)(cf:t.den->t.den->Int):Nat×List t.den->Option (Nat×List t.den):=λd=>(aBG g e t Q cf).run (Nk g e t d).1 (Nk g e t d).2
theorem anA{g:fK}{e:TypeId}{t:Ty}{Q:t.den->Prop}{cf:t.den->t.den->Int}{d:Nat×List t.den}(h:Wj Q cf d):acR g e t Q cf d=ao (d.1,Kd cf d.2):=Entry.rO aBI h
theorem KY{R:List Value->t.den->Prop}:∀ {cs:List Value} {l:List t.den},bq R cs l->(∀x∈l,Q x)->∃ps:List {p:List Value×t.den // R p.1 p.2/\Q p.2},ps.map (·.1.2)=l/\(ps.map (·.1.1)).flatten=cs
 |cs,[],h,_=>⟨[],rfl,by have h:cs=[]:=h;rw[h];rfl⟩
 |cs,x::l,⟨c,cs',h1,h2,h3⟩,hq=>by
  obtain⟨ps,h4,h5⟩:=KY h3 λy hy=>hq y (aL _ hy)
  exact⟨⟨(c,x),h2,hq x (aK ..)⟩::ps,by simp[h4],by simp[h5,h1]⟩
theorem Mr{R R':List Value->t.den->Prop}(hR:∀c x,R c x->R' c x):∀ps:List {p:List Value×t.den // R p.1 p.2/\Q p.2},bq R' (ps.map (·.1.1)).flatten (ps.map (·.1.2))
 |[]=>rfl
 |p::ps=>⟨p.1.1,(ps.map (·.1.1)).flatten,by simp,hR _ _ p.2.1,Mr hR ps⟩
theorem afb{α:Type} [Inhabited α] (enc:α->List Value) {k:Nat} (hk:∀x,(enc x).length=k):∀(ps:List α) (j:Nat),j < ps.length*k->((ps.map enc).flatten)[j]? =(enc (ps.toArray[j / k]!))[j%k]?
 |[],j,h=>by simp at h
 |p::ps,j,h=>by
  have k0:0 < k:=by
   rcases iM k with h0 | h0
   ·subst h0;simp at h
   ·exact h0
  simp only[cr,jm];by_cases hj:j < k
  ·rw[fq (by rw[hk];exact hj),Nat.div_eq_of_lt hj,jZ hj];rfl
  ·have e1:j / k=(j - k) / k+1:=by rw[Nat.div_eq_sub_div k0 au]
   have e2:j%k=(j - k)%k:=by rw[Nat.mod_eq_sub_mod au]
   rw[List.getElem?_append_right (by rw[hk];omega),hk,afb enc hk ps (j - k) (by simp only[aH,eM,ik]at h;omega),e1,e2];congr 2;simp
theorem Jy{α:Type} [Inhabited α] (enc:α->List Value) {k:Nat} (hk:∀x,(enc x).length=k) (d:Array α):(Go.Sort.flatK enc k d).toList=(d.toList.map enc).flatten:=by
 have hl:((d.toList.map enc).flatten).length=d.size*k:=by
  rw[List.length_flatten,List.map_map];have:(d.toList.map (ag∘enc))=ai d.size k:=by rw[List.eq_replicate_iff];exact⟨by simp,λx hx=>by obtain⟨y,_,rfl⟩:=dO.1 hx;exact hk y⟩
  rw[this,List.sum_replicate_nat]
 apply kT;intro j;by_cases hj:j < d.size*k
 ·rw[afb enc hk d.toList j (by simpa using hj)];have h2:(Go.Sort.flatK enc k d).toList[j]? =ao ((Go.Sort.flatK enc k d)[j]!):=by rw[iH,lh _ j (by rw[Go.Sort.size_flatK];exact hj)];simp[hj]
  rw[h2,Go.Sort.get_flatK _ _ _ _ hj];have aGy:0 < k:=by
   rcases iM k with h0 | h0
   ·subst h0;simp at hj
   ·exact h0
  have hm:j%k < k:=Nat.mod_lt _ aGy;simp only[Array.toArray_toList];rw[bQ (by rw[hk];exact hm),lh _ _ (by rw[hk];exact hm)]
 ·rw[dP (by simpa using hj),dP (by rw[hl];omega)]
theorem axk{F cur:Array Value}(h:F.size<=cur.size):(Go.Sort.putCells id 0 F cur).toList=F.toList++cur.toList.drop F.size:=by
 apply kT;intro j;simp only[Go.Sort.putCells,iH,Array.getElem?_mapIdx,aN,Ae,bg,Nat.sub_zero,id];by_cases hj:j < F.size
 ·rw[fq (by simpa using hj),iH,fp hj,fp au,eo,if_pos hj,lh F j hj]
 ·rw[List.getElem?_append_right (by simpa using hj),fx,iH,cR,show F.size+(j - F.size)=j by omega];cases cur[j]? with
  |none=>rfl
  |some y=>rw[eo,if_neg hj]
end
section
open Go.Proofs Go.Shelf Go.Lib Go.Sort
variable {P:aM} {ρ:Go.Shelf.Ren} {t:Ty} {g:fK} {Q:t.den->Prop} {cf:t.den->t.den->Int}
theorem Wn{α:Type} [Inhabited α] (enc:α->List Value) (k:Nat) (w:bW) (xo m:Nat) (dk:Array α) (os:Array Obj) {b:Nat} (hb:b < w.heap.size) (gj:b≠xo):(sortWorldK enc k w xo 0 m dk os).heap[b]? =w.heap[b]? :=by
 show((w.heap.modify xo _)++os)[b]? =_
 rw[kr,if_pos (by simpa using hb),gl,if_neg (λe=>gj e.symm)]
theorem aBL{α:Type} [Inhabited α] (enc:α->List Value) (k:Nat) (w:bW) (xo m:Nat) (dk:Array α) (os:Array Obj) {cur:Array Value} {e:TypeId} {fr:Nat×Nat} (hb:w.heap[xo]? =ao (.cells cur e fr)):
  (sortWorldK enc k w xo 0 m dk os).heap[xo]? =ao (.cells (putCells id 0 (flatK enc k dk) cur) e fr):=by
 have je:xo < w.heap.size:=(bO.1 hb).1;show((w.heap.modify xo _)++os)[xo]? =_
 rw[kr,if_pos (by simpa using je),gl,if_pos rfl,hb];rfl
set_option maxHeartbeats 1000000 in
theorem ax0(L:SlLaysF0.n6 P ρ){e:TypeId}(ha:t.agg=aT)(aE:∀w,(isAgg (ρ.t 24)).run P w= .ok aT w)(zE:∀w,(Go.sizeOf (ρ.t 24)).run P w= .ok t.size w)(hc:aFh P t g Q cf):
  rp P (ρ.f 6) (aBG g e t Q cf):=by
 intro w γ β args cn jk x hv ho hx;obtain⟨d0,aHP,aGO⟩:∃d,Nk g e t d=(args,cn)/\Wj Q cf d:=by
  by_cases hh:∃d,Nk g e t d=(args,cn)/\Wj Q cf d
  ·exact hh
  ·exfalso;have hn:(aBG g e t Q cf).run args cn=aJ:=AA hh;rw[hn]at hx;cases hx
 have hr:=anA (g:=g) (e:=e) aGO;unfold acR at hr;rw[aHP]at hr;obtain rfl:x=(d0.1,Kd cf d0.2):=aP (hx.symm.trans hr);obtain⟨n,l⟩:=d0;simp only[Nk,cK]at aHP;obtain⟨rfl,rfl⟩:=aHP;obtain⟨hn,sj,hQ,hT⟩:=aGO;have hn:n=l.length:=hn;subst hn
 match jk,hv with
 |[y1,y2],⟨ayO,NJ,_⟩=>
 obtain⟨vs,rfl,P9⟩:=TE NJ;have P9:vs=[]:=by simpa only[VC]using P9
 subst P9;have h1:=ayO.single rfl rfl;simp only[V]at h1;obtain⟨a,cap,h1,LH,qh,_,fD⟩:=h1;have h1:y1= .slice a l.length cap:=by simpa using h1
 subst h1;have cP:(fM [dU.obj 0 aR (.vec e t l)]).bU (.bF 0)=ao (.obj 0 aR (.vec e t l)):=rfl;obtain⟨hz,hO⟩:aC9 ((fM [dU.obj 0 aR (.vec e t l)]).env w γ β) (.bF 0) aR e t l:=ho (.bF 0) 0 aR _ cP;have fD:=fD ⟨aR,_,cP⟩;refine .inl ⟨L.f6.enters rfl _ _,?_⟩;have aLr:∀v:Value,v= .tuple #[]->VS ((ig.st ⟨.nil,[.obj 0 aR (.vec e t (Kd cf l))],[]⟩).env w γ β) .nil v:=λv hv=>by rw[hv];exact rfl
 have hS:=acS hc hQ;by_cases hl:l=[]
 ·subst hl;have hs:Kd cf ([]:List t.den)=[]:=bu hS.1.length_eq;refine(AnyF.slices_SortFunc_none L a cap _ w).mono λe' w' he=> ?_
  obtain⟨rfl,rfl⟩:=he;refine⟨_,rfl,?_⟩;show sR _ (⟨.nil,[.obj 0 aR (.vec e t (Kd cf []))],[]⟩:ig) _ _;rw[hs];exact sR.same rfl ho
 ·have sI:0 < l.length:=List.length_pos_iff.2 hl
  change (match β (.bF 0) with | none=>l=[] | some pl=>∃cur k,w.heap[pl.b]? =ao (.cells cur e (0,0))/\cur.size=pl.cap*t.size/\l.length<=pl.cap/\pl.cap<=maxLen/\γ pl.b= .own (.id (.bF 0)) k/\
   k<=l.length*t.size/\(aR=aR->k=0)/\bq (cI ((fM [dU.obj 0 aR (.vec e t l)]).env w γ β) t) (cur.toList.take (l.length*t.size)) l) at hO
  change (match β (.bF 0) with | some pl=>(0 < l.length\/True->a=ao ⟨pl.b,0,aJ⟩)/\(True->True->cap=pl.cap) | none=>a=aJ/\l.length=0/\cap=0) at fD;cases hβ:β (.bF 0) with
  |none=>rw[hβ]at hO;exact absurd hO hl
  |some pl=>
  rw[hβ]at hO fD;obtain⟨cur,k0,q1,q2,q3,q4,q5,_,q7,q8⟩:=hO;obtain rfl:=q7 rfl;obtain rfl:=fD.1 (.inl sI);have hblk:pl.b < w.heap.size:=(bO.1 q1).1;obtain⟨R,hR⟩:∃R:List Value->t.den->Prop,R=cI ((fM [dU.obj 0 aR (.vec e t l)]).env w γ β) t:=⟨_,rfl⟩;have hRm:∀c x,R c x->cI ((fM [dU.obj 0 aR (.vec e t l)]).env w γ β) t c x:=by rw[hR];exact λ_ _ h=>h
  rw[<-hR]at q8;obtain⟨ps,p1,p2⟩:=KY (Q:=Q) q8 hQ;have aGP:ps.length=l.length:=by rw[<-p1,cH]
  let α:= {p:List Value×t.den // R p.1 p.2/\Q p.2}
  have:0 < ps.length:=au
  letI:Inhabited α:=⟨ps[0]⟩
  let enc:α->List Value:=λp=>p.1.1
  let cf':α->α->Int:=λp q=>cf p.1.2 q.1.2
  have hk:∀x,(enc x).length=t.size:=λx=>(hRm _ _ x.2.1).size
  have hO:SWO (ltOf cf'):=⟨λx=>by simpa[ltOf,cf']using hc.irrefl _ x.2.2,λx y z h1 h2=>by
   simp only[ltOf,aW,cf']at*;exact hc.trans _ _ _ x.2.2 y.2.2 z.2.2 h1 h2,λx y z h1 h2=>by
   simp only[ltOf,gJ,cf']at*;exact hc.ntrans _ _ _ x.2.2 y.2.2 z.2.2 h1 h2⟩
  have Cm:∀j,j < l.length*t.size->cur[j]? =((ps.map enc).flatten)[j]? :=λj hj=>by have:(ps.map enc).flatten=cur.toList.take (l.length*t.size):=p2;rw[this,c9,if_pos hj,iH]
  have hH:HoldsK enc t.size w pl.b 0 ps.toArray:=λj hj=>by
   rw[size_flatK]at hj;have hj:j < ps.length*t.size:=by simpa using hj
   have h2:=Cm j (by rw[<-aGP];exact hj);have h3:((flatK enc t.size ps.toArray).toList)[j]? =((ps.map enc).flatten)[j]? :=by rw[Jy enc hk]
   rw[iH,fp (by rw[size_flatK];simpa using hj)]at h3;refine⟨?_,?_⟩
   ·show(match w.heap[pl.b]? with | some (.cells c _ _)=>if(aJ:Option _).isSome then aJ else c[0+j]? | _=>aJ)=_;rw[q1];simp only[ru,bR,cF,bg];rw[h2,<-h3,lh _ j (by rw[size_flatK];simpa using hj)];rfl
   ·show(match w.heap[pl.b]? with | some (.cells _ _ (lo,hi))=>decide (lo<=0+j) && decide (0+j < hi) | _=>aR)=aR;rw[q1];simp
  have tn:∀(m:Nat) (dk:Array α) (os:Array Obj),sU ((fM [dU.obj 0 aR (.vec e t l)]).env w γ β) ((fM []).env (sortWorldK enc t.size w pl.b 0 m dk os) (λ_=> .free) (λ_=>aJ)):=λm dk os=>by
   refine⟨λb off v hh=>⟨?_,trivial⟩,λb ob hf kA=>⟨rfl,?_⟩⟩
   ·obtain⟨h1,h2⟩:=hh;have hb:b < w.heap.size:=World.block_lt_of_cell? _ _ h1;have gj:b≠pl.b:=λe=>by have h2:sM γ b off:=h2;unfold sM at h2;rw[e,q5]at h2;exact Nat.not_lt_zero _ h2
    have h1:w.cell? ⟨b,off,aJ⟩=ao v:=h1;show(sortWorldK enc t.size w pl.b 0 m dk os).cell? ⟨b,off,aJ⟩=ao v;simpa only[eN,Wn enc t.size w pl.b m dk os hb gj]using h1
   ·have kA:w.heap[b]? =ao ob:=kA
    have hb:b < w.heap.size:=(bO.1 kA).1;have gj:b≠pl.b:=λe=>by have hf:γ b= .free:=hf;rw[e,q5]at hf;cases hf
    exact(Wn enc t.size w pl.b m dk os hb gj).trans kA
  have aIJ:CmpLays P g #[] enc t.size cf' pl.b 0 ps.toArray.size w:=λm os dk _ p q=>
   hc.aF4 ha ((hRm _ _ p.2.1).mono (tn m dk os)) ((hRm _ _ q.2.1).mono (tn m dk os)) p.2.2 q.2.2
  have aGm:=AnyQ.slices_SortFunc L t.size aE zE enc hk (λp=>(hRm _ _ p.2.1).one) cf' hO g #[] pl.b 0 cap ps.toArray w hc.enters aIJ hH hblk (by simpa[aGP]using sj);rw[show ps.toArray.size=l.length by simpa using aGP]at aGm;refine aGm.mono λe' w' he=> ?_
  obtain⟨rfl,d',m,os,hp,hs,rfl⟩:=he;refine⟨_,rfl,?_⟩;obtain⟨s1,_,s2⟩:=hp;have hd:d'.size=l.length:=by rw[s1];simpa using aGP
  have afs:d'.toList.Perm ps:=by
   have e1:(d'.extract 0 l.length)=d':=by rw[<-hd];simp
   have e2:(ps.toArray.extract 0 l.length)=ps.toArray:=by rw[<-aGP];simp
   rw[e1,e2]at s2;exact s2
  have hl':asD cf l (d'.toList.map (·.1.2)):=by refine⟨by rw[<-p1];exact afs.map _,?_⟩;rw[List.pairwise_map,List.pairwise_iff_getElem];intro i j hi hj aHW;have:=hs i j (aN _) aHW (by rw[<-hd];simpa using hj);rw[lh d' i (by simpa using hi),lh d' j (by simpa using hj)]at this;simpa[ltOf,cf']using this
  have heq:=Wk hc hQ hT hl';show sR _ (⟨.nil,[.obj 0 aR (.vec e t (Kd cf l))],[]⟩:ig) _ _;rw[<-heq];have lj:=aBL enc t.size w pl.b m d' os q1;have hFs:(flatK enc t.size d').size<=cur.size:=by rw[size_flatK,hd,q2];exact c8 _ q3
  have HA:∀b,b < w.heap.size->b≠pl.b->(sortWorldK enc t.size w pl.b 0 m d' os).heap[b]? =w.heap[b]? :=λb hb gj=>Wn enc t.size w pl.b m d' os hb gj
  have au6:w.heap.size<=(sortWorldK enc t.size w pl.b 0 m d' os).heap.size:=size_sortWorldK_c enc t.size w pl.b 0 m d' os;have hw:(sortWorldK enc t.size w pl.b 0 m d' os).os=w.os/\(sortWorldK enc t.size w pl.b 0 m d' os).tape=w.tape/\((sortWorldK enc t.size w pl.b 0 m d' os).output=w.output/\w.drawn<=(sortWorldK enc t.size w pl.b 0 m d' os).drawn):=⟨rfl,rfl,rfl,Nat.le_add_right _ _⟩;generalize sortWorldK enc t.size w pl.b 0 m d' os=w' at lj HA au6 hw;have ht:Trans w w' γ γ:=by
   refine⟨hw.1,hw.2.1,hw.2.2,au6,λb hb=> ?_⟩;by_cases aID:b=pl.b
   ·subst aID;rw[q5];exact⟨.inr ⟨_,0,rfl,aF _⟩,λ_ _ hh=>au⟩
   ·rw[HA b hb aID];cases Rt:γ b with
    |free=>exact⟨rfl,rfl⟩
    |own o' k=>cases o' with
     |eL=>exact⟨rfl,rfl⟩
     |id i'=>exact⟨.inr ⟨i',k,rfl,aF _⟩,λoff v _ hv=>by simpa only[eN,HA b hb aID]using hv⟩
  have hle:cU ((fM [dU.obj 0 aR (.vec e t l)]).env w γ β) ((ig.st ⟨.nil,[.obj 0 aR (.vec e t (d'.toList.map (·.1.2)))],[]⟩).env w' γ β):=by
   have e0:∀id,(∃c,(fM [dU.obj 0 aR (.vec e t l)]).bU id=ao (.obj 0 aR c)/\id= .bF 0)\/((fM [dU.obj 0 aR (.vec e t l)]).bU id=aJ/\(ig.st ⟨.nil,[.obj 0 aR (.vec e t (d'.toList.map (·.1.2)))],[]⟩).bU id=aJ):=λid=>by
    cases id with
    |bF k=>cases k with
     |zero=>exact .inl ⟨_,rfl,rfl⟩
     |succ k=>exact .inr ⟨rfl,rfl⟩
    |new i j=>refine .inr ⟨?_,?_⟩ <;> cases i <;> rfl
   refine⟨Trans.mem (E:=(fM [dU.obj 0 aR (.vec e t l)]).env w γ β) (E':=(ig.st ⟨.nil,[.obj 0 aR (.vec e t (d'.toList.map (·.1.2)))],[]⟩).env w' γ β) ht,λid ver hb=> ?_,λid ver hb aK7=> ?_⟩
   ·rcases e0 id with⟨c,_,rfl⟩ | ⟨h1,_⟩
    ·refine⟨by show(ao _:Option dU)≠aJ;simp,λv fr c h=> ?_⟩;have h:ao (dU.obj 0 aR (.vec e t (d'.toList.map (·.1.2))))=ao (.obj v fr c):=h;simp only[az,dU.obj.injEq]at h;have:=hb.2 0 aR _ rfl;omega
    ·exact absurd h1 hb.1
   ·rcases e0 id with⟨c,_,rfl⟩ | ⟨h1,_⟩
    ·obtain⟨fr,c,h⟩:=aK7;have h:ao (dU.obj 0 aR (.vec e t (d'.toList.map (·.1.2))))=ao (.obj ver fr c):=h;simp only[az,dU.obj.injEq]at h;obtain⟨rfl,rfl,_⟩:=h;exact⟨⟨aR,_,rfl⟩,rfl⟩
    ·exact absurd h1 hb.1
  refine⟨γ,β,rfl,λid ver fr c h=> ?_,ht,hle⟩;have de:id= .bF 0/\ver=0/\fr=aR/\c= .vec e t (d'.toList.map (·.1.2)):=by
   cases id with
   |bF k=>cases k with
    |zero=>
     have h:ao (dU.obj 0 aR (.vec e t (d'.toList.map (·.1.2))))=ao (.obj ver fr c):=h;simp only[az,dU.obj.injEq]at h;obtain⟨rfl,rfl,rfl⟩:=h;exact⟨rfl,rfl,rfl,rfl⟩
    |succ k=>cases h
   |new i j=>cases i <;> cases h
  obtain⟨rfl,rfl,rfl,rfl⟩:=de;refine⟨hz,?_⟩;show(match β (.bF 0) with | none=>(d'.toList.map (·.1.2))=[] | some pl=>_);rw[hβ];have hlen:(d'.toList.map (λp:α=>p.1.2)).length=l.length:=by simpa using hd
  refine⟨_,0,lj,?_,by rw[hlen];exact q3,q4,q5,aN _,λ_=>rfl,?_⟩
  ·rw[<-q2];simp[putCells]
  ·have e3:(putCells id 0 (flatK enc t.size d') cur).toList.take ((d'.toList.map (λp:α=>p.1.2)).length*t.size)=(d'.toList.map enc).flatten:=by
    rw[axk hFs,Jy enc hk,hlen];have e4:((d'.toList.map enc).flatten).length=l.length*t.size:=by rw[<-Jy enc hk,cR,size_flatK,hd]
    rw[<-e4,List.take_left]
   rw[e3];exact Mr (Q:=Q) (λc x h=>(hRm c x h).mono hle.mem) d'.toList
end
end Go.Ab
namespace Go.Ab
open Go.Proofs
def I7(a b:cw):Int:=aEF [S3 a.1 b.1,N4 a.2.1 b.2.1]
def atp:(cw×cw)->Prop:=λ(a,b)=>a.1.length=32/\b.1.length=32
def ato:(cw×cw)->Int:=λ(a,b)=>I7 a b
def aiL:Fs Tryz.prog atp bG ato:=fV 29 Tryz.f29 (λ(a,b)=>([.d bM a,.d bM b],[])) (λx=>⟨.d ti x,[],[]⟩) [ao bM,ao bM] [alQ,aAk,atQ]
theorem azm(a b)(k:K1 R):aiL.A (a,b) k=aq (adW.call ((cut a.1 0 32),(cut b.1 0 32))) λx1=>aq (Rz.call (a.2.1,b.2.1)) λx2=>aq (aoS.call [x1,x2]) λx3=>k (aiL.out x3):=cM
theorem azn:aiL.Ok:=by rintro⟨a,b⟩ ⟨ha,hb⟩;have ha:a.1.length=32:=ha;have hb:b.1.length=32:=hb;have c1:cut a.1 0 32=a.1:=fA ha;have c2:cut b.1 0 32=b.1:=fA hb;rw[azm,c1,c2,adX (d:=(a.1,b.1)) trivial];simp only[ae,bG,aij];rw[ave (d:=(a.2.1,b.2.1)) trivial];simp only[ae,bG,ajz];rw[al6 (d:=[S3 a.1 b.1,N4 a.2.1 b.2.1]) (by show 2<=_;decide)];simp only[ae,bG,atP,bG,ato,I7]
theorem atq:aiL.RS:=rE [.d bM,.d bM] aiL
def azo:=aiL.gf azn
def lx:List Int->List Int->Int
 |x::xs,y::ys=>if x≠y then(if x < y then -1 else 1) else lx xs ys
 |_,_=>0
theorem amM:∀a,lx a a=0
 |[]=>rfl
 |x::a=>by simp[lx,amM a]
theorem aCH:∀ {a b:List Int},a.length=b.length->lx a b=0->a=b
 |[],[],_,_=>rfl
 |[],_::_,h,_=>by simp at h
 |_::_,[],h,_=>by simp at h
 |x::a,y::b,h,h2=>by
  simp only[lx]at h2;split at h2
  ·split at h2 <;> omega
  ·rename_i e;have e:x=y:=au;rw[e,aCH (by simpa using h) h2]
theorem Un:∀a b:List Int,lx b a= - lx a b
 |[],[]=>rfl
 |[],_::_=>rfl
 |_::_,[]=>rfl
 |x::a,y::b=>by
  simp only[lx];by_cases h:x=y
  ·rw[if_neg au,if_neg au,Un a b]
  ·rw[if_pos au,if_pos h];by_cases h2:x < y
   ·rw[if_neg au,if_pos h2];rfl
   ·rw[if_pos au,if_neg h2]
theorem Uo:∀ {a b c:List Int},a.length=b.length->b.length=c.length->lx a b<=0->lx b c<=0->lx a c<=0/\(lx a c=0->lx a b=0/\lx b c=0)
 |[],[],[],_,_,_,_=>by simp[lx]
 |x::a,y::b,z::c,h1,h2,h3,h4=>by
  have ih:=Uo (a:=a) (b:=b) (c:=c) (by simpa using h1) (by simpa using h2);simp only[lx]at h3 h4 ⊢;by_cases e1:x=y
  ·by_cases e2:y=z
   ·rw[if_neg au]at h3 h4;rw[if_neg au,if_neg au,if_neg au];exact ih h3 h4
   ·rw[if_neg au]at h3;rw[if_pos e2]at h4;rw[if_pos au];by_cases e3:y < z
    ·rw[if_pos au];exact⟨au,λh=>au⟩
    ·rw[if_neg e3]at h4;omega
  ·rw[if_pos e1]at h3;by_cases e3:x < y
   ·by_cases e2:y=z
    ·rw[if_pos au,if_pos au];exact⟨au,λh=>au⟩
    ·rw[if_pos e2]at h4;by_cases e4:y < z
     ·rw[if_pos au,if_pos au];exact⟨au,λh=>au⟩
     ·rw[if_neg e4]at h4;omega
   ·rw[if_neg e3]at h3;omega
 |[],_::_,_,h,_,_,_=>by simp at h
 |_::_,[],_,h,_,_,_=>by simp at h
 |_,[],_::_,_,h,_,_=>by simp at h
 |_,_::_,[],_,h,_,_=>by simp at h
def aIc(a b:Int):Int:=if a=0 then b else a
theorem abT{p:Int}{a b:List Int}:lx (p::a) (p::b)=lx a b:=by simp[lx]
theorem OC{p q:Int}{a b:List Int}(h:¬p=q):lx (p::a) (q::b)=if p < q then -1 else 1:=by simp[lx,h]
theorem amL:∀ {a b:List Int} (x y:Int),a.length=b.length->lx (a++ [x]) (b++ [y])=aIc (lx a b) (N4 x y)
 |[],[],x,y,_=>by
  show lx [x] [y]=aIc 0 (N4 x y);simp only[aIc,cY];unfold N4;by_cases h:x=y
  ·subst h;rw[abT,if_neg au,if_neg au];rfl
  ·rw[OC h];by_cases h2:x < y
   ·rw[if_pos h2,if_pos h2]
   ·rw[if_neg h2,if_neg h2,if_pos au]
 |[],_::_,_,_,h=>by simp at h
 |_::_,[],_,_,h=>by simp at h
 |p::a,q::b,x,y,h=>by
  show lx (p::(a++ [x])) (q::(b++ [y]))=_;by_cases h2:p=q
  ·subst h2;rw[abT,abT];exact amL x y (by simpa using h)
  ·rw[OC h2,OC h2];by_cases h3:p < q
   ·rw[if_pos h3];rfl
   ·rw[if_neg h3];rfl
def atL:List UInt8->List UInt8->Int
 |x::xs,y::ys=>if x !=y then(if x < y then -1 else 1) else atL xs ys
 |_,_=>0
theorem aeu:∀(xs ys:List UInt8),xs.length=ys.length->(match(List.range xs.length).find? λi=>xs[i]! !=ys[i]! with | some i=>if xs[i]! < ys[i]! then(-1:Int) else 1 | none=>0)=atL xs ys
 |[],[],_=>rfl
 |[],_::_,h=>by simp at h
 |_::_,[],h=>by simp at h
 |x::xs,y::ys,h=>by
  have ih:=aeu xs ys (by simpa using h);rw[aH,List.range_succ_eq_map,List.find?_cons];simp only[List.getElem!_cons_zero,atL];cases hb:(x !=y) with
  |true=>simp
  |false=>
   simp only[bR,cF];rw[List.find?_map,<-ih];have e:((λi=>(x::xs)[i]! !=(y::ys)[i]!)∘Nat.succ)=λi=>xs[i]! !=ys[i]! :=by funext i;simp
   rw[e];cases(List.range xs.length).find? λi=>xs[i]! !=ys[i]! <;> simp
theorem al5:∀ {a b:List Int},(∀x∈a,0<=x/\x < 256)->(∀x∈b,0<=x/\x < 256)->atL (a.map λn=>fo n.toNat) (b.map λn=>fo n.toNat)=lx a b
 |[],_,_,_=>by cases ‹List Int› <;> rfl
 |_::_,[],_,_=>rfl
 |x::a,y::b,ha,hb=>by
  have hx:=ha x (aK ..);have hy:=hb y (aK ..);have ih:=al5 (a:=a) (b:=b) (λz hz=>ha z (aL _ hz)) (λz hz=>hb z (aL _ hz));simp only[cr,atL,lx,ih];have e1:(fo x.toNat).toNat=x.toNat:=by simp[UInt8.toNat_ofNat];omega
  have e2:(fo y.toNat).toNat=y.toNat:=by simp[UInt8.toNat_ofNat];omega
  by_cases h:x=y
  ·subst h;simp
  ·have gj:(fo x.toNat !=fo y.toNat)=aT:=by rw[bne_iff_ne];intro e;have:=bD UInt8.toNat e;rw[e1,e2]at this;omega
   rw[gj,if_pos rfl,if_pos h];have je:fo x.toNat < fo y.toNat↔x < y:=by rw[UInt8.lt_iff_toNat_lt,e1,e2];omega
   by_cases h2:x < y
   ·rw[if_pos (je.2 h2),if_pos h2]
   ·rw[if_neg (λe=>h2 (je.1 e)),if_neg h2]
theorem azx{a b:List Int}(hl:a.length=b.length)(ha:∀x∈a,0<=x/\x < 256)(hb:∀x∈b,0<=x/\x < 256):S3 a b=lx a b:=by
 rw[<-al5 ha hb,<-aeu _ _ (by simpa using hl)];unfold S3 Extern.BytealgCompare.cmp;have s1:∀l:List Int,(fB l).size=l.length:=λl=>by simp[fB,ByteArray.size]
 have g1:∀(l:List Int) (i:Nat),(fB l)[i]! =(l.map λn=>fo n.toNat)[i]! :=λl i=>by
  by_cases h:i < (fB l).size
  ·rw[lh _ i h];have h2:i < (l.map λn=>fo n.toNat).length:=by simpa[fB,ByteArray.size]using h
   rw[lh _ i h2];rfl
  ·rw[getElem!_neg _ i h];have h2:¬i < (l.map λn=>fo n.toNat).length:=by simpa[fB,ByteArray.size]using h
   rw[getElem!_neg _ i h2]
 simp only[s1,g1,hl,Nat.min_self,cH];cases(List.range b.length).find? λi=>(a.map λn=>fo n.toNat)[i]! !=(b.map λn=>fo n.toNat)[i]! <;> simp
def adu(o:cw):Prop:=o.1.length=32/\∀x∈o.1,0<=x/\x < 256
def zJ(o:cw):List Int:=o.1++ [o.2.1]
theorem qC{o:cw}(h:adu o):(zJ o).length=33:=by simp[zJ,h.1]
theorem awh{a b:cw}(ha:adu a)(hb:adu b)(h:zJ a=zJ b):a=b:=by obtain⟨a1,a2,_⟩:=a;obtain⟨b1,b2,_⟩:=b;have h:a1++ [a2]=b1++ [b2]:=h;have:=List.append_inj' h rfl;rw[this.1,show a2=b2 by simpa using this.2]
theorem xq{a b:cw}(ha:adu a)(hb:adu b):I7 a b=lx (zJ a) (zJ b):=by
 unfold zJ I7;rw[amL _ _ (ha.1.trans hb.1.symm),azx (ha.1.trans hb.1.symm) ha.2 hb.2];simp only[aEF,aIc];by_cases h:lx a.1 b.1=0
 ·rw[if_pos h,if_neg (λe=>e h)];split
  ·rfl
  ·omega
 ·rw[if_neg h,if_pos h]
theorem K6:aFh Tryz.prog bM 29 adu I7:= {
 bU:=⟨aiL.E,azo.h.1 (by rfl),λx y hx hy=>⟨_,atq (d:=(x,y)) ⟨hx.1,hy.1⟩,rfl⟩⟩
 enters:=enters_of Tryz.func29 cM rfl
 irrefl:=λx hx=>by rw[xq hx hx,amM];decide
 trans:=λx y z hx hy hz h1 h2=>by
  rw[xq hx hy]at h1;rw[xq hy hz]at h2;rw[xq hx hz];have:=Uo (by rw[qC hx,qC hy]) (by rw[qC hy,qC hz]) (by omega:lx (zJ x) (zJ y)<=0) (by omega:lx (zJ y) (zJ z)<=0);have h3:=this.1;by_cases h4:lx (zJ x) (zJ z)=0
  ·have:=(this.2 h4).1;omega
  ·omega
 ntrans:=λx y z hx hy hz h1 h2=>by
  rw[xq hx hy]at h1;rw[xq hy hz]at h2;rw[xq hx hz];have e1:=Un (zJ x) (zJ y);have e2:=Un (zJ y) (zJ z);have e3:=Un (zJ x) (zJ z);have:=(Uo (by rw[qC hz,qC hy]) (by rw[qC hy,qC hx]) (by omega:lx (zJ z) (zJ y)<=0) (by omega:lx (zJ y) (zJ x)<=0)).1;omega}
theorem S4{x y:cw}(hx:adu x)(hy:adu y)(h1:¬I7 x y < 0)(h2:¬I7 y x < 0):x=y:=by rw[xq hx hy]at h1;rw[xq hy hx,Un]at h2;exact awh hx hy (aCH (by rw[qC hx,qC hy]) au)
end Go.Ab
namespace Go.Proofs
open Go.Shelf
def Tryz.ak9:Go.Shelf.Ren:=⟨λ | 6=>28 | 15=>66 | 14=>65 | 28=>108 | 29=>109 | 20=>100 | 21=>101 | 22=>102 | 23=>103 | 24=>104 | 25=>105 | 26=>106 | 27=>107 | 46=>139 | 47=>140 | 48=>141 | 49=>142 | 50=>143 | 57=>158 | n=>n,λ | 22=>26 | 24=>59 | 25=>80 | 3=>3 | 39=>131 | 0=>0 | 53=>179 | 55=>48 | 4=>4 | 46=>173 | 45=>172 | 50=>40 | 5=>5 | 9=>9 | 66=>210 | 70=>213 | 76=>228 | 77=>229 | n=>n,λ | n=>n⟩
theorem Tryz.aEX:Go.Proofs.SlLaysF0.n6 Tryz.prog Tryz.ak9:= {
 mixed:=by kernel_rfl
 f6:=⟨Tryz.f28.name,by decide,Tryz.func28.trans (congrArg ao (by kernel_rfl))⟩
 f14:=⟨Tryz.f65.name,by decide,Tryz.func65.trans (congrArg ao (by kernel_rfl))⟩
 f15:=Tryz.func66.trans (congrArg ao (by kernel_rfl))
 f20:=⟨Tryz.f100.name,by decide,Tryz.func100.trans (congrArg ao (by kernel_rfl))⟩
 f21:=⟨Tryz.f101.name,by decide,Tryz.func101.trans (congrArg ao (by kernel_rfl))⟩
 f22:=⟨Tryz.f102.name,by decide,Tryz.func102.trans (congrArg ao (by kernel_rfl))⟩
 f23:=⟨Tryz.f103.name,by decide,Tryz.func103.trans (congrArg ao (by kernel_rfl))⟩
 f24:=⟨Tryz.f104.name,by decide,Tryz.func104.trans (congrArg ao (by kernel_rfl))⟩
 f25:=⟨Tryz.f105.name,by decide,Tryz.func105.trans (congrArg ao (by kernel_rfl))⟩
 f26:=⟨Tryz.f106.name,by decide,Tryz.func106.trans (congrArg ao (by kernel_rfl))⟩
 f27:=⟨Tryz.f107.name,by decide,Tryz.func107.trans (congrArg ao (by kernel_rfl))⟩
 f28:=Tryz.func108.trans (congrArg ao (by kernel_rfl))
 f29:=Tryz.func109.trans (congrArg ao (by kernel_rfl))
 f46:=⟨Tryz.f139.name,by decide,Tryz.func139.trans (congrArg ao (by kernel_rfl))⟩
 f47:=Tryz.func140.trans (congrArg ao (by kernel_rfl))
 f48:=Tryz.func141.trans (congrArg ao (by kernel_rfl))
 f49:=⟨Tryz.f142.name,by decide,Tryz.func142.trans (congrArg ao (by kernel_rfl))⟩
 f50:=⟨Tryz.f143.name,by decide,Tryz.func143.trans (congrArg ao (by kernel_rfl))⟩
 f57:=⟨Tryz.f158.name,by decide,Tryz.func158.trans (congrArg ao (by kernel_rfl))⟩
 t0:=Tryz.underlying0
 a0:=Tryz.isAgg0
 z0:=Tryz.sizeOf0
 v0:=Tryz.zeroValue0
 t3:=Tryz.underlying3
 a3:=Tryz.isAgg3
 z3:=Tryz.sizeOf3
 v3:=Tryz.zeroValue3
 t4:=Tryz.underlying4
 a4:=Tryz.isAgg4
 z4:=Tryz.sizeOf4
 v4:=Tryz.zeroValue4
 t5:=Tryz.underlying5
 a5:=Tryz.isAgg5
 z5:=Tryz.sizeOf5
 v5:=Tryz.zeroValue5
 t9:=Tryz.underlying9
 a9:=Tryz.isAgg9
 z9:=Tryz.sizeOf9
 v9:=Tryz.zeroValue9
 t22:=Tryz.underlying26
 a22:=Tryz.isAgg26
 z22:=Tryz.sizeOf26
 v22:=Tryz.zeroValue26
 t25:=Tryz.underlying80
 a25:=Tryz.isAgg80
 z25:=Tryz.sizeOf80
 v25:=Tryz.zeroValue80
 t39:=Tryz.underlying131
 a39:=Tryz.isAgg131
 z39:=Tryz.sizeOf131
 v39:=Tryz.zeroValue131
 t45:=Tryz.underlying172
 a45:=Tryz.isAgg172
 z45:=Tryz.sizeOf172
 v45:=Tryz.zeroValue172
 t46:=Tryz.underlying173
 a46:=Tryz.isAgg173
 z46:=Tryz.sizeOf173
 v46:=Tryz.zeroValue173
 t50:=Tryz.underlying40
 a50:=Tryz.isAgg40
 z50:=Tryz.sizeOf40
 v50:=Tryz.zeroValue40
 t53:=Tryz.underlying179
 a53:=Tryz.isAgg179
 z53:=Tryz.sizeOf179
 v53:=Tryz.zeroValue179
 t55:=Tryz.underlying48
 a55:=Tryz.isAgg48
 z55:=Tryz.sizeOf48
 v55:=Tryz.zeroValue48
 t66:=Tryz.underlying210
 a66:=Tryz.isAgg210
 z66:=Tryz.sizeOf210
 v66:=Tryz.zeroValue210
 t70:=Tryz.underlying213
 a70:=Tryz.isAgg213
 z70:=Tryz.sizeOf213
 v70:=Tryz.zeroValue213
 t76:=Tryz.underlying228
 a76:=Tryz.isAgg228
 z76:=Tryz.sizeOf228
 v76:=Tryz.zeroValue228
 t77:=Tryz.underlying229
 a77:=Tryz.isAgg229
 z77:=Tryz.sizeOf229
 v77:=Tryz.zeroValue229}
end Go.Proofs
namespace Go.Ab
open Go.Proofs
def aE1:Entry:=aBG 29 59 bM adu I7
def Z2:Nat×List cw->Option (Nat×List cw):=acR 29 59 bM adu I7
theorem axZ{d:Nat×List cw}(h:Wj (t:=bM) adu I7 d):Z2 d=ao (d.1,Kd (t:=bM) I7 d.2):=anA h
def aBH:SG Tryz.prog:=⟨28,qN,aE1,.of (ax0 Tryz.aEX (by rfl) (λw=>Tryz.isAgg59 w) (λw=>Tryz.sizeOf59 w) K6) (by rfl)⟩
theorem AM{β:Type}{kt:Ty}(hc:kt.comp=aT){x:kt.den}{v:β}:∀ {l:List (kt.den×β)},x ∉ l.map (·.1)->e7 kt x v l=l++ [(x,v)]
 |[],_=>rfl
 |p::l,h=>by
  rw[zD];have h1:¬kt.beq x p.1=aT:=λe=>h (by rw[beq_eq kt _ _ hc e];simp)
  rw[if_neg h1,AM hc λe=>h (by simp[e])];rfl
theorem jx:bM.comp=aT:=rfl
def ji(l:List (cw×eS)):Int:=(l.map λp=>p.2.1.1).sum
theorem ma(p:cw×eS)(l:List (cw×eS)):ji (p::l)=p.2.1.1+ji l:=by simp[ji]
theorem adM(l l':List (cw×eS)):ji (l++l')=ji l+ji l':=by simp[ji]
theorem B8{l l':List (cw×eS)}(h:l.Perm l'):ji l=ji l':=by
 induction h with
 |nil=>rfl
 |cons x _ ih=>rw[ma,ma,ih]
 |swap x y l=>rw[ma,ma,ma,ma];omega
 |trans _ _ h1 h2=>rw[h1,h2]
theorem Jr{α:Type}{l:List α}{j:Nat}(h:j < l.length):l.Perm (l[j]::l.eraseIdx j):=by
 induction l generalizing j with
 |nil=>simp at h
 |cons x l ih=>
  cases j with
  |zero=>exact oo _
  |succ j=>
   have h:j < l.length:=by simpa using h
   simp only[List.getElem_cons_succ,List.eraseIdx_cons_succ];exact((ih h).cons x).trans (List.Perm.swap _ _ _)
theorem Sh{kt vt:Ty}{l:List (kt.den×vt.den)}{j:Nat}(h:j < l.length):pR kt vt l j=l[j]:=by simp[pR,aI,bQ h]
theorem adN{l:List (cw×eS)}(h:∀p∈l,0<=p.2.1.1):0<=ji l:=by
 induction l with
 |nil=>simp[ji]
 |cons p l ih=>
  rw[ma];have:=h p (aK ..);have:=ih λq hq=>h q (aL _ hq)
  omega
abbrev zh:=Nat×Nat×(List (cw×eS))×(List cZ)×(List (cw×eS))×(List cw)
def rX:zh->AS:=λ(outL,o0L,ed,di,n9,n17)=>⟨([cq,cq,cq,oa 17 outL]++bf 5 ([fu 9]++bf 11 [])),[dC (.pr (.cO (.bF 1) 0) (.pr (.b8 (.bF 2) 0 [] 0 0 o0L) kK)),.obj 0 aT (.mp bM eO ed),dC (.vec 139 cC di)],(bI 9 ([dG (.qo (.bF 1) 1 bM eO n9 aJ)]++bI 7 [dG (.vec 59 bM n17),[],[],[]]))⟩
abbrev Aw:=(Nat×(List (cw×eS))×(List cZ))×(Nat×(List cw))
def xt:Aw->Exit×AS:=λ((a,b,c),d,e)=>(.exit 0,⟨([cq,cq,cq,oa 17 d]++bf 17 []),[dC (.pr (.cO (.bF 1) 0) (.pr (.b8 (.bF 2) 0 [] 0 0 a) kK)),dC (.mp bM eO b),dC (.vec 139 cC c)],(bI 17 [dG (.vec 59 bM e),[],[],[]])⟩)
def Ld:Aw->Out (Exit×AS):=λx=> .ok (xt x)
def pG:zh->(Nat×(List cw))->Aw:=λ(outL,o0L,ed,di,n9,n17) y=>((o0L,ed,di),y)
abbrev al9:=Nat×(List (cw×eS))×(List cZ)
def tc:zh->Prop:=λ(n,_,_,_,rest,out)=>n=out.length/\out.length+rest.length<=1000000
def qw:zh->(Nat×(List cw))->Prop:=λ(_,_,_,_,rest,out) (m,out')=>m=out'.length/\out'.Perm (out++rest.map (·.1))
def aoZ:al9->Prop:=λ(_,a,_)=>a.length<=1000000/\∀p∈a,adu p.1
def ama:al9->(Nat×Nat×(List (cw×eS))×(List cZ)×(List cw)):=λ(n,a,s)=>(a.length,n,a,s,Kd (t:=bM) I7 (a.map (·.1)))
def aiZ:=dW.Xy rX tc pG qw Ld
def Le:zh->Aw->Prop:=aHr rX tc pG qw
def Av:Fs Tryz.prog aoZ bG ama:=fV 9 Tryz.f9 (λ(o0baL,o1,o2)=>([.ptr (.bF 0) 0 [] 0],[.obj 0 aR (.pr (.cO (.bF 1) 0) (.pr (.b8 (.bF 2) 0 [] 0 0 o0baL) (.d .unit ()))),.obj 0 aR (.mp bM eO o1),.obj 0 aR (.vec 139 cC o2)])) (λx=>⟨.b8 (.new 0 0) 0 [] 0 0 x.1,[.obj 0 aR (.pr (.cO (.bF 1) 0) (.pr (.b8 (.bF 2) 0 [] 0 0 x.2.1) (.d .unit ()))),.obj 0 aR (.mp bM eO x.2.2.1),.obj 0 aR (.vec 139 cC x.2.2.2.1)],[.obj 0 aR (.vec 59 bM x.2.2.2.2)]⟩) [aJ] [aBH] {loops:=so [(3,{bp:=[3,9],sites:=[9,17],owns:=[⟨3,[],17,26⟩],aEo:=[9]})],outs:=sm [(3,{bp:=[3],sites:=[17]},{bp:=[2]})],gS:=tt [(3,aiZ)]}
def Tc:= @fh Tryz.prog (lU Av.G) Av.an 0 Tryz.f9 0 _ rX
abbrev PK:=alG Tryz.prog (lU Av.G) Av.an 0 Tryz.f9 0 rX tc pG qw Ld
theorem aaK:ayX Le tc pG qw:=aJR (na [.n,.n,.d (.slice (.pair bM eO)),.d (.slice cC),.d (.slice (.pair bM eO)),.d (.slice bM)] λ_=>cM)
theorem Lc:aB6 @Tc rX tc pG qw xt PK:=aFV
theorem HL(outL o0L ed di n9 n17)(kn:K2 R)(kx:K3 R):Tc (outL,o0L,ed,di,n9,n17) kn kx=aS (decide (0 < (ag n9))) (adx (ag n9) λj1=>aS (decide (outL<=(ag n17))) (aS (ea (outL+1) 40) (kn (rX ((outL+1),o0L,ed,di,(List.eraseIdx n9 j1),((bn outL n17)++ [(pR bM eO n9 j1).1])))) aJ) aJ) (kx (xt ((o0L,ed,di),(outL,n17))).1 (xt ((o0L,ed,di),(outL,n17))).2):=cM
theorem at2(o0baL o1 o2)(k:K1 R):Av.A (o0baL,o1,o2) k=Rq (Le (0,o0baL,o1,o2,o1,([]:List cw))) λx3=>aq (Z2 (x3.2.1,x3.2.2)) λx4=>k (Av.out (x3.2.1,x3.1.1,x3.1.2.1,x3.1.2.2,x4.2)):=cM
theorem aeJ:PK:=by
 refine Lc (λ(n,_,_,_,rest,out)=>rest.length) ?_
 rintro⟨n,o,a,s,rest,out⟩ ⟨rfl,hl⟩;have hl:out.length+rest.length<=1000000:=hl;by_cases h:0 < rest.length
 ·left;refine⟨rest.length,λj=>(out.length+1,o,a,s,rest.eraseIdx j,out++ [(pR bM eO rest j).1]),h,λj hj=>⟨⟨by simp,?_⟩,?_,λy hy=>⟨y,?_,rfl⟩⟩,λkn kx=> ?_⟩
  ·show(out++ [_]).length+(rest.eraseIdx j).length<=1000000;rw[ak,kU,if_pos hj];simp only[aH,bB];omega
  ·show(rest.eraseIdx j).length < rest.length;rw[kU,if_pos hj];omega
  ·obtain⟨m,out'⟩:=y;obtain⟨h1,h2⟩:=hy;refine⟨h1,h2.trans ?_⟩;rw[Sh hj,aO];refine List.Perm.append_left _ ?_
   have:=((Jr hj).map (·.1)).symm;exact this
  ·rw[HL,ba h,aj];congr 1;funext j;rw[ba (aF _),aj,eW au au,aj,cJ]
 ·right;obtain rfl:rest=[]:=bu au;refine⟨(out.length,out),⟨rfl,by simp⟩,λkn kx=> ?_⟩;rw[HL,bE h,al];rfl
theorem arK{l l':List cw}(h:l.Perm l')(hq:∀x∈l',adu x):Kd (t:=bM) I7 l=Kd (t:=bM) I7 l':=by
 have hq':∀x∈l,adu x:=λx hx=>hq x (h.mem_iff.1 hx)
 have h1:=acS K6 hq';exact Wk K6 hq (λx hx y hy a b=>S4 (hq x hx) (hq y hy) a b) ⟨h1.1.trans h,h1.2⟩
theorem at3:Av.Ok:=by
 rintro⟨n,a,s⟩ ⟨hl,hq⟩;have hl:a.length<=1000000:=hl;rw[at2];refine aaK (d:=(0,n,a,s,a,[])) ⟨rfl,by show 0+a.length<=_;omega⟩ ⟨(a.length,a.map (·.1)),by show a.length=(a.map (·.1)).length;simp,by simp⟩ λy hy=> ?_
 obtain⟨m,out⟩:=y;obtain⟨h1,hp⟩:=hy;have h1:m=out.length:=h1;subst h1;have hp:out.Perm (a.map (·.1)):=by simpa using hp
 have hq':∀x∈a.map (·.1),adu x:=λx hx=>by obtain⟨p,hp,rfl⟩:=dO.1 hx;exact hq p hp
 have hlen:out.length=a.length:=by rw[hp.length_eq,cH]
 simp only[pG];rw[axZ (d:=(out.length,out)) ⟨rfl,by show out.length < _;omega,λx hx=>hq' x (hp.mem_iff.1 hx),λx hx y hy h1 h2=>S4 (hq' x (hp.mem_iff.1 hx)) (hq' y (hp.mem_iff.1 hy)) h1 h2⟩];simp only[ae,bG,ama];rw[arK hp hq',hlen]
theorem ao0:Av.RS:=rE [.n,.d (.slice (.pair bM eO)),.d (.slice cC)] Av
def at4:=Av.gf at3 1 ⟨.Xy aeJ cM,trivial⟩
abbrev Jj:=Int×Nat×(List (cw×eS))×(List cZ)×(List (cw×eS))
def xG:Jj->Int->((Nat×(List (cw×eS))×(List cZ))×(Int)):=λ(sum,o0L,ed,di,n10) y=>((o0L,ed,di),y)
abbrev ami:=Nat×(List (cw×eS))×(List cZ)
def aaY:Jj->Prop:=λ(sum,_,_,_,rest)=>0<=sum/\(∀p∈rest,0<=p.2.1.1)/\sum+ji rest<=1000000000000000000
def Df:Jj->Int:=λ(sum,_,_,_,rest)=>sum+ji rest
def ao5:ami->Prop:=λ(_,a,_)=>(∀p∈a,0<=p.2.1.1)/\ji a<=1000000000000000000
def aaX:ami->(Int×Nat×(List (cw×eS))×(List cZ)):=λ(n,a,s)=>(ji a,n,a,s)
def tf:Ls aaY xG Df:=yg (λ(sum,o0L,ed,di,n10)=>⟨([cq,cq,cq,.d ti sum]++bf 6 ([fu 10]++bf 10 [])),[dC (.pr (.cO (.bF 1) 0) (.pr (.b8 (.bF 2) 0 [] 0 0 o0L) kK)),.obj 0 aT (.mp bM eO ed),dC (.vec 139 cC di)],(bI 10 ([dG (.qo (.bF 1) 1 bM eO n10 aJ)]++bI 10 []))⟩) (λx=>(.exit 0,⟨([cq,cq,cq,.d ti x.2]++bf 17 []),[dC (.pr (.cO (.bF 1) 0) (.pr (.b8 (.bF 2) 0 [] 0 0 x.1.1) kK)),dC (.mp bM eO x.1.2.1),dC (.vec 139 cC x.1.2.2)],(ai 21 [])⟩))
def Cj:Fs Tryz.prog ao5 bG aaX:=fV 15 Tryz.f15 (λ(o0baL,o1,o2)=>([.ptr (.bF 0) 0 [] 0],[.obj 0 aR (.pr (.cO (.bF 1) 0) (.pr (.b8 (.bF 2) 0 [] 0 0 o0baL) (.d .unit ()))),.obj 0 aR (.mp bM eO o1),.obj 0 aR (.vec 139 cC o2)])) (λx=>⟨.d ti x.1,[.obj 0 aR (.pr (.cO (.bF 1) 0) (.pr (.b8 (.bF 2) 0 [] 0 0 x.2.1) (.d .unit ()))),.obj 0 aR (.mp bM eO x.2.2.1),.obj 0 aR (.vec 139 cC x.2.2.2)],[]⟩) [aJ] [] {loops:=so [(3,{bp:=[3,10],sites:=[10],aEo:=[10]})],outs:=sm [(3,{bp:=[3]},{bp:=[2]})],gS:=tt [(3,tf.E)]}
theorem aaZ:tf.RS:=rL [.d ti,.n,.d (.slice (.pair bM eO)),.d (.slice cC),.d (.slice (.pair bM eO))] tf
theorem HV(sum o0L ed di n10)(kn:K2 R)(kx:K3 R):Cj.R 0 tf (sum,o0L,ed,di,n10) kn kx=aS (decide (0 < (ag n10))) (adx (ag n10) λj1=>kn (tf.st ((bT .i64 sum (pR bM eO n10 j1).2.1.1),o0L,ed,di,(List.eraseIdx n10 j1)))) (tf.go kx ((o0L,ed,di),sum)):=cM
theorem aud(o0baL o1 o2)(k:K1 R):Cj.A (o0baL,o1,o2) k=aq (tf.call (0,o0baL,o1,o2,o1)) λx2=>k (Cj.out (x2.2,x2.1.1,x2.1.2.1,x2.1.2.2)):=cM
theorem aeT:(Cj.mM 0 tf):=by
 refine(Cj.aHm 0 tf) (λ(_,_,_,_,rest)=>rest.length) ?_
 rintro⟨sum,o,a,s,rest⟩ ⟨h0,hn,hm⟩;have h0:0<=sum:=h0;have hm:sum+ji rest<=1000000000000000000:=hm;by_cases h:0 < rest.length
 ·left;have key:∀j,(hj:j < rest.length)->rest[j].2.1.1+ji (rest.eraseIdx j)=ji rest:=λj hj=>by rw[<-ma];exact B8 (Jr hj).symm
  refine⟨rest.length,λj=>(bT .i64 sum (pR bM eO rest j).2.1.1,o,a,s,rest.eraseIdx j),h,λj hj=> ?_,λkn kx=> ?_⟩
  ·have hk:=key j hj;have hx:=hn _ (aV hj);have hr:∀p∈rest.eraseIdx j,0<=p.2.1.1:=λp hp=>hn p ((List.eraseIdx_sublist rest j).subset hp)
   have:=adN hr;have e1:bT .i64 sum (pR bM eO rest j).2.1.1=sum+rest[j].2.1.1:=by rw[Sh hj];exact gX au au
   refine⟨⟨?_,hr,?_⟩,?_,?_⟩
   ·show 0<=bT .i64 sum _;rw[e1];omega
   ·show bT .i64 sum _+ji (rest.eraseIdx j)<=_;rw[e1];omega
   ·show(rest.eraseIdx j).length < rest.length;rw[kU,if_pos hj];omega
   ·simp only[xG,Df,e1];rw[<-hk,Int.add_assoc]
  ·rw[HV,ba h,aj]
 ·right;obtain rfl:rest=[]:=bu au;intro T kn kx;rw[HV,bE h,al];simp only[xG,Df,ji,iU,List.sum_nil,Int.add_zero]
theorem aue:Cj.Ok:=by rintro⟨n,a,s⟩ ⟨hn,hm⟩;have hm:ji a<=_:=hm;rw[aud,aaZ (d:=(0,n,a,s,a)) ⟨fI _,hn,by show 0+ji a<=_;omega⟩];simp only[ae,xG,Df,bG,aaX,Int.zero_add]
theorem YQ:Cj.RS:=rE [.n,.d (.slice (.pair bM eO)),.d (.slice cC)] Cj
def auf:=Cj.gf aue 1 ⟨.gA aeT,trivial⟩
abbrev aaG:=Nat×(List cZ)
abbrev al4:=Nat×(List cZ)
def N3:aaG->al4->(((List cZ))×(Nat×(List cZ))):=λ(sL,o0) y=>(o0,y)
def aoO:aaG->Prop:=λ(n,l)=>n<=l.length/\l.length<=1000000
def aaH:aaG->al4:=λ(n,l)=>((l.take n).length,l.take n)
def K5:Fs Tryz.prog aoO N3 aaH:=fV 76 Tryz.f76 (λ(sL,o0)=>([.b8 (.bF 0) 0 [] 0 0 sL],[.obj 0 aR (.vec 139 cC o0)])) (λx=>⟨.b8 (.new 0 0) 0 [] 0 0 x.2.1,[.obj 0 aR (.vec 139 cC x.1)],[.obj 0 aR (.vec 139 cC x.2.2)]⟩) [aJ] [] {bN:=[5],owns:=[⟨2,[],5,68⟩]}
theorem atI(sL o0)(k:K1 R):K5.A (sL,o0) k=aS (decide (0 < sL)) (aS (decide (0=0/\(0+sL)<=(ag o0))) (aS (ea (0+(ag (cut o0 0 sL))) 48) (k (K5.out (o0,((0+(ag (cut o0 0 sL))),((bn 0 (ai 0 (([]:List adD),(([]:List cw),()))))++(cut o0 0 sL)))))) aJ) aJ) (nd (k (K5.out (o0,(0,([]:List cZ))))) (aS (decide (0=0/\(0+sL)<=(ag o0))) (aS (ea (0+(ag (cut o0 0 sL))) 48) (k (K5.out (o0,((0+(ag (cut o0 0 sL))),((bn 0 (ai 0 (([]:List adD),(([]:List cw),()))))++(cut o0 0 sL)))))) aJ) aJ)):=cM
theorem atJ:K5.Ok:=by
 rintro⟨n,l⟩ ⟨h1,h2⟩;have h1:n<=l.length:=h1;have h2:l.length<=1000000:=h2;have ec:cut l 0 n=l.take n:=by simp[cut]
 have ht:(l.take n).length<=1000000:=by rw[cT];omega
 have hr:ea (l.take n).length 48=aT:=eW au au;rw[atI];simp only[bg,ec,hr,aj,fg,aY,Ae,ba h1,N3,aaH];by_cases h:0 < n
 ·simp only[ba h,aj]
 ·have:n=0:=au;subst this;simp only[fg,bB,aN,cV,aj,AO,bE (gv 0),al]
theorem aoP:K5.RS:=rE [.n,.d (.slice cC)] K5
def atK:=K5.aIe Z1 atJ
abbrev Fg:=Nat×(List (cw×eS))×(List cZ)×(List (cw×eS))×(List cZ)×Nat×(List (cw×eS))
abbrev PU:=(List (cw×eS))
def uX:Fg->PU->((Nat×(List (cw×eS))×(List cZ)×(List cZ)×Nat)×((List (cw×eS)))):=λ(o0L,ed,di,n6,n11,nD,n18) y=>((o0L,ed,di,n11,nD),y)
abbrev aeP:=Nat×(List (cw×eS))×(List cZ)
def Xi:Fg->Prop:=λ(_,_,_,m,_,_,rest)=>((m++rest).map (·.1)).Nodup
def Az:Fg->PU:=λ(_,_,_,m,_,_,rest)=>eP (m++rest)
def ai0:aeP->Prop:=λ(n,a,s)=>n<=s.length/\s.length<=1000000/\(a.map (·.1)).Nodup
def aeQ:aeP->(Nat×(List (cw×eS))×(List cZ)×Nat×(List (cw×eS))×(List cZ)):=λ(n,a,s)=>(n,a,s,(s.take n).length,eP a,s.take n)
def pH:Ls Xi uX Az:=yg (λ(o0L,ed,di,n6,n11,nD,n18)=>⟨([cq,cq,cq,fu 13]++bf 14 ([fu 18]++bf 12 [])),[dC (.pr (.cO (.bF 1) 0) (.pr (.b8 (.bF 2) 0 [] 0 0 o0L) kK)),.obj 0 aT (.mp bM eO ed),dC (.vec 139 cC di)],(bI 6 ([dG (.mp bM eO n6)]++bI 4 ([dG (.vec 139 cC n11),[],dG (.pr (.cO (.new 6 0) 0) (.pr (oa 11 nD) kK))]++bI 4 ([dG (.qo (.bF 1) 1 bM eO n18 aJ)]++bI 12 []))))⟩) (λx=>(.exit 0,⟨([cq,cq,cq,fu 13]++bf 27 []),[dC (.pr (.cO (.bF 1) 0) (.pr (.b8 (.bF 2) 0 [] 0 0 x.1.1) kK)),dC (.mp bM eO x.1.2.1),dC (.vec 139 cC x.1.2.2.1)],(bI 6 ([dG (.mp bM eO x.2)]++bI 4 ([dG (.vec 139 cC x.1.2.2.2.1),[],dG (.pr (.cO (.new 6 0) 0) (.pr (oa 11 x.1.2.2.2.2) kK))]++bI 17 [])))⟩))
def te:Fs Tryz.prog ai0 bG aeQ:=fV 38 Tryz.f38 (λ(o0baL,o1,o2)=>([.ptr (.bF 0) 0 [] 0],[.obj 0 aR (.pr (.cO (.bF 1) 0) (.pr (.b8 (.bF 2) 0 [] 0 0 o0baL) (.d .unit ()))),.obj 0 aR (.mp bM eO o1),.obj 0 aR (.vec 139 cC o2)])) (λx=>⟨.ptr (.new 0 0) 0 [] 0,[.obj 0 aR (.pr (.cO (.bF 1) 0) (.pr (.b8 (.bF 2) 0 [] 0 0 x.1) (.d .unit ()))),.obj 0 aR (.mp bM eO x.2.1),.obj 0 aR (.vec 139 cC x.2.2.1)],[.obj 0 aR (.pr (.cO (.new 0 1) 0) (.pr (.b8 (.new 0 2) 0 [] 0 0 x.2.2.2.1) (.d .unit ()))),.obj 0 aR (.mp bM eO x.2.2.2.2.1),.obj 0 aR (.vec 139 cC x.2.2.2.2.2)]⟩) [aJ] [atK] {bN:=[13],loops:=so [(3,{bp:=[3,18],sites:=[6,11,13,18],aEo:=[18]})],outs:=sm [(3,{bp:=[3],sites:=[6,11,13],aDr:=[(.new 6 0)]},{bp:=[2]})],gS:=tt [(3,pH.E)]}
theorem Xj:pH.RS:=rL [.n,.d (.slice (.pair bM eO)),.d (.slice cC),.d (.slice (.pair bM eO)),.d (.slice cC),.n,.d (.slice (.pair bM eO))] pH
theorem Fh(o0L ed di n6 n11 nD n18)(kn:K2 R)(kx:K3 R):te.R 0 pH (o0L,ed,di,n6,n11,nD,n18) kn kx=aS (decide (0 < (ag n18))) (adx (ag n18) λj1=>kn (pH.st (o0L,ed,di,(e7 bM (pR bM eO n18 j1).1 (pR bM eO n18 j1).2 n6),n11,nD,(List.eraseIdx n18 j1)))) (pH.go kx ((o0L,ed,di,n11,nD),(eP n6))):=cM
theorem ao3(o0baL o1 o2)(k:K1 R):te.A (o0baL,o1,o2) k=aq (K5.call (o0baL,o2)) λx1=>aq (pH.call (o0baL,o1,x1.1,([]:List (cw×eS)),x1.2.2,x1.2.1,o1)) λx3=>k (te.out (x3.1.1,x3.1.2.1,x3.1.2.2.1,x3.1.2.2.2.2,x3.2,x3.1.2.2.2.1)):=cM
theorem aaT:(te.mM 0 pH):=by
 refine(te.aHm 0 pH) (λ(_,_,_,_,_,_,rest)=>rest.length) ?_
 rintro⟨n,a,s,m,u,k0,rest⟩ hn;have hn:((m++rest).map (·.1)).Nodup:=hn;by_cases h:0 < rest.length
 ·left;have e1:∀j,j < rest.length->e7 bM (pR bM eO rest j).1 (pR bM eO rest j).2 m=m++ [pR bM eO rest j]:=λj hj=>by rw[AM jx];intro hm;rw[List.map_append,List.nodup_append]at hn;exact hn.2.2 _ hm _ (dO.2 ⟨_,aV hj,by rw[Sh hj]⟩) rfl
  have e2:∀j,j < rest.length->(m++ [pR bM eO rest j]++rest.eraseIdx j).Perm (m++rest):=λj hj=>by rw[aO,Sh hj];exact List.Perm.append_left _ (Jr hj).symm
  refine⟨rest.length,λj=>(n,a,s,e7 bM (pR bM eO rest j).1 (pR bM eO rest j).2 m,u,k0,rest.eraseIdx j),h,λj hj=>⟨?_,?_,?_⟩,λkn kx=> ?_⟩
  ·show((e7 bM (pR bM eO rest j).1 (pR bM eO rest j).2 m++rest.eraseIdx j).map (·.1)).Nodup;rw[e1 j hj];exact(((e2 j hj).map _).nodup_iff).2 hn
  ·show(rest.eraseIdx j).length < rest.length;rw[kU,if_pos hj];omega
  ·simp only[uX,Az,e1 j hj];rw[aoE (e2 j hj)]
  ·rw[Fh,ba h,aj]
 ·right;obtain rfl:rest=[]:=bu au;intro T kn kx;rw[Fh,bE h,al];simp only[uX,Az,bP]
theorem ao4:te.Ok:=by rintro⟨n,a,s⟩ ⟨h1,h2,h3⟩;have h1:n<=s.length:=h1;have h2:s.length<=1000000:=h2;rw[ao3,aoP (d:=(n,s)) ⟨h1,h2⟩];simp only[ae,N3,aaH];rw[Xj (d:=(n,a,s,[],s.take n,(s.take n).length,a)) h3];simp only[ae,uX,Az,bG,aeQ,aY]
theorem ai1:te.RS:=rE [.n,.d (.slice (.pair bM eO)),.d (.slice cC)] te
def G8:=te.gf ao4 1 ⟨.gA aaT,trivial⟩
abbrev N5:=lT×Nat×Nat×Int×Int×Int×(List ud)
abbrev YM:=(List ud)×(List ud)
def aeC:N5->YM->((lT×Int)×((List ud)×(List ud))):=λ(aED,lL,arO,t11,t12,n2,n9) y=>((aED,n2),y)
def aIk(l:Lk):Prop:=l.1.length<=1000/\∀b∈l.1,b.1.length<=1000000
def aeB:N5->Prop:=λ(_,n,m,t,i,_,l)=>(l.length<=1000/\∀b∈l,b.1.length<=1000000)/\∃k:Nat,k<=l.length/\i=k/\n=l.length/\m=l.length/\t=l.length
def aoU:N5->YM:=λ(_,_,_,_,_,_,l)=>(l,l)
def atS:lT->Prop:=λo=>aIk o.2.1
def aiV:lT->lT:=λo=>o
def uW:Ls aeB aeC aoU:=yg (λ(aED,lL,arO,t11,t12,n2,n9)=>⟨([cq,.eI jy aED,fu 2,oa 9 lL]++bf 6 ([oa 9 arO,.d ti t11,.d ti t12]++bf 17 [])),[],([[],[],dG (.pr (.d ti n2) (.pr (.pr (.dH) kK) kK))]++bI 6 ([dG (.vec 93 sH n9)]++bI 20 []))⟩) (λx=>(.exit 0,⟨([cq,.eI jy x.1.1,fu 2,.d (.slice sH) x.2.1]++bf 26 []),[],([[],[],dG (.pr (.d ti x.1.2) (.pr (.pr (.dH) kK) kK))]++bI 6 ([[.obj 0 aT (.vec 93 sH x.2.2)]]++bI 20 []))⟩))
def Rp:Fs Tryz.prog atS bG aiV:=fV 27 Tryz.f27 (λo=>([.d jy o],[])) (λx=>⟨.d jy x,[],[]⟩) [ao jy] [al3,ZA] {loops:=so [(3,{bp:=[1,2,3,10,11,12],sites:=[2,9]})],outs:=sm [(3,{bp:=[1,2,3],sites:=[2,9],data:=[(3,(.slice sH))]},{bp:=[2]})],gS:=tt [(3,uW.E)],res:=[ao jy]}
theorem aeD:uW.RS:=rL [.d jy,.n,.n,.d ti,.d ti,.d ti,.d (.slice sH)] uW
theorem K8(aED lL arO t11 t12 n2 n9)(kn:K2 R)(kx:K3 R):Rp.R 0 uW (aED,lL,arO,t11,t12,n2,n9) kn kx=aS (gY t12 t11) (aS (gI t12 ((arO:Nat):Int)) (aS (decide ((0+(ab t12)) < (ag n9))) (aS (decide ((((0+(ab t12))*4)+0)=(0+((ab t12)*4)))) (aq (BB.call (nth sH n9 (0+(ab t12))).1) λx1=>aS (gI t12 ((lL:Nat):Int)) (aS (decide ((0+(ab t12)) < (ag n9))) (aS (decide ((((0+(ab t12))*4)+0)=((0+((ab t12)*4))+0))) (aS (decide ((0+(ab t12)) < (ag n9))) (kn (uW.st (aED,lL,arO,t11,(bT .i64 t12 1),n2,(gr n9 (0+(ab t12)) (x1,(nth sH n9 (0+(ab t12))).2))))) aJ) aJ) aJ) aJ) aJ) aJ) aJ) (aS (decide (0=0/\(0+lL)<=(ag n9))) (uW.go kx ((aED,n2),((cut n9 0 lL),n9))) aJ):=cM
theorem azB(o)(k:K1 R):Rp.A o k=aq (Xh.call o.2.1.1) λx1=>aq (uW.call (o,x1.1,x1.1,((x1.1:Nat):Int),0,0,x1.2)) λx3=>k (Rp.out (x3.1.1.1,((x3.2.1,()),()))):=cM
theorem aiW:(Rp.mM 0 uW):=by
 refine(Rp.qG 0 uW) (λ(_,_,_,_,i,_,l)=>l.length - i.toNat) ?_
 rintro⟨o,n,m,t,i,u,l⟩ ⟨⟨hlen,hx⟩,k,hk,rfl,rfl,rfl,rfl⟩;have hlen:l.length<=1000:=hlen;have hk:k<=l.length:=hk;by_cases h:k < l.length
 ·left;have n1:nth sH l k=l[k]:=da (t:=sH) h;have hs:l.set k l[k]=l:=gm h;have e:=hx _ (aV h);refine⟨(o,l.length,l.length,(l.length:Int),((k+1:Nat):Int),u,l),⟨⟨hlen,hx⟩,k+1,au,rfl,rfl,rfl,rfl⟩,by simp only[aa];omega,rfl,λkn kx=> ?_⟩;rw[K8,bm au,bz au au];simp only[aa,bg,cX,aj,ba h,cV,n1];rw[U9 (d:=l[k].1) e];simp only[ae,bG,Mu];rw[N.nV au];exact bD (λz=>kn (uW.st (_,_,_,_,_,_,z))) hs
 ·right;obtain rfl:k=l.length:=au;intro R kn kx;rw[K8,bh au,al,ba au,aj,fA rfl];rfl
theorem azC:Rp.Ok:=by rintro⟨a,⟨l,u⟩,v⟩ ⟨h1,h2⟩;have h1:l.length<=1000:=h1;rw[azB,aet (d:=l) (by show l.length<=_;omega)];simp only[ae,bG,aaB];rw[aeD (d:=((a,(l,u),v),l.length,l.length,(l.length:Int),0,0,l)) ⟨⟨h1,h2⟩,0,aN _,rfl,rfl,rfl,rfl⟩];rfl
theorem aeE:Rp.RS:=rE [.d jy] Rp
def al7:=Rp.gf azC 1 ⟨.gA aiW,trivial⟩
abbrev zm:=Int×(List lT)×Int×Int×(List (cw×eS))
def oG:zm->AS:=λ(sum,t13,t14,t15,n10)=>⟨([cq,cq,cq,fu 12,.d ti sum]++bf 8 ([.d (.slice jy) t13,.d ti t14,.d ti t15]++bf 35 [])),[],(bI 10 ([dG (.mp bM eO n10),[],dG (.pr (.cO (.new 10 0) 0) (.pr (.dH) kK))]++bI 38 []))⟩
def fO:Unit->Exit×AS:=λx=>(.ret,⟨([cq,cq,.kh]++bf 48 []),[],(ai 51 [])⟩)
abbrev PW:=(List (cw×eS))
def xF:PW->Exit×AS:=λx=>(.exit 0,⟨([cq,cq,cq,fu 12]++bf 47 []),[],(bI 10 ([dG (.mp bM eO x),[],dG (.pr (.cO (.new 10 0) 0) (.pr (.dH) kK))]++bI 38 []))⟩)
abbrev Ji:=(Unit)⊕(PW)
abbrev To:=(Unit)⊕(((List (cw×eS))))
def De:Ji->Out (Exit×AS):=λx=> .br x.isLeft (.get x.getLeft? λa=> .ok (fO a)) (.get x.getRight? λb=> .ok (xF b))
def kZ:zm->To->Ji:=λ(sum,t13,t14,t15,n10) y=>match y with | .inl y=> .inl y | .inr z=> .inr (z)
abbrev Lr:=(List lT)
def Tq:Lr->SA:=λouts=>([.d (.slice jy) outs],[])
abbrev amh:=(Unit)⊕((List (cw×eS))×(List cZ))
abbrev aaW:=(Unit)⊕((List (cw×eS))×(List cZ))
def Ci:aaW->ig:=λx=>match x with | .inl x=>⟨.kh,[],[]⟩ | .inr x=>⟨fu 0,[],[dC (.pr (.cO (.new 0 1) 0) (.pr (.b8 (.new 0 2) 0 [] 0 0 0) kK)),dC (.mp bM eO x.1),dC (.vec 139 cC x.2)]⟩
def Ch:Lr->amh->aaW:=λouts y=>match y with | .inl y=> .inl y | .inr y=> .inr y
def Au(k:Nat)(o:lT):cw×eS:=((ai 32 (0:Int),((k:Int),())),(o,((0:Int),())))
def zL(sum:Int)(o:lT):Bool:=nT o.2.1 && decide (0<=o.1/\o.1<=1125899906842624 - sum)
def Mm(sum:Int)(k:Nat):List lT->Option (List (cw×eS))
 |[]=>ao []
 |o::l=>match zL sum o with | true=>(Mm (sum+o.1) (k+1) l).map (Au k o:: ·) | false=>aJ
def abY(outs:List lT):Option (List (cw×eS)):=if outs.length<=256 then Mm 0 0 outs else aJ
def adE(o:lT):Prop:=alF o.2.1/\o.2.1.1.length<=9223372036854775807/\o.1<=9223372036854775807
def xE:zm->Prop:=λ(sum,outs,n,i,a)=>(∀o∈outs,adE o)/\outs.length<=256/\0<=sum/\sum<=1125899906842624/\∃k:Nat,k<=outs.length/\i=k/\n=outs.length/\∀p∈a,p.1.2.1 < (k:Int)
def oF:zm->To:=λ(sum,outs,_,i,a)=>match Mm sum i.toNat (outs.drop i.toNat) with | none=> .inl () | some r=> .inr (a++r)
def N7:Lr->Prop:=λouts=>∀o∈outs,adE o
def G9:Lr->amh:=λouts=>match abY outs with | none=> .inl () | some r=> .inr (r,[])
def aaU:qi:=lU (P:=Tryz.prog) [Cr,al7]
def Tn:=dW.gA oG xE kZ oF De
def HT:zm->Option Ji:=iI Tn oG
def Tp:w7:= {bN:=[12],loops:=so [(5,{bp:=[3,4,13,14,15],sites:=[10,12]})],outs:=sm [(5,{bp:=[3],sites:=[10,12]},{bp:=[2]})],gS:=tt [(5,Tn)],owns:=[⟨2,[.snd,.fst],0,68⟩]}
def amf:= @NL Tryz.prog aaU Tp 0 Tryz.f8 _ Tq
abbrev aua:=anS @amf N7 Ch G9 Ci
def Jh:= @fh Tryz.prog aaU Tp 0 Tryz.f8 0 _ oG
abbrev PV:=mn Tryz.prog aaU Tp 0 Tryz.f8 0 oG xE kZ oF De
theorem aaV:kC HT xE kZ oF:=og (na [.d ti,.d (.slice jy),.d ti,.d ti,.d (.slice (.pair bM eO))] λ_=>cM)
theorem Lt:qp @Jh oG xE kZ oF De PV:=rA
theorem HU(sum t13 t14 t15 n10)(kn:K2 R)(kx:K3 R):Jh (sum,t13,t14,t15,n10) kn kx=aS (gY t15 t14) (aS (gI t15 (((ag t13):Nat):Int)) (aq (oV.call (nth jy t13 (ab t15)).2.1) λx1=>aS (!x1) (kx (fO ()).1 (fO ()).2) (aS (gY (nth jy t13 (ab t15)).1 (0:Int)) (kx (fO ()).1 (fO ()).2) (aS (Ak (nth jy t13 (ab t15)).1 (dL .i64 (1125899906842624:Int) sum)) (kx (fO ()).1 (fO ()).2) (aq (Rp.call (nth jy t13 (ab t15))) λx2=>kn (oG ((bT .i64 sum (nth jy t13 (ab t15)).1),t13,t14,(bT .i64 t15 (1:Int)),(e7 bM ((ai 32 (0:Int)),(t15,())) (x2,((0:Int),())) n10))))))) aJ) (kx (xF n10).1 (xF n10).2):=cM
theorem aub(outs)(k:K1 R):amf outs k=aS (Ak (((ag outs):Nat):Int) (256:Int)) (k (Ci (.inl ()))) (aq (HT ((0:Int),outs,(((ag outs):Nat):Int),(0:Int),([]:List (cw×eS)))) λx3=>aS x3.isLeft (aq x3.getLeft? λa4=>k (Ci (.inl ()))) (aq x3.getRight? λb5=>k (Ci (.inr (b5,([]:List cZ)))))):=cM
theorem aeR:PV:=by
 refine Lt (λ(_,outs,_,i,_)=>outs.length - i.toNat) ?_
 rintro⟨sum,outs,n,i,a⟩ ⟨hg,hl,h0,h1,k,hk,rfl,rfl,hf⟩;have h0:0<=sum:=h0;have h1:sum<=1125899906842624:=h1;have hl:outs.length<=256:=hl;have hk:k<=outs.length:=hk;by_cases h:k < outs.length
 ·obtain⟨g1,g2,g3⟩:=hg _ (aV h);have n1:nth jy outs k=outs[k]:=da (t:=jy) h;have hd:outs.drop k=outs[k]::outs.drop (k+1):=aC h
  have hs:∀ {R:Type} (kn:AS->Option R) (kx:Exit->AS->Option R),Jh (sum,outs,(outs.length:Int),(k:Int),a) kn kx=
    aS (!(nT outs[k].2.1)) (kx (fO ()).1 (fO ()).2) (aS (gY outs[k].1 0) (kx (fO ()).1 (fO ()).2) (aS (Ak outs[k].1 (1125899906842624 - sum)) (kx (fO ()).1 (fO ()).2)
     (aq (Rp.call outs[k]) λx2=>kn (oG ((bT .i64 sum outs[k].1),outs,(outs.length:Int),(bT .i64 (k:Int) (1:Int)),(e7 bM ((ai 32 (0:Int)),((k:Int),())) (x2,((0:Int),())) a)))))):=λkn kx=>by
   rw[HU,bm au,aj,bz au au,aj,aa,n1,zC (d:=outs[k].2.1) ⟨g1,g2⟩,gz au au];rfl
  by_cases iO:zL sum outs[k]=aT
  ·left;have hok':=iO;unfold zL at hok';simp only[av,aW]at hok';obtain⟨k1,k2,k3⟩:=hok';have adz:=Uf k1;refine⟨(sum+outs[k].1,outs,(outs.length:Int),((k+1:Nat):Int),a++ [Au k outs[k]]),⟨hg,hl,by show 0<=sum+outs[k].1;omega,by show sum+outs[k].1<=_;omega,k+1,au,rfl,rfl,λp hp=> ?_⟩,by simp only[aa];omega,?_,λkn kx=> ?_⟩
   ·rcases bC.1 hp with hp | hp
    ·have:=hf p hp;omega
    ·rw[bw.1 hp];show(k:Int) < _;omega
   ·simp only[kZ,oF,aa,hd,Mm,iO];cases Mm (sum+outs[k].1) (k+1) (outs.drop (k+1)) with
    |none=>rfl
    |some r=>simp only[eo,aO,dQ]
   ·rw[hs,k1,cG,al,bh au,al,du au,al,aeE (d:=outs[k]) ⟨au,λb hb=>by have:=adz.2 b hb;omega⟩];simp only[ae,bG,aiV];rw[gX au au,N.nV au,AM jx]
    ·rfl
    ·intro hm;obtain⟨p,hp,he⟩:=dO.1 hm;have:=hf p hp;have he:p.1=_:=he;rw[he]at this;have this:(k:Int) < k:=this;omega
  ·right;have aAa:zL sum outs[k]=aR:=by simpa using iO
   refine⟨fO (),?_,λkn kx=> ?_⟩;rotate_left
   ·rw[hs];unfold zL at aAa;cases k1:nT outs[k].2.1 with
    |false=>rw[eY,aj]
    |true=>
     rw[k1]at aAa;simp only[cD,gJ]at aAa;rw[cG,al];by_cases k2:outs[k].1 < 0
     ·rw[bm k2,aj]
     ·rw[bh k2,al,dT au,aj]
   ·simp only[kZ,oF,aa,hd,Mm,aAa];rfl
 ·right;obtain rfl:k=outs.length:=au;refine⟨xF a,?_,λkn kx=> ?_⟩;rotate_left
  ·rw[HU,bh au,al]
  ·simp only[kZ,oF,aa,aU,Mm,bP];rfl
theorem auc:aua:=by
 intro outs hg;rw[aub];simp only[Ch,G9,abY];by_cases h:outs.length<=256
 ·rw[du au,al,aaV (d:=(0,outs,(outs.length:Int),0,[])) ⟨hg,h,eZ,eZ,0,aN _,rfl,rfl,λp hp=>by cases hp⟩,if_pos h];simp only[ae,kZ,oF,bo,aQ];cases Mm 0 0 outs with
  |none=>rfl
  |some r=>rfl
 ·rw[dT au,aj,if_neg h]
def amg:=Entry.ajV [ao (.slice jy)] Tq N7 Ch G9 Ci
def zo:Lr->Option aaW:=PE amg Tq
theorem YP:kC zo N7 Ch G9:=anw (afG [.d (.slice jy)] λ_=>cM)
def aeS:SG Tryz.prog:=⟨8,qN,amg,.of (.aHw (.fn 1 cM auc (And.intro (.gA aeR cM) trivial))) (by rfl)⟩
end Go.Ab
end
