/-
  Made short by a program of mine (wip/tools/mini.py).
-/
import Derived.Test.YtipnkibclflleaaGreatS34x3
import Derived.Test.YtipnkibclflleaaGreatProg
import Derived.Shelf.SlSortCmp.NoneTotal
set_option linter.unusedVariables false
set_option linter.unusedSimpArgs false
set_option maxRecDepth 100000
set_option synthInstance.maxSize 5000
open List renaming replicate->ai,set->fW,length->ae,take->bk,drop->dr
open Go renaming FuncId->fw,Program->aL,World->bV
open BitVec renaming ofInt->aX
open UInt8 renaming ofNat->fm
open Go.World renaming cell?->eI
open Int renaming toNat_natCast->aa,toNat->ab,toNat_zero->bO
open Or renaming inr->fj,inl->kQ
open Option renaming some->au,none->aH
open Bool renaming true->aO,false->aV
noncomputable section
variable {R:Type}
namespace Go.Ab
open Go.Proofs
def Q5:Bs->Prop:=λb=>4<=b.length
def acE:Bs->Int:=λb=>vw (aFQ (b.getD 0 0) (b.getD 1 0) (b.getD 2 0) (b.getD 3 0))
def binary:Fs Tryz.prog Q5 bG acE:=gf 156 Tryz.f156 (λb=>([.d tB b],[])) (λx=>⟨.d (.int .u32) x,[],[]⟩) [au tB]
theorem amB(b)(k:K1 R):binary.A b k=aP (iO 0 (b.length:Int)) (aP (iO 1 (b.length:Int)) (aP (iO 2 (b.length:Int)) (aP (iO 3 (b.length:Int)) (k (binary.out (di .or .u32 (di .or .u32 (di .or .u32 (nM .u32 (dP .u32 (nth tb b 0)) 24) (nM .u32 (dP .u32 (nth tb b 1)) 16)) (nM .u32 (dP .u32 (nth tb b 2)) 8)) (dP .u32 (nth tb b 3))))) aH) aH) aH) aH:=cW
theorem amC:binary.Ok:=by intro b h;have h:4<=b.length:=h;rw[amB,bB aq aq,bB aq aq,bB aq aq,bB aq aq];simp only[aj,aym,aed,FW];rfl
theorem ag0:binary.RS:=rE [.d tB] binary
def amD:=binary.gr amC
def rl(w:W)(k:Nat):W:=w <<< k ||| w >>> (32 - k)
def Uh:(Int×Int)->Prop:=λ(x,k)=>0<=x/\x < 4294967296
def avO:(Int×Int)->Int:=λ(x,k)=>vw (rl (aX 32 x) (k%32).toNat)
def oF:Fs Tryz.prog Uh bG avO:=gf 142 Tryz.f142 (λ(x,kv)=>([.d (.int .u32) x,.d ti kv],[])) (λx=>⟨.d (.int .u32) x,[],[]⟩) [au (.int .u32),au ti]
theorem apO(x kv)(k:K1 R):oF.A (x,kv) k=aP (qN (di .and .u64 (dP .u64 kv) 31)) (aP (qN (ed .u64 32 (di .and .u64 (dP .u64 kv) 31))) (k (oF.out (di .or .u32 (nM .u32 x (di .and .u64 (dP .u64 kv) 31)) (cR .u32 x (ed .u64 32 (di .and .u64 (dP .u64 kv) 31)))))) aH) aH:=cW
theorem aD8(k:Int):di .and .u64 (dP .u64 k) 31=k%32:=by have e:(31:Int)=vw (31:BitVec 64):=rfl;rw[alb,e,amE];simp only;have:(31:BitVec 64)=BitVec.ofNat 64 (2^5 - 1):=rfl;unfold vw;rw[BitVec.toNat_and,qq,show(31:BitVec 64).toNat=2^5 - 1 from rfl,Nat.and_two_pow_sub_one_eq_mod];omega
theorem apP:oF.Ok:=by
 rintro⟨x,k⟩ ⟨h1,h2⟩;have e1:ed .u64 32 (k%32)=32 - k%32:=by unfold ed;rw[wrap_u64,lR];omega
 have hx:x=vw (aX 32 x):=by rw[lR];omega
 rw[apO,aD8,e1,vC aq,vC aq];simp only[aj];have e2:di .or .u32 (nM .u32 x (k%32)) (cR .u32 x (32 - k%32))=vw (rl (aX 32 x) (k%32).toNat):=by
  conv=>lhs;rw[hx]
  rw[aed,Sj,FW];simp only[rl];congr 3;omega
 rw[e2];rfl
theorem ajq:oF.RS:=rE [.d (.int .u32),.d ti] oF
def Yx:=oF.gr apP
theorem Yw(w:W)(k:Int):oF.call (vw w,k)=au (vw (rl w (k%32).toNat)):=by have h:Uh (vw w,k):=⟨YU w,by have:=aAZ w;simpa using this⟩;rw[ajq h];show au (vw (rl (aX 32 (vw w)) (k%32).toNat))=_;rw[vD]
def aqg:Unit->Prop:=λ_=>True
def al8:Unit->(List Int):=λ_=>aeg
def table:Fs Tryz.prog aqg bG al8:=gf 141 Tryz.f141 (λ_=>([],[])) (λx=>⟨.d (.arr 64 (.int .u32)) x,[],[]⟩) []
theorem awb(d)(k:K1 R):table.A d k=k (table.out [1116352408,1899447441,3049323471,3921009573,961987163,1508970993,2453635748,2870763221,3624381080,310598401,607225278,1426881987,1925078388,2162078206,2614888103,3248222580,3835390401,4022224774,264347078,604807628,770255983,1249150122,1555081692,1996064986,2554220882,2821834349,2952996808,3210313671,3336571891,3584528711,113926993,338241895,666307205,773529912,1294757372,1396182291,1695183700,1986661051,2177026350,2456956037,2730485921,2820302411,3259730800,3345764771,3516065817,3600352804,4094571909,275423344,430227734,506948616,659060556,883997877,958139571,1322822218,1537002063,1747873779,1955562222,2024104815,2227730452,2361852424,2428436474,2756734187,3204031479,3329325298]):=cW
theorem awc:table.Ok:=by intro d _;rw[awb];rfl
theorem aqh:table.RS:=rE [] table
def awd:=table.gr awc
def anA:Unit->Prop:=λ_=>True
def akT:Unit->(List Int):=λ_=>yD.l
def first:Fs Tryz.prog anA bG akT:=gf 106 Tryz.f106 (λ_=>([],[])) (λx=>⟨.d (.arr 8 (.int .u32)) x,[],[]⟩) []
theorem asO(d)(k:K1 R):first.A d k=k (first.out [1779033703,3144134277,1013904242,2773480762,1359893119,2600822924,528734635,1541459225]):=cW
theorem asP:first.Ok:=by intro d _;rw[asO];rfl
theorem anC:first.RS:=rE [] first
def asQ:=first.gr asP
abbrev Hi:=Bs×Int×(List Int)
def wl(l:List W):List Int:=l.map vw
def DJ(l:List W):List Int:=wl l++ai (64 - l.length) 0
def C3(b:List Int)(k:Nat):List W:=if k<=16 then(words b).take k else aFE (words b) (k - 16)
def Dk:Hi->Prop:=λ(b,t8,n2)=>64<=b.length/\∃k:Nat,k<=64/\t8=k/\n2=DJ (C3 b k)
def AX:Hi->(List Int):=λ(b,t8,n2)=>wl (sched b)
def Lx:Bs->Prop:=λb=>64<=b.length
def IM:Bs->(List Int):=λb=>wl (sched b)
def jF:Ls Dk bG AX:=wh (λ(yh,t8,n2)=>⟨([.d tB yh,cj,fa 2]++ba 5 ([.d ti t8]++ba 52 [])),[],([[],[],dz (.d (.arr 64 (.int .u32)) n2)]++bC 58 [])⟩) (λx=>(.exit 0,⟨([cj,cj,fa 2]++ba 58 []),[],([[],[],dz (.d (.arr 64 (.int .u32)) x)]++bC 58 [])⟩))
def schedule:Fs Tryz.prog Lx bG IM:=gf 140 Tryz.f140 (λb=>([.d tB b],[])) (λx=>⟨.d (.arr 64 (.int .u32)) x,[],[]⟩) [au tB] [amD,Yx] {loops:=th [(2,{bz:=[0,2,8],sites:=[2]})],outs:=tg [(2,{bz:=[2],sites:=[2]},{bz:=[2]})],iE:=uA [(2,jF.E)]}
theorem Qi:jF.RS:=rL [.d tB,.d ti,.d (.slice (.int .u32))] jF
theorem BO(yh t8 n2)(kn:K2 R)(kx:K3 R):schedule.R 0 jF (yh,t8,n2) kn kx=aP (iG t8 64) (aP (iG t8 16) (aP (inc (iT .i64 4 t8) (yh.length:Int)) (ax (binary.call (cut yh (ab (iT .i64 4 t8)) ((ae yh) - (ab (iT .i64 4 t8))))) λx1=>aP (iO t8 64) (aP (decide ((ab t8) < (ae n2))) (aP (decide ((((ab t8)*1)+0)=(0+((ab t8)*1)))) (aP (decide ((ab t8) < (ae n2))) (kn (jF.st (yh,(bT .i64 t8 1),(fW n2 (ab t8) x1)))) aH) aH) aH) aH) aH) (aP (iO (ed .i64 t8 15) 64) (aP (decide ((ab (ed .i64 t8 15)) < (ae n2))) (aP (decide ((((ab (ed .i64 t8 15))*1)+0)=(0+((ab (ed .i64 t8 15))*1)))) (aP (iO (ed .i64 t8 2) 64) (aP (decide ((ab (ed .i64 t8 2)) < (ae n2))) (aP (decide ((((ab (ed .i64 t8 2))*1)+0)=(0+((ab (ed .i64 t8 2))*1)))) (ax (oF.call ((nth (.int .u32) n2 (ab (ed .i64 t8 15))),(-7))) λx2=>ax (oF.call ((nth (.int .u32) n2 (ab (ed .i64 t8 15))),(-18))) λx3=>ax (oF.call ((nth (.int .u32) n2 (ab (ed .i64 t8 2))),(-17))) λx4=>ax (oF.call ((nth (.int .u32) n2 (ab (ed .i64 t8 2))),(-19))) λx5=>aP (iO (ed .i64 t8 16) 64) (aP (decide ((ab (ed .i64 t8 16)) < (ae n2))) (aP (decide ((((ab (ed .i64 t8 16))*1)+0)=(0+((ab (ed .i64 t8 16))*1)))) (aP (iO (ed .i64 t8 7) 64) (aP (decide ((ab (ed .i64 t8 7)) < (ae n2))) (aP (decide ((((ab (ed .i64 t8 7))*1)+0)=(0+((ab (ed .i64 t8 7))*1)))) (aP (iO t8 64) (aP (decide ((ab t8) < (ae n2))) (aP (decide ((((ab t8)*1)+0)=(0+((ab t8)*1)))) (aP (decide ((ab t8) < (ae n2))) (kn (jF.st (yh,(bT .i64 t8 1),(fW n2 (ab t8) (bT .u32 (bT .u32 (bT .u32 (nth (.int .u32) n2 (ab (ed .i64 t8 16))) (di .xor .u32 (di .xor .u32 x2 x3) (cR .u32 (nth (.int .u32) n2 (ab (ed .i64 t8 15))) 3))) (nth (.int .u32) n2 (ab (ed .i64 t8 7)))) (di .xor .u32 (di .xor .u32 x4 x5) (cR .u32 (nth (.int .u32) n2 (ab (ed .i64 t8 2))) 10))))))) aH) aH) aH) aH) aH) aH) aH) aH) aH) aH) aH) aH) aH) aH) aH) aH)) (jF.go kx n2):=cW
theorem afF(b)(k:K1 R):schedule.A b k=ax (jF.call (b,0,(ai 64 0))) λx6=>k (schedule.out x6):=cW
theorem agr(b:List Int)(k:Nat)(h:k<=64):(C3 b k).length=k:=by
 unfold C3;split
 ·simp[sW];omega
 ·rw[I6,sW];omega
theorem aAd(b:List Int):C3 b 64=sched b:=rfl
theorem aqL(b:List Int)(k:Nat)(h:k < 16):C3 b (k+1)=C3 b k++ [be b k]:=by unfold C3;rw[if_pos aq,if_pos aq,List.take_succ_eq_append_getElem (by rw[sW];exact h)];simp[words]
theorem awJ(b:List Int)(k:Nat)(h:16<=k):C3 b (k+1)=ext (C3 b k):=by
 unfold C3;rw[if_neg aq];by_cases aDv:k=16
 ·subst aDv;rw[if_pos aq,bH (by rw[sW];omega)];rfl
 ·rw[if_neg aq,show k+1 - 16=(k - 16)+1 by omega];rfl
theorem Y8(l:List W)(h:l.length<=64):(DJ l).length=64:=by simp[DJ,wl];omega
theorem FU(l:List W)(i:Nat)(h:i < l.length):nth (.int .u32) (DJ l) i=vw (l.getD i 0):=by unfold nth DJ wl;rw[aJ,fu (by simpa using h)];simp[h]
theorem WZ(l:List W)(w:W)(h:l.length < 64):(DJ l).set l.length (vw w)=DJ (l++ [w]):=by unfold DJ wl;rw[List.set_append_right _ _ (by simp)];simp only[bg,Nat.sub_self,ji,ak,aB,bw];rw[show 64 - l.length=(64 - (l.length+(0+1)))+1 by omega,List.replicate_succ,List.set_cons_zero];simp
theorem agM(l:List W)(h:l.length=64):DJ l=wl l:=by simp[DJ,h]
theorem aBj(b:List Int)(k:Nat)(h:4*k+4<=b.length):aFQ ((cut b (4*k) (b.length - 4*k)).getD 0 0) ((cut b (4*k) (b.length - 4*k)).getD 1 0) ((cut b (4*k) (b.length - 4*k)).getD 2 0) ((cut b (4*k) (b.length - 4*k)).getD 3 0)=be b k:=by
 have e:∀j,j < 4->(cut b (4*k) (b.length - 4*k)).getD j 0=b.getD (4*k+j) 0:=λj hj=>by unfold cut;rw[aJ,aJ,List.getElem?_take_of_lt aq,fx]
 unfold be;rw[e 0 aq,e 1 aq,e 2 aq,e 3 aq,ct]
theorem Uq:(schedule.mN 0 jF):=by
 refine(schedule.px 0 jF) (λ(b,t8,n2)=>64 - t8.toNat) ?_
 rintro⟨b,t8,n2⟩ ⟨hb,k,hk,rfl,rfl⟩;have aDN:=agr b k hk;have as5:=Y8 (C3 b k) aq;by_cases h:k < 64
 ·left;refine⟨(b,((k+1:Nat):Int),DJ (C3 b (k+1))),⟨hb,k+1,aq,rfl,rfl⟩,by simp;omega,rfl,λkn kx=> ?_⟩;have e1:bT .i64 (k:Int) 1=((k+1:Nat):Int):=by rw[eU aq aq];omega
  have e2:ab (k:Int)=k:=aq;rw[BO,bh aq];simp only[aj,e1,e2,as5,jy,aU,ct,cQ];by_cases aDv:k < 16
  ·have e3:iT .i64 4 (k:Int)=((4*k:Nat):Int):=by rw[Bx aq aq];omega
   have e4:ab ((4*k:Nat):Int)=4*k:=aq;rw[bh aq,e3,lJ aq aq,e4,bB aq aq,aM h];have hp:Q5 (cut b (4*k) (b.length - 4*k)):=by show 4<=_;rw[yx aq];omega
   simp only[aj,ag0 hp,ag];have e5:bG (cut b (4*k) (b.length - 4*k)) (acE (cut b (4*k) (b.length - 4*k)))=vw (be b k):=by show vw (aFQ _ _ _ _)=_;rw[aBj b k aq]
   have e6:=WZ (C3 b k) (be b k) aq;rw[aDN]at e6;rw[e5,e6,aqL b k aDv]
  ·have a15:ab (ed .i64 (k:Int) 15)=k - 15:=by rw[eV aq aq];omega
   have a2:ab (ed .i64 (k:Int) 2)=k - 2:=by rw[eV aq aq];omega
   have a16:ab (ed .i64 (k:Int) 16)=k - 16:=by rw[eV aq aq];omega
   have a7:ab (ed .i64 (k:Int) 7)=k - 7:=by rw[eV aq aq];omega
   have i15:iO (ed .i64 (k:Int) 15) 64=aO:=bB (by rw[eV aq aq];omega) (by rw[eV aq aq];omega);have i2:iO (ed .i64 (k:Int) 2) 64=aO:=bB (by rw[eV aq aq];omega) (by rw[eV aq aq];omega);have i16:iO (ed .i64 (k:Int) 16) 64=aO:=bB (by rw[eV aq aq];omega) (by rw[eV aq aq];omega);have i7:iO (ed .i64 (k:Int) 7) 64=aO:=bB (by rw[eV aq aq];omega) (by rw[eV aq aq];omega);have i0:iO (k:Int) 64=aO:=bB aq aq;have d15:decide (k - 15 < 64)=aO:=aM aq;have d2:decide (k - 2 < 64)=aO:=aM aq;have d16:decide (k - 16 < 64)=aO:=aM aq;have d7:decide (k - 7 < 64)=aO:=aM aq;have d0:decide (k < 64)=aO:=aM h;rw[aW aq];simp only[aj,ao,a15,a2,a16,a7,i15,i2,i16,i7,i0,d15,d2,d16,d7,d0,FU (C3 b k) (k - 15) aq,FU (C3 b k) (k - 2) aq,FU (C3 b k) (k - 16) aq,FU (C3 b k) (k - 7) aq,Yw,ag,FW,Sj,R7];have e6:=WZ (C3 b k) (aAO (C3 b k) k) aq;rw[aDN]at e6;rw[awJ b k aq,ext,aDN,<-e6];rfl
 ·right;obtain rfl:k=64:=aq;intro R kn kx;rw[BO,aW aq,agM _ aDN,aAd];simp only[ao,bG,AX]
theorem afG:schedule.Ok:=by intro b hb;have hp:Dk (b,0,ai 64 0):=⟨hb,0,aq,rfl,rfl⟩;rw[afF,Qi hp];simp only[ag,bG,AX,bG,IM]
theorem abl:schedule.RS:=rE [.d tB] schedule
def afH:=schedule.gr afG 1 ⟨.iB Uq,trivial⟩
abbrev SI:=(List Int)×Int×(List Int)×(List Int)×(List Int)×(List Int)
def Il:SI->(List Int)->(((List Int)×(List Int))×((List Int))):=λ(aBP,t18,n4,n5,n6,n7) y=>((aBP,n4),y)
abbrev SL:=(List Int)×Int×(List Int)×(List Int)
def Cx:SL->(List Int)->(((List Int))×((List Int))):=λ(aDw,t104,yP,VY) y=>(yP,y)
def aqp(l:List Int):St:=⟨aX 32 (l.getD 0 0),aX 32 (l.getD 1 0),aX 32 (l.getD 2 0),aX 32 (l.getD 3 0),aX 32 (l.getD 4 0),aX 32 (l.getD 5 0),aX 32 (l.getD 6 0),aX 32 (l.getD 7 0)⟩
theorem zd(s:St):aqp s.l=s:=by obtain⟨a,b,c,d,e,f,g,h⟩:=s;simp[aqp,St.l,vD]
def aDg(l:List Int):List W:=l.map (aX 32)
theorem ame(l:List W):aDg (wl l)=l:=by
 unfold aDg wl;rw[oT];have:(aX 32∘vw)=(id:W->W):=by funext w;exact vD w
 rw[this,List.map_id]
def SK:SI->Prop:=λ(h,t,n4,n5,n6,n7)=>∃(s:St) (ws:List W) (k:Nat),h=s.l/\n5=wl ws/\ws.length=64/\k<=64/\t=k/\n6=aeg/\n7=(rounds ws s k).l
def SJ:SI->(List Int):=λ(h,t,n4,n5,n6,n7)=>(rounds (aDg n5) (aqp h) 64).l
def SM:SL->Prop:=λ(h,t,n4,n7)=>n7.length=8/\∃k:Nat,k<=8/\t=k
def Kt:SL->(List Int):=λ(h,t,n4,n7)=>from_ (λi x=>bT .u32 x (nth (.int .u32) h i)) t.toNat n7
def aaB:((List Int)×Bs)->Prop:=λ(h,b)=>(∃s:St,h=s.l)/\64<=b.length
def alr:((List Int)×Bs)->(List Int):=λ(h,b)=>(aow (aqp h) b).l
def AI:Ls SK Il SJ:=wh (λ(aBP,t18,n4,n5,n6,n7)=>⟨([cj,cj,.eG (.arr 8 (.int .u32)) aBP,cj,fa 4,fa 5,fa 6,fa 7]++ba 10 ([.d ti t18]++ba 98 [])),[],(bC 4 ([dz (.d (.arr 8 (.int .u32)) n4),dz (.d (.arr 64 (.int .u32)) n5),dz (.d (.arr 64 (.int .u32)) n6),dz (.d (.arr 8 (.int .u32)) n7)]++bC 109 []))⟩) (λx=>(.exit 0,⟨([cj,cj,.eG (.arr 8 (.int .u32)) x.1.1,cj,fa 4,cj,cj,fa 7]++ba 109 []),[],(bC 4 ([dz (.d (.arr 8 (.int .u32)) x.1.2),[],[],dz (.d (.arr 8 (.int .u32)) x.2)]++bC 109 []))⟩))
def Cw:Ls SM Cx Kt:=wh (λ(aDw,t104,yP,VY)=>⟨([cj,cj,.eG (.arr 8 (.int .u32)) aDw,cj,fa 4,cj,cj,fa 7]++ba 96 ([.d ti t104]++ba 12 [])),[],(bC 4 ([dz (.d (.arr 8 (.int .u32)) yP),[],[],dz (.d (.arr 8 (.int .u32)) VY)]++bC 109 []))⟩) (λx=>(.exit 2,⟨(ba 4 ([fa 4,cj,cj,fa 7]++ba 109 [])),[],(bC 4 ([dz (.d (.arr 8 (.int .u32)) x.1),[],[],dz (.d (.arr 8 (.int .u32)) x.2)]++bC 109 []))⟩))
def mix:Fs Tryz.prog aaB bG alr:=gf 107 Tryz.f107 (λ(h,b)=>([.d (.arr 8 (.int .u32)) h,.d tB b],[])) (λx=>⟨.d (.arr 8 (.int .u32)) x,[],[]⟩) [au (.arr 8 (.int .u32)),au tB] [afH,awd,Yx] {loops:=th [(4,{bz:=[2,4,5,6,7,18],sites:=[4,5,6,7]}),(13,{bz:=[2,4,7,104],sites:=[4,7]})],outs:=tg [(4,{bz:=[2,4,7],sites:=[4,7]},{bz:=[4]}),(13,{bz:=[4,7],sites:=[4,7]},{bz:=[4]})],iE:=uA [(4,AI.E),(13,Cw.E)]}
theorem aiv:AI.RS:=rL [.d (.arr 8 (.int .u32)),.d ti,.d (.slice (.int .u32)),.d (.slice (.int .u32)),.d (.slice (.int .u32)),.d (.slice (.int .u32))] AI
theorem OZ(aBP t18 n4 n5 n6 n7)(kn:K2 R)(kx:K3 R):mix.R 0 AI (aBP,t18,n4,n5,n6,n7) kn kx=aP (iG t18 64) (aP (decide (4 < (ae n7))) (ax (oF.call ((nth (.int .u32) n7 4),(-6))) λx1=>aP (decide (4 < (ae n7))) (ax (oF.call ((nth (.int .u32) n7 4),(-11))) λx2=>aP (decide (4 < (ae n7))) (ax (oF.call ((nth (.int .u32) n7 4),(-25))) λx3=>aP (decide (7 < (ae n7))) (aP (decide (6 < (ae n7))) (aP (decide (4 < (ae n7))) (aP (decide (5 < (ae n7))) (aP (decide (6 < (ae n7))) (aP (iO t18 64) (aP (decide ((ab t18) < (ae n6))) (aP (decide ((((ab t18)*1)+0)=(0+((ab t18)*1)))) (aP (iO t18 64) (aP (decide ((ab t18) < (ae n5))) (aP (decide ((((ab t18)*1)+0)=(0+((ab t18)*1)))) (aP (decide (0 < (ae n7))) (ax (oF.call ((nth (.int .u32) n7 0),(-2))) λx4=>aP (decide (0 < (ae n7))) (ax (oF.call ((nth (.int .u32) n7 0),(-13))) λx5=>aP (decide (0 < (ae n7))) (ax (oF.call ((nth (.int .u32) n7 0),(-22))) λx6=>aP (decide (0 < (ae n7))) (aP (decide (1 < (ae n7))) (aP (decide (2 < (ae n7))) (aP (decide (0 < (ae n7))) (aP (decide (1 < (ae n7))) (aP (decide (0 < (ae n7))) (aP (decide (1 < (ae n7))) (aP (decide (2 < (ae n7))) (aP (decide (3 < (ae n7))) (aP (decide (4 < (ae n7))) (aP (decide (5 < (ae n7))) (aP (decide (6 < (ae n7))) (kn (AI.st (aBP,(bT .i64 t18 1),n4,n5,n6,[(bT .u32 (bT .u32 (bT .u32 (bT .u32 (bT .u32 (bT .u32 (nth (.int .u32) n7 7) (di .xor .u32 (di .xor .u32 x1 x2) x3)) (di .xor .u32 (nth (.int .u32) n7 6) (di .and .u32 (nth (.int .u32) n7 4) (di .xor .u32 (nth (.int .u32) n7 5) (nth (.int .u32) n7 6))))) (nth (.int .u32) n6 (ab t18))) (nth (.int .u32) n5 (ab t18))) (di .xor .u32 (di .xor .u32 x4 x5) x6)) (di .or .u32 (di .and .u32 (nth (.int .u32) n7 0) (nth (.int .u32) n7 1)) (di .and .u32 (nth (.int .u32) n7 2) (di .or .u32 (nth (.int .u32) n7 0) (nth (.int .u32) n7 1))))),(nth (.int .u32) n7 0),(nth (.int .u32) n7 1),(nth (.int .u32) n7 2),(bT .u32 (nth (.int .u32) n7 3) (bT .u32 (bT .u32 (bT .u32 (bT .u32 (nth (.int .u32) n7 7) (di .xor .u32 (di .xor .u32 x1 x2) x3)) (di .xor .u32 (nth (.int .u32) n7 6) (di .and .u32 (nth (.int .u32) n7 4) (di .xor .u32 (nth (.int .u32) n7 5) (nth (.int .u32) n7 6))))) (nth (.int .u32) n6 (ab t18))) (nth (.int .u32) n5 (ab t18)))),(nth (.int .u32) n7 4),(nth (.int .u32) n7 5),(nth (.int .u32) n7 6)]))) aH) aH) aH) aH) aH) aH) aH) aH) aH) aH) aH) aH) aH) aH) aH) aH) aH) aH) aH) aH) aH) aH) aH) aH) aH) aH) aH) aH) aH) (AI.go kx ((aBP,n4),n7)):=cW
theorem aiw:Cw.RS:=rL [.d (.arr 8 (.int .u32)),.d ti,.d (.slice (.int .u32)),.d (.slice (.int .u32))] Cw
theorem O0(aDw t104 yP VY)(kn:K2 R)(kx:K3 R):mix.R 1 Cw (aDw,t104,yP,VY) kn kx=aP (iG t104 8) (aP (iO t104 8) (aP (decide ((ab t104) < (ae VY))) (aP (decide ((((ab t104)*1)+0)=(0+((ab t104)*1)))) (aP (iO t104 8) (aP (iO t104 8) (aP (decide ((ab t104) < (ae VY))) (aP (decide ((((ab t104)*1)+0)=(0+((ab t104)*1)))) (aP (decide ((ab t104) < (ae VY))) (kn (Cw.st (aDw,(bT .i64 t104 1),yP,(fW VY (ab t104) (bT .u32 (nth (.int .u32) VY (ab t104)) (nth (.int .u32) aDw (ab t104))))))) aH) aH) aH) aH) aH) aH) aH) aH) (Cw.go kx (yP,VY)):=cW
theorem aCw(h b)(k:K1 R):mix.A (h,b) k=ax (schedule.call b) λx1=>ax (table.call ()) λx2=>ax (AI.call (h,0,(ai 8 0),x1,x2,h)) λx9=>ax (Cw.call (x9.1.1,0,x9.1.2,x9.2)) λaw0=>k (mix.out aw0.2):=cW
theorem St.atw(s:St):s.l.length=8:=rfl
theorem aeh:aeg.length=64:=rfl
theorem att(k:Nat)(h:k < 64):nth (.int .u32) aeg k=vw (kw k):=by
 have hh:∀k:Fin 64,nth (.int .u32) aeg k.val=vw (kw k.val):=by decide+kernel
 exact hh ⟨k,h⟩
theorem aDj(ws:List W)(k:Nat)(h:k < ws.length):nth (.int .u32) (wl ws) k=vw (ws.getD k 0):=by unfold nth wl;simp[h]
theorem aJT(w:W):rl w ((-6:Int)%32).toNat=Gy w 6:=rfl
theorem aHL(w:W):rl w ((-11:Int)%32).toNat=Gy w 11:=rfl
theorem aHO(w:W):rl w ((-25:Int)%32).toNat=Gy w 25:=rfl
theorem aJS(w:W):rl w ((-2:Int)%32).toNat=Gy w 2:=rfl
theorem aHM(w:W):rl w ((-13:Int)%32).toNat=Gy w 13:=rfl
theorem aHN(w:W):rl w ((-22:Int)%32).toNat=Gy w 22:=rfl
theorem n0(s:St):nth (.int .u32) s.l 0=vw s.a:=rfl
theorem n1(s:St):nth (.int .u32) s.l 1=vw s.b:=rfl
theorem n2(s:St):nth (.int .u32) s.l 2=vw s.c:=rfl
theorem n3(s:St):nth (.int .u32) s.l 3=vw s.d:=rfl
theorem n4(s:St):nth (.int .u32) s.l 4=vw s.e:=rfl
theorem n5(s:St):nth (.int .u32) s.l 5=vw s.f:=rfl
theorem n6(s:St):nth (.int .u32) s.l 6=vw s.g:=rfl
theorem n7(s:St):nth (.int .u32) s.l 7=vw s.h:=rfl
theorem aox:(mix.mN 0 AI):=by
 refine(mix.px 0 AI) (λ(h,t,n4,n5,n6,n7)=>64 - t.toNat) ?_
 rintro⟨h,t,m4,m5,m6,m7⟩ ⟨s,ws,k,rfl,rfl,hw,hk,rfl,rfl,rfl⟩;by_cases iJ:k < 64
 ·left;refine⟨(s.l,((k+1:Nat):Int),m4,wl ws,aeg,(rounds ws s (k+1)).l),⟨s,ws,k+1,rfl,rfl,hw,aq,rfl,rfl,rfl⟩,by simp;omega,rfl,λkn kx=> ?_⟩;have e1:bT .i64 (k:Int) 1=((k+1:Nat):Int):=by rw[eU aq aq];omega
  have e2:ab (k:Int)=k:=aq;have aDN:(wl ws).length=64:=by simp[wl,hw]
  have d0:decide (k < 64)=aO:=aM iJ;have i0:iO (k:Int) 64=aO:=bB aq aq;rw[OZ,bh aq];generalize hv:rounds ws s k=v;simp only[e1,e2,jy,aU,ct,cQ,aj,St.atw,Nat.reduceLT,aeh,aDN,d0,i0,n0,n1,n2,n3,n4,n5,n6,n7,Yw,ag,att k iJ,aDj ws k aq,FW,R7,aJT,aHL,aHO,aJS,aHM,aHN];show kn _=kn (AI.st (s.l,((k+1:Nat):Int),m4,wl ws,aeg,(px (rounds ws s k) (kw k) (ws.getD k 0)).l));rw[hv];rfl
 ·right;obtain rfl:k=64:=aq;intro R kn kx;rw[OZ,aW aq];simp only[ao,Il,SJ,ame,zd]
theorem aoy:(mix.mN 1 Cw):=by
 refine(mix.px 1 Cw) (λ(h,t,n4,n7)=>8 - t.toNat) ?_
 rintro⟨h,t,m4,m7⟩ ⟨hl,k,hk,rfl⟩;have hl:m7.length=8:=hl;have e2:ab (k:Int)=k:=aq;have e3:ab ((k+1:Nat):Int)=k+1:=aq;by_cases iJ:k < 8
 ·left;have e1:bT .i64 (k:Int) 1=((k+1:Nat):Int):=by rw[eU aq aq];omega
  have hn:nth (.int .u32) m7 k=m7[k]:=db (t:= .int .u32) aq;refine⟨(h,((k+1:Nat):Int),m4,m7.set k (bT .u32 m7[k] (nth (.int .u32) h k))),⟨by simpa using hl,k+1,aq,rfl⟩,by simp;omega,?_,λkn kx=> ?_⟩
  ·simp only[Cx,Kt,e2,e3];rw[Xz (λi x=>bT .u32 x (nth (.int .u32) h i)) m7 k aq]
  ·have d0:decide (k < 8)=aO:=aM iJ;have i0:iO (k:Int) 8=aO:=bB aq aq;rw[O0,bh aq];simp only[e1,e2,jy,aU,ct,cQ,aj,hl,d0,i0,hn]
 ·right;obtain rfl:k=8:=aq;intro R kn kx;rw[O0,aW aq];simp only[ao,Cx,Kt,e2];rw[adE _ _ _ aq]
theorem aCx:mix.Ok:=by
 rintro⟨h,b⟩ ⟨⟨s,rfl⟩,hb⟩;have hs:Lx b:=hb;have aqW:(sched b).length=64:=by unfold sched;rw[I6,sW]
 have hp:SK (s.l,0,ai 8 0,wl (sched b),aeg,s.l):=⟨s,sched b,0,rfl,rfl,aqW,aq,rfl,rfl,rfl⟩;rw[aCw,abl hs];simp only[ag,aqh (d:=()) trivial,bG,IM,bG,al8,aiv hp,Il,SJ,ame,zd];have awT:SM (s.l,0,ai 8 0,(rounds (sched b) s 64).l):=⟨rfl,0,aq,rfl⟩;simp only[aiw awT,ag,Cx,Kt,bG,alr,zd];unfold aow;generalize rounds (sched b) s 64=v;obtain⟨a1,b1,c1,d1,f1,g1,h1,i1⟩:=v;simp only[St.l,from_,List.mapIdx_cons,List.mapIdx_nil,bO,Nat.not_lt_zero,cK,aU,Nat.reduceAdd];simp only[nth,lu,List.getD_cons_succ,R7]
theorem als:mix.RS:=rE [.d (.slice (.int .u32)),.d tB] mix
def aCy:=mix.gr aCx 2 ⟨.iB aox,⟨.iB aoy,trivial⟩⟩
theorem rj(n:Int)(k:Int)(h0:0<=k)(h1:k<=64):dP .u8 (cR .i64 n k)=n / 2^k.toNat%256:=by
 rw[aac,lR,cR];have e:min k.toNat IntKind.i64.bits=k.toNat:=by simp only[IntKind.bits];omega
 rw[e,Int.fdiv_eq_ediv_of_nonneg _ (rO (Int.pow_pos aq))];rfl
theorem BM{n:Nat}(h:n<=140737488355328):dI n 1=aO:=dN aq aq
def Rh:Bs->Prop:=λb=>b.length<=140737488355328
def D7:Bs->(Nat×(List Int)):=λb=>(b.length,b)
def yn:Fs Tryz.prog Rh bG D7:=gf 105 Tryz.f105 (λsv=>([.d tB sv],[])) (λx=>⟨.cM (.new 0 0) 0 [] 0 0 x.1,[],[.obj 0 aV (.vec 5 tb x.2)]⟩) [au tB] [] {bM:=[5],owns:=[⟨2,[],5,103⟩]}
theorem am4(sv)(k:K1 R):yn.A sv k=aP (decide (0 < (ae sv))) (aP (dI (0+(ae sv)) 1) (k (yn.out ((0+(ae sv)),((bk 0 (ai 0 0))++sv)))) aH) (nd (k (yn.out (0,([]:List Int)))) (aP (dI (0+(ae sv)) 1) (k (yn.out ((0+(ae sv)),((bk 0 (ai 0 0))++sv)))) aH)):=cW
theorem am5:yn.Ok:=by
 intro b hb;have hr:dI b.length 1=aO:=BM hb;rw[am4];have e0:(bk 0 (ai 0 0):List Int)=[]:=rfl;simp only[aU,hr,aj,e0,aT,bG,D7];by_cases h:0 < b.length
 ·simp only[aM h,aj]
 ·have:b=[]:=bm aq;subst this;simp only[bw,Cz,cz (gX 0),ao]
theorem HG:yn.RS:=rE [.d tB] yn
def Mt:=yn.gr am5
def aok:Int->Prop:=λ_=>True
def alm:Int->(Nat×(List Int)):=λn=>(8,lS n)
def Sy:Fs Tryz.prog aok bG alm:=gf 69 Tryz.f69 (λn=>([.dd,.d ti n],[])) (λx=>⟨.cM (.new 0 0) 0 [] 0 0 x.1,[],[.obj 0 aV (.vec 5 tb x.2)]⟩) [aH,au ti] [] {loops:=th [(2,{bz:=[0,1,5],sites:=[16]})],outs:=tg [(2,{bz:=[0],sites:=[16]},{bz:=[4],sites:=[16]})],owns:=[⟨4,[],16,103⟩]} 12
theorem atK(n)(k:K1 R):Sy.A n k=k (Sy.out (8,[(dP .u8 (cR .i64 n 56)),(dP .u8 (cR .i64 n 48)),(dP .u8 (cR .i64 n 40)),(dP .u8 (cR .i64 n 32)),(dP .u8 (cR .i64 n 24)),(dP .u8 (cR .i64 n 16)),(dP .u8 (cR .i64 n 8)),(dP .u8 (cR .i64 n 0))])):=cW
theorem agV(n:Int): [dP .u8 (cR .i64 n 56),dP .u8 (cR .i64 n 48),dP .u8 (cR .i64 n 40),dP .u8 (cR .i64 n 32),dP .u8 (cR .i64 n 24),dP .u8 (cR .i64 n 16),dP .u8 (cR .i64 n 8),dP .u8 (cR .i64 n 0)]=lS n:=by rw[rj n 56 aq aq,rj n 48 aq aq,rj n 40 aq aq,rj n 32 aq aq,rj n 24 aq aq,rj n 16 aq aq,rj n 8 aq aq,rj n 0 aq aq];simp[lS]
theorem atL:Sy.Ok:=by intro n _;rw[atK,agV];rfl
theorem aol:Sy.RS:=rE [.d ti] Sy
def atM:=Sy.aGi aoF atL 1 ⟨.none cW,trivial⟩
def M5:(Nat×Int×Bs)->Prop:=λ(m,n,l)=>m=l.length/\l.length<=140737488355320
def QD:(Nat×Int×Bs)->(Nat×(List Int)):=λ(m,n,l)=>(l.length+8,l++lS n)
def OR:Fs Tryz.prog M5 bG QD:=gf 69 Tryz.f69 (λ(bL,n,o0)=>([.cM (.bF 0) 0 [] 0 0 bL,.d ti n],[.obj 0 aV (.vec 5 tb o0)])) (λx=>⟨.cM (.bF 0) 8 [] 0 0 x.1,[.obj 8 aV (.vec 5 tb x.2)],[]⟩) [aH,au ti] [] {loops:=th [(2,{bz:=[0,1,5],sites:=[16]})],outs:=tg [(2,{bz:=[0],sites:=[16]},{bz:=[4],sites:=[16]})]} 12
theorem atN(bL n o0)(k:K1 R):OR.A (bL,n,o0) k=aP (decide (bL<=(ae o0))) (aP (dI (bL+1) 1) (aP (decide ((bL+1)<=(ae ((bk bL o0)++ [(dP .u8 (cR .i64 n 56))])))) (aP (dI ((bL+1)+1) 1) (aP (decide (((bL+1)+1)<=(ae ((bk (bL+1) ((bk bL o0)++ [(dP .u8 (cR .i64 n 56))]))++ [(dP .u8 (cR .i64 n 48))])))) (aP (dI (((bL+1)+1)+1) 1) (aP (decide ((((bL+1)+1)+1)<=(ae ((bk ((bL+1)+1) ((bk (bL+1) ((bk bL o0)++ [(dP .u8 (cR .i64 n 56))]))++ [(dP .u8 (cR .i64 n 48))]))++ [(dP .u8 (cR .i64 n 40))])))) (aP (dI ((((bL+1)+1)+1)+1) 1) (aP (decide (((((bL+1)+1)+1)+1)<=(ae ((bk (((bL+1)+1)+1) ((bk ((bL+1)+1) ((bk (bL+1) ((bk bL o0)++ [(dP .u8 (cR .i64 n 56))]))++ [(dP .u8 (cR .i64 n 48))]))++ [(dP .u8 (cR .i64 n 40))]))++ [(dP .u8 (cR .i64 n 32))])))) (aP (dI (((((bL+1)+1)+1)+1)+1) 1) (aP (decide ((((((bL+1)+1)+1)+1)+1)<=(ae ((bk ((((bL+1)+1)+1)+1) ((bk (((bL+1)+1)+1) ((bk ((bL+1)+1) ((bk (bL+1) ((bk bL o0)++ [(dP .u8 (cR .i64 n 56))]))++ [(dP .u8 (cR .i64 n 48))]))++ [(dP .u8 (cR .i64 n 40))]))++ [(dP .u8 (cR .i64 n 32))]))++ [(dP .u8 (cR .i64 n 24))])))) (aP (dI ((((((bL+1)+1)+1)+1)+1)+1) 1) (aP (decide (((((((bL+1)+1)+1)+1)+1)+1)<=(ae ((bk (((((bL+1)+1)+1)+1)+1) ((bk ((((bL+1)+1)+1)+1) ((bk (((bL+1)+1)+1) ((bk ((bL+1)+1) ((bk (bL+1) ((bk bL o0)++ [(dP .u8 (cR .i64 n 56))]))++ [(dP .u8 (cR .i64 n 48))]))++ [(dP .u8 (cR .i64 n 40))]))++ [(dP .u8 (cR .i64 n 32))]))++ [(dP .u8 (cR .i64 n 24))]))++ [(dP .u8 (cR .i64 n 16))])))) (aP (dI (((((((bL+1)+1)+1)+1)+1)+1)+1) 1) (aP (decide ((((((((bL+1)+1)+1)+1)+1)+1)+1)<=(ae ((bk ((((((bL+1)+1)+1)+1)+1)+1) ((bk (((((bL+1)+1)+1)+1)+1) ((bk ((((bL+1)+1)+1)+1) ((bk (((bL+1)+1)+1) ((bk ((bL+1)+1) ((bk (bL+1) ((bk bL o0)++ [(dP .u8 (cR .i64 n 56))]))++ [(dP .u8 (cR .i64 n 48))]))++ [(dP .u8 (cR .i64 n 40))]))++ [(dP .u8 (cR .i64 n 32))]))++ [(dP .u8 (cR .i64 n 24))]))++ [(dP .u8 (cR .i64 n 16))]))++ [(dP .u8 (cR .i64 n 8))])))) (aP (dI ((((((((bL+1)+1)+1)+1)+1)+1)+1)+1) 1) (k (OR.out (((((((((bL+1)+1)+1)+1)+1)+1)+1)+1),((bk (((((((bL+1)+1)+1)+1)+1)+1)+1) ((bk ((((((bL+1)+1)+1)+1)+1)+1) ((bk (((((bL+1)+1)+1)+1)+1) ((bk ((((bL+1)+1)+1)+1) ((bk (((bL+1)+1)+1) ((bk ((bL+1)+1) ((bk (bL+1) ((bk bL o0)++ [(dP .u8 (cR .i64 n 56))]))++ [(dP .u8 (cR .i64 n 48))]))++ [(dP .u8 (cR .i64 n 40))]))++ [(dP .u8 (cR .i64 n 32))]))++ [(dP .u8 (cR .i64 n 24))]))++ [(dP .u8 (cR .i64 n 16))]))++ [(dP .u8 (cR .i64 n 8))]))++ [(dP .u8 (cR .i64 n 0))])))) aH) aH) aH) aH) aH) aH) aH) aH) aH) aH) aH) aH) aH) aH) aH) aH:=cW
theorem atO:OR.Ok:=by rintro⟨m,n,l⟩ ⟨rfl,hl⟩;have hl:l.length<=140737488355320:=hl;rw[atN];simp only[aC,cQ,aj,bH,ak,aB,bw,aU];rw[BM aq,BM aq,BM aq,BM aq,BM aq,BM aq,BM aq,BM aq];simp only[aj,bG,QD,<-agV,aK,oQ,aT]
theorem XW:OR.RS:=rE [.n,.d ti,.d tB] OR
def aen:=OR.aGi YH atO 1 ⟨.none cW,trivial⟩
abbrev MQ:=Bs×Nat×Bs×(List Int)
abbrev XN:=Nat×(List Int)
def zL:MQ->XN->((Bs×Bs)×(Nat×(List Int))):=λ(yh,endL,n2,n14) y=>((yh,n2),y)
abbrev MR:=Bs×Nat×Bs×(List Int)×(List Int)
def zM:MR->(List Int)->((Nat×Bs×(List Int))×((List Int))):=λ(Qk,HX,rF,n4,SX) y=>((HX,rF,SX),y)
abbrev MS:=Bs×Bs×(List Int)
def zN:MS->(List Int)->((Bs)×((List Int))):=λ(endv,qM,yP) y=>(qM,y)
abbrev XO:=Int×Bs×(List Int)
def zc(n:Nat):Nat:=(120 - n%64)%64
def OF:MQ->Prop:=λ(b,m,n2,l)=>m=l.length/\l.length+zc l.length<=140737488355328
def F4:MQ->XN:=λ(b,m,n2,l)=>(l.length+zc l.length,l++ai (zc l.length) 0)
def OG:MR->Prop:=λ(b,m,n2,h,l)=>∃s:St,h=s.l
def F5:MR->(List Int):=λ(b,m,n2,h,l)=>(blocks (aqp h) b).l
def OH:MS->Prop:=λ(b,n2,h)=>b.length%64=0/\∃s:St,h=s.l
def F6:MS->(List Int):=λ(b,n2,h)=>(blocks (aqp h) b).l
def W3(h:List Int)(i:Nat)(_:Int):Int:=dP .u8 (cR .u32 (nth (.int .u32) h (i / 4)) ((24 - 8*(i%4):Nat):Int))
def OI:XO->Prop:=λ(t,n2,h)=>n2.length=32/\h.length=8/\∃k:Nat,k<=32/\t=k
def F7:XO->Bs:=λ(t,n2,h)=>from_ (W3 h) t.toNat n2
def adZ:Bs->Prop:=λb=>b.length<=140737488350000
def ahZ:Bs->Bs:=λb=>aDY b
def xc:Ls OF zL F4:=wh (λ(yh,endL,n2,n14)=>⟨([.d tB yh,cj,fa 2,lq 14 endL]++ba 61 []),[],([[],[],dz (.d tH n2)]++bC 11 ([dz (.vec 5 tb n14)]++bC 50 []))⟩) (λx=>(.exit 0,⟨([.d tB x.1.1,cj,fa 2,lq 14 x.2.1]++ba 61 []),[],([[],[],dz (.d tH x.1.2)]++bC 11 ([dz (.vec 5 tb x.2.2)]++bC 50 []))⟩))
def xd:Ls OG zM F5:=wh (λ(Qk,HX,rF,n4,SX)=>⟨([.d tB Qk,cj,fa 2,.cM (.new 14 0) 8 [] 0 0 HX,fa 4]++ba 60 []),[],([[],[],dz (.d tH rF),[],dz (.d (.arr 8 (.int .u32)) n4)]++bC 9 ([[.obj 8 aV (.vec 5 tb SX)]]++bC 50 []))⟩) (λx=>(.exit 2,⟨([cj,cj,fa 2,.cM (.new 14 0) 8 [] 0 0 x.1.1,fa 4]++ba 60 []),[],([[],[],dz (.d tH x.1.2.1),[],dz (.d (.arr 8 (.int .u32)) x.2)]++bC 9 ([[.obj 8 aV (.vec 5 tb x.1.2.2)]]++bC 50 []))⟩))
def xe:Ls OH zN F6:=wh (λ(endv,qM,yP)=>⟨([cj,cj,fa 2,.d tB endv,fa 4]++ba 60 []),[],([[],[],dz (.d tH qM),[],dz (.d (.arr 8 (.int .u32)) yP)]++bC 60 [])⟩) (λx=>(.exit 4,⟨([cj,cj,fa 2,cj,fa 4]++ba 60 []),[],([[],[],dz (.d tH x.1),[],dz (.d (.arr 8 (.int .u32)) x.2)]++bC 60 [])⟩))
def xf:Ls OI bG F7:=wh (λ(t48,Iq,Ky)=>⟨([cj,cj,fa 2,cj,fa 4]++ba 43 ([.d ti t48]++ba 16 [])),[],([[],[],dz (.d tH Iq),[],dz (.d (.arr 8 (.int .u32)) Ky)]++bC 60 [])⟩) (λx=>(.exit 6,⟨([cj,cj,fa 2]++ba 62 []),[],([[],[],dz (.d tH x)]++bC 62 [])⟩))
def Cm:Fs Tryz.prog adZ bG ahZ:=gf 70 Tryz.f70 (λb=>([.d tB b],[])) (λx=>⟨.d tH x,[],[]⟩) [au tB] [Mt,aen,asQ,aCy] {loops:=th [(2,{bz:=[0,2,3],sites:=[2,14],owns:=[⟨3,[],14,103⟩]}),(6,{bz:=[0,2,3,4],sites:=[2,4,14]}),(9,{bz:=[2,3,4],sites:=[2,4],data:=[(3,tB)]}),(13,{bz:=[2,4,48],sites:=[2,4]})],outs:=tg [(2,{bz:=[0,2,3],sites:=[2,14]},{bz:=[2]}),(6,{bz:=[2,3,4],sites:=[2,4,14]},{bz:=[2]}),(9,{bz:=[2,4],sites:=[2,4]},{bz:=[2]}),(13,{bz:=[2],sites:=[2]},{bz:=[2]})],iE:=uA [(2,xc.E),(6,xd.E),(9,xe.E),(13,xf.E)]}
theorem adV:xc.RS:=rL [.d tB,.n,.d tB,.d tB] xc
theorem J3(yh endL n2 n14)(kn:K2 R)(kx:K3 R):Cm.R 0 xc (yh,endL,n2,n14) kn kx=aP (DF (tC ((endL:Nat):Int) 64) 56) (aP (decide (endL<=(ae n14))) (aP (dI (endL+1) 1) (kn (xc.st (yh,(endL+1),n2,((bk endL n14)++ [0])))) aH) aH) (xc.go kx ((yh,n2),(endL,n14))):=cW
theorem adW:xd.RS:=rL [.d tB,.n,.d tB,.d (.slice (.int .u32)),.d tB] xd
theorem J4(Qk HX rF n4 SX)(kn:K2 R)(kx:K3 R):Cm.R 1 xd (Qk,HX,rF,n4,SX) kn kx=aP (zP (Qk.length:Int) 64) (aP (inc 64 (Qk.length:Int)) (ax (mix.call (n4,(cut Qk 0 64))) λx1=>aP (inc 64 (Qk.length:Int)) (kn (xd.st ((cut Qk 64 ((ae Qk) - 64)),HX,rF,x1,SX))) aH) aH) (xd.go kx ((HX,rF,SX),n4)):=cW
theorem adX:xe.RS:=rL [.d tB,.d tB,.d (.slice (.int .u32))] xe
theorem J5(endv qM yP)(kn:K2 R)(kx:K3 R):Cm.R 2 xe (endv,qM,yP) kn kx=aP (wC (endv.length:Int) 0) (aP (inc 64 (endv.length:Int)) (ax (mix.call (yP,(cut endv 0 64))) λx1=>aP (inc 64 (endv.length:Int)) (kn (xe.st ((cut endv 64 ((ae endv) - 64)),qM,x1))) aH) aH) (xe.go kx (qM,yP)):=cW
theorem adY:xf.RS:=rL [.d ti,.d tB,.d (.slice (.int .u32))] xf
theorem J6(t48 Iq Ky)(kn:K2 R)(kx:K3 R):Cm.R 3 xf (t48,Iq,Ky) kn kx=aP (iG t48 32) (aP (iO (AE .i64 t48 4) 8) (aP (decide ((ab (AE .i64 t48 4)) < (ae Ky))) (aP (decide ((((ab (AE .i64 t48 4))*1)+0)=(0+((ab (AE .i64 t48 4))*1)))) (aP (qN (ed .i64 24 (iT .i64 8 (tC t48 4)))) (aP (iO t48 32) (aP (decide ((ab t48) < (ae Iq))) (aP (decide ((((ab t48)*1)+0)=(0+((ab t48)*1)))) (aP (decide ((ab t48) < (ae Iq))) (kn (xf.st ((bT .i64 t48 1),(fW Iq (ab t48) (dP .u8 (cR .u32 (nth (.int .u32) Ky (ab (AE .i64 t48 4))) (ed .i64 24 (iT .i64 8 (tC t48 4)))))),Ky))) aH) aH) aH) aH) aH) aH) aH) aH) (xf.go kx Iq):=cW
theorem ayd(b)(k:K1 R):Cm.A b k=aP (inc (ed .i64 (b.length:Int) (tC (b.length:Int) 64)) (b.length:Int)) (ax (yn.call (cut b (ab (ed .i64 (b.length:Int) (tC (b.length:Int) 64))) ((ae b) - (ab (ed .i64 (b.length:Int) (tC (b.length:Int) 64)))))) λx1=>aP (decide (x1.1<=(ae x1.2))) (aP (dI (x1.1+1) 1) (ax (xc.call (b,(x1.1+1),(ai 32 0),((bk x1.1 x1.2)++ [128]))) λx2=>ax (OR.call (x2.2.1,(iT .i64 8 (x2.1.1.length:Int)),x2.2.2)) λx3=>ax (first.call ()) λx4=>ax (xd.call (x2.1.1,x3.1,x2.1.2,x4,x3.2)) λx6=>aP (decide (0=0/\(0+x6.1.1)<=(ae x6.1.2.2))) (ax (xe.call ((cut x6.1.2.2 0 x6.1.1),x6.1.2.1,x6.2)) λx9=>ax (xf.call (0,x9.1,x9.2)) λaw0=>k (Cm.out aw0)) aH) aH) aH) aH:=cW
theorem ah0:(Cm.mN 0 xc):=by
 refine(Cm.px 0 xc) (λ(b,m,n2,l)=>zc l.length) ?_
 rintro⟨b,m,n2,l⟩ ⟨rfl,hl⟩;have hl:l.length+zc l.length<=140737488355328:=hl;have hr:tC ((l.length:Nat):Int) 64=((l.length%64:Nat):Int):=by unfold tC;rw[gY aq];omega
 by_cases h:l.length%64=56
 ·right;intro R kn kx;have hz:zc l.length=0:=by unfold zc;omega
  rw[J3,hr,dX aq];simp only[ao,zL,F4,hz,ct,List.replicate_zero,bo]
 ·left;have hz:zc l.length=zc (l.length+1)+1:=by unfold zc;omega
  refine⟨(b,l.length+1,n2,l++ [0]),⟨by simp,by simp only[ak,aB,bw,aU];omega⟩,by simp only[ak,aB,bw,aU];omega,?_,λkn kx=> ?_⟩
  ·simp only[zL,F4,ak,aB,bw,aU,hz,aK,oQ,aT,List.replicate_succ];rw[show l.length+1+zc (l.length+1)=l.length+(zc (l.length+1)+1) by omega]
  ·rw[J3,hr,fY aq,BM aq];simp only[aj,aC,cQ,bU]
theorem ah1:(Cm.mN 1 xd):=by
 refine(Cm.px 1 xd) (λ(b,m,n2,h,l)=>b.length) ?_
 rintro⟨b,m,n2,h,l⟩ ⟨s,rfl⟩;by_cases hb:64<=b.length
 ·left;have e1:cut b 64 (b.length - 64)=b.drop 64:=by unfold cut;rw[bH (by simp)]
  have e2:cut b 0 64=b.take 64:=rfl;have hp:aaB (s.l,b.take 64):=⟨⟨s,rfl⟩,by simp;omega⟩;refine⟨(b.drop 64,m,n2,(aow s (b.take 64)).l,l),⟨_,rfl⟩,by simp;omega,?_,λkn kx=> ?_⟩
  ·simp only[zM,F5,zd];rw[NZ s b hb]
  ·rw[J4,ik aq,lJ aq aq,e1,e2];simp only[aj,als hp,ag,bG,alr,zd]
 ·right;intro R kn kx;rw[J4,eN aq];simp only[ao,zM,F5,zd];rw[Hz s b aq]
theorem ah2:(Cm.mN 2 xe):=by
 refine(Cm.px 2 xe) (λ(b,n2,h)=>b.length) ?_
 rintro⟨b,n2,h⟩ ⟨hm,s,rfl⟩;have hm:b.length%64=0:=hm;by_cases hb:0 < b.length
 ·left;have e1:cut b 64 (b.length - 64)=b.drop 64:=by unfold cut;rw[bH (by simp)]
  have e2:cut b 0 64=b.take 64:=rfl;have hp:aaB (s.l,b.take 64):=⟨⟨s,rfl⟩,by simp;omega⟩;refine⟨(b.drop 64,n2,(aow s (b.take 64)).l),⟨by simp;omega,_,rfl⟩,by simp;omega,?_,λkn kx=> ?_⟩
  ·simp only[zN,F6,zd];rw[NZ s b aq]
  ·rw[J5,dy aq,lJ aq aq,e1,e2];simp only[aj,als hp,ag,bG,alr,zd]
 ·right;intro R kn kx;rw[J5,cY aq];simp only[ao,zN,F6,zd];rw[Hz s b aq]
theorem ah3:(Cm.mN 3 xf):=by
 refine(Cm.px 3 xf) (λ(t,n2,h)=>32 - t.toNat) ?_
 rintro⟨t,m,h⟩ ⟨hl,h8,k,hk,rfl⟩;have hl:m.length=32:=hl;have h8:h.length=8:=h8;have e2:ab (k:Int)=k:=aq;have e3:ab ((k+1:Nat):Int)=k+1:=aq;by_cases iJ:k < 32
 ·left;have e1:bT .i64 (k:Int) 1=((k+1:Nat):Int):=by rw[eU aq aq];omega
  have q4:AE .i64 (k:Int) 4=((k / 4:Nat):Int):=by
   have:(k:Int).tdiv 4=((k / 4:Nat):Int):=by rw[jT aq];omega
   unfold AE;rw[this,pZ aq aq]
  have r4:tC (k:Int) 4=((k%4:Nat):Int):=by unfold tC;rw[gY aq];omega
  have s4:ed .i64 24 (iT .i64 8 ((k%4:Nat):Int))=((24 - 8*(k%4):Nat):Int):=by rw[Bx aq aq,eV aq aq];omega
  have e4:ab ((k / 4:Nat):Int)=k / 4:=aq;refine⟨(((k+1:Nat):Int),m.set k (W3 h k m[k]),h),⟨by simpa using hl,h8,k+1,aq,rfl⟩,by simp;omega,?_,λkn kx=> ?_⟩
  ·simp only[bG,F7,e2,e3];rw[Xz (W3 h) m k aq]
  ·have d0:decide (k < 32)=aO:=aM iJ;have d1:decide (k / 4 < 8)=aO:=aM aq;rw[J6,bh aq,q4,r4,s4,bB aq aq,bB aq aq,vC aq];simp only[e1,e2,e4,jy,aU,ct,cQ,aj,hl,h8,d0,d1,W3]
 ·right;obtain rfl:k=32:=aq;intro R kn kx;rw[J6,aW aq];simp only[ao,bG,F7,e2];rw[adE _ _ _ aq]
theorem aoM(w:W):aX 8 (vw w)=w.setWidth 8:=by apply BitVec.eq_of_toNat_eq;rw[qq,BitVec.toNat_setWidth];unfold vw;omega
theorem aBr(w:W)(k:Int):dP .u8 (cR .u32 (vw w) k)=vw ((w >>> k.toNat).setWidth 8):=by rw[Sj,aac,aoM]
theorem ay2(s:St):from_ (W3 s.l) 0 (ai 32 0)=ay1 s:=by rw[RR];simp only[List.range_eq_range',List.range',bn,eF,W3,Nat.reduceAdd,Nat.reduceDiv,Nat.reduceMod,Nat.reduceMul,Nat.reduceSub,n0,n1,n2,n3,n4,n5,n6,n7,aBr];rfl
theorem aye:Cm.Ok:=by
 intro b hb;have hb:b.length<=140737488350000:=hb;have hr:tC ((b.length:Nat):Int) 64=((b.length%64:Nat):Int):=by unfold tC;rw[gY aq];omega
 have hs:ed .i64 ((b.length:Nat):Int) ((b.length%64:Nat):Int)=((b.length - b.length%64:Nat):Int):=by rw[eV aq aq];omega
 have hn:ab ((b.length - b.length%64:Nat):Int)=b.length - b.length%64:=aq;have hm:iT .i64 8 ((b.length:Nat):Int)=8*(b.length:Int):=Bx aq aq;generalize hq:b.length - b.length%64=q at hs hn;have hc:cut b q (b.length - q)=b.drop q:=by unfold cut;rw[bH (by simp)]
 have ahV:(b.drop q).length=b.length%64:=by simp;omega
 have p1:Rh (b.drop q):=by show(b.drop q).length<=_;omega
 rw[ayd,hr,hs,lJ aq aq,hn,hc];simp only[aj,HG p1,ag,bG,D7,aC,cQ,bU];have p2:OF (b,(b.drop q).length+1,ai 32 0,b.drop q++ [128]):=by refine⟨by simp,?_⟩;simp only[ak,aB,bw,zc];omega
 have hz:zc (b.drop q++ [128]).length=KJ b.length:=by simp only[ak,aB,bw,zc,KJ];omega
 rw[BM aq];simp only[aj,adV p2,ag,zL,F4,hm,hz];have hlen:(b.drop q++ [128]).length+KJ b.length=(b.drop q++ [128]++ai (KJ b.length) 0).length:=by rw[@ak _ (b.drop q++ [128]),cq]
 have p3:M5 ((b.drop q++ [128]).length+KJ b.length,8*(b.length:Int),b.drop q++ [128]++ai (KJ b.length) 0):=by refine⟨hlen,?_⟩;simp only[ak,aB,bw,cq,KJ];omega
 have p4:OG (b,(b.drop q++ [128]++ai (KJ b.length) 0).length+8,ai 32 0,yD.l,b.drop q++ [128]++ai (KJ b.length) 0++lS (8*(b.length:Int))):=⟨yD,rfl⟩;simp only[XW p3,ag,bG,QD,anC (d:=()) trivial,bG,akT,adW p4,zM,F5,zd];generalize he:b.drop q++ [128]++ai (KJ b.length) 0++lS (8*(b.length:Int))=e;have Gu:(b.drop q++ [128]++ai (KJ b.length) 0).length+8=e.length:=by rw[<-he,@ak _ _ (lS _),dv]
 have aDA:e.length%64=0:=by rw[<-Gu];simp only[ak,aB,bw,cq,KJ,ahV];omega
 have aBT:cut e 0 ((b.drop q++ [128]++ai (KJ b.length) 0).length+8)=e:=by rw[Gu];unfold cut;rw[aN,bU]
 rw[aBT,Gu,aM ⟨trivial,aq⟩];have p5:OH (e,ai 32 0,(blocks yD b).l):=⟨aDA,blocks yD b,rfl⟩;have p6:OI (0,ai 32 0,(blocks (blocks yD b) e).l):=⟨rfl,rfl,0,aq,rfl⟩;simp only[aj,adX p5,ag,zN,F6,zd,adY p6,bG,F7,bG,ahZ];rw[show ab 0=0 from rfl,ay2];have aDx:blocks yD (pad b)=blocks (blocks yD b) e:=by
  have h1:pad b=b.take q++e:=by rw[<-he];unfold pad;rw[aK,aK,<-aK (b.take q),da];rfl
  have h2:blocks yD b=blocks (blocks yD (b.take q)) (b.drop q):=by rw[<-GC _ _ _ (by simp;omega),da]
  rw[h1,GC _ _ _ (by simp;omega),h2,Hz _ (b.drop q) aq]
 rw[aDY,aDx]
theorem ati:Cm.RS:=rE [.d tB] Cm
def ayf:=Cm.gr aye 4 ⟨.iB ah0,⟨.iB ah1,⟨.iB ah2,⟨.iB ah3,trivial⟩⟩⟩⟩
abbrev MU:=Nat×(List Bs)×Int×Int×Bs×(List Int)
abbrev XP:=Nat×(List Int)
def zO:MU->XP->((Bs)×(Nat×(List Int))):=λ(bL,t13,t14,t15,n4,n10) y=>(n4,y)
abbrev atj:=ByteArray×(List Bs)
def OJ:MU->Prop:=λ(m,ps,n,i,n4,l)=>m=l.length/\n=ps.length/\ps.length<=140737488350000/\∃k:Nat,k<=ps.length/\i=k/\l.length+(xI (ps.drop k)).length<=140737488350000
def F8:MU->XP:=λ(m,ps,n,i,n4,l)=>(l.length+(xI (ps.drop i.toNat)).length,l++xI (ps.drop i.toNat))
def J8:atj->Prop:=λ(name,ps)=>(Wv (cH name) ps).length<=140737488350000
def Z9:atj->Bs:=λ(name,ps)=>tag (cH name) ps
def xg:Ls OJ zO F8:=wh (λ(bL,t13,t14,t15,n4,n10)=>⟨(ba 4 ([fa 4,lq 10 bL]++ba 7 ([.d (.slice tB) t13,.d ti t14,.d ti t15]++ba 12 []))),[],(bC 4 ([dz (.d tH n4)]++bC 5 ([dz (.vec 5 tb n10)]++bC 17 [])))⟩) (λx=>(.exit 0,⟨(ba 4 ([fa 4,lq 10 x.2.1]++ba 22 [])),[],(bC 4 ([dz (.d tH x.1)]++bC 5 ([dz (.vec 5 tb x.2.2)]++bC 17 [])))⟩))
def P7:Fs Tryz.prog J8 bG Z9:=gf 38 Tryz.f38 (λ(name,parts)=>([.d .str name,.d (.slice tB) parts],[])) (λx=>⟨.d tH x,[],[]⟩) [au .str,au (.slice tB)] [atM,aen,ayf] {loops:=th [(3,{bz:=[4,5,13,14,15],sites:=[4,10],owns:=[⟨5,[],10,103⟩]})],outs:=tg [(3,{bz:=[4,5],sites:=[4,10]},{bz:=[4]})],iE:=uA [(3,xg.E)]}
theorem ad1:xg.RS:=rL [.n,.d (.slice tB),.d ti,.d ti,.d tB,.d tB] xg
theorem J7(bL t13 t14 t15 n4 n10)(kn:K2 R)(kx:K3 R):P7.R 0 xg (bL,t13,t14,t15,n4,n10) kn kx=aP (iG t15 t14) (aP (iO t15 (t13.length:Int)) (ax (OR.call (bL,(((ae (nth tB t13 (ab t15))):Nat):Int),n10)) λx1=>aP (decide (x1.1<=(ae x1.2))) (aP (dI (x1.1+(ae (nth tB t13 (ab t15)))) 1) (kn (xg.st ((x1.1+(ae (nth tB t13 (ab t15)))),t13,t14,(bT .i64 t15 1),n4,((bk x1.1 x1.2)++(nth tB t13 (ab t15)))))) aH) aH) aH) (xg.go kx (n4,(bL,n10))):=cW
theorem ayg(name parts)(k:K1 R):P7.A (name,parts) k=ax (Sy.call (((ByteArray.size name):Nat):Int)) λx1=>aP (decide (x1.1<=(ae x1.2))) (aP (dI (x1.1+(ae (cH name))) 1) (ax (xg.call ((x1.1+(ae (cH name))),parts,(parts.length:Int),0,(ai 32 0),((bk x1.1 x1.2)++(cH name)))) λx4=>aP (decide (0=0/\(0+x4.2.1)<=(ae x4.2.2))) (ax (Cm.call (cut x4.2.2 0 x4.2.1)) λx5=>k (P7.out x5)) aH) aH) aH:=cW
theorem YM(p:List Int)(ps:List (List Int)):xI (p::ps)=lS p.length++p++xI ps:=by simp[xI]
theorem aqi(ps:List (List Int))(k:Nat)(h:k < ps.length):xI (ps.drop k)=lS ps[k].length++ps[k]++xI (ps.drop (k+1)):=by rw[aA h,YM]
theorem ah4:(P7.mN 0 xg):=by
 refine(P7.px 0 xg) (λ(m,ps,n,i,n4,l)=>ps.length - i.toNat) ?_
 rintro⟨m,ps,n,i,n4,l⟩ ⟨rfl,rfl,P6,k,hk,rfl,hl⟩;have hl:l.length+(xI (ps.drop k)).length<=140737488350000:=hl;have hk:k<=ps.length:=hk;have e2:ab (k:Int)=k:=aq;have e3:ab ((k+1:Nat):Int)=k+1:=aq;by_cases h:k < ps.length
 ·left;have ht:=aqi ps k h;have hlen:(xI (ps.drop k)).length=8+ps[k].length+(xI (ps.drop (k+1))).length:=by rw[ht];simp only[ak,dv]
  have hn:nth (.slice (.int .u8)) ps k=ps[k]:=db (t:= .slice (.int .u8)) h;have P6:ps.length<=140737488350000:=P6;have e1:bT .i64 (k:Int) 1=((k+1:Nat):Int):=by rw[eU aq aq];omega
  refine⟨((l++lS ps[k].length++ps[k]).length,ps,(ps.length:Int),((k+1:Nat):Int),n4,l++lS ps[k].length++ps[k]),⟨rfl,rfl,P6,k+1,by show k+1<=ps.length;omega,rfl,?_⟩,?_,?_,λkn kx=> ?_⟩
  ·show(l++lS ps[k].length++ps[k]).length+(xI (ps.drop (k+1))).length<=_;simp only[ak,dv];omega
  ·show ps.length - ab ((k+1:Nat):Int) < ps.length - ab (k:Int);omega
  ·simp only[zO,F8,e2,e3,ht,aK];simp only[ak,dv,dZ]
  ·have p1:M5 (l.length,(ps[k].length:Int),l):=⟨rfl,by show l.length<=_;omega⟩;rw[J7,bh aq,bB aq aq,e1,e2];simp only[aj,hn,XW p1,ag,bG,QD];have aB7:(l++lS ps[k].length).length=l.length+8:=by simp[dv]
   rw[aB7,aM (aC _),BM aq];simp only[aj];rw[bH (by rw[aB7];omega)];simp only[ak,dv,dZ]
 ·right;obtain rfl:k=ps.length:=aq;intro R kn kx;rw[J7,aW aq];simp only[ao,zO,F8,e2,bj];simp[xI]
theorem af1:∀ps:List (List Int),8*ps.length<=(xI ps).length
 |[]=>by simp[xI]
 |p::ps=>by rw[YM];have:=af1 ps;simp only[ak,dv,aB];omega
theorem nE(s:ByteArray):(cH s).length=s.size:=by simp only[cH,bg,cO];rfl
theorem ayh:P7.Ok:=by
 rintro⟨name,ps⟩ hp;have hp:(lS (cH name).length++cH name++xI ps).length<=140737488350000:=hp;have hl:(lS (cH name).length++cH name++xI ps).length=8+(cH name).length+(xI ps).length:=by simp only[ak,dv]
 have P6:=af1 ps;have re:((name.size:Nat):Int)=(((cH name).length:Nat):Int):=by rw[nE]
 rw[ayg,aol (d:=((name.size:Nat):Int)) trivial,re];simp only[ag,bG,alm,dv,aC,cQ,aj];rw[BM aq,bH (by rw[dv];omega)];have p2:OJ (8+(cH name).length,ps,(ps.length:Int),0,ai 32 0,lS ((cH name).length:Int)++cH name):=by refine⟨by simp only[ak,dv],rfl,by show ps.length<=_;omega,0,aS _,rfl,?_⟩;rw[aN];simp only[ak,dv];omega
 simp only[aj,ad1 p2,ag,zO,F8,bO,aN];have ax4:cut (lS ((cH name).length:Int)++cH name++xI ps) 0 ((lS ((cH name).length:Int)++cH name).length+(xI ps).length)=Wv (cH name) ps:=by unfold cut;rw[aN,bH (by simp only[ak];omega)];rfl
 have p3:adZ (Wv (cH name) ps):=hp;rw[aM ⟨trivial,by simp only[ak];omega⟩,ax4];simp only[aj,ati p3,ag,bG,ahZ,bG,Z9,tag]
theorem R5:P7.RS:=rE [.d .str,.d (.slice tB)] P7
def aaa:=P7.gr ayh 1 ⟨.iB ah4,trivial⟩
theorem L1{n:Int}(h1:0<=n)(h2:n < 18446744073709551616):IntKind.u64.wrap n=n:=by rw[wrap_u64,lR];omega
theorem L0(n:Int):IntKind.u64.wrap n=n%18446744073709551616:=by rw[wrap_u64,lR];rfl
theorem xh(x y:Int):bT .u64 x y=(x+y)%18446744073709551616:=L0 _
theorem Qy(x y:Int):ed .u64 x y=(x - y)%18446744073709551616:=L0 _
theorem xi(x y:Int):iT .u64 x y=(x*y)%18446744073709551616:=L0 _
theorem En(x:Int):dP .u64 x=x%18446744073709551616:=L0 _
theorem acn{x:Int}(h:0<=x)(h2:x < 18446744073709551616):di .and .u64 x 4294967295=x%4294967296:=by
 obtain⟨n,rfl⟩:∃n:Nat,x=n:=⟨x.toNat,aq⟩;have e:(aX 64 (n:Int) &&& aX 64 4294967295).toNat=n%4294967296:=by
  rw[BitVec.toNat_and];have a:(aX 64 (n:Int)).toNat=n:=by rw[iZ,jQ];omega
  have b:(aX 64 4294967295).toNat=2^32 - 1:=eR;rw[a,b,Nat.and_two_pow_sub_one_eq_mod]
 show IntKind.u64.wrap ((aX 64 (n:Int) &&& aX 64 4294967295).toNat:Int)=_;rw[e,L1 aq aq];omega
theorem aGu{x:Int}(h:0<=x)(h2:x < 18446744073709551616):di .and .u64 x 1=x%2:=by
 obtain⟨n,rfl⟩:∃n:Nat,x=n:=⟨x.toNat,aq⟩;have e:(aX 64 (n:Int) &&& aX 64 1).toNat=n%2:=by
  rw[BitVec.toNat_and];have a:(aX 64 (n:Int)).toNat=n:=by rw[iZ,jQ];omega
  have b:(aX 64 1).toNat=2^1 - 1:=eR;rw[a,b,Nat.and_two_pow_sub_one_eq_mod]
 show IntKind.u64.wrap ((aX 64 (n:Int) &&& aX 64 1).toNat:Int)=_;rw[e,L1 aq aq];omega
theorem uQ{x k:Int}(n:Nat)(hk:k=n)(hn:n<=64):cR .u64 x k=x / 2^n:=by
 subst hk;rw[cR];have e:min (ab (n:Int)) IntKind.u64.bits=n:=by simp only[IntKind.bits];omega
 rw[e,Int.fdiv_eq_ediv_of_nonneg _ (rO (Int.pow_pos aq))]
theorem uP{x k:Int}(n:Nat)(hk:k=n)(hn:n<=64):nM .u64 x k=x*2^n%18446744073709551616:=by
 subst hk;rw[nM,L0];have e:min (ab (n:Int)) IntKind.u64.bits=n:=by simp only[IntKind.bits];omega
 rw[e]
theorem KI{x y:Int}(k:Nat)(m:Int)(hm:m=2^k)(hx:x%m=0)(h0:0<=x)(h1:x < 18446744073709551616)(hy:0<=y)(aDO:y < m)(h2:x+y < 18446744073709551616):di .or .u64 x y=x+y:=by
 subst hm;obtain⟨n,rfl⟩:∃n:Nat,x=n:=⟨x.toNat,aq⟩;obtain⟨j,rfl⟩:∃j:Nat,y=j:=⟨y.toNat,aq⟩;have hx:n%2^k=0:=by
  have:((n%2^k:Nat):Int)=0:=by rw[oO];simpa using hx
  omega
 have hj:j < 2^k:=by
  have:((j:Nat):Int) < ((2^k:Nat):Int):=by simpa using aDO
  omega
 obtain⟨q,rfl⟩:∃q,n=2^k*q:=⟨n / 2^k,by have:=Nat.div_add_mod n (2^k);omega⟩;have e:(aX 64 ((2^k*q:Nat):Int) ||| aX 64 (j:Int)).toNat=2^k*q+j:=by
  rw[BitVec.toNat_or];have a:(aX 64 ((2^k*q:Nat):Int)).toNat=2^k*q:=by rw[iZ,jQ];exact jN aq
  have b:(aX 64 (j:Int)).toNat=j:=by rw[iZ,jQ];exact jN aq
  rw[a,b,Nat.two_pow_add_eq_or_of_lt hj]
 show IntKind.u64.wrap ((aX 64 ((2^k*q:Nat):Int) ||| aX 64 (j:Int)).toNat:Int)=_;rw[e,L1 aq aq];omega
theorem alh{x y:Int}(h:0<=x)(h1:0<=y)(h2:x < 18446744073709551616):AE .u64 x y=x / y:=by rw[AE,jT h];exact L1 (Int.ediv_nonneg h h1) (Int.lt_of_le_of_lt (Int.ediv_le_self _ h) h2)
theorem Ga{x y:Int}(h:0<=x):tC x y=x%y:=by rw[tC,gY h]
theorem k1{e u w r q:Int}(he:e=42260\/e=42264\/e=42272)(hu:0<=u)(ab4:u < 18446744073709551616 - e)(hw:0<=w)(ak7:w < 4294967296)(hr:0<=r)(adT:r < 4294967296)
  (hq:q*4294967295+r=u) (hQ:(u*4294967296+w) / (18446744073709551616 - e)<=q):
  (4294967296<=q->(u*4294967296+w) / (18446744073709551616 - e)<=q - 1)/\
  (q < 4294967296->4294967296*r+w < q*(4294967296 - e)->(u*4294967296+w) / (18446744073709551616 - e)<=q - 1)/\
  (q < 4294967296->q*(4294967296 - e)<=4294967296*r+w->(u*4294967296+w) / (18446744073709551616 - e)=q)/\
  (4294967296<=r+4294967295->(u*4294967296+w) / (18446744073709551616 - e)<=q - 1->(u*4294967296+w) / (18446744073709551616 - e)=q - 1)/\0<=(u*4294967296+w) / (18446744073709551616 - e)/\q<=4294967297:=by
 rcases he with rfl | rfl | rfl
 ·refine⟨?_,?_,?_,?_,?_,?_⟩ <;> omega
 ·refine⟨?_,?_,?_,?_,?_,?_⟩ <;> omega
 ·refine⟨?_,?_,?_,?_,?_,?_⟩ <;> omega
theorem k0{e u w:Int}(he:e=42260\/e=42264\/e=42272)(hu:0<=u)(ab4:u < 18446744073709551616 - e)(hw:0<=w)(ak7:w < 4294967296):
  (u*4294967296+w) / (18446744073709551616 - e)<=u / 4294967295/\0<=u - u / 4294967295*4294967295/\u - u / 4294967295*4294967295 < 4294967296/\
  (u*4294967296+w) - (u*4294967296+w) / (18446744073709551616 - e)*(18446744073709551616 - e)=(u*4294967296+w)%(18446744073709551616 - e)/\
  0<=(u*4294967296+w)%(18446744073709551616 - e)/\(u*4294967296+w)%(18446744073709551616 - e) < 18446744073709551616 - e/\
  0<=(u*4294967296+w) / (18446744073709551616 - e)/\(u*4294967296+w) / (18446744073709551616 - e) < 4294967296:=by
 rcases he with rfl | rfl | rfl
 ·refine⟨?_,?_,?_,?_,?_,?_,?_,?_⟩ <;> omega
 ·refine⟨?_,?_,?_,?_,?_,?_,?_,?_⟩ <;> omega
 ·refine⟨?_,?_,?_,?_,?_,?_,?_,?_⟩ <;> omega
theorem kd(Y u w1 w0:Int)(hY:0 < Y)(h0:0<=w0)(h1:w0 < 4294967296):
  ((u*4294967296+w1)*4294967296+w0) / Y=(u*4294967296+w1) / Y*4294967296+((u*4294967296+w1)%Y*4294967296+w0) / Y/\
  ((u*4294967296+w1)*4294967296+w0)%Y=((u*4294967296+w1)%Y*4294967296+w0)%Y:=by
 generalize u*4294967296+w1=n;have e:n*4294967296+w0=(n%Y*4294967296+w0)+Y*(n / Y*4294967296):=by
  have:=Int.emod_add_mul_ediv n Y;have h:Y*(n / Y*4294967296)=(Y*(n / Y))*4294967296:=by rw[Int.mul_assoc]
  rw[h];omega
 rw[e,Int.add_mul_ediv_left _ _ aq,Int.add_mul_emod_self_left];exact⟨aq,rfl⟩
def aDQ(y:Int):Prop:=y=4611686018427377339\/y=2305843009213688669\/y=2305843009213688668
def aof:Int->Prop:=aDQ
def ayA:Int->Int:=λy=>if y=4611686018427377339 then 62 else 61
def zR:Fs Tryz.prog aof bG ayA:=gf 96 Tryz.f96 (λx=>([.d tu x],[])) (λx=>⟨.d ti x,[],[]⟩) [au tu]
theorem atB(x)(k:K1 R):zR.A x k=aP (zP x 4294967296) (aP (zP (cR .u64 x 32) 65536) (aP (zP (cR .u64 (cR .u64 x 32) 16) 256) (aP (iO (dP .u8 (cR .u64 (cR .u64 (cR .u64 x 32) 16) 8)) 256) (k (zR.out (bT .i64 56 (dP .i64 (afL (⟨#[0,1,2,2,3,3,3,3,4,4,4,4,4,4,4,4,5,5,5,5,5,5,5,5,5,5,5,5,5,5,5,5,6,6,6,6,6,6,6,6,6,6,6,6,6,6,6,6,6,6,6,6,6,6,6,6,6,6,6,6,6,6,6,6,7,7,7,7,7,7,7,7,7,7,7,7,7,7,7,7,7,7,7,7,7,7,7,7,7,7,7,7,7,7,7,7,7,7,7,7,7,7,7,7,7,7,7,7,7,7,7,7,7,7,7,7,7,7,7,7,7,7,7,7,7,7,7,7,8,8,8,8,8,8,8,8,8,8,8,8,8,8,8,8,8,8,8,8,8,8,8,8,8,8,8,8,8,8,8,8,8,8,8,8,8,8,8,8,8,8,8,8,8,8,8,8,8,8,8,8,8,8,8,8,8,8,8,8,8,8,8,8,8,8,8,8,8,8,8,8,8,8,8,8,8,8,8,8,8,8,8,8,8,8,8,8,8,8,8,8,8,8,8,8,8,8,8,8,8,8,8,8,8,8,8,8,8,8,8,8,8,8,8,8,8,8,8,8,8,8,8,8,8,8,8,8]⟩:ByteArray) (dP .u8 (cR .u64 (cR .u64 (cR .u64 x 32) 16) 8))))))) aH) (aP (iO (dP .u8 (cR .u64 (cR .u64 x 32) 16)) 256) (k (zR.out (bT .i64 48 (dP .i64 (afL (⟨#[0,1,2,2,3,3,3,3,4,4,4,4,4,4,4,4,5,5,5,5,5,5,5,5,5,5,5,5,5,5,5,5,6,6,6,6,6,6,6,6,6,6,6,6,6,6,6,6,6,6,6,6,6,6,6,6,6,6,6,6,6,6,6,6,7,7,7,7,7,7,7,7,7,7,7,7,7,7,7,7,7,7,7,7,7,7,7,7,7,7,7,7,7,7,7,7,7,7,7,7,7,7,7,7,7,7,7,7,7,7,7,7,7,7,7,7,7,7,7,7,7,7,7,7,7,7,7,7,8,8,8,8,8,8,8,8,8,8,8,8,8,8,8,8,8,8,8,8,8,8,8,8,8,8,8,8,8,8,8,8,8,8,8,8,8,8,8,8,8,8,8,8,8,8,8,8,8,8,8,8,8,8,8,8,8,8,8,8,8,8,8,8,8,8,8,8,8,8,8,8,8,8,8,8,8,8,8,8,8,8,8,8,8,8,8,8,8,8,8,8,8,8,8,8,8,8,8,8,8,8,8,8,8,8,8,8,8,8,8,8,8,8,8,8,8,8,8,8,8,8,8,8,8,8,8,8]⟩:ByteArray) (dP .u8 (cR .u64 (cR .u64 x 32) 16))))))) aH)) (aP (zP (cR .u64 x 32) 256) (aP (iO (dP .u8 (cR .u64 (cR .u64 x 32) 8)) 256) (k (zR.out (bT .i64 40 (dP .i64 (afL (⟨#[0,1,2,2,3,3,3,3,4,4,4,4,4,4,4,4,5,5,5,5,5,5,5,5,5,5,5,5,5,5,5,5,6,6,6,6,6,6,6,6,6,6,6,6,6,6,6,6,6,6,6,6,6,6,6,6,6,6,6,6,6,6,6,6,7,7,7,7,7,7,7,7,7,7,7,7,7,7,7,7,7,7,7,7,7,7,7,7,7,7,7,7,7,7,7,7,7,7,7,7,7,7,7,7,7,7,7,7,7,7,7,7,7,7,7,7,7,7,7,7,7,7,7,7,7,7,7,7,8,8,8,8,8,8,8,8,8,8,8,8,8,8,8,8,8,8,8,8,8,8,8,8,8,8,8,8,8,8,8,8,8,8,8,8,8,8,8,8,8,8,8,8,8,8,8,8,8,8,8,8,8,8,8,8,8,8,8,8,8,8,8,8,8,8,8,8,8,8,8,8,8,8,8,8,8,8,8,8,8,8,8,8,8,8,8,8,8,8,8,8,8,8,8,8,8,8,8,8,8,8,8,8,8,8,8,8,8,8,8,8,8,8,8,8,8,8,8,8,8,8,8,8,8,8,8,8]⟩:ByteArray) (dP .u8 (cR .u64 (cR .u64 x 32) 8))))))) aH) (aP (iO (dP .u8 (cR .u64 x 32)) 256) (k (zR.out (bT .i64 32 (dP .i64 (afL (⟨#[0,1,2,2,3,3,3,3,4,4,4,4,4,4,4,4,5,5,5,5,5,5,5,5,5,5,5,5,5,5,5,5,6,6,6,6,6,6,6,6,6,6,6,6,6,6,6,6,6,6,6,6,6,6,6,6,6,6,6,6,6,6,6,6,7,7,7,7,7,7,7,7,7,7,7,7,7,7,7,7,7,7,7,7,7,7,7,7,7,7,7,7,7,7,7,7,7,7,7,7,7,7,7,7,7,7,7,7,7,7,7,7,7,7,7,7,7,7,7,7,7,7,7,7,7,7,7,7,8,8,8,8,8,8,8,8,8,8,8,8,8,8,8,8,8,8,8,8,8,8,8,8,8,8,8,8,8,8,8,8,8,8,8,8,8,8,8,8,8,8,8,8,8,8,8,8,8,8,8,8,8,8,8,8,8,8,8,8,8,8,8,8,8,8,8,8,8,8,8,8,8,8,8,8,8,8,8,8,8,8,8,8,8,8,8,8,8,8,8,8,8,8,8,8,8,8,8,8,8,8,8,8,8,8,8,8,8,8,8,8,8,8,8,8,8,8,8,8,8,8,8,8,8,8,8,8]⟩:ByteArray) (dP .u8 (cR .u64 x 32))))))) aH))) (aP (zP x 65536) (aP (zP (cR .u64 x 16) 256) (aP (iO (dP .u8 (cR .u64 (cR .u64 x 16) 8)) 256) (k (zR.out (bT .i64 24 (dP .i64 (afL (⟨#[0,1,2,2,3,3,3,3,4,4,4,4,4,4,4,4,5,5,5,5,5,5,5,5,5,5,5,5,5,5,5,5,6,6,6,6,6,6,6,6,6,6,6,6,6,6,6,6,6,6,6,6,6,6,6,6,6,6,6,6,6,6,6,6,7,7,7,7,7,7,7,7,7,7,7,7,7,7,7,7,7,7,7,7,7,7,7,7,7,7,7,7,7,7,7,7,7,7,7,7,7,7,7,7,7,7,7,7,7,7,7,7,7,7,7,7,7,7,7,7,7,7,7,7,7,7,7,7,8,8,8,8,8,8,8,8,8,8,8,8,8,8,8,8,8,8,8,8,8,8,8,8,8,8,8,8,8,8,8,8,8,8,8,8,8,8,8,8,8,8,8,8,8,8,8,8,8,8,8,8,8,8,8,8,8,8,8,8,8,8,8,8,8,8,8,8,8,8,8,8,8,8,8,8,8,8,8,8,8,8,8,8,8,8,8,8,8,8,8,8,8,8,8,8,8,8,8,8,8,8,8,8,8,8,8,8,8,8,8,8,8,8,8,8,8,8,8,8,8,8,8,8,8,8,8,8]⟩:ByteArray) (dP .u8 (cR .u64 (cR .u64 x 16) 8))))))) aH) (aP (iO (dP .u8 (cR .u64 x 16)) 256) (k (zR.out (bT .i64 16 (dP .i64 (afL (⟨#[0,1,2,2,3,3,3,3,4,4,4,4,4,4,4,4,5,5,5,5,5,5,5,5,5,5,5,5,5,5,5,5,6,6,6,6,6,6,6,6,6,6,6,6,6,6,6,6,6,6,6,6,6,6,6,6,6,6,6,6,6,6,6,6,7,7,7,7,7,7,7,7,7,7,7,7,7,7,7,7,7,7,7,7,7,7,7,7,7,7,7,7,7,7,7,7,7,7,7,7,7,7,7,7,7,7,7,7,7,7,7,7,7,7,7,7,7,7,7,7,7,7,7,7,7,7,7,7,8,8,8,8,8,8,8,8,8,8,8,8,8,8,8,8,8,8,8,8,8,8,8,8,8,8,8,8,8,8,8,8,8,8,8,8,8,8,8,8,8,8,8,8,8,8,8,8,8,8,8,8,8,8,8,8,8,8,8,8,8,8,8,8,8,8,8,8,8,8,8,8,8,8,8,8,8,8,8,8,8,8,8,8,8,8,8,8,8,8,8,8,8,8,8,8,8,8,8,8,8,8,8,8,8,8,8,8,8,8,8,8,8,8,8,8,8,8,8,8,8,8,8,8,8,8,8,8]⟩:ByteArray) (dP .u8 (cR .u64 x 16))))))) aH)) (aP (zP x 256) (aP (iO (dP .u8 (cR .u64 x 8)) 256) (k (zR.out (bT .i64 8 (dP .i64 (afL (⟨#[0,1,2,2,3,3,3,3,4,4,4,4,4,4,4,4,5,5,5,5,5,5,5,5,5,5,5,5,5,5,5,5,6,6,6,6,6,6,6,6,6,6,6,6,6,6,6,6,6,6,6,6,6,6,6,6,6,6,6,6,6,6,6,6,7,7,7,7,7,7,7,7,7,7,7,7,7,7,7,7,7,7,7,7,7,7,7,7,7,7,7,7,7,7,7,7,7,7,7,7,7,7,7,7,7,7,7,7,7,7,7,7,7,7,7,7,7,7,7,7,7,7,7,7,7,7,7,7,8,8,8,8,8,8,8,8,8,8,8,8,8,8,8,8,8,8,8,8,8,8,8,8,8,8,8,8,8,8,8,8,8,8,8,8,8,8,8,8,8,8,8,8,8,8,8,8,8,8,8,8,8,8,8,8,8,8,8,8,8,8,8,8,8,8,8,8,8,8,8,8,8,8,8,8,8,8,8,8,8,8,8,8,8,8,8,8,8,8,8,8,8,8,8,8,8,8,8,8,8,8,8,8,8,8,8,8,8,8,8,8,8,8,8,8,8,8,8,8,8,8,8,8,8,8,8,8]⟩:ByteArray) (dP .u8 (cR .u64 x 8))))))) aH) (aP (iO (dP .u8 x) 256) (k (zR.out (bT .i64 0 (dP .i64 (afL (⟨#[0,1,2,2,3,3,3,3,4,4,4,4,4,4,4,4,5,5,5,5,5,5,5,5,5,5,5,5,5,5,5,5,6,6,6,6,6,6,6,6,6,6,6,6,6,6,6,6,6,6,6,6,6,6,6,6,6,6,6,6,6,6,6,6,7,7,7,7,7,7,7,7,7,7,7,7,7,7,7,7,7,7,7,7,7,7,7,7,7,7,7,7,7,7,7,7,7,7,7,7,7,7,7,7,7,7,7,7,7,7,7,7,7,7,7,7,7,7,7,7,7,7,7,7,7,7,7,7,8,8,8,8,8,8,8,8,8,8,8,8,8,8,8,8,8,8,8,8,8,8,8,8,8,8,8,8,8,8,8,8,8,8,8,8,8,8,8,8,8,8,8,8,8,8,8,8,8,8,8,8,8,8,8,8,8,8,8,8,8,8,8,8,8,8,8,8,8,8,8,8,8,8,8,8,8,8,8,8,8,8,8,8,8,8,8,8,8,8,8,8,8,8,8,8,8,8,8,8,8,8,8,8,8,8,8,8,8,8,8,8,8,8,8,8,8,8,8,8,8,8,8,8,8,8,8,8]⟩:ByteArray) (dP .u8 x)))))) aH))):=cW
theorem atC:zR.Ok:=by intro y h;rw[atB];obtain rfl | rfl | rfl:=h <;> kernel_rfl
theorem aog:zR.RS:=rE [.d tu] zR
def atD:=zR.gr atC
def at0:Int->Prop:=aDQ
def atZ:Int->Int:=λy=>if y=4611686018427377339 then 2 else 3
def ais:Fs Tryz.prog at0 bG atZ:=gf 151 Tryz.f151 (λx=>([.d tu x],[])) (λx=>⟨.d ti x,[],[]⟩) [au tu] [atD]
theorem ayG(x)(k:K1 R):ais.A x k=ax (zR.call x) λx1=>k (ais.out (ed .i64 64 x1)):=cW
theorem ayH:ais.Ok:=by intro y h;rw[ayG,aog (d:=y) h];obtain rfl | rfl | rfl:=h <;> rfl
theorem at1:ais.RS:=rE [.d tu] ais
def ayI:=ais.gr ayH
abbrev HU:=Int×Int×Int×Int×Int×Int×Int×Int×Int
def JS:HU->Int->((Int×Int×Int×Int×Int×Int×Int)×(Int)):=λ(WR,sv,yn1,yn0,un32,un1,un0,q1,rhat) y=>((WR,sv,yn1,yn0,un32,un1,un0),y)
abbrev HV:=Int×Int×Int×Int×Int×Int×Int×Int×Int
def JU:HV->Int->((Int×Int×Int×Int×Int)×(Int)):=λ(WS,lr,Hv,Vh,FO,Wn,CO,un21,q0) y=>((WS,lr,FO,Wn,un21),y)
def JR:HU->Prop:=λ(y,sv,yn1,yn0,u,w,un0,q,r)=>∃e:Int,(e=42260\/e=42264\/e=42272)/\y=18446744073709551616 - e/\yn1=4294967295/\yn0=4294967296 - e/\0<=u/\u < 18446744073709551616 - e/\0<=w/\w < 4294967296/\0<=r/\r < 4294967296/\q*4294967295+r=u/\(u*4294967296+w) / (18446744073709551616 - e)<=q
def Cd:HU->Int:=λ(y,sv,yn1,yn0,u,w,un0,q,r)=>(u*4294967296+w) / y
def JT:HV->Prop:=λ(y,sv,yn1,yn0,w,q1,r,u,q)=>∃e:Int,(e=42260\/e=42264\/e=42272)/\y=18446744073709551616 - e/\yn1=4294967295/\yn0=4294967296 - e/\0<=u/\u < 18446744073709551616 - e/\0<=w/\w < 4294967296/\0<=r/\r < 4294967296/\q*4294967295+r=u/\(u*4294967296+w) / (18446744073709551616 - e)<=q
def Ce:HV->Int:=λ(y,sv,yn1,yn0,w,q1,r,u,q)=>(u*4294967296+w) / y
def Xo:(Int×Int×Int)->Prop:=λ(hi,lo,y)=>(aDQ y\/hi=0/\0 < y/\y < 18446744073709551616)/\0<=hi/\hi < y/\0<=lo/\lo < 18446744073709551616
def Qq:(Int×Int×Int)->(Int×Int):=λ(hi,lo,y)=>((hi*18446744073709551616+lo) / y,(hi*18446744073709551616+lo)%y)
def mO:Ls JR JS Cd:=wh (λ(WR,sv,yn1,yn0,un32,un1,un0,q1,rhat)=>⟨([cj,cj,.d tu WR]++ba 5 ([.d tu sv,.d tu yn1,.d tu yn0,.d tu un32,cj,.d tu un1,.d tu un0,.d tu q1,.d tu rhat]++ba 118 [])),[],(ai 135 [])⟩) (λx=>(.exit 0,⟨([cj,cj,.d tu x.1.1]++ba 5 ([.d tu x.1.2.1,.d tu x.1.2.2.1,.d tu x.1.2.2.2.1,.d tu x.1.2.2.2.2.1,cj,.d tu x.1.2.2.2.2.2.1,.d tu x.1.2.2.2.2.2.2,.d tu x.2]++ba 119 [])),[],(ai 135 [])⟩))
def mP:Ls JT JU Ce:=wh (λ(WS,lr,Hv,Vh,FO,Wn,CO,un21,q0)=>⟨([cj,cj,.d tu WS]++ba 5 ([.d tu lr,.d tu Hv,.d tu Vh,cj,cj,cj,.d tu FO,.d tu Wn,.d tu CO,.d tu un21,.d tu q0]++ba 116 [])),[],(ai 135 [])⟩) (λx=>(.exit 2,⟨([cj,cj,.d tu x.1.1]++ba 5 ([.d tu x.1.2.1]++ba 5 ([.d tu x.1.2.2.1,.d tu x.1.2.2.2.1,cj,.d tu x.1.2.2.2.2,.d tu x.2]++ba 116 []))),[],(ai 135 [])⟩))
def yz:Fs Tryz.prog Xo bG Qq:=gf 131 Tryz.f131 (λ(hi,lo,yv)=>([.d tu hi,.d tu lo,.d tu yv],[])) (λx=>⟨.cons (.d tu x.1) (.cons (.d tu x.2) (.nil)),[],[]⟩) [au tu,au tu,au tu] [ayI] {loops:=th [(17,{bz:=[2,8,9,10,11,13,14,15,16]}),(24,{bz:=[2,8,9,10,14,15,16,17,18]})],outs:=tg [(17,{bz:=[2,8,9,10,11,13,14,15]},{bz:=[6,7]}),(24,{bz:=[2,8,14,15,17,18]},{bz:=[6,7]})],iE:=uA [(17,mO.E),(24,mP.E)]}
theorem ZJ:mO.RS:=rL [.d tu,.d tu,.d tu,.d tu,.d tu,.d tu,.d tu,.d tu,.d tu] mO
theorem Aw(WR sv yn1 yn0 un32 un1 un0 q1 rhat)(kn:K2 R)(kx:K3 R):yz.R 0 mO (WR,sv,yn1,yn0,un32,un1,un0,q1,rhat) kn kx=aP (zP q1 4294967296) (aP (zP (bT .u64 rhat yn1) 4294967296) (mO.go kx ((WR,sv,yn1,yn0,un32,un1,un0),(ed .u64 q1 1))) (kn (mO.st (WR,sv,yn1,yn0,un32,un1,un0,(ed .u64 q1 1),(bT .u64 rhat yn1))))) (aP (wC (iT .u64 q1 yn0) (bT .u64 (iT .u64 4294967296 rhat) un1)) (aP (zP (bT .u64 rhat yn1) 4294967296) (mO.go kx ((WR,sv,yn1,yn0,un32,un1,un0),(ed .u64 q1 1))) (kn (mO.st (WR,sv,yn1,yn0,un32,un1,un0,(ed .u64 q1 1),(bT .u64 rhat yn1))))) (mO.go kx ((WR,sv,yn1,yn0,un32,un1,un0),q1))):=cW
theorem ZK:mP.RS:=rL [.d tu,.d tu,.d tu,.d tu,.d tu,.d tu,.d tu,.d tu,.d tu] mP
theorem Ax(WS lr Hv Vh FO Wn CO un21 q0)(kn:K2 R)(kx:K3 R):yz.R 1 mP (WS,lr,Hv,Vh,FO,Wn,CO,un21,q0) kn kx=aP (zP q0 4294967296) (aP (zP (bT .u64 CO Hv) 4294967296) (mP.go kx ((WS,lr,FO,Wn,un21),(ed .u64 q0 1))) (kn (mP.st (WS,lr,Hv,Vh,FO,Wn,(bT .u64 CO Hv),un21,(ed .u64 q0 1))))) (aP (wC (iT .u64 q0 Vh) (bT .u64 (iT .u64 4294967296 CO) FO)) (aP (zP (bT .u64 CO Hv) 4294967296) (mP.go kx ((WS,lr,FO,Wn,un21),(ed .u64 q0 1))) (kn (mP.st (WS,lr,Hv,Vh,FO,Wn,(bT .u64 CO Hv),un21,(ed .u64 q0 1))))) (mP.go kx ((WS,lr,FO,Wn,un21),q0))):=cW
theorem asA(hi lo yv)(k:K1 R):yz.A (hi,lo,yv) k=aP (Qw yv 0) (aH) (aP (aad yv hi) (aH) (aP (Qw hi 0) (aP (qj yv) (aP (qj yv) (k (yz.out ((AE .u64 lo yv),(tC lo yv)))) aH) aH) (ax (ais.call yv) λx1=>aP (qN (dP .u64 x1)) (aP (qN (dP .u64 x1)) (aP (qN (ed .u64 64 (dP .u64 x1))) (aP (qN (dP .u64 x1)) (aP (qj (cR .u64 (nM .u64 yv (dP .u64 x1)) 32)) (ax (mO.call ((nM .u64 yv (dP .u64 x1)),(dP .u64 x1),(cR .u64 (nM .u64 yv (dP .u64 x1)) 32),(di .and .u64 (nM .u64 yv (dP .u64 x1)) 4294967295),(di .or .u64 (nM .u64 hi (dP .u64 x1)) (cR .u64 lo (ed .u64 64 (dP .u64 x1)))),(cR .u64 (nM .u64 lo (dP .u64 x1)) 32),(di .and .u64 (nM .u64 lo (dP .u64 x1)) 4294967295),(AE .u64 (di .or .u64 (nM .u64 hi (dP .u64 x1)) (cR .u64 lo (ed .u64 64 (dP .u64 x1)))) (cR .u64 (nM .u64 yv (dP .u64 x1)) 32)),(ed .u64 (di .or .u64 (nM .u64 hi (dP .u64 x1)) (cR .u64 lo (ed .u64 64 (dP .u64 x1)))) (iT .u64 (AE .u64 (di .or .u64 (nM .u64 hi (dP .u64 x1)) (cR .u64 lo (ed .u64 64 (dP .u64 x1)))) (cR .u64 (nM .u64 yv (dP .u64 x1)) 32)) (cR .u64 (nM .u64 yv (dP .u64 x1)) 32))))) λx2=>aP (qj x2.1.2.2.1) (ax (mP.call (x2.1.1,x2.1.2.1,x2.1.2.2.1,x2.1.2.2.2.1,x2.1.2.2.2.2.2.2,x2.2,(ed .u64 (ed .u64 (bT .u64 (iT .u64 x2.1.2.2.2.2.1 4294967296) x2.1.2.2.2.2.2.1) (iT .u64 x2.2 x2.1.1)) (iT .u64 (AE .u64 (ed .u64 (bT .u64 (iT .u64 x2.1.2.2.2.2.1 4294967296) x2.1.2.2.2.2.2.1) (iT .u64 x2.2 x2.1.1)) x2.1.2.2.1) x2.1.2.2.1)),(ed .u64 (bT .u64 (iT .u64 x2.1.2.2.2.2.1 4294967296) x2.1.2.2.2.2.2.1) (iT .u64 x2.2 x2.1.1)),(AE .u64 (ed .u64 (bT .u64 (iT .u64 x2.1.2.2.2.2.1 4294967296) x2.1.2.2.2.2.2.1) (iT .u64 x2.2 x2.1.1)) x2.1.2.2.1))) λx3=>aP (qN x3.1.2.1) (k (yz.out ((bT .u64 (iT .u64 x3.1.2.2.2.1 4294967296) x3.2),(cR .u64 (ed .u64 (bT .u64 (iT .u64 x3.1.2.2.2.2 4294967296) x3.1.2.2.1) (iT .u64 x3.2 x3.1.1)) x3.1.2.1)))) aH) aH) aH) aH) aH) aH) aH))):=cW
theorem adp:(yz.mN 0 mO):=by
 refine(yz.px 0 mO) (λ(y,sv,yn1,yn0,u,w,un0,q,r)=>q.toNat) ?_
 rintro⟨y,sv,yn1,yn0,u,w,un0,q,r⟩ ⟨e,he,rfl,rfl,rfl,hu,ab4,hw,ak7,hr,adT,hq,hQ⟩;have hu:0<=u:=hu;have ab4:u < 18446744073709551616 - e:=ab4;have hw:0<=w:=hw;have ak7:w < 4294967296:=ak7;have hr:0<=r:=hr;have adT:r < 4294967296:=adT;have hq:q*4294967295+r=u:=hq;obtain⟨k1,k2,k3,k4,k5,k6⟩:=k1 he hu ab4 hw ak7 hr adT hq hQ;have q0:0<=q:=Int.le_trans k5 hQ;have a1:bT .u64 r 4294967295=r+4294967295:=by rw[xh];omega
 have a2:bT .u64 (iT .u64 4294967296 r) w=4294967296*r+w:=by rw[xi,xh];omega
 have a3:q < 4294967296->iT .u64 q (4294967296 - e)=q*(4294967296 - e):=by intro h;rw[xi];rcases he with rfl | rfl | rfl <;> omega
 have a4:0 < q->ed .u64 q 1=q - 1:=by intro h;rw[Qy];omega
 have pos:4294967296<=q\/(q < 4294967296/\4294967296*r+w < q*(4294967296 - e))->0 < q/\(u*4294967296+w) / (18446744073709551616 - e)<=q - 1:=by
  rintro(h | ⟨h,h2⟩)
  ·exact⟨aq,k1 h⟩
  ·exact⟨by have:=k2 h h2;omega,k2 h h2⟩
 by_cases hc:4294967296<=q\/(q < 4294967296/\4294967296*r+w < q*(4294967296 - e))
 ·obtain⟨p1,p2⟩:=pos hc;by_cases hb:4294967296<=r+4294967295
  ·right;have hF:Cd (18446744073709551616 - e,sv,4294967295,4294967296 - e,u,w,un0,q,r)=q - 1:=k4 hb p2;intro R kn kx;rw[Aw,a1,a2,a4 p1,ik hb,hF];rcases hc with h | ⟨h,h2⟩
   ·rw[ik h];rfl
   ·rw[eN aq,a3 h,dy h2];rfl
  ·left;refine⟨(18446744073709551616 - e,sv,4294967295,4294967296 - e,u,w,un0,q - 1,r+4294967295),⟨e,he,rfl,rfl,rfl,hu,ab4,hw,ak7,aq,aq,aq,p2⟩,by simp only[];omega,rfl,λkn kx=> ?_⟩;rw[Aw,a1,a2,a4 p1,eN hb];rcases hc with h | ⟨h,h2⟩
   ·rw[ik h];rfl
   ·rw[eN aq,a3 h,dy h2];rfl
 ·right;have h:q < 4294967296:=aq;have h2:¬4294967296*r+w < q*(4294967296 - e):=λx=>hc (fj ⟨h,x⟩)
  have hF:Cd (18446744073709551616 - e,sv,4294967295,4294967296 - e,u,w,un0,q,r)=q:=k3 h aq;intro R kn kx;rw[Aw,a2,a3 h,eN aq,cY h2,hF];rfl
theorem adq:(yz.mN 1 mP):=by
 refine(yz.px 1 mP) (λ(y,sv,yn1,yn0,w,q1,r,u,q)=>q.toNat) ?_
 rintro⟨y,sv,yn1,yn0,w,q1,r,u,q⟩ ⟨e,he,rfl,rfl,rfl,hu,ab4,hw,ak7,hr,adT,hq,hQ⟩;have hu:0<=u:=hu;have ab4:u < 18446744073709551616 - e:=ab4;have hw:0<=w:=hw;have ak7:w < 4294967296:=ak7;have hr:0<=r:=hr;have adT:r < 4294967296:=adT;have hq:q*4294967295+r=u:=hq;obtain⟨k1,k2,k3,k4,k5,k6⟩:=k1 he hu ab4 hw ak7 hr adT hq hQ;have q0:0<=q:=Int.le_trans k5 hQ;have a1:bT .u64 r 4294967295=r+4294967295:=by rw[xh];omega
 have a2:bT .u64 (iT .u64 4294967296 r) w=4294967296*r+w:=by rw[xi,xh];omega
 have a3:q < 4294967296->iT .u64 q (4294967296 - e)=q*(4294967296 - e):=by intro h;rw[xi];rcases he with rfl | rfl | rfl <;> omega
 have a4:0 < q->ed .u64 q 1=q - 1:=by intro h;rw[Qy];omega
 have pos:4294967296<=q\/(q < 4294967296/\4294967296*r+w < q*(4294967296 - e))->0 < q/\(u*4294967296+w) / (18446744073709551616 - e)<=q - 1:=by
  rintro(h | ⟨h,h2⟩)
  ·exact⟨aq,k1 h⟩
  ·exact⟨by have:=k2 h h2;omega,k2 h h2⟩
 by_cases hc:4294967296<=q\/(q < 4294967296/\4294967296*r+w < q*(4294967296 - e))
 ·obtain⟨p1,p2⟩:=pos hc;by_cases hb:4294967296<=r+4294967295
  ·right;have hF:Ce (18446744073709551616 - e,sv,4294967295,4294967296 - e,w,q1,r,u,q)=q - 1:=k4 hb p2;intro R kn kx;rw[Ax,a1,a2,a4 p1,ik hb,hF];rcases hc with h | ⟨h,h2⟩
   ·rw[ik h];rfl
   ·rw[eN aq,a3 h,dy h2];rfl
  ·left;refine⟨(18446744073709551616 - e,sv,4294967295,4294967296 - e,w,q1,r+4294967295,u,q - 1),⟨e,he,rfl,rfl,rfl,hu,ab4,hw,ak7,aq,aq,aq,p2⟩,by simp only[];omega,rfl,λkn kx=> ?_⟩;rw[Ax,a1,a2,a4 p1,eN hb];rcases hc with h | ⟨h,h2⟩
   ·rw[ik h];rfl
   ·rw[eN aq,a3 h,dy h2];rfl
 ·right;have h:q < 4294967296:=aq;have h2:¬4294967296*r+w < q*(4294967296 - e):=λx=>hc (fj ⟨h,x⟩)
  have hF:Ce (18446744073709551616 - e,sv,4294967295,4294967296 - e,w,q1,r,u,q)=q:=k3 h aq;intro R kn kx;rw[Ax,a2,a3 h,eN aq,cY h2,hF];rfl
theorem aBx{y hi lo:Int}(hy:aDQ y)(h0:0<=hi)(h1:hi < y)(h2:0<=lo)(h3:lo < 18446744073709551616):∃(s:Nat) (e m:Int),atZ y=s/\(s=2\/s=3)/\m=2^s/\(e=42260\/e=42264\/e=42272)/\y*m=18446744073709551616 - e/\
  nM .u64 y (s:Int)=18446744073709551616 - e/\
  di .or .u64 (nM .u64 hi (s:Int)) (cR .u64 lo (ed .u64 64 (s:Int)))=(hi*18446744073709551616+lo)*m / 18446744073709551616/\
  nM .u64 lo (s:Int)=(hi*18446744073709551616+lo)*m%18446744073709551616/\
  (hi*18446744073709551616+lo)*m / 18446744073709551616 < 18446744073709551616 - e/\
  (hi*18446744073709551616+lo)*m / (18446744073709551616 - e)=(hi*18446744073709551616+lo) / y/\
  (hi*18446744073709551616+lo)*m%(18446744073709551616 - e) / m=(hi*18446744073709551616+lo)%y:=by
 have e1:ed .u64 64 ((2:Nat):Int)=((62:Nat):Int):=rfl;have e2:ed .u64 64 ((3:Nat):Int)=((61:Nat):Int):=rfl;have p2:(2:Int)^2=4:=rfl;have p3:(2:Int)^3=8:=rfl;have p61:(2:Int)^61=2305843009213693952:=rfl;have p62:(2:Int)^62=4611686018427387904:=rfl;obtain rfl | rfl | rfl:=hy
 ·refine⟨2,42260,4,rfl,kQ rfl,rfl,kQ rfl,rfl,by rw[uP 2 (by rfl) aq,p2];omega,?_,?_,aq,aq,aq⟩
  ·rw[e1,uP 2 (by rfl) aq,uQ 62 (by rfl) aq,p2,p62,KI 2 4 rfl aq aq aq aq aq aq];omega
  ·rw[uP 2 (by rfl) aq,p2];omega
 ·refine⟨3,42264,8,rfl,fj rfl,rfl,fj (kQ rfl),rfl,by rw[uP 3 (by rfl) aq,p3];omega,?_,?_,aq,aq,aq⟩
  ·rw[e2,uP 3 (by rfl) aq,uQ 61 (by rfl) aq,p3,p61,KI 3 8 rfl aq aq aq aq aq aq];omega
  ·rw[uP 3 (by rfl) aq,p3];omega
 ·refine⟨3,42272,8,rfl,fj rfl,rfl,fj (fj rfl),rfl,by rw[uP 3 (by rfl) aq,p3];omega,?_,?_,aq,aq,aq⟩
  ·rw[e2,uP 3 (by rfl) aq,uQ 61 (by rfl) aq,p3,p61,KI 3 8 rfl aq aq aq aq aq aq];omega
  ·rw[uP 3 (by rfl) aq,p3];omega
theorem aHz(a b c:Int):(((a%18446744073709551616+b)%18446744073709551616) - c%18446744073709551616)%18446744073709551616=(a+b - c)%18446744073709551616:=aq
theorem asB:yz.Ok:=by
 rintro⟨hi,lo,y⟩ ⟨hy,h0,h1,h2,h3⟩;have h0:0<=hi:=h0;have h1:hi < y:=h1;have h2:0<=lo:=h2;have h3:lo < 18446744073709551616:=h3;have yb:0 < y/\y < 18446744073709551616:=by
  rcases hy with hy | hy
  ·obtain rfl | rfl | rfl:=hy <;> omega
  ·exact hy.2
 rw[asA,gQ aq,jO aq];simp only[ao];have z:qj y=aO:=by simp[qj];omega
 by_cases hz:hi=0
 ·subst hz;rw[jV rfl,z,alh h2 aq h3,Ga h2];simp only[aj,Qq,bG,Int.zero_mul,Int.zero_add]
 ·have hy:aDQ y:=hy.resolve_right λe=>hz e.1
  obtain⟨s,e,m,hs,R3,hm,he,aKm,a1,a2,a3,a4,a5,a6⟩:=aBx hy h0 h1 h2 h3;have c1:dP .u64 (s:Int)=(s:Int):=by rw[En];omega
  have c2:qN (s:Int)=aO:=vC aq;have c3:qN (ed .u64 64 (s:Int))=aO:=by rcases R3 with rfl | rfl <;> rfl
  rw[gQ hz,at1 (d:=y) hy];simp only[ao,ag,bG,hs,c1,c2,c3,aj,a1,a2,a3];have hN:0<=(hi*18446744073709551616+lo)*m:=nQ aq (by rcases R3 with rfl | rfl <;> omega)
  revert a4 a5 a6
  generalize (hi*18446744073709551616+lo)*m=N at hN;intro a4 a5 a6;have u0:0<=N / 18446744073709551616:=aq;have t0:0<=N%18446744073709551616:=aq;have t1:N%18446744073709551616 < 18446744073709551616:=aq;have hd:N=(N / 18446744073709551616*4294967296+N%18446744073709551616 / 4294967296)*4294967296+N%18446744073709551616%4294967296:=aq;have w10:0<=N%18446744073709551616 / 4294967296:=aq;have w11:N%18446744073709551616 / 4294967296 < 4294967296:=aq;have w00:0<=N%18446744073709551616%4294967296:=aq;have w01:N%18446744073709551616%4294967296 < 4294967296:=aq;have p32:(2:Int)^32=4294967296:=rfl;have b1:cR .u64 (18446744073709551616 - e) 32=4294967295:=by rw[uQ 32 (by rfl) aq,p32];rcases he with rfl | rfl | rfl <;> rfl
  have b2:di .and .u64 (18446744073709551616 - e) 4294967295=4294967296 - e:=by rw[acn aq aq];omega
  have b3:cR .u64 (N%18446744073709551616) 32=N%18446744073709551616 / 4294967296:=by rw[uQ 32 (by rfl) aq,p32]
  have b4:di .and .u64 (N%18446744073709551616) 4294967295=N%18446744073709551616%4294967296:=acn t0 t1;have z2:qj 4294967295=aO:=rfl;simp only[b1,b2,b3,b4,z2,aj];clear a1 a2 a3 b1 b2 b3 b4;have kdd:=kd (18446744073709551616 - e) (N / 18446744073709551616) (N%18446744073709551616 / 4294967296) (N%18446744073709551616%4294967296) aq w00 w01;rw[<-hd,a5]at kdd
  revert a4 kdd
  generalize N / 18446744073709551616=u at u0;generalize N%18446744073709551616 / 4294967296=w1 at w10 w11;generalize N%18446744073709551616%4294967296=w0 at w00 w01;intro a4 kdd
  have g:∀u w:Int,0<=u->u < 18446744073709551616 - e->0<=w->w < 4294967296->
    AE .u64 u 4294967295=u / 4294967295/\ed .u64 u (iT .u64 (u / 4294967295) 4294967295)=u - u / 4294967295*4294967295/\
    ed .u64 (bT .u64 (iT .u64 u 4294967296) w) (iT .u64 ((u*4294967296+w) / (18446744073709551616 - e)) (18446744073709551616 - e))=(u*4294967296+w)%(18446744073709551616 - e):=by
   intro u w k1 k2 k3 k4;obtain⟨q1,q2,q3,q4,q5,q6,q7,q8⟩:=k0 he k1 k2 k3 k4;refine⟨alh k1 aq aq,by rw[Qy,xi];omega,?_⟩;rw[Qy,xh,xi,xi,aHz,q4];exact ff q5 aq
  obtain⟨f1,f2,f3⟩:=g u w1 u0 a4 w10 w11;obtain⟨q1,q2,q3,q4,q5,q6,q7,q8⟩:=k0 he u0 a4 w10 w11;have p1:JR (18446744073709551616 - e,(s:Int),4294967295,4294967296 - e,u,w1,w0,u / 4294967295,u - u / 4294967295*4294967295):=⟨e,he,rfl,rfl,rfl,u0,a4,w10,w11,q2,q3,aq,q1⟩;rw[f1,f2,ZJ p1];simp only[ag,JS,Cd,z2,aj,f3]
  revert f3 q1 kdd
  generalize (u*4294967296+w1)%(18446744073709551616 - e)=v at q4 q5 q6;generalize (u*4294967296+w1) / (18446744073709551616 - e)=Q at q4 q7 q8;intro kdd f3 q1;obtain⟨g1,g2,g3⟩:=g v w0 q5 q6 w00 w01;obtain⟨r1,r2,r3,r4,r5,r6,r7,r8⟩:=k0 he q5 q6 w00 w01;have p2:JT (18446744073709551616 - e,(s:Int),4294967295,4294967296 - e,w0,Q,v - v / 4294967295*4294967295,v,v / 4294967295):=⟨e,he,rfl,rfl,rfl,q5,q6,w00,w01,r2,r3,aq,r1⟩;rw[g1,g2,ZK p2];simp only[ag,JU,Ce,c2,aj,g3];rw[<-kdd.2,uQ s (by rfl) aq,<-hm,a6,xi,xh];have e9:(Q*4294967296%18446744073709551616+(v*4294967296+w0) / (18446744073709551616 - e))%18446744073709551616=(hi*18446744073709551616+lo) / y:=by rw[kdd.1];omega
  rw[e9];rfl
theorem Xp:yz.RS:=rE [.d tu,.d tu,.d tu] yz
def adr:=yz.gr asB 2 ⟨.iB adp,⟨.iB adq,trivial⟩⟩
def Nt:(Int×Int×Int)->Prop:=λ(hi,lo,y)=>aDQ y/\0<=hi/\hi < 18446744073709551616/\0<=lo/\lo < 18446744073709551616
def Lh:(Int×Int×Int)->Int:=λ(hi,lo,y)=>(hi*18446744073709551616+lo)%y
def Lg:Fs Tryz.prog Nt bG Lh:=gf 149 Tryz.f149 (λ(hi,lo,yv)=>([.d tu hi,.d tu lo,.d tu yv],[])) (λx=>⟨.d tu x,[],[]⟩) [au tu,au tu,au tu] [adr]
theorem avu(hi lo yv)(k:K1 R):Lg.A (hi,lo,yv) k=aP (qj yv) (ax (yz.call ((tC hi yv),lo,yv)) λx1=>k (Lg.out x1.2)) aH:=cW
theorem avv:Lg.Ok:=by
 rintro⟨hi,lo,y⟩ ⟨hy,h0,h1,h2,h3⟩;have h0:0<=hi:=h0;have yb:0 < y:=by obtain rfl | rfl | rfl:=hy <;> omega
 have z:qj y=aO:=by simp[qj];omega
 have p:Xo (hi%y,lo,y):=⟨.inl hy,j7 _ aq,jS _ yb,h2,h3⟩;rw[avu,z,Ga h0,Xp p];have e:(hi%y*18446744073709551616+lo)%y=(hi*18446744073709551616+lo)%y:=by rw[Int.add_emod,rQ,nP _ (Int.dvd_refl y),<-rQ,<-Int.add_emod]
 simp only[aj,ag,bG,Qq,bG,Lh,e]
theorem Nu:Lg.RS:=rE [.d tu,.d tu,.d tu] Lg
def T7:=Lg.gr avv
def aoA:(Int×Int)->Prop:=λ(x,y)=>(0<=x/\x < 18446744073709551616)/\0<=y/\y < 18446744073709551616
def Gf:(Int×Int)->(Int×Int):=λ(x,y)=>(x*y / 18446744073709551616,x*y%18446744073709551616)
def Dd:Fs Tryz.prog aoA bG Gf:=gf 82 Tryz.f82 (λ(x,yv)=>([.d tu x,.d tu yv],[])) (λx=>⟨.cons (.d tu x.1) (.cons (.d tu x.2) (.nil)),[],[]⟩) [au tu,au tu]
theorem at5(x yv)(k:K1 R):Dd.A (x,yv) k=k (Dd.out ((bT .u64 (bT .u64 (iT .u64 (cR .u64 x 32) (cR .u64 yv 32)) (cR .u64 (bT .u64 (iT .u64 (cR .u64 x 32) (di .and .u64 yv 4294967295)) (cR .u64 (iT .u64 (di .and .u64 x 4294967295) (di .and .u64 yv 4294967295)) 32)) 32)) (cR .u64 (bT .u64 (di .and .u64 (bT .u64 (iT .u64 (cR .u64 x 32) (di .and .u64 yv 4294967295)) (cR .u64 (iT .u64 (di .and .u64 x 4294967295) (di .and .u64 yv 4294967295)) 32)) 4294967295) (iT .u64 (di .and .u64 x 4294967295) (cR .u64 yv 32))) 32)),(iT .u64 x yv))):=cW
theorem Na{a b m n:Int}(h0:0<=a)(h1:a<=m)(h2:0<=b)(h3:b<=n):0<=a*b/\a*b<=m*n:=⟨nQ h0 h2,Int.mul_le_mul h1 h3 h2 (Int.le_trans h0 h1)⟩
theorem at6:Dd.Ok:=by
 rintro⟨x,y⟩ ⟨⟨h0,h1⟩,h2,h3⟩;have h0:0<=x:=h0;have h1:x < 18446744073709551616:=h1;have h2:0<=y:=h2;have h3:y < 18446744073709551616:=h3;rw[at5];have p32:(2:Int)^32=4294967296:=rfl;have aJU:∀x:Int,cR .u64 x 32=x / 4294967296:=λx=>by rw[uQ 32 (by rfl) aq,p32]
 simp only[aJU,acn h0 h1,acn h2 h3];obtain⟨a,b,rfl,a0,a1,b0,b1⟩:∃a b:Int,x=a*4294967296+b/\0<=a/\a<=4294967295/\0<=b/\b<=4294967295:=⟨x / 4294967296,x%4294967296,aq,aq,aq,aq,aq⟩;obtain⟨c,d,rfl,c0,c1,d0,d1⟩:∃a b:Int,y=a*4294967296+b/\0<=a/\a<=4294967295/\0<=b/\b<=4294967295:=⟨y / 4294967296,y%4294967296,aq,aq,aq,aq,aq⟩;have e1:(a*4294967296+b) / 4294967296=a:=aq;have e2:(a*4294967296+b)%4294967296=b:=aq;have e3:(c*4294967296+d) / 4294967296=c:=aq;have e4:(c*4294967296+d)%4294967296=d:=aq;have e5:(a*4294967296+b)*(c*4294967296+d)=a*c*18446744073709551616+(a*d+b*c)*4294967296+b*d:=by
  have q:(4294967296:Int)*4294967296=18446744073709551616:=rfl;rw[Int.add_mul,Int.mul_add,Int.mul_add];have q1:a*4294967296*(c*4294967296)=a*c*18446744073709551616:=by rw[<-q];ac_rfl
  have q2:a*4294967296*d=a*d*4294967296:=by ac_rfl
  have q3:b*(c*4294967296)=b*c*4294967296:=by ac_rfl
  rw[q1,q2,q3];omega
 obtain⟨m1,m2⟩:=Na a0 a1 c0 c1;obtain⟨m3,m4⟩:=Na a0 a1 d0 d1;obtain⟨m5,m6⟩:=Na b0 b1 c0 c1;obtain⟨m7,m8⟩:=Na b0 b1 d0 d1;have n:(4294967295:Int)*4294967295=18446744065119617025:=rfl;rw[n]at m2 m4 m6 m8;simp only[e1,e2,e3,e4,bG,Gf,e5,xi,xh]
 revert m1 m2 m3 m4 m5 m6 m7 m8
 generalize a*c=ac;generalize a*d=ad;generalize b*c=bc;generalize b*d=bd;intro m1 m2 m3 m4 m5 m6 m7 m8;have q1:bd%18446744073709551616=bd:=aq;have q2:ad%18446744073709551616=ad:=aq;have q3:bc%18446744073709551616=bc:=aq;have q4:ac%18446744073709551616=ac:=aq;rw[q1,q2,q3,q4];have q5:(ad+bd / 4294967296)%18446744073709551616=ad+bd / 4294967296:=aq;have q6:di .and .u64 (ad+bd / 4294967296) 4294967295=(ad+bd / 4294967296)%4294967296:=acn aq aq;rw[q5,q6];refine bK au (bK Dd.out (Prod.ext ?_ ?_))
 ·show _=(_:Int);simp only[];omega
 ·rfl
theorem BD:Dd.RS:=rE [.d tu,.d tu] Dd
def Kv:=Dd.gr at6
def Pn(x:Int):Prop:=0<=x/\x < 4611686018427377339
def mm(x:Int):Prop:=0<=x/\x < 18446744073709551616
theorem Pn.u{x:Int}(h:Pn x):mm x:=⟨h.1,by have:=h.2;omega⟩
def sZ(a b:Int):Int:=a*b%4611686018427377339
theorem zV(a b:Int):Pn (sZ a b):=⟨j7 _ aq,jS _ aq⟩
def alX:Nat->Int->Nat->Int->Int
 | 0,_,_,out=>out
 |f+1,a,n,out=>if n=0 then out else alX f (sZ a a) (n / 2) (if n%2=1 then sZ out a else out)
def pw(a:Int)(n:Nat):Int:=alX 64 a n 1
theorem BK(f:Nat)(a out:Int):alX f a 0 out=out:=by cases f <;> rfl
theorem afo:∀(f g:Nat) (a:Int) (n:Nat) (out:Int),n < 2^f->n < 2^g->alX f a n out=alX g a n out
 | 0,g,a,n,out,h,_=>by obtain rfl:n=0:=aq;rw[BK,BK]
 |f+1,0,a,n,out,_,h=>by obtain rfl:n=0:=aq;rw[BK,BK]
 |f+1,g+1,a,n,out,h,h'=>by
  have e:(2:Nat)^(f+1)=2^f*2:=Nat.pow_succ 2 f;have e':(2:Nat)^(g+1)=2^g*2:=Nat.pow_succ 2 g;unfold alX;split
  ·rfl
  ·exact afo f g _ _ _ aq aq
theorem avq:∀(f:Nat) (a:Int) (n:Nat) (out:Int),Pn out->Pn (alX f a n out)
 | 0,_,_,_,h=>h
 |f+1,a,n,out,h=>by
  unfold alX;split
  ·exact h
  ·refine avq f _ _ _ ?_
   split
   ·exact zV _ _
   ·exact h
theorem afp(a:Int)(n:Nat):Pn (pw a n):=avq _ _ _ _ ⟨aq,aq⟩
def aje:(Int×Int)->Prop:=λ(a,b)=>mm a/\mm b
def avn:(Int×Int)->Int:=λ(a,b)=>sZ a b
def AT:Fs Tryz.prog aje bG avn:=gf 125 Tryz.f125 (λ(a,b)=>([.d tu a,.d tu b],[])) (λx=>⟨.d tu x,[],[]⟩) [au tu,au tu] [Kv,T7]
theorem apz(a b)(k:K1 R):AT.A (a,b) k=ax (Dd.call (a,b)) λx1=>ax (Lg.call (x1.1,x1.2,4611686018427377339)) λx2=>k (AT.out x2):=cW
theorem Va(n:Int):n / 18446744073709551616*18446744073709551616+n%18446744073709551616=n:=aq
theorem apA:AT.Ok:=by rintro⟨a,b⟩ ⟨ha,hb⟩;have ha:mm a:=ha;have hb:mm b:=hb;obtain⟨m1,m2⟩:=Na ha.1 (show a<=18446744073709551615 by have:=ha.2;omega) hb.1 (show b<=18446744073709551615 by have:=hb.2;omega);have n:(18446744073709551615:Int)*18446744073709551615=340282366920938463426481119284349108225:=rfl;rw[n]at m2;have p:Nt (a*b / 18446744073709551616,a*b%18446744073709551616,4611686018427377339):=⟨kQ rfl,aq,aq,aq,aq⟩;rw[apz,BD (d:=(a,b)) ⟨ha,hb⟩];simp only[ag,bG,Gf];rw[Nu p];simp only[ag,bG,Lh,Va];rfl
theorem IJ:AT.RS:=rE [.d tu,.d tu] AT
def Yo:=AT.gr apA
def Wk:(Int×Int×Int)->Prop:=λ(a,n,o)=>mm a/\mm n/\Pn o
def Ac:(Int×Int×Int)->Int:=λ(a,n,o)=>alX 64 a n.toNat o
def ai7:(Int×Int)->Prop:=λ(a,n)=>mm a/\mm n
def afh:(Int×Int)->Int:=λ(a,n)=>pw a n.toNat
def nq:Ls Wk bG Ac:=wh (λ(aAj,G4,outv)=>⟨([.d tu aAj,.d tu G4,cj,cj,cj,.d tu outv]++ba 14 []),[],(ai 20 [])⟩) (λx=>(.exit 0,⟨(ba 5 ([.d tu x]++ba 14 [])),[],(ai 20 [])⟩))
def wo:Fs Tryz.prog ai7 bG afh:=gf 84 Tryz.f84 (λ(a,n)=>([.d tu a,.d tu n],[])) (λx=>⟨.d tu x,[],[]⟩) [au tu,au tu] [Yo] {loops:=th [(2,{bz:=[0,1,5]})],outs:=tg [(2,{bz:=[5]},{bz:=[4]})],iE:=uA [(2,nq.E)]}
theorem Wl:nq.RS:=rL [.d tu,.d tu,.d tu] nq
theorem E8(aAj G4 outv)(kn:K2 R)(kx:K3 R):wo.R 0 nq (aAj,G4,outv) kn kx=aP (wC G4 0) (aP (Qw (di .and .u64 G4 1) 1) (ax (AT.call (outv,aAj)) λx1=>ax (AT.call (aAj,aAj)) λx2=>kn (nq.st (x2,(cR .u64 G4 1),x1))) (ax (AT.call (aAj,aAj)) λx3=>kn (nq.st (x3,(cR .u64 G4 1),outv)))) (nq.go kx outv):=cW
theorem apo(a n)(k:K1 R):wo.A (a,n) k=ax (nq.call (a,n,1)) λx4=>k (wo.out x4):=cW
theorem aHQ{n:Int}(h:mm n):cR .u64 n 1=n / 2:=uQ 1 (by rfl) aq
theorem abh:(wo.mN 0 nq):=by
 refine(wo.px 0 nq) (λ(a,n,o)=>n.toNat) ?_
 rintro⟨a,n,o⟩ ⟨ha,hn,ho⟩;have ha:mm a:=ha;have hn:mm n:=hn;have ho:Pn o:=ho;have n0:=hn.1;have n1:=hn.2;by_cases h:0 < n
 ·left;have e:Ac (a,n,o)=Ac (sZ a a,n / 2,if n%2=1 then sZ o a else o):=by
   show alX 64 a n.toNat o=alX 64 (sZ a a) (n / 2).toNat _;rw[afo 64 65 a n.toNat o aq aq];have t1:(n / 2).toNat=n.toNat / 2:=aq;have t2:(n%2=1)=(n.toNat%2=1):=by apply propext;omega
   rw[t1];simp only[t2];show(if n.toNat=0 then o else _)=_;rw[if_neg aq]
  refine⟨(sZ a a,n / 2,if n%2=1 then sZ o a else o),⟨(zV a a).u,⟨aq,aq⟩,?_⟩,by show(n / 2).toNat < n.toNat;omega,?_,λkn kx=> ?_⟩
  ·show Pn (if n%2=1 then sZ o a else o);split
   ·exact zV _ _
   ·exact ho
  ·exact bK _ e.symm
  ·rw[E8,dy h,aHQ hn,aGu n0 n1,IJ (d:=(o,a)) ⟨ho.u,ha⟩,IJ (d:=(a,a)) ⟨ha,ha⟩];by_cases h1:n%2=1
   ·rw[jV h1,if_pos h1];rfl
   ·rw[gQ h1,if_neg h1];rfl
 ·right;intro R kn kx;obtain rfl:n=0:=aq;rw[E8,cY aq];simp only[ao,bG,Ac];rw[show alX 64 a (ab 0) o=o from BK _ _ _]
theorem apq:wo.Ok:=by rintro⟨a,n⟩ ⟨ha,hn⟩;rw[apo,Wl (d:=(a,n,1)) ⟨ha,hn,aq,aq⟩];rfl
theorem IH:wo.RS:=rE [.d tu,.d tu] wo
def Nn:=wo.gr apq 1 ⟨.iB abh,trivial⟩
def yI(p:Int):Bool:=decide (0 < p/\p < 4611686018427377339) && decide (pw p 2305843009213688669=1)
def tk(p:Int):Int:=if yI p then p else 1
theorem awi(p:Int):Pn (tk p):=by
 unfold tk;split
 ·rename_i h;simp only[yI,al,aR]at h;exact⟨aq,aq⟩
 ·exact⟨aq,aq⟩
def CR(p k:Int):Int:=pw (tk p) (k%2305843009213688669).toNat
def eQ(k:Int):Int:=CR 4 k
def aeG(p:Int):Int:=pw (tk p) 2305843009213688668
def Qj(l:List Int):Int:=l.foldl (λo p=>sZ o (tk p)) 1
theorem azV(l:List Int)(o:Int)(h:Pn o):Pn (l.foldl (λo p=>sZ o (tk p)) o):=by
 induction l generalizing o with
 |nil=>exact h
 |cons p l ih=>exact ih _ (zV _ _)
theorem azW(l:List Int):Pn (Qj l):=azV l 1 ⟨aq,aq⟩
def ai8:Int->Prop:=λp=>mm p
def Lb:Int->Bool:=λp=>yI p
def tO:Fs Tryz.prog ai8 bG Lb:=gf 51 Tryz.f51 (λp=>([.d tu p],[])) (λx=>⟨.d .bool x,[],[]⟩) [au tu] [Nn]
theorem apr(p)(k:K1 R):tO.A p k=aP (wC p 0) (aP (iG p 4611686018427377339) (ax (wo.call (p,2305843009213688669)) λx1=>k (tO.out (Qw x1 1))) (k (tO.out aV))) (k (tO.out aV)):=cW
theorem aps:tO.Ok:=by
 intro p hp;have hp:mm p:=hp;rw[apr,IH (d:=(p,2305843009213688669)) ⟨hp,by constructor <;> decide⟩];simp only[ag,bG,afh,bG,Lb,yI];by_cases h:0 < p
 ·rw[dy h,aj];by_cases h2:p < 4611686018427377339
  ·rw[bh h2,aj,aM ⟨h,h2⟩,dD];rfl
  ·rw[aW h2,ao,cz (λx=>h2 x.2),jR]
 ·rw[cY h,ao,cz (λx=>h x.1),jR]
theorem y6:tO.RS:=rE [.d tu] tO
def No:=tO.gr aps
def ajd:Int->Prop:=λp=>mm p
def Fa:Int->Int:=λp=>tk p
def AR:Fs Tryz.prog ajd bG Fa:=gf 85 Tryz.f85 (λp=>([.d tu p],[])) (λx=>⟨.d tu x,[],[]⟩) [au tu] [No]
theorem apx(p)(k:K1 R):AR.A p k=ax (tO.call p) λx1=>aP (x1) (k (AR.out p)) (k (AR.out 1)):=cW
theorem apy:AR.Ok:=by intro p hp;rw[apx,y6 (d:=p) hp];simp only[ag,bG,Lb,bG,Fa,tk];cases yI p <;> rfl
theorem II:AR.RS:=rE [.d tu] AR
def Np:=AR.gr apy
def ai9:(Int×Int)->Prop:=λ(p,k)=>mm p/\mm k
def afi:(Int×Int)->Int:=λ(p,k)=>CR p k
def E9:Fs Tryz.prog ai9 bG afi:=gf 49 Tryz.f49 (λ(p,kv)=>([.d tu p,.d tu kv],[])) (λx=>⟨.d tu x,[],[]⟩) [au tu,au tu] [Np,Nn]
theorem apt(p kv)(k:K1 R):E9.A (p,kv) k=ax (AR.call p) λx1=>ax (wo.call (x1,(tC kv 2305843009213688669))) λx2=>k (E9.out x2):=cW
theorem apu:E9.Ok:=by rintro⟨p,k⟩ ⟨hp,hk⟩;have hk:mm k:=hk;have e:=Ga (y:=2305843009213688669) hk.1;have b:mm (k%2305843009213688669):=⟨aq,aq⟩;rw[apt,II (d:=p) hp,e];simp only[ag,bG,Fa];rw[IH (d:=(tk p,k%2305843009213688669)) ⟨(awi p).u,b⟩];rfl
theorem T0:E9.RS:=rE [.d tu,.d tu] E9
def Yl:=E9.gr apu
def aoV:Int->Prop:=λk=>mm k
def KN:Int->Int:=λk=>eQ k
def ER:Fs Tryz.prog aoV bG KN:=gf 16 Tryz.f16 (λkv=>([.d tu kv],[])) (λx=>⟨.d tu x,[],[]⟩) [au tu] [Yl]
theorem auD(kv)(k:K1 R):ER.A kv k=ax (E9.call (4,kv)) λx1=>k (ER.out x1):=cW
theorem auE:ER.Ok:=by intro k hk;rw[auD,T0 (d:=(4,k)) ⟨⟨aq,aq⟩,hk⟩];rfl
theorem BI:ER.RS:=rE [.d tu] ER
def KO:=ER.gr auE
def ave:Int->Prop:=λp=>mm p
def avd:Int->Int:=λp=>aeG p
def ai4:Fs Tryz.prog ave bG avd:=gf 162 Tryz.f162 (λp=>([.d tu p],[])) (λx=>⟨.d tu x,[],[]⟩) [au tu] [Np,Nn]
theorem azl(p)(k:K1 R):ai4.A p k=ax (AR.call p) λx1=>ax (wo.call (x1,2305843009213688668)) λx2=>k (ai4.out x2):=cW
theorem azm:ai4.Ok:=by intro p hp;rw[azl,II (d:=p) hp];simp only[ag,bG,Fa];rw[IH (d:=(tk p,2305843009213688668)) ⟨(awi p).u,by constructor <;> decide⟩];rfl
theorem avf:ai4.RS:=rE [.d tu] ai4
def azn:=ai4.gr azm
abbrev Yg:=Int×Bs×Int×Int
def aeZ:Yg->Prop:=λ(o,l,n,i)=>Pn o/\(∀x∈l,mm x)/\l.length<=1000000000/\n=l.length/\∃k:Nat,k<=l.length/\i=k
def Nh:Yg->Int:=λ(o,l,n,i)=>(l.drop i.toNat).foldl (λo p=>sZ o (tk p)) o
def Tx:Bs->Prop:=λl=>(∀x∈l,mm x)/\l.length<=1000000000
def aCP:Bs->Int:=λl=>Qj l
def xt:Ls aeZ bG Nh:=wh (λ(outv,t6,t7,t8)=>⟨([cj,cj,cj,.d tu outv,cj,cj,.d tU t6,.d ti t7,.d ti t8]++ba 9 []),[],(ai 18 [])⟩) (λx=>(.exit 0,⟨([cj,cj,cj,.d tu x]++ba 14 []),[],(ai 18 [])⟩))
def Tw:Fs Tryz.prog Tx bG aCP:=gf 158 Tryz.f158 (λl=>([.d tU l],[])) (λx=>⟨.d tu x,[],[]⟩) [au tU] [Np,Yo] {loops:=th [(3,{bz:=[3,6,7,8]})],outs:=tg [(3,{bz:=[3]},{bz:=[2]})],iE:=uA [(3,xt.E)]}
theorem ae0:xt.RS:=rL [.d tu,.d tU,.d ti,.d ti] xt
theorem KM(outv t6 t7 t8)(kn:K2 R)(kx:K3 R):Tw.R 0 xt (outv,t6,t7,t8) kn kx=aP (iG t8 t7) (aP (iO t8 (t6.length:Int)) (ax (AR.call (nth tu t6 (ab t8))) λx1=>ax (AT.call (outv,x1)) λx2=>kn (xt.st (x2,t6,t7,(bT .i64 t8 1)))) aH) (xt.go kx outv):=cW
theorem ay7(l)(k:K1 R):Tw.A l k=ax (xt.call (1,l,(l.length:Int),0)) λx3=>k (Tw.out x3):=cW
theorem aiJ:(Tw.mN 0 xt):=by
 refine(Tw.px 0 xt) (λ(o,l,n,i)=>l.length - i.toNat) ?_
 rintro⟨o,l,n,i⟩ ⟨ho,hl,hb,rfl,k,hk,rfl⟩;have ho:Pn o:=ho;have hb:l.length<=1000000000:=hb;have hk:k<=l.length:=hk;by_cases h:k < l.length
 ·left;have hx:=hl _ (aZ h);have n1:nth (.int .u64) l k=l[k]:=db (t:= .int .u64) h;refine⟨(sZ o (tk l[k]),l,l.length,((k+1:Nat):Int)),⟨zV _ _,hl,hb,rfl,k+1,aq,rfl⟩,by simp only[aa];omega,?_,λkn kx=> ?_⟩
  ·simp only[bG,Nh,aa];rw[aA h];rfl
  ·rw[KM];simp(disch:=omega) only[↓S1,↓if_pos,↓if_neg,if_pos,if_neg,cZ,cK,S2,n1];rw[II (d:=l[k]) hx];simp only[ag,bG,Fa];rw[IJ (d:=(o,tk l[k])) ⟨ho.u,(awi _).u⟩];rfl
 ·right;obtain rfl:k=l.length:=aq;intro R kn kx;rw[KM];simp(disch:=omega) only[↓S1,↓if_pos,↓if_neg,if_pos,if_neg,cZ,cK,S2,bG,Nh,bj];rfl
theorem ay8:Tw.Ok:=by rintro l ⟨hl,hb⟩;rw[ay7,ae0 (d:=(1,l,l.length,0)) ⟨⟨aq,aq⟩,hl,hb,rfl,0,aq,rfl⟩];rfl
theorem ae1:Tw.RS:=rE [.d tU] Tw
def alG:=Tw.gr ay8 1 ⟨.iB aiJ,trivial⟩
def auB:(Int×Int)->Prop:=λ(p,q)=>mm p/\mm q
def auA:(Int×Int)->Int:=λ(p,q)=>Qj [p,q]
def aiH:Fs Tryz.prog auB bG auA:=gf 152 Tryz.f152 (λ(p,q)=>([.d tu p,.d tu q],[])) (λx=>⟨.d tu x,[],[]⟩) [au tu,au tu] [alG]
theorem ay4(p q)(k:K1 R):aiH.A (p,q) k=ax (Tw.call [p,q]) λx1=>k (aiH.out x1):=cW
theorem ay5:aiH.Ok:=by rintro⟨p,q⟩ ⟨hp,hq⟩;have h:Tx [p,q]:=⟨by intro x hx;simp only[bA,gK,vF]at hx;rcases hx with rfl | rfl <;> assumption,by simp only[aB,bw];omega⟩;rw[ay4,ae1 h];rfl
theorem auC:aiH.RS:=rE [.d tu,.d tu] aiH
def ay6:=aiH.gr ay5
def Qn(x:Int):Prop:=0<=x/\x < 2305843009213688669
theorem Qn.u{x:Int}(h:Qn x):mm x:=⟨h.1,by have:=h.2;omega⟩
def aum(a:Int):Int:=a%2305843009213688669
theorem aaL(a:Int):Qn (aum a):=⟨j7 _ aq,jS _ aq⟩
def agJ(a b:Int):Int:=(aum a+aum b)%2305843009213688669
def aaD(a b:Int):Int:=aum a*aum b%2305843009213688669
def JY(h:List Int):Int:=h.foldl (λn b=>(n*256+b)%2305843009213688668) 0+1
def aq1.b(n:Int):Prop:=0<=n/\n < 2305843009213688668
theorem adD(h:List Int)(n:Int)(hn:aq1.b n):aq1.b (h.foldl (λn b=>(n*256+b)%2305843009213688668) n):=by
 induction h generalizing n with
 |nil=>exact hn
 |cons p l ih=>exact ih _ ⟨j7 _ aq,jS _ aq⟩
theorem RQ(h:List Int):0 < JY h/\JY h < 2305843009213688669:=by have:=adD h 0 ⟨aq,aq⟩;have h1:=this.1;have h2:=this.2;unfold JY;omega
theorem akn(a b:Int):Qn (agJ a b):=⟨j7 _ aq,jS _ aq⟩
theorem ayK(a b:Int):Qn (aaD a b):=⟨j7 _ aq,jS _ aq⟩
def ahL:Int->Prop:=λ_=>True
def Bp:Int->Bool:=λa=>iG a 2305843009213688669
def Az:Fs Tryz.prog ahL bG Bp:=gf 66 Tryz.f66 (λa=>([.d tu a],[])) (λx=>⟨.d .bool x,[],[]⟩) [au tu]
theorem anH(a)(k:K1 R):Az.A a k=k (Az.out (iG a 2305843009213688669)):=cW
theorem anI:Az.Ok:=by intro a _;rw[anH];rfl
theorem Ck:Az.RS:=rE [.d tu] Az
def F2:=Az.gr anI
def axV:Int->Prop:=λa=>mm a
def asU:Int->Int:=λa=>aum a
def awR:Fs Tryz.prog axV bG asU:=gf 159 Tryz.f159 (λa=>([.d tu a],[])) (λx=>⟨.d tu x,[],[]⟩) [au tu]
theorem aBL(a)(k:K1 R):awR.A a k=k (awR.out (tC a 2305843009213688669)):=cW
theorem aBM:awR.Ok:=by intro a ha;rw[aBL,Ga ha.1];rfl
theorem Qs:awR.RS:=rE [.d tu] awR
def asV:=awR.gr aBM
def anF:(Int×Int)->Prop:=λ(a,b)=>Qn a/\Qn b
def axW:(Int×Int)->Int:=λ(a,b)=>(a+b)%2305843009213688669
def RP:Fs Tryz.prog anF bG axW:=gf 160 Tryz.f160 (λ(a,b)=>([.d tu a,.d tu b],[])) (λx=>⟨.d tu x,[],[]⟩) [au tu,au tu]
theorem asW(a b)(k:K1 R):RP.A (a,b) k=k (RP.out (tC (bT .u64 a b) 2305843009213688669)):=cW
theorem asX:RP.Ok:=by
 rintro⟨a,b⟩ ⟨ha,hb⟩;have ha:Qn a:=ha;have hb:Qn b:=hb;obtain⟨h1,h2⟩:=ha;obtain⟨h3,h4⟩:=hb;have e:bT .u64 a b=a+b:=by rw[xh];omega
 rw[asW,e,Ga aq];rfl
theorem anG:RP.RS:=rE [.d tu,.d tu] RP
def asY:=RP.gr asX
def ahN:(Int×Int)->Prop:=λ(a,b)=>Qn a/\Qn b
def asZ:(Int×Int)->Int:=λ(a,b)=>a*b%2305843009213688669
def H6:Fs Tryz.prog ahN bG asZ:=gf 161 Tryz.f161 (λ(a,b)=>([.d tu a,.d tu b],[])) (λx=>⟨.d tu x,[],[]⟩) [au tu,au tu] [Kv,T7]
theorem anJ(a b)(k:K1 R):H6.A (a,b) k=ax (Dd.call (a,b)) λx1=>ax (Lg.call (x1.1,x1.2,2305843009213688669)) λx2=>k (H6.out x2):=cW
theorem anK:H6.Ok:=by rintro⟨a,b⟩ ⟨ha,hb⟩;have ha:Qn a:=ha;have hb:Qn b:=hb;obtain⟨m1,m2⟩:=Na ha.1 (show a<=18446744073709551615 by have:=ha.2;omega) hb.1 (show b<=18446744073709551615 by have:=hb.2;omega);have n:(18446744073709551615:Int)*18446744073709551615=340282366920938463426481119284349108225:=rfl;rw[n]at m2;have p:Nt (a*b / 18446744073709551616,a*b%18446744073709551616,2305843009213688669):=⟨fj (kQ rfl),aq,aq,aq,aq⟩;rw[anJ,BD (d:=(a,b)) ⟨ha.u,hb.u⟩];simp only[ag,bG,Gf];rw[Nu p];simp only[ag,bG,Lh,Va];rfl
theorem ahO:H6.RS:=rE [.d tu,.d tu] H6
def anL:=H6.gr anK
def asJ:(Int×Int)->Prop:=λ(a,b)=>mm a/\mm b
def aBK:(Int×Int)->Int:=λ(a,b)=>agJ a b
def ahF:Fs Tryz.prog asJ bG aBK:=gf 153 Tryz.f153 (λ(a,b)=>([.d tu a,.d tu b],[])) (λx=>⟨.d tu x,[],[]⟩) [au tu,au tu] [asV,asY]
theorem axN(a b)(k:K1 R):ahF.A (a,b) k=ax (awR.call a) λx1=>ax (awR.call b) λx2=>ax (RP.call (x1,x2)) λx3=>k (ahF.out x3):=cW
theorem axO:ahF.Ok:=by rintro⟨a,b⟩ ⟨ha,hb⟩;rw[axN,Qs (d:=a) ha,Qs (d:=b) hb];simp only[ag,bG,asU];rw[anG (d:=(aum a,aum b)) ⟨aaL a,aaL b⟩];rfl
theorem asK:ahF.RS:=rE [.d tu,.d tu] ahF
def axP:=ahF.gr axO
def asS:(Int×Int)->Prop:=λ(a,b)=>mm a/\mm b
def asR:(Int×Int)->Int:=λ(a,b)=>aaD a b
def ahK:Fs Tryz.prog asS bG asR:=gf 154 Tryz.f154 (λ(a,b)=>([.d tu a,.d tu b],[])) (λx=>⟨.d tu x,[],[]⟩) [au tu,au tu] [asV,anL]
theorem axS(a b)(k:K1 R):ahK.A (a,b) k=ax (awR.call a) λx1=>ax (awR.call b) λx2=>ax (H6.call (x1,x2)) λx3=>k (ahK.out x3):=cW
theorem axT:ahK.Ok:=by rintro⟨a,b⟩ ⟨ha,hb⟩;rw[axS,Qs (d:=a) ha,Qs (d:=b) hb];simp only[ag,bG,asU];rw[ahO (d:=(aum a,aum b)) ⟨aaL a,aaL b⟩];rfl
theorem asT:ahK.RS:=rE [.d tu,.d tu] ahK
def axU:=ahK.gr axT
def ZS:(Int×Bs×Int)->Prop:=λ(n,h,i)=>aq1.b n/\h.length=32/\Bytes h/\∃k:Nat,k<=32/\i=k
def Ci:(Int×Bs×Int)->Int:=λ(n,h,i)=>(h.drop i.toNat).foldl (λn b=>(n*256+b)%2305843009213688668) n
def anx:Bs->Prop:=λh=>h.length=32/\Bytes h
def ZR:Bs->Int:=λh=>JY h
def sq:Ls ZS bG Ci:=wh (λ(n,t6,t7)=>⟨([cj,cj,cj,.d tu n,cj,cj,.d tH t6,.d ti t7]++ba 13 []),[],(ai 21 [])⟩) (λx=>(.exit 0,⟨([cj,cj,cj,.d tu x]++ba 17 []),[],(ai 21 [])⟩))
def Ei:Fs Tryz.prog anx bG ZR:=gf 135 Tryz.f135 (λh=>([.d tH h],[])) (λx=>⟨.d tu x,[],[]⟩) [au tH] [T7] {loops:=th [(3,{bz:=[3,6,7]})],outs:=tg [(3,{bz:=[3]},{bz:=[2]})],iE:=uA [(3,sq.E)]}
theorem ZT:sq.RS:=rL [.d tu,.d tB,.d ti] sq
theorem GU(n t6 t7)(kn:K2 R)(kx:K3 R):Ei.R 0 sq (n,t6,t7) kn kx=aP (iG t7 32) (aP (iO t7 32) (ax (Lg.call ((cR .u64 n 56),(di .or .u64 (nM .u64 n 8) (dP .u64 (nth tb t6 (ab t7)))),2305843009213688668)) λx1=>kn (sq.st (x1,t6,(bT .i64 t7 1)))) aH) (sq.go kx n):=cW
theorem asM(h)(k:K1 R):Ei.A h k=ax (sq.call (0,h,0)) λx2=>k (Ei.out (bT .u64 x2 1)):=cW
theorem OB{n b:Int}(hn:aq1.b n)(hb:YX b):cR .u64 n 56*18446744073709551616+di .or .u64 (nM .u64 n 8) (dP .u64 b)=n*256+b/\mm (cR .u64 n 56)/\mm (di .or .u64 (nM .u64 n 8) (dP .u64 b)):=by
 obtain⟨h1,h2⟩:=hn;obtain⟨h3,h4⟩:=hb;have p56:(2:Int)^56=72057594037927936:=rfl;have p8:(2:Int)^8=256:=rfl;have e:dP .u64 b=b:=by rw[En];omega
 rw[uQ 56 (by rfl) aq,uP 8 (by rfl) aq,p56,p8,e,KI 8 256 rfl aq aq aq aq aq aq];exact⟨aq,⟨aq,aq⟩,aq,aq⟩
theorem adx:(Ei.mN 0 sq):=by
 refine(Ei.px 0 sq) (λ(n,h,i)=>32 - i.toNat) ?_
 rintro⟨n,h,i⟩ ⟨hn,hl,hb,k,hk,rfl⟩;have hn:aq1.b n:=hn;have hl:h.length=32:=hl;have hb:Bytes h:=hb;by_cases iJ:k < 32
 ·left;have hx:YX (h[k]'(aq)):=hb _ (aZ _);have n1:nth (.int .u8) h k=h[k]'(aq):=db (t:= .int .u8) aq;obtain⟨d1,d2,d3⟩:=OB hn hx;refine⟨((n*256+h[k]'(aq))%2305843009213688668,h,((k+1:Nat):Int)),⟨⟨aq,aq⟩,hl,hb,k+1,aq,rfl⟩,by simp only[aa];omega,?_,λkn kx=> ?_⟩
  ·simp only[bG,Ci,aa];rw[aA (by omega:k < h.length)];rfl
  ·rw[GU];simp(disch:=omega) only[↓S1,↓if_pos,↓if_neg,if_pos,if_neg,cZ,cK,S2,n1];rw[Nu (d:=(_,_,2305843009213688668)) ⟨fj (fj rfl),d2.1,d2.2,d3.1,d3.2⟩];simp only[ag,bG,Lh,d1]
 ·right;obtain rfl:k=32:=aq;intro R kn kx;rw[GU];simp(disch:=omega) only[↓S1,↓if_pos,↓if_neg,if_pos,if_neg,cZ,cK,S2,bG,Ci];rw[gh aq];rfl
theorem asN:Ei.Ok:=by
 rintro h ⟨hl,hb⟩;have e:=adD h 0 ⟨aq,aq⟩;have h1:=e.1;have h2:=e.2;rw[asM,ZT (d:=(0,h,0)) ⟨⟨aq,aq⟩,hl,hb,0,aq,rfl⟩];simp only[ag,bG,Ci,bG,ZR,JY,bO,aN]
 revert h1 h2
 generalize h.foldl (λn b=>(n*256+b)%2305843009213688668) 0=m;intro h1 h2;have e:bT .u64 m 1=m+1:=by rw[xh];omega
 rw[e]
theorem Xu:Ei.RS:=rE [.d tB] Ei
def ady:=Ei.gr asN 1 ⟨.iB adx,trivial⟩
theorem acA(n:Int): [dP .u8 (cR .u64 n 56),dP .u8 (cR .u64 n 48),dP .u8 (cR .u64 n 40),dP .u8 (cR .u64 n 32),dP .u8 (cR .u64 n 24),dP .u8 (cR .u64 n 16),dP .u8 (cR .u64 n 8),dP .u8 (cR .u64 n 0)]=lS n:=agV n
theorem fA{α:Type}{l:List α}{n:Nat}(h:l.length=n):cut l 0 n=l:=by subst h;simp[cut]
theorem awh{n:ByteArray}{a b c:List Int}(hn:n.size<=100)(ha:a.length<=1000000)(hb:b.length<=1000000)(hc:c.length<=1000000):J8 (n,[a,b,c]):=by show(Wv _ [a,b,c]).length<=_;rw[Wv];simp only[xI,dg,oS,ak,dv,nE,bw];omega
theorem awg{n:ByteArray}{a b:List Int}(hn:n.size<=100)(ha:a.length<=1000000)(hb:b.length<=1000000):J8 (n,[a,b]):=by show(Wv _ [a,b]).length<=_;rw[Wv];simp only[xI,dg,oS,ak,dv,nE,bw];omega
theorem awf{n:ByteArray}{a:List Int}(hn:n.size<=100)(ha:a.length<=1000000):J8 (n,[a]):=by show(Wv _ [a]).length<=_;rw[Wv];simp only[xI,dg,oS,ak,dv,nE,bw];omega
def Sm(m:List Int):Prop:=m.length=32/\Bytes m
theorem aC1(b:List Int):Sm (aDY b):=⟨ajB b,amY b⟩
theorem ajF(n:List Int)(ps:List (List Int)):Sm (tag n ps):=aC1 _
def awe(n:ByteArray)(ps:List (List Int)):List Int:=tag (cH n) ps
def aFm:ByteArray:=⟨#[115,105,103]⟩
def aiC:ByteArray:=⟨#[110,111,110,99,101]⟩
def Da(r p:Int)(m:List Int):Int:=JY (awe aFm [lS r,lS p,m])
theorem Rb(r p:Int)(m:List Int):Qn (Da r p m):=by have:=RQ (awe aFm [lS r,lS p,m]);exact⟨by unfold Da;omega,by unfold Da;omega⟩
def aBc(s:Sg):Prop:=mm s.1/\mm s.2.1
def ym(p:Int)(m:List Int)(t:Int)(s:Sg):Bool:=if p=1\/yI p=aV\/yI t=aV\/yI s.1=aV\/¬s.2.1 < 2305843009213688669 then aV else decide (eQ s.2.1=Qj [s.1,CR p (Da s.1 p m),aeG t])
def Y5(k nonce:Int)(m:List Int)(t:Int):Sg:=(Qj [eQ nonce,t],agJ nonce (aaD (Da (Qj [eQ nonce,t]) (eQ k) m) k),())
def aue(k:Int)(m:List Int):Int:=JY (awe aiC [lS k,m])
def nG(k:Int)(m:List Int):Sg:=if k < 2305843009213688669/\k≠0 then Y5 k (aue k m) m 1 else(0,0,())
def ahz:Int->Prop:=λ_=>True
def RJ:Int->Bs:=λn=>lS n
def Cg:Fs Tryz.prog ahz bG RJ:=gf 136 Tryz.f136 (λn=>([.d tu n],[])) (λx=>⟨.d tB x,[],[]⟩) [au tu] [] {loops:=th [(3,{bz:=[0,3,7,8],sites:=[5]})],outs:=tg [(3,{bz:=[3],sites:=[5]},{bz:=[2],sites:=[5]})],res:=[au tB]} 12
theorem ant(n)(k:K1 R):Cg.A n k=k (Cg.out [(dP .u8 (cR .u64 n 56)),(dP .u8 (cR .u64 n 48)),(dP .u8 (cR .u64 n 40)),(dP .u8 (cR .u64 n 32)),(dP .u8 (cR .u64 n 24)),(dP .u8 (cR .u64 n 16)),(dP .u8 (cR .u64 n 8)),(dP .u8 (cR .u64 n 0))]):=cW
theorem anu:Cg.Ok:=by intro n _;rw[ant,acA];rfl
theorem HW:Cg.RS:=rE [.d tu] Cg
def Xq:=Cg.gr anu 1 ⟨.none cW,trivial⟩
def am3:(Int×Int×Bs)->Prop:=λ(r,p,m)=>Sm m
def Zk:(Int×Int×Bs)->Int:=λ(r,p,m)=>Da r p m
def Of:Fs Tryz.prog am3 bG Zk:=gf 155 Tryz.f155 (λ(r,p,m)=>([.d tu r,.d tu p,.d tH m],[])) (λx=>⟨.d tu x,[],[]⟩) [au tu,au tu,au tH] [Xq,aaa,ady]
theorem arJ(r p m)(k:K1 R):Of.A (r,p,m) k=ax (Cg.call r) λx1=>ax (Cg.call p) λx2=>ax (P7.call ((⟨#[115,105,103]⟩:ByteArray),[x1,x2,(cut m 0 32)])) λx3=>ax (Ei.call x3) λx4=>k (Of.out x4):=cW
theorem arK:Of.Ok:=by rintro⟨r,p,m⟩ hm;have hm:Sm m:=hm;rw[arJ,HW (d:=r) trivial,HW (d:=p) trivial];simp only[ag,bG,RJ];rw[fA hm.1,R5 (awh eR (by rw[dv];omega) (by rw[dv];omega) (by rw[hm.1];omega))];simp only[ag,bG,Z9];rw[Xu (d:=tag (cH (⟨#[115,105,103]⟩:ByteArray)) [lS r,lS p,m]) (ajF _ _)];rfl
theorem W5:Of.RS:=rE [.d tu,.d tu,.d tB] Of
def acQ:=Of.gr arK
abbrev YC:=Int×Bs×Int×Sg
def afD:YC->Prop:=λ(p,m,t,s)=>mm p/\Sm m/\mm t/\aBc s
def YD:YC->Bool:=λ(p,m,t,s)=>ym p m t s
def qm:Fs Tryz.prog afD bG YD:=gf 157 Tryz.f157 (λ(p,m,t,pre)=>([.d tu p,.d tH m,.d tu t,.d LK pre],[])) (λx=>⟨.d .bool x,[],[]⟩) [au tu,au tH,au tu,au LK] [No,F2,acQ,Yl,azn,alG,KO]
theorem ajy(p m t pre)(k:K1 R):qm.A (p,m,t,pre) k=aP (Qw p 1) (k (qm.out aV)) (ax (tO.call p) λx1=>aP (!x1) (k (qm.out aV)) (ax (tO.call t) λx2=>aP (!x2) (k (qm.out aV)) (ax (tO.call pre.1) λx3=>aP (!x3) (k (qm.out aV)) (ax (Az.call pre.2.1) λx4=>aP (!x4) (k (qm.out aV)) (ax (Of.call (pre.1,p,m)) λx5=>ax (E9.call (p,x5)) λx6=>ax (ai4.call t) λx7=>ax (Tw.call [pre.1,x6,x7]) λx8=>ax (ER.call pre.2.1) λx9=>k (qm.out (Qw x9 x8))))))):=cW
theorem ajz:qm.Ok:=by
 rintro⟨p,m,t,s⟩ ⟨hp,hm,ht,hs⟩;have hp:mm p:=hp;have ht:mm t:=ht;have hm:Sm m:=hm;have hs:aBc s:=hs;rw[ajy,y6 (d:=p) hp,y6 (d:=t) ht,y6 (d:=s.1) hs.1,Ck (d:=s.2.1) trivial];simp only[ag,bG,Lb,bG,Bp,bG,YD,ym];by_cases h1:p=1
 ·rw[jV h1,aj,if_pos (kQ h1)]
 rw[gQ h1,ao];cases h2:yI p
 ·rw[if_pos (fj (kQ rfl))];rfl
 cases h3:yI t
 ·rw[if_pos (fj (fj (kQ rfl)))];rfl
 cases h4:yI s.1
 ·rw[if_pos (fj (fj (fj (kQ rfl))))];rfl
 by_cases h5:s.2.1 < 2305843009213688669
 ·rw[bh h5,if_neg (by simp[h1,h5])];have hq:=Rb s.1 p m;rw[W5 (d:=(s.1,p,m)) hm];simp only[bR,ao,ag,bG,Zk];rw[T0 (d:=(p,Da s.1 p m)) ⟨hp,hq.u⟩,avf (d:=t) ht];simp only[ag,bG,afi,bG,avd];have q:Tx [s.1,CR p (Da s.1 p m),aeG t]:=⟨by
   intro x hx;simp only[bA,gK,vF]at hx;rcases hx with rfl | rfl | rfl
   ·exact hs.1
   ·exact(afp _ _).u
   ·exact(afp _ _).u,by simp only[aB,bw];omega⟩
  rw[ae1 q,BI (d:=s.2.1) hs.2];rfl
 ·rw[aW h5,if_pos (fj (fj (fj (fj h5))))];rfl
theorem afE:qm.RS:=rE [.d tu,.d tB,.d tu,.d LK] qm
def ajA:=qm.gr ajz
def afZ:(Int×Bs×Sg)->Prop:=λ(p,m,s)=>mm p/\Sm m/\aBc s
def YK:(Int×Bs×Sg)->Bool:=λ(p,m,s)=>ym p m 1 s
def CT:Fs Tryz.prog afZ bG YK:=gf 148 Tryz.f148 (λ(p,m,sv)=>([.d tu p,.d tH m,.d LK sv],[])) (λx=>⟨.d .bool x,[],[]⟩) [au tu,au tH,au LK] [ajA]
theorem ajQ(p m sv)(k:K1 R):CT.A (p,m,sv) k=ax (qm.call (p,m,1,sv)) λx1=>k (CT.out x1):=cW
theorem ajR:CT.Ok:=by rintro⟨p,m,s⟩ ⟨hp,hm,hs⟩;rw[ajQ,afE (d:=(p,m,1,s)) ⟨hp,hm,⟨aq,aq⟩,hs⟩];rfl
theorem af0:CT.RS:=rE [.d tu,.d tB,.d LK] CT
def ajS:=CT.gr ajR
def avY:Int->Prop:=λ_=>True
def ajE:Int->Bool:=λk=>decide (k < 2305843009213688669/\k≠0)
def afQ:Fs Tryz.prog avY bG ajE:=gf 133 Tryz.f133 (λkv=>([.d tu kv],[])) (λx=>⟨.d .bool x,[],[]⟩) [au tu] [F2]
theorem azN(kv)(k:K1 R):afQ.A kv k=ax (Az.call kv) λx1=>aP (x1) (k (afQ.out (DF kv 0))) (k (afQ.out aV)):=cW
theorem azO:afQ.Ok:=by
 intro k _;rw[azN,Ck (d:=k) trivial];simp only[ag,bG,Bp,bG,ajE];by_cases h:k < 2305843009213688669
 ·rw[bh h,aj];by_cases h0:k=0
  ·rw[dX h0,cz (λx=>x.2 h0)]
  ·rw[fY h0,aM ⟨h,h0⟩]
 ·rw[aW h,ao,cz (λx=>h x.1)]
theorem avZ:afQ.RS:=rE [.d tu] afQ
def azP:=afQ.gr azO
abbrev YB:=Int×Int×Bs×Int
def afB:YB->Prop:=λ(k,n,m,t)=>mm k/\mm n/\Sm m/\mm t
def ap0:YB->Sg:=λ(k,n,m,t)=>Y5 k n m t
def CQ:Fs Tryz.prog afB bG ap0:=gf 134 Tryz.f134 (λ(kv,nonce,m,t)=>([.d tu kv,.d tu nonce,.d tH m,.d tu t],[])) (λx=>⟨.d LK x,[],[]⟩) [au tu,au tu,au tH,au tu] [KO,ay6,acQ,axU,axP]
theorem ajv(kv nonce m t)(k:K1 R):CQ.A (kv,nonce,m,t) k=ax (ER.call nonce) λx1=>ax (aiH.call (x1,t)) λx2=>ax (ER.call kv) λx3=>ax (Of.call (x2,x3,m)) λx4=>ax (ahK.call (x4,kv)) λx5=>ax (ahF.call (nonce,x5)) λx6=>k (CQ.out (x2,(x6,()))):=cW
theorem ajw:CQ.Ok:=by rintro⟨k,n,m,t⟩ ⟨hk,hn,hm,ht⟩;have hk:mm k:=hk;have hn:mm n:=hn;have hm:Sm m:=hm;have ht:mm t:=ht;rw[ajv,BI (d:=n) hn];simp only[ag,bG,KN];rw[auC (d:=(eQ n,t)) ⟨(afp _ _).u,ht⟩,BI (d:=k) hk];simp only[ag,bG,KN,bG,auA];rw[W5 (d:=(Qj [eQ n,t],eQ k,m)) hm];simp only[ag,bG,Zk];rw[asT (d:=(Da (Qj [eQ n,t]) (eQ k) m,k)) ⟨(Rb _ _ _).u,hk⟩];simp only[ag,bG,asR];rw[asK (d:=(n,aaD (Da (Qj [eQ n,t]) (eQ k) m) k)) ⟨hn,(ayK _ _).u⟩];rfl
theorem afC:CQ.RS:=rE [.d tu,.d tu,.d tB,.d tu] CQ
def ajx:=CQ.gr ajw
def aqb:(Int×Bs)->Prop:=λ(k,m)=>mm k/\Sm m
def aby:(Int×Bs)->Sg:=λ(k,m)=>nG k m
def PH:Fs Tryz.prog aqb bG aby:=gf 103 Tryz.f103 (λ(kv,m)=>([.d tu kv,.d tH m],[])) (λx=>⟨.d LK x,[],[]⟩) [au tu,au tH] [azP,Xq,aaa,ady,ajx]
theorem av5(kv m)(k:K1 R):PH.A (kv,m) k=ax (afQ.call kv) λx1=>aP (!x1) (k (PH.out (0,(0,())))) (ax (Cg.call kv) λx2=>ax (P7.call ((⟨#[110,111,110,99,101]⟩:ByteArray),[x2,(cut m 0 32)])) λx3=>ax (Ei.call x3) λx4=>ax (CQ.call (kv,x4,m,1)) λx5=>k (PH.out x5)):=cW
theorem av6:PH.Ok:=by
 rintro⟨k,m⟩ ⟨hk,hm⟩;have hk:mm k:=hk;have hm:Sm m:=hm;rw[av5,avZ (d:=k) trivial];simp only[ag,bG,ajE,bG,aby,nG];by_cases h:k < 2305843009213688669/\k≠0
 ·rw[aM h,if_pos h,HW (d:=k) trivial,fA hm.1];simp only[bR,ao,ag,bG,RJ];rw[R5 (awg eR (by rw[dv];omega) (by rw[hm.1];omega))];simp only[ag,bG,Z9];rw[Xu (d:=tag (cH (⟨#[110,111,110,99,101]⟩:ByteArray)) [lS k,m]) (ajF _ _)];simp only[ag,bG,ZR];have q:=RQ (tag (cH (⟨#[110,111,110,99,101]⟩:ByteArray)) [lS k,m]);rw[afC (d:=(k,JY (tag (cH (⟨#[110,111,110,99,101]⟩:ByteArray)) [lS k,m]),m,1)) ⟨hk,⟨aq,aq⟩,hm,aq,aq⟩];rfl
 ·rw[cz h,if_neg h];rfl
theorem aqc:PH.RS:=rE [.d tu,.d tB] PH
def av7:=PH.gr av6
def A8(l:List Int):Prop:=∀x∈l,mm x
def aAg(b:rI):Prop:=A8 b.1/\mm b.2.2.2.1
def amm(l:Lk):Prop:=∀b∈l.1,aAg b
def MT(n:Int):Bool:=decide (0<=n/\n<=1048576)
def Dw(b:rI):Bool:=decide (b.1.length<=12) && (b.1.all yI && (MT b.2.1 && (MT b.2.2.1 && (decide (b.2.2.2.1=0) || yI b.2.2.2.1))))
def ju(l:Lk):Bool:=l.1.all Dw && decide (0 < l.1.length/\l.1.length<=4)
def wK:List Int->Int->Int⊕Unit
 |[],_=> .inr ()
 |p::ps,i=>if yI p then wK ps (i+1) else .inl i
def akq(l:List Int):Int:=match wK l 0 with | .inl i=>i | .inr _=> -1
theorem NU:∀(l:List Int) (i:Int),0<=i->(match wK l i with | .inl i=>decide (i>=0) | .inr _=>aV)= !(l.all yI)
 |[],_,_=>rfl
 |p::ps,i,h=>by
  rw[wK,mY];cases hp:yI p
  ·simp[h]
  ·simp only[cZ,dD];exact NU ps (i+1) aq
theorem amv(l:List Int):zP (akq l) 0= !(l.all yI):=by
 have:=NU l 0 aq;unfold akq zP;cases h:wK l 0
 ·rw[h]at this;exact this
 ·rw[h]at this;rw[<-this];rfl
def atA:Int->Prop:=λp=>mm p
def aal:Int->Bool:=λp=> !yI p
def aei:Fs Tryz.prog atA bG aal:=gf 50 Tryz.f50 (λp=>([.d tu p],[])) (λx=>⟨.d .bool x,[],[]⟩) [au tu] [No]
theorem ayy(p)(k:K1 R):aei.A p k=ax (tO.call p) λx1=>k (aei.out (!x1)):=cW
theorem ayz:aei.Ok:=by intro p hp;rw[ayy,y6 (d:=p) hp];rfl
theorem Sp:aei.RS:=rE [.d tu] aei
def ali:=aei.gr ayz
abbrev vH:=Bs×Int×Int
def pn:vH->AS:=λ(lr,t7,t8)=>⟨([.d tU lr,.fn 50 (.nil)]++ba 5 ([.d ti t7,.d ti t8]++ba 10 [])),[],(ai 19 [])⟩
def uG:Int->Exit×AS:=λx=>(.ret,⟨(ba 4 ([.d ti x]++ba 14 [])),[],(ai 19 [])⟩)
def uH:Unit->Exit×AS:=λx=>(.exit 0,⟨(ba 19 []),[],(ai 19 [])⟩)
abbrev EV:=(Int)⊕(Unit)
abbrev Pp:=(Int)⊕(Unit)
def AO:EV->Out (Exit×AS):=λx=> .br x.isLeft (.get x.getLeft? λa=> .ok (uG a)) (.get x.getRight? λb=> .ok (uH b))
def jD:vH->Pp->EV:=λ(lr,t7,t8) y=>match y with | .inl y=> .inl y | .inr z=> .inr (z)
def uF:vH->Prop:=λ(l,n,i)=>A8 l/\l.length<=1000000000/\n=l.length/\∃k:Nat,k<=l.length/\i=k
def ma:vH->Pp:=λ(l,n,i)=>wK (l.drop i.toNat) i
def aiV:Bs->Prop:=λl=>A8 l/\l.length<=1000000000
def TI:Bs->Int:=λl=>akq l
def Pm:=eA.iB pn uF jD ma AO
def EW:vH->Option EV:=lg Pm pn
def wj:Fs Tryz.prog aiV bG TI:=gf 86 Tryz.f86 (λsv=>([.d tU sv,.fn 50 (.nil)],[])) (λx=>⟨.d ti x,[],[]⟩) [au tU,aH] [ali] {loops:=th [(2,{bz:=[0,1,7,8]})],outs:=tg [(2,{},{bz:=[4]})],iE:=uA [(2,Pm)]}
def Po:= @gw Tryz.prog (pS wj.G) wj.an 0 Tryz.f86 0 _ pn
abbrev KT:=qu Tryz.prog (pS wj.G) wj.an 0 Tryz.f86 0 pn uF jD ma AO
theorem V8:nK EW uF jD ma:=tR (sy [.d tU,.d ti,.d ti] λ_=>cW)
theorem IC:yd @Po pn uF jD ma AO KT:=zr
theorem yX(lr t7 t8)(kn:K2 R)(kx:K3 R):Po (lr,t7,t8) kn kx=aP (iG t8 t7) (aP (iO t8 (((ae lr):Nat):Int)) (ax (aei.call (nth tu lr (ab t8))) λx1=>aP (x1) (kx (uG t8).1 (uG t8).2) (kn (pn (lr,t7,(bT .i64 t8 (1:Int)))))) aH) (kx (uH ()).1 (uH ()).2):=cW
theorem ao8(sv)(k:K1 R):wj.A sv k=ax (EW (sv,(sv.length:Int),0)) λx2=>aP x2.isLeft (ax x2.getLeft? λa3=>k (wj.out a3)) (ax x2.getRight? λb4=>k (wj.out (-1))):=cW
theorem aa2:KT:=by
 refine IC (λ(l,n,i)=>l.length - i.toNat) ?_
 rintro⟨l,n,i⟩ ⟨hl,hb,rfl,k,hk,rfl⟩;have hb:l.length<=1000000000:=hb;have hk:k<=l.length:=hk;by_cases h:k < l.length
 ·have hx:=hl _ (aZ h);have n1:nth (.int .u64) l k=l[k]:=db (t:= .int .u64) h;have hd:wK (l.drop k) k=if yI l[k] then wK (l.drop (k+1)) ((k+1:Nat):Int) else .inl (k:Int):=by rw[aA h];rfl
  cases hp:yI l[k]
  ·right;refine⟨uG (k:Int),?_,λkn kx=> ?_⟩
   ·simp only[jD,ma,aa,hd,hp,cd,cK];rfl
   ·rw[yX];simp(disch:=omega) only[↓S1,↓if_pos,↓if_neg,if_pos,if_neg,cZ,cK,S2,n1];rw[Sp (d:=l[k]) hx];simp only[ag,bG,aal,hp,dA,aj]
  ·left;refine⟨(l,l.length,((k+1:Nat):Int)),⟨hl,hb,rfl,k+1,aq,rfl⟩,by simp only[aa];omega,?_,λkn kx=> ?_⟩
   ·simp only[jD,ma,aa,hd,hp,cZ]
   ·rw[yX];simp(disch:=omega) only[↓S1,↓if_pos,↓if_neg,if_pos,if_neg,cZ,cK,S2,n1];rw[Sp (d:=l[k]) hx];simp only[ag,bG,aal,hp,bR,ao]
 ·right;obtain rfl:k=l.length:=aq;refine⟨uH (),?_,λkn kx=> ?_⟩
  ·simp only[jD,ma,aa,bj];rfl
  ·rw[yX];simp(disch:=omega) only[↓S1,↓if_pos,↓if_neg,if_pos,if_neg,cZ,cK,S2]
theorem ao9:wj.Ok:=by rintro l ⟨hl,hb⟩;rw[ao8,V8 (d:=(l,l.length,0)) ⟨hl,hb,rfl,0,aq,rfl⟩];simp only[ag,jD,ma,bO,aN,bG,TI,akq];cases wK l 0 <;> rfl
theorem aiW:wj.RS:=rE [.d tU] wj
def apa:=wj.gr ao9 1 ⟨.iB aa2,trivial⟩
def V5:Bs->Prop:=λl=>A8 l/\l.length<=1000000000
def Pg:Bs->Bool:=λl=> !(l.all yI)
def tM:Fs Tryz.prog V5 bG Pg:=gf 52 Tryz.f52 (λsv=>([.d tU sv,.fn 50 (.nil)],[])) (λx=>⟨.d .bool x,[],[]⟩) [au tU,aH] [apa]
theorem aaT(sv)(k:K1 R):tM.A sv k=ax (wj.call sv) λx1=>k (tM.out (zP x1 0)):=cW
theorem aaU:tM.Ok:=by rintro l ⟨hl,hb⟩;rw[aaT,aiW (d:=l) ⟨hl,hb⟩];simp only[ag,bG,TI,amv];rfl
theorem V6:tM.RS:=rE [.d tU] tM
def aaV:=tM.gr aaU
def aej:Int->Prop:=λ_=>True
def M1:Int->Bool:=λn=>MT n
def xk:Fs Tryz.prog aej bG M1:=gf 53 Tryz.f53 (λn=>([.d ti n],[])) (λx=>⟨.d .bool x,[],[]⟩) [au ti]
theorem ain(n)(k:K1 R):xk.A n k=aP (zP n 0) (k (xk.out (aad n 1048576))) (k (xk.out aV)):=cW
theorem aio:xk.Ok:=by
 intro n _;rw[ain];simp only[bG,M1,MT];by_cases h:0<=n
 ·rw[ik h,aj];by_cases h2:n<=1048576
  ·rw[p9 h2,aM ⟨h,h2⟩]
  ·rw[jO h2,cz (λx=>h2 x.2)]
 ·rw[eN h,ao,cz (λx=>h x.1)]
theorem OQ:xk.RS:=rE [.d ti] xk
def aip:=xk.gr aio
abbrev vy:=Lk×(List rI)×Int×Int
def kG:vy->AS:=λ(ab5,t7,t8,t9)=>⟨([cj,.eG I9 ab5,cj,.fn 50 (.nil),cj,cj,cj,.d (.slice pT) t7,.d ti t8,.d ti t9]++ba 47 []),[],(ai 57 [])⟩
def fh:Unit->Exit×AS:=λx=>(.ret,⟨([cj,cj,.d .bool aV]++ba 54 []),[],(ai 57 [])⟩)
def uD:Lk->Exit×AS:=λx=>(.exit 0,⟨([cj,.eG I9 x]++ba 55 []),[],(ai 57 [])⟩)
abbrev EA:=(Unit)⊕(Lk)
abbrev OV:=(Unit)⊕(Unit)
def AH:EA->Out (Exit×AS):=λx=> .br x.isLeft (.get x.getLeft? λa=> .ok (fh a)) (.get x.getRight? λb=> .ok (uD b))
def jC:vy->OV->EA:=λ(ab5,t7,t8,t9) y=>match y with | .inl y=> .inl y | .inr z=> .inr (ab5)
def uC:vy->Prop:=λ(l,bs,n,i)=>(∀b∈bs,aAg b)/\bs.length<=9223372036854775807/\n=bs.length/\∃k:Nat,k<=bs.length/\i=k
def l7:vy->OV:=λ(l,bs,n,i)=>if(bs.drop i.toNat).all Dw then .inr () else .inl ()
def air:Lk->Prop:=λl=>amm l/\l.1.length<=9223372036854775807
def yM:Lk->Bool:=λl=>ju l
def OU:=eA.iB kG uC jC l7 AH
def EB:vy->Option EA:=lg OU kG
def nB:Fs Tryz.prog air bG yM:=gf 17 Tryz.f17 (λl=>([.d I9 l],[])) (λx=>⟨.d .bool x,[],[]⟩) [au I9] [aip,aaV,ali] {loops:=th [(3,{bz:=[1,3,7,8,9]})],outs:=tg [(3,{bz:=[1]},{bz:=[2]})],iE:=uA [(3,OU)]}
def Ez:= @gw Tryz.prog (pS nB.G) nB.an 0 Tryz.f17 0 _ kG
abbrev Kr:=qu Tryz.prog (pS nB.G) nB.an 0 Tryz.f17 0 kG uC jC l7 AH
theorem VT:nK EB uC jC l7:=tR (sy [.d I9,.d (.slice pT),.d ti,.d ti] λ_=>cW)
theorem Ik:yd @Ez kG uC jC l7 AH Kr:=zr
theorem EC(ab5 t7 t8 t9)(kn:K2 R)(kx:K3 R):Ez (ab5,t7,t8,t9) kn kx=aP (iG t9 t8) (aP (iO t9 (((ae t7):Nat):Int)) (aP (wC (((ae (nth pT t7 (ab t9)).1):Nat):Int) (12:Int)) (kx (fh ()).1 (fh ()).2) (ax (tM.call (nth pT t7 (ab t9)).1) λx1=>aP (x1) (kx (fh ()).1 (fh ()).2) (ax (xk.call (nth pT t7 (ab t9)).2.1) λx2=>aP (!x2) (kx (fh ()).1 (fh ()).2) (ax (xk.call (nth pT t7 (ab t9)).2.2.1) λx3=>aP (!x3) (kx (fh ()).1 (fh ()).2) (aP (DF (nth pT t7 (ab t9)).2.2.2.1 (0:Int)) (ax (aei.call (nth pT t7 (ab t9)).2.2.2.1) λx4=>aP (x4) (kx (fh ()).1 (fh ()).2) (kn (kG (ab5,t7,t8,(bT .i64 t9 (1:Int)))))) (kn (kG (ab5,t7,t8,(bT .i64 t9 (1:Int)))))))))) aH) (kx (uD ab5).1 (uD ab5).2):=cW
theorem aor(l)(k:K1 R):nB.A l k=ax (EB (l,l.1,(l.1.length:Int),0)) λx5=>aP x5.isLeft (ax x5.getLeft? λa6=>k (nB.out aV)) (ax x5.getRight? λb7=>aP (wC (b7.1.length:Int) 0) (k (nB.out (aad (b7.1.length:Int) 4))) (k (nB.out aV))):=cW
theorem aax:Kr:=by
 refine Ik (λ(l,bs,n,i)=>bs.length - i.toNat) ?_
 rintro⟨l,bs,n,i⟩ ⟨hl,hb,rfl,k,hk,rfl⟩;have hb:bs.length<=9223372036854775807:=hb;have hk:k<=bs.length:=hk;by_cases h:k < bs.length
 ·have hx:aAg bs[k]:=hl _ (aZ h);have n1:nth (.pair (.slice (.int .u64)) (.pair (.int .i64) (.pair (.int .i64) (.pair (.int .u64) .unit)))) bs k=bs[k]:=db (t:=(.pair (.slice (.int .u64)) (.pair (.int .i64) (.pair (.int .i64) (.pair (.int .u64) .unit))))) h;have hd:(bs.drop k).all Dw=(Dw bs[k] && (bs.drop (k+1)).all Dw):=by rw[aA h,mY]
  have step:∀ {R:Type} (kn:AS->Option R) (kx:Exit->AS->Option R),Ez (l,bs,(bs.length:Int),(k:Int)) kn kx=aP (Dw bs[k]) (kn (kG (l,bs,(bs.length:Int),((k+1:Nat):Int)))) (kx (fh ()).1 (fh ()).2):=by
   intro R kn kx;rw[EC,bh aq,bB aq aq,aa,n1,N.pV aq];obtain⟨⟨ks,af,dl,sc,u⟩,aEt⟩:∃b,bs[k]=b:=⟨_,rfl⟩;rw[aEt]at hx ⊢;have h1:A8 ks:=hx.1;have h2:mm sc:=hx.2;simp only[aj,Dw];by_cases hk:ks.length<=12
   ·rw[cY aq,V6 (d:=ks) ⟨h1,aq⟩,OQ (d:=af) trivial,OQ (d:=dl) trivial,Sp (d:=sc) h2,aM hk];simp only[ao,ag,bG,Pg,bG,M1,bG,aal,dD];cases ks.all yI
    ·rfl
    cases MT af
    ·rfl
    cases MT dl
    ·rfl
    by_cases hs:sc=0
    ·rw[dX hs,aM hs];rfl
    ·rw[fY hs,cz hs];cases yI sc <;> rfl
   ·rw[dy aq,cz hk];rfl
  cases hp:Dw bs[k]
  ·right;refine⟨fh (),?_,λkn kx=> ?_⟩
   ·simp only[jC,l7,aa,hd,hp,jR,cd,cK];rfl
   ·rw[step,hp,ao]
  ·left;refine⟨(l,bs,bs.length,((k+1:Nat):Int)),⟨hl,hb,rfl,k+1,aq,rfl⟩,by simp only[aa];omega,?_,λkn kx=> ?_⟩
   ·simp only[jC,l7,aa,hd,hp,dD]
   ·rw[step,hp,aj]
 ·right;obtain rfl:k=bs.length:=aq;refine⟨uD l,?_,λkn kx=> ?_⟩
  ·simp only[jC,l7,aa,bj];rfl
  ·rw[EC];simp(disch:=omega) only[↓S1,↓if_pos,↓if_neg,if_pos,if_neg,cZ,cK,S2]
theorem aos:nB.Ok:=by
 rintro l ⟨hl,hb⟩;have hb:l.1.length<=9223372036854775807:=hb;rw[aor,VT (d:=(l,l.1,l.1.length,0)) ⟨hl,hb,rfl,0,aq,rfl⟩];simp only[ag,jC,l7,bO,aN,bG,yM,ju];cases l.1.all Dw
 ·rfl
 ·simp only[cZ,dD];show aP (wC _ _) _ _=_;by_cases h0:0 < l.1.length
  ·rw[dy aq];by_cases h4:l.1.length<=4
   ·rw[p9 aq,aM ⟨h0,h4⟩];rfl
   ·rw[jO aq,cz (λx=>h4 x.2)];rfl
  ·rw[cY aq,cz (λx=>h0 x.1)];rfl
theorem tE:nB.RS:=rE [.d I9] nB
def xX:=nB.gr aos 1 ⟨.iB aax,trivial⟩
def wy(m:List Int):List Int->List Sg->Bool
 |[],_=>aO
 |p::ps,ss=>ym p m 1 (ss.headD (0,0,())) && wy m ps ss.tail
def zX(l:Lk)(w:QQ)(m:List Int)(height age:Int):Int:=
 if ju l=aV\/w.1 < 0\/w.1>=l.1.length then 1
 else
  let b:=nth (.pair (.slice (.int .u64)) (.pair (.int .i64) (.pair (.int .i64) (.pair (.int .u64) .unit)))) l.1 w.1.toNat
  if height < b.2.1\/age < b.2.2.1 then 11
  else if b.2.2.2.1≠0/\eQ w.2.2.1≠b.2.2.2.1 then 23
  else if w.2.1.length≠b.1.length then 7
  else if wy m b.1 w.2.1 then 0 else 7
theorem aqF(m:List Int)(ks:List Int)(ss:List Sg)(h:ss.length=ks.length)(k:Nat)(hk:k < ks.length):wy m (ks.drop k) (ss.drop k)=(ym ks[k] m 1 (ss[k]'(aq)) && wy m (ks.drop (k+1)) (ss.drop (k+1))):=by rw[aA hk,aA (by omega:k < ss.length)];rfl
def Vm(w:QQ):Prop:=(∀s∈w.2.1,aBc s)/\mm w.2.2.1
abbrev yJ:=QQ×Bs×Bs×Int×Int
def oq:yJ->AS:=λ(akg,alq,t68,t69,t70)=>⟨(ba 6 ([.eG awZ akg,.eG tH alq]++ba 60 ([.d tU t68,.d ti t69,.d ti t70]++ba 14 []))),[],(ai 85 [])⟩
def ph:Unit->Exit×AS:=λx=>(.ret,⟨(ba 10 ([.d ti (7:Int)]++ba 74 [])),[],(ai 85 [])⟩)
def xm:Unit->Exit×AS:=λx=>(.exit 1,⟨(ba 85 []),[],(ai 85 [])⟩)
abbrev Ii:=(Unit)⊕(Unit)
abbrev SB:=(Unit)⊕(Unit)
def Cr:Ii->Out (Exit×AS):=λx=> .br x.isLeft (.get x.getLeft? λa=> .ok (ph a)) (.get x.getRight? λb=> .ok (xm b))
def kE:yJ->SB->Ii:=λ(akg,alq,t68,t69,t70) y=>match y with | .inl y=> .inl y | .inr z=> .inr (z)
abbrev aln:=Lk×QQ×Bs×Int×Int
def xl:yJ->Prop:=λ(w,m,ks,n,i)=>Vm w/\Sm m/\A8 ks/\ks.length<=1000000000/\w.2.1.length=ks.length/\n=ks.length/\∃k:Nat,k<=ks.length/\i=k
def oo:yJ->SB:=λ(w,m,ks,n,i)=>if wy m (ks.drop i.toNat) (w.2.1.drop i.toNat) then .inr () else .inl ()
def aom:aln->Prop:=λ(l,w,m,h,a)=>amm l/\l.1.length<=9223372036854775807/\Vm w/\Sm m
def aaq:aln->Int:=λ(l,w,m,h,a)=>zX l w m h a
def Sz:=eA.iB oq xl kE oo Cr
def uB:yJ->Option Ii:=lg Sz oq
def l6:Fs Tryz.prog aom bG aaq:=gf 123 Tryz.f123 (λ(l,wv,m,height,age)=>([.d I9 l,.d awZ wv,.d tH m,.d ti height,.d ti age],[])) (λx=>⟨.d ti x,[],[]⟩) [au I9,au awZ,au tH,au ti,au ti] [xX,KO,ajS] {loops:=th [(11,{bz:=[6,7,68,69,70]})],outs:=tg [(11,{},{bz:=[10]})],iE:=uA [(11,Sz)]}
def Ih:= @gw Tryz.prog (pS l6.G) l6.an 0 Tryz.f123 0 _ oq
abbrev OT:=qu Tryz.prog (pS l6.G) l6.an 0 Tryz.f123 0 oq xl kE oo Cr
theorem aar:nK uB xl kE oo:=tR (sy [.d awZ,.d tH,.d tU,.d ti,.d ti] λ_=>cW)
theorem Kq:yd @Ih oq xl kE oo Cr OT:=zr
theorem G1(akg alq t68 t69 t70)(kn:K2 R)(kx:K3 R):Ih (akg,alq,t68,t69,t70) kn kx=aP (iG t70 t69) (aP (iO t70 (((ae t68):Nat):Int)) (aP (iO t70 (((ae akg.2.1):Nat):Int)) (ax (CT.call ((nth tu t68 (ab t70)),alq,(nth LK akg.2.1 (ab t70)))) λx1=>aP (!x1) (kx (ph ()).1 (ph ()).2) (kn (oq (akg,alq,t68,t69,(bT .i64 t70 (1:Int)))))) aH) aH) (kx (xm ()).1 (xm ()).2):=cW
theorem atP(l wv m height age)(k:K1 R):l6.A (l,wv,m,height,age) k=ax (nB.call l) λx1=>aP (!x1) (k (l6.out 1)) (aP (iG wv.1 0) (k (l6.out 1)) (aP (zP wv.1 (l.1.length:Int)) (k (l6.out 1)) (aP (iO wv.1 (l.1.length:Int)) (aP (iG height (nth pT l.1 (ab wv.1)).2.1) (k (l6.out 11)) (aP (iG age (nth pT l.1 (ab wv.1)).2.2.1) (k (l6.out 11)) (aP (DF (nth pT l.1 (ab wv.1)).2.2.2.1 0) (ax (ER.call wv.2.2.1) λx2=>aP (DF x2 (nth pT l.1 (ab wv.1)).2.2.2.1) (k (l6.out 23)) (aP (DF (wv.2.1.length:Int) (((ae (nth pT l.1 (ab wv.1)).1):Nat):Int)) (k (l6.out 7)) (ax (uB (wv,m,(nth pT l.1 (ab wv.1)).1,(((ae (nth pT l.1 (ab wv.1)).1):Nat):Int),0)) λx4=>aP x4.isLeft (ax x4.getLeft? λa5=>k (l6.out 7)) (ax x4.getRight? λb6=>k (l6.out 0))))) (aP (DF (wv.2.1.length:Int) (((ae (nth pT l.1 (ab wv.1)).1):Nat):Int)) (k (l6.out 7)) (ax (uB (wv,m,(nth pT l.1 (ab wv.1)).1,(((ae (nth pT l.1 (ab wv.1)).1):Nat):Int),0)) λx7=>aP x7.isLeft (ax x7.getLeft? λa8=>k (l6.out 7)) (ax x7.getRight? λb9=>k (l6.out 0))))))) aH))):=cW
theorem aep:OT:=by
 refine Kq (λ(w,m,ks,n,i)=>ks.length - i.toNat) ?_
 rintro⟨w,m,ks,n,i⟩ ⟨hw,hm,hl,hb,hs,rfl,k,hk,rfl⟩;have hb:ks.length<=1000000000:=hb;have hk:k<=ks.length:=hk;have hs:w.2.1.length=ks.length:=hs;by_cases h:k < ks.length
 ·have hx:=hl _ (aZ h);have hy:=hw.1 _ (aZ (by omega:k < w.2.1.length));have n1:nth (.int .u64) ks k=ks[k]:=db (t:= .int .u64) h;have n2:nth (.pair (.int .u64) (.pair (.int .u64) .unit)) w.2.1 k=w.2.1[k]'(aq):=db (t:=(.pair (.int .u64) (.pair (.int .u64) .unit))) aq;have hd:=aqF m ks w.2.1 hs k h;have step:∀ {R:Type} (kn:AS->Option R) (kx:Exit->AS->Option R),Ih (w,m,ks,(ks.length:Int),(k:Int)) kn kx=aP (ym ks[k] m 1 (w.2.1[k]'(aq))) (kn (oq (w,m,ks,(ks.length:Int),((k+1:Nat):Int)))) (kx (ph ()).1 (ph ()).2):=by intro R kn kx;rw[G1,bh aq,bB aq aq,bB aq aq,aa,n1,n2,N.pV aq,af0 (d:=(ks[k],m,w.2.1[k]'(aq))) ⟨hx,hm,hy⟩];simp only[aj,ag,bG,YK];cases ym ks[k] m 1 (w.2.1[k]'(aq)) <;> rfl
  cases hp:ym ks[k] m 1 (w.2.1[k]'(aq))
  ·right;refine⟨ph (),?_,λkn kx=> ?_⟩
   ·simp only[kE,oo,aa,hd,hp,jR,cd,cK];rfl
   ·rw[step,hp,ao]
  ·left;refine⟨(w,m,ks,ks.length,((k+1:Nat):Int)),⟨hw,hm,hl,hb,hs,rfl,k+1,aq,rfl⟩,by simp only[aa];omega,?_,λkn kx=> ?_⟩
   ·simp only[kE,oo,aa,hd,hp,dD]
   ·rw[step,hp,aj]
 ·right;obtain rfl:k=ks.length:=aq;refine⟨xm (),?_,λkn kx=> ?_⟩
  ·simp only[kE,oo,aa,bj];rfl
  ·rw[G1];simp(disch:=omega) only[↓S1,↓if_pos,↓if_neg,if_pos,if_neg,cZ,cK,S2]
theorem aoi{l:Lk}(h:ju l=aO){b:rI}(hb:b∈l.1):b.1.length<=12:=by unfold ju at h;rw[al,dj]at h;have:=h.1 b hb;unfold Dw at this;rw[al]at this;simpa using this.1
theorem atQ:l6.Ok:=by
  rintro⟨l,w,m,h,a⟩ ⟨hl,hb,hw,hm⟩;have hl:amm l:=hl;have hb:l.1.length<=9223372036854775807:=hb;have hw:Vm w:=hw;have hm:Sm m:=hm;rw[atP,tE (d:=l) ⟨hl,hb⟩];simp only[ag,bG,yM,bG,aaq,zX];cases iS:ju l
  · rw[if_pos (kQ rfl)];rfl
  by_cases h0:w.1 < 0
  · rw[bh h0,if_pos (fj (kQ h0))];rfl
  by_cases h1:w.1>=l.1.length
  · rw[aW h0,ik h1,if_pos (fj (fj h1))];rfl
  rw[aW h0,eN h1,bB aq aq,if_neg (by simp[h0];omega)];have hn:w.1.toNat < l.1.length:=aq;have n1:nth (.pair (.slice (.int .u64)) (.pair (.int .i64) (.pair (.int .i64) (.pair (.int .u64) .unit)))) l.1 w.1.toNat=l.1[w.1.toNat]:=db (t:=(.pair (.slice (.int .u64)) (.pair (.int .i64) (.pair (.int .i64) (.pair (.int .u64) .unit))))) hn;rw[n1];have hx:aAg l.1[w.1.toNat]:=hl _ (aZ hn);have aEN:=aoi iS (aZ hn);obtain⟨⟨ks,af,dl,sc,u⟩,aEt⟩:∃b,l.1[w.1.toNat]=b:=⟨_,rfl⟩;rw[aEt]at hx aEN ⊢;have aB6:A8 ks:=hx.1;have aEN:ks.length<=12:=aEN;simp only[bR,ao,aj];by_cases e1:h < af
  · rw[bh e1,if_pos (kQ e1)];rfl
  by_cases e2:a < dl
  · rw[aW e1,bh e2,if_pos (fj e2)];rfl
  rw[aW e1,aW e2,if_neg (by simp[e1,e2]),BI (d:=w.2.2.1) hw.2];simp only[ao,ag,bG,KN]
  have last:aP (DF ((w.2.1.length:Nat):Int) ((ks.length:Nat):Int)) (au (l6.out (7:Int))) (
          ax (uB (w,m,ks,((ks.length:Nat):Int),(0:Int))) λx4=>
          aP (x4.isLeft) (ax (x4.getLeft?) λa5=>au (l6.out (7:Int))) (ax (x4.getRight?) λb6=>au (l6.out (0:Int))))=au (l6.out (if w.2.1.length≠ks.length then 7 else if wy m ks w.2.1 then 0 else 7)):=by
    by_cases e3:w.2.1.length=ks.length
    · rw[dX aq,if_neg (by simp[e3]),ao,aar (d:=(w,m,ks,ks.length,0)) ⟨hw,hm,aB6,by show ks.length<=1000000000;omega,e3,rfl,0,aq,rfl⟩]
      simp only[ag,kE,oo,bO,aN];cases wy m ks w.2.1 <;> rfl
    · rw[fY aq,if_pos e3];rfl
  by_cases e4:sc=0
  · rw[dX e4,if_neg (by simp[e4]),ao]
    exact last
  · rw[fY e4,aj]
    by_cases e5:eQ w.2.2.1=sc
    · rw[dX e5,if_neg (by simp[e5]),ao]
      exact last
    · rw[fY e5,if_pos ⟨e4,e5⟩];rfl
theorem aon:l6.RS:=rE [.d I9,.d awZ,.d tB,.d ti,.d ti] l6
def atS:=l6.gr atQ 1 ⟨.iB aep,trivial⟩
def amz:Int->Prop:=λn=>∃k:Nat,n=k/\k<=100000000
def aku:Int->(Nat×(List Int)):=λn=>(0,ai n.toNat 0)
def NY:Fs Tryz.prog amz bG aku:=gf 143 Tryz.f143 (λn=>([.dd,.d ti n],[])) (λx=>⟨.cM (.new 0 0) 0 [] 0 0 x.1,[],[.obj 0 aV (.vec 5 tb x.2)]⟩) [aH,au ti] [] {owns:=[⟨4,[],22,103⟩]}
theorem art(n)(k:K1 R):NY.A n k=aP (iG n 0) (aH) (aP (wC (ed .i64 n 0) 0) (aP (decide (0 < (ed .i64 n 0)) && dI (ab (ed .i64 n 0)) 1) (aP (inc 0 (((ab (ed .i64 n 0)):Nat):Int)) (k (NY.out (0,(ai (ab (ed .i64 n 0)) 0)))) aH) aH) (k (NY.out (0,([]:List Int))))):=cW
theorem aru:NY.Ok:=by
 rintro n ⟨k,rfl,hk⟩;have e:ed .i64 (k:Int) 0=(k:Int):=by rw[eV aq aq];omega
 rw[art,e,aW aq,ao];by_cases h:0 < k
 ·rw[dy aq,aa,aM aq,dN aq aq,lJ aq aq];rfl
 ·obtain rfl:k=0:=aq;rfl
theorem amA:NY.RS:=rE [.d ti] NY
def arv:=NY.gr aru
def sz(l:List (List Int)):Nat:=l.flatten.length
def VA(n:Nat)(l:List Int):List (List Int)->Nat×List Int
 |[]=>(n,l)
 |s::r=>(n+(s::r).flatten.length,l.take n++(s::r).flatten)
theorem am1(n:Nat)(l s:List Int)(r:List (List Int))(h:n<=l.length):VA n l (s::r)=VA (n+s.length) (l.take n++s) r:=by
 have hl:(l.take n++s).length=n+s.length:=by rw[ak,bZ];omega
 cases r with
 |nil=>simp[VA]
 |cons t r=>
  simp only[VA];rw[bH (Nat.le_of_eq hl)];simp only[hJ,ak,aK,dZ]
theorem axJ(n:Nat)(z:List Int)(r:List (List Int)):(VA 0 z r).1<=(VA 0 z r).2.length/\cut (VA 0 z r).2 0 (VA 0 z r).1=r.flatten:=by
 cases r with
 |nil=>exact⟨aS _,rfl⟩
 |cons s r=>
  simp only[VA,fb,aT,aU];exact⟨aC _,by show bk _ (dr 0 _)=_;rw[aN,bU]⟩
abbrev BV:=(List Bs)×Int×(List Bs)×Int×Int
def rW:BV->Int->(((List Bs))×(Int)):=λ(za,size,t9,t10,t11) y=>(za,y)
abbrev Ji:=Nat×(List Bs)×Int×Int×(List Int)
def DK:BV->Prop:=λ(s,size,t,n,i)=>s.length<=1000000/\t=s/\n=s.length/\∃k z:Nat,k<=s.length/\i=k/\size=z/\z+sz (s.drop k)<=100000000
def wL:BV->Int:=λ(s,size,t,n,i)=>((size:Int)+((sz (s.drop i.toNat):Nat):Int):Int)
def DL:Ji->Prop:=λ(n,s,t,i,l)=>s.length<=1000000/\n<=l.length/\t=s.length/\∃k:Nat,k<=s.length/\i=k/\n+sz (s.drop k)<=100000000
def wM:Ji->(Nat×(List Int)):=λ(n,s,t,i,l)=>VA n l (s.drop i.toNat)
def acx:(List Bs)->Prop:=λs=>s.length<=1000000/\sz s<=100000000
def Mh:(List Bs)->Bs:=λs=>s.flatten
def mn:Ls DK rW wL:=wh (λ(za,size,t9,t10,t11)=>⟨([.d (.slice tB) za,cj,cj,.d ti size]++ba 5 ([.d (.slice tB) t9,.d ti t10,.d ti t11]++ba 24 [])),[],(ai 36 [])⟩) (λx=>(.exit 0,⟨([.d (.slice tB) x.1,cj,cj,.d ti x.2]++ba 32 []),[],(ai 36 [])⟩))
def mq:Ls DL bG wM:=wh (λ(newsliceL,t25,t26,t27,n24)=>⟨(ba 6 ([lq 24 newsliceL]++ba 18 ([.d (.slice tB) t25,.d ti t26,.d ti t27]++ba 8 []))),[],(bC 24 ([dz (.vec 5 tb n24)]++bC 11 []))⟩) (λx=>(.exit 2,⟨(ba 6 ([lq 24 x.1]++ba 29 [])),[],(bC 24 ([dz (.vec 5 tb x.2)]++bC 11 []))⟩))
def nD:Fs Tryz.prog acx bG Mh:=gf 110 Tryz.f110 (λslices=>([.d (.slice tB) slices],[])) (λx=>⟨.d tB x,[],[]⟩) [au (.slice tB)] [arv] {loops:=th [(3,{bz:=[0,3,9,10,11]}),(11,{bz:=[6,25,26,27],sites:=[24],owns:=[⟨6,[],24,103⟩]})],outs:=tg [(3,{bz:=[0,3]},{bz:=[2]}),(11,{bz:=[6],sites:=[24]},{bz:=[2]})],iE:=uA [(3,mn.E),(11,mq.E)],res:=[au tB]}
theorem QX:mn.RS:=rL [.d (.slice tB),.d ti,.d (.slice tB),.d ti,.d ti] mn
theorem C5(za size t9 t10 t11)(kn:K2 R)(kx:K3 R):nD.R 0 mn (za,size,t9,t10,t11) kn kx=aP (iG t11 t10) (aP (iO t11 (t9.length:Int)) (aP (iG (bT .i64 size (((ae (nth tB t9 (ab t11))):Nat):Int)) 0) (aH) (kn (mn.st (za,(bT .i64 size (((ae (nth tB t9 (ab t11))):Nat):Int)),t9,t10,(bT .i64 t11 1))))) aH) (mn.go kx (za,size)):=cW
theorem QY:mq.RS:=rL [.n,.d (.slice tB),.d ti,.d ti,.d tB] mq
theorem C6(newsliceL t25 t26 t27 n24)(kn:K2 R)(kx:K3 R):nD.R 1 mq (newsliceL,t25,t26,t27,n24) kn kx=aP (iG t27 t26) (aP (iO t27 (t25.length:Int)) (aP (decide (newsliceL<=(ae n24))) (aP (dI (newsliceL+(ae (nth tB t25 (ab t27)))) 1) (kn (mq.st ((newsliceL+(ae (nth tB t25 (ab t27)))),t25,t26,(bT .i64 t27 1),((bk newsliceL n24)++(nth tB t25 (ab t27)))))) aH) aH) aH) (mq.go kx (newsliceL,n24)):=cW
theorem agQ(slices)(k:K1 R):nD.A slices k=ax (mn.call (slices,0,slices,(slices.length:Int),0)) λx1=>ax (NY.call x1.2) λx2=>ax (mq.call (x2.1,x1.1,(x1.1.length:Int),0,x2.2)) λx3=>aP (decide (0=0/\(0+x3.1)<=(ae x3.2))) (k (nD.out (cut x3.2 0 x3.1))) aH:=cW
theorem alk(s:List (List Int))(k:Nat)(h:k < s.length):sz (s.drop k)=s[k].length+sz (s.drop (k+1)):=by unfold sz;rw[aA h,hJ,ak]
theorem Vp:(nD.mN 0 mn):=by
 refine(nD.px 0 mn) (λ(s,size,t,n,i)=>s.length - i.toNat) ?_
 rintro⟨s,size,t,n,i⟩ ⟨hs,rfl,rfl,k,z,hk,rfl,rfl,hz⟩;have hs:t.length<=1000000:=hs;have hk:k<=t.length:=hk;have hz:z+sz (t.drop k)<=100000000:=hz;by_cases h:k < t.length
 ·left;have n1:nth (.slice (.int .u8)) t k=t[k]:=db (t:= .slice (.int .u8)) h;have hd:=alk t k h;refine⟨(t,((z+t[k].length:Nat):Int),t,t.length,((k+1:Nat):Int)),⟨hs,rfl,rfl,k+1,z+t[k].length,aq,rfl,rfl,aq⟩,by simp only[aa];omega,?_,λkn kx=> ?_⟩
  ·simp only[rW,wL,aa];rw[hd];refine bK _ ?_
   omega
  ·rw[C5];simp(disch:=omega) only[↓S1,↓if_pos,↓if_neg,if_pos,if_neg,cZ,cK,S2,n1]
 ·right;obtain rfl:k=t.length:=aq;intro R kn kx;rw[C5];simp(disch:=omega) only[↓S1,↓if_pos,↓if_neg,if_pos,if_neg,cZ,cK,S2,rW,wL,bj];simp only[sz,lD,bw,Int.natCast_zero,rN]
theorem Vq:(nD.mN 1 mq):=by
 refine(nD.px 1 mq) (λ(n,s,t,i,l)=>s.length - i.toNat) ?_
 rintro⟨n,s,t,i,l⟩ ⟨hs,hn,rfl,k,hk,rfl,hz⟩;have hs:s.length<=1000000:=hs;have hn:n<=l.length:=hn;have hk:k<=s.length:=hk;have hz:n+sz (s.drop k)<=100000000:=hz;by_cases h:k < s.length
 ·left;have n1:nth (.slice (.int .u8)) s k=s[k]:=db (t:= .slice (.int .u8)) h;have hd:=alk s k h;refine⟨(n+s[k].length,s,s.length,((k+1:Nat):Int),l.take n++s[k]),⟨hs,by rw[ak,bZ];omega,rfl,k+1,aq,rfl,aq⟩,by simp only[aa];omega,?_,λkn kx=> ?_⟩
  ·simp only[bG,wM,aa];rw[aA h,am1 _ _ _ _ hn]
  ·rw[C6];simp(disch:=omega) only[↓S1,↓if_pos,↓if_neg,if_pos,if_neg,cZ,cK,S2,n1]
 ·right;obtain rfl:k=s.length:=aq;intro R kn kx;rw[C6];simp(disch:=omega) only[↓S1,↓if_pos,↓if_neg,if_pos,if_neg,cZ,cK,S2,bG,wM,bj];rfl
theorem agR:nD.Ok:=by rintro s ⟨hs,hz⟩;have hs:s.length<=1000000:=hs;have hz:sz s<=100000000:=hz;have p1:DK (s,0,s,s.length,0):=⟨hs,rfl,rfl,0,0,aq,rfl,rfl,by rw[aN];omega⟩;have p2:DL (0,s,s.length,0,ai (sz s) 0):=⟨hs,aq,rfl,0,aq,rfl,by rw[aN];omega⟩;rw[agQ,QX p1];simp only[ag,rW,wL,bO,aN,Int.zero_add];rw[amA (d:=((sz s:Nat):Int)) ⟨sz s,rfl,hz⟩];simp only[ag,bG,aku,aa];rw[QY p2];simp only[ag,bG,wM,bO,aN];obtain⟨c1,c2⟩:=axJ 0 (ai (sz s) 0) s;simp only[aU,c1,lH,cQ,aj,c2];rfl
theorem NW:nD.RS:=rE [.d (.slice tB)] nD
def QZ:=nD.gr agR 2 ⟨.iB Vp,⟨.iB Vq,trivial⟩⟩
def W9:(Bs×Bs)->Prop:=λ(a,b)=>a.length+b.length<=100000000
def Zl:(Bs×Bs)->Bs:=λ(a,b)=>a++b
def D6:Fs Tryz.prog W9 bG Zl:=gf 108 Tryz.f108 (λ(b,more)=>([.d tB b,.d tB more],[])) (λx=>⟨.d tB x,[],[]⟩) [au tB,au tB] [QZ]
theorem arL(b more)(k:K1 R):D6.A (b,more) k=ax (nD.call [b,more]) λx1=>k (D6.out x1):=cW
theorem arM:D6.Ok:=by rintro⟨a,b⟩ h;have h:a.length+b.length<=100000000:=h;rw[arL,NW (d:=[a,b]) ⟨by show [a,b].length<=_;simp,by show sz [a,b]<=_;simp only[sz,hJ,lD,bo,ak];omega⟩];simp only[ag,bG,Mh,bG,Zl,hJ,lD,bo]
theorem FX:D6.RS:=rE [.d tB,.d tB] D6
def Rc:=D6.gr arM
def gH:Nat->Int->List Int×Int
 | 0,n=>([],n)
 |f+1,n=>if 128<=n then((n%128+128)::(gH f (n / 128)).1,(gH f (n / 128)).2) else([],n)
def iD(n:Int):List Int:=(gH 10 n).1++ [(gH 10 n).2]
theorem Gl:∀(f g:Nat) (n:Int),n < 128^(f+1)->n < 128^(g+1)->gH f n=gH g n
 | 0,0,n,_,_=>rfl
 | 0,g+1,n,h,_=>by have h:n < 128:=h;rw[gH,gH,if_neg aq]
 |f+1,0,n,_,h=>by have h:n < 128:=h;rw[gH,gH,if_neg aq]
 |f+1,g+1,n,h,h'=>by
  rw[gH,gH];split
  ·have e:(128:Int)^(f+1+1)=128^(f+1)*128:=gg 128 (f+1);have e':(128:Int)^(g+1+1)=128^(g+1)*128:=gg 128 (g+1);rw[Gl f g (n / 128) aq aq]
  ·rfl
theorem Uj:∀(f:Nat) (n:Int),(gH f n).1.length<=f
 | 0,_=>aC _
 |f+1,n=>by
  rw[gH];split
  ·have:=Uj f (n / 128);simp only[aB];omega
  ·exact aS _
theorem Yy:∀(f:Nat) (n:Int),0<=n->n < 128^(f+1)->0<=(gH f n).2/\(gH f n).2 < 128
 | 0,n,h,h'=>by have h':n < 128:=h';exact⟨h,h'⟩
 |f+1,n,h,h'=>by
  rw[gH];have e:(128:Int)^(f+1+1)=128^(f+1)*128:=gg 128 (f+1);split
  ·exact Yy f (n / 128) aq aq
  ·exact⟨h,aq⟩
theorem apQ{n:Int}(h:128<=n)(h2:n<=9223372036854775807):gH 10 n=((n%128+128)::(gH 10 (n / 128)).1,(gH 10 (n / 128)).2):=by have e:(128:Int)^(9+1)=1180591620717411303424:=rfl;have e2:(128:Int)^(10+1)=151115727451828646838272:=rfl;rw[gH,if_pos h,Gl 9 10 (n / 128) (by rw[e];omega) (by rw[e2];omega)]
theorem mV(n:Int):(iD n).length<=11:=by have:=Uj 10 n;unfold iD;simp only[ak,aB,bw];omega
def Dv(n:Int):Prop:=0<=n/\n<=9223372036854775807
abbrev Xk:=Int×Nat×(List Int)
def Oj:Xk->Prop:=λ(n,m,l)=>Dv n/\m=l.length/\l.length<=1000+0*n.toNat/\l.length+(gH 10 n).1.length<=100
def FY:Xk->(Int×Nat×(List Int)):=λ(n,m,l)=>((gH 10 n).2,(l++(gH 10 n).1).length,l++(gH 10 n).1)
def asj:Int->Prop:=λn=>Dv n
def ahu:Int->Bs:=λn=>iD n
def wP:Ls Oj bG FY:=wh (λ(G4,outL,n14)=>⟨([.d ti G4,cj,cj,lq 14 outL]++ba 16 []),[],(bC 14 ([dz (.vec 5 tb n14)]++bC 5 []))⟩) (λx=>(.exit 0,⟨([.d ti x.1,cj,cj,lq 14 x.2.1]++ba 16 []),[],(bC 14 ([dz (.vec 5 tb x.2.2)]++bC 5 []))⟩))
def Rt:Fs Tryz.prog asj bG ahu:=gf 109 Tryz.f109 (λn=>([.d ti n],[])) (λx=>⟨.d tB x,[],[]⟩) [au ti] [] {loops:=th [(2,{bz:=[0,3],sites:=[14],owns:=[⟨3,[],14,103⟩]})],outs:=tg [(2,{bz:=[0,3],sites:=[14]},{bz:=[2]})],iE:=uA [(2,wP.E)],res:=[au tB]}
theorem ac8:wP.RS:=rL [.d ti,.n,.d tB] wP
theorem JD(G4 outL n14)(kn:K2 R)(kx:K3 R):Rt.R 0 wP (G4,outL,n14) kn kx=aP (zP G4 128) (aP (decide (outL<=(ae n14))) (aP (dI (outL+1) 1) (kn (wP.st ((AE .i64 G4 128),(outL+1),((bk outL n14)++ [(dP .u8 (bT .i64 (tC G4 128) 128))])))) aH) aH) (wP.go kx (G4,outL,n14)):=cW
theorem axH(n)(k:K1 R):Rt.A n k=ax (wP.call (n,0,([]:List Int))) λx1=>aP (decide (x1.2.1<=(ae x1.2.2))) (aP (dI (x1.2.1+1) 1) (aP (decide (0=0/\(0+(x1.2.1+1))<=(ae ((bk x1.2.1 x1.2.2)++ [(dP .u8 x1.1)])))) (k (Rt.out (cut ((bk x1.2.1 x1.2.2)++ [(dP .u8 x1.1)]) 0 (x1.2.1+1)))) aH) aH) aH:=cW
theorem asz{n:Int}(h:Dv n):dP .u8 (bT .i64 (tC n 128) 128)=n%128+128:=by have h1:=h.1;rw[Ga h.1,eU aq aq,aac,lR];omega
theorem ahv:(Rt.mN 0 wP):=by
 refine(Rt.px 0 wP) (λ(n,m,l)=>n.toNat) ?_
 rintro⟨n,m,l⟩ ⟨hn,rfl,hl,hz⟩;have hn:Dv n:=hn;have hz:l.length+(gH 10 n).1.length<=100:=hz;have h1:=hn.1;have h2:=hn.2;by_cases h:128<=n
 ·left;have e:=apQ h h2;have hq:AE .i64 n 128=n / 128:=by rw[AE,jT h1];exact pZ aq aq
  have el:((n%128+128)::(gH 10 (n / 128)).1).length=(gH 10 (n / 128)).1.length+1:=aB;rw[e]at hz;have hz:l.length+((n%128+128)::(gH 10 (n / 128)).1).length<=100:=hz;rw[el]at hz;refine⟨(n / 128,l.length+1,l++ [n%128+128]),⟨⟨aq,aq⟩,by rw[ak];rfl,by rw[ak];simp only[aB,bw];omega,by rw[ak];simp only[aB,bw];omega⟩,by simp only[];omega,?_,λkn kx=> ?_⟩
  ·simp only[bG,FY,e,aK,oQ,aT]
  ·rw[JD,ik h,asz hn,hq];simp(disch:=omega) only[↓S1,↓if_pos,↓if_neg,if_pos,if_neg,cZ,cK,S2,aC,bU]
 ·right;have e:gH 10 n=([],n):=by rw[gH,if_neg h]
  intro R kn kx;rw[JD,eN h];simp only[ao,bG,FY,e,bo]
theorem axI:Rt.Ok:=by
 intro n hn;have hn:Dv n:=hn;have hl:=Uj 10 n;have e2:(128:Int)^(10+1)=151115727451828646838272:=rfl;have hd:=Yy 10 n hn.1 (by have:=hn.2;rw[e2];omega);have p:Oj (n,0,[]):=⟨hn,rfl,by simp,by simp only[bw];omega⟩;have hi:dP .u8 (gH 10 n).2=(gH 10 n).2:=by rw[aac,lR];omega
 rw[axH,ac8 p];simp only[ag,bG,FY,aT,hi,bU,aC,cQ,aj];rw[dN aq aq];simp only[aj,aU,ak,aB,bw,aC,lH,cQ];rw[fA (by rw[ak];rfl)];rfl
theorem ac9:Rt.RS:=rE [.d ti] Rt
def akJ:=Rt.gr axI 1 ⟨.iB ahv,trivial⟩
def eX(b:List Int)(n:Int):List Int:=if n < 0 then b else b++iD n
theorem gS(b:List Int)(n:Int):(eX b n).length<=b.length+11:=by
 unfold eX;have:=mV n;split
 ·omega
 ·rw[ak];omega
def asa:(Bs×Int)->Prop:=λ(b,n)=>b.length<=90000000/\n<=9223372036854775807
def v8:(Bs×Int)->Bs:=λ(b,n)=>eX b n
def Dy:Fs Tryz.prog asa bG v8:=gf 71 Tryz.f71 (λ(b,n)=>([.d tB b,.d ti n],[])) (λx=>⟨.d tB x,[],[]⟩) [au tB,au ti] [Rc,akJ]
theorem axF(b n)(k:K1 R):Dy.A (b,n) k=aP (iG n 0) (ax (D6.call (b,([]:List Int))) λx1=>k (Dy.out x1)) (ax (Rt.call n) λx2=>ax (D6.call (b,x2)) λx3=>k (Dy.out x3)):=cW
theorem axG:Dy.Ok:=by
 rintro⟨b,n⟩ ⟨hb,hn⟩;have hb:b.length<=90000000:=hb;have hn:n<=9223372036854775807:=hn;rw[axF];simp only[bG,v8,eX];by_cases h:n < 0
 ·rw[bh h,if_pos h,aj,FX (d:=(b,[])) (by show b.length+([]:List Int).length<=_;simp only[bw];omega)];simp only[ag,bG,Zl,bo]
 ·have hl:=mV n;rw[aW h,if_neg h,ao,ac9 (d:=n) ⟨aq,hn⟩];simp only[ag,bG,ahu];rw[FX (d:=(b,iD n)) (by show b.length+(iD n).length<=_;omega)];rfl
theorem nW:Dy.RS:=rE [.d tB,.d ti] Dy
def Zu:=Dy.gr axG
def anm:(Bs×Int)->Prop:=λ(b,n)=>b.length<=90000000
def JC:(Bs×Int)->Bs:=λ(b,n)=>b++lS n
def Ed:Fs Tryz.prog anm bG JC:=gf 111 Tryz.f111 (λ(b,n)=>([.d tB b,.d tu n],[])) (λx=>⟨.d tB x,[],[]⟩) [au tB,au tu] [Rc] {loops:=th [(3,{bz:=[0,1,5,7],sites:=[5,21]})],outs:=tg [(3,{bz:=[0,5],sites:=[5,21]},{bz:=[4],sites:=[5,21]})]} 12
theorem ash(b n)(k:K1 R):Ed.A (b,n) k=ax (D6.call (b,[(dP .u8 (cR .u64 n 56)),(dP .u8 (cR .u64 n 48)),(dP .u8 (cR .u64 n 40)),(dP .u8 (cR .u64 n 32)),(dP .u8 (cR .u64 n 24)),(dP .u8 (cR .u64 n 16)),(dP .u8 (cR .u64 n 8)),(dP .u8 (cR .u64 n 0))])) λx1=>k (Ed.out x1):=cW
theorem asi:Ed.Ok:=by
 rintro⟨b,n⟩ hb;have hb:b.length<=90000000:=hb;have p:W9 (b,lS n):=by show b.length+(lS n).length<=_;rw[dv];omega
 have e:D6.call (b,[dP .u8 (cR .u64 n 56),dP .u8 (cR .u64 n 48),dP .u8 (cR .u64 n 40),dP .u8 (cR .u64 n 32),dP .u8 (cR .u64 n 24),dP .u8 (cR .u64 n 16),dP .u8 (cR .u64 n 8),dP .u8 (cR .u64 n 0)])=au (b++lS n):=by rw[acA];exact FX p
 rw[ash];refine Eq.trans (bK (λx=>ax x _) e) ?_
 rfl
theorem Bk:Ed.RS:=rE [.d tB,.d tu] Ed
def ac7:=Ed.gr asi 1 ⟨.none cW,trivial⟩
def Dt(w:QQ):Bool:=decide (0<=w.1/\w.1 < 4) && decide (w.2.1.length<=12)
def MW(x:gU):Bool:=decide (0<=x.1.2.1/\x.1.2.1 < 64) && Dt x.2.1
def GW(m:List (dC×Bool))(x:gU):Bool:=(cE cV x.1 m).getD aV
def By:List (dC×Bool)->List gU->Bool
 |_,[]=>aO
 |m,x::l=>(!(GW m x) && MW x) && By (eM cV x.1 aO m) l
def pN(a:Int):Bool:=decide (0<=a/\a<=1125899906842624)
def rU(a b:Int):Bool:=pN a && (pN b && decide (a+b<=1125899906842624))
def yV:Int->List jo->Bool
 |_,[]=>aO
 |s,o::l=>(rU s o.1 && ju o.2.1) && yV (s+o.1) l
def NP(t:fN):Bool:=decide (1<=t.1.length/\t.1.length<=64/\t.2.1.length<=64/\0<=t.2.2.1)
def iF(t:fN):Bool:=NP t && (By [] t.1 && yV 0 t.2.1)
def agE(l:Lk):Prop:=amm l/\l.1.length<=9223372036854775807
def aD7(t:fN):Prop:=(∀o∈t.2.1,agE o.2.1)/\t.1.length<=9223372036854775807/\t.2.1.length<=9223372036854775807
def awx:QQ->Prop:=λ_=>True
def abR:QQ->Bool:=λw=>Dt w
def WM:Fs Tryz.prog awx bG abR:=gf 68 Tryz.f68 (λwv=>([.d awZ wv],[])) (λx=>⟨.d .bool x,[],[]⟩) [au awZ]
theorem azZ(wv)(k:K1 R):WM.A wv k=aP (zP wv.1 0) (aP (iG wv.1 4) (k (WM.out (aad (wv.2.1.length:Int) 12))) (k (WM.out aV))) (k (WM.out aV)):=cW
theorem az0:WM.Ok:=by
 rintro⟨b,ss,sc,u⟩ _;rw[azZ];simp only[bG,abR,Dt];by_cases h:0<=b
 ·rw[ik h,aj];by_cases h2:b < 4
  ·rw[bh h2,aj,aM ⟨h,h2⟩];by_cases h3:ss.length<=12
   ·rw[p9 aq,aM h3];rfl
   ·rw[jO aq,cz h3];rfl
  ·rw[aW h2,ao,cz (λx=>h2 x.2)];rfl
 ·rw[eN h,ao,cz (λx=>h x.1)];rfl
theorem agk:WM.RS:=rE [.d awZ] WM
def amc:=WM.gr az0
def aiD:Int->Prop:=λ_=>True
def KF:Int->Bool:=λa=>pN a
def AK:Fs Tryz.prog aiD bG KF:=gf 99 Tryz.f99 (λa=>([.d ti a],[])) (λx=>⟨.d .bool x,[],[]⟩) [au ti]
theorem aoB(a)(k:K1 R):AK.A a k=aP (zP a 0) (k (AK.out (aad a 1125899906842624))) (k (AK.out aV)):=cW
theorem aoC:AK.Ok:=by
 intro(a:Int) _;rw[aoB];simp only[bG,KF,pN];by_cases h:0<=a
 ·rw[ik h,aj];by_cases h2:a<=1125899906842624
  ·rw[p9 h2,aM ⟨h,h2⟩]
  ·rw[jO h2,cz (λx=>h2 x.2)]
 ·rw[eN h,ao,cz (λx=>h x.1)]
theorem Is:AK.RS:=rE [.d ti] AK
def Ya:=AK.gr aoC
def at8:(Int×Int)->Prop:=λ_=>True
def Nc:(Int×Int)->(Int×Bool):=λ(a,b)=>(bif rU a b then a+b else 0,rU a b)
def Qd:Fs Tryz.prog at8 bG Nc:=gf 63 Tryz.f63 (λ(a,b)=>([.d ti a,.d ti b],[])) (λx=>⟨.cons (.d ti x.1) (.cons (.d .bool x.2) (.nil)),[],[]⟩) [au ti,au ti] [Ya]
theorem ayN(a b)(k:K1 R):Qd.A (a,b) k=ax (AK.call a) λx1=>aP (!x1) (k (Qd.out (0,aV))) (ax (AK.call b) λx2=>aP (!x2) (k (Qd.out (0,aV))) (aP (wC a (ed .i64 1125899906842624 b)) (k (Qd.out (0,aV))) (k (Qd.out ((bT .i64 a b),aO))))):=cW
theorem ayO:Qd.Ok:=by
 rintro⟨a,b⟩ _;rw[ayN,Is (d:=a) trivial,Is (d:=b) trivial];simp only[ag,bG,KF,bG,Nc,rU];cases ha:pN a
 ·rfl
 ·cases hb:pN b
  ·rfl
  ·simp only[pN,aR]at ha hb;simp only[bR,ao,dD];rw[eV aq aq];by_cases h:a+b<=1125899906842624
   ·rw[cY aq,ao,aM h,eU aq aq];rfl
   ·rw[dy aq,aj,cz h];rfl
theorem Ti:Qd.RS:=rE [.d ti,.d ti] Qd
def aaH:=Qd.gr ayO
abbrev vU:=fN×(List gU)×Int×Int×(List (dC×Bool))
def mI:vU->AS:=λ(rC,t33,t34,t35,n31)=>⟨([cj,.eG jk rC,cj,.dM (.new 31 0) 0]++ba 29 ([.d (.slice gB) t33,.d ti t34,.d ti t35]++ba 52 [])),[],(bC 31 ([dz (.mp cV .bool n31)]++bC 56 []))⟩
def fZ:Unit->Exit×AS:=λx=>(.ret,⟨([cj,cj,.d .bool aV]++ba 85 []),[],(ai 88 [])⟩)
def uX:fN->Exit×AS:=λx=>(.exit 0,⟨([cj,.eG jk x]++ba 86 []),[],(ai 88 [])⟩)
abbrev FG:=(Unit)⊕(fN)
abbrev PO:=(Unit)⊕(Unit)
def A1:FG->Out (Exit×AS):=λx=> .br x.isLeft (.get x.getLeft? λa=> .ok (fZ a)) (.get x.getRight? λb=> .ok (uX b))
def jI:vU->PO->FG:=λ(rC,t33,t34,t35,n31) y=>match y with | .inl y=> .inl y | .inr z=> .inr (rC)
abbrev vV:=Int×(List jo)×Int×Int
def mJ:vV->AS:=λ(sum,t66,t67,t68)=>⟨(ba 6 ([.d ti sum]++ba 59 ([.d (.slice nu) t66,.d ti t67,.d ti t68]++ba 19 []))),[],(ai 88 [])⟩
def jK:Unit->Exit×AS:=λx=>(.ret,⟨([cj,cj,.d .bool aV]++ba 85 []),[],(ai 88 [])⟩)
def uZ:Unit->Exit×AS:=λx=>(.exit 2,⟨(ba 88 []),[],(ai 88 [])⟩)
abbrev FK:=(Unit)⊕(Unit)
abbrev PR:=(Unit)⊕(Unit)
def A4:FK->Out (Exit×AS):=λx=> .br x.isLeft (.get x.getLeft? λa=> .ok (jK a)) (.get x.getRight? λb=> .ok (uZ b))
def jJ:vV->PR->FK:=λ(sum,t66,t67,t68) y=>match y with | .inl y=> .inl y | .inr z=> .inr (z)
def uW:vU->Prop:=λ(t,l,n,i,m)=>l.length<=9223372036854775807/\n=l.length/\∃k:Nat,k<=l.length/\i=k
def mg:vU->PO:=λ(t,l,n,i,m)=>if By m (l.drop i.toNat) then .inr () else .inl ()
def uY:vV->Prop:=λ(s,l,n,i)=>(∀o∈l,agE o.2.1)/\l.length<=9223372036854775807/\n=l.length/\∃k:Nat,k<=l.length/\i=k
def mh:vV->PR:=λ(s,l,n,i)=>if yV s (l.drop i.toNat) then .inr () else .inl ()
def aj2:fN->Prop:=λt=>aD7 t
def oN:fN->Bool:=λt=>iF t
def PN:=eA.iB mI uW jI mg A1
def FH:vU->Option FG:=lg PN mI
def PQ:=eA.iB mJ uY jJ mh A4
def zh:vV->Option FK:=lg PQ mJ
def il:Fs Tryz.prog aj2 bG oN:=gf 37 Tryz.f37 (λt=>([.d jk t],[])) (λx=>⟨.d .bool x,[],[]⟩) [au jk] [amc,aaH,xX] {loops:=th [(5,{bz:=[1,3,33,34,35],sites:=[31]}),(13,{bz:=[6,66,67,68]})],outs:=tg [(5,{bz:=[1]},{bz:=[2]}),(13,{},{bz:=[2]})],iE:=uA [(5,PN),(13,PQ)]}
def FF:= @gw Tryz.prog (pS il.G) il.an 0 Tryz.f37 0 _ mI
abbrev LU:=qu Tryz.prog (pS il.G) il.an 0 Tryz.f37 0 mI uW jI mg A1
def FJ:= @gw Tryz.prog (pS il.G) il.an 0 Tryz.f37 1 _ mJ
abbrev LV:=qu Tryz.prog (pS il.G) il.an 0 Tryz.f37 1 mJ uY jJ mh A4
theorem WI:nK FH uW jI mg:=tR (sy [.d jk,.d (.slice gB),.d ti,.d ti,.d (.slice (.pair cV .bool))] λ_=>cW)
theorem IZ:yd @FF mI uW jI mg A1 LU:=zr
theorem FI(rC t33 t34 t35 n31)(kn:K2 R)(kx:K3 R):FF (rC,t33,t34,t35,n31) kn kx=aP (iG t35 t34) (aP (iO t35 (((ae t33):Nat):Int)) (aP ((cE cV (nth gB t33 (ab t35)).1 n31).getD aV) (kx (fZ ()).1 (fZ ()).2) (aP (iG (nth gB t33 (ab t35)).1.2.1 (0:Int)) (kx (fZ ()).1 (fZ ()).2) (aP (zP (nth gB t33 (ab t35)).1.2.1 (64:Int)) (kx (fZ ()).1 (fZ ()).2) (ax (WM.call (nth gB t33 (ab t35)).2.1) λx8=>aP (!x8) (kx (fZ ()).1 (fZ ()).2) (kn (mI (rC,t33,t34,(bT .i64 t35 (1:Int)),(eM cV (nth gB t33 (ab t35)).1 aO n31)))))))) aH) (kx (uX rC).1 (uX rC).2):=cW
theorem WJ:nK zh uY jJ mh:=tR (sy [.d ti,.d (.slice nu),.d ti,.d ti] λ_=>cW)
theorem I0:yd @FJ mJ uY jJ mh A4 LV:=zr
theorem FL(sum t66 t67 t68)(kn:K2 R)(kx:K3 R):FJ (sum,t66,t67,t68) kn kx=aP (iG t68 t67) (aP (iO t68 (((ae t66):Nat):Int)) (ax (Qd.call (sum,(nth nu t66 (ab t68)).1)) λaw0=>aP (!aw0.2) (kx (jK ()).1 (jK ()).2) (ax (nB.call (nth nu t66 (ab t68)).2.1) λaDk=>aP (!aDk) (kx (jK ()).1 (jK ()).2) (kn (mJ (aw0.1,t66,t67,(bT .i64 t68 (1:Int))))))) aH) (kx (uZ ()).1 (uZ ()).2):=cW
theorem aqu(t)(k:K1 R):il.A t k=aP (iG (t.1.length:Int) 1) (k (il.out aV)) (aP (wC (t.1.length:Int) 64) (k (il.out aV)) (aP (wC (t.2.1.length:Int) 64) (k (il.out aV)) (aP (iG t.2.2.1 0) (k (il.out aV)) (ax (FH (t,t.1,(t.1.length:Int),0,([]:List (dC×Bool)))) λaDk=>aP aDk.isLeft (ax aDk.getLeft? λa13=>k (il.out aV)) (ax aDk.getRight? λb14=>ax (zh (0,b14.2.1,(b14.2.1.length:Int),0)) λYW=>aP YW.isLeft (ax YW.getLeft? λa31=>k (il.out aV)) (ax YW.getRight? λb32=>k (il.out aO))))))):=cW
theorem abN:LU:=by
 refine IZ (λ(t,l,n,i,m)=>l.length - i.toNat) ?_
 rintro⟨t,l,n,i,m⟩ ⟨hb,rfl,k,hk,rfl⟩;have hb:l.length<=9223372036854775807:=hb;have hk:k<=l.length:=hk;by_cases h:k < l.length
 ·have n1:nth gB l k=l[k]:=db (t:=gB) h;have hd:By m (l.drop k)=((!(GW m l[k]) && MW l[k]) && By (eM cV l[k].1 aO m) (l.drop (k+1))):=by rw[aA h];rfl
  have step:∀ {R:Type} (kn:AS->Option R) (kx:Exit->AS->Option R),FF (t,l,(l.length:Int),(k:Int),m) kn kx=aP (!(GW m l[k]) && MW l[k]) (kn (mI (t,l,(l.length:Int),((k+1:Nat):Int),eM cV l[k].1 aO m))) (kx (fZ ()).1 (fZ ()).2):=by
   intro R kn kx;rw[FI,bh aq,bB aq aq,aa,n1,N.pV aq,agk (d:=l[k].2.1) trivial];simp only[aj,ag,bG,abR];have e:(cE cV l[k].1 m).getD aV=GW m l[k]:=rfl;rw[e];cases GW m l[k]
   ·simp only[dA,dD,ao,MW];by_cases h1:l[k].1.2.1 < 0
    ·rw[bh h1,aj,cz (λx=>aq)];rfl
    ·rw[aW h1,ao];by_cases h2:64<=l[k].1.2.1
     ·rw[ik h2,aj,cz (λx=>aq)];rfl
     ·rw[eN h2,ao,aM ⟨aq,aq⟩];cases Dt l[k].2.1 <;> rfl
   ·rfl
  cases hp:(!(GW m l[k]) && MW l[k])
  ·right;refine⟨fZ (),?_,λkn kx=> ?_⟩
   ·simp only[jI,mg,aa,hd,hp,jR,cd,cK];rfl
   ·rw[step,hp,ao]
  ·left;refine⟨(t,l,l.length,((k+1:Nat):Int),eM cV l[k].1 aO m),⟨hb,rfl,k+1,aq,rfl⟩,by simp only[aa];omega,?_,λkn kx=> ?_⟩
   ·simp only[jI,mg,aa,hd,hp,dD]
   ·rw[step,hp,aj]
 ·right;obtain rfl:k=l.length:=aq;refine⟨uX t,?_,λkn kx=> ?_⟩
  ·simp only[jI,mg,aa,bj];rfl
  ·rw[FI];simp(disch:=omega) only[↓S1,↓if_pos,↓if_neg,if_pos,if_neg,cZ,cK,S2]
theorem abO:LV:=by
 refine I0 (λ(s,l,n,i)=>l.length - i.toNat) ?_
 rintro⟨s,l,n,i⟩ ⟨hl,hb,rfl,k,hk,rfl⟩;have hb:l.length<=9223372036854775807:=hb;have hk:k<=l.length:=hk;by_cases h:k < l.length
 ·have hx:agE l[k].2.1:=hl _ (aZ h);have n1:nth nu l k=l[k]:=db (t:=nu) h;have hd:yV s (l.drop k)=((rU s l[k].1 && ju l[k].2.1) && yV (s+l[k].1) (l.drop (k+1))):=by rw[aA h];rfl
  have step:∀ {R:Type} (kn:AS->Option R) (kx:Exit->AS->Option R),FJ (s,l,(l.length:Int),(k:Int)) kn kx=aP (rU s l[k].1 && ju l[k].2.1) (kn (mJ (s+l[k].1,l,(l.length:Int),((k+1:Nat):Int)))) (kx (jK ()).1 (jK ()).2):=by
   intro R kn kx;rw[FL,bh aq,bB aq aq,aa,n1,N.pV aq,Ti (d:=(s,l[k].1)) trivial,tE (d:=l[k].2.1) hx];simp only[aj,ag,bG,Nc,bG,yM];cases rU s l[k].1
   ·rfl
   ·cases ju l[k].2.1 <;> rfl
  cases hp:(rU s l[k].1 && ju l[k].2.1)
  ·right;refine⟨jK (),?_,λkn kx=> ?_⟩
   ·simp only[jJ,mh,aa,hd,hp,jR,cd,cK];rfl
   ·rw[step,hp,ao]
  ·left;refine⟨(s+l[k].1,l,l.length,((k+1:Nat):Int)),⟨hl,hb,rfl,k+1,aq,rfl⟩,by simp only[aa];omega,?_,λkn kx=> ?_⟩
   ·simp only[jJ,mh,aa,hd,hp,dD]
   ·rw[step,hp,aj]
 ·right;obtain rfl:k=l.length:=aq;refine⟨uZ (),?_,λkn kx=> ?_⟩
  ·simp only[jJ,mh,aa,bj];rfl
  ·rw[FL];simp(disch:=omega) only[↓S1,↓if_pos,↓if_neg,if_pos,if_neg,cZ,cK,S2]
theorem aqv:il.Ok:=by
 rintro⟨is,os,nt,u⟩ ⟨hl,h1,h2⟩;have h1:is.length<=9223372036854775807:=h1;have h2:os.length<=9223372036854775807:=h2;rw[aqu,WI (d:=((is,os,nt,u),is,is.length,0,[])) ⟨h1,rfl,0,aq,rfl⟩];simp only[ag,jI,mg,bO,aN,bG,oN,iF,NP];by_cases a1:is.length < 1
 ·rw[bh aq,aj,cz (λx=>aq)];rfl
 rw[aW aq,ao];by_cases a2:64 < is.length
 ·rw[dy aq,aj,cz (λx=>aq)];rfl
 rw[cY aq,ao];by_cases a3:64 < os.length
 ·rw[dy aq,aj,cz (λx=>aq)];rfl
 rw[cY aq,ao];by_cases a4:nt < 0
 ·rw[bh aq,aj,cz (λx=>aq)];rfl
 rw[aW aq,ao,aM ⟨aq,aq,aq,aq⟩];cases By [] is
 ·rfl
 ·simp only[cZ,dD];show ax (zh (0,os,(os.length:Int),0)) _=_;rw[WJ (d:=(0,os,os.length,0)) ⟨hl,h2,rfl,0,aq,rfl⟩];simp only[ag,jJ,mh,bO,aN];cases yV 0 os <;> rfl
theorem mK:il.RS:=rE [.d jk] il
def pH:=il.gr aqv 2 ⟨.iB abN,⟨.iB abO,trivial⟩⟩
def aiN:Bs->Prop:=λl=>l.length<=1000000
def EU:Bs->Bs:=λl=>l
def wi:Fs Tryz.prog aiN bG EU:=gf 55 Tryz.f55 (λsv=>([.d tU sv],[])) (λx=>⟨.d tU x,[],[]⟩) [au tU] [] {bM:=[5],res:=[au tU]}
theorem aoZ(sv)(k:K1 R):wi.A sv k=aP (decide (0 < (ae sv))) (aP (dI (0+(ae sv)) 8) (aP (decide (0=0/\(0+(0+(ae sv)))<=(ae ((bk 0 (ai 0 0))++sv)))) (k (wi.out (cut ((bk 0 (ai 0 0))++sv) 0 (0+(ae sv))))) aH) aH) (nd (k (wi.out ([]:List Int))) (aP (dI (0+(ae sv)) 8) (aP (decide (0=0/\(0+(0+(ae sv)))<=(ae ((bk 0 (ai 0 0))++sv)))) (k (wi.out (cut ((bk 0 (ai 0 0))++sv) 0 (0+(ae sv))))) aH) aH)):=cW
theorem ao0:wi.Ok:=by
 intro l hl;have hl:l.length<=1000000:=hl;have hr:dI l.length 8=aO:=dN aq aq;have e0:(bk 0 (ai 0 0):List Int)=[]:=rfl;rw[aoZ];simp only[aU,hr,aj,e0,aT,aC,lH,cQ,fA,bG,EU];by_cases h:0 < l.length
 ·simp only[aM h,aj]
 ·have:l=[]:=bm aq;subst this;simp only[bw,Cz,cz (gX 0),ao]
theorem CD:wi.RS:=rE [.d tU] wi
def Gg:=wi.gr ao0
def iy(l:List Int):Lk:=([(l,0,0,0,())],())
def aty:Bs->Prop:=λl=>l.length<=1000000
def aCt:Bs->Lk:=λl=>iy l
def aij:Fs Tryz.prog aty bG aCt:=gf 35 Tryz.f35 (λl=>([.d tU l],[])) (λx=>⟨.d I9 x,[],[]⟩) [au tU] [Gg]
theorem ayv(l)(k:K1 R):aij.A l k=ax (wi.call l) λx1=>k (aij.out ([(x1,(0,(0,(0,()))))],())):=cW
theorem ayw:aij.Ok:=by intro l hl;rw[ayv,CD (d:=l) hl];rfl
theorem atz:aij.RS:=rE [.d tU] aij
def ayx:=aij.gr ayw
def atJ:Int->Prop:=λ_=>True
def atI:Int->Lk:=λp=>iy [p]
def M4:Fs Tryz.prog atJ bG atI:=gf 10 Tryz.f10 (λp=>([.d tu p],[])) (λx=>⟨.d I9 x,[],[]⟩) [au tu] [ayx]
theorem ayE(p)(k:K1 R):M4.A p k=ax (aij.call [p]) λx1=>k (M4.out x1):=cW
theorem ayF:M4.Ok:=by intro p _;rw[ayE,atz (d:=[p]) (by show [p].length<=_;simp)];rfl
theorem Sv:M4.RS:=rE [.d tu] M4
def aao:=M4.gr ayF
def tf(o:List Int)(ks:List Int):List Int:=ks.foldl (λo p=>o++lS p) o
def awO(o:List Int)(b:rI):List Int:=eX (eX (tf (eX o b.1.length) b.1) b.2.1) b.2.2.1++lS b.2.2.2.1
def M3(l:Lk):List Int:=if ju l then l.1.foldl awO (eX [] l.1.length) else []
theorem MZ:∀(ks:List Int) (o:List Int),(tf o ks).length=o.length+8*ks.length
 |[],o=>rfl
 |k::ks,o=>by show(tf (o++lS k) ks).length=_;rw[MZ ks,ak,dv,aB];omega
theorem akz(o:List Int)(b:rI)(h:b.1.length<=12):(awO o b).length<=o.length+200:=by unfold awO;have h1:=gS o b.1.length;have h2:=MZ b.1 (eX o b.1.length);have h3:=gS (tf (eX o b.1.length) b.1) b.2.1;have h4:=gS (eX (tf (eX o b.1.length) b.1) b.2.1) b.2.2.1;rw[ak,dv];omega
def aw3(n:Int):Prop:=n<=9223372036854775807
def aFL(b:rI):Prop:=b.1.length<=12/\aw3 b.2.1/\aw3 b.2.2.1
theorem aBo{b:rI}(h:Dw b=aO):aFL b:=by unfold Dw MT at h;simp only[al,aR]at h;obtain⟨h1,_,h2,h3,_⟩:=h;exact⟨h1,by unfold aw3;omega,by unfold aw3;omega⟩
theorem aif(o:List Int)(ks:List Int)(k:Nat)(h:k < ks.length):tf o (ks.drop k)=tf (o++lS ks[k]) (ks.drop (k+1)):=by rw[aA h];rfl
abbrev OO:=Bs×(List rI)×Int×Int
abbrev Ew:=Bs×(List rI)×Int×Int×Bs×Int×Int×rI
def uw:Ew->Bs->(((List rI)×Int×Int×rI)×(Bs)):=λ(Nf,zb,UE,UF,t28,t29,t30,n5) y=>((zb,UE,UF,n5),y)
def VP:Ew->Prop:=λ(o,bs,n,i,ks,m,j,b)=>ks.length<=12/\o.length+8*ks.length<=80000000+8*j.toNat/\m=ks.length/\∃k:Nat,k<=ks.length/\j=k
def zQ:Ew->Bs:=λ(o,bs,n,i,ks,m,j,b)=>tf o (ks.drop j.toNat)
def VM:OO->Prop:=λ(o,bs,n,i)=>(∀b∈bs,aFL b)/\bs.length<=4/\o.length<=1000+200*i.toNat/\n=bs.length/\∃k:Nat,k<=bs.length/\i=k
def Eu:OO->Bs:=λ(o,bs,n,i)=>(bs.drop i.toNat).foldl awO o
def aik:Lk->Prop:=λl=>amm l/\l.1.length<=9223372036854775807
def Kk:Lk->Bs:=λl=>M3 l
def pd:Ls VM bG Eu:=wh (λ(outv,t16,t17,t18)=>⟨([cj,cj,cj,.d tB outv]++ba 12 ([.d (.slice pT) t16,.d ti t17,.d ti t18]++ba 31 [])),[],(ai 50 [])⟩) (λx=>(.exit 0,⟨([cj,cj,cj,.d tB x]++ba 46 []),[],(ai 50 [])⟩))
def pf:Ls VP uw zQ:=wh (λ(Nf,zb,UE,UF,t28,t29,t30,n5)=>⟨([cj,cj,cj,.d tB Nf,cj,fa 5]++ba 10 ([.d (.slice pT) zb,.d ti UE,.d ti UF]++ba 9 ([.d tU t28,.d ti t29,.d ti t30]++ba 19 []))),[],(bC 5 ([dz (.d pT n5)]++bC 44 []))⟩) (λx=>(.exit 2,⟨([cj,cj,cj,.d tB x.2,cj,fa 5]++ba 10 ([.d (.slice pT) x.1.1,.d ti x.1.2.1,.d ti x.1.2.2.1]++ba 31 [])),[],(bC 5 ([dz (.d pT x.1.2.2.2)]++bC 44 []))⟩))
def qK:Fs Tryz.prog aik bG Kk:=gf 74 Tryz.f74 (λl=>([.d I9 l],[])) (λx=>⟨.d tB x,[],[]⟩) [au I9] [xX,Zu,ac7] {loops:=th [(5,{bz:=[3,16,17,18]}),(9,{bz:=[3,5,16,17,18,28,29,30],sites:=[5]})],outs:=tg [(5,{bz:=[3]},{bz:=[2]}),(9,{bz:=[3,5,16,17,18],sites:=[5]},{bz:=[2]})],iE:=uA [(5,pd.E),(9,pf.E)],res:=[au tB]}
theorem VN:pd.RS:=rL [.d tB,.d (.slice pT),.d ti,.d ti] pd
theorem Ev(outv t16 t17 t18)(kn:K2 R)(kx:K3 R):qK.R 0 pd (outv,t16,t17,t18) kn kx=aP (iG t18 t17) (aP (iO t18 (t16.length:Int)) (ax (Dy.call (outv,(((ae (nth pT t16 (ab t18)).1):Nat):Int))) λx1=>ax (pf.call (x1,t16,t17,t18,(nth pT t16 (ab t18)).1,(((ae (nth pT t16 (ab t18)).1):Nat):Int),0,(nth pT t16 (ab t18)))) λx2=>ax (Dy.call (x2.2,x2.1.2.2.2.2.1)) λx3=>ax (Dy.call (x3,x2.1.2.2.2.2.2.1)) λx4=>ax (Ed.call (x4,x2.1.2.2.2.2.2.2.1)) λx5=>kn (pd.st (x5,x2.1.1,x2.1.2.1,(bT .i64 x2.1.2.2.1 1)))) aH) (pd.go kx outv):=cW
theorem VQ:pf.RS:=rL [.d tB,.d (.slice pT),.d ti,.d ti,.d tU,.d ti,.d ti,.d pT] pf
theorem Ex(Nf zb UE UF t28 t29 t30 n5)(kn:K2 R)(kx:K3 R):qK.R 1 pf (Nf,zb,UE,UF,t28,t29,t30,n5) kn kx=aP (iG t30 t29) (aP (iO t30 (t28.length:Int)) (ax (Ed.call (Nf,(nth tu t28 (ab t30)))) λx1=>kn (pf.st (x1,zb,UE,UF,t28,t29,(bT .i64 t30 1),n5))) aH) (pf.go kx ((zb,UE,UF,n5),Nf)):=cW
theorem aod(l)(k:K1 R):qK.A l k=ax (nB.call l) λx1=>aP (!x1) (k (qK.out ([]:List Int))) (ax (Dy.call (([]:List Int),(l.1.length:Int))) λx2=>ax (pd.call (x2,l.1,(l.1.length:Int),0)) λx9=>k (qK.out x9)):=cW
theorem aan:(qK.mN 1 pf):=by
 refine(qK.px 1 pf) (λ(o,bs,n,i,ks,m,j,b)=>ks.length - j.toNat) ?_
 rintro⟨o,bs,n,i,ks,m,j,b⟩ ⟨aB4,hl,rfl,k,hk,rfl⟩;have aB4:ks.length<=12:=aB4;have hk:k<=ks.length:=hk;have hl:o.length+8*ks.length<=80000000+8*(k:Int).toNat:=hl;rw[aa]at hl;by_cases h:k < ks.length
 ·left;have n1:nth (.int .u64) ks k=ks[k]:=db (t:= .int .u64) h;refine⟨(o++lS ks[k],bs,n,i,ks,ks.length,((k+1:Nat):Int),b),⟨aB4,by rw[ak,dv,aa];omega,rfl,k+1,aq,rfl⟩,by simp only[aa];omega,?_,λkn kx=> ?_⟩
  ·simp only[uw,zQ,aa];rw[aif _ _ _ h]
  ·rw[Ex];simp(disch:=omega) only[↓S1,↓if_pos,↓if_neg,if_pos,if_neg,cZ,cK,S2,n1];rw[Bk (d:=(o,ks[k])) (by show o.length<=90000000;omega)];rfl
 ·right;obtain rfl:k=ks.length:=aq;intro R kn kx;rw[Ex];simp(disch:=omega) only[↓S1,↓if_pos,↓if_neg,if_pos,if_neg,cZ,cK,S2,uw,zQ,bj];rfl
theorem aam:(qK.mN 0 pd):=by
 refine(qK.px 0 pd) (λ(o,bs,n,i)=>bs.length - i.toNat) ?_
 rintro⟨o,bs,n,i⟩ ⟨hb,h4,hl,rfl,k,hk,rfl⟩;have h4:bs.length<=4:=h4;have hk:k<=bs.length:=hk;have hl:o.length<=1000+200*(k:Int).toNat:=hl;rw[aa]at hl;by_cases h:k < bs.length
 ·left;have hx:=hb _ (aZ h);have n1:nth (.pair (.slice (.int .u64)) (.pair (.int .i64) (.pair (.int .i64) (.pair (.int .u64) .unit)))) bs k=bs[k]:=db (t:=(.pair (.slice (.int .u64)) (.pair (.int .i64) (.pair (.int .i64) (.pair (.int .u64) .unit))))) h;have e0:=akz o bs[k] hx.1;refine⟨(awO o bs[k],bs,bs.length,((k+1:Nat):Int)),⟨hb,h4,by rw[aa];omega,rfl,k+1,aq,rfl⟩,by simp only[aa];omega,?_,λkn kx=> ?_⟩
  ·simp only[bG,Eu,aa];rw[aA h];rfl
  ·rw[Ev,bh aq,bB aq aq,aa,n1];obtain⟨⟨ks,af,dl,sc,u⟩,aEt⟩:∃b,bs[k]=b:=⟨_,rfl⟩;rw[aEt]at hx e0 ⊢;obtain⟨aqT,ha,hd⟩:=hx;have aqT:ks.length<=12:=aqT;have ha:af<=9223372036854775807:=ha;have hd:dl<=9223372036854775807:=hd;have l1:=gS o ks.length;have l2:=MZ ks (eX o ks.length);have l3:=gS (tf (eX o ks.length) ks) af;have l4:=gS (eX (tf (eX o ks.length) ks) af) dl;simp only[aj];rw[nW (d:=(o,(ks.length:Int))) ⟨by show o.length<=90000000;omega,by show(ks.length:Int)<=9223372036854775807;omega⟩];simp only[ag,bG,v8];rw[VQ (d:=(eX o ks.length,bs,bs.length,k,ks,ks.length,0,(ks,af,dl,sc,u))) ⟨aqT,by show(eX o ks.length).length+8*ks.length<=_;omega,rfl,0,aq,rfl⟩];simp only[ag,uw,zQ,bO,aN];rw[nW (d:=(tf (eX o ks.length) ks,af)) ⟨by show(tf (eX o ks.length) ks).length<=90000000;omega,ha⟩];simp only[ag,bG,v8];rw[nW (d:=(eX (tf (eX o ks.length) ks) af,dl)) ⟨by show(eX (tf (eX o ks.length) ks) af).length<=90000000;omega,hd⟩];simp only[ag,bG,v8];rw[Bk (d:=(eX (eX (tf (eX o ks.length) ks) af) dl,sc)) (by show(eX (eX (tf (eX o ks.length) ks) af) dl).length<=90000000;omega)];simp only[ag,bG,JC];rw[N.pV aq];rfl
 ·right;obtain rfl:k=bs.length:=aq;intro R kn kx;rw[Ev];simp(disch:=omega) only[↓S1,↓if_pos,↓if_neg,if_pos,if_neg,cZ,cK,S2,bG,Eu,bj];rfl
theorem atH{l:Lk}(h:ju l=aO):(∀b∈l.1,aFL b)/\0 < l.1.length/\l.1.length<=4:=by unfold ju at h;simp only[al,dj,aR]at h;exact⟨λb hb=>aBo (h.1 b hb),h.2⟩
theorem aoe:qK.Ok:=by
 rintro l ⟨hl,hb⟩;have hl:amm l:=hl;rw[aod,tE (d:=l) ⟨hl,hb⟩];simp only[ag,bG,yM,bG,Kk,M3];cases iS:ju l
 ·rfl
 ·obtain⟨h1,h2,h3⟩:=atH iS;have l1:=gS [] l.1.length;have l0:([]:List Int).length=0:=rfl;simp only[bR,ao,cZ];rw[nW (d:=([],(l.1.length:Int))) ⟨by show([]:List Int).length<=90000000;omega,by show(l.1.length:Int)<=9223372036854775807;omega⟩];simp only[ag,bG,v8];rw[VN (d:=(eX [] l.1.length,l.1,l.1.length,0)) ⟨h1,h3,by show(eX [] l.1.length).length<=_;omega,rfl,0,aq,rfl⟩];rfl
theorem Km(l:Lk):(M3 l).length<=1000:=by
 unfold M3;split
 ·rename_i h;obtain⟨h1,h2,h3⟩:=atH h;have key:∀(bs:List rI) (o:List Int),(∀b∈bs,aFL b)->(bs.foldl awO o).length<=o.length+200*bs.length:=by
   intro bs
   induction bs with
   |nil=>intro o _;exact aC _
   |cons b bs ih=>
    intro o hb;have e1:=ih (awO o b) λx hx=>hb x (aD _ hx)
    have e2:=akz o b (hb b aG).1;rw[bJ,aB];omega
  have e:=key l.1 (eX [] l.1.length) h1;have e2:=gS [] l.1.length;have l0:([]:List Int).length=0:=rfl;omega
 ·exact aS _
theorem Sq:qK.RS:=rE [.d I9] qK
def XU:=qK.gr aoe 2 ⟨.iB aam,⟨.iB aan,trivial⟩⟩
def ank:(Bs×Bs)->Prop:=λ(b,h)=>b.length+h.length<=100000000/\h.length=32
def akI:(Bs×Bs)->Bs:=λ(b,h)=>b++h
def Rs:Fs Tryz.prog ank bG akI:=gf 72 Tryz.f72 (λ(b,h)=>([.d tB b,.d tH h],[])) (λx=>⟨.d tB x,[],[]⟩) [au tB,au tH] [Rc]
theorem ase(b h)(k:K1 R):Rs.A (b,h) k=ax (D6.call (b,(cut h 0 32))) λx1=>k (Rs.out x1):=cW
theorem asf:Rs.Ok:=by rintro⟨b,h⟩ ⟨h1,h2⟩;have h1:b.length+h.length<=100000000:=h1;have h2:h.length=32:=h2;rw[ase,fA h2,FX (d:=(b,h)) h1];rfl
theorem anl:Rs.RS:=rE [.d tB,.d tB] Rs
def asg:=Rs.gr asf
def ani:(Bs×Bs)->Prop:=λ(b,c)=>b.length+c.length<=90000000
def Zv:(Bs×Bs)->Bs:=λ(b,c)=>b++(iD c.length++c)
def Rr:Fs Tryz.prog ani bG Zv:=gf 73 Tryz.f73 (λ(b,c)=>([.d tB b,.d tB c],[])) (λx=>⟨.d tB x,[],[]⟩) [au tB,au tB] [akJ,QZ] {res:=[au tB]}
theorem asb(b c)(k:K1 R):Rr.A (b,c) k=ax (Rt.call (c.length:Int)) λx1=>ax (nD.call [b,x1,c]) λx2=>k (Rr.out x2):=cW
theorem asc:Rr.Ok:=by rintro⟨b,c⟩ h;have h:b.length+c.length<=90000000:=h;have hl:=mV c.length;rw[asb,ac9 (d:=(c.length:Int)) ⟨aq,aq⟩];simp only[ag,bG,ahu];rw[NW (d:=[b,iD c.length,c]) ⟨by show [b,iD c.length,c].length<=_;simp,by show sz [b,iD c.length,c]<=_;simp only[sz,hJ,lD,bo,ak];omega⟩];simp only[ag,bG,Mh,bG,Zv,hJ,lD,bo]
theorem anj:Rr.RS:=rE [.d tB,.d tB] Rr
def asd:=Rr.gr asc
def Qx(b:List Int)(x:gU):List Int:=eX (b++x.1.1) x.1.2.1
def Qf(b:List Int)(o:jo):List Int:=eX b o.1++(iD (M3 o.2.1).length++M3 o.2.1)
def wm(t:fN):List Int:=eX (t.2.1.foldl Qf (eX (t.1.foldl Qx (eX [] t.1.length)) t.2.1.length)) t.2.2.1
def Ur(b:List Int)(s:Sg):List Int:=b++lS s.1++lS s.2.1
def akb(b:List Int)(x:gU):List Int:=x.2.1.2.1.foldl Ur (eX (eX b x.2.1.1) x.2.1.2.1.length)++lS x.2.1.2.2.1
def az1(t:fN):List Int:=if iF t then t.1.foldl akb (wm t) else []
def tl(t:fN):List Int:=if iF t then tag (cH (⟨#[116,120]⟩:ByteArray)) [wm t] else ai 32 0
def aIa(x:gU):Prop:=Sm x.1.1/\Vm x.2.1/\x.2.1.2.1.length<=9223372036854775807
def A7(t:fN):Prop:=aD7 t/\(∀x∈t.1,aIa x)/\t.2.2.1<=9223372036854775807
theorem om:∀(l:List gU) (m:List (dC×Bool)),By m l=aO->∀x∈l,MW x=aO
 |[],_,_,x,hx=>by cases hx
 |y::l,m,h,x,hx=>by
  rw[By,al,al]at h;rcases bA.1 hx with rfl | hx
  ·exact h.1.2
  ·exact om l _ h.2 x hx
theorem mC:∀(l:List jo) (s:Int),yV s l=aO->∀o∈l,(0<=o.1/\o.1<=1125899906842624)/\ju o.2.1=aO
 |[],_,_,o,ho=>by cases ho
 |y::l,s,h,o,ho=>by
  rw[yV,al,al]at h;rcases bA.1 ho with rfl | ho
  ·have h1:=h.1.1;unfold rU pN at h1;simp only[al,aR]at h1;exact⟨h1.2.1,h.1.2⟩
  ·exact mC l _ h.2 o ho
theorem Cn{x:gU}(h:MW x=aO):0<=x.1.2.1/\x.1.2.1 < 64/\0<=x.2.1.1/\x.2.1.1 < 4/\x.2.1.2.1.length<=12:=by unfold MW Dt at h;simp only[al,aR]at h;exact⟨h.1.1,h.1.2,h.2.1.1,h.2.1.2,h.2.2⟩
theorem lQ{t:fN}(h:iF t=aO):(1<=t.1.length/\t.1.length<=64/\t.2.1.length<=64/\0<=t.2.2.1)/\By [] t.1=aO/\yV 0 t.2.1=aO:=by unfold iF NP at h;simp only[al,aR]at h;exact h
theorem alc(b:List Int)(x:gU):(Qx b x).length<=b.length+x.1.1.length+11:=by have:=gS (b++x.1.1) x.1.2.1;rw[ak]at this;exact this
theorem aeW(b:List Int)(o:jo):(Qf b o).length<=b.length+1022:=by have h1:=gS b o.1;have h2:=mV (M3 o.2.1).length;have h3:=Km o.2.1;unfold Qf;rw[ak,ak];omega
theorem afM(b:List Int)(s:Sg):(Ur b s).length=b.length+16:=by unfold Ur;rw[ak,ak,dv,dv]
abbrev FB:=fN×Bs×(List gU)×Int×Int
def uU:FB->Bs->((fN)×(Bs)):=λ(rC,b,t13,t14,t15) y=>(rC,y)
abbrev FD:=fN×Bs×(List jo)×Int×Int
def uV:FD->Bs->((fN)×(Bs)):=λ(Gm,yh,t35,t36,t37) y=>(Gm,y)
def WD:FB->Prop:=λ(t,b,l,n,i)=>(l).length<=1000000000/\∃k:Nat,k<=(l).length/\i=k/\n=(l).length/\(l.length<=64)/\(∀x∈l,x.1.1.length=32/\x.1.2.1<=9223372036854775807)/\(b.length<=100+50*k)
def Aj:FB->Bs:=λ(t,b,l,n,i)=>(dr (ab i) l).foldl Qx b
def WG:FD->Prop:=λ(t,b,l,n,i)=>(l).length<=1000000000/\∃k:Nat,k<=(l).length/\i=k/\n=(l).length/\(l.length<=64)/\(∀o∈l,o.1<=9223372036854775807/\agE o.2.1)/\(b.length<=4000+1100*k)
def Ak:FD->Bs:=λ(t,b,l,n,i)=>(dr (ab i) l).foldl Qf b
def aj1:fN->Prop:=λt=>iF t=aO/\A7 t
def UX:fN->Bs:=λt=>wm t
def pD:Ls WD uU Aj:=wh (λ(rC,b,t13,t14,t15)=>⟨([cj,.eG jk rC,cj,.d tB b]++ba 9 ([.d (.slice gB) t13,.d ti t14,.d ti t15]++ba 38 [])),[],(ai 54 [])⟩) (λx=>(.exit 0,⟨([cj,.eG jk x.1,cj,.d tB x.2]++ba 50 []),[],(ai 54 [])⟩))
def pE:Ls WG uV Ak:=wh (λ(Gm,yh,t35,t36,t37)=>⟨([cj,.eG jk Gm,cj,.d tB yh]++ba 31 ([.d (.slice nu) t35,.d ti t36,.d ti t37]++ba 16 [])),[],(ai 54 [])⟩) (λx=>(.exit 2,⟨([cj,.eG jk x.1,cj,.d tB x.2]++ba 50 []),[],(ai 54 [])⟩))
def sP:Fs Tryz.prog aj1 bG UX:=gf 39 Tryz.f39 (λt=>([.d jk t],[])) (λx=>⟨.d tB x,[],[]⟩) [au jk] [Zu,asg,XU,asd] {loops:=th [(3,{bz:=[1,3,13,14,15]}),(9,{bz:=[1,3,35,36,37]})],outs:=tg [(3,{bz:=[1,3]},{bz:=[2]}),(9,{bz:=[1,3]},{bz:=[2]})],iE:=uA [(3,pD.E),(9,pE.E)],res:=[au tB]}
theorem WE:pD.RS:=rL [.d jk,.d tB,.d (.slice gB),.d ti,.d ti] pD
theorem FC(rC b t13 t14 t15)(kn:K2 R)(kx:K3 R):sP.R 0 pD (rC,b,t13,t14,t15) kn kx=aP (iG t15 t14) (aP (iO t15 (t13.length:Int)) (ax (Rs.call (b,(nth gB t13 (ab t15)).1.1)) λx1=>ax (Dy.call (x1,(nth gB t13 (ab t15)).1.2.1)) λx2=>kn (pD.st (rC,x2,t13,t14,(bT .i64 t15 1)))) aH) (pD.go kx (rC,b)):=cW
theorem WH:pE.RS:=rL [.d jk,.d tB,.d (.slice nu),.d ti,.d ti] pE
theorem FE(Gm yh t35 t36 t37)(kn:K2 R)(kx:K3 R):sP.R 1 pE (Gm,yh,t35,t36,t37) kn kx=aP (iG t37 t36) (aP (iO t37 (t35.length:Int)) (ax (Dy.call (yh,(nth nu t35 (ab t37)).1)) λx1=>ax (qK.call (nth nu t35 (ab t37)).2.1) λx2=>ax (Rr.call (x1,x2)) λx3=>kn (pE.st (Gm,x3,t35,t36,(bT .i64 t37 1)))) aH) (pE.go kx (Gm,yh)):=cW
theorem aqq(t)(k:K1 R):sP.A t k=ax (Dy.call (([]:List Int),(t.1.length:Int))) λx1=>ax (pD.call (t,x1,t.1,(t.1.length:Int),0)) λx4=>ax (Dy.call (x4.2,(x4.1.2.1.length:Int))) λx5=>ax (pE.call (x4.1,x5,x4.1.2.1,(x4.1.2.1.length:Int),0)) λx9=>ax (Dy.call (x9.2,x9.1.2.2.1)) λaw0=>k (sP.out aw0):=cW
theorem abE:(sP.mN 0 pD):=by
 refine(sP.px 0 pD) (λ(t,b,l,n,i)=>(l).length - ab i) ?_
 rintro⟨t,b,l,n,i⟩ ⟨hlen,k,hk,rfl,rfl,ahR,hx,hb⟩;have hlen:(l).length<=1000000000:=hlen;have hk:k<=(l).length:=hk;have ahR:l.length<=64:=ahR;have hx:∀x∈l,x.1.1.length=32/\x.1.2.1<=9223372036854775807:=hx;have hb:b.length<=100+50*k:=hb;by_cases h:k < (l).length
 ·left;have n1:nth gB l k=l[k]:=db (t:=gB) h;have hd:dr k l=l[k]::dr (k+1) l:=aA h;refine⟨(t,(Qx b l[k]),l,((l).length:Int),((k+1:Nat):Int)),⟨hlen,k+1,aq,rfl,rfl,ahR,hx,by have:=alc b l[k];have:=(hx _ (aZ h)).1;omega⟩,by simp only[aa];omega,?_,λkn kx=> ?_⟩
  ·simp only[uU,Aj,aa,hd,bJ]
  ·rw[FC,bh aq,bB aq aq,aa,n1];simp only[aj];have e:=hx _ (aZ h);have e2:(b++l[k].1.1).length=b.length+l[k].1.1.length:=ak;rw[anl (d:=(b,l[k].1.1)) ⟨by show b.length+l[k].1.1.length<=_;omega,e.1⟩];simp only[ag,bG,akI];rw[nW (d:=(b++l[k].1.1,l[k].1.2.1)) ⟨by show(b++l[k].1.1).length<=_;omega,e.2⟩];simp only[ag,bG,v8];rw[N.pV aq];rfl
 ·right;obtain rfl:k=(l).length:=aq;intro R kn kx;rw[FC,aW aq,ao];simp only[uU,Aj,aa,bj,eB]
theorem abF:(sP.mN 1 pE):=by
 refine(sP.px 1 pE) (λ(t,b,l,n,i)=>(l).length - ab i) ?_
 rintro⟨t,b,l,n,i⟩ ⟨hlen,k,hk,rfl,rfl,ahR,hx,hb⟩;have hlen:(l).length<=1000000000:=hlen;have hk:k<=(l).length:=hk;have ahR:l.length<=64:=ahR;have hx:∀o∈l,o.1<=9223372036854775807/\agE o.2.1:=hx;have hb:b.length<=4000+1100*k:=hb;by_cases h:k < (l).length
 ·left;have n1:nth nu l k=l[k]:=db (t:=nu) h;have hd:dr k l=l[k]::dr (k+1) l:=aA h;refine⟨(t,(Qf b l[k]),l,((l).length:Int),((k+1:Nat):Int)),⟨hlen,k+1,aq,rfl,rfl,ahR,hx,by have:=aeW b l[k];omega⟩,by simp only[aa];omega,?_,λkn kx=> ?_⟩
  ·simp only[uV,Ak,aa,hd,bJ]
  ·rw[FE,bh aq,bB aq aq,aa,n1];simp only[aj];have e:=hx _ (aZ h);have e1:=gS b l[k].1;have e2:=Km l[k].2.1;rw[nW (d:=(b,l[k].1)) ⟨by show b.length<=_;omega,e.1⟩];simp only[ag,bG,v8];rw[Sq (d:=l[k].2.1) e.2];simp only[ag,bG,Kk];rw[anj (d:=(eX b l[k].1,M3 l[k].2.1)) (by show(eX b l[k].1).length+(M3 l[k].2.1).length<=_;omega)];simp only[ag,bG,Zv];rw[N.pV aq];rfl
 ·right;obtain rfl:k=(l).length:=aq;intro R kn kx;rw[FE,aW aq,ao];simp only[uV,Ak,aa,bj,eB]
theorem aah:∀(l:List gU) (b:List Int),(∀x∈l,x.1.1.length=32)->(l.foldl Qx b).length<=b.length+43*l.length
 |[],b,_=>aC _
 |x::l,b,h=>by
  have h1:=alc b x;have h2:=h x aG;have h3:=aah l (Qx b x) λy hy=>h y (aD _ hy)
  rw[bJ,aB];omega
theorem Tv:∀(l:List jo) (b:List Int),(l.foldl Qf b).length<=b.length+1022*l.length
 |[],b=>aC _
 |x::l,b=>by have h1:=aeW b x;have h3:=Tv l (Qf b x);rw[bJ,aB];omega
theorem TT{t:fN}(iS:iF t=aO)(hv:A7 t):(wm t).length<=70000:=by
 obtain⟨⟨_,a2,a3,_⟩,_,_⟩:=lQ iS;have h1:=aah t.1 (eX [] t.1.length) λx hx=>(hv.2.1 x hx).1.1
 have h2:=gS [] t.1.length;have h3:=gS (t.1.foldl Qx (eX [] t.1.length)) t.2.1.length;have h4:=Tv t.2.1 (eX (t.1.foldl Qx (eX [] t.1.length)) t.2.1.length);have h5:=gS (t.2.1.foldl Qf (eX (t.1.foldl Qx (eX [] t.1.length)) t.2.1.length)) t.2.2.1;have h0:([]:List Int).length=0:=rfl;unfold wm;omega
theorem aqr:sP.Ok:=by
 rintro t ⟨iS,hv⟩;have hv:A7 t:=hv;obtain⟨⟨_,a2,a3,_⟩,b1,b2⟩:=lQ iS;have h0:([]:List Int).length=0:=rfl;have l0:=gS [] t.1.length;have l1:=aah t.1 (eX [] t.1.length) λx hx=>(hv.2.1 x hx).1.1
 have l2:=gS (t.1.foldl Qx (eX [] t.1.length)) t.2.1.length;have l3:=Tv t.2.1 (eX (t.1.foldl Qx (eX [] t.1.length)) t.2.1.length);rw[aqq,nW (d:=([],(t.1.length:Int))) ⟨by show([]:List Int).length<=_;omega,by show(t.1.length:Int)<=_;omega⟩];simp only[ag,bG,v8];rw[WE (d:=(t,eX [] t.1.length,t.1,t.1.length,0)) ⟨by show t.1.length<=_;omega,0,aS _,rfl,rfl,a2,λx hx=>⟨(hv.2.1 x hx).1.1,by have:=Cn (om _ _ b1 x hx);omega⟩,by show(eX [] t.1.length).length<=_;omega⟩];simp only[ag,uU,Aj,bO,aN];rw[nW (d:=(t.1.foldl Qx (eX [] t.1.length),(t.2.1.length:Int))) ⟨by show(t.1.foldl Qx (eX [] t.1.length)).length<=_;omega,by show(t.2.1.length:Int)<=_;omega⟩];simp only[ag,bG,v8];rw[WH (d:=(t,eX (t.1.foldl Qx (eX [] t.1.length)) t.2.1.length,t.2.1,t.2.1.length,0)) ⟨by show t.2.1.length<=_;omega,0,aS _,rfl,rfl,a3,λo ho=>⟨by have:=(mC _ _ b2 o ho).1;omega,hv.1.1 o ho⟩,by show(eX (t.1.foldl Qx (eX [] t.1.length)) t.2.1.length).length<=_;omega⟩];simp only[ag,uV,Ak,bO,aN];rw[nW (d:=(t.2.1.foldl Qf (eX (t.1.foldl Qx (eX [] t.1.length)) t.2.1.length),t.2.2.1)) ⟨by show(t.2.1.foldl Qf (eX (t.1.foldl Qx (eX [] t.1.length)) t.2.1.length)).length<=_;omega,hv.2.2⟩];rfl
theorem UY:sP.RS:=rE [.d jk] sP
def YQ:=sP.gr aqr 2 ⟨.iB abE,⟨.iB abF,trivial⟩⟩
def sV(n:Int)(x:gU):Int:=n+(10+8*x.2.1.2.1.length)+(if x.2.1.2.2.1=0 then 0 else 4)
def jY(t:fN):Int:=if iF t then t.1.foldl sV (10+8*t.2.1.length) else 0
def dJ(t:fN):List dC:=if iF t then t.1.map (·.1) else []
def BC(id:List Int)(k n:Nat):List dC:=(List.range' k n).map λi:Nat=>(id,((i:Int),()))
def iK(t:fN):List dC:=if iF t then BC (tl t) 0 t.2.1.length else []
def azY:fN->Prop:=λt=>A7 t
def UR:fN->Bs:=λt=>tl t
def tid:Fs Tryz.prog azY bG UR:=gf 12 Tryz.f12 (λt=>([.d jk t],[])) (λx=>⟨.d tH x,[],[]⟩) [au jk] [pH,YQ,aaa]
theorem aC8(t)(k:K1 R):tid.A t k=ax (il.call t) λx1=>aP (!x1) (k (tid.out (ai 32 0))) (ax (sP.call t) λx2=>ax (P7.call ((⟨#[116,120]⟩:ByteArray),[x2])) λx3=>k (tid.out x3)):=cW
theorem aC9:tid.Ok:=by
 intro t hv;have hv:A7 t:=hv;rw[aC8,mK (d:=t) hv.1];simp only[ag,bG,oN,bG,UR,tl];cases iS:iF t
 ·rfl
 ·have hl:=TT iS hv;rw[UY (d:=t) ⟨iS,hv⟩];simp only[bR,ao,cZ,ag,bG,UX];rw[R5 (d:=((⟨#[116,120]⟩:ByteArray),[wm t])) (awf eR aq)];rfl
theorem LQ:tid.RS:=rE [.d jk] tid
def US:=tid.gr aC9
abbrev LY:=Int×(List gU)×Int×Int
def U8:LY->Prop:=λ(n,l,m,i)=>(l).length<=1000000000/\∃k:Nat,k<=(l).length/\i=k/\m=(l).length/\(l.length<=64)/\(∀x∈l,x.2.1.2.1.length<=12)/\(0<=n)/\(n<=1000+200*(k:Int))
def xS:LY->Int:=λ(n,l,m,i)=>(dr (ab i) l).foldl sV n
def agi:fN->Prop:=λt=>A7 t
def NO:fN->Int:=λt=>jY t
def lf:Ls U8 bG xS:=wh (λ(n,t15,t16,t17)=>⟨([cj,cj,cj,.d ti n]++ba 11 ([.d (.slice gB) t15,.d ti t16,.d ti t17]++ba 19 [])),[],(ai 37 [])⟩) (λx=>(.exit 0,⟨([cj,cj,cj,.d ti x]++ba 33 []),[],(ai 37 [])⟩))
def sT:Fs Tryz.prog agi bG NO:=gf 41 Tryz.f41 (λt=>([.d jk t],[])) (λx=>⟨.d ti x,[],[]⟩) [au jk] [pH] {loops:=th [(5,{bz:=[3,15,16,17]})],outs:=tg [(5,{bz:=[3]},{bz:=[2]})],iE:=uA [(5,lf.E)]}
theorem U9:lf.RS:=rL [.d ti,.d (.slice gB),.d ti,.d ti] lf
theorem Ds(n t15 t16 t17)(kn:K2 R)(kx:K3 R):sT.R 0 lf (n,t15,t16,t17) kn kx=aP (iG t17 t16) (aP (iO t17 (t15.length:Int)) (aP (DF (nth gB t15 (ab t17)).2.1.2.2.1 0) (kn (lf.st ((bT .i64 (bT .i64 n (bT .i64 10 (iT .i64 8 (((ae (nth gB t15 (ab t17)).2.1.2.1):Nat):Int)))) 4),t15,t16,(bT .i64 t17 1)))) (kn (lf.st ((bT .i64 n (bT .i64 10 (iT .i64 8 (((ae (nth gB t15 (ab t17)).2.1.2.1):Nat):Int)))),t15,t16,(bT .i64 t17 1))))) aH) (lf.go kx n):=cW
theorem aj5(t)(k:K1 R):sT.A t k=ax (il.call t) λx1=>aP (!x1) (k (sT.out 0)) (ax (lf.call ((bT .i64 10 (iT .i64 8 (t.2.1.length:Int))),t.1,(t.1.length:Int),0)) λx2=>k (sT.out x2)):=cW
theorem WL:(sT.mN 0 lf):=by
 refine(sT.px 0 lf) (λ(n,l,m,i)=>(l).length - ab i) ?_
 rintro⟨n,l,m,i⟩ ⟨hlen,k,hk,rfl,rfl,ahR,hx,h0,h1⟩;have hlen:(l).length<=1000000000:=hlen;have hk:k<=(l).length:=hk;have ahR:l.length<=64:=ahR;have hx:∀x∈l,x.2.1.2.1.length<=12:=hx;have h0:0<=n:=h0;have h1:n<=1000+200*(k:Int):=h1;by_cases h:k < (l).length
 ·left;have n1:nth gB l k=l[k]:=db (t:=gB) h;have hd:dr k l=l[k]::dr (k+1) l:=aA h;refine⟨((sV n l[k]),l,((l).length:Int),((k+1:Nat):Int)),⟨hlen,k+1,aq,rfl,rfl,ahR,hx,by unfold sV;split <;> omega,by have:=hx _ (aZ h);unfold sV;split <;> omega⟩,by simp only[aa];omega,?_,λkn kx=> ?_⟩
  ·simp only[bG,xS,aa,hd,bJ]
  ·rw[Ds,bh aq,bB aq aq,aa,n1];simp only[aj];have e:=hx _ (aZ h);rw[N.aFj aq];have e2:bT .i64 10 ((8*l[k].2.1.2.1.length:Nat):Int)=10+8*(l[k].2.1.2.1.length:Int):=by rw[eU aq aq];omega
   rw[e2,eU (x:=n) aq aq,N.pV aq];unfold sV;by_cases hs:l[k].2.1.2.2.1=0
   ·rw[dX hs,ao,if_pos hs,rN]
   ·rw[fY hs,aj,if_neg hs,eU aq aq]
 ·right;obtain rfl:k=(l).length:=aq;intro R kn kx;rw[Ds,aW aq,ao];simp only[bG,xS,aa,bj,eB]
theorem aj6:sT.Ok:=by
 intro t hv;have hv:A7 t:=hv;rw[aj5,mK (d:=t) hv.1];simp only[ag,bG,oN,bG,NO,jY];cases iS:iF t
 ·rfl
 ·obtain⟨⟨_,a2,a3,_⟩,b1,b2⟩:=lQ iS;rw[N.aFj aq,eU aq aq,U9 (d:=(10+((8*t.2.1.length:Nat):Int),t.1,t.1.length,0)) ⟨by show t.1.length<=_;omega,0,aS _,rfl,rfl,a2,λx hx=>(Cn (om _ _ b1 x hx)).2.2.2.2,by show(0:Int)<=10+((8*t.2.1.length:Nat):Int);omega,by show 10+((8*t.2.1.length:Nat):Int)<=_;omega⟩];simp only[ag,bG,xS,bO,aN,bR,ao,cZ,j8];rfl
theorem agj:sT.RS:=rE [.d jk] sT
def aj7:=sT.gr aj6 1 ⟨.iB WL,trivial⟩
abbrev PI:=Bs×(List gU)×Int×Int
abbrev Fx:=Bs×(List gU)×Int×Int×(List Sg)×Int×Int×gU
def uT:Fx->Bs->(((List gU)×Int×Int×gU)×(Bs)):=λ(yh,UC,UD,zb,t32,t33,t34,n5) y=>((UC,UD,zb,n5),y)
def Wy:Fx->Prop:=λ(b,l1,aGf,i1,l,n,i,x)=>(l).length<=1000000000/\∃k:Nat,k<=(l).length/\i=k/\n=(l).length/\(l.length<=12)/\(b.length<=80000000+16*k)
def Ah:Fx->Bs:=λ(b,l1,aGf,i1,l,n,i,x)=>(dr (ab i) l).foldl Ur b
def Ww:PI->Prop:=λ(b,l,n,i)=>(l).length<=1000000000/\∃k:Nat,k<=(l).length/\i=k/\n=(l).length/\(l.length<=64)/\(∀x∈l,x.2.1.2.1.length<=12/\x.2.1.1<=9223372036854775807)/\(b.length<=100000+1000*k)
def Fv:PI->Bs:=λ(b,l,n,i)=>(dr (ab i) l).foldl akb b
theorem Ut:∀(l:List Sg) (b:List Int),(l.foldl Ur b).length=b.length+16*l.length
 |[],b=>rfl
 |x::l,b=>by have h1:=afM b x;have h3:=Ut l (Ur b x);rw[bJ,aB];omega
theorem awH(b:List Int)(x:gU)(h:x.2.1.2.1.length<=12):(akb b x).length<=b.length+300:=by have e1:=gS b x.2.1.1;have e2:=gS (eX b x.2.1.1) x.2.1.2.1.length;have e3:=Ut x.2.1.2.1 (eX (eX b x.2.1.1) x.2.1.2.1.length);unfold akb;rw[ak,dv];omega
def ajU:fN->Prop:=λt=>A7 t
def UK:fN->Bs:=λt=>az1 t
def pz:Ls Ww bG Fv:=wh (λ(b,t14,t15,t16)=>⟨([cj,cj,cj,.d tB b]++ba 10 ([.d (.slice gB) t14,.d ti t15,.d ti t16]++ba 36 [])),[],(ai 53 [])⟩) (λx=>(.exit 0,⟨([cj,cj,cj,.d tB x]++ba 49 []),[],(ai 53 [])⟩))
def pC:Ls Wy uT Ah:=wh (λ(yh,UC,UD,zb,t32,t33,t34,n5)=>⟨([cj,cj,cj,.d tB yh,cj,fa 5]++ba 8 ([.d (.slice gB) UC,.d ti UD,.d ti zb]++ba 15 ([.d (.slice LK) t32,.d ti t33,.d ti t34]++ba 18 []))),[],(bC 5 ([dz (.d gB n5)]++bC 47 []))⟩) (λx=>(.exit 2,⟨([cj,cj,cj,.d tB x.2,cj,fa 5]++ba 8 ([.d (.slice gB) x.1.1,.d ti x.1.2.1,.d ti x.1.2.2.1]++ba 36 [])),[],(bC 5 ([dz (.d gB x.1.2.2.2)]++bC 47 []))⟩))
def sM:Fs Tryz.prog ajU bG UK:=gf 76 Tryz.f76 (λt=>([.d jk t],[])) (λx=>⟨.d tB x,[],[]⟩) [au jk] [pH,YQ,Zu,ac7] {loops:=th [(5,{bz:=[3,14,15,16]}),(9,{bz:=[3,5,14,15,16,32,33,34],sites:=[5]})],outs:=tg [(5,{bz:=[3]},{bz:=[2]}),(9,{bz:=[3,5,14,15,16],sites:=[5]},{bz:=[2]})],iE:=uA [(5,pz.E),(9,pC.E)],res:=[au tB]}
theorem Wx:pz.RS:=rL [.d tB,.d (.slice gB),.d ti,.d ti] pz
theorem Fw(b t14 t15 t16)(kn:K2 R)(kx:K3 R):sM.R 0 pz (b,t14,t15,t16) kn kx=aP (iG t16 t15) (aP (iO t16 (t14.length:Int)) (ax (Dy.call (b,(nth gB t14 (ab t16)).2.1.1)) λx1=>ax (Dy.call (x1,(((ae (nth gB t14 (ab t16)).2.1.2.1):Nat):Int))) λx2=>ax (pC.call (x2,t14,t15,t16,(nth gB t14 (ab t16)).2.1.2.1,(((ae (nth gB t14 (ab t16)).2.1.2.1):Nat):Int),0,(nth gB t14 (ab t16)))) λx3=>ax (Ed.call (x3.2,x3.1.2.2.2.2.1.2.2.1)) λx4=>kn (pz.st (x4,x3.1.1,x3.1.2.1,(bT .i64 x3.1.2.2.1 1)))) aH) (pz.go kx b):=cW
theorem Wz:pC.RS:=rL [.d tB,.d (.slice gB),.d ti,.d ti,.d (.slice LK),.d ti,.d ti,.d gB] pC
theorem Fy(yh UC UD zb t32 t33 t34 n5)(kn:K2 R)(kx:K3 R):sM.R 1 pC (yh,UC,UD,zb,t32,t33,t34,n5) kn kx=aP (iG t34 t33) (aP (iO t34 (t32.length:Int)) (ax (Ed.call (yh,(nth LK t32 (ab t34)).1)) λx1=>ax (Ed.call (x1,(nth LK t32 (ab t34)).2.1)) λx2=>kn (pC.st (x2,UC,UD,zb,t32,t33,(bT .i64 t34 1),n5))) aH) (pC.go kx ((UC,UD,zb,n5),yh)):=cW
theorem aqk(t)(k:K1 R):sM.A t k=ax (il.call t) λx1=>aP (!x1) (k (sM.out ([]:List Int))) (ax (sP.call t) λx2=>ax (pz.call (x2,t.1,(t.1.length:Int),0)) λx9=>k (sM.out x9)):=cW
theorem abB:(sM.mN 1 pC):=by
 refine(sM.px 1 pC) (λ(b,l1,aGf,i1,l,n,i,x)=>(l).length - ab i) ?_
 rintro⟨b,l1,aGf,i1,l,n,i,x⟩ ⟨hlen,k,hk,rfl,rfl,aqT,hb⟩;have hlen:(l).length<=1000000000:=hlen;have hk:k<=(l).length:=hk;have aqT:l.length<=12:=aqT;have hb:b.length<=80000000+16*k:=hb;by_cases h:k < (l).length
 ·left;have n1:nth LK l k=l[k]:=db (t:=LK) h;have hd:dr k l=l[k]::dr (k+1) l:=aA h;refine⟨((Ur b l[k]),l1,aGf,i1,l,((l).length:Int),((k+1:Nat):Int),x),⟨hlen,k+1,aq,rfl,rfl,aqT,by have:=afM b l[k];omega⟩,by simp only[aa];omega,?_,λkn kx=> ?_⟩
  ·simp only[uT,Ah,aa,hd,bJ]
  ·rw[Fy,bh aq,bB aq aq,aa,n1];simp only[aj];rw[Bk (d:=(b,l[k].1)) (by show b.length<=_;omega)];simp only[ag,bG,JC];rw[Bk (d:=(b++lS l[k].1,l[k].2.1)) (by show(b++lS l[k].1).length<=_;rw[ak,dv];omega)];simp only[ag,bG,JC];rw[N.pV aq];rfl
 ·right;obtain rfl:k=(l).length:=aq;intro R kn kx;rw[Fy,aW aq,ao];simp only[uT,Ah,aa,bj,eB]
theorem abA:(sM.mN 0 pz):=by
 refine(sM.px 0 pz) (λ(b,l,n,i)=>(l).length - ab i) ?_
 rintro⟨b,l,n,i⟩ ⟨hlen,k,hk,rfl,rfl,ahR,hx,hb⟩;have hlen:(l).length<=1000000000:=hlen;have hk:k<=(l).length:=hk;have ahR:l.length<=64:=ahR;have hx:∀x∈l,x.2.1.2.1.length<=12/\x.2.1.1<=9223372036854775807:=hx;have hb:b.length<=100000+1000*k:=hb;by_cases h:k < (l).length
 ·left;have n1:nth gB l k=l[k]:=db (t:=gB) h;have hd:dr k l=l[k]::dr (k+1) l:=aA h;refine⟨((akb b l[k]),l,((l).length:Int),((k+1:Nat):Int)),⟨hlen,k+1,aq,rfl,rfl,ahR,hx,by have:=awH b l[k] (hx _ (aZ h)).1;omega⟩,by simp only[aa];omega,?_,λkn kx=> ?_⟩
  ·simp only[bG,Fv,aa,hd,bJ]
  ·rw[Fw,bh aq,bB aq aq,aa,n1];simp only[aj];have e:=hx _ (aZ h);have e1:=gS b l[k].2.1.1;have e2:=gS (eX b l[k].2.1.1) l[k].2.1.2.1.length;have e3:=Ut l[k].2.1.2.1 (eX (eX b l[k].2.1.1) l[k].2.1.2.1.length);rw[nW (d:=(b,l[k].2.1.1)) ⟨by show b.length<=_;omega,e.2⟩];simp only[ag,bG,v8];rw[nW (d:=(eX b l[k].2.1.1,(l[k].2.1.2.1.length:Int))) ⟨by show(eX b l[k].2.1.1).length<=_;omega,by show(l[k].2.1.2.1.length:Int)<=_;omega⟩];simp only[ag,bG,v8];rw[Wz (d:=(eX (eX b l[k].2.1.1) l[k].2.1.2.1.length,l,l.length,k,l[k].2.1.2.1,l[k].2.1.2.1.length,0,l[k])) ⟨by show l[k].2.1.2.1.length<=_;omega,0,aS _,rfl,rfl,e.1,by show(eX (eX b l[k].2.1.1) l[k].2.1.2.1.length).length<=_;omega⟩];simp only[ag,uT,Ah,bO,aN];rw[Bk (d:=(l[k].2.1.2.1.foldl Ur (eX (eX b l[k].2.1.1) l[k].2.1.2.1.length),l[k].2.1.2.2.1)) (by show(l[k].2.1.2.1.foldl Ur (eX (eX b l[k].2.1.1) l[k].2.1.2.1.length)).length<=_;omega)];simp only[ag,bG,JC];rw[N.pV aq];rfl
 ·right;obtain rfl:k=(l).length:=aq;intro R kn kx;rw[Fw,aW aq,ao];simp only[bG,Fv,aa,bj,eB]
theorem aql:sM.Ok:=by
 intro t hv;have hv:A7 t:=hv;rw[aqk,mK (d:=t) hv.1];simp only[ag,bG,oN,bG,UK,az1];cases iS:iF t
 ·rfl
 ·obtain⟨⟨_,a2,a3,_⟩,b1,b2⟩:=lQ iS;have hl:=TT iS hv;rw[UY (d:=t) ⟨iS,hv⟩];simp only[bR,ao,cZ,ag,bG,UX];rw[Wx (d:=(wm t,t.1,t.1.length,0)) ⟨by show t.1.length<=_;omega,0,aS _,rfl,rfl,a2,λx hx=>by have:=Cn (om _ _ b1 x hx);exact⟨this.2.2.2.2,aq⟩,by show(wm t).length<=_;omega⟩];rfl
theorem ajV:sM.RS:=rE [.d jk] sM
def aqm:=sM.gr aql 2 ⟨.iB abA,⟨.iB abB,trivial⟩⟩
abbrev LW:=Nat×(List gU)×Int×Int×(List dC)
def U5:LW->Prop:=λ(L,l,n,i,r)=>(l).length<=1000000/\∃k:Nat,k<=(l).length/\i=k/\n=(l).length/\L=(r).length/\(r).length<=1000000+k
def xR:LW->(Nat×(List dC)):=λ(L,l,n,i,r)=>(L+(dr (ab i) l).length,r++(dr (ab i) l).map (λx:gU=>x.1))
def agh:fN->Prop:=λt=>aD7 t
def Gp:fN->(List dC):=λt=>dJ t
def mL:Ls U5 bG xR:=wh (λ(lL,t9,t10,t11,n19)=>⟨([cj,cj,lq 19 lL]++ba 6 ([.d (.slice gB) t9,.d ti t10,.d ti t11]++ba 10 [])),[],(bC 19 [dz (.vec 31 cV n19),[],[]])⟩) (λx=>(.exit 0,⟨([cj,cj,lq 19 x.1]++ba 19 []),[],(bC 19 [dz (.vec 31 cV x.2),[],[]])⟩))
def qo:Fs Tryz.prog agh bG Gp:=gf 43 Tryz.f43 (λt=>([.d jk t],[])) (λx=>⟨.d (.slice cV) x,[],[]⟩) [au jk] [pH] {loops:=th [(4,{bz:=[2,9,10,11],sites:=[19],owns:=[⟨2,[],19,111⟩]})],outs:=tg [(4,{bz:=[2],sites:=[19]},{bz:=[2]})],iE:=uA [(4,mL.E)],res:=[au (.slice cV)]}
theorem U6:mL.RS:=rL [.n,.d (.slice gB),.d ti,.d ti,.d (.slice cV)] mL
theorem Dr(lL t9 t10 t11 n19)(kn:K2 R)(kx:K3 R):qo.R 0 mL (lL,t9,t10,t11,n19) kn kx=aP (iG t11 t10) (aP (iO t11 (t9.length:Int)) (aP (decide (lL<=(ae n19))) (aP (dI (lL+1) 40) (kn (mL.st ((lL+1),t9,t10,(bT .i64 t11 1),((bk lL n19)++ [(nth gB t9 (ab t11)).1])))) aH) aH) aH) (mL.go kx (lL,n19)):=cW
theorem aj3(t)(k:K1 R):qo.A t k=ax (il.call t) λx1=>aP (!x1) (k (qo.out ([]:List dC))) (ax (mL.call (0,t.1,(t.1.length:Int),0,([]:List dC))) λx2=>aP (decide (0=0/\(0+x2.1)<=(ae x2.2))) (k (qo.out (cut x2.2 0 x2.1))) aH):=cW
theorem WK:(qo.mN 0 mL):=by
 refine(qo.px 0 mL) (λ(L,l,n,i,r)=>(l).length - ab i) ?_
 rintro⟨L,l,n,i,r⟩ ⟨hlen,k,hk,rfl,rfl,rfl,pP⟩;have hlen:(l).length<=1000000:=hlen;have hk:k<=(l).length:=hk;have pP:(r).length<=1000000+k:=pP;by_cases h:k < (l).length
 ·left;have n1:nth gB l k=l[k]:=db (t:=gB) h;have hd:dr k l=l[k]::dr (k+1) l:=aA h;refine⟨((r).length+1,l,((l).length:Int),((k+1:Nat):Int),r++ [(λx:gU=>x.1) l[k]]),⟨hlen,k+1,aq,rfl,rfl,by rw[ak];rfl,by rw[ak];show(r).length+1<=_;omega⟩,by simp only[aa];omega,?_,λkn kx=> ?_⟩
  ·simp only[bG,xR,aa,hd,bn,aB,aK,cC];rw[show ∀a c:Nat,a+1+c=a+(c+1) from λa c=>aq]
  ·rw[Dr,bh aq,bB (show(0:Int)<=(k:Int) by omega) aq,aa,n1];simp only[aj];rw[aM (aC _),dN aq aq,N.pV aq,bU];rfl
 ·right;obtain rfl:k=(l).length:=aq;intro R kn kx;rw[Dr,aW aq,ao];simp only[bG,xR,aa,bj,eF,bo,bw,ct]
theorem aj4:qo.Ok:=by
 intro t hv;have hv:aD7 t:=hv;rw[aj3,mK (d:=t) hv];simp only[ag,bG,oN,bG,Gp,dJ];cases iS:iF t
 ·rfl
 ·obtain⟨⟨_,a2,a3,_⟩,b1,b2⟩:=lQ iS;rw[U6 (d:=(0,t.1,t.1.length,0,[])) ⟨by show t.1.length<=_;omega,0,aS _,rfl,rfl,rfl,aS _⟩];simp only[bR,ao,cZ,ag,bG,xR,bO,aN,aT,aU];rw[aM ⟨by trivial,by rw[bg];exact aC _⟩,aj,fA (by rw[bg])]
theorem PT:qo.RS:=rE [.d jk] qo
def U7:=qo.gr aj4 1 ⟨.iB WK,trivial⟩
abbrev UU:=Nat×Int×Int×Bs×(List dC)
def abC:UU->Prop:=λ(L,n,i,id,r)=>∃k m:Nat,k<=m/\i=k/\n=m/\m<=1000/\L=r.length/\L=k
def CW:UU->(Nat×(List dC)):=λ(L,n,i,id,r)=>(L+(n - i).toNat,r++BC id i.toNat (n - i).toNat)
def aqo:fN->Prop:=λt=>A7 t
def QM:fN->(List dC):=λt=>iK t
def sN:Ls abC bG CW:=wh (λ(lL,t12,t13,n3,n21)=>⟨([cj,cj,lq 21 lL,fa 3]++ba 8 ([.d ti t12,.d ti t13]++ba 10 [])),[],([[],[],[],dz (.d tH n3)]++bC 17 [dz (.vec 31 cV n21),[],[]])⟩) (λx=>(.exit 0,⟨([cj,cj,lq 21 x.1]++ba 21 []),[],(bC 21 [dz (.vec 31 cV x.2),[],[]])⟩))
def Dq:Fs Tryz.prog aqo bG QM:=gf 122 Tryz.f122 (λt=>([.d jk t],[])) (λx=>⟨.d (.slice cV) x,[],[]⟩) [au jk] [US,pH] {loops:=th [(5,{bz:=[2,3,12,13],sites:=[3,21],owns:=[⟨2,[],21,111⟩]})],outs:=tg [(5,{bz:=[2],sites:=[21]},{bz:=[2]})],iE:=uA [(5,sN.E)],res:=[au (.slice cV)]}
theorem abD:sN.RS:=rL [.n,.d ti,.d ti,.d tB,.d (.slice cV)] sN
theorem Hl(lL t12 t13 n3 n21)(kn:K2 R)(kx:K3 R):Dq.R 0 sN (lL,t12,t13,n3,n21) kn kx=aP (iG t13 t12) (aP (decide (lL<=(ae n21))) (aP (dI (lL+1) 40) (kn (sN.st ((lL+1),t12,(bT .i64 t13 1),n3,((bk lL n21)++ [(n3,(t13,()))])))) aH) aH) (sN.go kx (lL,n21)):=cW
theorem awj(t)(k:K1 R):Dq.A t k=ax (tid.call t) λx1=>ax (il.call t) λx2=>aP (!x2) (k (Dq.out ([]:List dC))) (ax (sN.call (0,(t.2.1.length:Int),0,x1,([]:List dC))) λx3=>aP (decide (0=0/\(0+x3.1)<=(ae x3.2))) (k (Dq.out (cut x3.2 0 x3.1))) aH):=cW
theorem aot(id:List Int)(k n:Nat):(BC id k n).length=n:=by simp[BC]
theorem ait(id:List Int)(k n:Nat):BC id k (n+1)=(id,((k:Int),()))::BC id (k+1) n:=by unfold BC;rw[List.range'_succ,bn]
theorem af5:(Dq.mN 0 sN):=by
 refine(Dq.px 0 sN) (λ(L,n,i,id,r)=>(n - i).toNat) ?_
 rintro⟨L,n,i,id,r⟩ ⟨k,m,hk,rfl,rfl,hm,rfl,aIA⟩;have aIA:r.length=k:=aIA;by_cases h:k < m
 ·left;have e1:((m:Int) - (k:Int)).toNat=(m - (k+1))+1:=aq;have e2:((m:Int) - ((k+1:Nat):Int)).toNat=m - (k+1):=aq;refine⟨(r.length+1,(m:Int),((k+1:Nat):Int),id,r++ [(id,((k:Int),()))]),⟨k+1,m,aq,rfl,rfl,hm,by rw[ak];rfl,by show r.length+1=_;omega⟩,by show((m:Int) - ((k+1:Nat):Int)).toNat < ((m:Int) - (k:Int)).toNat;omega,?_,λkn kx=> ?_⟩
  ·simp only[bG,CW,e1,e2,aa,ait,aK,cC];rw[show r.length+1+(m - (k+1))=r.length+(m - (k+1)+1) by omega]
  ·rw[Hl,bh aq,aM (aC _),dN aq aq,N.pV aq,bU];rfl
 ·right;obtain rfl:k=m:=aq;intro R kn kx;rw[Hl,aW aq,ao];simp only[bG,CW,Int.sub_self,bO,ct];rw[show BC id (k:Int).toNat 0=[] from rfl,bo]
theorem awk:Dq.Ok:=by
 intro t hv;have hv:A7 t:=hv;rw[awj,LQ (d:=t) hv,mK (d:=t) hv.1];simp only[ag,bG,UR,bG,oN,bG,QM,iK];cases iS:iF t
 ·rfl
 ·obtain⟨⟨_,a2,a3,_⟩,b1,b2⟩:=lQ iS;have hl:=aot (tl t) 0 t.2.1.length;rw[abD (d:=(0,t.2.1.length,0,tl t,[])) ⟨0,t.2.1.length,aS _,rfl,rfl,aq,rfl,rfl⟩];simp only[bR,ao,cZ,ag,bG,CW,oP,aa,bO,aT,aU];rw[aM ⟨by trivial,by rw[hl];exact aC _⟩,aj,fA hl]
theorem YP:Dq.RS:=rE [.d jk] Dq
def af6:=Dq.gr awk 1 ⟨.iB af5,trivial⟩
def arO:(List gU)->Prop:=λl=>l.length<=1000000
def ahh:(List gU)->(Nat×(List gU)):=λl=>(l.length,l)
def Zn:Fs Tryz.prog arO bG ahh:=gf 137 Tryz.f137 (λsv=>([.d (.slice gB) sv],[])) (λx=>⟨.cM (.new 0 0) 0 [] 0 0 x.1,[],[.obj 0 aV (.vec 143 gB x.2)]⟩) [au (.slice gB)] [] {bM:=[5],owns:=[⟨2,[],5,53⟩]}
theorem axn(sv)(k:K1 R):Zn.A sv k=aP (decide (0 < (ae sv))) (aP (dI (0+(ae sv)) 80) (k (Zn.out ((0+(ae sv)),((bk 0 (ai 0 (((ai 32 0),(0,())),((0,(([]:List Sg),(0,()))),()))))++sv)))) aH) (nd (k (Zn.out (0,([]:List gU)))) (aP (dI (0+(ae sv)) 80) (k (Zn.out ((0+(ae sv)),((bk 0 (ai 0 (((ai 32 0),(0,())),((0,(([]:List Sg),(0,()))),()))))++sv)))) aH)):=cW
theorem axo:Zn.Ok:=by
 intro l hl;have hl:l.length<=1000000:=hl;have hr:dI l.length 80=aO:=dN aq aq;rw[axn];simp only[aU,hr,aj,fb,aT,bG,ahh];by_cases h:0 < l.length
 ·simp only[aM h,aj]
 ·have:l=[]:=bm aq;subst this;simp only[bw,Cz,cz (gX 0),ao]
theorem arP:Zn.RS:=rE [.d (.slice gB)] Zn
def axp:=Zn.gr axo
def am6:(List jo)->Prop:=λl=>l.length<=1000000
def Zo:(List jo)->(Nat×(List jo)):=λl=>(l.length,l)
def Jv:Fs Tryz.prog am6 bG Zo:=gf 138 Tryz.f138 (λsv=>([.d (.slice nu) sv],[])) (λx=>⟨.cM (.new 0 0) 0 [] 0 0 x.1,[],[.obj 0 aV (.vec 36 nu x.2)]⟩) [au (.slice nu)] [] {bM:=[5],owns:=[⟨2,[],5,27⟩]}
theorem arQ(sv)(k:K1 R):Jv.A sv k=aP (decide (0 < (ae sv))) (aP (dI (0+(ae sv)) 32) (k (Jv.out ((0+(ae sv)),((bk 0 (ai 0 (0,((([]:List rI),()),()))))++sv)))) aH) (nd (k (Jv.out (0,([]:List jo)))) (aP (dI (0+(ae sv)) 32) (k (Jv.out ((0+(ae sv)),((bk 0 (ai 0 (0,((([]:List rI),()),()))))++sv)))) aH)):=cW
theorem arR:Jv.Ok:=by
 intro l hl;have hl:l.length<=1000000:=hl;have hr:dI l.length 32=aO:=dN aq aq;rw[arQ];simp only[aU,hr,aj,fb,aT,bG,Zo];by_cases h:0 < l.length
 ·simp only[aM h,aj]
 ·have:l=[]:=bm aq;subst this;simp only[bw,Cz,cz (gX 0),ao]
theorem am7:Jv.RS:=rE [.d (.slice nu)] Jv
def arS:=Jv.gr arR
def arN:(List rI)->Prop:=λl=>l.length<=1000000
def Rf:(List rI)->(Nat×(List rI)):=λl=>(l.length,l)
def Re:Fs Tryz.prog arN bG Rf:=gf 54 Tryz.f54 (λsv=>([.d (.slice pT) sv],[])) (λx=>⟨.cM (.new 0 0) 0 [] 0 0 x.1,[],[.obj 0 aV (.vec 121 pT x.2)]⟩) [au (.slice pT)] [] {bM:=[5],owns:=[⟨2,[],5,32⟩]}
theorem axl(sv)(k:K1 R):Re.A sv k=aP (decide (0 < (ae sv))) (aP (dI (0+(ae sv)) 48) (k (Re.out ((0+(ae sv)),((bk 0 (ai 0 (([]:List Int),(0,(0,(0,()))))))++sv)))) aH) (nd (k (Re.out (0,([]:List rI)))) (aP (dI (0+(ae sv)) 48) (k (Re.out ((0+(ae sv)),((bk 0 (ai 0 (([]:List Int),(0,(0,(0,()))))))++sv)))) aH)):=cW
theorem axm:Re.Ok:=by
 intro l hl;have hl:l.length<=1000000:=hl;have hr:dI l.length 48=aO:=dN aq aq;rw[axl];simp only[aU,hr,aj,fb,aT,bG,Rf];by_cases h:0 < l.length
 ·simp only[aM h,aj]
 ·have:l=[]:=bm aq;subst this;simp only[bw,Cz,cz (gX 0),ao]
theorem Rg:Re.RS:=rE [.d (.slice pT)] Re
def Zm:=Re.gr axm
def am8:(List Sg)->Prop:=λl=>l.length<=1000000
def Zp:(List Sg)->(List Sg):=λl=>l
def Jw:Fs Tryz.prog am8 bG Zp:=gf 139 Tryz.f139 (λsv=>([.d (.slice LK) sv],[])) (λx=>⟨.d (.slice LK) x,[],[]⟩) [au (.slice LK)] [] {bM:=[5],res:=[au (.slice LK)]}
theorem arT(sv)(k:K1 R):Jw.A sv k=aP (decide (0 < (ae sv))) (aP (dI (0+(ae sv)) 16) (aP (decide (0=0/\(0+(0+(ae sv)))<=(ae ((bk 0 (ai 0 (0,(0,()))))++sv)))) (k (Jw.out (cut ((bk 0 (ai 0 (0,(0,()))))++sv) 0 (0+(ae sv))))) aH) aH) (nd (k (Jw.out ([]:List Sg))) (aP (dI (0+(ae sv)) 16) (aP (decide (0=0/\(0+(0+(ae sv)))<=(ae ((bk 0 (ai 0 (0,(0,()))))++sv)))) (k (Jw.out (cut ((bk 0 (ai 0 (0,(0,()))))++sv) 0 (0+(ae sv))))) aH) aH)):=cW
theorem arU:Jw.Ok:=by
 intro l hl;have hl:l.length<=1000000:=hl;have hr:dI l.length 16=aO:=dN aq aq;rw[arT];simp only[aU,hr,aj,fb,aT,aC,lH,cQ,fA,bG,Zp];by_cases h:0 < l.length
 ·simp only[aM h,aj]
 ·have:l=[]:=bm aq;subst this;simp only[bw,Cz,cz (gX 0),ao]
theorem am9:Jw.RS:=rE [.d (.slice LK)] Jw
def arV:=Jw.gr arU
abbrev CU:=Int×Int×Nat×Nat×(Int×Unit)×(Int×Unit)×(List gU)×(List jo)
def Fz:CU->(List gU)->((Nat×Nat×(Int×Unit)×(Int×Unit)×(List jo))×((List gU))):=λ(t17,t18,ab6,S3,n1,n2,n9,n12) y=>((ab6,S3,n1,n2,n12),y)
abbrev LM:=Int×Int×Nat×Nat×(Int×Unit)×(Int×Unit)×(List gU)×(List jo)
abbrev CV:=Int×Nat×Int×Int×Int×Int×Nat×Nat×(Int×Unit)×(Int×Unit)×(List gU)×(List jo)×(List rI)
abbrev LP:=(List rI)×(List rI)
def FA:CV->LP->((Int×Int×Int×Nat×Nat×(Int×Unit)×(Int×Unit)×(List gU)×(List jo))×((List rI)×(List rI))):=λ(kv,lL,vT,UG,t51,t52,S4,S5,Ip,qM,aiB,SV,n49) y=>((kv,vT,UG,S4,S5,Ip,qM,aiB,SV),y)
def UL:CU->Prop:=λ(m,i,L,L2,u,v,l,os)=>(l.length<=1000/\∀x∈l,x.2.1.2.1.length<=1000000)/\∃k:Nat,k<=l.length/\i=k/\m=l.length/\L=l.length
def LL:CU->(List gU):=λ(m,i,L,L2,u,v,l,os)=>l
def UP:CV->Prop:=λ(kv,L,m1,i1,m,i,L5,L6,u,v,ls,os,bs)=>(bs.length<=1000/\∀x∈bs,x.1.length<=1000000)/\∃k:Nat,k<=bs.length/\i=k/\m=bs.length/\L=bs.length
def LO:CV->LP:=λ(kv,L,m1,i1,m,i,L5,L6,u,v,ls,os,bs)=>(bs,bs)
def UN:LM->Prop:=λ(m,i,L3,L,u,v,ls,os)=>(os.length<=1000/\∀x∈os,x.2.1.1.length<=1000/\∀b∈x.2.1.1,b.1.length<=1000000)/\∃k:Nat,k<=os.length/\i=k/\m=os.length/\L=os.length
def LN:LM->(Nat×Nat×(Int×Unit)×(Int×Unit)×(List gU)×(List jo)):=λ(m,i,L3,L,u,v,ls,os)=>(L3,L,u,v,ls,os)
def af2:fN->Prop:=λt=>iF t=aO
def YO:fN->(Nat×((List jo)×(Int×Unit))×(List gU)):=λt=>(t.1.length,(t.2.1,t.2.2),t.1)
def kX:Ls UL Fz LL:=wh (λ(t17,t18,ab6,S3,n1,n2,n9,n12)=>⟨([cj,fa 1,fa 2]++ba 14 ([.d ti t17,.d ti t18]++ba 56 [])),[],([[],dz (.pr (lq 9 ab6) (.pr (lq 12 S3) (.d (.pair ti .unit) n1))),dz (.pr (.dd) (.pr (.dd) (.d (.pair ti .unit) n2)))]++bC 6 ([dz (.vec 143 gB n9),[],[],dz (.vec 36 nu n12)]++bC 62 []))⟩) (λx=>(.exit 0,⟨([cj,fa 1,fa 2]++ba 72 []),[],([[],dz (.pr (lq 9 x.1.1) (.pr (lq 12 x.1.2.1) (.d (.pair ti .unit) x.1.2.2.1))),dz (.pr (.dd) (.pr (.dd) (.d (.pair ti .unit) x.1.2.2.2.1)))]++bC 6 ([dz (.vec 143 gB x.2),[],[],dz (.vec 36 nu x.1.2.2.2.2)]++bC 62 []))⟩))
def kY:Ls UN bG LN:=wh (λ(t38,t39,aeC,X5,Nb,rF,KE,SU)=>⟨([cj,fa 1,fa 2]++ba 35 ([.d ti t38,.d ti t39]++ba 35 [])),[],([[],dz (.pr (lq 9 aeC) (.pr (lq 12 X5) (.d (.pair ti .unit) Nb))),dz (.pr (.dd) (.pr (.dd) (.d (.pair ti .unit) rF)))]++bC 6 ([dz (.vec 143 gB KE),[],[],dz (.vec 36 nu SU)]++bC 62 []))⟩) (λx=>(.exit 2,⟨([cj,fa 1,fa 2]++ba 72 []),[],([[],dz (.pr (lq 9 x.1) (.pr (lq 12 x.2.1) (.d (.pair ti .unit) x.2.2.1))),dz (.pr (.dd) (.pr (.dd) (.d (.pair ti .unit) x.2.2.2.1)))]++bC 6 ([dz (.vec 143 gB x.2.2.2.2.1),[],[],dz (.vec 36 nu x.2.2.2.2.2)]++bC 62 []))⟩))
def kZ:Ls UP FA LO:=wh (λ(kv,lL,vT,UG,t51,t52,S4,S5,Ip,qM,aiB,SV,n49)=>⟨([cj,fa 1,fa 2,cj,.d ti kv,lq 49 lL]++ba 32 ([.d ti vT,.d ti UG]++ba 11 ([.d ti t51,.d ti t52]++ba 22 []))),[],([[],dz (.pr (lq 9 S4) (.pr (lq 12 S5) (.d (.pair ti .unit) Ip))),dz (.pr (.dd) (.pr (.dd) (.d (.pair ti .unit) qM)))]++bC 6 ([dz (.vec 143 gB aiB),[],[],dz (.vec 36 nu SV)]++bC 36 ([dz (.vec 121 pT n49)]++bC 25 [])))⟩) (λx=>(.exit 4,⟨([cj,fa 1,fa 2,cj,.d ti x.1.1,.d (.slice pT) x.2.1]++ba 32 ([.d ti x.1.2.1,.d ti x.1.2.2.1]++ba 35 [])),[],([[],dz (.pr (lq 9 x.1.2.2.2.1) (.pr (lq 12 x.1.2.2.2.2.1) (.d (.pair ti .unit) x.1.2.2.2.2.2.1))),dz (.pr (.dd) (.pr (.dd) (.d (.pair ti .unit) x.1.2.2.2.2.2.2.1)))]++bC 6 ([dz (.vec 143 gB x.1.2.2.2.2.2.2.2.1),[],[],dz (.vec 36 nu x.1.2.2.2.2.2.2.2.2)]++bC 36 ([[.obj 0 aO (.vec 121 pT x.2.2)]]++bC 25 [])))⟩))
def lz:Fs Tryz.prog af2 bG YO:=gf 104 Tryz.f104 (λt=>([.d jk t],[])) (λx=>⟨.pr (.cM (.new 0 0) 0 [] 0 0 x.1) (.d (.pair (.slice nu) (.pair ti .unit)) x.2.1),[],[.obj 0 aV (.vec 143 gB x.2.2)]⟩) [au jk] [axp,arS,arV,Zm,Gg] {bM:=[1],loops:=th [(3,{bz:=[1,2,17,18],sites:=[1,2,9,12]}),(8,{bz:=[1,2,38,39],sites:=[1,2,9,12]}),(12,{bz:=[1,2,4,5,38,39,51,52],sites:=[1,2,9,12,49]})],outs:=tg [(3,{bz:=[1,2],sites:=[1,2,9,12]},{bz:=[2]}),(8,{bz:=[1,2],sites:=[1,2,9,12]},{bz:=[2]}),(12,{bz:=[1,2,4,5,38,39],sites:=[1,2,9,12,49],data:=[(5,(.slice pT))]},{bz:=[2]})],iE:=uA [(3,kX.E),(8,kY.E),(12,kZ.E)],JP:=[⟨2,[.snd,.fst],(.slice nu)⟩]}
theorem UM:kX.RS:=rL [.d ti,.d ti,.n,.n,.d (.pair ti .unit),.d (.pair ti .unit),.d (.slice gB),.d (.slice nu)] kX
theorem Dm(t17 t18 ab6 S3 n1 n2 n9 n12)(kn:K2 R)(kx:K3 R):lz.R 0 kX (t17,t18,ab6,S3,n1,n2,n9,n12) kn kx=aP (iG t18 t17) (aP (iO t18 ((ab6:Nat):Int)) (aP (decide ((0+(ab t18)) < (ae n9))) (aP (decide ((((0+(ab t18))*36)+34)=(((0+((ab t18)*36))+33)+1))) (ax (Jw.call (nth gB n9 (0+(ab t18))).2.1.2.1) λx1=>aP (iO t18 ((ab6:Nat):Int)) (aP (decide ((0+(ab t18)) < (ae n9))) (aP (decide ((((0+(ab t18))*36)+34)=(((0+((ab t18)*36))+33)+1))) (aP (decide ((0+(ab t18)) < (ae n9))) (kn (kX.st (t17,(bT .i64 t18 1),ab6,S3,n1,n2,(fW n9 (0+(ab t18)) ((nth gB n9 (0+(ab t18))).1,(((nth gB n9 (0+(ab t18))).2.1.1,(x1,(nth gB n9 (0+(ab t18))).2.1.2.2)),(nth gB n9 (0+(ab t18))).2.2))),n12))) aH) aH) aH) aH) aH) aH) aH) (kX.go kx ((ab6,S3,n1,n2,n12),n9)):=cW
theorem UO:kY.RS:=rL [.d ti,.d ti,.n,.n,.d (.pair ti .unit),.d (.pair ti .unit),.d (.slice gB),.d (.slice nu)] kY
theorem Dn(t38 t39 aeC X5 Nb rF KE SU)(kn:K2 R)(kx:K3 R):lz.R 1 kY (t38,t39,aeC,X5,Nb,rF,KE,SU) kn kx=aP (iG t39 t38) (aP (iO t39 ((X5:Nat):Int)) (aP (decide ((0+(ab t39)) < (ae SU))) (aP (decide ((((0+(ab t39))*2)+1)=(((0+((ab t39)*2))+1)+0))) (ax (Re.call (nth nu SU (0+(ab t39))).2.1.1) λx1=>ax (kZ.call (t39,x1.1,t38,t39,((x1.1:Nat):Int),0,aeC,X5,Nb,rF,KE,SU,x1.2)) λx2=>aP (iO x2.1.1 ((x2.1.2.2.2.2.1:Nat):Int)) (aP (decide ((0+(ab x2.1.1)) < (ae x2.1.2.2.2.2.2.2.2.2))) (aP (decide ((((0+(ab x2.1.1))*2)+1)=(((0+((ab x2.1.1)*2))+1)+0))) (aP (decide ((0+(ab x2.1.1)) < (ae x2.1.2.2.2.2.2.2.2.2))) (kn (kY.st (x2.1.2.1,(bT .i64 x2.1.2.2.1 1),x2.1.2.2.2.1,x2.1.2.2.2.2.1,x2.1.2.2.2.2.2.1,x2.1.2.2.2.2.2.2.1,x2.1.2.2.2.2.2.2.2.1,(fW x2.1.2.2.2.2.2.2.2.2 (0+(ab x2.1.1)) ((nth nu x2.1.2.2.2.2.2.2.2.2 (0+(ab x2.1.1))).1,((x2.2.1,(nth nu x2.1.2.2.2.2.2.2.2.2 (0+(ab x2.1.1))).2.1.2),(nth nu x2.1.2.2.2.2.2.2.2.2 (0+(ab x2.1.1))).2.2)))))) aH) aH) aH) aH) aH) aH) aH) (kY.go kx (aeC,X5,Nb,rF,KE,SU)):=cW
theorem UQ:kZ.RS:=rL [.d ti,.n,.d ti,.d ti,.d ti,.d ti,.n,.n,.d (.pair ti .unit),.d (.pair ti .unit),.d (.slice gB),.d (.slice nu),.d (.slice pT)] kZ
theorem Dp(kv lL vT UG t51 t52 S4 S5 Ip qM aiB SV n49)(kn:K2 R)(kx:K3 R):lz.R 2 kZ (kv,lL,vT,UG,t51,t52,S4,S5,Ip,qM,aiB,SV,n49) kn kx=aP (iG t52 t51) (aP (iO t52 ((lL:Nat):Int)) (aP (decide ((0+(ab t52)) < (ae n49))) (aP (decide ((((0+(ab t52))*4)+0)=((0+((ab t52)*4))+0))) (ax (wi.call (nth pT n49 (0+(ab t52))).1) λx1=>aP (iO t52 ((lL:Nat):Int)) (aP (decide ((0+(ab t52)) < (ae n49))) (aP (decide ((((0+(ab t52))*4)+0)=((0+((ab t52)*4))+0))) (aP (decide ((0+(ab t52)) < (ae n49))) (kn (kZ.st (kv,lL,vT,UG,t51,(bT .i64 t52 1),S4,S5,Ip,qM,aiB,SV,(fW n49 (0+(ab t52)) (x1,(nth pT n49 (0+(ab t52))).2))))) aH) aH) aH) aH) aH) aH) aH) (aP (decide (0=0/\(0+lL)<=(ae n49))) (kZ.go kx ((kv,vT,UG,S4,S5,Ip,qM,aiB,SV),((cut n49 0 lL),n49))) aH):=cW
theorem ajW(t)(k:K1 R):lz.A t k=ax (Zn.call t.1) λx1=>ax (Jv.call t.2.1) λx2=>ax (kX.call (((x1.1:Nat):Int),0,x1.1,x2.1,t.2.2,(0,()),x1.2,x2.2)) λx4=>ax (kY.call (((x4.1.2.1:Nat):Int),0,x4.1.1,x4.1.2.1,x4.1.2.2.1,x4.1.2.2.2.1,x4.2,x4.1.2.2.2.2)) λx8=>aP (decide (0=0/\(0+x8.2.1)<=(ae x8.2.2.2.2.2))) (k (lz.out (x8.1,((cut x8.2.2.2.2.2 0 x8.2.1),x8.2.2.1),x8.2.2.2.2.1))) aH:=cW
theorem WA:(lz.mN 0 kX):=by
 refine(lz.px 0 kX) (λ(m,i,L,L2,u,v,l,os)=>l.length - ab i) ?_
 rintro⟨m,i,L,L2,u,v,l,os⟩ ⟨⟨hlen,hx⟩,k,hk,rfl,rfl,rfl⟩;have hlen:l.length<=1000:=hlen;have hk:k<=l.length:=hk;by_cases h:k < l.length
 ·left;have n1:nth gB l k=l[k]:=db (t:=gB) h;have hs:l.set k l[k]=l:=fJ h;have e:=hx _ (aZ h);refine⟨((l.length:Int),((k+1:Nat):Int),l.length,L2,u,v,l,os),⟨⟨hlen,hx⟩,k+1,aq,rfl,rfl,rfl⟩,by simp only[aa];omega,rfl,λkn kx=> ?_⟩;rw[Dm,bh aq,bB aq aq];simp only[aa,aU,ct,dZ,Nat.reduceAdd,aj,aM h,cQ,n1];rw[am9 (d:=l[k].2.1.2.1) e];simp only[ag,bG,Zp];rw[N.pV aq];exact bK (λz=>kn (kX.st (_,_,_,_,_,_,z,_))) hs
 ·right;obtain rfl:k=l.length:=aq;intro R kn kx;rw[Dm,aW aq,ao];rfl
theorem WC:(lz.mN 2 kZ):=by
 refine(lz.px 2 kZ) (λ(kv,L,m1,i1,m,i,L5,L6,u,v,ls,os,bs)=>bs.length - ab i) ?_
 rintro⟨kv,L,m1,i1,m,i,L5,L6,u,v,ls,os,bs⟩ ⟨⟨hlen,hx⟩,k,hk,rfl,rfl,rfl⟩;have hlen:bs.length<=1000:=hlen;have hk:k<=bs.length:=hk;by_cases h:k < bs.length
 ·left;have n1:nth pT bs k=bs[k]:=db (t:=pT) h;have hs:bs.set k bs[k]=bs:=fJ h;have e:=hx _ (aZ h);refine⟨(kv,bs.length,m1,i1,(bs.length:Int),((k+1:Nat):Int),L5,L6,u,v,ls,os,bs),⟨⟨hlen,hx⟩,k+1,aq,rfl,rfl,rfl⟩,by simp only[aa];omega,rfl,λkn kx=> ?_⟩;rw[Dp,bh aq,bB aq aq];simp only[aa,aU,ct,dZ,Nat.reduceAdd,aj,aM h,cQ,n1];rw[CD (d:=bs[k].1) e];simp only[ag,bG,EU];rw[N.pV aq];exact bK (λz=>kn (kZ.st (_,_,_,_,_,_,_,_,_,_,_,_,z))) hs
 ·right;obtain rfl:k=bs.length:=aq;intro R kn kx;rw[Dp,aW aq,ao];simp only[aU,aC,lH,cQ,aj,fA];rfl
theorem WB:(lz.mN 1 kY):=by
 refine(lz.px 1 kY) (λ(m,i,L3,L,u,v,ls,os)=>os.length - ab i) ?_
 rintro⟨m,i,L3,L,u,v,ls,os⟩ ⟨⟨hlen,hx⟩,k,hk,rfl,rfl,rfl⟩;have hlen:os.length<=1000:=hlen;have hk:k<=os.length:=hk;by_cases h:k < os.length
 ·left;have n1:nth nu os k=os[k]:=db (t:=nu) h;have hs:os.set k os[k]=os:=fJ h;have e:=hx _ (aZ h);refine⟨((os.length:Int),((k+1:Nat):Int),L3,os.length,u,v,ls,os),⟨⟨hlen,hx⟩,k+1,aq,rfl,rfl,rfl⟩,by simp only[aa];omega,rfl,λkn kx=> ?_⟩;rw[Dn,bh aq,bB aq aq];simp only[aa,aU,ct,dZ,Nat.reduceAdd,aj,aM h,cQ,n1];rw[Rg (d:=os[k].2.1.1) (by show os[k].2.1.1.length<=_;have:=e.1;omega)];simp only[ag,bG,Rf];rw[UQ (d:=((k:Int),os[k].2.1.1.length,(os.length:Int),(k:Int),(os[k].2.1.1.length:Int),0,L3,os.length,u,v,ls,os,os[k].2.1.1)) ⟨e,0,aS _,rfl,rfl,rfl⟩];simp only[ag,FA,LO,aa,n1,aj,aM h,bB (show(0:Int)<=(k:Int) by omega) (show(k:Int) < (os.length:Int) by omega)];rw[N.pV aq];exact bK (λz=>kn (kY.st (_,_,_,_,_,_,_,z))) hs
 ·right;obtain rfl:k=os.length:=aq;intro R kn kx;rw[Dn,aW aq,ao];rfl
theorem Su{l:Lk}(h:ju l=aO):l.1.length<=4/\∀b∈l.1,b.1.length<=12:=by unfold ju at h;simp only[al,dj,aR]at h;refine⟨h.2.2,λb hb=> ?_⟩;have:=h.1 b hb;unfold Dw at this;simp only[al,aR]at this;exact this.1
theorem ajX:lz.Ok:=by
 rintro⟨is,os,nt,u⟩ iS;obtain⟨⟨_,a2,a3,_⟩,b1,b2⟩:=lQ iS;have a2:is.length<=64:=a2;have a3:os.length<=64:=a3;rw[ajW,arP (d:=is) (by show is.length<=_;omega),am7 (d:=os) (by show os.length<=_;omega)];simp only[ag,bG,ahh,bG,Zo];rw[UM (d:=(is.length,0,is.length,os.length,(nt,u),(0,()),is,os)) ⟨⟨by show is.length<=_;omega,λx hx=>by have:=(Cn (om _ _ b1 x hx)).2.2.2.2;omega⟩,0,aS _,rfl,rfl,rfl⟩];simp only[ag,Fz,LL];rw[UO (d:=(os.length,0,is.length,os.length,(nt,u),(0,()),is,os)) ⟨⟨by show os.length<=_;omega,λx hx=>by
  have:=Su (mC _ _ b2 x hx).2;exact⟨aq,λb hb=>by have:=this.2 b hb;omega⟩⟩,0,aS _,rfl,rfl,rfl⟩]
 simp only[ag,bG,LN,aU,aC,lH,cQ,aj,fA];rfl
theorem af3:lz.RS:=rE [.d jk] lz
def ajY:=lz.gr ajX 3 ⟨.iB WA,⟨.iB WB,⟨.iB WC,trivial⟩⟩⟩
theorem K9(x:Int)(m:Int):∀k:Nat,(x%m)^k%m=x^k%m
 | 0=>by rw[kh,kh]
 |k+1=>by rw[gg,gg,rQ,K9 x m k,nP _ (Int.dvd_refl m),<-rQ]
theorem aC3(a:Int)(k:Nat):(a*a)^k=a^(2*k):=by rw[Int.pow_mul,gg,gg,kh,Int.one_mul]
theorem avp:∀(f:Nat) (a:Int) (n:Nat) (out:Int),n < 2^f->Pn out->alX f a n out=out*a^n%4611686018427377339
 | 0,a,n,out,h,ho=>by obtain rfl:n=0:=aq;rw[BK,kh,Int.mul_one,ff ho.1 ho.2]
 |f+1,a,n,out,h,ho=>by
  have e:(2:Nat)^(f+1)=2^f*2:=Nat.pow_succ 2 f;rw[alX];split
  ·rename_i h0;subst h0;rw[kh,Int.mul_one,ff ho.1 ho.2]
  ·have hp:Pn (if n%2=1 then sZ out a else out):=by
    split
    ·exact zV _ _
    ·exact ho
   rw[avp f _ _ _ aq hp,rQ];have e1:(sZ a a)^(n / 2)%4611686018427377339=a^(2*(n / 2))%4611686018427377339:=by unfold sZ;rw[K9,aC3]
   have e2:(if n%2=1 then sZ out a else out)%4611686018427377339=(out*a^(n%2))%4611686018427377339:=by
    split
    ·rename_i h1;rw[h1,gg,kh,Int.one_mul];exact nP _ (Int.dvd_refl _)
    ·have h1:n%2=0:=aq;rw[h1,kh,Int.mul_one]
   rw[e1,e2,<-rQ,Int.mul_assoc,<-Int.pow_add];have e3:n%2+2*(n / 2)=n:=aq;rw[e3]
theorem T3(a:Int)(n:Nat)(h:n < 18446744073709551616):pw a n=a^n%4611686018427377339:=by unfold pw;rw[avp 64 a n 1 h ⟨aq,aq⟩,Int.one_mul]
theorem one_pow(k:Nat):(1:Int)^k=1:=Int.one_pow
theorem avr(a:Int)(k q:Nat)(hk:k < 18446744073709551616)(hq:q < 18446744073709551616)(h:pw a q=1):pw (pw a k) q=1:=by rw[T3 _ _ hq]at h;rw[T3 _ _ hq,T3 _ _ hk,K9,<-Int.pow_mul,oW,Int.pow_mul,<-K9,h,one_pow];rfl
theorem XB:pw 4 2305843009213688669=1:=by decide+kernel
theorem aoO:pw 1 2305843009213688669=1:=by decide+kernel
theorem ayt:yI 4=aO:=by rw[yI,XB];rfl
theorem Kh:yI 1=aO:=by rw[yI,aoO];rfl
theorem ayP:aeG 1=1:=by
 have e:pw 1 2305843009213688668=1:=by decide+kernel
 rw[aeG,tk,Kh];exact e
theorem abg{a:Int}(h:Pn a)(q:Nat)(hq:0 < q)(MP:q < 18446744073709551616)(hp:pw a q=1):0 < a:=by
 rcases Int.lt_or_eq_of_le h.1 with h0 | h0
 ·exact h0
 ·subst h0;rw[T3 _ _ MP,Int.zero_pow aq]at hp;cases hp
theorem aCq{a:Int}(h:Pn a)(hp:pw a 2305843009213688669=1):yI a=aO:=by have h0:=abg h 2305843009213688669 eR eR hp;rw[yI,hp,eC ⟨h0,h.2⟩];rfl
theorem an9{a:Int}(h:yI a=aO):pw a 2305843009213688669=1/\Pn a:=by rw[yI,al,aR,aR]at h;exact⟨h.2,aq,h.1.2⟩
theorem aCr{a:Int}(h:yI a=aO)(k:Nat)(hk:k < 18446744073709551616):yI (pw a k)=aO:=aCq (afp _ _) (avr a k _ hk eR (an9 h).1)
theorem aCs(a:Int):yI (tk a)=aO:=by
 unfold tk;cases h:yI a
 ·exact Kh
 ·exact h
theorem aoa(p k:Int):yI (CR p k)=aO:=aCr (aCs p) _ aq
theorem UT{a:Int}(h:yI a=aO):tk a=a:=by rw[tk,h];rfl
theorem Kg(k:Int):yI (eQ k)=aO:=aoa 4 k
theorem aeB{a:Int}(h:Pn a):sZ a 1=a:=by rw[sZ,Int.mul_one,ff h.1 h.2]
def pm(m:Nat):Nat->Nat->Nat->Nat->Nat
 | 0,_,_,out=>out%m
 |f+1,a,n,out=>if n=0 then out%m else pm m f (a*a%m) (n / 2) (if n%2=1 then out*a%m else out)
theorem aAT(m:Nat):∀(f a n out:Nat),n < 2^f->pm m f a n out=out*a^n%m
 | 0,a,n,out,h=>by obtain rfl:n=0:=aq;rw[pm,Nat.pow_zero,jy]
 |f+1,a,n,out,h=>by
  have e:(2:Nat)^(f+1)=2^f*2:=Nat.pow_succ (n:=2) (m:=f);rw[pm];split
  ·rename_i h0;subst h0;rw[Nat.pow_zero,jy]
  ·rw[aAT m f _ _ _ aq,kq];have e1:(a*a%m)^(n / 2)%m=a^(2*(n / 2))%m:=by rw[<-Nat.pow_mod,Nat.pow_mul,Nat.pow_two]
   have e2:(if n%2=1 then out*a%m else out)%m=(out*a^(n%2))%m:=by
    split
    ·rename_i h1;rw[h1,Nat.pow_one,Nat.mod_mod]
    ·have h1:n%2=0:=aq;rw[h1,Nat.pow_zero,jy]
   rw[e1,e2,<-kq,Nat.mul_assoc,<-nR];have e3:n%2+2*(n / 2)=n:=aq;rw[e3]
theorem atd:∀(r q:Nat) (f:Nat->Nat),(∀i,i < q->f i < r)->(∀i j,i < j->j < q->f i≠f j)->q<=r
 | 0,q,f,h,_=>by
  rcases iQ q with h0 | h0
  ·omega
  ·exact absurd (h 0 h0) (Nat.not_lt_zero _)
 |r+1,q,f,h,g=>by
  by_cases hx:∃i,i < q/\f i=r
  ·obtain⟨i,hi,hr⟩:=hx;have e:=atd r (q - 1) (λj=>if j < i then f j else f (j+1)) (λj hj=>by
    by_cases h1:j < i
    ·have a:=h j aq;have b:=g j i h1 hi;simp only[h1,cZ];omega
    ·have a:=h (j+1) aq;have b:=g i (j+1) aq aq;simp only[h1,cK];omega) (λj k aJf hk=>by
    by_cases h1:j < i
    ·by_cases h2:k < i
     ·simp only[h1,h2,cZ];exact g j k aJf aq
     ·simp only[h1,h2,cZ,cK];exact g j (k+1) aq aq
    ·have h2:¬k < i:=aq;simp only[h1,h2,cK];exact g (j+1) (k+1) aq aq)
   omega
  ·have e:=atd r q f (λi hi=>by
    have a:=h i hi;have b:f i≠r:=λx=>hx ⟨i,hi,x⟩
    omega) g
   omega
theorem alU(a m:Nat)(h1:1%m=1):∀i j:Nat,a^i%m=1->a^j%m=1->a^(Nat.gcd i j)%m=1:=by
 intro i
 induction i using Nat.strongRecOn with
 |ind i ih=>
  intro j hi hj;rcases iQ i with h0 | h0
  ·subst h0;rw[Nat.gcd_zero_left];exact hj
  ·rw[Nat.gcd_rec];refine ih (j%i) (Nat.mod_lt _ h0) i ?_ hi
   have e:a^j=(a^i)^(j / i)*a^(j%i):=by rw[<-Nat.pow_mul,<-nR,Nat.div_add_mod]
   rw[e,kq,Nat.pow_mod,hi,Nat.one_pow,h1,iv,Nat.mod_mod]at hj;exact hj
def aq5(n:Nat):Prop:=∀d,d∣n->d=1\/d=n
theorem alV{n k:Nat}(h:aq5 n)(h0:0 < k)(hk:k < n):Nat.gcd k n=1:=by
 rcases h _ (Nat.gcd_dvd_right k n) with h1 | h1
 ·exact h1
 ·have:=Nat.le_of_dvd h0 (Nat.gcd_dvd_left k n);omega
theorem aeK{n:Nat}(hn:1 < n)(h:∀r,1 < r->r*r<=n->¬r∣n):aq5 n:=by
 intro d hd;obtain⟨e,he⟩:=hd;have aFU:0 < d:=Nat.pos_of_ne_zero (by intro x;rw[x,mj]at he;omega);have Z2:0 < e:=Nat.pos_of_ne_zero (by intro x;rw[x,Nat.mul_zero]at he;omega);by_cases h1:d=1
 ·exact .inl h1
 by_cases h2:e=1
 ·right;rw[he,h2,jy]
 exfalso;rcases Nat.le_total d e with hle | hle
 ·exact h d aq (by rw[he];exact Nat.mul_le_mul_left d hle) ⟨e,he⟩
 ·exact h e aq (by rw[he];exact cT e hle) ⟨d,by rw[he,oW]⟩
theorem aCS{n q b:Nat}(hn:1 < n)(hq:aq5 q)(aDJ:1 < q)(aHk:n < q*q)(hb:b^q%n=1)(hg:Nat.gcd (b - 1) n=1)(aFT:0 < b):aq5 n:=by
 refine aeK hn λr hr aJA Z7=> ?_
 have aIf:1%r=1:=jN hr;have aIj:b^q%r=1:=by have:=Nat.mod_mod_of_dvd (b^q) Z7;rw[<-this,hb,aIf]
 have gV:b%r≠1:=by
  intro hx;have hd:r∣b - 1:=by have e:=Nat.dvd_sub_mod (n:=r) b;rw[hx]at e;exact e
  have:=Nat.dvd_gcd hd Z7;rw[hg]at this;have:=Nat.le_of_dvd aq this;omega
 have key:q<=r:=by
  refine atd r q (λi=>b^i%r) (λi _=>Nat.mod_lt _ aq) λi j aF2 hj he=> ?_
  have e1:b^(j - i)%r=1:=by
   have x1:b^(q - i)*b^i%r=b^(q - i)*b^j%r:=by rw[kq,he,<-kq]
   rw[<-nR,<-nR,show q - i+i=q by omega,show q - i+j=q+(j - i) by omega,nR,kq,aIj,iv,Nat.mod_mod]at x1;exact x1.symm
  have e2:=alU b r aIf (j - i) q e1 aIj;rw[alV hq aq aq,Nat.pow_one]at e2;exact gV e2
 have:q*q<=r*r:=Nat.mul_le_mul key key;omega
def aud(n:Nat):Nat->Bool
 | 0=>aO
 |k+1=>n%(k+2) !=0 && aud n k
theorem aeJ(n:Nat):∀k,aud n k=aO->∀d,1 < d->d<=k+1->¬d∣n
 | 0,_,d,h1,h2=>aq
 |k+1,h,d,h1,h2=>by
  rw[aud,al]at h;by_cases hd:d=k+2
  ·intro hx;have:=Nat.mod_eq_zero_of_dvd hx;rw[hd]at this;rw[this]at h;exact absurd h.1 eR
  ·exact aeJ n k h.2 d h1 aq
theorem aHF:aq5 7930907:=by
 refine aeK eR λr hr aJA=>aeJ 7930907 2820 (by decide+kernel) r hr ?_
 apply Nat.le_of_not_lt;intro h;have:2822*2822<=r*r:=Nat.mul_le_mul aq aq;omega
theorem La{n q:Nat}(a e:Nat)(hq:aq5 q)(aDJ:1 < q)(hn:1 < n)(aHk:n < q*q)(he:e < 2^64)(MP:q < 2^64)(h1:pm n 64 (pm n 64 a e 1) q 1=1)(h2:Nat.gcd (pm n 64 a e 1 - 1) n=1)(h3:0 < pm n 64 a e 1):aq5 n:=by generalize pm n 64 a e 1=b at*;rw[aAT _ _ _ _ _ MP,iv]at h1;exact aCS hn hq aDJ aHk h1 h2 h3
theorem aHE:aq5 11864636873:=La (q:=7930907) 2 1496 aHF eR eR eR eR eR (by decide+kernel) (by decide+kernel) (by decide+kernel)
theorem aHD:aq5 1732236983459:=La (q:=11864636873) 2 146 aHE eR eR eR eR eR (by decide+kernel) (by decide+kernel) (by decide+kernel)
theorem aHC:aq5 249442125618097:=La (q:=1732236983459) 2 144 aHD eR eR eR eR eR (by decide+kernel) (by decide+kernel) (by decide+kernel)
theorem aHG:aq5 2305843009213688669:=La (q:=249442125618097) 2 9244 aHC eR eR eR eR eR (by decide+kernel) (by decide+kernel) (by decide+kernel)
def gP(n:Nat):Int:=((4^n%4611686018427377339:Nat):Int)
theorem Wj(a m q:Nat)(h1:1%m=1)(h:a^q%m=1)(n:Nat):a^(n%q)%m=a^n%m:=by
 have e:a^n=(a^q)^(n / q)*a^(n%q):=by rw[<-Nat.pow_mul,<-nR,Nat.div_add_mod]
 rw[e,kq,Nat.pow_mod (a^q),h,Nat.one_pow,h1,iv,Nat.mod_mod]
theorem aAr:∀q:Nat,q=2305843009213688669->4^q%4611686018427377339=1:=by
 intro q hq;have h:=XB;rw[T3 _ _ eR]at h;rw[<-hq]at h;have e:(((4^q%4611686018427377339:Nat)):Int)=1:=by rw[oO,j9];exact h
 omega
theorem ZY(n:Nat):gP (n%2305843009213688669)=gP n:=by unfold gP;obtain⟨q,hq⟩:∃q:Nat,q=2305843009213688669:=⟨_,rfl⟩;rw[<-hq,Wj 4 4611686018427377339 q eR (aAr q hq)]
theorem aEi(n:Nat)(h:n < 18446744073709551616):pw 4 n=gP n:=by rw[T3 _ _ h];unfold gP;rw[oO,j9];rfl
theorem as0(k:Int)(h:0<=k):(k%2305843009213688669).toNat=k.toNat%2305843009213688669:=aq
theorem Ql(k:Int)(h:0<=k):eQ k=gP k.toNat:=by show pw (tk 4) _=_;rw[UT ayt,aEi _ aq,as0 k h,ZY]
theorem axY(n:Nat):gP n=eQ n:=by rw[Ql _ aq,aa]
theorem RU(n:Nat):yI (gP n)=aO:=by rw[axY];exact Kg _
theorem ahP(a b:Nat):sZ (gP a) (gP b)=gP (a+b):=by unfold sZ gP;rw[<-j8,nR];have e:(4611686018427377339:Int)=((4611686018427377339:Nat):Int):=rfl;rw[e,<-oO,<-kq]
theorem as1(a:Nat)(c:Int)(h:0<=c):CR (gP a) c=gP (a*c.toNat):=by
 show pw (tk (gP a)) _=_;rw[UT (RU a),T3 _ _ aq,as0 c h];obtain⟨b,hb⟩:∃b:Nat,b=c.toNat:=⟨_,rfl⟩;rw[<-hb];obtain⟨d,hd⟩:∃d:Nat,d=b%2305843009213688669:=⟨_,rfl⟩;have hx:gP (a*b)=gP (a*d):=by rw[<-ZY (a*b),<-ZY (a*d),kq a b,kq a d,hd,Nat.mod_mod]
 rw[hx,<-hd];unfold gP;have e:(4611686018427377339:Int)=((4611686018427377339:Nat):Int):=rfl;rw[e,<-j9,<-oO,<-Nat.pow_mod,<-Nat.pow_mul]
theorem akU:gP 0=1:=eR
theorem aEh{n:Nat}(h:0 < n)(hn:n < 2305843009213688669):gP n≠1:=by intro he;unfold gP at he;have he:4^n%4611686018427377339=1:=aq;obtain⟨q,hq⟩:∃q:Nat,q=2305843009213688669:=⟨_,rfl⟩;have e:=alU 4 4611686018427377339 eR n q he (aAr q hq);rw[alV (by rw[hq];exact aHG) h aq]at e;exact absurd e eR
theorem azM(k:Int)(m:List Int)(h0:0 < k)(hq:k < 2305843009213688669):ym (eQ k) m 1 (nG k m)=aO:=by
 obtain⟨kn,hk⟩:∃kn:Nat,kn=k.toNat:=⟨_,rfl⟩;have hb:eQ k=gP kn:=by rw[hk];exact Ql k aq
 have hn:=RQ (awe aiC [lS k,m]);unfold nG aue;rw[if_pos ⟨hq,aq⟩];obtain⟨n,gV⟩:∃n,JY (awe aiC [lS k,m])=n:=⟨_,rfl⟩;rw[gV]at hn ⊢;unfold Y5;have hr:Qj [eQ n,1]=gP n.toNat:=by show sZ (sZ 1 (tk (eQ n))) (tk 1)=_;rw[UT (Kg n),UT Kh,aeB (zV _ _),Ql n aq,<-akU,ahP,aU]
 rw[hr,hb];have hc:=Rb (gP n.toNat) (gP kn) m;obtain⟨c,aBT⟩:∃c,Da (gP n.toNat) (gP kn) m=c:=⟨_,rfl⟩;rw[aBT]at hc ⊢;have ha:=akn n (aaD c k);have h1:=hc.1;have h2:=ha.1;have h3:=ha.2;unfold ym;rw[if_neg (by
  intro h;rcases h with h | h | h | h | h
  ·exact aEh aq aq h
  ·rw[RU]at h;cases h
  ·rw[Kh]at h;cases h
  ·have h:yI (gP n.toNat)=aV:=h;rw[RU]at h;cases h
  ·exact h h3)]
 have e:eQ (agJ n (aaD c k))=Qj [gP n.toNat,CR (gP kn) c,aeG 1]:=by
  show _=sZ (sZ (sZ 1 (tk (gP n.toNat))) (tk (CR (gP kn) c))) (tk (aeG 1));rw[ayP,UT Kh,aeB (zV _ _),UT (RU _),as1 _ _ h1,UT (RU _)];rw[show(sZ 1 (gP n.toNat))=gP n.toNat by rw[<-akU,ahP,aU]];rw[ahP,Ql _ h2];have hx:(agJ n (aaD c k)).toNat=(n.toNat+kn*c.toNat)%2305843009213688669:=by
   unfold agJ aaD aum;have g1:c%2305843009213688669=c:=ff h1 hc.2;have g2:k%2305843009213688669=k:=ff aq hq;have g3:n%2305843009213688669=n:=ff aq hn.2;rw[g1,g2,g3,nP _ (Int.dvd_refl _)];have g4:((kn*c.toNat:Nat):Int)=c*k:=by rw[j8,hk,Int.toNat_of_nonneg aq,Int.toNat_of_nonneg h1,rP]
   have g5:0<=c*k:=by rw[<-g4];exact gI _
   obtain⟨z,hz⟩:∃z,c*k=z:=⟨_,rfl⟩;rw[hz]at g4 g5 ⊢;obtain⟨zn,aJO⟩:∃zn,kn*c.toNat=zn:=⟨_,rfl⟩;rw[aJO]at g4 ⊢;omega
  rw[hx,ZY]
 show decide (eQ (agJ n (aaD c k))=Qj [gP n.toNat,CR (gP kn) (Da (gP n.toNat) (gP kn) m),aeG 1])=aO;rw[aBT];exact eC e
def AA{α:Type}(p:α->Bool):List α->Int->Int⊕Unit
 |[],_=> .inr ()
 |x::xs,i=>if p x then .inl i else AA p xs (i+1)
def VJ{α:Type}(p:α->Bool)(l:List α):Int:=match AA p l 0 with | .inl i=>i | .inr _=> -1
theorem ad5{α:Type}(p:α->Bool):∀(l:List α) (i:Int),0<=i->(match AA p l i with | .inl i=>decide (i>=0) | .inr _=>aV)=l.any p
 |[],_,_=>rfl
 |x::l,i,h=>by
  rw[AA,tZ];cases hp:p x
  ·simp only[cd,cK,Bool.false_or];exact ad5 p l (i+1) aq
  ·simp[h]
theorem Kb{α:Type}(p:α->Bool)(l:List α):zP (VJ p l) 0=l.any p:=by
 have:=ad5 p l 0 aq;unfold VJ zP;cases h:AA p l 0
 ·rw[h]at this;exact this
 ·rw[h]at this;rw[<-this];rfl
def zq(k:Int):Bool:=decide (¬(k < 2305843009213688669/\k≠0))
def tV(t:fN)(i br:Int)(ks:List Int):Bool:=iF t && (decide (0<=i/\i < t.1.length/\0<=br/\br < 4/\ks.length<=12) && !(ks.any zq))
def vQ(t:fN)(i br:Int)(ks:List Int)(sc:Int):fN×Int:=if tV t i br ks then((t.1.set i.toNat ((nth gB t.1 i.toNat).1,(br,ks.map (λk=>nG k (tl t)),sc,()),()),t.2),0) else(([],[],0,()),1)
theorem aj8{t:fN}:Sm (tl t):=by
 unfold tl;split
 ·exact ajF _ _
 ·exact⟨by rw[cq],λx hx=>by obtain rfl:=(mi.1 hx).2;exact⟨eR,eR⟩⟩
def aqw:Int->Prop:=λ_=>True
def al9:Int->Bool:=λk=>zq k
def PS:Fs Tryz.prog aqw bG al9:=gf 101 Tryz.f101 (λkv=>([.d tu kv],[])) (λx=>⟨.d .bool x,[],[]⟩) [au tu] [F2]
theorem awo(kv)(k:K1 R):PS.A kv k=aP (Qw kv 0) (k (PS.out aO)) (ax (Az.call kv) λx1=>k (PS.out (!x1))):=cW
theorem awp:PS.Ok:=by
 intro(k:Int) _;rw[awo,Ck (d:=k) trivial];simp only[bG,al9,zq,ag,bG,Bp];by_cases h:k=0
 ·rw[jV h,aj,aM aq]
 ·rw[gQ h,ao];by_cases h2:k < 2305843009213688669
  ·rw[bh h2,cz aq];rfl
  ·rw[aW h2,aM aq];rfl
theorem aqx:PS.RS:=rE [.d tu] PS
def awq:=PS.gr awp
abbrev vR:=Bs×Int×Int
def mH:vR->AS:=λ(lr,t7,t8)=>⟨([.d tU lr,.fn 101 (.nil)]++ba 5 ([.d ti t7,.d ti t8]++ba 10 [])),[],(ai 19 [])⟩
def nr:Int->Exit×AS:=λx=>(.ret,⟨(ba 4 ([.d ti x]++ba 14 [])),[],(ai 19 [])⟩)
def uS:Unit->Exit×AS:=λx=>(.exit 0,⟨(ba 19 []),[],(ai 19 [])⟩)
abbrev Fm:=(Int)⊕(Unit)
abbrev PF:=(Int)⊕(Unit)
def AZ:Fm->Out (Exit×AS):=λx=> .br x.isLeft (.get x.getLeft? λa=> .ok (nr a)) (.get x.getRight? λb=> .ok (uS b))
def jG:vR->PF->Fm:=λ(lr,t7,t8) y=>match y with | .inl y=> .inl y | .inr z=> .inr (z)
def uR:vR->Prop:=λ(l,n,i)=>(∀x∈l,True)/\l.length<=1000000000/\n=l.length/\∃k:Nat,k<=l.length/\i=k
def mf:vR->PF:=λ(l,n,i)=>AA zq (l.drop i.toNat) i
def ajC:Bs->Prop:=λl=>(∀x∈l,True)/\l.length<=1000000000
def Uu:Bs->Int:=λl=>VJ zq l
def PE:=eA.iB mH uR jG mf AZ
def Fo:vR->Option Fm:=lg PE mH
def wu:Fs Tryz.prog ajC bG Uu:=gf 132 Tryz.f132 (λsv=>([.d tU sv,.fn 101 (.nil)],[])) (λx=>⟨.d ti x,[],[]⟩) [au tU,aH] [awq] {loops:=th [(2,{bz:=[0,1,7,8]})],outs:=tg [(2,{},{bz:=[4]})],iE:=uA [(2,PE)]}
def Fl:= @gw Tryz.prog (pS wu.G) wu.an 0 Tryz.f132 0 _ mH
abbrev LB:=qu Tryz.prog (pS wu.G) wu.an 0 Tryz.f132 0 mH uR jG mf AZ
theorem Ws:nK Fo uR jG mf:=tR (sy [.d tU,.d ti,.d ti] λ_=>cW)
theorem IN:yd @Fl mH uR jG mf AZ LB:=zr
theorem Fp(lr t7 t8)(kn:K2 R)(kx:K3 R):Fl (lr,t7,t8) kn kx=aP (iG t8 t7) (aP (iO t8 (((ae lr):Nat):Int)) (ax (PS.call (nth tu lr (ab t8))) λx1=>aP (x1) (kx (nr t8).1 (nr t8).2) (kn (mH (lr,t7,(bT .i64 t8 (1:Int)))))) aH) (kx (uS ()).1 (uS ()).2):=cW
theorem ap4(sv)(k:K1 R):wu.A sv k=ax (Fo (sv,(sv.length:Int),0)) λx2=>aP x2.isLeft (ax x2.getLeft? λa3=>k (wu.out a3)) (ax x2.getRight? λb4=>k (wu.out (-1))):=cW
theorem abq:LB:=by
 refine IN (λ(l,n,i)=>l.length - i.toNat) ?_
 rintro⟨l,n,i⟩ ⟨hl,hb,rfl,k,hk,rfl⟩;have hb:l.length<=1000000000:=hb;have hk:k<=l.length:=hk;by_cases h:k < l.length
 ·have hx:=hl _ (aZ h);have n1:nth tu l k=l[k]:=db (t:=tu) h;have hd:AA zq (l.drop k) k=if zq l[k] then .inl (k:Int) else AA zq (l.drop (k+1)) ((k+1:Nat):Int):=by rw[aA h];rfl
  have step:∀ {R:Type} (kn:AS->Option R) (kx:Exit->AS->Option R),Fl (l,(l.length:Int),(k:Int)) kn kx=aP (zq l[k]) (kx (nr (k:Int)).1 (nr (k:Int)).2) (kn (mH (l,(l.length:Int),((k+1:Nat):Int)))):=by intro R kn kx;rw[Fp,bh aq,bB aq aq,aa,n1,aqx (d:=l[k]) hx,N.pV aq];rfl
  cases hp:zq l[k]
  ·left;refine⟨(l,l.length,((k+1:Nat):Int)),⟨hl,hb,rfl,k+1,aq,rfl⟩,by simp only[aa];omega,?_,λkn kx=> ?_⟩
   ·simp only[jG,mf,aa,hd,hp,cd,cK]
   ·rw[step,hp,ao]
  ·right;refine⟨nr (k:Int),?_,λkn kx=> ?_⟩
   ·simp only[jG,mf,aa,hd,hp,cZ];rfl
   ·rw[step,hp,aj]
 ·right;obtain rfl:k=l.length:=aq;refine⟨uS (),?_,λkn kx=> ?_⟩
  ·simp only[jG,mf,aa,bj];rfl
  ·rw[Fp,aW aq,ao]
theorem ap5:wu.Ok:=by rintro l ⟨hl,hb⟩;rw[ap4,Ws (d:=(l,l.length,0)) ⟨hl,hb,rfl,0,aq,rfl⟩];simp only[ag,jG,mf,bO,aN,bG,Uu,VJ];cases AA zq l 0 <;> rfl
theorem ajD:wu.RS:=rE [.d tU] wu
def ap6:=wu.gr ap5 1 ⟨.iB abq,trivial⟩
def Wq:Bs->Prop:=λl=>(∀x∈l,True)/\l.length<=1000000000
def PD:Bs->Bool:=λl=>l.any zq
def tS:Fs Tryz.prog Wq bG PD:=gf 102 Tryz.f102 (λsv=>([.d tU sv,.fn 101 (.nil)],[])) (λx=>⟨.d .bool x,[],[]⟩) [au tU,aH] [ap6]
theorem abm(sv)(k:K1 R):tS.A sv k=ax (wu.call sv) λx1=>k (tS.out (zP x1 0)):=cW
theorem abn:tS.Ok:=by rintro l ⟨hl,hb⟩;rw[abm,ajD (d:=l) ⟨hl,hb⟩];simp only[ag,bG,Uu,Kb];rfl
theorem Wr:tS.RS:=rE [.d tU] tS
def abo:=tS.gr abn
abbrev I2:=Int×Bs×Int×Int×fN×(Int×Unit)×Int×Nat×(Int×Unit)×Bs×(List Sg)
def xQ:I2->(QQ×(List Sg))->((Int×fN×(Int×Unit))×(QQ×(List Sg))):=λ(Sh,t52,t53,t54,n5,n10,n13,Dz,X3,n14,aaG) y=>((Sh,n5,n10),y)
abbrev ama:=fN×Int×Int×Bs×Int
def abP:I2->Prop:=λ(i0,l,n,i,t,e,br,L,sc,id,r)=>l.length<=1000/\(∀x∈l,mm x)/\Sm id/\∃k:Nat,k<=l.length/\i=k/\n=l.length/\L=r.length/\r.length<=1000+k
def C1:I2->(QQ×(List Sg)):=λ(i0,l,n,i,t,e,br,L,sc,id,r)=>((br,r++(l.drop i.toNat).map (λk=>nG k id),sc),r++(l.drop i.toNat).map (λk=>nG k id))
def aqy:ama->Prop:=λ(t,i,br,ks,sc)=>A7 t/\(∀x∈ks,mm x)/\ks.length<=1000000000
def amb:ama->(fN×Int):=λ(t,i,br,ks,sc)=>vQ t i br ks sc
def sS:Ls abP xQ C1:=wh (λ(Sh,t52,t53,t54,n5,n10,n13,Dz,X3,n14,aaG)=>⟨([cj,.d ti Sh,cj,cj,cj,fa 5]++ba 4 ([fa 10,cj,cj,fa 13,fa 14]++ba 37 ([.d tU t52,.d ti t53,.d ti t54]++ba 21 []))),[],(bC 5 ([dz (.d jk n5)]++bC 4 ([dz (.pr (.dd) (.pr (.dd) (.d (.pair ti .unit) n10))),[],[],dz (.pr (.d ti n13) (.pr (lq 64 Dz) (.d (.pair tu .unit) X3))),dz (.d tH n14)]++bC 49 ([dz (.vec 182 LK aaG)]++bC 11 []))))⟩) (λx=>(.exit 0,⟨([cj,.d ti x.1.1,cj,cj,cj,fa 5]++ba 4 ([fa 10,cj,cj,fa 13]++ba 62 [])),[],(bC 5 ([dz (.d jk x.1.2.1)]++bC 4 ([dz (.pr (.dd) (.pr (.dd) (.d (.pair ti .unit) x.1.2.2))),[],[],dz (.d awZ x.2.1)]++bC 50 ([[.obj 0 aO (.vec 182 LK x.2.2)]]++bC 11 []))))⟩))
def vW:Fs Tryz.prog aqy bG amb:=gf 67 Tryz.f67 (λ(t,inv,branch,keys,secret)=>([.d jk t,.d ti inv,.d ti branch,.d tU keys,.d tu secret],[])) (λx=>⟨.cons (.d jk x.1) (.cons (.d ti x.2) (.nil)),[],[]⟩) [au jk,au ti,au ti,au tU,au tu] [pH,amc,abo,US,av7,ajY] {bM:=[5],loops:=th [(7,{bz:=[1,5,10,13,14,52,53,54],sites:=[5,10,13,14,64],owns:=[⟨13,[.snd,.fst],64,139⟩]})],outs:=tg [(7,{bz:=[1,5,10,13],sites:=[5,10,13,64],JP:=[⟨13,[.snd,.fst],(.slice LK)⟩]},{bz:=[10,11]})],iE:=uA [(7,sS.E)],res:=[au jk,aH]}
theorem abQ:sS.RS:=rL [.d ti,.d tU,.d ti,.d ti,.d jk,.d (.pair ti .unit),.d ti,.n,.d (.pair tu .unit),.d tB,.d (.slice LK)] sS
theorem Ht(Sh t52 t53 t54 n5 n10 n13 Dz X3 n14 aaG)(kn:K2 R)(kx:K3 R):vW.R 0 sS (Sh,t52,t53,t54,n5,n10,n13,Dz,X3,n14,aaG) kn kx=aP (iG t54 t53) (aP (iO t54 (t52.length:Int)) (ax (PH.call ((nth tu t52 (ab t54)),n14)) λx4=>aP (decide (Dz<=(ae aaG))) (aP (dI (Dz+1) 16) (kn (sS.st (Sh,t52,t53,(bT .i64 t54 1),n5,n10,n13,(Dz+1),X3,n14,((bk Dz aaG)++ [x4])))) aH) aH) aH) (aP (decide (0=0/\(0+Dz)<=(ae aaG))) (sS.go kx ((Sh,n5,n10),((n13,((cut aaG 0 Dz),X3)),aaG))) aH):=cW
theorem awr(t inv branch keys secret)(k:K1 R):vW.A (t,inv,branch,keys,secret) k=ax (il.call t) λaw0=>aP (!aw0) (k (vW.out ((([]:List gU),(([]:List jo),(0,()))),1))) (aP (iG inv 0) (k (vW.out ((([]:List gU),(([]:List jo),(0,()))),1))) (aP (zP inv (t.1.length:Int)) (k (vW.out ((([]:List gU),(([]:List jo),(0,()))),1))) (ax (WM.call (branch,(([]:List Sg),(secret,())))) λaw1=>aP (!aw1) (k (vW.out ((([]:List gU),(([]:List jo),(0,()))),1))) (aP (wC (keys.length:Int) 12) (k (vW.out ((([]:List gU),(([]:List jo),(0,()))),1))) (ax (tS.call keys) λaDk=>aP (aDk) (k (vW.out ((([]:List gU),(([]:List jo),(0,()))),1))) (ax (tid.call t) λsY=>ax (sS.call (inv,keys,(keys.length:Int),0,t,(0,()),branch,0,(secret,()),sY,([]:List Sg))) λNT=>ax (lz.call NT.1.2.1) λYW=>aP (iO NT.1.1 ((YW.1:Nat):Int)) (aP (decide ((0+(ab NT.1.1)) < (ae YW.2.2))) (aP (decide ((((0+(ab NT.1.1))*36)+33)=((0+((ab NT.1.1)*36))+33))) (aP (decide ((0+(ab NT.1.1)) < (ae YW.2.2))) (aP (decide (0=0/\(0+YW.1)<=(ae (fW YW.2.2 (0+(ab NT.1.1)) ((nth gB YW.2.2 (0+(ab NT.1.1))).1,(NT.2.1,(nth gB YW.2.2 (0+(ab NT.1.1))).2.2)))))) (k (vW.out (((cut (fW YW.2.2 (0+(ab NT.1.1)) ((nth gB YW.2.2 (0+(ab NT.1.1))).1,(NT.2.1,(nth gB YW.2.2 (0+(ab NT.1.1))).2.2))) 0 YW.1),YW.2.1),0))) aH) aH) aH) aH) aH)))))):=cW
theorem agf:(vW.mN 0 sS):=by
 refine(vW.px 0 sS) (λ(i0,l,n,i,t,e,br,L,sc,id,r)=>l.length - i.toNat) ?_
 rintro⟨i0,l,n,i,t,e,br,L,sc,id,r⟩ ⟨hlen,hu,hm,k,hk,rfl,rfl,rfl,hr⟩;have hlen:l.length<=1000:=hlen;have hk:k<=l.length:=hk;have hr:r.length<=1000+k:=hr;by_cases h:k < l.length
 ·left;have n1:nth tu l k=l[k]:=db (t:=tu) h;have hd:dr k l=l[k]::dr (k+1) l:=aA h;refine⟨(i0,l,l.length,((k+1:Nat):Int),t,e,br,r.length+1,sc,id,r++ [nG l[k] id]),⟨hlen,hu,hm,k+1,aq,rfl,rfl,by rw[ak];rfl,by rw[ak];show r.length+1<=_;omega⟩,by simp only[aa];omega,?_,λkn kx=> ?_⟩
  ·simp only[xQ,C1,aa,hd,bn,aK,cC]
  ·rw[Ht,bh aq,bB aq aq,aa,n1,aqc (d:=(l[k],id)) ⟨hu _ (aZ h),hm⟩];simp only[aj,ag,bG,aby];rw[aM (aC _),dN aq aq,N.pV aq,bU];rfl
 ·right;obtain rfl:k=l.length:=aq;intro R kn kx;rw[Ht,aW aq,ao];simp only[xQ,C1,aa,bj,eF,bo,aU,aC,lH,cQ,aj,fA]
theorem aws:vW.Ok:=by
 rintro⟨⟨is,os,nt,u⟩,i,br,ks,sc⟩ ⟨hv,hu,hl⟩;have hv:A7 (is,os,nt,u):=hv;have hl:ks.length<=1000000000:=hl;rw[awr,mK (d:=(is,os,nt,u)) hv.1];simp only[ag,bG,oN,bG,amb,vQ,tV];rcases iV (iF (is,os,nt,u)) with iS | iS;rotate_left
 ·simp only[iS];rfl
 obtain⟨⟨_,a2,a3,_⟩,b1,b2⟩:=lQ iS;have a2:is.length<=64:=a2;simp only[iS,bR,ao,dD];by_cases h1:i < 0
 ·rw[bh h1,aj,cz aq];rfl
 rw[aW h1,ao];by_cases h2:i>=(is.length:Int)
 ·rw[ik h2,aj,cz aq];rfl
 rw[eN h2,ao,agk (d:=(br,([],(sc,())))) trivial];simp only[ag,bG,abR,Dt];by_cases h3:0<=br/\br < 4
 ·rw[aM h3];by_cases h4:ks.length > 12
  ·rw[dy aq,cz (p:=0<=i/\i < (is.length:Int)/\0<=br/\br < 4/\ks.length<=12) aq];rfl
  ·rw[cY aq,aM (p:=0<=i/\i < (is.length:Int)/\0<=br/\br < 4/\ks.length<=12) aq,Wr (d:=ks) ⟨λ_ _=>trivial,hl⟩];simp only[ag,bG,PD];rcases iV (ks.any zq) with hb | hb;rotate_left
   ·simp only[hb];obtain⟨k,rfl⟩:∃k:Nat,i=k:=⟨i.toNat,aq⟩;have hk:k < is.length:=aq;simp only[show(([]:List Sg).length<=12)=True from eq_true (aS _),cQ,Bool.and_self,bR,dA,ao,dD,cZ];rw[LQ (d:=(is,os,nt,u)) hv];simp only[ag,bG,UR];rw[abQ (d:=((k:Int),ks,ks.length,0,(is,os,nt,u),(0,()),br,0,(sc,()),tl (is,os,nt,u),[])) ⟨by show ks.length<=_;omega,hu,aj8,0,aS _,rfl,rfl,rfl,aS _⟩];simp only[ag,xQ,C1,bO,aN,aT];rw[af3 (d:=(is,os,nt,u)) iS];simp only[ag,bG,YO,aa,aU,ct,bB (show(0:Int)<=(k:Int) by omega) (show(k:Int) < (is.length:Int) by omega),aj,aM hk,cQ,kc,aC,lH];rw[fA (by rw[kc])]
   ·simp only[hb];rfl
 ·rw[cz h3,cz (p:=0<=i/\i < (is.length:Int)/\0<=br/\br < 4/\ks.length<=12) aq];rfl
theorem aqz:vW.RS:=rE [.d jk,.d ti,.d ti,.d tU,.d tu] vW
def awt:=vW.gr aws 1 ⟨.iB agf,trivial⟩
abbrev jn:Ty:=(.pair nu (.pair ti .unit))
abbrev gZ:=(jo×(Int×Unit))
abbrev aC7:Ty:=(.pair cV (.pair jn .unit))
abbrev agD:=(dC×(gZ×Unit))
abbrev eP:Ty:=(.pair (.slice aC7) (.pair (.slice cV) .unit))
abbrev eT:=((List agD)×((List dC)×Unit))
def ark:(Bs×Bs)->Prop:=λ_=>True
def arj:(Bs×Bs)->Int:=λ(a,b)=>VB a b
def agP:Fs Tryz.prog ark bG arj:=gf 59 Tryz.f59 (λ(a,b)=>([.d tB a,.d tB b],[])) (λx=>⟨.d ti x,[],[]⟩) [au tB,au tB] [⟨97,wI,aks,.of (aBi (fn:=Tryz.f97) cW cW cW cW cW) (by rfl)⟩]
theorem aw8(a b)(k:K1 R):agP.A (a,b) k=ax (acu (a,b)) λx1=>k (agP.out x1):=cW
theorem aw9:agP.Ok:=by rintro⟨a,b⟩ _;rw[aw8,akt];rfl
theorem arl:agP.RS:=rE [.d tB,.d tB] agP
def axa:=agP.gr aw9
def atp:Int->Prop:=λ_=>True
def aae:Int->Bool:=λ_=>aV
def ad6:Fs Tryz.prog atp bG aae:=gf 58 Tryz.f58 (λx=>([.d ti x],[])) (λx=>⟨.d .bool x,[],[]⟩) [au ti]
theorem ayo(x)(k:K1 R):ad6.A x k=k (ad6.out (DF x x)):=cW
theorem ayp:ad6.Ok:=by intro x _;rw[ayo];simp only[bG,aae,dX rfl]
theorem ad7:ad6.RS:=rE [.d ti] ad6
def ayq:=ad6.gr ayp
def v7(x y:Int):Int:=if x < y then -1 else if x > y then 1 else 0
def atn:(Int×Int)->Prop:=λ_=>True
def aab:(Int×Int)->Int:=λ(x,y)=>v7 x y
def MV:Fs Tryz.prog atn bG aab:=gf 27 Tryz.f27 (λ(x,yv)=>([.d ti x,.d ti yv],[])) (λx=>⟨.d ti x,[],[]⟩) [au ti,au ti] [ayq]
theorem ayk(x yv)(k:K1 R):MV.A (x,yv) k=ax (ad6.call x) λx1=>ax (ad6.call yv) λx2=>aP (x1) (aP (x2) (k (MV.out 0)) (k (MV.out (-1)))) (aP (x2) (k (MV.out 1)) (aP (iG x yv) (k (MV.out (-1))) (aP (wC x yv) (k (MV.out 1)) (k (MV.out 0))))):=cW
theorem ayl:MV.Ok:=by
 rintro⟨x,y⟩ _;rw[ayk,ad7 (d:=x) trivial];simp only[ag,bG,aae];rw[ad7 (d:=y) trivial];simp only[ag,bG,aae,ao,bG,aab,v7];by_cases h:x < y
 ·rw[bh h,aj,if_pos h]
 ·rw[aW h,ao,if_neg h];by_cases h2:x > y
  ·rw[dy h2,aj,if_pos h2]
  ·rw[cY h2,ao,if_neg h2]
theorem ad4:MV.RS:=rE [.d ti,.d ti] MV
def ak9:=MV.gr ayl
abbrev Eb:=Int×(List Int)×Int×Int
def xV:Eb->AS:=λ(zero,t6,t7,t8)=>⟨([cj,cj,cj,.d ti zero,cj,cj,.d (.slice ti) t6,.d ti t7,.d ti t8]++ba 9 []),[],(ai 18 [])⟩
def B6:Int->Exit×AS:=λx=>(.ret,⟨([cj,cj,.d ti x]++ba 15 []),[],(ai 18 [])⟩)
def B7:Int->Exit×AS:=λx=>(.exit 0,⟨([cj,cj,cj,.d ti x]++ba 14 []),[],(ai 18 [])⟩)
abbrev Rq:=(Int)⊕(Int)
abbrev ac2:=(Int)⊕(Unit)
def HL:Rq->Out (Exit×AS):=λx=> .br x.isLeft (.get x.getLeft? λa=> .ok (B6 a)) (.get x.getRight? λb=> .ok (B7 b))
def nV:Eb->ac2->Rq:=λ(zero,t6,t7,t8) y=>match y with | .inl y=> .inl y | .inr z=> .inr (zero)
def ay0:List Int->Int
 |[]=>0
 |x::l=>if x≠0 then x else ay0 l
def aAR:List Int->Int⊕Unit
 |[]=> .inr ()
 |x::l=>if x≠0 then .inl x else aAR l
theorem aAS:∀l:List Int,ay0 l=match aAR l with | .inl x=>x | .inr _=>0
 |[]=>rfl
 |x::l=>by
  simp only[ay0,aAR];split
  ·rfl
  ·exact aAS l
def B5:Eb->Prop:=λ(z,l,n,i)=>z=0/\l.length<=1000000000/\n=l.length/\∃k:Nat,k<=l.length/\i=k
def vk:Eb->ac2:=λ(z,l,n,i)=>aAR (l.drop i.toNat)
def axC:(List Int)->Prop:=λl=>l.length<=1000000000
def aAn:(List Int)->Int:=λl=>ay0 l
def ac0:=eA.iB xV B5 nV vk HL
def Oi:Eb->Option Rq:=lg ac0 xV
def akG:Fs Tryz.prog axC bG aAn:=gf 26 Tryz.f26 (λiY=>([.d (.slice ti) iY],[])) (λx=>⟨.d ti x,[],[]⟩) [au (.slice ti)] [] {loops:=th [(3,{bz:=[3,6,7,8]})],outs:=tg [(3,{bz:=[3]},{bz:=[2]})],iE:=uA [(3,ac0)]}
def ac1:= @gw Tryz.prog (pS akG.G) akG.an 0 Tryz.f26 0 _ xV
abbrev Xi:=qu Tryz.prog (pS akG.G) akG.an 0 Tryz.f26 0 xV B5 nV vk HL
theorem ahq:nK Oi B5 nV vk:=tR (sy [.d ti,.d (.slice ti),.d ti,.d ti] λ_=>cW)
theorem P0:yd @ac1 xV B5 nV vk HL Xi:=zr
theorem Ec(zero t6 t7 t8)(kn:K2 R)(kx:K3 R):ac1 (zero,t6,t7,t8) kn kx=aP (iG t8 t7) (aP (iO t8 (((ae t6):Nat):Int)) (aP (DF (nth ti t6 (ab t8)) zero) (kx (B6 (nth ti t6 (ab t8))).1 (B6 (nth ti t6 (ab t8))).2) (kn (xV (zero,t6,t7,(bT .i64 t8 (1:Int)))))) aH) (kx (B7 zero).1 (B7 zero).2):=cW
theorem aBt(iY)(k:K1 R):akG.A iY k=ax (Oi (0,iY,(iY.length:Int),0)) λx1=>aP x1.isLeft (ax x1.getLeft? λa2=>k (akG.out a2)) (ax x1.getRight? λb3=>k (akG.out b3)):=cW
theorem ang:Xi:=by
 refine P0 (λ(z,l,n,i)=>l.length - i.toNat) ?_
 rintro⟨z,l,n,i⟩ ⟨rfl,hl,rfl,k,hk,rfl⟩;by_cases h:k < l.length
 ·have hd:l.drop k=l[k]::l.drop (k+1):=aA h;have n1:nth ti l k=l[k]:=db (t:=ti) h;by_cases h2:l[k]≠0
  ·right;refine⟨B6 l[k],?_,λkn kx=> ?_⟩;rotate_left
   ·rw[Ec,bh aq,aj,bB aq aq,aj,aa,n1,fY h2,aj]
   ·simp only[nV,vk,aa,hd,aAR,if_pos h2];rfl
  ·left;refine⟨(0,l,(l.length:Int),((k+1:Nat):Int)),⟨rfl,hl,rfl,k+1,aq,rfl⟩,by simp only[aa];omega,?_,λkn kx=> ?_⟩
   ·simp only[nV,vk,aa,hd,aAR,if_neg h2]
   ·rw[Ec,bh aq,aj,bB aq aq,aj,aa,n1,dX aq,ao,N.pV aq]
 ·right;obtain rfl:k=l.length:=aq;refine⟨B7 0,?_,λkn kx=> ?_⟩;rotate_left
  ·rw[Ec,aW aq,ao]
  ·simp only[nV,vk,aa,bj,aAR];rfl
theorem aBu:akG.Ok:=by intro l hl;rw[aBt,ahq (d:=(0,l,(l.length:Int),0)) ⟨rfl,hl,rfl,0,aS _,rfl⟩];simp only[ag,nV,vk,bO,aN,bG,aAn];rw[aAS];cases aAR l <;> rfl
theorem Zt:akG.RS:=rE [.d (.slice ti)] akG
def ahr:=akG.gr aBu 1 ⟨.iB ang,trivial⟩
end Go.Ab
namespace Go.Ab
open Go.Sort (grow)
structure aA8(P:aL)(t:Ty)(g:fw)(Q:t.den->Prop)(cf:t.den->t.den->Int):Prop where
 bS:∃en,nI P g en/\∀x y,Q x->Q y->∃X,en.run [.d t x,.d t y] []=au X/\en.out [.d t x,.d t y] [] X=⟨.d (.int .i64) (cf x y),[],[]⟩
 enters:∀args w,(callFunc g args).run P w= .ok (.enter g args) w
 irrefl:∀x,Q x->¬cf x x < 0
 trans:∀x y z,Q x->Q y->Q z->cf x y < 0->cf y z < 0->cf x z < 0
 ntrans:∀x y z,Q x->Q y->Q z->¬cf x y < 0->¬cf y z < 0->¬cf x z < 0
theorem ax2{w w':bV}(aAE:w'.os=w.os)(aHs:w'.tape=w.tape)(Z5:w'.output=w.output/\w.drawn<=w'.drawn)(re:w.heap.size<=w'.heap.size)(hb:∀b:Nat,b < w.heap.size->w'.heap[b]? =w.heap[b]?):
  ∃q os,w'=grow (w.drewN q) os:=by
 obtain⟨h1,t1,d1,o1,p1⟩:=w;obtain⟨h2,t2,d2,o2,p2⟩:=w';simp only at*;obtain⟨Z5,hd⟩:=Z5;subst aAE aHs Z5;obtain⟨q,rfl⟩:∃q,d2=d1+q:=⟨d2 - d1,aq⟩;refine⟨q,h2.extract h1.size h2.size,?_⟩;have hh:h2=h1++h2.extract h1.size h2.size:=by
  apply qp;intro i;rw[jZ];by_cases hi:i < h1.size
  ·rw[if_pos hi,hb i hi]
  ·rw[if_neg hi,Array.getElem?_extract];by_cases h3:i < h2.size
   ·rw[if_pos aq];congr 1;omega
   ·rw[if_neg aq,Array.getElem?_eq_none aq]
 show({heap:=h2,tape:=_,drawn:=_,os:=_,output:=_}:bV)= {heap:=h1++h2.extract h1.size h2.size,tape:=_,drawn:=_,os:=_,output:=_};rw[<-hh];rfl
section
variable {P:aL} {t:Ty} {g:fw} {Q:t.den->Prop} {cf:t.den->t.den->Int}
theorem aA8.aEl(h:aA8 P t g Q cf)(ha:t.agg=aO){W:bV}{cx cy:List Value}{x y:t.den}(hx:cG ((fL []).env W (λ_=> .free) (λ_=>aH)) t cx x)
  (hy:cG ((fL []).env W (λ_=> .free) (λ_=>aH)) t cy y) (qx:Q x) (qy:Q y):
  Calls P g #[.agg cx.toArray,.agg cy.toArray] W λe w'=>e= .returned (.int .i64 (cf x y))/\∃q os,w'=grow (W.drewN q) os:=by
 obtain⟨en,hd,pb⟩:=h.bS;obtain⟨X,hX1,hX2⟩:=pb x y qx qy;have one:∀ {c:List Value} {z:t.den},cG ((fL []).env W (λ_=> .free) (λ_=>aH)) t c z->VS ((fL []).env W (λ_=> .free) (λ_=>aH)) (.d t z) (.agg c.toArray):=λhz=>
  ⟨_,by simpa only[V]using hz,by show fT t.agg _ _;rw[ha];rfl⟩
 have ho:iR ((fL []).env W (λ_=> .free) (λ_=>aH)):=λid ver fr c h=>by
  exfalso;cases id with
  |bF k=>simp[AS.env,AS.bS,fL]at h
  |new i j=>simp[AS.env,AS.bS,fL]at h
 rcases hd W (λ_=> .free) (λ_=>aH) [.d t x,.d t y] [] [.agg cx.toArray,.agg cy.toArray] X ⟨one hx,one hy,trivial⟩ ho hX1 with⟨_,hc⟩ | ⟨v,w',hc,_⟩
 ·refine hc.mono λe w' he=> ?_
  obtain⟨v,rfl,g',β',hv,_,ht,_⟩:=he;rw[hX2]at hv;obtain⟨cs,k1,k2⟩:=hv;have k1:cs=[.int .i64 (cf x y)]:=k1;subst k1;have k2: [Value.int .i64 (cf x y)]=[v]:=k2;have hv:v= .int .i64 (cf x y):=by simpa using k2.symm
  exact⟨by rw[hv],ax2 ht.os ht.tape ht.output ht.size λb hb=>(ht.Mn b hb).2⟩
 ·rw[h.enters]at hc;cases hc
def agG(cf:t.den->t.den->Int)(l l':List t.den):Prop:=l'.Perm l/\l'.Pairwise λx y=>¬cf y x < 0
open Classical in
def Gz(cf:t.den->t.den->Int)(l:List t.den):List t.den:=if h:∃l',agG cf l l' then h.choose else l
theorem abw(h:aA8 P t g Q cf){l:List t.den}(hQ:∀x∈l,Q x):agG cf l (Gz cf l):=by
 have hx:∃l',agG cf l l':=by
  let le: {x // Q x}-> {x // Q x}->Bool:=λx y=> !decide (cf y.1 x.1 < 0)
  refine⟨((l.attachWith Q hQ).mergeSort le).map (·.1),?_,?_⟩
  ·have h1:=(List.mergeSort_perm (l.attachWith Q hQ) le).map (·.1);rwa[List.attachWith_map_subtype_val]at h1
  ·have h2:=List.pairwise_mergeSort (le:=le) (λa b c h1 h2=>by
    simp only[le,bP,gN]at*;exact h.ntrans _ _ _ c.2 b.2 a.2 h2 h1) (λa b=>by
    simp only[le,iu,bP,gN];by_cases h1:cf b.1 a.1 < 0
    ·exact .inr λh2=>h.irrefl _ a.2 (h.trans _ _ _ a.2 b.2 a.2 h2 h1)
    ·exact .inl h1) (l.attachWith Q hQ)
   rw[List.pairwise_map];exact h2.imp λ {a b} h3=>by simpa[le]using h3
 unfold Gz;rw[zJ hx];exact hx.choose_spec
theorem IP(h:aA8 P t g Q cf){l l':List t.den}(hQ:∀x∈l,Q x)(hT:∀x∈l,∀y∈l,¬cf x y < 0->¬cf y x < 0->x=y)(hs:agG cf l l'):l'=Gz cf l:=by have h2:=abw h hQ;exact List.Perm.eq_of_pairwise (λa b ha hb h3 h4=>hT a (hs.1.mem_iff.1 ha) b (h2.1.mem_iff.1 hb) h4 h3) hs.2 h2.2 (hs.1.trans h2.1.symm)
def LH(g:fw)(e:TypeId)(t:Ty):Nat×List t.den->List aF×List dE:=λd=>([.cM (.bF 0) 0 [] 0 0 d.1,.fn g .nil],[.obj 0 aV (.vec e t d.2)])
def NK(Q:t.den->Prop)(cf:t.den->t.den->Int):Nat×List t.den->Prop:=λd=>d.1=d.2.length/\d.2.length < 4611686018427387904/\(∀x∈d.2,Q x)/\∀x∈d.2,∀y∈d.2,¬cf x y < 0->¬cf y x < 0->x=y
def aC5(e:TypeId)(t:Ty):Nat×List t.den->iq:=λx=>⟨.nil,[.obj 0 aV (.vec e t x.2)],[]⟩
def av3(g:fw)(e:TypeId)(t:Ty)(Q:t.den->Prop)(cf:t.den->t.den->Int):Entry:=Entry.of [aH,aH] (LH g e t) (NK Q cf) (λd=>(d.1,Gz cf d.2)) (aC5 e t)
theorem azT{g:fw}{e:TypeId}{t:Ty}(d d':Nat×List t.den)(h:LH g e t d=LH g e t d'):d=d':=by obtain⟨n,l⟩:=d;obtain⟨n',l'⟩:=d';simp only[LH,cF,cD,aF.cM.injEq,dE.obj.injEq,true_and,ea]at h;obtain⟨rfl,h2⟩:=h;rw[aAa h2]
def QL(g:fw)(e:TypeId)(t:Ty)(Q:t.den->Prop)(cf:t.den->t.den->Int):Nat×List t.den->Option (Nat×List t.den):=λd=>(av3 g e t Q cf).run (LH g e t d).1 (LH g e t d).2
theorem abx{g:fw}{e:TypeId}{t:Ty}{Q:t.den->Prop}{cf:t.den->t.den->Int}{d:Nat×List t.den}(h:NK Q cf d):QL g e t Q cf d=au (d.1,Gz cf d.2):=Entry.yT azT h
theorem Ju{R:List Value->t.den->Prop}:∀ {cs:List Value} {l:List t.den},bq R cs l->(∀x∈l,Q x)->∃ps:List {p:List Value×t.den // R p.1 p.2/\Q p.2},ps.map (·.1.2)=l/\(ps.map (·.1.1)).flatten=cs
 |cs,[],h,_=>⟨[],rfl,by have h:cs=[]:=h;rw[h];rfl⟩
 |cs,x::l,⟨c,cs',h1,h2,h3⟩,hq=>by
  obtain⟨ps,h4,h5⟩:=Ju h3 λy hy=>hq y (aD _ hy)
  exact⟨⟨(c,x),h2,hq x (aG ..)⟩::ps,by simp[h4],by simp[h5,h1]⟩
theorem KL{R R':List Value->t.den->Prop}(hR:∀c x,R c x->R' c x):∀ps:List {p:List Value×t.den // R p.1 p.2/\Q p.2},bq R' (ps.map (·.1.1)).flatten (ps.map (·.1.2))
 |[]=>rfl
 |p::ps=>⟨p.1.1,(ps.map (·.1.1)).flatten,by simp,hR _ _ p.2.1,KL hR ps⟩
theorem adA{α:Type} [Inhabited α] (enc:α->List Value) {k:Nat} (hk:∀x,(enc x).length=k):∀(ps:List α) (j:Nat),j < ps.length*k->((ps.map enc).flatten)[j]? =(enc (ps.toArray[j / k]!))[j%k]?
 |[],j,h=>by simp at h
 |p::ps,j,h=>by
  have k0:0 < k:=by
   rcases iQ k with h0 | h0
   ·subst h0;simp at h
   ·exact h0
  simp only[bn,hJ];by_cases hj:j < k
  ·rw[fu (by rw[hk];exact hj),Nat.div_eq_of_lt hj,jN hj];rfl
  ·have e1:j / k=(j - k) / k+1:=by rw[Nat.div_eq_sub_div k0 aq]
   have e2:j%k=(j - k)%k:=by rw[Nat.mod_eq_sub_mod aq]
   rw[List.getElem?_append_right (by rw[hk];omega),hk,adA enc hk ps (j - k) (by simp only[aB,eH,iv]at h;omega),e1,e2];congr 2;simp
theorem H5{α:Type} [Inhabited α] (enc:α->List Value) {k:Nat} (hk:∀x,(enc x).length=k) (d:Array α):(Go.Sort.flatK enc k d).toList=(d.toList.map enc).flatten:=by
 have hl:((d.toList.map enc).flatten).length=d.size*k:=by
  rw[List.length_flatten,oT];have:(d.toList.map (ae∘enc))=ai d.size k:=by rw[List.eq_replicate_iff];exact⟨by simp,λx hx=>by obtain⟨y,_,rfl⟩:=cr.1 hx;exact hk y⟩
  rw[this,List.sum_replicate_nat]
 apply kj;intro j;by_cases hj:j < d.size*k
 ·rw[adA enc hk d.toList j (by simpa using hj)];have h2:(Go.Sort.flatK enc k d).toList[j]? =au ((Go.Sort.flatK enc k d)[j]!):=by rw[iH,kB _ j (by rw[Go.Sort.size_flatK];exact hj)];simp[hj]
  rw[h2,Go.Sort.get_flatK _ _ _ _ hj];have aAz:0 < k:=by
   rcases iQ k with h0 | h0
   ·subst h0;simp at hj
   ·exact h0
  have hm:j%k < k:=Nat.mod_lt _ aAz;simp only[Array.toArray_toList];rw[bW (by rw[hk];exact hm),kB _ _ (by rw[hk];exact hm)]
 ·rw[dG (by simpa using hj),dG (by rw[hl];omega)]
theorem avo{F cur:Array Value}(h:F.size<=cur.size):(Go.Sort.putCells id 0 F cur).toList=F.toList++cur.toList.drop F.size:=by
 apply kj;intro j;simp only[Go.Sort.putCells,iH,Array.getElem?_mapIdx,aS,true_and,aU,Nat.sub_zero,id];by_cases hj:j < F.size
 ·rw[fu (by simpa using hj),iH,fq hj,fq aq,dT,if_pos hj,kB F j hj]
 ·rw[List.getElem?_append_right (by simpa using hj),fx,iH,cO,show F.size+(j - F.size)=j by omega];cases cur[j]? with
  |none=>rfl
  |some y=>rw[dT,if_neg hj]
end
section
open Go.Proofs Go.Shelf Go.Lib Go.Sort
variable {P:aL} {ρ:Go.Shelf.Ren} {t:Ty} {g:fw} {Q:t.den->Prop} {cf:t.den->t.den->Int}
theorem UB{α:Type} [Inhabited α] (enc:α->List Value) (k:Nat) (w:bV) (Mn m:Nat) (dk:Array α) (os:Array Obj) {b:Nat} (hb:b < w.heap.size) (gV:b≠Mn):(sortWorldK enc k w Mn 0 m dk os).heap[b]? =w.heap[b]? :=by
 show((w.heap.modify Mn _)++os)[b]? =_
 rw[jZ,if_pos (by simpa using hb),gD,if_neg (λe=>gV e.symm)]
theorem azX{α:Type} [Inhabited α] (enc:α->List Value) (k:Nat) (w:bV) (Mn m:Nat) (dk:Array α) (os:Array Obj) {cur:Array Value} {e:TypeId} {fr:Nat×Nat} (hb:w.heap[Mn]? =au (.cells cur e fr)):
  (sortWorldK enc k w Mn 0 m dk os).heap[Mn]? =au (.cells (putCells id 0 (flatK enc k dk) cur) e fr):=by
 have iJ:Mn < w.heap.size:=(bN.1 hb).1;show((w.heap.modify Mn _)++os)[Mn]? =_
 rw[jZ,if_pos (by simpa using iJ),gD,if_pos rfl,hb];rfl
set_option maxHeartbeats 1000000 in
theorem afW(L:SlLaysF0.n6 P ρ){e:TypeId}(ha:t.agg=aO)(aE:∀w,(isAgg (ρ.t 24)).run P w= .ok aO w)(zE:∀w,(Go.sizeOf (ρ.t 24)).run P w= .ok t.size w)(hc:aA8 P t g Q cf):
  nI P (ρ.f 6) (av3 g e t Q cf):=by
 intro w γ β args b8 iY x hv ho hx;obtain⟨d0,aFU,aEZ⟩:∃d,LH g e t d=(args,b8)/\NK Q cf d:=by
  by_cases hh:∃d,LH g e t d=(args,b8)/\NK Q cf d
  ·exact hh
  ·exfalso;have hn:(av3 g e t Q cf).run args b8=aH:=zI hh;rw[hn]at hx;cases hx
 have hr:=abx (g:=g) (e:=e) aEZ;unfold QL at hr;rw[aFU]at hr;obtain rfl:x=(d0.1,Gz cf d0.2):=aQ (hx.symm.trans hr);obtain⟨n,l⟩:=d0;simp only[LH,cF]at aFU;obtain⟨rfl,rfl⟩:=aFU;obtain⟨hn,re,hQ,hT⟩:=aEZ;have hn:n=l.length:=hn;subst hn
 match iY,hv with
 |[y1,y2],⟨aCk,OK,_⟩=>
 obtain⟨vs,rfl,J9⟩:=RN OK;have J9:vs=[]:=by simpa only[VC]using J9
 subst J9;have h1:=aCk.single rfl rfl;simp only[V]at h1;obtain⟨a,cap,h1,J2,pK,_,fE⟩:=h1;have h1:y1= .slice a l.length cap:=by simpa using h1
 subst h1;have cI:(fL [dE.obj 0 aV (.vec e t l)]).bS (.bF 0)=au (.obj 0 aV (.vec e t l)):=rfl;obtain⟨hz,hO⟩:aBf ((fL [dE.obj 0 aV (.vec e t l)]).env w γ β) (.bF 0) aV e t l:=ho (.bF 0) 0 aV _ cI;have fE:=fE ⟨aV,_,cI⟩;refine .inl ⟨L.f6.enters rfl _ _,?_⟩;have aJq:∀v:Value,v= .tuple #[]->VS ((iq.st ⟨.nil,[.obj 0 aV (.vec e t (Gz cf l))],[]⟩).env w γ β) .nil v:=λv hv=>by rw[hv];exact rfl
 have hS:=abw hc hQ;by_cases hl:l=[]
 ·subst hl;have hs:Gz cf ([]:List t.den)=[]:=bm hS.1.length_eq;refine(AnyF.slices_SortFunc_none L a cap _ w).mono λe' w' he=> ?_
  obtain⟨rfl,rfl⟩:=he;refine⟨_,rfl,?_⟩;show rK _ (⟨.nil,[.obj 0 aV (.vec e t (Gz cf []))],[]⟩:iq) _ _;rw[hs];exact rK.same rfl ho
 ·have og:0 < l.length:=List.length_pos_iff.2 hl
  change (match β (.bF 0) with | none=>l=[] | some pl=>∃cur k,w.heap[pl.b]? =au (.cells cur e (0,0))/\cur.size=pl.cap*t.size/\l.length<=pl.cap/\pl.cap<=maxLen/\γ pl.b= .own (.id (.bF 0)) k/\
   k<=l.length*t.size/\(aV=aV->k=0)/\bq (cG ((fL [dE.obj 0 aV (.vec e t l)]).env w γ β) t) (cur.toList.take (l.length*t.size)) l) at hO
  change (match β (.bF 0) with | some pl=>(0 < l.length\/True->a=au ⟨pl.b,0,aH⟩)/\(True->True->cap=pl.cap) | none=>a=aH/\l.length=0/\cap=0) at fE;cases hβ:β (.bF 0) with
  |none=>rw[hβ]at hO;exact absurd hO hl
  |some pl=>
  rw[hβ]at hO fE;obtain⟨cur,k0,q1,q2,q3,q4,q5,_,q7,q8⟩:=hO;obtain rfl:=q7 rfl;obtain rfl:=fE.1 (.inl og);have hblk:pl.b < w.heap.size:=(bN.1 q1).1;obtain⟨R,hR⟩:∃R:List Value->t.den->Prop,R=cG ((fL [dE.obj 0 aV (.vec e t l)]).env w γ β) t:=⟨_,rfl⟩;have hRm:∀c x,R c x->cG ((fL [dE.obj 0 aV (.vec e t l)]).env w γ β) t c x:=by rw[hR];exact λ_ _ h=>h
  rw[<-hR]at q8;obtain⟨ps,p1,p2⟩:=Ju (Q:=Q) q8 hQ;have aE0:ps.length=l.length:=by rw[<-p1,bg]
  let α:= {p:List Value×t.den // R p.1 p.2/\Q p.2}
  have:0 < ps.length:=aq
  letI:Inhabited α:=⟨ps[0]⟩
  let enc:α->List Value:=λp=>p.1.1
  let cf':α->α->Int:=λp q=>cf p.1.2 q.1.2
  have hk:∀x,(enc x).length=t.size:=λx=>(hRm _ _ x.2.1).size
  have hO:SWO (ltOf cf'):=⟨λx=>by simpa[ltOf,cf']using hc.irrefl _ x.2.2,λx y z h1 h2=>by
   simp only[ltOf,aR,cf']at*;exact hc.trans _ _ _ x.2.2 y.2.2 z.2.2 h1 h2,λx y z h1 h2=>by
   simp only[ltOf,gN,cf']at*;exact hc.ntrans _ _ _ x.2.2 y.2.2 z.2.2 h1 h2⟩
  have Bt:∀j,j < l.length*t.size->cur[j]? =((ps.map enc).flatten)[j]? :=λj hj=>by have:(ps.map enc).flatten=cur.toList.take (l.length*t.size):=p2;rw[this,cU,if_pos hj,iH]
  have hH:HoldsK enc t.size w pl.b 0 ps.toArray:=λj hj=>by
   rw[size_flatK]at hj;have hj:j < ps.length*t.size:=by simpa using hj
   have h2:=Bt j (by rw[<-aE0];exact hj);have h3:((flatK enc t.size ps.toArray).toList)[j]? =((ps.map enc).flatten)[j]? :=by rw[H5 enc hk]
   rw[iH,fq (by rw[size_flatK];simpa using hj)]at h3;refine⟨?_,?_⟩
   ·show(match w.heap[pl.b]? with | some (.cells c _ _)=>if(aH:Option _).isSome then aH else c[0+j]? | _=>aH)=_;rw[q1];simp only[ml,cd,cK,aU];rw[h2,<-h3,kB _ j (by rw[size_flatK];simpa using hj)];rfl
   ·show(match w.heap[pl.b]? with | some (.cells _ _ (lo,hi))=>decide (lo<=0+j) && decide (0+j < hi) | _=>aV)=aV;rw[q1];simp
  have rD:∀(m:Nat) (dk:Array α) (os:Array Obj),rS ((fL [dE.obj 0 aV (.vec e t l)]).env w γ β) ((fL []).env (sortWorldK enc t.size w pl.b 0 m dk os) (λ_=> .free) (λ_=>aH)):=λm dk os=>by
   refine⟨λb off v hh=>⟨?_,trivial⟩,λb ob hf j6=>⟨rfl,?_⟩⟩
   ·obtain⟨h1,h2⟩:=hh;have hb:b < w.heap.size:=World.block_lt_of_cell? _ _ h1;have gV:b≠pl.b:=λe=>by have h2:rH γ b off:=h2;unfold rH at h2;rw[e,q5]at h2;exact Nat.not_lt_zero _ h2
    have h1:w.cell? ⟨b,off,aH⟩=au v:=h1;show(sortWorldK enc t.size w pl.b 0 m dk os).cell? ⟨b,off,aH⟩=au v;simpa only[eI,UB enc t.size w pl.b m dk os hb gV]using h1
   ·have j6:w.heap[b]? =au ob:=j6
    have hb:b < w.heap.size:=(bN.1 j6).1;have gV:b≠pl.b:=λe=>by have hf:γ b= .free:=hf;rw[e,q5]at hf;cases hf
    exact(UB enc t.size w pl.b m dk os hb gV).trans j6
  have aGP:CmpLays P g #[] enc t.size cf' pl.b 0 ps.toArray.size w:=λm os dk _ p q=>
   hc.aEl ha ((hRm _ _ p.2.1).mono (rD m dk os)) ((hRm _ _ q.2.1).mono (rD m dk os)) p.2.2 q.2.2
  have aEA:=AnyQ.slices_SortFunc L t.size aE zE enc hk (λp=>(hRm _ _ p.2.1).one) cf' hO g #[] pl.b 0 cap ps.toArray w hc.enters aGP hH hblk (by simpa[aE0]using re);rw[show ps.toArray.size=l.length by simpa using aE0]at aEA;refine aEA.mono λe' w' he=> ?_
  obtain⟨rfl,d',m,os,hp,hs,rfl⟩:=he;refine⟨_,rfl,?_⟩;obtain⟨s1,_,s2⟩:=hp;have hd:d'.size=l.length:=by rw[s1];simpa using aE0
  have adS:d'.toList.Perm ps:=by
   have e1:(d'.extract 0 l.length)=d':=by rw[<-hd];simp
   have e2:(ps.toArray.extract 0 l.length)=ps.toArray:=by rw[<-aE0];simp
   rw[e1,e2]at s2;exact s2
  have hl':agG cf l (d'.toList.map (·.1.2)):=by refine⟨by rw[<-p1];exact adS.map _,?_⟩;rw[List.pairwise_map,List.pairwise_iff_getElem];intro i j hi hj aF2;have:=hs i j (aS _) aF2 (by rw[<-hd];simpa using hj);rw[kB d' i (by simpa using hi),kB d' j (by simpa using hj)]at this;simpa[ltOf,cf']using this
  have heq:=IP hc hQ hT hl';show rK _ (⟨.nil,[.obj 0 aV (.vec e t (Gz cf l))],[]⟩:iq) _ _;rw[<-heq];have kC:=azX enc t.size w pl.b m d' os q1;have hFs:(flatK enc t.size d').size<=cur.size:=by rw[size_flatK,hd,q2];exact cT _ q3
  have Gv:∀b,b < w.heap.size->b≠pl.b->(sortWorldK enc t.size w pl.b 0 m d' os).heap[b]? =w.heap[b]? :=λb hb gV=>UB enc t.size w pl.b m d' os hb gV
  have atf:w.heap.size<=(sortWorldK enc t.size w pl.b 0 m d' os).heap.size:=size_sortWorldK_c enc t.size w pl.b 0 m d' os;have hw:(sortWorldK enc t.size w pl.b 0 m d' os).os=w.os/\(sortWorldK enc t.size w pl.b 0 m d' os).tape=w.tape/\((sortWorldK enc t.size w pl.b 0 m d' os).output=w.output/\w.drawn<=(sortWorldK enc t.size w pl.b 0 m d' os).drawn):=⟨rfl,rfl,rfl,Nat.le_add_right _ _⟩;generalize sortWorldK enc t.size w pl.b 0 m d' os=w' at kC Gv atf hw;have ht:Trans w w' γ γ:=by
   refine⟨hw.1,hw.2.1,hw.2.2,atf,λb hb=> ?_⟩;by_cases aGJ:b=pl.b
   ·subst aGJ;rw[q5];exact⟨.inr ⟨_,0,rfl,aC _⟩,λ_ _ hh=>aq⟩
   ·rw[Gv b hb aGJ];cases P4:γ b with
    |free=>exact⟨rfl,rfl⟩
    |own o' k=>cases o' with
     |ez=>exact⟨rfl,rfl⟩
     |id i'=>exact⟨.inr ⟨i',k,rfl,aC _⟩,λoff v _ hv=>by simpa only[eI,Gv b hb aGJ]using hv⟩
  have hle:cP ((fL [dE.obj 0 aV (.vec e t l)]).env w γ β) ((iq.st ⟨.nil,[.obj 0 aV (.vec e t (d'.toList.map (·.1.2)))],[]⟩).env w' γ β):=by
   have e0:∀id,(∃c,(fL [dE.obj 0 aV (.vec e t l)]).bS id=au (.obj 0 aV c)/\id= .bF 0)\/((fL [dE.obj 0 aV (.vec e t l)]).bS id=aH/\(iq.st ⟨.nil,[.obj 0 aV (.vec e t (d'.toList.map (·.1.2)))],[]⟩).bS id=aH):=λid=>by
    cases id with
    |bF k=>cases k with
     |zero=>exact .inl ⟨_,rfl,rfl⟩
     |succ k=>exact .inr ⟨rfl,rfl⟩
    |new i j=>refine .inr ⟨?_,?_⟩ <;> cases i <;> rfl
   refine⟨Trans.mem (E:=(fL [dE.obj 0 aV (.vec e t l)]).env w γ β) (E':=(iq.st ⟨.nil,[.obj 0 aV (.vec e t (d'.toList.map (·.1.2)))],[]⟩).env w' γ β) ht,λid ver hb=> ?_,λid ver hb aI2=> ?_⟩
   ·rcases e0 id with⟨c,_,rfl⟩ | ⟨h1,_⟩
    ·refine⟨by show(au _:Option dE)≠aH;simp,λv fr c h=> ?_⟩;have h:au (dE.obj 0 aV (.vec e t (d'.toList.map (·.1.2))))=au (.obj v fr c):=h;simp only[az,dE.obj.injEq]at h;have:=hb.2 0 aV _ rfl;omega
    ·exact absurd h1 hb.1
   ·rcases e0 id with⟨c,_,rfl⟩ | ⟨h1,_⟩
    ·obtain⟨fr,c,h⟩:=aI2;have h:au (dE.obj 0 aV (.vec e t (d'.toList.map (·.1.2))))=au (.obj ver fr c):=h;simp only[az,dE.obj.injEq]at h;obtain⟨rfl,rfl,_⟩:=h;exact⟨⟨aV,_,rfl⟩,rfl⟩
    ·exact absurd h1 hb.1
  refine⟨γ,β,rfl,λid ver fr c h=> ?_,ht,hle⟩;have c8:id= .bF 0/\ver=0/\fr=aV/\c= .vec e t (d'.toList.map (·.1.2)):=by
   cases id with
   |bF k=>cases k with
    |zero=>
     have h:au (dE.obj 0 aV (.vec e t (d'.toList.map (·.1.2))))=au (.obj ver fr c):=h;simp only[az,dE.obj.injEq]at h;obtain⟨rfl,rfl,rfl⟩:=h;exact⟨rfl,rfl,rfl,rfl⟩
    |succ k=>cases h
   |new i j=>cases i <;> cases h
  obtain⟨rfl,rfl,rfl,rfl⟩:=c8;refine⟨hz,?_⟩;show(match β (.bF 0) with | none=>(d'.toList.map (·.1.2))=[] | some pl=>_);rw[hβ];have hlen:(d'.toList.map (λp:α=>p.1.2)).length=l.length:=by simpa using hd
  refine⟨_,0,kC,?_,by rw[hlen];exact q3,q4,q5,aS _,λ_=>rfl,?_⟩
  ·rw[<-q2];simp[putCells]
  ·have e3:(putCells id 0 (flatK enc t.size d') cur).toList.take ((d'.toList.map (λp:α=>p.1.2)).length*t.size)=(d'.toList.map enc).flatten:=by
    rw[avo hFs,H5 enc hk,hlen];have e4:((d'.toList.map enc).flatten).length=l.length*t.size:=by rw[<-H5 enc hk,cO,size_flatK,hd]
    rw[<-e4,List.take_left]
   rw[e3];exact KL (Q:=Q) (λc x h=>(hRm c x h).mono hle.mem) d'.toList
end
end Go.Ab
namespace Go.Ab
open Go.Proofs
def HH(a b:dC):Int:=ay0 [VB a.1 b.1,v7 a.2.1 b.2.1]
def lx:List Int->List Int->Int
 |x::xs,y::ys=>if x≠y then(if x < y then -1 else 1) else lx xs ys
 |_,_=>0
theorem aay:∀a,lx a a=0
 |[]=>rfl
 |x::a=>by simp[lx,aay a]
theorem atY:∀ {a b:List Int},a.length=b.length->lx a b=0->a=b
 |[],[],_,_=>rfl
 |[],_::_,h,_=>by simp at h
 |_::_,[],h,_=>by simp at h
 |x::a,y::b,h,h2=>by
  simp only[lx]at h2;split at h2
  ·split at h2 <;> omega
  ·rename_i e;have e:x=y:=aq;rw[e,atY (by simpa using h) h2]
theorem Ct:∀a b:List Int,lx b a= - lx a b
 |[],[]=>rfl
 |[],_::_=>rfl
 |_::_,[]=>rfl
 |x::a,y::b=>by
  simp only[lx];by_cases h:x=y
  ·rw[if_neg aq,if_neg aq,Ct a b]
  ·rw[if_pos aq,if_pos h];by_cases h2:x < y
   ·rw[if_neg aq,if_pos h2];rfl
   ·rw[if_pos aq,if_neg h2]
theorem EE:∀ {a b c:List Int},a.length=b.length->b.length=c.length->lx a b<=0->lx b c<=0->lx a c<=0/\(lx a c=0->lx a b=0/\lx b c=0)
 |[],[],[],_,_,_,_=>by simp[lx]
 |x::a,y::b,z::c,h1,h2,h3,h4=>by
  have ih:=EE (a:=a) (b:=b) (c:=c) (by simpa using h1) (by simpa using h2);simp only[lx]at h3 h4 ⊢;by_cases e1:x=y
  ·by_cases e2:y=z
   ·rw[if_neg aq]at h3 h4;rw[if_neg aq,if_neg aq,if_neg aq];exact ih h3 h4
   ·rw[if_neg aq]at h3;rw[if_pos e2]at h4;rw[if_pos aq];by_cases e3:y < z
    ·rw[if_pos aq];exact⟨aq,λh=>aq⟩
    ·rw[if_neg e3]at h4;omega
  ·rw[if_pos e1]at h3;by_cases e3:x < y
   ·by_cases e2:y=z
    ·rw[if_pos aq,if_pos aq];exact⟨aq,λh=>aq⟩
    ·rw[if_pos e2]at h4;by_cases e4:y < z
     ·rw[if_pos aq,if_pos aq];exact⟨aq,λh=>aq⟩
     ·rw[if_neg e4]at h4;omega
   ·rw[if_neg e3]at h3;omega
 |[],_::_,_,h,_,_,_=>by simp at h
 |_::_,[],_,h,_,_,_=>by simp at h
 |_,[],_::_,_,h,_,_=>by simp at h
 |_,_::_,[],_,h,_,_=>by simp at h
def aGg(a b:Int):Int:=if a=0 then b else a
theorem QE{p:Int}{a b:List Int}:lx (p::a) (p::b)=lx a b:=by simp[lx]
theorem Gd{p q:Int}{a b:List Int}(h:¬p=q):lx (p::a) (q::b)=if p < q then -1 else 1:=by simp[lx,h]
theorem alp:∀ {a b:List Int} (x y:Int),a.length=b.length->lx (a++ [x]) (b++ [y])=aGg (lx a b) (v7 x y)
 |[],[],x,y,_=>by
  show lx [x] [y]=aGg 0 (v7 x y);simp only[aGg,cZ];unfold v7;by_cases h:x=y
  ·subst h;rw[QE,if_neg aq,if_neg aq];rfl
  ·rw[Gd h];by_cases h2:x < y
   ·rw[if_pos h2,if_pos h2]
   ·rw[if_neg h2,if_neg h2,if_pos aq]
 |[],_::_,_,_,h=>by simp at h
 |_::_,[],_,_,h=>by simp at h
 |p::a,q::b,x,y,h=>by
  show lx (p::(a++ [x])) (q::(b++ [y]))=_;by_cases h2:p=q
  ·subst h2;rw[QE,QE];exact alp x y (by simpa using h)
  ·rw[Gd h2,Gd h2];by_cases h3:p < q
   ·rw[if_pos h3];rfl
   ·rw[if_neg h3];rfl
def ar6:List UInt8->List UInt8->Int
 |x::xs,y::ys=>if x !=y then(if x < y then -1 else 1) else ar6 xs ys
 |_,_=>0
theorem acW:∀(xs ys:List UInt8),xs.length=ys.length->(match(List.range xs.length).find? λi=>xs[i]! !=ys[i]! with | some i=>if xs[i]! < ys[i]! then(-1:Int) else 1 | none=>0)=ar6 xs ys
 |[],[],_=>rfl
 |[],_::_,h=>by simp at h
 |_::_,[],h=>by simp at h
 |x::xs,y::ys,h=>by
  have ih:=acW xs ys (by simpa using h);rw[aB,List.range_succ_eq_map,List.find?_cons];simp only[List.getElem!_cons_zero,ar6];cases hb:(x !=y) with
  |true=>simp
  |false=>
   simp only[cd,cK];rw[List.find?_map,<-ih];have e:((λi=>(x::xs)[i]! !=(y::ys)[i]!)∘Nat.succ)=λi=>xs[i]! !=ys[i]! :=by funext i;simp
   rw[e];cases(List.range xs.length).find? λi=>xs[i]! !=ys[i]! <;> simp
theorem akE:∀ {a b:List Int},(∀x∈a,0<=x/\x < 256)->(∀x∈b,0<=x/\x < 256)->ar6 (a.map λn=>fm n.toNat) (b.map λn=>fm n.toNat)=lx a b
 |[],_,_,_=>by cases ‹List Int› <;> rfl
 |_::_,[],_,_=>rfl
 |x::a,y::b,ha,hb=>by
  have hx:=ha x (aG ..);have hy:=hb y (aG ..);have ih:=akE (a:=a) (b:=b) (λz hz=>ha z (aD _ hz)) (λz hz=>hb z (aD _ hz));simp only[bn,ar6,lx,ih];have e1:(fm x.toNat).toNat=x.toNat:=by simp[UInt8.toNat_ofNat];omega
  have e2:(fm y.toNat).toNat=y.toNat:=by simp[UInt8.toNat_ofNat];omega
  by_cases h:x=y
  ·subst h;simp
  ·have gV:(fm x.toNat !=fm y.toNat)=aO:=by rw[bne_iff_ne];intro e;have:=bK UInt8.toNat e;rw[e1,e2]at this;omega
   rw[gV,if_pos rfl,if_pos h];have iJ:fm x.toNat < fm y.toNat↔x < y:=by rw[UInt8.lt_iff_toNat_lt,e1,e2];omega
   by_cases h2:x < y
   ·rw[if_pos (iJ.2 h2),if_pos h2]
   ·rw[if_neg (λe=>h2 (iJ.1 e)),if_neg h2]
theorem axw{a b:List Int}(hl:a.length=b.length)(ha:∀x∈a,0<=x/\x < 256)(hb:∀x∈b,0<=x/\x < 256):VB a b=lx a b:=by
 rw[<-akE ha hb,<-acW _ _ (by simpa using hl)];unfold VB Extern.BytealgCompare.cmp;have s1:∀l:List Int,(fC l).size=l.length:=λl=>by simp[fC,ByteArray.size]
 have g1:∀(l:List Int) (i:Nat),(fC l)[i]! =(l.map λn=>fm n.toNat)[i]! :=λl i=>by
  by_cases h:i < (fC l).size
  ·rw[kB _ i h];have h2:i < (l.map λn=>fm n.toNat).length:=by simpa[fC,ByteArray.size]using h
   rw[kB _ i h2];rfl
  ·rw[getElem!_neg _ i h];have h2:¬i < (l.map λn=>fm n.toNat).length:=by simpa[fC,ByteArray.size]using h
   rw[getElem!_neg _ i h2]
 simp only[s1,g1,hl,Nat.min_self,bg];cases(List.range b.length).find? λi=>(a.map λn=>fm n.toNat)[i]! !=(b.map λn=>fm n.toNat)[i]! <;> simp
def ab9(o:dC):Prop:=o.1.length=32/\∀x∈o.1,0<=x/\x < 256
def xp(o:dC):List Int:=o.1++ [o.2.1]
theorem ov{o:dC}(h:ab9 o):(xp o).length=33:=by simp[xp,h.1]
theorem aeR{a b:dC}(ha:ab9 a)(hb:ab9 b)(h:xp a=xp b):a=b:=by obtain⟨a1,a2,_⟩:=a;obtain⟨b1,b2,_⟩:=b;have h:a1++ [a2]=b1++ [b2]:=h;have:=List.append_inj' h rfl;rw[this.1,show a2=b2 by simpa using this.2]
theorem sj{a b:dC}(ha:ab9 a)(hb:ab9 b):HH a b=lx (xp a) (xp b):=by
 unfold xp HH;rw[alp _ _ (ha.1.trans hb.1.symm),axw (ha.1.trans hb.1.symm) ha.2 hb.2];simp only[ay0,aGg];by_cases h:lx a.1 b.1=0
 ·rw[if_pos h,if_neg (λe=>e h)];split
  ·rfl
  ·omega
 ·rw[if_neg h,if_pos h]
theorem acU{x:dC}(hx:ab9 x):¬HH x x < 0:=by rw[sj hx hx,aay];decide
theorem ahm{x y z:dC}(hx:ab9 x)(hy:ab9 y)(hz:ab9 z)(h1:HH x y < 0)(h2:HH y z < 0):HH x z < 0:=by
 rw[sj hx hy]at h1;rw[sj hy hz]at h2;rw[sj hx hz];have:=EE (by rw[ov hx,ov hy]) (by rw[ov hy,ov hz]) (by omega:lx (xp x) (xp y)<=0) (by omega:lx (xp y) (xp z)<=0);have h3:=this.1;by_cases h4:lx (xp x) (xp z)=0
 ·have:=(this.2 h4).1;omega
 ·omega
theorem acV{x y z:dC}(hx:ab9 x)(hy:ab9 y)(hz:ab9 z)(h1:¬HH x y < 0)(h2:¬HH y z < 0):¬HH x z < 0:=by rw[sj hx hy]at h1;rw[sj hy hz]at h2;rw[sj hx hz];have e1:=Ct (xp x) (xp y);have e2:=Ct (xp y) (xp z);have e3:=Ct (xp x) (xp z);have:=(EE (by rw[ov hz,ov hy]) (by rw[ov hy,ov hx]) (by omega:lx (xp z) (xp y)<=0) (by omega:lx (xp y) (xp x)<=0)).1;omega
theorem Ro{x y:dC}(hx:ab9 x)(hy:ab9 y)(h1:¬HH x y < 0)(h2:¬HH y x < 0):x=y:=by rw[sj hx hy]at h1;rw[sj hy hx,Ct]at h2;exact aeR hx hy (atY (by rw[ov hx,ov hy]) aq)
theorem zU{β:Type}{kt:Ty}(hc:kt.comp=aO){x:kt.den}{v:β}:∀ {l:List (kt.den×β)},x ∉ l.map (·.1)->eM kt x v l=l++ [(x,v)]
 |[],_=>rfl
 |p::l,h=>by
  rw[yN];have h1:¬kt.beq x p.1=aO:=λe=>h (by rw[beq_eq kt _ _ hc e];simp)
  rw[if_neg h1,zU hc λe=>h (by simp[e])];rfl
theorem iM:cV.comp=aO:=rfl
def yf(l:List (dC×gZ)):Int:=(l.map λp=>p.2.1.1).sum
theorem oY(p:dC×gZ)(l:List (dC×gZ)):yf (p::l)=p.2.1.1+yf l:=by simp[yf]
theorem acj(l l':List (dC×gZ)):yf (l++l')=yf l+yf l':=by simp[yf]
theorem WW{l l':List (dC×gZ)}(h:l.Perm l'):yf l=yf l':=by
 induction h with
 |nil=>rfl
 |cons x _ ih=>rw[oY,oY,ih]
 |swap x y l=>rw[oY,oY,oY,oY];omega
 |trans _ _ h1 h2=>rw[h1,h2]
theorem ahD{α:Type}{l:List α}{j:Nat}(h:j < l.length):l.Perm (l[j]::l.eraseIdx j):=by
 induction l generalizing j with
 |nil=>simp at h
 |cons x l ih=>
  cases j with
  |zero=>exact lB _
  |succ j=>
   have h:j < l.length:=by simpa using h
   simp only[List.getElem_cons_succ,List.eraseIdx_cons_succ];exact((ih h).cons x).trans (List.Perm.swap _ _ _)
theorem alz{kt vt:Ty}{l:List (kt.den×vt.den)}{j:Nat}(h:j < l.length):tJ kt vt l j=l[j]:=by simp[tJ,aJ,bW h]
abbrev Zq:=Nat×(List eT)
abbrev akD:=Nat×(List eT)
def Mu:Zq->akD->(((List eT))×(Nat×(List eT))):=λ(sL,o0) y=>(o0,y)
def ana:Zq->Prop:=λ(n,l)=>n<=l.length/\l.length<=1000000
def Zr:Zq->akD:=λ(n,l)=>((l.take n).length,l.take n)
def Jx:Fs Tryz.prog ana Mu Zr:=gf 61 Tryz.f61 (λ(sL,o0)=>([.cM (.bF 0) 0 [] 0 0 sL],[.obj 0 aV (.vec 134 eP o0)])) (λx=>⟨.cM (.new 0 0) 0 [] 0 0 x.2.1,[.obj 0 aV (.vec 134 eP x.1)],[.obj 0 aV (.vec 134 eP x.2.2)]⟩) [aH] [] {bM:=[5],owns:=[⟨2,[],5,68⟩]}
theorem arW(sL o0)(k:K1 R):Jx.A (sL,o0) k=aP (decide (0 < sL)) (aP (decide (0=0/\(0+sL)<=(ae o0))) (aP (dI (0+(ae (cut o0 0 sL))) 48) (k (Jx.out (o0,((0+(ae (cut o0 0 sL))),((bk 0 (ai 0 (([]:List agD),(([]:List dC),()))))++(cut o0 0 sL)))))) aH) aH) (nd (k (Jx.out (o0,(0,([]:List eT))))) (aP (decide (0=0/\(0+sL)<=(ae o0))) (aP (dI (0+(ae (cut o0 0 sL))) 48) (k (Jx.out (o0,((0+(ae (cut o0 0 sL))),((bk 0 (ai 0 (([]:List agD),(([]:List dC),()))))++(cut o0 0 sL)))))) aH) aH)):=cW
theorem arX:Jx.Ok:=by
 rintro⟨n,l⟩ ⟨h1,h2⟩;have h1:n<=l.length:=h1;have h2:l.length<=1000000:=h2;have ec:cut l 0 n=l.take n:=by simp[cut]
 have ht:(l.take n).length<=1000000:=by rw[bZ];omega
 have hr:dI (l.take n).length 48=aO:=dN aq aq;rw[arW];simp only[aU,ec,hr,aj,fb,aT,true_and,aM h1,Mu,Zr];by_cases h:0 < n
 ·simp only[aM h,aj]
 ·have:n=0:=aq;subst this;simp only[fb,bw,aS,cQ,aj,Cz,cz (gX 0),ao]
theorem anb:Jx.RS:=rE [.n,.d (.slice eP)] Jx
def arY:=Jx.aGi YH arX
abbrev Ef:=Nat×(List (dC×gZ))×(List eT)×(List (dC×gZ))×(List eT)×Nat×(List (dC×gZ))
abbrev Ox:=(List (dC×gZ))
def um:Ef->Ox->((Nat×(List (dC×gZ))×(List eT)×(List eT)×Nat)×((List (dC×gZ)))):=λ(o0L,iC,gq,n6,n11,Dz,n18) y=>((o0L,iC,gq,n11,Dz),y)
abbrev adi:=Nat×(List (dC×gZ))×(List eT)
def VE:Ef->Prop:=λ(_,_,_,m,_,_,rest)=>((m++rest).map (·.1)).Nodup
def zH:Ef->Ox:=λ(_,_,_,m,_,_,rest)=>fK (m++rest)
def ahw:adi->Prop:=λ(n,a,s)=>n<=s.length/\s.length<=1000000/\(a.map (·.1)).Nodup
def adj:adi->(Nat×(List (dC×gZ))×(List eT)×Nat×(List (dC×gZ))×(List eT)):=λ(n,a,s)=>(n,a,s,(s.take n).length,fK a,s.take n)
def o9:Ls VE um zH:=wh (λ(o0L,iC,gq,n6,n11,Dz,n18)=>⟨([cj,cj,cj,fa 13]++ba 14 ([fa 18]++ba 12 [])),[eL (.pr (.dM (.bF 1) 0) (.pr (.cM (.bF 2) 0 [] 0 0 o0L) oc)),.obj 0 aO (.mp cV jn iC),eL (.vec 134 eP gq)],(bC 6 ([dz (.mp cV jn n6)]++bC 4 ([dz (.vec 134 eP n11),[],dz (.pr (.dM (.new 6 0) 0) (.pr (lq 11 Dz) oc))]++bC 4 ([dz (.qa (.bF 1) 1 cV jn n18 aH)]++bC 12 []))))⟩) (λx=>(.exit 0,⟨([cj,cj,cj,fa 13]++ba 27 []),[eL (.pr (.dM (.bF 1) 0) (.pr (.cM (.bF 2) 0 [] 0 0 x.1.1) oc)),eL (.mp cV jn x.1.2.1),eL (.vec 134 eP x.1.2.2.1)],(bC 6 ([dz (.mp cV jn x.2)]++bC 4 ([dz (.vec 134 eP x.1.2.2.2.1),[],dz (.pr (.dM (.new 6 0) 0) (.pr (lq 11 x.1.2.2.2.2) oc))]++bC 17 [])))⟩))
def wa:Fs Tryz.prog ahw bG adj:=gf 32 Tryz.f32 (λ(o0baL,o1,o2)=>([.ptr (.bF 0) 0 [] 0],[.obj 0 aV (.pr (.dM (.bF 1) 0) (.pr (.cM (.bF 2) 0 [] 0 0 o0baL) (.d .unit ()))),.obj 0 aV (.mp cV jn o1),.obj 0 aV (.vec 134 eP o2)])) (λx=>⟨.ptr (.new 0 0) 0 [] 0,[.obj 0 aV (.pr (.dM (.bF 1) 0) (.pr (.cM (.bF 2) 0 [] 0 0 x.1) (.d .unit ()))),.obj 0 aV (.mp cV jn x.2.1),.obj 0 aV (.vec 134 eP x.2.2.1)],[.obj 0 aV (.pr (.dM (.new 0 1) 0) (.pr (.cM (.new 0 2) 0 [] 0 0 x.2.2.2.1) (.d .unit ()))),.obj 0 aV (.mp cV jn x.2.2.2.2.1),.obj 0 aV (.vec 134 eP x.2.2.2.2.2)]⟩) [aH] [arY] {bM:=[13],loops:=th [(3,{bz:=[3,18],sites:=[6,11,13,18],aDR:=[18]})],outs:=tg [(3,{bz:=[3],sites:=[6,11,13],aBs:=[(.new 6 0)]},{bz:=[2]})],iE:=uA [(3,o9.E)]}
theorem VF:o9.RS:=rL [.n,.d (.slice (.pair cV jn)),.d (.slice eP),.d (.slice (.pair cV jn)),.d (.slice eP),.n,.d (.slice (.pair cV jn))] o9
theorem Eg(o0L iC gq n6 n11 Dz n18)(kn:K2 R)(kx:K3 R):wa.R 0 o9 (o0L,iC,gq,n6,n11,Dz,n18) kn kx=aP (decide (0 < (ae n18))) (asw (ae n18) λj1=>kn (o9.st (o0L,iC,gq,(eM cV (tJ cV jn n18 j1).1 (tJ cV jn n18 j1).2 n6),n11,Dz,(List.eraseIdx n18 j1)))) (o9.go kx ((o0L,iC,gq,n11,Dz),(fK n6))):=cW
theorem anp(o0baL o1 o2)(k:K1 R):wa.A (o0baL,o1,o2) k=ax (Jx.call (o0baL,o2)) λx1=>ax (o9.call (o0baL,o1,x1.1,([]:List (dC×gZ)),x1.2.2,x1.2.1,o1)) λx3=>k (wa.out (x3.1.1,x3.1.2.1,x3.1.2.2.1,x3.1.2.2.2.2,x3.2,x3.1.2.2.2.1)):=cW
theorem ZE:(wa.mN 0 o9):=by
 refine(wa.aFu 0 o9) (λ(_,_,_,_,_,_,rest)=>rest.length) ?_
 rintro⟨n,a,s,m,u,k0,rest⟩ hn;have hn:((m++rest).map (·.1)).Nodup:=hn;by_cases h:0 < rest.length
 ·left;have e1:∀j,j < rest.length->eM cV (tJ cV jn rest j).1 (tJ cV jn rest j).2 m=m++ [tJ cV jn rest j]:=λj hj=>by rw[zU iM];intro hm;rw[ji,km]at hn;exact hn.2.2 _ hm _ (cr.2 ⟨_,aZ hj,by rw[alz hj]⟩) rfl
  have e2:∀j,j < rest.length->(m++ [tJ cV jn rest j]++rest.eraseIdx j).Perm (m++rest):=λj hj=>by rw[aK,alz hj];exact List.Perm.append_left _ (ahD hj).symm
  refine⟨rest.length,λj=>(n,a,s,eM cV (tJ cV jn rest j).1 (tJ cV jn rest j).2 m,u,k0,rest.eraseIdx j),h,λj hj=>⟨?_,?_,?_⟩,λkn kx=> ?_⟩
  ·show((eM cV (tJ cV jn rest j).1 (tJ cV jn rest j).2 m++rest.eraseIdx j).map (·.1)).Nodup;rw[e1 j hj];exact(((e2 j hj).map _).nodup_iff).2 hn
  ·show(rest.eraseIdx j).length < rest.length;rw[List.length_eraseIdx,if_pos hj];omega
  ·simp only[um,zH,e1 j hj];rw[am0 (e2 j hj)]
  ·rw[Eg,aM h,aj]
 ·right;obtain rfl:rest=[]:=bm aq;intro T kn kx;rw[Eg,cz h,ao];simp only[um,zH,bo]
theorem anq:wa.Ok:=by rintro⟨n,a,s⟩ ⟨h1,h2,h3⟩;have h1:n<=s.length:=h1;have h2:s.length<=1000000:=h2;rw[anp,anb (d:=(n,s)) ⟨h1,h2⟩];simp only[ag,Mu,Zr];rw[VF (d:=(n,a,s,[],s.take n,(s.take n).length,a)) h3];simp only[ag,um,zH,bG,adj,aT]
theorem ahx:wa.RS:=rE [.n,.d (.slice (.pair cV jn)),.d (.slice eP)] wa
def Xm:=wa.gr anq 1 ⟨.iB ZE,trivial⟩
abbrev MB:=jo×Nat×Nat×Int×Int×Int×(List rI)
abbrev Xj:=(List rI)×(List rI)
def ac4:MB->Xj->((jo×Int)×((List rI)×(List rI))):=λ(aCM,lL,aqe,t11,t12,n2,n9) y=>((aCM,n2),y)
def aD4(l:Lk):Prop:=l.1.length<=1000/\∀b∈l.1,b.1.length<=1000000
def ac3:MB->Prop:=λ(_,n,m,t,i,_,l)=>(l.length<=1000/\∀b∈l,b.1.length<=1000000)/\∃k:Nat,k<=l.length/\i=k/\n=l.length/\m=l.length/\t=l.length
def anh:MB->Xj:=λ(_,_,_,_,_,_,l)=>(l,l)
def ar9:jo->Prop:=λo=>aD4 o.2.1
def ahs:jo->jo:=λo=>o
def uk:Ls ac3 ac4 anh:=wh (λ(aCM,lL,aqe,t11,t12,n2,n9)=>⟨([cj,.eG nu aCM,fa 2,lq 9 lL]++ba 6 ([lq 9 aqe,.d ti t11,.d ti t12]++ba 17 [])),[],([[],[],dz (.pr (.d ti n2) (.pr (.pr (.dd) oc) oc))]++bC 6 ([dz (.vec 121 pT n9)]++bC 20 []))⟩) (λx=>(.exit 0,⟨([cj,.eG nu x.1.1,fa 2,.d (.slice pT) x.2.1]++ba 26 []),[],([[],[],dz (.pr (.d ti x.1.2) (.pr (.pr (.dd) oc) oc))]++bC 6 ([[.obj 0 aO (.vec 121 pT x.2.2)]]++bC 20 []))⟩))
def P1:Fs Tryz.prog ar9 bG ahs:=gf 18 Tryz.f18 (λo=>([.d nu o],[])) (λx=>⟨.d nu x,[],[]⟩) [au nu] [Zm,Gg] {loops:=th [(3,{bz:=[1,2,3,10,11,12],sites:=[2,9]})],outs:=tg [(3,{bz:=[1,2,3],sites:=[2,9],data:=[(3,(.slice pT))]},{bz:=[2]})],iE:=uA [(3,uk.E)],res:=[au nu]}
theorem ac5:uk.RS:=rL [.d nu,.n,.n,.d ti,.d ti,.d ti,.d (.slice pT)] uk
theorem JB(aCM lL aqe t11 t12 n2 n9)(kn:K2 R)(kx:K3 R):P1.R 0 uk (aCM,lL,aqe,t11,t12,n2,n9) kn kx=aP (iG t12 t11) (aP (iO t12 ((aqe:Nat):Int)) (aP (decide ((0+(ab t12)) < (ae n9))) (aP (decide ((((0+(ab t12))*4)+0)=(0+((ab t12)*4)))) (ax (wi.call (nth pT n9 (0+(ab t12))).1) λx1=>aP (iO t12 ((lL:Nat):Int)) (aP (decide ((0+(ab t12)) < (ae n9))) (aP (decide ((((0+(ab t12))*4)+0)=((0+((ab t12)*4))+0))) (aP (decide ((0+(ab t12)) < (ae n9))) (kn (uk.st (aCM,lL,aqe,t11,(bT .i64 t12 1),n2,(fW n9 (0+(ab t12)) (x1,(nth pT n9 (0+(ab t12))).2))))) aH) aH) aH) aH) aH) aH) aH) (aP (decide (0=0/\(0+lL)<=(ae n9))) (uk.go kx ((aCM,n2),((cut n9 0 lL),n9))) aH):=cW
theorem axD(o)(k:K1 R):P1.A o k=ax (Re.call o.2.1.1) λx1=>ax (uk.call (o,x1.1,x1.1,((x1.1:Nat):Int),0,0,x1.2)) λx3=>k (P1.out (x3.1.1.1,((x3.2.1,()),()))):=cW
theorem aht:(P1.mN 0 uk):=by
 refine(P1.px 0 uk) (λ(_,_,_,_,i,_,l)=>l.length - i.toNat) ?_
 rintro⟨o,n,m,t,i,u,l⟩ ⟨⟨hlen,hx⟩,k,hk,rfl,rfl,rfl,rfl⟩;have hlen:l.length<=1000:=hlen;have hk:k<=l.length:=hk;by_cases h:k < l.length
 ·left;have n1:nth pT l k=l[k]:=db (t:=pT) h;have hs:l.set k l[k]=l:=fJ h;have e:=hx _ (aZ h);refine⟨(o,l.length,l.length,(l.length:Int),((k+1:Nat):Int),u,l),⟨⟨hlen,hx⟩,k+1,aq,rfl,rfl,rfl,rfl⟩,by simp only[aa];omega,rfl,λkn kx=> ?_⟩;rw[JB,bh aq,bB aq aq];simp only[aa,aU,ct,aj,aM h,cQ,n1];rw[CD (d:=l[k].1) e];simp only[ag,bG,EU];rw[N.pV aq];exact bK (λz=>kn (uk.st (_,_,_,_,_,_,z))) hs
 ·right;obtain rfl:k=l.length:=aq;intro R kn kx;rw[JB,aW aq,ao,aM aq,aj,fA rfl];rfl
theorem axE:P1.Ok:=by rintro⟨a,⟨l,u⟩,v⟩ ⟨h1,h2⟩;have h1:l.length<=1000:=h1;rw[axD,Rg (d:=l) (by show l.length<=_;omega)];simp only[ag,bG,Rf];rw[ac5 (d:=((a,(l,u),v),l.length,l.length,(l.length:Int),0,0,l)) ⟨⟨h1,h2⟩,0,aS _,rfl,rfl,rfl,rfl⟩];rfl
theorem ac6:P1.RS:=rE [.d nu] P1
def akH:=P1.gr axE 1 ⟨.iB aht,trivial⟩
abbrev yw:=Int×(List jo)×Int×Int×(List (dC×gZ))
def oa:yw->AS:=λ(sum,t13,t14,t15,n10)=>⟨([cj,cj,cj,fa 12,.d ti sum]++ba 8 ([.d (.slice nu) t13,.d ti t14,.d ti t15]++ba 35 [])),[],(bC 10 ([dz (.mp cV jn n10),[],dz (.pr (.dM (.new 10 0) 0) (.pr (.dd) oc))]++bC 38 []))⟩
def fQ:Unit->Exit×AS:=λx=>(.ret,⟨([cj,cj,.jW]++ba 48 []),[],(ai 51 [])⟩)
abbrev Oz:=(List (dC×gZ))
def w6:Oz->Exit×AS:=λx=>(.exit 0,⟨([cj,cj,cj,fa 12]++ba 47 []),[],(bC 10 ([dz (.mp cV jn x),[],dz (.pr (.dM (.new 10 0) 0) (.pr (.dd) oc))]++bC 38 []))⟩)
abbrev HR:=(Unit)⊕(Oz)
abbrev RF:=(Unit)⊕(((List (dC×gZ))))
def Cc:HR->Out (Exit×AS):=λx=> .br x.isLeft (.get x.getLeft? λa=> .ok (fQ a)) (.get x.getRight? λb=> .ok (w6 b))
def ky:yw->RF->HR:=λ(sum,t13,t14,t15,n10) y=>match y with | .inl y=> .inl y | .inr z=> .inr (z)
abbrev JM:=(List jo)
def RH:JM->SA:=λouts=>([.d (.slice nu) outs],[])
abbrev akQ:=(Unit)⊕((List (dC×gZ))×(List eT))
abbrev ZH:=(Unit)⊕((List (dC×gZ))×(List eT))
def Bm:ZH->iq:=λx=>match x with | .inl x=>⟨.jW,[],[]⟩ | .inr x=>⟨fa 0,[],[eL (.pr (.dM (.new 0 1) 0) (.pr (.cM (.new 0 2) 0 [] 0 0 0) oc)),eL (.mp cV jn x.1),eL (.vec 134 eP x.2)]⟩
def Bl:JM->akQ->ZH:=λouts y=>match y with | .inl y=> .inl y | .inr y=> .inr y
def GI(k:Nat)(o:jo):dC×gZ:=((ai 32 (0:Int),((k:Int),())),(o,((0:Int),())))
def CC(sum:Int)(o:jo):Bool:=ju o.2.1 && decide (0<=o.1/\o.1<=1125899906842624 - sum)
def It(sum:Int)(k:Nat):List jo->Option (List (dC×gZ))
 |[]=>au []
 |o::l=>match CC sum o with | true=>(It (sum+o.1) (k+1) l).map (GI k o:: ·) | false=>aH
def aeH(outs:List jo):Option (List (dC×gZ)):=if outs.length<=256 then It 0 0 outs else aH
def amo(o:jo):Prop:=amm o.2.1/\o.2.1.1.length<=9223372036854775807/\o.1<=9223372036854775807
def w5:yw->Prop:=λ(sum,outs,n,i,a)=>(∀o∈outs,amo o)/\outs.length<=256/\0<=sum/\sum<=1125899906842624/\∃k:Nat,k<=outs.length/\i=k/\n=outs.length/\∀p∈a,p.1.2.1 < (k:Int)
def nZ:yw->RF:=λ(sum,outs,_,i,a)=>match It sum i.toNat (outs.drop i.toNat) with | none=> .inl () | some r=> .inr (a++r)
def MD:JM->Prop:=λouts=>∀o∈outs,amo o
def JN:JM->akQ:=λouts=>match aeH outs with | none=> .inl () | some r=> .inr (r,[])
def ZF:qh:=pS (P:=Tryz.prog) [xX,akH]
def RE:=eA.iB oa w5 ky nZ Cc
def GQ:yw->Option HR:=lg RE oa
def RG:zp:= {bM:=[12],loops:=th [(5,{bz:=[3,4,13,14,15],sites:=[10,12]})],outs:=tg [(5,{bz:=[3],sites:=[10,12]},{bz:=[2]})],iE:=uA [(5,RE)],owns:=[⟨2,[.snd,.fst],0,68⟩]}
def akO:= @QO Tryz.prog ZF RG 0 Tryz.f6 _ RH
abbrev asr:=amj @akO MD Bl JN Bm
def HQ:= @gw Tryz.prog ZF RG 0 Tryz.f6 0 _ oa
abbrev Oy:=qu Tryz.prog ZF RG 0 Tryz.f6 0 oa w5 ky nZ Cc
theorem ZG:nK GQ w5 ky nZ:=tR (sy [.d ti,.d (.slice nu),.d ti,.d ti,.d (.slice (.pair cV jn))] λ_=>cW)
theorem JO:yd @HQ oa w5 ky nZ Cc Oy:=zr
theorem GR(sum t13 t14 t15 n10)(kn:K2 R)(kx:K3 R):HQ (sum,t13,t14,t15,n10) kn kx=aP (iG t15 t14) (aP (iO t15 (((ae t13):Nat):Int)) (ax (nB.call (nth nu t13 (ab t15)).2.1) λx1=>aP (!x1) (kx (fQ ()).1 (fQ ()).2) (aP (iG (nth nu t13 (ab t15)).1 (0:Int)) (kx (fQ ()).1 (fQ ()).2) (aP (wC (nth nu t13 (ab t15)).1 (ed .i64 (1125899906842624:Int) sum)) (kx (fQ ()).1 (fQ ()).2) (ax (P1.call (nth nu t13 (ab t15))) λx2=>kn (oa ((bT .i64 sum (nth nu t13 (ab t15)).1),t13,t14,(bT .i64 t15 (1:Int)),(eM cV ((ai 32 (0:Int)),(t15,())) (x2,((0:Int),())) n10))))))) aH) (kx (w6 n10).1 (w6 n10).2):=cW
theorem ass(outs)(k:K1 R):akO outs k=aP (wC (((ae outs):Nat):Int) (256:Int)) (k (Bm (.inl ()))) (ax (GQ ((0:Int),outs,(((ae outs):Nat):Int),(0:Int),([]:List (dC×gZ)))) λx3=>aP x3.isLeft (ax x3.getLeft? λa4=>k (Bm (.inl ()))) (ax x3.getRight? λb5=>k (Bm (.inr (b5,([]:List eT)))))):=cW
theorem adk:Oy:=by
 refine JO (λ(_,outs,_,i,_)=>outs.length - i.toNat) ?_
 rintro⟨sum,outs,n,i,a⟩ ⟨hg,hl,h0,h1,k,hk,rfl,rfl,hf⟩;have h0:0<=sum:=h0;have h1:sum<=1125899906842624:=h1;have hl:outs.length<=256:=hl;have hk:k<=outs.length:=hk;by_cases h:k < outs.length
 ·obtain⟨g1,g2,g3⟩:=hg _ (aZ h);have n1:nth nu outs k=outs[k]:=db (t:=nu) h;have hd:outs.drop k=outs[k]::outs.drop (k+1):=aA h
  have hs:∀ {R:Type} (kn:AS->Option R) (kx:Exit->AS->Option R),HQ (sum,outs,(outs.length:Int),(k:Int),a) kn kx=
    aP (!(ju outs[k].2.1)) (kx (fQ ()).1 (fQ ()).2) (aP (iG outs[k].1 0) (kx (fQ ()).1 (fQ ()).2) (aP (wC outs[k].1 (1125899906842624 - sum)) (kx (fQ ()).1 (fQ ()).2)
     (ax (P1.call outs[k]) λx2=>kn (oa ((bT .i64 sum outs[k].1),outs,(outs.length:Int),(bT .i64 (k:Int) (1:Int)),(eM cV ((ai 32 (0:Int)),((k:Int),())) (x2,((0:Int),())) a)))))):=λkn kx=>by
   rw[GR,bh aq,aj,bB aq aq,aj,aa,n1,tE (d:=outs[k].2.1) ⟨g1,g2⟩,eV aq aq];rfl
  by_cases iS:CC sum outs[k]=aO
  ·left;have hok':=iS;unfold CC at hok';simp only[al,aR]at hok';obtain⟨k1,k2,k3⟩:=hok';have ab3:=Su k1;refine⟨(sum+outs[k].1,outs,(outs.length:Int),((k+1:Nat):Int),a++ [GI k outs[k]]),⟨hg,hl,by show 0<=sum+outs[k].1;omega,by show sum+outs[k].1<=_;omega,k+1,aq,rfl,rfl,λp hp=> ?_⟩,by simp only[aa];omega,?_,λkn kx=> ?_⟩
   ·rcases bp.1 hp with hp | hp
    ·have:=hf p hp;omega
    ·rw[bf.1 hp];show(k:Int) < _;omega
   ·simp only[ky,nZ,aa,hd,It,iS];cases It (sum+outs[k].1) (k+1) (outs.drop (k+1)) with
    |none=>rfl
    |some r=>simp only[dT,aK,cC]
   ·rw[hs,k1,bR,ao,aW aq,ao,cY aq,ao,ac6 (d:=outs[k]) ⟨aq,λb hb=>by have:=ab3.2 b hb;omega⟩];simp only[ag,bG,ahs];rw[eU aq aq,N.pV aq,zU iM]
    ·rfl
    ·intro hm;obtain⟨p,hp,he⟩:=cr.1 hm;have:=hf p hp;have he:p.1=_:=he;rw[he]at this;have this:(k:Int) < k:=this;omega
  ·right;have ayc:CC sum outs[k]=aV:=by simpa using iS
   refine⟨fQ (),?_,λkn kx=> ?_⟩;rotate_left
   ·rw[hs];unfold CC at ayc;cases k1:ju outs[k].2.1 with
    |false=>rw[dA,aj]
    |true=>
     rw[k1]at ayc;simp only[dD,gN]at ayc;rw[bR,ao];by_cases k2:outs[k].1 < 0
     ·rw[bh k2,aj]
     ·rw[aW k2,ao,dy aq,aj]
   ·simp only[ky,nZ,aa,hd,It,ayc];rfl
 ·right;obtain rfl:k=outs.length:=aq;refine⟨w6 a,?_,λkn kx=> ?_⟩;rotate_left
  ·rw[GR,aW aq,ao]
  ·simp only[ky,nZ,aa,bj,It,bo];rfl
theorem ast:asr:=by
 intro outs hg;rw[ass];simp only[Bl,JN,aeH];by_cases h:outs.length<=256
 ·rw[cY aq,ao,ZG (d:=(0,outs,(outs.length:Int),0,[])) ⟨hg,h,eR,eR,0,aS _,rfl,rfl,λp hp=>by cases hp⟩,if_pos h];simp only[ag,ky,nZ,bO,aN];cases It 0 0 outs with
  |none=>rfl
  |some r=>rfl
 ·rw[dy aq,aj,if_neg h]
def akP:=Entry.aix [au (.slice nu)] RH MD Bl JN Bm
def HS:JM->Option ZH:=W4 akP RH
theorem anr:nK HS MD Bl JN:=al6 (an7 [.d (.slice nu)] λ_=>cW)
def asu:SG Tryz.prog:=⟨6,wI,akP,.of (.aFC (.fn 1 cW ast (And.intro (.iB adk cW) trivial))) (by rfl)⟩
def aD2(c:gZ):Prop:=ju c.1.2.1=aO/\amm c.1.2.1/\0<=c.1.1/\c.1.1<=1125899906842624/\0<=c.2.1/\c.2.1<=1048576
def ags(a:List (dC×gZ)):Prop:=(a.map (·.1)).Nodup/\∀p∈a,ab9 p.1/\aD2 p.2
theorem ags.get{a:List (dC×gZ)}(h:ags a){o:dC}{c:gZ}(hg:cE cV o a=au c):aD2 c:=(h.2 _ ((kf iM h.1).1 hg)).2
def awM:gZ:=((0,(([],()),())),(0,()))
theorem aD2.own{c:gZ}(h:aD2 c):aD4 c.1.2.1:=by have:=Su h.1;exact⟨aq,λb hb=>by have:=this.2 b hb;omega⟩
abbrev yt:=Int×fN×Int×(List gU)×Int×Int×Nat×(List (dC×gZ))×(List eT)×Bs
def nX:yt->AS:=λ(fo,rC,dL,t35,t36,t37,o0L,iC,gq,n8)=>⟨([.ptr (.bF 0) 0 [] 0,cj,.d ti fo,cj,.eG jk rC,cj,cj,cj,fa 8,.d ti dL]++ba 25 ([.d (.slice gB) t35,.d ti t36,.d ti t37]++ba 69 [])),[eL (.pr (.dM (.bF 1) 0) (.pr (.cM (.bF 2) 0 [] 0 0 o0L) oc)),eL (.mp cV jn iC),eL (.vec 134 eP gq)],(bC 8 ([dz (.d tH n8)]++bC 98 []))⟩
abbrev Oo:=(Nat×(List (dC×gZ))×(List eT))×(Int)
def jt:Oo->Exit×AS:=λ((a,b,c),e)=>(.ret,⟨(ba 6 ([.d ti (0:Int),.d ti e]++ba 99 [])),[eL (.pr (.dM (.bF 1) 0) (.pr (.cM (.bF 2) 0 [] 0 0 a) oc)),eL (.mp cV jn b),eL (.vec 134 eP c)],(ai 107 [])⟩)
abbrev Oq:=(fN×Nat×(List (dC×gZ))×(List eT))×(Int)
def wV:Oq->Exit×AS:=λ((a,b,c,e),f)=>(.exit 0,⟨([.ptr (.bF 0) 0 [] 0,cj,cj,cj,.eG jk a]++ba 4 ([.d ti f]++ba 97 [])),[eL (.pr (.dM (.bF 1) 0) (.pr (.cM (.bF 2) 0 [] 0 0 b) oc)),eL (.mp cV jn c),eL (.vec 134 eP e)],(ai 107 [])⟩)
abbrev HN:=(Oo)⊕(Oq)
abbrev RA:=(Int)⊕(Int)
def B9:HN->Out (Exit×AS):=λx=> .br x.isLeft (.get x.getLeft? λa=> .ok (jt a)) (.get x.getRight? λb=> .ok (wV b))
def js:yt->RA->HN:=λ(fo,rC,dL,t35,t36,t37,o0L,iC,gq,n8) y=>match y with | .inl y=> .inl ((o0L,iC,gq),y) | .inr z=> .inr (((rC,o0L,iC,gq),z))
abbrev yu:=fN×Int×(List dC)×Int×Int×Nat×(List (dC×gZ))×(List eT)
def q9:yu->AS:=λ(Gm,vl,t75,t76,t77,rk,BF,rG)=>⟨([.ptr (.bF 0) 0 [] 0,cj,cj,cj,.eG jk Gm]++ba 4 ([.d ti vl]++ba 65 ([.d (.slice cV) t75,.d ti t76,.d ti t77]++ba 29 []))),[eL (.pr (.dM (.bF 1) 0) (.pr (.cM (.bF 2) 0 [] 0 0 rk) oc)),eL (.mp cV jn BF),eL (.vec 134 eP rG)],(ai 107 [])⟩
abbrev Ou:=Nat×(List (dC×gZ))×(List eT)
def wX:Ou->Exit×AS:=λ(a,b,c)=>(.ret,⟨(ba 6 ([.d ti (0:Int),.d ti (4:Int)]++ba 99 [])),[eL (.pr (.dM (.bF 1) 0) (.pr (.cM (.bF 2) 0 [] 0 0 a) oc)),eL (.mp cV jn b),eL (.vec 134 eP c)],(ai 107 [])⟩)
abbrev Ow:=fN×Int×Nat×(List (dC×gZ))×(List eT)
def wY:Ow->Exit×AS:=λ(a,b,c,e,f)=>(.exit 2,⟨(ba 4 ([.eG jk a]++ba 4 ([.d ti b]++ba 97 []))),[eL (.pr (.dM (.bF 1) 0) (.pr (.cM (.bF 2) 0 [] 0 0 c) oc)),eL (.mp cV jn e),eL (.vec 134 eP f)],(ai 107 [])⟩)
abbrev HO:=(Ou)⊕(Ow)
abbrev RD:=(Unit)⊕(Unit)
def Ca:HO->Out (Exit×AS):=λx=> .br x.isLeft (.get x.getLeft? λa=> .ok (wX a)) (.get x.getRight? λb=> .ok (wY b))
def ku:yu->RD->HO:=λ(Gm,vl,t75,t76,t77,rk,BF,rG) y=>match y with | .inl y=> .inl (rk,BF,rG) | .inr z=> .inr ((Gm,vl,rk,BF,rG))
abbrev HP:=Int×(List jo)×Int×Int×Nat×(List (dC×gZ))×(List eT)
def wZ:HP->Int->((Nat×(List (dC×gZ))×(List eT))×(Int)):=λ(Xt,t93,t94,t95,Tl,aiF,CA) y=>((Tl,aiF,CA),y)
abbrev akN:=fN×Int×Nat×(List (dC×gZ))×(List eT)
def wg(h:Int)(id:List Int)(a:List (dC×gZ)):List gU->Int->Int⊕Int
 |[],dL=> .inr dL
 |x::l,dL=>match cE cV x.1 a with
  |none=> .inl 5
  |some c=>if zX c.1.2.1 x.2.1 id h (h - c.2.1)≠0 then .inl (zX c.1.2.1 x.2.1 id h (h - c.2.1)) else wg h id a l (dL+c.1.1)
def pc(a:List (dC×gZ))(o:dC):Bool:=(cE cV o a).isSome
def kV(l:List jo):Int:=(l.map (·.1)).sum
def fy(t:fN)(h:Int)(a:List (dC×gZ)):Int×Int:=
 if iF t=aO/\1<=h/\h<=1048576 then
  match wg h (tl t) a t.1 0 with
  | .inl e=>(0,e)
  | .inr dL=>if(iK t).any (pc a)=aO then(0,4) else if dL - kV t.2.1 < 0 then(0,8) else(dL - kV t.2.1,0)
 else(0,1)
def wU:yt->Prop:=λ(h,_,dL,l,n,i,_,a,_,id)=>(0<=h/\h<=1048576)/\Sm id/\l.length<=64/\(∀x∈l,aIa x)/\ags a/\∃k:Nat,k<=l.length/\i=k/\n=l.length/\0<=dL/\dL<=(k:Int)*1125899906842624
def my:yt->RA:=λ(h,_,dL,l,_,i,_,a,_,id)=>wg h id a (l.drop i.toNat) dL
def wW:yu->Prop:=λ(_,_,l,n,i,_,_,_)=>l.length<=1000/\∃k:Nat,k<=l.length/\i=k/\n=l.length
def nY:yu->RD:=λ(_,_,l,_,i,_,a,_)=>if(l.drop i.toNat).any (pc a)=aO then .inl () else .inr ()
def ZC:HP->Prop:=λ(dL,l,n,i,_,_,_)=>l.length<=64/\(∀o∈l,0<=o.1/\o.1<=1125899906842624)/\∃k:Nat,k<=l.length/\i=k/\n=l.length/\ -((k:Int)*1125899906842624)<=dL/\dL<=1000000000000000000
def Cb:HP->Int:=λ(dL,l,_,i,_,_,_)=>dL - kV (l.drop i.toNat)
def ano:akN->Prop:=λ(t,_,_,a,_)=>A7 t/\ags a
def Zz:akN->(Int×Int×Nat×(List (dC×gZ))×(List eT)):=λ(t,h,n,a,s)=>((fy t h a).1,(fy t h a).2,n,a,s)
def Rz:=eA.iB nX wU js my B9
def GN:yt->Option HN:=lg Rz nX
def RB:=eA.iB q9 wW ku nY Ca
def GO:yu->Option HO:=lg RB q9
def sm:Ls ZC wZ Cb:=wh (λ(Xt,t93,t94,t95,Tl,aiF,CA)=>⟨(ba 9 ([.d ti Xt]++ba 83 ([.d (.slice nu) t93,.d ti t94,.d ti t95]++ba 11 []))),[eL (.pr (.dM (.bF 1) 0) (.pr (.cM (.bF 2) 0 [] 0 0 Tl) oc)),eL (.mp cV jn aiF),eL (.vec 134 eP CA)],(ai 107 [])⟩) (λx=>(.exit 4,⟨(ba 9 ([.d ti x.2]++ba 97 [])),[eL (.pr (.dM (.bF 1) 0) (.pr (.cM (.bF 2) 0 [] 0 0 x.1.1) oc)),eL (.mp cV jn x.1.2.1),eL (.vec 134 eP x.1.2.2)],(ai 107 [])⟩))
def lY:Fs Tryz.prog ano bG Zz:=gf 81 Tryz.f81 (λ(t,height,o0baL,o1,o2)=>([.ptr (.bF 0) 0 [] 0,.d jk t,.d ti height],[.obj 0 aV (.pr (.dM (.bF 1) 0) (.pr (.cM (.bF 2) 0 [] 0 0 o0baL) (.d .unit ()))),.obj 0 aV (.mp cV jn o1),.obj 0 aV (.vec 134 eP o2)])) (λx=>⟨.cons (.d ti x.1) (.cons (.d ti x.2.1) (.nil)),[.obj 0 aV (.pr (.dM (.bF 1) 0) (.pr (.cM (.bF 2) 0 [] 0 0 x.2.2.1) (.d .unit ()))),.obj 0 aV (.mp cV jn x.2.2.2.1),.obj 0 aV (.vec 134 eP x.2.2.2.2)],[]⟩) [aH,au jk,au ti] [pH,US,atS,af6] {loops:=th [(5,{bz:=[0,2,4,8,9,35,36,37],sites:=[8]}),(16,{bz:=[0,4,9,75,76,77]}),(23,{bz:=[9,93,94,95]})],outs:=tg [(5,{bz:=[0,4,9]},{bz:=[6,7]}),(16,{bz:=[4,9]},{bz:=[6,7]}),(23,{bz:=[9]},{bz:=[6,7]})],iE:=uA [(5,Rz),(16,RB),(23,sm.E)]}
def HM:= @gw Tryz.prog (pS lY.G) lY.an 0 Tryz.f81 0 _ nX
abbrev On:=qu Tryz.prog (pS lY.G) lY.an 0 Tryz.f81 0 nX wU js my B9
def RC:= @gw Tryz.prog (pS lY.G) lY.an 0 Tryz.f81 1 _ q9
abbrev Ot:=qu Tryz.prog (pS lY.G) lY.an 0 Tryz.f81 1 q9 wW ku nY Ca
theorem ZA:nK GN wU js my:=tR (sy [.d ti,.d jk,.d ti,.d (.slice gB),.d ti,.d ti,.n,.d (.slice (.pair cV jn)),.d (.slice eP),.d tB] λ_=>cW)
theorem JK:yd @HM nX wU js my B9 On:=zr
theorem Au(fo rC dL t35 t36 t37 o0L iC gq n8)(kn:K2 R)(kx:K3 R):HM (fo,rC,dL,t35,t36,t37,o0L,iC,gq,n8) kn kx=aP (iG t37 t36) (aP (iO t37 (((ae t35):Nat):Int)) (aP (!(cE cV (nth gB t35 (ab t37)).1 iC).isSome) (kx (jt ((o0L,iC,gq),(5:Int))).1 (jt ((o0L,iC,gq),(5:Int))).2) (ax (l6.call (((cE cV (nth gB t35 (ab t37)).1 iC).getD (((0:Int),((([]:List rI),()),())),((0:Int),()))).1.2.1,(nth gB t35 (ab t37)).2.1,n8,fo,(ed .i64 fo ((cE cV (nth gB t35 (ab t37)).1 iC).getD (((0:Int),((([]:List rI),()),())),((0:Int),()))).2.1))) λx1=>aP (DF x1 (0:Int)) (kx (jt ((o0L,iC,gq),x1)).1 (jt ((o0L,iC,gq),x1)).2) (kn (nX (fo,rC,(bT .i64 dL ((cE cV (nth gB t35 (ab t37)).1 iC).getD (((0:Int),((([]:List rI),()),())),((0:Int),()))).1.1),t35,t36,(bT .i64 t37 (1:Int)),o0L,iC,gq,n8))))) aH) (kx (wV ((rC,o0L,iC,gq),dL)).1 (wV ((rC,o0L,iC,gq),dL)).2):=cW
theorem ZB:nK GO wW ku nY:=tR (sy [.d jk,.d ti,.d (.slice cV),.d ti,.d ti,.n,.d (.slice (.pair cV jn)),.d (.slice eP)] λ_=>cW)
theorem JL:yd @RC q9 wW ku nY Ca Ot:=zr
theorem Av(Gm vl t75 t76 t77 rk BF rG)(kn:K2 R)(kx:K3 R):RC (Gm,vl,t75,t76,t77,rk,BF,rG) kn kx=aP (iG t77 t76) (aP (iO t77 (((ae t75):Nat):Int)) (aP ((cE cV (nth cV t75 (ab t77)) BF).isSome) (kx (wX (rk,BF,rG)).1 (wX (rk,BF,rG)).2) (kn (q9 (Gm,vl,t75,t76,(bT .i64 t77 (1:Int)),rk,BF,rG)))) aH) (kx (wY (Gm,vl,rk,BF,rG)).1 (wY (Gm,vl,rk,BF,rG)).2):=cW
theorem ZD:sm.RS:=rL [.d ti,.d (.slice nu),.d ti,.d ti,.n,.d (.slice (.pair cV jn)),.d (.slice eP)] sm
theorem GP(Xt t93 t94 t95 Tl aiF CA)(kn:K2 R)(kx:K3 R):lY.R 2 sm (Xt,t93,t94,t95,Tl,aiF,CA) kn kx=aP (iG t95 t94) (aP (iO t95 (t93.length:Int)) (kn (sm.st ((ed .i64 Xt (nth nu t93 (ab t95)).1),t93,t94,(bT .i64 t95 1),Tl,aiF,CA))) aH) (sm.go kx ((Tl,aiF,CA),Xt)):=cW
theorem asp(t height o0baL o1 o2)(k:K1 R):lY.A (t,height,o0baL,o1,o2) k=ax (il.call t) λx1=>aP (!x1) (k (lY.out (0,1,o0baL,o1,o2))) (aP (iG height 1) (k (lY.out (0,1,o0baL,o1,o2))) (aP (wC height 1048576) (k (lY.out (0,1,o0baL,o1,o2))) (ax (tid.call t) λx2=>ax (GN (height,t,0,t.1,(t.1.length:Int),0,o0baL,o1,o2,x2)) λx4=>aP x4.isLeft (ax x4.getLeft? λa5=>k (lY.out (0,a5.2,a5.1.1,a5.1.2.1,a5.1.2.2))) (ax x4.getRight? λb6=>ax (Dq.call b6.1.1) λx7=>ax (GO (b6.1.1,b6.2,x7,(x7.length:Int),0,b6.1.2.1,b6.1.2.2.1,b6.1.2.2.2)) λx8=>aP x8.isLeft (ax x8.getLeft? λa9=>k (lY.out (0,4,a9.1,a9.2.1,a9.2.2))) (ax x8.getRight? λb10=>ax (sm.call (b10.2.1,b10.1.2.1,(b10.1.2.1.length:Int),0,b10.2.2.1,b10.2.2.2.1,b10.2.2.2.2)) λaw1=>aP (iG aw1.2 0) (k (lY.out (0,8,aw1.1.1,aw1.1.2.1,aw1.1.2.2))) (k (lY.out (aw1.2,0,aw1.1.1,aw1.1.2.1,aw1.1.2.2)))))))):=cW
theorem ade:On:=by
 refine JK (λ(_,_,_,l,_,i,_,_,_,_)=>l.length - i.toNat) ?_
 rintro⟨h,t,dL,l,n,i,o,a,s,id⟩ ⟨⟨aGU,aF0⟩,c8,hl,hu,ha,k,hk,rfl,rfl,aDB,aEG⟩;have aGU:0<=h:=aGU;have aF0:h<=1048576:=aF0;have hl:l.length<=64:=hl;have aDB:0<=dL:=aDB;have aEG:dL<=(k:Int)*1125899906842624:=aEG;have hk:k<=l.length:=hk;by_cases iJ:k < l.length
 ·have hx:=hu _ (aZ iJ);have n1:nth gB l k=l[k]:=db (t:=gB) iJ;have hd:l.drop k=l[k]::l.drop (k+1):=aA iJ;cases hg:cE cV l[k].1 a with
  |none=>
   right;refine⟨jt ((o,a,s),5),?_,λkn kx=> ?_⟩;rotate_left
   ·rw[Au,bh aq,aj,bB aq aq,aj,aa,n1,hg];simp only[ml,dA,aj]
   ·simp only[js,my,aa,hd,wg,hg];rfl
  |some c=>
   have hc:=ha.get hg;obtain⟨c1,c2,c3,c4,c5,c6⟩:=hc
   have nw:∀ {R:Type} (kn:AS->Option R) (kx:Exit->AS->Option R),HM (h,t,dL,l,(l.length:Int),(k:Int),o,a,s,id) kn kx=
     aP (DF (zX c.1.2.1 l[k].2.1 id h (h - c.2.1)) 0) (kx (jt ((o,a,s),zX c.1.2.1 l[k].2.1 id h (h - c.2.1))).1 (jt ((o,a,s),zX c.1.2.1 l[k].2.1 id h (h - c.2.1))).2)
      (kn (nX (h,t,dL+c.1.1,l,(l.length:Int),((k+1:Nat):Int),o,a,s,id))):=λkn kx=>by
    rw[Au,bh aq,aj,bB aq aq,aj,aa,n1,hg];simp only[Option.isSome_some,bR,ao,dQ];rw[eV aq aq,aon (d:=(c.1.2.1,l[k].2.1,id,h,h - c.2.1)) ⟨c2,by have:=Su c1;omega,hx.2.1,c8⟩];simp only[ag,bG,aaq];rw[eU aq aq,N.pV aq]
   by_cases he:zX c.1.2.1 l[k].2.1 id h (h - c.2.1)=0
   ·left;refine⟨(h,t,dL+c.1.1,l,(l.length:Int),((k+1:Nat):Int),o,a,s,id),⟨⟨aGU,aF0⟩,c8,hl,hu,ha,k+1,aq,rfl,rfl,by show 0<=dL+c.1.1;omega,by show dL+c.1.1<=_;omega⟩,by simp only[aa];omega,?_,λkn kx=> ?_⟩
    ·simp only[js,my,aa,hd,wg,hg,he,ne_eq,not_true_eq_false,cK]
    ·rw[nw,dX he,ao]
   ·right;refine⟨jt ((o,a,s),zX c.1.2.1 l[k].2.1 id h (h - c.2.1)),?_,λkn kx=> ?_⟩;rotate_left
    ·rw[nw,fY he,aj]
    ·simp only[js,my,aa,hd,wg,hg];rw[if_pos he];rfl
 ·right;obtain rfl:k=l.length:=aq;refine⟨wV ((t,o,a,s),dL),?_,λkn kx=> ?_⟩;rotate_left
  ·rw[Au,aW aq,ao]
  ·simp only[js,my,aa,bj,wg];rfl
theorem adf:Ot:=by
 refine JL (λ(_,_,l,_,i,_,_,_)=>l.length - i.toNat) ?_
 rintro⟨t,dL,l,n,i,o,a,s⟩ ⟨hl,k,hk,rfl,rfl⟩;have hl:l.length<=1000:=hl;have hk:k<=l.length:=hk;by_cases iJ:k < l.length
 ·have n1:nth cV l k=l[k]:=db (t:=cV) iJ;have hd:l.drop k=l[k]::l.drop (k+1):=aA iJ;cases hg:(cE cV l[k] a).isSome with
  |true=>
   right;refine⟨wX (o,a,s),?_,λkn kx=> ?_⟩;rotate_left
   ·rw[Av,bh aq,aj,bB aq aq,aj,aa,n1,hg,aj]
   ·simp only[ku,nY,aa,hd,tZ,pc,hg,Bool.true_or,cZ];rfl
  |false=>
   left;refine⟨(t,dL,l,(l.length:Int),((k+1:Nat):Int),o,a,s),⟨hl,k+1,aq,rfl,rfl⟩,by simp only[aa];omega,?_,λkn kx=> ?_⟩
   ·simp only[ku,nY,aa,hd,tZ,pc,hg,Bool.false_or]
   ·rw[Av,bh aq,aj,bB aq aq,aj,aa,n1,hg,ao,N.pV aq]
 ·right;obtain rfl:k=l.length:=aq;refine⟨wY (t,dL,o,a,s),?_,λkn kx=> ?_⟩;rotate_left
  ·rw[Av,aW aq,ao]
  ·simp only[ku,nY,aa,bj,List.any_nil,cd,cK];rfl
theorem adg:(lY.mN 2 sm):=by
 refine(lY.px 2 sm) (λ(_,l,_,i,_,_,_)=>l.length - i.toNat) ?_
 rintro⟨dL,l,n,i,o,a,s⟩ ⟨hl,ho,k,hk,rfl,rfl,aDB,aEG⟩;have hl:l.length<=64:=hl;have hk:k<=l.length:=hk;have aDB: -((k:Int)*1125899906842624)<=dL:=aDB;have aEG:dL<=1000000000000000000:=aEG;by_cases iJ:k < l.length
 ·left;have n1:nth nu l k=l[k]:=db (t:=nu) iJ;have hd:l.drop k=l[k]::l.drop (k+1):=aA iJ;have hx:=ho _ (aZ iJ);refine⟨(dL - l[k].1,l,(l.length:Int),((k+1:Nat):Int),o,a,s),⟨hl,ho,k+1,aq,rfl,rfl,by show _<=dL - l[k].1;omega,by show dL - l[k].1<=_;omega⟩,by simp only[aa];omega,?_,λkn kx=> ?_⟩
  ·simp only[wZ,Cb,aa,hd,kV,bn,mZ];rw[Int.sub_sub]
  ·rw[GP,bh aq,aj,bB aq aq,aj,aa,n1,eV aq aq,N.pV aq]
 ·right;obtain rfl:k=l.length:=aq;intro R kn kx;rw[GP,aW aq,ao];simp only[wZ,Cb,aa,bj,kV,eF,List.sum_nil,oP]
theorem tG{t:fN}(h:iF t=aO):(iK t).length=t.2.1.length:=by unfold iK;rw[if_pos h];simp[BC]
theorem Sc{h:Int}{id:List Int}{a:List (dC×gZ)}(ha:ags a):∀(l:List gU) (dL f:Int),wg h id a l dL= .inr f->dL<=f/\f<=dL+(l.length:Int)*1125899906842624
 |[],dL,f,e=>by simp only[wg,Sum.inr.injEq]at e;subst e;simp
 |x::l,dL,f,e=>by
  simp only[wg]at e;cases hg:cE cV x.1 a with
  |none=>rw[hg]at e;cases e
  |some c=>
   rw[hg]at e;simp only at e;split at e
   ·cases e
   ·have hc:=ha.get hg;have:=Sc ha l _ _ e;obtain⟨_,_,c3,c4,_⟩:=hc;rw[aB];omega
theorem asq:lY.Ok:=by
 rintro⟨t,h,n,a,s⟩ ⟨hv,ha⟩;have hv:A7 t:=hv;have ha:ags a:=ha;rw[asp,mK (d:=t) hv.1];simp only[ag,bG,oN,bG,Zz,fy];by_cases iS:iF t=aO
 ·rw[iS,bR,ao];obtain⟨⟨_,a2,a3,_⟩,b1,b2⟩:=lQ iS;by_cases h1:1<=h
  ·rw[aW aq,ao];by_cases h2:h<=1048576
   ·rw[cY aq,ao,if_pos ⟨rfl,h1,h2⟩,LQ (d:=t) hv];simp only[ag,bG,UR];rw[ZA (d:=(h,t,0,t.1,(t.1.length:Int),0,n,a,s,tl t)) ⟨⟨by show 0<=h;omega,h2⟩,aj8,a2,hv.2.1,ha,0,aS _,rfl,rfl,eR,eR⟩];simp only[ag,js,my,bO,aN];cases hi:wg h (tl t) a t.1 0 with
    |inl e=>
     simp only[Sum.isLeft_inl,aj,Sum.getLeft?_inl,ag]
    |inr dL=>
     have hb:=Sc ha _ _ _ hi;simp only[ig,ao,fP,ag];rw[YP (d:=t) hv];simp only[ag,bG,QM];rw[ZB (d:=(t,dL,iK t,((iK t).length:Int),0,n,a,s)) ⟨by rw[tG iS];omega,0,aS _,rfl,rfl⟩];simp only[ag,ku,nY,bO,aN];by_cases hm:(iK t).any (pc a)=aO
     ·rw[if_pos hm];simp only[Sum.isLeft_inl,aj,Sum.getLeft?_inl,ag,cZ,hm]
     ·rw[if_neg hm];simp only[ig,ao,fP,ag];rw[ZD (d:=(dL,t.2.1,(t.2.1.length:Int),0,n,a,s)) ⟨a3,λo ho=>(mC _ _ b2 o ho).1,0,aS _,rfl,rfl,by show -((0:Int)*_)<=dL;omega,by show dL<=_;omega⟩];simp only[ag,wZ,Cb,bO,aN];rw[if_neg hm];by_cases hf:dL - kV t.2.1 < 0
      ·rw[bh hf,aj,if_pos hf]
      ·rw[aW hf,ao,if_neg hf]
   ·rw[dy aq,aj,if_neg (λe=>h2 e.2.2)]
  ·rw[bh aq,aj,if_neg (λe=>h1 e.2.1)]
 ·have hok':iF t=aV:=by simpa using iS
  rw[hok',dA,aj,if_neg (λe=>by cases e.1)]
theorem Xl:lY.RS:=rE [.d jk,.d ti,.n,.d (.slice (.pair cV jn)),.d (.slice eP)] lY
def adh:=lY.gr asq 3 ⟨.iB ade,⟨.iB adf,⟨.iB adg,trivial⟩⟩⟩
def JQ(l:List dC)(a:List (dC×gZ)):List (dC×gZ):=l.foldl (λm o=>lK cV o m) a
def azv(l:List agD)(a:List (dC×gZ)):List (dC×gZ):=l.foldl (λm e=>eM cV e.1 e.2.1 m) a
def aBd(st:eT):Prop:=st.1.length<=1000/\st.2.1.length<=1000
abbrev yq:=Int×fN×(List dC)×Int×Int×Nat×(List (dC×gZ))×(List eT)×Nat×((List dC)×Unit)×(List agD)
def qY:yq->AS:=λ(fo,rC,t28,t29,t30,o0L,iC,gq,awX,n9,n45)=>⟨([.ptr (.bF 0) 0 [] 0,cj,.d ti fo,cj,.eG jk rC]++ba 4 ([fa 9]++ba 18 ([.d (.slice cV) t28,.d ti t29,.d ti t30]++ba 54 []))),[eL (.pr (.dM (.bF 1) 0) (.pr (.cM (.bF 2) 0 [] 0 0 o0L) oc)),eL (.mp cV jn iC),eL (.vec 134 eP gq)],(bC 9 ([dz (.pr (lq 45 awX) (.d (.pair (.slice cV) .unit) n9))]++bC 35 ([dz (.vec 205 aC7 n45)]++bC 39 [])))⟩
abbrev zF:=(Int×fN×Nat×(List eT)×((List dC)×Unit))×((List (dC×gZ))×Nat×(List agD))
def wR:zF->Exit×AS:=λ((a,b,c,e,f),g,h,i)=>(.exit 0,⟨([.ptr (.bF 0) 0 [] 0,cj,.d ti a,cj,.eG jk b]++ba 4 ([fa 9]++ba 75 [])),[eL (.pr (.dM (.bF 1) 0) (.pr (.cM (.bF 2) 0 [] 0 0 c) oc)),eL (.mp cV jn g),eL (.vec 134 eP e)],(bC 9 ([dz (.pr (lq 45 h) (.d (.pair (.slice cV) .unit) f))]++bC 35 ([dz (.vec 205 aC7 i)]++bC 39 [])))⟩)
def JH:zF->Out (Exit×AS):=λx=> .ok (wR x)
def mu:yq->((List (dC×gZ))×Nat×(List agD))->zF:=λ(fo,rC,t28,t29,t30,o0L,iC,gq,awX,n9,n45) y=>((fo,rC,o0L,gq,n9),y)
abbrev yr:=Int×fN×(List dC)×Int×Int×Nat×(List (dC×gZ))×(List eT)×Nat×((List dC)×Unit)×(List agD)
def qZ:yr->AS:=λ(Bu,Gm,t54,t55,t56,rk,BF,rG,Pa,KE,O5)=>⟨([.ptr (.bF 0) 0 [] 0,cj,.d ti Bu,cj,.eG jk Gm]++ba 4 ([fa 9]++ba 44 ([.d (.slice cV) t54,.d ti t55,.d ti t56]++ba 28 []))),[eL (.pr (.dM (.bF 1) 0) (.pr (.cM (.bF 2) 0 [] 0 0 rk) oc)),eL (.mp cV jn BF),eL (.vec 134 eP rG)],(bC 9 ([dz (.pr (lq 45 Pa) (.d (.pair (.slice cV) .unit) KE))]++bC 35 ([dz (.vec 205 aC7 O5)]++bC 39 [])))⟩
abbrev zG:=(Nat×(List eT)×Nat×((List dC)×Unit)×(List agD))×((List (dC×gZ)))
def wT:zG->Exit×AS:=λ((a,b,c,e,f),g)=>(.exit 2,⟨([.ptr (.bF 0) 0 [] 0]++ba 8 ([fa 9]++ba 75 [])),[eL (.pr (.dM (.bF 1) 0) (.pr (.cM (.bF 2) 0 [] 0 0 a) oc)),eL (.mp cV jn g),eL (.vec 134 eP b)],(bC 9 ([dz (.pr (lq 45 c) (.d (.pair (.slice cV) .unit) e))]++bC 35 ([dz (.vec 205 aC7 f)]++bC 39 [])))⟩)
def JJ:zG->Out (Exit×AS):=λx=> .ok (wT x)
def mw:yr->((List (dC×gZ)))->zG:=λ(Bu,Gm,t54,t55,t56,rk,BF,rG,Pa,KE,O5) y=>((rk,rG,Pa,KE,O5),y)
abbrev JE:=fN×Int×Nat×(List (dC×gZ))×(List eT)
def Ry:JE->SA:=λ(t,height,o0baL,o1,o2)=>([.ptr (.bF 0) 0 [] 0,.d jk t,.d ti height],[eL (.pr (.dM (.bF 1) 0) (.pr (.cM (.bF 2) 0 [] 0 0 o0baL) oc)),eL (.mp cV jn o1),eL (.vec 134 eP o2)])
abbrev akM:=(Int×Nat×(List (dC×gZ))×(List eT))⊕(Int×Nat×(List (dC×gZ))×(List eT))
abbrev Zy:=(Int×Nat×(List (dC×gZ))×(List eT))⊕(Int×Nat×(List (dC×gZ))×(List eT))
def F0:Zy->iq:=λx=>match x with | .inl x=>⟨.d ti x.1,[eL (.pr (.dM (.bF 1) 0) (.pr (.cM (.bF 2) 0 [] 0 0 x.2.1) oc)),eL (.mp cV jn x.2.2.1),eL (.vec 134 eP x.2.2.2)],[]⟩ | .inr x=>⟨.d ti x.1,[eL (.pr (.dM (.bF 1) 0) (.pr (.cM (.bF 2) 1 [] 0 0 x.2.1) oc)),eL (.mp cV jn x.2.2.1),.obj 1 aV (.vec 134 eP x.2.2.2)],[]⟩
def xW:JE->akM->Zy:=λ(t,height,o0baL,o1,o2) y=>match y with | .inl y=> .inl y | .inr y=> .inr y
def GV(a:List (dC×gZ)):List dC->List agD
 |[]=> []
 |o::l=>(o,((cE cV o a).getD awM,()))::GV (lK cV o a) l
def Hw(h:Int):List dC->List jo->List (dC×gZ)->List (dC×gZ)
 |o::l,x::xs,a=>Hw h l xs (eM cV o (x,(h,())) a)
 |_,_,a=>a
def stepOf(t:fN)(a:List (dC×gZ)):eT:=(GV a (dJ t),(iK t,()))
def nS(t:fN)(h:Int)(a:List (dC×gZ)):List (dC×gZ):=Hw h (iK t) t.2.1 (JQ (dJ t) a)
def wQ:yq->Prop:=λ(_,_,l,n,i,_,_,_,gL,_,g)=>l.length<=1000/\∃k:Nat,k<=l.length/\i=k/\n=l.length/\gL=g.length/\g.length=k
def qE:yq->((List (dC×gZ))×Nat×(List agD)):=λ(_,_,l,_,i,_,a,_,gL,_,g)=>(JQ (l.drop i.toNat) a,gL+(l.drop i.toNat).length,g++GV a (l.drop i.toNat))
def wS:yr->Prop:=λ(_,t,l,n,i,_,_,_,_,_,_)=>l.length<=1000/\l.length=t.2.1.length/\(∀o∈t.2.1,aD4 o.2.1)/\∃k:Nat,k<=l.length/\i=k/\n=l.length
def qF:yr->((List (dC×gZ))):=λ(h,t,l,_,i,_,a,_,_,_,_)=>Hw h (l.drop i.toNat) (t.2.1.drop i.toNat) a
def MC:JE->Prop:=λ(t,_,n,a,s)=>A7 t/\ags a/\n<=s.length/\s.length<=1000000
def FZ:JE->akM:=λ(t,h,n,a,s)=>if(fy t h a).2≠0 then .inl ((fy t h a).2,n,a,s) else .inr (0,n+1,nS t h a,s.take n++ [stepOf t a])
def JF:qh:=pS (P:=Tryz.prog) [adh,af6,U7,akH]
def Ru:=eA.iB qY wQ mu qE JH
def GJ:yq->Option zF:=lg Ru qY
def Rw:=eA.iB qZ wS mw qF JJ
def GL:yr->Option zG:=lg Rw qZ
def Ee:zp:= {loops:=th [(6,{bz:=[0,2,4,9,28,29,30],sites:=[9,45],owns:=[⟨9,[.fst],45,132⟩]}),(12,{bz:=[0,2,4,9,54,55,56],sites:=[9,45]})],outs:=tg [(6,{bz:=[0,2,4,9],sites:=[9,45]},{bz:=[6]}),(12,{bz:=[0,9],sites:=[9,45]},{bz:=[6]})],iE:=uA [(6,Ru),(12,Rw)]}
def akK:= @QO Tryz.prog JF Ee 0 Tryz.f80 _ Ry
abbrev asl:=amj @akK MC xW FZ F0
def Rv:= @gw Tryz.prog JF Ee 0 Tryz.f80 0 _ qY
abbrev Ol:=qu Tryz.prog JF Ee 0 Tryz.f80 0 qY wQ mu qE JH
def Rx:= @gw Tryz.prog JF Ee 0 Tryz.f80 1 _ qZ
abbrev Om:=qu Tryz.prog JF Ee 0 Tryz.f80 1 qZ wS mw qF JJ
theorem Zw:nK GJ wQ mu qE:=tR (sy [.d ti,.d jk,.d (.slice cV),.d ti,.d ti,.n,.d (.slice (.pair cV jn)),.d (.slice eP),.n,.d (.pair (.slice cV) .unit),.d (.slice aC7)] λ_=>cW)
theorem JG:aq0 @Rv qY wQ mu qE wR Ol:=aBq
theorem GK(fo rC t28 t29 t30 o0L iC gq awX n9 n45)(kn:K2 R)(kx:K3 R):Rv (fo,rC,t28,t29,t30,o0L,iC,gq,awX,n9,n45) kn kx=aP (iG t30 t29) (aP (iO t30 (((ae t28):Nat):Int)) (aP (decide (awX<=(ae n45))) (aP (dI (awX+1) 80) (kn (qY (fo,rC,t28,t29,(bT .i64 t30 (1:Int)),o0L,(lK cV (nth cV t28 (ab t30)) iC),gq,(awX+1),n9,((bk awX n45)++ [((nth cV t28 (ab t30)),(((cE cV (nth cV t28 (ab t30)) iC).getD (((0:Int),((([]:List rI),()),())),((0:Int),()))),()))])))) aH) aH) aH) (kx (wR ((fo,rC,o0L,gq,n9),(iC,awX,n45))).1 (wR ((fo,rC,o0L,gq,n9),(iC,awX,n45))).2):=cW
theorem Zx:nK GL wS mw qF:=tR (sy [.d ti,.d jk,.d (.slice cV),.d ti,.d ti,.n,.d (.slice (.pair cV jn)),.d (.slice eP),.n,.d (.pair (.slice cV) .unit),.d (.slice aC7)] λ_=>cW)
theorem JI:aq0 @Rx qZ wS mw qF wT Om:=aBq
theorem GM(Bu Gm t54 t55 t56 rk BF rG Pa KE O5)(kn:K2 R)(kx:K3 R):Rx (Bu,Gm,t54,t55,t56,rk,BF,rG,Pa,KE,O5) kn kx=aP (iG t56 t55) (aP (iO t56 (((ae t54):Nat):Int)) (aP (iO t56 (((ae Gm.2.1):Nat):Int)) (ax (P1.call (nth nu Gm.2.1 (ab t56))) λx1=>kn (qZ (Bu,Gm,t54,t55,(bT .i64 t56 (1:Int)),rk,(eM cV (nth cV t54 (ab t56)) (x1,(Bu,())) BF),rG,Pa,KE,O5))) aH) aH) (kx (wT ((rk,rG,Pa,KE,O5),BF)).1 (wT ((rk,rG,Pa,KE,O5),BF)).2):=cW
theorem asm(t height o0baL o1 o2)(k:K1 R):akK (t,height,o0baL,o1,o2) k=ax (lY.call (t,height,o0baL,o1,o2)) λx1=>aP (DF x1.2.1 (0:Int)) (k (F0 (.inl (x1.2.1,x1.2.2.1,x1.2.2.2.1,x1.2.2.2.2)))) (ax (Dq.call t) λx2=>ax (qo.call t) λx3=>ax (GJ (height,t,x3,(((ae x3):Nat):Int),(0:Int),x1.2.2.1,x1.2.2.2.1,x1.2.2.2.2,0,(x2,()),([]:List agD))) λx4=>ax (GL (x4.1.1,x4.1.2.1,x4.1.2.2.2.2.1,(((ae x4.1.2.2.2.2.1):Nat):Int),(0:Int),x4.1.2.2.1,x4.2.1,x4.1.2.2.2.1,x4.2.2.1,x4.1.2.2.2.2,x4.2.2.2)) λx6=>aP (decide (0=0/\(0+x6.1.2.2.1)<=(ae x6.1.2.2.2.2))) (aP (decide (x6.1.1<=(ae x6.1.2.1))) (aP (dI (x6.1.1+1) 48) (k (F0 (.inr ((0:Int),(x6.1.1+1),x6.2,((bk x6.1.1 x6.1.2.1)++ [((cut x6.1.2.2.2.2 0 x6.1.2.2.1),x6.1.2.2.2.1)]))))) aH) aH) aH):=cW
theorem ada:Ol:=by
 refine JG (λ(_,_,l,_,i,_,_,_,_,_,_)=>l.length - i.toNat) ?_
 rintro⟨h,t,l,n,i,o,a,s,gL,u,g⟩ ⟨hl,k,hk,rfl,rfl,rfl,hg⟩;have hl:l.length<=1000:=hl;have hk:k<=l.length:=hk;have hg:g.length=k:=hg;by_cases iJ:k < l.length
 ·left;have n1:nth cV l k=l[k]:=db (t:=cV) iJ;have hd:l.drop k=l[k]::l.drop (k+1):=aA iJ;refine⟨(h,t,l,(l.length:Int),((k+1:Nat):Int),o,lK cV l[k] a,s,g.length+1,u,g++ [(l[k],((cE cV l[k] a).getD awM,()))]),⟨hl,k+1,aq,rfl,rfl,by simp,by simp[hg]⟩,by simp only[aa];omega,?_,λkn kx=> ?_⟩
  ·simp only[mu,qE,aa,hd,JQ,bJ,GV,aK,cC,aB];rw[show g.length+1+(l.drop (k+1)).length=g.length+((l.drop (k+1)).length+1) by omega]
  ·rw[GK,bh aq,aj,bB aq aq,aj,aM (aC _),aj,dN aq aq,aj,aa,n1,N.pV aq,bU];rfl
 ·right;obtain rfl:k=l.length:=aq;intro R kn kx;rw[GK,aW aq,ao];simp only[mu,qE,aa,bj,JQ,eB,GV,bo,bw,ct]
theorem adb:Om:=by
 refine JI (λ(_,_,l,_,i,_,_,_,_,_,_)=>l.length - i.toNat) ?_
 rintro⟨h,t,l,n,i,o,a,s,gL,u,g⟩ ⟨hl,he,hb,k,hk,rfl,rfl⟩;have hl:l.length<=1000:=hl;have he:l.length=t.2.1.length:=he;have hk:k<=l.length:=hk;by_cases iJ:k < l.length
 ·left;have aB8:k < t.2.1.length:=aq;have n1:nth cV l k=l[k]:=db (t:=cV) iJ;have n2:nth nu t.2.1 k=t.2.1[k]:=db (t:=nu) aB8;have hd:l.drop k=l[k]::l.drop (k+1):=aA iJ;have ax5:t.2.1.drop k=t.2.1[k]::t.2.1.drop (k+1):=aA aB8;refine⟨(h,t,l,(l.length:Int),((k+1:Nat):Int),o,eM cV l[k] (t.2.1[k],(h,())) a,s,gL,u,g),⟨hl,he,hb,k+1,aq,rfl,rfl⟩,by simp only[aa];omega,?_,λkn kx=> ?_⟩
  ·simp only[mw,qF,aa,hd,ax5,Hw]
  ·rw[GM,bh aq,aj,bB aq aq,aj,bB aq aq,aj,aa,n1,n2,ac6 (d:=t.2.1[k]) (hb _ (aZ aB8))];simp only[ag,bG,ahs];rw[N.pV aq]
 ·right;obtain rfl:k=l.length:=aq;intro R kn kx;rw[GM,aW aq,ao];simp only[mw,qF,aa,bj,Hw]
theorem W6{t:fN}{h:Int}{a:List (dC×gZ)}(e:(fy t h a).2=0):iF t=aO/\1<=h/\h<=1048576/\∃dL,wg h (tl t) a t.1 0= .inr dL/\(iK t).any (pc a)=aV/\0<=dL - kV t.2.1/\fy t h a=(dL - kV t.2.1,0):=by
 unfold fy at e ⊢;by_cases h0:iF t=aO/\1<=h/\h<=1048576
 ·rw[if_pos h0]at e;rw[if_pos h0];refine⟨h0.1,h0.2.1,h0.2.2,?_⟩;cases hi:wg h (tl t) a t.1 0 with
  |inl x=>
   exfalso;rw[hi]at e;simp only at e;subst e;have key:∀(l:List gU) (f:Int),wg h (tl t) a l f≠ .inl 0:=by
    intro l
    induction l with
    |nil=>intro f hf;cases hf
    |cons x l ih=>
     intro f hf;simp only[wg]at hf;cases hg:cE cV x.1 a with
     |none=>rw[hg]at hf;simp at hf
     |some c=>
      rw[hg]at hf;simp only at hf;split at hf
      ·rename_i gV;exact gV (by injection hf)
      ·exact ih _ hf
   exact key _ _ hi
  |inr dL=>
   rw[hi]at e;simp only at e ⊢;by_cases hm:(iK t).any (pc a)=aO
   ·rw[if_pos hm]at e;cases e
   ·rw[if_neg hm]at e;rw[if_neg hm];by_cases hf:dL - kV t.2.1 < 0
    ·rw[if_pos hf]at e;cases e
    ·rw[if_neg hf];exact⟨dL,rfl,by simpa using hm,aq,rfl⟩
 ·rw[if_neg h0]at e;cases e
theorem Se{t:fN}(h:iF t=aO):(dJ t).length=t.1.length:=by unfold dJ;rw[if_pos h,bg]
theorem asn:asl:=by
 rintro⟨t,h,n,a,s⟩ ⟨hv,ha,hn,hs⟩;have hv:A7 t:=hv;have ha:ags a:=ha;have hn:n<=s.length:=hn;have hs:s.length<=1000000:=hs;rw[asm,Xl (d:=(t,h,n,a,s)) ⟨hv,ha⟩];simp only[ag,bG,Zz,xW,FZ];by_cases he:(fy t h a).2=0
 ·rw[dX he,ao,if_neg (λe=>e he)];obtain⟨iS,_,_,_⟩:=W6 he;obtain⟨⟨_,a2,a3,_⟩,b1,b2⟩:=lQ iS;rw[YP (d:=t) hv];simp only[ag,bG,QM];rw[PT (d:=t) hv.1];simp only[ag,bG,Gp];rw[Zw (d:=(h,t,dJ t,((dJ t).length:Int),0,n,a,s,0,(iK t,()),[])) ⟨by rw[Se iS];omega,0,aS _,rfl,rfl,rfl,rfl⟩];simp only[ag,mu,qE,bO,aN,aT,aU];rw[Zx (d:=(h,t,iK t,((iK t).length:Int),0,n,JQ (dJ t) a,s,(dJ t).length,(iK t,()),GV a (dJ t))) ⟨by rw[tG iS];omega,tG iS,λo ho=>by
   have:=Su (mC _ _ b2 o ho).2;exact⟨aq,λb hb=>by have:=this.2 b hb;omega⟩,0,aS _,rfl,rfl⟩]
  simp only[ag,mw,qF,bO,aN];have aEK:∀(l:List dC) (a:List (dC×gZ)),(GV a l).length=l.length:=by
   intro l
   induction l with
   |nil=>intro a;rfl
   |cons o l ih=>intro a;simp[GV,ih]
  rw[aM (by rw[aEK];exact⟨trivial,aq⟩),aj,aM hn,aj,dN aq aq,aj,fA (aEK _ _)];rfl
 ·rw[fY he,aj,if_pos he]
def akL:=Entry.aix [aH,au jk,au ti] Ry MC xW FZ F0
def B8:JE->Option Zy:=W4 akL Ry
theorem ann:nK B8 MC xW FZ:=al6 (an7 [.d jk,.d ti,.n,.d (.slice (.pair cV jn)),.d (.slice eP)] λ_=>cW)
def aso:SG Tryz.prog:=⟨80,wI,akL,.of (.aFC (.fn 2 cW asn (And.intro (.iB ada cW) (And.intro (.iB adb cW) trivial)))) (by rfl)⟩
theorem avW(k:Int)(m:List Int):aBc (nG k m):=by
 unfold nG;split
 ·exact⟨(azW _).u,(akn _ _).u⟩
 ·exact⟨⟨dp 0,eR⟩,dp 0,eR⟩
theorem adB:∀(l l':List gU) (b:List Int),l.map (·.1)=l'.map (·.1)->l.foldl Qx b=l'.foldl Qx b
 |[],[],_,_=>rfl
 |[],_::_,_,h=>by cases h
 |_::_,[],_,h=>by cases h
 |x::l,y::l',b,h=>by
  rw[bn,bn,cD]at h;have e:Qx b x=Qx b y:=by unfold Qx;rw[h.1]
  rw[bJ,bJ,e,adB l l' _ h.2]
theorem aph{l l':List gU}(t:List jo×Int×Unit)(h:l.map (·.1)=l'.map (·.1)):wm (l,t)=wm (l',t):=by
 have hl:l.length=l'.length:=by have:=bK ae h;simpa using this
 unfold wm;simp only[hl];rw[adB l l' _ h]
theorem aea:∀(l l':List gU) (m:List (dC×Bool)),l.map (·.1)=l'.map (·.1)->By m l=aO->(∀x∈l',Dt x.2.1=aO)->By m l'=aO
 |[],[],_,_,_,_=>rfl
 |[],_::_,_,h,_,_=>by cases h
 |_::_,[],_,h,_,_=>by cases h
 |x::l,y::l',m,h,hi,hw=>by
  rw[bn,bn,cD]at h;rw[By,al,al]at hi ⊢;have hx:=hi.1.2;unfold MW at hx;rw[al]at hx;refine⟨⟨?_,?_⟩,?_⟩
  ·have:=hi.1.1;unfold GW at this ⊢;rw[<-h.1];exact this
  ·unfold MW;rw[<-h.1,hx.1,hw y aG];rfl
  ·rw[<-h.1];exact aea l l' _ h.2 hi.2 λz hz=>hw z (aD _ hz)
theorem awz{l l':List gU}{t:List jo×Int×Unit}(h:l.map (·.1)=l'.map (·.1))(iS:iF (l,t)=aO)(hw:∀x∈l',Dt x.2.1=aO):iF (l',t)=aO:=by
 have hl:l.length=l'.length:=by have:=bK ae h;simpa using this
 unfold iF NP at iS ⊢;rw[al,al]at iS ⊢;simp only[hl]at iS;exact⟨iS.1,aea l l' _ h iS.2.1 hw,iS.2.2⟩
theorem amd{l l':List gU}{t:List jo×Int×Unit}(h:l.map (·.1)=l'.map (·.1))(h1:iF (l,t)=aO)(h2:iF (l',t)=aO):tl (l',t)=tl (l,t):=by unfold tl;rw[h1,h2,aph t h]
theorem ajK{l l':List gU}{t:List jo×Int×Unit}(h:l.map (·.1)=l'.map (·.1))(h1:iF (l,t)=aO)(h2:iF (l',t)=aO):dJ (l',t)=dJ (l,t):=by unfold dJ;rw[h1,h2];exact h.symm
theorem at2{l l':List gU}{t:List jo×Int×Unit}(h:l.map (·.1)=l'.map (·.1))(h1:iF (l,t)=aO)(h2:iF (l',t)=aO):iK (l',t)=iK (l,t):=by unfold iK;rw[h1,h2,amd h h1 h2]
def DB(t:fN)(k:Nat)(w:QQ):fN:=(t.1.set k ((nth gB t.1 k).1,w,()),t.2)
theorem Fk(l:List gU)(k:Nat)(w:QQ)(h:k < l.length):l.map (·.1)=(l.set k ((nth gB l k).1,w,())).map (·.1):=by
 have n1:nth gB l k=l[k]:=db (t:=gB) h;rw[n1,List.map_set];have e:(l[k].1:dC)=(l.map (·.1))[k]'(by rw[bg];exact h):=by rw[List.getElem_map]
 show _=(l.map (·.1)).set k l[k].1;rw[e,fJ]
theorem afJ{l:List gU}{k:Nat}{w:QQ}{x:gU}(h:k < l.length)(hx:x∈l.set k ((nth gB l k).1,w,())):x∈l\/(x.1=l[k].1/\x.2.1=w):=by
 have n1:nth gB l k=l[k]:=db (t:=gB) h;rw[n1]at hx;rcases List.mem_or_eq_of_mem_set hx with h1 | h1
 ·exact .inl h1
 ·exact .inr ⟨by rw[h1],by rw[h1]⟩
theorem QK{t:fN}{k:Nat}{w:QQ}(h:k < t.1.length)(iS:iF t=aO)(hw:Dt w=aO):iF (DB t k w)=aO:=by
 obtain⟨_,b1,_⟩:=lQ iS;refine awz (l:=t.1) (Fk t.1 k w h) iS λx hx=> ?_
 rcases afJ h hx with h1 | h1
 ·have:=om _ _ b1 x h1;unfold MW at this;rw[al]at this;exact this.2
 ·rw[h1.2];exact hw
theorem aCW{t:fN}{k:Nat}{w:QQ}(h:k < t.1.length)(hv:A7 t)(hu:Vm w)(hl:w.2.1.length<=9223372036854775807):A7 (DB t k w):=by
 refine⟨⟨hv.1.1,by show(t.1.set k _).length<=_;rw[kc];exact hv.1.2.1,hv.1.2.2⟩,λx hx=> ?_,hv.2.2⟩;rcases afJ h hx with h1 | h1
 ·exact hv.2.1 x h1
 ·refine⟨?_,by rw[h1.2];exact hu,by rw[h1.2];exact hl⟩;rw[h1.1];exact(hv.2.1 _ (aZ h)).1
theorem azH{t:fN}{k:Nat}{w:QQ}(h:k < t.1.length)(iS:iF t=aO)(hw:Dt w=aO):tl (DB t k w)=tl t/\dJ (DB t k w)=dJ t/\iK (DB t k w)=iK t:=⟨amd (l:=t.1) (Fk t.1 k w h) iS (QK h iS hw),ajK (l:=t.1) (Fk t.1 k w h) iS (QK h iS hw),at2 (l:=t.1) (Fk t.1 k w h) iS (QK h iS hw)⟩
theorem afI(t:fN)(k:Nat)(w:QQ):(DB t k w).1.length=t.1.length:=kc
def DC(t:fN)(br:Int)(ks:List Int)(sc:Int):QQ:=(br,ks.map (λk=>nG k (tl t)),sc,())
theorem Us(t:fN)(i br:Int)(ks:List Int)(sc:Int):vQ t i br ks sc=if tV t i br ks then(DB t i.toNat (DC t br ks sc),0) else(([],[],0,()),1):=rfl
theorem afN{t:fN}{i br:Int}{ks:List Int}(h:tV t i br ks=aO):iF t=aO/\(0<=i/\i < t.1.length/\0<=br/\br < 4/\ks.length<=12)/\∀k∈ks,k < 2305843009213688669/\k≠0:=by unfold tV at h;simp only[al,aR,bP]at h;refine⟨h.1,h.2.1,λk hk=> ?_⟩;have:=h.2.2;rw[fg]at this;have:=this k hk;unfold zq at this;simpa using this
theorem azK{t:fN}{i br:Int}{ks:List Int}(sc:Int)(h:tV t i br ks=aO):Dt (DC t br ks sc)=aO:=by have e:=(afN h).2.1;unfold Dt DC;rw[aM ⟨e.2.2.1,e.2.2.2.1⟩,aM (by rw[bg];exact e.2.2.2.2)];rfl
theorem aCZ(t:fN)(br:Int)(ks:List Int){sc:Int}(h:mm sc):Vm (DC t br ks sc):=⟨λs hs=>by
  obtain⟨k,_,rfl⟩:=cr.1 (show s∈ks.map λk=>nG k (tl t) from hs);exact avW k _,h⟩
theorem afO{t:fN}{i br sc:Int}{ks:List Int}(hv:A7 t)(h:tV t i br ks=aO)(hs:mm sc):
  iF (DB t i.toNat (DC t br ks sc))=aO/\A7 (DB t i.toNat (DC t br ks sc))/\tl (DB t i.toNat (DC t br ks sc))=tl t/\dJ (DB t i.toNat (DC t br ks sc))=dJ t/\iK (DB t i.toNat (DC t br ks sc))=iK t:=by
 obtain⟨iS,e,_⟩:=afN h;have hk:i.toNat < t.1.length:=aq;have hw:=azK sc h;exact⟨QK hk iS hw,aCW hk hv (aCZ t br ks hs) (by show(ks.map _).length<=_;rw[bg];omega),azH hk iS hw⟩
end Go.Ab
end
