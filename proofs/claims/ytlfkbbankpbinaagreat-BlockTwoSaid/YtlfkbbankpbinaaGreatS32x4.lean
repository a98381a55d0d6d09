/-
  Made short by a program of mine (wip/tools/mini.py).
-/
import Derived.Test.YtlfkbbankpbinaaGreatS32x3
import Derived.Test.YtlfkbbankpbinaaGreatProg
import Derived.Shelf.SlSortCmp.NoneTotal
set_option linter.unusedVariables false
set_option linter.unusedSimpArgs false
set_option maxRecDepth 100000
set_option synthInstance.maxSize 5000
open List renaming replicate->ai,set->gB,length->ag,take->bj,drop->bT
open Go renaming FuncId->fR,Program->aN,World->bU
open BitVec renaming ofInt->bh
open UInt8 renaming ofNat->fy
open Go.World renaming cell?->eP
open Int renaming toNat->ab
open Or renaming inr->fv,inl->lr
open Option renaming some->al,none->aJ
open Bool renaming true->aT,false->aR
noncomputable section
variable {R:Type}
namespace Go.Ab
open Go.Proofs
def RW:Bs->Prop:=λb=>4<=b.length
def ac8:Bs->Int:=λb=>vw (aGP (b.getD 0 0) (b.getD 1 0) (b.getD 2 0) (b.getD 3 0))
def binary:Fs Tryz.prog RW bF ac8:=gg 165 Tryz.f165 (λb=>([.d tB b],[])) (λx=>⟨.d (.int .u32) x,[],[]⟩) [al tB]
theorem ani(b)(k:K1 R):binary.A b k=aS (gU 0 (b.length:Int)) (aS (gU 1 (b.length:Int)) (aS (gU 2 (b.length:Int)) (aS (gU 3 (b.length:Int)) (k (binary.out (eh .or .u32 (eh .or .u32 (eh .or .u32 (nQ .u32 (eD .u32 (nth tb b 0)) 24) (nQ .u32 (eD .u32 (nth tb b 1)) 16)) (nQ .u32 (eD .u32 (nth tb b 2)) 8)) (eD .u32 (nth tb b 3))))) aJ) aJ) aJ) aJ:=cT
theorem anj:binary.Ok:=by intro b h;have h:4<=b.length:=h;rw[ani,bz au au,bz au au,bz au au,bz au au];simp only[ak,azq,aeU,Gi];rfl
theorem ahB:binary.RS:=rE [.d tB] binary
def ank:=binary.gm anj
def rl(w:W)(k:Nat):W:=w <<< k ||| w >>> (32 - k)
def Vd:(Int×Int)->Prop:=λ(x,k)=>0<=x/\x < 4294967296
def awP:(Int×Int)->Int:=λ(x,k)=>vw (rl (bh 32 x) (k%32).toNat)
def oT:Fs Tryz.prog Vd bF awP:=gg 152 Tryz.f152 (λ(x,kv)=>([.d (.int .u32) x,.d ti kv],[])) (λx=>⟨.d (.int .u32) x,[],[]⟩) [al (.int .u32),al ti]
theorem aqA(x kv)(k:K1 R):oT.A (x,kv) k=aS (rr (eh .and .u64 (eD .u64 kv) 31)) (aS (rr (dM .u64 32 (eh .and .u64 (eD .u64 kv) 31))) (k (oT.out (eh .or .u32 (nQ .u32 x (eh .and .u64 (eD .u64 kv) 31)) (cV .u32 x (dM .u64 32 (eh .and .u64 (eD .u64 kv) 31)))))) aJ) aJ:=cT
theorem aEX(k:Int):eh .and .u64 (eD .u64 k) 31=k%32:=by have e:(31:Int)=vw (31:BitVec 64):=rfl;rw[alI,e,anl];simp only;have:(31:BitVec 64)=BitVec.ofNat 64 (2^5 - 1):=rfl;unfold vw;rw[BitVec.toNat_and,qS,show(31:BitVec 64).toNat=2^5 - 1 from rfl,Nat.and_two_pow_sub_one_eq_mod];omega
theorem aqB:oT.Ok:=by
 rintro⟨x,k⟩ ⟨h1,h2⟩;have e1:dM .u64 32 (k%32)=32 - k%32:=by unfold dM;rw[wrap_u64,l5];omega
 have hx:x=vw (bh 32 x):=by rw[l5];omega
 rw[aqA,aEX,e1,vG au,vG au];simp only[ak];have e2:eh .or .u32 (nQ .u32 x (k%32)) (cV .u32 x (32 - k%32))=vw (rl (bh 32 x) (k%32).toNat):=by
  conv=>lhs;rw[hx]
  rw[aeU,Tm,Gi];simp only[rl];congr 3;omega
 rw[e2];rfl
theorem ajZ:oT.RS:=rE [.d (.int .u32),.d ti] oT
def Y2:=oT.gm aqB
theorem Y1(w:W)(k:Int):oT.call (vw w,k)=al (vw (rl w (k%32).toNat)):=by have h:Vd (vw w,k):=⟨Zn w,by have:=aBY w;simpa using this⟩;rw[ajZ h];show al (vw (rl (bh 32 (vw w)) (k%32).toNat))=_;rw[vH]
def aqZ:Unit->Prop:=λ_=>True
def amL:Unit->(List Int):=λ_=>aeX
def table:Fs Tryz.prog aqZ bF amL:=gg 151 Tryz.f151 (λ_=>([],[])) (λx=>⟨.d (.arr 64 (.int .u32)) x,[],[]⟩) []
theorem axb(d)(k:K1 R):table.A d k=k (table.out [1116352408,1899447441,3049323471,3921009573,961987163,1508970993,2453635748,2870763221,3624381080,310598401,607225278,1426881987,1925078388,2162078206,2614888103,3248222580,3835390401,4022224774,264347078,604807628,770255983,1249150122,1555081692,1996064986,2554220882,2821834349,2952996808,3210313671,3336571891,3584528711,113926993,338241895,666307205,773529912,1294757372,1396182291,1695183700,1986661051,2177026350,2456956037,2730485921,2820302411,3259730800,3345764771,3516065817,3600352804,4094571909,275423344,430227734,506948616,659060556,883997877,958139571,1322822218,1537002063,1747873779,1955562222,2024104815,2227730452,2361852424,2428436474,2756734187,3204031479,3329325298]):=cT
theorem axc:table.Ok:=by intro d _;rw[axb];rfl
theorem aq0:table.RS:=rE [] table
def axd:=table.gm axc
def aoq:Unit->Prop:=λ_=>True
def alx:Unit->(List Int):=λ_=>za.l
def first:Fs Tryz.prog aoq bF alx:=gg 124 Tryz.f124 (λ_=>([],[])) (λx=>⟨.d (.arr 8 (.int .u32)) x,[],[]⟩) []
theorem atN(d)(k:K1 R):first.A d k=k (first.out [1779033703,3144134277,1013904242,2773480762,1359893119,2600822924,528734635,1541459225]):=cT
theorem atO:first.Ok:=by intro d _;rw[atN];rfl
theorem aor:first.RS:=rE [] first
def atP:=first.gm atO
abbrev H2:=Bs×Int×(List Int)
def wl(l:List W):List Int:=l.map vw
def Eo(l:List W):List Int:=wl l++ai (64 - l.length) 0
def DG(b:List Int)(k:Nat):List W:=if k<=16 then(words b).take k else aGB (words b) (k - 16)
def DX:H2->Prop:=λ(b,t8,n2)=>64<=b.length/\∃k:Nat,k<=64/\t8=k/\n2=Eo (DG b k)
def By:H2->(List Int):=λ(b,t8,n2)=>wl (sched b)
def My:Bs->Prop:=λb=>64<=b.length
def JA:Bs->(List Int):=λb=>wl (sched b)
def jO:Ls DX bF By:=xM (λ(nZ,t8,n2)=>⟨([.d tB nZ,cw,fI 2]++bg 5 ([.d ti t8]++bg 52 [])),[],([[],[],dK (.d (.arr 64 (.int .u32)) n2)]++bK 58 [])⟩) (λx=>(.exit 0,⟨([cw,cw,fI 2]++bg 58 []),[],([[],[],dK (.d (.arr 64 (.int .u32)) x)]++bK 58 [])⟩))
def schedule:Fs Tryz.prog My bF JA:=gg 150 Tryz.f150 (λb=>([.d tB b],[])) (λx=>⟨.d (.arr 64 (.int .u32)) x,[],[]⟩) [al tB] [ank,Y2] {loops:=sk [(2,{bu:=[0,2,8],sites:=[2]})],outs:=sj [(2,{bu:=[2],sites:=[2]},{bu:=[2]})],gV:=tK [(2,jO.E)]}
theorem Q8:jO.RS:=rL [.d tB,.d ti,.d (.slice (.int .u32))] jO
theorem Co(nZ t8 n2)(kn:K2 R)(kx:K3 R):schedule.R 0 jO (nZ,t8,n2) kn kx=aS (iE t8 64) (aS (iE t8 16) (aS (inc (je .i64 4 t8) (nZ.length:Int)) (aq (binary.call (cut nZ (ab (je .i64 4 t8)) ((ag nZ) - (ab (je .i64 4 t8))))) λx1=>aS (gU t8 64) (aS (decide ((ab t8) < (ag n2))) (aS (decide ((((ab t8)*1)+0)=(0+((ab t8)*1)))) (aS (decide ((ab t8) < (ag n2))) (kn (jO.st (nZ,(bV .i64 t8 1),(gB n2 (ab t8) x1)))) aJ) aJ) aJ) aJ) aJ) (aS (gU (dM .i64 t8 15) 64) (aS (decide ((ab (dM .i64 t8 15)) < (ag n2))) (aS (decide ((((ab (dM .i64 t8 15))*1)+0)=(0+((ab (dM .i64 t8 15))*1)))) (aS (gU (dM .i64 t8 2) 64) (aS (decide ((ab (dM .i64 t8 2)) < (ag n2))) (aS (decide ((((ab (dM .i64 t8 2))*1)+0)=(0+((ab (dM .i64 t8 2))*1)))) (aq (oT.call ((nth (.int .u32) n2 (ab (dM .i64 t8 15))),(-7))) λx2=>aq (oT.call ((nth (.int .u32) n2 (ab (dM .i64 t8 15))),(-18))) λx3=>aq (oT.call ((nth (.int .u32) n2 (ab (dM .i64 t8 2))),(-17))) λx4=>aq (oT.call ((nth (.int .u32) n2 (ab (dM .i64 t8 2))),(-19))) λx5=>aS (gU (dM .i64 t8 16) 64) (aS (decide ((ab (dM .i64 t8 16)) < (ag n2))) (aS (decide ((((ab (dM .i64 t8 16))*1)+0)=(0+((ab (dM .i64 t8 16))*1)))) (aS (gU (dM .i64 t8 7) 64) (aS (decide ((ab (dM .i64 t8 7)) < (ag n2))) (aS (decide ((((ab (dM .i64 t8 7))*1)+0)=(0+((ab (dM .i64 t8 7))*1)))) (aS (gU t8 64) (aS (decide ((ab t8) < (ag n2))) (aS (decide ((((ab t8)*1)+0)=(0+((ab t8)*1)))) (aS (decide ((ab t8) < (ag n2))) (kn (jO.st (nZ,(bV .i64 t8 1),(gB n2 (ab t8) (bV .u32 (bV .u32 (bV .u32 (nth (.int .u32) n2 (ab (dM .i64 t8 16))) (eh .xor .u32 (eh .xor .u32 x2 x3) (cV .u32 (nth (.int .u32) n2 (ab (dM .i64 t8 15))) 3))) (nth (.int .u32) n2 (ab (dM .i64 t8 7)))) (eh .xor .u32 (eh .xor .u32 x4 x5) (cV .u32 (nth (.int .u32) n2 (ab (dM .i64 t8 2))) 10))))))) aJ) aJ) aJ) aJ) aJ) aJ) aJ) aJ) aJ) aJ) aJ) aJ) aJ) aJ) aJ) aJ)) (jO.go kx n2):=cT
theorem agn(b)(k:K1 R):schedule.A b k=aq (jO.call (b,0,(ai 64 0))) λx6=>k (schedule.out x6):=cT
theorem ag8(b:List Int)(k:Nat)(h:k<=64):(DG b k).length=k:=by
 unfold DG;split
 ·simp[tF];omega
 ·rw[JS,tF];omega
theorem aA6(b:List Int):DG b 64=sched b:=rfl
theorem ars(b:List Int)(k:Nat)(h:k < 16):DG b (k+1)=DG b k++ [be b k]:=by unfold DG;rw[if_pos au,if_pos au,List.take_succ_eq_append_getElem (by rw[tF];exact h)];simp[words]
theorem axI(b:List Int)(k:Nat)(h:16<=k):DG b (k+1)=ext (DG b k):=by
 unfold DG;rw[if_neg au];by_cases aHK:k=16
 ·subst aHK;rw[if_pos au,bC (by rw[tF];omega)];rfl
 ·rw[if_neg au,show k+1 - 16=(k - 16)+1 by omega];rfl
theorem ZB(l:List W)(h:l.length<=64):(Eo l).length=64:=by simp[Eo,wl];omega
theorem Gh(l:List W)(i:Nat)(h:i < l.length):nth (.int .u32) (Eo l) i=vw (l.getD i 0):=by unfold nth Eo wl;rw[aI,fB (by simpa using h)];simp[h]
theorem XC(l:List W)(w:W)(h:l.length < 64):(Eo l).set l.length (vw w)=Eo (l++ [w]):=by unfold Eo wl;rw[List.set_append_right _ _ (by simp)];simp only[cF,Nat.sub_self,List.map_append,aj,aH,bB];rw[show 64 - l.length=(64 - (l.length+(0+1)))+1 by omega,List.replicate_succ,List.set_cons_zero];simp
theorem ahr(l:List W)(h:l.length=64):Eo l=wl l:=by simp[Eo,h]
theorem aCd(b:List Int)(k:Nat)(h:4*k+4<=b.length):aGP ((cut b (4*k) (b.length - 4*k)).getD 0 0) ((cut b (4*k) (b.length - 4*k)).getD 1 0) ((cut b (4*k) (b.length - 4*k)).getD 2 0) ((cut b (4*k) (b.length - 4*k)).getD 3 0)=be b k:=by
 have e:∀j,j < 4->(cut b (4*k) (b.length - 4*k)).getD j 0=b.getD (4*k+j) 0:=λj hj=>by unfold cut;rw[aI,aI,List.getElem?_take_of_lt au,fD]
 unfold be;rw[e 0 au,e 1 au,e 2 au,e 3 au,cW]
theorem Vm:(schedule.mw 0 jO):=by
 refine(schedule.qz 0 jO) (λ(b,t8,n2)=>64 - t8.toNat) ?_
 rintro⟨b,t8,n2⟩ ⟨hb,k,hk,rfl,rfl⟩;have aEG:=ag8 b k hk;have at3:=ZB (DG b k) au;by_cases h:k < 64
 ·left;refine⟨(b,((k+1:Nat):Int),Eo (DG b (k+1))),⟨hb,k+1,au,rfl,rfl⟩,by simp;omega,rfl,λkn kx=> ?_⟩;have e1:bV .i64 (k:Int) 1=((k+1:Nat):Int):=by rw[hZ au au];omega
  have e2:ab (k:Int)=k:=au;rw[Co,bm au];simp only[ak,e1,e2,at3,jE,ba,cW,cR];by_cases aHK:k < 16
  ·have e3:je .i64 4 (k:Int)=((4*k:Nat):Int):=by rw[Lc au au];omega
   have e4:ab ((4*k:Nat):Int)=4*k:=au;rw[bm au,e3,qp au au,e4,bz au au,bf h];have hp:RW (cut b (4*k) (b.length - 4*k)):=by show 4<=_;rw[CP au];omega
   simp only[ak,ahB hp,ae];have e5:bF (cut b (4*k) (b.length - 4*k)) (ac8 (cut b (4*k) (b.length - 4*k)))=vw (be b k):=by show vw (aGP _ _ _ _)=_;rw[aCd b k au]
   have e6:=XC (DG b k) (be b k) au;rw[aEG]at e6;rw[e5,e6,ars b k aHK]
  ·have a15:ab (dM .i64 (k:Int) 15)=k - 15:=by rw[gE au au];omega
   have a2:ab (dM .i64 (k:Int) 2)=k - 2:=by rw[gE au au];omega
   have a16:ab (dM .i64 (k:Int) 16)=k - 16:=by rw[gE au au];omega
   have a7:ab (dM .i64 (k:Int) 7)=k - 7:=by rw[gE au au];omega
   have i15:gU (dM .i64 (k:Int) 15) 64=aT:=bz (by rw[gE au au];omega) (by rw[gE au au];omega);have i2:gU (dM .i64 (k:Int) 2) 64=aT:=bz (by rw[gE au au];omega) (by rw[gE au au];omega);have i16:gU (dM .i64 (k:Int) 16) 64=aT:=bz (by rw[gE au au];omega) (by rw[gE au au];omega);have i7:gU (dM .i64 (k:Int) 7) 64=aT:=bz (by rw[gE au au];omega) (by rw[gE au au];omega);have i0:gU (k:Int) 64=aT:=bz au au;have d15:decide (k - 15 < 64)=aT:=bf au;have d2:decide (k - 2 < 64)=aT:=bf au;have d16:decide (k - 16 < 64)=aT:=bf au;have d7:decide (k - 7 < 64)=aT:=bf au;have d0:decide (k < 64)=aT:=bf h;rw[bn au];simp only[ak,ao,a15,a2,a16,a7,i15,i2,i16,i7,i0,d15,d2,d16,d7,d0,Gh (DG b k) (k - 15) au,Gh (DG b k) (k - 2) au,Gh (DG b k) (k - 16) au,Gh (DG b k) (k - 7) au,Y1,ae,Gi,Tm,S6];have e6:=XC (DG b k) (aBO (DG b k) k) au;rw[aEG]at e6;rw[axI b k au,ext,aEG,<-e6];rfl
 ·right;obtain rfl:k=64:=au;intro R kn kx;rw[Co,bn au,ahr _ aEG,aA6];simp only[ao,bF,By]
theorem ago:schedule.Ok:=by intro b hb;have hp:DX (b,0,ai 64 0):=⟨hb,0,au,rfl,rfl⟩;rw[agn,Q8 hp];simp only[ae,bF,By,bF,JA]
theorem abU:schedule.RS:=rE [.d tB] schedule
def agp:=schedule.gm ago 1 ⟨.gQ Vm,trivial⟩
abbrev TH:=(List Int)×Int×(List Int)×(List Int)×(List Int)×(List Int)
def Jd:TH->(List Int)->(((List Int)×(List Int))×((List Int))):=λ(aCO,t18,n4,n5,n6,n7) y=>((aCO,n4),y)
abbrev TK:=(List Int)×Int×(List Int)×(List Int)
def Da:TK->(List Int)->(((List Int))×((List Int))):=λ(aEs,t104,zm,WK) y=>(zm,y)
def aq9(l:List Int):St:=⟨bh 32 (l.getD 0 0),bh 32 (l.getD 1 0),bh 32 (l.getD 2 0),bh 32 (l.getD 3 0),bh 32 (l.getD 4 0),bh 32 (l.getD 5 0),bh 32 (l.getD 6 0),bh 32 (l.getD 7 0)⟩
theorem zK(s:St):aq9 s.l=s:=by obtain⟨a,b,c,d,e,f,g,h⟩:=s;simp[aq9,St.l,vH]
def aEa(l:List Int):List W:=l.map (bh 32)
theorem amQ(l:List W):aEa (wl l)=l:=by
 unfold aEa wl;rw[List.map_map];have:(bh 32∘vw)=(id:W->W):=by funext w;exact vH w
 rw[this,List.map_id]
def TJ:TH->Prop:=λ(h,t,n4,n5,n6,n7)=>∃(s:St) (ws:List W) (k:Nat),h=s.l/\n5=wl ws/\ws.length=64/\k<=64/\t=k/\n6=aeX/\n7=(rounds ws s k).l
def TI:TH->(List Int):=λ(h,t,n4,n5,n6,n7)=>(rounds (aEa n5) (aq9 h) 64).l
def TL:TK->Prop:=λ(h,t,n4,n7)=>n7.length=8/\∃k:Nat,k<=8/\t=k
def Lv:TK->(List Int):=λ(h,t,n4,n7)=>from_ (λi x=>bV .u32 x (nth (.int .u32) h i)) t.toNat n7
def aa8:((List Int)×Bs)->Prop:=λ(h,b)=>(∃s:St,h=s.l)/\64<=b.length
def al0:((List Int)×Bs)->(List Int):=λ(h,b)=>(apm (aq9 h) b).l
def Bc:Ls TJ Jd TI:=xM (λ(aCO,t18,n4,n5,n6,n7)=>⟨([cw,cw,.eN (.arr 8 (.int .u32)) aCO,cw,fI 4,fI 5,fI 6,fI 7]++bg 10 ([.d ti t18]++bg 98 [])),[],(bK 4 ([dK (.d (.arr 8 (.int .u32)) n4),dK (.d (.arr 64 (.int .u32)) n5),dK (.d (.arr 64 (.int .u32)) n6),dK (.d (.arr 8 (.int .u32)) n7)]++bK 109 []))⟩) (λx=>(.exit 0,⟨([cw,cw,.eN (.arr 8 (.int .u32)) x.1.1,cw,fI 4,cw,cw,fI 7]++bg 109 []),[],(bK 4 ([dK (.d (.arr 8 (.int .u32)) x.1.2),[],[],dK (.d (.arr 8 (.int .u32)) x.2)]++bK 109 []))⟩))
def C9:Ls TL Da Lv:=xM (λ(aEs,t104,zm,WK)=>⟨([cw,cw,.eN (.arr 8 (.int .u32)) aEs,cw,fI 4,cw,cw,fI 7]++bg 96 ([.d ti t104]++bg 12 [])),[],(bK 4 ([dK (.d (.arr 8 (.int .u32)) zm),[],[],dK (.d (.arr 8 (.int .u32)) WK)]++bK 109 []))⟩) (λx=>(.exit 2,⟨(bg 4 ([fI 4,cw,cw,fI 7]++bg 109 [])),[],(bK 4 ([dK (.d (.arr 8 (.int .u32)) x.1),[],[],dK (.d (.arr 8 (.int .u32)) x.2)]++bK 109 []))⟩))
def mix:Fs Tryz.prog aa8 bF al0:=gg 125 Tryz.f125 (λ(h,b)=>([.d (.arr 8 (.int .u32)) h,.d tB b],[])) (λx=>⟨.d (.arr 8 (.int .u32)) x,[],[]⟩) [al (.arr 8 (.int .u32)),al tB] [agp,axd,Y2] {loops:=sk [(4,{bu:=[2,4,5,6,7,18],sites:=[4,5,6,7]}),(13,{bu:=[2,4,7,104],sites:=[4,7]})],outs:=sj [(4,{bu:=[2,4,7],sites:=[4,7]},{bu:=[4]}),(13,{bu:=[4,7],sites:=[4,7]},{bu:=[4]})],gV:=tK [(4,Bc.E),(13,C9.E)]}
theorem ai2:Bc.RS:=rL [.d (.arr 8 (.int .u32)),.d ti,.d (.slice (.int .u32)),.d (.slice (.int .u32)),.d (.slice (.int .u32)),.d (.slice (.int .u32))] Bc
theorem PM(aCO t18 n4 n5 n6 n7)(kn:K2 R)(kx:K3 R):mix.R 0 Bc (aCO,t18,n4,n5,n6,n7) kn kx=aS (iE t18 64) (aS (decide (4 < (ag n7))) (aq (oT.call ((nth (.int .u32) n7 4),(-6))) λx1=>aS (decide (4 < (ag n7))) (aq (oT.call ((nth (.int .u32) n7 4),(-11))) λx2=>aS (decide (4 < (ag n7))) (aq (oT.call ((nth (.int .u32) n7 4),(-25))) λx3=>aS (decide (7 < (ag n7))) (aS (decide (6 < (ag n7))) (aS (decide (4 < (ag n7))) (aS (decide (5 < (ag n7))) (aS (decide (6 < (ag n7))) (aS (gU t18 64) (aS (decide ((ab t18) < (ag n6))) (aS (decide ((((ab t18)*1)+0)=(0+((ab t18)*1)))) (aS (gU t18 64) (aS (decide ((ab t18) < (ag n5))) (aS (decide ((((ab t18)*1)+0)=(0+((ab t18)*1)))) (aS (decide (0 < (ag n7))) (aq (oT.call ((nth (.int .u32) n7 0),(-2))) λx4=>aS (decide (0 < (ag n7))) (aq (oT.call ((nth (.int .u32) n7 0),(-13))) λx5=>aS (decide (0 < (ag n7))) (aq (oT.call ((nth (.int .u32) n7 0),(-22))) λx6=>aS (decide (0 < (ag n7))) (aS (decide (1 < (ag n7))) (aS (decide (2 < (ag n7))) (aS (decide (0 < (ag n7))) (aS (decide (1 < (ag n7))) (aS (decide (0 < (ag n7))) (aS (decide (1 < (ag n7))) (aS (decide (2 < (ag n7))) (aS (decide (3 < (ag n7))) (aS (decide (4 < (ag n7))) (aS (decide (5 < (ag n7))) (aS (decide (6 < (ag n7))) (kn (Bc.st (aCO,(bV .i64 t18 1),n4,n5,n6,[(bV .u32 (bV .u32 (bV .u32 (bV .u32 (bV .u32 (bV .u32 (nth (.int .u32) n7 7) (eh .xor .u32 (eh .xor .u32 x1 x2) x3)) (eh .xor .u32 (nth (.int .u32) n7 6) (eh .and .u32 (nth (.int .u32) n7 4) (eh .xor .u32 (nth (.int .u32) n7 5) (nth (.int .u32) n7 6))))) (nth (.int .u32) n6 (ab t18))) (nth (.int .u32) n5 (ab t18))) (eh .xor .u32 (eh .xor .u32 x4 x5) x6)) (eh .or .u32 (eh .and .u32 (nth (.int .u32) n7 0) (nth (.int .u32) n7 1)) (eh .and .u32 (nth (.int .u32) n7 2) (eh .or .u32 (nth (.int .u32) n7 0) (nth (.int .u32) n7 1))))),(nth (.int .u32) n7 0),(nth (.int .u32) n7 1),(nth (.int .u32) n7 2),(bV .u32 (nth (.int .u32) n7 3) (bV .u32 (bV .u32 (bV .u32 (bV .u32 (nth (.int .u32) n7 7) (eh .xor .u32 (eh .xor .u32 x1 x2) x3)) (eh .xor .u32 (nth (.int .u32) n7 6) (eh .and .u32 (nth (.int .u32) n7 4) (eh .xor .u32 (nth (.int .u32) n7 5) (nth (.int .u32) n7 6))))) (nth (.int .u32) n6 (ab t18))) (nth (.int .u32) n5 (ab t18)))),(nth (.int .u32) n7 4),(nth (.int .u32) n7 5),(nth (.int .u32) n7 6)]))) aJ) aJ) aJ) aJ) aJ) aJ) aJ) aJ) aJ) aJ) aJ) aJ) aJ) aJ) aJ) aJ) aJ) aJ) aJ) aJ) aJ) aJ) aJ) aJ) aJ) aJ) aJ) aJ) aJ) (Bc.go kx ((aCO,n4),n7)):=cT
theorem ai3:C9.RS:=rL [.d (.arr 8 (.int .u32)),.d ti,.d (.slice (.int .u32)),.d (.slice (.int .u32))] C9
theorem PN(aEs t104 zm WK)(kn:K2 R)(kx:K3 R):mix.R 1 C9 (aEs,t104,zm,WK) kn kx=aS (iE t104 8) (aS (gU t104 8) (aS (decide ((ab t104) < (ag WK))) (aS (decide ((((ab t104)*1)+0)=(0+((ab t104)*1)))) (aS (gU t104 8) (aS (gU t104 8) (aS (decide ((ab t104) < (ag WK))) (aS (decide ((((ab t104)*1)+0)=(0+((ab t104)*1)))) (aS (decide ((ab t104) < (ag WK))) (kn (C9.st (aEs,(bV .i64 t104 1),zm,(gB WK (ab t104) (bV .u32 (nth (.int .u32) WK (ab t104)) (nth (.int .u32) aEs (ab t104))))))) aJ) aJ) aJ) aJ) aJ) aJ) aJ) aJ) (C9.go kx (zm,WK)):=cT
theorem aDs(h b)(k:K1 R):mix.A (h,b) k=aq (schedule.call b) λx1=>aq (table.call ()) λx2=>aq (Bc.call (h,0,(ai 8 0),x1,x2,h)) λx9=>aq (C9.call (x9.1.1,0,x9.1.2,x9.2)) λart=>k (mix.out art.2):=cT
theorem St.auC(s:St):s.l.length=8:=rfl
theorem aeY:aeX.length=64:=rfl
theorem auB(k:Nat)(h:k < 64):nth (.int .u32) aeX k=vw (kw k):=by
 have hh:∀k:Fin 64,nth (.int .u32) aeX k.val=vw (kw k.val):=by decide+kernel
 exact hh ⟨k,h⟩
theorem aEd(ws:List W)(k:Nat)(h:k < ws.length):nth (.int .u32) (wl ws) k=vw (ws.getD k 0):=by unfold nth wl;simp[h]
theorem aK4(w:W):rl w ((-6:Int)%32).toNat=G8 w 6:=rfl
theorem aIU(w:W):rl w ((-11:Int)%32).toNat=G8 w 11:=rfl
theorem aIX(w:W):rl w ((-25:Int)%32).toNat=G8 w 25:=rfl
theorem aK3(w:W):rl w ((-2:Int)%32).toNat=G8 w 2:=rfl
theorem aIV(w:W):rl w ((-13:Int)%32).toNat=G8 w 13:=rfl
theorem aIW(w:W):rl w ((-22:Int)%32).toNat=G8 w 22:=rfl
theorem n0(s:St):nth (.int .u32) s.l 0=vw s.a:=rfl
theorem n1(s:St):nth (.int .u32) s.l 1=vw s.b:=rfl
theorem n2(s:St):nth (.int .u32) s.l 2=vw s.c:=rfl
theorem n3(s:St):nth (.int .u32) s.l 3=vw s.d:=rfl
theorem n4(s:St):nth (.int .u32) s.l 4=vw s.e:=rfl
theorem n5(s:St):nth (.int .u32) s.l 5=vw s.f:=rfl
theorem n6(s:St):nth (.int .u32) s.l 6=vw s.g:=rfl
theorem n7(s:St):nth (.int .u32) s.l 7=vw s.h:=rfl
theorem apn:(mix.mw 0 Bc):=by
 refine(mix.qz 0 Bc) (λ(h,t,n4,n5,n6,n7)=>64 - t.toNat) ?_
 rintro⟨h,t,m4,m5,m6,m7⟩ ⟨s,ws,k,rfl,rfl,hw,hk,rfl,rfl,rfl⟩;by_cases jb:k < 64
 ·left;refine⟨(s.l,((k+1:Nat):Int),m4,wl ws,aeX,(rounds ws s (k+1)).l),⟨s,ws,k+1,rfl,rfl,hw,au,rfl,rfl,rfl⟩,by simp;omega,rfl,λkn kx=> ?_⟩;have e1:bV .i64 (k:Int) 1=((k+1:Nat):Int):=by rw[hZ au au];omega
  have e2:ab (k:Int)=k:=au;have aEG:(wl ws).length=64:=by simp[wl,hw]
  have d0:decide (k < 64)=aT:=bf jb;have i0:gU (k:Int) 64=aT:=bz au au;rw[PM,bm au];generalize hv:rounds ws s k=v;simp only[e1,e2,jE,ba,cW,cR,ak,St.auC,Nat.reduceLT,aeY,aEG,d0,i0,n0,n1,n2,n3,n4,n5,n6,n7,Y1,ae,auB k jb,aEd ws k au,Gi,S6,aK4,aIU,aIX,aK3,aIV,aIW];show kn _=kn (Bc.st (s.l,((k+1:Nat):Int),m4,wl ws,aeX,(qz (rounds ws s k) (kw k) (ws.getD k 0)).l));rw[hv];rfl
 ·right;obtain rfl:k=64:=au;intro R kn kx;rw[PM,bn au];simp only[ao,Jd,TI,amQ,zK]
theorem apo:(mix.mw 1 C9):=by
 refine(mix.qz 1 C9) (λ(h,t,n4,n7)=>8 - t.toNat) ?_
 rintro⟨h,t,m4,m7⟩ ⟨hl,k,hk,rfl⟩;have hl:m7.length=8:=hl;have e2:ab (k:Int)=k:=au;have e3:ab ((k+1:Nat):Int)=k+1:=au;by_cases jb:k < 8
 ·left;have e1:bV .i64 (k:Int) 1=((k+1:Nat):Int):=by rw[hZ au au];omega
  have hn:nth (.int .u32) m7 k=m7[k]:=dj (t:= .int .u32) au;refine⟨(h,((k+1:Nat):Int),m4,m7.set k (bV .u32 m7[k] (nth (.int .u32) h k))),⟨by simpa using hl,k+1,au,rfl⟩,by simp;omega,?_,λkn kx=> ?_⟩
  ·simp only[Da,Lv,e2,e3];rw[Yb (λi x=>bV .u32 x (nth (.int .u32) h i)) m7 k au]
  ·have d0:decide (k < 8)=aT:=bf jb;have i0:gU (k:Int) 8=aT:=bz au au;rw[PN,bm au];simp only[e1,e2,jE,ba,cW,cR,ak,hl,d0,i0,hn]
 ·right;obtain rfl:k=8:=au;intro R kn kx;rw[PN,bn au];simp only[ao,Da,Lv,e2];rw[aeq _ _ _ au]
theorem aDt:mix.Ok:=by
 rintro⟨h,b⟩ ⟨⟨s,rfl⟩,hb⟩;have hs:My b:=hb;have ary:(sched b).length=64:=by unfold sched;rw[JS,tF]
 have hp:TJ (s.l,0,ai 8 0,wl (sched b),aeX,s.l):=⟨s,sched b,0,rfl,rfl,ary,au,rfl,rfl,rfl⟩;rw[aDs,abU hs];simp only[ae,aq0 (d:=()) trivial,bF,JA,bF,amL,ai2 hp,Jd,TI,amQ,zK];have aEz:TL (s.l,0,ai 8 0,(rounds (sched b) s 64).l):=⟨rfl,0,au,rfl⟩;simp only[ai3 aEz,ae,Da,Lv,bF,al0,zK];unfold apm;generalize rounds (sched b) s 64=v;obtain⟨a1,b1,c1,d1,f1,g1,h1,i1⟩:=v;simp only[St.l,from_,List.mapIdx_cons,List.mapIdx_nil,bt,Nat.not_lt_zero,cK,ba,Nat.reduceAdd];simp only[nth,lO,List.getD_cons_succ,S6]
theorem al1:mix.RS:=rE [.d (.slice (.int .u32)),.d tB] mix
def aDu:=mix.gm aDt 2 ⟨.gQ apn,⟨.gQ apo,trivial⟩⟩
theorem rP(n:Int)(k:Int)(h0:0<=k)(h1:k<=64):eD .u8 (cV .i64 n k)=n / 2^k.toNat%256:=by
 rw[aaK,l5,cV];have e:min k.toNat IntKind.i64.bits=k.toNat:=by simp only[IntKind.bits];omega
 rw[e,Int.fdiv_eq_ediv_of_nonneg _ (Int.le_of_lt (Int.pow_pos au))];rfl
theorem Cn{n:Nat}(h:n<=140737488355328):ea n 1=aT:=eW au au
def Sa:Bs->Prop:=λb=>b.length<=140737488355328
def EB:Bs->(Nat×(List Int)):=λb=>(b.length,b)
def yT:Fs Tryz.prog Sa bF EB:=gg 123 Tryz.f123 (λsv=>([.d tB sv],[])) (λx=>⟨.b8 (.new 0 0) 0 [] 0 0 x.1,[],[.obj 0 aR (.vec 5 tb x.2)]⟩) [al tB] [] {bM:=[5],owns:=[⟨2,[],5,78⟩]}
theorem anS(sv)(k:K1 R):yT.A sv k=aS (decide (0 < (ag sv))) (aS (ea (0+(ag sv)) 1) (k (yT.out ((0+(ag sv)),((bj 0 (ai 0 0))++sv)))) aJ) (nd (k (yT.out (0,([]:List Int)))) (aS (ea (0+(ag sv)) 1) (k (yT.out ((0+(ag sv)),((bj 0 (ai 0 0))++sv)))) aJ)):=cT
theorem anT:yT.Ok:=by
 intro b hb;have hr:ea b.length 1=aT:=Cn hb;rw[anS];have e0:(bj 0 (ai 0 0):List Int)=[]:=rfl;simp only[ba,hr,ak,e0,aV,bF,EB];by_cases h:0 < b.length
 ·simp only[bf h,ak]
 ·have:b=[]:=bw au;subst this;simp only[bB,Ax,bI (gC 0),ao]
theorem Iv:yT.RS:=rE [.d tB] yT
def Nr:=yT.gm anT
def apa:Int->Prop:=λ_=>True
def alU:Int->(Nat×(List Int)):=λn=>(8,l6 n)
def Tw:Fs Tryz.prog apa bF alU:=gg 84 Tryz.f84 (λn=>([.dI,.d ti n],[])) (λx=>⟨.b8 (.new 0 0) 0 [] 0 0 x.1,[],[.obj 0 aR (.vec 5 tb x.2)]⟩) [aJ,al ti] [] {loops:=sk [(2,{bu:=[0,1,5],sites:=[16]})],outs:=sj [(2,{bu:=[0],sites:=[16]},{bu:=[4],sites:=[16]})],owns:=[⟨4,[],16,78⟩]} 12
theorem auN(n)(k:K1 R):Tw.A n k=k (Tw.out (8,[(eD .u8 (cV .i64 n 56)),(eD .u8 (cV .i64 n 48)),(eD .u8 (cV .i64 n 40)),(eD .u8 (cV .i64 n 32)),(eD .u8 (cV .i64 n 24)),(eD .u8 (cV .i64 n 16)),(eD .u8 (cV .i64 n 8)),(eD .u8 (cV .i64 n 0))])):=cT
theorem ahx(n:Int): [eD .u8 (cV .i64 n 56),eD .u8 (cV .i64 n 48),eD .u8 (cV .i64 n 40),eD .u8 (cV .i64 n 32),eD .u8 (cV .i64 n 24),eD .u8 (cV .i64 n 16),eD .u8 (cV .i64 n 8),eD .u8 (cV .i64 n 0)]=l6 n:=by rw[rP n 56 au au,rP n 48 au au,rP n 40 au au,rP n 32 au au,rP n 24 au au,rP n 16 au au,rP n 8 au au,rP n 0 au au];simp[l6]
theorem auO:Tw.Ok:=by intro n _;rw[auN,ahx];rfl
theorem apb:Tw.RS:=rE [.d ti] Tw
def auP:=Tw.aHk apy auO 1 ⟨.none cT,trivial⟩
def NW:(Nat×Int×Bs)->Prop:=λ(m,n,l)=>m=l.length/\l.length<=140737488355320
def Ry:(Nat×Int×Bs)->(Nat×(List Int)):=λ(m,n,l)=>(l.length+8,l++l6 n)
def PF:Fs Tryz.prog NW bF Ry:=gg 84 Tryz.f84 (λ(bL,n,o0)=>([.b8 (.bG 0) 0 [] 0 0 bL,.d ti n],[.obj 0 aR (.vec 5 tb o0)])) (λx=>⟨.b8 (.bG 0) 8 [] 0 0 x.1,[.obj 8 aR (.vec 5 tb x.2)],[]⟩) [aJ,al ti] [] {loops:=sk [(2,{bu:=[0,1,5],sites:=[16]})],outs:=sj [(2,{bu:=[0],sites:=[16]},{bu:=[4],sites:=[16]})]} 12
theorem auQ(bL n o0)(k:K1 R):PF.A (bL,n,o0) k=aS (decide (bL<=(ag o0))) (aS (ea (bL+1) 1) (aS (decide ((bL+1)<=(ag ((bj bL o0)++ [(eD .u8 (cV .i64 n 56))])))) (aS (ea ((bL+1)+1) 1) (aS (decide (((bL+1)+1)<=(ag ((bj (bL+1) ((bj bL o0)++ [(eD .u8 (cV .i64 n 56))]))++ [(eD .u8 (cV .i64 n 48))])))) (aS (ea (((bL+1)+1)+1) 1) (aS (decide ((((bL+1)+1)+1)<=(ag ((bj ((bL+1)+1) ((bj (bL+1) ((bj bL o0)++ [(eD .u8 (cV .i64 n 56))]))++ [(eD .u8 (cV .i64 n 48))]))++ [(eD .u8 (cV .i64 n 40))])))) (aS (ea ((((bL+1)+1)+1)+1) 1) (aS (decide (((((bL+1)+1)+1)+1)<=(ag ((bj (((bL+1)+1)+1) ((bj ((bL+1)+1) ((bj (bL+1) ((bj bL o0)++ [(eD .u8 (cV .i64 n 56))]))++ [(eD .u8 (cV .i64 n 48))]))++ [(eD .u8 (cV .i64 n 40))]))++ [(eD .u8 (cV .i64 n 32))])))) (aS (ea (((((bL+1)+1)+1)+1)+1) 1) (aS (decide ((((((bL+1)+1)+1)+1)+1)<=(ag ((bj ((((bL+1)+1)+1)+1) ((bj (((bL+1)+1)+1) ((bj ((bL+1)+1) ((bj (bL+1) ((bj bL o0)++ [(eD .u8 (cV .i64 n 56))]))++ [(eD .u8 (cV .i64 n 48))]))++ [(eD .u8 (cV .i64 n 40))]))++ [(eD .u8 (cV .i64 n 32))]))++ [(eD .u8 (cV .i64 n 24))])))) (aS (ea ((((((bL+1)+1)+1)+1)+1)+1) 1) (aS (decide (((((((bL+1)+1)+1)+1)+1)+1)<=(ag ((bj (((((bL+1)+1)+1)+1)+1) ((bj ((((bL+1)+1)+1)+1) ((bj (((bL+1)+1)+1) ((bj ((bL+1)+1) ((bj (bL+1) ((bj bL o0)++ [(eD .u8 (cV .i64 n 56))]))++ [(eD .u8 (cV .i64 n 48))]))++ [(eD .u8 (cV .i64 n 40))]))++ [(eD .u8 (cV .i64 n 32))]))++ [(eD .u8 (cV .i64 n 24))]))++ [(eD .u8 (cV .i64 n 16))])))) (aS (ea (((((((bL+1)+1)+1)+1)+1)+1)+1) 1) (aS (decide ((((((((bL+1)+1)+1)+1)+1)+1)+1)<=(ag ((bj ((((((bL+1)+1)+1)+1)+1)+1) ((bj (((((bL+1)+1)+1)+1)+1) ((bj ((((bL+1)+1)+1)+1) ((bj (((bL+1)+1)+1) ((bj ((bL+1)+1) ((bj (bL+1) ((bj bL o0)++ [(eD .u8 (cV .i64 n 56))]))++ [(eD .u8 (cV .i64 n 48))]))++ [(eD .u8 (cV .i64 n 40))]))++ [(eD .u8 (cV .i64 n 32))]))++ [(eD .u8 (cV .i64 n 24))]))++ [(eD .u8 (cV .i64 n 16))]))++ [(eD .u8 (cV .i64 n 8))])))) (aS (ea ((((((((bL+1)+1)+1)+1)+1)+1)+1)+1) 1) (k (PF.out (((((((((bL+1)+1)+1)+1)+1)+1)+1)+1),((bj (((((((bL+1)+1)+1)+1)+1)+1)+1) ((bj ((((((bL+1)+1)+1)+1)+1)+1) ((bj (((((bL+1)+1)+1)+1)+1) ((bj ((((bL+1)+1)+1)+1) ((bj (((bL+1)+1)+1) ((bj ((bL+1)+1) ((bj (bL+1) ((bj bL o0)++ [(eD .u8 (cV .i64 n 56))]))++ [(eD .u8 (cV .i64 n 48))]))++ [(eD .u8 (cV .i64 n 40))]))++ [(eD .u8 (cV .i64 n 32))]))++ [(eD .u8 (cV .i64 n 24))]))++ [(eD .u8 (cV .i64 n 16))]))++ [(eD .u8 (cV .i64 n 8))]))++ [(eD .u8 (cV .i64 n 0))])))) aJ) aJ) aJ) aJ) aJ) aJ) aJ) aJ) aJ) aJ) aJ) aJ) aJ) aJ) aJ) aJ:=cT
theorem auR:PF.Ok:=by rintro⟨m,n,l⟩ ⟨rfl,hl⟩;have hl:l.length<=140737488355320:=hl;rw[auQ];simp only[aF,cR,ak,bC,aj,aH,bB,ba];rw[Cn au,Cn au,Cn au,Cn au,Cn au,Cn au,Cn au,Cn au];simp only[ak,bF,Ry,<-ahx,aM,List.cons_append,aV]
theorem Yq:PF.RS:=rE [.n,.d ti,.d tB] PF
def ae4:=PF.aHk Zb auR 1 ⟨.none cT,trivial⟩
abbrev NJ:=Bs×Nat×Bs×(List Int)
abbrev Yj:=Nat×(List Int)
def Al:NJ->Yj->((Bs×Bs)×(Nat×(List Int))):=λ(nZ,endL,n2,n14) y=>((nZ,n2),y)
abbrev NK:=Bs×Nat×Bs×(List Int)×(List Int)
def Am:NK->(List Int)->((Nat×Bs×(List Int))×((List Int))):=λ(acD,IN,sm,n4,TS) y=>((IN,sm,TS),y)
abbrev NL:=Bs×Bs×(List Int)
def An:NL->(List Int)->((Bs)×((List Int))):=λ(endv,zl,zm) y=>(zl,y)
abbrev Yk:=Int×Bs×(List Int)
def zc(n:Nat):Nat:=(120 - n%64)%64
def Pu:NJ->Prop:=λ(b,m,n2,l)=>m=l.length/\l.length+zc l.length<=140737488355328
def GB:NJ->Yj:=λ(b,m,n2,l)=>(l.length+zc l.length,l++ai (zc l.length) 0)
def Pv:NK->Prop:=λ(b,m,n2,h,l)=>∃s:St,h=s.l
def GC:NK->(List Int):=λ(b,m,n2,h,l)=>(blocks (aq9 h) b).l
def Pw:NL->Prop:=λ(b,n2,h)=>b.length%64=0/\∃s:St,h=s.l
def GD:NL->(List Int):=λ(b,n2,h)=>(blocks (aq9 h) b).l
def XN(h:List Int)(i:Nat)(_:Int):Int:=eD .u8 (cV .u32 (nth (.int .u32) h (i / 4)) ((24 - 8*(i%4):Nat):Int))
def Px:Yk->Prop:=λ(t,n2,h)=>n2.length=32/\h.length=8/\∃k:Nat,k<=32/\t=k
def GF:Yk->Bs:=λ(t,n2,h)=>from_ (XN h) t.toNat n2
def aeI:Bs->Prop:=λb=>b.length<=140737488350000
def aiC:Bs->Bs:=λb=>aEO b
def xx:Ls Pu Al GB:=xM (λ(nZ,endL,n2,n14)=>⟨([.d tB nZ,cw,fI 2,nR 14 endL]++bg 61 []),[],([[],[],dK (.d tH n2)]++bK 11 ([dK (.vec 5 tb n14)]++bK 50 []))⟩) (λx=>(.exit 0,⟨([.d tB x.1.1,cw,fI 2,nR 14 x.2.1]++bg 61 []),[],([[],[],dK (.d tH x.1.2)]++bK 11 ([dK (.vec 5 tb x.2.2)]++bK 50 []))⟩))
def xy:Ls Pv Am GC:=xM (λ(acD,IN,sm,n4,TS)=>⟨([.d tB acD,cw,fI 2,.b8 (.new 14 0) 8 [] 0 0 IN,fI 4]++bg 60 []),[],([[],[],dK (.d tH sm),[],dK (.d (.arr 8 (.int .u32)) n4)]++bK 9 ([[.obj 8 aR (.vec 5 tb TS)]]++bK 50 []))⟩) (λx=>(.exit 2,⟨([cw,cw,fI 2,.b8 (.new 14 0) 8 [] 0 0 x.1.1,fI 4]++bg 60 []),[],([[],[],dK (.d tH x.1.2.1),[],dK (.d (.arr 8 (.int .u32)) x.2)]++bK 9 ([[.obj 8 aR (.vec 5 tb x.1.2.2)]]++bK 50 []))⟩))
def xz:Ls Pw An GD:=xM (λ(endv,zl,zm)=>⟨([cw,cw,fI 2,.d tB endv,fI 4]++bg 60 []),[],([[],[],dK (.d tH zl),[],dK (.d (.arr 8 (.int .u32)) zm)]++bK 60 [])⟩) (λx=>(.exit 4,⟨([cw,cw,fI 2,cw,fI 4]++bg 60 []),[],([[],[],dK (.d tH x.1),[],dK (.d (.arr 8 (.int .u32)) x.2)]++bK 60 [])⟩))
def xA:Ls Px bF GF:=xM (λ(t48,Jg,LB)=>⟨([cw,cw,fI 2,cw,fI 4]++bg 43 ([.d ti t48]++bg 16 [])),[],([[],[],dK (.d tH Jg),[],dK (.d (.arr 8 (.int .u32)) LB)]++bK 60 [])⟩) (λx=>(.exit 6,⟨([cw,cw,fI 2]++bg 62 []),[],([[],[],dK (.d tH x)]++bK 62 [])⟩))
def zW:Fs Tryz.prog aeI bF aiC:=gg 85 Tryz.f85 (λb=>([.d tB b],[])) (λx=>⟨.d tH x,[],[]⟩) [al tB] [Nr,ae4,atP,aDu] {loops:=sk [(2,{bu:=[0,2,3],sites:=[2,14],owns:=[⟨3,[],14,78⟩]}),(6,{bu:=[0,2,3,4],sites:=[2,4,14]}),(9,{bu:=[2,3,4],sites:=[2,4],data:=[(3,tB)]}),(13,{bu:=[2,4,48],sites:=[2,4]})],outs:=sj [(2,{bu:=[0,2,3],sites:=[2,14]},{bu:=[2]}),(6,{bu:=[2,3,4],sites:=[2,4,14]},{bu:=[2]}),(9,{bu:=[2,4],sites:=[2,4]},{bu:=[2]}),(13,{bu:=[2],sites:=[2]},{bu:=[2]})],gV:=tK [(2,xx.E),(6,xy.E),(9,xz.E),(13,xA.E)]}
theorem aeE:xx.RS:=rL [.d tB,.n,.d tB,.d tB] xx
theorem KZ(nZ endL n2 n14)(kn:K2 R)(kx:K3 R):zW.R 0 xx (nZ,endL,n2,n14) kn kx=aS (G5 (tW ((endL:Nat):Int) 64) 56) (aS (decide (endL<=(ag n14))) (aS (ea (endL+1) 1) (kn (xx.st (nZ,(endL+1),n2,((bj endL n14)++ [0])))) aJ) aJ) (xx.go kx ((nZ,n2),(endL,n14))):=cT
theorem aeF:xy.RS:=rL [.d tB,.n,.d tB,.d (.slice (.int .u32)),.d tB] xy
theorem K4(acD IN sm n4 TS)(kn:K2 R)(kx:K3 R):zW.R 1 xy (acD,IN,sm,n4,TS) kn kx=aS (BI (acD.length:Int) 64) (aS (inc 64 (acD.length:Int)) (aq (mix.call (n4,(cut acD 0 64))) λx1=>aS (inc 64 (acD.length:Int)) (kn (xy.st ((cut acD 64 ((ag acD) - 64)),IN,sm,x1,TS))) aJ) aJ) (xy.go kx ((IN,sm,TS),n4)):=cT
theorem aeG:xz.RS:=rL [.d tB,.d tB,.d (.slice (.int .u32))] xz
theorem K5(endv zl zm)(kn:K2 R)(kx:K3 R):zW.R 2 xz (endv,zl,zm) kn kx=aS (Ap (endv.length:Int) 0) (aS (inc 64 (endv.length:Int)) (aq (mix.call (zm,(cut endv 0 64))) λx1=>aS (inc 64 (endv.length:Int)) (kn (xz.st ((cut endv 64 ((ag endv) - 64)),zl,x1))) aJ) aJ) (xz.go kx (zl,zm)):=cT
theorem aeH:xA.RS:=rL [.d ti,.d tB,.d (.slice (.int .u32))] xA
theorem K6(t48 Jg LB)(kn:K2 R)(kx:K3 R):zW.R 3 xA (t48,Jg,LB) kn kx=aS (iE t48 32) (aS (gU (A7 .i64 t48 4) 8) (aS (decide ((ab (A7 .i64 t48 4)) < (ag LB))) (aS (decide ((((ab (A7 .i64 t48 4))*1)+0)=(0+((ab (A7 .i64 t48 4))*1)))) (aS (rr (dM .i64 24 (je .i64 8 (tW t48 4)))) (aS (gU t48 32) (aS (decide ((ab t48) < (ag Jg))) (aS (decide ((((ab t48)*1)+0)=(0+((ab t48)*1)))) (aS (decide ((ab t48) < (ag Jg))) (kn (xA.st ((bV .i64 t48 1),(gB Jg (ab t48) (eD .u8 (cV .u32 (nth (.int .u32) LB (ab (A7 .i64 t48 4))) (dM .i64 24 (je .i64 8 (tW t48 4)))))),LB))) aJ) aJ) aJ) aJ) aJ) aJ) aJ) aJ) (xA.go kx Jg):=cT
theorem azf(b)(k:K1 R):zW.A b k=aS (inc (dM .i64 (b.length:Int) (tW (b.length:Int) 64)) (b.length:Int)) (aq (yT.call (cut b (ab (dM .i64 (b.length:Int) (tW (b.length:Int) 64))) ((ag b) - (ab (dM .i64 (b.length:Int) (tW (b.length:Int) 64)))))) λx1=>aS (decide (x1.1<=(ag x1.2))) (aS (ea (x1.1+1) 1) (aq (xx.call (b,(x1.1+1),(ai 32 0),((bj x1.1 x1.2)++ [128]))) λx2=>aq (PF.call (x2.2.1,(je .i64 8 (x2.1.1.length:Int)),x2.2.2)) λx3=>aq (first.call ()) λx4=>aq (xy.call (x2.1.1,x3.1,x2.1.2,x4,x3.2)) λx6=>aS (decide (0=0/\(0+x6.1.1)<=(ag x6.1.2.2))) (aq (xz.call ((cut x6.1.2.2 0 x6.1.1),x6.1.2.1,x6.2)) λx9=>aq (xA.call (0,x9.1,x9.2)) λart=>k (zW.out art)) aJ) aJ) aJ) aJ:=cT
theorem aiD:(zW.mw 0 xx):=by
 refine(zW.qz 0 xx) (λ(b,m,n2,l)=>zc l.length) ?_
 rintro⟨b,m,n2,l⟩ ⟨rfl,hl⟩;have hl:l.length+zc l.length<=140737488355328:=hl;have hr:tW ((l.length:Nat):Int) 64=((l.length%64:Nat):Int):=by unfold tW;rw[gW au];omega
 by_cases h:l.length%64=56
 ·right;intro R kn kx;have hz:zc l.length=0:=by unfold zc;omega
  rw[KZ,hr,eJ au];simp only[ao,Al,GB,hz,cW,List.replicate_zero,bO]
 ·left;have hz:zc l.length=zc (l.length+1)+1:=by unfold zc;omega
  refine⟨(b,l.length+1,n2,l++ [0]),⟨by simp,by simp only[aj,aH,bB,ba];omega⟩,by simp only[aj,aH,bB,ba];omega,?_,λkn kx=> ?_⟩
  ·simp only[Al,GB,aj,aH,bB,ba,hz,aM,List.cons_append,aV,List.replicate_succ];rw[show l.length+1+zc (l.length+1)=l.length+(zc (l.length+1)+1) by omega]
  ·rw[KZ,hr,iJ au,Cn au];simp only[ak,aF,cR,cJ]
theorem aiE:(zW.mw 1 xy):=by
 refine(zW.qz 1 xy) (λ(b,m,n2,h,l)=>b.length) ?_
 rintro⟨b,m,n2,h,l⟩ ⟨s,rfl⟩;by_cases hb:64<=b.length
 ·left;have e1:cut b 64 (b.length - 64)=b.drop 64:=by unfold cut;rw[bC (by simp)]
  have e2:cut b 0 64=b.take 64:=rfl;have hp:aa8 (s.l,b.take 64):=⟨⟨s,rfl⟩,by simp;omega⟩;refine⟨(b.drop 64,m,n2,(apm s (b.take 64)).l,l),⟨_,rfl⟩,by simp;omega,?_,λkn kx=> ?_⟩
  ·simp only[Am,GC,zK];rw[OY s b hb]
  ·rw[K4,ig au,qp au au,e1,e2];simp only[ak,al1 hp,ae,bF,al0,zK]
 ·right;intro R kn kx;rw[K4,fa au];simp only[ao,Am,GC,zK];rw[Ir s b au]
theorem aiF:(zW.mw 2 xz):=by
 refine(zW.qz 2 xz) (λ(b,n2,h)=>b.length) ?_
 rintro⟨b,n2,h⟩ ⟨hm,s,rfl⟩;have hm:b.length%64=0:=hm;by_cases hb:0 < b.length
 ·left;have e1:cut b 64 (b.length - 64)=b.drop 64:=by unfold cut;rw[bC (by simp)]
  have e2:cut b 0 64=b.take 64:=rfl;have hp:aa8 (s.l,b.take 64):=⟨⟨s,rfl⟩,by simp;omega⟩;refine⟨(b.drop 64,n2,(apm s (b.take 64)).l),⟨by simp;omega,_,rfl⟩,by simp;omega,?_,λkn kx=> ?_⟩
  ·simp only[An,GD,zK];rw[OY s b au]
  ·rw[K5,dX au,qp au au,e1,e2];simp only[ak,al1 hp,ae,bF,al0,zK]
 ·right;intro R kn kx;rw[K5,dx au];simp only[ao,An,GD,zK];rw[Ir s b au]
theorem aiG:(zW.mw 3 xA):=by
 refine(zW.qz 3 xA) (λ(t,n2,h)=>32 - t.toNat) ?_
 rintro⟨t,m,h⟩ ⟨hl,h8,k,hk,rfl⟩;have hl:m.length=32:=hl;have h8:h.length=8:=h8;have e2:ab (k:Int)=k:=au;have e3:ab ((k+1:Nat):Int)=k+1:=au;by_cases jb:k < 32
 ·left;have e1:bV .i64 (k:Int) 1=((k+1:Nat):Int):=by rw[hZ au au];omega
  have q4:A7 .i64 (k:Int) 4=((k / 4:Nat):Int):=by
   have:(k:Int).tdiv 4=((k / 4:Nat):Int):=by rw[j3 au];omega
   unfold A7;rw[this,sT au au]
  have r4:tW (k:Int) 4=((k%4:Nat):Int):=by unfold tW;rw[gW au];omega
  have s4:dM .i64 24 (je .i64 8 ((k%4:Nat):Int))=((24 - 8*(k%4):Nat):Int):=by rw[Lc au au,gE au au];omega
  have e4:ab ((k / 4:Nat):Int)=k / 4:=au;refine⟨(((k+1:Nat):Int),m.set k (XN h k m[k]),h),⟨by simpa using hl,h8,k+1,au,rfl⟩,by simp;omega,?_,λkn kx=> ?_⟩
  ·simp only[bF,GF,e2,e3];rw[Yb (XN h) m k au]
  ·have d0:decide (k < 32)=aT:=bf jb;have d1:decide (k / 4 < 8)=aT:=bf au;rw[K6,bm au,q4,r4,s4,bz au au,bz au au,vG au];simp only[e1,e2,e4,jE,ba,cW,cR,ak,hl,h8,d0,d1,XN]
 ·right;obtain rfl:k=32:=au;intro R kn kx;rw[K6,bn au];simp only[ao,bF,GF,e2];rw[aeq _ _ _ au]
theorem apC(w:W):bh 8 (vw w)=w.setWidth 8:=by apply BitVec.eq_of_toNat_eq;rw[qS,BitVec.toNat_setWidth];unfold vw;omega
theorem aCq(w:W)(k:Int):eD .u8 (cV .u32 (vw w) k)=vw ((w >>> k.toNat).setWidth 8):=by rw[Tm,aaK,apC]
theorem az0(s:St):from_ (XN s.l) 0 (ai 32 0)=azZ s:=by rw[SQ];simp only[List.range_eq_range',List.range',cn,iT,XN,Nat.reduceAdd,Nat.reduceDiv,Nat.reduceMod,Nat.reduceMul,Nat.reduceSub,n0,n1,n2,n3,n4,n5,n6,n7,aCq];rfl
theorem azg:zW.Ok:=by
 intro b hb;have hb:b.length<=140737488350000:=hb;have hr:tW ((b.length:Nat):Int) 64=((b.length%64:Nat):Int):=by unfold tW;rw[gW au];omega
 have hs:dM .i64 ((b.length:Nat):Int) ((b.length%64:Nat):Int)=((b.length - b.length%64:Nat):Int):=by rw[gE au au];omega
 have hn:ab ((b.length - b.length%64:Nat):Int)=b.length - b.length%64:=au;have hm:je .i64 8 ((b.length:Nat):Int)=8*(b.length:Int):=Lc au au;generalize hq:b.length - b.length%64=q at hs hn;have hc:cut b q (b.length - q)=b.drop q:=by unfold cut;rw[bC (by simp)]
 have alC:(b.drop q).length=b.length%64:=by simp;omega
 have p1:Sa (b.drop q):=by show(b.drop q).length<=_;omega
 rw[azf,hr,hs,qp au au,hn,hc];simp only[ak,Iv p1,ae,bF,EB,aF,cR,cJ];have p2:Pu (b,(b.drop q).length+1,ai 32 0,b.drop q++ [128]):=by refine⟨by simp,?_⟩;simp only[aj,aH,bB,zc];omega
 have hz:zc (b.drop q++ [128]).length=LI b.length:=by simp only[aj,aH,bB,zc,LI];omega
 rw[Cn au];simp only[ak,aeE p2,ae,Al,GB,hm,hz];have hlen:(b.drop q++ [128]).length+LI b.length=(b.drop q++ [128]++ai (LI b.length) 0).length:=by rw[@aj _ (b.drop q++ [128]),dF]
 have p3:NW ((b.drop q++ [128]).length+LI b.length,8*(b.length:Int),b.drop q++ [128]++ai (LI b.length) 0):=by refine⟨hlen,?_⟩;simp only[aj,aH,bB,dF,LI];omega
 have p4:Pv (b,(b.drop q++ [128]++ai (LI b.length) 0).length+8,ai 32 0,za.l,b.drop q++ [128]++ai (LI b.length) 0++l6 (8*(b.length:Int))):=⟨za,rfl⟩;simp only[Yq p3,ae,bF,Ry,aor (d:=()) trivial,bF,alx,aeF p4,Am,GC,zK];generalize he:b.drop q++ [128]++ai (LI b.length) 0++l6 (8*(b.length:Int))=e;have G3:(b.drop q++ [128]++ai (LI b.length) 0).length+8=e.length:=by rw[<-he,@aj _ _ (l6 _),dC]
 have aEv:e.length%64=0:=by rw[<-G3];simp only[aj,aH,bB,dF,LI,alC];omega
 have aCS:cut e 0 ((b.drop q++ [128]++ai (LI b.length) 0).length+8)=e:=by rw[G3];unfold cut;rw[aQ,cJ]
 rw[aCS,G3,bf ⟨trivial,au⟩];have p5:Pw (e,ai 32 0,(blocks za b).l):=⟨aEv,blocks za b,rfl⟩;have p6:Px (0,ai 32 0,(blocks (blocks za b) e).l):=⟨rfl,rfl,0,au,rfl⟩;simp only[ak,aeG p5,ae,An,GD,zK,aeH p6,bF,GF,bF,aiC];rw[show ab 0=0 from rfl,az0];have aCP:blocks za (pad b)=blocks (blocks za b) e:=by
  have h1:pad b=b.take q++e:=by rw[<-he];unfold pad;rw[aM,aM,<-aM (b.take q),dw];rfl
  have h2:blocks za b=blocks (blocks za (b.take q)) (b.drop q):=by rw[<-He _ _ _ (by simp;omega),dw]
  rw[h1,He _ _ _ (by simp;omega),h2,Ir _ (b.drop q) au]
 rw[aEO,aCP]
theorem auf:zW.RS:=rE [.d tB] zW
def azh:=zW.gm azg 4 ⟨.gQ aiD,⟨.gQ aiE,⟨.gQ aiF,⟨.gQ aiG,trivial⟩⟩⟩⟩
abbrev NO:=Nat×(List Bs)×Int×Int×Bs×(List Int)
abbrev Yl:=Nat×(List Int)
def Ao:NO->Yl->((Bs)×(Nat×(List Int))):=λ(bL,t13,t14,t15,n4,n10) y=>(n4,y)
abbrev aug:=ByteArray×(List Bs)
def Py:NO->Prop:=λ(m,ps,n,i,n4,l)=>m=l.length/\n=ps.length/\ps.length<=140737488350000/\∃k:Nat,k<=ps.length/\i=k/\l.length+(yn (ps.drop k)).length<=140737488350000
def GG:NO->Yl:=λ(m,ps,n,i,n4,l)=>(l.length+(yn (ps.drop i.toNat)).length,l++yn (ps.drop i.toNat))
def K8:aug->Prop:=λ(name,ps)=>(Xb (cE name) ps).length<=140737488350000
def aaJ:aug->Bs:=λ(name,ps)=>tag (cE name) ps
def xB:Ls Py Ao GG:=xM (λ(bL,t13,t14,t15,n4,n10)=>⟨(bg 4 ([fI 4,nR 10 bL]++bg 7 ([.d (.slice tB) t13,.d ti t14,.d ti t15]++bg 12 []))),[],(bK 4 ([dK (.d tH n4)]++bK 5 ([dK (.vec 5 tb n10)]++bK 17 [])))⟩) (λx=>(.exit 0,⟨(bg 4 ([fI 4,nR 10 x.2.1]++bg 22 [])),[],(bK 4 ([dK (.d tH x.1)]++bK 5 ([dK (.vec 5 tb x.2.2)]++bK 17 [])))⟩))
def NN:Fs Tryz.prog K8 bF aaJ:=gg 41 Tryz.f41 (λ(name,parts)=>([.d .str name,.d (.slice tB) parts],[])) (λx=>⟨.d tH x,[],[]⟩) [al .str,al (.slice tB)] [auP,ae4,azh] {loops:=sk [(3,{bu:=[4,5,13,14,15],sites:=[4,10],owns:=[⟨5,[],10,78⟩]})],outs:=sj [(3,{bu:=[4,5],sites:=[4,10]},{bu:=[4]})],gV:=tK [(3,xB.E)]}
theorem aeJ:xB.RS:=rL [.n,.d (.slice tB),.d ti,.d ti,.d tB,.d tB] xB
theorem K7(bL t13 t14 t15 n4 n10)(kn:K2 R)(kx:K3 R):NN.R 0 xB (bL,t13,t14,t15,n4,n10) kn kx=aS (iE t15 t14) (aS (gU t15 (t13.length:Int)) (aq (PF.call (bL,(((ag (nth tB t13 (ab t15))):Nat):Int),n10)) λx1=>aS (decide (x1.1<=(ag x1.2))) (aS (ea (x1.1+(ag (nth tB t13 (ab t15)))) 1) (kn (xB.st ((x1.1+(ag (nth tB t13 (ab t15)))),t13,t14,(bV .i64 t15 1),n4,((bj x1.1 x1.2)++(nth tB t13 (ab t15)))))) aJ) aJ) aJ) (xB.go kx (n4,(bL,n10))):=cT
theorem azi(name parts)(k:K1 R):NN.A (name,parts) k=aq (Tw.call (((ByteArray.size name):Nat):Int)) λx1=>aS (decide (x1.1<=(ag x1.2))) (aS (ea (x1.1+(ag (cE name))) 1) (aq (xB.call ((x1.1+(ag (cE name))),parts,(parts.length:Int),0,(ai 32 0),((bj x1.1 x1.2)++(cE name)))) λx4=>aS (decide (0=0/\(0+x4.2.1)<=(ag x4.2.2))) (aq (zW.call (cut x4.2.2 0 x4.2.1)) λx5=>k (NN.out x5)) aJ) aJ) aJ:=cT
theorem Zf(p:List Int)(ps:List (List Int)):yn (p::ps)=l6 p.length++p++yn ps:=by simp[yn]
theorem aq1(ps:List (List Int))(k:Nat)(h:k < ps.length):yn (ps.drop k)=l6 ps[k].length++ps[k]++yn (ps.drop (k+1)):=by rw[aC h,Zf]
theorem aiH:(NN.mw 0 xB):=by
 refine(NN.qz 0 xB) (λ(m,ps,n,i,n4,l)=>ps.length - i.toNat) ?_
 rintro⟨m,ps,n,i,n4,l⟩ ⟨rfl,rfl,QU,k,hk,rfl,hl⟩;have hl:l.length+(yn (ps.drop k)).length<=140737488350000:=hl;have hk:k<=ps.length:=hk;have e2:ab (k:Int)=k:=au;have e3:ab ((k+1:Nat):Int)=k+1:=au;by_cases h:k < ps.length
 ·left;have ht:=aq1 ps k h;have hlen:(yn (ps.drop k)).length=8+ps[k].length+(yn (ps.drop (k+1))).length:=by rw[ht];simp only[aj,dC]
  have hn:nth (.slice (.int .u8)) ps k=ps[k]:=dj (t:= .slice (.int .u8)) h;have QU:ps.length<=140737488350000:=QU;have e1:bV .i64 (k:Int) 1=((k+1:Nat):Int):=by rw[hZ au au];omega
  refine⟨((l++l6 ps[k].length++ps[k]).length,ps,(ps.length:Int),((k+1:Nat):Int),n4,l++l6 ps[k].length++ps[k]),⟨rfl,rfl,QU,k+1,by show k+1<=ps.length;omega,rfl,?_⟩,?_,?_,λkn kx=> ?_⟩
  ·show(l++l6 ps[k].length++ps[k]).length+(yn (ps.drop (k+1))).length<=_;simp only[aj,dC];omega
  ·show ps.length - ab ((k+1:Nat):Int) < ps.length - ab (k:Int);omega
  ·simp only[Ao,GG,e2,e3,ht,aM];simp only[aj,dC,fN]
  ·have p1:NW (l.length,(ps[k].length:Int),l):=⟨rfl,by show l.length<=_;omega⟩;rw[K7,bm au,bz au au,e1,e2];simp only[ak,hn,Yq p1,ae,bF,Ry];have aC4:(l++l6 ps[k].length).length=l.length+8:=by simp[dC]
   rw[aC4,bf (aF _),Cn au];simp only[ak];rw[bC (by rw[aC4];omega)];simp only[aj,dC,fN]
 ·right;obtain rfl:k=ps.length:=au;intro R kn kx;rw[K7,bn au];simp only[ao,Ao,GG,e2,aU];simp[yn]
theorem agI:∀ps:List (List Int),8*ps.length<=(yn ps).length
 |[]=>by simp[yn]
 |p::ps=>by rw[Zf];have:=agI ps;simp only[aj,dC,aH];omega
theorem nL(s:ByteArray):(cE s).length=s.size:=by simp only[cE,cF,cS];rfl
theorem azj:NN.Ok:=by
 rintro⟨name,ps⟩ hp;have hp:(l6 (cE name).length++cE name++yn ps).length<=140737488350000:=hp;have hl:(l6 (cE name).length++cE name++yn ps).length=8+(cE name).length+(yn ps).length:=by simp only[aj,dC]
 have QU:=agI ps;have rM:((name.size:Nat):Int)=(((cE name).length:Nat):Int):=by rw[nL]
 rw[azi,apb (d:=((name.size:Nat):Int)) trivial,rM];simp only[ae,bF,alU,dC,aF,cR,ak];rw[Cn au,bC (by rw[dC];omega)];have p2:Py (8+(cE name).length,ps,(ps.length:Int),0,ai 32 0,l6 ((cE name).length:Int)++cE name):=by refine⟨by simp only[aj,dC],rfl,by show ps.length<=_;omega,0,aP _,rfl,?_⟩;rw[aQ];simp only[aj,dC];omega
 simp only[ak,aeJ p2,ae,Ao,GG,bt,aQ];have ay6:cut (l6 ((cE name).length:Int)++cE name++yn ps) 0 ((l6 ((cE name).length:Int)++cE name).length+(yn ps).length)=Xb (cE name) ps:=by unfold cut;rw[aQ,bC (by simp only[aj];omega)];rfl
 have p3:aeI (Xb (cE name) ps):=hp;rw[bf ⟨trivial,by simp only[aj];omega⟩,ay6];simp only[ak,auf p3,ae,bF,aiC,bF,aaJ,tag]
theorem K9:NN.RS:=rE [.d .str,.d (.slice tB)] NN
def Rr:=NN.gm azj 1 ⟨.gQ aiH,trivial⟩
theorem M1{n:Int}(h1:0<=n)(h2:n < 18446744073709551616):IntKind.u64.wrap n=n:=by rw[wrap_u64,l5];omega
theorem M0(n:Int):IntKind.u64.wrap n=n%18446744073709551616:=by rw[wrap_u64,l5];rfl
theorem xC(x y:Int):bV .u64 x y=(x+y)%18446744073709551616:=M0 _
theorem Rt(x y:Int):dM .u64 x y=(x - y)%18446744073709551616:=M0 _
theorem xD(x y:Int):je .u64 x y=(x*y)%18446744073709551616:=M0 _
theorem aum(x:Int):eD .u64 x=x%18446744073709551616:=M0 _
theorem acW{x:Int}(h:0<=x)(h2:x < 18446744073709551616):eh .and .u64 x 4294967295=x%4294967296:=by
 obtain⟨n,rfl⟩:∃n:Nat,x=n:=⟨x.toNat,au⟩;have e:(bh 64 (n:Int) &&& bh 64 4294967295).toNat=n%4294967296:=by
  rw[BitVec.toNat_and];have a:(bh 64 (n:Int)).toNat=n:=by rw[iV,jY];omega
  have b:(bh 64 4294967295).toNat=2^32 - 1:=fb;rw[a,b,Nat.and_two_pow_sub_one_eq_mod]
 show IntKind.u64.wrap ((bh 64 (n:Int) &&& bh 64 4294967295).toNat:Int)=_;rw[e,M1 au au];omega
theorem aHF{x:Int}(h:0<=x)(h2:x < 18446744073709551616):eh .and .u64 x 1=x%2:=by
 obtain⟨n,rfl⟩:∃n:Nat,x=n:=⟨x.toNat,au⟩;have e:(bh 64 (n:Int) &&& bh 64 1).toNat=n%2:=by
  rw[BitVec.toNat_and];have a:(bh 64 (n:Int)).toNat=n:=by rw[iV,jY];omega
  have b:(bh 64 1).toNat=2^1 - 1:=fb;rw[a,b,Nat.and_two_pow_sub_one_eq_mod]
 show IntKind.u64.wrap ((bh 64 (n:Int) &&& bh 64 1).toNat:Int)=_;rw[e,M1 au au];omega
theorem uX{x k:Int}(n:Nat)(hk:k=n)(hn:n<=64):cV .u64 x k=x / 2^n:=by
 subst hk;rw[cV];have e:min (ab (n:Int)) IntKind.u64.bits=n:=by simp only[IntKind.bits];omega
 rw[e,Int.fdiv_eq_ediv_of_nonneg _ (Int.le_of_lt (Int.pow_pos au))]
theorem uW{x k:Int}(n:Nat)(hk:k=n)(hn:n<=64):nQ .u64 x k=x*2^n%18446744073709551616:=by
 subst hk;rw[nQ,M0];have e:min (ab (n:Int)) IntKind.u64.bits=n:=by simp only[IntKind.bits];omega
 rw[e]
theorem LH{x y:Int}(k:Nat)(m:Int)(hm:m=2^k)(hx:x%m=0)(h0:0<=x)(h1:x < 18446744073709551616)(hy:0<=y)(aEH:y < m)(h2:x+y < 18446744073709551616):eh .or .u64 x y=x+y:=by
 subst hm;obtain⟨n,rfl⟩:∃n:Nat,x=n:=⟨x.toNat,au⟩;obtain⟨j,rfl⟩:∃j:Nat,y=j:=⟨y.toNat,au⟩;have hx:n%2^k=0:=by
  have:((n%2^k:Nat):Int)=0:=by rw[o9];simpa using hx
  omega
 have hj:j < 2^k:=by
  have:((j:Nat):Int) < ((2^k:Nat):Int):=by simpa using aEH
  omega
 obtain⟨q,rfl⟩:∃q,n=2^k*q:=⟨n / 2^k,by have:=Nat.div_add_mod n (2^k);omega⟩;have e:(bh 64 ((2^k*q:Nat):Int) ||| bh 64 (j:Int)).toNat=2^k*q+j:=by
  rw[BitVec.toNat_or];have a:(bh 64 ((2^k*q:Nat):Int)).toNat=2^k*q:=by rw[iV,jY];exact jV au
  have b:(bh 64 (j:Int)).toNat=j:=by rw[iV,jY];exact jV au
  rw[a,b,Nat.two_pow_add_eq_or_of_lt hj]
 show IntKind.u64.wrap ((bh 64 ((2^k*q:Nat):Int) ||| bh 64 (j:Int)).toNat:Int)=_;rw[e,M1 au au];omega
theorem alP{x y:Int}(h:0<=x)(h1:0<=y)(h2:x < 18446744073709551616):A7 .u64 x y=x / y:=by rw[A7,j3 h];exact M1 (Int.ediv_nonneg h h1) (Int.lt_of_le_of_lt (Int.ediv_le_self _ h) h2)
theorem GH{x y:Int}(h:0<=x):tW x y=x%y:=by rw[tW,gW h]
theorem k1{e u w r q:Int}(he:e=42260\/e=42264\/e=42272)(hu:0<=u)(acI:u < 18446744073709551616 - e)(hw:0<=w)(arA:w < 4294967296)(hr:0<=r)(aeD:r < 4294967296)
  (hq:q*4294967295+r=u) (hQ:(u*4294967296+w) / (18446744073709551616 - e)<=q):
  (4294967296<=q->(u*4294967296+w) / (18446744073709551616 - e)<=q - 1)/\
  (q < 4294967296->4294967296*r+w < q*(4294967296 - e)->(u*4294967296+w) / (18446744073709551616 - e)<=q - 1)/\
  (q < 4294967296->q*(4294967296 - e)<=4294967296*r+w->(u*4294967296+w) / (18446744073709551616 - e)=q)/\
  (4294967296<=r+4294967295->(u*4294967296+w) / (18446744073709551616 - e)<=q - 1->(u*4294967296+w) / (18446744073709551616 - e)=q - 1)/\0<=(u*4294967296+w) / (18446744073709551616 - e)/\q<=4294967297:=by
 rcases he with rfl | rfl | rfl
 ·refine⟨?_,?_,?_,?_,?_,?_⟩ <;> omega
 ·refine⟨?_,?_,?_,?_,?_,?_⟩ <;> omega
 ·refine⟨?_,?_,?_,?_,?_,?_⟩ <;> omega
theorem k0{e u w:Int}(he:e=42260\/e=42264\/e=42272)(hu:0<=u)(acI:u < 18446744073709551616 - e)(hw:0<=w)(arA:w < 4294967296):
  (u*4294967296+w) / (18446744073709551616 - e)<=u / 4294967295/\0<=u - u / 4294967295*4294967295/\u - u / 4294967295*4294967295 < 4294967296/\
  (u*4294967296+w) - (u*4294967296+w) / (18446744073709551616 - e)*(18446744073709551616 - e)=(u*4294967296+w)%(18446744073709551616 - e)/\
  0<=(u*4294967296+w)%(18446744073709551616 - e)/\(u*4294967296+w)%(18446744073709551616 - e) < 18446744073709551616 - e/\
  0<=(u*4294967296+w) / (18446744073709551616 - e)/\(u*4294967296+w) / (18446744073709551616 - e) < 4294967296:=by
 rcases he with rfl | rfl | rfl
 ·refine⟨?_,?_,?_,?_,?_,?_,?_,?_⟩ <;> omega
 ·refine⟨?_,?_,?_,?_,?_,?_,?_,?_⟩ <;> omega
 ·refine⟨?_,?_,?_,?_,?_,?_,?_,?_⟩ <;> omega
theorem kd(Y u w1 w0:Int)(hY:0 < Y)(h0:0<=w0)(h1:w0 < 4294967296):
  ((u*4294967296+w1)*4294967296+w0) / Y=(u*4294967296+w1) / Y*4294967296+((u*4294967296+w1)%Y*4294967296+w0) / Y/\
  ((u*4294967296+w1)*4294967296+w0)%Y=((u*4294967296+w1)%Y*4294967296+w0)%Y:=by
 generalize u*4294967296+w1=n;have e:n*4294967296+w0=(n%Y*4294967296+w0)+Y*(n / Y*4294967296):=by
  have:=Int.emod_add_mul_ediv n Y;have h:Y*(n / Y*4294967296)=(Y*(n / Y))*4294967296:=by rw[Int.mul_assoc]
  rw[h];omega
 rw[e,Int.add_mul_ediv_left _ _ au,Int.add_mul_emod_self_left];exact⟨au,rfl⟩
def aEK(y:Int):Prop:=y=4611686018427377339\/y=2305843009213688669\/y=2305843009213688668
def ao5:Int->Prop:=aEK
def azA:Int->Int:=λy=>if y=4611686018427377339 then 62 else 61
def Ar:Fs Tryz.prog ao5 bF azA:=gg 109 Tryz.f109 (λx=>([.d tu x],[])) (λx=>⟨.d ti x,[],[]⟩) [al tu]
theorem auF(x)(k:K1 R):Ar.A x k=aS (BI x 4294967296) (aS (BI (cV .u64 x 32) 65536) (aS (BI (cV .u64 (cV .u64 x 32) 16) 256) (aS (gU (eD .u8 (cV .u64 (cV .u64 (cV .u64 x 32) 16) 8)) 256) (k (Ar.out (bV .i64 56 (eD .i64 (ags (⟨#[0,1,2,2,3,3,3,3,4,4,4,4,4,4,4,4,5,5,5,5,5,5,5,5,5,5,5,5,5,5,5,5,6,6,6,6,6,6,6,6,6,6,6,6,6,6,6,6,6,6,6,6,6,6,6,6,6,6,6,6,6,6,6,6,7,7,7,7,7,7,7,7,7,7,7,7,7,7,7,7,7,7,7,7,7,7,7,7,7,7,7,7,7,7,7,7,7,7,7,7,7,7,7,7,7,7,7,7,7,7,7,7,7,7,7,7,7,7,7,7,7,7,7,7,7,7,7,7,8,8,8,8,8,8,8,8,8,8,8,8,8,8,8,8,8,8,8,8,8,8,8,8,8,8,8,8,8,8,8,8,8,8,8,8,8,8,8,8,8,8,8,8,8,8,8,8,8,8,8,8,8,8,8,8,8,8,8,8,8,8,8,8,8,8,8,8,8,8,8,8,8,8,8,8,8,8,8,8,8,8,8,8,8,8,8,8,8,8,8,8,8,8,8,8,8,8,8,8,8,8,8,8,8,8,8,8,8,8,8,8,8,8,8,8,8,8,8,8,8,8,8,8,8,8,8,8]⟩:ByteArray) (eD .u8 (cV .u64 (cV .u64 (cV .u64 x 32) 16) 8))))))) aJ) (aS (gU (eD .u8 (cV .u64 (cV .u64 x 32) 16)) 256) (k (Ar.out (bV .i64 48 (eD .i64 (ags (⟨#[0,1,2,2,3,3,3,3,4,4,4,4,4,4,4,4,5,5,5,5,5,5,5,5,5,5,5,5,5,5,5,5,6,6,6,6,6,6,6,6,6,6,6,6,6,6,6,6,6,6,6,6,6,6,6,6,6,6,6,6,6,6,6,6,7,7,7,7,7,7,7,7,7,7,7,7,7,7,7,7,7,7,7,7,7,7,7,7,7,7,7,7,7,7,7,7,7,7,7,7,7,7,7,7,7,7,7,7,7,7,7,7,7,7,7,7,7,7,7,7,7,7,7,7,7,7,7,7,8,8,8,8,8,8,8,8,8,8,8,8,8,8,8,8,8,8,8,8,8,8,8,8,8,8,8,8,8,8,8,8,8,8,8,8,8,8,8,8,8,8,8,8,8,8,8,8,8,8,8,8,8,8,8,8,8,8,8,8,8,8,8,8,8,8,8,8,8,8,8,8,8,8,8,8,8,8,8,8,8,8,8,8,8,8,8,8,8,8,8,8,8,8,8,8,8,8,8,8,8,8,8,8,8,8,8,8,8,8,8,8,8,8,8,8,8,8,8,8,8,8,8,8,8,8,8,8]⟩:ByteArray) (eD .u8 (cV .u64 (cV .u64 x 32) 16))))))) aJ)) (aS (BI (cV .u64 x 32) 256) (aS (gU (eD .u8 (cV .u64 (cV .u64 x 32) 8)) 256) (k (Ar.out (bV .i64 40 (eD .i64 (ags (⟨#[0,1,2,2,3,3,3,3,4,4,4,4,4,4,4,4,5,5,5,5,5,5,5,5,5,5,5,5,5,5,5,5,6,6,6,6,6,6,6,6,6,6,6,6,6,6,6,6,6,6,6,6,6,6,6,6,6,6,6,6,6,6,6,6,7,7,7,7,7,7,7,7,7,7,7,7,7,7,7,7,7,7,7,7,7,7,7,7,7,7,7,7,7,7,7,7,7,7,7,7,7,7,7,7,7,7,7,7,7,7,7,7,7,7,7,7,7,7,7,7,7,7,7,7,7,7,7,7,8,8,8,8,8,8,8,8,8,8,8,8,8,8,8,8,8,8,8,8,8,8,8,8,8,8,8,8,8,8,8,8,8,8,8,8,8,8,8,8,8,8,8,8,8,8,8,8,8,8,8,8,8,8,8,8,8,8,8,8,8,8,8,8,8,8,8,8,8,8,8,8,8,8,8,8,8,8,8,8,8,8,8,8,8,8,8,8,8,8,8,8,8,8,8,8,8,8,8,8,8,8,8,8,8,8,8,8,8,8,8,8,8,8,8,8,8,8,8,8,8,8,8,8,8,8,8,8]⟩:ByteArray) (eD .u8 (cV .u64 (cV .u64 x 32) 8))))))) aJ) (aS (gU (eD .u8 (cV .u64 x 32)) 256) (k (Ar.out (bV .i64 32 (eD .i64 (ags (⟨#[0,1,2,2,3,3,3,3,4,4,4,4,4,4,4,4,5,5,5,5,5,5,5,5,5,5,5,5,5,5,5,5,6,6,6,6,6,6,6,6,6,6,6,6,6,6,6,6,6,6,6,6,6,6,6,6,6,6,6,6,6,6,6,6,7,7,7,7,7,7,7,7,7,7,7,7,7,7,7,7,7,7,7,7,7,7,7,7,7,7,7,7,7,7,7,7,7,7,7,7,7,7,7,7,7,7,7,7,7,7,7,7,7,7,7,7,7,7,7,7,7,7,7,7,7,7,7,7,8,8,8,8,8,8,8,8,8,8,8,8,8,8,8,8,8,8,8,8,8,8,8,8,8,8,8,8,8,8,8,8,8,8,8,8,8,8,8,8,8,8,8,8,8,8,8,8,8,8,8,8,8,8,8,8,8,8,8,8,8,8,8,8,8,8,8,8,8,8,8,8,8,8,8,8,8,8,8,8,8,8,8,8,8,8,8,8,8,8,8,8,8,8,8,8,8,8,8,8,8,8,8,8,8,8,8,8,8,8,8,8,8,8,8,8,8,8,8,8,8,8,8,8,8,8,8,8]⟩:ByteArray) (eD .u8 (cV .u64 x 32))))))) aJ))) (aS (BI x 65536) (aS (BI (cV .u64 x 16) 256) (aS (gU (eD .u8 (cV .u64 (cV .u64 x 16) 8)) 256) (k (Ar.out (bV .i64 24 (eD .i64 (ags (⟨#[0,1,2,2,3,3,3,3,4,4,4,4,4,4,4,4,5,5,5,5,5,5,5,5,5,5,5,5,5,5,5,5,6,6,6,6,6,6,6,6,6,6,6,6,6,6,6,6,6,6,6,6,6,6,6,6,6,6,6,6,6,6,6,6,7,7,7,7,7,7,7,7,7,7,7,7,7,7,7,7,7,7,7,7,7,7,7,7,7,7,7,7,7,7,7,7,7,7,7,7,7,7,7,7,7,7,7,7,7,7,7,7,7,7,7,7,7,7,7,7,7,7,7,7,7,7,7,7,8,8,8,8,8,8,8,8,8,8,8,8,8,8,8,8,8,8,8,8,8,8,8,8,8,8,8,8,8,8,8,8,8,8,8,8,8,8,8,8,8,8,8,8,8,8,8,8,8,8,8,8,8,8,8,8,8,8,8,8,8,8,8,8,8,8,8,8,8,8,8,8,8,8,8,8,8,8,8,8,8,8,8,8,8,8,8,8,8,8,8,8,8,8,8,8,8,8,8,8,8,8,8,8,8,8,8,8,8,8,8,8,8,8,8,8,8,8,8,8,8,8,8,8,8,8,8,8]⟩:ByteArray) (eD .u8 (cV .u64 (cV .u64 x 16) 8))))))) aJ) (aS (gU (eD .u8 (cV .u64 x 16)) 256) (k (Ar.out (bV .i64 16 (eD .i64 (ags (⟨#[0,1,2,2,3,3,3,3,4,4,4,4,4,4,4,4,5,5,5,5,5,5,5,5,5,5,5,5,5,5,5,5,6,6,6,6,6,6,6,6,6,6,6,6,6,6,6,6,6,6,6,6,6,6,6,6,6,6,6,6,6,6,6,6,7,7,7,7,7,7,7,7,7,7,7,7,7,7,7,7,7,7,7,7,7,7,7,7,7,7,7,7,7,7,7,7,7,7,7,7,7,7,7,7,7,7,7,7,7,7,7,7,7,7,7,7,7,7,7,7,7,7,7,7,7,7,7,7,8,8,8,8,8,8,8,8,8,8,8,8,8,8,8,8,8,8,8,8,8,8,8,8,8,8,8,8,8,8,8,8,8,8,8,8,8,8,8,8,8,8,8,8,8,8,8,8,8,8,8,8,8,8,8,8,8,8,8,8,8,8,8,8,8,8,8,8,8,8,8,8,8,8,8,8,8,8,8,8,8,8,8,8,8,8,8,8,8,8,8,8,8,8,8,8,8,8,8,8,8,8,8,8,8,8,8,8,8,8,8,8,8,8,8,8,8,8,8,8,8,8,8,8,8,8,8,8]⟩:ByteArray) (eD .u8 (cV .u64 x 16))))))) aJ)) (aS (BI x 256) (aS (gU (eD .u8 (cV .u64 x 8)) 256) (k (Ar.out (bV .i64 8 (eD .i64 (ags (⟨#[0,1,2,2,3,3,3,3,4,4,4,4,4,4,4,4,5,5,5,5,5,5,5,5,5,5,5,5,5,5,5,5,6,6,6,6,6,6,6,6,6,6,6,6,6,6,6,6,6,6,6,6,6,6,6,6,6,6,6,6,6,6,6,6,7,7,7,7,7,7,7,7,7,7,7,7,7,7,7,7,7,7,7,7,7,7,7,7,7,7,7,7,7,7,7,7,7,7,7,7,7,7,7,7,7,7,7,7,7,7,7,7,7,7,7,7,7,7,7,7,7,7,7,7,7,7,7,7,8,8,8,8,8,8,8,8,8,8,8,8,8,8,8,8,8,8,8,8,8,8,8,8,8,8,8,8,8,8,8,8,8,8,8,8,8,8,8,8,8,8,8,8,8,8,8,8,8,8,8,8,8,8,8,8,8,8,8,8,8,8,8,8,8,8,8,8,8,8,8,8,8,8,8,8,8,8,8,8,8,8,8,8,8,8,8,8,8,8,8,8,8,8,8,8,8,8,8,8,8,8,8,8,8,8,8,8,8,8,8,8,8,8,8,8,8,8,8,8,8,8,8,8,8,8,8,8]⟩:ByteArray) (eD .u8 (cV .u64 x 8))))))) aJ) (aS (gU (eD .u8 x) 256) (k (Ar.out (bV .i64 0 (eD .i64 (ags (⟨#[0,1,2,2,3,3,3,3,4,4,4,4,4,4,4,4,5,5,5,5,5,5,5,5,5,5,5,5,5,5,5,5,6,6,6,6,6,6,6,6,6,6,6,6,6,6,6,6,6,6,6,6,6,6,6,6,6,6,6,6,6,6,6,6,7,7,7,7,7,7,7,7,7,7,7,7,7,7,7,7,7,7,7,7,7,7,7,7,7,7,7,7,7,7,7,7,7,7,7,7,7,7,7,7,7,7,7,7,7,7,7,7,7,7,7,7,7,7,7,7,7,7,7,7,7,7,7,7,8,8,8,8,8,8,8,8,8,8,8,8,8,8,8,8,8,8,8,8,8,8,8,8,8,8,8,8,8,8,8,8,8,8,8,8,8,8,8,8,8,8,8,8,8,8,8,8,8,8,8,8,8,8,8,8,8,8,8,8,8,8,8,8,8,8,8,8,8,8,8,8,8,8,8,8,8,8,8,8,8,8,8,8,8,8,8,8,8,8,8,8,8,8,8,8,8,8,8,8,8,8,8,8,8,8,8,8,8,8,8,8,8,8,8,8,8,8,8,8,8,8,8,8,8,8,8,8]⟩:ByteArray) (eD .u8 x)))))) aJ))):=cT
theorem auG:Ar.Ok:=by intro y h;rw[auF];obtain rfl | rfl | rfl:=h <;> kernel_rfl
theorem ao6:Ar.RS:=rE [.d tu] Ar
def auH:=Ar.gm auG
def au1:Int->Prop:=aEK
def au0:Int->Int:=λy=>if y=4611686018427377339 then 2 else 3
def aiY:Fs Tryz.prog au1 bF au0:=gg 167 Tryz.f167 (λx=>([.d tu x],[])) (λx=>⟨.d ti x,[],[]⟩) [al tu] [auH]
theorem azD(x)(k:K1 R):aiY.A x k=aq (Ar.call x) λx1=>k (aiY.out (dM .i64 64 x1)):=cT
theorem azE:aiY.Ok:=by intro y h;rw[azD,ao6 (d:=y) h];obtain rfl | rfl | rfl:=h <;> rfl
theorem au2:aiY.RS:=rE [.d tu] aiY
def azF:=aiY.gm azE
abbrev IK:=Int×Int×Int×Int×Int×Int×Int×Int×Int
def KO:IK->Int->((Int×Int×Int×Int×Int×Int×Int)×(Int)):=λ(Xv,sv,yn1,yn0,un32,un1,un0,q1,rhat) y=>((Xv,sv,yn1,yn0,un32,un1,un0),y)
abbrev IL:=Int×Int×Int×Int×Int×Int×Int×Int×Int
def KQ:IL->Int->((Int×Int×Int×Int×Int)×(Int)):=λ(Xw,jt,Ii,Wi,Gd,W1,Dq,un21,q0) y=>((Xw,jt,Gd,W1,un21),y)
def KN:IK->Prop:=λ(y,sv,yn1,yn0,u,w,un0,q,r)=>∃e:Int,(e=42260\/e=42264\/e=42272)/\y=18446744073709551616 - e/\yn1=4294967295/\yn0=4294967296 - e/\0<=u/\u < 18446744073709551616 - e/\0<=w/\w < 4294967296/\0<=r/\r < 4294967296/\q*4294967295+r=u/\(u*4294967296+w) / (18446744073709551616 - e)<=q
def CR:IK->Int:=λ(y,sv,yn1,yn0,u,w,un0,q,r)=>(u*4294967296+w) / y
def KP:IL->Prop:=λ(y,sv,yn1,yn0,w,q1,r,u,q)=>∃e:Int,(e=42260\/e=42264\/e=42272)/\y=18446744073709551616 - e/\yn1=4294967295/\yn0=4294967296 - e/\0<=u/\u < 18446744073709551616 - e/\0<=w/\w < 4294967296/\0<=r/\r < 4294967296/\q*4294967295+r=u/\(u*4294967296+w) / (18446744073709551616 - e)<=q
def CS:IL->Int:=λ(y,sv,yn1,yn0,w,q1,r,u,q)=>(u*4294967296+w) / y
def X3:(Int×Int×Int)->Prop:=λ(hi,lo,y)=>(aEK y\/hi=0/\0 < y/\y < 18446744073709551616)/\0<=hi/\hi < y/\0<=lo/\lo < 18446744073709551616
def aah:(Int×Int×Int)->(Int×Int):=λ(hi,lo,y)=>((hi*18446744073709551616+lo) / y,(hi*18446744073709551616+lo)%y)
def nc:Ls KN KO CR:=xM (λ(Xv,sv,yn1,yn0,un32,un1,un0,q1,rhat)=>⟨([cw,cw,.d tu Xv]++bg 5 ([.d tu sv,.d tu yn1,.d tu yn0,.d tu un32,cw,.d tu un1,.d tu un0,.d tu q1,.d tu rhat]++bg 118 [])),[],(ai 135 [])⟩) (λx=>(.exit 0,⟨([cw,cw,.d tu x.1.1]++bg 5 ([.d tu x.1.2.1,.d tu x.1.2.2.1,.d tu x.1.2.2.2.1,.d tu x.1.2.2.2.2.1,cw,.d tu x.1.2.2.2.2.2.1,.d tu x.1.2.2.2.2.2.2,.d tu x.2]++bg 119 [])),[],(ai 135 [])⟩))
def nf:Ls KP KQ CS:=xM (λ(Xw,jt,Ii,Wi,Gd,W1,Dq,un21,q0)=>⟨([cw,cw,.d tu Xw]++bg 5 ([.d tu jt,.d tu Ii,.d tu Wi,cw,cw,cw,.d tu Gd,.d tu W1,.d tu Dq,.d tu un21,.d tu q0]++bg 116 [])),[],(ai 135 [])⟩) (λx=>(.exit 2,⟨([cw,cw,.d tu x.1.1]++bg 5 ([.d tu x.1.2.1]++bg 5 ([.d tu x.1.2.2.1,.d tu x.1.2.2.2.1,cw,.d tu x.1.2.2.2.2,.d tu x.2]++bg 116 []))),[],(ai 135 [])⟩))
def Aj:Fs Tryz.prog X3 bF aah:=gg 164 Tryz.f164 (λ(hi,lo,yv)=>([.d tu hi,.d tu lo,.d tu yv],[])) (λx=>⟨.cons (.d tu x.1) (.cons (.d tu x.2) (.nil)),[],[]⟩) [al tu,al tu,al tu] [azF] {loops:=sk [(17,{bu:=[2,8,9,10,11,13,14,15,16]}),(24,{bu:=[2,8,9,10,14,15,16,17,18]})],outs:=sj [(17,{bu:=[2,8,9,10,11,13,14,15]},{bu:=[6,7]}),(24,{bu:=[2,8,14,15,17,18]},{bu:=[6,7]})],gV:=tK [(17,nc.E),(24,nf.E)]}
theorem aai:nc.RS:=rL [.d tu,.d tu,.d tu,.d tu,.d tu,.d tu,.d tu,.d tu,.d tu] nc
theorem A3(Xv sv yn1 yn0 un32 un1 un0 q1 rhat)(kn:K2 R)(kx:K3 R):Aj.R 0 nc (Xv,sv,yn1,yn0,un32,un1,un0,q1,rhat) kn kx=aS (BI q1 4294967296) (aS (BI (bV .u64 rhat yn1) 4294967296) (nc.go kx ((Xv,sv,yn1,yn0,un32,un1,un0),(dM .u64 q1 1))) (kn (nc.st (Xv,sv,yn1,yn0,un32,un1,un0,(dM .u64 q1 1),(bV .u64 rhat yn1))))) (aS (Ap (je .u64 q1 yn0) (bV .u64 (je .u64 4294967296 rhat) un1)) (aS (BI (bV .u64 rhat yn1) 4294967296) (nc.go kx ((Xv,sv,yn1,yn0,un32,un1,un0),(dM .u64 q1 1))) (kn (nc.st (Xv,sv,yn1,yn0,un32,un1,un0,(dM .u64 q1 1),(bV .u64 rhat yn1))))) (nc.go kx ((Xv,sv,yn1,yn0,un32,un1,un0),q1))):=cT
theorem aaj:nf.RS:=rL [.d tu,.d tu,.d tu,.d tu,.d tu,.d tu,.d tu,.d tu,.d tu] nf
theorem A4(Xw jt Ii Wi Gd W1 Dq un21 q0)(kn:K2 R)(kx:K3 R):Aj.R 1 nf (Xw,jt,Ii,Wi,Gd,W1,Dq,un21,q0) kn kx=aS (BI q0 4294967296) (aS (BI (bV .u64 Dq Ii) 4294967296) (nf.go kx ((Xw,jt,Gd,W1,un21),(dM .u64 q0 1))) (kn (nf.st (Xw,jt,Ii,Wi,Gd,W1,(bV .u64 Dq Ii),un21,(dM .u64 q0 1))))) (aS (Ap (je .u64 q0 Wi) (bV .u64 (je .u64 4294967296 Dq) Gd)) (aS (BI (bV .u64 Dq Ii) 4294967296) (nf.go kx ((Xw,jt,Gd,W1,un21),(dM .u64 q0 1))) (kn (nf.st (Xw,jt,Ii,Wi,Gd,W1,(bV .u64 Dq Ii),un21,(dM .u64 q0 1))))) (nf.go kx ((Xw,jt,Gd,W1,un21),q0))):=cT
theorem att(hi lo yv)(k:K1 R):Aj.A (hi,lo,yv) k=aS (HA yv 0) (aJ) (aS (ahg yv hi) (aJ) (aS (HA hi 0) (aS (qE yv) (aS (qE yv) (k (Aj.out ((A7 .u64 lo yv),(tW lo yv)))) aJ) aJ) (aq (aiY.call yv) λx1=>aS (rr (eD .u64 x1)) (aS (rr (eD .u64 x1)) (aS (rr (dM .u64 64 (eD .u64 x1))) (aS (rr (eD .u64 x1)) (aS (qE (cV .u64 (nQ .u64 yv (eD .u64 x1)) 32)) (aq (nc.call ((nQ .u64 yv (eD .u64 x1)),(eD .u64 x1),(cV .u64 (nQ .u64 yv (eD .u64 x1)) 32),(eh .and .u64 (nQ .u64 yv (eD .u64 x1)) 4294967295),(eh .or .u64 (nQ .u64 hi (eD .u64 x1)) (cV .u64 lo (dM .u64 64 (eD .u64 x1)))),(cV .u64 (nQ .u64 lo (eD .u64 x1)) 32),(eh .and .u64 (nQ .u64 lo (eD .u64 x1)) 4294967295),(A7 .u64 (eh .or .u64 (nQ .u64 hi (eD .u64 x1)) (cV .u64 lo (dM .u64 64 (eD .u64 x1)))) (cV .u64 (nQ .u64 yv (eD .u64 x1)) 32)),(dM .u64 (eh .or .u64 (nQ .u64 hi (eD .u64 x1)) (cV .u64 lo (dM .u64 64 (eD .u64 x1)))) (je .u64 (A7 .u64 (eh .or .u64 (nQ .u64 hi (eD .u64 x1)) (cV .u64 lo (dM .u64 64 (eD .u64 x1)))) (cV .u64 (nQ .u64 yv (eD .u64 x1)) 32)) (cV .u64 (nQ .u64 yv (eD .u64 x1)) 32))))) λx2=>aS (qE x2.1.2.2.1) (aq (nf.call (x2.1.1,x2.1.2.1,x2.1.2.2.1,x2.1.2.2.2.1,x2.1.2.2.2.2.2.2,x2.2,(dM .u64 (dM .u64 (bV .u64 (je .u64 x2.1.2.2.2.2.1 4294967296) x2.1.2.2.2.2.2.1) (je .u64 x2.2 x2.1.1)) (je .u64 (A7 .u64 (dM .u64 (bV .u64 (je .u64 x2.1.2.2.2.2.1 4294967296) x2.1.2.2.2.2.2.1) (je .u64 x2.2 x2.1.1)) x2.1.2.2.1) x2.1.2.2.1)),(dM .u64 (bV .u64 (je .u64 x2.1.2.2.2.2.1 4294967296) x2.1.2.2.2.2.2.1) (je .u64 x2.2 x2.1.1)),(A7 .u64 (dM .u64 (bV .u64 (je .u64 x2.1.2.2.2.2.1 4294967296) x2.1.2.2.2.2.2.1) (je .u64 x2.2 x2.1.1)) x2.1.2.2.1))) λx3=>aS (rr x3.1.2.1) (k (Aj.out ((bV .u64 (je .u64 x3.1.2.2.2.1 4294967296) x3.2),(cV .u64 (dM .u64 (bV .u64 (je .u64 x3.1.2.2.2.2 4294967296) x3.1.2.2.1) (je .u64 x3.2 x3.1.1)) x3.1.2.1)))) aJ) aJ) aJ) aJ) aJ) aJ) aJ))):=cT
theorem aec:(Aj.mw 0 nc):=by
 refine(Aj.qz 0 nc) (λ(y,sv,yn1,yn0,u,w,un0,q,r)=>q.toNat) ?_
 rintro⟨y,sv,yn1,yn0,u,w,un0,q,r⟩ ⟨e,he,rfl,rfl,rfl,hu,acI,hw,arA,hr,aeD,hq,hQ⟩;have hu:0<=u:=hu;have acI:u < 18446744073709551616 - e:=acI;have hw:0<=w:=hw;have arA:w < 4294967296:=arA;have hr:0<=r:=hr;have aeD:r < 4294967296:=aeD;have hq:q*4294967295+r=u:=hq;obtain⟨k1,k2,k3,k4,k5,k6⟩:=k1 he hu acI hw arA hr aeD hq hQ;have q0:0<=q:=Int.le_trans k5 hQ;have a1:bV .u64 r 4294967295=r+4294967295:=by rw[xC];omega
 have a2:bV .u64 (je .u64 4294967296 r) w=4294967296*r+w:=by rw[xD,xC];omega
 have a3:q < 4294967296->je .u64 q (4294967296 - e)=q*(4294967296 - e):=by intro h;rw[xD];rcases he with rfl | rfl | rfl <;> omega
 have a4:0 < q->dM .u64 q 1=q - 1:=by intro h;rw[Rt];omega
 have pos:4294967296<=q\/(q < 4294967296/\4294967296*r+w < q*(4294967296 - e))->0 < q/\(u*4294967296+w) / (18446744073709551616 - e)<=q - 1:=by
  rintro(h | ⟨h,h2⟩)
  ·exact⟨au,k1 h⟩
  ·exact⟨by have:=k2 h h2;omega,k2 h h2⟩
 by_cases hc:4294967296<=q\/(q < 4294967296/\4294967296*r+w < q*(4294967296 - e))
 ·obtain⟨p1,p2⟩:=pos hc;by_cases hb:4294967296<=r+4294967295
  ·right;have hF:CR (18446744073709551616 - e,sv,4294967295,4294967296 - e,u,w,un0,q,r)=q - 1:=k4 hb p2;intro R kn kx;rw[A3,a1,a2,a4 p1,ig hb,hF];rcases hc with h | ⟨h,h2⟩
   ·rw[ig h];rfl
   ·rw[fa au,a3 h,dX h2];rfl
  ·left;refine⟨(18446744073709551616 - e,sv,4294967295,4294967296 - e,u,w,un0,q - 1,r+4294967295),⟨e,he,rfl,rfl,rfl,hu,acI,hw,arA,au,au,au,p2⟩,by simp only[];omega,rfl,λkn kx=> ?_⟩;rw[A3,a1,a2,a4 p1,fa hb];rcases hc with h | ⟨h,h2⟩
   ·rw[ig h];rfl
   ·rw[fa au,a3 h,dX h2];rfl
 ·right;have h:q < 4294967296:=au;have h2:¬4294967296*r+w < q*(4294967296 - e):=λx=>hc (fv ⟨h,x⟩)
  have hF:CR (18446744073709551616 - e,sv,4294967295,4294967296 - e,u,w,un0,q,r)=q:=k3 h au;intro R kn kx;rw[A3,a2,a3 h,fa au,dx h2,hF];rfl
theorem aed:(Aj.mw 1 nf):=by
 refine(Aj.qz 1 nf) (λ(y,sv,yn1,yn0,w,q1,r,u,q)=>q.toNat) ?_
 rintro⟨y,sv,yn1,yn0,w,q1,r,u,q⟩ ⟨e,he,rfl,rfl,rfl,hu,acI,hw,arA,hr,aeD,hq,hQ⟩;have hu:0<=u:=hu;have acI:u < 18446744073709551616 - e:=acI;have hw:0<=w:=hw;have arA:w < 4294967296:=arA;have hr:0<=r:=hr;have aeD:r < 4294967296:=aeD;have hq:q*4294967295+r=u:=hq;obtain⟨k1,k2,k3,k4,k5,k6⟩:=k1 he hu acI hw arA hr aeD hq hQ;have q0:0<=q:=Int.le_trans k5 hQ;have a1:bV .u64 r 4294967295=r+4294967295:=by rw[xC];omega
 have a2:bV .u64 (je .u64 4294967296 r) w=4294967296*r+w:=by rw[xD,xC];omega
 have a3:q < 4294967296->je .u64 q (4294967296 - e)=q*(4294967296 - e):=by intro h;rw[xD];rcases he with rfl | rfl | rfl <;> omega
 have a4:0 < q->dM .u64 q 1=q - 1:=by intro h;rw[Rt];omega
 have pos:4294967296<=q\/(q < 4294967296/\4294967296*r+w < q*(4294967296 - e))->0 < q/\(u*4294967296+w) / (18446744073709551616 - e)<=q - 1:=by
  rintro(h | ⟨h,h2⟩)
  ·exact⟨au,k1 h⟩
  ·exact⟨by have:=k2 h h2;omega,k2 h h2⟩
 by_cases hc:4294967296<=q\/(q < 4294967296/\4294967296*r+w < q*(4294967296 - e))
 ·obtain⟨p1,p2⟩:=pos hc;by_cases hb:4294967296<=r+4294967295
  ·right;have hF:CS (18446744073709551616 - e,sv,4294967295,4294967296 - e,w,q1,r,u,q)=q - 1:=k4 hb p2;intro R kn kx;rw[A4,a1,a2,a4 p1,ig hb,hF];rcases hc with h | ⟨h,h2⟩
   ·rw[ig h];rfl
   ·rw[fa au,a3 h,dX h2];rfl
  ·left;refine⟨(18446744073709551616 - e,sv,4294967295,4294967296 - e,w,q1,r+4294967295,u,q - 1),⟨e,he,rfl,rfl,rfl,hu,acI,hw,arA,au,au,au,p2⟩,by simp only[];omega,rfl,λkn kx=> ?_⟩;rw[A4,a1,a2,a4 p1,fa hb];rcases hc with h | ⟨h,h2⟩
   ·rw[ig h];rfl
   ·rw[fa au,a3 h,dX h2];rfl
 ·right;have h:q < 4294967296:=au;have h2:¬4294967296*r+w < q*(4294967296 - e):=λx=>hc (fv ⟨h,x⟩)
  have hF:CS (18446744073709551616 - e,sv,4294967295,4294967296 - e,w,q1,r,u,q)=q:=k3 h au;intro R kn kx;rw[A4,a2,a3 h,fa au,dx h2,hF];rfl
theorem aCy{y hi lo:Int}(hy:aEK y)(h0:0<=hi)(h1:hi < y)(h2:0<=lo)(h3:lo < 18446744073709551616):∃(s:Nat) (e m:Int),au0 y=s/\(s=2\/s=3)/\m=2^s/\(e=42260\/e=42264\/e=42272)/\y*m=18446744073709551616 - e/\
  nQ .u64 y (s:Int)=18446744073709551616 - e/\
  eh .or .u64 (nQ .u64 hi (s:Int)) (cV .u64 lo (dM .u64 64 (s:Int)))=(hi*18446744073709551616+lo)*m / 18446744073709551616/\
  nQ .u64 lo (s:Int)=(hi*18446744073709551616+lo)*m%18446744073709551616/\
  (hi*18446744073709551616+lo)*m / 18446744073709551616 < 18446744073709551616 - e/\
  (hi*18446744073709551616+lo)*m / (18446744073709551616 - e)=(hi*18446744073709551616+lo) / y/\
  (hi*18446744073709551616+lo)*m%(18446744073709551616 - e) / m=(hi*18446744073709551616+lo)%y:=by
 have e1:dM .u64 64 ((2:Nat):Int)=((62:Nat):Int):=rfl;have e2:dM .u64 64 ((3:Nat):Int)=((61:Nat):Int):=rfl;have p2:(2:Int)^2=4:=rfl;have p3:(2:Int)^3=8:=rfl;have p61:(2:Int)^61=2305843009213693952:=rfl;have p62:(2:Int)^62=4611686018427387904:=rfl;obtain rfl | rfl | rfl:=hy
 ·refine⟨2,42260,4,rfl,lr rfl,rfl,lr rfl,rfl,by rw[uW 2 (by rfl) au,p2];omega,?_,?_,au,au,au⟩
  ·rw[e1,uW 2 (by rfl) au,uX 62 (by rfl) au,p2,p62,LH 2 4 rfl au au au au au au];omega
  ·rw[uW 2 (by rfl) au,p2];omega
 ·refine⟨3,42264,8,rfl,fv rfl,rfl,fv (lr rfl),rfl,by rw[uW 3 (by rfl) au,p3];omega,?_,?_,au,au,au⟩
  ·rw[e2,uW 3 (by rfl) au,uX 61 (by rfl) au,p3,p61,LH 3 8 rfl au au au au au au];omega
  ·rw[uW 3 (by rfl) au,p3];omega
 ·refine⟨3,42272,8,rfl,fv rfl,rfl,fv (fv rfl),rfl,by rw[uW 3 (by rfl) au,p3];omega,?_,?_,au,au,au⟩
  ·rw[e2,uW 3 (by rfl) au,uX 61 (by rfl) au,p3,p61,LH 3 8 rfl au au au au au au];omega
  ·rw[uW 3 (by rfl) au,p3];omega
theorem aIH(a b c:Int):(((a%18446744073709551616+b)%18446744073709551616) - c%18446744073709551616)%18446744073709551616=(a+b - c)%18446744073709551616:=au
theorem atu:Aj.Ok:=by
 rintro⟨hi,lo,y⟩ ⟨hy,h0,h1,h2,h3⟩;have h0:0<=hi:=h0;have h1:hi < y:=h1;have h2:0<=lo:=h2;have h3:lo < 18446744073709551616:=h3;have yb:0 < y/\y < 18446744073709551616:=by
  rcases hy with hy | hy
  ·obtain rfl | rfl | rfl:=hy <;> omega
  ·exact hy.2
 rw[att,nu au,pA au];simp only[ao];have z:qE y=aT:=by simp[qE];omega
 by_cases hz:hi=0
 ·subst hz;rw[qo rfl,z,alP h2 au h3,GH h2];simp only[ak,aah,bF,Int.zero_mul,Int.zero_add]
 ·have hy:aEK y:=hy.resolve_right λe=>hz e.1
  obtain⟨s,e,m,hs,S0,hm,he,aLy,a1,a2,a3,a4,a5,a6⟩:=aCy hy h0 h1 h2 h3;have c1:eD .u64 (s:Int)=(s:Int):=by rw[aum];omega
  have c2:rr (s:Int)=aT:=vG au;have c3:rr (dM .u64 64 (s:Int))=aT:=by rcases S0 with rfl | rfl <;> rfl
  rw[nu hz,au2 (d:=y) hy];simp only[ao,ae,bF,hs,c1,c2,c3,ak,a1,a2,a3];have hN:0<=(hi*18446744073709551616+lo)*m:=Int.mul_nonneg au (by rcases S0 with rfl | rfl <;> omega)
  revert a4 a5 a6
  generalize (hi*18446744073709551616+lo)*m=N at hN;intro a4 a5 a6;have u0:0<=N / 18446744073709551616:=au;have t0:0<=N%18446744073709551616:=au;have t1:N%18446744073709551616 < 18446744073709551616:=au;have hd:N=(N / 18446744073709551616*4294967296+N%18446744073709551616 / 4294967296)*4294967296+N%18446744073709551616%4294967296:=au;have w10:0<=N%18446744073709551616 / 4294967296:=au;have w11:N%18446744073709551616 / 4294967296 < 4294967296:=au;have w00:0<=N%18446744073709551616%4294967296:=au;have w01:N%18446744073709551616%4294967296 < 4294967296:=au;have p32:(2:Int)^32=4294967296:=rfl;have b1:cV .u64 (18446744073709551616 - e) 32=4294967295:=by rw[uX 32 (by rfl) au,p32];rcases he with rfl | rfl | rfl <;> rfl
  have b2:eh .and .u64 (18446744073709551616 - e) 4294967295=4294967296 - e:=by rw[acW au au];omega
  have b3:cV .u64 (N%18446744073709551616) 32=N%18446744073709551616 / 4294967296:=by rw[uX 32 (by rfl) au,p32]
  have b4:eh .and .u64 (N%18446744073709551616) 4294967295=N%18446744073709551616%4294967296:=acW t0 t1;have z2:qE 4294967295=aT:=rfl;simp only[b1,b2,b3,b4,z2,ak];clear a1 a2 a3 b1 b2 b3 b4;have kdd:=kd (18446744073709551616 - e) (N / 18446744073709551616) (N%18446744073709551616 / 4294967296) (N%18446744073709551616%4294967296) au w00 w01;rw[<-hd,a5]at kdd
  revert a4 kdd
  generalize N / 18446744073709551616=u at u0;generalize N%18446744073709551616 / 4294967296=w1 at w10 w11;generalize N%18446744073709551616%4294967296=w0 at w00 w01;intro a4 kdd
  have g:∀u w:Int,0<=u->u < 18446744073709551616 - e->0<=w->w < 4294967296->
    A7 .u64 u 4294967295=u / 4294967295/\dM .u64 u (je .u64 (u / 4294967295) 4294967295)=u - u / 4294967295*4294967295/\
    dM .u64 (bV .u64 (je .u64 u 4294967296) w) (je .u64 ((u*4294967296+w) / (18446744073709551616 - e)) (18446744073709551616 - e))=(u*4294967296+w)%(18446744073709551616 - e):=by
   intro u w k1 k2 k3 k4;obtain⟨q1,q2,q3,q4,q5,q6,q7,q8⟩:=k0 he k1 k2 k3 k4;refine⟨alP k1 au au,by rw[Rt,xD];omega,?_⟩;rw[Rt,xC,xD,xD,aIH,q4];exact fo q5 au
  obtain⟨f1,f2,f3⟩:=g u w1 u0 a4 w10 w11;obtain⟨q1,q2,q3,q4,q5,q6,q7,q8⟩:=k0 he u0 a4 w10 w11;have p1:KN (18446744073709551616 - e,(s:Int),4294967295,4294967296 - e,u,w1,w0,u / 4294967295,u - u / 4294967295*4294967295):=⟨e,he,rfl,rfl,rfl,u0,a4,w10,w11,q2,q3,au,q1⟩;rw[f1,f2,aai p1];simp only[ae,KO,CR,z2,ak,f3]
  revert f3 q1 kdd
  generalize (u*4294967296+w1)%(18446744073709551616 - e)=v at q4 q5 q6;generalize (u*4294967296+w1) / (18446744073709551616 - e)=Q at q4 q7 q8;intro kdd f3 q1;obtain⟨g1,g2,g3⟩:=g v w0 q5 q6 w00 w01;obtain⟨r1,r2,r3,r4,r5,r6,r7,r8⟩:=k0 he q5 q6 w00 w01;have p2:KP (18446744073709551616 - e,(s:Int),4294967295,4294967296 - e,w0,Q,v - v / 4294967295*4294967295,v,v / 4294967295):=⟨e,he,rfl,rfl,rfl,q5,q6,w00,w01,r2,r3,au,r1⟩;rw[g1,g2,aaj p2];simp only[ae,KQ,CS,c2,ak,g3];rw[<-kdd.2,uX s (by rfl) au,<-hm,a6,xD,xC];have e9:(Q*4294967296%18446744073709551616+(v*4294967296+w0) / (18446744073709551616 - e))%18446744073709551616=(hi*18446744073709551616+lo) / y:=by rw[kdd.1];omega
  rw[e9];rfl
theorem aog:Aj.RS:=rE [.d tu,.d tu,.d tu] Aj
def atv:=Aj.gm atu 2 ⟨.gQ aec,⟨.gQ aed,trivial⟩⟩
def Ol:(Int×Int×Int)->Prop:=λ(hi,lo,y)=>aEK y/\0<=hi/\hi < 18446744073709551616/\0<=lo/\lo < 18446744073709551616
def Ml:(Int×Int×Int)->Int:=λ(hi,lo,y)=>(hi*18446744073709551616+lo)%y
def Mj:Fs Tryz.prog Ol bF Ml:=gg 149 Tryz.f149 (λ(hi,lo,yv)=>([.d tu hi,.d tu lo,.d tu yv],[])) (λx=>⟨.d tu x,[],[]⟩) [al tu,al tu,al tu] [atv]
theorem awx(hi lo yv)(k:K1 R):Mj.A (hi,lo,yv) k=aS (qE yv) (aq (Aj.call ((tW hi yv),lo,yv)) λx1=>k (Mj.out x1.2)) aJ:=cT
theorem awy:Mj.Ok:=by
 rintro⟨hi,lo,y⟩ ⟨hy,h0,h1,h2,h3⟩;have h0:0<=hi:=h0;have yb:0 < y:=by obtain rfl | rfl | rfl:=hy <;> omega
 have z:qE y=aT:=by simp[qE];omega
 have p:X3 (hi%y,lo,y):=⟨.inl hy,kr _ au,jZ _ yb,h2,h3⟩;rw[awx,z,GH h0,aog p];have e:(hi%y*18446744073709551616+lo)%y=(hi*18446744073709551616+lo)%y:=by rw[Int.add_emod,sz,nU _ (Int.dvd_refl y),<-sz,<-Int.add_emod]
 simp only[ak,ae,bF,aah,bF,Ml,e]
theorem Om:Mj.RS:=rE [.d tu,.d tu,.d tu] Mj
def U4:=Mj.gm awy
def apr:(Int×Int)->Prop:=λ(x,y)=>(0<=x/\x < 18446744073709551616)/\0<=y/\y < 18446744073709551616
def Ly:(Int×Int)->(Int×Int):=λ(x,y)=>(x*y / 18446744073709551616,x*y%18446744073709551616)
def E7:Fs Tryz.prog apr bF Ly:=gg 93 Tryz.f93 (λ(x,yv)=>([.d tu x,.d tu yv],[])) (λx=>⟨.cons (.d tu x.1) (.cons (.d tu x.2) (.nil)),[],[]⟩) [al tu,al tu]
theorem au5(x yv)(k:K1 R):E7.A (x,yv) k=k (E7.out ((bV .u64 (bV .u64 (je .u64 (cV .u64 x 32) (cV .u64 yv 32)) (cV .u64 (bV .u64 (je .u64 (cV .u64 x 32) (eh .and .u64 yv 4294967295)) (cV .u64 (je .u64 (eh .and .u64 x 4294967295) (eh .and .u64 yv 4294967295)) 32)) 32)) (cV .u64 (bV .u64 (eh .and .u64 (bV .u64 (je .u64 (cV .u64 x 32) (eh .and .u64 yv 4294967295)) (cV .u64 (je .u64 (eh .and .u64 x 4294967295) (eh .and .u64 yv 4294967295)) 32)) 4294967295) (je .u64 (eh .and .u64 x 4294967295) (cV .u64 yv 32))) 32)),(je .u64 x yv))):=cT
theorem N0{a b m n:Int}(h0:0<=a)(h1:a<=m)(h2:0<=b)(h3:b<=n):0<=a*b/\a*b<=m*n:=⟨Int.mul_nonneg h0 h2,Int.mul_le_mul h1 h3 h2 (Int.le_trans h0 h1)⟩
theorem au6:E7.Ok:=by
 rintro⟨x,y⟩ ⟨⟨h0,h1⟩,h2,h3⟩;have h0:0<=x:=h0;have h1:x < 18446744073709551616:=h1;have h2:0<=y:=h2;have h3:y < 18446744073709551616:=h3;rw[au5];have p32:(2:Int)^32=4294967296:=rfl;have aK5:∀x:Int,cV .u64 x 32=x / 4294967296:=λx=>by rw[uX 32 (by rfl) au,p32]
 simp only[aK5,acW h0 h1,acW h2 h3];obtain⟨a,b,rfl,a0,a1,b0,b1⟩:∃a b:Int,x=a*4294967296+b/\0<=a/\a<=4294967295/\0<=b/\b<=4294967295:=⟨x / 4294967296,x%4294967296,au,au,au,au,au⟩;obtain⟨c,d,rfl,c0,c1,d0,d1⟩:∃a b:Int,y=a*4294967296+b/\0<=a/\a<=4294967295/\0<=b/\b<=4294967295:=⟨y / 4294967296,y%4294967296,au,au,au,au,au⟩;have e1:(a*4294967296+b) / 4294967296=a:=au;have e2:(a*4294967296+b)%4294967296=b:=au;have e3:(c*4294967296+d) / 4294967296=c:=au;have e4:(c*4294967296+d)%4294967296=d:=au;have e5:(a*4294967296+b)*(c*4294967296+d)=a*c*18446744073709551616+(a*d+b*c)*4294967296+b*d:=by
  have q:(4294967296:Int)*4294967296=18446744073709551616:=rfl;rw[Int.add_mul,Int.mul_add,Int.mul_add];have q1:a*4294967296*(c*4294967296)=a*c*18446744073709551616:=by rw[<-q];ac_rfl
  have q2:a*4294967296*d=a*d*4294967296:=by ac_rfl
  have q3:b*(c*4294967296)=b*c*4294967296:=by ac_rfl
  rw[q1,q2,q3];omega
 obtain⟨m1,m2⟩:=N0 a0 a1 c0 c1;obtain⟨m3,m4⟩:=N0 a0 a1 d0 d1;obtain⟨m5,m6⟩:=N0 b0 b1 c0 c1;obtain⟨m7,m8⟩:=N0 b0 b1 d0 d1;have n:(4294967295:Int)*4294967295=18446744065119617025:=rfl;rw[n]at m2 m4 m6 m8;simp only[e1,e2,e3,e4,bF,Ly,e5,xD,xC]
 revert m1 m2 m3 m4 m5 m6 m7 m8
 generalize a*c=ac;generalize a*d=ad;generalize b*c=bc;generalize b*d=bd;intro m1 m2 m3 m4 m5 m6 m7 m8;have q1:bd%18446744073709551616=bd:=au;have q2:ad%18446744073709551616=ad:=au;have q3:bc%18446744073709551616=bc:=au;have q4:ac%18446744073709551616=ac:=au;rw[q1,q2,q3,q4];have q5:(ad+bd / 4294967296)%18446744073709551616=ad+bd / 4294967296:=au;have q6:eh .and .u64 (ad+bd / 4294967296) 4294967295=(ad+bd / 4294967296)%4294967296:=acW au au;rw[q5,q6];refine bE al (bE E7.out (Prod.ext ?_ ?_))
 ·show _=(_:Int);simp only[];omega
 ·rfl
theorem GL:E7.RS:=rE [.d tu,.d tu] E7
def TP:=E7.gm au6
def Pn(x:Int):Prop:=0<=x/\x < 4611686018427377339
def nY(x:Int):Prop:=0<=x/\x < 18446744073709551616
theorem Pn.u{x:Int}(h:Pn x):nY x:=⟨h.1,by have:=h.2;omega⟩
def tM(a b:Int):Int:=a*b%4611686018427377339
theorem Aw(a b:Int):Pn (tM a b):=⟨kr _ au,jZ _ au⟩
def amA:Nat->Int->Nat->Int->Int
 | 0,_,_,out=>out
 |f+1,a,n,out=>if n=0 then out else amA f (tM a a) (n / 2) (if n%2=1 then tM out a else out)
def pw(a:Int)(n:Nat):Int:=amA 64 a n 1
theorem Cf(f:Nat)(a out:Int):amA f a 0 out=out:=by cases f <;> rfl
theorem af2:∀(f g:Nat) (a:Int) (n:Nat) (out:Int),n < 2^f->n < 2^g->amA f a n out=amA g a n out
 | 0,g,a,n,out,h,_=>by obtain rfl:n=0:=au;rw[Cf,Cf]
 |f+1,0,a,n,out,_,h=>by obtain rfl:n=0:=au;rw[Cf,Cf]
 |f+1,g+1,a,n,out,h,h'=>by
  have e:(2:Nat)^(f+1)=2^f*2:=Nat.pow_succ 2 f;have e':(2:Nat)^(g+1)=2^g*2:=Nat.pow_succ 2 g;unfold amA;split
  ·rfl
  ·exact af2 f g _ _ _ au au
theorem awt:∀(f:Nat) (a:Int) (n:Nat) (out:Int),Pn out->Pn (amA f a n out)
 | 0,_,_,_,h=>h
 |f+1,a,n,out,h=>by
  unfold amA;split
  ·exact h
  ·refine awt f _ _ _ ?_
   split
   ·exact Aw _ _
   ·exact h
theorem af3(a:Int)(n:Nat):Pn (pw a n):=awt _ _ _ _ ⟨au,au⟩
def ajP:(Int×Int)->Prop:=λ(a,b)=>nY a/\nY b
def awp:(Int×Int)->Int:=λ(a,b)=>tM a b
def Bm:Fs Tryz.prog ajP bF awp:=gg 138 Tryz.f138 (λ(a,b)=>([.d tu a,.d tu b],[])) (λx=>⟨.d tu x,[],[]⟩) [al tu,al tu] [TP,U4]
theorem aqm(a b)(k:K1 R):Bm.A (a,b) k=aq (E7.call (a,b)) λx1=>aq (Mj.call (x1.1,x1.2,4611686018427377339)) λx2=>k (Bm.out x2):=cT
theorem Wb(n:Int):n / 18446744073709551616*18446744073709551616+n%18446744073709551616=n:=au
theorem aqn:Bm.Ok:=by rintro⟨a,b⟩ ⟨ha,hb⟩;have ha:nY a:=ha;have hb:nY b:=hb;obtain⟨m1,m2⟩:=N0 ha.1 (show a<=18446744073709551615 by have:=ha.2;omega) hb.1 (show b<=18446744073709551615 by have:=hb.2;omega);have n:(18446744073709551615:Int)*18446744073709551615=340282366920938463426481119284349108225:=rfl;rw[n]at m2;have p:Ol (a*b / 18446744073709551616,a*b%18446744073709551616,4611686018427377339):=⟨lr rfl,au,au,au,au⟩;rw[aqm,GL (d:=(a,b)) ⟨ha,hb⟩];simp only[ae,bF,Ly];rw[Om p];simp only[ae,bF,Ml,Wb];rfl
theorem Jw:Bm.RS:=rE [.d tu,.d tu] Bm
def YU:=Bm.gm aqn
def WY:(Int×Int×Int)->Prop:=λ(a,n,o)=>nY a/\nY n/\Pn o
def AG:(Int×Int×Int)->Int:=λ(a,n,o)=>amA 64 a n.toNat o
def ajJ:(Int×Int)->Prop:=λ(a,n)=>nY a/\nY n
def afX:(Int×Int)->Int:=λ(a,n)=>pw a n.toNat
def nC:Ls WY bF AG:=xM (λ(acO,Cr,outv)=>⟨([.d tu acO,.d tu Cr,cw,cw,cw,.d tu outv]++bg 14 []),[],(ai 20 [])⟩) (λx=>(.exit 0,⟨(bg 5 ([.d tu x]++bg 14 [])),[],(ai 20 [])⟩))
def wh:Fs Tryz.prog ajJ bF afX:=gg 98 Tryz.f98 (λ(a,n)=>([.d tu a,.d tu n],[])) (λx=>⟨.d tu x,[],[]⟩) [al tu,al tu] [YU] {loops:=sk [(2,{bu:=[0,1,5]})],outs:=sj [(2,{bu:=[5]},{bu:=[4]})],gV:=tK [(2,nC.E)]}
theorem WZ:nC.RS:=rL [.d tu,.d tu,.d tu] nC
theorem Fq(acO Cr outv)(kn:K2 R)(kx:K3 R):wh.R 0 nC (acO,Cr,outv) kn kx=aS (Ap Cr 0) (aS (HA (eh .and .u64 Cr 1) 1) (aq (Bm.call (outv,acO)) λx1=>aq (Bm.call (acO,acO)) λx2=>kn (nC.st (x2,(cV .u64 Cr 1),x1))) (aq (Bm.call (acO,acO)) λx3=>kn (nC.st (x3,(cV .u64 Cr 1),outv)))) (nC.go kx outv):=cT
theorem aqc(a n)(k:K1 R):wh.A (a,n) k=aq (nC.call (a,n,1)) λx4=>k (wh.out x4):=cT
theorem aI2{n:Int}(h:nY n):cV .u64 n 1=n / 2:=uX 1 (by rfl) au
theorem abL:(wh.mw 0 nC):=by
 refine(wh.qz 0 nC) (λ(a,n,o)=>n.toNat) ?_
 rintro⟨a,n,o⟩ ⟨ha,hn,ho⟩;have ha:nY a:=ha;have hn:nY n:=hn;have ho:Pn o:=ho;have n0:=hn.1;have n1:=hn.2;by_cases h:0 < n
 ·left;have e:AG (a,n,o)=AG (tM a a,n / 2,if n%2=1 then tM o a else o):=by
   show amA 64 a n.toNat o=amA 64 (tM a a) (n / 2).toNat _;rw[af2 64 65 a n.toNat o au au];have t1:(n / 2).toNat=n.toNat / 2:=au;have t2:(n%2=1)=(n.toNat%2=1):=by apply propext;omega
   rw[t1];simp only[t2];show(if n.toNat=0 then o else _)=_;rw[if_neg au]
  refine⟨(tM a a,n / 2,if n%2=1 then tM o a else o),⟨(Aw a a).u,⟨au,au⟩,?_⟩,by show(n / 2).toNat < n.toNat;omega,?_,λkn kx=> ?_⟩
  ·show Pn (if n%2=1 then tM o a else o);split
   ·exact Aw _ _
   ·exact ho
  ·exact bE _ e.symm
  ·rw[Fq,dX h,aI2 hn,aHF n0 n1,Jw (d:=(o,a)) ⟨ho.u,ha⟩,Jw (d:=(a,a)) ⟨ha,ha⟩];by_cases h1:n%2=1
   ·rw[qo h1,if_pos h1];rfl
   ·rw[nu h1,if_neg h1];rfl
 ·right;intro R kn kx;obtain rfl:n=0:=au;rw[Fq,dx au];simp only[ao,bF,AG];rw[show amA 64 a (ab 0) o=o from Cf _ _ _]
theorem aqd:wh.Ok:=by rintro⟨a,n⟩ ⟨ha,hn⟩;rw[aqc,WZ (d:=(a,n,1)) ⟨ha,hn,au,au⟩];rfl
theorem Ju:wh.RS:=rE [.d tu,.d tu] wh
def Od:=wh.gm aqd 1 ⟨.gQ abL,trivial⟩
def BJ(p:Int):Bool:=decide (0 < p/\p < 4611686018427377339) && decide (pw p 2305843009213688669=1)
def tk(p:Int):Int:=if BJ p then p else 1
theorem axi(p:Int):Pn (tk p):=by
 unfold tk;split
 ·rename_i h;simp only[BJ,av,aW]at h;exact⟨au,au⟩
 ·exact⟨au,au⟩
def Dt(p k:Int):Int:=pw (tk p) (k%2305843009213688669).toNat
def gD(k:Int):Int:=Dt 4 k
def afk(p:Int):Int:=pw (tk p) 2305843009213688668
def Ra(l:List Int):Int:=l.foldl (λo p=>tM o (tk p)) 1
theorem aAN(l:List Int)(o:Int)(h:Pn o):Pn (l.foldl (λo p=>tM o (tk p)) o):=by
 induction l generalizing o with
 |nil=>exact h
 |cons p l ih=>exact ih _ (Aw _ _)
theorem aAO(l:List Int):Pn (Ra l):=aAN l 1 ⟨au,au⟩
def ajK:Int->Prop:=λp=>nY p
def Me:Int->Bool:=λp=>BJ p
def ug:Fs Tryz.prog ajK bF Me:=gg 60 Tryz.f60 (λp=>([.d tu p],[])) (λx=>⟨.d .bool x,[],[]⟩) [al tu] [Od]
theorem aqe(p)(k:K1 R):ug.A p k=aS (Ap p 0) (aS (iE p 4611686018427377339) (aq (wh.call (p,2305843009213688669)) λx1=>k (ug.out (HA x1 1))) (k (ug.out aR))) (k (ug.out aR)):=cT
theorem aqf:ug.Ok:=by
 intro p hp;have hp:nY p:=hp;rw[aqe,Ju (d:=(p,2305843009213688669)) ⟨hp,by constructor <;> decide⟩];simp only[ae,bF,afX,bF,Me,BJ];by_cases h:0 < p
 ·rw[dX h,ak];by_cases h2:p < 4611686018427377339
  ·rw[bm h2,ak,bf ⟨h,h2⟩,cH];rfl
  ·rw[bn h2,ao,bI (λx=>h2 x.2),fJ]
 ·rw[dx h,ao,bI (λx=>h x.1),fJ]
theorem zB:ug.RS:=rE [.d tu] ug
def Oe:=ug.gm aqf
def ajO:Int->Prop:=λp=>nY p
def Fu:Int->Int:=λp=>tk p
def Bl:Fs Tryz.prog ajO bF Fu:=gg 113 Tryz.f113 (λp=>([.d tu p],[])) (λx=>⟨.d tu x,[],[]⟩) [al tu] [Oe]
theorem aqk(p)(k:K1 R):Bl.A p k=aq (ug.call p) λx1=>aS (x1) (k (Bl.out p)) (k (Bl.out 1)):=cT
theorem aql:Bl.Ok:=by intro p hp;rw[aqk,zB (d:=p) hp];simp only[ae,bF,Me,bF,Fu,tk];cases BJ p <;> rfl
theorem Jv:Bl.RS:=rE [.d tu] Bl
def Of:=Bl.gm aql
def ajL:(Int×Int)->Prop:=λ(p,k)=>nY p/\nY k
def afY:(Int×Int)->Int:=λ(p,k)=>Dt p k
def Ft:Fs Tryz.prog ajL bF afY:=gg 75 Tryz.f75 (λ(p,kv)=>([.d tu p,.d tu kv],[])) (λx=>⟨.d tu x,[],[]⟩) [al tu,al tu] [Of,Od]
theorem aqg(p kv)(k:K1 R):Ft.A (p,kv) k=aq (Bl.call p) λx1=>aq (wh.call (x1,(tW kv 2305843009213688669))) λx2=>k (Ft.out x2):=cT
theorem aqh:Ft.Ok:=by rintro⟨p,k⟩ ⟨hp,hk⟩;have hk:nY k:=hk;have e:=GH (y:=2305843009213688669) hk.1;have b:nY (k%2305843009213688669):=⟨au,au⟩;rw[aqg,Jv (d:=p) hp,e];simp only[ae,bF,Fu];rw[Ju (d:=(tk p,k%2305843009213688669)) ⟨(axi p).u,b⟩];rfl
theorem UR:Ft.RS:=rE [.d tu,.d tu] Ft
def YR:=Ft.gm aqh
def apN:Int->Prop:=λk=>nY k
def RC:Int->Int:=λk=>gD k
def Fg:Fs Tryz.prog apN bF RC:=gg 36 Tryz.f36 (λkv=>([.d tu kv],[])) (λx=>⟨.d tu x,[],[]⟩) [al tu] [YR]
theorem avE(kv)(k:K1 R):Fg.A kv k=aq (Ft.call (4,kv)) λx1=>k (Fg.out x1):=cT
theorem avF:Fg.Ok:=by intro k hk;rw[avE,UR (d:=(4,k)) ⟨⟨au,au⟩,hk⟩];rfl
theorem Ca:Fg.RS:=rE [.d tu] Fg
def LM:=Fg.gm avF
def awd:Int->Prop:=λp=>nY p
def awc:Int->Int:=λp=>afk p
def ajG:Fs Tryz.prog awd bF awc:=gg 166 Tryz.f166 (λp=>([.d tu p],[])) (λx=>⟨.d tu x,[],[]⟩) [al tu] [Of,Od]
theorem aAh(p)(k:K1 R):ajG.A p k=aq (Bl.call p) λx1=>aq (wh.call (x1,2305843009213688668)) λx2=>k (ajG.out x2):=cT
theorem aAi:ajG.Ok:=by intro p hp;rw[aAh,Jv (d:=p) hp];simp only[ae,bF,Fu];rw[Ju (d:=(tk p,2305843009213688668)) ⟨(axi p).u,by constructor <;> decide⟩];rfl
theorem awe:ajG.RS:=rE [.d tu] ajG
def aAj:=ajG.gm aAi
abbrev YI:=Int×Bs×Int×Int
def afB:YI->Prop:=λ(o,l,n,i)=>Pn o/\(∀x∈l,nY x)/\l.length<=1000000000/\n=l.length/\∃k:Nat,k<=l.length/\i=k
def N7:YI->Int:=λ(o,l,n,i)=>(l.drop i.toNat).foldl (λo p=>tM o (tk p)) o
def Uk:Bs->Prop:=λl=>(∀x∈l,nY x)/\l.length<=1000000000
def aDJ:Bs->Int:=λl=>Ra l
def xR:Ls afB bF N7:=xM (λ(outv,t6,t7,t8)=>⟨([cw,cw,cw,.d tu outv,cw,cw,.d tU t6,.d ti t7,.d ti t8]++bg 9 []),[],(ai 18 [])⟩) (λx=>(.exit 0,⟨([cw,cw,cw,.d tu x]++bg 14 []),[],(ai 18 [])⟩))
def Uj:Fs Tryz.prog Uk bF aDJ:=gg 160 Tryz.f160 (λl=>([.d tU l],[])) (λx=>⟨.d tu x,[],[]⟩) [al tU] [Of,YU] {loops:=sk [(3,{bu:=[3,6,7,8]})],outs:=sj [(3,{bu:=[3]},{bu:=[2]})],gV:=tK [(3,xR.E)]}
theorem afC:xR.RS:=rL [.d tu,.d tU,.d ti,.d ti] xR
theorem LL(outv t6 t7 t8)(kn:K2 R)(kx:K3 R):Uj.R 0 xR (outv,t6,t7,t8) kn kx=aS (iE t8 t7) (aS (gU t8 (t6.length:Int)) (aq (Bl.call (nth tu t6 (ab t8))) λx1=>aq (Bm.call (outv,x1)) λx2=>kn (xR.st (x2,t6,t7,(bV .i64 t8 1)))) aJ) (xR.go kx outv):=cT
theorem az5(l)(k:K1 R):Uj.A l k=aq (xR.call (1,l,(l.length:Int),0)) λx3=>k (Uj.out x3):=cT
theorem ajm:(Uj.mw 0 xR):=by
 refine(Uj.qz 0 xR) (λ(o,l,n,i)=>l.length - i.toNat) ?_
 rintro⟨o,l,n,i⟩ ⟨ho,hl,hb,rfl,k,hk,rfl⟩;have ho:Pn o:=ho;have hb:l.length<=1000000000:=hb;have hk:k<=l.length:=hk;by_cases h:k < l.length
 ·left;have hx:=hl _ (aX h);have n1:nth (.int .u64) l k=l[k]:=dj (t:= .int .u64) h;refine⟨(tM o (tk l[k]),l,l.length,((k+1:Nat):Int)),⟨Aw _ _,hl,hb,rfl,k+1,au,rfl⟩,by simp only[aa];omega,?_,λkn kx=> ?_⟩
  ·simp only[bF,N7,aa];rw[aC h];rfl
  ·rw[LL];simp(disch:=omega) only[↓S1,↓if_pos,↓if_neg,if_pos,if_neg,da,cK,S2,n1];rw[Jv (d:=l[k]) hx];simp only[ae,bF,Fu];rw[Jw (d:=(o,tk l[k])) ⟨ho.u,(axi _).u⟩];rfl
 ·right;obtain rfl:k=l.length:=au;intro R kn kx;rw[LL];simp(disch:=omega) only[↓S1,↓if_pos,↓if_neg,if_pos,if_neg,da,cK,S2,bF,N7,aU];rfl
theorem az6:Uj.Ok:=by rintro l ⟨hl,hb⟩;rw[az5,afC (d:=(1,l,l.length,0)) ⟨⟨au,au⟩,hl,hb,rfl,0,au,rfl⟩];rfl
theorem afD:Uj.RS:=rE [.d tU] Uj
def ama:=Uj.gm az6 1 ⟨.gQ ajm,trivial⟩
def avx:(Int×Int)->Prop:=λ(p,q)=>nY p/\nY q
def avw:(Int×Int)->Int:=λ(p,q)=>Ra [p,q]
def ajk:Fs Tryz.prog avx bF avw:=gg 145 Tryz.f145 (λ(p,q)=>([.d tu p,.d tu q],[])) (λx=>⟨.d tu x,[],[]⟩) [al tu,al tu] [ama]
theorem az2(p q)(k:K1 R):ajk.A (p,q) k=aq (Uj.call [p,q]) λx1=>k (ajk.out x1):=cT
theorem az3:ajk.Ok:=by rintro⟨p,q⟩ ⟨hp,hq⟩;have h:Uk [p,q]:=⟨by intro x hx;simp only[cg,List.not_mem_nil,or_false]at hx;rcases hx with rfl | rfl <;> assumption,by simp only[aH,bB];omega⟩;rw[az2,afD h];rfl
theorem avy:ajk.RS:=rE [.d tu,.d tu] ajk
def az4:=ajk.gm az3
def Qn(x:Int):Prop:=0<=x/\x < 2305843009213688669
theorem Qn.u{x:Int}(h:Qn x):nY x:=⟨h.1,by have:=h.2;omega⟩
def avj(a:Int):Int:=a%2305843009213688669
theorem abd(a:Int):Qn (avj a):=⟨kr _ au,jZ _ au⟩
def ahp(a b:Int):Int:=(avj a+avj b)%2305843009213688669
def aa9(a b:Int):Int:=avj a*avj b%2305843009213688669
def KW(h:List Int):Int:=h.foldl (λn b=>(n*256+b)%2305843009213688668) 0+1
def arG.b(n:Int):Prop:=0<=n/\n < 2305843009213688668
theorem aep(h:List Int)(n:Int)(hn:arG.b n):arG.b (h.foldl (λn b=>(n*256+b)%2305843009213688668) n):=by
 induction h generalizing n with
 |nil=>exact hn
 |cons p l ih=>exact ih _ ⟨kr _ au,jZ _ au⟩
theorem SP(h:List Int):0 < KW h/\KW h < 2305843009213688669:=by have:=aep h 0 ⟨au,au⟩;have h1:=this.1;have h2:=this.2;unfold KW;omega
theorem akT(a b:Int):Qn (ahp a b):=⟨kr _ au,jZ _ au⟩
theorem azH(a b:Int):Qn (aa9 a b):=⟨kr _ au,jZ _ au⟩
def aip:Int->Prop:=λ_=>True
def KV:Int->Bool:=λa=>iE a 2305843009213688669
def CZ:Fs Tryz.prog aip bF KV:=gg 78 Tryz.f78 (λa=>([.d tu a],[])) (λx=>⟨.d .bool x,[],[]⟩) [al tu]
theorem aov(a)(k:K1 R):CZ.A a k=k (CZ.out (iE a 2305843009213688669)):=cT
theorem aow:CZ.Ok:=by intro a _;rw[aov];rfl
theorem IZ:CZ.RS:=rE [.d tu] CZ
def NG:=CZ.gm aow
def ayW:Int->Prop:=λa=>nY a
def atV:Int->Int:=λa=>avj a
def axP:Fs Tryz.prog ayW bF atV:=gg 161 Tryz.f161 (λa=>([.d tu a],[])) (λx=>⟨.d tu x,[],[]⟩) [al tu]
theorem aCM(a)(k:K1 R):axP.A a k=k (axP.out (tW a 2305843009213688669)):=cT
theorem aCN:axP.Ok:=by intro a ha;rw[aCM,GH ha.1];rfl
theorem Rm:axP.RS:=rE [.d tu] axP
def atW:=axP.gm aCN
def aot:(Int×Int)->Prop:=λ(a,b)=>Qn a/\Qn b
def ayX:(Int×Int)->Int:=λ(a,b)=>(a+b)%2305843009213688669
def SO:Fs Tryz.prog aot bF ayX:=gg 162 Tryz.f162 (λ(a,b)=>([.d tu a,.d tu b],[])) (λx=>⟨.d tu x,[],[]⟩) [al tu,al tu]
theorem atX(a b)(k:K1 R):SO.A (a,b) k=k (SO.out (tW (bV .u64 a b) 2305843009213688669)):=cT
theorem atY:SO.Ok:=by
 rintro⟨a,b⟩ ⟨ha,hb⟩;have ha:Qn a:=ha;have hb:Qn b:=hb;obtain⟨h1,h2⟩:=ha;obtain⟨h3,h4⟩:=hb;have e:bV .u64 a b=a+b:=by rw[xC];omega
 rw[atX,e,GH au];rfl
theorem aou:SO.RS:=rE [.d tu,.d tu] SO
def atZ:=SO.gm atY
def aiq:(Int×Int)->Prop:=λ(a,b)=>Qn a/\Qn b
def at0:(Int×Int)->Int:=λ(a,b)=>a*b%2305843009213688669
def I0:Fs Tryz.prog aiq bF at0:=gg 163 Tryz.f163 (λ(a,b)=>([.d tu a,.d tu b],[])) (λx=>⟨.d tu x,[],[]⟩) [al tu,al tu] [TP,U4]
theorem aox(a b)(k:K1 R):I0.A (a,b) k=aq (E7.call (a,b)) λx1=>aq (Mj.call (x1.1,x1.2,2305843009213688669)) λx2=>k (I0.out x2):=cT
theorem aoy:I0.Ok:=by rintro⟨a,b⟩ ⟨ha,hb⟩;have ha:Qn a:=ha;have hb:Qn b:=hb;obtain⟨m1,m2⟩:=N0 ha.1 (show a<=18446744073709551615 by have:=ha.2;omega) hb.1 (show b<=18446744073709551615 by have:=hb.2;omega);have n:(18446744073709551615:Int)*18446744073709551615=340282366920938463426481119284349108225:=rfl;rw[n]at m2;have p:Ol (a*b / 18446744073709551616,a*b%18446744073709551616,2305843009213688669):=⟨fv (lr rfl),au,au,au,au⟩;rw[aox,GL (d:=(a,b)) ⟨ha.u,hb.u⟩];simp only[ae,bF,Ly];rw[Om p];simp only[ae,bF,Ml,Wb];rfl
theorem air:I0.RS:=rE [.d tu,.d tu] I0
def aoz:=I0.gm aoy
def atF:(Int×Int)->Prop:=λ(a,b)=>nY a/\nY b
def aCL:(Int×Int)->Int:=λ(a,b)=>ahp a b
def aik:Fs Tryz.prog atF bF aCL:=gg 146 Tryz.f146 (λ(a,b)=>([.d tu a,.d tu b],[])) (λx=>⟨.d tu x,[],[]⟩) [al tu,al tu] [atW,atZ]
theorem ayO(a b)(k:K1 R):aik.A (a,b) k=aq (axP.call a) λx1=>aq (axP.call b) λx2=>aq (SO.call (x1,x2)) λx3=>k (aik.out x3):=cT
theorem ayP:aik.Ok:=by rintro⟨a,b⟩ ⟨ha,hb⟩;rw[ayO,Rm (d:=a) ha,Rm (d:=b) hb];simp only[ae,bF,atV];rw[aou (d:=(avj a,avj b)) ⟨abd a,abd b⟩];rfl
theorem atG:aik.RS:=rE [.d tu,.d tu] aik
def ayQ:=aik.gm ayP
def atS:(Int×Int)->Prop:=λ(a,b)=>nY a/\nY b
def atQ:(Int×Int)->Int:=λ(a,b)=>aa9 a b
def aio:Fs Tryz.prog atS bF atQ:=gg 147 Tryz.f147 (λ(a,b)=>([.d tu a,.d tu b],[])) (λx=>⟨.d tu x,[],[]⟩) [al tu,al tu] [atW,aoz]
theorem ayT(a b)(k:K1 R):aio.A (a,b) k=aq (axP.call a) λx1=>aq (axP.call b) λx2=>aq (I0.call (x1,x2)) λx3=>k (aio.out x3):=cT
theorem ayU:aio.Ok:=by rintro⟨a,b⟩ ⟨ha,hb⟩;rw[ayT,Rm (d:=a) ha,Rm (d:=b) hb];simp only[ae,bF,atV];rw[air (d:=(avj a,avj b)) ⟨abd a,abd b⟩];rfl
theorem atT:aio.RS:=rE [.d tu,.d tu] aio
def ayV:=aio.gm ayU
def aav:(Int×Bs×Int)->Prop:=λ(n,h,i)=>arG.b n/\h.length=32/\Bytes h/\∃k:Nat,k<=32/\i=k
def CX:(Int×Bs×Int)->Int:=λ(n,h,i)=>(h.drop i.toNat).foldl (λn b=>(n*256+b)%2305843009213688668) n
def aoo:Bs->Prop:=λh=>h.length=32/\Bytes h
def aau:Bs->Int:=λh=>KW h
def sQ:Ls aav bF CX:=xM (λ(n,t6,t7)=>⟨([cw,cw,cw,.d tu n,cw,cw,.d tH t6,.d ti t7]++bg 13 []),[],(ai 21 [])⟩) (λx=>(.exit 0,⟨([cw,cw,cw,.d tu x]++bg 17 []),[],(ai 21 [])⟩))
def EL:Fs Tryz.prog aoo bF aau:=gg 117 Tryz.f117 (λh=>([.d tH h],[])) (λx=>⟨.d tu x,[],[]⟩) [al tH] [U4] {loops:=sk [(3,{bu:=[3,6,7]})],outs:=sj [(3,{bu:=[3]},{bu:=[2]})],gV:=tK [(3,sQ.E)]}
theorem aaw:sQ.RS:=rL [.d tu,.d tB,.d ti] sQ
theorem Hw(n t6 t7)(kn:K2 R)(kx:K3 R):EL.R 0 sQ (n,t6,t7) kn kx=aS (iE t7 32) (aS (gU t7 32) (aq (Mj.call ((cV .u64 n 56),(eh .or .u64 (nQ .u64 n 8) (eD .u64 (nth tb t6 (ab t7)))),2305843009213688668)) λx1=>kn (sQ.st (x1,t6,(bV .i64 t7 1)))) aJ) (sQ.go kx n):=cT
theorem atL(h)(k:K1 R):EL.A h k=aq (sQ.call (0,h,0)) λx2=>k (EL.out (bV .u64 x2 1)):=cT
theorem Pr{n b:Int}(hn:arG.b n)(hb:Zt b):cV .u64 n 56*18446744073709551616+eh .or .u64 (nQ .u64 n 8) (eD .u64 b)=n*256+b/\nY (cV .u64 n 56)/\nY (eh .or .u64 (nQ .u64 n 8) (eD .u64 b)):=by
 obtain⟨h1,h2⟩:=hn;obtain⟨h3,h4⟩:=hb;have p56:(2:Int)^56=72057594037927936:=rfl;have p8:(2:Int)^8=256:=rfl;have e:eD .u64 b=b:=by rw[aum];omega
 rw[uX 56 (by rfl) au,uW 8 (by rfl) au,p56,p8,e,LH 8 256 rfl au au au au au au];exact⟨au,⟨au,au⟩,au,au⟩
theorem aej:(EL.mw 0 sQ):=by
 refine(EL.qz 0 sQ) (λ(n,h,i)=>32 - i.toNat) ?_
 rintro⟨n,h,i⟩ ⟨hn,hl,hb,k,hk,rfl⟩;have hn:arG.b n:=hn;have hl:h.length=32:=hl;have hb:Bytes h:=hb;by_cases jb:k < 32
 ·left;have hx:Zt (h[k]'(au)):=hb _ (aX _);have n1:nth (.int .u8) h k=h[k]'(au):=dj (t:= .int .u8) au;obtain⟨d1,d2,d3⟩:=Pr hn hx;refine⟨((n*256+h[k]'(au))%2305843009213688668,h,((k+1:Nat):Int)),⟨⟨au,au⟩,hl,hb,k+1,au,rfl⟩,by simp only[aa];omega,?_,λkn kx=> ?_⟩
  ·simp only[bF,CX,aa];rw[aC (by omega:k < h.length)];rfl
  ·rw[Hw];simp(disch:=omega) only[↓S1,↓if_pos,↓if_neg,if_pos,if_neg,da,cK,S2,n1];rw[Om (d:=(_,_,2305843009213688668)) ⟨fv (fv rfl),d2.1,d2.2,d3.1,d3.2⟩];simp only[ae,bF,Ml,d1]
 ·right;obtain rfl:k=32:=au;intro R kn kx;rw[Hw];simp(disch:=omega) only[↓S1,↓if_pos,↓if_neg,if_pos,if_neg,da,cK,S2,bF,CX];rw[gj au];rfl
theorem atM:EL.Ok:=by
 rintro h ⟨hl,hb⟩;have e:=aep h 0 ⟨au,au⟩;have h1:=e.1;have h2:=e.2;rw[atL,aaw (d:=(0,h,0)) ⟨⟨au,au⟩,hl,hb,0,au,rfl⟩];simp only[ae,bF,CX,bF,aau,KW,bt,aQ]
 revert h1 h2
 generalize h.foldl (λn b=>(n*256+b)%2305843009213688668) 0=m;intro h1 h2;have e:bV .u64 m 1=m+1:=by rw[xC];omega
 rw[e]
theorem X7:EL.RS:=rE [.d tB] EL
def aek:=EL.gm atM 1 ⟨.gQ aej,trivial⟩
theorem ac5(n:Int): [eD .u8 (cV .u64 n 56),eD .u8 (cV .u64 n 48),eD .u8 (cV .u64 n 40),eD .u8 (cV .u64 n 32),eD .u8 (cV .u64 n 24),eD .u8 (cV .u64 n 16),eD .u8 (cV .u64 n 8),eD .u8 (cV .u64 n 0)]=l6 n:=ahx n
theorem fp{α:Type}{l:List α}{n:Nat}(h:l.length=n):cut l 0 n=l:=by subst h;simp[cut]
theorem axg{n:ByteArray}{a b c:List Int}(hn:n.size<=100)(ha:a.length<=1000000)(hb:b.length<=1000000)(hc:c.length<=1000000):K8 (n,[a,b,c]):=by show(Xb _ [a,b,c]).length<=_;rw[Xb];simp only[yn,du,pc,aj,dC,nL,bB];omega
theorem axf{n:ByteArray}{a b:List Int}(hn:n.size<=100)(ha:a.length<=1000000)(hb:b.length<=1000000):K8 (n,[a,b]):=by show(Xb _ [a,b]).length<=_;rw[Xb];simp only[yn,du,pc,aj,dC,nL,bB];omega
theorem agH{n:ByteArray}{a:List Int}(hn:n.size<=100)(ha:a.length<=1000000):K8 (n,[a]):=by show(Xb _ [a]).length<=_;rw[Xb];simp only[yn,du,pc,aj,dC,nL,bB];omega
def Sm(m:List Int):Prop:=m.length=32/\Bytes m
theorem aDX(b:List Int):Sm (aEO b):=⟨aka b,anM b⟩
theorem ake(n:List Int)(ps:List (List Int)):Sm (tag n ps):=aDX _
def axe(n:ByteArray)(ps:List (List Int)):List Int:=tag (cE n) ps
def aGa:ByteArray:=⟨#[115,105,103]⟩
def ai9:ByteArray:=⟨#[110,111,110,99,101]⟩
def DM(r p:Int)(m:List Int):Int:=KW (axe aGa [l6 r,l6 p,m])
theorem R8(r p:Int)(m:List Int):Qn (DM r p m):=by have:=SP (axe aGa [l6 r,l6 p,m]);exact⟨by unfold DM;omega,by unfold DM;omega⟩
def aB8(s:Sg):Prop:=nY s.1/\nY s.2.1
def yS(p:Int)(m:List Int)(t:Int)(s:Sg):Bool:=if p=1\/BJ p=aR\/BJ t=aR\/BJ s.1=aR\/¬s.2.1 < 2305843009213688669 then aR else decide (gD s.2.1=Ra [s.1,Dt p (DM s.1 p m),afk t])
def Zz(k nonce:Int)(m:List Int)(t:Int):Sg:=(Ra [gD nonce,t],ahp nonce (aa9 (DM (Ra [gD nonce,t]) (gD k) m) k),())
def avf(k:Int)(m:List Int):Int:=KW (axe ai9 [l6 k,m])
def mn(k:Int)(m:List Int):Sg:=if k < 2305843009213688669/\k≠0 then Zz k (avf k m) m 1 else(0,0,())
def aie:Int->Prop:=λ_=>True
def SF:Int->Bs:=λn=>l6 n
def CU:Fs Tryz.prog aie bF SF:=gg 118 Tryz.f118 (λn=>([.d tu n],[])) (λx=>⟨.d tB x,[],[]⟩) [al tu] [] {loops:=sk [(3,{bu:=[0,3,7,8],sites:=[5]})],outs:=sj [(3,{bu:=[3],sites:=[5]},{bu:=[2],sites:=[5]})],res:=[al tB]} 12
theorem aoi(n)(k:K1 R):CU.A n k=k (CU.out [(eD .u8 (cV .u64 n 56)),(eD .u8 (cV .u64 n 48)),(eD .u8 (cV .u64 n 40)),(eD .u8 (cV .u64 n 32)),(eD .u8 (cV .u64 n 24)),(eD .u8 (cV .u64 n 16)),(eD .u8 (cV .u64 n 8)),(eD .u8 (cV .u64 n 0))]):=cT
theorem aoj:CU.Ok:=by intro n _;rw[aoi,ac5];rfl
theorem IM:CU.RS:=rE [.d tu] CU
def X4:=CU.gm aoj 1 ⟨.none cT,trivial⟩
def anR:(Int×Int×Bs)->Prop:=λ(r,p,m)=>Sm m
def ZK:(Int×Int×Bs)->Int:=λ(r,p,m)=>DM r p m
def O6:Fs Tryz.prog anR bF ZK:=gg 148 Tryz.f148 (λ(r,p,m)=>([.d tu r,.d tu p,.d tH m],[])) (λx=>⟨.d tu x,[],[]⟩) [al tu,al tu,al tH] [X4,Rr,aek]
theorem asB(r p m)(k:K1 R):O6.A (r,p,m) k=aq (CU.call r) λx1=>aq (CU.call p) λx2=>aq (NN.call ((⟨#[115,105,103]⟩:ByteArray),[x1,x2,(cut m 0 32)])) λx3=>aq (EL.call x3) λx4=>k (O6.out x4):=cT
theorem asC:O6.Ok:=by rintro⟨r,p,m⟩ hm;have hm:Sm m:=hm;rw[asB,IM (d:=r) trivial,IM (d:=p) trivial];simp only[ae,bF,SF];rw[fp hm.1,K9 (axg fb (by rw[dC];omega) (by rw[dC];omega) (by rw[hm.1];omega))];simp only[ae,bF,aaJ];rw[X7 (d:=tag (cE (⟨#[115,105,103]⟩:ByteArray)) [l6 r,l6 p,m]) (ake _ _)];rfl
theorem XO:O6.RS:=rE [.d tu,.d tu,.d tB] O6
def adB:=O6.gm asC
abbrev Y7:=Int×Bs×Int×Sg
def agl:Y7->Prop:=λ(p,m,t,s)=>nY p/\Sm m/\nY t/\aB8 s
def Y8:Y7->Bool:=λ(p,m,t,s)=>yS p m t s
def qN:Fs Tryz.prog agl bF Y8:=gg 159 Tryz.f159 (λ(p,m,t,pre)=>([.d tu p,.d tH m,.d tu t,.d MM pre],[])) (λx=>⟨.d .bool x,[],[]⟩) [al tu,al tH,al tu,al MM] [Oe,NG,adB,YR,aAj,ama,LM]
theorem aj7(p m t pre)(k:K1 R):qN.A (p,m,t,pre) k=aS (HA p 1) (k (qN.out aR)) (aq (ug.call p) λx1=>aS (!x1) (k (qN.out aR)) (aq (ug.call t) λx2=>aS (!x2) (k (qN.out aR)) (aq (ug.call pre.1) λx3=>aS (!x3) (k (qN.out aR)) (aq (CZ.call pre.2.1) λx4=>aS (!x4) (k (qN.out aR)) (aq (O6.call (pre.1,p,m)) λx5=>aq (Ft.call (p,x5)) λx6=>aq (ajG.call t) λx7=>aq (Uj.call [pre.1,x6,x7]) λx8=>aq (Fg.call pre.2.1) λx9=>k (qN.out (HA x9 x8))))))):=cT
theorem aj8:qN.Ok:=by
 rintro⟨p,m,t,s⟩ ⟨hp,hm,ht,hs⟩;have hp:nY p:=hp;have ht:nY t:=ht;have hm:Sm m:=hm;have hs:aB8 s:=hs;rw[aj7,zB (d:=p) hp,zB (d:=t) ht,zB (d:=s.1) hs.1,IZ (d:=s.2.1) trivial];simp only[ae,bF,Me,bF,KV,bF,Y8,yS];by_cases h1:p=1
 ·rw[qo h1,ak,if_pos (lr h1)]
 rw[nu h1,ao];cases h2:BJ p
 ·rw[if_pos (fv (lr rfl))];rfl
 cases h3:BJ t
 ·rw[if_pos (fv (fv (lr rfl)))];rfl
 cases h4:BJ s.1
 ·rw[if_pos (fv (fv (fv (lr rfl))))];rfl
 by_cases h5:s.2.1 < 2305843009213688669
 ·rw[bm h5,if_neg (by simp[h1,h5])];have hq:=R8 s.1 p m;rw[XO (d:=(s.1,p,m)) hm];simp only[cv,ao,ae,bF,ZK];rw[UR (d:=(p,DM s.1 p m)) ⟨hp,hq.u⟩,awe (d:=t) ht];simp only[ae,bF,afY,bF,awc];have q:Uk [s.1,Dt p (DM s.1 p m),afk t]:=⟨by
   intro x hx;simp only[cg,List.not_mem_nil,or_false]at hx;rcases hx with rfl | rfl | rfl
   ·exact hs.1
   ·exact(af3 _ _).u
   ·exact(af3 _ _).u,by simp only[aH,bB];omega⟩
  rw[afD q,Ca (d:=s.2.1) hs.2];rfl
 ·rw[bn h5,if_pos (fv (fv (fv (fv h5))))];rfl
theorem agm:qN.RS:=rE [.d tu,.d tB,.d tu,.d MM] qN
def aj9:=qN.gm aj8
def agF:(Int×Bs×Sg)->Prop:=λ(p,m,s)=>nY p/\Sm m/\aB8 s
def Ze:(Int×Bs×Sg)->Bool:=λ(p,m,s)=>yS p m 1 s
def Dx:Fs Tryz.prog agF bF Ze:=gg 144 Tryz.f144 (λ(p,m,sv)=>([.d tu p,.d tH m,.d MM sv],[])) (λx=>⟨.d .bool x,[],[]⟩) [al tu,al tH,al MM] [aj9]
theorem ako(p m sv)(k:K1 R):Dx.A (p,m,sv) k=aq (qN.call (p,m,1,sv)) λx1=>k (Dx.out x1):=cT
theorem akp:Dx.Ok:=by rintro⟨p,m,s⟩ ⟨hp,hm,hs⟩;rw[ako,agm (d:=(p,m,1,s)) ⟨hp,hm,⟨au,au⟩,hs⟩];rfl
theorem agG:Dx.RS:=rE [.d tu,.d tB,.d MM] Dx
def akq:=Dx.gm akp
def aw1:Int->Prop:=λ_=>True
def akd:Int->Bool:=λk=>decide (k < 2305843009213688669/\k≠0)
def agw:Fs Tryz.prog aw1 bF akd:=gg 115 Tryz.f115 (λkv=>([.d tu kv],[])) (λx=>⟨.d .bool x,[],[]⟩) [al tu] [NG]
theorem aAG(kv)(k:K1 R):agw.A kv k=aq (CZ.call kv) λx1=>aS (x1) (k (agw.out (G5 kv 0))) (k (agw.out aR)):=cT
theorem aAH:agw.Ok:=by
 intro k _;rw[aAG,IZ (d:=k) trivial];simp only[ae,bF,KV,bF,akd];by_cases h:k < 2305843009213688669
 ·rw[bm h,ak];by_cases h0:k=0
  ·rw[eJ h0,bI (λx=>x.2 h0)]
  ·rw[iJ h0,bf ⟨h,h0⟩]
 ·rw[bn h,ao,bI (λx=>h x.1)]
theorem aw2:agw.RS:=rE [.d tu] agw
def aAI:=agw.gm aAH
abbrev Y6:=Int×Int×Bs×Int
def agj:Y6->Prop:=λ(k,n,m,t)=>nY k/\nY n/\Sm m/\nY t
def aqL:Y6->Sg:=λ(k,n,m,t)=>Zz k n m t
def Ds:Fs Tryz.prog agj bF aqL:=gg 116 Tryz.f116 (λ(kv,nonce,m,t)=>([.d tu kv,.d tu nonce,.d tH m,.d tu t],[])) (λx=>⟨.d MM x,[],[]⟩) [al tu,al tu,al tH,al tu] [LM,az4,adB,ayV,ayQ]
theorem aj4(kv nonce m t)(k:K1 R):Ds.A (kv,nonce,m,t) k=aq (Fg.call nonce) λx1=>aq (ajk.call (x1,t)) λx2=>aq (Fg.call kv) λx3=>aq (O6.call (x2,x3,m)) λx4=>aq (aio.call (x4,kv)) λx5=>aq (aik.call (nonce,x5)) λx6=>k (Ds.out (x2,(x6,()))):=cT
theorem aj5:Ds.Ok:=by rintro⟨k,n,m,t⟩ ⟨hk,hn,hm,ht⟩;have hk:nY k:=hk;have hn:nY n:=hn;have hm:Sm m:=hm;have ht:nY t:=ht;rw[aj4,Ca (d:=n) hn];simp only[ae,bF,RC];rw[avy (d:=(gD n,t)) ⟨(af3 _ _).u,ht⟩,Ca (d:=k) hk];simp only[ae,bF,RC,bF,avw];rw[XO (d:=(Ra [gD n,t],gD k,m)) hm];simp only[ae,bF,ZK];rw[atT (d:=(DM (Ra [gD n,t]) (gD k) m,k)) ⟨(R8 _ _ _).u,hk⟩];simp only[ae,bF,atQ];rw[atG (d:=(n,aa9 (DM (Ra [gD n,t]) (gD k) m) k)) ⟨hn,(azH _ _).u⟩];rfl
theorem agk:Ds.RS:=rE [.d tu,.d tu,.d tB,.d tu] Ds
def aj6:=Ds.gm aj5
def aqT:(Int×Bs)->Prop:=λ(k,m)=>nY k/\Sm m
def ab3:(Int×Bs)->Sg:=λ(k,m)=>mn k m
def Qy:Fs Tryz.prog aqT bF ab3:=gg 81 Tryz.f81 (λ(kv,m)=>([.d tu kv,.d tH m],[])) (λx=>⟨.d MM x,[],[]⟩) [al tu,al tH] [aAI,X4,Rr,aek,aj6]
theorem aw6(kv m)(k:K1 R):Qy.A (kv,m) k=aq (agw.call kv) λx1=>aS (!x1) (k (Qy.out (0,(0,())))) (aq (CU.call kv) λx2=>aq (NN.call ((⟨#[110,111,110,99,101]⟩:ByteArray),[x2,(cut m 0 32)])) λx3=>aq (EL.call x3) λx4=>aq (Ds.call (kv,x4,m,1)) λx5=>k (Qy.out x5)):=cT
theorem aw7:Qy.Ok:=by
 rintro⟨k,m⟩ ⟨hk,hm⟩;have hk:nY k:=hk;have hm:Sm m:=hm;rw[aw6,aw2 (d:=k) trivial];simp only[ae,bF,akd,bF,ab3,mn];by_cases h:k < 2305843009213688669/\k≠0
 ·rw[bf h,if_pos h,IM (d:=k) trivial,fp hm.1];simp only[cv,ao,ae,bF,SF];rw[K9 (axf fb (by rw[dC];omega) (by rw[hm.1];omega))];simp only[ae,bF,aaJ];rw[X7 (d:=tag (cE (⟨#[110,111,110,99,101]⟩:ByteArray)) [l6 k,m]) (ake _ _)];simp only[ae,bF,aau];have q:=SP (tag (cE (⟨#[110,111,110,99,101]⟩:ByteArray)) [l6 k,m]);rw[agk (d:=(k,KW (tag (cE (⟨#[110,111,110,99,101]⟩:ByteArray)) [l6 k,m]),m,1)) ⟨hk,⟨au,au⟩,hm,au,au⟩];rfl
 ·rw[bI h,if_neg h];rfl
theorem aqU:Qy.RS:=rE [.d tu,.d tB] Qy
def aw8:=Qy.gm aw7
def DH(l:List Int):Prop:=∀x∈l,nY x
def aA9(b:tG):Prop:=DH b.1/\nY b.2.2.2.1
def akP(l:Lk):Prop:=∀b∈l.1,aA9 b
def NM(n:Int):Bool:=decide (0<=n/\n<=1048576)
def Ed(b:tG):Bool:=decide (b.1.length<=12) && (b.1.all BJ && (NM b.2.1 && (NM b.2.2.1 && (decide (b.2.2.2.1=0) || BJ b.2.2.2.1))))
def nI(l:Lk):Bool:=l.1.all Ed && decide (0 < l.1.length/\l.1.length<=4)
def wO:List Int->Int->Int⊕Unit
 |[],_=> .inr ()
 |p::ps,i=>if BJ p then wO ps (i+1) else .inl i
def akV(l:List Int):Int:=match wO l 0 with | .inl i=>i | .inr _=> -1
theorem OL:∀(l:List Int) (i:Int),0<=i->(match wO l i with | .inl i=>decide (i>=0) | .inr _=>aR)= !(l.all BJ)
 |[],_,_=>rfl
 |p::ps,i,h=>by
  rw[wO,lq];cases hp:BJ p
  ·simp[h]
  ·simp only[da,cH];exact OL ps (i+1) au
theorem am8(l:List Int):BI (akV l) 0= !(l.all BJ):=by
 have:=OL l 0 au;unfold akV BI;cases h:wO l 0
 ·rw[h]at this;exact this
 ·rw[h]at this;rw[<-this];rfl
def auE:Int->Prop:=λp=>nY p
def aaT:Int->Bool:=λp=> !BJ p
def aeZ:Fs Tryz.prog auE bF aaT:=gg 59 Tryz.f59 (λp=>([.d tu p],[])) (λx=>⟨.d .bool x,[],[]⟩) [al tu] [Oe]
theorem azy(p)(k:K1 R):aeZ.A p k=aq (ug.call p) λx1=>k (aeZ.out (!x1)):=cT
theorem azz:aeZ.Ok:=by intro p hp;rw[azy,zB (d:=p) hp];rfl
theorem To:aeZ.RS:=rE [.d tu] aeZ
def alR:=aeZ.gm azz
abbrev vI:=Bs×Int×Int
def pK:vI->AS:=λ(jt,t7,t8)=>⟨([.d tU jt,.fn 59 (.nil)]++bg 5 ([.d ti t7,.d ti t8]++bg 10 [])),[],(ai 19 [])⟩
def uO:Int->Exit×AS:=λx=>(.ret,⟨(bg 4 ([.d ti x]++bg 14 [])),[],(ai 19 [])⟩)
def uP:Unit->Exit×AS:=λx=>(.exit 0,⟨(bg 19 []),[],(ai 19 [])⟩)
abbrev Fj:=(Int)⊕(Unit)
abbrev Qb:=(Int)⊕(Unit)
def Bi:Fj->Out (Exit×AS):=λx=> .br x.isLeft (.get x.getLeft? λa=> .ok (uO a)) (.get x.getRight? λb=> .ok (uP b))
def jJ:vI->Qb->Fj:=λ(jt,t7,t8) y=>match y with | .inl y=> .inl y | .inr z=> .inr (z)
def uN:vI->Prop:=λ(l,n,i)=>DH l/\l.length<=1000000000/\n=l.length/\∃k:Nat,k<=l.length/\i=k
def mj:vI->Qb:=λ(l,n,i)=>wO (l.drop i.toNat) i
def ajz:Bs->Prop:=λl=>DH l/\l.length<=1000000000
def Uw:Bs->Int:=λl=>akV l
def P9:=ee.gQ pK uN jJ mj Bi
def Fk:vI->Option Fj:=ji P9 pK
def wc:Fs Tryz.prog ajz bF Uw:=gg 99 Tryz.f99 (λsv=>([.d tU sv,.fn 59 (.nil)],[])) (λx=>⟨.d ti x,[],[]⟩) [al tU,aJ] [alR] {loops:=sk [(2,{bu:=[0,1,7,8]})],outs:=sj [(2,{},{bu:=[4]})],gV:=tK [(2,P9)]}
def Qa:= @fK Tryz.prog (mN wc.G) wc.an 0 Tryz.f99 0 _ pK
abbrev LV:=nE Tryz.prog (mN wc.G) wc.an 0 Tryz.f99 0 pK uN jJ mj Bi
theorem WU:lN Fk uN jJ mj:=qe (oE [.d tU,.d ti,.d ti] λ_=>cT)
theorem Jn:sx @Qa pK uN jJ mj Bi LV:=tI
theorem zu(jt t7 t8)(kn:K2 R)(kx:K3 R):Qa (jt,t7,t8) kn kx=aS (iE t8 t7) (aS (gU t8 (((ag jt):Nat):Int)) (aq (aeZ.call (nth tu jt (ab t8))) λx1=>aS (x1) (kx (uO t8).1 (uO t8).2) (kn (pK (jt,t7,(bV .i64 t8 (1:Int)))))) aJ) (kx (uP ()).1 (uP ()).2):=cT
theorem ap1(sv)(k:K1 R):wc.A sv k=aq (Fk (sv,(sv.length:Int),0)) λx2=>aS x2.isLeft (aq x2.getLeft? λa3=>k (wc.out a3)) (aq x2.getRight? λb4=>k (wc.out (-1))):=cT
theorem abu:LV:=by
 refine Jn (λ(l,n,i)=>l.length - i.toNat) ?_
 rintro⟨l,n,i⟩ ⟨hl,hb,rfl,k,hk,rfl⟩;have hb:l.length<=1000000000:=hb;have hk:k<=l.length:=hk;by_cases h:k < l.length
 ·have hx:=hl _ (aX h);have n1:nth (.int .u64) l k=l[k]:=dj (t:= .int .u64) h;have hd:wO (l.drop k) k=if BJ l[k] then wO (l.drop (k+1)) ((k+1:Nat):Int) else .inl (k:Int):=by rw[aC h];rfl
  cases hp:BJ l[k]
  ·right;refine⟨uO (k:Int),?_,λkn kx=> ?_⟩
   ·simp only[jJ,mj,aa,hd,hp,bW,cK];rfl
   ·rw[zu];simp(disch:=omega) only[↓S1,↓if_pos,↓if_neg,if_pos,if_neg,da,cK,S2,n1];rw[To (d:=l[k]) hx];simp only[ae,bF,aaT,hp,fj,ak]
  ·left;refine⟨(l,l.length,((k+1:Nat):Int)),⟨hl,hb,rfl,k+1,au,rfl⟩,by simp only[aa];omega,?_,λkn kx=> ?_⟩
   ·simp only[jJ,mj,aa,hd,hp,da]
   ·rw[zu];simp(disch:=omega) only[↓S1,↓if_pos,↓if_neg,if_pos,if_neg,da,cK,S2,n1];rw[To (d:=l[k]) hx];simp only[ae,bF,aaT,hp,cv,ao]
 ·right;obtain rfl:k=l.length:=au;refine⟨uP (),?_,λkn kx=> ?_⟩
  ·simp only[jJ,mj,aa,aU];rfl
  ·rw[zu];simp(disch:=omega) only[↓S1,↓if_pos,↓if_neg,if_pos,if_neg,da,cK,S2]
theorem ap2:wc.Ok:=by rintro l ⟨hl,hb⟩;rw[ap1,WU (d:=(l,l.length,0)) ⟨hl,hb,rfl,0,au,rfl⟩];simp only[ae,jJ,mj,bt,aQ,bF,Uw,akV];cases wO l 0 <;> rfl
theorem ajA:wc.RS:=rE [.d tU] wc
def ap3:=wc.gm ap2 1 ⟨.gQ abu,trivial⟩
def WS:Bs->Prop:=λl=>DH l/\l.length<=1000000000
def P3:Bs->Bool:=λl=> !(l.all BJ)
def ue:Fs Tryz.prog WS bF P3:=gg 61 Tryz.f61 (λsv=>([.d tU sv,.fn 59 (.nil)],[])) (λx=>⟨.d .bool x,[],[]⟩) [al tU,aJ] [ap3]
theorem abm(sv)(k:K1 R):ue.A sv k=aq (wc.call sv) λx1=>k (ue.out (BI x1 0)):=cT
theorem abn:ue.Ok:=by rintro l ⟨hl,hb⟩;rw[abm,ajA (d:=l) ⟨hl,hb⟩];simp only[ae,bF,Uw,am8];rfl
theorem WT:ue.RS:=rE [.d tU] ue
def abo:=ue.gm abn
def ae0:Int->Prop:=λ_=>True
def NU:Int->Bool:=λn=>NM n
def xH:Fs Tryz.prog ae0 bF NU:=gg 62 Tryz.f62 (λn=>([.d ti n],[])) (λx=>⟨.d .bool x,[],[]⟩) [al ti]
theorem aiT(n)(k:K1 R):xH.A n k=aS (BI n 0) (k (xH.out (ahg n 1048576))) (k (xH.out aR)):=cT
theorem aiU:xH.Ok:=by
 intro n _;rw[aiT];simp only[bF,NU,NM];by_cases h:0<=n
 ·rw[ig h,ak];by_cases h2:n<=1048576
  ·rw[vA h2,bf ⟨h,h2⟩]
  ·rw[pA h2,bI (λx=>h2 x.2)]
 ·rw[fa h,ao,bI (λx=>h x.1)]
theorem PE:xH.RS:=rE [.d ti] xH
def aiV:=xH.gm aiU
abbrev vD:=Lk×(List tG)×Int×Int
def kW:vD->AS:=λ(Lj,t7,t8,t9)=>⟨([cw,.eN ahh Lj,cw,.fn 59 (.nil),cw,cw,cw,.d (.slice sa) t7,.d ti t8,.d ti t9]++bg 47 []),[],(ai 57 [])⟩
def fq:Unit->Exit×AS:=λx=>(.ret,⟨([cw,cw,.d .bool aR]++bg 54 []),[],(ai 57 [])⟩)
def uL:Lk->Exit×AS:=λx=>(.exit 0,⟨([cw,.eN ahh x]++bg 55 []),[],(ai 57 [])⟩)
abbrev E0:=(Unit)⊕(Lk)
abbrev PJ:=(Unit)⊕(Unit)
def Ba:E0->Out (Exit×AS):=λx=> .br x.isLeft (.get x.getLeft? λa=> .ok (fq a)) (.get x.getRight? λb=> .ok (uL b))
def jH:vD->PJ->E0:=λ(Lj,t7,t8,t9) y=>match y with | .inl y=> .inl y | .inr z=> .inr (Lj)
def uK:vD->Prop:=λ(l,bs,n,i)=>(∀b∈bs,aA9 b)/\bs.length<=9223372036854775807/\n=bs.length/\∃k:Nat,k<=bs.length/\i=k
def mh:vD->PJ:=λ(l,bs,n,i)=>if(bs.drop i.toNat).all Ed then .inr () else .inl ()
def aiX:Lk->Prop:=λl=>akP l/\l.1.length<=9223372036854775807
def B3:Lk->Bool:=λl=>nI l
def PI:=ee.gQ kW uK jH mh Ba
def E1:vD->Option E0:=ji PI kW
def oJ:Fs Tryz.prog aiX bF B3:=gg 26 Tryz.f26 (λl=>([.d ahh l],[])) (λx=>⟨.d .bool x,[],[]⟩) [al ahh] [abo,aiV,alR] {loops:=sk [(3,{bu:=[1,3,7,8,9]})],outs:=sj [(3,{bu:=[1]},{bu:=[2]})],gV:=tK [(3,PI)]}
def EZ:= @fK Tryz.prog (mN oJ.G) oJ.an 0 Tryz.f26 0 _ kW
abbrev Lr:=nE Tryz.prog (mN oJ.G) oJ.an 0 Tryz.f26 0 kW uK jH mh Ba
theorem WE:lN E1 uK jH mh:=qe (oE [.d ahh,.d (.slice sa),.d ti,.d ti] λ_=>cT)
theorem Jc:sx @EZ kW uK jH mh Ba Lr:=tI
theorem E2(Lj t7 t8 t9)(kn:K2 R)(kx:K3 R):EZ (Lj,t7,t8,t9) kn kx=aS (iE t9 t8) (aS (gU t9 (((ag t7):Nat):Int)) (aS (Ap (((ag (nth sa t7 (ab t9)).1):Nat):Int) (12:Int)) (kx (fq ()).1 (fq ()).2) (aq (ue.call (nth sa t7 (ab t9)).1) λx1=>aS (x1) (kx (fq ()).1 (fq ()).2) (aq (xH.call (nth sa t7 (ab t9)).2.1) λx2=>aS (!x2) (kx (fq ()).1 (fq ()).2) (aq (xH.call (nth sa t7 (ab t9)).2.2.1) λx3=>aS (!x3) (kx (fq ()).1 (fq ()).2) (aS (G5 (nth sa t7 (ab t9)).2.2.2.1 (0:Int)) (aq (aeZ.call (nth sa t7 (ab t9)).2.2.2.1) λx4=>aS (x4) (kx (fq ()).1 (fq ()).2) (kn (kW (Lj,t7,t8,(bV .i64 t9 (1:Int)))))) (kn (kW (Lj,t7,t8,(bV .i64 t9 (1:Int)))))))))) aJ) (kx (uL Lj).1 (uL Lj).2):=cT
theorem apg(l)(k:K1 R):oJ.A l k=aq (E1 (l,l.1,(l.1.length:Int),0)) λx5=>aS x5.isLeft (aq x5.getLeft? λa6=>k (oJ.out aR)) (aq x5.getRight? λb7=>aS (Ap (b7.1.length:Int) 0) (k (oJ.out (ahg (b7.1.length:Int) 4))) (k (oJ.out aR))):=cT
theorem aa4:Lr:=by
 refine Jc (λ(l,bs,n,i)=>bs.length - i.toNat) ?_
 rintro⟨l,bs,n,i⟩ ⟨hl,hb,rfl,k,hk,rfl⟩;have hb:bs.length<=9223372036854775807:=hb;have hk:k<=bs.length:=hk;by_cases h:k < bs.length
 ·have hx:aA9 bs[k]:=hl _ (aX h);have n1:nth (.pair (.slice (.int .u64)) (.pair (.int .i64) (.pair (.int .i64) (.pair (.int .u64) .unit)))) bs k=bs[k]:=dj (t:=(.pair (.slice (.int .u64)) (.pair (.int .i64) (.pair (.int .i64) (.pair (.int .u64) .unit))))) h;have hd:(bs.drop k).all Ed=(Ed bs[k] && (bs.drop (k+1)).all Ed):=by rw[aC h,lq]
  have step:∀ {R:Type} (kn:AS->Option R) (kx:Exit->AS->Option R),EZ (l,bs,(bs.length:Int),(k:Int)) kn kx=aS (Ed bs[k]) (kn (kW (l,bs,(bs.length:Int),((k+1:Nat):Int)))) (kx (fq ()).1 (fq ()).2):=by
   intro R kn kx;rw[E2,bm au,bz au au,aa,n1,N.pn au];obtain⟨⟨ks,af,dl,sc,u⟩,aFj⟩:∃b,bs[k]=b:=⟨_,rfl⟩;rw[aFj]at hx ⊢;have h1:DH ks:=hx.1;have h2:nY sc:=hx.2;simp only[ak,Ed];by_cases hk:ks.length<=12
   ·rw[dx au,WT (d:=ks) ⟨h1,au⟩,PE (d:=af) trivial,PE (d:=dl) trivial,To (d:=sc) h2,bf hk];simp only[ao,ae,bF,P3,bF,NU,bF,aaT,cH];cases ks.all BJ
    ·rfl
    cases NM af
    ·rfl
    cases NM dl
    ·rfl
    by_cases hs:sc=0
    ·rw[eJ hs,bf hs];rfl
    ·rw[iJ hs,bI hs];cases BJ sc <;> rfl
   ·rw[dX au,bI hk];rfl
  cases hp:Ed bs[k]
  ·right;refine⟨fq (),?_,λkn kx=> ?_⟩
   ·simp only[jH,mh,aa,hd,hp,fJ,bW,cK];rfl
   ·rw[step,hp,ao]
  ·left;refine⟨(l,bs,bs.length,((k+1:Nat):Int)),⟨hl,hb,rfl,k+1,au,rfl⟩,by simp only[aa];omega,?_,λkn kx=> ?_⟩
   ·simp only[jH,mh,aa,hd,hp,cH]
   ·rw[step,hp,ak]
 ·right;obtain rfl:k=bs.length:=au;refine⟨uL l,?_,λkn kx=> ?_⟩
  ·simp only[jH,mh,aa,aU];rfl
  ·rw[E2];simp(disch:=omega) only[↓S1,↓if_pos,↓if_neg,if_pos,if_neg,da,cK,S2]
theorem aph:oJ.Ok:=by
 rintro l ⟨hl,hb⟩;have hb:l.1.length<=9223372036854775807:=hb;rw[apg,WE (d:=(l,l.1,l.1.length,0)) ⟨hl,hb,rfl,0,au,rfl⟩];simp only[ae,jH,mh,bt,aQ,bF,B3,nI];cases l.1.all Ed
 ·rfl
 ·simp only[da,cH];show aS (Ap _ _) _ _=_;by_cases h0:0 < l.1.length
  ·rw[dX au];by_cases h4:l.1.length<=4
   ·rw[vA au,bf ⟨h0,h4⟩];rfl
   ·rw[pA au,bI (λx=>h4 x.2)];rfl
  ·rw[dx au,bI (λx=>h0 x.1)];rfl
theorem zi:oJ.RS:=rE [.d ahh] oJ
def B4:=oJ.gm aph 1 ⟨.gQ aa4,trivial⟩
def wx(m:List Int):List Int->List Sg->Bool
 |[],_=>aT
 |p::ps,ss=>yS p m 1 (ss.headD (0,0,())) && wx m ps ss.tail
def B7(l:Lk)(w:Re)(m:List Int)(height age:Int):Int:=
 if nI l=aR\/w.1 < 0\/w.1>=l.1.length then 1
 else
  let b:=nth (.pair (.slice (.int .u64)) (.pair (.int .i64) (.pair (.int .i64) (.pair (.int .u64) .unit)))) l.1 w.1.toNat
  if height < b.2.1\/age < b.2.2.1 then 11
  else if b.2.2.2.1≠0/\gD w.2.2.1≠b.2.2.2.1 then 23
  else if w.2.1.length≠b.1.length then 7
  else if wx m b.1 w.2.1 then 0 else 7
theorem arq(m:List Int)(ks:List Int)(ss:List Sg)(h:ss.length=ks.length)(k:Nat)(hk:k < ks.length):wx m (ks.drop k) (ss.drop k)=(yS ks[k] m 1 (ss[k]'(au)) && wx m (ks.drop (k+1)) (ss.drop (k+1))):=by rw[aC hk,aC (by omega:k < ss.length)];rfl
def RL(w:Re):Prop:=(∀s∈w.2.1,aB8 s)/\nY w.2.2.1
abbrev zf:=Re×Bs×Bs×Int×Int
def oH:zf->AS:=λ(akH,alZ,t68,t69,t70)=>⟨(bg 6 ([.eN axX akH,.eN tH alZ]++bg 60 ([.d tU t68,.d ti t69,.d ti t70]++bg 14 []))),[],(ai 85 [])⟩
def pG:Unit->Exit×AS:=λx=>(.ret,⟨(bg 10 ([.d ti (7:Int)]++bg 74 [])),[],(ai 85 [])⟩)
def xJ:Unit->Exit×AS:=λx=>(.exit 1,⟨(bg 85 []),[],(ai 85 [])⟩)
abbrev Ja:=(Unit)⊕(Unit)
abbrev Tz:=(Unit)⊕(Unit)
def C5:Ja->Out (Exit×AS):=λx=> .br x.isLeft (.get x.getLeft? λa=> .ok (pG a)) (.get x.getRight? λb=> .ok (xJ b))
def kV:zf->Tz->Ja:=λ(akH,alZ,t68,t69,t70) y=>match y with | .inl y=> .inl y | .inr z=> .inr (z)
abbrev alV:=Lk×Re×Bs×Int×Int
def xI:zf->Prop:=λ(w,m,ks,n,i)=>RL w/\Sm m/\DH ks/\ks.length<=1000000000/\w.2.1.length=ks.length/\n=ks.length/\∃k:Nat,k<=ks.length/\i=k
def oG:zf->Tz:=λ(w,m,ks,n,i)=>if wx m (ks.drop i.toNat) (w.2.1.drop i.toNat) then .inr () else .inl ()
def apc:alV->Prop:=λ(l,w,m,h,a)=>akP l/\l.1.length<=9223372036854775807/\RL w/\Sm m
def aaX:alV->Int:=λ(l,w,m,h,a)=>B7 l w m h a
def Tx:=ee.gQ oH xI kV oG C5
def uJ:zf->Option Ja:=ji Tx oH
def mg:Fs Tryz.prog apc bF aaX:=gg 112 Tryz.f112 (λ(l,wv,m,height,age)=>([.d ahh l,.d axX wv,.d tH m,.d ti height,.d ti age],[])) (λx=>⟨.d ti x,[],[]⟩) [al ahh,al axX,al tH,al ti,al ti] [B4,LM,akq] {loops:=sk [(11,{bu:=[6,7,68,69,70]})],outs:=sj [(11,{},{bu:=[10]})],gV:=tK [(11,Tx)]}
def I9:= @fK Tryz.prog (mN mg.G) mg.an 0 Tryz.f112 0 _ oH
abbrev PH:=nE Tryz.prog (mN mg.G) mg.an 0 Tryz.f112 0 oH xI kV oG C5
theorem aaY:lN uJ xI kV oG:=qe (oE [.d axX,.d tH,.d tU,.d ti,.d ti] λ_=>cT)
theorem Lq:sx @I9 oH xI kV oG C5 PH:=tI
theorem HE(akH alZ t68 t69 t70)(kn:K2 R)(kx:K3 R):I9 (akH,alZ,t68,t69,t70) kn kx=aS (iE t70 t69) (aS (gU t70 (((ag t68):Nat):Int)) (aS (gU t70 (((ag akH.2.1):Nat):Int)) (aq (Dx.call ((nth tu t68 (ab t70)),alZ,(nth MM akH.2.1 (ab t70)))) λx1=>aS (!x1) (kx (pG ()).1 (pG ()).2) (kn (oH (akH,alZ,t68,t69,(bV .i64 t70 (1:Int)))))) aJ) aJ) (kx (xJ ()).1 (xJ ()).2):=cT
theorem auS(l wv m height age)(k:K1 R):mg.A (l,wv,m,height,age) k=aq (oJ.call l) λx1=>aS (!x1) (k (mg.out 1)) (aS (iE wv.1 0) (k (mg.out 1)) (aS (BI wv.1 (l.1.length:Int)) (k (mg.out 1)) (aS (gU wv.1 (l.1.length:Int)) (aS (iE height (nth sa l.1 (ab wv.1)).2.1) (k (mg.out 11)) (aS (iE age (nth sa l.1 (ab wv.1)).2.2.1) (k (mg.out 11)) (aS (G5 (nth sa l.1 (ab wv.1)).2.2.2.1 0) (aq (Fg.call wv.2.2.1) λx2=>aS (G5 x2 (nth sa l.1 (ab wv.1)).2.2.2.1) (k (mg.out 23)) (aS (G5 (wv.2.1.length:Int) (((ag (nth sa l.1 (ab wv.1)).1):Nat):Int)) (k (mg.out 7)) (aq (uJ (wv,m,(nth sa l.1 (ab wv.1)).1,(((ag (nth sa l.1 (ab wv.1)).1):Nat):Int),0)) λx4=>aS x4.isLeft (aq x4.getLeft? λa5=>k (mg.out 7)) (aq x4.getRight? λb6=>k (mg.out 0))))) (aS (G5 (wv.2.1.length:Int) (((ag (nth sa l.1 (ab wv.1)).1):Nat):Int)) (k (mg.out 7)) (aq (uJ (wv,m,(nth sa l.1 (ab wv.1)).1,(((ag (nth sa l.1 (ab wv.1)).1):Nat):Int),0)) λx7=>aS x7.isLeft (aq x7.getLeft? λa8=>k (mg.out 7)) (aq x7.getRight? λb9=>k (mg.out 0))))))) aJ))):=cT
theorem ae6:PH:=by
 refine Lq (λ(w,m,ks,n,i)=>ks.length - i.toNat) ?_
 rintro⟨w,m,ks,n,i⟩ ⟨hw,hm,hl,hb,hs,rfl,k,hk,rfl⟩;have hb:ks.length<=1000000000:=hb;have hk:k<=ks.length:=hk;have hs:w.2.1.length=ks.length:=hs;by_cases h:k < ks.length
 ·have hx:=hl _ (aX h);have hy:=hw.1 _ (aX (by omega:k < w.2.1.length));have n1:nth (.int .u64) ks k=ks[k]:=dj (t:= .int .u64) h;have n2:nth (.pair (.int .u64) (.pair (.int .u64) .unit)) w.2.1 k=w.2.1[k]'(au):=dj (t:=(.pair (.int .u64) (.pair (.int .u64) .unit))) au;have hd:=arq m ks w.2.1 hs k h;have step:∀ {R:Type} (kn:AS->Option R) (kx:Exit->AS->Option R),I9 (w,m,ks,(ks.length:Int),(k:Int)) kn kx=aS (yS ks[k] m 1 (w.2.1[k]'(au))) (kn (oH (w,m,ks,(ks.length:Int),((k+1:Nat):Int)))) (kx (pG ()).1 (pG ()).2):=by intro R kn kx;rw[HE,bm au,bz au au,bz au au,aa,n1,n2,N.pn au,agG (d:=(ks[k],m,w.2.1[k]'(au))) ⟨hx,hm,hy⟩];simp only[ak,ae,bF,Ze];cases yS ks[k] m 1 (w.2.1[k]'(au)) <;> rfl
  cases hp:yS ks[k] m 1 (w.2.1[k]'(au))
  ·right;refine⟨pG (),?_,λkn kx=> ?_⟩
   ·simp only[kV,oG,aa,hd,hp,fJ,bW,cK];rfl
   ·rw[step,hp,ao]
  ·left;refine⟨(w,m,ks,ks.length,((k+1:Nat):Int)),⟨hw,hm,hl,hb,hs,rfl,k+1,au,rfl⟩,by simp only[aa];omega,?_,λkn kx=> ?_⟩
   ·simp only[kV,oG,aa,hd,hp,cH]
   ·rw[step,hp,ak]
 ·right;obtain rfl:k=ks.length:=au;refine⟨xJ (),?_,λkn kx=> ?_⟩
  ·simp only[kV,oG,aa,aU];rfl
  ·rw[HE];simp(disch:=omega) only[↓S1,↓if_pos,↓if_neg,if_pos,if_neg,da,cK,S2]
theorem ao8{l:Lk}(h:nI l=aT){b:tG}(hb:b∈l.1):b.1.length<=12:=by unfold nI at h;rw[av,c7]at h;have:=h.1 b hb;unfold Ed at this;rw[av]at this;simpa using this.1
theorem auT:mg.Ok:=by
  rintro⟨l,w,m,h,a⟩ ⟨hl,hb,hw,hm⟩;have hl:akP l:=hl;have hb:l.1.length<=9223372036854775807:=hb;have hw:RL w:=hw;have hm:Sm m:=hm;rw[auS,zi (d:=l) ⟨hl,hb⟩];simp only[ae,bF,B3,bF,aaX,B7];cases jd:nI l
  · rw[if_pos (lr rfl)];rfl
  by_cases h0:w.1 < 0
  · rw[bm h0,if_pos (fv (lr h0))];rfl
  by_cases h1:w.1>=l.1.length
  · rw[bn h0,ig h1,if_pos (fv (fv h1))];rfl
  rw[bn h0,fa h1,bz au au,if_neg (by simp[h0];omega)];have hn:w.1.toNat < l.1.length:=au;have n1:nth (.pair (.slice (.int .u64)) (.pair (.int .i64) (.pair (.int .i64) (.pair (.int .u64) .unit)))) l.1 w.1.toNat=l.1[w.1.toNat]:=dj (t:=(.pair (.slice (.int .u64)) (.pair (.int .i64) (.pair (.int .i64) (.pair (.int .u64) .unit))))) hn;rw[n1];have hx:aA9 l.1[w.1.toNat]:=hl _ (aX hn);have aFD:=ao8 jd (aX hn);obtain⟨⟨ks,af,dl,sc,u⟩,aFj⟩:∃b,l.1[w.1.toNat]=b:=⟨_,rfl⟩;rw[aFj]at hx aFD ⊢;have aG4:DH ks:=hx.1;have aFD:ks.length<=12:=aFD;simp only[cv,ao,ak];by_cases e1:h < af
  · rw[bm e1,if_pos (lr e1)];rfl
  by_cases e2:a < dl
  · rw[bn e1,bm e2,if_pos (fv e2)];rfl
  rw[bn e1,bn e2,if_neg (by simp[e1,e2]),Ca (d:=w.2.2.1) hw.2];simp only[ao,ae,bF,RC]
  have last:aS (G5 ((w.2.1.length:Nat):Int) ((ks.length:Nat):Int)) (al (mg.out (7:Int))) (
          aq (uJ (w,m,ks,((ks.length:Nat):Int),(0:Int))) λx4=>
          aS (x4.isLeft) (aq (x4.getLeft?) λa5=>al (mg.out (7:Int))) (aq (x4.getRight?) λb6=>al (mg.out (0:Int))))=al (mg.out (if w.2.1.length≠ks.length then 7 else if wx m ks w.2.1 then 0 else 7)):=by
    by_cases e3:w.2.1.length=ks.length
    · rw[eJ au,if_neg (by simp[e3]),ao,aaY (d:=(w,m,ks,ks.length,0)) ⟨hw,hm,aG4,by show ks.length<=1000000000;omega,e3,rfl,0,au,rfl⟩]
      simp only[ae,kV,oG,bt,aQ];cases wx m ks w.2.1 <;> rfl
    · rw[iJ au,if_pos e3];rfl
  by_cases e4:sc=0
  · rw[eJ e4,if_neg (by simp[e4]),ao]
    exact last
  · rw[iJ e4,ak]
    by_cases e5:gD w.2.2.1=sc
    · rw[eJ e5,if_neg (by simp[e5]),ao]
      exact last
    · rw[iJ e5,if_pos ⟨e4,e5⟩];rfl
theorem apd:mg.RS:=rE [.d ahh,.d axX,.d tB,.d ti,.d ti] mg
def auU:=mg.gm auT 1 ⟨.gQ ae6,trivial⟩
def ang:Int->Prop:=λn=>∃k:Nat,n=k/\k<=100000000
def ak2:Int->(Nat×(List Int)):=λn=>(0,ai n.toNat 0)
def ON:Fs Tryz.prog ang bF ak2:=gg 153 Tryz.f153 (λn=>([.dI,.d ti n],[])) (λx=>⟨.b8 (.new 0 0) 0 [] 0 0 x.1,[],[.obj 0 aR (.vec 5 tb x.2)]⟩) [aJ,al ti] [] {owns:=[⟨4,[],22,78⟩]}
theorem ar1(n)(k:K1 R):ON.A n k=aS (iE n 0) (aJ) (aS (Ap (dM .i64 n 0) 0) (aS (decide (0 < (dM .i64 n 0)) && ea (ab (dM .i64 n 0)) 1) (aS (inc 0 (((ab (dM .i64 n 0)):Nat):Int)) (k (ON.out (0,(ai (ab (dM .i64 n 0)) 0)))) aJ) aJ) (k (ON.out (0,([]:List Int))))):=cT
theorem ar2:ON.Ok:=by
 rintro n ⟨k,rfl,hk⟩;have e:dM .i64 (k:Int) 0=(k:Int):=by rw[gE au au];omega
 rw[ar1,e,bn au,ao];by_cases h:0 < k
 ·rw[dX au,aa,bf au,eW au au,qp au au];rfl
 ·obtain rfl:k=0:=au;rfl
theorem anh:ON.RS:=rE [.d ti] ON
def ar3:=ON.gm ar2
def sU(l:List (List Int)):Nat:=l.flatten.length
def Wq(n:Nat)(l:List Int):List (List Int)->Nat×List Int
 |[]=>(n,l)
 |s::r=>(n+(s::r).flatten.length,l.take n++(s::r).flatten)
theorem anP(n:Nat)(l s:List Int)(r:List (List Int))(h:n<=l.length):Wq n l (s::r)=Wq (n+s.length) (l.take n++s) r:=by
 have hl:(l.take n++s).length=n+s.length:=by rw[aj,cG];omega
 cases r with
 |nil=>simp[Wq]
 |cons t r=>
  simp only[Wq];rw[bC (Nat.le_of_eq hl)];simp only[jh,aj,aM,fN]
theorem ayL(n:Nat)(z:List Int)(r:List (List Int)):(Wq 0 z r).1<=(Wq 0 z r).2.length/\cut (Wq 0 z r).2 0 (Wq 0 z r).1=r.flatten:=by
 cases r with
 |nil=>exact⟨aP _,rfl⟩
 |cons s r=>
  simp only[Wq,fk,aV,ba];exact⟨aF _,by show bj _ (bT 0 _)=_;rw[aQ,cJ]⟩
abbrev Cv:=(List Bs)×Int×(List Bs)×Int×Int
def sF:Cv->Int->(((List Bs))×(Int)):=λ(zH,size,t9,t10,t11) y=>(zH,y)
abbrev J3:=Nat×(List Bs)×Int×Int×(List Int)
def Ep:Cv->Prop:=λ(s,size,t,n,i)=>s.length<=1000000/\t=s/\n=s.length/\∃k z:Nat,k<=s.length/\i=k/\size=z/\z+sU (s.drop k)<=100000000
def wP:Cv->Int:=λ(s,size,t,n,i)=>((size:Int)+((sU (s.drop i.toNat):Nat):Int):Int)
def Er:J3->Prop:=λ(n,s,t,i,l)=>s.length<=1000000/\n<=l.length/\t=s.length/\∃k:Nat,k<=s.length/\i=k/\n+sU (s.drop k)<=100000000
def wQ:J3->(Nat×(List Int)):=λ(n,s,t,i,l)=>Wq n l (s.drop i.toNat)
def ac4:(List Bs)->Prop:=λs=>s.length<=1000000/\sU s<=100000000
def Nc:(List Bs)->Bs:=λs=>s.flatten
def mC:Ls Ep sF wP:=xM (λ(zH,size,t9,t10,t11)=>⟨([.d (.slice tB) zH,cw,cw,.d ti size]++bg 5 ([.d (.slice tB) t9,.d ti t10,.d ti t11]++bg 24 [])),[],(ai 36 [])⟩) (λx=>(.exit 0,⟨([.d (.slice tB) x.1,cw,cw,.d ti x.2]++bg 32 []),[],(ai 36 [])⟩))
def mD:Ls Er bF wQ:=xM (λ(newsliceL,t25,t26,t27,n24)=>⟨(bg 6 ([nR 24 newsliceL]++bg 18 ([.d (.slice tB) t25,.d ti t26,.d ti t27]++bg 8 []))),[],(bK 24 ([dK (.vec 5 tb n24)]++bK 11 []))⟩) (λx=>(.exit 2,⟨(bg 6 ([nR 24 x.1]++bg 29 [])),[],(bK 24 ([dK (.vec 5 tb x.2)]++bK 11 []))⟩))
def nK:Fs Tryz.prog ac4 bF Nc:=gg 126 Tryz.f126 (λslices=>([.d (.slice tB) slices],[])) (λx=>⟨.d tB x,[],[]⟩) [al (.slice tB)] [ar3] {loops:=sk [(3,{bu:=[0,3,9,10,11]}),(11,{bu:=[6,25,26,27],sites:=[24],owns:=[⟨6,[],24,78⟩]})],outs:=sj [(3,{bu:=[0,3]},{bu:=[2]}),(11,{bu:=[6],sites:=[24]},{bu:=[2]})],gV:=tK [(3,mC.E),(11,mD.E)],res:=[al tB]}
theorem RR:mC.RS:=rL [.d (.slice tB),.d ti,.d (.slice tB),.d ti,.d ti] mC
theorem DJ(zH size t9 t10 t11)(kn:K2 R)(kx:K3 R):nK.R 0 mC (zH,size,t9,t10,t11) kn kx=aS (iE t11 t10) (aS (gU t11 (t9.length:Int)) (aS (iE (bV .i64 size (((ag (nth tB t9 (ab t11))):Nat):Int)) 0) (aJ) (kn (mC.st (zH,(bV .i64 size (((ag (nth tB t9 (ab t11))):Nat):Int)),t9,t10,(bV .i64 t11 1))))) aJ) (mC.go kx (zH,size)):=cT
theorem RT:mD.RS:=rL [.n,.d (.slice tB),.d ti,.d ti,.d tB] mD
theorem DK(newsliceL t25 t26 t27 n24)(kn:K2 R)(kx:K3 R):nK.R 1 mD (newsliceL,t25,t26,t27,n24) kn kx=aS (iE t27 t26) (aS (gU t27 (t25.length:Int)) (aS (decide (newsliceL<=(ag n24))) (aS (ea (newsliceL+(ag (nth tB t25 (ab t27)))) 1) (kn (mD.st ((newsliceL+(ag (nth tB t25 (ab t27)))),t25,t26,(bV .i64 t27 1),((bj newsliceL n24)++(nth tB t25 (ab t27)))))) aJ) aJ) aJ) (mD.go kx (newsliceL,n24)):=cT
theorem ahv(slices)(k:K1 R):nK.A slices k=aq (mC.call (slices,0,slices,(slices.length:Int),0)) λx1=>aq (ON.call x1.2) λx2=>aq (mD.call (x2.1,x1.1,(x1.1.length:Int),0,x2.2)) λx3=>aS (decide (0=0/\(0+x3.1)<=(ag x3.2))) (k (nK.out (cut x3.2 0 x3.1))) aJ:=cT
theorem alT(s:List (List Int))(k:Nat)(h:k < s.length):sU (s.drop k)=s[k].length+sU (s.drop (k+1)):=by unfold sU;rw[aC h,jh,aj]
theorem Wm:(nK.mw 0 mC):=by
 refine(nK.qz 0 mC) (λ(s,size,t,n,i)=>s.length - i.toNat) ?_
 rintro⟨s,size,t,n,i⟩ ⟨hs,rfl,rfl,k,z,hk,rfl,rfl,hz⟩;have hs:t.length<=1000000:=hs;have hk:k<=t.length:=hk;have hz:z+sU (t.drop k)<=100000000:=hz;by_cases h:k < t.length
 ·left;have n1:nth (.slice (.int .u8)) t k=t[k]:=dj (t:= .slice (.int .u8)) h;have hd:=alT t k h;refine⟨(t,((z+t[k].length:Nat):Int),t,t.length,((k+1:Nat):Int)),⟨hs,rfl,rfl,k+1,z+t[k].length,au,rfl,rfl,au⟩,by simp only[aa];omega,?_,λkn kx=> ?_⟩
  ·simp only[sF,wP,aa];rw[hd];refine bE _ ?_
   omega
  ·rw[DJ];simp(disch:=omega) only[↓S1,↓if_pos,↓if_neg,if_pos,if_neg,da,cK,S2,n1]
 ·right;obtain rfl:k=t.length:=au;intro R kn kx;rw[DJ];simp(disch:=omega) only[↓S1,↓if_pos,↓if_neg,if_pos,if_neg,da,cK,S2,sF,wP,aU];simp only[sU,pd,bB,Int.natCast_zero,Int.add_zero]
theorem Wn:(nK.mw 1 mD):=by
 refine(nK.qz 1 mD) (λ(n,s,t,i,l)=>s.length - i.toNat) ?_
 rintro⟨n,s,t,i,l⟩ ⟨hs,hn,rfl,k,hk,rfl,hz⟩;have hs:s.length<=1000000:=hs;have hn:n<=l.length:=hn;have hk:k<=s.length:=hk;have hz:n+sU (s.drop k)<=100000000:=hz;by_cases h:k < s.length
 ·left;have n1:nth (.slice (.int .u8)) s k=s[k]:=dj (t:= .slice (.int .u8)) h;have hd:=alT s k h;refine⟨(n+s[k].length,s,s.length,((k+1:Nat):Int),l.take n++s[k]),⟨hs,by rw[aj,cG];omega,rfl,k+1,au,rfl,au⟩,by simp only[aa];omega,?_,λkn kx=> ?_⟩
  ·simp only[bF,wQ,aa];rw[aC h,anP _ _ _ _ hn]
  ·rw[DK];simp(disch:=omega) only[↓S1,↓if_pos,↓if_neg,if_pos,if_neg,da,cK,S2,n1]
 ·right;obtain rfl:k=s.length:=au;intro R kn kx;rw[DK];simp(disch:=omega) only[↓S1,↓if_pos,↓if_neg,if_pos,if_neg,da,cK,S2,bF,wQ,aU];rfl
theorem ahw:nK.Ok:=by rintro s ⟨hs,hz⟩;have hs:s.length<=1000000:=hs;have hz:sU s<=100000000:=hz;have p1:Ep (s,0,s,s.length,0):=⟨hs,rfl,rfl,0,0,au,rfl,rfl,by rw[aQ];omega⟩;have p2:Er (0,s,s.length,0,ai (sU s) 0):=⟨hs,au,rfl,0,au,rfl,by rw[aQ];omega⟩;rw[ahv,RR p1];simp only[ae,sF,wP,bt,aQ,Int.zero_add];rw[anh (d:=((sU s:Nat):Int)) ⟨sU s,rfl,hz⟩];simp only[ae,bF,ak2,aa];rw[RT p2];simp only[ae,bF,wQ,bt,aQ];obtain⟨c1,c2⟩:=ayL 0 (ai (sU s) 0) s;simp only[ba,c1,j4,cR,ak,c2];rfl
theorem OM:nK.RS:=rE [.d (.slice tB)] nK
def RU:=nK.gm ahw 2 ⟨.gQ Wm,⟨.gQ Wn,trivial⟩⟩
def XQ:(Bs×Bs)->Prop:=λ(a,b)=>a.length+b.length<=100000000
def ZL:(Bs×Bs)->Bs:=λ(a,b)=>a++b
def EA:Fs Tryz.prog XQ bF ZL:=gg 96 Tryz.f96 (λ(b,more)=>([.d tB b,.d tB more],[])) (λx=>⟨.d tB x,[],[]⟩) [al tB,al tB] [RU]
theorem asD(b more)(k:K1 R):EA.A (b,more) k=aq (nK.call [b,more]) λx1=>k (EA.out x1):=cT
theorem asE:EA.Ok:=by rintro⟨a,b⟩ h;have h:a.length+b.length<=100000000:=h;rw[asD,OM (d:=[a,b]) ⟨by show [a,b].length<=_;simp,by show sU [a,b]<=_;simp only[sU,jh,pd,bO,aj];omega⟩];simp only[ae,bF,Nc,bF,ZL,jh,pd,bO]
theorem Gs:EA.RS:=rE [.d tB,.d tB] EA
def R9:=EA.gm asE
def gG:Nat->Int->List Int×Int
 | 0,n=>([],n)
 |f+1,n=>if 128<=n then((n%128+128)::(gG f (n / 128)).1,(gG f (n / 128)).2) else([],n)
def iF(n:Int):List Int:=(gG 10 n).1++ [(gG 10 n).2]
theorem GQ:∀(f g:Nat) (n:Int),n < 128^(f+1)->n < 128^(g+1)->gG f n=gG g n
 | 0,0,n,_,_=>rfl
 | 0,g+1,n,h,_=>by have h:n < 128:=h;rw[gG,gG,if_neg au]
 |f+1,0,n,_,h=>by have h:n < 128:=h;rw[gG,gG,if_neg au]
 |f+1,g+1,n,h,h'=>by
  rw[gG,gG];split
  ·have e:(128:Int)^(f+1+1)=128^(f+1)*128:=gh 128 (f+1);have e':(128:Int)^(g+1+1)=128^(g+1)*128:=gh 128 (g+1);rw[GQ f g (n / 128) au au]
  ·rfl
theorem Vf:∀(f:Nat) (n:Int),(gG f n).1.length<=f
 | 0,_=>aF _
 |f+1,n=>by
  rw[gG];split
  ·have:=Vf f (n / 128);simp only[aH];omega
  ·exact aP _
theorem Y3:∀(f:Nat) (n:Int),0<=n->n < 128^(f+1)->0<=(gG f n).2/\(gG f n).2 < 128
 | 0,n,h,h'=>by have h':n < 128:=h';exact⟨h,h'⟩
 |f+1,n,h,h'=>by
  rw[gG];have e:(128:Int)^(f+1+1)=128^(f+1)*128:=gh 128 (f+1);split
  ·exact Y3 f (n / 128) au au
  ·exact⟨h,au⟩
theorem aqC{n:Int}(h:128<=n)(h2:n<=9223372036854775807):gG 10 n=((n%128+128)::(gG 10 (n / 128)).1,(gG 10 (n / 128)).2):=by have e:(128:Int)^(9+1)=1180591620717411303424:=rfl;have e2:(128:Int)^(10+1)=151115727451828646838272:=rfl;rw[gG,if_pos h,GQ 9 10 (n / 128) (by rw[e];omega) (by rw[e2];omega)]
theorem nj(n:Int):(iF n).length<=11:=by have:=Vf 10 n;unfold iF;simp only[aj,aH,bB];omega
def Ec(n:Int):Prop:=0<=n/\n<=9223372036854775807
abbrev XW:=Int×Nat×(List Int)
def O8:XW->Prop:=λ(n,m,l)=>Ec n/\m=l.length/\l.length<=1000+0*n.toNat/\l.length+(gG 10 n).1.length<=100
def Gu:XW->(Int×Nat×(List Int)):=λ(n,m,l)=>((gG 10 n).2,(l++(gG 10 n).1).length,l++(gG 10 n).1)
def as7:Int->Prop:=λn=>Ec n
def ah7:Int->Bs:=λn=>iF n
def w7:Ls O8 bF Gu:=xM (λ(Cr,outL,n14)=>⟨([.d ti Cr,cw,cw,nR 14 outL]++bg 16 []),[],(bK 14 ([dK (.vec 5 tb n14)]++bK 5 []))⟩) (λx=>(.exit 0,⟨([.d ti x.1,cw,cw,nR 14 x.2.1]++bg 16 []),[],(bK 14 ([dK (.vec 5 tb x.2.2)]++bK 5 []))⟩))
def Sh:Fs Tryz.prog as7 bF ah7:=gg 97 Tryz.f97 (λn=>([.d ti n],[])) (λx=>⟨.d tB x,[],[]⟩) [al ti] [] {loops:=sk [(2,{bu:=[0,3],sites:=[14],owns:=[⟨3,[],14,78⟩]})],outs:=sj [(2,{bu:=[0,3],sites:=[14]},{bu:=[2]})],gV:=tK [(2,w7.E)],res:=[al tB]}
theorem adQ:w7.RS:=rL [.d ti,.n,.d tB] w7
theorem Kv(Cr outL n14)(kn:K2 R)(kx:K3 R):Sh.R 0 w7 (Cr,outL,n14) kn kx=aS (BI Cr 128) (aS (decide (outL<=(ag n14))) (aS (ea (outL+1) 1) (kn (w7.st ((A7 .i64 Cr 128),(outL+1),((bj outL n14)++ [(eD .u8 (bV .i64 (tW Cr 128) 128))])))) aJ) aJ) (w7.go kx (Cr,outL,n14)):=cT
theorem ayJ(n)(k:K1 R):Sh.A n k=aq (w7.call (n,0,([]:List Int))) λx1=>aS (decide (x1.2.1<=(ag x1.2.2))) (aS (ea (x1.2.1+1) 1) (aS (decide (0=0/\(0+(x1.2.1+1))<=(ag ((bj x1.2.1 x1.2.2)++ [(eD .u8 x1.1)])))) (k (Sh.out (cut ((bj x1.2.1 x1.2.2)++ [(eD .u8 x1.1)]) 0 (x1.2.1+1)))) aJ) aJ) aJ:=cT
theorem ats{n:Int}(h:Ec n):eD .u8 (bV .i64 (tW n 128) 128)=n%128+128:=by have h1:=h.1;rw[GH h.1,hZ au au,aaK,l5];omega
theorem ah8:(Sh.mw 0 w7):=by
 refine(Sh.qz 0 w7) (λ(n,m,l)=>n.toNat) ?_
 rintro⟨n,m,l⟩ ⟨hn,rfl,hl,hz⟩;have hn:Ec n:=hn;have hz:l.length+(gG 10 n).1.length<=100:=hz;have h1:=hn.1;have h2:=hn.2;by_cases h:128<=n
 ·left;have e:=aqC h h2;have hq:A7 .i64 n 128=n / 128:=by rw[A7,j3 h1];exact sT au au
  have el:((n%128+128)::(gG 10 (n / 128)).1).length=(gG 10 (n / 128)).1.length+1:=aH;rw[e]at hz;have hz:l.length+((n%128+128)::(gG 10 (n / 128)).1).length<=100:=hz;rw[el]at hz;refine⟨(n / 128,l.length+1,l++ [n%128+128]),⟨⟨au,au⟩,by rw[aj];rfl,by rw[aj];simp only[aH,bB];omega,by rw[aj];simp only[aH,bB];omega⟩,by simp only[];omega,?_,λkn kx=> ?_⟩
  ·simp only[bF,Gu,e,aM,List.cons_append,aV]
  ·rw[Kv,ig h,ats hn,hq];simp(disch:=omega) only[↓S1,↓if_pos,↓if_neg,if_pos,if_neg,da,cK,S2,aF,cJ]
 ·right;have e:gG 10 n=([],n):=by rw[gG,if_neg h]
  intro R kn kx;rw[Kv,fa h];simp only[ao,bF,Gu,e,bO]
theorem ayK:Sh.Ok:=by
 intro n hn;have hn:Ec n:=hn;have hl:=Vf 10 n;have e2:(128:Int)^(10+1)=151115727451828646838272:=rfl;have hd:=Y3 10 n hn.1 (by have:=hn.2;rw[e2];omega);have p:O8 (n,0,[]):=⟨hn,rfl,by simp,by simp only[bB];omega⟩;have hi:eD .u8 (gG 10 n).2=(gG 10 n).2:=by rw[aaK,l5];omega
 rw[ayJ,adQ p];simp only[ae,bF,Gu,aV,hi,cJ,aF,cR,ak];rw[eW au au];simp only[ak,ba,aj,aH,bB,aF,j4,cR];rw[fp (by rw[aj];rfl)];rfl
theorem adR:Sh.RS:=rE [.d ti] Sh
def ali:=Sh.gm ayK 1 ⟨.gQ ah8,trivial⟩
def dW(b:List Int)(n:Int):List Int:=if n < 0 then b else b++iF n
theorem fL(b:List Int)(n:Int):(dW b n).length<=b.length+11:=by
 unfold dW;have:=nj n;split
 ·omega
 ·rw[aj];omega
def asZ:(Bs×Int)->Prop:=λ(b,n)=>b.length<=90000000/\n<=9223372036854775807
def og:(Bs×Int)->Bs:=λ(b,n)=>dW b n
def yU:Fs Tryz.prog asZ bF og:=gg 57 Tryz.f57 (λ(b,n)=>([.d tB b,.d ti n],[])) (λx=>⟨.d tB x,[],[]⟩) [al tB,al ti] [R9,ali]
theorem ayH(b n)(k:K1 R):yU.A (b,n) k=aS (iE n 0) (aq (EA.call (b,([]:List Int))) λx1=>k (yU.out x1)) (aq (Sh.call n) λx2=>aq (EA.call (b,x2)) λx3=>k (yU.out x3)):=cT
theorem ayI:yU.Ok:=by
 rintro⟨b,n⟩ ⟨hb,hn⟩;have hb:b.length<=90000000:=hb;have hn:n<=9223372036854775807:=hn;rw[ayH];simp only[bF,og,dW];by_cases h:n < 0
 ·rw[bm h,if_pos h,ak,Gs (d:=(b,[])) (by show b.length+([]:List Int).length<=_;simp only[bB];omega)];simp only[ae,bF,ZL,bO]
 ·have hl:=nj n;rw[bn h,if_neg h,ao,adR (d:=n) ⟨au,hn⟩];simp only[ae,bF,ah7];rw[Gs (d:=(b,iF n)) (by show b.length+(iF n).length<=_;omega)];rfl
theorem jr:yU.RS:=rE [.d tB,.d ti] yU
def Rj:=yU.gm ayI
def an8:(Bs×Int)->Prop:=λ(b,n)=>b.length<=90000000
def Ku:(Bs×Int)->Bs:=λ(b,n)=>b++l6 n
def EG:Fs Tryz.prog an8 bF Ku:=gg 127 Tryz.f127 (λ(b,n)=>([.d tB b,.d tu n],[])) (λx=>⟨.d tB x,[],[]⟩) [al tB,al tu] [R9] {loops:=sk [(3,{bu:=[0,1,5,7],sites:=[5,21]})],outs:=sj [(3,{bu:=[0,5],sites:=[5,21]},{bu:=[4],sites:=[5,21]})]} 12
theorem as5(b n)(k:K1 R):EG.A (b,n) k=aq (EA.call (b,[(eD .u8 (cV .u64 n 56)),(eD .u8 (cV .u64 n 48)),(eD .u8 (cV .u64 n 40)),(eD .u8 (cV .u64 n 32)),(eD .u8 (cV .u64 n 24)),(eD .u8 (cV .u64 n 16)),(eD .u8 (cV .u64 n 8)),(eD .u8 (cV .u64 n 0))])) λx1=>k (EG.out x1):=cT
theorem as6:EG.Ok:=by
 rintro⟨b,n⟩ hb;have hb:b.length<=90000000:=hb;have p:XQ (b,l6 n):=by show b.length+(l6 n).length<=_;rw[dC];omega
 have e:EA.call (b,[eD .u8 (cV .u64 n 56),eD .u8 (cV .u64 n 48),eD .u8 (cV .u64 n 40),eD .u8 (cV .u64 n 32),eD .u8 (cV .u64 n 24),eD .u8 (cV .u64 n 16),eD .u8 (cV .u64 n 8),eD .u8 (cV .u64 n 0)])=al (b++l6 n):=by rw[ac5];exact Gs p
 rw[as5];refine Eq.trans (bE (λx=>aq x _) e) ?_
 rfl
theorem BV:EG.RS:=rE [.d tB,.d tu] EG
def adP:=EG.gm as6 1 ⟨.none cT,trivial⟩
def Ea(w:Re):Bool:=decide (0<=w.1/\w.1 < 4) && decide (w.2.1.length<=12)
def S7(x:kj):Bool:=decide (0<=x.1.2.1/\x.1.2.1 < 64) && Ea x.2.1
def Pt(m:List (cC×Bool))(x:kj):Bool:=(cq bP x.1 m).getD aR
def Eh:List (cC×Bool)->List kj->Bool
 |_,[]=>aT
 |m,x::l=>(!(Pt m x) && S7 x) && Eh (ff bP x.1 aT m) l
def ED(a:Int):Bool:=decide (0<=a/\a<=1125899906842624)
def qk(a b:Int):Bool:=ED a && (ED b && decide (a+b<=1125899906842624))
def Be:Int->List lM->Bool
 |_,[]=>aT
 |s,o::l=>(qk s o.1 && nI o.2.1) && Be (s+o.1) l
def acq(t:dS):Bool:=decide (1<=t.1.length/\t.1.length<=64/\t.2.1.length<=64/\0<=t.2.2.1)
def iM(t:dS):Bool:=acq t && (Eh [] t.1 && Be 0 t.2.1)
def aB7(l:Lk):Prop:=akP l/\l.1.length<=9223372036854775807
def aEW(t:dS):Prop:=(∀o∈t.2.1,aB7 o.2.1)/\t.1.length<=9223372036854775807/\t.2.1.length<=9223372036854775807
def axx:Re->Prop:=λ_=>True
def acp:Re->Bool:=λw=>Ea w
def Xr:Fs Tryz.prog axx bF acp:=gg 79 Tryz.f79 (λwv=>([.d axX wv],[])) (λx=>⟨.d .bool x,[],[]⟩) [al axX]
theorem aAR(wv)(k:K1 R):Xr.A wv k=aS (BI wv.1 0) (aS (iE wv.1 4) (k (Xr.out (ahg (wv.2.1.length:Int) 12))) (k (Xr.out aR))) (k (Xr.out aR)):=cT
theorem aAS:Xr.Ok:=by
 rintro⟨b,ss,sc,u⟩ _;rw[aAR];simp only[bF,acp,Ea];by_cases h:0<=b
 ·rw[ig h,ak];by_cases h2:b < 4
  ·rw[bm h2,ak,bf ⟨h,h2⟩];by_cases h3:ss.length<=12
   ·rw[vA au,bf h3];rfl
   ·rw[pA au,bI h3];rfl
  ·rw[bn h2,ao,bI (λx=>h2 x.2)];rfl
 ·rw[fa h,ao,bI (λx=>h x.1)];rfl
theorem agX:Xr.RS:=rE [.d axX] Xr
def amO:=Xr.gm aAS
def ajb:Int->Prop:=λ_=>True
def T8:Int->Bool:=λa=>ED a
def Db:Fs Tryz.prog ajb bF T8:=gg 122 Tryz.f122 (λa=>([.d ti a],[])) (λx=>⟨.d .bool x,[],[]⟩) [al ti]
theorem apt(a)(k:K1 R):Db.A a k=aS (BI a 0) (k (Db.out (ahg a 1125899906842624))) (k (Db.out aR)):=cT
theorem apu:Db.Ok:=by
 intro(a:Int) _;rw[apt];simp only[bF,T8,ED];by_cases h:0<=a
 ·rw[ig h,ak];by_cases h2:a<=1125899906842624
  ·rw[vA h2,bf ⟨h,h2⟩]
  ·rw[pA h2,bI (λx=>h2 x.2)]
 ·rw[fa h,ao,bI (λx=>h x.1)]
theorem T9:Db.RS:=rE [.d ti] Db
def apv:=Db.gm apu
def au8:(Int×Int)->Prop:=λ_=>True
def aja:(Int×Int)->(Int×Bool):=λ(a,b)=>(bif qk a b then a+b else 0,qk a b)
def WL:Fs Tryz.prog au8 bF aja:=gg 83 Tryz.f83 (λ(a,b)=>([.d ti a,.d ti b],[])) (λx=>⟨.cons (.d ti x.1) (.cons (.d .bool x.2) (.nil)),[],[]⟩) [al ti,al ti] [apv]
theorem azM(a b)(k:K1 R):WL.A (a,b) k=aq (Db.call a) λx1=>aS (!x1) (k (WL.out (0,aR))) (aq (Db.call b) λx2=>aS (!x2) (k (WL.out (0,aR))) (aS (Ap a (dM .i64 1125899906842624 b)) (k (WL.out (0,aR))) (k (WL.out ((bV .i64 a b),aT))))):=cT
theorem azN:WL.Ok:=by
 rintro⟨a,b⟩ _;rw[azM,T9 (d:=a) trivial,T9 (d:=b) trivial];simp only[ae,bF,T8,bF,aja,qk];cases ha:ED a
 ·rfl
 ·cases hb:ED b
  ·rfl
  ·simp only[ED,aW]at ha hb;simp only[cv,ao,cH];rw[gE au au];by_cases h:a+b<=1125899906842624
   ·rw[dx au,ao,bf h,hZ au au];rfl
   ·rw[dX au,ak,bI h];rfl
theorem au9:WL.RS:=rE [.d ti,.d ti] WL
def azO:=WL.gm azN
abbrev vT:=dS×(List kj)×Int×Int×(List (cC×Bool))
def mW:vT->AS:=λ(nO,t33,t34,t35,n31)=>⟨([cw,.eN fg nO,cw,.cP (.new 31 0) 0]++bg 29 ([.d (.slice gK) t33,.d ti t34,.d ti t35]++bg 52 [])),[],(bK 31 ([dK (.mp bP .bool n31)]++bK 56 []))⟩
def gf:Unit->Exit×AS:=λx=>(.ret,⟨([cw,cw,.d .bool aR]++bg 85 []),[],(ai 88 [])⟩)
def vf:dS->Exit×AS:=λx=>(.exit 0,⟨([cw,.eN fg x]++bg 86 []),[],(ai 88 [])⟩)
abbrev F5:=(Unit)⊕(dS)
abbrev QF:=(Unit)⊕(Unit)
def BD:F5->Out (Exit×AS):=λx=> .br x.isLeft (.get x.getLeft? λa=> .ok (gf a)) (.get x.getRight? λb=> .ok (vf b))
def jR:vT->QF->F5:=λ(nO,t33,t34,t35,n31) y=>match y with | .inl y=> .inl y | .inr z=> .inr (nO)
abbrev vU:=Int×(List lM)×Int×Int
def mX:vU->AS:=λ(sum,t66,t67,t68)=>⟨(bg 6 ([.d ti sum]++bg 59 ([.d (.slice jv) t66,.d ti t67,.d ti t68]++bg 19 []))),[],(ai 88 [])⟩
def jT:Unit->Exit×AS:=λx=>(.ret,⟨([cw,cw,.d .bool aR]++bg 85 []),[],(ai 88 [])⟩)
def vh:Unit->Exit×AS:=λx=>(.exit 2,⟨(bg 88 []),[],(ai 88 [])⟩)
abbrev F9:=(Unit)⊕(Unit)
abbrev QH:=(Unit)⊕(Unit)
def BE:F9->Out (Exit×AS):=λx=> .br x.isLeft (.get x.getLeft? λa=> .ok (jT a)) (.get x.getRight? λb=> .ok (vh b))
def jS:vU->QH->F9:=λ(sum,t66,t67,t68) y=>match y with | .inl y=> .inl y | .inr z=> .inr (z)
def vd:vT->Prop:=λ(t,l,n,i,m)=>l.length<=9223372036854775807/\n=l.length/\∃k:Nat,k<=l.length/\i=k
def mr:vT->QF:=λ(t,l,n,i,m)=>if Eh m (l.drop i.toNat) then .inr () else .inl ()
def vg:vU->Prop:=λ(s,l,n,i)=>(∀o∈l,aB7 o.2.1)/\l.length<=9223372036854775807/\n=l.length/\∃k:Nat,k<=l.length/\i=k
def mu:vU->QH:=λ(s,l,n,i)=>if Be s (l.drop i.toNat) then .inr () else .inl ()
def akz:dS->Prop:=λt=>aEW t
def o8:dS->Bool:=λt=>iM t
def QE:=ee.gQ mW vd jR mr BD
def F6:vT->Option F5:=ji QE mW
def QG:=ee.gQ mX vg jS mu BE
def zO:vU->Option F9:=ji QG mX
def ik:Fs Tryz.prog akz bF o8:=gg 40 Tryz.f40 (λt=>([.d fg t],[])) (λx=>⟨.d .bool x,[],[]⟩) [al fg] [amO,azO,B4] {loops:=sk [(5,{bu:=[1,3,33,34,35],sites:=[31]}),(13,{bu:=[6,66,67,68]})],outs:=sj [(5,{bu:=[1]},{bu:=[2]}),(13,{},{bu:=[2]})],gV:=tK [(5,QE),(13,QG)]}
def F4:= @fK Tryz.prog (mN ik.G) ik.an 0 Tryz.f40 0 _ mW
abbrev MU:=nE Tryz.prog (mN ik.G) ik.an 0 Tryz.f40 0 mW vd jR mr BD
def F8:= @fK Tryz.prog (mN ik.G) ik.an 0 Tryz.f40 1 _ mX
abbrev MV:=nE Tryz.prog (mN ik.G) ik.an 0 Tryz.f40 1 mX vg jS mu BE
theorem Xn:lN F6 vd jR mr:=qe (oE [.d fg,.d (.slice gK),.d ti,.d ti,.d (.slice (.pair bP .bool))] λ_=>cT)
theorem JL:sx @F4 mW vd jR mr BD MU:=tI
theorem F7(nO t33 t34 t35 n31)(kn:K2 R)(kx:K3 R):F4 (nO,t33,t34,t35,n31) kn kx=aS (iE t35 t34) (aS (gU t35 (((ag t33):Nat):Int)) (aS ((cq bP (nth gK t33 (ab t35)).1 n31).getD aR) (kx (gf ()).1 (gf ()).2) (aS (iE (nth gK t33 (ab t35)).1.2.1 (0:Int)) (kx (gf ()).1 (gf ()).2) (aS (BI (nth gK t33 (ab t35)).1.2.1 (64:Int)) (kx (gf ()).1 (gf ()).2) (aq (Xr.call (nth gK t33 (ab t35)).2.1) λx8=>aS (!x8) (kx (gf ()).1 (gf ()).2) (kn (mW (nO,t33,t34,(bV .i64 t35 (1:Int)),(ff bP (nth gK t33 (ab t35)).1 aT n31)))))))) aJ) (kx (vf nO).1 (vf nO).2):=cT
theorem Xo:lN zO vg jS mu:=qe (oE [.d ti,.d (.slice jv),.d ti,.d ti] λ_=>cT)
theorem JM:sx @F8 mX vg jS mu BE MV:=tI
theorem Ga(sum t66 t67 t68)(kn:K2 R)(kx:K3 R):F8 (sum,t66,t67,t68) kn kx=aS (iE t68 t67) (aS (gU t68 (((ag t66):Nat):Int)) (aq (WL.call (sum,(nth jv t66 (ab t68)).1)) λart=>aS (!art.2) (kx (jT ()).1 (jT ()).2) (aq (oJ.call (nth jv t66 (ab t68)).2.1) λakI=>aS (!akI) (kx (jT ()).1 (jT ()).2) (kn (mX (art.1,t66,t67,(bV .i64 t68 (1:Int))))))) aJ) (kx (vh ()).1 (vh ()).2):=cT
theorem are(t)(k:K1 R):ik.A t k=aS (iE (t.1.length:Int) 1) (k (ik.out aR)) (aS (Ap (t.1.length:Int) 64) (k (ik.out aR)) (aS (Ap (t.2.1.length:Int) 64) (k (ik.out aR)) (aS (iE t.2.2.1 0) (k (ik.out aR)) (aq (F6 (t,t.1,(t.1.length:Int),0,([]:List (cC×Bool)))) λakI=>aS akI.isLeft (aq akI.getLeft? λa13=>k (ik.out aR)) (aq akI.getRight? λb14=>aq (zO (0,b14.2.1,(b14.2.1.length:Int),0)) λZr=>aS Zr.isLeft (aq Zr.getLeft? λa31=>k (ik.out aR)) (aq Zr.getRight? λb32=>k (ik.out aT))))))):=cT
theorem acj:MU:=by
 refine JL (λ(t,l,n,i,m)=>l.length - i.toNat) ?_
 rintro⟨t,l,n,i,m⟩ ⟨hb,rfl,k,hk,rfl⟩;have hb:l.length<=9223372036854775807:=hb;have hk:k<=l.length:=hk;by_cases h:k < l.length
 ·have n1:nth gK l k=l[k]:=dj (t:=gK) h;have hd:Eh m (l.drop k)=((!(Pt m l[k]) && S7 l[k]) && Eh (ff bP l[k].1 aT m) (l.drop (k+1))):=by rw[aC h];rfl
  have step:∀ {R:Type} (kn:AS->Option R) (kx:Exit->AS->Option R),F4 (t,l,(l.length:Int),(k:Int),m) kn kx=aS (!(Pt m l[k]) && S7 l[k]) (kn (mW (t,l,(l.length:Int),((k+1:Nat):Int),ff bP l[k].1 aT m))) (kx (gf ()).1 (gf ()).2):=by
   intro R kn kx;rw[F7,bm au,bz au au,aa,n1,N.pn au,agX (d:=l[k].2.1) trivial];simp only[ak,ae,bF,acp];have e:(cq bP l[k].1 m).getD aR=Pt m l[k]:=rfl;rw[e];cases Pt m l[k]
   ·simp only[fj,cH,ao,S7];by_cases h1:l[k].1.2.1 < 0
    ·rw[bm h1,ak,bI (λx=>au)];rfl
    ·rw[bn h1,ao];by_cases h2:64<=l[k].1.2.1
     ·rw[ig h2,ak,bI (λx=>au)];rfl
     ·rw[fa h2,ao,bf ⟨au,au⟩];cases Ea l[k].2.1 <;> rfl
   ·rfl
  cases hp:(!(Pt m l[k]) && S7 l[k])
  ·right;refine⟨gf (),?_,λkn kx=> ?_⟩
   ·simp only[jR,mr,aa,hd,hp,fJ,bW,cK];rfl
   ·rw[step,hp,ao]
  ·left;refine⟨(t,l,l.length,((k+1:Nat):Int),ff bP l[k].1 aT m),⟨hb,rfl,k+1,au,rfl⟩,by simp only[aa];omega,?_,λkn kx=> ?_⟩
   ·simp only[jR,mr,aa,hd,hp,cH]
   ·rw[step,hp,ak]
 ·right;obtain rfl:k=l.length:=au;refine⟨vf t,?_,λkn kx=> ?_⟩
  ·simp only[jR,mr,aa,aU];rfl
  ·rw[F7];simp(disch:=omega) only[↓S1,↓if_pos,↓if_neg,if_pos,if_neg,da,cK,S2]
theorem ack:MV:=by
 refine JM (λ(s,l,n,i)=>l.length - i.toNat) ?_
 rintro⟨s,l,n,i⟩ ⟨hl,hb,rfl,k,hk,rfl⟩;have hb:l.length<=9223372036854775807:=hb;have hk:k<=l.length:=hk;by_cases h:k < l.length
 ·have hx:aB7 l[k].2.1:=hl _ (aX h);have n1:nth jv l k=l[k]:=dj (t:=jv) h;have hd:Be s (l.drop k)=((qk s l[k].1 && nI l[k].2.1) && Be (s+l[k].1) (l.drop (k+1))):=by rw[aC h];rfl
  have step:∀ {R:Type} (kn:AS->Option R) (kx:Exit->AS->Option R),F8 (s,l,(l.length:Int),(k:Int)) kn kx=aS (qk s l[k].1 && nI l[k].2.1) (kn (mX (s+l[k].1,l,(l.length:Int),((k+1:Nat):Int)))) (kx (jT ()).1 (jT ()).2):=by
   intro R kn kx;rw[Ga,bm au,bz au au,aa,n1,N.pn au,au9 (d:=(s,l[k].1)) trivial,zi (d:=l[k].2.1) hx];simp only[ak,ae,bF,aja,bF,B3];cases qk s l[k].1
   ·rfl
   ·cases nI l[k].2.1 <;> rfl
  cases hp:(qk s l[k].1 && nI l[k].2.1)
  ·right;refine⟨jT (),?_,λkn kx=> ?_⟩
   ·simp only[jS,mu,aa,hd,hp,fJ,bW,cK];rfl
   ·rw[step,hp,ao]
  ·left;refine⟨(s+l[k].1,l,l.length,((k+1:Nat):Int)),⟨hl,hb,rfl,k+1,au,rfl⟩,by simp only[aa];omega,?_,λkn kx=> ?_⟩
   ·simp only[jS,mu,aa,hd,hp,cH]
   ·rw[step,hp,ak]
 ·right;obtain rfl:k=l.length:=au;refine⟨vh (),?_,λkn kx=> ?_⟩
  ·simp only[jS,mu,aa,aU];rfl
  ·rw[Ga];simp(disch:=omega) only[↓S1,↓if_pos,↓if_neg,if_pos,if_neg,da,cK,S2]
theorem arf:ik.Ok:=by
 rintro⟨is,os,nt,u⟩ ⟨hl,h1,h2⟩;have h1:is.length<=9223372036854775807:=h1;have h2:os.length<=9223372036854775807:=h2;rw[are,Xn (d:=((is,os,nt,u),is,is.length,0,[])) ⟨h1,rfl,0,au,rfl⟩];simp only[ae,jR,mr,bt,aQ,bF,o8,iM,acq];by_cases a1:is.length < 1
 ·rw[bm au,ak,bI (λx=>au)];rfl
 rw[bn au,ao];by_cases a2:64 < is.length
 ·rw[dX au,ak,bI (λx=>au)];rfl
 rw[dx au,ao];by_cases a3:64 < os.length
 ·rw[dX au,ak,bI (λx=>au)];rfl
 rw[dx au,ao];by_cases a4:nt < 0
 ·rw[bm au,ak,bI (λx=>au)];rfl
 rw[bn au,ao,bf ⟨au,au,au,au⟩];cases Eh [] is
 ·rfl
 ·simp only[da,cH];show aq (zO (0,os,(os.length:Int),0)) _=_;rw[Xo (d:=(0,os,os.length,0)) ⟨hl,h2,rfl,0,au,rfl⟩];simp only[ae,jS,mu,bt,aQ];cases Be 0 os <;> rfl
theorem mY:ik.RS:=rE [.d fg] ik
def pV:=ik.gm arf 2 ⟨.gQ acj,⟨.gQ ack,trivial⟩⟩
def ajr:Bs->Prop:=λl=>l.length<=1000000
def LN:Bs->Bs:=λl=>l
def Bg:Fs Tryz.prog ajr bF LN:=gg 64 Tryz.f64 (λsv=>([.d tU sv],[])) (λx=>⟨.d tU x,[],[]⟩) [al tU] [] {bM:=[5],res:=[al tU]}
theorem apR(sv)(k:K1 R):Bg.A sv k=aS (decide (0 < (ag sv))) (aS (ea (0+(ag sv)) 8) (aS (decide (0=0/\(0+(0+(ag sv)))<=(ag ((bj 0 (ai 0 0))++sv)))) (k (Bg.out (cut ((bj 0 (ai 0 0))++sv) 0 (0+(ag sv))))) aJ) aJ) (nd (k (Bg.out ([]:List Int))) (aS (ea (0+(ag sv)) 8) (aS (decide (0=0/\(0+(0+(ag sv)))<=(ag ((bj 0 (ai 0 0))++sv)))) (k (Bg.out (cut ((bj 0 (ai 0 0))++sv) 0 (0+(ag sv))))) aJ) aJ)):=cT
theorem apS:Bg.Ok:=by
 intro l hl;have hl:l.length<=1000000:=hl;have hr:ea l.length 8=aT:=eW au au;have e0:(bj 0 (ai 0 0):List Int)=[]:=rfl;rw[apR];simp only[ba,hr,ak,e0,aV,aF,j4,cR,fp,bF,LN];by_cases h:0 < l.length
 ·simp only[bf h,ak]
 ·have:l=[]:=bw au;subst this;simp only[bB,Ax,bI (gC 0),ao]
theorem Un:Bg.RS:=rE [.d tU] Bg
def YK:=Bg.gm apS
def aHC(l:List Int):Lk:=([(l,0,0,0,())],())
def tO(o:List Int)(ks:List Int):List Int:=ks.foldl (λo p=>o++l6 p) o
def axN(o:List Int)(b:tG):List Int:=dW (dW (tO (dW o b.1.length) b.1) b.2.1) b.2.2.1++l6 b.2.2.2.1
def NV(l:Lk):List Int:=if nI l then l.1.foldl axN (dW [] l.1.length) else []
theorem NS:∀(ks:List Int) (o:List Int),(tO o ks).length=o.length+8*ks.length
 |[],o=>rfl
 |k::ks,o=>by show(tO (o++l6 k) ks).length=_;rw[NS ks,aj,dC,aH];omega
theorem alb(o:List Int)(b:tG)(h:b.1.length<=12):(axN o b).length<=o.length+200:=by unfold axN;have h1:=fL o b.1.length;have h2:=NS b.1 (dW o b.1.length);have h3:=fL (tO (dW o b.1.length) b.1) b.2.1;have h4:=fL (dW (tO (dW o b.1.length) b.1) b.2.1) b.2.2.1;rw[aj,dC];omega
def axY(n:Int):Prop:=n<=9223372036854775807
def aGL(b:tG):Prop:=b.1.length<=12/\axY b.2.1/\axY b.2.2.1
theorem aCl{b:tG}(h:Ed b=aT):aGL b:=by unfold Ed NM at h;simp only[av,aW]at h;obtain⟨h1,_,h2,h3,_⟩:=h;exact⟨h1,by unfold axY;omega,by unfold axY;omega⟩
theorem aiN(o:List Int)(ks:List Int)(k:Nat)(h:k < ks.length):tO o (ks.drop k)=tO (o++l6 ks[k]) (ks.drop (k+1)):=by rw[aC h];rfl
abbrev PC:=Bs×(List tG)×Int×Int
abbrev EW:=Bs×(List tG)×Int×Int×Bs×Int×Int×tG
def uH:EW->Bs->(((List tG)×Int×Int×tG)×(Bs)):=λ(N6,zI,VB,VD,t28,t29,t30,n5) y=>((zI,VB,VD,n5),y)
def WB:EW->Prop:=λ(o,bs,n,i,ks,m,j,b)=>ks.length<=12/\o.length+8*ks.length<=80000000+8*j.toNat/\m=ks.length/\∃k:Nat,k<=ks.length/\j=k
def Aq:EW->Bs:=λ(o,bs,n,i,ks,m,j,b)=>tO o (ks.drop j.toNat)
def Wz:PC->Prop:=λ(o,bs,n,i)=>(∀b∈bs,aGL b)/\bs.length<=4/\o.length<=1000+200*i.toNat/\n=bs.length/\∃k:Nat,k<=bs.length/\i=k
def EU:PC->Bs:=λ(o,bs,n,i)=>(bs.drop i.toNat).foldl axN o
def aiQ:Lk->Prop:=λl=>akP l/\l.1.length<=9223372036854775807
def Ll:Lk->Bs:=λl=>NV l
def pD:Ls Wz bF EU:=xM (λ(outv,t16,t17,t18)=>⟨([cw,cw,cw,.d tB outv]++bg 12 ([.d (.slice sa) t16,.d ti t17,.d ti t18]++bg 31 [])),[],(ai 50 [])⟩) (λx=>(.exit 0,⟨([cw,cw,cw,.d tB x]++bg 46 []),[],(ai 50 [])⟩))
def pE:Ls WB uH Aq:=xM (λ(N6,zI,VB,VD,t28,t29,t30,n5)=>⟨([cw,cw,cw,.d tB N6,cw,fI 5]++bg 10 ([.d (.slice sa) zI,.d ti VB,.d ti VD]++bg 9 ([.d tU t28,.d ti t29,.d ti t30]++bg 19 []))),[],(bK 5 ([dK (.d sa n5)]++bK 44 []))⟩) (λx=>(.exit 2,⟨([cw,cw,cw,.d tB x.2,cw,fI 5]++bg 10 ([.d (.slice sa) x.1.1,.d ti x.1.2.1,.d ti x.1.2.2.1]++bg 31 [])),[],(bK 5 ([dK (.d sa x.1.2.2.2)]++bK 44 []))⟩))
def rp:Fs Tryz.prog aiQ bF Ll:=gg 87 Tryz.f87 (λl=>([.d ahh l],[])) (λx=>⟨.d tB x,[],[]⟩) [al ahh] [B4,Rj,adP] {loops:=sk [(5,{bu:=[3,16,17,18]}),(9,{bu:=[3,5,16,17,18,28,29,30],sites:=[5]})],outs:=sj [(5,{bu:=[3]},{bu:=[2]}),(9,{bu:=[3,5,16,17,18],sites:=[5]},{bu:=[2]})],gV:=tK [(5,pD.E),(9,pE.E)],res:=[al tB]}
theorem WA:pD.RS:=rL [.d tB,.d (.slice sa),.d ti,.d ti] pD
theorem EV(outv t16 t17 t18)(kn:K2 R)(kx:K3 R):rp.R 0 pD (outv,t16,t17,t18) kn kx=aS (iE t18 t17) (aS (gU t18 (t16.length:Int)) (aq (yU.call (outv,(((ag (nth sa t16 (ab t18)).1):Nat):Int))) λx1=>aq (pE.call (x1,t16,t17,t18,(nth sa t16 (ab t18)).1,(((ag (nth sa t16 (ab t18)).1):Nat):Int),0,(nth sa t16 (ab t18)))) λx2=>aq (yU.call (x2.2,x2.1.2.2.2.2.1)) λx3=>aq (yU.call (x3,x2.1.2.2.2.2.2.1)) λx4=>aq (EG.call (x4,x2.1.2.2.2.2.2.2.1)) λx5=>kn (pD.st (x5,x2.1.1,x2.1.2.1,(bV .i64 x2.1.2.2.1 1)))) aJ) (pD.go kx outv):=cT
theorem WC:pE.RS:=rL [.d tB,.d (.slice sa),.d ti,.d ti,.d tU,.d ti,.d ti,.d sa] pE
theorem EX(N6 zI VB VD t28 t29 t30 n5)(kn:K2 R)(kx:K3 R):rp.R 1 pE (N6,zI,VB,VD,t28,t29,t30,n5) kn kx=aS (iE t30 t29) (aS (gU t30 (t28.length:Int)) (aq (EG.call (N6,(nth tu t28 (ab t30)))) λx1=>kn (pE.st (x1,zI,VB,VD,t28,t29,(bV .i64 t30 1),n5))) aJ) (pE.go kx ((zI,VB,VD,n5),N6)):=cT
theorem ao3(l)(k:K1 R):rp.A l k=aq (oJ.call l) λx1=>aS (!x1) (k (rp.out ([]:List Int))) (aq (yU.call (([]:List Int),(l.1.length:Int))) λx2=>aq (pD.call (x2,l.1,(l.1.length:Int),0)) λx9=>k (rp.out x9)):=cT
theorem aaV:(rp.mw 1 pE):=by
 refine(rp.qz 1 pE) (λ(o,bs,n,i,ks,m,j,b)=>ks.length - j.toNat) ?_
 rintro⟨o,bs,n,i,ks,m,j,b⟩ ⟨aC3,hl,rfl,k,hk,rfl⟩;have aC3:ks.length<=12:=aC3;have hk:k<=ks.length:=hk;have hl:o.length+8*ks.length<=80000000+8*(k:Int).toNat:=hl;rw[aa]at hl;by_cases h:k < ks.length
 ·left;have n1:nth (.int .u64) ks k=ks[k]:=dj (t:= .int .u64) h;refine⟨(o++l6 ks[k],bs,n,i,ks,ks.length,((k+1:Nat):Int),b),⟨aC3,by rw[aj,dC,aa];omega,rfl,k+1,au,rfl⟩,by simp only[aa];omega,?_,λkn kx=> ?_⟩
  ·simp only[uH,Aq,aa];rw[aiN _ _ _ h]
  ·rw[EX];simp(disch:=omega) only[↓S1,↓if_pos,↓if_neg,if_pos,if_neg,da,cK,S2,n1];rw[BV (d:=(o,ks[k])) (by show o.length<=90000000;omega)];rfl
 ·right;obtain rfl:k=ks.length:=au;intro R kn kx;rw[EX];simp(disch:=omega) only[↓S1,↓if_pos,↓if_neg,if_pos,if_neg,da,cK,S2,uH,Aq,aU];rfl
theorem aaU:(rp.mw 0 pD):=by
 refine(rp.qz 0 pD) (λ(o,bs,n,i)=>bs.length - i.toNat) ?_
 rintro⟨o,bs,n,i⟩ ⟨hb,h4,hl,rfl,k,hk,rfl⟩;have h4:bs.length<=4:=h4;have hk:k<=bs.length:=hk;have hl:o.length<=1000+200*(k:Int).toNat:=hl;rw[aa]at hl;by_cases h:k < bs.length
 ·left;have hx:=hb _ (aX h);have n1:nth (.pair (.slice (.int .u64)) (.pair (.int .i64) (.pair (.int .i64) (.pair (.int .u64) .unit)))) bs k=bs[k]:=dj (t:=(.pair (.slice (.int .u64)) (.pair (.int .i64) (.pair (.int .i64) (.pair (.int .u64) .unit))))) h;have e0:=alb o bs[k] hx.1;refine⟨(axN o bs[k],bs,bs.length,((k+1:Nat):Int)),⟨hb,h4,by rw[aa];omega,rfl,k+1,au,rfl⟩,by simp only[aa];omega,?_,λkn kx=> ?_⟩
  ·simp only[bF,EU,aa];rw[aC h];rfl
  ·rw[EV,bm au,bz au au,aa,n1];obtain⟨⟨ks,af,dl,sc,u⟩,aFj⟩:∃b,bs[k]=b:=⟨_,rfl⟩;rw[aFj]at hx e0 ⊢;obtain⟨aoE,ha,hd⟩:=hx;have aoE:ks.length<=12:=aoE;have ha:af<=9223372036854775807:=ha;have hd:dl<=9223372036854775807:=hd;have l1:=fL o ks.length;have l2:=NS ks (dW o ks.length);have l3:=fL (tO (dW o ks.length) ks) af;have l4:=fL (dW (tO (dW o ks.length) ks) af) dl;simp only[ak];rw[jr (d:=(o,(ks.length:Int))) ⟨by show o.length<=90000000;omega,by show(ks.length:Int)<=9223372036854775807;omega⟩];simp only[ae,bF,og];rw[WC (d:=(dW o ks.length,bs,bs.length,k,ks,ks.length,0,(ks,af,dl,sc,u))) ⟨aoE,by show(dW o ks.length).length+8*ks.length<=_;omega,rfl,0,au,rfl⟩];simp only[ae,uH,Aq,bt,aQ];rw[jr (d:=(tO (dW o ks.length) ks,af)) ⟨by show(tO (dW o ks.length) ks).length<=90000000;omega,ha⟩];simp only[ae,bF,og];rw[jr (d:=(dW (tO (dW o ks.length) ks) af,dl)) ⟨by show(dW (tO (dW o ks.length) ks) af).length<=90000000;omega,hd⟩];simp only[ae,bF,og];rw[BV (d:=(dW (dW (tO (dW o ks.length) ks) af) dl,sc)) (by show(dW (dW (tO (dW o ks.length) ks) af) dl).length<=90000000;omega)];simp only[ae,bF,Ku];rw[N.pn au];rfl
 ·right;obtain rfl:k=bs.length:=au;intro R kn kx;rw[EV];simp(disch:=omega) only[↓S1,↓if_pos,↓if_neg,if_pos,if_neg,da,cK,S2,bF,EU,aU];rfl
theorem auL{l:Lk}(h:nI l=aT):(∀b∈l.1,aGL b)/\0 < l.1.length/\l.1.length<=4:=by unfold nI at h;simp only[av,c7,aW]at h;exact⟨λb hb=>aCl (h.1 b hb),h.2⟩
theorem ao4:rp.Ok:=by
 rintro l ⟨hl,hb⟩;have hl:akP l:=hl;rw[ao3,zi (d:=l) ⟨hl,hb⟩];simp only[ae,bF,B3,bF,Ll,NV];cases jd:nI l
 ·rfl
 ·obtain⟨h1,h2,h3⟩:=auL jd;have l1:=fL [] l.1.length;have l0:([]:List Int).length=0:=rfl;simp only[cv,ao,da];rw[jr (d:=([],(l.1.length:Int))) ⟨by show([]:List Int).length<=90000000;omega,by show(l.1.length:Int)<=9223372036854775807;omega⟩];simp only[ae,bF,og];rw[WA (d:=(dW [] l.1.length,l.1,l.1.length,0)) ⟨h1,h3,by show(dW [] l.1.length).length<=_;omega,rfl,0,au,rfl⟩];rfl
theorem Ln(l:Lk):(NV l).length<=1000:=by
 unfold NV;split
 ·rename_i h;obtain⟨h1,h2,h3⟩:=auL h;have key:∀(bs:List tG) (o:List Int),(∀b∈bs,aGL b)->(bs.foldl axN o).length<=o.length+200*bs.length:=by
   intro bs
   induction bs with
   |nil=>intro o _;exact aF _
   |cons b bs ih=>
    intro o hb;have e1:=ih (axN o b) λx hx=>hb x (aK _ hx)
    have e2:=alb o b (hb b aL).1;rw[aY,aH];omega
  have e:=key l.1 (dW [] l.1.length) h1;have e2:=fL [] l.1.length;have l0:([]:List Int).length=0:=rfl;omega
 ·exact aP _
theorem Tp:rp.RS:=rE [.d ahh] rp
def Yo:=rp.gm ao4 2 ⟨.gQ aaU,⟨.gQ aaV,trivial⟩⟩
def an7:(Bs×Bs)->Prop:=λ(b,h)=>b.length+h.length<=100000000/\h.length=32
def Kt:(Bs×Bs)->Bs:=λ(b,h)=>b++h
def Hf:Fs Tryz.prog an7 bF Kt:=gg 58 Tryz.f58 (λ(b,h)=>([.d tB b,.d tH h],[])) (λx=>⟨.d tB x,[],[]⟩) [al tB,al tH] [R9]
theorem as3(b h)(k:K1 R):Hf.A (b,h) k=aq (EA.call (b,(cut h 0 32))) λx1=>k (Hf.out x1):=cT
theorem as4:Hf.Ok:=by rintro⟨b,h⟩ ⟨h1,h2⟩;have h1:b.length+h.length<=100000000:=h1;have h2:h.length=32:=h2;rw[as3,fp h2,Gs (d:=(b,h)) h1];rfl
theorem Gt:Hf.RS:=rE [.d tB,.d tB] Hf
def adO:=Hf.gm as4
def an5:(Bs×Bs)->Prop:=λ(b,c)=>b.length+c.length<=90000000
def ZU:(Bs×Bs)->Bs:=λ(b,c)=>b++(iF c.length++c)
def Sf:Fs Tryz.prog an5 bF ZU:=gg 86 Tryz.f86 (λ(b,c)=>([.d tB b,.d tB c],[])) (λx=>⟨.d tB x,[],[]⟩) [al tB,al tB] [ali,RU] {res:=[al tB]}
theorem as0(b c)(k:K1 R):Sf.A (b,c) k=aq (Sh.call (c.length:Int)) λx1=>aq (nK.call [b,x1,c]) λx2=>k (Sf.out x2):=cT
theorem as1:Sf.Ok:=by rintro⟨b,c⟩ h;have h:b.length+c.length<=90000000:=h;have hl:=nj c.length;rw[as0,adR (d:=(c.length:Int)) ⟨au,au⟩];simp only[ae,bF,ah7];rw[OM (d:=[b,iF c.length,c]) ⟨by show [b,iF c.length,c].length<=_;simp,by show sU [b,iF c.length,c]<=_;simp only[sU,jh,pd,bO,aj];omega⟩];simp only[ae,bF,Nc,bF,ZU,jh,pd,bO]
theorem an6:Sf.RS:=rE [.d tB,.d tB] Sf
def as2:=Sf.gm as1
def Rs(b:List Int)(x:kj):List Int:=dW (b++x.1.1) x.1.2.1
def Q1(b:List Int)(o:lM):List Int:=dW b o.1++(iF (NV o.2.1).length++NV o.2.1)
def wg(t:dS):List Int:=dW (t.2.1.foldl Q1 (dW (t.1.foldl Rs (dW [] t.1.length)) t.2.1.length)) t.2.2.1
def Vn(b:List Int)(s:Sg):List Int:=b++l6 s.1++l6 s.2.1
def akF(b:List Int)(x:kj):List Int:=x.2.1.2.1.foldl Vn (dW (dW b x.2.1.1) x.2.1.2.1.length)++l6 x.2.1.2.2.1
def aAT(t:dS):List Int:=if iM t then t.1.foldl akF (wg t) else []
def wI(t:dS):List Int:=if iM t then tag (cE (⟨#[116,120]⟩:ByteArray)) [wg t] else ai 32 0
def aJm(x:kj):Prop:=Sm x.1.1/\RL x.2.1/\x.2.1.2.1.length<=9223372036854775807
def vW(t:dS):Prop:=aEW t/\(∀x∈t.1,aJm x)/\t.2.2.1<=9223372036854775807
theorem oF:∀(l:List kj) (m:List (cC×Bool)),Eh m l=aT->∀x∈l,S7 x=aT
 |[],_,_,x,hx=>by cases hx
 |y::l,m,h,x,hx=>by
  rw[Eh,av,av]at h;rcases cg.1 hx with rfl | hx
  ·exact h.1.2
  ·exact oF l _ h.2 x hx
theorem mP:∀(l:List lM) (s:Int),Be s l=aT->∀o∈l,(0<=o.1/\o.1<=1125899906842624)/\nI o.2.1=aT
 |[],_,_,o,ho=>by cases ho
 |y::l,s,h,o,ho=>by
  rw[Be,av,av]at h;rcases cg.1 ho with rfl | ho
  ·have h1:=h.1.1;unfold qk ED at h1;simp only[av,aW]at h1;exact⟨h1.2.1,h.1.2⟩
  ·exact mP l _ h.2 o ho
theorem C0{x:kj}(h:S7 x=aT):0<=x.1.2.1/\x.1.2.1 < 64/\0<=x.2.1.1/\x.2.1.1 < 4/\x.2.1.2.1.length<=12:=by unfold S7 Ea at h;simp only[av,aW]at h;exact⟨h.1.1,h.1.2,h.2.1.1,h.2.1.2,h.2.2⟩
theorem jo{t:dS}(h:iM t=aT):(1<=t.1.length/\t.1.length<=64/\t.2.1.length<=64/\0<=t.2.2.1)/\Eh [] t.1=aT/\Be 0 t.2.1=aT:=by unfold iM acq at h;simp only[av,aW]at h;exact h
theorem alK(b:List Int)(x:kj):(Rs b x).length<=b.length+x.1.1.length+11:=by have:=fL (b++x.1.1) x.1.2.1;rw[aj]at this;exact this
theorem afy(b:List Int)(o:lM):(Q1 b o).length<=b.length+1022:=by have h1:=fL b o.1;have h2:=nj (NV o.2.1).length;have h3:=Ln o.2.1;unfold Q1;rw[aj,aj];omega
theorem agt(b:List Int)(s:Sg):(Vn b s).length=b.length+16:=by unfold Vn;rw[aj,aj,dC,dC]
abbrev F0:=dS×Bs×(List kj)×Int×Int
def u9:F0->Bs->((dS)×(Bs)):=λ(nO,b,t13,t14,t15) y=>(nO,y)
abbrev F2:=dS×Bs×(List lM)×Int×Int
def vc:F2->Bs->((dS)×(Bs)):=λ(BC,nZ,t35,t36,t37) y=>(BC,y)
def Xj:F0->Prop:=λ(t,b,l,n,i)=>(l).length<=1000000000/\∃k:Nat,k<=(l).length/\i=k/\n=(l).length/\(l.length<=64)/\(∀x∈l,x.1.1.length=32/\x.1.2.1<=9223372036854775807)/\(b.length<=100+50*k)
def AQ:F0->Bs:=λ(t,b,l,n,i)=>(bT (ab i) l).foldl Rs b
def Xl:F2->Prop:=λ(t,b,l,n,i)=>(l).length<=1000000000/\∃k:Nat,k<=(l).length/\i=k/\n=(l).length/\(l.length<=64)/\(∀o∈l,o.1<=9223372036854775807/\aB7 o.2.1)/\(b.length<=4000+1100*k)
def AR:F2->Bs:=λ(t,b,l,n,i)=>(bT (ab i) l).foldl Q1 b
def aky:dS->Prop:=λt=>iM t=aT/\vW t
def VW:dS->Bs:=λt=>wg t
def pR:Ls Xj u9 AQ:=xM (λ(nO,b,t13,t14,t15)=>⟨([cw,.eN fg nO,cw,.d tB b]++bg 9 ([.d (.slice gK) t13,.d ti t14,.d ti t15]++bg 38 [])),[],(ai 54 [])⟩) (λx=>(.exit 0,⟨([cw,.eN fg x.1,cw,.d tB x.2]++bg 50 []),[],(ai 54 [])⟩))
def pS:Ls Xl vc AR:=xM (λ(BC,nZ,t35,t36,t37)=>⟨([cw,.eN fg BC,cw,.d tB nZ]++bg 31 ([.d (.slice jv) t35,.d ti t36,.d ti t37]++bg 16 [])),[],(ai 54 [])⟩) (λx=>(.exit 2,⟨([cw,.eN fg x.1,cw,.d tB x.2]++bg 50 []),[],(ai 54 [])⟩))
def tz:Fs Tryz.prog aky bF VW:=gg 42 Tryz.f42 (λt=>([.d fg t],[])) (λx=>⟨.d tB x,[],[]⟩) [al fg] [Rj,adO,Yo,as2] {loops:=sk [(3,{bu:=[1,3,13,14,15]}),(9,{bu:=[1,3,35,36,37]})],outs:=sj [(3,{bu:=[1,3]},{bu:=[2]}),(9,{bu:=[1,3]},{bu:=[2]})],gV:=tK [(3,pR.E),(9,pS.E)],res:=[al tB]}
theorem Xk:pR.RS:=rL [.d fg,.d tB,.d (.slice gK),.d ti,.d ti] pR
theorem F1(nO b t13 t14 t15)(kn:K2 R)(kx:K3 R):tz.R 0 pR (nO,b,t13,t14,t15) kn kx=aS (iE t15 t14) (aS (gU t15 (t13.length:Int)) (aq (Hf.call (b,(nth gK t13 (ab t15)).1.1)) λx1=>aq (yU.call (x1,(nth gK t13 (ab t15)).1.2.1)) λx2=>kn (pR.st (nO,x2,t13,t14,(bV .i64 t15 1)))) aJ) (pR.go kx (nO,b)):=cT
theorem Xm:pS.RS:=rL [.d fg,.d tB,.d (.slice jv),.d ti,.d ti] pS
theorem F3(BC nZ t35 t36 t37)(kn:K2 R)(kx:K3 R):tz.R 1 pS (BC,nZ,t35,t36,t37) kn kx=aS (iE t37 t36) (aS (gU t37 (t35.length:Int)) (aq (yU.call (nZ,(nth jv t35 (ab t37)).1)) λx1=>aq (rp.call (nth jv t35 (ab t37)).2.1) λx2=>aq (Sf.call (x1,x2)) λx3=>kn (pS.st (BC,x3,t35,t36,(bV .i64 t37 1)))) aJ) (pS.go kx (BC,nZ)):=cT
theorem ara(t)(k:K1 R):tz.A t k=aq (yU.call (([]:List Int),(t.1.length:Int))) λx1=>aq (pR.call (t,x1,t.1,(t.1.length:Int),0)) λx4=>aq (yU.call (x4.2,(x4.1.2.1.length:Int))) λx5=>aq (pS.call (x4.1,x5,x4.1.2.1,(x4.1.2.1.length:Int),0)) λx9=>aq (yU.call (x9.2,x9.1.2.2.1)) λart=>k (tz.out art):=cT
theorem ab9:(tz.mw 0 pR):=by
 refine(tz.qz 0 pR) (λ(t,b,l,n,i)=>(l).length - ab i) ?_
 rintro⟨t,b,l,n,i⟩ ⟨hlen,k,hk,rfl,rfl,ait,hx,hb⟩;have hlen:(l).length<=1000000000:=hlen;have hk:k<=(l).length:=hk;have ait:l.length<=64:=ait;have hx:∀x∈l,x.1.1.length=32/\x.1.2.1<=9223372036854775807:=hx;have hb:b.length<=100+50*k:=hb;by_cases h:k < (l).length
 ·left;have n1:nth gK l k=l[k]:=dj (t:=gK) h;have hd:bT k l=l[k]::bT (k+1) l:=aC h;refine⟨(t,(Rs b l[k]),l,((l).length:Int),((k+1:Nat):Int)),⟨hlen,k+1,au,rfl,rfl,ait,hx,by have:=alK b l[k];have:=(hx _ (aX h)).1;omega⟩,by simp only[aa];omega,?_,λkn kx=> ?_⟩
  ·simp only[u9,AQ,aa,hd,aY]
  ·rw[F1,bm au,bz au au,aa,n1];simp only[ak];have e:=hx _ (aX h);have e2:(b++l[k].1.1).length=b.length+l[k].1.1.length:=aj;rw[Gt (d:=(b,l[k].1.1)) ⟨by show b.length+l[k].1.1.length<=_;omega,e.1⟩];simp only[ae,bF,Kt];rw[jr (d:=(b++l[k].1.1,l[k].1.2.1)) ⟨by show(b++l[k].1.1).length<=_;omega,e.2⟩];simp only[ae,bF,og];rw[N.pn au];rfl
 ·right;obtain rfl:k=(l).length:=au;intro R kn kx;rw[F1,bn au,ao];simp only[u9,AQ,aa,aU,dd]
theorem aca:(tz.mw 1 pS):=by
 refine(tz.qz 1 pS) (λ(t,b,l,n,i)=>(l).length - ab i) ?_
 rintro⟨t,b,l,n,i⟩ ⟨hlen,k,hk,rfl,rfl,ait,hx,hb⟩;have hlen:(l).length<=1000000000:=hlen;have hk:k<=(l).length:=hk;have ait:l.length<=64:=ait;have hx:∀o∈l,o.1<=9223372036854775807/\aB7 o.2.1:=hx;have hb:b.length<=4000+1100*k:=hb;by_cases h:k < (l).length
 ·left;have n1:nth jv l k=l[k]:=dj (t:=jv) h;have hd:bT k l=l[k]::bT (k+1) l:=aC h;refine⟨(t,(Q1 b l[k]),l,((l).length:Int),((k+1:Nat):Int)),⟨hlen,k+1,au,rfl,rfl,ait,hx,by have:=afy b l[k];omega⟩,by simp only[aa];omega,?_,λkn kx=> ?_⟩
  ·simp only[vc,AR,aa,hd,aY]
  ·rw[F3,bm au,bz au au,aa,n1];simp only[ak];have e:=hx _ (aX h);have e1:=fL b l[k].1;have e2:=Ln l[k].2.1;rw[jr (d:=(b,l[k].1)) ⟨by show b.length<=_;omega,e.1⟩];simp only[ae,bF,og];rw[Tp (d:=l[k].2.1) e.2];simp only[ae,bF,Ll];rw[an6 (d:=(dW b l[k].1,NV l[k].2.1)) (by show(dW b l[k].1).length+(NV l[k].2.1).length<=_;omega)];simp only[ae,bF,ZU];rw[N.pn au];rfl
 ·right;obtain rfl:k=(l).length:=au;intro R kn kx;rw[F3,bn au,ao];simp only[vc,AR,aa,aU,dd]
theorem aaQ:∀(l:List kj) (b:List Int),(∀x∈l,x.1.1.length=32)->(l.foldl Rs b).length<=b.length+43*l.length
 |[],b,_=>aF _
 |x::l,b,h=>by
  have h1:=alK b x;have h2:=h x aL;have h3:=aaQ l (Rs b x) λy hy=>h y (aK _ hy)
  rw[aY,aH];omega
theorem Ui:∀(l:List lM) (b:List Int),(l.foldl Q1 b).length<=b.length+1022*l.length
 |[],b=>aF _
 |x::l,b=>by have h1:=afy b x;have h3:=Ui l (Q1 b x);rw[aY,aH];omega
theorem UH{t:dS}(jd:iM t=aT)(hv:vW t):(wg t).length<=70000:=by
 obtain⟨⟨_,a2,a3,_⟩,_,_⟩:=jo jd;have h1:=aaQ t.1 (dW [] t.1.length) λx hx=>(hv.2.1 x hx).1.1
 have h2:=fL [] t.1.length;have h3:=fL (t.1.foldl Rs (dW [] t.1.length)) t.2.1.length;have h4:=Ui t.2.1 (dW (t.1.foldl Rs (dW [] t.1.length)) t.2.1.length);have h5:=fL (t.2.1.foldl Q1 (dW (t.1.foldl Rs (dW [] t.1.length)) t.2.1.length)) t.2.2.1;have h0:([]:List Int).length=0:=rfl;unfold wg;omega
theorem arb:tz.Ok:=by
 rintro t ⟨jd,hv⟩;have hv:vW t:=hv;obtain⟨⟨_,a2,a3,_⟩,b1,b2⟩:=jo jd;have h0:([]:List Int).length=0:=rfl;have l0:=fL [] t.1.length;have l1:=aaQ t.1 (dW [] t.1.length) λx hx=>(hv.2.1 x hx).1.1
 have l2:=fL (t.1.foldl Rs (dW [] t.1.length)) t.2.1.length;have l3:=Ui t.2.1 (dW (t.1.foldl Rs (dW [] t.1.length)) t.2.1.length);rw[ara,jr (d:=([],(t.1.length:Int))) ⟨by show([]:List Int).length<=_;omega,by show(t.1.length:Int)<=_;omega⟩];simp only[ae,bF,og];rw[Xk (d:=(t,dW [] t.1.length,t.1,t.1.length,0)) ⟨by show t.1.length<=_;omega,0,aP _,rfl,rfl,a2,λx hx=>⟨(hv.2.1 x hx).1.1,by have:=C0 (oF _ _ b1 x hx);omega⟩,by show(dW [] t.1.length).length<=_;omega⟩];simp only[ae,u9,AQ,bt,aQ];rw[jr (d:=(t.1.foldl Rs (dW [] t.1.length),(t.2.1.length:Int))) ⟨by show(t.1.foldl Rs (dW [] t.1.length)).length<=_;omega,by show(t.2.1.length:Int)<=_;omega⟩];simp only[ae,bF,og];rw[Xm (d:=(t,dW (t.1.foldl Rs (dW [] t.1.length)) t.2.1.length,t.2.1,t.2.1.length,0)) ⟨by show t.2.1.length<=_;omega,0,aP _,rfl,rfl,a3,λo ho=>⟨by have:=(mP _ _ b2 o ho).1;omega,hv.1.1 o ho⟩,by show(dW (t.1.foldl Rs (dW [] t.1.length)) t.2.1.length).length<=_;omega⟩];simp only[ae,vc,AR,bt,aQ];rw[jr (d:=(t.2.1.foldl Q1 (dW (t.1.foldl Rs (dW [] t.1.length)) t.2.1.length),t.2.2.1)) ⟨by show(t.2.1.foldl Q1 (dW (t.1.foldl Rs (dW [] t.1.length)) t.2.1.length)).length<=_;omega,hv.2.2⟩];rfl
theorem VX:tz.RS:=rE [.d fg] tz
def Zj:=tz.gm arb 2 ⟨.gQ ab9,⟨.gQ aca,trivial⟩⟩
def wy(n:Int)(x:kj):Int:=n+(10+8*x.2.1.2.1.length)+(if x.2.1.2.2.1=0 then 0 else 4)
def kq(t:dS):Int:=if iM t then t.1.foldl wy (10+8*t.2.1.length) else 0
def dV(t:dS):List cC:=if iM t then t.1.map (·.1) else []
def DP(id:List Int)(k n:Nat):List cC:=(List.range' k n).map λi:Nat=>(id,((i:Int),()))
def gq(t:dS):List cC:=if iM t then DP (wI t) 0 t.2.1.length else []
def aAQ:dS->Prop:=λt=>vW t
def VR:dS->Bs:=λt=>wI t
def tid:Fs Tryz.prog aAQ bF VR:=gg 20 Tryz.f20 (λt=>([.d fg t],[])) (λx=>⟨.d tH x,[],[]⟩) [al fg] [pV,Zj,Rr]
theorem aD4(t)(k:K1 R):tid.A t k=aq (ik.call t) λx1=>aS (!x1) (k (tid.out (ai 32 0))) (aq (tz.call t) λx2=>aq (NN.call ((⟨#[116,120]⟩:ByteArray),[x2])) λx3=>k (tid.out x3)):=cT
theorem aD5:tid.Ok:=by
 intro t hv;have hv:vW t:=hv;rw[aD4,mY (d:=t) hv.1];simp only[ae,bF,o8,bF,VR,wI];cases jd:iM t
 ·rfl
 ·have hl:=UH jd hv;rw[VX (d:=t) ⟨jd,hv⟩];simp only[cv,ao,da,ae,bF,VW];rw[K9 (d:=((⟨#[116,120]⟩:ByteArray),[wg t])) (agH fb au)];rfl
theorem GR:tid.RS:=rE [.d fg] tid
def OG:=tid.gm aD5
abbrev MY:=Int×(List kj)×Int×Int
def V8:MY->Prop:=λ(n,l,m,i)=>(l).length<=1000000000/\∃k:Nat,k<=(l).length/\i=k/\m=(l).length/\(l.length<=64)/\(∀x∈l,x.2.1.2.1.length<=12)/\(0<=n)/\(n<=1000+200*(k:Int))
def yz:MY->Int:=λ(n,l,m,i)=>(bT (ab i) l).foldl wy n
def agW:dS->Prop:=λt=>vW t
def GV:dS->Int:=λt=>kq t
def lG:Ls V8 bF yz:=xM (λ(n,t15,t16,t17)=>⟨([cw,cw,cw,.d ti n]++bg 11 ([.d (.slice gK) t15,.d ti t16,.d ti t17]++bg 19 [])),[],(ai 37 [])⟩) (λx=>(.exit 0,⟨([cw,cw,cw,.d ti x]++bg 33 []),[],(ai 37 [])⟩))
def qQ:Fs Tryz.prog agW bF GV:=gg 44 Tryz.f44 (λt=>([.d fg t],[])) (λx=>⟨.d ti x,[],[]⟩) [al fg] [pV] {loops:=sk [(5,{bu:=[3,15,16,17]})],outs:=sj [(5,{bu:=[3]},{bu:=[2]})],gV:=tK [(5,lG.E)]}
theorem V9:lG.RS:=rL [.d ti,.d (.slice gK),.d ti,.d ti] lG
theorem D9(n t15 t16 t17)(kn:K2 R)(kx:K3 R):qQ.R 0 lG (n,t15,t16,t17) kn kx=aS (iE t17 t16) (aS (gU t17 (t15.length:Int)) (aS (G5 (nth gK t15 (ab t17)).2.1.2.2.1 0) (kn (lG.st ((bV .i64 (bV .i64 n (bV .i64 10 (je .i64 8 (((ag (nth gK t15 (ab t17)).2.1.2.1):Nat):Int)))) 4),t15,t16,(bV .i64 t17 1)))) (kn (lG.st ((bV .i64 n (bV .i64 10 (je .i64 8 (((ag (nth gK t15 (ab t17)).2.1.2.1):Nat):Int)))),t15,t16,(bV .i64 t17 1))))) aJ) (lG.go kx n):=cT
theorem akC(t)(k:K1 R):qQ.A t k=aq (ik.call t) λx1=>aS (!x1) (k (qQ.out 0)) (aq (lG.call ((bV .i64 10 (je .i64 8 (t.2.1.length:Int))),t.1,(t.1.length:Int),0)) λx2=>k (qQ.out x2)):=cT
theorem Xq:(qQ.mw 0 lG):=by
 refine(qQ.qz 0 lG) (λ(n,l,m,i)=>(l).length - ab i) ?_
 rintro⟨n,l,m,i⟩ ⟨hlen,k,hk,rfl,rfl,ait,hx,h0,h1⟩;have hlen:(l).length<=1000000000:=hlen;have hk:k<=(l).length:=hk;have ait:l.length<=64:=ait;have hx:∀x∈l,x.2.1.2.1.length<=12:=hx;have h0:0<=n:=h0;have h1:n<=1000+200*(k:Int):=h1;by_cases h:k < (l).length
 ·left;have n1:nth gK l k=l[k]:=dj (t:=gK) h;have hd:bT k l=l[k]::bT (k+1) l:=aC h;refine⟨((wy n l[k]),l,((l).length:Int),((k+1:Nat):Int)),⟨hlen,k+1,au,rfl,rfl,ait,hx,by unfold wy;split <;> omega,by have:=hx _ (aX h);unfold wy;split <;> omega⟩,by simp only[aa];omega,?_,λkn kx=> ?_⟩
  ·simp only[bF,yz,aa,hd,aY]
  ·rw[D9,bm au,bz au au,aa,n1];simp only[ak];have e:=hx _ (aX h);rw[N.aF9 au];have e2:bV .i64 10 ((8*l[k].2.1.2.1.length:Nat):Int)=10+8*(l[k].2.1.2.1.length:Int):=by rw[hZ au au];omega
   rw[e2,hZ (x:=n) au au,N.pn au];unfold wy;by_cases hs:l[k].2.1.2.2.1=0
   ·rw[eJ hs,ao,if_pos hs,Int.add_zero]
   ·rw[iJ hs,ak,if_neg hs,hZ au au]
 ·right;obtain rfl:k=(l).length:=au;intro R kn kx;rw[D9,bn au,ao];simp only[bF,yz,aa,aU,dd]
theorem akD:qQ.Ok:=by
 intro t hv;have hv:vW t:=hv;rw[akC,mY (d:=t) hv.1];simp only[ae,bF,o8,bF,GV,kq];cases jd:iM t
 ·rfl
 ·obtain⟨⟨_,a2,a3,_⟩,b1,b2⟩:=jo jd;rw[N.aF9 au,hZ au au,V9 (d:=(10+((8*t.2.1.length:Nat):Int),t.1,t.1.length,0)) ⟨by show t.1.length<=_;omega,0,aP _,rfl,rfl,a2,λx hx=>(C0 (oF _ _ b1 x hx)).2.2.2.2,by show(0:Int)<=10+((8*t.2.1.length:Nat):Int);omega,by show 10+((8*t.2.1.length:Nat):Int)<=_;omega⟩];simp only[ae,bF,yz,bt,aQ,cv,ao,da,ku];rfl
theorem QK:qQ.RS:=rE [.d fg] qQ
def Wa:=qQ.gm akD 1 ⟨.gQ Xq,trivial⟩
abbrev Qz:=Bs×(List kj)×Int×Int
abbrev FW:=Bs×(List kj)×Int×Int×(List Sg)×Int×Int×kj
def u7:FW->Bs->(((List kj)×Int×Int×kj)×(Bs)):=λ(nZ,Vz,VA,zI,t32,t33,t34,n5) y=>((Vz,VA,zI,n5),y)
def Xe:FW->Prop:=λ(b,l1,aHg,i1,l,n,i,x)=>(l).length<=1000000000/\∃k:Nat,k<=(l).length/\i=k/\n=(l).length/\(l.length<=12)/\(b.length<=80000000+16*k)
def AO:FW->Bs:=λ(b,l1,aHg,i1,l,n,i,x)=>(bT (ab i) l).foldl Vn b
def Xc:Qz->Prop:=λ(b,l,n,i)=>(l).length<=1000000000/\∃k:Nat,k<=(l).length/\i=k/\n=(l).length/\(l.length<=64)/\(∀x∈l,x.2.1.2.1.length<=12/\x.2.1.1<=9223372036854775807)/\(b.length<=100000+1000*k)
def FU:Qz->Bs:=λ(b,l,n,i)=>(bT (ab i) l).foldl akF b
theorem Vo:∀(l:List Sg) (b:List Int),(l.foldl Vn b).length=b.length+16*l.length
 |[],b=>rfl
 |x::l,b=>by have h1:=agt b x;have h3:=Vo l (Vn b x);rw[aY,aH];omega
theorem axG(b:List Int)(x:kj)(h:x.2.1.2.1.length<=12):(akF b x).length<=b.length+300:=by have e1:=fL b x.2.1.1;have e2:=fL (dW b x.2.1.1) x.2.1.2.1.length;have e3:=Vo x.2.1.2.1 (dW (dW b x.2.1.1) x.2.1.2.1.length);unfold akF;rw[aj,dC];omega
def akr:dS->Prop:=λt=>vW t
def VJ:dS->Bs:=λt=>aAT t
def pP:Ls Xc bF FU:=xM (λ(b,t14,t15,t16)=>⟨([cw,cw,cw,.d tB b]++bg 10 ([.d (.slice gK) t14,.d ti t15,.d ti t16]++bg 36 [])),[],(ai 53 [])⟩) (λx=>(.exit 0,⟨([cw,cw,cw,.d tB x]++bg 49 []),[],(ai 53 [])⟩))
def pQ:Ls Xe u7 AO:=xM (λ(nZ,Vz,VA,zI,t32,t33,t34,n5)=>⟨([cw,cw,cw,.d tB nZ,cw,fI 5]++bg 8 ([.d (.slice gK) Vz,.d ti VA,.d ti zI]++bg 15 ([.d (.slice MM) t32,.d ti t33,.d ti t34]++bg 18 []))),[],(bK 5 ([dK (.d gK n5)]++bK 47 []))⟩) (λx=>(.exit 2,⟨([cw,cw,cw,.d tB x.2,cw,fI 5]++bg 8 ([.d (.slice gK) x.1.1,.d ti x.1.2.1,.d ti x.1.2.2.1]++bg 36 [])),[],(bK 5 ([dK (.d gK x.1.2.2.2)]++bK 47 []))⟩))
def tt:Fs Tryz.prog akr bF VJ:=gg 89 Tryz.f89 (λt=>([.d fg t],[])) (λx=>⟨.d tB x,[],[]⟩) [al fg] [pV,Zj,Rj,adP] {loops:=sk [(5,{bu:=[3,14,15,16]}),(9,{bu:=[3,5,14,15,16,32,33,34],sites:=[5]})],outs:=sj [(5,{bu:=[3]},{bu:=[2]}),(9,{bu:=[3,5,14,15,16],sites:=[5]},{bu:=[2]})],gV:=tK [(5,pP.E),(9,pQ.E)],res:=[al tB]}
theorem Xd:pP.RS:=rL [.d tB,.d (.slice gK),.d ti,.d ti] pP
theorem FV(b t14 t15 t16)(kn:K2 R)(kx:K3 R):tt.R 0 pP (b,t14,t15,t16) kn kx=aS (iE t16 t15) (aS (gU t16 (t14.length:Int)) (aq (yU.call (b,(nth gK t14 (ab t16)).2.1.1)) λx1=>aq (yU.call (x1,(((ag (nth gK t14 (ab t16)).2.1.2.1):Nat):Int))) λx2=>aq (pQ.call (x2,t14,t15,t16,(nth gK t14 (ab t16)).2.1.2.1,(((ag (nth gK t14 (ab t16)).2.1.2.1):Nat):Int),0,(nth gK t14 (ab t16)))) λx3=>aq (EG.call (x3.2,x3.1.2.2.2.2.1.2.2.1)) λx4=>kn (pP.st (x4,x3.1.1,x3.1.2.1,(bV .i64 x3.1.2.2.1 1)))) aJ) (pP.go kx b):=cT
theorem Xf:pQ.RS:=rL [.d tB,.d (.slice gK),.d ti,.d ti,.d (.slice MM),.d ti,.d ti,.d gK] pQ
theorem FX(nZ Vz VA zI t32 t33 t34 n5)(kn:K2 R)(kx:K3 R):tt.R 1 pQ (nZ,Vz,VA,zI,t32,t33,t34,n5) kn kx=aS (iE t34 t33) (aS (gU t34 (t32.length:Int)) (aq (EG.call (nZ,(nth MM t32 (ab t34)).1)) λx1=>aq (EG.call (x1,(nth MM t32 (ab t34)).2.1)) λx2=>kn (pQ.st (x2,Vz,VA,zI,t32,t33,(bV .i64 t34 1),n5))) aJ) (pQ.go kx ((Vz,VA,zI,n5),nZ)):=cT
theorem aq4(t)(k:K1 R):tt.A t k=aq (ik.call t) λx1=>aS (!x1) (k (tt.out ([]:List Int))) (aq (tz.call t) λx2=>aq (pP.call (x2,t.1,(t.1.length:Int),0)) λx9=>k (tt.out x9)):=cT
theorem ab6:(tt.mw 1 pQ):=by
 refine(tt.qz 1 pQ) (λ(b,l1,aHg,i1,l,n,i,x)=>(l).length - ab i) ?_
 rintro⟨b,l1,aHg,i1,l,n,i,x⟩ ⟨hlen,k,hk,rfl,rfl,aoE,hb⟩;have hlen:(l).length<=1000000000:=hlen;have hk:k<=(l).length:=hk;have aoE:l.length<=12:=aoE;have hb:b.length<=80000000+16*k:=hb;by_cases h:k < (l).length
 ·left;have n1:nth MM l k=l[k]:=dj (t:=MM) h;have hd:bT k l=l[k]::bT (k+1) l:=aC h;refine⟨((Vn b l[k]),l1,aHg,i1,l,((l).length:Int),((k+1:Nat):Int),x),⟨hlen,k+1,au,rfl,rfl,aoE,by have:=agt b l[k];omega⟩,by simp only[aa];omega,?_,λkn kx=> ?_⟩
  ·simp only[u7,AO,aa,hd,aY]
  ·rw[FX,bm au,bz au au,aa,n1];simp only[ak];rw[BV (d:=(b,l[k].1)) (by show b.length<=_;omega)];simp only[ae,bF,Ku];rw[BV (d:=(b++l6 l[k].1,l[k].2.1)) (by show(b++l6 l[k].1).length<=_;rw[aj,dC];omega)];simp only[ae,bF,Ku];rw[N.pn au];rfl
 ·right;obtain rfl:k=(l).length:=au;intro R kn kx;rw[FX,bn au,ao];simp only[u7,AO,aa,aU,dd]
theorem ab5:(tt.mw 0 pP):=by
 refine(tt.qz 0 pP) (λ(b,l,n,i)=>(l).length - ab i) ?_
 rintro⟨b,l,n,i⟩ ⟨hlen,k,hk,rfl,rfl,ait,hx,hb⟩;have hlen:(l).length<=1000000000:=hlen;have hk:k<=(l).length:=hk;have ait:l.length<=64:=ait;have hx:∀x∈l,x.2.1.2.1.length<=12/\x.2.1.1<=9223372036854775807:=hx;have hb:b.length<=100000+1000*k:=hb;by_cases h:k < (l).length
 ·left;have n1:nth gK l k=l[k]:=dj (t:=gK) h;have hd:bT k l=l[k]::bT (k+1) l:=aC h;refine⟨((akF b l[k]),l,((l).length:Int),((k+1:Nat):Int)),⟨hlen,k+1,au,rfl,rfl,ait,hx,by have:=axG b l[k] (hx _ (aX h)).1;omega⟩,by simp only[aa];omega,?_,λkn kx=> ?_⟩
  ·simp only[bF,FU,aa,hd,aY]
  ·rw[FV,bm au,bz au au,aa,n1];simp only[ak];have e:=hx _ (aX h);have e1:=fL b l[k].2.1.1;have e2:=fL (dW b l[k].2.1.1) l[k].2.1.2.1.length;have e3:=Vo l[k].2.1.2.1 (dW (dW b l[k].2.1.1) l[k].2.1.2.1.length);rw[jr (d:=(b,l[k].2.1.1)) ⟨by show b.length<=_;omega,e.2⟩];simp only[ae,bF,og];rw[jr (d:=(dW b l[k].2.1.1,(l[k].2.1.2.1.length:Int))) ⟨by show(dW b l[k].2.1.1).length<=_;omega,by show(l[k].2.1.2.1.length:Int)<=_;omega⟩];simp only[ae,bF,og];rw[Xf (d:=(dW (dW b l[k].2.1.1) l[k].2.1.2.1.length,l,l.length,k,l[k].2.1.2.1,l[k].2.1.2.1.length,0,l[k])) ⟨by show l[k].2.1.2.1.length<=_;omega,0,aP _,rfl,rfl,e.1,by show(dW (dW b l[k].2.1.1) l[k].2.1.2.1.length).length<=_;omega⟩];simp only[ae,u7,AO,bt,aQ];rw[BV (d:=(l[k].2.1.2.1.foldl Vn (dW (dW b l[k].2.1.1) l[k].2.1.2.1.length),l[k].2.1.2.2.1)) (by show(l[k].2.1.2.1.foldl Vn (dW (dW b l[k].2.1.1) l[k].2.1.2.1.length)).length<=_;omega)];simp only[ae,bF,Ku];rw[N.pn au];rfl
 ·right;obtain rfl:k=(l).length:=au;intro R kn kx;rw[FV,bn au,ao];simp only[bF,FU,aa,aU,dd]
theorem aq5:tt.Ok:=by
 intro t hv;have hv:vW t:=hv;rw[aq4,mY (d:=t) hv.1];simp only[ae,bF,o8,bF,VJ,aAT];cases jd:iM t
 ·rfl
 ·obtain⟨⟨_,a2,a3,_⟩,b1,b2⟩:=jo jd;have hl:=UH jd hv;rw[VX (d:=t) ⟨jd,hv⟩];simp only[cv,ao,da,ae,bF,VW];rw[Xd (d:=(wg t,t.1,t.1.length,0)) ⟨by show t.1.length<=_;omega,0,aP _,rfl,rfl,a2,λx hx=>by have:=C0 (oF _ _ b1 x hx);exact⟨this.2.2.2.2,au⟩,by show(wg t).length<=_;omega⟩];rfl
theorem aks:tt.RS:=rE [.d fg] tt
def aq6:=tt.gm aq5 2 ⟨.gQ ab5,⟨.gQ ab6,trivial⟩⟩
abbrev MW:=Nat×(List kj)×Int×Int×(List cC)
def V5:MW->Prop:=λ(L,l,n,i,r)=>(l).length<=1000000/\∃k:Nat,k<=(l).length/\i=k/\n=(l).length/\L=(r).length/\(r).length<=1000000+k
def yy:MW->(Nat×(List cC)):=λ(L,l,n,i,r)=>(L+(bT (ab i) l).length,r++(bT (ab i) l).map (λx:kj=>x.1))
def agV:dS->Prop:=λt=>aEW t
def GU:dS->(List cC):=λt=>dV t
def mZ:Ls V5 bF yy:=xM (λ(lL,t9,t10,t11,n19)=>⟨([cw,cw,nR 19 lL]++bg 6 ([.d (.slice gK) t9,.d ti t10,.d ti t11]++bg 10 [])),[],(bK 19 [dK (.vec 59 bP n19),[],[]])⟩) (λx=>(.exit 0,⟨([cw,cw,nR 19 x.1]++bg 19 []),[],(bK 19 [dK (.vec 59 bP x.2),[],[]])⟩))
def qP:Fs Tryz.prog agV bF GU:=gg 47 Tryz.f47 (λt=>([.d fg t],[])) (λx=>⟨.d (.slice bP) x,[],[]⟩) [al fg] [pV] {loops:=sk [(4,{bu:=[2,9,10,11],sites:=[19],owns:=[⟨2,[],19,26⟩]})],outs:=sj [(4,{bu:=[2],sites:=[19]},{bu:=[2]})],gV:=tK [(4,mZ.E)],res:=[al (.slice bP)]}
theorem V6:mZ.RS:=rL [.n,.d (.slice gK),.d ti,.d ti,.d (.slice bP)] mZ
theorem D8(lL t9 t10 t11 n19)(kn:K2 R)(kx:K3 R):qP.R 0 mZ (lL,t9,t10,t11,n19) kn kx=aS (iE t11 t10) (aS (gU t11 (t9.length:Int)) (aS (decide (lL<=(ag n19))) (aS (ea (lL+1) 40) (kn (mZ.st ((lL+1),t9,t10,(bV .i64 t11 1),((bj lL n19)++ [(nth gK t9 (ab t11)).1])))) aJ) aJ) aJ) (mZ.go kx (lL,n19)):=cT
theorem akA(t)(k:K1 R):qP.A t k=aq (ik.call t) λx1=>aS (!x1) (k (qP.out ([]:List cC))) (aq (mZ.call (0,t.1,(t.1.length:Int),0,([]:List cC))) λx2=>aS (decide (0=0/\(0+x2.1)<=(ag x2.2))) (k (qP.out (cut x2.2 0 x2.1))) aJ):=cT
theorem Xp:(qP.mw 0 mZ):=by
 refine(qP.qz 0 mZ) (λ(L,l,n,i,r)=>(l).length - ab i) ?_
 rintro⟨L,l,n,i,r⟩ ⟨hlen,k,hk,rfl,rfl,rfl,si⟩;have hlen:(l).length<=1000000:=hlen;have hk:k<=(l).length:=hk;have si:(r).length<=1000000+k:=si;by_cases h:k < (l).length
 ·left;have n1:nth gK l k=l[k]:=dj (t:=gK) h;have hd:bT k l=l[k]::bT (k+1) l:=aC h;refine⟨((r).length+1,l,((l).length:Int),((k+1:Nat):Int),r++ [(λx:kj=>x.1) l[k]]),⟨hlen,k+1,au,rfl,rfl,by rw[aj];rfl,by rw[aj];show(r).length+1<=_;omega⟩,by simp only[aa];omega,?_,λkn kx=> ?_⟩
  ·simp only[bF,yy,aa,hd,cn,aH,aM,dQ];rw[show ∀a c:Nat,a+1+c=a+(c+1) from λa c=>au]
  ·rw[D8,bm au,bz (show(0:Int)<=(k:Int) by omega) au,aa,n1];simp only[ak];rw[bf (aF _),eW au au,N.pn au,cJ];rfl
 ·right;obtain rfl:k=(l).length:=au;intro R kn kx;rw[D8,bn au,ao];simp only[bF,yy,aa,aU,iT,bO,bB,cW]
theorem akB:qP.Ok:=by
 intro t hv;have hv:aEW t:=hv;rw[akA,mY (d:=t) hv];simp only[ae,bF,o8,bF,GU,dV];cases jd:iM t
 ·rfl
 ·obtain⟨⟨_,a2,a3,_⟩,b1,b2⟩:=jo jd;rw[V6 (d:=(0,t.1,t.1.length,0,[])) ⟨by show t.1.length<=_;omega,0,aP _,rfl,rfl,rfl,aP _⟩];simp only[cv,ao,da,ae,bF,yy,bt,aQ,aV,ba];rw[bf ⟨by trivial,by rw[cF];exact aF _⟩,ak,fp (by rw[cF])]
theorem QJ:qP.RS:=rE [.d fg] qP
def V7:=qP.gm akB 1 ⟨.gQ Xp,trivial⟩
abbrev VU:=Nat×Int×Int×Bs×(List cC)
def ab7:VU->Prop:=λ(L,n,i,id,r)=>∃k m:Nat,k<=m/\i=k/\n=m/\m<=1000/\L=r.length/\L=k
def DA:VU->(Nat×(List cC)):=λ(L,n,i,id,r)=>(L+(n - i).toNat,r++DP id i.toNat (n - i).toNat)
def aq8:dS->Prop:=λt=>vW t
def RJ:dS->(List cC):=λt=>gq t
def tw:Ls ab7 bF DA:=xM (λ(lL,t12,t13,n3,n21)=>⟨([cw,cw,nR 21 lL,fI 3]++bg 8 ([.d ti t12,.d ti t13]++bg 10 [])),[],([[],[],[],dK (.d tH n3)]++bK 17 [dK (.vec 59 bP n21),[],[]])⟩) (λx=>(.exit 0,⟨([cw,cw,nR 21 x.1]++bg 21 []),[],(bK 21 [dK (.vec 59 bP x.2),[],[]])⟩))
def D7:Fs Tryz.prog aq8 bF RJ:=gg 74 Tryz.f74 (λt=>([.d fg t],[])) (λx=>⟨.d (.slice bP) x,[],[]⟩) [al fg] [OG,pV] {loops:=sk [(5,{bu:=[2,3,12,13],sites:=[3,21],owns:=[⟨2,[],21,26⟩]})],outs:=sj [(5,{bu:=[2],sites:=[21]},{bu:=[2]})],gV:=tK [(5,tw.E)],res:=[al (.slice bP)]}
theorem ab8:tw.RS:=rL [.n,.d ti,.d ti,.d tB,.d (.slice bP)] tw
theorem H5(lL t12 t13 n3 n21)(kn:K2 R)(kx:K3 R):D7.R 0 tw (lL,t12,t13,n3,n21) kn kx=aS (iE t13 t12) (aS (decide (lL<=(ag n21))) (aS (ea (lL+1) 40) (kn (tw.st ((lL+1),t12,(bV .i64 t13 1),n3,((bj lL n21)++ [(n3,(t13,()))])))) aJ) aJ) (tw.go kx (lL,n21)):=cT
theorem axj(t)(k:K1 R):D7.A t k=aq (tid.call t) λx1=>aq (ik.call t) λx2=>aS (!x2) (k (D7.out ([]:List cC))) (aq (tw.call (0,(t.2.1.length:Int),0,x1,([]:List cC))) λx3=>aS (decide (0=0/\(0+x3.1)<=(ag x3.2))) (k (D7.out (cut x3.2 0 x3.1))) aJ):=cT
theorem api(id:List Int)(k n:Nat):(DP id k n).length=n:=by simp[DP]
theorem aiZ(id:List Int)(k n:Nat):DP id k (n+1)=(id,((k:Int),()))::DP id (k+1) n:=by unfold DP;rw[List.range'_succ,cn]
theorem agM:(D7.mw 0 tw):=by
 refine(D7.qz 0 tw) (λ(L,n,i,id,r)=>(n - i).toNat) ?_
 rintro⟨L,n,i,id,r⟩ ⟨k,m,hk,rfl,rfl,hm,rfl,aJQ⟩;have aJQ:r.length=k:=aJQ;by_cases h:k < m
 ·left;have e1:((m:Int) - (k:Int)).toNat=(m - (k+1))+1:=au;have e2:((m:Int) - ((k+1:Nat):Int)).toNat=m - (k+1):=au;refine⟨(r.length+1,(m:Int),((k+1:Nat):Int),id,r++ [(id,((k:Int),()))]),⟨k+1,m,au,rfl,rfl,hm,by rw[aj];rfl,by show r.length+1=_;omega⟩,by show((m:Int) - ((k+1:Nat):Int)).toNat < ((m:Int) - (k:Int)).toNat;omega,?_,λkn kx=> ?_⟩
  ·simp only[bF,DA,e1,e2,aa,aiZ,aM,dQ];rw[show r.length+1+(m - (k+1))=r.length+(m - (k+1)+1) by omega]
  ·rw[H5,bm au,bf (aF _),eW au au,N.pn au,cJ];rfl
 ·right;obtain rfl:k=m:=au;intro R kn kx;rw[H5,bn au,ao];simp only[bF,DA,Int.sub_self,bt,cW];rw[show DP id (k:Int).toNat 0=[] from rfl,bO]
theorem axk:D7.Ok:=by
 intro t hv;have hv:vW t:=hv;rw[axj,GR (d:=t) hv,mY (d:=t) hv.1];simp only[ae,bF,VR,bF,o8,bF,RJ,gq];cases jd:iM t
 ·rfl
 ·obtain⟨⟨_,a2,a3,_⟩,b1,b2⟩:=jo jd;have hl:=api (wI t) 0 t.2.1.length;rw[ab8 (d:=(0,t.2.1.length,0,wI t,[])) ⟨0,t.2.1.length,aP _,rfl,rfl,au,rfl,rfl⟩];simp only[cv,ao,da,ae,bF,DA,pa,aa,bt,aV,ba];rw[bf ⟨by trivial,by rw[hl];exact aF _⟩,ak,fp hl]
theorem Zi:D7.RS:=rE [.d fg] D7
def agN:=D7.gm axk 1 ⟨.gQ agM,trivial⟩
def asG:(List kj)->Prop:=λl=>l.length<=1000000
def ahY:(List kj)->(Nat×(List kj)):=λl=>(l.length,l)
def ZN:Fs Tryz.prog asG bF ahY:=gg 119 Tryz.f119 (λsv=>([.d (.slice gK) sv],[])) (λx=>⟨.b8 (.new 0 0) 0 [] 0 0 x.1,[],[.obj 0 aR (.vec 88 gK x.2)]⟩) [al (.slice gK)] [] {bM:=[5],owns:=[⟨2,[],5,54⟩]}
theorem ayv(sv)(k:K1 R):ZN.A sv k=aS (decide (0 < (ag sv))) (aS (ea (0+(ag sv)) 80) (k (ZN.out ((0+(ag sv)),((bj 0 (ai 0 (((ai 32 0),(0,())),((0,(([]:List Sg),(0,()))),()))))++sv)))) aJ) (nd (k (ZN.out (0,([]:List kj)))) (aS (ea (0+(ag sv)) 80) (k (ZN.out ((0+(ag sv)),((bj 0 (ai 0 (((ai 32 0),(0,())),((0,(([]:List Sg),(0,()))),()))))++sv)))) aJ)):=cT
theorem ayw:ZN.Ok:=by
 intro l hl;have hl:l.length<=1000000:=hl;have hr:ea l.length 80=aT:=eW au au;rw[ayv];simp only[ba,hr,ak,fk,aV,bF,ahY];by_cases h:0 < l.length
 ·simp only[bf h,ak]
 ·have:l=[]:=bw au;subst this;simp only[bB,Ax,bI (gC 0),ao]
theorem asH:ZN.RS:=rE [.d (.slice gK)] ZN
def ayx:=ZN.gm ayw
def anU:(List lM)->Prop:=λl=>l.length<=1000000
def ZP:(List lM)->(Nat×(List lM)):=λl=>(l.length,l)
def Kn:Fs Tryz.prog anU bF ZP:=gg 120 Tryz.f120 (λsv=>([.d (.slice jv) sv],[])) (λx=>⟨.b8 (.new 0 0) 0 [] 0 0 x.1,[],[.obj 0 aR (.vec 51 jv x.2)]⟩) [al (.slice jv)] [] {bM:=[5],owns:=[⟨2,[],5,22⟩]}
theorem asK(sv)(k:K1 R):Kn.A sv k=aS (decide (0 < (ag sv))) (aS (ea (0+(ag sv)) 32) (k (Kn.out ((0+(ag sv)),((bj 0 (ai 0 (0,((([]:List tG),()),()))))++sv)))) aJ) (nd (k (Kn.out (0,([]:List lM)))) (aS (ea (0+(ag sv)) 32) (k (Kn.out ((0+(ag sv)),((bj 0 (ai 0 (0,((([]:List tG),()),()))))++sv)))) aJ)):=cT
theorem asL:Kn.Ok:=by
 intro l hl;have hl:l.length<=1000000:=hl;have hr:ea l.length 32=aT:=eW au au;rw[asK];simp only[ba,hr,ak,fk,aV,bF,ZP];by_cases h:0 < l.length
 ·simp only[bf h,ak]
 ·have:l=[]:=bw au;subst this;simp only[bB,Ax,bI (gC 0),ao]
theorem anV:Kn.RS:=rE [.d (.slice jv)] Kn
def asM:=Kn.gm asL
def asF:(List tG)->Prop:=λl=>l.length<=1000000
def ZM:(List tG)->(Nat×(List tG)):=λl=>(l.length,l)
def Wr:Fs Tryz.prog asF bF ZM:=gg 63 Tryz.f63 (λsv=>([.d (.slice sa) sv],[])) (λx=>⟨.b8 (.new 0 0) 0 [] 0 0 x.1,[],[.obj 0 aR (.vec 93 sa x.2)]⟩) [al (.slice sa)] [] {bM:=[5],owns:=[⟨2,[],5,44⟩]}
theorem ayt(sv)(k:K1 R):Wr.A sv k=aS (decide (0 < (ag sv))) (aS (ea (0+(ag sv)) 48) (k (Wr.out ((0+(ag sv)),((bj 0 (ai 0 (([]:List Int),(0,(0,(0,()))))))++sv)))) aJ) (nd (k (Wr.out (0,([]:List tG)))) (aS (ea (0+(ag sv)) 48) (k (Wr.out ((0+(ag sv)),((bj 0 (ai 0 (([]:List Int),(0,(0,(0,()))))))++sv)))) aJ)):=cT
theorem ayu:Wr.Ok:=by
 intro l hl;have hl:l.length<=1000000:=hl;have hr:ea l.length 48=aT:=eW au au;rw[ayt];simp only[ba,hr,ak,fk,aV,bF,ZM];by_cases h:0 < l.length
 ·simp only[bf h,ak]
 ·have:l=[]:=bw au;subst this;simp only[bB,Ax,bI (gC 0),ao]
theorem adC:Wr.RS:=rE [.d (.slice sa)] Wr
def ald:=Wr.gm ayu
def anW:(List Sg)->Prop:=λl=>l.length<=1000000
def ZQ:(List Sg)->(List Sg):=λl=>l
def Ko:Fs Tryz.prog anW bF ZQ:=gg 121 Tryz.f121 (λsv=>([.d (.slice MM) sv],[])) (λx=>⟨.d (.slice MM) x,[],[]⟩) [al (.slice MM)] [] {bM:=[5],res:=[al (.slice MM)]}
theorem asN(sv)(k:K1 R):Ko.A sv k=aS (decide (0 < (ag sv))) (aS (ea (0+(ag sv)) 16) (aS (decide (0=0/\(0+(0+(ag sv)))<=(ag ((bj 0 (ai 0 (0,(0,()))))++sv)))) (k (Ko.out (cut ((bj 0 (ai 0 (0,(0,()))))++sv) 0 (0+(ag sv))))) aJ) aJ) (nd (k (Ko.out ([]:List Sg))) (aS (ea (0+(ag sv)) 16) (aS (decide (0=0/\(0+(0+(ag sv)))<=(ag ((bj 0 (ai 0 (0,(0,()))))++sv)))) (k (Ko.out (cut ((bj 0 (ai 0 (0,(0,()))))++sv) 0 (0+(ag sv))))) aJ) aJ)):=cT
theorem asO:Ko.Ok:=by
 intro l hl;have hl:l.length<=1000000:=hl;have hr:ea l.length 16=aT:=eW au au;rw[asN];simp only[ba,hr,ak,fk,aV,aF,j4,cR,fp,bF,ZQ];by_cases h:0 < l.length
 ·simp only[bf h,ak]
 ·have:l=[]:=bw au;subst this;simp only[bB,Ax,bI (gC 0),ao]
theorem anX:Ko.RS:=rE [.d (.slice MM)] Ko
def asP:=Ko.gm asO
abbrev Dy:=Int×Int×Nat×Nat×(Int×Unit)×(Int×Unit)×(List kj)×(List lM)
def FY:Dy->(List kj)->((Nat×Nat×(Int×Unit)×(Int×Unit)×(List lM))×((List kj))):=λ(t17,t18,azI,TW,n1,n2,n9,n12) y=>((azI,TW,n1,n2,n12),y)
abbrev MO:=Int×Int×Nat×Nat×(Int×Unit)×(Int×Unit)×(List kj)×(List lM)
abbrev Dz:=Int×Nat×Int×Int×Int×Int×Nat×Nat×(Int×Unit)×(Int×Unit)×(List kj)×(List lM)×(List tG)
abbrev MR:=(List tG)×(List tG)
def FZ:Dz->MR->((Int×Int×Int×Nat×Nat×(Int×Unit)×(Int×Unit)×(List kj)×(List lM))×((List tG)×(List tG))):=λ(kv,lL,vS,VE,t51,t52,TX,TY,ai7,zl,Jh,TR,n49) y=>((kv,vS,VE,TX,TY,ai7,zl,Jh,TR),y)
def VK:Dy->Prop:=λ(m,i,L,L2,u,v,l,os)=>(l.length<=1000/\∀x∈l,x.2.1.2.1.length<=1000000)/\∃k:Nat,k<=l.length/\i=k/\m=l.length/\L=l.length
def MN:Dy->(List kj):=λ(m,i,L,L2,u,v,l,os)=>l
def VP:Dz->Prop:=λ(kv,L,m1,i1,m,i,L5,L6,u,v,ls,os,bs)=>(bs.length<=1000/\∀x∈bs,x.1.length<=1000000)/\∃k:Nat,k<=bs.length/\i=k/\m=bs.length/\L=bs.length
def MQ:Dz->MR:=λ(kv,L,m1,i1,m,i,L5,L6,u,v,ls,os,bs)=>(bs,bs)
def VM:MO->Prop:=λ(m,i,L3,L,u,v,ls,os)=>(os.length<=1000/\∀x∈os,x.2.1.1.length<=1000/\∀b∈x.2.1.1,b.1.length<=1000000)/\∃k:Nat,k<=os.length/\i=k/\m=os.length/\L=os.length
def MP:MO->(Nat×Nat×(Int×Unit)×(Int×Unit)×(List kj)×(List lM)):=λ(m,i,L3,L,u,v,ls,os)=>(L3,L,u,v,ls,os)
def agJ:dS->Prop:=λt=>iM t=aT
def Zh:dS->(Nat×((List lM)×(Int×Unit))×(List kj)):=λt=>(t.1.length,(t.2.1,t.2.2),t.1)
def lD:Ls VK FY MN:=xM (λ(t17,t18,azI,TW,n1,n2,n9,n12)=>⟨([cw,fI 1,fI 2]++bg 14 ([.d ti t17,.d ti t18]++bg 56 [])),[],([[],dK (.pr (nR 9 azI) (.pr (nR 12 TW) (.d (.pair ti .unit) n1))),dK (.pr (.dI) (.pr (.dI) (.d (.pair ti .unit) n2)))]++bK 6 ([dK (.vec 88 gK n9),[],[],dK (.vec 51 jv n12)]++bK 62 []))⟩) (λx=>(.exit 0,⟨([cw,fI 1,fI 2]++bg 72 []),[],([[],dK (.pr (nR 9 x.1.1) (.pr (nR 12 x.1.2.1) (.d (.pair ti .unit) x.1.2.2.1))),dK (.pr (.dI) (.pr (.dI) (.d (.pair ti .unit) x.1.2.2.2.1)))]++bK 6 ([dK (.vec 88 gK x.2),[],[],dK (.vec 51 jv x.1.2.2.2.2)]++bK 62 []))⟩))
def lE:Ls VM bF MP:=xM (λ(t38,t39,afi,Yy,au7,sm,uc,TQ)=>⟨([cw,fI 1,fI 2]++bg 35 ([.d ti t38,.d ti t39]++bg 35 [])),[],([[],dK (.pr (nR 9 afi) (.pr (nR 12 Yy) (.d (.pair ti .unit) au7))),dK (.pr (.dI) (.pr (.dI) (.d (.pair ti .unit) sm)))]++bK 6 ([dK (.vec 88 gK uc),[],[],dK (.vec 51 jv TQ)]++bK 62 []))⟩) (λx=>(.exit 2,⟨([cw,fI 1,fI 2]++bg 72 []),[],([[],dK (.pr (nR 9 x.1) (.pr (nR 12 x.2.1) (.d (.pair ti .unit) x.2.2.1))),dK (.pr (.dI) (.pr (.dI) (.d (.pair ti .unit) x.2.2.2.1)))]++bK 6 ([dK (.vec 88 gK x.2.2.2.2.1),[],[],dK (.vec 51 jv x.2.2.2.2.2)]++bK 62 []))⟩))
def lF:Ls VP FZ MQ:=xM (λ(kv,lL,vS,VE,t51,t52,TX,TY,ai7,zl,Jh,TR,n49)=>⟨([cw,fI 1,fI 2,cw,.d ti kv,nR 49 lL]++bg 32 ([.d ti vS,.d ti VE]++bg 11 ([.d ti t51,.d ti t52]++bg 22 []))),[],([[],dK (.pr (nR 9 TX) (.pr (nR 12 TY) (.d (.pair ti .unit) ai7))),dK (.pr (.dI) (.pr (.dI) (.d (.pair ti .unit) zl)))]++bK 6 ([dK (.vec 88 gK Jh),[],[],dK (.vec 51 jv TR)]++bK 36 ([dK (.vec 93 sa n49)]++bK 25 [])))⟩) (λx=>(.exit 4,⟨([cw,fI 1,fI 2,cw,.d ti x.1.1,.d (.slice sa) x.2.1]++bg 32 ([.d ti x.1.2.1,.d ti x.1.2.2.1]++bg 35 [])),[],([[],dK (.pr (nR 9 x.1.2.2.2.1) (.pr (nR 12 x.1.2.2.2.2.1) (.d (.pair ti .unit) x.1.2.2.2.2.2.1))),dK (.pr (.dI) (.pr (.dI) (.d (.pair ti .unit) x.1.2.2.2.2.2.2.1)))]++bK 6 ([dK (.vec 88 gK x.1.2.2.2.2.2.2.2.1),[],[],dK (.vec 51 jv x.1.2.2.2.2.2.2.2.2)]++bK 36 ([[.obj 0 aT (.vec 93 sa x.2.2)]]++bK 25 [])))⟩))
def lP:Fs Tryz.prog agJ bF Zh:=gg 82 Tryz.f82 (λt=>([.d fg t],[])) (λx=>⟨.pr (.b8 (.new 0 0) 0 [] 0 0 x.1) (.d (.pair (.slice jv) (.pair ti .unit)) x.2.1),[],[.obj 0 aR (.vec 88 gK x.2.2)]⟩) [al fg] [ayx,asM,asP,ald,YK] {bM:=[1],loops:=sk [(3,{bu:=[1,2,17,18],sites:=[1,2,9,12]}),(8,{bu:=[1,2,38,39],sites:=[1,2,9,12]}),(12,{bu:=[1,2,4,5,38,39,51,52],sites:=[1,2,9,12,49]})],outs:=sj [(3,{bu:=[1,2],sites:=[1,2,9,12]},{bu:=[2]}),(8,{bu:=[1,2],sites:=[1,2,9,12]},{bu:=[2]}),(12,{bu:=[1,2,4,5,38,39],sites:=[1,2,9,12,49],data:=[(5,(.slice sa))]},{bu:=[2]})],gV:=tK [(3,lD.E),(8,lE.E),(12,lF.E)],KM:=[⟨2,[.snd,.fst],(.slice jv)⟩]}
theorem VL:lD.RS:=rL [.d ti,.d ti,.n,.n,.d (.pair ti .unit),.d (.pair ti .unit),.d (.slice gK),.d (.slice jv)] lD
theorem D4(t17 t18 azI TW n1 n2 n9 n12)(kn:K2 R)(kx:K3 R):lP.R 0 lD (t17,t18,azI,TW,n1,n2,n9,n12) kn kx=aS (iE t18 t17) (aS (gU t18 ((azI:Nat):Int)) (aS (decide ((0+(ab t18)) < (ag n9))) (aS (decide ((((0+(ab t18))*36)+34)=(((0+((ab t18)*36))+33)+1))) (aq (Ko.call (nth gK n9 (0+(ab t18))).2.1.2.1) λx1=>aS (gU t18 ((azI:Nat):Int)) (aS (decide ((0+(ab t18)) < (ag n9))) (aS (decide ((((0+(ab t18))*36)+34)=(((0+((ab t18)*36))+33)+1))) (aS (decide ((0+(ab t18)) < (ag n9))) (kn (lD.st (t17,(bV .i64 t18 1),azI,TW,n1,n2,(gB n9 (0+(ab t18)) ((nth gK n9 (0+(ab t18))).1,(((nth gK n9 (0+(ab t18))).2.1.1,(x1,(nth gK n9 (0+(ab t18))).2.1.2.2)),(nth gK n9 (0+(ab t18))).2.2))),n12))) aJ) aJ) aJ) aJ) aJ) aJ) aJ) (lD.go kx ((azI,TW,n1,n2,n12),n9)):=cT
theorem VN:lE.RS:=rL [.d ti,.d ti,.n,.n,.d (.pair ti .unit),.d (.pair ti .unit),.d (.slice gK),.d (.slice jv)] lE
theorem D5(t38 t39 afi Yy au7 sm uc TQ)(kn:K2 R)(kx:K3 R):lP.R 1 lE (t38,t39,afi,Yy,au7,sm,uc,TQ) kn kx=aS (iE t39 t38) (aS (gU t39 ((Yy:Nat):Int)) (aS (decide ((0+(ab t39)) < (ag TQ))) (aS (decide ((((0+(ab t39))*2)+1)=(((0+((ab t39)*2))+1)+0))) (aq (Wr.call (nth jv TQ (0+(ab t39))).2.1.1) λx1=>aq (lF.call (t39,x1.1,t38,t39,((x1.1:Nat):Int),0,afi,Yy,au7,sm,uc,TQ,x1.2)) λx2=>aS (gU x2.1.1 ((x2.1.2.2.2.2.1:Nat):Int)) (aS (decide ((0+(ab x2.1.1)) < (ag x2.1.2.2.2.2.2.2.2.2))) (aS (decide ((((0+(ab x2.1.1))*2)+1)=(((0+((ab x2.1.1)*2))+1)+0))) (aS (decide ((0+(ab x2.1.1)) < (ag x2.1.2.2.2.2.2.2.2.2))) (kn (lE.st (x2.1.2.1,(bV .i64 x2.1.2.2.1 1),x2.1.2.2.2.1,x2.1.2.2.2.2.1,x2.1.2.2.2.2.2.1,x2.1.2.2.2.2.2.2.1,x2.1.2.2.2.2.2.2.2.1,(gB x2.1.2.2.2.2.2.2.2.2 (0+(ab x2.1.1)) ((nth jv x2.1.2.2.2.2.2.2.2.2 (0+(ab x2.1.1))).1,((x2.2.1,(nth jv x2.1.2.2.2.2.2.2.2.2 (0+(ab x2.1.1))).2.1.2),(nth jv x2.1.2.2.2.2.2.2.2.2 (0+(ab x2.1.1))).2.2)))))) aJ) aJ) aJ) aJ) aJ) aJ) aJ) (lE.go kx (afi,Yy,au7,sm,uc,TQ)):=cT
theorem VQ:lF.RS:=rL [.d ti,.n,.d ti,.d ti,.d ti,.d ti,.n,.n,.d (.pair ti .unit),.d (.pair ti .unit),.d (.slice gK),.d (.slice jv),.d (.slice sa)] lF
theorem D6(kv lL vS VE t51 t52 TX TY ai7 zl Jh TR n49)(kn:K2 R)(kx:K3 R):lP.R 2 lF (kv,lL,vS,VE,t51,t52,TX,TY,ai7,zl,Jh,TR,n49) kn kx=aS (iE t52 t51) (aS (gU t52 ((lL:Nat):Int)) (aS (decide ((0+(ab t52)) < (ag n49))) (aS (decide ((((0+(ab t52))*4)+0)=((0+((ab t52)*4))+0))) (aq (Bg.call (nth sa n49 (0+(ab t52))).1) λx1=>aS (gU t52 ((lL:Nat):Int)) (aS (decide ((0+(ab t52)) < (ag n49))) (aS (decide ((((0+(ab t52))*4)+0)=((0+((ab t52)*4))+0))) (aS (decide ((0+(ab t52)) < (ag n49))) (kn (lF.st (kv,lL,vS,VE,t51,(bV .i64 t52 1),TX,TY,ai7,zl,Jh,TR,(gB n49 (0+(ab t52)) (x1,(nth sa n49 (0+(ab t52))).2))))) aJ) aJ) aJ) aJ) aJ) aJ) aJ) (aS (decide (0=0/\(0+lL)<=(ag n49))) (lF.go kx ((kv,vS,VE,TX,TY,ai7,zl,Jh,TR),((cut n49 0 lL),n49))) aJ):=cT
theorem akt(t)(k:K1 R):lP.A t k=aq (ZN.call t.1) λx1=>aq (Kn.call t.2.1) λx2=>aq (lD.call (((x1.1:Nat):Int),0,x1.1,x2.1,t.2.2,(0,()),x1.2,x2.2)) λx4=>aq (lE.call (((x4.1.2.1:Nat):Int),0,x4.1.1,x4.1.2.1,x4.1.2.2.1,x4.1.2.2.2.1,x4.2,x4.1.2.2.2.2)) λx8=>aS (decide (0=0/\(0+x8.2.1)<=(ag x8.2.2.2.2.2))) (k (lP.out (x8.1,((cut x8.2.2.2.2.2 0 x8.2.1),x8.2.2.1),x8.2.2.2.2.1))) aJ:=cT
theorem Xg:(lP.mw 0 lD):=by
 refine(lP.qz 0 lD) (λ(m,i,L,L2,u,v,l,os)=>l.length - ab i) ?_
 rintro⟨m,i,L,L2,u,v,l,os⟩ ⟨⟨hlen,hx⟩,k,hk,rfl,rfl,rfl⟩;have hlen:l.length<=1000:=hlen;have hk:k<=l.length:=hk;by_cases h:k < l.length
 ·left;have n1:nth gK l k=l[k]:=dj (t:=gK) h;have hs:l.set k l[k]=l:=gz h;have e:=hx _ (aX h);refine⟨((l.length:Int),((k+1:Nat):Int),l.length,L2,u,v,l,os),⟨⟨hlen,hx⟩,k+1,au,rfl,rfl,rfl⟩,by simp only[aa];omega,rfl,λkn kx=> ?_⟩;rw[D4,bm au,bz au au];simp only[aa,ba,cW,fN,Nat.reduceAdd,ak,bf h,cR,n1];rw[anX (d:=l[k].2.1.2.1) e];simp only[ae,bF,ZQ];rw[N.pn au];exact bE (λz=>kn (lD.st (_,_,_,_,_,_,z,_))) hs
 ·right;obtain rfl:k=l.length:=au;intro R kn kx;rw[D4,bn au,ao];rfl
theorem Xi:(lP.mw 2 lF):=by
 refine(lP.qz 2 lF) (λ(kv,L,m1,i1,m,i,L5,L6,u,v,ls,os,bs)=>bs.length - ab i) ?_
 rintro⟨kv,L,m1,i1,m,i,L5,L6,u,v,ls,os,bs⟩ ⟨⟨hlen,hx⟩,k,hk,rfl,rfl,rfl⟩;have hlen:bs.length<=1000:=hlen;have hk:k<=bs.length:=hk;by_cases h:k < bs.length
 ·left;have n1:nth sa bs k=bs[k]:=dj (t:=sa) h;have hs:bs.set k bs[k]=bs:=gz h;have e:=hx _ (aX h);refine⟨(kv,bs.length,m1,i1,(bs.length:Int),((k+1:Nat):Int),L5,L6,u,v,ls,os,bs),⟨⟨hlen,hx⟩,k+1,au,rfl,rfl,rfl⟩,by simp only[aa];omega,rfl,λkn kx=> ?_⟩;rw[D6,bm au,bz au au];simp only[aa,ba,cW,fN,Nat.reduceAdd,ak,bf h,cR,n1];rw[Un (d:=bs[k].1) e];simp only[ae,bF,LN];rw[N.pn au];exact bE (λz=>kn (lF.st (_,_,_,_,_,_,_,_,_,_,_,_,z))) hs
 ·right;obtain rfl:k=bs.length:=au;intro R kn kx;rw[D6,bn au,ao];simp only[ba,aF,j4,cR,ak,fp];rfl
theorem Xh:(lP.mw 1 lE):=by
 refine(lP.qz 1 lE) (λ(m,i,L3,L,u,v,ls,os)=>os.length - ab i) ?_
 rintro⟨m,i,L3,L,u,v,ls,os⟩ ⟨⟨hlen,hx⟩,k,hk,rfl,rfl,rfl⟩;have hlen:os.length<=1000:=hlen;have hk:k<=os.length:=hk;by_cases h:k < os.length
 ·left;have n1:nth jv os k=os[k]:=dj (t:=jv) h;have hs:os.set k os[k]=os:=gz h;have e:=hx _ (aX h);refine⟨((os.length:Int),((k+1:Nat):Int),L3,os.length,u,v,ls,os),⟨⟨hlen,hx⟩,k+1,au,rfl,rfl,rfl⟩,by simp only[aa];omega,rfl,λkn kx=> ?_⟩;rw[D5,bm au,bz au au];simp only[aa,ba,cW,fN,Nat.reduceAdd,ak,bf h,cR,n1];rw[adC (d:=os[k].2.1.1) (by show os[k].2.1.1.length<=_;have:=e.1;omega)];simp only[ae,bF,ZM];rw[VQ (d:=((k:Int),os[k].2.1.1.length,(os.length:Int),(k:Int),(os[k].2.1.1.length:Int),0,L3,os.length,u,v,ls,os,os[k].2.1.1)) ⟨e,0,aP _,rfl,rfl,rfl⟩];simp only[ae,FZ,MQ,aa,n1,ak,bf h,bz (show(0:Int)<=(k:Int) by omega) (show(k:Int) < (os.length:Int) by omega)];rw[N.pn au];exact bE (λz=>kn (lE.st (_,_,_,_,_,_,_,z))) hs
 ·right;obtain rfl:k=os.length:=au;intro R kn kx;rw[D5,bn au,ao];rfl
theorem Tt{l:Lk}(h:nI l=aT):l.1.length<=4/\∀b∈l.1,b.1.length<=12:=by unfold nI at h;simp only[av,c7,aW]at h;refine⟨h.2.2,λb hb=> ?_⟩;have:=h.1 b hb;unfold Ed at this;simp only[av,aW]at this;exact this.1
theorem aku:lP.Ok:=by
 rintro⟨is,os,nt,u⟩ jd;obtain⟨⟨_,a2,a3,_⟩,b1,b2⟩:=jo jd;have a2:is.length<=64:=a2;have a3:os.length<=64:=a3;rw[akt,asH (d:=is) (by show is.length<=_;omega),anV (d:=os) (by show os.length<=_;omega)];simp only[ae,bF,ahY,bF,ZP];rw[VL (d:=(is.length,0,is.length,os.length,(nt,u),(0,()),is,os)) ⟨⟨by show is.length<=_;omega,λx hx=>by have:=(C0 (oF _ _ b1 x hx)).2.2.2.2;omega⟩,0,aP _,rfl,rfl,rfl⟩];simp only[ae,FY,MN];rw[VN (d:=(os.length,0,is.length,os.length,(nt,u),(0,()),is,os)) ⟨⟨by show os.length<=_;omega,λx hx=>by
  have:=Tt (mP _ _ b2 x hx).2;exact⟨au,λb hb=>by have:=this.2 b hb;omega⟩⟩,0,aP _,rfl,rfl,rfl⟩]
 simp only[ae,bF,MP,ba,aF,j4,cR,ak,fp];rfl
theorem agK:lP.RS:=rE [.d fg] lP
def akv:=lP.gm aku 3 ⟨.gQ Xg,⟨.gQ Xh,⟨.gQ Xi,trivial⟩⟩⟩
theorem Mc(x:Int)(m:Int):∀k:Nat,(x%m)^k%m=x^k%m
 | 0=>by rw[kE,kE]
 |k+1=>by rw[gh,gh,sz,Mc x m k,nU _ (Int.dvd_refl m),<-sz]
theorem aD1(a:Int)(k:Nat):(a*a)^k=a^(2*k):=by rw[Int.pow_mul,gh,gh,kE,Int.one_mul]
theorem aws:∀(f:Nat) (a:Int) (n:Nat) (out:Int),n < 2^f->Pn out->amA f a n out=out*a^n%4611686018427377339
 | 0,a,n,out,h,ho=>by obtain rfl:n=0:=au;rw[Cf,kE,Int.mul_one,fo ho.1 ho.2]
 |f+1,a,n,out,h,ho=>by
  have e:(2:Nat)^(f+1)=2^f*2:=Nat.pow_succ 2 f;rw[amA];split
  ·rename_i h0;subst h0;rw[kE,Int.mul_one,fo ho.1 ho.2]
  ·have hp:Pn (if n%2=1 then tM out a else out):=by
    split
    ·exact Aw _ _
    ·exact ho
   rw[aws f _ _ _ au hp,sz];have e1:(tM a a)^(n / 2)%4611686018427377339=a^(2*(n / 2))%4611686018427377339:=by unfold tM;rw[Mc,aD1]
   have e2:(if n%2=1 then tM out a else out)%4611686018427377339=(out*a^(n%2))%4611686018427377339:=by
    split
    ·rename_i h1;rw[h1,gh,kE,Int.one_mul];exact nU _ (Int.dvd_refl _)
    ·have h1:n%2=0:=au;rw[h1,kE,Int.mul_one]
   rw[e1,e2,<-sz,Int.mul_assoc,<-Int.pow_add];have e3:n%2+2*(n / 2)=n:=au;rw[e3]
theorem UX(a:Int)(n:Nat)(h:n < 18446744073709551616):pw a n=a^n%4611686018427377339:=by unfold pw;rw[aws 64 a n 1 h ⟨au,au⟩,Int.one_mul]
theorem one_pow(k:Nat):(1:Int)^k=1:=Int.one_pow
theorem awu(a:Int)(k q:Nat)(hk:k < 18446744073709551616)(hq:q < 18446744073709551616)(h:pw a q=1):pw (pw a k) q=1:=by rw[UX _ _ hq]at h;rw[UX _ _ hq,UX _ _ hk,Mc,<-Int.pow_mul,pj,Int.pow_mul,<-Mc,h,one_pow];rfl
theorem Yc:pw 4 2305843009213688669=1:=by decide+kernel
theorem apD:pw 1 2305843009213688669=1:=by decide+kernel
theorem azx:BJ 4=aT:=by rw[BJ,Yc];rfl
theorem Lg:BJ 1=aT:=by rw[BJ,apD];rfl
theorem azP:afk 1=1:=by
 have e:pw 1 2305843009213688668=1:=by decide+kernel
 rw[afk,tk,Lg];exact e
theorem abC{a:Int}(h:Pn a)(q:Nat)(hq:0 < q)(NI:q < 18446744073709551616)(hp:pw a q=1):0 < a:=by
 rcases Int.lt_or_eq_of_le h.1 with h0 | h0
 ·exact h0
 ·subst h0;rw[UX _ _ NI,Int.zero_pow au]at hp;cases hp
theorem aDl{a:Int}(h:Pn a)(hp:pw a 2305843009213688669=1):BJ a=aT:=by have h0:=abC h 2305843009213688669 fb fb hp;rw[BJ,hp,ot ⟨h0,h.2⟩];rfl
theorem aoX{a:Int}(h:BJ a=aT):pw a 2305843009213688669=1/\Pn a:=by rw[BJ,av,aW,aW]at h;exact⟨h.2,au,h.1.2⟩
theorem aDm{a:Int}(h:BJ a=aT)(k:Nat)(hk:k < 18446744073709551616):BJ (pw a k)=aT:=aDl (af3 _ _) (awu a k _ hk fb (aoX h).1)
theorem aDn(a:Int):BJ (tk a)=aT:=by
 unfold tk;cases h:BJ a
 ·exact Lg
 ·exact h
theorem aoY(p k:Int):BJ (Dt p k)=aT:=aDm (aDn p) _ au
theorem VT{a:Int}(h:BJ a=aT):tk a=a:=by rw[tk,h];rfl
theorem Tl(k:Int):BJ (gD k)=aT:=aoY 4 k
theorem afh{a:Int}(h:Pn a):tM a 1=a:=by rw[tM,Int.mul_one,fo h.1 h.2]
def pm(m:Nat):Nat->Nat->Nat->Nat->Nat
 | 0,_,_,out=>out%m
 |f+1,a,n,out=>if n=0 then out%m else pm m f (a*a%m) (n / 2) (if n%2=1 then out*a%m else out)
theorem aBU(m:Nat):∀(f a n out:Nat),n < 2^f->pm m f a n out=out*a^n%m
 | 0,a,n,out,h=>by obtain rfl:n=0:=au;rw[pm,Nat.pow_zero,jE]
 |f+1,a,n,out,h=>by
  have e:(2:Nat)^(f+1)=2^f*2:=Nat.pow_succ (n:=2) (m:=f);rw[pm];split
  ·rename_i h0;subst h0;rw[Nat.pow_zero,jE]
  ·rw[aBU m f _ _ _ au,kK];have e1:(a*a%m)^(n / 2)%m=a^(2*(n / 2))%m:=by rw[<-Nat.pow_mod,Nat.pow_mul,Nat.pow_two]
   have e2:(if n%2=1 then out*a%m else out)%m=(out*a^(n%2))%m:=by
    split
    ·rename_i h1;rw[h1,Nat.pow_one,Nat.mod_mod]
    ·have h1:n%2=0:=au;rw[h1,Nat.pow_zero,jE]
   rw[e1,e2,<-kK,Nat.mul_assoc,<-nX];have e3:n%2+2*(n / 2)=n:=au;rw[e3]
theorem aub:∀(r q:Nat) (f:Nat->Nat),(∀i,i < q->f i < r)->(∀i j,i < j->j < q->f i≠f j)->q<=r
 | 0,q,f,h,_=>by
  rcases iO q with h0 | h0
  ·omega
  ·exact absurd (h 0 h0) (Nat.not_lt_zero _)
 |r+1,q,f,h,g=>by
  by_cases hx:∃i,i < q/\f i=r
  ·obtain⟨i,hi,hr⟩:=hx;have e:=aub r (q - 1) (λj=>if j < i then f j else f (j+1)) (λj hj=>by
    by_cases h1:j < i
    ·have a:=h j au;have b:=g j i h1 hi;simp only[h1,da];omega
    ·have a:=h (j+1) au;have b:=g i (j+1) au au;simp only[h1,cK];omega) (λj k aKw hk=>by
    by_cases h1:j < i
    ·by_cases h2:k < i
     ·simp only[h1,h2,da];exact g j k aKw au
     ·simp only[h1,h2,da,cK];exact g j (k+1) au au
    ·have h2:¬k < i:=au;simp only[h1,h2,cK];exact g (j+1) (k+1) au au)
   omega
  ·have e:=aub r q f (λi hi=>by
    have a:=h i hi;have b:f i≠r:=λx=>hx ⟨i,hi,x⟩
    omega) g
   omega
theorem amv(a m:Nat)(h1:1%m=1):∀i j:Nat,a^i%m=1->a^j%m=1->a^(Nat.gcd i j)%m=1:=by
 intro i
 induction i using Nat.strongRecOn with
 |ind i ih=>
  intro j hi hj;rcases iO i with h0 | h0
  ·subst h0;rw[Nat.gcd_zero_left];exact hj
  ·rw[Nat.gcd_rec];refine ih (j%i) (Nat.mod_lt _ h0) i ?_ hi
   have e:a^j=(a^i)^(j / i)*a^(j%i):=by rw[<-Nat.pow_mul,<-nX,Nat.div_add_mod]
   rw[e,kK,Nat.pow_mod,hi,Nat.one_pow,h1,ir,Nat.mod_mod]at hj;exact hj
def arJ(n:Nat):Prop:=∀d,d∣n->d=1\/d=n
theorem amy{n k:Nat}(h:arJ n)(h0:0 < k)(hk:k < n):Nat.gcd k n=1:=by
 rcases h _ (Nat.gcd_dvd_right k n) with h1 | h1
 ·exact h1
 ·have:=Nat.le_of_dvd h0 (Nat.gcd_dvd_left k n);omega
theorem afn{n:Nat}(hn:1 < n)(h:∀r,1 < r->r*r<=n->¬r∣n):arJ n:=by
 intro d hd;obtain⟨e,he⟩:=hd;have aGU:0 < d:=Nat.pos_of_ne_zero (by intro x;rw[x,my]at he;omega);have aaE:0 < e:=Nat.pos_of_ne_zero (by intro x;rw[x,Nat.mul_zero]at he;omega);by_cases h1:d=1
 ·exact .inl h1
 by_cases h2:e=1
 ·right;rw[he,h2,jE]
 exfalso;rcases Nat.le_total d e with hle | hle
 ·exact h d au (by rw[he];exact Nat.mul_le_mul_left d hle) ⟨e,he⟩
 ·exact h e au (by rw[he];exact c9 e hle) ⟨d,by rw[he,pj]⟩
theorem aDO{n q b:Nat}(hn:1 < n)(hq:arJ q)(aEB:1 < q)(aIp:n < q*q)(hb:b^q%n=1)(hg:Nat.gcd (b - 1) n=1)(aGT:0 < b):arJ n:=by
 refine afn hn λr hr aKM aaH=> ?_
 have aJu:1%r=1:=jV hr;have aJy:b^q%r=1:=by have:=Nat.mod_mod_of_dvd (b^q) aaH;rw[<-this,hb,aJu]
 have gJ:b%r≠1:=by
  intro hx;have hd:r∣b - 1:=by have e:=Nat.dvd_sub_mod (n:=r) b;rw[hx]at e;exact e
  have:=Nat.dvd_gcd hd aaH;rw[hg]at this;have:=Nat.le_of_dvd au this;omega
 have key:q<=r:=by
  refine aub r q (λi=>b^i%r) (λi _=>Nat.mod_lt _ au) λi j aG2 hj he=> ?_
  have e1:b^(j - i)%r=1:=by
   have x1:b^(q - i)*b^i%r=b^(q - i)*b^j%r:=by rw[kK,he,<-kK]
   rw[<-nX,<-nX,show q - i+i=q by omega,show q - i+j=q+(j - i) by omega,nX,kK,aJy,ir,Nat.mod_mod]at x1;exact x1.symm
  have e2:=amv b r aJu (j - i) q e1 aJy;rw[amy hq au au,Nat.pow_one]at e2;exact gJ e2
 have:q*q<=r*r:=Nat.mul_le_mul key key;omega
def avd(n:Nat):Nat->Bool
 | 0=>aT
 |k+1=>n%(k+2) !=0 && avd n k
theorem afm(n:Nat):∀k,avd n k=aT->∀d,1 < d->d<=k+1->¬d∣n
 | 0,_,d,h1,h2=>au
 |k+1,h,d,h1,h2=>by
  rw[avd,av]at h;by_cases hd:d=k+2
  ·intro hx;have:=Nat.mod_eq_zero_of_dvd hx;rw[hd]at this;rw[this]at h;exact absurd h.1 fb
  ·exact afm n k h.2 d h1 au
theorem aIO:arJ 7930907:=by
 refine afn fb λr hr aKM=>afm 7930907 2820 (by decide+kernel) r hr ?_
 apply Nat.le_of_not_lt;intro h;have:2822*2822<=r*r:=Nat.mul_le_mul au au;omega
theorem Md{n q:Nat}(a e:Nat)(hq:arJ q)(aEB:1 < q)(hn:1 < n)(aIp:n < q*q)(he:e < 2^64)(NI:q < 2^64)(h1:pm n 64 (pm n 64 a e 1) q 1=1)(h2:Nat.gcd (pm n 64 a e 1 - 1) n=1)(h3:0 < pm n 64 a e 1):arJ n:=by generalize pm n 64 a e 1=b at*;rw[aBU _ _ _ _ _ NI,ir]at h1;exact aDO hn hq aEB aIp h1 h2 h3
theorem aIN:arJ 11864636873:=Md (q:=7930907) 2 1496 aIO fb fb fb fb fb (by decide+kernel) (by decide+kernel) (by decide+kernel)
theorem aIM:arJ 1732236983459:=Md (q:=11864636873) 2 146 aIN fb fb fb fb fb (by decide+kernel) (by decide+kernel) (by decide+kernel)
theorem aIL:arJ 249442125618097:=Md (q:=1732236983459) 2 144 aIM fb fb fb fb fb (by decide+kernel) (by decide+kernel) (by decide+kernel)
theorem aIP:arJ 2305843009213688669:=Md (q:=249442125618097) 2 9244 aIL fb fb fb fb fb (by decide+kernel) (by decide+kernel) (by decide+kernel)
def gP(n:Nat):Int:=((4^n%4611686018427377339:Nat):Int)
theorem WX(a m q:Nat)(h1:1%m=1)(h:a^q%m=1)(n:Nat):a^(n%q)%m=a^n%m:=by
 have e:a^n=(a^q)^(n / q)*a^(n%q):=by rw[<-Nat.pow_mul,<-nX,Nat.div_add_mod]
 rw[e,kK,Nat.pow_mod (a^q),h,Nat.one_pow,h1,ir,Nat.mod_mod]
theorem aBk:∀q:Nat,q=2305843009213688669->4^q%4611686018427377339=1:=by
 intro q hq;have h:=Yc;rw[UX _ _ fb]at h;rw[<-hq]at h;have e:(((4^q%4611686018427377339:Nat)):Int)=1:=by rw[o9,ky];exact h
 omega
theorem aaA(n:Nat):gP (n%2305843009213688669)=gP n:=by unfold gP;obtain⟨q,hq⟩:∃q:Nat,q=2305843009213688669:=⟨_,rfl⟩;rw[<-hq,WX 4 4611686018427377339 q fb (aBk q hq)]
theorem aE9(n:Nat)(h:n < 18446744073709551616):pw 4 n=gP n:=by rw[UX _ _ h];unfold gP;rw[o9,ky];rfl
theorem at1(k:Int)(h:0<=k):(k%2305843009213688669).toNat=k.toNat%2305843009213688669:=au
theorem Rf(k:Int)(h:0<=k):gD k=gP k.toNat:=by show pw (tk 4) _=_;rw[VT azx,aE9 _ au,at1 k h,aaA]
theorem ayZ(n:Nat):gP n=gD n:=by rw[Rf _ au,aa]
theorem SR(n:Nat):BJ (gP n)=aT:=by rw[ayZ];exact Tl _
theorem ais(a b:Nat):tM (gP a) (gP b)=gP (a+b):=by unfold tM gP;rw[<-ku,nX];have e:(4611686018427377339:Int)=((4611686018427377339:Nat):Int):=rfl;rw[e,<-o9,<-kK]
theorem at2(a:Nat)(c:Int)(h:0<=c):Dt (gP a) c=gP (a*c.toNat):=by
 show pw (tk (gP a)) _=_;rw[VT (SR a),UX _ _ au,at1 c h];obtain⟨b,hb⟩:∃b:Nat,b=c.toNat:=⟨_,rfl⟩;rw[<-hb];obtain⟨d,hd⟩:∃d:Nat,d=b%2305843009213688669:=⟨_,rfl⟩;have hx:gP (a*b)=gP (a*d):=by rw[<-aaA (a*b),<-aaA (a*d),kK a b,kK a d,hd,Nat.mod_mod]
 rw[hx,<-hd];unfold gP;have e:(4611686018427377339:Int)=((4611686018427377339:Nat):Int):=rfl;rw[e,<-ky,<-o9,<-Nat.pow_mod,<-Nat.pow_mul]
theorem alz:gP 0=1:=fb
theorem aE8{n:Nat}(h:0 < n)(hn:n < 2305843009213688669):gP n≠1:=by intro he;unfold gP at he;have he:4^n%4611686018427377339=1:=au;obtain⟨q,hq⟩:∃q:Nat,q=2305843009213688669:=⟨_,rfl⟩;have e:=amv 4 4611686018427377339 fb n q he (aBk q hq);rw[amy (by rw[hq];exact aIP) h au]at e;exact absurd e fb
theorem aAF(k:Int)(m:List Int)(h0:0 < k)(hq:k < 2305843009213688669):yS (gD k) m 1 (mn k m)=aT:=by
 obtain⟨kn,hk⟩:∃kn:Nat,kn=k.toNat:=⟨_,rfl⟩;have hb:gD k=gP kn:=by rw[hk];exact Rf k au
 have hn:=SP (axe ai9 [l6 k,m]);unfold mn avf;rw[if_pos ⟨hq,au⟩];obtain⟨n,gJ⟩:∃n,KW (axe ai9 [l6 k,m])=n:=⟨_,rfl⟩;rw[gJ]at hn ⊢;unfold Zz;have hr:Ra [gD n,1]=gP n.toNat:=by show tM (tM 1 (tk (gD n))) (tk 1)=_;rw[VT (Tl n),VT Lg,afh (Aw _ _),Rf n au,<-alz,ais,ba]
 rw[hr,hb];have hc:=R8 (gP n.toNat) (gP kn) m;obtain⟨c,aCS⟩:∃c,DM (gP n.toNat) (gP kn) m=c:=⟨_,rfl⟩;rw[aCS]at hc ⊢;have ha:=akT n (aa9 c k);have h1:=hc.1;have h2:=ha.1;have h3:=ha.2;unfold yS;rw[if_neg (by
  intro h;rcases h with h | h | h | h | h
  ·exact aE8 au au h
  ·rw[SR]at h;cases h
  ·rw[Lg]at h;cases h
  ·have h:BJ (gP n.toNat)=aR:=h;rw[SR]at h;cases h
  ·exact h h3)]
 have e:gD (ahp n (aa9 c k))=Ra [gP n.toNat,Dt (gP kn) c,afk 1]:=by
  show _=tM (tM (tM 1 (tk (gP n.toNat))) (tk (Dt (gP kn) c))) (tk (afk 1));rw[azP,VT Lg,afh (Aw _ _),VT (SR _),at2 _ _ h1,VT (SR _)];rw[show(tM 1 (gP n.toNat))=gP n.toNat by rw[<-alz,ais,ba]];rw[ais,Rf _ h2];have hx:(ahp n (aa9 c k)).toNat=(n.toNat+kn*c.toNat)%2305843009213688669:=by
   unfold ahp aa9 avj;have g1:c%2305843009213688669=c:=fo h1 hc.2;have g2:k%2305843009213688669=k:=fo au hq;have g3:n%2305843009213688669=n:=fo au hn.2;rw[g1,g2,g3,nU _ (Int.dvd_refl _)];have g4:((kn*c.toNat:Nat):Int)=c*k:=by rw[ku,hk,Int.toNat_of_nonneg au,Int.toNat_of_nonneg h1,Int.mul_comm]
   have g5:0<=c*k:=by rw[<-g4];exact gH _
   obtain⟨z,hz⟩:∃z,c*k=z:=⟨_,rfl⟩;rw[hz]at g4 g5 ⊢;obtain⟨zn,aKX⟩:∃zn,kn*c.toNat=zn:=⟨_,rfl⟩;rw[aKX]at g4 ⊢;omega
  rw[hx,aaA]
 show decide (gD (ahp n (aa9 c k))=Ra [gP n.toNat,Dt (gP kn) (DM (gP n.toNat) (gP kn) m),afk 1])=aT;rw[aCS];exact ot e
def A6{α:Type}(p:α->Bool):List α->Int->Int⊕Unit
 |[],_=> .inr ()
 |x::xs,i=>if p x then .inl i else A6 p xs (i+1)
def Wx{α:Type}(p:α->Bool)(l:List α):Int:=match A6 p l 0 with | .inl i=>i | .inr _=> -1
theorem aeM{α:Type}(p:α->Bool):∀(l:List α) (i:Int),0<=i->(match A6 p l i with | .inl i=>decide (i>=0) | .inr _=>aR)=l.any p
 |[],_,_=>rfl
 |x::l,i,h=>by
  rw[A6,gb];cases hp:p x
  ·simp only[bW,cK,Bool.false_or];exact aeM p l (i+1) au
  ·simp[h]
theorem Lb{α:Type}(p:α->Bool)(l:List α):BI (Wx p l) 0=l.any p:=by
 have:=aeM p l 0 au;unfold Wx BI;cases h:A6 p l 0
 ·rw[h]at this;exact this
 ·rw[h]at this;rw[<-this];rfl
def Ik(k:Int):Bool:=decide (¬(k < 2305843009213688669/\k≠0))
def Dv(t:dS)(i br:Int)(ks:List Int):Bool:=iM t && (decide (0<=i/\i < t.1.length/\0<=br/\br < 4/\ks.length<=12) && !(ks.any Ik))
def awX(t:dS)(i br:Int)(ks:List Int)(sc:Int):dS×Int:=if Dv t i br ks then((t.1.set i.toNat ((nth gK t.1 i.toNat).1,(br,ks.map (λk=>mn k (wI t)),sc,()),()),t.2),0) else(([],[],0,()),1)
theorem BF{t:dS}:Sm (wI t):=by
 unfold wI;split
 ·exact ake _ _
 ·exact⟨by rw[dF],λx hx=>by obtain rfl:=(qV.1 hx).2;exact⟨fb,fb⟩⟩
def arh:Int->Prop:=λ_=>True
def amM:Int->Bool:=λk=>Ik k
def QI:Fs Tryz.prog arh bF amM:=gg 77 Tryz.f77 (λkv=>([.d tu kv],[])) (λx=>⟨.d .bool x,[],[]⟩) [al tu] [NG]
theorem axo(kv)(k:K1 R):QI.A kv k=aS (HA kv 0) (k (QI.out aT)) (aq (CZ.call kv) λx1=>k (QI.out (!x1))):=cT
theorem axp:QI.Ok:=by
 intro(k:Int) _;rw[axo,IZ (d:=k) trivial];simp only[bF,amM,Ik,ae,bF,KV];by_cases h:k=0
 ·rw[qo h,ak,bf au]
 ·rw[nu h,ao];by_cases h2:k < 2305843009213688669
  ·rw[bm h2,bI au];rfl
  ·rw[bn h2,bf au];rfl
theorem ari:QI.RS:=rE [.d tu] QI
def axq:=QI.gm axp
abbrev vQ:=Bs×Int×Int
def mV:vQ->AS:=λ(jt,t7,t8)=>⟨([.d tU jt,.fn 77 (.nil)]++bg 5 ([.d ti t7,.d ti t8]++bg 10 [])),[],(ai 19 [])⟩
def nD:Int->Exit×AS:=λx=>(.ret,⟨(bg 4 ([.d ti x]++bg 14 [])),[],(ai 19 [])⟩)
def uZ:Unit->Exit×AS:=λx=>(.exit 0,⟨(bg 19 []),[],(ai 19 [])⟩)
abbrev FM:=(Int)⊕(Unit)
abbrev Qw:=(Int)⊕(Unit)
def BA:FM->Out (Exit×AS):=λx=> .br x.isLeft (.get x.getLeft? λa=> .ok (nD a)) (.get x.getRight? λb=> .ok (uZ b))
def jP:vQ->Qw->FM:=λ(jt,t7,t8) y=>match y with | .inl y=> .inl y | .inr z=> .inr (z)
def uY:vQ->Prop:=λ(l,n,i)=>(∀x∈l,True)/\l.length<=1000000000/\n=l.length/\∃k:Nat,k<=l.length/\i=k
def mq:vQ->Qw:=λ(l,n,i)=>A6 Ik (l.drop i.toNat) i
def akb:Bs->Prop:=λl=>(∀x∈l,True)/\l.length<=1000000000
def Vp:Bs->Int:=λl=>Wx Ik l
def Qv:=ee.gQ mV uY jP mq BA
def FN:vQ->Option FM:=ji Qv mV
def wq:Fs Tryz.prog akb bF Vp:=gg 114 Tryz.f114 (λsv=>([.d tU sv,.fn 77 (.nil)],[])) (λx=>⟨.d ti x,[],[]⟩) [al tU,aJ] [axq] {loops:=sk [(2,{bu:=[0,1,7,8]})],outs:=sj [(2,{},{bu:=[4]})],gV:=tK [(2,Qv)]}
def FL:= @fK Tryz.prog (mN wq.G) wq.an 0 Tryz.f114 0 _ mV
abbrev MD:=nE Tryz.prog (mN wq.G) wq.an 0 Tryz.f114 0 mV uY jP mq BA
theorem W8:lN FN uY jP mq:=qe (oE [.d tU,.d ti,.d ti] λ_=>cT)
theorem JB:sx @FL mV uY jP mq BA MD:=tI
theorem FO(jt t7 t8)(kn:K2 R)(kx:K3 R):FL (jt,t7,t8) kn kx=aS (iE t8 t7) (aS (gU t8 (((ag jt):Nat):Int)) (aq (QI.call (nth tu jt (ab t8))) λx1=>aS (x1) (kx (nD t8).1 (nD t8).2) (kn (mV (jt,t7,(bV .i64 t8 (1:Int)))))) aJ) (kx (uZ ()).1 (uZ ()).2):=cT
theorem aqO(sv)(k:K1 R):wq.A sv k=aq (FN (sv,(sv.length:Int),0)) λx2=>aS x2.isLeft (aq x2.getLeft? λa3=>k (wq.out a3)) (aq x2.getRight? λb4=>k (wq.out (-1))):=cT
theorem abZ:MD:=by
 refine JB (λ(l,n,i)=>l.length - i.toNat) ?_
 rintro⟨l,n,i⟩ ⟨hl,hb,rfl,k,hk,rfl⟩;have hb:l.length<=1000000000:=hb;have hk:k<=l.length:=hk;by_cases h:k < l.length
 ·have hx:=hl _ (aX h);have n1:nth tu l k=l[k]:=dj (t:=tu) h;have hd:A6 Ik (l.drop k) k=if Ik l[k] then .inl (k:Int) else A6 Ik (l.drop (k+1)) ((k+1:Nat):Int):=by rw[aC h];rfl
  have step:∀ {R:Type} (kn:AS->Option R) (kx:Exit->AS->Option R),FL (l,(l.length:Int),(k:Int)) kn kx=aS (Ik l[k]) (kx (nD (k:Int)).1 (nD (k:Int)).2) (kn (mV (l,(l.length:Int),((k+1:Nat):Int)))):=by intro R kn kx;rw[FO,bm au,bz au au,aa,n1,ari (d:=l[k]) hx,N.pn au];rfl
  cases hp:Ik l[k]
  ·left;refine⟨(l,l.length,((k+1:Nat):Int)),⟨hl,hb,rfl,k+1,au,rfl⟩,by simp only[aa];omega,?_,λkn kx=> ?_⟩
   ·simp only[jP,mq,aa,hd,hp,bW,cK]
   ·rw[step,hp,ao]
  ·right;refine⟨nD (k:Int),?_,λkn kx=> ?_⟩
   ·simp only[jP,mq,aa,hd,hp,da];rfl
   ·rw[step,hp,ak]
 ·right;obtain rfl:k=l.length:=au;refine⟨uZ (),?_,λkn kx=> ?_⟩
  ·simp only[jP,mq,aa,aU];rfl
  ·rw[FO,bn au,ao]
theorem aqP:wq.Ok:=by rintro l ⟨hl,hb⟩;rw[aqO,W8 (d:=(l,l.length,0)) ⟨hl,hb,rfl,0,au,rfl⟩];simp only[ae,jP,mq,bt,aQ,bF,Vp,Wx];cases A6 Ik l 0 <;> rfl
theorem akc:wq.RS:=rE [.d tU] wq
def aqQ:=wq.gm aqP 1 ⟨.gQ abZ,trivial⟩
def W5:Bs->Prop:=λl=>(∀x∈l,True)/\l.length<=1000000000
def Qu:Bs->Bool:=λl=>l.any Ik
def uk:Fs Tryz.prog W5 bF Qu:=gg 80 Tryz.f80 (λsv=>([.d tU sv,.fn 77 (.nil)],[])) (λx=>⟨.d .bool x,[],[]⟩) [al tU,aJ] [aqQ]
theorem abV(sv)(k:K1 R):uk.A sv k=aq (wq.call sv) λx1=>k (uk.out (BI x1 0)):=cT
theorem abW:uk.Ok:=by rintro l ⟨hl,hb⟩;rw[abV,akc (d:=l) ⟨hl,hb⟩];simp only[ae,bF,Vp,Lb];rfl
theorem W6:uk.RS:=rE [.d tU] uk
def abX:=uk.gm abW
abbrev JO:=Int×Bs×Int×Int×dS×(Int×Unit)×Int×Nat×(Int×Unit)×Bs×(List Sg)
def yx:JO->(Re×(List Sg))->((Int×dS×(Int×Unit))×(Re×(List Sg))):=λ(Tj,t52,t53,t54,n5,n10,n13,ni,mi,n14,azK) y=>((Tj,n5,n10),y)
abbrev amN:=dS×Int×Int×Bs×Int
def acn:JO->Prop:=λ(i0,l,n,i,t,e,br,L,sc,id,r)=>l.length<=1000/\(∀x∈l,nY x)/\Sm id/\∃k:Nat,k<=l.length/\i=k/\n=l.length/\L=r.length/\r.length<=1000+k
def DF:JO->(Re×(List Sg)):=λ(i0,l,n,i,t,e,br,L,sc,id,r)=>((br,r++(l.drop i.toNat).map (λk=>mn k id),sc),r++(l.drop i.toNat).map (λk=>mn k id))
def arj:amN->Prop:=λ(t,i,br,ks,sc)=>vW t/\(∀x∈ks,nY x)/\ks.length<=1000000000
def acm:amN->(dS×Int):=λ(t,i,br,ks,sc)=>awX t i br ks sc
def tD:Ls acn yx DF:=xM (λ(Tj,t52,t53,t54,n5,n10,n13,ni,mi,n14,azK)=>⟨([cw,.d ti Tj,cw,cw,cw,fI 5]++bg 4 ([fI 10,cw,cw,fI 13,fI 14]++bg 37 ([.d tU t52,.d ti t53,.d ti t54]++bg 21 []))),[],(bK 5 ([dK (.d fg n5)]++bK 4 ([dK (.pr (.dI) (.pr (.dI) (.d (.pair ti .unit) n10))),[],[],dK (.pr (.d ti n13) (.pr (nR 64 ni) (.d (.pair tu .unit) mi))),dK (.d tH n14)]++bK 49 ([dK (.vec 148 MM azK)]++bK 11 []))))⟩) (λx=>(.exit 0,⟨([cw,.d ti x.1.1,cw,cw,cw,fI 5]++bg 4 ([fI 10,cw,cw,fI 13]++bg 62 [])),[],(bK 5 ([dK (.d fg x.1.2.1)]++bK 4 ([dK (.pr (.dI) (.pr (.dI) (.d (.pair ti .unit) x.1.2.2))),[],[],dK (.d axX x.2.1)]++bK 50 ([[.obj 0 aT (.vec 148 MM x.2.2)]]++bK 11 []))))⟩))
def vV:Fs Tryz.prog arj bF acm:=gg 39 Tryz.f39 (λ(t,inv,branch,keys,secret)=>([.d fg t,.d ti inv,.d ti branch,.d tU keys,.d tu secret],[])) (λx=>⟨.cons (.d fg x.1) (.cons (.d ti x.2) (.nil)),[],[]⟩) [al fg,al ti,al ti,al tU,al tu] [pV,amO,abX,OG,aw8,akv] {bM:=[5],loops:=sk [(7,{bu:=[1,5,10,13,14,52,53,54],sites:=[5,10,13,14,64],owns:=[⟨13,[.snd,.fst],64,84⟩]})],outs:=sj [(7,{bu:=[1,5,10,13],sites:=[5,10,13,64],KM:=[⟨13,[.snd,.fst],(.slice MM)⟩]},{bu:=[10,11]})],gV:=tK [(7,tD.E)],res:=[al fg,aJ]}
theorem aco:tD.RS:=rL [.d ti,.d tU,.d ti,.d ti,.d fg,.d (.pair ti .unit),.d ti,.n,.d (.pair tu .unit),.d tB,.d (.slice MM)] tD
theorem Ie(Tj t52 t53 t54 n5 n10 n13 ni mi n14 azK)(kn:K2 R)(kx:K3 R):vV.R 0 tD (Tj,t52,t53,t54,n5,n10,n13,ni,mi,n14,azK) kn kx=aS (iE t54 t53) (aS (gU t54 (t52.length:Int)) (aq (Qy.call ((nth tu t52 (ab t54)),n14)) λx4=>aS (decide (ni<=(ag azK))) (aS (ea (ni+1) 16) (kn (tD.st (Tj,t52,t53,(bV .i64 t54 1),n5,n10,n13,(ni+1),mi,n14,((bj ni azK)++ [x4])))) aJ) aJ) aJ) (aS (decide (0=0/\(0+ni)<=(ag azK))) (tD.go kx ((Tj,n5,n10),((n13,((cut azK 0 ni),mi)),azK))) aJ):=cT
theorem axr(t inv branch keys secret)(k:K1 R):vV.A (t,inv,branch,keys,secret) k=aq (ik.call t) λart=>aS (!art) (k (vV.out ((([]:List kj),(([]:List lM),(0,()))),1))) (aS (iE inv 0) (k (vV.out ((([]:List kj),(([]:List lM),(0,()))),1))) (aS (BI inv (t.1.length:Int)) (k (vV.out ((([]:List kj),(([]:List lM),(0,()))),1))) (aq (Xr.call (branch,(([]:List Sg),(secret,())))) λamV=>aS (!amV) (k (vV.out ((([]:List kj),(([]:List lM),(0,()))),1))) (aS (Ap (keys.length:Int) 12) (k (vV.out ((([]:List kj),(([]:List lM),(0,()))),1))) (aq (uk.call keys) λakI=>aS (akI) (k (vV.out ((([]:List kj),(([]:List lM),(0,()))),1))) (aq (tid.call t) λtP=>aq (tD.call (inv,keys,(keys.length:Int),0,t,(0,()),branch,0,(secret,()),tP,([]:List Sg))) λXu=>aq (lP.call Xu.1.2.1) λZr=>aS (gU Xu.1.1 ((Zr.1:Nat):Int)) (aS (decide ((0+(ab Xu.1.1)) < (ag Zr.2.2))) (aS (decide ((((0+(ab Xu.1.1))*36)+33)=((0+((ab Xu.1.1)*36))+33))) (aS (decide ((0+(ab Xu.1.1)) < (ag Zr.2.2))) (aS (decide (0=0/\(0+Zr.1)<=(ag (gB Zr.2.2 (0+(ab Xu.1.1)) ((nth gK Zr.2.2 (0+(ab Xu.1.1))).1,(Xu.2.1,(nth gK Zr.2.2 (0+(ab Xu.1.1))).2.2)))))) (k (vV.out (((cut (gB Zr.2.2 (0+(ab Xu.1.1)) ((nth gK Zr.2.2 (0+(ab Xu.1.1))).1,(Xu.2.1,(nth gK Zr.2.2 (0+(ab Xu.1.1))).2.2))) 0 Zr.1),Zr.2.1),0))) aJ) aJ) aJ) aJ) aJ)))))):=cT
theorem agU:(vV.mw 0 tD):=by
 refine(vV.qz 0 tD) (λ(i0,l,n,i,t,e,br,L,sc,id,r)=>l.length - i.toNat) ?_
 rintro⟨i0,l,n,i,t,e,br,L,sc,id,r⟩ ⟨hlen,hu,hm,k,hk,rfl,rfl,rfl,hr⟩;have hlen:l.length<=1000:=hlen;have hk:k<=l.length:=hk;have hr:r.length<=1000+k:=hr;by_cases h:k < l.length
 ·left;have n1:nth tu l k=l[k]:=dj (t:=tu) h;have hd:bT k l=l[k]::bT (k+1) l:=aC h;refine⟨(i0,l,l.length,((k+1:Nat):Int),t,e,br,r.length+1,sc,id,r++ [mn l[k] id]),⟨hlen,hu,hm,k+1,au,rfl,rfl,by rw[aj];rfl,by rw[aj];show r.length+1<=_;omega⟩,by simp only[aa];omega,?_,λkn kx=> ?_⟩
  ·simp only[yx,DF,aa,hd,cn,aM,dQ]
  ·rw[Ie,bm au,bz au au,aa,n1,aqU (d:=(l[k],id)) ⟨hu _ (aX h),hm⟩];simp only[ak,ae,bF,ab3];rw[bf (aF _),eW au au,N.pn au,cJ];rfl
 ·right;obtain rfl:k=l.length:=au;intro R kn kx;rw[Ie,bn au,ao];simp only[yx,DF,aa,aU,iT,bO,ba,aF,j4,cR,ak,fp]
theorem axs:vV.Ok:=by
 rintro⟨⟨is,os,nt,u⟩,i,br,ks,sc⟩ ⟨hv,hu,hl⟩;have hv:vW (is,os,nt,u):=hv;have hl:ks.length<=1000000000:=hl;rw[axr,mY (d:=(is,os,nt,u)) hv.1];simp only[ae,bF,o8,bF,acm,awX,Dv];rcases iS (iM (is,os,nt,u)) with jd | jd;rotate_left
 ·simp only[jd];rfl
 obtain⟨⟨_,a2,a3,_⟩,b1,b2⟩:=jo jd;have a2:is.length<=64:=a2;simp only[jd,cv,ao,cH];by_cases h1:i < 0
 ·rw[bm h1,ak,bI au];rfl
 rw[bn h1,ao];by_cases h2:i>=(is.length:Int)
 ·rw[ig h2,ak,bI au];rfl
 rw[fa h2,ao,agX (d:=(br,([],(sc,())))) trivial];simp only[ae,bF,acp,Ea];by_cases h3:0<=br/\br < 4
 ·rw[bf h3];by_cases h4:ks.length > 12
  ·rw[dX au,bI (p:=0<=i/\i < (is.length:Int)/\0<=br/\br < 4/\ks.length<=12) au];rfl
  ·rw[dx au,bf (p:=0<=i/\i < (is.length:Int)/\0<=br/\br < 4/\ks.length<=12) au,W6 (d:=ks) ⟨λ_ _=>trivial,hl⟩];simp only[ae,bF,Qu];rcases iS (ks.any Ik) with hb | hb;rotate_left
   ·simp only[hb];obtain⟨k,rfl⟩:∃k:Nat,i=k:=⟨i.toNat,au⟩;have hk:k < is.length:=au;simp only[show(([]:List Sg).length<=12)=True from eq_true (aP _),cR,Bool.and_self,cv,fj,ao,cH,da];rw[GR (d:=(is,os,nt,u)) hv];simp only[ae,bF,VR];rw[aco (d:=((k:Int),ks,ks.length,0,(is,os,nt,u),(0,()),br,0,(sc,()),wI (is,os,nt,u),[])) ⟨by show ks.length<=_;omega,hu,BF,0,aP _,rfl,rfl,rfl,aP _⟩];simp only[ae,yx,DF,bt,aQ,aV];rw[agK (d:=(is,os,nt,u)) jd];simp only[ae,bF,Zh,aa,ba,cW,bz (show(0:Int)<=(k:Int) by omega) (show(k:Int) < (is.length:Int) by omega),ak,bf hk,cR,List.length_set,aF,j4];rw[fp (by rw[List.length_set])]
   ·simp only[hb];rfl
 ·rw[bI h3,bI (p:=0<=i/\i < (is.length:Int)/\0<=br/\br < 4/\ks.length<=12) au];rfl
theorem ark:vV.RS:=rE [.d fg,.d ti,.d ti,.d tU,.d tu] vV
def axt:=vV.gm axs 1 ⟨.gQ agU,trivial⟩
abbrev eR:Ty:=(.pair jv (.pair ti .unit))
abbrev eU:=(lM×(Int×Unit))
abbrev aqX:Ty:=(.pair bP (.pair eR .unit))
abbrev acK:=(cC×(eU×Unit))
abbrev cD:Ty:=(.pair (.slice aqX) (.pair (.slice bP) .unit))
abbrev cZ:=((List acK)×((List cC)×Unit))
def arV:(Bs×Bs)->Prop:=λ_=>True
def ahu:(Bs×Bs)->Int:=λ(a,b)=>Sb a b
def ac2:Fs Tryz.prog arV bF ahu:=gg 31 Tryz.f31 (λ(a,b)=>([.d tB a,.d tB b],[])) (λx=>⟨.d ti x,[],[]⟩) [al tB,al tB] [⟨67,qD,akY,.of (aCc (fn:=Tryz.f67) cT cT cT cT cT) (by rfl)⟩]
theorem ax6(a b)(k:K1 R):ac2.A (a,b) k=aq (ac1 (a,b)) λx1=>k (ac2.out x1):=cT
theorem ax7:ac2.Ok:=by rintro⟨a,b⟩ _;rw[ax6,akZ];rfl
theorem ac3:ac2.RS:=rE [.d tB,.d tB] ac2
def ak0:=ac2.gm ax7
def auo:Int->Prop:=λ_=>True
def aaM:Int->Bool:=λ_=>aR
def aeN:Fs Tryz.prog auo bF aaM:=gg 68 Tryz.f68 (λx=>([.d ti x],[])) (λx=>⟨.d .bool x,[],[]⟩) [al ti]
theorem azs(x)(k:K1 R):aeN.A x k=k (aeN.out (G5 x x)):=cT
theorem azt:aeN.Ok:=by intro x _;rw[azs];simp only[bF,aaM,eJ rfl]
theorem aeO:aeN.RS:=rE [.d ti] aeN
def azu:=aeN.gm azt
def Nt(x y:Int):Int:=if x < y then -1 else if x > y then 1 else 0
def auk:(Int×Int)->Prop:=λ_=>True
def aiJ:(Int×Int)->Int:=λ(x,y)=>Nt x y
def QW:Fs Tryz.prog auk bF aiJ:=gg 32 Tryz.f32 (λ(x,yv)=>([.d ti x,.d ti yv],[])) (λx=>⟨.d ti x,[],[]⟩) [al ti,al ti] [azu]
theorem azm(x yv)(k:K1 R):QW.A (x,yv) k=aq (aeN.call x) λx1=>aq (aeN.call yv) λx2=>aS (x1) (aS (x2) (k (QW.out 0)) (k (QW.out (-1)))) (aS (x2) (k (QW.out 1)) (aS (iE x yv) (k (QW.out (-1))) (aS (Ap x yv) (k (QW.out 1)) (k (QW.out 0))))):=cT
theorem azn:QW.Ok:=by
 rintro⟨x,y⟩ _;rw[azm,aeO (d:=x) trivial];simp only[ae,bF,aaM];rw[aeO (d:=y) trivial];simp only[ae,bF,aaM,ao,bF,aiJ,Nt];by_cases h:x < y
 ·rw[bm h,ak,if_pos h]
 ·rw[bn h,ao,if_neg h];by_cases h2:x > y
  ·rw[dX h2,ak,if_pos h2]
  ·rw[dx h2,ao,if_neg h2]
theorem aul:QW.RS:=rE [.d ti,.d ti] QW
def azo:=QW.gm azn
abbrev EE:=Int×(List Int)×Int×Int
def yD:EE->AS:=λ(zero,t6,t7,t8)=>⟨([cw,cw,cw,.d ti zero,cw,cw,.d (.slice ti) t6,.d ti t7,.d ti t8]++bg 9 []),[],(ai 18 [])⟩
def CF:Int->Exit×AS:=λx=>(.ret,⟨([cw,cw,.d ti x]++bg 15 []),[],(ai 18 [])⟩)
def CH:Int->Exit×AS:=λx=>(.exit 0,⟨([cw,cw,cw,.d ti x]++bg 14 []),[],(ai 18 [])⟩)
abbrev Se:=(Int)⊕(Int)
abbrev adJ:=(Int)⊕(Unit)
def IA:Se->Out (Exit×AS):=λx=> .br x.isLeft (.get x.getLeft? λa=> .ok (CF a)) (.get x.getRight? λb=> .ok (CH b))
def oe:EE->adJ->Se:=λ(zero,t6,t7,t8) y=>match y with | .inl y=> .inl y | .inr z=> .inr (zero)
def aDG:List Int->Int
 |[]=>0
 |x::l=>if x≠0 then x else aDG l
def aBR:List Int->Int⊕Unit
 |[]=> .inr ()
 |x::l=>if x≠0 then .inl x else aBR l
theorem aBS:∀l:List Int,aDG l=match aBR l with | .inl x=>x | .inr _=>0
 |[]=>rfl
 |x::l=>by
  simp only[aDG,aBR];split
  ·rfl
  ·exact aBS l
def CE:EE->Prop:=λ(z,l,n,i)=>z=0/\l.length<=1000000000/\n=l.length/\∃k:Nat,k<=l.length/\i=k
def vo:EE->adJ:=λ(z,l,n,i)=>aBR (l.drop i.toNat)
def ayE:(List Int)->Prop:=λl=>l.length<=1000000000
def asW:(List Int)->Int:=λl=>aDG l
def adH:=ee.gQ yD CE oe vo IA
def O7:EE->Option Se:=ji adH yD
def an2:Fs Tryz.prog ayE bF asW:=gg 30 Tryz.f30 (λjf=>([.d (.slice ti) jf],[])) (λx=>⟨.d ti x,[],[]⟩) [al (.slice ti)] [] {loops:=sk [(3,{bu:=[3,6,7,8]})],outs:=sj [(3,{bu:=[3]},{bu:=[2]})],gV:=tK [(3,adH)]}
def adI:= @fK Tryz.prog (mN an2.G) an2.an 0 Tryz.f30 0 _ yD
abbrev XU:=nE Tryz.prog (mN an2.G) an2.an 0 Tryz.f30 0 yD CE oe vo IA
theorem ah4:lN O7 CE oe vo:=qe (oE [.d ti,.d (.slice ti),.d ti,.d ti] λ_=>cT)
theorem QN:sx @adI yD CE oe vo IA XU:=tI
theorem EF(zero t6 t7 t8)(kn:K2 R)(kx:K3 R):adI (zero,t6,t7,t8) kn kx=aS (iE t8 t7) (aS (gU t8 (((ag t6):Nat):Int)) (aS (G5 (nth ti t6 (ab t8)) zero) (kx (CF (nth ti t6 (ab t8))).1 (CF (nth ti t6 (ab t8))).2) (kn (yD (zero,t6,t7,(bV .i64 t8 (1:Int)))))) aJ) (kx (CH zero).1 (CH zero).2):=cT
theorem aCu(jf)(k:K1 R):an2.A jf k=aq (O7 (0,jf,(jf.length:Int),0)) λx1=>aS x1.isLeft (aq x1.getLeft? λa2=>k (an2.out a2)) (aq x1.getRight? λb3=>k (an2.out b3)):=cT
theorem an3:XU:=by
 refine QN (λ(z,l,n,i)=>l.length - i.toNat) ?_
 rintro⟨z,l,n,i⟩ ⟨rfl,hl,rfl,k,hk,rfl⟩;by_cases h:k < l.length
 ·have hd:l.drop k=l[k]::l.drop (k+1):=aC h;have n1:nth ti l k=l[k]:=dj (t:=ti) h;by_cases h2:l[k]≠0
  ·right;refine⟨CF l[k],?_,λkn kx=> ?_⟩;rotate_left
   ·rw[EF,bm au,ak,bz au au,ak,aa,n1,iJ h2,ak]
   ·simp only[oe,vo,aa,hd,aBR,if_pos h2];rfl
  ·left;refine⟨(0,l,(l.length:Int),((k+1:Nat):Int)),⟨rfl,hl,rfl,k+1,au,rfl⟩,by simp only[aa];omega,?_,λkn kx=> ?_⟩
   ·simp only[oe,vo,aa,hd,aBR,if_neg h2]
   ·rw[EF,bm au,ak,bz au au,ak,aa,n1,eJ au,ao,N.pn au]
 ·right;obtain rfl:k=l.length:=au;refine⟨CH 0,?_,λkn kx=> ?_⟩;rotate_left
  ·rw[EF,bn au,ao]
  ·simp only[oe,vo,aa,aU,aBR];rfl
theorem aCv:an2.Ok:=by intro l hl;rw[aCu,ah4 (d:=(0,l,(l.length:Int),0)) ⟨rfl,hl,rfl,0,aP _,rfl⟩];simp only[ae,oe,vo,bt,aQ,bF,asW];rw[aBS];cases aBR l <;> rfl
theorem alg:an2.RS:=rE [.d (.slice ti)] an2
def asX:=an2.gm aCv 1 ⟨.gQ an3,trivial⟩
abbrev qf:Ty:=(.pair ti (.pair tH (.pair (.slice fg) (.pair ti (.pair (.slice bP) .unit)))))
abbrev pX:=(Int×(Bs×((List dS)×(Int×((List cC)×Unit)))))
theorem aan(x y:List Int):Ty.beq tH x y=decide (x=y):=by
 by_cases h:x=y
 ·rw[h,ot rfl];exact beq_refl tH y rfl
 ·rw[jm h];cases hb:Ty.beq tH x y with
  |false=>rfl
  |true=>exact absurd (beq_eq tH x y rfl hb) h
def ahj(o:cC):Prop:=o.1.length=32/\o.2.1<=9223372036854775807
def aHv(b:pX):Prop:=(b.2.2.1.length<=1000/\∀t∈b.2.2.1,vW t)/\(b.1<=9223372036854775807/\b.2.1.length=32/\b.2.2.2.1<=9223372036854775807)/\b.2.2.2.2.1.length<=1000/\∀o∈b.2.2.2.2.1,ahj o
def aDk(x:Bs)(t:dS):Bs:=x++wI t
def aDj(x:Bs)(o:cC):Bs:=dW (x++o.1) o.2.1
def aHG(b:pX):Bs:=b.2.2.2.2.1.foldl aDj (dW (dW (b.2.2.1.foldl aDk (dW (dW [] b.1++b.2.1) b.2.2.1.length)) b.2.2.2.1) b.2.2.2.2.1.length)
def aCg(b:pX):Bs:=tag (cE (⟨#[98,108,111,99,107]⟩:ByteArray)) [aHG b]
theorem alJ:∀(l:List dS) (x:Bs),(l.foldl aDk x).length=x.length+32*l.length
 |[],x=>rfl
 |t::l,x=>by rw[aY,alJ l,aDk,aj,BF.1,aH];omega
theorem aaL:∀(l:List cC) (x:Bs),(∀o∈l,ahj o)->(l.foldl aDj x).length<=x.length+43*l.length
 |[],x,_=>aF _
 |o::l,x,h=>by
  have h1:=aaL l (aDj x o) λy hy=>h y (aK _ hy)
  have h2:=fL (x++o.1) o.2.1;have h3:=(h o (aL ..)).1;rw[aj]at h2;rw[aY,aH];unfold aDj at h1 ⊢;omega
abbrev Nj:=pX×Bs×(List dS)×Int×Int×Bs
def z7:Nj->Bs->((pX×Bs)×(Bs)):=λ(nZ,x,t19,t20,t21,n2) y=>((nZ,n2),y)
abbrev Nk:=Bs×(List cC)×Int×Int×Bs
def z8:Nk->Bs->((Bs)×(Bs)):=λ(aES,t39,t40,t41,sm) y=>(sm,y)
def adf:Nj->Prop:=λ(b,x,l,n,i,z)=>(l).length<=1000000000/\∃k:Nat,k<=(l).length/\i=k/\n=(l).length/\(l.length<=1000)/\(∀t∈l,vW t)/\(x.length<=1000+32*k)
def Gm:Nj->Bs:=λ(b,x,l,n,i,z)=>(bT (ab i) l).foldl aDk x
def adh:Nk->Prop:=λ(x,l,n,i,z)=>(l).length<=1000000000/\∃k:Nat,k<=(l).length/\i=k/\n=(l).length/\(l.length<=1000)/\(∀o∈l,ahj o)/\(x.length<=100000+43*k)
def Gn:Nk->Bs:=λ(x,l,n,i,z)=>(bT (ab i) l).foldl aDj x
def asa:pX->Prop:=λb=>aHv b
def ar9:pX->Bs:=λb=>aCg b
def wU:Ls adf z7 Gm:=xM (λ(nZ,x,t19,t20,t21,n2)=>⟨([cw,.eN qf nZ,fI 2,.d tB x]++bg 15 ([.d (.slice fg) t19,.d ti t20,.d ti t21]++bg 34 [])),[],([[],[],dK (.d tH n2)]++bK 53 [])⟩) (λx=>(.exit 0,⟨([cw,.eN qf x.1.1,fI 2,.d tB x.2]++bg 52 []),[],([[],[],dK (.d tH x.1.2)]++bK 53 [])⟩))
def wV:Ls adh z8 Gn:=xM (λ(aES,t39,t40,t41,sm)=>⟨([cw,cw,fI 2,.d tB aES]++bg 35 ([.d (.slice bP) t39,.d ti t40,.d ti t41]++bg 14 [])),[],([[],[],dK (.d tH sm)]++bK 53 [])⟩) (λx=>(.exit 2,⟨([cw,cw,fI 2,.d tB x.2]++bg 52 []),[],([[],[],dK (.d tH x.1)]++bK 53 [])⟩))
def Io:Fs Tryz.prog asa bF ar9:=gg 24 Tryz.f24 (λb=>([.d qf b],[])) (λx=>⟨.d tH x,[],[]⟩) [al qf] [Rj,adO,OG,Rr] {loops:=sk [(3,{bu:=[1,2,3,19,20,21],sites:=[2]}),(9,{bu:=[2,3,39,40,41],sites:=[2]})],outs:=sj [(3,{bu:=[1,2,3],sites:=[2]},{bu:=[2]}),(9,{bu:=[2,3],sites:=[2]},{bu:=[2]})],gV:=tK [(3,wU.E),(9,wV.E)]}
theorem adg:wU.RS:=rL [.d qf,.d tB,.d (.slice fg),.d ti,.d ti,.d tB] wU
theorem J9(nZ x t19 t20 t21 n2)(kn:K2 R)(kx:K3 R):Io.R 0 wU (nZ,x,t19,t20,t21,n2) kn kx=aS (iE t21 t20) (aS (gU t21 (t19.length:Int)) (aq (tid.call (nth fg t19 (ab t21))) λx1=>aq (Hf.call (x,x1)) λx2=>kn (wU.st (nZ,x2,t19,t20,(bV .i64 t21 1),n2))) aJ) (wU.go kx ((nZ,n2),x)):=cT
theorem adi:wV.RS:=rL [.d tB,.d (.slice bP),.d ti,.d ti,.d tB] wV
theorem Ka(aES t39 t40 t41 sm)(kn:K2 R)(kx:K3 R):Io.R 1 wV (aES,t39,t40,t41,sm) kn kx=aS (iE t41 t40) (aS (gU t41 (t39.length:Int)) (aq (Hf.call (aES,(nth bP t39 (ab t41)).1)) λx1=>aq (yU.call (x1,(nth bP t39 (ab t41)).2.1)) λx2=>kn (wV.st (x2,t39,t40,(bV .i64 t41 1),sm))) aJ) (wV.go kx (sm,aES)):=cT
theorem ayf(b)(k:K1 R):Io.A b k=aq (yU.call (([]:List Int),b.1)) λx1=>aq (Hf.call (x1,b.2.1)) λx2=>aq (yU.call (x2,(b.2.2.1.length:Int))) λx3=>aq (wU.call (b,x3,b.2.2.1,(b.2.2.1.length:Int),0,(ai 32 0))) λx6=>aq (yU.call (x6.2,x6.1.1.2.2.2.1)) λx7=>aq (yU.call (x7,(x6.1.1.2.2.2.2.1.length:Int))) λx8=>aq (wV.call (x8,x6.1.1.2.2.2.2.1,(x6.1.1.2.2.2.2.1.length:Int),0,x6.1.2)) λamV=>aq (NN.call ((⟨#[98,108,111,99,107]⟩:ByteArray),[amV.2])) λakI=>k (Io.out akI):=cT
theorem ahE:(Io.mw 0 wU):=by
 refine(Io.qz 0 wU) (λ(b,x,l,n,i,z)=>(l).length - ab i) ?_
 rintro⟨b,x,l,n,i,z⟩ ⟨hlen,k,hk,rfl,rfl,h3,hx,hb⟩;have hlen:(l).length<=1000000000:=hlen;have hk:k<=(l).length:=hk;have h3:l.length<=1000:=h3;have hx:∀t∈l,vW t:=hx;have hb:x.length<=1000+32*k:=hb;by_cases h:k < (l).length
 ·left;have n1:nth fg l k=l[k]:=dj (t:=fg) h;have hd:bT k l=l[k]::bT (k+1) l:=aC h;refine⟨(b,(aDk x l[k]),l,((l).length:Int),((k+1:Nat):Int),z),⟨hlen,k+1,au,rfl,rfl,h3,hx,by unfold aDk;rw[aj,BF.1];omega⟩,by simp only[aa];omega,?_,λkn kx=> ?_⟩
  ·simp only[z7,Gm,aa,hd,aY]
  ·rw[J9,bm au,bz au au,aa,n1];simp only[ak];rw[GR (d:=l[k]) (hx _ (aX h))];simp only[ae,bF,VR];rw[Gt (d:=(x,wI l[k])) ⟨by show x.length+(wI l[k]).length<=_;rw[BF.1];omega,BF.1⟩];simp only[ae,bF,Kt];rw[N.pn au];rfl
 ·right;obtain rfl:k=(l).length:=au;intro R kn kx;rw[J9,bn au,ao];simp only[z7,Gm,aa,aU,dd]
theorem ahF:(Io.mw 1 wV):=by
 refine(Io.qz 1 wV) (λ(x,l,n,i,z)=>(l).length - ab i) ?_
 rintro⟨x,l,n,i,z⟩ ⟨hlen,k,hk,rfl,rfl,h3,hx,hb⟩;have hlen:(l).length<=1000000000:=hlen;have hk:k<=(l).length:=hk;have h3:l.length<=1000:=h3;have hx:∀o∈l,ahj o:=hx;have hb:x.length<=100000+43*k:=hb;by_cases h:k < (l).length
 ·left;have n1:nth bP l k=l[k]:=dj (t:=bP) h;have hd:bT k l=l[k]::bT (k+1) l:=aC h;refine⟨((aDj x l[k]),l,((l).length:Int),((k+1:Nat):Int),z),⟨hlen,k+1,au,rfl,rfl,h3,hx,by have:=aaL [l[k]] x (λo ho=>by rw[bq]at ho;subst ho;exact hx _ (aX h));simp only[aY,dd,aH,bB]at this;omega⟩,by simp only[aa];omega,?_,λkn kx=> ?_⟩
  ·simp only[z8,Gn,aa,hd,aY]
  ·rw[Ka,bm au,bz au au,aa,n1];simp only[ak];obtain⟨e1,e2⟩:=hx _ (aX h);rw[Gt (d:=(x,l[k].1)) ⟨by show x.length+l[k].1.length<=_;rw[e1];omega,e1⟩];simp only[ae,bF,Kt];rw[jr (d:=(x++l[k].1,l[k].2.1)) ⟨by show(x++l[k].1).length<=_;rw[aj,e1];omega,e2⟩];simp only[ae,bF,og];rw[N.pn au];rfl
 ·right;obtain rfl:k=(l).length:=au;intro R kn kx;rw[Ka,bn au,ao];simp only[z8,Gn,aa,aU,dd]
theorem ayg:Io.Ok:=by rintro b ⟨⟨h1,h2⟩,⟨h3,h4,h5⟩,h6,h7⟩;have z1:((0:Int)).toNat=0:=rfl;have p1:=fL [] b.1;have p2:=fL (dW [] b.1++b.2.1) b.2.2.1.length;rw[aj,h4]at p2;have l0:([]:Bs).length=0:=rfl;rw[l0]at p1;have q1:=alJ b.2.2.1 (dW (dW [] b.1++b.2.1) b.2.2.1.length);obtain⟨x3,e3⟩:∃x,dW (dW [] b.1++b.2.1) b.2.2.1.length=x:=⟨_,rfl⟩;rw[e3]at p2 q1;obtain⟨x6,e6⟩:∃x,b.2.2.1.foldl aDk x3=x:=⟨_,rfl⟩;rw[e6]at q1;have p7:=fL x6 b.2.2.2.1;have p8:=fL (dW x6 b.2.2.2.1) b.2.2.2.2.1.length;obtain⟨x8,e8⟩:∃x,dW (dW x6 b.2.2.2.1) b.2.2.2.2.1.length=x:=⟨_,rfl⟩;have q2:=aaL b.2.2.2.2.1 x8 h7;rw[e8]at p8;rw[ayf,jr (d:=(([]:List Int),b.1)) ⟨by show(0:Nat)<=_;omega,h3⟩];simp only[ae,bF,og];rw[Gt (d:=(dW [] b.1,b.2.1)) ⟨by show(dW [] b.1).length+b.2.1.length<=_;rw[h4];omega,h4⟩];simp only[ae,bF,Kt];rw[jr (d:=(dW [] b.1++b.2.1,(b.2.2.1.length:Int))) ⟨by show(dW [] b.1++b.2.1).length<=_;rw[aj,h4];omega,by show(b.2.2.1.length:Int)<=_;omega⟩];simp only[ae,bF,og];rw[e3,adg (d:=(b,x3,b.2.2.1,(b.2.2.1.length:Int),0,ai 32 0)) ⟨by show b.2.2.1.length<=_;omega,0,aP _,rfl,rfl,h1,h2,au⟩];simp only[ae,z7,Gm,z1,aQ];rw[e6,jr (d:=(x6,b.2.2.2.1)) ⟨by show x6.length<=_;omega,h5⟩];simp only[ae,bF,og];rw[jr (d:=(dW x6 b.2.2.2.1,(b.2.2.2.2.1.length:Int))) ⟨by show(dW x6 b.2.2.2.1).length<=_;omega,by show(b.2.2.2.2.1.length:Int)<=_;omega⟩];simp only[ae,bF,og];rw[e8,adi (d:=(x8,b.2.2.2.2.1,(b.2.2.2.2.1.length:Int),0,ai 32 0)) ⟨by show b.2.2.2.2.1.length<=_;omega,0,aP _,rfl,rfl,h6,h7,au⟩];simp only[ae,z8,Gn,z1,aQ];rw[K9 (d:=((⟨#[98,108,111,99,107]⟩:ByteArray),[b.2.2.2.2.1.foldl aDj x8])) (agH fb au)];simp only[ae,bF,ar9,aCg,aHG,e3,e6,e8];rfl
theorem asb:Io.RS:=rE [.d qf] Io
def ayh:=Io.gm ayg 2 ⟨.gQ ahE,⟨.gQ ahF,trivial⟩⟩
abbrev adm:=Int×(List dS)×Int×Int
theorem Zo:∀(l:List kj) (n:Int),(∀x∈l,x.2.1.2.1.length<=12)->n<=l.foldl wy n/\l.foldl wy n<=n+110*l.length
 |[],n,_=>by simp
 |x::l,n,h=>by
  have h1:=Zo l (wy n x) λy hy=>h y (aK _ hy)
  have h2:=h x (aL ..);have h3:n<=wy n x/\wy n x<=n+110:=by unfold wy;split <;> omega
  rw[aY,aH];omega
theorem GX(t:dS):0<=kq t/\kq t<=8000:=by
 unfold kq;split
 ·rename_i jd;obtain⟨⟨_,a2,a3,_⟩,b1,b2⟩:=jo jd;have:=Zo t.1 (10+8*t.2.1.length) λx hx=>(C0 (oF _ _ b1 x hx)).2.2.2.2
  omega
 ·omega
def Gf(n:Int)(t:dS):Int:=n+kq t
def aye(b:pX):Int:=b.2.2.1.foldl Gf b.2.2.2.1
def ahH:adm->Prop:=λ(n,l,m,i)=>(l).length<=1000000000/\∃k:Nat,k<=(l).length/\i=k/\m=(l).length/\(l.length<=1000)/\(∀t∈l,vW t)/\(0<=n)/\(n<=1000000+8000*(k:Int))
def Kc:adm->Int:=λ(n,l,m,i)=>(bT (ab i) l).foldl Gf n
def ayi:pX->Prop:=λb=>aHv b/\0<=b.2.2.2.1/\b.2.2.2.1<=1000000
def ak6:pX->Int:=λb=>aye b
def Cz:Ls ahH bF Kc:=xM (λ(n,t9,t10,t11)=>⟨([cw,cw,cw,.d ti n]++bg 5 ([.d (.slice fg) t9,.d ti t10,.d ti t11]++bg 9 [])),[],(ai 21 [])⟩) (λx=>(.exit 0,⟨([cw,cw,cw,.d ti x]++bg 17 []),[],(ai 21 [])⟩))
def acE:Fs Tryz.prog ayi bF ak6:=gg 23 Tryz.f23 (λb=>([.d qf b],[])) (λx=>⟨.d ti x,[],[]⟩) [al qf] [Wa] {loops:=sk [(3,{bu:=[3,9,10,11]})],outs:=sj [(3,{bu:=[3]},{bu:=[2]})],gV:=tK [(3,Cz.E)]}
theorem ahI:Cz.RS:=rL [.d ti,.d (.slice fg),.d ti,.d ti] Cz
theorem OU(n t9 t10 t11)(kn:K2 R)(kx:K3 R):acE.R 0 Cz (n,t9,t10,t11) kn kx=aS (iE t11 t10) (aS (gU t11 (t9.length:Int)) (aq (qQ.call (nth fg t9 (ab t11))) λx1=>kn (Cz.st ((bV .i64 n x1),t9,t10,(bV .i64 t11 1)))) aJ) (Cz.go kx n):=cT
theorem aCh(b)(k:K1 R):acE.A b k=aq (Cz.call (b.2.2.2.1,b.2.2.1,(b.2.2.1.length:Int),0)) λx2=>k (acE.out x2):=cT
theorem anv:(acE.mw 0 Cz):=by
 refine(acE.qz 0 Cz) (λ(n,l,m,i)=>(l).length - ab i) ?_
 rintro⟨n,l,m,i⟩ ⟨hlen,k,hk,rfl,rfl,h3,hx,h0,h1⟩;have hlen:(l).length<=1000000000:=hlen;have hk:k<=(l).length:=hk;have h3:l.length<=1000:=h3;have hx:∀t∈l,vW t:=hx;have h0:0<=n:=h0;have h1:n<=1000000+8000*(k:Int):=h1;by_cases h:k < (l).length
 ·left;have n1:nth fg l k=l[k]:=dj (t:=fg) h;have hd:bT k l=l[k]::bT (k+1) l:=aC h;refine⟨((Gf n l[k]),l,((l).length:Int),((k+1:Nat):Int)),⟨hlen,k+1,au,rfl,rfl,h3,hx,by have:=GX l[k];unfold Gf;omega,by have:=GX l[k];unfold Gf;omega⟩,by simp only[aa];omega,?_,λkn kx=> ?_⟩
  ·simp only[bF,Kc,aa,hd,aY]
  ·rw[OU,bm au,bz au au,aa,n1];simp only[ak];have e:=GX l[k];rw[QK (d:=l[k]) (hx _ (aX h))];simp only[ae,bF,GV];rw[hZ (x:=n) au au,N.pn au];rfl
 ·right;obtain rfl:k=(l).length:=au;intro R kn kx;rw[OU,bn au,ao];simp only[bF,Kc,aa,aU,dd]
theorem aCi:acE.Ok:=by rintro b ⟨⟨⟨h1,h2⟩,_⟩,h3,h4⟩;have z1:((0:Int)).toNat=0:=rfl;rw[aCh,ahI (d:=(b.2.2.2.1,b.2.2.1,(b.2.2.1.length:Int),0)) ⟨by show b.2.2.1.length<=_;omega,0,aP _,rfl,rfl,h1,h2,h3,by show b.2.2.2.1<=_;omega⟩];simp only[ae,bF,Kc,z1,aQ,bF,ak6,aye]
theorem ak7:acE.RS:=rE [.d qf] acE
def ase:=acE.gm aCi 1 ⟨.gQ anv,trivial⟩
def wE(h f:Int):Bool:=decide (1<=h/\h<=1048576/\0<=f/\f<=4000)
def ahD:(Int×Int)->Prop:=λ_=>True
def J8:(Int×Int)->Bool:=λ(h,f)=>wE h f
def yN:Fs Tryz.prog ahD bF J8:=gg 52 Tryz.f52 (λ(height,fill)=>([.d ti height,.d ti fill],[])) (λx=>⟨.d .bool x,[],[]⟩) [al ti,al ti]
theorem anq(height fill)(k:K1 R):yN.A (height,fill) k=aS (BI height 1) (aS (ahg height 1048576) (aS (BI fill 0) (k (yN.out (ahg fill 4000))) (k (yN.out aR))) (k (yN.out aR))) (k (yN.out aR)):=cT
theorem anr:yN.Ok:=by
 rintro⟨h,f⟩ _;rw[anq];simp only[bF,J8,wE];by_cases a1:1<=h
 ·rw[ig a1,ak];by_cases a2:h<=1048576
  ·rw[vA a2,ak];by_cases a3:0<=f
   ·rw[ig a3,ak];by_cases a4:f<=4000
    ·rw[vA a4,ot ⟨a1,a2,a3,a4⟩]
    ·rw[pA au,jm au]
   ·rw[fa au,ao,jm au]
  ·rw[pA au,ao,jm au]
 ·rw[fa au,ao,jm au]
theorem R0:yN.RS:=rE [.d ti,.d ti] yN
def XJ:=yN.gm anr
end Go.Ab
namespace Go.Ab
open Go.Sort (grow)
structure aEk(P:aN)(t:Ty)(g:fR)(Q:t.den->Prop)(cf:t.den->t.den->Int):Prop where
 bS:∃en,qU P g en/\∀x y,Q x->Q y->∃X,en.run [.d t x,.d t y] []=al X/\en.out [.d t x,.d t y] [] X=⟨.d (.int .i64) (cf x y),[],[]⟩
 enters:∀args w,(callFunc g args).run P w= .ok (.enter g args) w
 irrefl:∀x,Q x->¬cf x x < 0
 trans:∀x y z,Q x->Q y->Q z->cf x y < 0->cf y z < 0->cf x z < 0
 ntrans:∀x y z,Q x->Q y->Q z->¬cf x y < 0->¬cf y z < 0->¬cf x z < 0
theorem ay4{w w':bU}(aBz:w'.os=w.os)(aIz:w'.tape=w.tape)(QS:w'.output=w.output/\w.drawn<=w'.drawn)(rM:w.heap.size<=w'.heap.size)(hb:∀b:Nat,b < w.heap.size->w'.heap[b]? =w.heap[b]?):
  ∃q os,w'=grow (w.drewN q) os:=by
 obtain⟨h1,t1,d1,o1,p1⟩:=w;obtain⟨h2,t2,d2,o2,p2⟩:=w';simp only at*;obtain⟨QS,hd⟩:=QS;subst aBz aIz QS;obtain⟨q,rfl⟩:∃q,d2=d1+q:=⟨d2 - d1,au⟩;refine⟨q,h2.extract h1.size h2.size,?_⟩;have hh:h2=h1++h2.extract h1.size h2.size:=by
  apply qR;intro i;rw[kf];by_cases hi:i < h1.size
  ·rw[if_pos hi,hb i hi]
  ·rw[if_neg hi,Array.getElem?_extract];by_cases h3:i < h2.size
   ·rw[if_pos au];congr 1;omega
   ·rw[if_neg au,Array.getElem?_eq_none au]
 show({heap:=h2,tape:=_,drawn:=_,os:=_,output:=_}:bU)= {heap:=h1++h2.extract h1.size h2.size,tape:=_,drawn:=_,os:=_,output:=_};rw[<-hh];rfl
section
variable {P:aN} {t:Ty} {g:fR} {Q:t.den->Prop} {cf:t.den->t.den->Int}
theorem aEk.aFa(h:aEk P t g Q cf)(ha:t.agg=aT){W:bU}{cx cy:List Value}{x y:t.den}(hx:cI ((fT []).env W (λ_=> .free) (λ_=>aJ)) t cx x)
  (hy:cI ((fT []).env W (λ_=> .free) (λ_=>aJ)) t cy y) (qx:Q x) (qy:Q y):
  Calls P g #[.agg cx.toArray,.agg cy.toArray] W λe w'=>e= .returned (.int .i64 (cf x y))/\∃q os,w'=grow (W.drewN q) os:=by
 obtain⟨en,hd,pz⟩:=h.bS;obtain⟨X,hX1,hX2⟩:=pz x y qx qy;have one:∀ {c:List Value} {z:t.den},cI ((fT []).env W (λ_=> .free) (λ_=>aJ)) t c z->VS ((fT []).env W (λ_=> .free) (λ_=>aJ)) (.d t z) (.agg c.toArray):=λhz=>
  ⟨_,by simpa only[V]using hz,by show fY t.agg _ _;rw[ha];rfl⟩
 have ho:iP ((fT []).env W (λ_=> .free) (λ_=>aJ)):=λid ver fr c h=>by
  exfalso;cases id with
  |bG k=>simp[AS.env,AS.bS,fT]at h
  |new i j=>simp[AS.env,AS.bS,fT]at h
 rcases hd W (λ_=> .free) (λ_=>aJ) [.d t x,.d t y] [] [.agg cx.toArray,.agg cy.toArray] X ⟨one hx,one hy,trivial⟩ ho hX1 with⟨_,hc⟩ | ⟨v,w',hc,_⟩
 ·refine hc.mono λe w' he=> ?_
  obtain⟨v,rfl,g',β',hv,_,ht,_⟩:=he;rw[hX2]at hv;obtain⟨cs,k1,k2⟩:=hv;have k1:cs=[.int .i64 (cf x y)]:=k1;subst k1;have k2: [Value.int .i64 (cf x y)]=[v]:=k2;have hv:v= .int .i64 (cf x y):=by simpa using k2.symm
  exact⟨by rw[hv],ay4 ht.os ht.tape ht.output ht.size λb hb=>(ht.wZ b hb).2⟩
 ·rw[h.enters]at hc;cases hc
def arK(cf:t.den->t.den->Int)(l l':List t.den):Prop:=l'.Perm l/\l'.Pairwise λx y=>¬cf y x < 0
open Classical in
def Ha(cf:t.den->t.den->Int)(l:List t.den):List t.den:=if h:∃l',arK cf l l' then h.choose else l
theorem ab2(h:aEk P t g Q cf){l:List t.den}(hQ:∀x∈l,Q x):arK cf l (Ha cf l):=by
 have hx:∃l',arK cf l l':=by
  let le: {x // Q x}-> {x // Q x}->Bool:=λx y=> !decide (cf y.1 x.1 < 0)
  refine⟨((l.attachWith Q hQ).mergeSort le).map (·.1),?_,?_⟩
  ·have h1:=(List.mergeSort_perm (l.attachWith Q hQ) le).map (·.1);rwa[List.attachWith_map_subtype_val]at h1
  ·have h2:=List.pairwise_mergeSort (le:=le) (λa b c h1 h2=>by
    simp only[le,ct,gM]at*;exact h.ntrans _ _ _ c.2 b.2 a.2 h2 h1) (λa b=>by
    simp only[le,iq,ct,gM];by_cases h1:cf b.1 a.1 < 0
    ·exact .inr λh2=>h.irrefl _ a.2 (h.trans _ _ _ a.2 b.2 a.2 h2 h1)
    ·exact .inl h1) (l.attachWith Q hQ)
   rw[List.pairwise_map];exact h2.imp λ {a b} h3=>by simpa[le]using h3
 unfold Ha;rw[xq hx];exact hx.choose_spec
theorem Vw(h:aEk P t g Q cf){l l':List t.den}(hQ:∀x∈l,Q x)(hT:∀x∈l,∀y∈l,¬cf x y < 0->¬cf y x < 0->x=y)(hs:arK cf l l'):l'=Ha cf l:=by have h2:=ab2 h hQ;exact List.Perm.eq_of_pairwise (λa b ha hb h3 h4=>hT a (hs.1.mem_iff.1 ha) b (h2.1.mem_iff.1 hb) h4 h3) hs.2 h2.2 (hs.1.trans h2.1.symm)
def MJ(g:fR)(e:TypeId)(t:Ty):Nat×List t.den->List aD×List dR:=λd=>([.b8 (.bG 0) 0 [] 0 0 d.1,.fn g .nil],[.obj 0 aR (.vec e t d.2)])
def Vv(Q:t.den->Prop)(cf:t.den->t.den->Int):Nat×List t.den->Prop:=λd=>d.1=d.2.length/\d.2.length < 4611686018427387904/\(∀x∈d.2,Q x)/\∀x∈d.2,∀y∈d.2,¬cf x y < 0->¬cf y x < 0->x=y
def aD3(e:TypeId)(t:Ty):Nat×List t.den->im:=λx=>⟨.nil,[.obj 0 aR (.vec e t x.2)],[]⟩
def aAK(g:fR)(e:TypeId)(t:Ty)(Q:t.den->Prop)(cf:t.den->t.den->Int):Entry:=Entry.of [aJ,aJ] (MJ g e t) (Vv Q cf) (λd=>(d.1,Ha cf d.2)) (aD3 e t)
theorem aAM{g:fR}{e:TypeId}{t:Ty}(d d':Nat×List t.den)(h:MJ g e t d=MJ g e t d'):d=d':=by obtain⟨n,l⟩:=d;obtain⟨n',l'⟩:=d';simp only[MJ,cM,cz,aD.b8.injEq,dR.obj.injEq,zP,eG]at h;obtain⟨rfl,h2⟩:=h;rw[aA1 h2]
def ab1(g:fR)(e:TypeId)(t:Ty)(Q:t.den->Prop)(cf:t.den->t.den->Int):Nat×List t.den->Option (Nat×List t.den):=λd=>(aAK g e t Q cf).run (MJ g e t d).1 (MJ g e t d).2
theorem amK{g:fR}{e:TypeId}{t:Ty}{Q:t.den->Prop}{cf:t.den->t.den->Int}{d:Nat×List t.den}(h:Vv Q cf d):ab1 g e t Q cf d=al (d.1,Ha cf d.2):=Entry.ru aAM h
theorem Km{R:List Value->t.den->Prop}:∀ {cs:List Value} {l:List t.den},bo R cs l->(∀x∈l,Q x)->∃ps:List {p:List Value×t.den // R p.1 p.2/\Q p.2},ps.map (·.1.2)=l/\(ps.map (·.1.1)).flatten=cs
 |cs,[],h,_=>⟨[],rfl,by have h:cs=[]:=h;rw[h];rfl⟩
 |cs,x::l,⟨c,cs',h1,h2,h3⟩,hq=>by
  obtain⟨ps,h4,h5⟩:=Km h3 λy hy=>hq y (aK _ hy)
  exact⟨⟨(c,x),h2,hq x (aL ..)⟩::ps,by simp[h4],by simp[h5,h1]⟩
theorem LJ{R R':List Value->t.den->Prop}(hR:∀c x,R c x->R' c x):∀ps:List {p:List Value×t.den // R p.1 p.2/\Q p.2},bo R' (ps.map (·.1.1)).flatten (ps.map (·.1.2))
 |[]=>rfl
 |p::ps=>⟨p.1.1,(ps.map (·.1.1)).flatten,by simp,hR _ _ p.2.1,LJ hR ps⟩
theorem aem{α:Type} [Inhabited α] (enc:α->List Value) {k:Nat} (hk:∀x,(enc x).length=k):∀(ps:List α) (j:Nat),j < ps.length*k->((ps.map enc).flatten)[j]? =(enc (ps.toArray[j / k]!))[j%k]?
 |[],j,h=>by simp at h
 |p::ps,j,h=>by
  have k0:0 < k:=by
   rcases iO k with h0 | h0
   ·subst h0;simp at h
   ·exact h0
  simp only[cn,jh];by_cases hj:j < k
  ·rw[fB (by rw[hk];exact hj),Nat.div_eq_of_lt hj,jV hj];rfl
  ·have e1:j / k=(j - k) / k+1:=by rw[Nat.div_eq_sub_div k0 au]
   have e2:j%k=(j - k)%k:=by rw[Nat.mod_eq_sub_mod au]
   rw[List.getElem?_append_right (by rw[hk];omega),hk,aem enc hk ps (j - k) (by simp only[aH,eO,ir]at h;omega),e1,e2];congr 2;simp
theorem IY{α:Type} [Inhabited α] (enc:α->List Value) {k:Nat} (hk:∀x,(enc x).length=k) (d:Array α):(Go.Sort.flatK enc k d).toList=(d.toList.map enc).flatten:=by
 have hl:((d.toList.map enc).flatten).length=d.size*k:=by
  rw[List.length_flatten,List.map_map];have:(d.toList.map (ag∘enc))=ai d.size k:=by rw[List.eq_replicate_iff];exact⟨by simp,λx hx=>by obtain⟨y,_,rfl⟩:=dO.1 hx;exact hk y⟩
  rw[this,List.sum_replicate_nat]
 apply kH;intro j;by_cases hj:j < d.size*k
 ·rw[aem enc hk d.toList j (by simpa using hj)];have h2:(Go.Sort.flatK enc k d).toList[j]? =al ((Go.Sort.flatK enc k d)[j]!):=by rw[iH,kR _ j (by rw[Go.Sort.size_flatK];exact hj)];simp[hj]
  rw[h2,Go.Sort.get_flatK _ _ _ _ hj];have aFB:0 < k:=by
   rcases iO k with h0 | h0
   ·subst h0;simp at hj
   ·exact h0
  have hm:j%k < k:=Nat.mod_lt _ aFB;simp only[Array.toArray_toList];rw[bQ (by rw[hk];exact hm),kR _ _ (by rw[hk];exact hm)]
 ·rw[dP (by simpa using hj),dP (by rw[hl];omega)]
theorem awq{F cur:Array Value}(h:F.size<=cur.size):(Go.Sort.putCells id 0 F cur).toList=F.toList++cur.toList.drop F.size:=by
 apply kH;intro j;simp only[Go.Sort.putCells,iH,Array.getElem?_mapIdx,aP,zP,ba,Nat.sub_zero,id];by_cases hj:j < F.size
 ·rw[fB (by simpa using hj),iH,fA hj,fA au,eo,if_pos hj,kR F j hj]
 ·rw[List.getElem?_append_right (by simpa using hj),fD,iH,cS,show F.size+(j - F.size)=j by omega];cases cur[j]? with
  |none=>rfl
  |some y=>rw[eo,if_neg hj]
end
section
open Go.Proofs Go.Shelf Go.Lib Go.Sort
variable {P:aN} {ρ:Go.Shelf.Ren} {t:Ty} {g:fR} {Q:t.den->Prop} {cf:t.den->t.den->Int}
theorem Vy{α:Type} [Inhabited α] (enc:α->List Value) (k:Nat) (w:bU) (wZ m:Nat) (dk:Array α) (os:Array Obj) {b:Nat} (hb:b < w.heap.size) (gJ:b≠wZ):(sortWorldK enc k w wZ 0 m dk os).heap[b]? =w.heap[b]? :=by
 show((w.heap.modify wZ _)++os)[b]? =_
 rw[kf,if_pos (by simpa using hb),gw,if_neg (λe=>gJ e.symm)]
theorem aAP{α:Type} [Inhabited α] (enc:α->List Value) (k:Nat) (w:bU) (wZ m:Nat) (dk:Array α) (os:Array Obj) {cur:Array Value} {e:TypeId} {fr:Nat×Nat} (hb:w.heap[wZ]? =al (.cells cur e fr)):
  (sortWorldK enc k w wZ 0 m dk os).heap[wZ]? =al (.cells (putCells id 0 (flatK enc k dk) cur) e fr):=by
 have jb:wZ < w.heap.size:=(bN.1 hb).1;show((w.heap.modify wZ _)++os)[wZ]? =_
 rw[kf,if_pos (by simpa using jb),gw,if_pos rfl,hb];rfl
set_option maxHeartbeats 1000000 in
theorem aw5(L:SlLaysF0.n6 P ρ){e:TypeId}(ha:t.agg=aT)(aE:∀w,(isAgg (ρ.t 24)).run P w= .ok aT w)(zE:∀w,(Go.sizeOf (ρ.t 24)).run P w= .ok t.size w)(hc:aEk P t g Q cf):
  qU P (ρ.f 6) (aAK g e t Q cf):=by
 intro w γ β args cj jf x hv ho hx;obtain⟨d0,aGU,aFQ⟩:∃d,MJ g e t d=(args,cj)/\Vv Q cf d:=by
  by_cases hh:∃d,MJ g e t d=(args,cj)/\Vv Q cf d
  ·exact hh
  ·exfalso;have hn:(aAK g e t Q cf).run args cj=aJ:=Ai hh;rw[hn]at hx;cases hx
 have hr:=amK (g:=g) (e:=e) aFQ;unfold ab1 at hr;rw[aGU]at hr;obtain rfl:x=(d0.1,Ha cf d0.2):=aO (hx.symm.trans hr);obtain⟨n,l⟩:=d0;simp only[MJ,cM]at aGU;obtain⟨rfl,rfl⟩:=aGU;obtain⟨hn,rM,hQ,hT⟩:=aFQ;have hn:n=l.length:=hn;subst hn
 match jf,hv with
 |[y1,y2],⟨axS,M7,_⟩=>
 obtain⟨vs,rfl,Pz⟩:=SM M7;have Pz:vs=[]:=by simpa only[VC]using Pz
 subst Pz;have h1:=axS.single rfl rfl;simp only[V]at h1;obtain⟨a,cap,h1,KY,pY,_,fH⟩:=h1;have h1:y1= .slice a l.length cap:=by simpa using h1
 subst h1;have cO:(fT [dR.obj 0 aR (.vec e t l)]).bS (.bG 0)=al (.obj 0 aR (.vec e t l)):=rfl;obtain⟨hz,hO⟩:aCa ((fT [dR.obj 0 aR (.vec e t l)]).env w γ β) (.bG 0) aR e t l:=ho (.bG 0) 0 aR _ cO;have fH:=fH ⟨aR,_,cO⟩;refine .inl ⟨L.f6.enters rfl _ _,?_⟩;have aKE:∀v:Value,v= .tuple #[]->VS ((im.st ⟨.nil,[.obj 0 aR (.vec e t (Ha cf l))],[]⟩).env w γ β) .nil v:=λv hv=>by rw[hv];exact rfl
 have hS:=ab2 hc hQ;by_cases hl:l=[]
 ·subst hl;have hs:Ha cf ([]:List t.den)=[]:=bw hS.1.length_eq;refine(AnyF.slices_SortFunc_none L a cap _ w).mono λe' w' he=> ?_
  obtain⟨rfl,rfl⟩:=he;refine⟨_,rfl,?_⟩;show sw _ (⟨.nil,[.obj 0 aR (.vec e t (Ha cf []))],[]⟩:im) _ _;rw[hs];exact sw.same rfl ho
 ·have sh:0 < l.length:=List.length_pos_iff.2 hl
  change (match β (.bG 0) with | none=>l=[] | some pl=>∃cur k,w.heap[pl.b]? =al (.cells cur e (0,0))/\cur.size=pl.cap*t.size/\l.length<=pl.cap/\pl.cap<=maxLen/\γ pl.b= .own (.id (.bG 0)) k/\
   k<=l.length*t.size/\(aR=aR->k=0)/\bo (cI ((fT [dR.obj 0 aR (.vec e t l)]).env w γ β) t) (cur.toList.take (l.length*t.size)) l) at hO
  change (match β (.bG 0) with | some pl=>(0 < l.length\/True->a=al ⟨pl.b,0,aJ⟩)/\(True->True->cap=pl.cap) | none=>a=aJ/\l.length=0/\cap=0) at fH;cases hβ:β (.bG 0) with
  |none=>rw[hβ]at hO;exact absurd hO hl
  |some pl=>
  rw[hβ]at hO fH;obtain⟨cur,k0,q1,q2,q3,q4,q5,_,q7,q8⟩:=hO;obtain rfl:=q7 rfl;obtain rfl:=fH.1 (.inl sh);have hblk:pl.b < w.heap.size:=(bN.1 q1).1;obtain⟨R,hR⟩:∃R:List Value->t.den->Prop,R=cI ((fT [dR.obj 0 aR (.vec e t l)]).env w γ β) t:=⟨_,rfl⟩;have hRm:∀c x,R c x->cI ((fT [dR.obj 0 aR (.vec e t l)]).env w γ β) t c x:=by rw[hR];exact λ_ _ h=>h
  rw[<-hR]at q8;obtain⟨ps,p1,p2⟩:=Km (Q:=Q) q8 hQ;have aFR:ps.length=l.length:=by rw[<-p1,cF]
  let α:= {p:List Value×t.den // R p.1 p.2/\Q p.2}
  have:0 < ps.length:=au
  letI:Inhabited α:=⟨ps[0]⟩
  let enc:α->List Value:=λp=>p.1.1
  let cf':α->α->Int:=λp q=>cf p.1.2 q.1.2
  have hk:∀x,(enc x).length=t.size:=λx=>(hRm _ _ x.2.1).size
  have hO:SWO (ltOf cf'):=⟨λx=>by simpa[ltOf,cf']using hc.irrefl _ x.2.2,λx y z h1 h2=>by
   simp only[ltOf,aW,cf']at*;exact hc.trans _ _ _ x.2.2 y.2.2 z.2.2 h1 h2,λx y z h1 h2=>by
   simp only[ltOf,gM,cf']at*;exact hc.ntrans _ _ _ x.2.2 y.2.2 z.2.2 h1 h2⟩
  have BZ:∀j,j < l.length*t.size->cur[j]? =((ps.map enc).flatten)[j]? :=λj hj=>by have:(ps.map enc).flatten=cur.toList.take (l.length*t.size):=p2;rw[this,db,if_pos hj,iH]
  have hH:HoldsK enc t.size w pl.b 0 ps.toArray:=λj hj=>by
   rw[size_flatK]at hj;have hj:j < ps.length*t.size:=by simpa using hj
   have h2:=BZ j (by rw[<-aFR];exact hj);have h3:((flatK enc t.size ps.toArray).toList)[j]? =((ps.map enc).flatten)[j]? :=by rw[IY enc hk]
   rw[iH,fA (by rw[size_flatK];simpa using hj)]at h3;refine⟨?_,?_⟩
   ·show(match w.heap[pl.b]? with | some (.cells c _ _)=>if(aJ:Option _).isSome then aJ else c[0+j]? | _=>aJ)=_;rw[q1];simp only[qX,bW,cK,ba];rw[h2,<-h3,kR _ j (by rw[size_flatK];simpa using hj)];rfl
   ·show(match w.heap[pl.b]? with | some (.cells _ _ (lo,hi))=>decide (lo<=0+j) && decide (0+j < hi) | _=>aR)=aR;rw[q1];simp
  have sS:∀(m:Nat) (dk:Array α) (os:Array Obj),sC ((fT [dR.obj 0 aR (.vec e t l)]).env w γ β) ((fT []).env (sortWorldK enc t.size w pl.b 0 m dk os) (λ_=> .free) (λ_=>aJ)):=λm dk os=>by
   refine⟨λb off v hh=>⟨?_,trivial⟩,λb ob hf kk=>⟨rfl,?_⟩⟩
   ·obtain⟨h1,h2⟩:=hh;have hb:b < w.heap.size:=World.block_lt_of_cell? _ _ h1;have gJ:b≠pl.b:=λe=>by have h2:so γ b off:=h2;unfold so at h2;rw[e,q5]at h2;exact Nat.not_lt_zero _ h2
    have h1:w.cell? ⟨b,off,aJ⟩=al v:=h1;show(sortWorldK enc t.size w pl.b 0 m dk os).cell? ⟨b,off,aJ⟩=al v;simpa only[eP,Vy enc t.size w pl.b m dk os hb gJ]using h1
   ·have kk:w.heap[b]? =al ob:=kk
    have hb:b < w.heap.size:=(bN.1 kk).1;have gJ:b≠pl.b:=λe=>by have hf:γ b= .free:=hf;rw[e,q5]at hf;cases hf
    exact(Vy enc t.size w pl.b m dk os hb gJ).trans kk
  have aHV:CmpLays P g #[] enc t.size cf' pl.b 0 ps.toArray.size w:=λm os dk _ p q=>
   hc.aFa ha ((hRm _ _ p.2.1).mono (sS m dk os)) ((hRm _ _ q.2.1).mono (sS m dk os)) p.2.2 q.2.2
  have aFq:=AnyQ.slices_SortFunc L t.size aE zE enc hk (λp=>(hRm _ _ p.2.1).one) cf' hO g #[] pl.b 0 cap ps.toArray w hc.enters aHV hH hblk (by simpa[aFR]using rM);rw[show ps.toArray.size=l.length by simpa using aFR]at aFq;refine aFq.mono λe' w' he=> ?_
  obtain⟨rfl,d',m,os,hp,hs,rfl⟩:=he;refine⟨_,rfl,?_⟩;obtain⟨s1,_,s2⟩:=hp;have hd:d'.size=l.length:=by rw[s1];simpa using aFR
  have aeC:d'.toList.Perm ps:=by
   have e1:(d'.extract 0 l.length)=d':=by rw[<-hd];simp
   have e2:(ps.toArray.extract 0 l.length)=ps.toArray:=by rw[<-aFR];simp
   rw[e1,e2]at s2;exact s2
  have hl':arK cf l (d'.toList.map (·.1.2)):=by refine⟨by rw[<-p1];exact aeC.map _,?_⟩;rw[List.pairwise_map,List.pairwise_iff_getElem];intro i j hi hj aG2;have:=hs i j (aP _) aG2 (by rw[<-hd];simpa using hj);rw[kR d' i (by simpa using hi),kR d' j (by simpa using hj)]at this;simpa[ltOf,cf']using this
  have heq:=Vw hc hQ hT hl';show sw _ (⟨.nil,[.obj 0 aR (.vec e t (Ha cf l))],[]⟩:im) _ _;rw[<-heq];have kS:=aAP enc t.size w pl.b m d' os q1;have hFs:(flatK enc t.size d').size<=cur.size:=by rw[size_flatK,hd,q2];exact c9 _ q3
  have G4:∀b,b < w.heap.size->b≠pl.b->(sortWorldK enc t.size w pl.b 0 m d' os).heap[b]? =w.heap[b]? :=λb hb gJ=>Vy enc t.size w pl.b m d' os hb gJ
  have aud:w.heap.size<=(sortWorldK enc t.size w pl.b 0 m d' os).heap.size:=size_sortWorldK_c enc t.size w pl.b 0 m d' os;have hw:(sortWorldK enc t.size w pl.b 0 m d' os).os=w.os/\(sortWorldK enc t.size w pl.b 0 m d' os).tape=w.tape/\((sortWorldK enc t.size w pl.b 0 m d' os).output=w.output/\w.drawn<=(sortWorldK enc t.size w pl.b 0 m d' os).drawn):=⟨rfl,rfl,rfl,Nat.le_add_right _ _⟩;generalize sortWorldK enc t.size w pl.b 0 m d' os=w' at kS G4 aud hw;have ht:Trans w w' γ γ:=by
   refine⟨hw.1,hw.2.1,hw.2.2,aud,λb hb=> ?_⟩;by_cases aHP:b=pl.b
   ·subst aHP;rw[q5];exact⟨.inr ⟨_,0,rfl,aF _⟩,λ_ _ hh=>au⟩
   ·rw[G4 b hb aHP];cases QR:γ b with
    |free=>exact⟨rfl,rfl⟩
    |own o' k=>cases o' with
     |eM=>exact⟨rfl,rfl⟩
     |id i'=>exact⟨.inr ⟨i',k,rfl,aF _⟩,λoff v _ hv=>by simpa only[eP,G4 b hb aHP]using hv⟩
  have hle:cU ((fT [dR.obj 0 aR (.vec e t l)]).env w γ β) ((im.st ⟨.nil,[.obj 0 aR (.vec e t (d'.toList.map (·.1.2)))],[]⟩).env w' γ β):=by
   have e0:∀id,(∃c,(fT [dR.obj 0 aR (.vec e t l)]).bS id=al (.obj 0 aR c)/\id= .bG 0)\/((fT [dR.obj 0 aR (.vec e t l)]).bS id=aJ/\(im.st ⟨.nil,[.obj 0 aR (.vec e t (d'.toList.map (·.1.2)))],[]⟩).bS id=aJ):=λid=>by
    cases id with
    |bG k=>cases k with
     |zero=>exact .inl ⟨_,rfl,rfl⟩
     |succ k=>exact .inr ⟨rfl,rfl⟩
    |new i j=>refine .inr ⟨?_,?_⟩ <;> cases i <;> rfl
   refine⟨Trans.mem (E:=(fT [dR.obj 0 aR (.vec e t l)]).env w γ β) (E':=(im.st ⟨.nil,[.obj 0 aR (.vec e t (d'.toList.map (·.1.2)))],[]⟩).env w' γ β) ht,λid ver hb=> ?_,λid ver hb aKk=> ?_⟩
   ·rcases e0 id with⟨c,_,rfl⟩ | ⟨h1,_⟩
    ·refine⟨by show(al _:Option dR)≠aJ;simp,λv fr c h=> ?_⟩;have h:al (dR.obj 0 aR (.vec e t (d'.toList.map (·.1.2))))=al (.obj v fr c):=h;simp only[az,dR.obj.injEq]at h;have:=hb.2 0 aR _ rfl;omega
    ·exact absurd h1 hb.1
   ·rcases e0 id with⟨c,_,rfl⟩ | ⟨h1,_⟩
    ·obtain⟨fr,c,h⟩:=aKk;have h:al (dR.obj 0 aR (.vec e t (d'.toList.map (·.1.2))))=al (.obj ver fr c):=h;simp only[az,dR.obj.injEq]at h;obtain⟨rfl,rfl,_⟩:=h;exact⟨⟨aR,_,rfl⟩,rfl⟩
    ·exact absurd h1 hb.1
  refine⟨γ,β,rfl,λid ver fr c h=> ?_,ht,hle⟩;have dg:id= .bG 0/\ver=0/\fr=aR/\c= .vec e t (d'.toList.map (·.1.2)):=by
   cases id with
   |bG k=>cases k with
    |zero=>
     have h:al (dR.obj 0 aR (.vec e t (d'.toList.map (·.1.2))))=al (.obj ver fr c):=h;simp only[az,dR.obj.injEq]at h;obtain⟨rfl,rfl,rfl⟩:=h;exact⟨rfl,rfl,rfl,rfl⟩
    |succ k=>cases h
   |new i j=>cases i <;> cases h
  obtain⟨rfl,rfl,rfl,rfl⟩:=dg;refine⟨hz,?_⟩;show(match β (.bG 0) with | none=>(d'.toList.map (·.1.2))=[] | some pl=>_);rw[hβ];have hlen:(d'.toList.map (λp:α=>p.1.2)).length=l.length:=by simpa using hd
  refine⟨_,0,kS,?_,by rw[hlen];exact q3,q4,q5,aP _,λ_=>rfl,?_⟩
  ·rw[<-q2];simp[putCells]
  ·have e3:(putCells id 0 (flatK enc t.size d') cur).toList.take ((d'.toList.map (λp:α=>p.1.2)).length*t.size)=(d'.toList.map enc).flatten:=by
    rw[awq hFs,IY enc hk,hlen];have e4:((d'.toList.map enc).flatten).length=l.length*t.size:=by rw[<-IY enc hk,cS,size_flatK,hd]
    rw[<-e4,List.take_left]
   rw[e3];exact LJ (Q:=Q) (λc x h=>(hRm c x h).mono hle.mem) d'.toList
end
end Go.Ab
namespace Go.Ab
open Go.Proofs
def G0(a b:cC):Int:=aDG [Sb a.1 b.1,Nt a.2.1 b.2.1]
def asx:(cC×cC)->Prop:=λ(a,b)=>a.1.length=32/\b.1.length=32
def asw:(cC×cC)->Int:=λ(a,b)=>G0 a b
def ahU:Fs Tryz.prog asx bF asw:=gg 29 Tryz.f29 (λ(a,b)=>([.d bP a,.d bP b],[])) (λx=>⟨.d ti x,[],[]⟩) [al bP,al bP] [ak0,azo,asX]
theorem ayq(a b)(k:K1 R):ahU.A (a,b) k=aq (ac2.call ((cut a.1 0 32),(cut b.1 0 32))) λx1=>aq (QW.call (a.2.1,b.2.1)) λx2=>aq (an2.call [x1,x2]) λx3=>k (ahU.out x3):=cT
theorem ayr:ahU.Ok:=by rintro⟨a,b⟩ ⟨ha,hb⟩;have ha:a.1.length=32:=ha;have hb:b.1.length=32:=hb;have c1:cut a.1 0 32=a.1:=fp ha;have c2:cut b.1 0 32=b.1:=fp hb;rw[ayq,c1,c2,ac3 (d:=(a.1,b.1)) trivial];simp only[ae,bF,ahu];rw[aul (d:=(a.2.1,b.2.1)) trivial];simp only[ae,bF,aiJ];rw[alg (d:=[Sb a.1 b.1,Nt a.2.1 b.2.1]) (by show 2<=_;decide)];simp only[ae,bF,asW,bF,asw,G0]
theorem asy:ahU.RS:=rE [.d bP,.d bP] ahU
def ays:=ahU.gm ayr
def lx:List Int->List Int->Int
 |x::xs,y::ys=>if x≠y then(if x < y then -1 else 1) else lx xs ys
 |_,_=>0
theorem alY:∀a,lx a a=0
 |[]=>rfl
 |x::a=>by simp[lx,alY a]
theorem aBJ:∀ {a b:List Int},a.length=b.length->lx a b=0->a=b
 |[],[],_,_=>rfl
 |[],_::_,h,_=>by simp at h
 |_::_,[],h,_=>by simp at h
 |x::a,y::b,h,h2=>by
  simp only[lx]at h2;split at h2
  ·split at h2 <;> omega
  ·rename_i e;have e:x=y:=au;rw[e,aBJ (by simpa using h) h2]
theorem TD:∀a b:List Int,lx b a= - lx a b
 |[],[]=>rfl
 |[],_::_=>rfl
 |_::_,[]=>rfl
 |x::a,y::b=>by
  simp only[lx];by_cases h:x=y
  ·rw[if_neg au,if_neg au,TD a b]
  ·rw[if_pos au,if_pos h];by_cases h2:x < y
   ·rw[if_neg au,if_pos h2];rfl
   ·rw[if_pos au,if_neg h2]
theorem TE:∀ {a b c:List Int},a.length=b.length->b.length=c.length->lx a b<=0->lx b c<=0->lx a c<=0/\(lx a c=0->lx a b=0/\lx b c=0)
 |[],[],[],_,_,_,_=>by simp[lx]
 |x::a,y::b,z::c,h1,h2,h3,h4=>by
  have ih:=TE (a:=a) (b:=b) (c:=c) (by simpa using h1) (by simpa using h2);simp only[lx]at h3 h4 ⊢;by_cases e1:x=y
  ·by_cases e2:y=z
   ·rw[if_neg au]at h3 h4;rw[if_neg au,if_neg au,if_neg au];exact ih h3 h4
   ·rw[if_neg au]at h3;rw[if_pos e2]at h4;rw[if_pos au];by_cases e3:y < z
    ·rw[if_pos au];exact⟨au,λh=>au⟩
    ·rw[if_neg e3]at h4;omega
  ·rw[if_pos e1]at h3;by_cases e3:x < y
   ·by_cases e2:y=z
    ·rw[if_pos au,if_pos au];exact⟨au,λh=>au⟩
    ·rw[if_pos e2]at h4;by_cases e4:y < z
     ·rw[if_pos au,if_pos au];exact⟨au,λh=>au⟩
     ·rw[if_neg e4]at h4;omega
   ·rw[if_neg e3]at h3;omega
 |[],_::_,_,h,_,_,_=>by simp at h
 |_::_,[],_,h,_,_,_=>by simp at h
 |_,[],_::_,_,h,_,_=>by simp at h
 |_,_::_,[],_,h,_,_=>by simp at h
def aHi(a b:Int):Int:=if a=0 then b else a
theorem aa5{p:Int}{a b:List Int}:lx (p::a) (p::b)=lx a b:=by simp[lx]
theorem NX{p q:Int}{a b:List Int}(h:¬p=q):lx (p::a) (q::b)=if p < q then -1 else 1:=by simp[lx,h]
theorem alX:∀ {a b:List Int} (x y:Int),a.length=b.length->lx (a++ [x]) (b++ [y])=aHi (lx a b) (Nt x y)
 |[],[],x,y,_=>by
  show lx [x] [y]=aHi 0 (Nt x y);simp only[aHi,da];unfold Nt;by_cases h:x=y
  ·subst h;rw[aa5,if_neg au,if_neg au];rfl
  ·rw[NX h];by_cases h2:x < y
   ·rw[if_pos h2,if_pos h2]
   ·rw[if_neg h2,if_neg h2,if_pos au]
 |[],_::_,_,_,h=>by simp at h
 |_::_,[],_,_,h=>by simp at h
 |p::a,q::b,x,y,h=>by
  show lx (p::(a++ [x])) (q::(b++ [y]))=_;by_cases h2:p=q
  ·subst h2;rw[aa5,aa5];exact alX x y (by simpa using h)
  ·rw[NX h2,NX h2];by_cases h3:p < q
   ·rw[if_pos h3];rfl
   ·rw[if_neg h3];rfl
def asT:List UInt8->List UInt8->Int
 |x::xs,y::ys=>if x !=y then(if x < y then -1 else 1) else asT xs ys
 |_,_=>0
theorem adD:∀(xs ys:List UInt8),xs.length=ys.length->(match(List.range xs.length).find? λi=>xs[i]! !=ys[i]! with | some i=>if xs[i]! < ys[i]! then(-1:Int) else 1 | none=>0)=asT xs ys
 |[],[],_=>rfl
 |[],_::_,h=>by simp at h
 |_::_,[],h=>by simp at h
 |x::xs,y::ys,h=>by
  have ih:=adD xs ys (by simpa using h);rw[aH,List.range_succ_eq_map,List.find?_cons];simp only[List.getElem!_cons_zero,asT];cases hb:(x !=y) with
  |true=>simp
  |false=>
   simp only[bW,cK];rw[List.find?_map,<-ih];have e:((λi=>(x::xs)[i]! !=(y::ys)[i]!)∘Nat.succ)=λi=>xs[i]! !=ys[i]! :=by funext i;simp
   rw[e];cases(List.range xs.length).find? λi=>xs[i]! !=ys[i]! <;> simp
theorem alf:∀ {a b:List Int},(∀x∈a,0<=x/\x < 256)->(∀x∈b,0<=x/\x < 256)->asT (a.map λn=>fy n.toNat) (b.map λn=>fy n.toNat)=lx a b
 |[],_,_,_=>by cases ‹List Int› <;> rfl
 |_::_,[],_,_=>rfl
 |x::a,y::b,ha,hb=>by
  have hx:=ha x (aL ..);have hy:=hb y (aL ..);have ih:=alf (a:=a) (b:=b) (λz hz=>ha z (aK _ hz)) (λz hz=>hb z (aK _ hz));simp only[cn,asT,lx,ih];have e1:(fy x.toNat).toNat=x.toNat:=by simp[UInt8.toNat_ofNat];omega
  have e2:(fy y.toNat).toNat=y.toNat:=by simp[UInt8.toNat_ofNat];omega
  by_cases h:x=y
  ·subst h;simp
  ·have gJ:(fy x.toNat !=fy y.toNat)=aT:=by rw[bne_iff_ne];intro e;have:=bE UInt8.toNat e;rw[e1,e2]at this;omega
   rw[gJ,if_pos rfl,if_pos h];have jb:fy x.toNat < fy y.toNat↔x < y:=by rw[UInt8.lt_iff_toNat_lt,e1,e2];omega
   by_cases h2:x < y
   ·rw[if_pos (jb.2 h2),if_pos h2]
   ·rw[if_neg (λe=>h2 (jb.1 e)),if_neg h2]
theorem ayB{a b:List Int}(hl:a.length=b.length)(ha:∀x∈a,0<=x/\x < 256)(hb:∀x∈b,0<=x/\x < 256):Sb a b=lx a b:=by
 rw[<-alf ha hb,<-adD _ _ (by simpa using hl)];unfold Sb Extern.BytealgCompare.cmp;have s1:∀l:List Int,(fF l).size=l.length:=λl=>by simp[fF,ByteArray.size]
 have g1:∀(l:List Int) (i:Nat),(fF l)[i]! =(l.map λn=>fy n.toNat)[i]! :=λl i=>by
  by_cases h:i < (fF l).size
  ·rw[kR _ i h];have h2:i < (l.map λn=>fy n.toNat).length:=by simpa[fF,ByteArray.size]using h
   rw[kR _ i h2];rfl
  ·rw[getElem!_neg _ i h];have h2:¬i < (l.map λn=>fy n.toNat).length:=by simpa[fF,ByteArray.size]using h
   rw[getElem!_neg _ i h2]
 simp only[s1,g1,hl,Nat.min_self,cF];cases(List.range b.length).find? λi=>(a.map λn=>fy n.toNat)[i]! !=(b.map λn=>fy n.toNat)[i]! <;> simp
def acC(o:cC):Prop:=o.1.length=32/\∀x∈o.1,0<=x/\x < 256
def zq(o:cC):List Int:=o.1++ [o.2.1]
theorem qt{o:cC}(h:acC o):(zq o).length=33:=by simp[zq,h.1]
theorem avm{a b:cC}(ha:acC a)(hb:acC b)(h:zq a=zq b):a=b:=by obtain⟨a1,a2,_⟩:=a;obtain⟨b1,b2,_⟩:=b;have h:a1++ [a2]=b1++ [b2]:=h;have:=List.append_inj' h rfl;rw[this.1,show a2=b2 by simpa using this.2]
theorem w6{a b:cC}(ha:acC a)(hb:acC b):G0 a b=lx (zq a) (zq b):=by
 unfold zq G0;rw[alX _ _ (ha.1.trans hb.1.symm),ayB (ha.1.trans hb.1.symm) ha.2 hb.2];simp only[aDG,aHi];by_cases h:lx a.1 b.1=0
 ·rw[if_pos h,if_neg (λe=>e h)];split
  ·rfl
  ·omega
 ·rw[if_neg h,if_pos h]
theorem Kq:aEk Tryz.prog bP 29 acC G0:= {
 bS:=⟨ahU.E,ays.h.1 (by rfl),λx y hx hy=>⟨_,asy (d:=(x,y)) ⟨hx.1,hy.1⟩,rfl⟩⟩
 enters:=enters_of Tryz.func29 cT rfl
 irrefl:=λx hx=>by rw[w6 hx hx,alY];decide
 trans:=λx y z hx hy hz h1 h2=>by
  rw[w6 hx hy]at h1;rw[w6 hy hz]at h2;rw[w6 hx hz];have:=TE (by rw[qt hx,qt hy]) (by rw[qt hy,qt hz]) (by omega:lx (zq x) (zq y)<=0) (by omega:lx (zq y) (zq z)<=0);have h3:=this.1;by_cases h4:lx (zq x) (zq z)=0
  ·have:=(this.2 h4).1;omega
  ·omega
 ntrans:=λx y z hx hy hz h1 h2=>by
  rw[w6 hx hy]at h1;rw[w6 hy hz]at h2;rw[w6 hx hz];have e1:=TD (zq x) (zq y);have e2:=TD (zq y) (zq z);have e3:=TD (zq x) (zq z);have:=(TE (by rw[qt hz,qt hy]) (by rw[qt hy,qt hx]) (by omega:lx (zq z) (zq y)<=0) (by omega:lx (zq y) (zq x)<=0)).1;omega}
theorem Sc{x y:cC}(hx:acC x)(hy:acC y)(h1:¬G0 x y < 0)(h2:¬G0 y x < 0):x=y:=by rw[w6 hx hy]at h1;rw[w6 hy hx,TD]at h2;exact avm hx hy (aBJ (by rw[qt hx,qt hy]) au)
end Go.Ab
namespace Go.Proofs
open Go.Shelf
def Tryz.aki:Go.Shelf.Ren:=⟨λ | 6=>28 | 15=>66 | 14=>65 | 28=>108 | 29=>109 | 20=>100 | 21=>101 | 22=>102 | 23=>103 | 24=>104 | 25=>105 | 26=>106 | 27=>107 | 46=>139 | 47=>140 | 48=>141 | 49=>142 | 50=>143 | 57=>158 | n=>n,λ | 22=>26 | 24=>59 | 25=>80 | 3=>3 | 39=>131 | 0=>0 | 53=>179 | 55=>48 | 4=>4 | 46=>173 | 45=>172 | 50=>40 | 5=>5 | 9=>9 | 66=>210 | 70=>213 | 76=>228 | 77=>229 | n=>n,λ | n=>n⟩
theorem Tryz.aDY:Go.Proofs.SlLaysF0.n6 Tryz.prog Tryz.aki:= {
 mixed:=by kernel_rfl
 f6:=⟨Tryz.f28.name,by decide,Tryz.func28.trans (congrArg al (by kernel_rfl))⟩
 f14:=⟨Tryz.f65.name,by decide,Tryz.func65.trans (congrArg al (by kernel_rfl))⟩
 f15:=Tryz.func66.trans (congrArg al (by kernel_rfl))
 f20:=⟨Tryz.f100.name,by decide,Tryz.func100.trans (congrArg al (by kernel_rfl))⟩
 f21:=⟨Tryz.f101.name,by decide,Tryz.func101.trans (congrArg al (by kernel_rfl))⟩
 f22:=⟨Tryz.f102.name,by decide,Tryz.func102.trans (congrArg al (by kernel_rfl))⟩
 f23:=⟨Tryz.f103.name,by decide,Tryz.func103.trans (congrArg al (by kernel_rfl))⟩
 f24:=⟨Tryz.f104.name,by decide,Tryz.func104.trans (congrArg al (by kernel_rfl))⟩
 f25:=⟨Tryz.f105.name,by decide,Tryz.func105.trans (congrArg al (by kernel_rfl))⟩
 f26:=⟨Tryz.f106.name,by decide,Tryz.func106.trans (congrArg al (by kernel_rfl))⟩
 f27:=⟨Tryz.f107.name,by decide,Tryz.func107.trans (congrArg al (by kernel_rfl))⟩
 f28:=Tryz.func108.trans (congrArg al (by kernel_rfl))
 f29:=Tryz.func109.trans (congrArg al (by kernel_rfl))
 f46:=⟨Tryz.f139.name,by decide,Tryz.func139.trans (congrArg al (by kernel_rfl))⟩
 f47:=Tryz.func140.trans (congrArg al (by kernel_rfl))
 f48:=Tryz.func141.trans (congrArg al (by kernel_rfl))
 f49:=⟨Tryz.f142.name,by decide,Tryz.func142.trans (congrArg al (by kernel_rfl))⟩
 f50:=⟨Tryz.f143.name,by decide,Tryz.func143.trans (congrArg al (by kernel_rfl))⟩
 f57:=⟨Tryz.f158.name,by decide,Tryz.func158.trans (congrArg al (by kernel_rfl))⟩
 t0:=Tryz.underlying0
 a0:=Tryz.isAgg0
 z0:=Tryz.sizeOf0
 v0:=Tryz.zeroValue0
 t3:=Tryz.underlying3
 a3:=Tryz.isAgg3
 z3:=Tryz.sizeOf3
 v3:=Tryz.zeroValue3
 t4:=Tryz.underlying4
 a4:=Tryz.isAgg4
 z4:=Tryz.sizeOf4
 v4:=Tryz.zeroValue4
 t5:=Tryz.underlying5
 a5:=Tryz.isAgg5
 z5:=Tryz.sizeOf5
 v5:=Tryz.zeroValue5
 t9:=Tryz.underlying9
 a9:=Tryz.isAgg9
 z9:=Tryz.sizeOf9
 v9:=Tryz.zeroValue9
 t22:=Tryz.underlying26
 a22:=Tryz.isAgg26
 z22:=Tryz.sizeOf26
 v22:=Tryz.zeroValue26
 t25:=Tryz.underlying80
 a25:=Tryz.isAgg80
 z25:=Tryz.sizeOf80
 v25:=Tryz.zeroValue80
 t39:=Tryz.underlying131
 a39:=Tryz.isAgg131
 z39:=Tryz.sizeOf131
 v39:=Tryz.zeroValue131
 t45:=Tryz.underlying172
 a45:=Tryz.isAgg172
 z45:=Tryz.sizeOf172
 v45:=Tryz.zeroValue172
 t46:=Tryz.underlying173
 a46:=Tryz.isAgg173
 z46:=Tryz.sizeOf173
 v46:=Tryz.zeroValue173
 t50:=Tryz.underlying40
 a50:=Tryz.isAgg40
 z50:=Tryz.sizeOf40
 v50:=Tryz.zeroValue40
 t53:=Tryz.underlying179
 a53:=Tryz.isAgg179
 z53:=Tryz.sizeOf179
 v53:=Tryz.zeroValue179
 t55:=Tryz.underlying48
 a55:=Tryz.isAgg48
 z55:=Tryz.sizeOf48
 v55:=Tryz.zeroValue48
 t66:=Tryz.underlying210
 a66:=Tryz.isAgg210
 z66:=Tryz.sizeOf210
 v66:=Tryz.zeroValue210
 t70:=Tryz.underlying213
 a70:=Tryz.isAgg213
 z70:=Tryz.sizeOf213
 v70:=Tryz.zeroValue213
 t76:=Tryz.underlying228
 a76:=Tryz.isAgg228
 z76:=Tryz.sizeOf228
 v76:=Tryz.zeroValue228
 t77:=Tryz.underlying229
 a77:=Tryz.isAgg229
 z77:=Tryz.sizeOf229
 v77:=Tryz.zeroValue229}
end Go.Proofs
namespace Go.Ab
open Go.Proofs
def aD2:Entry:=aAK 29 59 bP acC G0
def Zc:Nat×List cC->Option (Nat×List cC):=ab1 29 59 bP acC G0
theorem aw4{d:Nat×List cC}(h:Vv (t:=bP) acC G0 d):Zc d=al (d.1,Ha (t:=bP) G0 d.2):=amK h
def aAL:SG Tryz.prog:=⟨28,qD,aD2,.of (aw5 Tryz.aDY (by rfl) (λw=>Tryz.isAgg59 w) (λw=>Tryz.sizeOf59 w) Kq) (by rfl)⟩
theorem Av{β:Type}{kt:Ty}(hc:kt.comp=aT){x:kt.den}{v:β}:∀ {l:List (kt.den×β)},x ∉ l.map (·.1)->ff kt x v l=l++ [(x,v)]
 |[],_=>rfl
 |p::l,h=>by
  rw[zj];have h1:¬kt.beq x p.1=aT:=λe=>h (by rw[beq_eq kt _ _ hc e];simp)
  rw[if_neg h1,Av hc λe=>h (by simp[e])];rfl
theorem ju:bP.comp=aT:=rfl
def iI(l:List (cC×eU)):Int:=(l.map λp=>p.2.1.1).sum
theorem lV(p:cC×eU)(l:List (cC×eU)):iI (p::l)=p.2.1.1+iI l:=by simp[iI]
theorem acS(l l':List (cC×eU)):iI (l++l')=iI l+iI l':=by simp[iI]
theorem yC{l l':List (cC×eU)}(h:l.Perm l'):iI l=iI l':=by
 induction h with
 |nil=>rfl
 |cons x _ ih=>rw[lV,lV,ih]
 |swap x y l=>rw[lV,lV,lV,lV];omega
 |trans _ _ h1 h2=>rw[h1,h2]
theorem IQ{α:Type}{l:List α}{j:Nat}(h:j < l.length):l.Perm (l[j]::l.eraseIdx j):=by
 induction l generalizing j with
 |nil=>simp at h
 |cons x l ih=>
  cases j with
  |zero=>exact nV _
  |succ j=>
   have h:j < l.length:=by simpa using h
   simp only[List.getElem_cons_succ,List.eraseIdx_cons_succ];exact((ih h).cons x).trans (List.Perm.swap _ _ _)
theorem RA{kt vt:Ty}{l:List (kt.den×vt.den)}{j:Nat}(h:j < l.length):pH kt vt l j=l[j]:=by simp[pH,aI,bQ h]
theorem acT{l:List (cC×eU)}(h:∀p∈l,0<=p.2.1.1):0<=iI l:=by
 induction l with
 |nil=>simp[iI]
 |cons p l ih=>
  rw[lV];have:=h p (aL ..);have:=ih λq hq=>h q (aK _ hq)
  omega
abbrev yV:=Nat×Nat×(List (cC×eU))×(List cZ)×(List (cC×eU))×(List cC)
def rG:yV->AS:=λ(outL,o0L,ed,dm,n9,n17)=>⟨([cw,cw,cw,nR 17 outL]++bg 5 ([fI 9]++bg 11 [])),[dH (.pr (.cP (.bG 1) 0) (.pr (.b8 (.bG 2) 0 [] 0 0 o0L) kO)),.obj 0 aT (.mp bP eR ed),dH (.vec 139 cD dm)],(bK 9 ([dK (.qh (.bG 1) 1 bP eR n9 aJ)]++bK 7 [dK (.vec 59 bP n17),[],[],[]]))⟩
abbrev Ae:=(Nat×(List (cC×eU))×(List cZ))×(Nat×(List cC))
def w8:Ae->Exit×AS:=λ((a,b,c),d,e)=>(.exit 0,⟨([cw,cw,cw,nR 17 d]++bg 17 []),[dH (.pr (.cP (.bG 1) 0) (.pr (.b8 (.bG 2) 0 [] 0 0 a) kO)),dH (.mp bP eR b),dH (.vec 139 cD c)],(bK 17 [dK (.vec 59 bP e),[],[],[]])⟩)
def Kx:Ae->Out (Exit×AS):=λx=> .ok (w8 x)
def pt:yV->(Nat×(List cC))->Ae:=λ(outL,o0L,ed,dm,n9,n17) y=>((o0L,ed,dm),y)
abbrev alj:=Nat×(List (cC×eU))×(List cZ)
def sI:yV->Prop:=λ(n,_,_,_,rest,out)=>n=out.length/\out.length+rest.length<=1000000
def qm:yV->(Nat×(List cC))->Prop:=λ(_,_,_,_,rest,out) (m,out')=>m=out'.length/\out'.Perm (out++rest.map (·.1))
def an9:alj->Prop:=λ(_,a,_)=>a.length<=1000000/\∀p∈a,acC p.1
def ZV:alj->(Nat×Nat×(List (cC×eU))×(List cZ)×(List cC)):=λ(n,a,s)=>(a.length,n,a,s,Ha (t:=bP) G0 (a.map (·.1)))
def ah9:=ee.WJ rG sI pt qm Kx
def Ky:yV->Ae->Prop:=aGt rG sI pt qm
def vp:Fs Tryz.prog an9 bF ZV:=gg 9 Tryz.f9 (λ(o0baL,o1,o2)=>([.ptr (.bG 0) 0 [] 0],[.obj 0 aR (.pr (.cP (.bG 1) 0) (.pr (.b8 (.bG 2) 0 [] 0 0 o0baL) (.d .unit ()))),.obj 0 aR (.mp bP eR o1),.obj 0 aR (.vec 139 cD o2)])) (λx=>⟨.b8 (.new 0 0) 0 [] 0 0 x.1,[.obj 0 aR (.pr (.cP (.bG 1) 0) (.pr (.b8 (.bG 2) 0 [] 0 0 x.2.1) (.d .unit ()))),.obj 0 aR (.mp bP eR x.2.2.1),.obj 0 aR (.vec 139 cD x.2.2.2.1)],[.obj 0 aR (.vec 59 bP x.2.2.2.2)]⟩) [aJ] [aAL] {loops:=sk [(3,{bu:=[3,9],sites:=[9,17],owns:=[⟨3,[],17,26⟩],aDo:=[9]})],outs:=sj [(3,{bu:=[3],sites:=[17]},{bu:=[2]})],gV:=tK [(3,ah9)]}
def Si:= @fK Tryz.prog (mN vp.G) vp.an 0 Tryz.f9 0 _ rG
abbrev O9:=akQ Tryz.prog (mN vp.G) vp.an 0 Tryz.f9 0 rG sI pt qm Kx
theorem ZW:ax0 Ky sI pt qm:=aI1 (oE [.n,.n,.d (.slice (.pair bP eR)),.d (.slice cD),.d (.slice (.pair bP eR)),.d (.slice bP)] λ_=>cT)
theorem Kw:aBa @Si rG sI pt qm w8 O9:=aE1
theorem Hg(outL o0L ed dm n9 n17)(kn:K2 R)(kx:K3 R):Si (outL,o0L,ed,dm,n9,n17) kn kx=aS (decide (0 < (ag n9))) (acF (ag n9) λj1=>aS (decide (outL<=(ag n17))) (aS (ea (outL+1) 40) (kn (rG ((outL+1),o0L,ed,dm,(List.eraseIdx n9 j1),((bj outL n17)++ [(pH bP eR n9 j1).1])))) aJ) aJ) (kx (w8 ((o0L,ed,dm),(outL,n17))).1 (w8 ((o0L,ed,dm),(outL,n17))).2):=cT
theorem as8(o0baL o1 o2)(k:K1 R):vp.A (o0baL,o1,o2) k=QP (Ky (0,o0baL,o1,o2,o1,([]:List cC))) λx3=>aq (Zc (x3.2.1,x3.2.2)) λx4=>k (vp.out (x3.2.1,x3.1.1,x3.1.2.1,x3.1.2.2,x4.2)):=cT
theorem adS:O9:=by
 refine Kw (λ(n,_,_,_,rest,out)=>rest.length) ?_
 rintro⟨n,o,a,s,rest,out⟩ ⟨rfl,hl⟩;have hl:out.length+rest.length<=1000000:=hl;by_cases h:0 < rest.length
 ·left;refine⟨rest.length,λj=>(out.length+1,o,a,s,rest.eraseIdx j,out++ [(pH bP eR rest j).1]),h,λj hj=>⟨⟨by simp,?_⟩,?_,λy hy=>⟨y,?_,rfl⟩⟩,λkn kx=> ?_⟩
  ·show(out++ [_]).length+(rest.eraseIdx j).length<=1000000;rw[aj,kI,if_pos hj];simp only[aH,bB];omega
  ·show(rest.eraseIdx j).length < rest.length;rw[kI,if_pos hj];omega
  ·obtain⟨m,out'⟩:=y;obtain⟨h1,h2⟩:=hy;refine⟨h1,h2.trans ?_⟩;rw[RA hj,aM];refine List.Perm.append_left _ ?_
   have:=((IQ hj).map (·.1)).symm;exact this
  ·rw[Hg,bf h,ak];congr 1;funext j;rw[bf (aF _),ak,eW au au,ak,cJ]
 ·right;obtain rfl:rest=[]:=bw au;refine⟨(out.length,out),⟨rfl,by simp⟩,λkn kx=> ?_⟩;rw[Hg,bI h,ao];rfl
theorem Zd{l l':List cC}(h:l.Perm l')(hq:∀x∈l',acC x):Ha (t:=bP) G0 l=Ha (t:=bP) G0 l':=by
 have hq':∀x∈l,acC x:=λx hx=>hq x (h.mem_iff.1 hx)
 have h1:=ab2 Kq hq';exact Vw Kq hq (λx hx y hy a b=>Sc (hq x hx) (hq y hy) a b) ⟨h1.1.trans h,h1.2⟩
theorem as9:vp.Ok:=by
 rintro⟨n,a,s⟩ ⟨hl,hq⟩;have hl:a.length<=1000000:=hl;rw[as8];refine ZW (d:=(0,n,a,s,a,[])) ⟨rfl,by show 0+a.length<=_;omega⟩ ⟨(a.length,a.map (·.1)),by show a.length=(a.map (·.1)).length;simp,by simp⟩ λy hy=> ?_
 obtain⟨m,out⟩:=y;obtain⟨h1,hp⟩:=hy;have h1:m=out.length:=h1;subst h1;have hp:out.Perm (a.map (·.1)):=by simpa using hp
 have hq':∀x∈a.map (·.1),acC x:=λx hx=>by obtain⟨p,hp,rfl⟩:=dO.1 hx;exact hq p hp
 have hlen:out.length=a.length:=by rw[hp.length_eq,cF]
 simp only[pt];rw[aw4 (d:=(out.length,out)) ⟨rfl,by show out.length < _;omega,λx hx=>hq' x (hp.mem_iff.1 hx),λx hx y hy h1 h2=>Sc (hq' x (hp.mem_iff.1 hx)) (hq' y (hp.mem_iff.1 hy)) h1 h2⟩];simp only[ae,bF,ZV];rw[Zd hp hq',hlen]
theorem XX:vp.RS:=rE [.n,.d (.slice (.pair bP eR)),.d (.slice cD)] vp
def ata:=vp.gm as9 1 ⟨.WJ adS cT,trivial⟩
abbrev IH:=Int×Nat×(List (cC×eU))×(List cZ)×(List (cC×eU))
def xn:IH->Int->((Nat×(List (cC×eU))×(List cZ))×(Int)):=λ(sum,o0L,ed,dm,n10) y=>((o0L,ed,dm),y)
abbrev als:=Nat×(List (cC×eU))×(List cZ)
def aaa:IH->Prop:=λ(sum,_,_,_,rest)=>0<=sum/\(∀p∈rest,0<=p.2.1.1)/\sum+iI rest<=1000000000000000000
def CM:IH->Int:=λ(sum,_,_,_,rest)=>sum+iI rest
def aoe:als->Prop:=λ(_,a,_)=>(∀p∈a,0<=p.2.1.1)/\iI a<=1000000000000000000
def Z9:als->(Int×Nat×(List (cC×eU))×(List cZ)):=λ(n,a,s)=>(iI a,n,a,s)
def sM:Ls aaa xn CM:=xM (λ(sum,o0L,ed,dm,n10)=>⟨([cw,cw,cw,.d ti sum]++bg 6 ([fI 10]++bg 10 [])),[dH (.pr (.cP (.bG 1) 0) (.pr (.b8 (.bG 2) 0 [] 0 0 o0L) kO)),.obj 0 aT (.mp bP eR ed),dH (.vec 139 cD dm)],(bK 10 ([dK (.qh (.bG 1) 1 bP eR n10 aJ)]++bK 10 []))⟩) (λx=>(.exit 0,⟨([cw,cw,cw,.d ti x.2]++bg 17 []),[dH (.pr (.cP (.bG 1) 0) (.pr (.b8 (.bG 2) 0 [] 0 0 x.1.1) kO)),dH (.mp bP eR x.1.2.1),dH (.vec 139 cD x.1.2.2)],(ai 21 [])⟩))
def y4:Fs Tryz.prog aoe bF Z9:=gg 15 Tryz.f15 (λ(o0baL,o1,o2)=>([.ptr (.bG 0) 0 [] 0],[.obj 0 aR (.pr (.cP (.bG 1) 0) (.pr (.b8 (.bG 2) 0 [] 0 0 o0baL) (.d .unit ()))),.obj 0 aR (.mp bP eR o1),.obj 0 aR (.vec 139 cD o2)])) (λx=>⟨.d ti x.1,[.obj 0 aR (.pr (.cP (.bG 1) 0) (.pr (.b8 (.bG 2) 0 [] 0 0 x.2.1) (.d .unit ()))),.obj 0 aR (.mp bP eR x.2.2.1),.obj 0 aR (.vec 139 cD x.2.2.2)],[]⟩) [aJ] [] {loops:=sk [(3,{bu:=[3,10],sites:=[10],aDo:=[10]})],outs:=sj [(3,{bu:=[3]},{bu:=[2]})],gV:=tK [(3,sM.E)]}
theorem aab:sM.RS:=rL [.d ti,.n,.d (.slice (.pair bP eR)),.d (.slice cD),.d (.slice (.pair bP eR))] sM
theorem Hq(sum o0L ed dm n10)(kn:K2 R)(kx:K3 R):y4.R 0 sM (sum,o0L,ed,dm,n10) kn kx=aS (decide (0 < (ag n10))) (acF (ag n10) λj1=>kn (sM.st ((bV .i64 sum (pH bP eR n10 j1).2.1.1),o0L,ed,dm,(List.eraseIdx n10 j1)))) (sM.go kx ((o0L,ed,dm),sum)):=cT
theorem atj(o0baL o1 o2)(k:K1 R):y4.A (o0baL,o1,o2) k=aq (sM.call (0,o0baL,o1,o2,o1)) λx2=>k (y4.out (x2.2,x2.1.1,x2.1.2.1,x2.1.2.2)):=cT
theorem ad3:(y4.mw 0 sM):=by
 refine(y4.aGo 0 sM) (λ(_,_,_,_,rest)=>rest.length) ?_
 rintro⟨sum,o,a,s,rest⟩ ⟨h0,hn,hm⟩;have h0:0<=sum:=h0;have hm:sum+iI rest<=1000000000000000000:=hm;by_cases h:0 < rest.length
 ·left;have key:∀j,(hj:j < rest.length)->rest[j].2.1.1+iI (rest.eraseIdx j)=iI rest:=λj hj=>by rw[<-lV];exact yC (IQ hj).symm
  refine⟨rest.length,λj=>(bV .i64 sum (pH bP eR rest j).2.1.1,o,a,s,rest.eraseIdx j),h,λj hj=> ?_,λkn kx=> ?_⟩
  ·have hk:=key j hj;have hx:=hn _ (aX hj);have hr:∀p∈rest.eraseIdx j,0<=p.2.1.1:=λp hp=>hn p ((List.eraseIdx_sublist rest j).subset hp)
   have:=acT hr;have e1:bV .i64 sum (pH bP eR rest j).2.1.1=sum+rest[j].2.1.1:=by rw[RA hj];exact hZ au au
   refine⟨⟨?_,hr,?_⟩,?_,?_⟩
   ·show 0<=bV .i64 sum _;rw[e1];omega
   ·show bV .i64 sum _+iI (rest.eraseIdx j)<=_;rw[e1];omega
   ·show(rest.eraseIdx j).length < rest.length;rw[kI,if_pos hj];omega
   ·simp only[xn,CM,e1];rw[<-hk,Int.add_assoc]
  ·rw[Hq,bf h,ak]
 ·right;obtain rfl:rest=[]:=bw au;intro T kn kx;rw[Hq,bI h,ao];simp only[xn,CM,iI,iT,List.sum_nil,Int.add_zero]
theorem atk:y4.Ok:=by rintro⟨n,a,s⟩ ⟨hn,hm⟩;have hm:iI a<=_:=hm;rw[atj,aab (d:=(0,n,a,s,a)) ⟨fx _,hn,by show 0+iI a<=_;omega⟩];simp only[ae,xn,CM,bF,Z9,Int.zero_add]
theorem X0:y4.RS:=rE [.n,.d (.slice (.pair bP eR)),.d (.slice cD)] y4
def ad4:=y4.gm atk 1 ⟨.gQ ad3,trivial⟩
abbrev ZR:=Nat×(List cZ)
abbrev ale:=Nat×(List cZ)
def Ns:ZR->ale->(((List cZ))×(Nat×(List cZ))):=λ(sL,o0) y=>(o0,y)
def anY:ZR->Prop:=λ(n,l)=>n<=l.length/\l.length<=1000000
def ZS:ZR->ale:=λ(n,l)=>((l.take n).length,l.take n)
def Kp:Fs Tryz.prog anY Ns ZS:=gg 76 Tryz.f76 (λ(sL,o0)=>([.b8 (.bG 0) 0 [] 0 0 sL],[.obj 0 aR (.vec 139 cD o0)])) (λx=>⟨.b8 (.new 0 0) 0 [] 0 0 x.2.1,[.obj 0 aR (.vec 139 cD x.1)],[.obj 0 aR (.vec 139 cD x.2.2)]⟩) [aJ] [] {bM:=[5],owns:=[⟨2,[],5,68⟩]}
theorem asQ(sL o0)(k:K1 R):Kp.A (sL,o0) k=aS (decide (0 < sL)) (aS (decide (0=0/\(0+sL)<=(ag o0))) (aS (ea (0+(ag (cut o0 0 sL))) 48) (k (Kp.out (o0,((0+(ag (cut o0 0 sL))),((bj 0 (ai 0 (([]:List acK),(([]:List cC),()))))++(cut o0 0 sL)))))) aJ) aJ) (nd (k (Kp.out (o0,(0,([]:List cZ))))) (aS (decide (0=0/\(0+sL)<=(ag o0))) (aS (ea (0+(ag (cut o0 0 sL))) 48) (k (Kp.out (o0,((0+(ag (cut o0 0 sL))),((bj 0 (ai 0 (([]:List acK),(([]:List cC),()))))++(cut o0 0 sL)))))) aJ) aJ)):=cT
theorem asR:Kp.Ok:=by
 rintro⟨n,l⟩ ⟨h1,h2⟩;have h1:n<=l.length:=h1;have h2:l.length<=1000000:=h2;have ec:cut l 0 n=l.take n:=by simp[cut]
 have ht:(l.take n).length<=1000000:=by rw[cG];omega
 have hr:ea (l.take n).length 48=aT:=eW au au;rw[asQ];simp only[ba,ec,hr,ak,fk,aV,zP,bf h1,Ns,ZS];by_cases h:0 < n
 ·simp only[bf h,ak]
 ·have:n=0:=au;subst this;simp only[fk,bB,aP,cR,ak,Ax,bI (gC 0),ao]
theorem anZ:Kp.RS:=rE [.n,.d (.slice cD)] Kp
def asS:=Kp.aHk Zb asR
abbrev EI:=Nat×(List (cC×eU))×(List cZ)×(List (cC×eU))×(List cZ)×Nat×(List (cC×eU))
abbrev Pj:=(List (cC×eU))
def uE:EI->Pj->((Nat×(List (cC×eU))×(List cZ)×(List cZ)×Nat)×((List (cC×eU)))):=λ(o0L,ed,dm,n6,n11,ni,n18) y=>((o0L,ed,dm,n11,ni),y)
abbrev adY:=Nat×(List (cC×eU))×(List cZ)
def Ws:EI->Prop:=λ(_,_,_,m,_,_,rest)=>((m++rest).map (·.1)).Nodup
def Ah:EI->Pj:=λ(_,_,_,m,_,_,rest)=>eH (m++rest)
def aia:adY->Prop:=λ(n,a,s)=>n<=s.length/\s.length<=1000000/\(a.map (·.1)).Nodup
def adZ:adY->(Nat×(List (cC×eU))×(List cZ)×Nat×(List (cC×eU))×(List cZ)):=λ(n,a,s)=>(n,a,s,(s.take n).length,eH a,s.take n)
def pv:Ls Ws uE Ah:=xM (λ(o0L,ed,dm,n6,n11,ni,n18)=>⟨([cw,cw,cw,fI 13]++bg 14 ([fI 18]++bg 12 [])),[dH (.pr (.cP (.bG 1) 0) (.pr (.b8 (.bG 2) 0 [] 0 0 o0L) kO)),.obj 0 aT (.mp bP eR ed),dH (.vec 139 cD dm)],(bK 6 ([dK (.mp bP eR n6)]++bK 4 ([dK (.vec 139 cD n11),[],dK (.pr (.cP (.new 6 0) 0) (.pr (nR 11 ni) kO))]++bK 4 ([dK (.qh (.bG 1) 1 bP eR n18 aJ)]++bK 12 []))))⟩) (λx=>(.exit 0,⟨([cw,cw,cw,fI 13]++bg 27 []),[dH (.pr (.cP (.bG 1) 0) (.pr (.b8 (.bG 2) 0 [] 0 0 x.1.1) kO)),dH (.mp bP eR x.1.2.1),dH (.vec 139 cD x.1.2.2.1)],(bK 6 ([dK (.mp bP eR x.2)]++bK 4 ([dK (.vec 139 cD x.1.2.2.2.1),[],dK (.pr (.cP (.new 6 0) 0) (.pr (nR 11 x.1.2.2.2.2) kO))]++bK 17 [])))⟩))
def sK:Fs Tryz.prog aia bF adZ:=gg 38 Tryz.f38 (λ(o0baL,o1,o2)=>([.ptr (.bG 0) 0 [] 0],[.obj 0 aR (.pr (.cP (.bG 1) 0) (.pr (.b8 (.bG 2) 0 [] 0 0 o0baL) (.d .unit ()))),.obj 0 aR (.mp bP eR o1),.obj 0 aR (.vec 139 cD o2)])) (λx=>⟨.ptr (.new 0 0) 0 [] 0,[.obj 0 aR (.pr (.cP (.bG 1) 0) (.pr (.b8 (.bG 2) 0 [] 0 0 x.1) (.d .unit ()))),.obj 0 aR (.mp bP eR x.2.1),.obj 0 aR (.vec 139 cD x.2.2.1)],[.obj 0 aR (.pr (.cP (.new 0 1) 0) (.pr (.b8 (.new 0 2) 0 [] 0 0 x.2.2.2.1) (.d .unit ()))),.obj 0 aR (.mp bP eR x.2.2.2.2.1),.obj 0 aR (.vec 139 cD x.2.2.2.2.2)]⟩) [aJ] [asS] {bM:=[13],loops:=sk [(3,{bu:=[3,18],sites:=[6,11,13,18],aDo:=[18]})],outs:=sj [(3,{bu:=[3],sites:=[6,11,13],aCr:=[(.new 6 0)]},{bu:=[2]})],gV:=tK [(3,pv.E)]}
theorem Wt:pv.RS:=rL [.n,.d (.slice (.pair bP eR)),.d (.slice cD),.d (.slice (.pair bP eR)),.d (.slice cD),.n,.d (.slice (.pair bP eR))] pv
theorem EJ(o0L ed dm n6 n11 ni n18)(kn:K2 R)(kx:K3 R):sK.R 0 pv (o0L,ed,dm,n6,n11,ni,n18) kn kx=aS (decide (0 < (ag n18))) (acF (ag n18) λj1=>kn (pv.st (o0L,ed,dm,(ff bP (pH bP eR n18 j1).1 (pH bP eR n18 j1).2 n6),n11,ni,(List.eraseIdx n18 j1)))) (pv.go kx ((o0L,ed,dm,n11,ni),(eH n6))):=cT
theorem aoc(o0baL o1 o2)(k:K1 R):sK.A (o0baL,o1,o2) k=aq (Kp.call (o0baL,o2)) λx1=>aq (pv.call (o0baL,o1,x1.1,([]:List (cC×eU)),x1.2.2,x1.2.1,o1)) λx3=>k (sK.out (x3.1.1,x3.1.2.1,x3.1.2.2.1,x3.1.2.2.2.2,x3.2,x3.1.2.2.2.1)):=cT
theorem Z5:(sK.mw 0 pv):=by
 refine(sK.aGo 0 pv) (λ(_,_,_,_,_,_,rest)=>rest.length) ?_
 rintro⟨n,a,s,m,u,k0,rest⟩ hn;have hn:((m++rest).map (·.1)).Nodup:=hn;by_cases h:0 < rest.length
 ·left;have e1:∀j,j < rest.length->ff bP (pH bP eR rest j).1 (pH bP eR rest j).2 m=m++ [pH bP eR rest j]:=λj hj=>by rw[Av ju];intro hm;rw[List.map_append,List.nodup_append]at hn;exact hn.2.2 _ hm _ (dO.2 ⟨_,aX hj,by rw[RA hj]⟩) rfl
  have e2:∀j,j < rest.length->(m++ [pH bP eR rest j]++rest.eraseIdx j).Perm (m++rest):=λj hj=>by rw[aM,RA hj];exact List.Perm.append_left _ (IQ hj).symm
  refine⟨rest.length,λj=>(n,a,s,ff bP (pH bP eR rest j).1 (pH bP eR rest j).2 m,u,k0,rest.eraseIdx j),h,λj hj=>⟨?_,?_,?_⟩,λkn kx=> ?_⟩
  ·show((ff bP (pH bP eR rest j).1 (pH bP eR rest j).2 m++rest.eraseIdx j).map (·.1)).Nodup;rw[e1 j hj];exact(((e2 j hj).map _).nodup_iff).2 hn
  ·show(rest.eraseIdx j).length < rest.length;rw[kI,if_pos hj];omega
  ·simp only[uE,Ah,e1 j hj];rw[anO (e2 j hj)]
  ·rw[EJ,bf h,ak]
 ·right;obtain rfl:rest=[]:=bw au;intro T kn kx;rw[EJ,bI h,ao];simp only[uE,Ah,bO]
theorem aod:sK.Ok:=by rintro⟨n,a,s⟩ ⟨h1,h2,h3⟩;have h1:n<=s.length:=h1;have h2:s.length<=1000000:=h2;rw[aoc,anZ (d:=(n,s)) ⟨h1,h2⟩];simp only[ae,Ns,ZS];rw[Wt (d:=(n,a,s,[],s.take n,(s.take n).length,a)) h3];simp only[ae,uE,Ah,bF,adZ,aV]
theorem aib:sK.RS:=rE [.n,.d (.slice (.pair bP eR)),.d (.slice cD)] sK
def Gx:=sK.gm aod 1 ⟨.gQ Z5,trivial⟩
abbrev Nu:=lM×Nat×Nat×Int×Int×Int×(List tG)
abbrev XV:=(List tG)×(List tG)
def adL:Nu->XV->((lM×Int)×((List tG)×(List tG))):=λ(aDD,lL,aqW,t11,t12,n2,n9) y=>((aDD,n2),y)
def aHw(l:Lk):Prop:=l.1.length<=1000/\∀b∈l.1,b.1.length<=1000000
def adK:Nu->Prop:=λ(_,n,m,t,i,_,l)=>(l.length<=1000/\∀b∈l,b.1.length<=1000000)/\∃k:Nat,k<=l.length/\i=k/\n=l.length/\m=l.length/\t=l.length
def an4:Nu->XV:=λ(_,_,_,_,_,_,l)=>(l,l)
def asY:lM->Prop:=λo=>aHw o.2.1
def ah5:lM->lM:=λo=>o
def uD:Ls adK adL an4:=xM (λ(aDD,lL,aqW,t11,t12,n2,n9)=>⟨([cw,.eN jv aDD,fI 2,nR 9 lL]++bg 6 ([nR 9 aqW,.d ti t11,.d ti t12]++bg 17 [])),[],([[],[],dK (.pr (.d ti n2) (.pr (.pr (.dI) kO) kO))]++bK 6 ([dK (.vec 93 sa n9)]++bK 20 []))⟩) (λx=>(.exit 0,⟨([cw,.eN jv x.1.1,fI 2,.d (.slice sa) x.2.1]++bg 26 []),[],([[],[],dK (.pr (.d ti x.1.2) (.pr (.pr (.dI) kO) kO))]++bK 6 ([[.obj 0 aT (.vec 93 sa x.2.2)]]++bK 20 []))⟩))
def QO:Fs Tryz.prog asY bF ah5:=gg 27 Tryz.f27 (λo=>([.d jv o],[])) (λx=>⟨.d jv x,[],[]⟩) [al jv] [ald,YK] {loops:=sk [(3,{bu:=[1,2,3,10,11,12],sites:=[2,9]})],outs:=sj [(3,{bu:=[1,2,3],sites:=[2,9],data:=[(3,(.slice sa))]},{bu:=[2]})],gV:=tK [(3,uD.E)],res:=[al jv]}
theorem adM:uD.RS:=rL [.d jv,.n,.n,.d ti,.d ti,.d ti,.d (.slice sa)] uD
theorem Ks(aDD lL aqW t11 t12 n2 n9)(kn:K2 R)(kx:K3 R):QO.R 0 uD (aDD,lL,aqW,t11,t12,n2,n9) kn kx=aS (iE t12 t11) (aS (gU t12 ((aqW:Nat):Int)) (aS (decide ((0+(ab t12)) < (ag n9))) (aS (decide ((((0+(ab t12))*4)+0)=(0+((ab t12)*4)))) (aq (Bg.call (nth sa n9 (0+(ab t12))).1) λx1=>aS (gU t12 ((lL:Nat):Int)) (aS (decide ((0+(ab t12)) < (ag n9))) (aS (decide ((((0+(ab t12))*4)+0)=((0+((ab t12)*4))+0))) (aS (decide ((0+(ab t12)) < (ag n9))) (kn (uD.st (aDD,lL,aqW,t11,(bV .i64 t12 1),n2,(gB n9 (0+(ab t12)) (x1,(nth sa n9 (0+(ab t12))).2))))) aJ) aJ) aJ) aJ) aJ) aJ) aJ) (aS (decide (0=0/\(0+lL)<=(ag n9))) (uD.go kx ((aDD,n2),((cut n9 0 lL),n9))) aJ):=cT
theorem ayF(o)(k:K1 R):QO.A o k=aq (Wr.call o.2.1.1) λx1=>aq (uD.call (o,x1.1,x1.1,((x1.1:Nat):Int),0,0,x1.2)) λx3=>k (QO.out (x3.1.1.1,((x3.2.1,()),()))):=cT
theorem ah6:(QO.mw 0 uD):=by
 refine(QO.qz 0 uD) (λ(_,_,_,_,i,_,l)=>l.length - i.toNat) ?_
 rintro⟨o,n,m,t,i,u,l⟩ ⟨⟨hlen,hx⟩,k,hk,rfl,rfl,rfl,rfl⟩;have hlen:l.length<=1000:=hlen;have hk:k<=l.length:=hk;by_cases h:k < l.length
 ·left;have n1:nth sa l k=l[k]:=dj (t:=sa) h;have hs:l.set k l[k]=l:=gz h;have e:=hx _ (aX h);refine⟨(o,l.length,l.length,(l.length:Int),((k+1:Nat):Int),u,l),⟨⟨hlen,hx⟩,k+1,au,rfl,rfl,rfl,rfl⟩,by simp only[aa];omega,rfl,λkn kx=> ?_⟩;rw[Ks,bm au,bz au au];simp only[aa,ba,cW,ak,bf h,cR,n1];rw[Un (d:=l[k].1) e];simp only[ae,bF,LN];rw[N.pn au];exact bE (λz=>kn (uD.st (_,_,_,_,_,_,z))) hs
 ·right;obtain rfl:k=l.length:=au;intro R kn kx;rw[Ks,bn au,ao,bf au,ak,fp rfl];rfl
theorem ayG:QO.Ok:=by rintro⟨a,⟨l,u⟩,v⟩ ⟨h1,h2⟩;have h1:l.length<=1000:=h1;rw[ayF,adC (d:=l) (by show l.length<=_;omega)];simp only[ae,bF,ZM];rw[adM (d:=((a,(l,u),v),l.length,l.length,(l.length:Int),0,0,l)) ⟨⟨h1,h2⟩,0,aP _,rfl,rfl,rfl,rfl⟩];rfl
theorem adN:QO.RS:=rE [.d jv] QO
def alh:=QO.gm ayG 1 ⟨.gQ ah6,trivial⟩
abbrev y3:=Int×(List lM)×Int×Int×(List (cC×eU))
def oq:y3->AS:=λ(sum,t13,t14,t15,n10)=>⟨([cw,cw,cw,fI 12,.d ti sum]++bg 8 ([.d (.slice jv) t13,.d ti t14,.d ti t15]++bg 35 [])),[],(bK 10 ([dK (.mp bP eR n10),[],dK (.pr (.cP (.new 10 0) 0) (.pr (.dI) kO))]++bK 38 []))⟩
def fV:Unit->Exit×AS:=λx=>(.ret,⟨([cw,cw,.j7]++bg 48 []),[],(ai 51 [])⟩)
abbrev Pm:=(List (cC×eU))
def xm:Pm->Exit×AS:=λx=>(.exit 0,⟨([cw,cw,cw,fI 12]++bg 47 []),[],(bK 10 ([dK (.mp bP eR x),[],dK (.pr (.cP (.new 10 0) 0) (.pr (.dI) kO))]++bK 38 []))⟩)
abbrev IG:=(Unit)⊕(Pm)
abbrev Sx:=(Unit)⊕(((List (cC×eU))))
def CL:IG->Out (Exit×AS):=λx=> .br x.isLeft (.get x.getLeft? λa=> .ok (fV a)) (.get x.getRight? λb=> .ok (xm b))
def kN:y3->Sx->IG:=λ(sum,t13,t14,t15,n10) y=>match y with | .inl y=> .inl y | .inr z=> .inr (z)
abbrev KK:=(List lM)
def Sz:KK->SA:=λouts=>([.d (.slice jv) outs],[])
abbrev alr:=(Unit)⊕((List (cC×eU))×(List cZ))
abbrev Z8:=(Unit)⊕((List (cC×eU))×(List cZ))
def BX:Z8->im:=λx=>match x with | .inl x=>⟨.j7,[],[]⟩ | .inr x=>⟨fI 0,[],[dH (.pr (.cP (.new 0 1) 0) (.pr (.b8 (.new 0 2) 0 [] 0 0 0) kO)),dH (.mp bP eR x.1),dH (.vec 139 cD x.2)]⟩
def BW:KK->alr->Z8:=λouts y=>match y with | .inl y=> .inl y | .inr y=> .inr y
def Ac(k:Nat)(o:lM):cC×eU:=((ai 32 (0:Int),((k:Int),())),(o,((0:Int),())))
def zs(sum:Int)(o:lM):Bool:=nI o.2.1 && decide (0<=o.1/\o.1<=1125899906842624 - sum)
def LD(sum:Int)(k:Nat):List lM->Option (List (cC×eU))
 |[]=>al []
 |o::l=>match zs sum o with | true=>(LD (sum+o.1) (k+1) l).map (Ac k o:: ·) | false=>aJ
def aba(outs:List lM):Option (List (cC×eU)):=if outs.length<=256 then LD 0 0 outs else aJ
def acL(o:lM):Prop:=akP o.2.1/\o.2.1.1.length<=9223372036854775807/\o.1<=9223372036854775807
def xl:y3->Prop:=λ(sum,outs,n,i,a)=>(∀o∈outs,acL o)/\outs.length<=256/\0<=sum/\sum<=1125899906842624/\∃k:Nat,k<=outs.length/\i=k/\n=outs.length/\∀p∈a,p.1.2.1 < (k:Int)
def oo:y3->Sx:=λ(sum,outs,_,i,a)=>match LD sum i.toNat (outs.drop i.toNat) with | none=> .inl () | some r=> .inr (a++r)
def Nw:KK->Prop:=λouts=>∀o∈outs,acL o
def Gy:KK->alr:=λouts=>match aba outs with | none=> .inl () | some r=> .inr (r,[])
def Z6:pZ:=mN (P:=Tryz.prog) [B4,alh]
def Sw:=ee.gQ oq xl kN oo CL
def Ho:y3->Option IG:=ji Sw oq
def Sy:wK:= {bM:=[12],loops:=sk [(5,{bu:=[3,4,13,14,15],sites:=[10,12]})],outs:=sj [(5,{bu:=[3],sites:=[10,12]},{bu:=[2]})],gV:=tK [(5,Sw)],owns:=[⟨2,[.snd,.fst],0,68⟩]}
def alp:= @M9 Tryz.prog Z6 Sy 0 Tryz.f8 _ Sz
abbrev atg:=am0 @alp Nw BW Gy BX
def IF:= @fK Tryz.prog Z6 Sy 0 Tryz.f8 0 _ oq
abbrev Pk:=nE Tryz.prog Z6 Sy 0 Tryz.f8 0 oq xl kN oo CL
theorem Z7:lN Ho xl kN oo:=qe (oE [.d ti,.d (.slice jv),.d ti,.d ti,.d (.slice (.pair bP eR))] λ_=>cT)
theorem KL:sx @IF oq xl kN oo CL Pk:=tI
theorem Hp(sum t13 t14 t15 n10)(kn:K2 R)(kx:K3 R):IF (sum,t13,t14,t15,n10) kn kx=aS (iE t15 t14) (aS (gU t15 (((ag t13):Nat):Int)) (aq (oJ.call (nth jv t13 (ab t15)).2.1) λx1=>aS (!x1) (kx (fV ()).1 (fV ()).2) (aS (iE (nth jv t13 (ab t15)).1 (0:Int)) (kx (fV ()).1 (fV ()).2) (aS (Ap (nth jv t13 (ab t15)).1 (dM .i64 (1125899906842624:Int) sum)) (kx (fV ()).1 (fV ()).2) (aq (QO.call (nth jv t13 (ab t15))) λx2=>kn (oq ((bV .i64 sum (nth jv t13 (ab t15)).1),t13,t14,(bV .i64 t15 (1:Int)),(ff bP ((ai 32 (0:Int)),(t15,())) (x2,((0:Int),())) n10))))))) aJ) (kx (xm n10).1 (xm n10).2):=cT
theorem ath(outs)(k:K1 R):alp outs k=aS (Ap (((ag outs):Nat):Int) (256:Int)) (k (BX (.inl ()))) (aq (Ho ((0:Int),outs,(((ag outs):Nat):Int),(0:Int),([]:List (cC×eU)))) λx3=>aS x3.isLeft (aq x3.getLeft? λa4=>k (BX (.inl ()))) (aq x3.getRight? λb5=>k (BX (.inr (b5,([]:List cZ)))))):=cT
theorem ad1:Pk:=by
 refine KL (λ(_,outs,_,i,_)=>outs.length - i.toNat) ?_
 rintro⟨sum,outs,n,i,a⟩ ⟨hg,hl,h0,h1,k,hk,rfl,rfl,hf⟩;have h0:0<=sum:=h0;have h1:sum<=1125899906842624:=h1;have hl:outs.length<=256:=hl;have hk:k<=outs.length:=hk;by_cases h:k < outs.length
 ·obtain⟨g1,g2,g3⟩:=hg _ (aX h);have n1:nth jv outs k=outs[k]:=dj (t:=jv) h;have hd:outs.drop k=outs[k]::outs.drop (k+1):=aC h
  have hs:∀ {R:Type} (kn:AS->Option R) (kx:Exit->AS->Option R),IF (sum,outs,(outs.length:Int),(k:Int),a) kn kx=
    aS (!(nI outs[k].2.1)) (kx (fV ()).1 (fV ()).2) (aS (iE outs[k].1 0) (kx (fV ()).1 (fV ()).2) (aS (Ap outs[k].1 (1125899906842624 - sum)) (kx (fV ()).1 (fV ()).2)
     (aq (QO.call outs[k]) λx2=>kn (oq ((bV .i64 sum outs[k].1),outs,(outs.length:Int),(bV .i64 (k:Int) (1:Int)),(ff bP ((ai 32 (0:Int)),((k:Int),())) (x2,((0:Int),())) a)))))):=λkn kx=>by
   rw[Hp,bm au,ak,bz au au,ak,aa,n1,zi (d:=outs[k].2.1) ⟨g1,g2⟩,gE au au];rfl
  by_cases jd:zs sum outs[k]=aT
  ·left;have hok':=jd;unfold zs at hok';simp only[av,aW]at hok';obtain⟨k1,k2,k3⟩:=hok';have acH:=Tt k1;refine⟨(sum+outs[k].1,outs,(outs.length:Int),((k+1:Nat):Int),a++ [Ac k outs[k]]),⟨hg,hl,by show 0<=sum+outs[k].1;omega,by show sum+outs[k].1<=_;omega,k+1,au,rfl,rfl,λp hp=> ?_⟩,by simp only[aa];omega,?_,λkn kx=> ?_⟩
   ·rcases bD.1 hp with hp | hp
    ·have:=hf p hp;omega
    ·rw[bq.1 hp];show(k:Int) < _;omega
   ·simp only[kN,oo,aa,hd,LD,jd];cases LD (sum+outs[k].1) (k+1) (outs.drop (k+1)) with
    |none=>rfl
    |some r=>simp only[eo,aM,dQ]
   ·rw[hs,k1,cv,ao,bn au,ao,dx au,ao,adN (d:=outs[k]) ⟨au,λb hb=>by have:=acH.2 b hb;omega⟩];simp only[ae,bF,ah5];rw[hZ au au,N.pn au,Av ju]
    ·rfl
    ·intro hm;obtain⟨p,hp,he⟩:=dO.1 hm;have:=hf p hp;have he:p.1=_:=he;rw[he]at this;have this:(k:Int) < k:=this;omega
  ·right;have aze:zs sum outs[k]=aR:=by simpa using jd
   refine⟨fV (),?_,λkn kx=> ?_⟩;rotate_left
   ·rw[hs];unfold zs at aze;cases k1:nI outs[k].2.1 with
    |false=>rw[fj,ak]
    |true=>
     rw[k1]at aze;simp only[cH,gM]at aze;rw[cv,ao];by_cases k2:outs[k].1 < 0
     ·rw[bm k2,ak]
     ·rw[bn k2,ao,dX au,ak]
   ·simp only[kN,oo,aa,hd,LD,aze];rfl
 ·right;obtain rfl:k=outs.length:=au;refine⟨xm a,?_,λkn kx=> ?_⟩;rotate_left
  ·rw[Hp,bn au,ao]
  ·simp only[kN,oo,aa,aU,LD,bO];rfl
theorem ati:atg:=by
 intro outs hg;rw[ath];simp only[BW,Gy,aba];by_cases h:outs.length<=256
 ·rw[dx au,ao,Z7 (d:=(0,outs,(outs.length:Int),0,[])) ⟨hg,h,fb,fb,0,aP _,rfl,rfl,λp hp=>by cases hp⟩,if_pos h];simp only[ae,kN,oo,bt,aQ];cases LD 0 0 outs with
  |none=>rfl
  |some r=>rfl
 ·rw[dX au,ak,if_neg h]
def alq:=Entry.ai4 [al (.slice jv)] Sz Nw BW Gy BX
def rh:KK->Option Z8:=O3 alq Sz
theorem XZ:lN rh Nw BW Gy:=amH (aeQ [.d (.slice jv)] λ_=>cT)
def ad2:SG Tryz.prog:=⟨8,qD,alq,.of (.aGx (.fn 1 cT ati (And.intro (.gQ ad1 cT) trivial))) (by rfl)⟩
end Go.Ab
end
