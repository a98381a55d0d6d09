/-
  Made short by a program of mine (wip/tools/mini.py).
-/
import Derived.Test.YtodfaneojnkngaaGreatS26x3
import Derived.Test.YtodfaneojnkngaaGreatProg
set_option linter.unusedVariables false
set_option linter.unusedSimpArgs false
set_option maxRecDepth 100000
set_option synthInstance.maxSize 5000
open Int renaming toNat->ae
open List renaming length->ag,replicate->ab,take->aQ,drop->bR,set->fK
open BitVec renaming ofInt->aZ
open Or renaming inl->lv,inr->eW
noncomputable section
namespace Go.Ab
open Go.Proofs
abbrev amZ:=Bs
abbrev aG8:=Int
def Yy:amZ->Prop:=λb=>4<=b.length
def am0:amZ->aG8:=λb=>vw (aYa (b.getD 0 0) (b.getD 1 0) (b.getD 2 0) (b.getD 3 0))
def binary:Fs Tryz.prog Yy bm am0:=eI 237 Tryz.f237 (λb=>([.d tB b],[])) (λx=>⟨.d (.int .u32) x,[],[]⟩) [some tB]
theorem aAQ{R:Type}(b)(k:K1 R):binary.A b k=aG (ed 0 (b.length:Int)) (aG (ed 1 (b.length:Int)) (aG (ed 2 (b.length:Int)) (aG (ed 3 (b.length:Int)) (k (binary.out (cD .or .u32 (cD .or .u32 (cD .or .u32 (l5 .u32 (dT .u32 (nth tb b 0)) 24) (l5 .u32 (dT .u32 (nth tb b 1)) 16)) (l5 .u32 (dT .u32 (nth tb b 2)) 8)) (dT .u32 (nth tb b 3))))) none) none) none) none:=by kernel_rfl
theorem aAR:binary.Ok:=by intro b h;have h:4<=b.length:=h;rw[aAQ,bf (by omega) (by omega),bf (by omega) (by omega),bf (by omega) (by omega),bf (by omega) (by omega)];simp only[aj,ayZ,PS,pP];rfl
theorem atu:binary.RS:=rE [.d tB] binary
def aAS:=binary.eN aAR
abbrev ari:=Int×Int
abbrev aML:=Int
def rl(w:W)(k:Nat):W:=w <<< k ||| w >>> (32 - k)
def aci:ari->Prop:=λ(x,k)=>0<=x/\x < 4294967296
def aMK:ari->aML:=λ(x,k)=>vw (rl (aZ 32 x) (k%32).toNat)
def pg:Fs Tryz.prog aci bm aMK:=eI 211 Tryz.f211 (λ(x,kv)=>([.d (.int .u32) x,.d ti kv],[])) (λx=>⟨.d (.int .u32) x,[],[]⟩) [some (.int .u32),some ti]
theorem aEJ{R:Type}(x kv)(k:K1 R):pg.A (x,kv) k=aG (ma (cD .and .u64 (dT .u64 kv) 31)) (aG (ma (cI .u64 32 (cD .and .u64 (dT .u64 kv) 31))) (k (pg.out (cD .or .u32 (l5 .u32 x (cD .and .u64 (dT .u64 kv) 31)) (cq .u32 x (cI .u64 32 (cD .and .u64 (dT .u64 kv) 31)))))) none) none:=by kernel_rfl
theorem aX9(k:Int):cD .and .u64 (dT .u64 k) 31=k%32:=by have e:(31:Int)=vw (31:BitVec 64):=rfl;rw[XK,e,aAT];simp only;have:(31:BitVec 64)=BitVec.ofNat 64 (2^5 - 1):=rfl;unfold vw;rw[BitVec.toNat_and,rN,show(31:BitVec 64).toNat=2^5 - 1 from rfl,Nat.and_two_pow_sub_one_eq_mod];omega
theorem aEK:pg.Ok:=by
 rintro⟨x,k⟩ ⟨h1,h2⟩;have e1:cI .u64 32 (k%32)=32 - k%32:=by unfold cI;rw[wrap_u64,gK];omega
 have hx:x=vw (aZ 32 x):=by rw[gK];omega
 rw[aEJ,aX9,e1,sO (by omega),sO (by omega)];simp only[aj];have e2:cD .or .u32 (l5 .u32 x (k%32)) (cq .u32 x (32 - k%32))=vw (rl (aZ 32 x) (k%32).toNat):=by
  conv=>lhs;rw[hx]
  rw[PS,HJ,pP];simp only[rl];congr 3;omega
 rw[e2];rfl
theorem awA:pg.RS:=rE [.d (.int .u32),.d ti] pg
def ahQ:=pg.eN aEK
theorem ahP(w:W)(k:Int):pg.call (vw w,k)=some (vw (rl w (k%32).toNat)):=by have h:aci (vw w,k):=⟨Ue w,by have:=aOc w;simpa using this⟩;rw[awA h];show some (vw (rl (aZ 32 (vw w)) (k%32).toNat))=_;rw[uh]
abbrev az9:=Unit
abbrev aS6:=(List Int)
def aFp:az9->Prop:=λ_=>True
def aAa:az9->aS6:=λ_=>Te
def table:Fs Tryz.prog aFp bm aAa:=eI 210 Tryz.f210 (λ_=>([],[])) (λx=>⟨.d (.arr 64 (.int .u32)) x,[],[]⟩) []
theorem aNx{R:Type}(d)(k:K1 R):table.A d k=k (table.out [1116352408,1899447441,3049323471,3921009573,961987163,1508970993,2453635748,2870763221,3624381080,310598401,607225278,1426881987,1925078388,2162078206,2614888103,3248222580,3835390401,4022224774,264347078,604807628,770255983,1249150122,1555081692,1996064986,2554220882,2821834349,2952996808,3210313671,3336571891,3584528711,113926993,338241895,666307205,773529912,1294757372,1396182291,1695183700,1986661051,2177026350,2456956037,2730485921,2820302411,3259730800,3345764771,3516065817,3600352804,4094571909,275423344,430227734,506948616,659060556,883997877,958139571,1322822218,1537002063,1747873779,1955562222,2024104815,2227730452,2361852424,2428436474,2756734187,3204031479,3329325298]):=by kernel_rfl
theorem aNy:table.Ok:=by intro d _;rw[aNx];rfl
theorem aFq:table.RS:=rE [] table
def aNz:=table.eN aNy
abbrev ayO:=Unit
abbrev aQz:=(List Int)
def aCd:ayO->Prop:=λ_=>True
def ayP:ayO->aQz:=λ_=>rW.l
def first:Fs Tryz.prog aCd bm ayP:=eI 171 Tryz.f171 (λ_=>([],[])) (λx=>⟨.d (.arr 8 (.int .u32)) x,[],[]⟩) []
theorem aJl{R:Type}(d)(k:K1 R):first.A d k=k (first.out [1779033703,3144134277,1013904242,2773480762,1359893119,2600822924,528734635,1541459225]):=by kernel_rfl
theorem aJm:first.Ok:=by intro d _;rw[aJl];rfl
theorem aCe:first.RS:=rE [] first
def aJn:=first.eN aJm
abbrev LM:=Bs×Int×(List Int)
abbrev aff:=(List Int)
abbrev acB:=Bs
abbrev awT:=(List Int)
def wl(l:List W):List Int:=l.map vw
def G7(l:List W):List Int:=wl l++ab (64 - l.length) 0
def FU(b:List Int)(k:Nat):List W:=if k<=16 then(words b).take k else aOZ (words b) (k - 16)
def Gs:LM->Prop:=λ(b,t8,n2)=>64<=b.length/\∃k:Nat,k<=64/\t8=k/\n2=G7 (FU b k)
def C3:LM->aff:=λ(b,t8,n2)=>wl (sched b)
def Q2:acB->Prop:=λb=>64<=b.length
def NU:acB->awT:=λb=>wl (sched b)
def jC:Ls Gs bm C3:=qv (λ(gE,t8,n2)=>⟨([.d tB gE,bA,eG 2]++aP 5 ([.d ti t8]++aP 52 [])),[],([[],[],dH (.d (.arr 64 (.int .u32)) n2)]++bC 58 [])⟩) (λx=>(.exit 0,⟨([bA,bA,eG 2]++aP 58 []),[],([[],[],dH (.d (.arr 64 (.int .u32)) x)]++bC 58 [])⟩))
def schedule:Fs Tryz.prog Q2 bm NU:=eI 209 Tryz.f209 (λb=>([.d tB b],[])) (λx=>⟨.d (.arr 64 (.int .u32)) x,[],[]⟩) [some tB] [aAS,ahQ] {loops:=nD [(2,{aU:=[0,2,8],sites:=[2]})],outs:=nC [(2,{aU:=[2],sites:=[2]},{aU:=[2]})],fu:=np [(2,jC.E)]}
theorem Xt:jC.RS:=rL [.d tB,.d ti,.d (.slice (.int .u32))] jC
theorem D3{R:Type}(gE t8 n2)(kn:K2 R)(kx:K3 R):schedule.R 0 jC (gE,t8,n2) kn kx=aG ((fP t8 64)) (aG ((fP t8 16)) (aG (inc (fX .i64 4 t8) (gE.length:Int)) (ak (binary.call (cut gE (ae (fX .i64 4 t8)) ((ag gE) - (ae (fX .i64 4 t8))))) λx1=>aG (ed t8 64) (aG (decide ((ae t8) < (ag n2))) (aG (decide ((((ae t8)*1)+0)=(0+((ae t8)*1)))) (aG (decide ((ae t8) < (ag n2))) (kn (jC.st (gE,(bH .i64 t8 1),(fK n2 (ae t8) x1)))) none) none) none) none) none) (aG (ed (cI .i64 t8 15) 64) (aG (decide ((ae (cI .i64 t8 15)) < (ag n2))) (aG (decide ((((ae (cI .i64 t8 15))*1)+0)=(0+((ae (cI .i64 t8 15))*1)))) (aG (ed (cI .i64 t8 2) 64) (aG (decide ((ae (cI .i64 t8 2)) < (ag n2))) (aG (decide ((((ae (cI .i64 t8 2))*1)+0)=(0+((ae (cI .i64 t8 2))*1)))) (ak (pg.call ((nth (.int .u32) n2 (ae (cI .i64 t8 15))),(-7))) λx2=>ak (pg.call ((nth (.int .u32) n2 (ae (cI .i64 t8 15))),(-18))) λx3=>ak (pg.call ((nth (.int .u32) n2 (ae (cI .i64 t8 2))),(-17))) λx4=>ak (pg.call ((nth (.int .u32) n2 (ae (cI .i64 t8 2))),(-19))) λx5=>aG (ed (cI .i64 t8 16) 64) (aG (decide ((ae (cI .i64 t8 16)) < (ag n2))) (aG (decide ((((ae (cI .i64 t8 16))*1)+0)=(0+((ae (cI .i64 t8 16))*1)))) (aG (ed (cI .i64 t8 7) 64) (aG (decide ((ae (cI .i64 t8 7)) < (ag n2))) (aG (decide ((((ae (cI .i64 t8 7))*1)+0)=(0+((ae (cI .i64 t8 7))*1)))) (aG (ed t8 64) (aG (decide ((ae t8) < (ag n2))) (aG (decide ((((ae t8)*1)+0)=(0+((ae t8)*1)))) (aG (decide ((ae t8) < (ag n2))) (kn (jC.st (gE,(bH .i64 t8 1),(fK n2 (ae t8) (bH .u32 (bH .u32 (bH .u32 (nth (.int .u32) n2 (ae (cI .i64 t8 16))) (cD .xor .u32 (cD .xor .u32 x2 x3) (cq .u32 (nth (.int .u32) n2 (ae (cI .i64 t8 15))) 3))) (nth (.int .u32) n2 (ae (cI .i64 t8 7)))) (cD .xor .u32 (cD .xor .u32 x4 x5) (cq .u32 (nth (.int .u32) n2 (ae (cI .i64 t8 2))) 10))))))) none) none) none) none) none) none) none) none) none) none) none) none) none) none) none) none)) (jC.go kx n2):=by kernel_rfl
theorem arF{R:Type}(b)(k:K1 R):schedule.A b k=ak (jC.call (b,0,(ab 64 0))) λx6=>k (schedule.out x6):=by kernel_rfl
theorem asL(b:List Int)(k:Nat)(h:k<=64):(FU b k).length=k:=by
 unfold FU;split
 ·simp[eQ];omega
 ·rw[Bl,eQ];omega
theorem aTt(b:List Int):FU b 64=sched b:=rfl
theorem aF8(b:List Int)(k:Nat)(h:k < 16):FU b (k+1)=FU b k++ [be b k]:=by unfold FU;rw[if_pos (by omega),if_pos (by omega),gY (by rw[eQ];exact h)];simp[words]
theorem aOx(b:List Int)(k:Nat)(h:16<=k):FU b (k+1)=ext (FU b k):=by
 unfold FU;rw[if_neg (by omega)];by_cases baL:k=16
 ·subst baL;rw[if_pos (by omega),aW (by rw[eQ];omega)];rfl
 ·rw[if_neg (by omega),show k+1 - 16=(k - 16)+1 by omega];rfl
theorem aiK(l:List W)(h:l.length<=64):(G7 l).length=64:=by simp[G7,wl];omega
theorem Jw(l:List W)(i:Nat)(h:i < l.length):nth (.int .u32) (G7 l) i=vw (l.getD i 0):=by unfold nth G7 wl;rw[aD,fe (by simpa using h)];simp[h]
theorem af1(l:List W)(w:W)(h:l.length < 64):(G7 l).set l.length (vw w)=G7 (l++ [w]):=by unfold G7 wl;rw[List.set_append_right _ _ (by simp)];simp only[bX,Nat.sub_self,rh,ai,az,aX];rw[show 64 - l.length=(64 - (l.length+(0+1)))+1 by omega,List.replicate_succ,List.set_cons_zero];simp
theorem ati(l:List W)(h:l.length=64):G7 l=wl l:=by simp[G7,h]
theorem aUG(b:List Int)(k:Nat)(h:4*k+4<=b.length):aYa ((cut b (4*k) (b.length - 4*k)).getD 0 0) ((cut b (4*k) (b.length - 4*k)).getD 1 0) ((cut b (4*k) (b.length - 4*k)).getD 2 0) ((cut b (4*k) (b.length - 4*k)).getD 3 0)=be b k:=by
 have e:∀j,j < 4->(cut b (4*k) (b.length - 4*k)).getD j 0=b.getD (4*k+j) 0:=λj hj=>by unfold cut;rw[aD,aD,List.getElem?_take_of_lt (by omega),fJ]
 unfold be;rw[e 0 (by omega),e 1 (by omega),e 2 (by omega),e 3 (by omega),cd]
theorem acC:(schedule.jP 0 jC):=by
 refine(schedule.lk 0 jC) (λ(b,t8,n2)=>64 - t8.toNat) ?_
 rintro⟨b,t8,n2⟩ ⟨hb,k,hk,rfl,rfl⟩;have aXQ:=asL b k hk;have aJD:=aiK (FU b k) (by omega);by_cases h:k < 64
 ·left;refine⟨(b,((k+1:Nat):Int),G7 (FU b (k+1))),⟨hb,k+1,by omega,rfl,rfl⟩,by simp;omega,rfl,λkn kx=> ?_⟩;have e1:bH .i64 (k:Int) 1=((k+1:Nat):Int):=by rw[fE (by omega) (by omega)];omega
  have e2:ae (k:Int)=k:=by omega
  rw[D3,aT (by omega)];simp only[aj,e1,e2,aJD,gD,aJ,cd,cn];by_cases baL:k < 16
  ·have e3:fX .i64 4 (k:Int)=((4*k:Nat):Int):=by rw[HG (by omega) (by omega)];omega
   have e4:ae ((4*k:Nat):Int)=4*k:=by omega
   rw[aT (by omega),e3,tW (by omega) (by omega),e4,bf (by omega) (by omega),aH h];have hp:Yy (cut b (4*k) (b.length - 4*k)):=by show 4<=_;rw[EI (by omega)];omega
   simp only[aj,atu hp,ah];have e5:bm (cut b (4*k) (b.length - 4*k)) (am0 (cut b (4*k) (b.length - 4*k)))=vw (be b k):=by show vw (aYa _ _ _ _)=_;rw[aUG b k (by omega)]
   have e6:=af1 (FU b k) (be b k) (by omega);rw[aXQ]at e6;rw[e5,e6,aF8 b k baL]
  ·have a15:ae (cI .i64 (k:Int) 15)=k - 15:=by rw[ez (by omega) (by omega)];omega
   have a2:ae (cI .i64 (k:Int) 2)=k - 2:=by rw[ez (by omega) (by omega)];omega
   have a16:ae (cI .i64 (k:Int) 16)=k - 16:=by rw[ez (by omega) (by omega)];omega
   have a7:ae (cI .i64 (k:Int) 7)=k - 7:=by rw[ez (by omega) (by omega)];omega
   have i15:ed (cI .i64 (k:Int) 15) 64=true:=bf (by rw[ez (by omega) (by omega)];omega) (by rw[ez (by omega) (by omega)];omega);have i2:ed (cI .i64 (k:Int) 2) 64=true:=bf (by rw[ez (by omega) (by omega)];omega) (by rw[ez (by omega) (by omega)];omega);have i16:ed (cI .i64 (k:Int) 16) 64=true:=bf (by rw[ez (by omega) (by omega)];omega) (by rw[ez (by omega) (by omega)];omega);have i7:ed (cI .i64 (k:Int) 7) 64=true:=bf (by rw[ez (by omega) (by omega)];omega) (by rw[ez (by omega) (by omega)];omega);have i0:ed (k:Int) 64=true:=bf (by omega) (by omega);have d15:decide (k - 15 < 64)=true:=aH (by omega);have d2:decide (k - 2 < 64)=true:=aH (by omega);have d16:decide (k - 16 < 64)=true:=aH (by omega);have d7:decide (k - 7 < 64)=true:=aH (by omega);have d0:decide (k < 64)=true:=aH h;rw[aO (by omega)];simp only[aj,al,a15,a2,a16,a7,i15,i2,i16,i7,i0,d15,d2,d16,d7,d0,Jw (FU b k) (k - 15) (by omega),Jw (FU b k) (k - 2) (by omega),Jw (FU b k) (k - 16) (by omega),Jw (FU b k) (k - 7) (by omega),ahP,ah,pP,HJ,Dz];have e6:=af1 (FU b k) (aUe (FU b k) k) (by omega);rw[aXQ]at e6;rw[aOx b k (by omega),ext,aXQ,<-e6];rfl
 ·right;obtain rfl:k=64:=by omega
  intro R kn kx;rw[D3,aO (by omega),ati _ aXQ,aTt];simp only[al,bm,C3]
theorem arG:schedule.Ok:=by intro b hb;have hp:Gs (b,0,ab 64 0):=⟨hb,0,by omega,rfl,rfl⟩;rw[arF,Xt hp];simp only[ah,bm,C3,bm,NU]
theorem alp:schedule.RS:=rE [.d tB] schedule
def arH:=schedule.eN arG 1 ⟨.fm acC,trivial⟩
abbrev aau:=(List Int)×Int×(List Int)×(List Int)×(List Int)×(List Int)
abbrev apI:=(List Int)
abbrev aKZ:=((List Int)×(List Int))×((List Int))
def Nu:aau->apI->aKZ:=λ(PC,t18,n4,n5,n6,n7) y=>((PC,n4),y)
abbrev aax:=(List Int)×Int×(List Int)×(List Int)
abbrev apJ:=(List Int)
abbrev aK0:=((List Int))×((List Int))
def E5:aax->apJ->aK0:=λ(ayV,t104,AF,aeH) y=>(AF,y)
abbrev aUb:=(List Int)×Bs
abbrev aZk:=(List Int)
def alL(l:List Int):St:=⟨aZ 32 (l.getD 0 0),aZ 32 (l.getD 1 0),aZ 32 (l.getD 2 0),aZ 32 (l.getD 3 0),aZ 32 (l.getD 4 0),aZ 32 (l.getD 5 0),aZ 32 (l.getD 6 0),aZ 32 (l.getD 7 0)⟩
theorem nY(s:St):alL s.l=s:=by obtain⟨a,b,c,d,e,f,g,h⟩:=s;simp[alL,St.l,uh]
def aOa(l:List Int):List W:=l.map (aZ 32)
theorem FK(l:List W):aOa (wl l)=l:=by
 unfold aOa wl;rw[List.map_map];have:(aZ 32∘vw)=(id:W->W):=by funext w;exact uh w
 rw[this,List.map_id]
def aaw:aau->Prop:=λ(h,t,n4,n5,n6,n7)=>∃(s:St) (ws:List W) (k:Nat),h=s.l/\n5=wl ws/\ws.length=64/\k<=64/\t=k/\n6=Te/\n7=(rounds ws s k).l
def aav:aau->apI:=λ(h,t,n4,n5,n6,n7)=>(rounds (aOa n5) (alL h) 64).l
def aay:aax->Prop:=λ(h,t,n4,n7)=>n7.length=8/\∃k:Nat,k<=8/\t=k
def Qd:aax->apJ:=λ(h,t,n4,n7)=>from_ (λi x=>bH .u32 x (nth (.int .u32) h i)) t.toNat n7
def akz:aUb->Prop:=λ(h,b)=>(∃s:St,h=s.l)/\64<=b.length
def azl:aUb->aZk:=λ(h,b)=>(Tl (alL h) b).l
def CH:Ls aaw Nu aav:=qv (λ(PC,t18,n4,n5,n6,n7)=>⟨([bA,bA,.dL (.arr 8 (.int .u32)) PC,bA,eG 4,eG 5,eG 6,eG 7]++aP 10 ([.d ti t18]++aP 98 [])),[],(bC 4 ([dH (.d (.arr 8 (.int .u32)) n4),dH (.d (.arr 64 (.int .u32)) n5),dH (.d (.arr 64 (.int .u32)) n6),dH (.d (.arr 8 (.int .u32)) n7)]++bC 109 []))⟩) (λx=>(.exit 0,⟨([bA,bA,.dL (.arr 8 (.int .u32)) x.1.1,bA,eG 4,bA,bA,eG 7]++aP 109 []),[],(bC 4 ([dH (.d (.arr 8 (.int .u32)) x.1.2),[],[],dH (.d (.arr 8 (.int .u32)) x.2)]++bC 109 []))⟩))
def E4:Ls aay E5 Qd:=qv (λ(ayV,t104,AF,aeH)=>⟨([bA,bA,.dL (.arr 8 (.int .u32)) ayV,bA,eG 4,bA,bA,eG 7]++aP 96 ([.d ti t104]++aP 12 [])),[],(bC 4 ([dH (.d (.arr 8 (.int .u32)) AF),[],[],dH (.d (.arr 8 (.int .u32)) aeH)]++bC 109 []))⟩) (λx=>(.exit 2,⟨(aP 4 ([eG 4,bA,bA,eG 7]++aP 109 [])),[],(bC 4 ([dH (.d (.arr 8 (.int .u32)) x.1),[],[],dH (.d (.arr 8 (.int .u32)) x.2)]++bC 109 []))⟩))
def mix:Fs Tryz.prog akz bm azl:=eI 172 Tryz.f172 (λ(h,b)=>([.d (.arr 8 (.int .u32)) h,.d tB b],[])) (λx=>⟨.d (.arr 8 (.int .u32)) x,[],[]⟩) [some (.arr 8 (.int .u32)),some tB] [arH,aNz,ahQ] {loops:=nD [(4,{aU:=[2,4,5,6,7,18],sites:=[4,5,6,7]}),(13,{aU:=[2,4,7,104],sites:=[4,7]})],outs:=nC [(4,{aU:=[2,4,7],sites:=[4,7]},{aU:=[4]}),(13,{aU:=[4,7],sites:=[4,7]},{aU:=[4]})],fu:=np [(4,CH.E),(13,E4.E)]}
theorem avl:CH.RS:=rL [.d (.arr 8 (.int .u32)),.d ti,.d (.slice (.int .u32)),.d (.slice (.int .u32)),.d (.slice (.int .u32)),.d (.slice (.int .u32))] CH
theorem Vw{R:Type}(PC t18 n4 n5 n6 n7)(kn:K2 R)(kx:K3 R):mix.R 0 CH (PC,t18,n4,n5,n6,n7) kn kx=aG ((fP t18 64)) (aG (decide (4 < (ag n7))) (ak (pg.call ((nth (.int .u32) n7 4),(-6))) λx1=>aG (decide (4 < (ag n7))) (ak (pg.call ((nth (.int .u32) n7 4),(-11))) λx2=>aG (decide (4 < (ag n7))) (ak (pg.call ((nth (.int .u32) n7 4),(-25))) λx3=>aG (decide (7 < (ag n7))) (aG (decide (6 < (ag n7))) (aG (decide (4 < (ag n7))) (aG (decide (5 < (ag n7))) (aG (decide (6 < (ag n7))) (aG (ed t18 64) (aG (decide ((ae t18) < (ag n6))) (aG (decide ((((ae t18)*1)+0)=(0+((ae t18)*1)))) (aG (ed t18 64) (aG (decide ((ae t18) < (ag n5))) (aG (decide ((((ae t18)*1)+0)=(0+((ae t18)*1)))) (aG (decide (0 < (ag n7))) (ak (pg.call ((nth (.int .u32) n7 0),(-2))) λx4=>aG (decide (0 < (ag n7))) (ak (pg.call ((nth (.int .u32) n7 0),(-13))) λx5=>aG (decide (0 < (ag n7))) (ak (pg.call ((nth (.int .u32) n7 0),(-22))) λx6=>aG (decide (0 < (ag n7))) (aG (decide (1 < (ag n7))) (aG (decide (2 < (ag n7))) (aG (decide (0 < (ag n7))) (aG (decide (1 < (ag n7))) (aG (decide (0 < (ag n7))) (aG (decide (1 < (ag n7))) (aG (decide (2 < (ag n7))) (aG (decide (3 < (ag n7))) (aG (decide (4 < (ag n7))) (aG (decide (5 < (ag n7))) (aG (decide (6 < (ag n7))) (kn (CH.st (PC,(bH .i64 t18 1),n4,n5,n6,[(bH .u32 (bH .u32 (bH .u32 (bH .u32 (bH .u32 (bH .u32 (nth (.int .u32) n7 7) (cD .xor .u32 (cD .xor .u32 x1 x2) x3)) (cD .xor .u32 (nth (.int .u32) n7 6) (cD .and .u32 (nth (.int .u32) n7 4) (cD .xor .u32 (nth (.int .u32) n7 5) (nth (.int .u32) n7 6))))) (nth (.int .u32) n6 (ae t18))) (nth (.int .u32) n5 (ae t18))) (cD .xor .u32 (cD .xor .u32 x4 x5) x6)) (cD .or .u32 (cD .and .u32 (nth (.int .u32) n7 0) (nth (.int .u32) n7 1)) (cD .and .u32 (nth (.int .u32) n7 2) (cD .or .u32 (nth (.int .u32) n7 0) (nth (.int .u32) n7 1))))),(nth (.int .u32) n7 0),(nth (.int .u32) n7 1),(nth (.int .u32) n7 2),(bH .u32 (nth (.int .u32) n7 3) (bH .u32 (bH .u32 (bH .u32 (bH .u32 (nth (.int .u32) n7 7) (cD .xor .u32 (cD .xor .u32 x1 x2) x3)) (cD .xor .u32 (nth (.int .u32) n7 6) (cD .and .u32 (nth (.int .u32) n7 4) (cD .xor .u32 (nth (.int .u32) n7 5) (nth (.int .u32) n7 6))))) (nth (.int .u32) n6 (ae t18))) (nth (.int .u32) n5 (ae t18)))),(nth (.int .u32) n7 4),(nth (.int .u32) n7 5),(nth (.int .u32) n7 6)]))) none) none) none) none) none) none) none) none) none) none) none) none) none) none) none) none) none) none) none) none) none) none) none) none) none) none) none) none) none) (CH.go kx ((PC,n4),n7)):=by kernel_rfl
theorem avm:E4.RS:=rL [.d (.arr 8 (.int .u32)),.d ti,.d (.slice (.int .u32)),.d (.slice (.int .u32))] E4
theorem Vx{R:Type}(ayV t104 AF aeH)(kn:K2 R)(kx:K3 R):mix.R 1 E4 (ayV,t104,AF,aeH) kn kx=aG ((fP t104 8)) (aG (ed t104 8) (aG (decide ((ae t104) < (ag aeH))) (aG (decide ((((ae t104)*1)+0)=(0+((ae t104)*1)))) (aG (ed t104 8) (aG (ed t104 8) (aG (decide ((ae t104) < (ag aeH))) (aG (decide ((((ae t104)*1)+0)=(0+((ae t104)*1)))) (aG (decide ((ae t104) < (ag aeH))) (kn (E4.st (ayV,(bH .i64 t104 1),AF,(fK aeH (ae t104) (bH .u32 (nth (.int .u32) aeH (ae t104)) (nth (.int .u32) ayV (ae t104))))))) none) none) none) none) none) none) none) none) (E4.go kx (AF,aeH)):=by kernel_rfl
theorem aWl{R:Type}(h b)(k:K1 R):mix.A (h,b) k=ak (schedule.call b) λx1=>ak (table.call ()) λx2=>ak (CH.call (h,0,(ab 8 0),x1,x2,h)) λx9=>ak (E4.call (x9.1.1,0,x9.1.2,x9.2)) λasN=>k (mix.out asN.2):=by kernel_rfl
theorem St.apj(s:St):s.l.length=8:=rfl
theorem Vh:Te.length=64:=rfl
theorem aph(k:Nat)(h:k < 64):nth (.int .u32) Te k=vw (kw k):=by
 have hh:∀k:Fin 64,nth (.int .u32) Te k.val=vw (kw k.val):=by decide+kernel
 exact hh ⟨k,h⟩
theorem Ui(ws:List W)(k:Nat)(h:k < ws.length):nth (.int .u32) (wl ws) k=vw (ws.getD k 0):=by unfold nth wl;simp[h]
theorem bem(w:W):rl w ((-6:Int)%32).toNat=vC w 6:=rfl
theorem bb1(w:W):rl w ((-11:Int)%32).toNat=vC w 11:=rfl
theorem bb4(w:W):rl w ((-25:Int)%32).toNat=vC w 25:=rfl
theorem bel(w:W):rl w ((-2:Int)%32).toNat=vC w 2:=rfl
theorem bb2(w:W):rl w ((-13:Int)%32).toNat=vC w 13:=rfl
theorem bb3(w:W):rl w ((-22:Int)%32).toNat=vC w 22:=rfl
theorem n0(s:St):nth (.int .u32) s.l 0=vw s.a:=rfl
theorem n1(s:St):nth (.int .u32) s.l 1=vw s.b:=rfl
theorem n2(s:St):nth (.int .u32) s.l 2=vw s.c:=rfl
theorem n3(s:St):nth (.int .u32) s.l 3=vw s.d:=rfl
theorem n4(s:St):nth (.int .u32) s.l 4=vw s.e:=rfl
theorem n5(s:St):nth (.int .u32) s.l 5=vw s.f:=rfl
theorem n6(s:St):nth (.int .u32) s.l 6=vw s.g:=rfl
theorem n7(s:St):nth (.int .u32) s.l 7=vw s.h:=rfl
theorem aDj:(mix.jP 0 CH):=by
 refine(mix.lk 0 CH) (λ(h,t,n4,n5,n6,n7)=>64 - t.toNat) ?_
 rintro⟨h,t,m4,m5,m6,m7⟩ ⟨s,ws,k,rfl,rfl,hw,hk,rfl,rfl,rfl⟩;by_cases gv:k < 64
 ·left;refine⟨(s.l,((k+1:Nat):Int),m4,wl ws,Te,(rounds ws s (k+1)).l),⟨s,ws,k+1,rfl,rfl,hw,by omega,rfl,rfl,rfl⟩,by simp;omega,rfl,λkn kx=> ?_⟩;have e1:bH .i64 (k:Int) 1=((k+1:Nat):Int):=by rw[fE (by omega) (by omega)];omega
  have e2:ae (k:Int)=k:=by omega
  have aXQ:(wl ws).length=64:=by simp[wl,hw]
  have d0:decide (k < 64)=true:=aH gv;have i0:ed (k:Int) 64=true:=bf (by omega) (by omega);rw[Vw,aT (by omega)];generalize hv:rounds ws s k=v;simp only[e1,e2,gD,aJ,cd,cn,aj,St.apj,Nat.reduceLT,Vh,aXQ,d0,i0,n0,n1,n2,n3,n4,n5,n6,n7,ahP,ah,aph k gv,Ui ws k (by omega),pP,Dz,bem,bb1,bb4,bel,bb2,bb3];show kn _=kn (CH.st (s.l,((k+1:Nat):Int),m4,wl ws,Te,(lk (rounds ws s k) (kw k) (ws.getD k 0)).l));rw[hv];rfl
 ·right;obtain rfl:k=64:=by omega
  intro R kn kx;rw[Vw,aO (by omega)];simp only[al,Nu,aav,FK,nY]
theorem aDk:(mix.jP 1 E4):=by
 refine(mix.lk 1 E4) (λ(h,t,n4,n7)=>8 - t.toNat) ?_
 rintro⟨h,t,m4,m7⟩ ⟨hl,k,hk,rfl⟩;have hl:m7.length=8:=hl;have e2:ae (k:Int)=k:=by omega
 have e3:ae ((k+1:Nat):Int)=k+1:=by omega
 by_cases gv:k < 8
 ·left;have e1:bH .i64 (k:Int) 1=((k+1:Nat):Int):=by rw[fE (by omega) (by omega)];omega
  have hn:nth (.int .u32) m7 k=m7[k]:=bV (t:= .int .u32) (by omega);refine⟨(h,((k+1:Nat):Int),m4,m7.set k (bH .u32 m7[k] (nth (.int .u32) h k))),⟨by simpa using hl,k+1,by omega,rfl⟩,by simp;omega,?_,λkn kx=> ?_⟩
  ·simp only[E5,Qd,e2,e3];rw[JL (λi x=>bH .u32 x (nth (.int .u32) h i)) m7 k (by omega)]
  ·have d0:decide (k < 8)=true:=aH gv;have i0:ed (k:Int) 8=true:=bf (by omega) (by omega);rw[Vx,aT (by omega)];simp only[e1,e2,gD,aJ,cd,cn,aj,hl,d0,i0,hn]
 ·right;obtain rfl:k=8:=by omega
  intro R kn kx;rw[Vx,aO (by omega)];simp only[al,E5,Qd,e2];rw[PA _ _ _ (by omega)]
theorem aWm:mix.Ok:=by
 rintro⟨h,b⟩ ⟨⟨s,rfl⟩,hb⟩;have hs:Q2 b:=hb;have ayY:(sched b).length=64:=by unfold sched;rw[Bl,eQ]
 have hp:aaw (s.l,0,ab 8 0,wl (sched b),Te,s.l):=⟨s,sched b,0,rfl,rfl,ayY,by omega,rfl,rfl,rfl⟩;rw[aWl,alp hs];simp only[ah,aFq (d:=()) trivial,bm,NU,bm,aAa,avl hp,Nu,aav,FK,nY];have aXL:aay (s.l,0,ab 8 0,(rounds (sched b) s 64).l):=⟨rfl,0,by omega,rfl⟩;simp only[avm aXL,ah,E5,Qd,bm,azl,nY];unfold Tl;generalize rounds (sched b) s 64=v;obtain⟨a1,b1,c1,d1,f1,g1,h1,i1⟩:=v;simp only[St.l,from_,List.mapIdx_cons,List.mapIdx_nil,aY,Nat.not_lt_zero,bp,aJ,Nat.reduceAdd];simp only[nth,jh,qz,Dz]
theorem azm:mix.RS:=rE [.d (.slice (.int .u32)),.d tB] mix
def aWn:=mix.eN aWm 2 ⟨.fm aDj,⟨.fm aDk,trivial⟩⟩
theorem sM(n:Int)(k:Int)(h0:0<=k)(h1:k<=64):dT .u8 (cq .i64 n k)=n / 2^k.toNat%256:=by
 rw[S4,gK,cq];have e:min k.toNat IntKind.i64.bits=k.toNat:=by simp only[IntKind.bits];omega
 rw[e,jS _ (Int.le_of_lt (Int.pow_pos (by omega)))];rfl
theorem D1{n:Nat}(h:n<=140737488355328):cT n 1=true:=de (by omega) (by omega)
abbrev anJ:=Bs
abbrev aId:=Nat×(List Int)
def YY:anJ->Prop:=λb=>b.length<=140737488355328
def Hl:anJ->aId:=λb=>(b.length,b)
def Ad:Fs Tryz.prog YY bm Hl:=eI 170 Tryz.f170 (λsv=>([.d tB sv],[])) (λx=>⟨.bu (.new 0 0) 0 [] 0 0 x.1,[],[.obj 0 false (.vec 5 tb x.2)]⟩) [some tB] [] {bI:=[5],owns:=[⟨2,[],5,127⟩]}
theorem aBC{R:Type}(sv)(k:K1 R):Ad.A sv k=aG (decide (0 < (ag sv))) (aG (cT (0+(ag sv)) 1) (k (Ad.out ((0+(ag sv)),((aQ 0 (ab 0 0))++sv)))) none) (nd (k (Ad.out (0,([]:List Int)))) (aG (cT (0+(ag sv)) 1) (k (Ad.out ((0+(ag sv)),((aQ 0 (ab 0 0))++sv)))) none)):=by kernel_rfl
theorem aBD:Ad.Ok:=by
 intro b hb;have hr:cT b.length 1=true:=D1 hb;rw[aBC];have e0:(aQ 0 (ab 0 0):List Int)=[]:=rfl;simp only[aJ,hr,aj,e0,aR,bm,Hl];by_cases h:0 < b.length
 ·simp only[aH h,aj]
 ·have:b=[]:=bB (by omega);subst this;simp only[aX,yZ,aS (gS 0),al]
theorem ME:Ad.RS:=rE [.d tB] Ad
def SC:=Ad.eN aBD
abbrev azd:=Int
abbrev aRt:=Nat×(List Int)
def aC7:azd->Prop:=λ_=>True
def aze:azd->aRt:=λn=>(8,iX n)
def aal:Fs Tryz.prog aC7 bm aze:=eI 111 Tryz.f111 (λn=>([.cV,.d ti n],[])) (λx=>⟨.bu (.new 0 0) 0 [] 0 0 x.1,[],[.obj 0 false (.vec 5 tb x.2)]⟩) [none,some ti] [] {loops:=nD [(2,{aU:=[0,1,5],sites:=[16]})],outs:=nC [(2,{aU:=[0],sites:=[16]},{aU:=[4],sites:=[16]})],owns:=[⟨4,[],16,127⟩]} 12
theorem aKD{R:Type}(n)(k:K1 R):aal.A n k=k (aal.out (8,[(dT .u8 (cq .i64 n 56)),(dT .u8 (cq .i64 n 48)),(dT .u8 (cq .i64 n 40)),(dT .u8 (cq .i64 n 32)),(dT .u8 (cq .i64 n 24)),(dT .u8 (cq .i64 n 16)),(dT .u8 (cq .i64 n 8)),(dT .u8 (cq .i64 n 0))])):=by kernel_rfl
theorem ato(n:Int): [dT .u8 (cq .i64 n 56),dT .u8 (cq .i64 n 48),dT .u8 (cq .i64 n 40),dT .u8 (cq .i64 n 32),dT .u8 (cq .i64 n 24),dT .u8 (cq .i64 n 16),dT .u8 (cq .i64 n 8),dT .u8 (cq .i64 n 0)]=iX n:=by rw[sM n 56 (by omega) (by omega),sM n 48 (by omega) (by omega),sM n 40 (by omega) (by omega),sM n 32 (by omega) (by omega),sM n 24 (by omega) (by omega),sM n 16 (by omega) (by omega),sM n 8 (by omega) (by omega),sM n 0 (by omega) (by omega)];simp[iX]
theorem aKE:aal.Ok:=by intro n _;rw[aKD,ato];rfl
theorem aC8:aal.RS:=rE [.d ti] aal
def aKF:=aal.ban aDu aKE 1 ⟨.none (by kernel_rfl),trivial⟩
abbrev azf:=Nat×Int×Bs
abbrev aRu:=Nat×(List Int)
def Ti:azf->Prop:=λ(m,n,l)=>m=l.length/\l.length<=140737488355320
def XS:azf->aRu:=λ(m,n,l)=>(l.length+8,l++iX n)
def Vm:Fs Tryz.prog Ti bm XS:=eI 111 Tryz.f111 (λ(bL,n,o0)=>([.bu (.bh 0) 0 [] 0 0 bL,.d ti n],[.obj 0 false (.vec 5 tb o0)])) (λx=>⟨.bu (.bh 0) 8 [] 0 0 x.1,[.obj 8 false (.vec 5 tb x.2)],[]⟩) [none,some ti] [] {loops:=nD [(2,{aU:=[0,1,5],sites:=[16]})],outs:=nC [(2,{aU:=[0],sites:=[16]},{aU:=[4],sites:=[16]})]} 12
theorem aKG{R:Type}(bL n o0)(k:K1 R):Vm.A (bL,n,o0) k=aG (decide (bL<=(ag o0))) (aG (cT (bL+1) 1) (aG (decide ((bL+1)<=(ag ((aQ bL o0)++ [(dT .u8 (cq .i64 n 56))])))) (aG (cT ((bL+1)+1) 1) (aG (decide (((bL+1)+1)<=(ag ((aQ (bL+1) ((aQ bL o0)++ [(dT .u8 (cq .i64 n 56))]))++ [(dT .u8 (cq .i64 n 48))])))) (aG (cT (((bL+1)+1)+1) 1) (aG (decide ((((bL+1)+1)+1)<=(ag ((aQ ((bL+1)+1) ((aQ (bL+1) ((aQ bL o0)++ [(dT .u8 (cq .i64 n 56))]))++ [(dT .u8 (cq .i64 n 48))]))++ [(dT .u8 (cq .i64 n 40))])))) (aG (cT ((((bL+1)+1)+1)+1) 1) (aG (decide (((((bL+1)+1)+1)+1)<=(ag ((aQ (((bL+1)+1)+1) ((aQ ((bL+1)+1) ((aQ (bL+1) ((aQ bL o0)++ [(dT .u8 (cq .i64 n 56))]))++ [(dT .u8 (cq .i64 n 48))]))++ [(dT .u8 (cq .i64 n 40))]))++ [(dT .u8 (cq .i64 n 32))])))) (aG (cT (((((bL+1)+1)+1)+1)+1) 1) (aG (decide ((((((bL+1)+1)+1)+1)+1)<=(ag ((aQ ((((bL+1)+1)+1)+1) ((aQ (((bL+1)+1)+1) ((aQ ((bL+1)+1) ((aQ (bL+1) ((aQ bL o0)++ [(dT .u8 (cq .i64 n 56))]))++ [(dT .u8 (cq .i64 n 48))]))++ [(dT .u8 (cq .i64 n 40))]))++ [(dT .u8 (cq .i64 n 32))]))++ [(dT .u8 (cq .i64 n 24))])))) (aG (cT ((((((bL+1)+1)+1)+1)+1)+1) 1) (aG (decide (((((((bL+1)+1)+1)+1)+1)+1)<=(ag ((aQ (((((bL+1)+1)+1)+1)+1) ((aQ ((((bL+1)+1)+1)+1) ((aQ (((bL+1)+1)+1) ((aQ ((bL+1)+1) ((aQ (bL+1) ((aQ bL o0)++ [(dT .u8 (cq .i64 n 56))]))++ [(dT .u8 (cq .i64 n 48))]))++ [(dT .u8 (cq .i64 n 40))]))++ [(dT .u8 (cq .i64 n 32))]))++ [(dT .u8 (cq .i64 n 24))]))++ [(dT .u8 (cq .i64 n 16))])))) (aG (cT (((((((bL+1)+1)+1)+1)+1)+1)+1) 1) (aG (decide ((((((((bL+1)+1)+1)+1)+1)+1)+1)<=(ag ((aQ ((((((bL+1)+1)+1)+1)+1)+1) ((aQ (((((bL+1)+1)+1)+1)+1) ((aQ ((((bL+1)+1)+1)+1) ((aQ (((bL+1)+1)+1) ((aQ ((bL+1)+1) ((aQ (bL+1) ((aQ bL o0)++ [(dT .u8 (cq .i64 n 56))]))++ [(dT .u8 (cq .i64 n 48))]))++ [(dT .u8 (cq .i64 n 40))]))++ [(dT .u8 (cq .i64 n 32))]))++ [(dT .u8 (cq .i64 n 24))]))++ [(dT .u8 (cq .i64 n 16))]))++ [(dT .u8 (cq .i64 n 8))])))) (aG (cT ((((((((bL+1)+1)+1)+1)+1)+1)+1)+1) 1) (k (Vm.out (((((((((bL+1)+1)+1)+1)+1)+1)+1)+1),((aQ (((((((bL+1)+1)+1)+1)+1)+1)+1) ((aQ ((((((bL+1)+1)+1)+1)+1)+1) ((aQ (((((bL+1)+1)+1)+1)+1) ((aQ ((((bL+1)+1)+1)+1) ((aQ (((bL+1)+1)+1) ((aQ ((bL+1)+1) ((aQ (bL+1) ((aQ bL o0)++ [(dT .u8 (cq .i64 n 56))]))++ [(dT .u8 (cq .i64 n 48))]))++ [(dT .u8 (cq .i64 n 40))]))++ [(dT .u8 (cq .i64 n 32))]))++ [(dT .u8 (cq .i64 n 24))]))++ [(dT .u8 (cq .i64 n 16))]))++ [(dT .u8 (cq .i64 n 8))]))++ [(dT .u8 (cq .i64 n 0))])))) none) none) none) none) none) none) none) none) none) none) none) none) none) none) none) none:=by kernel_rfl
theorem aKH:Vm.Ok:=by rintro⟨m,n,l⟩ ⟨rfl,hl⟩;have hl:l.length<=140737488355320:=hl;rw[aKG];simp only[aw,cn,aj,aW,ai,az,aX,aJ];rw[D1 (by omega),D1 (by omega),D1 (by omega),D1 (by omega),D1 (by omega),D1 (by omega),D1 (by omega),D1 (by omega)];simp only[aj,bm,XS,<-ato,aC,iD,aR]
theorem ag7:Vm.RS:=rE [.n,.d ti,.d tB] Vm
def apu:=Vm.ban aia aKH 1 ⟨.none (by kernel_rfl),trivial⟩
abbrev SV:=Bs×Nat×Bs×(List Int)
abbrev agU:=Nat×(List Int)
abbrev aCE:=(Bs×Bs)×(Nat×(List Int))
def BL:SV->agU->aCE:=λ(gE,endL,n2,n14) y=>((gE,n2),y)
abbrev SX:=Bs×Nat×Bs×(List Int)×(List Int)
abbrev agV:=(List Int)
abbrev aCF:=(Nat×Bs×(List Int))×((List Int))
def BM:SX->agV->aCF:=λ(R3,M1,ki,n4,aaD) y=>((M1,ki,aaD),y)
abbrev SY:=Bs×Bs×(List Int)
abbrev agX:=(List Int)
abbrev aCG:=(Bs)×((List Int))
def BN:SY->agX->aCG:=λ(endv,sk,AF) y=>(sk,y)
abbrev agY:=Int×Bs×(List Int)
abbrev aCH:=Bs
abbrev aJT:=Bs
abbrev aVV:=Bs
def zc(n:Nat):Nat:=(120 - n%64)%64
def U3:SV->Prop:=λ(b,m,n2,l)=>m=l.length/\l.length+zc l.length<=140737488355328
def JO:SV->agU:=λ(b,m,n2,l)=>(l.length+zc l.length,l++ab (zc l.length) 0)
def U4:SX->Prop:=λ(b,m,n2,h,l)=>∃s:St,h=s.l
def JP:SX->agV:=λ(b,m,n2,h,l)=>(blocks (alL h) b).l
def U5:SY->Prop:=λ(b,n2,h)=>b.length%64=0/\∃s:St,h=s.l
def JQ:SY->agX:=λ(b,n2,h)=>(blocks (alL h) b).l
def KA(h:List Int)(i:Nat)(_:Int):Int:=dT .u8 (cq .u32 (nth (.int .u32) h (i / 4)) ((24 - 8*(i%4):Nat):Int))
def U6:agY->Prop:=λ(t,n2,h)=>n2.length=32/\h.length=8/\∃k:Nat,k<=32/\t=k
def JR:agY->aCH:=λ(t,n2,h)=>from_ (KA h) t.toNat n2
def aoZ:aJT->Prop:=λb=>b.length<=140737488350000
def auO:aJT->aVV:=λb=>aWW b
def yJ:Ls U3 BL JO:=qv (λ(gE,endL,n2,n14)=>⟨([.d tB gE,bA,eG 2,nE 14 endL]++aP 61 []),[],([[],[],dH (.d tH n2)]++bC 11 ([dH (.vec 5 tb n14)]++bC 50 []))⟩) (λx=>(.exit 0,⟨([.d tB x.1.1,bA,eG 2,nE 14 x.2.1]++aP 61 []),[],([[],[],dH (.d tH x.1.2)]++bC 11 ([dH (.vec 5 tb x.2.2)]++bC 50 []))⟩))
def yK:Ls U4 BM JP:=qv (λ(R3,M1,ki,n4,aaD)=>⟨([.d tB R3,bA,eG 2,.bu (.new 14 0) 8 [] 0 0 M1,eG 4]++aP 60 []),[],([[],[],dH (.d tH ki),[],dH (.d (.arr 8 (.int .u32)) n4)]++bC 9 ([[.obj 8 false (.vec 5 tb aaD)]]++bC 50 []))⟩) (λx=>(.exit 2,⟨([bA,bA,eG 2,.bu (.new 14 0) 8 [] 0 0 x.1.1,eG 4]++aP 60 []),[],([[],[],dH (.d tH x.1.2.1),[],dH (.d (.arr 8 (.int .u32)) x.2)]++bC 9 ([[.obj 8 false (.vec 5 tb x.1.2.2)]]++bC 50 []))⟩))
def yL:Ls U5 BN JQ:=qv (λ(endv,sk,AF)=>⟨([bA,bA,eG 2,.d tB endv,eG 4]++aP 60 []),[],([[],[],dH (.d tH sk),[],dH (.d (.arr 8 (.int .u32)) AF)]++bC 60 [])⟩) (λx=>(.exit 4,⟨([bA,bA,eG 2,bA,eG 4]++aP 60 []),[],([[],[],dH (.d tH x.1),[],dH (.d (.arr 8 (.int .u32)) x.2)]++bC 60 [])⟩))
def yM:Ls U6 bm JR:=qv (λ(t48,Nv,Qg)=>⟨([bA,bA,eG 2,bA,eG 4]++aP 43 ([.d ti t48]++aP 16 [])),[],([[],[],dH (.d tH Nv),[],dH (.d (.arr 8 (.int .u32)) Qg)]++bC 60 [])⟩) (λx=>(.exit 6,⟨([bA,bA,eG 2]++aP 62 []),[],([[],[],dH (.d tH x)]++bC 62 [])⟩))
def Dy:Fs Tryz.prog aoZ bm auO:=eI 112 Tryz.f112 (λb=>([.d tB b],[])) (λx=>⟨.d tH x,[],[]⟩) [some tB] [SC,apu,aJn,aWn] {loops:=nD [(2,{aU:=[0,2,3],sites:=[2,14],owns:=[⟨3,[],14,127⟩]}),(6,{aU:=[0,2,3,4],sites:=[2,4,14]}),(9,{aU:=[2,3,4],sites:=[2,4],data:=[(3,tB)]}),(13,{aU:=[2,4,48],sites:=[2,4]})],outs:=nC [(2,{aU:=[0,2,3],sites:=[2,14]},{aU:=[2]}),(6,{aU:=[2,3,4],sites:=[2,4,14]},{aU:=[2]}),(9,{aU:=[2,4],sites:=[2,4]},{aU:=[2]}),(13,{aU:=[2],sites:=[2]},{aU:=[2]})],fu:=np [(2,yJ.E),(6,yK.E),(9,yL.E),(13,yM.E)]}
theorem aoV:yJ.RS:=rL [.d tB,.n,.d tB,.d tB] yJ
theorem PG{R:Type}(gE endL n2 n14)(kn:K2 R)(kx:K3 R):Dy.R 0 yJ (gE,endL,n2,n14) kn kx=aG ((BQ (mm ((endL:Nat):Int) 64) 56)) (aG (decide (endL<=(ag n14))) (aG (cT (endL+1) 1) (kn (yJ.st (gE,(endL+1),n2,((aQ endL n14)++ [0])))) none) none) (yJ.go kx ((gE,n2),(endL,n14))):=by kernel_rfl
theorem aoW:yK.RS:=rL [.d tB,.n,.d tB,.d (.slice (.int .u32)),.d tB] yK
theorem PH{R:Type}(R3 M1 ki n4 aaD)(kn:K2 R)(kx:K3 R):Dy.R 1 yK (R3,M1,ki,n4,aaD) kn kx=aG ((BP (R3.length:Int) 64)) (aG (inc 64 (R3.length:Int)) (ak (mix.call (n4,(cut R3 0 64))) λx1=>aG (inc 64 (R3.length:Int)) (kn (yK.st ((cut R3 64 ((ag R3) - 64)),M1,ki,x1,aaD))) none) none) (yK.go kx ((M1,ki,aaD),n4)):=by kernel_rfl
theorem aoX:yL.RS:=rL [.d tB,.d tB,.d (.slice (.int .u32))] yL
theorem PI{R:Type}(endv sk AF)(kn:K2 R)(kx:K3 R):Dy.R 2 yL (endv,sk,AF) kn kx=aG ((w5 (endv.length:Int) 0)) (aG (inc 64 (endv.length:Int)) (ak (mix.call (AF,(cut endv 0 64))) λx1=>aG (inc 64 (endv.length:Int)) (kn (yL.st ((cut endv 64 ((ag endv) - 64)),sk,x1))) none) none) (yL.go kx (sk,AF)):=by kernel_rfl
theorem aoY:yM.RS:=rL [.d ti,.d tB,.d (.slice (.int .u32))] yM
theorem PJ{R:Type}(t48 Nv Qg)(kn:K2 R)(kx:K3 R):Dy.R 3 yM (t48,Nv,Qg) kn kx=aG ((fP t48 32)) (aG (ed (td .i64 t48 4) 8) (aG (decide ((ae (td .i64 t48 4)) < (ag Qg))) (aG (decide ((((ae (td .i64 t48 4))*1)+0)=(0+((ae (td .i64 t48 4))*1)))) (aG (ma (cI .i64 24 (fX .i64 8 (mm t48 4)))) (aG (ed t48 32) (aG (decide ((ae t48) < (ag Nv))) (aG (decide ((((ae t48)*1)+0)=(0+((ae t48)*1)))) (aG (decide ((ae t48) < (ag Nv))) (kn (yM.st ((bH .i64 t48 1),(fK Nv (ae t48) (dT .u8 (cq .u32 (nth (.int .u32) Qg (ae (td .i64 t48 4))) (cI .i64 24 (fX .i64 8 (mm t48 4)))))),Qg))) none) none) none) none) none) none) none) none) (yM.go kx Nv):=by kernel_rfl
theorem aQV{R:Type}(b)(k:K1 R):Dy.A b k=aG (inc (cI .i64 (b.length:Int) (mm (b.length:Int) 64)) (b.length:Int)) (ak (Ad.call (cut b (ae (cI .i64 (b.length:Int) (mm (b.length:Int) 64))) ((ag b) - (ae (cI .i64 (b.length:Int) (mm (b.length:Int) 64)))))) λx1=>aG (decide (x1.1<=(ag x1.2))) (aG (cT (x1.1+1) 1) (ak (yJ.call (b,(x1.1+1),(ab 32 0),((aQ x1.1 x1.2)++ [128]))) λx2=>ak (Vm.call (x2.2.1,(fX .i64 8 (x2.1.1.length:Int)),x2.2.2)) λx3=>ak (first.call ()) λx4=>ak (yK.call (x2.1.1,x3.1,x2.1.2,x4,x3.2)) λx6=>aG (decide (0=0/\(0+x6.1.1)<=(ag x6.1.2.2))) (ak (yL.call ((cut x6.1.2.2 0 x6.1.1),x6.1.2.1,x6.2)) λx9=>ak (yM.call (0,x9.1,x9.2)) λasN=>k (Dy.out asN)) none) none) none) none:=by kernel_rfl
theorem auP:(Dy.jP 0 yJ):=by
 refine(Dy.lk 0 yJ) (λ(b,m,n2,l)=>zc l.length) ?_
 rintro⟨b,m,n2,l⟩ ⟨rfl,hl⟩;have hl:l.length+zc l.length<=140737488355328:=hl;have hr:mm ((l.length:Nat):Int) 64=((l.length%64:Nat):Int):=by unfold mm;rw[gT (by omega)];omega
 by_cases h:l.length%64=56
 ·right;intro R kn kx;have hz:zc l.length=0:=by unfold zc;omega
  rw[PG,hr,dx (by omega)];simp only[al,BL,JO,hz,cd,List.replicate_zero,bj]
 ·left;have hz:zc l.length=zc (l.length+1)+1:=by unfold zc;omega
  refine⟨(b,l.length+1,n2,l++ [0]),⟨by simp,by simp only[ai,az,aX,aJ];omega⟩,by simp only[ai,az,aX,aJ];omega,?_,λkn kx=> ?_⟩
  ·simp only[BL,JO,ai,az,aX,aJ,hz,aC,iD,aR,List.replicate_succ];rw[show l.length+1+zc (l.length+1)=l.length+(zc (l.length+1)+1) by omega]
  ·rw[PG,hr,fa (by omega),D1 (by omega)];simp only[aj,aw,cn,bJ]
theorem auQ:(Dy.jP 1 yK):=by
 refine(Dy.lk 1 yK) (λ(b,m,n2,h,l)=>b.length) ?_
 rintro⟨b,m,n2,h,l⟩ ⟨s,rfl⟩;by_cases hb:64<=b.length
 ·left;have e1:cut b 64 (b.length - 64)=b.drop 64:=by unfold cut;rw[aW (by simp)]
  have e2:cut b 0 64=b.take 64:=rfl;have hp:akz (s.l,b.take 64):=⟨⟨s,rfl⟩,by simp;omega⟩;refine⟨(b.drop 64,m,n2,(Tl s (b.take 64)).l,l),⟨_,rfl⟩,by simp;omega,?_,λkn kx=> ?_⟩
  ·simp only[BM,JP,nY];rw[He s b hb]
  ·rw[PH,fW (by omega),tW (by omega) (by omega),e1,e2];simp only[aj,azm hp,ah,bm,azl,nY]
 ·right;intro R kn kx;rw[PH,eo (by omega)];simp only[al,BM,JP,nY];rw[Em s b (by omega)]
theorem auR:(Dy.jP 2 yL):=by
 refine(Dy.lk 2 yL) (λ(b,n2,h)=>b.length) ?_
 rintro⟨b,n2,h⟩ ⟨hm,s,rfl⟩;have hm:b.length%64=0:=hm;by_cases hb:0 < b.length
 ·left;have e1:cut b 64 (b.length - 64)=b.drop 64:=by unfold cut;rw[aW (by simp)]
  have e2:cut b 0 64=b.take 64:=rfl;have hp:akz (s.l,b.take 64):=⟨⟨s,rfl⟩,by simp;omega⟩;refine⟨(b.drop 64,n2,(Tl s (b.take 64)).l),⟨by simp;omega,_,rfl⟩,by simp;omega,?_,λkn kx=> ?_⟩
  ·simp only[BN,JQ,nY];rw[He s b (by omega)]
  ·rw[PI,df (by omega),tW (by omega) (by omega),e1,e2];simp only[aj,azm hp,ah,bm,azl,nY]
 ·right;intro R kn kx;rw[PI,cE (by omega)];simp only[al,BN,JQ,nY];rw[Em s b (by omega)]
theorem auS:(Dy.jP 3 yM):=by
 refine(Dy.lk 3 yM) (λ(t,n2,h)=>32 - t.toNat) ?_
 rintro⟨t,m,h⟩ ⟨hl,h8,k,hk,rfl⟩;have hl:m.length=32:=hl;have h8:h.length=8:=h8;have e2:ae (k:Int)=k:=by omega
 have e3:ae ((k+1:Nat):Int)=k+1:=by omega
 by_cases gv:k < 32
 ·left;have e1:bH .i64 (k:Int) 1=((k+1:Nat):Int):=by rw[fE (by omega) (by omega)];omega
  have q4:td .i64 (k:Int) 4=((k / 4:Nat):Int):=by
   have:(k:Int).tdiv 4=((k / 4:Nat):Int):=by rw[jT (by omega)];omega
   unfold td;rw[this,tT (by omega) (by omega)]
  have r4:mm (k:Int) 4=((k%4:Nat):Int):=by unfold mm;rw[gT (by omega)];omega
  have s4:cI .i64 24 (fX .i64 8 ((k%4:Nat):Int))=((24 - 8*(k%4):Nat):Int):=by rw[HG (by omega) (by omega),ez (by omega) (by omega)];omega
  have e4:ae ((k / 4:Nat):Int)=k / 4:=by omega
  refine⟨(((k+1:Nat):Int),m.set k (KA h k m[k]),h),⟨by simpa using hl,h8,k+1,by omega,rfl⟩,by simp;omega,?_,λkn kx=> ?_⟩
  ·simp only[bm,JR,e2,e3];rw[JL (KA h) m k (by omega)]
  ·have d0:decide (k < 32)=true:=aH gv;have d1:decide (k / 4 < 8)=true:=aH (by omega);rw[PJ,aT (by omega),q4,r4,s4,bf (by omega) (by omega),bf (by omega) (by omega),sO (by omega)];simp only[e1,e2,e4,gD,aJ,cd,cn,aj,hl,h8,d0,d1,KA]
 ·right;obtain rfl:k=32:=by omega
  intro R kn kx;rw[PJ,aO (by omega)];simp only[al,bm,JR,e2];rw[PA _ _ _ (by omega)]
theorem aDA(w:W):aZ 8 (vw w)=w.setWidth 8:=by apply BitVec.eq_of_toNat_eq;rw[rN,BitVec.toNat_setWidth];unfold vw;omega
theorem aUX(w:W)(k:Int):dT .u8 (cq .u32 (vw w) k)=vw ((w >>> k.toNat).setWidth 8):=by rw[HJ,S4,aDA]
theorem azw(s:St):from_ (KA s.l) 0 (ab 32 0)=aRU s:=by rw[ZI];simp only[List.range_eq_range',List.range',bT,gV,KA,Nat.reduceAdd,Nat.reduceDiv,Nat.reduceMod,Nat.reduceMul,Nat.reduceSub,n0,n1,n2,n3,n4,n5,n6,n7,aUX];rfl
theorem aQW:Dy.Ok:=by
 intro b hb;have hb:b.length<=140737488350000:=hb;have hr:mm ((b.length:Nat):Int) 64=((b.length%64:Nat):Int):=by unfold mm;rw[gT (by omega)];omega
 have hs:cI .i64 ((b.length:Nat):Int) ((b.length%64:Nat):Int)=((b.length - b.length%64:Nat):Int):=by rw[ez (by omega) (by omega)];omega
 have hn:ae ((b.length - b.length%64:Nat):Int)=b.length - b.length%64:=by omega
 have hm:fX .i64 8 ((b.length:Nat):Int)=8*(b.length:Int):=HG (by omega) (by omega);generalize hq:b.length - b.length%64=q at hs hn;have hc:cut b q (b.length - q)=b.drop q:=by unfold cut;rw[aW (by simp)]
 have aGm:(b.drop q).length=b.length%64:=by simp;omega
 have p1:YY (b.drop q):=by show(b.drop q).length<=_;omega
 rw[aQV,hr,hs,tW (by omega) (by omega),hn,hc];simp only[aj,ME p1,ah,bm,Hl,aw,cn,bJ];have p2:U3 (b,(b.drop q).length+1,ab 32 0,b.drop q++ [128]):=by refine⟨by simp,?_⟩;simp only[ai,az,aX,zc];omega
 have hz:zc (b.drop q++ [128]).length=AL b.length:=by simp only[ai,az,aX,zc,AL];omega
 rw[D1 (by omega)];simp only[aj,aoV p2,ah,BL,JO,hm,hz];have hlen:(b.drop q++ [128]).length+AL b.length=(b.drop q++ [128]++ab (AL b.length) 0).length:=by rw[@ai _ (b.drop q++ [128]),b8]
 have p3:Ti ((b.drop q++ [128]).length+AL b.length,8*(b.length:Int),b.drop q++ [128]++ab (AL b.length) 0):=by refine⟨hlen,?_⟩;simp only[ai,az,aX,b8,AL];omega
 have p4:U4 (b,(b.drop q++ [128]++ab (AL b.length) 0).length+8,ab 32 0,rW.l,b.drop q++ [128]++ab (AL b.length) 0++iX (8*(b.length:Int))):=⟨rW,rfl⟩;simp only[ag7 p3,ah,bm,XS,aCe (d:=()) trivial,bm,ayP,aoW p4,BM,JP,nY];generalize he:b.drop q++ [128]++ab (AL b.length) 0++iX (8*(b.length:Int))=e;have Kk:(b.drop q++ [128]++ab (AL b.length) 0).length+8=e.length:=by rw[<-he,@ai _ _ (iX _),bY]
 have aXH:e.length%64=0:=by rw[<-Kk];simp only[ai,az,aX,b8,AL,aGm];omega
 have aVD:cut e 0 ((b.drop q++ [128]++ab (AL b.length) 0).length+8)=e:=by rw[Kk];unfold cut;rw[aF,bJ]
 rw[aVD,Kk,aH ⟨trivial,by omega⟩];have p5:U5 (e,ab 32 0,(blocks rW b).l):=⟨aXH,blocks rW b,rfl⟩;have p6:U6 (0,ab 32 0,(blocks (blocks rW b) e).l):=⟨rfl,rfl,0,by omega,rfl⟩;simp only[aj,aoX p5,ah,BN,JQ,nY,aoY p6,bm,JR,bm,auO];rw[show ae 0=0 from rfl,azw];have aXD:blocks rW (pad b)=blocks (blocks rW b) e:=by
  have h1:pad b=b.take q++e:=by rw[<-he];unfold pad;rw[aC,aC,<-aC (b.take q),dE];rfl
  have h2:blocks rW b=blocks (blocks rW (b.take q)) (b.drop q):=by rw[<-Kx _ _ _ (by simp;omega),dE]
  rw[h1,Kx _ _ _ (by simp;omega),h2,Em _ (b.drop q) (by omega)]
 rw[aWW,aXD]
theorem aJU:Dy.RS:=rE [.d tB] Dy
def aQX:=Dy.eN aQW 4 ⟨.fm auP,⟨.fm auQ,⟨.fm auR,⟨.fm auS,trivial⟩⟩⟩⟩
abbrev S0:=Nat×(List Bs)×Int×Int×Bs×(List Int)
abbrev agZ:=Nat×(List Int)
abbrev aCI:=(Bs)×(Nat×(List Int))
def BO:S0->agZ->aCI:=λ(bL,t13,t14,t15,n4,n10) y=>(n4,y)
abbrev aJV:=ByteArray×(List Bs)
abbrev aVW:=Bs
def U7:S0->Prop:=λ(m,ps,n,i,n4,l)=>m=l.length/\n=ps.length/\ps.length<=140737488350000/\∃k:Nat,k<=ps.length/\i=k/\l.length+(og (ps.drop k)).length<=140737488350000
def JS:S0->agZ:=λ(m,ps,n,i,n4,l)=>(l.length+(og (ps.drop i.toNat)).length,l++og (ps.drop i.toNat))
def PL:aJV->Prop:=λ(name,ps)=>(T8 (bF name) ps).length<=140737488350000
def aj6:aJV->aVW:=λ(name,ps)=>tag (bF name) ps
def yN:Ls U7 BO JS:=qv (λ(bL,t13,t14,t15,n4,n10)=>⟨(aP 4 ([eG 4,nE 10 bL]++aP 7 ([.d (.slice tB) t13,.d ti t14,.d ti t15]++aP 12 []))),[],(bC 4 ([dH (.d tH n4)]++bC 5 ([dH (.vec 5 tb n10)]++bC 17 [])))⟩) (λx=>(.exit 0,⟨(aP 4 ([eG 4,nE 10 x.2.1]++aP 22 [])),[],(bC 4 ([dH (.d tH x.1)]++bC 5 ([dH (.vec 5 tb x.2.2)]++bC 17 [])))⟩))
def SZ:Fs Tryz.prog PL bm aj6:=eI 68 Tryz.f68 (λ(name,parts)=>([.d .str name,.d (.slice tB) parts],[])) (λx=>⟨.d tH x,[],[]⟩) [some .str,some (.slice tB)] [aKF,apu,aQX] {loops:=nD [(3,{aU:=[4,5,13,14,15],sites:=[4,10],owns:=[⟨5,[],10,127⟩]})],outs:=nC [(3,{aU:=[4,5],sites:=[4,10]},{aU:=[4]})],fu:=np [(3,yN.E)]}
theorem ao0:yN.RS:=rL [.n,.d (.slice tB),.d ti,.d ti,.d tB,.d tB] yN
theorem PK{R:Type}(bL t13 t14 t15 n4 n10)(kn:K2 R)(kx:K3 R):SZ.R 0 yN (bL,t13,t14,t15,n4,n10) kn kx=aG ((fP t15 t14)) (aG (ed t15 (t13.length:Int)) (ak (Vm.call (bL,(((ag (nth tB t13 (ae t15))):Nat):Int),n10)) λx1=>aG (decide (x1.1<=(ag x1.2))) (aG (cT (x1.1+(ag (nth tB t13 (ae t15)))) 1) (kn (yN.st ((x1.1+(ag (nth tB t13 (ae t15)))),t13,t14,(bH .i64 t15 1),n4,((aQ x1.1 x1.2)++(nth tB t13 (ae t15)))))) none) none) none) (yN.go kx (n4,(bL,n10))):=by kernel_rfl
theorem aQY{R:Type}(name parts)(k:K1 R):SZ.A (name,parts) k=ak (aal.call (((ByteArray.size name):Nat):Int)) λx1=>aG (decide (x1.1<=(ag x1.2))) (aG (cT (x1.1+(ag (bF name))) 1) (ak (yN.call ((x1.1+(ag (bF name))),parts,(parts.length:Int),0,(ab 32 0),((aQ x1.1 x1.2)++(bF name)))) λx4=>aG (decide (0=0/\(0+x4.2.1)<=(ag x4.2.2))) (ak (Dy.call (cut x4.2.2 0 x4.2.1)) λx5=>k (SZ.out x5)) none) none) none:=by kernel_rfl
theorem aid(p:List Int)(ps:List (List Int)):og (p::ps)=iX p.length++p++og ps:=by simp[og]
theorem aie(ps:List (List Int))(k:Nat)(h:k < ps.length):og (ps.drop k)=iX ps[k].length++ps[k]++og (ps.drop (k+1)):=by rw[ao h,aid]
theorem auT:(SZ.jP 0 yN):=by
 refine(SZ.lk 0 yN) (λ(m,ps,n,i,n4,l)=>ps.length - i.toNat) ?_
 rintro⟨m,ps,n,i,n4,l⟩ ⟨rfl,rfl,Oi,k,hk,rfl,hl⟩;have hl:l.length+(og (ps.drop k)).length<=140737488350000:=hl;have hk:k<=ps.length:=hk;have e2:ae (k:Int)=k:=by omega
 have e3:ae ((k+1:Nat):Int)=k+1:=by omega
 by_cases h:k < ps.length
 ·left;have ht:=aie ps k h;have hlen:(og (ps.drop k)).length=8+ps[k].length+(og (ps.drop (k+1))).length:=by rw[ht];simp only[ai,bY]
  have hn:nth (.slice (.int .u8)) ps k=ps[k]:=bV (t:= .slice (.int .u8)) h;have Oi:ps.length<=140737488350000:=Oi;have e1:bH .i64 (k:Int) 1=((k+1:Nat):Int):=by rw[fE (by omega) (by omega)];omega
  refine⟨((l++iX ps[k].length++ps[k]).length,ps,(ps.length:Int),((k+1:Nat):Int),n4,l++iX ps[k].length++ps[k]),⟨rfl,rfl,Oi,k+1,by show k+1<=ps.length;omega,rfl,?_⟩,?_,?_,λkn kx=> ?_⟩
  ·show(l++iX ps[k].length++ps[k]).length+(og (ps.drop (k+1))).length<=_;simp only[ai,bY];omega
  ·show ps.length - ae ((k+1:Nat):Int) < ps.length - ae (k:Int);omega
  ·simp only[BO,JS,e2,e3,ht,aC];simp only[ai,bY,eK]
  ·have p1:Ti (l.length,(ps[k].length:Int),l):=⟨rfl,by show l.length<=_;omega⟩;rw[PK,aT (by omega),bf (by omega) (by omega),e1,e2];simp only[aj,hn,ag7 p1,ah,bm,XS];have aOR:(l++iX ps[k].length).length=l.length+8:=by simp[bY]
   rw[aOR,aH (aw _),D1 (by omega)];simp only[aj];rw[aW (by rw[aOR];omega)];simp only[ai,bY,eK]
 ·right;obtain rfl:k=ps.length:=by omega
  intro R kn kx;rw[PK,aO (by omega)];simp only[al,BO,JS,e2,aK];simp[og]
theorem ac2:∀ps:List (List Int),8*ps.length<=(og ps).length
 |[]=>by simp[og]
 |p::ps=>by rw[aid];have:=ac2 ps;simp only[ai,bY,az];omega
theorem kI(s:ByteArray):(bF s).length=s.size:=by simp only[bF,bX,cH];rfl
theorem aQZ:SZ.Ok:=by
 rintro⟨name,ps⟩ hp;have hp:(iX (bF name).length++bF name++og ps).length<=140737488350000:=hp;have hl:(iX (bF name).length++bF name++og ps).length=8+(bF name).length+(og ps).length:=by simp only[ai,bY]
 have Oi:=ac2 ps;have tc:((name.size:Nat):Int)=(((bF name).length:Nat):Int):=by rw[kI]
 rw[aQY,aC8 (d:=((name.size:Nat):Int)) trivial,tc];simp only[ah,bm,aze,bY,aw,cn,aj];rw[D1 (by omega),aW (by rw[bY];omega)];have p2:U7 (8+(bF name).length,ps,(ps.length:Int),0,ab 32 0,iX ((bF name).length:Int)++bF name):=by refine⟨by simp only[ai,bY],rfl,by show ps.length<=_;omega,0,aL _,rfl,?_⟩;rw[aF];simp only[ai,bY];omega
 simp only[aj,ao0 p2,ah,BO,JS,aY,aF];have aCy:cut (iX ((bF name).length:Int)++bF name++og ps) 0 ((iX ((bF name).length:Int)++bF name).length+(og ps).length)=T8 (bF name) ps:=by unfold cut;rw[aF,aW (by simp only[ai];omega)];rfl
 have p3:aoZ (T8 (bF name) ps):=hp;rw[aH ⟨trivial,by simp only[ai];omega⟩,aCy];simp only[aj,aJU p3,ah,bm,auO,bm,aj6,tag]
theorem PM:SZ.RS:=rE [.d .str,.d (.slice tB)] SZ
def XJ:=SZ.eN aQZ 1 ⟨.fm auT,trivial⟩
abbrev az2:=Int×Int
abbrev aSE:=Int
def ahX:az2->Prop:=λ(x,n)=>0<=x/\x < 4294967296/\0<=n/\n<=32
def aSD:az2->aSE:=λ(x,n)=>vw (vC (aZ 32 x) n.toNat)
def ph:Fs Tryz.prog ahX bm aSD:=eI 222 Tryz.f222 (λ(x,n)=>([.d (.int .u32) x,.d ti n],[])) (λx=>⟨.d (.int .u32) x,[],[]⟩) [some (.int .u32),some ti]
theorem aMW{R:Type}(x n)(k:K1 R):ph.A (x,n) k=aG (ma n) (aG (ma (cI .i64 32 n)) (k (ph.out (cD .or .u32 (cq .u32 x n) (l5 .u32 x (cI .i64 32 n))))) none) none:=by kernel_rfl
theorem aMX:ph.Ok:=by
 rintro⟨x,n⟩ ⟨h1,h2,h3,h4⟩;obtain⟨n,rfl⟩:=Int.eq_ofNat_of_zero_le h3;have hx:x=vw (aZ 32 x):=by rw[gK];have h1:0<=x:=h1;have h2:x < 4294967296:=h2;omega
 have h4:(n:Int)<=32:=h4;rw[aMW];simp(disch:=omega) only[↓S1,↓if_pos,↓if_neg,if_pos,if_neg,bG,bp,S2];have e2:cD .or .u32 (cq .u32 x (n:Int)) (l5 .u32 x ((32 - n:Nat):Int))=vw (vC (aZ 32 x) n):=by
  conv=>lhs;rw[hx]
  rw[PS,HJ,pP];simp only[vC,aa];rw[BitVec.or_comm]
 rw[e2];rfl
theorem aES:ph.RS:=rE [.d (.int .u32),.d ti] ph
def ars:=ph.eN aMX
theorem AX(w:W){k:Int}(h:0<=k/\k<=32):ph.call (vw w,k)=some (vw (vC w k.toNat)):=by have h:ahX (vw w,k):=⟨Ue w,by have:=aOc w;simpa using this,h.1,h.2⟩;rw[aES h];show some (vw (vC (aZ 32 (vw w)) k.toNat))=_;rw[uh]
abbrev ahJ:=Unit
abbrev aEB:=(List Int)
def arb:ahJ->Prop:=λ_=>True
def ahK:ahJ->aEB:=λ_=>rW.l
def Fl:Fs Tryz.prog arb bm ahK:=eI 189 Tryz.f189 (λ_=>([],[])) (λx=>⟨.d (.slice (.int .u32)) x,[],[]⟩) [] [] {bI:=[1],res:=[some (.slice (.int .u32))]}
theorem aws{R:Type}(d)(k:K1 R):Fl.A d k=k (Fl.out [1779033703,3144134277,1013904242,2773480762,1359893119,2600822924,528734635,1541459225]):=by kernel_rfl
theorem awt:Fl.Ok:=by intro d _;rw[aws];rfl
theorem arc:Fl.RS:=rE [] Fl
def awu:=Fl.eN awt
abbrev azM:=Unit
abbrev aSe:=(List Int)
def aEp:azM->Prop:=λ_=>True
def azN:azM->aSe:=λ_=>Te
def abY:Fs Tryz.prog aEp bm azN:=eI 221 Tryz.f221 (λ_=>([],[])) (λx=>⟨.d (.slice (.int .u32)) x,[],[]⟩) [] [] {bI:=[1],res:=[some (.slice (.int .u32))]}
theorem aMd{R:Type}(d)(k:K1 R):abY.A d k=k (abY.out [1116352408,1899447441,3049323471,3921009573,961987163,1508970993,2453635748,2870763221,3624381080,310598401,607225278,1426881987,1925078388,2162078206,2614888103,3248222580,3835390401,4022224774,264347078,604807628,770255983,1249150122,1555081692,1996064986,2554220882,2821834349,2952996808,3210313671,3336571891,3584528711,113926993,338241895,666307205,773529912,1294757372,1396182291,1695183700,1986661051,2177026350,2456956037,2730485921,2820302411,3259730800,3345764771,3516065817,3600352804,4094571909,275423344,430227734,506948616,659060556,883997877,958139571,1322822218,1537002063,1747873779,1955562222,2024104815,2227730452,2361852424,2428436474,2756734187,3204031479,3329325298]):=by kernel_rfl
theorem aMe:abY.Ok:=by intro d _;rw[aMd];rfl
theorem aEq:abY.RS:=rE [] abY
def aMf:=abY.eN aMe
abbrev Fp:=Bs×Nat×(List Int)
abbrev QT:=Nat×(List Int)
abbrev alk:=(Bs)×(Nat×(List Int))
def um:Fp->QT->alk:=λ(gE,outL,n6) y=>(gE,y)
abbrev QU:=Nat×Int×Int×(List Int)
abbrev alm:=Nat×(List Int)
abbrev ahT:=Bs
abbrev aEN:=Bs
def IJ:Fp->Prop:=λ(b,m,l)=>m=l.length/\l.length+zc l.length<=140737488355328
def zf:Fp->QT:=λ(b,m,l)=>(l.length+zc l.length,l++ab (zc l.length) 0)
def IK:QU->Prop:=λ(m,n,kv,l)=>0<=n/\n < 18446744073709551616/\∃j:Nat,j<=8/\kv=56 - 8*(j:Int)/\m=l.length/\l.length<=140737488355320+j
def zg:QU->alm:=λ(m,n,kv,l)=>(l.length+(iX n).length - (7 - (kv / 8)).toNat,l++(iX n).drop (7 - (kv / 8)).toNat)
def Wi:ahT->Prop:=λb=>b.length<=140737488350000
def TL:ahT->aEN:=λb=>pad b
def mY:Ls IJ um zf:=qv (λ(gE,outL,n6)=>⟨([.d tB gE,bA,bA,nE 6 outL]++aP 31 []),[],(bC 6 ([dH (.vec 5 tb n6)]++bC 28 []))⟩) (λx=>(.exit 0,⟨([.d tB x.1,bA,bA,nE 6 x.2.1]++aP 31 []),[],(bC 6 ([dH (.vec 5 tb x.2.2)]++bC 28 []))⟩))
def mZ:Ls IK bm zg:=qv (λ(H3,n,kv,aDo)=>⟨([bA,bA,bA,nE 6 H3,.d tu n,.d ti kv]++aP 29 []),[],(bC 6 ([dH (.vec 5 tb aDo)]++bC 28 []))⟩) (λx=>(.exit 2,⟨([bA,bA,bA,nE 6 x.1]++aP 31 []),[],(bC 6 ([dH (.vec 5 tb x.2)]++bC 28 []))⟩))
def qh:Fs Tryz.prog Wi bm TL:=eI 188 Tryz.f188 (λb=>([.d tB b],[])) (λx=>⟨.d tB x,[],[]⟩) [some tB] [] {bI:=[6],loops:=nD [(3,{aU:=[0,3],sites:=[6],owns:=[⟨3,[],6,127⟩]}),(7,{aU:=[3,4,5],sites:=[6],owns:=[⟨3,[],6,127⟩]})],outs:=nC [(3,{aU:=[0,3],sites:=[6]},{aU:=[2]}),(7,{aU:=[3],sites:=[6]},{aU:=[2]})],fu:=np [(3,mY.E),(7,mZ.E)],res:=[some tB]}
theorem acp:mY.RS:=rL [.d tB,.n,.d tB] mY
theorem Gn{R:Type}(gE outL n6)(kn:K2 R)(kx:K3 R):qh.R 0 mY (gE,outL,n6) kn kx=aG ((BQ (mm ((outL:Nat):Int) 64) 56)) (aG (decide (outL<=(ag n6))) (aG (cT (outL+1) 1) (kn (mY.st (gE,(outL+1),((aQ outL n6)++ [0])))) none) none) (mY.go kx (gE,(outL,n6))):=by kernel_rfl
theorem acq:mZ.RS:=rL [.n,.d tu,.d ti,.d tB] mZ
theorem Gp{R:Type}(H3 n kv aDo)(kn:K2 R)(kx:K3 R):qh.R 1 mZ (H3,n,kv,aDo) kn kx=aG ((BP kv 0)) (aG (ma kv) (aG (decide (H3<=(ag aDo))) (aG (cT (H3+1) 1) (kn (mZ.st ((H3+1),n,(cI .i64 kv 8),((aQ H3 aDo)++ [(dT .u8 (cq .u64 n kv))])))) none) none) none) (mZ.go kx (H3,aDo)):=by kernel_rfl
theorem awE{R:Type}(b)(k:K1 R):qh.A b k=aG (cT (0+(ag b)) 1) (aG (decide ((0+(ag b))<=(ag ((aQ 0 (ab 0 0))++b)))) (aG (cT ((0+(ag b))+1) 1) (ak (mY.call (b,((0+(ag b))+1),((aQ (0+(ag b)) ((aQ 0 (ab 0 0))++b))++ [128]))) λx1=>ak (mZ.call (x1.2.1,(fX .u64 8 (dT .u64 (x1.1.length:Int))),56,x1.2.2)) λx2=>aG (decide (0=0/\(0+x2.1)<=(ag x2.2))) (k (qh.out (cut x2.2 0 x2.1))) none) none) none) none:=by kernel_rfl
theorem afb:(qh.jP 0 mY):=by
 refine(qh.lk 0 mY) (λ(b,m,l)=>zc l.length) ?_
 rintro⟨b,m,l⟩ ⟨rfl,hl⟩;have hl:l.length+zc l.length<=140737488355328:=hl;by_cases h:l.length%64=56
 ·right;intro R kn kx;have hz:zc l.length=0:=by unfold zc;omega
  rw[Gn];simp(disch:=omega) only[↓S1,↓if_pos,↓if_neg,if_pos,if_neg,bG,bp,S2,um,zf,hz,cd,List.replicate_zero,bj]
 ·left;have hz:zc l.length=zc (l.length+1)+1:=by unfold zc;omega
  refine⟨(b,l.length+1,l++ [0]),⟨by simp,by simp only[ai,az,aX,aJ];omega⟩,by simp only[ai,az,aX,aJ];omega,?_,λkn kx=> ?_⟩
  ·simp only[um,zf,ai,az,aX,aJ,hz,aC,iD,aR,List.replicate_succ];rw[show l.length+1+zc (l.length+1)=l.length+(zc (l.length+1)+1) by omega]
  ·rw[Gn];simp(disch:=omega) only[↓S1,↓if_pos,↓if_neg,if_pos,if_neg,bG,bp,S2,bJ]
theorem amW(n:Int)(j:Nat)(h:j < 8):(iX n).drop j=n / 2^(56 - 8*j)%256::(iX n).drop (j+1):=by rcases(by omega:j=0\/j=1\/j=2\/j=3\/j=4\/j=5\/j=6\/j=7) with rfl | rfl | rfl | rfl | rfl | rfl | rfl | rfl <;> simp[iX]
theorem adE(n:Int)(k:Nat)(h1:k<=64):dT .u8 (cq .u64 n (k:Int))=n / 2^k%256:=by
 rw[S4,gK,cq];have e:min (k:Int).toNat IntKind.u64.bits=k:=by simp only[IntKind.bits];omega
 rw[e,jS _ (Int.le_of_lt (Int.pow_pos (by omega)))];rfl
theorem afc:(qh.jP 1 mZ):=by
 refine(qh.lk 1 mZ) (λ(m,n,kv,l)=>(kv+8).toNat) ?_
 rintro⟨m,n,kv,l⟩ ⟨h1,h2,j,hj,rfl,rfl,hl⟩;have hl:l.length<=140737488355320+j:=hl;have e1:(7 - ((56 - 8*(j:Int)) / 8)).toNat=j:=by omega
 by_cases h:j < 8
 ·left;have e2:cI .i64 (56 - 8*(j:Int)) 8=56 - 8*((j+1:Nat):Int):=by rw[ez (by omega) (by omega)];omega
  have e3:(7 - ((56 - 8*((j+1:Nat):Int)) / 8)).toNat=j+1:=by omega
  have e4:(56 - 8*(j:Int))=((56 - 8*j:Nat):Int):=by omega
  refine⟨(l.length+1,n,56 - 8*((j+1:Nat):Int),l++ [n / 2^(56 - 8*j)%256]),⟨h1,h2,j+1,by omega,rfl,by simp,by simp only[ai,az,aX];omega⟩,by simp only;omega,?_,λkn kx=> ?_⟩
  ·simp only[bm,zg,e1,e3,amW n j h,ai,az,aX,aC,iD,aR,bY];rw[show l.length+(0+1)+8 - (j+1)=l.length+8 - j by omega]
  ·rw[Gp,e2,e4,adE n _ (by omega)];simp(disch:=omega) only[↓S1,↓if_pos,↓if_neg,if_pos,if_neg,bG,bp,S2,bJ]
 ·right;obtain rfl:j=8:=by omega
  intro R kn kx;rw[Gp];simp(disch:=omega) only[↓S1,↓if_pos,↓if_neg,if_pos,if_neg,bG,bp,S2,bm,zg,e1];simp[iX]
theorem awF:qh.Ok:=by
 intro b hb;have hb:b.length<=140737488350000:=hb;have hz:zc (b++ [128]).length=AL b.length:=by simp only[ai,az,aX,zc,AL];omega
 have beQ:AL b.length < 64:=by unfold AL;omega
 have p1:IJ (b,b.length+1,b++ [128]):=⟨by simp,by rw[hz];simp only[ai,az,aX] <;> omega⟩;have e1:dT .u64 ((b.length:Nat):Int)=((b.length:Nat):Int):=by rw[XK,gK];omega
 have e2:fX .u64 8 ((b.length:Nat):Int)=8*(b.length:Int):=by unfold fX;rw[wrap_u64,gK];omega
 have e3:aQ b.length b=b:=bJ;rw[awE];simp only[List.replicate_zero,List.take_nil,aR,aJ,e1,e2,e3];simp(disch:=omega) only[↓S1,↓if_pos,↓if_neg,if_pos,if_neg,bG,bp,S2,acp p1,um,zf,hz];have p2:IK ((b++ [128]).length+AL b.length,8*(b.length:Int),56,b++ [128]++ab (AL b.length) 0):=by refine⟨by omega,by omega,0,by omega,rfl,by simp only[ai,az,aX,b8] <;> omega,?_⟩;simp only[ai,az,aX,b8];omega
 simp(disch:=omega) only[↓S1,↓if_pos,↓if_neg,if_pos,if_neg,bG,bp,S2,e1,e2,acq p2,bm,zg];have e5:(7 - ((56:Int) / 8)).toNat=0:=by decide
 rw[e5,aF];have e6:(b++ [128]++ab (AL b.length) 0).length+(iX (8*(b.length:Int))).length - 0=(b++ [128]++ab (AL b.length) 0++iX (8*(b.length:Int))).length:=by rw[@ai _ _ (iX _)];omega
 rw[e6,if_pos (aw _)];unfold cut;rw[aF,bJ];simp only[bm,TL,pad,aC,iD,aR]
theorem ark:qh.RS:=rE [.d tB] qh
def awG:=qh.eN awF 2 ⟨.fm afb,⟨.fm afc,trivial⟩⟩
abbrev Wn:=Bs×Nat×Int×(List Int)
abbrev ary:=Nat×(List Int)
abbrev Wo:=Nat×Int×(List Int)
abbrev arz:=Nat×(List Int)
abbrev arx:=Bs
abbrev aM1:=(List Int)
def LK:Wn->Prop:=λ(b,m,i,l)=>64<=b.length/\∃k:Nat,k<=16/\i=k/\k=m/\l=wl ((words b).take k)
def IN:Wn->ary:=λ(b,m,i,l)=>(16,wl (words b))
def LL:Wo->Prop:=λ(m,i,l)=>∃ws:List W,16<=ws.length/\ws.length<=64/\l=wl ws/\m=ws.length/\i=(ws.length:Nat)
def Ch:Wo->arz:=λ(m,i,l)=>(64,wl (aOZ (aOa l) (64 - l.length)))
def acy:arx->Prop:=λb=>64<=b.length
def acx:arx->aM1:=λb=>wl (sched b)
def qi:Ls LK bm IN:=qv (λ(gE,wL,i,n49)=>⟨([.d tB gE,bA,bA,nE 49 wL,.d ti i]++aP 94 []),[],(bC 49 ([dH (.vec 231 (.int .u32) n49)]++bC 49 []))⟩) (λx=>(.exit 0,⟨([bA,bA,bA,nE 49 x.1]++aP 95 []),[],(bC 49 ([dH (.vec 231 (.int .u32) x.2)]++bC 49 []))⟩))
def qj:Ls LL bm Ch:=qv (λ(Xw,gO,uW)=>⟨([bA,bA,bA,nE 49 Xw,bA,.d ti gO]++aP 93 []),[],(bC 49 ([dH (.vec 231 (.int .u32) uW)]++bC 49 []))⟩) (λx=>(.exit 2,⟨([bA,bA,bA,nE 49 x.1]++aP 95 []),[],(bC 49 ([dH (.vec 231 (.int .u32) x.2)]++bC 49 []))⟩))
def vD:Fs Tryz.prog acy bm acx:=eI 220 Tryz.f220 (λb=>([.d tB b],[])) (λx=>⟨.d (.slice (.int .u32)) x,[],[]⟩) [some tB] [ars] {loops:=nD [(3,{aU:=[0,3,4],sites:=[49],owns:=[⟨3,[],49,248⟩]}),(7,{aU:=[3,5],sites:=[49],owns:=[⟨3,[],49,248⟩]})],outs:=nC [(3,{aU:=[3],sites:=[49]},{aU:=[2]}),(7,{aU:=[3],sites:=[49]},{aU:=[2]})],fu:=np [(3,qi.E),(7,qj.E)],res:=[some (.slice (.int .u32))]}
theorem afd:qi.RS:=rL [.d tB,.n,.d ti,.d (.slice (.int .u32))] qi
theorem IP{R:Type}(gE wL i n49)(kn:K2 R)(kx:K3 R):vD.R 0 qi (gE,wL,i,n49) kn kx=aG ((fP i 16)) (aG (ed (fX .i64 4 i) (gE.length:Int)) (aG (ed (bH .i64 (fX .i64 4 i) 1) (gE.length:Int)) (aG (ed (bH .i64 (fX .i64 4 i) 2) (gE.length:Int)) (aG (ed (bH .i64 (fX .i64 4 i) 3) (gE.length:Int)) (aG (decide (wL<=(ag n49))) (aG (cT (wL+1) 4) (kn (qi.st (gE,(wL+1),(bH .i64 i 1),((aQ wL n49)++ [(cD .or .u32 (cD .or .u32 (cD .or .u32 (l5 .u32 (dT .u32 (nth tb gE (ae (fX .i64 4 i)))) 24) (l5 .u32 (dT .u32 (nth tb gE (ae (bH .i64 (fX .i64 4 i) 1)))) 16)) (l5 .u32 (dT .u32 (nth tb gE (ae (bH .i64 (fX .i64 4 i) 2)))) 8)) (dT .u32 (nth tb gE (ae (bH .i64 (fX .i64 4 i) 3)))))])))) none) none) none) none) none) none) (qi.go kx (wL,n49)):=by kernel_rfl
theorem afe:qj.RS:=rL [.n,.d ti,.d (.slice (.int .u32))] qj
theorem IQ{R:Type}(Xw gO uW)(kn:K2 R)(kx:K3 R):vD.R 1 qj (Xw,gO,uW) kn kx=aG ((fP gO 64)) (aG (ed (cI .i64 gO 15) ((Xw:Nat):Int)) (aG (decide ((0+(ae (cI .i64 gO 15))) < (ag uW))) (aG (decide ((((0+(ae (cI .i64 gO 15)))*1)+0)=(0+((ae (cI .i64 gO 15))*1)))) (aG (ed (cI .i64 gO 2) ((Xw:Nat):Int)) (aG (decide ((0+(ae (cI .i64 gO 2))) < (ag uW))) (aG (decide ((((0+(ae (cI .i64 gO 2)))*1)+0)=(0+((ae (cI .i64 gO 2))*1)))) (ak (ph.call ((nth (.int .u32) uW (0+(ae (cI .i64 gO 15)))),7)) λx1=>ak (ph.call ((nth (.int .u32) uW (0+(ae (cI .i64 gO 15)))),18)) λx2=>ak (ph.call ((nth (.int .u32) uW (0+(ae (cI .i64 gO 2)))),17)) λx3=>ak (ph.call ((nth (.int .u32) uW (0+(ae (cI .i64 gO 2)))),19)) λx4=>aG (ed (cI .i64 gO 16) ((Xw:Nat):Int)) (aG (decide ((0+(ae (cI .i64 gO 16))) < (ag uW))) (aG (decide ((((0+(ae (cI .i64 gO 16)))*1)+0)=(0+((ae (cI .i64 gO 16))*1)))) (aG (ed (cI .i64 gO 7) ((Xw:Nat):Int)) (aG (decide ((0+(ae (cI .i64 gO 7))) < (ag uW))) (aG (decide ((((0+(ae (cI .i64 gO 7)))*1)+0)=(0+((ae (cI .i64 gO 7))*1)))) (aG (decide (Xw<=(ag uW))) (aG (cT (Xw+1) 4) (kn (qj.st ((Xw+1),(bH .i64 gO 1),((aQ Xw uW)++ [(bH .u32 (bH .u32 (bH .u32 (nth (.int .u32) uW (0+(ae (cI .i64 gO 16)))) (cD .xor .u32 (cD .xor .u32 x1 x2) (cq .u32 (nth (.int .u32) uW (0+(ae (cI .i64 gO 15)))) 3))) (nth (.int .u32) uW (0+(ae (cI .i64 gO 7))))) (cD .xor .u32 (cD .xor .u32 x3 x4) (cq .u32 (nth (.int .u32) uW (0+(ae (cI .i64 gO 2)))) 10)))])))) none) none) none) none) none) none) none) none) none) none) none) none) none) none) (qj.go kx (Xw,uW)):=by kernel_rfl
theorem aEW{R:Type}(b)(k:K1 R):vD.A b k=ak (qi.call (b,0,0,([]:List Int))) λx1=>ak (qj.call (x1.1,16,x1.2)) λasN=>aG (decide (0=0/\(0+asN.1)<=(ag asN.2))) (k (vD.out (cut asN.2 0 asN.1))) none:=by kernel_rfl
theorem zS(ws:List W):(wl ws).length=ws.length:=by simp[wl]
theorem aAu(m:List W):∀n,aOZ (ext m) n=aOZ m (n+1)
 | 0=>rfl
 |n+1=>by rw[aOZ,aAu m n];rfl
theorem aUH(b:List Int)(k:Nat)(h:4*k+3 < b.length):be b k=aYa (nth (.int .u8) b (4*k)) (nth (.int .u8) b (4*k+1)) (nth (.int .u8) b (4*k+2)) (nth (.int .u8) b (4*k+3)):=rfl
theorem aln:(vD.jP 0 qi):=by
 refine(vD.lk 0 qi) (λ(b,m,i,l)=>16 - m) ?_
 rintro⟨b,m,i,l⟩ ⟨hb,k,hk,rfl,rfl,rfl⟩;have hb:64<=b.length:=hb;have hl:(wl ((words b).take k)).length=k:=by rw[zS,bq,eQ];omega
 by_cases h:k < 16
 ·left;refine⟨(b,k+1,((k+1:Nat):Int),wl ((words b).take (k+1))),⟨hb,k+1,by omega,rfl,rfl,rfl⟩,by simp only;omega,rfl,λkn kx=> ?_⟩;rw[IP];simp(disch:=omega) only[↓S1,↓if_pos,↓if_neg,if_pos,if_neg,bG,bp,S2,hl,aW (tp hl)];rw[gY (by rw[eQ];exact h)];simp only[ayZ,PS,pP,wl,rh,bT,gV];have e:(words b)[k]'(by rw[eQ];exact h)=be b k:=by simp[words]
  rw[e,aUH b k (by omega)];rfl
 ·right;obtain rfl:k=16:=by omega
  intro R kn kx;rw[IP];simp(disch:=omega) only[↓S1,↓if_pos,↓if_neg,if_pos,if_neg,bG,bp,S2,bm,IN];rw[aW (by rw[eQ];omega)]
theorem alo:(vD.jP 1 qj):=by
 refine(vD.lk 1 qj) (λ(m,i,l)=>64 - m) ?_
 rintro⟨m,i,l⟩ ⟨ws,h1,h2,rfl,rfl,rfl⟩;have hl:=zS ws;by_cases h:ws.length < 64
 ·left;refine⟨(ws.length+1,((ws.length+1:Nat):Int),wl (ext ws)),⟨ext ws,by rw[va];omega,by rw[va];omega,rfl,by rw[va],by rw[va]⟩,by simp only;omega,?_,λkn kx=> ?_⟩
  ·simp only[bm,Ch,FK,zS,va];rw[aAu,show 64 - (ws.length+1)+1=64 - ws.length by omega]
  ·rw[IQ];simp(disch:=omega) only[↓S1,↓if_pos,↓if_neg,if_pos,if_neg,bG,bp,S2,hl,aJ,gD,cd,Ui ws _ (by omega:ws.length - 15 < ws.length),Ui ws _ (by omega:ws.length - 2 < ws.length),Ui ws _ (by omega:ws.length - 16 < ws.length),Ui ws _ (by omega:ws.length - 7 < ws.length),AX,pP,HJ,Dz,aW (tp hl)];unfold ext wl;rw[rh];rfl
 ·right;have EU:ws.length=64:=by omega
  intro R kn kx;rw[IQ];simp(disch:=omega) only[↓S1,↓if_pos,↓if_neg,if_pos,if_neg,bG,bp,S2,bm,Ch,hl,EU,FK,Nat.sub_self];rfl
theorem aEX:vD.Ok:=by
 intro b hb;have p1:LK (b,0,0,[]):=⟨hb,0,by omega,rfl,rfl,rfl⟩;have p2:LL (16,16,wl (words b)):=⟨words b,by rw[eQ];omega,by rw[eQ];omega,rfl,by rw[eQ],by rw[eQ];rfl⟩;have hs:(sched b).length=64:=by unfold sched;rw[Bl,eQ]
 rw[aEW];simp(disch:=omega) only[↓S1,↓if_pos,↓if_neg,if_pos,if_neg,bG,bp,S2,afd p1,bm,IN,afe p2,bm,Ch,FK,zS,eQ,aJ,Nat.reduceSub];have e:aOZ (words b) 48=sched b:=rfl;rw[e,hs,if_pos (aw _)];unfold cut;rw[aF,aW (by rw[zS];omega)];simp only[bm,acx]
theorem awL:vD.RS:=rE [.d tB] vD
def aEY:=vD.eN aEX 2 ⟨.fm aln,⟨.fm alo,trivial⟩⟩
abbrev Iz:=(List Int)×(List Int)×(List Int)×Nat×Int×(List Int)
abbrev Wc:=Nat×(List Int)
abbrev aq2:=((List Int))×(Nat×(List Int))
def CZ:Iz->Wc->aq2:=λ(PC,wv,kv,vL,i,n18) y=>(PC,y)
abbrev IC:=(List Int)×Nat×Int×(List Int)
abbrev Wd:=(List Int)
abbrev aq3:=(Nat)×((List Int))
def wz:IC->Wd->aq3:=λ(ayV,ama,gO,Lg) y=>(ama,y)
abbrev aq1:=(List Int)×Bs
abbrev aMg:=(List Int)
def LG:Iz->Prop:=λ(h,wv,kv,m,i,l)=>∃(s:St) (ws:List W) (k:Nat),h=s.l/\wv=wl ws/\ws.length=64/\k<=64/\i=k/\kv=Te/\m=8/\l=(rounds ws s k).l
def IA:Iz->Wc:=λ(h,wv,kv,m,i,l)=>(8,(rounds (aOa wv) (alL h) 64).l)
def LH:IC->Prop:=λ(h,m,i,l)=>h.length=8/\l.length=8/\m=8/\∃k:Nat,k<=8/\i=k
def B8:IC->Wd:=λ(h,m,i,l)=>from_ (λi x=>bH .u32 x (nth (.int .u32) h i)) i.toNat l
def ab1:aq1->Prop:=λ(h,b)=>(∃s:St,h=s.l)/\64<=b.length
def ab0:aq1->aMg:=λ(h,b)=>(Tl (alL h) b).l
def nN:Ls LG CZ IA:=qv (λ(PC,wv,kv,vL,i,n18)=>⟨([.d (.slice (.int .u32)) PC]++aP 4 ([.d (.slice (.int .u32)) wv,.d (.slice (.int .u32)) kv,nE 18 vL,.d ti i]++aP 146 [])),[],(bC 18 ([dH (.vec 231 (.int .u32) n18)]++bC 136 []))⟩) (λx=>(.exit 0,⟨([.d (.slice (.int .u32)) x.1]++aP 6 ([nE 18 x.2.1]++aP 147 [])),[],(bC 18 ([dH (.vec 231 (.int .u32) x.2.2)]++bC 136 []))⟩))
def qg:Ls LH wz B8:=qv (λ(ayV,ama,gO,Lg)=>⟨([.d (.slice (.int .u32)) ayV]++aP 6 ([nE 18 ama]++aP 6 ([.d ti gO]++aP 140 []))),[],(bC 18 ([dH (.vec 231 (.int .u32) Lg)]++bC 136 []))⟩) (λx=>(.exit 2,⟨(aP 7 ([nE 18 x.1]++aP 147 [])),[],(bC 18 ([dH (.vec 231 (.int .u32) x.2)]++bC 136 []))⟩))
def vy:Fs Tryz.prog ab1 bm ab0:=eI 190 Tryz.f190 (λ(h,b)=>([.d (.slice (.int .u32)) h,.d tB b],[])) (λx=>⟨.d (.slice (.int .u32)) x,[],[]⟩) [some (.slice (.int .u32)),some tB] [aEY,aMf,ars] {bI:=[18,137],loops:=nD [(5,{aU:=[0,5,6,7,8],sites:=[18,137],owns:=[⟨7,[],18,0⟩]}),(14,{aU:=[0,7,14],sites:=[18]})],outs:=nC [(5,{aU:=[0,7],sites:=[18]},{aU:=[4]}),(14,{aU:=[7],sites:=[18]},{aU:=[4]})],fu:=np [(5,nN.E),(14,qg.E)],res:=[some (.slice (.int .u32))]}
theorem ae7:nN.RS:=rL [.d (.slice (.int .u32)),.d (.slice (.int .u32)),.d (.slice (.int .u32)),.n,.d ti,.d (.slice (.int .u32))] nN
theorem IB{R:Type}(PC wv kv vL i n18)(kn:K2 R)(kx:K3 R):vy.R 0 nN (PC,wv,kv,vL,i,n18) kn kx=aG ((fP i 64)) (aG (ed 4 ((vL:Nat):Int)) (aG (decide (4 < (ag n18))) (ak (ph.call ((nth (.int .u32) n18 4),6)) λx1=>aG (ed 4 ((vL:Nat):Int)) (aG (decide (4 < (ag n18))) (ak (ph.call ((nth (.int .u32) n18 4),11)) λx2=>aG (ed 4 ((vL:Nat):Int)) (aG (decide (4 < (ag n18))) (ak (ph.call ((nth (.int .u32) n18 4),25)) λx3=>aG (ed 4 ((vL:Nat):Int)) (aG (decide (4 < (ag n18))) (aG (ed 5 ((vL:Nat):Int)) (aG (decide (5 < (ag n18))) (aG (ed 4 ((vL:Nat):Int)) (aG (decide (4 < (ag n18))) (aG (ed 6 ((vL:Nat):Int)) (aG (decide (6 < (ag n18))) (aG (ed 7 ((vL:Nat):Int)) (aG (decide (7 < (ag n18))) (aG (ed i (kv.length:Int)) (aG (ed i (wv.length:Int)) (aG (ed 0 ((vL:Nat):Int)) (aG (decide (0 < (ag n18))) (ak (ph.call ((nth (.int .u32) n18 0),2)) λx4=>aG (ed 0 ((vL:Nat):Int)) (aG (decide (0 < (ag n18))) (ak (ph.call ((nth (.int .u32) n18 0),13)) λx5=>aG (ed 0 ((vL:Nat):Int)) (aG (decide (0 < (ag n18))) (ak (ph.call ((nth (.int .u32) n18 0),22)) λx6=>aG (ed 0 ((vL:Nat):Int)) (aG (decide (0 < (ag n18))) (aG (ed 1 ((vL:Nat):Int)) (aG (decide (1 < (ag n18))) (aG (ed 0 ((vL:Nat):Int)) (aG (decide (0 < (ag n18))) (aG (ed 2 ((vL:Nat):Int)) (aG (decide (2 < (ag n18))) (aG (ed 1 ((vL:Nat):Int)) (aG (decide (1 < (ag n18))) (aG (ed 2 ((vL:Nat):Int)) (aG (decide (2 < (ag n18))) (aG (ed 0 ((vL:Nat):Int)) (aG (decide (0 < (ag n18))) (aG (ed 1 ((vL:Nat):Int)) (aG (decide (1 < (ag n18))) (aG (ed 2 ((vL:Nat):Int)) (aG (decide (2 < (ag n18))) (aG (ed 3 ((vL:Nat):Int)) (aG (decide (3 < (ag n18))) (aG (ed 4 ((vL:Nat):Int)) (aG (decide (4 < (ag n18))) (aG (ed 5 ((vL:Nat):Int)) (aG (decide (5 < (ag n18))) (aG (ed 6 ((vL:Nat):Int)) (aG (decide (6 < (ag n18))) (kn (nN.st (PC,wv,kv,8,(bH .i64 i 1),[(bH .u32 (bH .u32 (bH .u32 (bH .u32 (bH .u32 (bH .u32 (nth (.int .u32) n18 7) (cD .xor .u32 (cD .xor .u32 x1 x2) x3)) (cD .xor .u32 (cD .and .u32 (nth (.int .u32) n18 4) (nth (.int .u32) n18 5)) (cD .and .u32 (aRf .u32 (nth (.int .u32) n18 4)) (nth (.int .u32) n18 6)))) (nth (.int .u32) kv (ae i))) (nth (.int .u32) wv (ae i))) (cD .xor .u32 (cD .xor .u32 x4 x5) x6)) (cD .xor .u32 (cD .xor .u32 (cD .and .u32 (nth (.int .u32) n18 0) (nth (.int .u32) n18 1)) (cD .and .u32 (nth (.int .u32) n18 0) (nth (.int .u32) n18 2))) (cD .and .u32 (nth (.int .u32) n18 1) (nth (.int .u32) n18 2)))),(nth (.int .u32) n18 0),(nth (.int .u32) n18 1),(nth (.int .u32) n18 2),(bH .u32 (nth (.int .u32) n18 3) (bH .u32 (bH .u32 (bH .u32 (bH .u32 (nth (.int .u32) n18 7) (cD .xor .u32 (cD .xor .u32 x1 x2) x3)) (cD .xor .u32 (cD .and .u32 (nth (.int .u32) n18 4) (nth (.int .u32) n18 5)) (cD .and .u32 (aRf .u32 (nth (.int .u32) n18 4)) (nth (.int .u32) n18 6)))) (nth (.int .u32) kv (ae i))) (nth (.int .u32) wv (ae i)))),(nth (.int .u32) n18 4),(nth (.int .u32) n18 5),(nth (.int .u32) n18 6)]))) none) none) none) none) none) none) none) none) none) none) none) none) none) none) none) none) none) none) none) none) none) none) none) none) none) none) none) none) none) none) none) none) none) none) none) none) none) none) none) none) none) none) none) none) none) none) none) none) none) none) (nN.go kx (PC,(vL,n18))):=by kernel_rfl
theorem ae8:qg.RS:=rL [.d (.slice (.int .u32)),.n,.d ti,.d (.slice (.int .u32))] qg
theorem ID{R:Type}(ayV ama gO Lg)(kn:K2 R)(kx:K3 R):vy.R 1 qg (ayV,ama,gO,Lg) kn kx=aG ((fP gO 8)) (aG (ed gO ((ama:Nat):Int)) (aG (decide ((0+(ae gO)) < (ag Lg))) (aG (decide ((((0+(ae gO))*1)+0)=(0+((ae gO)*1)))) (aG (ed gO (ayV.length:Int)) (aG (ed gO ((ama:Nat):Int)) (aG (decide ((0+(ae gO)) < (ag Lg))) (aG (decide ((((0+(ae gO))*1)+0)=(0+((ae gO)*1)))) (aG (decide ((0+(ae gO)) < (ag Lg))) (kn (qg.st (ayV,ama,(bH .i64 gO 1),(fK Lg (0+(ae gO)) (bH .u32 (nth (.int .u32) Lg (0+(ae gO))) (nth (.int .u32) ayV (ae gO))))))) none) none) none) none) none) none) none) none) (qg.go kx (ama,Lg)):=by kernel_rfl
theorem aEr{R:Type}(h b)(k:K1 R):vy.A (h,b) k=ak (vD.call b) λx1=>ak (abY.call ()) λx2=>aG (cT (0+(ag h)) 4) (ak (nN.call (h,x1,x2,(0+(ag h)),0,((aQ 0 (ab 0 0))++h))) λbci=>ak (qg.call (bci.1,bci.2.1,0,bci.2.2)) λFV=>aG (decide (0=0/\(0+FV.1)<=(ag FV.2))) (k (vy.out (cut FV.2 0 FV.1))) none) none:=by kernel_rfl
theorem aKe(w:W):aRf .u32 (vw w)=vw (~~~w):=by have e:(if IntKind.u32.signed then -1 else IntKind.u32.max:Int)=vw (BitVec.allOnes 32):=rfl;unfold aRf;rw[e,pP];simp only[BitVec.allOnes_xor]
theorem aYe(e f g:W):(e &&& f)^^^(~~~e &&& g)=g^^^(e &&& (f^^^g)):=by
 ext i hi
 simp only[BitVec.getElem_xor,BitVec.getElem_and,BitVec.getElem_not];cases e[i] <;> cases f[i] <;> cases g[i] <;> rfl
theorem aWj(a b c:W):(a &&& b)^^^(a &&& c)^^^(b &&& c)=(a &&& b) ||| (c &&& (a ||| b)):=by
 ext i hi
 simp only[BitVec.getElem_xor,BitVec.getElem_and,BitVec.getElem_or];cases a[i] <;> cases b[i] <;> cases c[i] <;> rfl
theorem ald:(vy.jP 0 nN):=by
 refine(vy.lk 0 nN) (λ(h,wv,kv,m,i,l)=>64 - i.toNat) ?_
 rintro⟨h,wv,kv,m,i,l⟩ ⟨s,ws,k,rfl,rfl,hw,hk,rfl,rfl,rfl,rfl⟩;by_cases gv:k < 64
 ·left;refine⟨(s.l,wl ws,Te,8,((k+1:Nat):Int),(rounds ws s (k+1)).l),⟨s,ws,k+1,rfl,rfl,hw,by omega,rfl,rfl,rfl,rfl⟩,by simp only;omega,rfl,λkn kx=> ?_⟩;rw[IB];generalize hv:rounds ws s k=v;have t1:∀w:W,ph.call (vw w,6)=some (vw (vC w 6)):=λw=>AX w (by omega)
  have t2:∀w:W,ph.call (vw w,11)=some (vw (vC w 11)):=λw=>AX w (by omega)
  have t3:∀w:W,ph.call (vw w,25)=some (vw (vC w 25)):=λw=>AX w (by omega)
  have t4:∀w:W,ph.call (vw w,2)=some (vw (vC w 2)):=λw=>AX w (by omega)
  have t5:∀w:W,ph.call (vw w,13)=some (vw (vC w 13)):=λw=>AX w (by omega)
  have t6:∀w:W,ph.call (vw w,22)=some (vw (vC w 22)):=λw=>AX w (by omega)
  rw[n0,n1,n2,n3,n4,n5,n6,n7,t1,ah,t2,ah,t3,ah,t4,ah,t5,ah,t6,ah];simp(disch:=omega) only[↓S1,↓if_pos,↓if_neg,if_pos,if_neg,bG,bp,S2,St.apj,Vh,zS,hw,aph k gv,Ui ws k (by omega),pP,Dz,aKe,aYe,aWj];show kn _=kn (nN.st (s.l,wl ws,Te,8,((k+1:Nat):Int),(lk (rounds ws s k) (kw k) (ws.getD k 0)).l));rw[hv];rfl
 ·right;obtain rfl:k=64:=by omega
  intro R kn kx;rw[IB];simp(disch:=omega) only[↓S1,↓if_pos,↓if_neg,if_pos,if_neg,bG,bp,S2,CZ,IA,FK,nY]
theorem ale:(vy.jP 1 qg):=by
 refine(vy.lk 1 qg) (λ(h,m,i,l)=>8 - i.toNat) ?_
 rintro⟨h,m,i,l⟩ ⟨hh,hl,rfl,k,hk,rfl⟩;have hl:l.length=8:=hl;have hh:h.length=8:=hh;by_cases gv:k < 8
 ·left;have hn:nth (.int .u32) l k=l[k]:=bV (t:= .int .u32) (by omega);refine⟨(h,8,((k+1:Nat):Int),l.set k (bH .u32 l[k] (nth (.int .u32) h k))),⟨hh,by simpa using hl,rfl,k+1,by omega,rfl⟩,by simp only;omega,?_,λkn kx=> ?_⟩
  ·simp only[wz,B8,aa];rw[JL (λi x=>bH .u32 x (nth (.int .u32) h i)) l k (by omega)]
  ·rw[ID];simp(disch:=omega) only[↓S1,↓if_pos,↓if_neg,if_pos,if_neg,bG,bp,S2,hl,hh,aJ,gD,cd,hn]
 ·right;obtain rfl:k=8:=by omega
  intro R kn kx;rw[ID];simp(disch:=omega) only[↓S1,↓if_pos,↓if_neg,if_pos,if_neg,bG,bp,S2,wz,B8];rw[PA _ _ _ (by omega)]
theorem aWk(s:St)(b:List Int):from_ (λi x=>bH .u32 x (nth (.int .u32) s.l i)) 0 (rounds (sched b) s 64).l=(Tl s b).l:=by unfold Tl;generalize rounds (sched b) s 64=v;obtain⟨a1,b1,c1,d1,f1,g1,h1,i1⟩:=v;simp only[St.l,from_,List.mapIdx_cons,List.mapIdx_nil,Nat.not_lt_zero,bp,aJ,Nat.reduceAdd];simp only[nth,jh,qz,Dz]
theorem aEs:vy.Ok:=by
 rintro⟨h,b⟩ ⟨⟨s,rfl⟩,hb⟩;have p0:acy b:=hb;have ayY:(sched b).length=64:=by unfold sched;rw[Bl,eQ]
 have p1:LG (s.l,wl (sched b),Te,8,0,s.l):=⟨s,sched b,0,rfl,rfl,ayY,by omega,rfl,rfl,rfl,rfl⟩;have p2:LH (s.l,8,0,(rounds (sched b) s 64).l):=⟨rfl,rfl,rfl,0,by omega,rfl⟩;have e0:0+s.l.length=8:=rfl;have e1:aQ 0 (ab 0 (0:Int))++s.l=s.l:=rfl;rw[aEr];simp(disch:=omega) only[↓S1,↓if_pos,↓if_neg,if_pos,if_neg,bG,bp,S2,awL p0,bm,acx,aEq (d:=()) trivial,bm,azN,e0,e1,ae7 p1,CZ,IA,FK,nY,ae8 p2,wz,B8,aY,aWk];have e2:(Tl s b).l.length=8:=rfl;have e3:cut (Tl s b).l 0 8=(Tl s b).l:=rfl;simp only[e2,aJ,aw,bG,e3,bm,ab0,nY]
theorem awh:vy.RS:=rE [.d (.slice (.int .u32)),.d tB] vy
def aEt:=vy.eN aEs 2 ⟨.fm ald,⟨.fm ale,trivial⟩⟩
abbrev TN:=Bs×(List Int)×Int×Bs
abbrev ahU:=(List Int)
abbrev aEO:=(Bs)×((List Int))
def Ce:TN->ahU->aEO:=λ(p,h,i,n2) y=>(n2,y)
abbrev TO:=(List Int)×Int×Bs×Bs
abbrev ahV:=Bs
abbrev aEP:=(Bs)×(Bs)
def Cf:TO->ahV->aEP:=λ(PC,gO,ki,n6) y=>(ki,y)
abbrev aMQ:=Bs
abbrev aWQ:=Bs
def Wj:TN->Prop:=λ(p,h,i,n2)=>p.length%64=0/\p.length<=140737488355328/\∃(s:St) (k:Nat),h=s.l/\i=((64*k:Nat):Int)/\64*k<=p.length
def J6:TN->ahU:=λ(p,h,i,n2)=>(blocks (alL h) (p.drop i.toNat)).l
def Wk:TO->Prop:=λ(h,i,n2,l)=>h.length=8/\l.length=32/\∃k:Nat,k<=32/\i=k
def J7:TO->ahV:=λ(h,i,n2,l)=>from_ (KA h) i.toNat l
def aro:aMQ->Prop:=λb=>b.length<=140737488350000
def aWP:aMQ->aWQ:=λb=>aWW b
def zh:Ls Wj Ce J6:=qv (λ(p,h,i,n2)=>⟨([bA,bA,eG 2,.d tB p,.d (.slice (.int .u32)) h,.d ti i]++aP 36 []),[],([[],[],dH (.d tH n2)]++bC 39 [])⟩) (λx=>(.exit 0,⟨([bA,bA,eG 2,bA,.d (.slice (.int .u32)) x.2]++aP 37 []),[],([[],[],dH (.d tH x.1)]++bC 39 [])⟩))
def zi:Ls Wk Cf J7:=qv (λ(PC,gO,ki,n6)=>⟨([bA,bA,eG 2,bA,.d (.slice (.int .u32)) PC,bA,eG 6,.d ti gO]++aP 34 []),[],([[],[],dH (.d tH ki),[],[],[],dH (.d tH n6)]++bC 35 [])⟩) (λx=>(.exit 2,⟨([bA,bA,eG 2,bA,bA,bA,eG 6]++aP 35 []),[],([[],[],dH (.d tH x.1),[],[],[],dH (.d tH x.2)]++bC 35 [])⟩))
def TM:Fs Tryz.prog aro bm aWP:=eI 148 Tryz.f148 (λb=>([.d tB b],[])) (λx=>⟨.d tH x,[],[]⟩) [some tB] [awG,awu,aEt] {loops:=nD [(4,{aU:=[2,3,4,5],sites:=[2]}),(9,{aU:=[2,4,6,7],sites:=[2,6]})],outs:=nC [(4,{aU:=[2,4],sites:=[2]},{aU:=[2]}),(9,{aU:=[2,6],sites:=[2,6]},{aU:=[2]})],fu:=np [(4,zh.E),(9,zi.E)]}
theorem arl:zh.RS:=rL [.d tB,.d (.slice (.int .u32)),.d ti,.d tB] zh
theorem QV{R:Type}(p h i n2)(kn:K2 R)(kx:K3 R):TM.R 0 zh (p,h,i,n2) kn kx=aG ((fP i (p.length:Int))) (aG (inc (bH .i64 i 64) (p.length:Int)) (aG (inc i (((ae (bH .i64 i 64)):Nat):Int)) (ak (vy.call (h,(cut p (ae i) ((ae (bH .i64 i 64)) - (ae i))))) λx1=>kn (zh.st (p,x1,(bH .i64 i 64),n2))) none) none) (zh.go kx (n2,h)):=by kernel_rfl
theorem arn:zi.RS:=rL [.d (.slice (.int .u32)),.d ti,.d tB,.d tB] zi
theorem QW{R:Type}(PC gO ki n6)(kn:K2 R)(kx:K3 R):TM.R 1 zi (PC,gO,ki,n6) kn kx=aG ((fP gO 32)) (aG (ed (td .i64 gO 4) (PC.length:Int)) (aG (ma (cI .i64 24 (fX .i64 8 (mm gO 4)))) (aG (ed gO 32) (aG (decide ((ae gO) < (ag n6))) (aG (decide ((((ae gO)*1)+0)=(0+((ae gO)*1)))) (aG (decide ((ae gO) < (ag n6))) (kn (zi.st (PC,(bH .i64 gO 1),ki,(fK n6 (ae gO) (dT .u8 (cq .u32 (nth (.int .u32) PC (ae (td .i64 gO 4))) (cI .i64 24 (fX .i64 8 (mm gO 4))))))))) none) none) none) none) none) none) (zi.go kx (ki,n6)):=by kernel_rfl
theorem aSx{R:Type}(b)(k:K1 R):TM.A b k=ak (qh.call b) λx1=>ak (Fl.call ()) λx2=>ak (zh.call (x1,x2,0,(ab 32 0))) λx4=>ak (zi.call (x4.2,0,x4.1,(ab 32 0))) λx5=>k (TM.out x5.2):=by kernel_rfl
theorem awH:(TM.jP 0 zh):=by
 refine(TM.lk 0 zh) (λ(p,h,i,n2)=>p.length - i.toNat) ?_
 rintro⟨p,h,i,n2⟩ ⟨hm,hb,s,k,rfl,rfl,hk⟩;have hm:p.length%64=0:=hm;have hb:p.length<=140737488355328:=hb;have hk:64*k<=p.length:=hk;by_cases gv:64*k < p.length
 ·left;have e1:cut p (64*k) (64*k+64 - 64*k)=(p.drop (64*k)).take 64:=by unfold cut;rw[show 64*k+64 - 64*k=64 by omega]
  have e2:(p.drop (64*k)).drop 64=p.drop (64*(k+1)):=by rw[fI];congr 1
  have e3:(64*(k+1):Nat)=64*k+64:=by omega
  have p1:ab1 (s.l,(p.drop (64*k)).take 64):=⟨⟨s,rfl⟩,by simp;omega⟩;refine⟨(p,(Tl s ((p.drop (64*k)).take 64)).l,((64*(k+1):Nat):Int),n2),⟨hm,hb,_,k+1,rfl,rfl,by omega⟩,by simp only[aa];omega,?_,λkn kx=> ?_⟩
  ·simp only[Ce,J6,nY,aa];rw[He s (p.drop (64*k)) (by simp;omega),e2]
  ·rw[QV];simp(disch:=omega) only[↓S1,↓if_pos,↓if_neg,if_pos,if_neg,bG,bp,S2,e1,awh p1,bm,ab0,nY,e3]
 ·right;intro R kn kx;rw[QV];simp(disch:=omega) only[↓S1,↓if_pos,↓if_neg,if_pos,if_neg,bG,bp,S2,Ce,J6,nY];rw[Em s _ (by simp;omega)]
theorem awI:(TM.jP 1 zi):=by
 refine(TM.lk 1 zi) (λ(h,i,n2,l)=>32 - i.toNat) ?_
 rintro⟨h,i,n2,l⟩ ⟨h8,hl,k,hk,rfl⟩;have hl:l.length=32:=hl;have h8:h.length=8:=h8;by_cases gv:k < 32
 ·left;refine⟨(h,((k+1:Nat):Int),n2,l.set k (KA h k l[k])),⟨h8,by simpa using hl,k+1,by omega,rfl⟩,by simp only[aa];omega,?_,λkn kx=> ?_⟩
  ·simp only[Cf,J7,aa];rw[JL (KA h) l k (by omega)]
  ·rw[QW];simp(disch:=omega) only[↓S1,↓if_pos,↓if_neg,if_pos,if_neg,bG,bp,S2,hl,h8,gD,cd,aJ,KA]
 ·right;obtain rfl:k=32:=by omega
  intro R kn kx;rw[QW];simp(disch:=omega) only[↓S1,↓if_pos,↓if_neg,if_pos,if_neg,bG,bp,S2,Cf,J7];rw[PA _ _ _ (by omega)]
theorem avA(b:List Int):(pad b).length%64=0/\(pad b).length<=b.length+73:=by unfold pad;simp only[ai,az,b8,bY,AL];omega
theorem aSy:TM.Ok:=by intro b hb;have hb:b.length<=140737488350000:=hb;have p1:Wi b:=hb;obtain⟨h1,h2⟩:=avA b;have p2:Wj (pad b,rW.l,0,ab 32 0):=⟨h1,by omega,rW,0,rfl,rfl,by omega⟩;have p3:Wk ((blocks rW (pad b)).l,0,ab 32 0,ab 32 0):=⟨rfl,rfl,0,by omega,rfl⟩;rw[aSx];simp(disch:=omega) only[↓S1,↓if_pos,↓if_neg,if_pos,if_neg,bG,bp,S2,ark p1,bm,TL,arc (d:=()) trivial,bm,ahK,arl p2,Ce,J6,nY,aY,aF,arn p3,Cf,J7,azw];rfl
theorem aMR:TM.RS:=rE [.d tB] TM
def aSz:=TM.eN aSy 2 ⟨.fm awH,⟨.fm awI,trivial⟩⟩
abbrev azW:=Int
abbrev aSp:=Nat×(List Int)
def aEG:azW->Prop:=λn=>0<=n/\n < 18446744073709551616
def aSo:azW->aSp:=λn=>(8,iX n)
def QO:Fs Tryz.prog aEG bm aSo:=eI 147 Tryz.f147 (λn=>([.d tu n],[])) (λx=>⟨.bu (.new 0 0) 0 [] 0 0 x.1,[],[.obj 0 false (.vec 5 tb x.2)]⟩) [some tu] [] {loops:=nD [(3,{aU:=[0,3,4],sites:=[15]})],outs:=nC [(3,{aU:=[3],sites:=[15]},{aU:=[2],sites:=[15]})],owns:=[⟨2,[],15,127⟩]} 10
theorem aMz{R:Type}(n)(k:K1 R):QO.A n k=k (QO.out (8,[(dT .u8 (cq .u64 n 56)),(dT .u8 (cq .u64 n 48)),(dT .u8 (cq .u64 n 40)),(dT .u8 (cq .u64 n 32)),(dT .u8 (cq .u64 n 24)),(dT .u8 (cq .u64 n 16)),(dT .u8 (cq .u64 n 8)),(dT .u8 (cq .u64 n 0))])):=by kernel_rfl
theorem aMA:QO.Ok:=by
 intro n _;have e:∀k:Nat,k<=64->dT .u8 (cq .u64 n (k:Int))=n / 2^k%256:=λk hk=>adE n k hk
 rw[aMz];have e56:dT .u8 (cq .u64 n 56)=n / 2^56%256:=e 56 (by omega);have e48:dT .u8 (cq .u64 n 48)=n / 2^48%256:=e 48 (by omega);have e40:dT .u8 (cq .u64 n 40)=n / 2^40%256:=e 40 (by omega);have e32:dT .u8 (cq .u64 n 32)=n / 2^32%256:=e 32 (by omega);have e24:dT .u8 (cq .u64 n 24)=n / 2^24%256:=e 24 (by omega);have e16:dT .u8 (cq .u64 n 16)=n / 2^16%256:=e 16 (by omega);have e8:dT .u8 (cq .u64 n 8)=n / 2^8%256:=e 8 (by omega);have e0:=e 0 (by omega);rw[e56,e48,e40,e32,e24,e16,e8];have e0:dT .u8 (cq .u64 n 0)=n%256:=by rw[show(0:Int)=((0:Nat):Int) from rfl,e0];simp
 rw[e0];rfl
theorem aEH:QO.RS:=rE [.d tu] QO
def aMB:=QO.eN aMA 1 ⟨.none (by kernel_rfl),trivial⟩
abbrev TP:=(List Bs)×Nat×Int×Bs×(List Int)
abbrev ahW:=Nat×(List Int)
abbrev aEQ:=(Bs)×(Nat×(List Int))
def Cg:TP->ahW->aEQ:=λ(rn,bL,i,n4,n11) y=>(n4,y)
abbrev aMS:=ByteArray×(List Bs)
abbrev aWS:=Bs
def Wl:TP->Prop:=λ(ps,m,i,n4,l)=>m=l.length/\∃k:Nat,k<=ps.length/\ps.length<=140737488350000/\i=k/\l.length+(og (ps.drop k)).length<=140737488350000
def J8:TP->ahW:=λ(ps,m,i,n4,l)=>(l.length+(og (ps.drop i.toNat)).length,l++og (ps.drop i.toNat))
def aMT:aMS->Prop:=λ(name,ps)=>(T8 (bF name) ps).length<=140737488350000
def aWR:aMS->aWS:=λ(name,ps)=>tag (bF name) ps
def zj:Ls Wl Cg J8:=qv (λ(rn,bL,i,n4,n11)=>⟨([bA,.d (.slice tB) rn,bA,bA,eG 4,nE 11 bL,.d ti i]++aP 32 []),[],(bC 4 ([dH (.d tH n4)]++bC 6 ([dH (.vec 5 tb n11)]++bC 27 [])))⟩) (λx=>(.exit 0,⟨(aP 4 ([eG 4,nE 11 x.2.1]++aP 33 [])),[],(bC 4 ([dH (.d tH x.1)]++bC 6 ([dH (.vec 5 tb x.2.2)]++bC 27 [])))⟩))
def acr:Fs Tryz.prog aMT bm aWR:=eI 96 Tryz.f96 (λ(name,parts)=>([.d .str name,.d (.slice tB) parts],[])) (λx=>⟨.d tH x,[],[]⟩) [some .str,some (.slice tB)] [aMB,aSz] {loops:=nD [(3,{aU:=[1,4,5,6],sites:=[4,11],owns:=[⟨5,[],11,127⟩]})],outs:=nC [(3,{aU:=[4,5],sites:=[4,11]},{aU:=[4]})],fu:=np [(3,zj.E)]}
theorem arp:zj.RS:=rL [.d (.slice tB),.n,.d ti,.d tB,.d tB] zj
theorem QX{R:Type}(rn bL i n4 n11)(kn:K2 R)(kx:K3 R):acr.R 0 zj (rn,bL,i,n4,n11) kn kx=aG ((fP i (rn.length:Int))) (aG (ed i (rn.length:Int)) (ak (QO.call (dT .u64 (((ag (nth tB rn (ae i))):Nat):Int))) λx1=>aG (decide (0=0/\(0+x1.1)<=(ag x1.2))) (aG (decide (bL<=(ag n11))) (aG (cT (bL+(ag (cut x1.2 0 x1.1))) 1) (aG (ed i (rn.length:Int)) (aG (decide ((bL+(ag (cut x1.2 0 x1.1)))<=(ag ((aQ bL n11)++(cut x1.2 0 x1.1))))) (aG (cT ((bL+(ag (cut x1.2 0 x1.1)))+(ag (nth tB rn (ae i)))) 1) (kn (zj.st (rn,((bL+(ag (cut x1.2 0 x1.1)))+(ag (nth tB rn (ae i)))),(bH .i64 i 1),n4,((aQ (bL+(ag (cut x1.2 0 x1.1))) ((aQ bL n11)++(cut x1.2 0 x1.1)))++(nth tB rn (ae i)))))) none) none) none) none) none) none) none) (zj.go kx (n4,(bL,n11))):=by kernel_rfl
theorem aSA{R:Type}(name parts)(k:K1 R):acr.A (name,parts) k=ak (QO.call (dT .u64 (((ByteArray.size name):Nat):Int))) λx1=>aG (decide (x1.1<=(ag x1.2))) (aG (cT (x1.1+(ag (bF name))) 1) (ak (zj.call (parts,(x1.1+(ag (bF name))),0,(ab 32 0),((aQ x1.1 x1.2)++(bF name)))) λx4=>aG (decide (0=0/\(0+x4.2.1)<=(ag x4.2.2))) (ak (TM.call (cut x4.2.2 0 x4.2.1)) λx5=>k (acr.out x5)) none) none) none:=by kernel_rfl
theorem aAl{n:Nat}(h:n < 18446744073709551616):dT .u64 ((n:Nat):Int)=n:=by rw[XK,gK];omega
theorem ard{n:Nat}(h:n < 18446744073709551616):QO.call (n:Int)=some (8,iX (n:Int)):=aEH (d:=(n:Int)) (show 0<=(n:Int)/\(n:Int) < 18446744073709551616 from⟨by omega,by omega⟩)
theorem aYh{l:List Int}{n:Nat}(h:l.length=n):cut l 0 n=l:=by unfold cut;rw[aF,aW (by omega)]
theorem awJ:(acr.jP 0 zj):=by
 refine(acr.lk 0 zj) (λ(ps,m,i,n4,l)=>ps.length - i.toNat) ?_
 rintro⟨ps,m,i,n4,l⟩ ⟨rfl,k,hk,Oi,rfl,hl⟩;have hk:k<=ps.length:=hk;have Oi:ps.length<=140737488350000:=Oi;have hl:l.length+(og (ps.drop k)).length<=140737488350000:=hl;by_cases h:k < ps.length
 ·left;have ht:=aie ps k h;have hlen:(og (ps.drop k)).length=8+ps[k].length+(og (ps.drop (k+1))).length:=by rw[ht];simp only[ai,bY]
  have hn:nth (.slice (.int .u8)) ps k=ps[k]:=bV (t:= .slice (.int .u8)) h;have aOR:(l++iX (ps[k].length:Int)).length=l.length+8:=by simp[bY]
  refine⟨(ps,(l++iX ps[k].length++ps[k]).length,((k+1:Nat):Int),n4,l++iX ps[k].length++ps[k]),⟨rfl,k+1,by omega,Oi,rfl,?_⟩,by simp only[aa];omega,?_,λkn kx=> ?_⟩
  ·simp only[ai,bY];omega
  ·simp only[Cg,J8,aa,ht,aC];simp only[ai,bY,eK]
  ·have c8:cut (iX (ps[k].length:Int)) 0 8=iX (ps[k].length:Int):=aYh (bY _);have EU:ps[k].length < 18446744073709551616:=by omega
   rw[QX];simp(disch:=omega) only[↓S1,↓if_pos,↓if_neg,if_pos,if_neg,bG,bp,S2,hn,aAl EU,ard EU,bY,c8,bJ,aOR,aJ,aw,iR,bG];rw[aW (by rw[aOR];omega)];simp only[ai,bY,eK]
 ·right;obtain rfl:k=ps.length:=by omega
  intro R kn kx;rw[QX];simp(disch:=omega) only[↓S1,↓if_pos,↓if_neg,if_pos,if_neg,bG,bp,S2,Cg,J8,aK];simp[og]
theorem aSB:acr.Ok:=by
 rintro⟨name,ps⟩ hp;have hp:(iX (bF name).length++bF name++og ps).length<=140737488350000:=hp;have hl:(iX (bF name).length++bF name++og ps).length=8+(bF name).length+(og ps).length:=by simp only[ai,bY]
 have Oi:=ac2 ps;have tc:name.size=(bF name).length:=by rw[kI]
 have EU:(bF name).length < 18446744073709551616:=by omega
 have p2:Wl (ps,8+(bF name).length,0,ab 32 0,iX ((bF name).length:Int)++bF name):=by refine⟨by simp only[ai,bY],0,aL _,by omega,rfl,?_⟩;rw[aF];simp only[ai,bY];omega
 rw[aSA,tc];simp(disch:=omega) only[↓S1,↓if_pos,↓if_neg,if_pos,if_neg,bG,bp,S2,aAl EU,ard EU,bY,aW (tp (bY _)),arp p2,Cg,J8,aY,aF,aJ];have aCy:cut (iX ((bF name).length:Int)++bF name++og ps) 0 ((iX ((bF name).length:Int)++bF name).length+(og ps).length)=T8 (bF name) ps:=aYh (by simp only[ai]);have p3:aro (T8 (bF name) ps):=hp;rw[if_pos (by simp only[ai];omega),aCy,aMR p3];rfl
theorem arq:acr.RS:=rE [.d .str,.d (.slice tB)] acr
def az0:=acr.eN aSB 1 ⟨.fm awJ,trivial⟩
theorem RF{n:Int}(h1:0<=n)(h2:n < 18446744073709551616):IntKind.u64.wrap n=n:=by rw[wrap_u64,gK];omega
theorem RE(n:Int):IntKind.u64.wrap n=n%18446744073709551616:=by rw[wrap_u64,gK];rfl
theorem tV(x y:Int):bH .u64 x y=(x+y)%18446744073709551616:=RE _
theorem XN(x y:Int):cI .u64 x y=(x - y)%18446744073709551616:=RE _
theorem yO(x y:Int):fX .u64 x y=(x*y)%18446744073709551616:=RE _
theorem aJ1(x:Int):dT .u64 x=x%18446744073709551616:=RE _
theorem amM{x:Int}(h:0<=x)(h2:x < 18446744073709551616):cD .and .u64 x 4294967295=x%4294967296:=by
 obtain⟨n,rfl⟩:∃n:Nat,x=n:=⟨x.toNat,by omega⟩;have e:(aZ 64 (n:Int) &&& aZ 64 4294967295).toNat=n%4294967296:=by
  rw[BitVec.toNat_and];have a:(aZ 64 (n:Int)).toNat=n:=by rw[iN,jQ];omega
  have b:(aZ 64 4294967295).toNat=2^32 - 1:=by decide
  rw[a,b,Nat.and_two_pow_sub_one_eq_mod]
 show IntKind.u64.wrap ((aZ 64 (n:Int) &&& aZ 64 4294967295).toNat:Int)=_;rw[e,RF (by omega) (by omega)];omega
theorem baB{x:Int}(h:0<=x)(h2:x < 18446744073709551616):cD .and .u64 x 1=x%2:=by
 obtain⟨n,rfl⟩:∃n:Nat,x=n:=⟨x.toNat,by omega⟩;have e:(aZ 64 (n:Int) &&& aZ 64 1).toNat=n%2:=by
  rw[BitVec.toNat_and];have a:(aZ 64 (n:Int)).toNat=n:=by rw[iN,jQ];omega
  have b:(aZ 64 1).toNat=2^1 - 1:=by decide
  rw[a,b,Nat.and_two_pow_sub_one_eq_mod]
 show IntKind.u64.wrap ((aZ 64 (n:Int) &&& aZ 64 1).toNat:Int)=_;rw[e,RF (by omega) (by omega)];omega
theorem wD{x k:Int}(n:Nat)(hk:k=n)(hn:n<=64):cq .u64 x k=x / 2^n:=by
 subst hk;rw[cq];have e:min (ae (n:Int)) IntKind.u64.bits=n:=by simp only[IntKind.bits];omega
 rw[e,jS _ (Int.le_of_lt (Int.pow_pos (by omega)))]
theorem wC{x k:Int}(n:Nat)(hk:k=n)(hn:n<=64):l5 .u64 x k=x*2^n%18446744073709551616:=by
 subst hk;rw[l5,RE];have e:min (ae (n:Int)) IntKind.u64.bits=n:=by simp only[IntKind.bits];omega
 rw[e]
theorem Qk{x y:Int}(k:Nat)(m:Int)(hm:m=2^k)(hx:x%m=0)(h0:0<=x)(h1:x < 18446744073709551616)(hy:0<=y)(aXR:y < m)(h2:x+y < 18446744073709551616):cD .or .u64 x y=x+y:=by
 subst hm;obtain⟨n,rfl⟩:∃n:Nat,x=n:=⟨x.toNat,by omega⟩;obtain⟨j,rfl⟩:∃j:Nat,y=j:=⟨y.toNat,by omega⟩;have hx:n%2^k=0:=by
  have:((n%2^k:Nat):Int)=0:=by rw[pF];simpa using hx
  omega
 have hj:j < 2^k:=by
  have:((j:Nat):Int) < ((2^k:Nat):Int):=by simpa using aXR
  omega
 obtain⟨q,rfl⟩:∃q,n=2^k*q:=⟨n / 2^k,by have:=Nat.div_add_mod n (2^k);omega⟩;have e:(aZ 64 ((2^k*q:Nat):Int) ||| aZ 64 (j:Int)).toNat=2^k*q+j:=by
  rw[BitVec.toNat_or];have a:(aZ 64 ((2^k*q:Nat):Int)).toNat=2^k*q:=by rw[iN,jQ];exact jJ (by omega)
  have b:(aZ 64 (j:Int)).toNat=j:=by rw[iN,jQ];exact jJ (by omega)
  rw[a,b,Nat.two_pow_add_eq_or_of_lt hj]
 show IntKind.u64.wrap ((aZ 64 ((2^k*q:Nat):Int) ||| aZ 64 (j:Int)).toNat:Int)=_;rw[e,RF (by omega) (by omega)];omega
theorem akc{x y:Int}(h:0<=x)(h1:0<=y)(h2:x < 18446744073709551616):td .u64 x y=x / y:=by rw[td,jT h];exact RF (Int.ediv_nonneg h h1) (Int.lt_of_le_of_lt (Int.ediv_le_self _ h) h2)
theorem vZ{x y:Int}(h:0<=x):mm x y=x%y:=by rw[mm,gT h]
theorem k1{e u w r q:Int}(he:e=42260\/e=42264\/e=42272)(hu:0<=u)(amv:u < 18446744073709551616 - e)(hw:0<=w)(aGp:w < 4294967296)(hr:0<=r)(aes:r < 4294967296)
  (hq:q*4294967295+r=u) (hQ:(u*4294967296+w) / (18446744073709551616 - e)<=q):
  (4294967296<=q->(u*4294967296+w) / (18446744073709551616 - e)<=q - 1)/\
  (q < 4294967296->4294967296*r+w < q*(4294967296 - e)->(u*4294967296+w) / (18446744073709551616 - e)<=q - 1)/\
  (q < 4294967296->q*(4294967296 - e)<=4294967296*r+w->(u*4294967296+w) / (18446744073709551616 - e)=q)/\
  (4294967296<=r+4294967295->(u*4294967296+w) / (18446744073709551616 - e)<=q - 1->(u*4294967296+w) / (18446744073709551616 - e)=q - 1)/\0<=(u*4294967296+w) / (18446744073709551616 - e)/\q<=4294967297:=by
 rcases he with rfl | rfl | rfl
 ·refine⟨?_,?_,?_,?_,?_,?_⟩ <;> omega
 ·refine⟨?_,?_,?_,?_,?_,?_⟩ <;> omega
 ·refine⟨?_,?_,?_,?_,?_,?_⟩ <;> omega
theorem k0{e u w:Int}(he:e=42260\/e=42264\/e=42272)(hu:0<=u)(amv:u < 18446744073709551616 - e)(hw:0<=w)(aGp:w < 4294967296):
  (u*4294967296+w) / (18446744073709551616 - e)<=u / 4294967295/\0<=u - u / 4294967295*4294967295/\u - u / 4294967295*4294967295 < 4294967296/\
  (u*4294967296+w) - (u*4294967296+w) / (18446744073709551616 - e)*(18446744073709551616 - e)=(u*4294967296+w)%(18446744073709551616 - e)/\
  0<=(u*4294967296+w)%(18446744073709551616 - e)/\(u*4294967296+w)%(18446744073709551616 - e) < 18446744073709551616 - e/\
  0<=(u*4294967296+w) / (18446744073709551616 - e)/\(u*4294967296+w) / (18446744073709551616 - e) < 4294967296:=by
 rcases he with rfl | rfl | rfl
 ·refine⟨?_,?_,?_,?_,?_,?_,?_,?_⟩ <;> omega
 ·refine⟨?_,?_,?_,?_,?_,?_,?_,?_⟩ <;> omega
 ·refine⟨?_,?_,?_,?_,?_,?_,?_,?_⟩ <;> omega
theorem kd(Y u w1 w0:Int)(hY:0 < Y)(h0:0<=w0)(h1:w0 < 4294967296):
  ((u*4294967296+w1)*4294967296+w0) / Y=(u*4294967296+w1) / Y*4294967296+((u*4294967296+w1)%Y*4294967296+w0) / Y/\
  ((u*4294967296+w1)*4294967296+w0)%Y=((u*4294967296+w1)%Y*4294967296+w0)%Y:=by
 generalize u*4294967296+w1=n;have e:n*4294967296+w0=(n%Y*4294967296+w0)+Y*(n / Y*4294967296):=by
  have:=Int.emod_add_mul_ediv n Y;have h:Y*(n / Y*4294967296)=(Y*(n / Y))*4294967296:=by rw[qI]
  rw[h];omega
 rw[e,Int.add_mul_ediv_left _ _ (by omega),Int.add_mul_emod_self_left];exact⟨by omega,rfl⟩
abbrev aza:=Int
abbrev aRn:=Int
def aXU(y:Int):Prop:=y=4611686018427377339\/y=2305843009213688669\/y=2305843009213688668
def aC1:aza->Prop:=aXU
def aRm:aza->aRn:=λy=>if y=4611686018427377339 then 62 else 61
def BU:Fs Tryz.prog aC1 bm aRm:=eI 208 Tryz.f208 (λx=>([.d tu x],[])) (λx=>⟨.d ti x,[],[]⟩) [some tu]
theorem aKu{R:Type}(x)(k:K1 R):BU.A x k=aG ((BP x 4294967296)) (aG ((BP (cq .u64 x 32) 65536)) (aG ((BP (cq .u64 (cq .u64 x 32) 16) 256)) (aG (ed (dT .u8 (cq .u64 (cq .u64 (cq .u64 x 32) 16) 8)) 256) (k (BU.out (bH .i64 56 (dT .i64 (arM (⟨#[0,1,2,2,3,3,3,3,4,4,4,4,4,4,4,4,5,5,5,5,5,5,5,5,5,5,5,5,5,5,5,5,6,6,6,6,6,6,6,6,6,6,6,6,6,6,6,6,6,6,6,6,6,6,6,6,6,6,6,6,6,6,6,6,7,7,7,7,7,7,7,7,7,7,7,7,7,7,7,7,7,7,7,7,7,7,7,7,7,7,7,7,7,7,7,7,7,7,7,7,7,7,7,7,7,7,7,7,7,7,7,7,7,7,7,7,7,7,7,7,7,7,7,7,7,7,7,7,8,8,8,8,8,8,8,8,8,8,8,8,8,8,8,8,8,8,8,8,8,8,8,8,8,8,8,8,8,8,8,8,8,8,8,8,8,8,8,8,8,8,8,8,8,8,8,8,8,8,8,8,8,8,8,8,8,8,8,8,8,8,8,8,8,8,8,8,8,8,8,8,8,8,8,8,8,8,8,8,8,8,8,8,8,8,8,8,8,8,8,8,8,8,8,8,8,8,8,8,8,8,8,8,8,8,8,8,8,8,8,8,8,8,8,8,8,8,8,8,8,8,8,8,8,8,8,8]⟩:ByteArray) (dT .u8 (cq .u64 (cq .u64 (cq .u64 x 32) 16) 8))))))) none) (aG (ed (dT .u8 (cq .u64 (cq .u64 x 32) 16)) 256) (k (BU.out (bH .i64 48 (dT .i64 (arM (⟨#[0,1,2,2,3,3,3,3,4,4,4,4,4,4,4,4,5,5,5,5,5,5,5,5,5,5,5,5,5,5,5,5,6,6,6,6,6,6,6,6,6,6,6,6,6,6,6,6,6,6,6,6,6,6,6,6,6,6,6,6,6,6,6,6,7,7,7,7,7,7,7,7,7,7,7,7,7,7,7,7,7,7,7,7,7,7,7,7,7,7,7,7,7,7,7,7,7,7,7,7,7,7,7,7,7,7,7,7,7,7,7,7,7,7,7,7,7,7,7,7,7,7,7,7,7,7,7,7,8,8,8,8,8,8,8,8,8,8,8,8,8,8,8,8,8,8,8,8,8,8,8,8,8,8,8,8,8,8,8,8,8,8,8,8,8,8,8,8,8,8,8,8,8,8,8,8,8,8,8,8,8,8,8,8,8,8,8,8,8,8,8,8,8,8,8,8,8,8,8,8,8,8,8,8,8,8,8,8,8,8,8,8,8,8,8,8,8,8,8,8,8,8,8,8,8,8,8,8,8,8,8,8,8,8,8,8,8,8,8,8,8,8,8,8,8,8,8,8,8,8,8,8,8,8,8,8]⟩:ByteArray) (dT .u8 (cq .u64 (cq .u64 x 32) 16))))))) none)) (aG ((BP (cq .u64 x 32) 256)) (aG (ed (dT .u8 (cq .u64 (cq .u64 x 32) 8)) 256) (k (BU.out (bH .i64 40 (dT .i64 (arM (⟨#[0,1,2,2,3,3,3,3,4,4,4,4,4,4,4,4,5,5,5,5,5,5,5,5,5,5,5,5,5,5,5,5,6,6,6,6,6,6,6,6,6,6,6,6,6,6,6,6,6,6,6,6,6,6,6,6,6,6,6,6,6,6,6,6,7,7,7,7,7,7,7,7,7,7,7,7,7,7,7,7,7,7,7,7,7,7,7,7,7,7,7,7,7,7,7,7,7,7,7,7,7,7,7,7,7,7,7,7,7,7,7,7,7,7,7,7,7,7,7,7,7,7,7,7,7,7,7,7,8,8,8,8,8,8,8,8,8,8,8,8,8,8,8,8,8,8,8,8,8,8,8,8,8,8,8,8,8,8,8,8,8,8,8,8,8,8,8,8,8,8,8,8,8,8,8,8,8,8,8,8,8,8,8,8,8,8,8,8,8,8,8,8,8,8,8,8,8,8,8,8,8,8,8,8,8,8,8,8,8,8,8,8,8,8,8,8,8,8,8,8,8,8,8,8,8,8,8,8,8,8,8,8,8,8,8,8,8,8,8,8,8,8,8,8,8,8,8,8,8,8,8,8,8,8,8,8]⟩:ByteArray) (dT .u8 (cq .u64 (cq .u64 x 32) 8))))))) none) (aG (ed (dT .u8 (cq .u64 x 32)) 256) (k (BU.out (bH .i64 32 (dT .i64 (arM (⟨#[0,1,2,2,3,3,3,3,4,4,4,4,4,4,4,4,5,5,5,5,5,5,5,5,5,5,5,5,5,5,5,5,6,6,6,6,6,6,6,6,6,6,6,6,6,6,6,6,6,6,6,6,6,6,6,6,6,6,6,6,6,6,6,6,7,7,7,7,7,7,7,7,7,7,7,7,7,7,7,7,7,7,7,7,7,7,7,7,7,7,7,7,7,7,7,7,7,7,7,7,7,7,7,7,7,7,7,7,7,7,7,7,7,7,7,7,7,7,7,7,7,7,7,7,7,7,7,7,8,8,8,8,8,8,8,8,8,8,8,8,8,8,8,8,8,8,8,8,8,8,8,8,8,8,8,8,8,8,8,8,8,8,8,8,8,8,8,8,8,8,8,8,8,8,8,8,8,8,8,8,8,8,8,8,8,8,8,8,8,8,8,8,8,8,8,8,8,8,8,8,8,8,8,8,8,8,8,8,8,8,8,8,8,8,8,8,8,8,8,8,8,8,8,8,8,8,8,8,8,8,8,8,8,8,8,8,8,8,8,8,8,8,8,8,8,8,8,8,8,8,8,8,8,8,8,8]⟩:ByteArray) (dT .u8 (cq .u64 x 32))))))) none))) (aG ((BP x 65536)) (aG ((BP (cq .u64 x 16) 256)) (aG (ed (dT .u8 (cq .u64 (cq .u64 x 16) 8)) 256) (k (BU.out (bH .i64 24 (dT .i64 (arM (⟨#[0,1,2,2,3,3,3,3,4,4,4,4,4,4,4,4,5,5,5,5,5,5,5,5,5,5,5,5,5,5,5,5,6,6,6,6,6,6,6,6,6,6,6,6,6,6,6,6,6,6,6,6,6,6,6,6,6,6,6,6,6,6,6,6,7,7,7,7,7,7,7,7,7,7,7,7,7,7,7,7,7,7,7,7,7,7,7,7,7,7,7,7,7,7,7,7,7,7,7,7,7,7,7,7,7,7,7,7,7,7,7,7,7,7,7,7,7,7,7,7,7,7,7,7,7,7,7,7,8,8,8,8,8,8,8,8,8,8,8,8,8,8,8,8,8,8,8,8,8,8,8,8,8,8,8,8,8,8,8,8,8,8,8,8,8,8,8,8,8,8,8,8,8,8,8,8,8,8,8,8,8,8,8,8,8,8,8,8,8,8,8,8,8,8,8,8,8,8,8,8,8,8,8,8,8,8,8,8,8,8,8,8,8,8,8,8,8,8,8,8,8,8,8,8,8,8,8,8,8,8,8,8,8,8,8,8,8,8,8,8,8,8,8,8,8,8,8,8,8,8,8,8,8,8,8,8]⟩:ByteArray) (dT .u8 (cq .u64 (cq .u64 x 16) 8))))))) none) (aG (ed (dT .u8 (cq .u64 x 16)) 256) (k (BU.out (bH .i64 16 (dT .i64 (arM (⟨#[0,1,2,2,3,3,3,3,4,4,4,4,4,4,4,4,5,5,5,5,5,5,5,5,5,5,5,5,5,5,5,5,6,6,6,6,6,6,6,6,6,6,6,6,6,6,6,6,6,6,6,6,6,6,6,6,6,6,6,6,6,6,6,6,7,7,7,7,7,7,7,7,7,7,7,7,7,7,7,7,7,7,7,7,7,7,7,7,7,7,7,7,7,7,7,7,7,7,7,7,7,7,7,7,7,7,7,7,7,7,7,7,7,7,7,7,7,7,7,7,7,7,7,7,7,7,7,7,8,8,8,8,8,8,8,8,8,8,8,8,8,8,8,8,8,8,8,8,8,8,8,8,8,8,8,8,8,8,8,8,8,8,8,8,8,8,8,8,8,8,8,8,8,8,8,8,8,8,8,8,8,8,8,8,8,8,8,8,8,8,8,8,8,8,8,8,8,8,8,8,8,8,8,8,8,8,8,8,8,8,8,8,8,8,8,8,8,8,8,8,8,8,8,8,8,8,8,8,8,8,8,8,8,8,8,8,8,8,8,8,8,8,8,8,8,8,8,8,8,8,8,8,8,8,8,8]⟩:ByteArray) (dT .u8 (cq .u64 x 16))))))) none)) (aG ((BP x 256)) (aG (ed (dT .u8 (cq .u64 x 8)) 256) (k (BU.out (bH .i64 8 (dT .i64 (arM (⟨#[0,1,2,2,3,3,3,3,4,4,4,4,4,4,4,4,5,5,5,5,5,5,5,5,5,5,5,5,5,5,5,5,6,6,6,6,6,6,6,6,6,6,6,6,6,6,6,6,6,6,6,6,6,6,6,6,6,6,6,6,6,6,6,6,7,7,7,7,7,7,7,7,7,7,7,7,7,7,7,7,7,7,7,7,7,7,7,7,7,7,7,7,7,7,7,7,7,7,7,7,7,7,7,7,7,7,7,7,7,7,7,7,7,7,7,7,7,7,7,7,7,7,7,7,7,7,7,7,8,8,8,8,8,8,8,8,8,8,8,8,8,8,8,8,8,8,8,8,8,8,8,8,8,8,8,8,8,8,8,8,8,8,8,8,8,8,8,8,8,8,8,8,8,8,8,8,8,8,8,8,8,8,8,8,8,8,8,8,8,8,8,8,8,8,8,8,8,8,8,8,8,8,8,8,8,8,8,8,8,8,8,8,8,8,8,8,8,8,8,8,8,8,8,8,8,8,8,8,8,8,8,8,8,8,8,8,8,8,8,8,8,8,8,8,8,8,8,8,8,8,8,8,8,8,8,8]⟩:ByteArray) (dT .u8 (cq .u64 x 8))))))) none) (aG (ed (dT .u8 x) 256) (k (BU.out (bH .i64 0 (dT .i64 (arM (⟨#[0,1,2,2,3,3,3,3,4,4,4,4,4,4,4,4,5,5,5,5,5,5,5,5,5,5,5,5,5,5,5,5,6,6,6,6,6,6,6,6,6,6,6,6,6,6,6,6,6,6,6,6,6,6,6,6,6,6,6,6,6,6,6,6,7,7,7,7,7,7,7,7,7,7,7,7,7,7,7,7,7,7,7,7,7,7,7,7,7,7,7,7,7,7,7,7,7,7,7,7,7,7,7,7,7,7,7,7,7,7,7,7,7,7,7,7,7,7,7,7,7,7,7,7,7,7,7,7,8,8,8,8,8,8,8,8,8,8,8,8,8,8,8,8,8,8,8,8,8,8,8,8,8,8,8,8,8,8,8,8,8,8,8,8,8,8,8,8,8,8,8,8,8,8,8,8,8,8,8,8,8,8,8,8,8,8,8,8,8,8,8,8,8,8,8,8,8,8,8,8,8,8,8,8,8,8,8,8,8,8,8,8,8,8,8,8,8,8,8,8,8,8,8,8,8,8,8,8,8,8,8,8,8,8,8,8,8,8,8,8,8,8,8,8,8,8,8,8,8,8,8,8,8,8,8,8]⟩:ByteArray) (dT .u8 x)))))) none))):=by kernel_rfl
theorem aKv:BU.Ok:=by intro y h;rw[aKu];obtain rfl | rfl | rfl:=h <;> kernel_rfl
theorem aC2:BU.RS:=rE [.d tu] BU
def aKw:=BU.eN aKv
abbrev aKT:=Int
abbrev aWh:=Int
def aKV:aKT->Prop:=aXU
def aKU:aKT->aWh:=λy=>if y=4611686018427377339 then 2 else 3
def avj:Fs Tryz.prog aKV bm aKU:=eI 238 Tryz.f238 (λx=>([.d tu x],[])) (λx=>⟨.d ti x,[],[]⟩) [some tu] [aKw]
theorem aRz{R:Type}(x)(k:K1 R):avj.A x k=ak (BU.call x) λx1=>k (avj.out (cI .i64 64 x1)):=by kernel_rfl
theorem aRA:avj.Ok:=by intro y h;rw[aRz,aC2 (d:=y) h];obtain rfl | rfl | rfl:=h <;> rfl
theorem aKW:avj.RS:=rE [.d tu] avj
def aRB:=avj.eN aRA
abbrev MU:=Int×Int×Int×Int×Int×Int×Int×Int×Int
abbrev Zu:=Int
abbrev aup:=(Int×Int×Int×Int×Int×Int×Int)×(Int)
def Pm:MU->Zu->aup:=λ(afQ,sv,yn1,yn0,un32,un1,un0,q1,rhat) y=>((afQ,sv,yn1,yn0,un32,un1,un0),y)
abbrev MV:=Int×Int×Int×Int×Int×Int×Int×Int×Int
abbrev Zv:=Int
abbrev auq:=(Int×Int×Int×Int×Int)×(Int)
def Pp:MV->Zv->auq:=λ(afR,lN,Mn,ad2,Jr,aeS,Fm,un21,q0) y=>((afR,lN,Jr,aeS,un21),y)
abbrev ayL:=Int×Int×Int
abbrev aQs:=Int×Int
def Pk:MU->Prop:=λ(y,sv,yn1,yn0,u,w,un0,q,r)=>∃e:Int,(e=42260\/e=42264\/e=42272)/\y=18446744073709551616 - e/\yn1=4294967295/\yn0=4294967296 - e/\0<=u/\u < 18446744073709551616 - e/\0<=w/\w < 4294967296/\0<=r/\r < 4294967296/\q*4294967295+r=u/\(u*4294967296+w) / (18446744073709551616 - e)<=q
def EK:MU->Zu:=λ(y,sv,yn1,yn0,u,w,un0,q,r)=>(u*4294967296+w) / y
def Po:MV->Prop:=λ(y,sv,yn1,yn0,w,q1,r,u,q)=>∃e:Int,(e=42260\/e=42264\/e=42272)/\y=18446744073709551616 - e/\yn1=4294967295/\yn0=4294967296 - e/\0<=u/\u < 18446744073709551616 - e/\0<=w/\w < 4294967296/\0<=r/\r < 4294967296/\q*4294967295+r=u/\(u*4294967296+w) / (18446744073709551616 - e)<=q
def EL:MV->Zv:=λ(y,sv,yn1,yn0,w,q1,r,u,q)=>(u*4294967296+w) / y
def agB:ayL->Prop:=λ(hi,lo,y)=>(aXU y\/hi=0/\0 < y/\y < 18446744073709551616)/\0<=hi/\hi < y/\0<=lo/\lo < 18446744073709551616
def ajD:ayL->aQs:=λ(hi,lo,y)=>((hi*18446744073709551616+lo) / y,(hi*18446744073709551616+lo)%y)
def nu:Ls Pk Pm EK:=qv (λ(afQ,sv,yn1,yn0,un32,un1,un0,q1,rhat)=>⟨([bA,bA,.d tu afQ]++aP 5 ([.d tu sv,.d tu yn1,.d tu yn0,.d tu un32,bA,.d tu un1,.d tu un0,.d tu q1,.d tu rhat]++aP 118 [])),[],(ab 135 [])⟩) (λx=>(.exit 0,⟨([bA,bA,.d tu x.1.1]++aP 5 ([.d tu x.1.2.1,.d tu x.1.2.2.1,.d tu x.1.2.2.2.1,.d tu x.1.2.2.2.2.1,bA,.d tu x.1.2.2.2.2.2.1,.d tu x.1.2.2.2.2.2.2,.d tu x.2]++aP 119 [])),[],(ab 135 [])⟩))
def nv:Ls Po Pp EL:=qv (λ(afR,lN,Mn,ad2,Jr,aeS,Fm,un21,q0)=>⟨([bA,bA,.d tu afR]++aP 5 ([.d tu lN,.d tu Mn,.d tu ad2,bA,bA,bA,.d tu Jr,.d tu aeS,.d tu Fm,.d tu un21,.d tu q0]++aP 116 [])),[],(ab 135 [])⟩) (λx=>(.exit 2,⟨([bA,bA,.d tu x.1.1]++aP 5 ([.d tu x.1.2.1]++aP 5 ([.d tu x.1.2.2.1,.d tu x.1.2.2.2.1,bA,.d tu x.1.2.2.2.2,.d tu x.2]++aP 116 []))),[],(ab 135 [])⟩))
def BI:Fs Tryz.prog agB bm ajD:=eI 218 Tryz.f218 (λ(hi,lo,yv)=>([.d tu hi,.d tu lo,.d tu yv],[])) (λx=>⟨.cons (.d tu x.1) (.cons (.d tu x.2) (.nil)),[],[]⟩) [some tu,some tu,some tu] [aRB] {loops:=nD [(17,{aU:=[2,8,9,10,11,13,14,15,16]}),(24,{aU:=[2,8,9,10,14,15,16,17,18]})],outs:=nC [(17,{aU:=[2,8,9,10,11,13,14,15]},{aU:=[6,7]}),(24,{aU:=[2,8,14,15,17,18]},{aU:=[6,7]})],fu:=np [(17,nu.E),(24,nv.E)]}
theorem ajE:nu.RS:=rL [.d tu,.d tu,.d tu,.d tu,.d tu,.d tu,.d tu,.d tu,.d tu] nu
theorem Cy{R:Type}(afQ sv yn1 yn0 un32 un1 un0 q1 rhat)(kn:K2 R)(kx:K3 R):BI.R 0 nu (afQ,sv,yn1,yn0,un32,un1,un0,q1,rhat) kn kx=aG ((BP q1 4294967296)) (aG ((BP (bH .u64 rhat yn1) 4294967296)) (nu.go kx ((afQ,sv,yn1,yn0,un32,un1,un0),(cI .u64 q1 1))) (kn (nu.st (afQ,sv,yn1,yn0,un32,un1,un0,(cI .u64 q1 1),(bH .u64 rhat yn1))))) (aG ((w5 (fX .u64 q1 yn0) (bH .u64 (fX .u64 4294967296 rhat) un1))) (aG ((BP (bH .u64 rhat yn1) 4294967296)) (nu.go kx ((afQ,sv,yn1,yn0,un32,un1,un0),(cI .u64 q1 1))) (kn (nu.st (afQ,sv,yn1,yn0,un32,un1,un0,(cI .u64 q1 1),(bH .u64 rhat yn1))))) (nu.go kx ((afQ,sv,yn1,yn0,un32,un1,un0),q1))):=by kernel_rfl
theorem ajF:nv.RS:=rL [.d tu,.d tu,.d tu,.d tu,.d tu,.d tu,.d tu,.d tu,.d tu] nv
theorem Cz{R:Type}(afR lN Mn ad2 Jr aeS Fm un21 q0)(kn:K2 R)(kx:K3 R):BI.R 1 nv (afR,lN,Mn,ad2,Jr,aeS,Fm,un21,q0) kn kx=aG ((BP q0 4294967296)) (aG ((BP (bH .u64 Fm Mn) 4294967296)) (nv.go kx ((afR,lN,Jr,aeS,un21),(cI .u64 q0 1))) (kn (nv.st (afR,lN,Mn,ad2,Jr,aeS,(bH .u64 Fm Mn),un21,(cI .u64 q0 1))))) (aG ((w5 (fX .u64 q0 ad2) (bH .u64 (fX .u64 4294967296 Fm) Jr))) (aG ((BP (bH .u64 Fm Mn) 4294967296)) (nv.go kx ((afR,lN,Jr,aeS,un21),(cI .u64 q0 1))) (kn (nv.st (afR,lN,Mn,ad2,Jr,aeS,(bH .u64 Fm Mn),un21,(cI .u64 q0 1))))) (nv.go kx ((afR,lN,Jr,aeS,un21),q0))):=by kernel_rfl
theorem aI2{R:Type}(hi lo yv)(k:K1 R):BI.A (hi,lo,yv) k=aG ((qO yv 0)) (none) (aG ((amw yv hi)) (none) (aG ((qO hi 0)) (aG (ri yv) (aG (ri yv) (k (BI.out ((td .u64 lo yv),(mm lo yv)))) none) none) (ak (avj.call yv) λx1=>aG (ma (dT .u64 x1)) (aG (ma (dT .u64 x1)) (aG (ma (cI .u64 64 (dT .u64 x1))) (aG (ma (dT .u64 x1)) (aG (ri (cq .u64 (l5 .u64 yv (dT .u64 x1)) 32)) (ak (nu.call ((l5 .u64 yv (dT .u64 x1)),(dT .u64 x1),(cq .u64 (l5 .u64 yv (dT .u64 x1)) 32),(cD .and .u64 (l5 .u64 yv (dT .u64 x1)) 4294967295),(cD .or .u64 (l5 .u64 hi (dT .u64 x1)) (cq .u64 lo (cI .u64 64 (dT .u64 x1)))),(cq .u64 (l5 .u64 lo (dT .u64 x1)) 32),(cD .and .u64 (l5 .u64 lo (dT .u64 x1)) 4294967295),(td .u64 (cD .or .u64 (l5 .u64 hi (dT .u64 x1)) (cq .u64 lo (cI .u64 64 (dT .u64 x1)))) (cq .u64 (l5 .u64 yv (dT .u64 x1)) 32)),(cI .u64 (cD .or .u64 (l5 .u64 hi (dT .u64 x1)) (cq .u64 lo (cI .u64 64 (dT .u64 x1)))) (fX .u64 (td .u64 (cD .or .u64 (l5 .u64 hi (dT .u64 x1)) (cq .u64 lo (cI .u64 64 (dT .u64 x1)))) (cq .u64 (l5 .u64 yv (dT .u64 x1)) 32)) (cq .u64 (l5 .u64 yv (dT .u64 x1)) 32))))) λx2=>aG (ri x2.1.2.2.1) (ak (nv.call (x2.1.1,x2.1.2.1,x2.1.2.2.1,x2.1.2.2.2.1,x2.1.2.2.2.2.2.2,x2.2,(cI .u64 (cI .u64 (bH .u64 (fX .u64 x2.1.2.2.2.2.1 4294967296) x2.1.2.2.2.2.2.1) (fX .u64 x2.2 x2.1.1)) (fX .u64 (td .u64 (cI .u64 (bH .u64 (fX .u64 x2.1.2.2.2.2.1 4294967296) x2.1.2.2.2.2.2.1) (fX .u64 x2.2 x2.1.1)) x2.1.2.2.1) x2.1.2.2.1)),(cI .u64 (bH .u64 (fX .u64 x2.1.2.2.2.2.1 4294967296) x2.1.2.2.2.2.2.1) (fX .u64 x2.2 x2.1.1)),(td .u64 (cI .u64 (bH .u64 (fX .u64 x2.1.2.2.2.2.1 4294967296) x2.1.2.2.2.2.2.1) (fX .u64 x2.2 x2.1.1)) x2.1.2.2.1))) λx3=>aG (ma x3.1.2.1) (k (BI.out ((bH .u64 (fX .u64 x3.1.2.2.2.1 4294967296) x3.2),(cq .u64 (cI .u64 (bH .u64 (fX .u64 x3.1.2.2.2.2 4294967296) x3.1.2.2.1) (fX .u64 x3.2 x3.1.1)) x3.1.2.1)))) none) none) none) none) none) none) none))):=by kernel_rfl
theorem aos:(BI.jP 0 nu):=by
 refine(BI.lk 0 nu) (λ(y,sv,yn1,yn0,u,w,un0,q,r)=>q.toNat) ?_
 rintro⟨y,sv,yn1,yn0,u,w,un0,q,r⟩ ⟨e,he,rfl,rfl,rfl,hu,amv,hw,aGp,hr,aes,hq,hQ⟩;have hu:0<=u:=hu;have amv:u < 18446744073709551616 - e:=amv;have hw:0<=w:=hw;have aGp:w < 4294967296:=aGp;have hr:0<=r:=hr;have aes:r < 4294967296:=aes;have hq:q*4294967295+r=u:=hq;obtain⟨k1,k2,k3,k4,k5,k6⟩:=k1 he hu amv hw aGp hr aes hq hQ;have q0:0<=q:=Int.le_trans k5 hQ;have a1:bH .u64 r 4294967295=r+4294967295:=by rw[tV];omega
 have a2:bH .u64 (fX .u64 4294967296 r) w=4294967296*r+w:=by rw[yO,tV];omega
 have a3:q < 4294967296->fX .u64 q (4294967296 - e)=q*(4294967296 - e):=by intro h;rw[yO];rcases he with rfl | rfl | rfl <;> omega
 have a4:0 < q->cI .u64 q 1=q - 1:=by intro h;rw[XN];omega
 have pos:4294967296<=q\/(q < 4294967296/\4294967296*r+w < q*(4294967296 - e))->0 < q/\(u*4294967296+w) / (18446744073709551616 - e)<=q - 1:=by
  rintro(h | ⟨h,h2⟩)
  ·exact⟨by omega,k1 h⟩
  ·exact⟨by have:=k2 h h2;omega,k2 h h2⟩
 by_cases hc:4294967296<=q\/(q < 4294967296/\4294967296*r+w < q*(4294967296 - e))
 ·obtain⟨p1,p2⟩:=pos hc;by_cases hb:4294967296<=r+4294967295
  ·right;have hF:EK (18446744073709551616 - e,sv,4294967295,4294967296 - e,u,w,un0,q,r)=q - 1:=k4 hb p2;intro R kn kx;rw[Cy,a1,a2,a4 p1,fW hb,hF];rcases hc with h | ⟨h,h2⟩
   ·rw[fW h];rfl
   ·rw[eo (by omega),a3 h,df h2];rfl
  ·left;refine⟨(18446744073709551616 - e,sv,4294967295,4294967296 - e,u,w,un0,q - 1,r+4294967295),⟨e,he,rfl,rfl,rfl,hu,amv,hw,aGp,by omega,by omega,by omega,p2⟩,by simp only[];omega,rfl,λkn kx=> ?_⟩;rw[Cy,a1,a2,a4 p1,eo hb];rcases hc with h | ⟨h,h2⟩
   ·rw[fW h];rfl
   ·rw[eo (by omega),a3 h,df h2];rfl
 ·right;have h:q < 4294967296:=by omega
  have h2:¬4294967296*r+w < q*(4294967296 - e):=λx=>hc (eW ⟨h,x⟩)
  have hF:EK (18446744073709551616 - e,sv,4294967295,4294967296 - e,u,w,un0,q,r)=q:=k3 h (by omega);intro R kn kx;rw[Cy,a2,a3 h,eo (by omega),cE h2,hF];rfl
theorem aot:(BI.jP 1 nv):=by
 refine(BI.lk 1 nv) (λ(y,sv,yn1,yn0,w,q1,r,u,q)=>q.toNat) ?_
 rintro⟨y,sv,yn1,yn0,w,q1,r,u,q⟩ ⟨e,he,rfl,rfl,rfl,hu,amv,hw,aGp,hr,aes,hq,hQ⟩;have hu:0<=u:=hu;have amv:u < 18446744073709551616 - e:=amv;have hw:0<=w:=hw;have aGp:w < 4294967296:=aGp;have hr:0<=r:=hr;have aes:r < 4294967296:=aes;have hq:q*4294967295+r=u:=hq;obtain⟨k1,k2,k3,k4,k5,k6⟩:=k1 he hu amv hw aGp hr aes hq hQ;have q0:0<=q:=Int.le_trans k5 hQ;have a1:bH .u64 r 4294967295=r+4294967295:=by rw[tV];omega
 have a2:bH .u64 (fX .u64 4294967296 r) w=4294967296*r+w:=by rw[yO,tV];omega
 have a3:q < 4294967296->fX .u64 q (4294967296 - e)=q*(4294967296 - e):=by intro h;rw[yO];rcases he with rfl | rfl | rfl <;> omega
 have a4:0 < q->cI .u64 q 1=q - 1:=by intro h;rw[XN];omega
 have pos:4294967296<=q\/(q < 4294967296/\4294967296*r+w < q*(4294967296 - e))->0 < q/\(u*4294967296+w) / (18446744073709551616 - e)<=q - 1:=by
  rintro(h | ⟨h,h2⟩)
  ·exact⟨by omega,k1 h⟩
  ·exact⟨by have:=k2 h h2;omega,k2 h h2⟩
 by_cases hc:4294967296<=q\/(q < 4294967296/\4294967296*r+w < q*(4294967296 - e))
 ·obtain⟨p1,p2⟩:=pos hc;by_cases hb:4294967296<=r+4294967295
  ·right;have hF:EL (18446744073709551616 - e,sv,4294967295,4294967296 - e,w,q1,r,u,q)=q - 1:=k4 hb p2;intro R kn kx;rw[Cz,a1,a2,a4 p1,fW hb,hF];rcases hc with h | ⟨h,h2⟩
   ·rw[fW h];rfl
   ·rw[eo (by omega),a3 h,df h2];rfl
  ·left;refine⟨(18446744073709551616 - e,sv,4294967295,4294967296 - e,w,q1,r+4294967295,u,q - 1),⟨e,he,rfl,rfl,rfl,hu,amv,hw,aGp,by omega,by omega,by omega,p2⟩,by simp only[];omega,rfl,λkn kx=> ?_⟩;rw[Cz,a1,a2,a4 p1,eo hb];rcases hc with h | ⟨h,h2⟩
   ·rw[fW h];rfl
   ·rw[eo (by omega),a3 h,df h2];rfl
 ·right;have h:q < 4294967296:=by omega
  have h2:¬4294967296*r+w < q*(4294967296 - e):=λx=>hc (eW ⟨h,x⟩)
  have hF:EL (18446744073709551616 - e,sv,4294967295,4294967296 - e,w,q1,r,u,q)=q:=k3 h (by omega);intro R kn kx;rw[Cz,a2,a3 h,eo (by omega),cE h2,hF];rfl
theorem aVf{y hi lo:Int}(hy:aXU y)(h0:0<=hi)(h1:hi < y)(h2:0<=lo)(h3:lo < 18446744073709551616):∃(s:Nat) (e m:Int),aKU y=s/\(s=2\/s=3)/\m=2^s/\(e=42260\/e=42264\/e=42272)/\y*m=18446744073709551616 - e/\
  l5 .u64 y (s:Int)=18446744073709551616 - e/\
  cD .or .u64 (l5 .u64 hi (s:Int)) (cq .u64 lo (cI .u64 64 (s:Int)))=(hi*18446744073709551616+lo)*m / 18446744073709551616/\
  l5 .u64 lo (s:Int)=(hi*18446744073709551616+lo)*m%18446744073709551616/\
  (hi*18446744073709551616+lo)*m / 18446744073709551616 < 18446744073709551616 - e/\
  (hi*18446744073709551616+lo)*m / (18446744073709551616 - e)=(hi*18446744073709551616+lo) / y/\
  (hi*18446744073709551616+lo)*m%(18446744073709551616 - e) / m=(hi*18446744073709551616+lo)%y:=by
 have e1:cI .u64 64 ((2:Nat):Int)=((62:Nat):Int):=rfl;have e2:cI .u64 64 ((3:Nat):Int)=((61:Nat):Int):=rfl;have p2:(2:Int)^2=4:=rfl;have p3:(2:Int)^3=8:=rfl;have p61:(2:Int)^61=2305843009213693952:=rfl;have p62:(2:Int)^62=4611686018427387904:=rfl;obtain rfl | rfl | rfl:=hy
 ·refine⟨2,42260,4,rfl,lv rfl,rfl,lv rfl,rfl,by rw[wC 2 (by rfl) (by omega),p2];omega,?_,?_,by omega,by omega,by omega⟩
  ·rw[e1,wC 2 (by rfl) (by omega),wD 62 (by rfl) (by omega),p2,p62,Qk 2 4 rfl (by omega) (by omega) (by omega) (by omega) (by omega) (by omega)];omega
  ·rw[wC 2 (by rfl) (by omega),p2];omega
 ·refine⟨3,42264,8,rfl,eW rfl,rfl,eW (lv rfl),rfl,by rw[wC 3 (by rfl) (by omega),p3];omega,?_,?_,by omega,by omega,by omega⟩
  ·rw[e2,wC 3 (by rfl) (by omega),wD 61 (by rfl) (by omega),p3,p61,Qk 3 8 rfl (by omega) (by omega) (by omega) (by omega) (by omega) (by omega)];omega
  ·rw[wC 3 (by rfl) (by omega),p3];omega
 ·refine⟨3,42272,8,rfl,eW rfl,rfl,eW (eW rfl),rfl,by rw[wC 3 (by rfl) (by omega),p3];omega,?_,?_,by omega,by omega,by omega⟩
  ·rw[e2,wC 3 (by rfl) (by omega),wD 61 (by rfl) (by omega),p3,p61,Qk 3 8 rfl (by omega) (by omega) (by omega) (by omega) (by omega) (by omega)];omega
  ·rw[wC 3 (by rfl) (by omega),p3];omega
theorem bbK(a b c:Int):(((a%18446744073709551616+b)%18446744073709551616) - c%18446744073709551616)%18446744073709551616=(a+b - c)%18446744073709551616:=by omega
theorem aI3:BI.Ok:=by
 rintro⟨hi,lo,y⟩ ⟨hy,h0,h1,h2,h3⟩;have h0:0<=hi:=h0;have h1:hi < y:=h1;have h2:0<=lo:=h2;have h3:lo < 18446744073709551616:=h3;have yb:0 < y/\y < 18446744073709551616:=by
  rcases hy with hy | hy
  ·obtain rfl | rfl | rfl:=hy <;> omega
  ·exact hy.2
 rw[aI2,eM (by omega),lY (by omega)];simp only[al];have z:ri y=true:=by simp[ri];omega
 by_cases hz:hi=0
 ·subst hz;rw[dj rfl,z,akc h2 (by omega) h3,vZ h2];simp only[aj,ajD,bm,Int.zero_mul,Int.zero_add]
 ·have hy:aXU y:=hy.resolve_right λe=>hz e.1
  obtain⟨s,e,m,hs,ZS,hm,he,beP,a1,a2,a3,a4,a5,a6⟩:=aVf hy h0 h1 h2 h3;have c1:dT .u64 (s:Int)=(s:Int):=by rw[aJ1];omega
  have c2:ma (s:Int)=true:=sO (by omega);have c3:ma (cI .u64 64 (s:Int))=true:=by rcases ZS with rfl | rfl <;> rfl
  rw[eM hz,aKW (d:=y) hy];simp only[al,ah,bm,hs,c1,c2,c3,aj,a1,a2,a3];have hN:0<=(hi*18446744073709551616+lo)*m:=Int.mul_nonneg (by omega) (by rcases ZS with rfl | rfl <;> omega)
  revert a4 a5 a6
  generalize (hi*18446744073709551616+lo)*m=N at hN;intro a4 a5 a6;have u0:0<=N / 18446744073709551616:=by omega
  have t0:0<=N%18446744073709551616:=by omega
  have t1:N%18446744073709551616 < 18446744073709551616:=by omega
  have hd:N=(N / 18446744073709551616*4294967296+N%18446744073709551616 / 4294967296)*4294967296+N%18446744073709551616%4294967296:=by omega
  have w10:0<=N%18446744073709551616 / 4294967296:=by omega
  have w11:N%18446744073709551616 / 4294967296 < 4294967296:=by omega
  have w00:0<=N%18446744073709551616%4294967296:=by omega
  have w01:N%18446744073709551616%4294967296 < 4294967296:=by omega
  have p32:(2:Int)^32=4294967296:=rfl;have b1:cq .u64 (18446744073709551616 - e) 32=4294967295:=by rw[wD 32 (by rfl) (by omega),p32];rcases he with rfl | rfl | rfl <;> rfl
  have b2:cD .and .u64 (18446744073709551616 - e) 4294967295=4294967296 - e:=by rw[amM (by omega) (by omega)];omega
  have b3:cq .u64 (N%18446744073709551616) 32=N%18446744073709551616 / 4294967296:=by rw[wD 32 (by rfl) (by omega),p32]
  have b4:cD .and .u64 (N%18446744073709551616) 4294967295=N%18446744073709551616%4294967296:=amM t0 t1;have z2:ri 4294967295=true:=rfl;simp only[b1,b2,b3,b4,z2,aj];clear a1 a2 a3 b1 b2 b3 b4;have kdd:=kd (18446744073709551616 - e) (N / 18446744073709551616) (N%18446744073709551616 / 4294967296) (N%18446744073709551616%4294967296) (by omega) w00 w01;rw[<-hd,a5]at kdd
  revert a4 kdd
  generalize N / 18446744073709551616=u at u0;generalize N%18446744073709551616 / 4294967296=w1 at w10 w11;generalize N%18446744073709551616%4294967296=w0 at w00 w01;intro a4 kdd
  have g:∀u w:Int,0<=u->u < 18446744073709551616 - e->0<=w->w < 4294967296->
    td .u64 u 4294967295=u / 4294967295/\cI .u64 u (fX .u64 (u / 4294967295) 4294967295)=u - u / 4294967295*4294967295/\
    cI .u64 (bH .u64 (fX .u64 u 4294967296) w) (fX .u64 ((u*4294967296+w) / (18446744073709551616 - e)) (18446744073709551616 - e))=(u*4294967296+w)%(18446744073709551616 - e):=by
   intro u w k1 k2 k3 k4;obtain⟨q1,q2,q3,q4,q5,q6,q7,q8⟩:=k0 he k1 k2 k3 k4;refine⟨akc k1 (by omega) (by omega),by rw[XN,yO];omega,?_⟩;rw[XN,tV,yO,yO,bbK,q4];exact eU q5 (by omega)
  obtain⟨f1,f2,f3⟩:=g u w1 u0 a4 w10 w11;obtain⟨q1,q2,q3,q4,q5,q6,q7,q8⟩:=k0 he u0 a4 w10 w11;have p1:Pk (18446744073709551616 - e,(s:Int),4294967295,4294967296 - e,u,w1,w0,u / 4294967295,u - u / 4294967295*4294967295):=⟨e,he,rfl,rfl,rfl,u0,a4,w10,w11,q2,q3,by omega,q1⟩;rw[f1,f2,ajE p1];simp only[ah,Pm,EK,z2,aj,f3]
  revert f3 q1 kdd
  generalize (u*4294967296+w1)%(18446744073709551616 - e)=v at q4 q5 q6;generalize (u*4294967296+w1) / (18446744073709551616 - e)=Q at q4 q7 q8;intro kdd f3 q1;obtain⟨g1,g2,g3⟩:=g v w0 q5 q6 w00 w01;obtain⟨r1,r2,r3,r4,r5,r6,r7,r8⟩:=k0 he q5 q6 w00 w01;have p2:Po (18446744073709551616 - e,(s:Int),4294967295,4294967296 - e,w0,Q,v - v / 4294967295*4294967295,v,v / 4294967295):=⟨e,he,rfl,rfl,rfl,q5,q6,w00,w01,r2,r3,by omega,r1⟩;rw[g1,g2,ajF p2];simp only[ah,Pp,EL,c2,aj,g3];rw[<-kdd.2,wD s (by rfl) (by omega),<-hm,a6,yO,tV];have e9:(Q*4294967296%18446744073709551616+(v*4294967296+w0) / (18446744073709551616 - e))%18446744073709551616=(hi*18446744073709551616+lo) / y:=by rw[kdd.1];omega
  rw[e9];rfl
theorem aB2:BI.RS:=rE [.d tu,.d tu,.d tu] BI
def aI4:=BI.eN aI3 2 ⟨.fm aos,⟨.fm aot,trivial⟩⟩
abbrev azP:=Int×Int×Int
abbrev aSj:=Int
def TB:azP->Prop:=λ(hi,lo,y)=>aXU y/\0<=hi/\hi < 18446744073709551616/\0<=lo/\lo < 18446744073709551616
def QI:azP->aSj:=λ(hi,lo,y)=>(hi*18446744073709551616+lo)%y
def QH:Fs Tryz.prog TB bm QI:=eI 185 Tryz.f185 (λ(hi,lo,yv)=>([.d tu hi,.d tu lo,.d tu yv],[])) (λx=>⟨.d tu x,[],[]⟩) [some tu,some tu,some tu] [aI4]
theorem aMn{R:Type}(hi lo yv)(k:K1 R):QH.A (hi,lo,yv) k=aG (ri yv) (ak (BI.call ((mm hi yv),lo,yv)) λx1=>k (QH.out x1.2)) none:=by kernel_rfl
theorem aMo:QH.Ok:=by
 rintro⟨hi,lo,y⟩ ⟨hy,h0,h1,h2,h3⟩;have h0:0<=hi:=h0;have yb:0 < y:=by obtain rfl | rfl | rfl:=hy <;> omega
 have z:ri y=true:=by simp[ri];omega
 have p:agB (hi%y,lo,y):=⟨.inl hy,ko _ (by omega),jR _ yb,h2,h3⟩;rw[aMn,z,vZ h0,aB2 p];have e:(hi%y*18446744073709551616+lo)%y=(hi*18446744073709551616+lo)%y:=by rw[tj,jk,gB _ (pD y),<-jk,<-tj]
 simp only[aj,ah,bm,ajD,bm,QI,e]
theorem TC:QH.RS:=rE [.d tu,.d tu,.d tu] QH
def ab7:=QH.eN aMo
abbrev azn:=Int×Int
abbrev aRD:=Int×Int
def aDn:azn->Prop:=λ(x,y)=>(0<=x/\x < 18446744073709551616)/\0<=y/\y < 18446744073709551616
def XT:azn->aRD:=λ(x,y)=>(x*y / 18446744073709551616,x*y%18446744073709551616)
def Qf:Fs Tryz.prog aDn bm XT:=eI 213 Tryz.f213 (λ(x,yv)=>([.d tu x,.d tu yv],[])) (λx=>⟨.cons (.d tu x.1) (.cons (.d tu x.2) (.nil)),[],[]⟩) [some tu,some tu]
theorem aK1{R:Type}(x yv)(k:K1 R):Qf.A (x,yv) k=k (Qf.out ((bH .u64 (bH .u64 (fX .u64 (cq .u64 x 32) (cq .u64 yv 32)) (cq .u64 (bH .u64 (fX .u64 (cq .u64 x 32) (cD .and .u64 yv 4294967295)) (cq .u64 (fX .u64 (cD .and .u64 x 4294967295) (cD .and .u64 yv 4294967295)) 32)) 32)) (cq .u64 (bH .u64 (cD .and .u64 (bH .u64 (fX .u64 (cq .u64 x 32) (cD .and .u64 yv 4294967295)) (cq .u64 (fX .u64 (cD .and .u64 x 4294967295) (cD .and .u64 yv 4294967295)) 32)) 4294967295) (fX .u64 (cD .and .u64 x 4294967295) (cq .u64 yv 32))) 32)),(fX .u64 x yv))):=by kernel_rfl
theorem Tm{a b m n:Int}(h0:0<=a)(h1:a<=m)(h2:0<=b)(h3:b<=n):0<=a*b/\a*b<=m*n:=⟨Int.mul_nonneg h0 h2,Int.mul_le_mul h1 h3 h2 (Int.le_trans h0 h1)⟩
theorem aK2:Qf.Ok:=by
 rintro⟨x,y⟩ ⟨⟨h0,h1⟩,h2,h3⟩;have h0:0<=x:=h0;have h1:x < 18446744073709551616:=h1;have h2:0<=y:=h2;have h3:y < 18446744073709551616:=h3;rw[aK1];have p32:(2:Int)^32=4294967296:=rfl;have ber:∀x:Int,cq .u64 x 32=x / 4294967296:=λx=>by rw[wD 32 (by rfl) (by omega),p32]
 simp only[ber,amM h0 h1,amM h2 h3];obtain⟨a,b,rfl,a0,a1,b0,b1⟩:∃a b:Int,x=a*4294967296+b/\0<=a/\a<=4294967295/\0<=b/\b<=4294967295:=⟨x / 4294967296,x%4294967296,by omega,by omega,by omega,by omega,by omega⟩;obtain⟨c,d,rfl,c0,c1,d0,d1⟩:∃a b:Int,y=a*4294967296+b/\0<=a/\a<=4294967295/\0<=b/\b<=4294967295:=⟨y / 4294967296,y%4294967296,by omega,by omega,by omega,by omega,by omega⟩;have e1:(a*4294967296+b) / 4294967296=a:=by omega
 have e2:(a*4294967296+b)%4294967296=b:=by omega
 have e3:(c*4294967296+d) / 4294967296=c:=by omega
 have e4:(c*4294967296+d)%4294967296=d:=by omega
 have e5:(a*4294967296+b)*(c*4294967296+d)=a*c*18446744073709551616+(a*d+b*c)*4294967296+b*d:=by
  have q:(4294967296:Int)*4294967296=18446744073709551616:=rfl;rw[Int.add_mul,Int.mul_add,Int.mul_add];have q1:a*4294967296*(c*4294967296)=a*c*18446744073709551616:=by rw[<-q];ac_rfl
  have q2:a*4294967296*d=a*d*4294967296:=by ac_rfl
  have q3:b*(c*4294967296)=b*c*4294967296:=by ac_rfl
  rw[q1,q2,q3];omega
 obtain⟨m1,m2⟩:=Tm a0 a1 c0 c1;obtain⟨m3,m4⟩:=Tm a0 a1 d0 d1;obtain⟨m5,m6⟩:=Tm b0 b1 c0 c1;obtain⟨m7,m8⟩:=Tm b0 b1 d0 d1;have n:(4294967295:Int)*4294967295=18446744065119617025:=rfl;rw[n]at m2 m4 m6 m8;simp only[e1,e2,e3,e4,bm,XT,e5,yO,tV]
 revert m1 m2 m3 m4 m5 m6 m7 m8
 generalize a*c=ac;generalize a*d=ad;generalize b*c=bc;generalize b*d=bd;intro m1 m2 m3 m4 m5 m6 m7 m8;have q1:bd%18446744073709551616=bd:=by omega
 have q2:ad%18446744073709551616=ad:=by omega
 have q3:bc%18446744073709551616=bc:=by omega
 have q4:ac%18446744073709551616=ac:=by omega
 rw[q1,q2,q3,q4];have q5:(ad+bd / 4294967296)%18446744073709551616=ad+bd / 4294967296:=by omega
 have q6:cD .and .u64 (ad+bd / 4294967296) 4294967295=(ad+bd / 4294967296)%4294967296:=amM (by omega) (by omega);rw[q5,q6];refine bl some (bl Qf.out (Prod.ext ?_ ?_))
 ·show _=(_:Int);simp only[];omega
 ·rfl
theorem ahc:Qf.RS:=rE [.d tu,.d tu] Qf
def apL:=Qf.eN aK2
def Pn(x:Int):Prop:=0<=x/\x < 4611686018427377339
def nr(x:Int):Prop:=0<=x/\x < 18446744073709551616
theorem Pn.u{x:Int}(h:Pn x):nr x:=⟨h.1,by have:=h.2;omega⟩
def oW(a b:Int):Int:=a*b%4611686018427377339
theorem we(a b:Int):Pn (oW a b):=⟨ko _ (by omega),jR _ (by omega)⟩
def amy:Nat->Int->Nat->Int->Int
 | 0,_,_,out=>out
 |f+1,a,n,out=>if n=0 then out else amy f (oW a a) (n / 2) (if n%2=1 then oW out a else out)
def pw(a:Int)(n:Nat):Int:=amy 64 a n 1
theorem AQ(f:Nat)(a out:Int):amy f a 0 out=out:=by cases f <;> rfl
theorem abn:∀(f g:Nat) (a:Int) (n:Nat) (out:Int),n < 2^f->n < 2^g->amy f a n out=amy g a n out
 | 0,g,a,n,out,h,_=>by
  obtain rfl:n=0:=by omega
  rw[AQ,AQ]
 |f+1,0,a,n,out,_,h=>by
  obtain rfl:n=0:=by omega
  rw[AQ,AQ]
 |f+1,g+1,a,n,out,h,h'=>by
  have e:(2:Nat)^(f+1)=2^f*2:=Nat.pow_succ 2 f;have e':(2:Nat)^(g+1)=2^g*2:=Nat.pow_succ 2 g;unfold amy;split
  ·rfl
  ·exact abn f g _ _ _ (by omega) (by omega)
theorem aLV:∀(f:Nat) (a:Int) (n:Nat) (out:Int),Pn out->Pn (amy f a n out)
 | 0,_,_,_,h=>h
 |f+1,a,n,out,h=>by
  unfold amy;split
  ·exact h
  ·refine aLV f _ _ _ ?_
   split
   ·exact we _ _
   ·exact h
theorem aqz(a:Int)(n:Nat):Pn (pw a n):=aLV _ _ _ _ ⟨by omega,by omega⟩
abbrev aqw:=Int×Int
abbrev aLR:=Int
def avS:aqw->Prop:=λ(a,b)=>nr a/\nr b
def aLQ:aqw->aLR:=λ(a,b)=>oW a b
def CL:Fs Tryz.prog avS bm aLQ:=eI 180 Tryz.f180 (λ(a,b)=>([.d tu a,.d tu b],[])) (λx=>⟨.d tu x,[],[]⟩) [some tu,some tu] [apL,ab7]
theorem aD1{R:Type}(a b)(k:K1 R):CL.A (a,b) k=ak (Qf.call (a,b)) λx1=>ak (QH.call (x1.1,x1.2,4611686018427377339)) λx2=>k (CL.out x2):=by kernel_rfl
theorem adA(n:Int):n / 18446744073709551616*18446744073709551616+n%18446744073709551616=n:=by omega
theorem aD2:CL.Ok:=by rintro⟨a,b⟩ ⟨ha,hb⟩;have ha:nr a:=ha;have hb:nr b:=hb;obtain⟨m1,m2⟩:=Tm ha.1 (show a<=18446744073709551615 by have:=ha.2;omega) hb.1 (show b<=18446744073709551615 by have:=hb.2;omega);have n:(18446744073709551615:Int)*18446744073709551615=340282366920938463426481119284349108225:=rfl;rw[n]at m2;have p:TB (a*b / 18446744073709551616,a*b%18446744073709551616,4611686018427377339):=⟨lv rfl,by omega,by omega,by omega,by omega⟩;rw[aD1,ahc (d:=(a,b)) ⟨ha,hb⟩];simp only[ah,bm,XT];rw[TC p];simp only[ah,bm,QI,adA];rfl
theorem NN:CL.RS:=rE [.d tu,.d tu] CL
def ahx:=CL.eN aD2
abbrev V2:=Int×Int×Int
abbrev aqr:=Int
abbrev aqp:=Int×Int
abbrev aLL:=Int
def aeP:V2->Prop:=λ(a,n,o)=>nr a/\nr n/\Pn o
def B2:V2->aqr:=λ(a,n,o)=>amy 64 a n.toNat o
def avO:aqp->Prop:=λ(a,n)=>nr a/\nr n
def aqq:aqp->aLL:=λ(a,n)=>pw a n.toNat
def nM:Ls aeP bm B2:=qv (λ(FZ,wg,outv)=>⟨([.d tu FZ,.d tu wg,bA,bA,bA,.d tu outv]++aP 14 []),[],(ab 20 [])⟩) (λx=>(.exit 0,⟨(aP 5 ([.d tu x]++aP 14 [])),[],(ab 20 [])⟩))
def xA:Fs Tryz.prog avO bm aqq:=eI 130 Tryz.f130 (λ(a,n)=>([.d tu a,.d tu n],[])) (λx=>⟨.d tu x,[],[]⟩) [some tu,some tu] [ahx] {loops:=nD [(2,{aU:=[0,1,5]})],outs:=nC [(2,{aU:=[5]},{aU:=[4]})],fu:=np [(2,nM.E)]}
theorem aeQ:nM.RS:=rL [.d tu,.d tu,.d tu] nM
theorem H7{R:Type}(FZ wg outv)(kn:K2 R)(kx:K3 R):xA.R 0 nM (FZ,wg,outv) kn kx=aG ((w5 wg 0)) (aG ((qO (cD .and .u64 wg 1) 1)) (ak (CL.call (outv,FZ)) λx1=>ak (CL.call (FZ,FZ)) λx2=>kn (nM.st (x2,(cq .u64 wg 1),x1))) (ak (CL.call (FZ,FZ)) λx3=>kn (nM.st (x3,(cq .u64 wg 1),outv)))) (nM.go kx outv):=by kernel_rfl
theorem aDT{R:Type}(a n)(k:K1 R):xA.A (a,n) k=ak (nM.call (a,n,1)) λx4=>k (xA.out x4):=by kernel_rfl
theorem bb8{n:Int}(h:nr n):cq .u64 n 1=n / 2:=wD 1 (by rfl) (by omega)
theorem akU:(xA.jP 0 nM):=by
 refine(xA.lk 0 nM) (λ(a,n,o)=>n.toNat) ?_
 rintro⟨a,n,o⟩ ⟨ha,hn,ho⟩;have ha:nr a:=ha;have hn:nr n:=hn;have ho:Pn o:=ho;have n0:=hn.1;have n1:=hn.2;by_cases h:0 < n
 ·left;have e:B2 (a,n,o)=B2 (oW a a,n / 2,if n%2=1 then oW o a else o):=by
   show amy 64 a n.toNat o=amy 64 (oW a a) (n / 2).toNat _;rw[abn 64 65 a n.toNat o (by omega) (by omega)];have t1:(n / 2).toNat=n.toNat / 2:=by omega
   have t2:(n%2=1)=(n.toNat%2=1):=by apply propext;omega
   rw[t1];simp only[t2];show(if n.toNat=0 then o else _)=_;rw[if_neg (by omega)]
  refine⟨(oW a a,n / 2,if n%2=1 then oW o a else o),⟨(we a a).u,⟨by omega,by omega⟩,?_⟩,by show(n / 2).toNat < n.toNat;omega,?_,λkn kx=> ?_⟩
  ·show Pn (if n%2=1 then oW o a else o);split
   ·exact we _ _
   ·exact ho
  ·exact bl _ e.symm
  ·rw[H7,df h,bb8 hn,baB n0 n1,NN (d:=(o,a)) ⟨ho.u,ha⟩,NN (d:=(a,a)) ⟨ha,ha⟩];by_cases h1:n%2=1
   ·rw[dj h1,if_pos h1];rfl
   ·rw[eM h1,if_neg h1];rfl
 ·right;intro R kn kx;obtain rfl:n=0:=by omega
  rw[H7,cE (by omega)];simp only[al,bm,B2];rw[show amy 64 a (ae 0) o=o from AQ _ _ _]
theorem aDU:xA.Ok:=by rintro⟨a,n⟩ ⟨ha,hn⟩;rw[aDT,aeQ (d:=(a,n,1)) ⟨ha,hn,by omega,by omega⟩];rfl
theorem NL:xA.RS:=rE [.d tu,.d tu] xA
def Tp:=xA.eN aDU 1 ⟨.fm akU,trivial⟩
def uV(p:Int):Bool:=decide (0 < p/\p < 4611686018427377339) && decide (pw p 2305843009213688669=1)
def tk(p:Int):Int:=if uV p then p else 1
theorem aNE(p:Int):Pn (tk p):=by
 unfold tk;split
 ·rename_i h;simp only[uV,aq,ba]at h;exact⟨by omega,by omega⟩
 ·exact⟨by omega,by omega⟩
def Fu(p k:Int):Int:=pw (tk p) (k%2305843009213688669).toNat
def fQ(k:Int):Int:=Fu 4 k
def apR(p:Int):Int:=pw (tk p) 2305843009213688668
def Xv(l:List Int):Int:=l.foldl (λo p=>oW o (tk p)) 1
theorem aS3(l:List Int)(o:Int)(h:Pn o):Pn (l.foldl (λo p=>oW o (tk p)) o):=by
 induction l generalizing o with
 |nil=>exact h
 |cons p l ih=>exact ih _ (we _ _)
theorem aS4(l:List Int):Pn (Xv l):=aS3 l 1 ⟨by omega,by omega⟩
abbrev aqs:=Int
abbrev aLM:=Bool
def avP:aqs->Prop:=λp=>nr p
def Qx:aqs->aLM:=λp=>uV p
def vn:Fs Tryz.prog avP bm Qx:=eI 142 Tryz.f142 (λp=>([.d tu p],[])) (λx=>⟨.d .bool x,[],[]⟩) [some tu] [Tp]
theorem aDV{R:Type}(p)(k:K1 R):vn.A p k=aG ((w5 p 0)) (aG ((fP p 4611686018427377339)) (ak (xA.call (p,2305843009213688669)) λx1=>k (vn.out (qO x1 1))) (k (vn.out false))) (k (vn.out false)):=by kernel_rfl
theorem aDW:vn.Ok:=by
 intro p hp;have hp:nr p:=hp;rw[aDV,NL (d:=(p,2305843009213688669)) ⟨hp,by constructor <;> decide⟩];simp only[ah,bm,aqq,bm,Qx,uV];by_cases h:0 < p
 ·rw[df h,aj];by_cases h2:p < 4611686018427377339
  ·rw[aT h2,aj,aH ⟨h,h2⟩,bN];rfl
  ·rw[aO h2,al,aS (λx=>h2 x.2),dr]
 ·rw[cE h,al,aS (λx=>h x.1),dr]
theorem AO:vn.RS:=rE [.d tu] vn
def Tq:=vn.eN aDW
abbrev aqv:=Int
abbrev aLP:=Int
def avR:aqv->Prop:=λp=>nr p
def H9:aqv->aLP:=λp=>tk p
def CK:Fs Tryz.prog avR bm H9:=eI 131 Tryz.f131 (λp=>([.d tu p],[])) (λx=>⟨.d tu x,[],[]⟩) [some tu] [Tq]
theorem aDZ{R:Type}(p)(k:K1 R):CK.A p k=ak (vn.call p) λx1=>aG (x1) (k (CK.out p)) (k (CK.out 1)):=by kernel_rfl
theorem aD0:CK.Ok:=by intro p hp;rw[aDZ,AO (d:=p) hp];simp only[ah,bm,Qx,bm,H9,tk];cases uV p <;> rfl
theorem NM:CK.RS:=rE [.d tu] CK
def Tr:=CK.eN aD0
abbrev aqt:=Int×Int
abbrev aLO:=Int
def avQ:aqt->Prop:=λ(p,k)=>nr p/\nr k
def aqu:aqt->aLO:=λ(p,k)=>Fu p k
def H8:Fs Tryz.prog avQ bm aqu:=eI 84 Tryz.f84 (λ(p,kv)=>([.d tu p,.d tu kv],[])) (λx=>⟨.d tu x,[],[]⟩) [some tu,some tu] [Tr,Tp]
theorem aDX{R:Type}(p kv)(k:K1 R):H8.A (p,kv) k=ak (CK.call p) λx1=>ak (xA.call (x1,(mm kv 2305843009213688669))) λx2=>k (H8.out x2):=by kernel_rfl
theorem aDY:H8.Ok:=by rintro⟨p,k⟩ ⟨hp,hk⟩;have hk:nr k:=hk;have e:=vZ (y:=2305843009213688669) hk.1;have b:nr (k%2305843009213688669):=⟨by omega,by omega⟩;rw[aDX,NM (d:=p) hp,e];simp only[ah,bm,H9];rw[NL (d:=(tk p,k%2305843009213688669)) ⟨(aNE p).u,b⟩];rfl
theorem abk:H8.RS:=rE [.d tu,.d tu] H8
def ahw:=H8.eN aDY
abbrev azz:=Int
abbrev aR3:=Int
def aDI:azz->Prop:=λk=>nr k
def XW:azz->aR3:=λk=>fQ k
def Gf:Fs Tryz.prog aDI bm XW:=eI 38 Tryz.f38 (λkv=>([.d tu kv],[])) (λx=>⟨.d tu x,[],[]⟩) [some tu] [ahw]
theorem aLz{R:Type}(kv)(k:K1 R):Gf.A kv k=ak (H8.call (4,kv)) λx1=>k (Gf.out x1):=by kernel_rfl
theorem aLA:Gf.Ok:=by intro k hk;rw[aLz,abk (d:=(4,k)) ⟨⟨by omega,by omega⟩,hk⟩];rfl
theorem DI:Gf.RS:=rE [.d tu] Gf
def Qq:=Gf.eN aLA
abbrev aLH:=Int
abbrev aWJ:=Int
def aLJ:aLH->Prop:=λp=>nr p
def aLI:aLH->aWJ:=λp=>apR p
def avM:Fs Tryz.prog aLJ bm aLI:=eI 253 Tryz.f253 (λp=>([.d tu p],[])) (λx=>⟨.d tu x,[],[]⟩) [some tu] [Tr,Tp]
theorem aR6{R:Type}(p)(k:K1 R):avM.A p k=ak (CK.call p) λx1=>ak (xA.call (x1,2305843009213688668)) λx2=>k (avM.out x2):=by kernel_rfl
theorem aR7:avM.Ok:=by intro p hp;rw[aR6,NM (d:=p) hp];simp only[ah,bm,H9];rw[NL (d:=(tk p,2305843009213688668)) ⟨(aNE p).u,by constructor <;> decide⟩];rfl
theorem aLK:avM.RS:=rE [.d tu] avM
def aR8:=avM.eN aR7
abbrev ahq:=Int×Bs×Int×Int
abbrev aDH:=Int
abbrev aLy:=Bs
abbrev aWE:=Int
def aqe:ahq->Prop:=λ(o,l,n,i)=>Pn o/\(∀x∈l,nr x)/\l.length<=1000000000/\n=l.length/\∃k:Nat,k<=l.length/\i=k
def Tn:ahq->aDH:=λ(o,l,n,i)=>(l.drop i.toNat).foldl (λo p=>oW o (tk p)) o
def abf:aLy->Prop:=λl=>(∀x∈l,nr x)/\l.length<=1000000000
def aWD:aLy->aWE:=λl=>Xv l
def zb:Ls aqe bm Tn:=qv (λ(outv,t6,t7,t8)=>⟨([bA,bA,bA,.d tu outv,bA,bA,.d tU t6,.d ti t7,.d ti t8]++aP 9 []),[],(ab 18 [])⟩) (λx=>(.exit 0,⟨([bA,bA,bA,.d tu x]++aP 14 []),[],(ab 18 [])⟩))
def abe:Fs Tryz.prog abf bm aWD:=eI 214 Tryz.f214 (λl=>([.d tU l],[])) (λx=>⟨.d tu x,[],[]⟩) [some tU] [Tr,ahx] {loops:=nD [(3,{aU:=[3,6,7,8]})],outs:=nC [(3,{aU:=[3]},{aU:=[2]})],fu:=np [(3,zb.E)]}
theorem aqf:zb.RS:=rL [.d tu,.d tU,.d ti,.d ti] zb
theorem Qp{R:Type}(outv t6 t7 t8)(kn:K2 R)(kx:K3 R):abe.R 0 zb (outv,t6,t7,t8) kn kx=aG ((fP t8 t7)) (aG (ed t8 (t6.length:Int)) (ak (CK.call (nth tu t6 (ae t8))) λx1=>ak (CL.call (outv,x1)) λx2=>kn (zb.st (x2,t6,t7,(bH .i64 t8 1)))) none) (zb.go kx outv):=by kernel_rfl
theorem aR1{R:Type}(l)(k:K1 R):abe.A l k=ak (zb.call (1,l,(l.length:Int),0)) λx3=>k (abe.out x3):=by kernel_rfl
theorem avC:(abe.jP 0 zb):=by
 refine(abe.lk 0 zb) (λ(o,l,n,i)=>l.length - i.toNat) ?_
 rintro⟨o,l,n,i⟩ ⟨ho,hl,hb,rfl,k,hk,rfl⟩;have ho:Pn o:=ho;have hb:l.length<=1000000000:=hb;have hk:k<=l.length:=hk;by_cases h:k < l.length
 ·left;have hx:=hl _ (aM h);have n1:nth (.int .u64) l k=l[k]:=bV (t:= .int .u64) h;refine⟨(oW o (tk l[k]),l,l.length,((k+1:Nat):Int)),⟨we _ _,hl,hb,rfl,k+1,by omega,rfl⟩,by simp only[aa];omega,?_,λkn kx=> ?_⟩
  ·simp only[bm,Tn,aa];rw[ao h];rfl
  ·rw[Qp];simp(disch:=omega) only[↓S1,↓if_pos,↓if_neg,if_pos,if_neg,bG,bp,S2,n1];rw[NM (d:=l[k]) hx];simp only[ah,bm,H9];rw[NN (d:=(o,tk l[k])) ⟨ho.u,(aNE _).u⟩];rfl
 ·right;obtain rfl:k=l.length:=by omega
  intro R kn kx;rw[Qp];simp(disch:=omega) only[↓S1,↓if_pos,↓if_neg,if_pos,if_neg,bG,bp,S2,bm,Tn,aK];rfl
theorem aR2:abe.Ok:=by rintro l ⟨hl,hb⟩;rw[aR1,aqf (d:=(1,l,l.length,0)) ⟨⟨by omega,by omega⟩,hl,hb,rfl,0,by omega,rfl⟩];rfl
theorem aqg:abe.RS:=rE [.d tU] abe
def azy:=abe.eN aR2 1 ⟨.fm avC,trivial⟩
abbrev aLu:=Int×Int
abbrev aWC:=Int
def aLw:aLu->Prop:=λ(p,q)=>nr p/\nr q
def aLv:aLu->aWC:=λ(p,q)=>Xv [p,q]
def avB:Fs Tryz.prog aLw bm aLv:=eI 181 Tryz.f181 (λ(p,q)=>([.d tu p,.d tu q],[])) (λx=>⟨.d tu x,[],[]⟩) [some tu,some tu] [azy]
theorem aRX{R:Type}(p q)(k:K1 R):avB.A (p,q) k=ak (abe.call [p,q]) λx1=>k (avB.out x1):=by kernel_rfl
theorem aRY:avB.Ok:=by rintro⟨p,q⟩ ⟨hp,hq⟩;have h:abf [p,q]:=⟨by intro x hx;simp only[cj,List.not_mem_nil,or_false]at hx;rcases hx with rfl | rfl <;> assumption,by simp only[az,aX];omega⟩;rw[aRX,aqg h];rfl
theorem aLx:avB.RS:=rE [.d tu,.d tu] avB
def aRZ:=avB.eN aRY
def Qn(x:Int):Prop:=0<=x/\x < 2305843009213688669
theorem Qn.u{x:Int}(h:Qn x):nr x:=⟨h.1,by have:=h.2;omega⟩
def aLg(a:Int):Int:=a%2305843009213688669
theorem akF(a:Int):Qn (aLg a):=⟨ko _ (by omega),jR _ (by omega)⟩
def as6(a b:Int):Int:=(aLg a+aLg b)%2305843009213688669
def akA(a b:Int):Int:=aLg a*aLg b%2305843009213688669
def Pz(h:List Int):Int:=h.foldl (λn b=>(n*256+b)%2305843009213688668) 0+1
def aGx.b(n:Int):Prop:=0<=n/\n < 2305843009213688668
theorem aoI(h:List Int)(n:Int)(hn:aGx.b n):aGx.b (h.foldl (λn b=>(n*256+b)%2305843009213688668) n):=by
 induction h generalizing n with
 |nil=>exact hn
 |cons p l ih=>exact ih _ ⟨ko _ (by omega),jR _ (by omega)⟩
theorem ZH(h:List Int):0 < Pz h/\Pz h < 2305843009213688669:=by have:=aoI h 0 ⟨by omega,by omega⟩;have h1:=this.1;have h2:=this.2;unfold Pz;omega
theorem ax0(a b:Int):Qn (as6 a b):=⟨ko _ (by omega),jR _ (by omega)⟩
theorem aRE(a b:Int):Qn (akA a b):=⟨ko _ (by omega),jR _ (by omega)⟩
abbrev aoH:=Int
abbrev aJx:=Bool
def auD:aoH->Prop:=λ_=>True
def Py:aoH->aJx:=λa=>fP a 2305843009213688669
def ET:Fs Tryz.prog auD bm Py:=eI 86 Tryz.f86 (λa=>([.d tu a],[])) (λx=>⟨.d .bool x,[],[]⟩) [some tu]
theorem aCj{R:Type}(a)(k:K1 R):ET.A a k=k (ET.out (fP a 2305843009213688669)):=by kernel_rfl
theorem aCk:ET.Ok:=by intro a _;rw[aCj];rfl
theorem M8:ET.RS:=rE [.d tu] ET
def SR:=ET.eN aCk
abbrev aTK:=Int
abbrev aYn:=Int
def aQD:aTK->Prop:=λa=>nr a
def aJs:aTK->aYn:=λa=>aLg a
def aOP:Fs Tryz.prog aQD bm aJs:=eI 215 Tryz.f215 (λa=>([.d tu a],[])) (λx=>⟨.d tu x,[],[]⟩) [some tu]
theorem aVv{R:Type}(a)(k:K1 R):aOP.A a k=k (aOP.out (mm a 2305843009213688669)):=by kernel_rfl
theorem aVw:aOP.Ok:=by intro a ha;rw[aVv,vZ ha.1];rfl
theorem XD:aOP.RS:=rE [.d tu] aOP
def aJt:=aOP.eN aVw
abbrev ayQ:=Int×Int
abbrev aQF:=Int
def aCh:ayQ->Prop:=λ(a,b)=>Qn a/\Qn b
def aQE:ayQ->aQF:=λ(a,b)=>(a+b)%2305843009213688669
def ZG:Fs Tryz.prog aCh bm aQE:=eI 216 Tryz.f216 (λ(a,b)=>([.d tu a,.d tu b],[])) (λx=>⟨.d tu x,[],[]⟩) [some tu,some tu]
theorem aJu{R:Type}(a b)(k:K1 R):ZG.A (a,b) k=k (ZG.out (mm (bH .u64 a b) 2305843009213688669)):=by kernel_rfl
theorem aJv:ZG.Ok:=by
 rintro⟨a,b⟩ ⟨ha,hb⟩;have ha:Qn a:=ha;have hb:Qn b:=hb;obtain⟨h1,h2⟩:=ha;obtain⟨h3,h4⟩:=hb;have e:bH .u64 a b=a+b:=by rw[tV];omega
 rw[aJu,e,vZ (by omega)];rfl
theorem aCi:ZG.RS:=rE [.d tu,.d tu] ZG
def aJw:=ZG.eN aJv
abbrev aoJ:=Int×Int
abbrev aJz:=Int
def auE:aoJ->Prop:=λ(a,b)=>Qn a/\Qn b
def aJy:aoJ->aJz:=λ(a,b)=>a*b%2305843009213688669
def M9:Fs Tryz.prog auE bm aJy:=eI 217 Tryz.f217 (λ(a,b)=>([.d tu a,.d tu b],[])) (λx=>⟨.d tu x,[],[]⟩) [some tu,some tu] [apL,ab7]
theorem aCl{R:Type}(a b)(k:K1 R):M9.A (a,b) k=ak (Qf.call (a,b)) λx1=>ak (QH.call (x1.1,x1.2,2305843009213688669)) λx2=>k (M9.out x2):=by kernel_rfl
theorem aCm:M9.Ok:=by rintro⟨a,b⟩ ⟨ha,hb⟩;have ha:Qn a:=ha;have hb:Qn b:=hb;obtain⟨m1,m2⟩:=Tm ha.1 (show a<=18446744073709551615 by have:=ha.2;omega) hb.1 (show b<=18446744073709551615 by have:=hb.2;omega);have n:(18446744073709551615:Int)*18446744073709551615=340282366920938463426481119284349108225:=rfl;rw[n]at m2;have p:TB (a*b / 18446744073709551616,a*b%18446744073709551616,2305843009213688669):=⟨eW (lv rfl),by omega,by omega,by omega,by omega⟩;rw[aCl,ahc (d:=(a,b)) ⟨ha.u,hb.u⟩];simp only[ah,bm,XT];rw[TC p];simp only[ah,bm,QI,adA];rfl
theorem auF:M9.RS:=rE [.d tu,.d tu] M9
def aCn:=M9.eN aCm
abbrev aJf:=Int×Int
abbrev aVt:=Int
def aJg:aJf->Prop:=λ(a,b)=>nr a/\nr b
def aVs:aJf->aVt:=λ(a,b)=>as6 a b
def auw:Fs Tryz.prog aJg bm aVs:=eI 182 Tryz.f182 (λ(a,b)=>([.d tu a,.d tu b],[])) (λx=>⟨.d tu x,[],[]⟩) [some tu,some tu] [aJt,aJw]
theorem aQu{R:Type}(a b)(k:K1 R):auw.A (a,b) k=ak (aOP.call a) λx1=>ak (aOP.call b) λx2=>ak (ZG.call (x1,x2)) λx3=>k (auw.out x3):=by kernel_rfl
theorem aQv:auw.Ok:=by rintro⟨a,b⟩ ⟨ha,hb⟩;rw[aQu,XD (d:=a) ha,XD (d:=b) hb];simp only[ah,bm,aJs];rw[aCi (d:=(aLg a,aLg b)) ⟨akF a,akF b⟩];rfl
theorem aJh:auw.RS:=rE [.d tu,.d tu] auw
def aQw:=auw.eN aQv
abbrev aJo:=Int×Int
abbrev aVu:=Int
def aJq:aJo->Prop:=λ(a,b)=>nr a/\nr b
def aJp:aJo->aVu:=λ(a,b)=>akA a b
def auC:Fs Tryz.prog aJq bm aJp:=eI 183 Tryz.f183 (λ(a,b)=>([.d tu a,.d tu b],[])) (λx=>⟨.d tu x,[],[]⟩) [some tu,some tu] [aJt,aCn]
theorem aQA{R:Type}(a b)(k:K1 R):auC.A (a,b) k=ak (aOP.call a) λx1=>ak (aOP.call b) λx2=>ak (M9.call (x1,x2)) λx3=>k (auC.out x3):=by kernel_rfl
theorem aQB:auC.Ok:=by rintro⟨a,b⟩ ⟨ha,hb⟩;rw[aQA,XD (d:=a) ha,XD (d:=b) hb];simp only[ah,bm,aJs];rw[auF (d:=(aLg a,aLg b)) ⟨akF a,akF b⟩];rfl
theorem aJr:auC.RS:=rE [.d tu,.d tu] auC
def aQC:=auC.eN aQB
abbrev ZB:=Int×Bs×Int
abbrev auy:=Int
abbrev ayM:=Bs
abbrev aQy:=Int
def ajN:ZB->Prop:=λ(n,h,i)=>aGx.b n/\h.length=32/\Bytes h/\∃k:Nat,k<=32/\i=k
def ER:ZB->auy:=λ(n,h,i)=>(h.drop i.toNat).foldl (λn b=>(n*256+b)%2305843009213688668) n
def aCc:ayM->Prop:=λh=>h.length=32/\Bytes h
def ajM:ayM->aQy:=λh=>Pz h
def tQ:Ls ajN bm ER:=qv (λ(n,t6,t7)=>⟨([bA,bA,bA,.d tu n,bA,bA,.d tH t6,.d ti t7]++aP 13 []),[],(ab 21 [])⟩) (λx=>(.exit 0,⟨([bA,bA,bA,.d tu x]++aP 17 []),[],(ab 21 [])⟩))
def Hw:Fs Tryz.prog aCc bm ajM:=eI 135 Tryz.f135 (λh=>([.d tH h],[])) (λx=>⟨.d tu x,[],[]⟩) [some tH] [ab7] {loops:=nD [(3,{aU:=[3,6,7]})],outs:=nC [(3,{aU:=[3]},{aU:=[2]})],fu:=np [(3,tQ.E)]}
theorem ajO:tQ.RS:=rL [.d tu,.d tB,.d ti] tQ
theorem K4{R:Type}(n t6 t7)(kn:K2 R)(kx:K3 R):Hw.R 0 tQ (n,t6,t7) kn kx=aG ((fP t7 32)) (aG (ed t7 32) (ak (QH.call ((cq .u64 n 56),(cD .or .u64 (l5 .u64 n 8) (dT .u64 (nth tb t6 (ae t7)))),2305843009213688668)) λx1=>kn (tQ.st (x1,t6,(bH .i64 t7 1)))) none) (tQ.go kx n):=by kernel_rfl
theorem aJj{R:Type}(h)(k:K1 R):Hw.A h k=ak (tQ.call (0,h,0)) λx2=>k (Hw.out (bH .u64 x2 1)):=by kernel_rfl
theorem U1{n b:Int}(hn:aGx.b n)(hb:aiy b):cq .u64 n 56*18446744073709551616+cD .or .u64 (l5 .u64 n 8) (dT .u64 b)=n*256+b/\nr (cq .u64 n 56)/\nr (cD .or .u64 (l5 .u64 n 8) (dT .u64 b)):=by
 obtain⟨h1,h2⟩:=hn;obtain⟨h3,h4⟩:=hb;have p56:(2:Int)^56=72057594037927936:=rfl;have p8:(2:Int)^8=256:=rfl;have e:dT .u64 b=b:=by rw[aJ1];omega
 rw[wD 56 (by rfl) (by omega),wC 8 (by rfl) (by omega),p56,p8,e,Qk 8 256 rfl (by omega) (by omega) (by omega) (by omega) (by omega) (by omega)];exact⟨by omega,⟨by omega,by omega⟩,by omega,by omega⟩
theorem aoB:(Hw.jP 0 tQ):=by
 refine(Hw.lk 0 tQ) (λ(n,h,i)=>32 - i.toNat) ?_
 rintro⟨n,h,i⟩ ⟨hn,hl,hb,k,hk,rfl⟩;have hn:aGx.b n:=hn;have hl:h.length=32:=hl;have hb:Bytes h:=hb;by_cases gv:k < 32
 ·left;have hx:aiy (h[k]'(by omega)):=hb _ (aM _);have n1:nth (.int .u8) h k=h[k]'(by omega):=bV (t:= .int .u8) (by omega);obtain⟨d1,d2,d3⟩:=U1 hn hx;refine⟨((n*256+h[k]'(by omega))%2305843009213688668,h,((k+1:Nat):Int)),⟨⟨by omega,by omega⟩,hl,hb,k+1,by omega,rfl⟩,by simp only[aa];omega,?_,λkn kx=> ?_⟩
  ·simp only[bm,ER,aa];rw[ao (by omega:k < h.length)];rfl
  ·rw[K4];simp(disch:=omega) only[↓S1,↓if_pos,↓if_neg,if_pos,if_neg,bG,bp,S2,n1];rw[TC (d:=(_,_,2305843009213688668)) ⟨eW (eW rfl),d2.1,d2.2,d3.1,d3.2⟩];simp only[ah,bm,QI,d1]
 ·right;obtain rfl:k=32:=by omega
  intro R kn kx;rw[K4];simp(disch:=omega) only[↓S1,↓if_pos,↓if_neg,if_pos,if_neg,bG,bp,S2,bm,ER];rw[du (by omega)];rfl
theorem aJk:Hw.Ok:=by
 rintro h ⟨hl,hb⟩;have e:=aoI h 0 ⟨by omega,by omega⟩;have h1:=e.1;have h2:=e.2;rw[aJj,ajO (d:=(0,h,0)) ⟨⟨by omega,by omega⟩,hl,hb,0,by omega,rfl⟩];simp only[ah,bm,ER,bm,ajM,Pz,aY,aF]
 revert h1 h2
 generalize h.foldl (λn b=>(n*256+b)%2305843009213688668) 0=m;intro h1 h2;have e:bH .u64 m 1=m+1:=by rw[tV];omega
 rw[e]
theorem agG:Hw.RS:=rE [.d tB] Hw
def aoC:=Hw.eN aJk 1 ⟨.fm aoB,trivial⟩
theorem amX(n:Int): [dT .u8 (cq .u64 n 56),dT .u8 (cq .u64 n 48),dT .u8 (cq .u64 n 40),dT .u8 (cq .u64 n 32),dT .u8 (cq .u64 n 24),dT .u8 (cq .u64 n 16),dT .u8 (cq .u64 n 8),dT .u8 (cq .u64 n 0)]=iX n:=ato n
theorem eP{α:Type}{l:List α}{n:Nat}(h:l.length=n):cut l 0 n=l:=by subst h;simp[cut]
theorem aNC{n:ByteArray}{a b c:List Int}(hn:n.size<=100)(ha:a.length<=1000000)(hb:b.length<=1000000)(hc:c.length<=1000000):PL (n,[a,b,c]):=by show(T8 _ [a,b,c]).length<=_;rw[T8];simp only[og,dh,pI,ai,bY,kI,aX];omega
theorem aNB{n:ByteArray}{a b:List Int}(hn:n.size<=100)(ha:a.length<=1000000)(hb:b.length<=1000000):PL (n,[a,b]):=by show(T8 _ [a,b]).length<=_;rw[T8];simp only[og,dh,pI,ai,bY,kI,aX];omega
theorem Rj{n:ByteArray}{a:List Int}(hn:n.size<=100)(ha:a.length<=1000000):PL (n,[a]):=by show(T8 _ [a]).length<=_;rw[T8];simp only[og,dh,pI,ai,bY,kI,aX];omega
def Sm(m:List Int):Prop:=m.length=32/\Bytes m
theorem aW2(b:List Int):Sm (aWW b):=⟨awY b,aBn b⟩
theorem alz(n:List Int)(ps:List (List Int)):Sm (tag n ps):=aW2 _
def aNA(n:ByteArray)(ps:List (List Int)):List Int:=tag (bF n) ps
def aZl:ByteArray:=⟨#[115,105,103]⟩
def avr:ByteArray:=⟨#[110,111,110,99,101]⟩
def F6(r p:Int)(m:List Int):Int:=Pz (aNA aZl [iX r,iX p,m])
theorem YN(r p:Int)(m:List Int):Qn (F6 r p m):=by have:=ZH (aNA aZl [iX r,iX p,m]);exact⟨by unfold F6;omega,by unfold F6;omega⟩
def aUw(s:Sg):Prop:=nr s.1/\nr s.2.1
def z8(p:Int)(m:List Int)(t:Int)(s:Sg):Bool:=if p=1\/uV p=false\/uV t=false\/uV s.1=false\/¬s.2.1 < 2305843009213688669 then false else decide (fQ s.2.1=Xv [s.1,Fu p (F6 s.1 p m),apR t])
def aiH(k nonce:Int)(m:List Int)(t:Int):Sg:=(Xv [fQ nonce,t],as6 nonce (akA (F6 (Xv [fQ nonce,t]) (fQ k) m) k),())
def aLe(k:Int)(m:List Int):Int:=Pz (aNA avr [iX k,m])
def mf(k:Int)(m:List Int):Sg:=if k < 2305843009213688669/\k≠0 then aiH k (aLe k m) m 1 else(0,0,())
abbrev aow:=Int
abbrev aI7:=Bs
def aus:aow->Prop:=λ_=>True
def Zx:aow->aI7:=λn=>iX n
def EO:Fs Tryz.prog aus bm Zx:=eI 136 Tryz.f136 (λn=>([.d tu n],[])) (λx=>⟨.d tB x,[],[]⟩) [some tu] [] {loops:=nD [(3,{aU:=[0,3,7,8],sites:=[5]})],outs:=nC [(3,{aU:=[3],sites:=[5]},{aU:=[2],sites:=[5]})],res:=[some tB]} 12
theorem aB8{R:Type}(n)(k:K1 R):EO.A n k=k (EO.out [(dT .u8 (cq .u64 n 56)),(dT .u8 (cq .u64 n 48)),(dT .u8 (cq .u64 n 40)),(dT .u8 (cq .u64 n 32)),(dT .u8 (cq .u64 n 24)),(dT .u8 (cq .u64 n 16)),(dT .u8 (cq .u64 n 8)),(dT .u8 (cq .u64 n 0))]):=by kernel_rfl
theorem aB9:EO.Ok:=by intro n _;rw[aB8,amX];rfl
theorem M0:EO.RS:=rE [.d tu] EO
def agD:=EO.eN aB9 1 ⟨.none (by kernel_rfl),trivial⟩
abbrev aym:=Int×Int×Bs
abbrev aPK:=Int
def aBv:aym->Prop:=λ(r,p,m)=>Sm m
def ai5:aym->aPK:=λ(r,p,m)=>F6 r p m
def UF:Fs Tryz.prog aBv bm ai5:=eI 184 Tryz.f184 (λ(r,p,m)=>([.d tu r,.d tu p,.d tH m],[])) (λx=>⟨.d tu x,[],[]⟩) [some tu,some tu,some tH] [agD,XJ,aoC]
theorem aHQ{R:Type}(r p m)(k:K1 R):UF.A (r,p,m) k=ak (EO.call r) λx1=>ak (EO.call p) λx2=>ak (SZ.call ((⟨#[115,105,103]⟩:ByteArray),[x1,x2,(cut m 0 32)])) λx3=>ak (Hw.call x3) λx4=>k (UF.out x4):=by kernel_rfl
theorem aHR:UF.Ok:=by rintro⟨r,p,m⟩ hm;have hm:Sm m:=hm;rw[aHQ,M0 (d:=r) trivial,M0 (d:=p) trivial];simp only[ah,bm,Zx];rw[eP hm.1,PM (aNC (by decide) (by rw[bY];omega) (by rw[bY];omega) (by rw[hm.1];omega))];simp only[ah,bm,aj6];rw[agG (d:=tag (bF (⟨#[115,105,103]⟩:ByteArray)) [iX r,iX p,m]) (alz _ _)];rfl
theorem agf:UF.RS:=rE [.d tu,.d tu,.d tB] UF
def anz:=UF.eN aHR
abbrev ah2:=Int×Bs×Int×Sg
abbrev aE5:=Bool
def arD:ah2->Prop:=λ(p,m,t,s)=>nr p/\Sm m/\nr t/\aUw s
def ah3:ah2->aE5:=λ(p,m,t,s)=>z8 p m t s
def rI:Fs Tryz.prog arD bm ah3:=eI 250 Tryz.f250 (λ(p,m,t,pre)=>([.d tu p,.d tH m,.d tu t,.d zP pre],[])) (λx=>⟨.d .bool x,[],[]⟩) [some tu,some tH,some tu,some zP] [Tq,SR,anz,ahw,aR8,azy,Qq]
theorem awQ{R:Type}(p m t pre)(k:K1 R):rI.A (p,m,t,pre) k=aG ((qO p 1)) (k (rI.out false)) (ak (vn.call p) λx1=>aG ((!x1)) (k (rI.out false)) (ak (vn.call t) λx2=>aG ((!x2)) (k (rI.out false)) (ak (vn.call pre.1) λx3=>aG ((!x3)) (k (rI.out false)) (ak (ET.call pre.2.1) λx4=>aG ((!x4)) (k (rI.out false)) (ak (UF.call (pre.1,p,m)) λx5=>ak (H8.call (p,x5)) λx6=>ak (avM.call t) λx7=>ak (abe.call [pre.1,x6,x7]) λx8=>ak (Gf.call pre.2.1) λx9=>k (rI.out (qO x9 x8))))))):=by kernel_rfl
theorem awR:rI.Ok:=by
 rintro⟨p,m,t,s⟩ ⟨hp,hm,ht,hs⟩;have hp:nr p:=hp;have ht:nr t:=ht;have hm:Sm m:=hm;have hs:aUw s:=hs;rw[awQ,AO (d:=p) hp,AO (d:=t) ht,AO (d:=s.1) hs.1,M8 (d:=s.2.1) trivial];simp only[ah,bm,Qx,bm,Py,bm,ah3,z8];by_cases h1:p=1
 ·rw[dj h1,aj,if_pos (lv h1)]
 rw[eM h1,al];cases h2:uV p
 ·rw[if_pos (eW (lv rfl))];rfl
 cases h3:uV t
 ·rw[if_pos (eW (eW (lv rfl)))];rfl
 cases h4:uV s.1
 ·rw[if_pos (eW (eW (eW (lv rfl))))];rfl
 by_cases h5:s.2.1 < 2305843009213688669
 ·rw[aT h5,if_neg (by simp[h1,h5])];have hq:=YN s.1 p m;rw[agf (d:=(s.1,p,m)) hm];simp only[ct,al,ah,bm,ai5];rw[abk (d:=(p,F6 s.1 p m)) ⟨hp,hq.u⟩,aLK (d:=t) ht];simp only[ah,bm,aqu,bm,aLI];have q:abf [s.1,Fu p (F6 s.1 p m),apR t]:=⟨by
   intro x hx;simp only[cj,List.not_mem_nil,or_false]at hx;rcases hx with rfl | rfl | rfl
   ·exact hs.1
   ·exact(aqz _ _).u
   ·exact(aqz _ _).u,by simp only[az,aX];omega⟩
  rw[aqg q,DI (d:=s.2.1) hs.2];rfl
 ·rw[aO h5,if_pos (eW (eW (eW (eW h5))))];rfl
theorem arE:rI.RS:=rE [.d tu,.d tB,.d tu,.d zP] rI
def awS:=rI.eN awR
abbrev aib:=Int×Bs×Sg
abbrev aFm:=Bool
def ar4:aib->Prop:=λ(p,m,s)=>nr p/\Sm m/\aUw s
def aic:aib->aFm:=λ(p,m,s)=>z8 p m 1 s
def FA:Fs Tryz.prog ar4 bm aic:=eI 244 Tryz.f244 (λ(p,m,sv)=>([.d tu p,.d tH m,.d zP sv],[])) (λx=>⟨.d .bool x,[],[]⟩) [some tu,some tH,some zP] [awS]
theorem axe{R:Type}(p m sv)(k:K1 R):FA.A (p,m,sv) k=ak (rI.call (p,m,1,sv)) λx1=>k (FA.out x1):=by kernel_rfl
theorem axf:FA.Ok:=by rintro⟨p,m,s⟩ ⟨hp,hm,hs⟩;rw[axe,arE (d:=(p,m,1,s)) ⟨hp,hm,⟨by omega,by omega⟩,hs⟩];rfl
theorem ar5:FA.RS:=rE [.d tu,.d tB,.d zP] FA
def axg:=FA.eN axf
abbrev aNf:=Int
abbrev aW0:=Bool
def aNg:aNf->Prop:=λ_=>True
def aw1:aNf->aW0:=λk=>decide (k < 2305843009213688669/\k≠0)
def arR:Fs Tryz.prog aNg bm aw1:=eI 133 Tryz.f133 (λkv=>([.d tu kv],[])) (λx=>⟨.d .bool x,[],[]⟩) [some tu] [SR]
theorem aST{R:Type}(kv)(k:K1 R):arR.A kv k=ak (ET.call kv) λx1=>aG (x1) (k (arR.out (BQ kv 0))) (k (arR.out false)):=by kernel_rfl
theorem aSU:arR.Ok:=by
 intro k _;rw[aST,M8 (d:=k) trivial];simp only[ah,bm,Py,bm,aw1];by_cases h:k < 2305843009213688669
 ·rw[aT h,aj];by_cases h0:k=0
  ·rw[dx h0,aS (λx=>x.2 h0)]
  ·rw[fa h0,aH ⟨h,h0⟩]
 ·rw[aO h,al,aS (λx=>h x.1)]
theorem aNh:arR.RS:=rE [.d tu] arR
def aSV:=arR.eN aSU
abbrev ah1:=Int×Int×Bs×Int
abbrev aE4:=Sg
def arB:ah1->Prop:=λ(k,n,m,t)=>nr k/\nr n/\Sm m/\nr t
def aE3:ah1->aE4:=λ(k,n,m,t)=>aiH k n m t
def Ft:Fs Tryz.prog arB bm aE3:=eI 134 Tryz.f134 (λ(kv,nonce,m,t)=>([.d tu kv,.d tu nonce,.d tH m,.d tu t],[])) (λx=>⟨.d zP x,[],[]⟩) [some tu,some tu,some tH,some tu] [Qq,aRZ,anz,aQC,aQw]
theorem awN{R:Type}(kv nonce m t)(k:K1 R):Ft.A (kv,nonce,m,t) k=ak (Gf.call nonce) λx1=>ak (avB.call (x1,t)) λx2=>ak (Gf.call kv) λx3=>ak (UF.call (x2,x3,m)) λx4=>ak (auC.call (x4,kv)) λx5=>ak (auw.call (nonce,x5)) λx6=>k (Ft.out (x2,(x6,()))):=by kernel_rfl
theorem awO:Ft.Ok:=by rintro⟨k,n,m,t⟩ ⟨hk,hn,hm,ht⟩;have hk:nr k:=hk;have hn:nr n:=hn;have hm:Sm m:=hm;have ht:nr t:=ht;rw[awN,DI (d:=n) hn];simp only[ah,bm,XW];rw[aLx (d:=(fQ n,t)) ⟨(aqz _ _).u,ht⟩,DI (d:=k) hk];simp only[ah,bm,XW,bm,aLv];rw[agf (d:=(Xv [fQ n,t],fQ k,m)) hm];simp only[ah,bm,ai5];rw[aJr (d:=(F6 (Xv [fQ n,t]) (fQ k) m,k)) ⟨(YN _ _ _).u,hk⟩];simp only[ah,bm,aJp];rw[aJh (d:=(n,akA (F6 (Xv [fQ n,t]) (fQ k) m) k)) ⟨hn,(aRE _ _).u⟩];rfl
theorem arC:Ft.RS:=rE [.d tu,.d tu,.d tB,.d tu] Ft
def awP:=Ft.eN awO
abbrev az8:=Int×Bs
abbrev aS2:=Sg
def aFj:az8->Prop:=λ(k,m)=>nr k/\Sm m
def alC:az8->aS2:=λ(k,m)=>mf k m
def Wv:Fs Tryz.prog aFj bm alC:=eI 89 Tryz.f89 (λ(kv,m)=>([.d tu kv,.d tH m],[])) (λx=>⟨.d zP x,[],[]⟩) [some tu,some tH] [aSV,agD,XJ,aoC,awP]
theorem aNr{R:Type}(kv m)(k:K1 R):Wv.A (kv,m) k=ak (arR.call kv) λx1=>aG ((!x1)) (k (Wv.out (0,(0,())))) (ak (EO.call kv) λx2=>ak (SZ.call ((⟨#[110,111,110,99,101]⟩:ByteArray),[x2,(cut m 0 32)])) λx3=>ak (Hw.call x3) λx4=>ak (Ft.call (kv,x4,m,1)) λx5=>k (Wv.out x5)):=by kernel_rfl
theorem aNs:Wv.Ok:=by
 rintro⟨k,m⟩ ⟨hk,hm⟩;have hk:nr k:=hk;have hm:Sm m:=hm;rw[aNr,aNh (d:=k) trivial];simp only[ah,bm,aw1,bm,alC,mf];by_cases h:k < 2305843009213688669/\k≠0
 ·rw[aH h,if_pos h,M0 (d:=k) trivial,eP hm.1];simp only[ct,al,ah,bm,Zx];rw[PM (aNB (by decide) (by rw[bY];omega) (by rw[hm.1];omega))];simp only[ah,bm,aj6];rw[agG (d:=tag (bF (⟨#[110,111,110,99,101]⟩:ByteArray)) [iX k,m]) (alz _ _)];simp only[ah,bm,ajM];have q:=ZH (tag (bF (⟨#[110,111,110,99,101]⟩:ByteArray)) [iX k,m]);rw[arC (d:=(k,Pz (tag (bF (⟨#[110,111,110,99,101]⟩:ByteArray)) [iX k,m]),m,1)) ⟨hk,⟨by omega,by omega⟩,hm,by omega,by omega⟩];rfl
 ·rw[aS h,if_neg h];rfl
theorem aFk:Wv.RS:=rE [.d tu,.d tB] Wv
def aNt:=Wv.eN aNs
def FX(l:List Int):Prop:=∀x∈l,nr x
def aGv(b:pC):Prop:=FX b.1/\nr b.2.2.2.1
def ad8(l:Lk):Prop:=∀b∈l.1,aGv b
def Nf(n:Int):Bool:=decide (0<=n/\n<=1048576)
def uP(b:pC):Bool:=decide (b.1.length<=12) && (b.1.all uV && (Nf b.2.1 && (Nf b.2.2.1 && (decide (b.2.2.2.1=0) || uV b.2.2.2.1))))
def km(l:Lk):Bool:=l.1.all uP && decide (0 < l.1.length/\l.1.length<=4)
def xS:List Int->Int->Int⊕Unit
 |[],_=> .inr ()
 |p::ps,i=>if uV p then xS ps (i+1) else .inl i
def ax2(l:List Int):Int:=match xS l 0 with | .inl i=>i | .inr _=> -1
theorem Un:∀(l:List Int) (i:Int),0<=i->(match xS l i with | .inl i=>decide (i>=0) | .inr _=>false)= !(l.all uV)
 |[],_,_=>rfl
 |p::ps,i,h=>by
  rw[xS,iK];cases hp:uV p
  ·simp[h]
  ·simp only[bG,bN];exact Un ps (i+1) (by omega)
theorem aAG(l:List Int):BP (ax2 l) 0= !(l.all uV):=by
 have:=Un l 0 (by omega);unfold ax2 BP;cases h:xS l 0
 ·rw[h]at this;exact this
 ·rw[h]at this;rw[<-this];rfl
abbrev aKr:=Int
abbrev aWe:=Bool
def aKs:aKr->Prop:=λp=>nr p
def akh:aKr->aWe:=λp=> !uV p
def apk:Fs Tryz.prog aKs bm akh:=eI 141 Tryz.f141 (λp=>([.d tu p],[])) (λx=>⟨.d .bool x,[],[]⟩) [some tu] [Tq]
theorem aRk{R:Type}(p)(k:K1 R):apk.A p k=ak (vn.call p) λx1=>k (apk.out (!x1)):=by kernel_rfl
theorem aRl:apk.Ok:=by intro p hp;rw[aRk,AO (d:=p) hp];rfl
theorem aag:apk.RS:=rE [.d tu] apk
def ay9:=apk.eN aRl
abbrev xe:=Bs×Int×Int
def qb:xe->AS:=λ(lN,t7,t8)=>⟨([.d tU lN,.fn 141 (.nil)]++aP 5 ([.d ti t7,.d ti t8]++aP 10 [])),[],(ab 19 [])⟩
abbrev akQ:=Int
abbrev Qt:=Int
def wi:Qt->Exit×AS:=λx=>(.ret,⟨(aP 4 ([.d ti x]++aP 14 [])),[],(ab 19 [])⟩)
abbrev akR:=Unit
abbrev Qu:=Unit
def wj:Qu->Exit×AS:=λx=>(.exit 0,⟨(aP 19 []),[],(ab 19 [])⟩)
abbrev H5:=(Qt)⊕(Qu)
abbrev V1:=(akQ)⊕(akR)
def CJ:H5->Out (Exit×AS):=λx=> .br x.isLeft (.get x.getLeft? λa=> .ok (wi a)) (.get x.getRight? λb=> .ok (wj b))
def jx:xe->V1->H5:=λ(lN,t7,t8) y=>match y with | .inl y=> .inl y | .inr z=> .inr (z)
abbrev aqn:=Bs
abbrev aLF:=Int
def wh:xe->Prop:=λ(l,n,i)=>FX l/\l.length<=1000000000/\n=l.length/\∃k:Nat,k<=l.length/\i=k
def mD:xe->V1:=λ(l,n,i)=>xS (l.drop i.toNat) i
def avK:aqn->Prop:=λl=>FX l/\l.length<=1000000000
def abj:aqn->aLF:=λl=>ax2 l
def VY:=dA.fm qb wh jx mD CJ
def H6:xe->Option H5:=gN VY qb
def xz:Fs Tryz.prog avK bm abj:=eI 186 Tryz.f186 (λsv=>([.d tU sv,.fn 141 (.nil)],[])) (λx=>⟨.d ti x,[],[]⟩) [some tU,none] [ay9] {loops:=nD [(2,{aU:=[0,1,7,8]})],outs:=nC [(2,{},{aU:=[4]})],fu:=np [(2,VY)]}
def VZ:= @eE Tryz.prog (kh xz.G) xz.an 0 Tryz.f186 0 _ qb
abbrev Qs:=lu Tryz.prog (kh xz.G) xz.an 0 Tryz.f186 0 qb wh jx mD CJ
theorem aeN:jd H6 wh jx mD:=na (jK [.d tU,.d ti,.d ti] λ_=>by kernel_rfl)
theorem NJ:oe @VZ qb wh jx mD CJ Qs:=oB
theorem AN{R:Type}(lN:Bs)(t7:Int)(t8:Int)(kn:AS->Option R)(kx:Exit->AS->Option R):VZ (lN,t7,t8) kn kx=aG ((fP t8 t7)) (aG (ed t8 (((ag lN):Nat):Int)) (ak (apk.call (nth tu lN (ae t8))) λx1=>aG (x1) (kx (wi t8).1 (wi t8).2) (kn (qb (lN,t7,(bH .i64 t8 (1:Int)))))) none) (kx (wj ()).1 (wj ()).2):=by kernel_rfl
theorem aDP{R:Type}(sv)(k:K1 R):xz.A sv k=ak (H6 (sv,(sv.length:Int),0)) λx2=>aG (x2.isLeft) (ak (x2.getLeft?) λa3=>k (xz.out a3)) (ak (x2.getRight?) λb4=>k (xz.out (-1))):=by kernel_rfl
theorem akS:Qs:=by
 refine NJ (λ(l,n,i)=>l.length - i.toNat) ?_
 rintro⟨l,n,i⟩ ⟨hl,hb,rfl,k,hk,rfl⟩;have hb:l.length<=1000000000:=hb;have hk:k<=l.length:=hk;by_cases h:k < l.length
 ·have hx:=hl _ (aM h);have n1:nth (.int .u64) l k=l[k]:=bV (t:= .int .u64) h;have hd:xS (l.drop k) k=if uV l[k] then xS (l.drop (k+1)) ((k+1:Nat):Int) else .inl (k:Int):=by rw[ao h];rfl
  cases hp:uV l[k]
  ·right;refine⟨wi (k:Int),?_,λkn kx=> ?_⟩
   ·simp only[jx,mD,aa,hd,hp,bE,bp];rfl
   ·rw[AN];simp(disch:=omega) only[↓S1,↓if_pos,↓if_neg,if_pos,if_neg,bG,bp,S2,n1];rw[aag (d:=l[k]) hx];simp only[ah,bm,akh,hp,eT,aj]
  ·left;refine⟨(l,l.length,((k+1:Nat):Int)),⟨hl,hb,rfl,k+1,by omega,rfl⟩,by simp only[aa];omega,?_,λkn kx=> ?_⟩
   ·simp only[jx,mD,aa,hd,hp,bG]
   ·rw[AN];simp(disch:=omega) only[↓S1,↓if_pos,↓if_neg,if_pos,if_neg,bG,bp,S2,n1];rw[aag (d:=l[k]) hx];simp only[ah,bm,akh,hp,ct,al]
 ·right;obtain rfl:k=l.length:=by omega
  refine⟨wj (),?_,λkn kx=> ?_⟩
  ·simp only[jx,mD,aa,aK];rfl
  ·rw[AN];simp(disch:=omega) only[↓S1,↓if_pos,↓if_neg,if_pos,if_neg,bG,bp,S2]
theorem aDQ:xz.Ok:=by rintro l ⟨hl,hb⟩;rw[aDP,aeN (d:=(l,l.length,0)) ⟨hl,hb,rfl,0,by omega,rfl⟩];simp only[ah,jx,mD,aY,aF,bm,abj,ax2];cases xS l 0 <;> rfl
theorem avL:xz.RS:=rE [.d tU] xz
def aDR:=xz.eN aDQ 1 ⟨.fm akS,trivial⟩
abbrev VU:=Bs
abbrev aqj:=Bool
def aeL:VU->Prop:=λl=>FX l/\l.length<=1000000000
def VV:VU->aqj:=λl=> !(l.all uV)
def vk:Fs Tryz.prog aeL bm VV:=eI 143 Tryz.f143 (λsv=>([.d tU sv,.fn 141 (.nil)],[])) (λx=>⟨.d .bool x,[],[]⟩) [some tU,none] [aDR]
theorem akN{R:Type}(sv)(k:K1 R):vk.A sv k=ak (xz.call sv) λx1=>k (vk.out (BP x1 0)):=by kernel_rfl
theorem akO:vk.Ok:=by rintro l ⟨hl,hb⟩;rw[akN,avL (d:=l) ⟨hl,hb⟩];simp only[ah,bm,abj,aAG];rfl
theorem aeM:vk.RS:=rE [.d tU] vk
def akP:=vk.eN akO
abbrev ag6:=Int
abbrev aC3:=Bool
def apo:ag6->Prop:=λ_=>True
def Tg:ag6->aC3:=λn=>Nf n
def yT:Fs Tryz.prog apo bm Tg:=eI 144 Tryz.f144 (λn=>([.d ti n],[])) (λx=>⟨.d .bool x,[],[]⟩) [some ti]
theorem avb{R:Type}(n)(k:K1 R):yT.A n k=aG ((BP n 0)) (k (yT.out (amw n 1048576))) (k (yT.out false)):=by kernel_rfl
theorem avc:yT.Ok:=by
 intro n _;rw[avb];simp only[bm,Tg,Nf];by_cases h:0<=n
 ·rw[fW h,aj];by_cases h2:n<=1048576
  ·rw[oP h2,aH ⟨h,h2⟩]
  ·rw[lY h2,aS (λx=>h2 x.2)]
 ·rw[eo h,al,aS (λx=>h x.1)]
theorem Vl:yT.RS:=rE [.d ti] yT
def avd:=yT.eN avc
abbrev w8:=Lk×(List pC)×Int×Int
def kT:w8->AS:=λ(Bn,t7,t8,t9)=>⟨([bA,.dL Oj Bn,bA,.fn 141 (.nil),bA,bA,bA,.d (.slice kj) t7,.d ti t8,.d ti t9]++aP 47 []),[],(ab 57 [])⟩
abbrev aks:=Unit
abbrev P9:=Unit
def eV:P9->Exit×AS:=λx=>(.ret,⟨([bA,bA,.d .bool false]++aP 54 []),[],(ab 57 [])⟩)
abbrev akt:=Unit
abbrev Qa:=Lk
def wc:Qa->Exit×AS:=λx=>(.exit 0,⟨([bA,.dL Oj x]++aP 55 []),[],(ab 57 [])⟩)
abbrev HS:=(P9)⊕(Qa)
abbrev Vs:=(aks)⊕(akt)
def CF:HS->Out (Exit×AS):=λx=> .br x.isLeft (.get x.getLeft? λa=> .ok (eV a)) (.get x.getRight? λb=> .ok (wc b))
def jw:w8->Vs->HS:=λ(Bn,t7,t8,t9) y=>match y with | .inl y=> .inl y | .inr z=> .inr (Bn)
abbrev apC:=Lk
abbrev aKQ:=Bool
def wb:w8->Prop:=λ(l,bs,n,i)=>(∀b∈bs,aGv b)/\bs.length<=9223372036854775807/\n=bs.length/\∃k:Nat,k<=bs.length/\i=k
def mC:w8->Vs:=λ(l,bs,n,i)=>if(bs.drop i.toNat).all uP then .inr () else .inl ()
def avi:apC->Prop:=λl=>ad8 l/\l.1.length<=9223372036854775807
def DD:apC->aKQ:=λl=>km l
def Vr:=dA.fm kT wb jw mC CF
def HT:w8->Option HS:=gN Vr kT
def oV:Fs Tryz.prog avi bm DD:=eI 91 Tryz.f91 (λl=>([.d Oj l],[])) (λx=>⟨.d .bool x,[],[]⟩) [some Oj] [akP,avd,ay9] {loops:=nD [(3,{aU:=[1,3,7,8,9]})],outs:=nC [(3,{aU:=[1]},{aU:=[2]})],fu:=np [(3,Vr)]}
def HR:= @eE Tryz.prog (kh oV.G) oV.an 0 Tryz.f91 0 _ kT
abbrev P8:=lu Tryz.prog (kh oV.G) oV.an 0 Tryz.f91 0 kT wb jw mC CF
theorem aeB:jd HT wb jw mC:=na (jK [.d Oj,.d (.slice kj),.d ti,.d ti] λ_=>by kernel_rfl)
theorem Ns:oe @HR kT wb jw mC CF P8:=oB
theorem HU{R:Type}(Bn:Lk)(t7:(List pC))(t8:Int)(t9:Int)(kn:AS->Option R)(kx:Exit->AS->Option R):HR (Bn,t7,t8,t9) kn kx=aG ((fP t9 t8)) (aG (ed t9 (((ag t7):Nat):Int)) (aG ((w5 (((ag (nth kj t7 (ae t9)).1):Nat):Int) (12:Int))) (kx (eV ()).1 (eV ()).2) (ak (vk.call (nth kj t7 (ae t9)).1) λx1=>aG (x1) (kx (eV ()).1 (eV ()).2) (ak (yT.call (nth kj t7 (ae t9)).2.1) λx2=>aG ((!x2)) (kx (eV ()).1 (eV ()).2) (ak (yT.call (nth kj t7 (ae t9)).2.2.1) λx3=>aG ((!x3)) (kx (eV ()).1 (eV ()).2) (aG ((BQ (nth kj t7 (ae t9)).2.2.2.1 (0:Int))) (ak (apk.call (nth kj t7 (ae t9)).2.2.2.1) λx4=>aG (x4) (kx (eV ()).1 (eV ()).2) (kn (kT (Bn,t7,t8,(bH .i64 t9 (1:Int)))))) (kn (kT (Bn,t7,t8,(bH .i64 t9 (1:Int)))))))))) none) (kx (wc Bn).1 (wc Bn).2):=by kernel_rfl
theorem aDe{R:Type}(l)(k:K1 R):oV.A l k=ak (HT (l,l.1,(l.1.length:Int),0)) λx5=>aG (x5.isLeft) (ak (x5.getLeft?) λa6=>k (oV.out false)) (ak (x5.getRight?) λb7=>aG ((w5 (b7.1.length:Int) 0)) (k (oV.out (amw (b7.1.length:Int) 4))) (k (oV.out false))):=by kernel_rfl
theorem aku:P8:=by
 refine Ns (λ(l,bs,n,i)=>bs.length - i.toNat) ?_
 rintro⟨l,bs,n,i⟩ ⟨hl,hb,rfl,k,hk,rfl⟩;have hb:bs.length<=9223372036854775807:=hb;have hk:k<=bs.length:=hk;by_cases h:k < bs.length
 ·have hx:aGv bs[k]:=hl _ (aM h);have n1:nth (.pair (.slice (.int .u64)) (.pair (.int .i64) (.pair (.int .i64) (.pair (.int .u64) .unit)))) bs k=bs[k]:=bV (t:=(.pair (.slice (.int .u64)) (.pair (.int .i64) (.pair (.int .i64) (.pair (.int .u64) .unit))))) h;have hd:(bs.drop k).all uP=(uP bs[k] && (bs.drop (k+1)).all uP):=by rw[ao h,iK]
  have step:∀ {R:Type} (kn:AS->Option R) (kx:Exit->AS->Option R),HR (l,bs,(bs.length:Int),(k:Int)) kn kx=aG (uP bs[k]) (kn (kT (l,bs,(bs.length:Int),((k+1:Nat):Int)))) (kx (eV ()).1 (eV ()).2):=by
   intro R kn kx;rw[HU,aT (by omega),bf (by omega) (by omega),aa,n1,N.mq (by omega)];obtain⟨⟨ks,af,dl,sc,u⟩,aVA⟩:∃b,bs[k]=b:=⟨_,rfl⟩;rw[aVA]at hx ⊢;have h1:FX ks:=hx.1;have h2:nr sc:=hx.2;simp only[aj,uP];by_cases hk:ks.length<=12
   ·rw[cE (by omega),aeM (d:=ks) ⟨h1,by omega⟩,Vl (d:=af) trivial,Vl (d:=dl) trivial,aag (d:=sc) h2,aH hk];simp only[al,ah,bm,VV,bm,Tg,bm,akh,bN];cases ks.all uV
    ·rfl
    cases Nf af
    ·rfl
    cases Nf dl
    ·rfl
    by_cases hs:sc=0
    ·rw[dx hs,aH hs];rfl
    ·rw[fa hs,aS hs];cases uV sc <;> rfl
   ·rw[df (by omega),aS hk];rfl
  cases hp:uP bs[k]
  ·right;refine⟨eV (),?_,λkn kx=> ?_⟩
   ·simp only[jw,mC,aa,hd,hp,dr,bE,bp];rfl
   ·rw[step,hp,al]
  ·left;refine⟨(l,bs,bs.length,((k+1:Nat):Int)),⟨hl,hb,rfl,k+1,by omega,rfl⟩,by simp only[aa];omega,?_,λkn kx=> ?_⟩
   ·simp only[jw,mC,aa,hd,hp,bN]
   ·rw[step,hp,aj]
 ·right;obtain rfl:k=bs.length:=by omega
  refine⟨wc l,?_,λkn kx=> ?_⟩
  ·simp only[jw,mC,aa,aK];rfl
  ·rw[HU];simp(disch:=omega) only[↓S1,↓if_pos,↓if_neg,if_pos,if_neg,bG,bp,S2]
theorem aDf:oV.Ok:=by
 rintro l ⟨hl,hb⟩;have hb:l.1.length<=9223372036854775807:=hb;rw[aDe,aeB (d:=(l,l.1,l.1.length,0)) ⟨hl,hb,rfl,0,by omega,rfl⟩];simp only[ah,jw,mC,aY,aF,bm,DD,km];cases l.1.all uP
 ·rfl
 ·simp only[bG,bN];show aG (w5 _ _) _ _=_;by_cases h0:0 < l.1.length
  ·rw[df (by omega)];by_cases h4:l.1.length<=4
   ·rw[oP (by omega),aH ⟨h0,h4⟩];rfl
   ·rw[lY (by omega),aS (λx=>h4 x.2)];rfl
  ·rw[cE (by omega),aS (λx=>h0 x.1)];rfl
theorem AE:oV.RS:=rE [.d Oj] oV
def DE:=oV.eN aDf 1 ⟨.fm aku,trivial⟩
def xI(m:List Int):List Int->List Sg->Bool
 |[],_=>true
 |p::ps,ss=>z8 p m 1 (ss.headD (0,0,())) && xI m ps ss.tail
def xO(l:Lk)(w:ad6)(m:List Int)(height age:Int):Int:=
 if km l=false\/w.1 < 0\/w.1>=l.1.length then 1
 else
  let b:=nth (.pair (.slice (.int .u64)) (.pair (.int .i64) (.pair (.int .i64) (.pair (.int .u64) .unit)))) l.1 w.1.toNat
  if height < b.2.1\/age < b.2.2.1 then 11
  else if b.2.2.2.1≠0/\fQ w.2.2.1≠b.2.2.2.1 then 23
  else if w.2.1.length≠b.1.length then 7
  else if xI m b.1 w.2.1 then 0 else 7
theorem aFX(m:List Int)(ks:List Int)(ss:List Sg)(h:ss.length=ks.length)(k:Nat)(hk:k < ks.length):xI m (ks.drop k) (ss.drop k)=(z8 ks[k] m 1 (ss[k]'(by omega)) && xI m (ks.drop (k+1)) (ss.drop (k+1))):=by rw[ao hk,ao (by omega:k < ss.length)];rfl
def aea(w:ad6):Prop:=(∀s∈w.2.1,aUw s)/\nr w.2.2.1
abbrev AA:=ad6×Bs×Bs×Int×Int
def oT:AA->AS:=λ(axP,azk,t68,t69,t70)=>⟨(aP 6 ([.dL aFo axP,.dL tH azk]++aP 60 ([.d tU t68,.d ti t69,.d ti t70]++aP 14 []))),[],(ab 85 [])⟩
abbrev apx:=Unit
abbrev Vp:=Unit
def pZ:Vp->Exit×AS:=λx=>(.ret,⟨(aP 10 ([.d ti (7:Int)]++aP 74 [])),[],(ab 85 [])⟩)
abbrev apy:=Unit
abbrev Vq:=Unit
def yW:Vq->Exit×AS:=λx=>(.exit 1,⟨(aP 85 []),[],(ab 85 [])⟩)
abbrev Nq:=(Vp)⊕(Vq)
abbrev aan:=(apx)⊕(apy)
def E0:Nq->Out (Exit×AS):=λx=> .br x.isLeft (.get x.getLeft? λa=> .ok (pZ a)) (.get x.getRight? λb=> .ok (yW b))
def kS:AA->aan->Nq:=λ(axP,azk,t68,t69,t70) y=>match y with | .inl y=> .inl y | .inr z=> .inr (z)
abbrev azg:=Lk×ad6×Bs×Int×Int
abbrev aRx:=Int
def yV:AA->Prop:=λ(w,m,ks,n,i)=>aea w/\Sm m/\FX ks/\ks.length<=1000000000/\w.2.1.length=ks.length/\n=ks.length/\∃k:Nat,k<=ks.length/\i=k
def oS:AA->aan:=λ(w,m,ks,n,i)=>if xI m (ks.drop i.toNat) (w.2.1.drop i.toNat) then .inr () else .inl ()
def aDa:azg->Prop:=λ(l,w,m,h,a)=>ad8 l/\l.1.length<=9223372036854775807/\aea w/\Sm m
def akl:azg->aRx:=λ(l,w,m,h,a)=>xO l w m h a
def aam:=dA.fm oT yV kS oS E0
def wa:AA->Option Nq:=gN aam oT
def mB:Fs Tryz.prog aDa bm akl:=eI 231 Tryz.f231 (λ(l,wv,m,height,age)=>([.d Oj l,.d aFo wv,.d tH m,.d ti height,.d ti age],[])) (λx=>⟨.d ti x,[],[]⟩) [some Oj,some aFo,some tH,some ti,some ti] [DE,Qq,axg] {loops:=nD [(11,{aU:=[6,7,68,69,70]})],outs:=nC [(11,{},{aU:=[10]})],fu:=np [(11,aam)]}
def Np:= @eE Tryz.prog (kh mB.G) mB.an 0 Tryz.f231 0 _ oT
abbrev Vo:=lu Tryz.prog (kh mB.G) mB.an 0 Tryz.f231 0 oT yV kS oS E0
theorem akm:jd wa yV kS oS:=na (jK [.d aFo,.d tH,.d tU,.d ti,.d ti] λ_=>by kernel_rfl)
theorem P7:oe @Np oT yV kS oS E0 Vo:=oB
theorem Ld{R:Type}(axP:ad6)(azk:Bs)(t68:Bs)(t69:Int)(t70:Int)(kn:AS->Option R)(kx:Exit->AS->Option R):Np (axP,azk,t68,t69,t70) kn kx=aG ((fP t70 t69)) (aG (ed t70 (((ag t68):Nat):Int)) (aG (ed t70 (((ag axP.2.1):Nat):Int)) (ak (FA.call ((nth tu t68 (ae t70)),azk,(nth zP axP.2.1 (ae t70)))) λx1=>aG ((!x1)) (kx (pZ ()).1 (pZ ()).2) (kn (oT (axP,azk,t68,t69,(bH .i64 t70 (1:Int)))))) none) none) (kx (yW ()).1 (yW ()).2):=by kernel_rfl
theorem aKK{R:Type}(l wv m height age)(k:K1 R):mB.A (l,wv,m,height,age) k=ak (oV.call l) λx1=>aG ((!x1)) (k (mB.out 1)) (aG ((fP wv.1 0)) (k (mB.out 1)) (aG ((BP wv.1 (l.1.length:Int))) (k (mB.out 1)) (aG (ed wv.1 (l.1.length:Int)) (aG ((fP height (nth kj l.1 (ae wv.1)).2.1)) (k (mB.out 11)) (aG ((fP age (nth kj l.1 (ae wv.1)).2.2.1)) (k (mB.out 11)) (aG ((BQ (nth kj l.1 (ae wv.1)).2.2.2.1 0)) (ak (Gf.call wv.2.2.1) λx2=>aG ((BQ x2 (nth kj l.1 (ae wv.1)).2.2.2.1)) (k (mB.out 23)) (aG ((BQ (wv.2.1.length:Int) (((ag (nth kj l.1 (ae wv.1)).1):Nat):Int))) (k (mB.out 7)) (ak (wa (wv,m,(nth kj l.1 (ae wv.1)).1,(((ag (nth kj l.1 (ae wv.1)).1):Nat):Int),0)) λx4=>aG (x4.isLeft) (ak (x4.getLeft?) λa5=>k (mB.out 7)) (ak (x4.getRight?) λb6=>k (mB.out 0))))) (aG ((BQ (wv.2.1.length:Int) (((ag (nth kj l.1 (ae wv.1)).1):Nat):Int))) (k (mB.out 7)) (ak (wa (wv,m,(nth kj l.1 (ae wv.1)).1,(((ag (nth kj l.1 (ae wv.1)).1):Nat):Int),0)) λx7=>aG (x7.isLeft) (ak (x7.getLeft?) λa8=>k (mB.out 7)) (ak (x7.getRight?) λb9=>k (mB.out 0))))))) none))):=by kernel_rfl
theorem apz:Vo:=by
 refine P7 (λ(w,m,ks,n,i)=>ks.length - i.toNat) ?_
 rintro⟨w,m,ks,n,i⟩ ⟨hw,hm,hl,hb,hs,rfl,k,hk,rfl⟩;have hb:ks.length<=1000000000:=hb;have hk:k<=ks.length:=hk;have hs:w.2.1.length=ks.length:=hs;by_cases h:k < ks.length
 ·have hx:=hl _ (aM h);have hy:=hw.1 _ (aM (by omega:k < w.2.1.length));have n1:nth (.int .u64) ks k=ks[k]:=bV (t:= .int .u64) h;have n2:nth (.pair (.int .u64) (.pair (.int .u64) .unit)) w.2.1 k=w.2.1[k]'(by omega):=bV (t:=(.pair (.int .u64) (.pair (.int .u64) .unit))) (by omega);have hd:=aFX m ks w.2.1 hs k h;have step:∀ {R:Type} (kn:AS->Option R) (kx:Exit->AS->Option R),Np (w,m,ks,(ks.length:Int),(k:Int)) kn kx=aG (z8 ks[k] m 1 (w.2.1[k]'(by omega))) (kn (oT (w,m,ks,(ks.length:Int),((k+1:Nat):Int)))) (kx (pZ ()).1 (pZ ()).2):=by intro R kn kx;rw[Ld,aT (by omega),bf (by omega) (by omega),bf (by omega) (by omega),aa,n1,n2,N.mq (by omega),ar5 (d:=(ks[k],m,w.2.1[k]'(by omega))) ⟨hx,hm,hy⟩];simp only[aj,ah,bm,aic];cases z8 ks[k] m 1 (w.2.1[k]'(by omega)) <;> rfl
  cases hp:z8 ks[k] m 1 (w.2.1[k]'(by omega))
  ·right;refine⟨pZ (),?_,λkn kx=> ?_⟩
   ·simp only[kS,oS,aa,hd,hp,dr,bE,bp];rfl
   ·rw[step,hp,al]
  ·left;refine⟨(w,m,ks,ks.length,((k+1:Nat):Int)),⟨hw,hm,hl,hb,hs,rfl,k+1,by omega,rfl⟩,by simp only[aa];omega,?_,λkn kx=> ?_⟩
   ·simp only[kS,oS,aa,hd,hp,bN]
   ·rw[step,hp,aj]
 ·right;obtain rfl:k=ks.length:=by omega
  refine⟨yW (),?_,λkn kx=> ?_⟩
  ·simp only[kS,oS,aa,aK];rfl
  ·rw[Ld];simp(disch:=omega) only[↓S1,↓if_pos,↓if_neg,if_pos,if_neg,bG,bp,S2]
theorem aC5{l:Lk}(h:km l=true){b:pC}(hb:b∈l.1):b.1.length<=12:=by unfold km at h;rw[aq,dd]at h;have:=h.1 b hb;unfold uP at this;rw[aq]at this;simpa using this.1
theorem aKL:mB.Ok:=by
  rintro⟨l,w,m,h,a⟩ ⟨hl,hb,hw,hm⟩;have hl:ad8 l:=hl;have hb:l.1.length<=9223372036854775807:=hb;have hw:aea w:=hw;have hm:Sm m:=hm;rw[aKK,AE (d:=l) ⟨hl,hb⟩];simp only[ah,bm,DD,bm,akl,xO];cases iT:km l
  · rw[if_pos (lv rfl)];rfl
  by_cases h0:w.1 < 0
  · rw[aT h0,if_pos (eW (lv h0))];rfl
  by_cases h1:w.1>=l.1.length
  · rw[aO h0,fW h1,if_pos (eW (eW h1))];rfl
  rw[aO h0,eo h1,bf (by omega) (by omega),if_neg (by simp[h0];omega)];have hn:w.1.toNat < l.1.length:=by omega
  have n1:nth (.pair (.slice (.int .u64)) (.pair (.int .i64) (.pair (.int .i64) (.pair (.int .u64) .unit)))) l.1 w.1.toNat=l.1[w.1.toNat]:=bV (t:=(.pair (.slice (.int .u64)) (.pair (.int .i64) (.pair (.int .i64) (.pair (.int .u64) .unit))))) hn;rw[n1];have hx:aGv l.1[w.1.toNat]:=hl _ (aM hn);have aYT:=aC5 iT (aM hn);obtain⟨⟨ks,af,dl,sc,u⟩,aVA⟩:∃b,l.1[w.1.toNat]=b:=⟨_,rfl⟩;rw[aVA]at hx aYT ⊢;have aJJ:FX ks:=hx.1;have aYT:ks.length<=12:=aYT;simp only[ct,al,aj];by_cases e1:h < af
  · rw[aT e1,if_pos (lv e1)];rfl
  by_cases e2:a < dl
  · rw[aO e1,aT e2,if_pos (eW e2)];rfl
  rw[aO e1,aO e2,if_neg (by simp[e1,e2]),DI (d:=w.2.2.1) hw.2];simp only[al,ah,bm,XW]
  have last:aG (BQ ((w.2.1.length:Nat):Int) ((ks.length:Nat):Int)) (some (mB.out (7:Int))) (
          ak (wa (w,m,ks,((ks.length:Nat):Int),(0:Int))) λx4=>
          aG (x4.isLeft) (ak (x4.getLeft?) λa5=>some (mB.out (7:Int))) (ak (x4.getRight?) λb6=>some (mB.out (0:Int))))=some (mB.out (if w.2.1.length≠ks.length then 7 else if xI m ks w.2.1 then 0 else 7)):=by
    by_cases e3:w.2.1.length=ks.length
    · rw[dx (by omega),if_neg (by simp[e3]),al,akm (d:=(w,m,ks,ks.length,0)) ⟨hw,hm,aJJ,by show ks.length<=1000000000;omega,e3,rfl,0,by omega,rfl⟩]
      simp only[ah,kS,oS,aY,aF];cases xI m ks w.2.1 <;> rfl
    · rw[fa (by omega),if_pos e3];rfl
  by_cases e4:sc=0
  · rw[dx e4,if_neg (by simp[e4]),al]
    exact last
  · rw[fa e4,aj]
    by_cases e5:fQ w.2.2.1=sc
    · rw[dx e5,if_neg (by simp[e5]),al]
      exact last
    · rw[fa e5,if_pos ⟨e4,e5⟩];rfl
theorem aDb:mB.RS:=rE [.d Oj,.d aFo,.d tB,.d ti,.d ti] mB
def aKM:=mB.eN aKL 1 ⟨.fm apz,trivial⟩
abbrev ax8:=Int
abbrev aPo:=Nat×(List Int)
def aAO:ax8->Prop:=λn=>∃k:Nat,n=k/\k<=100000000
def ax9:ax8->aPo:=λn=>(0,ab n.toNat 0)
def Up:Fs Tryz.prog aAO bm ax9:=eI 212 Tryz.f212 (λn=>([.cV,.d ti n],[])) (λx=>⟨.bu (.new 0 0) 0 [] 0 0 x.1,[],[.obj 0 false (.vec 5 tb x.2)]⟩) [none,some ti] [] {owns:=[⟨4,[],22,127⟩]}
theorem aG5{R:Type}(n)(k:K1 R):Up.A n k=aG ((fP n 0)) (none) (aG ((w5 (cI .i64 n 0) 0)) (aG (decide (0 < (cI .i64 n 0)) && cT (ae (cI .i64 n 0)) 1) (aG (inc 0 (((ae (cI .i64 n 0)):Nat):Int)) (k (Up.out (0,(ab (ae (cI .i64 n 0)) 0)))) none) none) (k (Up.out (0,([]:List Int))))):=by kernel_rfl
theorem aG6:Up.Ok:=by
 rintro n ⟨k,rfl,hk⟩;have e:cI .i64 (k:Int) 0=(k:Int):=by rw[ez (by omega) (by omega)];omega
 rw[aG5,e,aO (by omega),al];by_cases h:0 < k
 ·rw[df (by omega),aa,aH (by omega),de (by omega) (by omega),tW (by omega) (by omega)];rfl
 ·obtain rfl:k=0:=by omega
  rfl
theorem aAP:Up.RS:=rE [.d ti] Up
def aG7:=Up.eN aG6
def tZ(l:List (List Int)):Nat:=l.flatten.length
def aef(n:Nat)(l:List Int):List (List Int)->Nat×List Int
 |[]=>(n,l)
 |s::r=>(n+(s::r).flatten.length,l.take n++(s::r).flatten)
theorem aBq(n:Nat)(l s:List Int)(r:List (List Int))(h:n<=l.length):aef n l (s::r)=aef (n+s.length) (l.take n++s) r:=by
 have hl:(l.take n++s).length=n+s.length:=by rw[ai,bq];omega
 cases r with
 |nil=>simp[aef]
 |cons t r=>
  simp only[aef];rw[aW (tp hl)];simp only[ja,ai,aC,eK]
theorem aQq(n:Nat)(z:List Int)(r:List (List Int)):(aef 0 z r).1<=(aef 0 z r).2.length/\cut (aef 0 z r).2 0 (aef 0 z r).1=r.flatten:=by
 cases r with
 |nil=>exact⟨aL _,rfl⟩
 |cons s r=>
  simp only[aef,dF,aR,aJ];exact⟨aw _,by show aQ _ (bR 0 _)=_;rw[aF,bJ]⟩
abbrev Eh:=(List Bs)×Int×(List Bs)×Int×Int
abbrev OB:=Int
abbrev aiL:=((List Bs))×(Int)
def tw:Eh->OB->aiL:=λ(A2,size,t9,t10,t11) y=>(A2,y)
abbrev OC:=Nat×(List Bs)×Int×Int×(List Int)
abbrev aiM:=Nat×(List Int)
abbrev af3:=(List Bs)
abbrev aAN:=Bs
def G8:Eh->Prop:=λ(s,size,t,n,i)=>s.length<=1000000/\t=s/\n=s.length/\∃k z:Nat,k<=s.length/\i=k/\size=z/\z+tZ (s.drop k)<=100000000
def xT:Eh->OB:=λ(s,size,t,n,i)=>((size:Int)+((tZ (s.drop i.toNat):Nat):Int):Int)
def G9:OC->Prop:=λ(n,s,t,i,l)=>s.length<=1000000/\n<=l.length/\t=s.length/\∃k:Nat,k<=s.length/\i=k/\n+tZ (s.drop k)<=100000000
def xU:OC->aiM:=λ(n,s,t,i,l)=>aef n l (s.drop i.toNat)
def amV:af3->Prop:=λs=>s.length<=1000000/\tZ s<=100000000
def Sf:af3->aAN:=λs=>s.flatten
def mL:Ls G8 tw xT:=qv (λ(A2,size,t9,t10,t11)=>⟨([.d (.slice tB) A2,bA,bA,.d ti size]++aP 5 ([.d (.slice tB) t9,.d ti t10,.d ti t11]++aP 24 [])),[],(ab 36 [])⟩) (λx=>(.exit 0,⟨([.d (.slice tB) x.1,bA,bA,.d ti x.2]++aP 32 []),[],(ab 36 [])⟩))
def mM:Ls G9 bm xU:=qv (λ(newsliceL,t25,t26,t27,n24)=>⟨(aP 6 ([nE 24 newsliceL]++aP 18 ([.d (.slice tB) t25,.d ti t26,.d ti t27]++aP 8 []))),[],(bC 24 ([dH (.vec 5 tb n24)]++bC 11 []))⟩) (λx=>(.exit 2,⟨(aP 6 ([nE 24 x.1]++aP 29 [])),[],(bC 24 ([dH (.vec 5 tb x.2)]++bC 11 []))⟩))
def oa:Fs Tryz.prog amV bm Sf:=eI 175 Tryz.f175 (λslices=>([.d (.slice tB) slices],[])) (λx=>⟨.d tB x,[],[]⟩) [some (.slice tB)] [aG7] {loops:=nD [(3,{aU:=[0,3,9,10,11]}),(11,{aU:=[6,25,26,27],sites:=[24],owns:=[⟨6,[],24,127⟩]})],outs:=nC [(3,{aU:=[0,3]},{aU:=[2]}),(11,{aU:=[6],sites:=[24]},{aU:=[2]})],fu:=np [(3,mL.E),(11,mM.E)],res:=[some tB]}
theorem Ys:mL.RS:=rL [.d (.slice tB),.d ti,.d (.slice tB),.d ti,.d ti] mL
theorem F0{R:Type}(A2 size t9 t10 t11)(kn:K2 R)(kx:K3 R):oa.R 0 mL (A2,size,t9,t10,t11) kn kx=aG ((fP t11 t10)) (aG (ed t11 (t9.length:Int)) (aG ((fP (bH .i64 size (((ag (nth tB t9 (ae t11))):Nat):Int)) 0)) (none) (kn (mL.st (A2,(bH .i64 size (((ag (nth tB t9 (ae t11))):Nat):Int)),t9,t10,(bH .i64 t11 1))))) none) (mL.go kx (A2,size)):=by kernel_rfl
theorem Yt:mM.RS:=rL [.n,.d (.slice tB),.d ti,.d ti,.d tB] mM
theorem F1{R:Type}(newsliceL t25 t26 t27 n24)(kn:K2 R)(kx:K3 R):oa.R 1 mM (newsliceL,t25,t26,t27,n24) kn kx=aG ((fP t27 t26)) (aG (ed t27 (t25.length:Int)) (aG (decide (newsliceL<=(ag n24))) (aG (cT (newsliceL+(ag (nth tB t25 (ae t27)))) 1) (kn (mM.st ((newsliceL+(ag (nth tB t25 (ae t27)))),t25,t26,(bH .i64 t27 1),((aQ newsliceL n24)++(nth tB t25 (ae t27)))))) none) none) none) (mM.go kx (newsliceL,n24)):=by kernel_rfl
theorem atm{R:Type}(slices)(k:K1 R):oa.A slices k=ak (mL.call (slices,0,slices,(slices.length:Int),0)) λx1=>ak (Up.call x1.2) λx2=>ak (mM.call (x2.1,x1.1,(x1.1.length:Int),0,x2.2)) λx3=>aG (decide (0=0/\(0+x3.1)<=(ag x3.2))) (k (oa.out (cut x3.2 0 x3.1))) none:=by kernel_rfl
theorem azc(s:List (List Int))(k:Nat)(h:k < s.length):tZ (s.drop k)=s[k].length+tZ (s.drop (k+1)):=by unfold tZ;rw[ao h,ja,ai]
theorem aec:(oa.jP 0 mL):=by
 refine(oa.lk 0 mL) (λ(s,size,t,n,i)=>s.length - i.toNat) ?_
 rintro⟨s,size,t,n,i⟩ ⟨hs,rfl,rfl,k,z,hk,rfl,rfl,hz⟩;have hs:t.length<=1000000:=hs;have hk:k<=t.length:=hk;have hz:z+tZ (t.drop k)<=100000000:=hz;by_cases h:k < t.length
 ·left;have n1:nth (.slice (.int .u8)) t k=t[k]:=bV (t:= .slice (.int .u8)) h;have hd:=azc t k h;refine⟨(t,((z+t[k].length:Nat):Int),t,t.length,((k+1:Nat):Int)),⟨hs,rfl,rfl,k+1,z+t[k].length,by omega,rfl,rfl,by omega⟩,by simp only[aa];omega,?_,λkn kx=> ?_⟩
  ·simp only[tw,xT,aa];rw[hd];refine bl _ ?_
   omega
  ·rw[F0];simp(disch:=omega) only[↓S1,↓if_pos,↓if_neg,if_pos,if_neg,bG,bp,S2,n1]
 ·right;obtain rfl:k=t.length:=by omega
  intro R kn kx;rw[F0];simp(disch:=omega) only[↓S1,↓if_pos,↓if_neg,if_pos,if_neg,bG,bp,S2,tw,xT,aK];simp only[tZ,pJ,aX,Int.natCast_zero,Int.add_zero]
theorem aed:(oa.jP 1 mM):=by
 refine(oa.lk 1 mM) (λ(n,s,t,i,l)=>s.length - i.toNat) ?_
 rintro⟨n,s,t,i,l⟩ ⟨hs,hn,rfl,k,hk,rfl,hz⟩;have hs:s.length<=1000000:=hs;have hn:n<=l.length:=hn;have hk:k<=s.length:=hk;have hz:n+tZ (s.drop k)<=100000000:=hz;by_cases h:k < s.length
 ·left;have n1:nth (.slice (.int .u8)) s k=s[k]:=bV (t:= .slice (.int .u8)) h;have hd:=azc s k h;refine⟨(n+s[k].length,s,s.length,((k+1:Nat):Int),l.take n++s[k]),⟨hs,by rw[ai,bq];omega,rfl,k+1,by omega,rfl,by omega⟩,by simp only[aa];omega,?_,λkn kx=> ?_⟩
  ·simp only[bm,xU,aa];rw[ao h,aBq _ _ _ _ hn]
  ·rw[F1];simp(disch:=omega) only[↓S1,↓if_pos,↓if_neg,if_pos,if_neg,bG,bp,S2,n1]
 ·right;obtain rfl:k=s.length:=by omega
  intro R kn kx;rw[F1];simp(disch:=omega) only[↓S1,↓if_pos,↓if_neg,if_pos,if_neg,bG,bp,S2,bm,xU,aK];rfl
theorem atn:oa.Ok:=by rintro s ⟨hs,hz⟩;have hs:s.length<=1000000:=hs;have hz:tZ s<=100000000:=hz;have p1:G8 (s,0,s,s.length,0):=⟨hs,rfl,rfl,0,0,by omega,rfl,rfl,by rw[aF];omega⟩;have p2:G9 (0,s,s.length,0,ab (tZ s) 0):=⟨hs,by omega,rfl,0,by omega,rfl,by rw[aF];omega⟩;rw[atm,Ys p1];simp only[ah,tw,xT,aY,aF,Int.zero_add];rw[aAP (d:=((tZ s:Nat):Int)) ⟨tZ s,rfl,hz⟩];simp only[ah,bm,ax9,aa];rw[Yt p2];simp only[ah,bm,xU,aY,aF];obtain⟨c1,c2⟩:=aQq 0 (ab (tZ s) 0) s;simp only[aJ,c1,iR,cn,aj,c2];rfl
theorem Uo:oa.RS:=rE [.d (.slice tB)] oa
def Yu:=oa.eN atn 2 ⟨.fm aec,⟨.fm aed,trivial⟩⟩
abbrev ayr:=Bs×Bs
abbrev aPR:=Bs
def ago:ayr->Prop:=λ(a,b)=>a.length+b.length<=100000000
def ajb:ayr->aPR:=λ(a,b)=>a++b
def Hk:Fs Tryz.prog ago bm ajb:=eI 173 Tryz.f173 (λ(b,more)=>([.d tB b,.d tB more],[])) (λx=>⟨.d tB x,[],[]⟩) [some tB,some tB] [Yu]
theorem aH3{R:Type}(b more)(k:K1 R):Hk.A (b,more) k=ak (oa.call [b,more]) λx1=>k (Hk.out x1):=by kernel_rfl
theorem aH4:Hk.Ok:=by rintro⟨a,b⟩ h;have h:a.length+b.length<=100000000:=h;rw[aH3,Uo (d:=[a,b]) ⟨by show [a,b].length<=_;simp,by show tZ [a,b]<=_;simp only[tZ,ja,pJ,bj,ai];omega⟩];simp only[ah,bm,Sf,bm,ajb,ja,pJ,bj]
theorem JC:Hk.RS:=rE [.d tB,.d tB] Hk
def YW:=Hk.eN aH4
def gr:Nat->Int->List Int×Int
 | 0,n=>([],n)
 |f+1,n=>if 128<=n then((n%128+128)::(gr f (n / 128)).1,(gr f (n / 128)).2) else([],n)
def fT(n:Int):List Int:=(gr 10 n).1++ [(gr 10 n).2]
theorem J5:∀(f g:Nat) (n:Int),n < 128^(f+1)->n < 128^(g+1)->gr f n=gr g n
 | 0,0,n,_,_=>rfl
 | 0,g+1,n,h,_=>by have h:n < 128:=h;rw[gr,gr,if_neg (by omega)]
 |f+1,0,n,_,h=>by have h:n < 128:=h;rw[gr,gr,if_neg (by omega)]
 |f+1,g+1,n,h,h'=>by
  rw[gr,gr];split
  ·have e:(128:Int)^(f+1+1)=128^(f+1)*128:=fC 128 (f+1);have e':(128:Int)^(g+1+1)=128^(g+1)*128:=fC 128 (g+1);rw[J5 f g (n / 128) (by omega) (by omega)]
  ·rfl
theorem acm:∀(f:Nat) (n:Int),(gr f n).1.length<=f
 | 0,_=>aw _
 |f+1,n=>by
  rw[gr];split
  ·have:=acm f (n / 128);simp only[az];omega
  ·exact aL _
theorem ahR:∀(f:Nat) (n:Int),0<=n->n < 128^(f+1)->0<=(gr f n).2/\(gr f n).2 < 128
 | 0,n,h,h'=>by have h':n < 128:=h';exact⟨h,h'⟩
 |f+1,n,h,h'=>by
  rw[gr];have e:(128:Int)^(f+1+1)=128^(f+1)*128:=fC 128 (f+1);split
  ·exact ahR f (n / 128) (by omega) (by omega)
  ·exact⟨h,by omega⟩
theorem ahS{n:Int}(h:128<=n)(h2:n<=9223372036854775807):gr 10 n=((n%128+128)::(gr 10 (n / 128)).1,(gr 10 (n / 128)).2):=by have e:(128:Int)^(9+1)=1180591620717411303424:=rfl;have e2:(128:Int)^(10+1)=151115727451828646838272:=rfl;rw[gr,if_pos h,J5 9 10 (n / 128) (by rw[e];omega) (by rw[e2];omega)]
theorem j8(n:Int):(fT n).length<=11:=by have:=acm 10 n;unfold fT;simp only[ai,az,aX];omega
def GO(n:Int):Prop:=0<=n/\n<=9223372036854775807
abbrev agw:=Int×Nat×(List Int)
abbrev aBV:=Int×Nat×(List Int)
abbrev aIJ:=Int
abbrev aVb:=Bs
def UI:agw->Prop:=λ(n,m,l)=>GO n/\m=l.length/\l.length<=1000+0*n.toNat/\l.length+(gr 10 n).1.length<=100
def JE:agw->aBV:=λ(n,m,l)=>((gr 10 n).2,(l++(gr 10 n).1).length,l++(gr 10 n).1)
def aIK:aIJ->Prop:=λn=>GO n
def aui:aIJ->aVb:=λn=>fT n
def yj:Ls UI bm JE:=qv (λ(wg,outL,n14)=>⟨([.d ti wg,bA,bA,nE 14 outL]++aP 16 []),[],(bC 14 ([dH (.vec 5 tb n14)]++bC 5 []))⟩) (λx=>(.exit 0,⟨([.d ti x.1,bA,bA,nE 14 x.2.1]++aP 16 []),[],(bC 14 ([dH (.vec 5 tb x.2.2)]++bC 5 []))⟩))
def Y8:Fs Tryz.prog aIK bm aui:=eI 174 Tryz.f174 (λn=>([.d ti n],[])) (λx=>⟨.d tB x,[],[]⟩) [some ti] [] {loops:=nD [(2,{aU:=[0,3],sites:=[14],owns:=[⟨3,[],14,127⟩]})],outs:=nC [(2,{aU:=[0,3],sites:=[14]},{aU:=[2]})],fu:=np [(2,yj.E)],res:=[some tB]}
theorem anZ:yj.RS:=rL [.d ti,.n,.d tB] yj
theorem O7{R:Type}(wg outL n14)(kn:K2 R)(kx:K3 R):Y8.R 0 yj (wg,outL,n14) kn kx=aG ((BP wg 128)) (aG (decide (outL<=(ag n14))) (aG (cT (outL+1) 1) (kn (yj.st ((td .i64 wg 128),(outL+1),((aQ outL n14)++ [(dT .u8 (bH .i64 (mm wg 128) 128))])))) none) none) (yj.go kx (wg,outL,n14)):=by kernel_rfl
theorem aQm{R:Type}(n)(k:K1 R):Y8.A n k=ak (yj.call (n,0,([]:List Int))) λx1=>aG (decide (x1.2.1<=(ag x1.2.2))) (aG (cT (x1.2.1+1) 1) (aG (decide (0=0/\(0+(x1.2.1+1))<=(ag ((aQ x1.2.1 x1.2.2)++ [(dT .u8 x1.1)])))) (k (Y8.out (cut ((aQ x1.2.1 x1.2.2)++ [(dT .u8 x1.1)]) 0 (x1.2.1+1)))) none) none) none:=by kernel_rfl
theorem aI1{n:Int}(h:GO n):dT .u8 (bH .i64 (mm n 128) 128)=n%128+128:=by have h1:=h.1;rw[vZ h.1,fE (by omega) (by omega),S4,gK];omega
theorem auj:(Y8.jP 0 yj):=by
 refine(Y8.lk 0 yj) (λ(n,m,l)=>n.toNat) ?_
 rintro⟨n,m,l⟩ ⟨hn,rfl,hl,hz⟩;have hn:GO n:=hn;have hz:l.length+(gr 10 n).1.length<=100:=hz;have h1:=hn.1;have h2:=hn.2;by_cases h:128<=n
 ·left;have e:=ahS h h2;have hq:td .i64 n 128=n / 128:=by rw[td,jT h1];exact tT (by omega) (by omega)
  have el:((n%128+128)::(gr 10 (n / 128)).1).length=(gr 10 (n / 128)).1.length+1:=az;rw[e]at hz;have hz:l.length+((n%128+128)::(gr 10 (n / 128)).1).length<=100:=hz;rw[el]at hz;refine⟨(n / 128,l.length+1,l++ [n%128+128]),⟨⟨by omega,by omega⟩,by rw[ai];rfl,by rw[ai];simp only[az,aX];omega,by rw[ai];simp only[az,aX];omega⟩,by simp only[];omega,?_,λkn kx=> ?_⟩
  ·simp only[bm,JE,e,aC,iD,aR]
  ·rw[O7,fW h,aI1 hn,hq];simp(disch:=omega) only[↓S1,↓if_pos,↓if_neg,if_pos,if_neg,bG,bp,S2,aw,bJ]
 ·right;have e:gr 10 n=([],n):=by rw[gr,if_neg h]
  intro R kn kx;rw[O7,eo h];simp only[al,bm,JE,e,bj]
theorem aQn:Y8.Ok:=by
 intro n hn;have hn:GO n:=hn;have hl:=acm 10 n;have e2:(128:Int)^(10+1)=151115727451828646838272:=rfl;have hd:=ahR 10 n hn.1 (by have:=hn.2;rw[e2];omega);have p:UI (n,0,[]):=⟨hn,rfl,by simp,by simp only[aX];omega⟩;have hi:dT .u8 (gr 10 n).2=(gr 10 n).2:=by rw[S4,gK];omega
 rw[aQm,anZ p];simp only[ah,bm,JE,aR,hi,bJ,aw,cn,aj];rw[de (by omega) (by omega)];simp only[aj,aJ,ai,az,aX,aw,iR,cn];rw[eP (by rw[ai];rfl)];rfl
theorem an0:Y8.RS:=rE [.d ti] Y8
def ayB:=Y8.eN aQn 1 ⟨.fm auj,trivial⟩
def cz(b:List Int)(n:Int):List Int:=if n < 0 then b else b++fT n
theorem dm(b:List Int)(n:Int):(cz b n).length<=b.length+11:=by
 unfold cz;have:=j8 n;split
 ·omega
 ·rw[ai];omega
abbrev aIA:=Bs×Int
abbrev aVa:=Bs
def aIB:aIA->Prop:=λ(b,n)=>b.length<=90000000/\n<=9223372036854775807
def oF:aIA->aVa:=λ(b,n)=>cz b n
def Ag:Fs Tryz.prog aIB bm oF:=eI 113 Tryz.f113 (λ(b,n)=>([.d tB b,.d ti n],[])) (λx=>⟨.d tB x,[],[]⟩) [some tB,some ti] [YW,ayB]
theorem aQh{R:Type}(b n)(k:K1 R):Ag.A (b,n) k=aG ((fP n 0)) (ak (Hk.call (b,([]:List Int))) λx1=>k (Ag.out x1)) (ak (Y8.call n) λx2=>ak (Hk.call (b,x2)) λx3=>k (Ag.out x3)):=by kernel_rfl
theorem aQi:Ag.Ok:=by
 rintro⟨b,n⟩ ⟨hb,hn⟩;have hb:b.length<=90000000:=hb;have hn:n<=9223372036854775807:=hn;rw[aQh];simp only[bm,oF,cz];by_cases h:n < 0
 ·rw[aT h,if_pos h,aj,JC (d:=(b,[])) (by show b.length+([]:List Int).length<=_;simp only[aX];omega)];simp only[ah,bm,ajb,bj]
 ·have hl:=j8 n;rw[aO h,if_neg h,al,an0 (d:=n) ⟨by omega,hn⟩];simp only[ah,bm,aui];rw[JC (d:=(b,fT n)) (by show b.length+(fT n).length<=_;omega)];rfl
theorem ji:Ag.RS:=rE [.d tB,.d ti] Ag
def XA:=Ag.eN aQi
abbrev ayA:=Bs×Int
abbrev aQl:=Bs
def aBU:ayA->Prop:=λ(b,n)=>b.length<=90000000
def O6:ayA->aQl:=λ(b,n)=>b++iX n
def Hp:Fs Tryz.prog aBU bm O6:=eI 128 Tryz.f128 (λ(b,n)=>([.d tB b,.d tu n],[])) (λx=>⟨.d tB x,[],[]⟩) [some tB,some tu] [YW] {loops:=nD [(3,{aU:=[0,1,5,7],sites:=[5,21]})],outs:=nC [(3,{aU:=[0,5],sites:=[5,21]},{aU:=[4],sites:=[5,21]})]} 12
theorem aIH{R:Type}(b n)(k:K1 R):Hp.A (b,n) k=ak (Hk.call (b,[(dT .u8 (cq .u64 n 56)),(dT .u8 (cq .u64 n 48)),(dT .u8 (cq .u64 n 40)),(dT .u8 (cq .u64 n 32)),(dT .u8 (cq .u64 n 24)),(dT .u8 (cq .u64 n 16)),(dT .u8 (cq .u64 n 8)),(dT .u8 (cq .u64 n 0))])) λx1=>k (Hp.out x1):=by kernel_rfl
theorem aII:Hp.Ok:=by
 rintro⟨b,n⟩ hb;have hb:b.length<=90000000:=hb;have p:ago (b,iX n):=by show b.length+(iX n).length<=_;rw[bY];omega
 have e:Hk.call (b,[dT .u8 (cq .u64 n 56),dT .u8 (cq .u64 n 48),dT .u8 (cq .u64 n 40),dT .u8 (cq .u64 n 32),dT .u8 (cq .u64 n 24),dT .u8 (cq .u64 n 16),dT .u8 (cq .u64 n 8),dT .u8 (cq .u64 n 0)])=some (b++iX n):=by rw[amX];exact JC p
 rw[aIH];refine Eq.trans (bl (λx=>ak x _) e) ?_
 rfl
theorem Ds:Hp.RS:=rE [.d tB,.d tu] Hp
def anY:=Hp.eN aII 1 ⟨.none (by kernel_rfl),trivial⟩
def Bh(w:ad6):Bool:=decide (0<=w.1/\w.1 < 4) && decide (w.2.1.length<=12)
def HH(x:gC):Bool:=decide (0<=x.1.2.1/\x.1.2.1 < 64) && Bh x.2.1
def PD(m:List (bw×Bool))(x:gC):Bool:=(bZ aV x.1 m).getD false
def DB:List (bw×Bool)->List gC->Bool
 |_,[]=>true
 |m,x::l=>(!(PD m x) && HH x) && DB (eJ aV x.1 true m) l
def rS(a:Int):Bool:=decide (0<=a/\a<=1125899906842624)
def Ku(a b:Int):Bool:=rS a && (rS b && decide (a+b<=1125899906842624))
def xy:Int->List gR->Bool
 |_,[]=>true
 |s,o::l=>(Ku s o.1 && km o.2.1) && xy (s+o.1) l
def adB(t:dM):Bool:=decide (1<=t.1.length/\t.1.length<=64/\t.2.1.length<=64/\0<=t.2.2.1)
def gJ(t:dM):Bool:=adB t && (DB [] t.1 && xy 0 t.2.1)
def aXq(l:Lk):Prop:=ad8 l/\l.1.length<=9223372036854775807
def aXr(t:dM):Prop:=(∀o∈t.2.1,aXq o.2.1)/\t.1.length<=9223372036854775807/\t.2.1.length<=9223372036854775807
abbrev aN3:=ad6
abbrev aXc:=Bool
def aN4:aN3->Prop:=λ_=>True
def al6:aN3->aXc:=λw=>Bh w
def afB:Fs Tryz.prog aN4 bm al6:=eI 87 Tryz.f87 (λwv=>([.d aFo wv],[])) (λx=>⟨.d .bool x,[],[]⟩) [some aFo]
theorem aTe{R:Type}(wv)(k:K1 R):afB.A wv k=aG ((BP wv.1 0)) (aG ((fP wv.1 4)) (k (afB.out (amw (wv.2.1.length:Int) 12))) (k (afB.out false))) (k (afB.out false)):=by kernel_rfl
theorem aTf:afB.Ok:=by
 rintro⟨b,ss,sc,u⟩ _;rw[aTe];simp only[bm,al6,Bh];by_cases h:0<=b
 ·rw[fW h,aj];by_cases h2:b < 4
  ·rw[aT h2,aj,aH ⟨h,h2⟩];by_cases h3:ss.length<=12
   ·rw[oP (by omega),aH h3];rfl
   ·rw[lY (by omega),aS h3];rfl
  ·rw[aO h2,al,aS (λx=>h2 x.2)];rfl
 ·rw[eo h,al,aS (λx=>h x.1)];rfl
theorem asA:afB.RS:=rE [.d aFo] afB
def aAj:=afB.eN aTf
abbrev apQ:=Int
abbrev aLa:=Bool
def avt:apQ->Prop:=λ_=>True
def aaZ:apQ->aLa:=λa=>rS a
def E6:Fs Tryz.prog avt bm aaZ:=eI 169 Tryz.f169 (λa=>([.d ti a],[])) (λx=>⟨.d .bool x,[],[]⟩) [some ti]
theorem aDp{R:Type}(a)(k:K1 R):E6.A a k=aG ((BP a 0)) (k (E6.out (amw a 1125899906842624))) (k (E6.out false)):=by kernel_rfl
theorem aDq:E6.Ok:=by
 intro(a:Int) _;rw[aDp];simp only[bm,aaZ,rS];by_cases h:0<=a
 ·rw[fW h,aj];by_cases h2:a<=1125899906842624
  ·rw[oP h2,aH ⟨h,h2⟩]
  ·rw[lY h2,aS (λx=>h2 x.2)]
 ·rw[eo h,al,aS (λx=>h x.1)]
theorem aa0:E6.RS:=rE [.d ti] E6
def aDr:=E6.eN aDq
abbrev aK6:=Int×Int
abbrev aWr:=Int×Bool
def aK7:aK6->Prop:=λ_=>True
def avs:aK6->aWr:=λ(a,b)=>(bif Ku a b then a+b else 0,Ku a b)
def aeI:Fs Tryz.prog aK7 bm avs:=eI 110 Tryz.f110 (λ(a,b)=>([.d ti a,.d ti b],[])) (λx=>⟨.cons (.d ti x.1) (.cons (.d .bool x.2) (.nil)),[],[]⟩) [some ti,some ti] [aDr]
theorem aRJ{R:Type}(a b)(k:K1 R):aeI.A (a,b) k=ak (E6.call a) λx1=>aG ((!x1)) (k (aeI.out (0,false))) (ak (E6.call b) λx2=>aG ((!x2)) (k (aeI.out (0,false))) (aG ((w5 a (cI .i64 1125899906842624 b))) (k (aeI.out (0,false))) (k (aeI.out ((bH .i64 a b),true))))):=by kernel_rfl
theorem aRK:aeI.Ok:=by
 rintro⟨a,b⟩ _;rw[aRJ,aa0 (d:=a) trivial,aa0 (d:=b) trivial];simp only[ah,bm,aaZ,bm,avs,Ku];cases ha:rS a
 ·rfl
 ·cases hb:rS b
  ·rfl
  ·simp only[rS,ba]at ha hb;simp only[ct,al,bN];rw[ez (by omega) (by omega)];by_cases h:a+b<=1125899906842624
   ·rw[cE (by omega),al,aH h,fE (by omega) (by omega)];rfl
   ·rw[df (by omega),aj,aS h];rfl
theorem aK8:aeI.RS:=rE [.d ti,.d ti] aeI
def aRL:=aeI.eN aRK
abbrev xo:=dM×(List gC)×Int×Int×(List (bw×Bool))
def nf:xo->AS:=λ(te,t33,t34,t35,n31)=>⟨([bA,.dL eH te,bA,.cm (.new 31 0) 0]++aP 29 ([.d (.slice fV) t33,.d ti t34,.d ti t35]++aP 52 [])),[],(bC 31 ([dH (.mp aV .bool n31)]++bC 56 []))⟩
abbrev alV:=Unit
abbrev Rv:=Unit
def fO:Rv->Exit×AS:=λx=>(.ret,⟨([bA,bA,.d .bool false]++aP 85 []),[],(ab 88 [])⟩)
abbrev alW:=Unit
abbrev Rw:=dM
def wK:Rw->Exit×AS:=λx=>(.exit 0,⟨([bA,.dL eH x]++aP 86 []),[],(ab 88 [])⟩)
abbrev Ji:=(Rv)⊕(Rw)
abbrev WL:=(alV)⊕(alW)
def C7:Ji->Out (Exit×AS):=λx=> .br x.isLeft (.get x.getLeft? λa=> .ok (fO a)) (.get x.getRight? λb=> .ok (wK b))
def jF:xo->WL->Ji:=λ(te,t33,t34,t35,n31) y=>match y with | .inl y=> .inl y | .inr z=> .inr (te)
abbrev xp:=Int×(List gR)×Int×Int
def ng:xp->AS:=λ(sum,t66,t67,t68)=>⟨(aP 6 ([.d ti sum]++aP 59 ([.d (.slice iV) t66,.d ti t67,.d ti t68]++aP 19 []))),[],(ab 88 [])⟩
abbrev alY:=Unit
abbrev Ry:=Unit
def jH:Ry->Exit×AS:=λx=>(.ret,⟨([bA,bA,.d .bool false]++aP 85 []),[],(ab 88 [])⟩)
abbrev alZ:=Unit
abbrev Rz:=Unit
def wN:Rz->Exit×AS:=λx=>(.exit 2,⟨(aP 88 []),[],(ab 88 [])⟩)
abbrev Jm:=(Ry)⊕(Rz)
abbrev WN:=(alY)⊕(alZ)
def C8:Jm->Out (Exit×AS):=λx=> .br x.isLeft (.get x.getLeft? λa=> .ok (jH a)) (.get x.getRight? λb=> .ok (wN b))
def jG:xp->WN->Jm:=λ(sum,t66,t67,t68) y=>match y with | .inl y=> .inl y | .inr z=> .inr (z)
abbrev ass:=dM
abbrev aNM:=Bool
def wJ:xo->Prop:=λ(t,l,n,i,m)=>l.length<=9223372036854775807/\n=l.length/\∃k:Nat,k<=l.length/\i=k
def mI:xo->WL:=λ(t,l,n,i,m)=>if DB m (l.drop i.toNat) then .inr () else .inl ()
def wM:xp->Prop:=λ(s,l,n,i)=>(∀o∈l,aXq o.2.1)/\l.length<=9223372036854775807/\n=l.length/\∃k:Nat,k<=l.length/\i=k
def mJ:xp->WN:=λ(s,l,n,i)=>if xy s (l.drop i.toNat) then .inr () else .inl ()
def axr:ass->Prop:=λt=>aXr t
def ra:ass->aNM:=λt=>gJ t
def WK:=dA.fm nf wJ jF mI C7
def Jj:xo->Option Ji:=gN WK nf
def WM:=dA.fm ng wM jG mJ C8
def Ba:xp->Option Jm:=gN WM ng
def iu:Fs Tryz.prog axr bm ra:=eI 67 Tryz.f67 (λt=>([.d eH t],[])) (λx=>⟨.d .bool x,[],[]⟩) [some eH] [aAj,aRL,DE] {loops:=nD [(5,{aU:=[1,3,33,34,35],sites:=[31]}),(13,{aU:=[6,66,67,68]})],outs:=nC [(5,{aU:=[1]},{aU:=[2]}),(13,{},{aU:=[2]})],fu:=np [(5,WK),(13,WM)]}
def Jh:= @eE Tryz.prog (kh iu.G) iu.an 0 Tryz.f67 0 _ nf
abbrev Ru:=lu Tryz.prog (kh iu.G) iu.an 0 Tryz.f67 0 nf wJ jF mI C7
def Jl:= @eE Tryz.prog (kh iu.G) iu.an 0 Tryz.f67 1 _ ng
abbrev Rx:=lu Tryz.prog (kh iu.G) iu.an 0 Tryz.f67 1 ng wM jG mJ C8
theorem afx:jd Jj wJ jF mI:=na (jK [.d eH,.d (.slice fV),.d ti,.d ti,.d (.slice (.pair aV .bool))] λ_=>by kernel_rfl)
theorem N9:oe @Jh nf wJ jF mI C7 Ru:=oB
theorem Jk{R:Type}(te:dM)(t33:(List gC))(t34:Int)(t35:Int)(n31:(List (bw×Bool)))(kn:AS->Option R)(kx:Exit->AS->Option R):Jh (te,t33,t34,t35,n31) kn kx=aG ((fP t35 t34)) (aG (ed t35 (((ag t33):Nat):Int)) (aG (((bZ aV (nth fV t33 (ae t35)).1 n31).getD false)) (kx (fO ()).1 (fO ()).2) (aG ((fP (nth fV t33 (ae t35)).1.2.1 (0:Int))) (kx (fO ()).1 (fO ()).2) (aG ((BP (nth fV t33 (ae t35)).1.2.1 (64:Int))) (kx (fO ()).1 (fO ()).2) (ak (afB.call (nth fV t33 (ae t35)).2.1) λx8=>aG ((!x8)) (kx (fO ()).1 (fO ()).2) (kn (nf (te,t33,t34,(bH .i64 t35 (1:Int)),(eJ aV (nth fV t33 (ae t35)).1 true n31)))))))) none) (kx (wK te).1 (wK te).2):=by kernel_rfl
theorem afy:jd Ba wM jG mJ:=na (jK [.d ti,.d (.slice iV),.d ti,.d ti] λ_=>by kernel_rfl)
theorem Oa:oe @Jl ng wM jG mJ C8 Rx:=oB
theorem Jn{R:Type}(sum:Int)(t66:(List gR))(t67:Int)(t68:Int)(kn:AS->Option R)(kx:Exit->AS->Option R):Jl (sum,t66,t67,t68) kn kx=aG ((fP t68 t67)) (aG (ed t68 (((ag t66):Nat):Int)) (ak (aeI.call (sum,(nth iV t66 (ae t68)).1)) λasN=>aG ((!asN.2)) (kx (jH ()).1 (jH ()).2) (ak (oV.call (nth iV t66 (ae t68)).2.1) λaTy=>aG ((!aTy)) (kx (jH ()).1 (jH ()).2) (kn (ng (asN.1,t66,t67,(bH .i64 t68 (1:Int))))))) none) (kx (wN ()).1 (wN ()).2):=by kernel_rfl
theorem aFB{R:Type}(t)(k:K1 R):iu.A t k=aG ((fP (t.1.length:Int) 1)) (k (iu.out false)) (aG ((w5 (t.1.length:Int) 64)) (k (iu.out false)) (aG ((w5 (t.2.1.length:Int) 64)) (k (iu.out false)) (aG ((fP t.2.2.1 0)) (k (iu.out false)) (ak (Jj (t,t.1,(t.1.length:Int),0,([]:List (bw×Bool)))) λaTy=>aG (aTy.isLeft) (ak (aTy.getLeft?) λa13=>k (iu.out false)) (ak (aTy.getRight?) λb14=>ak (Ba (0,b14.2.1,(b14.2.1.length:Int),0)) λaix=>aG (aix.isLeft) (ak (aix.getLeft?) λa31=>k (iu.out false)) (ak (aix.getRight?) λb32=>k (iu.out true))))))):=by kernel_rfl
theorem alX:Ru:=by
 refine N9 (λ(t,l,n,i,m)=>l.length - i.toNat) ?_
 rintro⟨t,l,n,i,m⟩ ⟨hb,rfl,k,hk,rfl⟩;have hb:l.length<=9223372036854775807:=hb;have hk:k<=l.length:=hk;by_cases h:k < l.length
 ·have n1:nth fV l k=l[k]:=bV (t:=fV) h;have hd:DB m (l.drop k)=((!(PD m l[k]) && HH l[k]) && DB (eJ aV l[k].1 true m) (l.drop (k+1))):=by rw[ao h];rfl
  have step:∀ {R:Type} (kn:AS->Option R) (kx:Exit->AS->Option R),Jh (t,l,(l.length:Int),(k:Int),m) kn kx=aG (!(PD m l[k]) && HH l[k]) (kn (nf (t,l,(l.length:Int),((k+1:Nat):Int),eJ aV l[k].1 true m))) (kx (fO ()).1 (fO ()).2):=by
   intro R kn kx;rw[Jk,aT (by omega),bf (by omega) (by omega),aa,n1,N.mq (by omega),asA (d:=l[k].2.1) trivial];simp only[aj,ah,bm,al6];have e:(bZ aV l[k].1 m).getD false=PD m l[k]:=rfl;rw[e];cases PD m l[k]
   ·simp only[eT,bN,al,HH];by_cases h1:l[k].1.2.1 < 0
    ·rw[aT h1,aj,aS (λx=>by omega)];rfl
    ·rw[aO h1,al];by_cases h2:64<=l[k].1.2.1
     ·rw[fW h2,aj,aS (λx=>by omega)];rfl
     ·rw[eo h2,al,aH ⟨by omega,by omega⟩];cases Bh l[k].2.1 <;> rfl
   ·rfl
  cases hp:(!(PD m l[k]) && HH l[k])
  ·right;refine⟨fO (),?_,λkn kx=> ?_⟩
   ·simp only[jF,mI,aa,hd,hp,dr,bE,bp];rfl
   ·rw[step,hp,al]
  ·left;refine⟨(t,l,l.length,((k+1:Nat):Int),eJ aV l[k].1 true m),⟨hb,rfl,k+1,by omega,rfl⟩,by simp only[aa];omega,?_,λkn kx=> ?_⟩
   ·simp only[jF,mI,aa,hd,hp,bN]
   ·rw[step,hp,aj]
 ·right;obtain rfl:k=l.length:=by omega
  refine⟨wK t,?_,λkn kx=> ?_⟩
  ·simp only[jF,mI,aa,aK];rfl
  ·rw[Jk];simp(disch:=omega) only[↓S1,↓if_pos,↓if_neg,if_pos,if_neg,bG,bp,S2]
theorem al0:Rx:=by
 refine Oa (λ(s,l,n,i)=>l.length - i.toNat) ?_
 rintro⟨s,l,n,i⟩ ⟨hl,hb,rfl,k,hk,rfl⟩;have hb:l.length<=9223372036854775807:=hb;have hk:k<=l.length:=hk;by_cases h:k < l.length
 ·have hx:aXq l[k].2.1:=hl _ (aM h);have n1:nth iV l k=l[k]:=bV (t:=iV) h;have hd:xy s (l.drop k)=((Ku s l[k].1 && km l[k].2.1) && xy (s+l[k].1) (l.drop (k+1))):=by rw[ao h];rfl
  have step:∀ {R:Type} (kn:AS->Option R) (kx:Exit->AS->Option R),Jl (s,l,(l.length:Int),(k:Int)) kn kx=aG (Ku s l[k].1 && km l[k].2.1) (kn (ng (s+l[k].1,l,(l.length:Int),((k+1:Nat):Int)))) (kx (jH ()).1 (jH ()).2):=by
   intro R kn kx;rw[Jn,aT (by omega),bf (by omega) (by omega),aa,n1,N.mq (by omega),aK8 (d:=(s,l[k].1)) trivial,AE (d:=l[k].2.1) hx];simp only[aj,ah,bm,avs,bm,DD];cases Ku s l[k].1
   ·rfl
   ·cases km l[k].2.1 <;> rfl
  cases hp:(Ku s l[k].1 && km l[k].2.1)
  ·right;refine⟨jH (),?_,λkn kx=> ?_⟩
   ·simp only[jG,mJ,aa,hd,hp,dr,bE,bp];rfl
   ·rw[step,hp,al]
  ·left;refine⟨(s+l[k].1,l,l.length,((k+1:Nat):Int)),⟨hl,hb,rfl,k+1,by omega,rfl⟩,by simp only[aa];omega,?_,λkn kx=> ?_⟩
   ·simp only[jG,mJ,aa,hd,hp,bN]
   ·rw[step,hp,aj]
 ·right;obtain rfl:k=l.length:=by omega
  refine⟨wN (),?_,λkn kx=> ?_⟩
  ·simp only[jG,mJ,aa,aK];rfl
  ·rw[Jn];simp(disch:=omega) only[↓S1,↓if_pos,↓if_neg,if_pos,if_neg,bG,bp,S2]
theorem aFC:iu.Ok:=by
 rintro⟨is,os,nt,u⟩ ⟨hl,h1,h2⟩;have h1:is.length<=9223372036854775807:=h1;have h2:os.length<=9223372036854775807:=h2;rw[aFB,afx (d:=((is,os,nt,u),is,is.length,0,[])) ⟨h1,rfl,0,by omega,rfl⟩];simp only[ah,jF,mI,aY,aF,bm,ra,gJ,adB];by_cases a1:is.length < 1
 ·rw[aT (by omega),aj,aS (λx=>by omega)];rfl
 rw[aO (by omega),al];by_cases a2:64 < is.length
 ·rw[df (by omega),aj,aS (λx=>by omega)];rfl
 rw[cE (by omega),al];by_cases a3:64 < os.length
 ·rw[df (by omega),aj,aS (λx=>by omega)];rfl
 rw[cE (by omega),al];by_cases a4:nt < 0
 ·rw[aT (by omega),aj,aS (λx=>by omega)];rfl
 rw[aO (by omega),al,aH ⟨by omega,by omega,by omega,by omega⟩];cases DB [] is
 ·rfl
 ·simp only[bG,bN];show ak (Ba (0,os,(os.length:Int),0)) _=_;rw[afy (d:=(0,os,os.length,0)) ⟨hl,h2,rfl,0,by omega,rfl⟩];simp only[ah,jG,mJ,aY,aF];cases xy 0 os <;> rfl
theorem py:iu.RS:=rE [.d eH] iu
def s8:=iu.eN aFC 2 ⟨.fm alX,⟨.fm al0,trivial⟩⟩
abbrev aqi:=Bs
abbrev aLB:=Bs
def avF:aqi->Prop:=λl=>l.length<=1000000
def Qr:aqi->aLB:=λl=>l
def AM:Fs Tryz.prog avF bm Qr:=eI 129 Tryz.f129 (λsv=>([.d tU sv],[])) (λx=>⟨.d tU x,[],[]⟩) [some tU] [] {bI:=[5],res:=[some tU]}
theorem aDJ{R:Type}(sv)(k:K1 R):AM.A sv k=aG (decide (0 < (ag sv))) (aG (cT (0+(ag sv)) 8) (aG (decide (0=0/\(0+(0+(ag sv)))<=(ag ((aQ 0 (ab 0 0))++sv)))) (k (AM.out (cut ((aQ 0 (ab 0 0))++sv) 0 (0+(ag sv))))) none) none) (nd (k (AM.out ([]:List Int))) (aG (cT (0+(ag sv)) 8) (aG (decide (0=0/\(0+(0+(ag sv)))<=(ag ((aQ 0 (ab 0 0))++sv)))) (k (AM.out (cut ((aQ 0 (ab 0 0))++sv) 0 (0+(ag sv))))) none) none)):=by kernel_rfl
theorem aDK:AM.Ok:=by
 intro l hl;have hl:l.length<=1000000:=hl;have hr:cT l.length 8=true:=de (by omega) (by omega);have e0:(aQ 0 (ab 0 0):List Int)=[]:=rfl;rw[aDJ];simp only[aJ,hr,aj,e0,aR,aw,iR,cn,eP,bm,Qr];by_cases h:0 < l.length
 ·simp only[aH h,aj]
 ·have:l=[]:=bB (by omega);subst this;simp only[aX,yZ,aS (gS 0),al]
theorem NH:AM.RS:=rE [.d tU] AM
def To:=AM.eN aDK
def aUA(l:List Int):Lk:=([(l,0,0,0,())],())
abbrev aKo:=Bs
abbrev aWd:=Lk
def aKp:aKo->Prop:=λl=>l.length<=1000000
def aWc:aKo->aWd:=λl=>aUA l
def au7:Fs Tryz.prog aKp bm aWc:=eI 83 Tryz.f83 (λl=>([.d tU l],[])) (λx=>⟨.d Oj x,[],[]⟩) [some tU] [To]
theorem aRh{R:Type}(l)(k:K1 R):au7.A l k=ak (AM.call l) λx1=>k (au7.out ([(x1,(0,(0,(0,()))))],())):=by kernel_rfl
theorem aRi:au7.Ok:=by intro l hl;rw[aRh,NH (d:=l) hl];rfl
theorem aKq:au7.RS:=rE [.d tU] au7
def aRj:=au7.eN aRi
abbrev aKA:=Int
abbrev aWg:=Lk
def aKB:aKA->Prop:=λ_=>True
def aWf:aKA->aWg:=λp=>aUA [p]
def apr:Fs Tryz.prog aKB bm aWf:=eI 37 Tryz.f37 (λp=>([.d tu p],[])) (λx=>⟨.d Oj x,[],[]⟩) [some tu] [aRj]
theorem aRq{R:Type}(p)(k:K1 R):apr.A p k=ak (au7.call [p]) λx1=>k (apr.out x1):=by kernel_rfl
theorem aRr:apr.Ok:=by intro p _;rw[aRq,aKq (d:=[p]) (by show [p].length<=_;simp)];rfl
theorem aKC:apr.RS:=rE [.d tu] apr
def aRs:=apr.eN aRr
def l6(o:List Int)(ks:List Int):List Int:=ks.foldl (λo p=>o++iX p) o
def aGk(o:List Int)(b:pC):List Int:=cz (cz (l6 (cz o b.1.length) b.1) b.2.1) b.2.2.1++iX b.2.2.2.1
def No(l:Lk):List Int:=if km l then l.1.foldl aGk (cz [] l.1.length) else []
theorem JX:∀(ks:List Int) (o:List Int),(l6 o ks).length=o.length+8*ks.length
 |[],o=>rfl
 |k::ks,o=>by show(l6 (o++iX k) ks).length=_;rw[JX ks,ai,bY,az];omega
theorem aiW(o:List Int)(b:pC)(h:b.1.length<=12):(aGk o b).length<=o.length+200:=by unfold aGk;have h1:=dm o b.1.length;have h2:=JX b.1 (cz o b.1.length);have h3:=dm (l6 (cz o b.1.length) b.1) b.2.1;have h4:=dm (cz (l6 (cz o b.1.length) b.1) b.2.1) b.2.2.1;rw[ai,bY];omega
def aO0(n:Int):Prop:=n<=9223372036854775807
def aX4(b:pC):Prop:=b.1.length<=12/\aO0 b.2.1/\aO0 b.2.2.1
theorem aUU{b:pC}(h:uP b=true):aX4 b:=by unfold uP Nf at h;simp only[aq,ba]at h;obtain⟨h1,_,h2,h3,_⟩:=h;exact⟨h1,by unfold aO0;omega,by unfold aO0;omega⟩
theorem aab(o:List Int)(ks:List Int)(k:Nat)(h:k < ks.length):l6 o (ks.drop k)=l6 (o++iX ks[k]) (ks.drop (k+1)):=by rw[ao h];rfl
abbrev Vi:=Bs×(List pC)×Int×Int
abbrev apm:=Bs
abbrev HN:=Bs×(List pC)×Int×Int×Bs×Int×Int×pC
abbrev Vj:=Bs
abbrev apn:=((List pC)×Int×Int×pC)×(Bs)
def v7:HN->Vj->apn:=λ(vj,A5,acX,acY,t28,t29,t30,n5) y=>((A5,acX,acY,n5),y)
abbrev apl:=Lk
abbrev aKt:=Bs
def aex:HN->Prop:=λ(o,bs,n,i,ks,m,j,b)=>ks.length<=12/\o.length+8*ks.length<=80000000+8*j.toNat/\m=ks.length/\∃k:Nat,k<=ks.length/\j=k
def BT:HN->Vj:=λ(o,bs,n,i,ks,m,j,b)=>l6 o (ks.drop j.toNat)
def aev:Vi->Prop:=λ(o,bs,n,i)=>(∀b∈bs,aX4 b)/\bs.length<=4/\o.length<=1000+200*i.toNat/\n=bs.length/\∃k:Nat,k<=bs.length/\i=k
def HL:Vi->apm:=λ(o,bs,n,i)=>(bs.drop i.toNat).foldl aGk o
def au8:apl->Prop:=λl=>ad8 l/\l.1.length<=9223372036854775807
def PZ:apl->aKt:=λl=>No l
def pW:Ls aev bm HL:=qv (λ(outv,t16,t17,t18)=>⟨([bA,bA,bA,.d tB outv]++aP 12 ([.d (.slice kj) t16,.d ti t17,.d ti t18]++aP 31 [])),[],(ab 50 [])⟩) (λx=>(.exit 0,⟨([bA,bA,bA,.d tB x]++aP 46 []),[],(ab 50 [])⟩))
def pX:Ls aex v7 BT:=qv (λ(vj,A5,acX,acY,t28,t29,t30,n5)=>⟨([bA,bA,bA,.d tB vj,bA,eG 5]++aP 10 ([.d (.slice kj) A5,.d ti acX,.d ti acY]++aP 9 ([.d tU t28,.d ti t29,.d ti t30]++aP 19 []))),[],(bC 5 ([dH (.d kj n5)]++bC 44 []))⟩) (λx=>(.exit 2,⟨([bA,bA,bA,.d tB x.2,bA,eG 5]++aP 10 ([.d (.slice kj) x.1.1,.d ti x.1.2.1,.d ti x.1.2.2.1]++aP 31 [])),[],(bC 5 ([dH (.d kj x.1.2.2.2)]++bC 44 []))⟩))
def sh:Fs Tryz.prog au8 bm PZ:=eI 116 Tryz.f116 (λl=>([.d Oj l],[])) (λx=>⟨.d tB x,[],[]⟩) [some Oj] [DE,XA,anY] {loops:=nD [(5,{aU:=[3,16,17,18]}),(9,{aU:=[3,5,16,17,18,28,29,30],sites:=[5]})],outs:=nC [(5,{aU:=[3]},{aU:=[2]}),(9,{aU:=[3,5,16,17,18],sites:=[5]},{aU:=[2]})],fu:=np [(5,pW.E),(9,pX.E)],res:=[some tB]}
theorem aew:pW.RS:=rL [.d tB,.d (.slice kj),.d ti,.d ti] pW
theorem HM{R:Type}(outv t16 t17 t18)(kn:K2 R)(kx:K3 R):sh.R 0 pW (outv,t16,t17,t18) kn kx=aG ((fP t18 t17)) (aG (ed t18 (t16.length:Int)) (ak (Ag.call (outv,(((ag (nth kj t16 (ae t18)).1):Nat):Int))) λx1=>ak (pX.call (x1,t16,t17,t18,(nth kj t16 (ae t18)).1,(((ag (nth kj t16 (ae t18)).1):Nat):Int),0,(nth kj t16 (ae t18)))) λx2=>ak (Ag.call (x2.2,x2.1.2.2.2.2.1)) λx3=>ak (Ag.call (x3,x2.1.2.2.2.2.2.1)) λx4=>ak (Hp.call (x4,x2.1.2.2.2.2.2.2.1)) λx5=>kn (pW.st (x5,x2.1.1,x2.1.2.1,(bH .i64 x2.1.2.2.1 1)))) none) (pW.go kx outv):=by kernel_rfl
theorem aey:pX.RS:=rL [.d tB,.d (.slice kj),.d ti,.d ti,.d tU,.d ti,.d ti,.d kj] pX
theorem HO{R:Type}(vj A5 acX acY t28 t29 t30 n5)(kn:K2 R)(kx:K3 R):sh.R 1 pX (vj,A5,acX,acY,t28,t29,t30,n5) kn kx=aG ((fP t30 t29)) (aG (ed t30 (t28.length:Int)) (ak (Hp.call (vj,(nth tu t28 (ae t30)))) λx1=>kn (pX.st (x1,A5,acX,acY,t28,t29,(bH .i64 t30 1),n5))) none) (pX.go kx ((A5,acX,acY,n5),vj)):=by kernel_rfl
theorem aCZ{R:Type}(l)(k:K1 R):sh.A l k=ak (oV.call l) λx1=>aG ((!x1)) (k (sh.out ([]:List Int))) (ak (Ag.call (([]:List Int),(l.1.length:Int))) λx2=>ak (pW.call (x2,l.1,(l.1.length:Int),0)) λx9=>k (sh.out x9)):=by kernel_rfl
theorem akj:(sh.jP 1 pX):=by
 refine(sh.lk 1 pX) (λ(o,bs,n,i,ks,m,j,b)=>ks.length - j.toNat) ?_
 rintro⟨o,bs,n,i,ks,m,j,b⟩ ⟨aVN,hl,rfl,k,hk,rfl⟩;have aVN:ks.length<=12:=aVN;have hk:k<=ks.length:=hk;have hl:o.length+8*ks.length<=80000000+8*(k:Int).toNat:=hl;rw[aa]at hl;by_cases h:k < ks.length
 ·left;have n1:nth (.int .u64) ks k=ks[k]:=bV (t:= .int .u64) h;refine⟨(o++iX ks[k],bs,n,i,ks,ks.length,((k+1:Nat):Int),b),⟨aVN,by rw[ai,bY,aa];omega,rfl,k+1,by omega,rfl⟩,by simp only[aa];omega,?_,λkn kx=> ?_⟩
  ·simp only[v7,BT,aa];rw[aab _ _ _ h]
  ·rw[HO];simp(disch:=omega) only[↓S1,↓if_pos,↓if_neg,if_pos,if_neg,bG,bp,S2,n1];rw[Ds (d:=(o,ks[k])) (by show o.length<=90000000;omega)];rfl
 ·right;obtain rfl:k=ks.length:=by omega
  intro R kn kx;rw[HO];simp(disch:=omega) only[↓S1,↓if_pos,↓if_neg,if_pos,if_neg,bG,bp,S2,v7,BT,aK];rfl
theorem aki:(sh.jP 0 pW):=by
 refine(sh.lk 0 pW) (λ(o,bs,n,i)=>bs.length - i.toNat) ?_
 rintro⟨o,bs,n,i⟩ ⟨hb,h4,hl,rfl,k,hk,rfl⟩;have h4:bs.length<=4:=h4;have hk:k<=bs.length:=hk;have hl:o.length<=1000+200*(k:Int).toNat:=hl;rw[aa]at hl;by_cases h:k < bs.length
 ·left;have hx:=hb _ (aM h);have n1:nth (.pair (.slice (.int .u64)) (.pair (.int .i64) (.pair (.int .i64) (.pair (.int .u64) .unit)))) bs k=bs[k]:=bV (t:=(.pair (.slice (.int .u64)) (.pair (.int .i64) (.pair (.int .i64) (.pair (.int .u64) .unit))))) h;have e0:=aiW o bs[k] hx.1;refine⟨(aGk o bs[k],bs,bs.length,((k+1:Nat):Int)),⟨hb,h4,by rw[aa];omega,rfl,k+1,by omega,rfl⟩,by simp only[aa];omega,?_,λkn kx=> ?_⟩
  ·simp only[bm,HL,aa];rw[ao h];rfl
  ·rw[HM,aT (by omega),bf (by omega) (by omega),aa,n1];obtain⟨⟨ks,af,dl,sc,u⟩,aVA⟩:∃b,bs[k]=b:=⟨_,rfl⟩;rw[aVA]at hx e0 ⊢;obtain⟨agR,ha,hd⟩:=hx;have agR:ks.length<=12:=agR;have ha:af<=9223372036854775807:=ha;have hd:dl<=9223372036854775807:=hd;have l1:=dm o ks.length;have l2:=JX ks (cz o ks.length);have l3:=dm (l6 (cz o ks.length) ks) af;have l4:=dm (cz (l6 (cz o ks.length) ks) af) dl;simp only[aj];rw[ji (d:=(o,(ks.length:Int))) ⟨by show o.length<=90000000;omega,by show(ks.length:Int)<=9223372036854775807;omega⟩];simp only[ah,bm,oF];rw[aey (d:=(cz o ks.length,bs,bs.length,k,ks,ks.length,0,(ks,af,dl,sc,u))) ⟨agR,by show(cz o ks.length).length+8*ks.length<=_;omega,rfl,0,by omega,rfl⟩];simp only[ah,v7,BT,aY,aF];rw[ji (d:=(l6 (cz o ks.length) ks,af)) ⟨by show(l6 (cz o ks.length) ks).length<=90000000;omega,ha⟩];simp only[ah,bm,oF];rw[ji (d:=(cz (l6 (cz o ks.length) ks) af,dl)) ⟨by show(cz (l6 (cz o ks.length) ks) af).length<=90000000;omega,hd⟩];simp only[ah,bm,oF];rw[Ds (d:=(cz (cz (l6 (cz o ks.length) ks) af) dl,sc)) (by show(cz (cz (l6 (cz o ks.length) ks) af) dl).length<=90000000;omega)];simp only[ah,bm,O6];rw[N.mq (by omega)];rfl
 ·right;obtain rfl:k=bs.length:=by omega
  intro R kn kx;rw[HM];simp(disch:=omega) only[↓S1,↓if_pos,↓if_neg,if_pos,if_neg,bG,bp,S2,bm,HL,aK];rfl
theorem ave{l:Lk}(h:km l=true):(∀b∈l.1,aX4 b)/\0 < l.1.length/\l.1.length<=4:=by unfold km at h;simp only[aq,dd,ba]at h;exact⟨λb hb=>aUU (h.1 b hb),h.2⟩
theorem aC0:sh.Ok:=by
 rintro l ⟨hl,hb⟩;have hl:ad8 l:=hl;rw[aCZ,AE (d:=l) ⟨hl,hb⟩];simp only[ah,bm,DD,bm,PZ,No];cases iT:km l
 ·rfl
 ·obtain⟨h1,h2,h3⟩:=ave iT;have l1:=dm [] l.1.length;have l0:([]:List Int).length=0:=rfl;simp only[ct,al,bG];rw[ji (d:=([],(l.1.length:Int))) ⟨by show([]:List Int).length<=90000000;omega,by show(l.1.length:Int)<=9223372036854775807;omega⟩];simp only[ah,bm,oF];rw[aew (d:=(cz [] l.1.length,l.1,l.1.length,0)) ⟨h1,h3,by show(cz [] l.1.length).length<=_;omega,rfl,0,by omega,rfl⟩];rfl
theorem JY(l:Lk):(No l).length<=1000:=by
 unfold No;split
 ·rename_i h;obtain⟨h1,h2,h3⟩:=ave h;have key:∀(bs:List pC) (o:List Int),(∀b∈bs,aX4 b)->(bs.foldl aGk o).length<=o.length+200*bs.length:=by
   intro bs
   induction bs with
   |nil=>intro o _;exact aw _
   |cons b bs ih=>
    intro o hb;have e1:=ih (aGk o b) λx hx=>hb x (aI _ hx)
    have e2:=aiW o b (hb b aN).1;rw[bo,az];omega
  have e:=key l.1 (cz [] l.1.length) h1;have e2:=dm [] l.1.length;have l0:([]:List Int).length=0:=rfl;omega
 ·exact aL _
theorem aah:sh.RS:=rE [.d Oj] sh
def ag4:=sh.eN aC0 2 ⟨.fm aki,⟨.fm akj,trivial⟩⟩
abbrev ayz:=Bs×Bs
abbrev aQk:=Bs
def aBT:ayz->Prop:=λ(b,h)=>b.length+h.length<=100000000/\h.length=32
def O5:ayz->aQk:=λ(b,h)=>b++h
def KK:Fs Tryz.prog aBT bm O5:=eI 114 Tryz.f114 (λ(b,h)=>([.d tB b,.d tH h],[])) (λx=>⟨.d tB x,[],[]⟩) [some tB,some tH] [YW]
theorem aIF{R:Type}(b h)(k:K1 R):KK.A (b,h) k=ak (Hk.call (b,(cut h 0 32))) λx1=>k (KK.out x1):=by kernel_rfl
theorem aIG:KK.Ok:=by rintro⟨b,h⟩ ⟨h1,h2⟩;have h1:b.length+h.length<=100000000:=h1;have h2:h.length=32:=h2;rw[aIF,eP h2,JC (d:=(b,h)) h1];rfl
theorem JD:KK.RS:=rE [.d tB,.d tB] KK
def anX:=KK.eN aIG
abbrev ayy:=Bs×Bs
abbrev aQj:=Bs
def aBR:ayy->Prop:=λ(b,c)=>b.length+c.length<=90000000
def ajm:ayy->aQj:=λ(b,c)=>b++(fT c.length++c)
def Y7:Fs Tryz.prog aBR bm ajm:=eI 115 Tryz.f115 (λ(b,c)=>([.d tB b,.d tB c],[])) (λx=>⟨.d tB x,[],[]⟩) [some tB,some tB] [ayB,Yu] {res:=[some tB]}
theorem aIC{R:Type}(b c)(k:K1 R):Y7.A (b,c) k=ak (Y8.call (c.length:Int)) λx1=>ak (oa.call [b,x1,c]) λx2=>k (Y7.out x2):=by kernel_rfl
theorem aID:Y7.Ok:=by rintro⟨b,c⟩ h;have h:b.length+c.length<=90000000:=h;have hl:=j8 c.length;rw[aIC,an0 (d:=(c.length:Int)) ⟨by omega,by omega⟩];simp only[ah,bm,aui];rw[Uo (d:=[b,fT c.length,c]) ⟨by show [b,fT c.length,c].length<=_;simp,by show tZ [b,fT c.length,c]<=_;simp only[tZ,ja,pJ,bj,ai];omega⟩];simp only[ah,bm,Sf,bm,ajm,ja,pJ,bj]
theorem aBS:Y7.RS:=rE [.d tB,.d tB] Y7
def aIE:=Y7.eN aID
def JU(b:List Int)(x:gC):List Int:=cz (b++x.1.1) x.1.2.1
def Ko(b:List Int)(o:gR):List Int:=cz b o.1++(fT (No o.2.1).length++No o.2.1)
def ui(t:dM):List Int:=cz (t.2.1.foldl Ko (cz (t.1.foldl JU (cz [] t.1.length)) t.2.1.length)) t.2.2.1
def acG(b:List Int)(s:Sg):List Int:=b++iX s.1++iX s.2.1
def axM(b:List Int)(x:gC):List Int:=x.2.1.2.1.foldl acG (cz (cz b x.2.1.1) x.2.1.2.1.length)++iX x.2.1.2.2.1
def axE(t:dM):List Int:=if gJ t then t.1.foldl axM (ui t) else []
def nP(t:dM):List Int:=if gJ t then tag (bF (⟨#[116,120]⟩:ByteArray)) [ui t] else ab 32 0
def bct(x:gC):Prop:=Sm x.1.1/\aea x.2.1/\x.2.1.2.1.length<=9223372036854775807
def qt(t:dM):Prop:=aXr t/\(∀x∈t.1,bct x)/\t.2.2.1<=9223372036854775807
theorem lZ:∀(l:List gC) (m:List (bw×Bool)),DB m l=true->∀x∈l,HH x=true
 |[],_,_,x,hx=>by cases hx
 |y::l,m,h,x,hx=>by
  rw[DB,aq,aq]at h;rcases cj.1 hx with rfl | hx
  ·exact h.1.2
  ·exact lZ l _ h.2 x hx
theorem jY:∀(l:List gR) (s:Int),xy s l=true->∀o∈l,(0<=o.1/\o.1<=1125899906842624)/\km o.2.1=true
 |[],_,_,o,ho=>by cases ho
 |y::l,s,h,o,ho=>by
  rw[xy,aq,aq]at h;rcases cj.1 ho with rfl | ho
  ·have h1:=h.1.1;unfold Ku rS at h1;simp only[aq,ba]at h1;exact⟨h1.2.1,h.1.2⟩
  ·exact jY l _ h.2 o ho
theorem Aw{x:gC}(h:HH x=true):0<=x.1.2.1/\x.1.2.1 < 64/\0<=x.2.1.1/\x.2.1.1 < 4/\x.2.1.2.1.length<=12:=by unfold HH Bh at h;simp only[aq,ba]at h;exact⟨h.1.1,h.1.2,h.2.1.1,h.2.1.2,h.2.2⟩
theorem jt{t:dM}(h:gJ t=true):(1<=t.1.length/\t.1.length<=64/\t.2.1.length<=64/\0<=t.2.2.1)/\DB [] t.1=true/\xy 0 t.2.1=true:=by unfold gJ adB at h;simp only[aq,ba]at h;exact h
theorem aj7(b:List Int)(x:gC):(JU b x).length<=b.length+x.1.1.length+11:=by have:=dm (b++x.1.1) x.1.2.1;rw[ai]at this;exact this
theorem aba(b:List Int)(o:gR):(Ko b o).length<=b.length+1022:=by have h1:=dm b o.1;have h2:=j8 (No o.2.1).length;have h3:=JY o.2.1;unfold Ko;rw[ai,ai];omega
theorem arN(b:List Int)(s:Sg):(acG b s).length=b.length+16:=by unfold acG;rw[ai,ai,bY,bY]
abbrev Jd:=dM×Bs×(List gC)×Int×Int
abbrev WA:=Bs
abbrev ash:=(dM)×(Bs)
def wH:Jd->WA->ash:=λ(te,b,t13,t14,t15) y=>(te,y)
abbrev Jf:=dM×Bs×(List gR)×Int×Int
abbrev WB:=Bs
abbrev asi:=(dM)×(Bs)
def wI:Jf->WB->asi:=λ(zQ,gE,t35,t36,t37) y=>(zQ,y)
abbrev asg:=dM
abbrev aNI:=Bs
def aft:Jd->Prop:=λ(t,b,l,n,i)=>(l).length<=1000000000/\∃k:Nat,k<=(l).length/\i=k/\n=(l).length/\(l.length<=64)/\(∀x∈l,x.1.1.length=32/\x.1.2.1<=9223372036854775807)/\(b.length<=100+50*k)
def Cn:Jd->WA:=λ(t,b,l,n,i)=>(bR (ae i) l).foldl JU b
def afv:Jf->Prop:=λ(t,b,l,n,i)=>(l).length<=1000000000/\∃k:Nat,k<=(l).length/\i=k/\n=(l).length/\(l.length<=64)/\(∀o∈l,o.1<=9223372036854775807/\aXq o.2.1)/\(b.length<=4000+1100*k)
def Co:Jf->WB:=λ(t,b,l,n,i)=>(bR (ae i) l).foldl Ko b
def axo:asg->Prop:=λt=>gJ t=true/\qt t
def adi:asg->aNI:=λt=>ui t
def qn:Ls aft wH Cn:=qv (λ(te,b,t13,t14,t15)=>⟨([bA,.dL eH te,bA,.d tB b]++aP 9 ([.d (.slice fV) t13,.d ti t14,.d ti t15]++aP 38 [])),[],(ab 54 [])⟩) (λx=>(.exit 0,⟨([bA,.dL eH x.1,bA,.d tB x.2]++aP 50 []),[],(ab 54 [])⟩))
def qo:Ls afv wI Co:=qv (λ(zQ,gE,t35,t36,t37)=>⟨([bA,.dL eH zQ,bA,.d tB gE]++aP 31 ([.d (.slice iV) t35,.d ti t36,.d ti t37]++aP 16 [])),[],(ab 54 [])⟩) (λx=>(.exit 2,⟨([bA,.dL eH x.1,bA,.d tB x.2]++aP 50 []),[],(ab 54 [])⟩))
def uu:Fs Tryz.prog axo bm adi:=eI 69 Tryz.f69 (λt=>([.d eH t],[])) (λx=>⟨.d tB x,[],[]⟩) [some eH] [XA,anX,ag4,aIE] {loops:=nD [(3,{aU:=[1,3,13,14,15]}),(9,{aU:=[1,3,35,36,37]})],outs:=nC [(3,{aU:=[1,3]},{aU:=[2]}),(9,{aU:=[1,3]},{aU:=[2]})],fu:=np [(3,qn.E),(9,qo.E)],res:=[some tB]}
theorem afu:qn.RS:=rL [.d eH,.d tB,.d (.slice fV),.d ti,.d ti] qn
theorem Je{R:Type}(te b t13 t14 t15)(kn:K2 R)(kx:K3 R):uu.R 0 qn (te,b,t13,t14,t15) kn kx=aG ((fP t15 t14)) (aG (ed t15 (t13.length:Int)) (ak (KK.call (b,(nth fV t13 (ae t15)).1.1)) λx1=>ak (Ag.call (x1,(nth fV t13 (ae t15)).1.2.1)) λx2=>kn (qn.st (te,x2,t13,t14,(bH .i64 t15 1)))) none) (qn.go kx (te,b)):=by kernel_rfl
theorem afw:qo.RS:=rL [.d eH,.d tB,.d (.slice iV),.d ti,.d ti] qo
theorem Jg{R:Type}(zQ gE t35 t36 t37)(kn:K2 R)(kx:K3 R):uu.R 1 qo (zQ,gE,t35,t36,t37) kn kx=aG ((fP t37 t36)) (aG (ed t37 (t35.length:Int)) (ak (Ag.call (gE,(nth iV t35 (ae t37)).1)) λx1=>ak (sh.call (nth iV t35 (ae t37)).2.1) λx2=>ak (Y7.call (x1,x2)) λx3=>kn (qo.st (zQ,x3,t35,t36,(bH .i64 t37 1)))) none) (qo.go kx (zQ,gE)):=by kernel_rfl
theorem aFy{R:Type}(t)(k:K1 R):uu.A t k=ak (Ag.call (([]:List Int),(t.1.length:Int))) λx1=>ak (qn.call (t,x1,t.1,(t.1.length:Int),0)) λx4=>ak (Ag.call (x4.2,(x4.1.2.1.length:Int))) λx5=>ak (qo.call (x4.1,x5,x4.1.2.1,(x4.1.2.1.length:Int),0)) λx9=>ak (Ag.call (x9.2,x9.1.2.2.1)) λasN=>k (uu.out asN):=by kernel_rfl
theorem alM:(uu.jP 0 qn):=by
 refine(uu.lk 0 qn) (λ(t,b,l,n,i)=>(l).length - ae i) ?_
 rintro⟨t,b,l,n,i⟩ ⟨hlen,k,hk,rfl,rfl,EU,hx,hb⟩;have hlen:(l).length<=1000000000:=hlen;have hk:k<=(l).length:=hk;have EU:l.length<=64:=EU;have hx:∀x∈l,x.1.1.length=32/\x.1.2.1<=9223372036854775807:=hx;have hb:b.length<=100+50*k:=hb;by_cases h:k < (l).length
 ·left;have n1:nth fV l k=l[k]:=bV (t:=fV) h;have hd:bR k l=l[k]::bR (k+1) l:=ao h;refine⟨(t,(JU b l[k]),l,((l).length:Int),((k+1:Nat):Int)),⟨hlen,k+1,by omega,rfl,rfl,EU,hx,by have:=aj7 b l[k];have:=(hx _ (aM h)).1;omega⟩,by simp only[aa];omega,?_,λkn kx=> ?_⟩
  ·simp only[wH,Cn,aa,hd,bo]
  ·rw[Je,aT (by omega),bf (by omega) (by omega),aa,n1];simp only[aj];have e:=hx _ (aM h);have e2:(b++l[k].1.1).length=b.length+l[k].1.1.length:=ai;rw[JD (d:=(b,l[k].1.1)) ⟨by show b.length+l[k].1.1.length<=_;omega,e.1⟩];simp only[ah,bm,O5];rw[ji (d:=(b++l[k].1.1,l[k].1.2.1)) ⟨by show(b++l[k].1.1).length<=_;omega,e.2⟩];simp only[ah,bm,oF];rw[N.mq (by omega)];rfl
 ·right;obtain rfl:k=(l).length:=by omega
  intro R kn kx;rw[Je,aO (by omega),al];simp only[wH,Cn,aa,aK,cK]
theorem alN:(uu.jP 1 qo):=by
 refine(uu.lk 1 qo) (λ(t,b,l,n,i)=>(l).length - ae i) ?_
 rintro⟨t,b,l,n,i⟩ ⟨hlen,k,hk,rfl,rfl,EU,hx,hb⟩;have hlen:(l).length<=1000000000:=hlen;have hk:k<=(l).length:=hk;have EU:l.length<=64:=EU;have hx:∀o∈l,o.1<=9223372036854775807/\aXq o.2.1:=hx;have hb:b.length<=4000+1100*k:=hb;by_cases h:k < (l).length
 ·left;have n1:nth iV l k=l[k]:=bV (t:=iV) h;have hd:bR k l=l[k]::bR (k+1) l:=ao h;refine⟨(t,(Ko b l[k]),l,((l).length:Int),((k+1:Nat):Int)),⟨hlen,k+1,by omega,rfl,rfl,EU,hx,by have:=aba b l[k];omega⟩,by simp only[aa];omega,?_,λkn kx=> ?_⟩
  ·simp only[wI,Co,aa,hd,bo]
  ·rw[Jg,aT (by omega),bf (by omega) (by omega),aa,n1];simp only[aj];have e:=hx _ (aM h);have e1:=dm b l[k].1;have e2:=JY l[k].2.1;rw[ji (d:=(b,l[k].1)) ⟨by show b.length<=_;omega,e.1⟩];simp only[ah,bm,oF];rw[aah (d:=l[k].2.1) e.2];simp only[ah,bm,PZ];rw[aBS (d:=(cz b l[k].1,No l[k].2.1)) (by show(cz b l[k].1).length+(No l[k].2.1).length<=_;omega)];simp only[ah,bm,ajm];rw[N.mq (by omega)];rfl
 ·right;obtain rfl:k=(l).length:=by omega
  intro R kn kx;rw[Jg,aO (by omega),al];simp only[wI,Co,aa,aK,cK]
theorem XM:∀(l:List gC) (b:List Int),(∀x∈l,x.1.1.length=32)->(l.foldl JU b).length<=b.length+43*l.length
 |[],b,_=>aw _
 |x::l,b,h=>by
  have h1:=aj7 b x;have h2:=h x aN;have h3:=XM l (JU b x) λy hy=>h y (aI _ hy)
  rw[bo,az];omega
theorem Qm:∀(l:List gR) (b:List Int),(l.foldl Ko b).length<=b.length+1022*l.length
 |[],b=>aw _
 |x::l,b=>by have h1:=aba b x;have h3:=Qm l (Ko b x);rw[bo,az];omega
theorem NK{t:dM}(iT:gJ t=true)(hv:qt t):(ui t).length<=70000:=by
 obtain⟨⟨_,a2,a3,_⟩,_,_⟩:=jt iT;have h1:=XM t.1 (cz [] t.1.length) λx hx=>(hv.2.1 x hx).1.1
 have h2:=dm [] t.1.length;have h3:=dm (t.1.foldl JU (cz [] t.1.length)) t.2.1.length;have h4:=Qm t.2.1 (cz (t.1.foldl JU (cz [] t.1.length)) t.2.1.length);have h5:=dm (t.2.1.foldl Ko (cz (t.1.foldl JU (cz [] t.1.length)) t.2.1.length)) t.2.2.1;have h0:([]:List Int).length=0:=rfl;unfold ui;omega
theorem aFz:uu.Ok:=by
 rintro t ⟨iT,hv⟩;have hv:qt t:=hv;obtain⟨⟨_,a2,a3,_⟩,b1,b2⟩:=jt iT;have h0:([]:List Int).length=0:=rfl;have l0:=dm [] t.1.length;have l1:=XM t.1 (cz [] t.1.length) λx hx=>(hv.2.1 x hx).1.1
 have l2:=dm (t.1.foldl JU (cz [] t.1.length)) t.2.1.length;have l3:=Qm t.2.1 (cz (t.1.foldl JU (cz [] t.1.length)) t.2.1.length);rw[aFy,ji (d:=([],(t.1.length:Int))) ⟨by show([]:List Int).length<=_;omega,by show(t.1.length:Int)<=_;omega⟩];simp only[ah,bm,oF];rw[afu (d:=(t,cz [] t.1.length,t.1,t.1.length,0)) ⟨by show t.1.length<=_;omega,0,aL _,rfl,rfl,a2,λx hx=>⟨(hv.2.1 x hx).1.1,by have:=Aw (lZ _ _ b1 x hx);omega⟩,by show(cz [] t.1.length).length<=_;omega⟩];simp only[ah,wH,Cn,aY,aF];rw[ji (d:=(t.1.foldl JU (cz [] t.1.length),(t.2.1.length:Int))) ⟨by show(t.1.foldl JU (cz [] t.1.length)).length<=_;omega,by show(t.2.1.length:Int)<=_;omega⟩];simp only[ah,bm,oF];rw[afw (d:=(t,cz (t.1.foldl JU (cz [] t.1.length)) t.2.1.length,t.2.1,t.2.1.length,0)) ⟨by show t.2.1.length<=_;omega,0,aL _,rfl,rfl,a3,λo ho=>⟨by have:=(jY _ _ b2 o ho).1;omega,hv.1.1 o ho⟩,by show(cz (t.1.foldl JU (cz [] t.1.length)) t.2.1.length).length<=_;omega⟩];simp only[ah,wI,Co,aY,aF];rw[ji (d:=(t.2.1.foldl Ko (cz (t.1.foldl JU (cz [] t.1.length)) t.2.1.length),t.2.2.1)) ⟨by show(t.2.1.foldl Ko (cz (t.1.foldl JU (cz [] t.1.length)) t.2.1.length)).length<=_;omega,hv.2.2⟩];rfl
theorem adj:uu.RS:=rE [.d eH] uu
def aik:=uu.eN aFz 2 ⟨.fm alM,⟨.fm alN,trivial⟩⟩
def as1(t:dM):Prop:=(t.1.length<=1000000000/\∀x∈t.1,x.2.1.2.1.length<=1000000000)/\t.2.1.length<=1000000000/\∀x∈t.2.1,x.2.1.1.length<=1000000000/\∀b∈x.2.1.1,b.1.length<=1000000000
def xJ(n:Int)(x:gC):Int:=n+(10+8*x.2.1.2.1.length)+(if x.2.1.2.2.1=0 then 0 else 4)
def FR(t:dM):Int:=if gJ t then t.1.foldl xJ (10+8*t.2.1.length) else 0
def dJ(t:dM):List bw:=if gJ t then t.1.map (·.1) else []
def Gc(id:List Int)(k n:Nat):List bw:=(List.range' k n).map λi:Nat=>(id,((i:Int),()))
def gH(t:dM):List bw:=if gJ t then Gc (nP t) 0 t.2.1.length else []
abbrev aUo:=dM
abbrev aZH:=Bs
def aS7:aUo->Prop:=λt=>qt t
def ada:aUo->aZH:=λt=>nP t
def tid:Fs Tryz.prog aS7 bm ada:=eI 32 Tryz.f32 (λt=>([.d eH t],[])) (λx=>⟨.d tH x,[],[]⟩) [some eH] [s8,aik,XJ]
theorem aW9{R:Type}(t)(k:K1 R):tid.A t k=ak (iu.call t) λx1=>aG ((!x1)) (k (tid.out (ab 32 0))) (ak (uu.call t) λx2=>ak (SZ.call ((⟨#[116,120]⟩:ByteArray),[x2])) λx3=>k (tid.out x3)):=by kernel_rfl
theorem aXa:tid.Ok:=by
 intro t hv;have hv:qt t:=hv;rw[aW9,py (d:=t) hv.1];simp only[ah,bm,ra,bm,ada,nP];cases iT:gJ t
 ·rfl
 ·have hl:=NK iT hv;rw[adj (d:=t) ⟨iT,hv⟩];simp only[ct,al,bG,ah,bm,adi];rw[PM (d:=((⟨#[116,120]⟩:ByteArray),[ui t])) (Rj (by decide) (by omega))];rfl
theorem Rr:tid.RS:=rE [.d eH] tid
def adb:=tid.eN aXa
abbrev RC:=Int×(List gC)×Int×Int
abbrev al5:=Int
abbrev ain:=dM
abbrev aFV:=Int
def ady:RC->Prop:=λ(n,l,m,i)=>(l).length<=1000000000/\∃k:Nat,k<=(l).length/\i=k/\m=(l).length/\(l.length<=64)/\(∀x∈l,x.2.1.2.1.length<=12)/\(0<=n)/\(n<=1000+200*(k:Int))
def zy:RC->al5:=λ(n,l,m,i)=>(bR (ae i) l).foldl xJ n
def asy:ain->Prop:=λt=>qt t
def Uc:ain->aFV:=λt=>FR t
def lH:Ls ady bm zy:=qv (λ(n,t15,t16,t17)=>⟨([bA,bA,bA,.d ti n]++aP 11 ([.d (.slice fV) t15,.d ti t16,.d ti t17]++aP 19 [])),[],(ab 37 [])⟩) (λx=>(.exit 0,⟨([bA,bA,bA,.d ti x]++aP 33 []),[],(ab 37 [])⟩))
def uA:Fs Tryz.prog asy bm Uc:=eI 242 Tryz.f242 (λt=>([.d eH t],[])) (λx=>⟨.d ti x,[],[]⟩) [some eH] [s8] {loops:=nD [(5,{aU:=[3,15,16,17]})],outs:=nC [(5,{aU:=[3]},{aU:=[2]})],fu:=np [(5,lH.E)]}
theorem adz:lH.RS:=rL [.d ti,.d (.slice fV),.d ti,.d ti] lH
theorem GB{R:Type}(n t15 t16 t17)(kn:K2 R)(kx:K3 R):uA.R 0 lH (n,t15,t16,t17) kn kx=aG ((fP t17 t16)) (aG (ed t17 (t15.length:Int)) (aG ((BQ (nth fV t15 (ae t17)).2.1.2.2.1 0)) (kn (lH.st ((bH .i64 (bH .i64 n (bH .i64 10 (fX .i64 8 (((ag (nth fV t15 (ae t17)).2.1.2.1):Nat):Int)))) 4),t15,t16,(bH .i64 t17 1)))) (kn (lH.st ((bH .i64 n (bH .i64 10 (fX .i64 8 (((ag (nth fV t15 (ae t17)).2.1.2.1):Nat):Int)))),t15,t16,(bH .i64 t17 1))))) none) (lH.go kx n):=by kernel_rfl
theorem axB{R:Type}(t)(k:K1 R):uA.A t k=ak (iu.call t) λx1=>aG ((!x1)) (k (uA.out 0)) (ak (lH.call ((bH .i64 10 (fX .i64 8 (t.2.1.length:Int))),t.1,(t.1.length:Int),0)) λx2=>k (uA.out x2)):=by kernel_rfl
theorem afA:(uA.jP 0 lH):=by
 refine(uA.lk 0 lH) (λ(n,l,m,i)=>(l).length - ae i) ?_
 rintro⟨n,l,m,i⟩ ⟨hlen,k,hk,rfl,rfl,EU,hx,h0,h1⟩;have hlen:(l).length<=1000000000:=hlen;have hk:k<=(l).length:=hk;have EU:l.length<=64:=EU;have hx:∀x∈l,x.2.1.2.1.length<=12:=hx;have h0:0<=n:=h0;have h1:n<=1000+200*(k:Int):=h1;by_cases h:k < (l).length
 ·left;have n1:nth fV l k=l[k]:=bV (t:=fV) h;have hd:bR k l=l[k]::bR (k+1) l:=ao h;refine⟨((xJ n l[k]),l,((l).length:Int),((k+1:Nat):Int)),⟨hlen,k+1,by omega,rfl,rfl,EU,hx,by unfold xJ;split <;> omega,by have:=hx _ (aM h);unfold xJ;split <;> omega⟩,by simp only[aa];omega,?_,λkn kx=> ?_⟩
  ·simp only[bm,zy,aa,hd,bo]
  ·rw[GB,aT (by omega),bf (by omega) (by omega),aa,n1];simp only[aj];have e:=hx _ (aM h);rw[N.aZj (by omega)];have e2:bH .i64 10 ((8*l[k].2.1.2.1.length:Nat):Int)=10+8*(l[k].2.1.2.1.length:Int):=by rw[fE (by omega) (by omega)];omega
   rw[e2,fE (x:=n) (by omega) (by omega),N.mq (by omega)];unfold xJ;by_cases hs:l[k].2.1.2.2.1=0
   ·rw[dx hs,al,if_pos hs,Int.add_zero]
   ·rw[fa hs,aj,if_neg hs,fE (by omega) (by omega)]
 ·right;obtain rfl:k=(l).length:=by omega
  intro R kn kx;rw[GB,aO (by omega),al];simp only[bm,zy,aa,aK,cK]
theorem axC:uA.Ok:=by
 intro t hv;have hv:qt t:=hv;rw[axB,py (d:=t) hv.1];simp only[ah,bm,ra,bm,Uc,FR];cases iT:gJ t
 ·rfl
 ·obtain⟨⟨_,a2,a3,_⟩,b1,b2⟩:=jt iT;rw[N.aZj (by omega),fE (by omega) (by omega),adz (d:=(10+((8*t.2.1.length:Nat):Int),t.1,t.1.length,0)) ⟨by show t.1.length<=_;omega,0,aL _,rfl,rfl,a2,λx hx=>(Aw (lZ _ _ b1 x hx)).2.2.2.2,by show(0:Int)<=10+((8*t.2.1.length:Nat):Int);omega,by show 10+((8*t.2.1.length:Nat):Int)<=_;omega⟩];simp only[ah,bm,zy,aY,aF,ct,al,bG,kq];rfl
theorem asz:uA.RS:=rE [.d eH] uA
def axD:=uA.eN axC 1 ⟨.fm afA,trivial⟩
abbrev Wy:=Bs×(List gC)×Int×Int
abbrev ar7:=Bs
abbrev I9:=Bs×(List gC)×Int×Int×(List Sg)×Int×Int×gC
abbrev Wz:=Bs
abbrev ar8:=((List gC)×Int×Int×gC)×(Bs)
def wG:I9->Wz->ar8:=λ(gE,acV,acW,A5,t32,t33,t34,n5) y=>((acV,acW,A5,n5),y)
abbrev ar6:=dM
abbrev aND:=Bs
def afo:I9->Prop:=λ(b,l1,bak,i1,l,n,i,x)=>(l).length<=1000000000/\∃k:Nat,k<=(l).length/\i=k/\n=(l).length/\(l.length<=12)/\(b.length<=80000000+16*k)
def Cl:I9->Wz:=λ(b,l1,bak,i1,l,n,i,x)=>(bR (ae i) l).foldl acG b
def afm:Wy->Prop:=λ(b,l,n,i)=>(l).length<=1000000000/\∃k:Nat,k<=(l).length/\i=k/\n=(l).length/\(l.length<=64)/\(∀x∈l,x.2.1.2.1.length<=12/\x.2.1.1<=9223372036854775807)/\(b.length<=100000+1000*k)
def I7:Wy->ar7:=λ(b,l,n,i)=>(bR (ae i) l).foldl axM b
theorem acH:∀(l:List Sg) (b:List Int),(l.foldl acG b).length=b.length+16*l.length
 |[],b=>rfl
 |x::l,b=>by have h1:=arN b x;have h3:=acH l (acG b x);rw[bo,az];omega
theorem aOk(b:List Int)(x:gC)(h:x.2.1.2.1.length<=12):(axM b x).length<=b.length+300:=by have e1:=dm b x.2.1.1;have e2:=dm (cz b x.2.1.1) x.2.1.2.1.length;have e3:=acH x.2.1.2.1 (cz (cz b x.2.1.1) x.2.1.2.1.length);unfold axM;rw[ai,bY];omega
def axh:ar6->Prop:=λt=>qt t
def I6:ar6->aND:=λt=>axE t
def ql:Ls afm bm I7:=qv (λ(b,t14,t15,t16)=>⟨([bA,bA,bA,.d tB b]++aP 10 ([.d (.slice fV) t14,.d ti t15,.d ti t16]++aP 36 [])),[],(ab 53 [])⟩) (λx=>(.exit 0,⟨([bA,bA,bA,.d tB x]++aP 49 []),[],(ab 53 [])⟩))
def qm:Ls afo wG Cl:=qv (λ(gE,acV,acW,A5,t32,t33,t34,n5)=>⟨([bA,bA,bA,.d tB gE,bA,eG 5]++aP 8 ([.d (.slice fV) acV,.d ti acW,.d ti A5]++aP 15 ([.d (.slice zP) t32,.d ti t33,.d ti t34]++aP 18 []))),[],(bC 5 ([dH (.d fV n5)]++bC 47 []))⟩) (λx=>(.exit 2,⟨([bA,bA,bA,.d tB x.2,bA,eG 5]++aP 8 ([.d (.slice fV) x.1.1,.d ti x.1.2.1,.d ti x.1.2.2.1]++aP 36 [])),[],(bC 5 ([dH (.d fV x.1.2.2.2)]++bC 47 []))⟩))
def qG:Fs Tryz.prog axh bm I6:=eI 74 Tryz.f74 (λt=>([.d eH t],[])) (λx=>⟨.d tB x,[],[]⟩) [some eH] [s8,aik,XA,anY] {loops:=nD [(5,{aU:=[3,14,15,16]}),(9,{aU:=[3,5,14,15,16,32,33,34],sites:=[5]})],outs:=nC [(5,{aU:=[3]},{aU:=[2]}),(9,{aU:=[3,5,14,15,16],sites:=[5]},{aU:=[2]})],fu:=np [(5,ql.E),(9,qm.E)],res:=[some tB]}
theorem afn:ql.RS:=rL [.d tB,.d (.slice fV),.d ti,.d ti] ql
theorem I8{R:Type}(b t14 t15 t16)(kn:K2 R)(kx:K3 R):qG.R 0 ql (b,t14,t15,t16) kn kx=aG ((fP t16 t15)) (aG (ed t16 (t14.length:Int)) (ak (Ag.call (b,(nth fV t14 (ae t16)).2.1.1)) λx1=>ak (Ag.call (x1,(((ag (nth fV t14 (ae t16)).2.1.2.1):Nat):Int))) λx2=>ak (qm.call (x2,t14,t15,t16,(nth fV t14 (ae t16)).2.1.2.1,(((ag (nth fV t14 (ae t16)).2.1.2.1):Nat):Int),0,(nth fV t14 (ae t16)))) λx3=>ak (Hp.call (x3.2,x3.1.2.2.2.2.1.2.2.1)) λx4=>kn (ql.st (x4,x3.1.1,x3.1.2.1,(bH .i64 x3.1.2.2.1 1)))) none) (ql.go kx b):=by kernel_rfl
theorem afp:qm.RS:=rL [.d tB,.d (.slice fV),.d ti,.d ti,.d (.slice zP),.d ti,.d ti,.d fV] qm
theorem Ja{R:Type}(gE acV acW A5 t32 t33 t34 n5)(kn:K2 R)(kx:K3 R):qG.R 1 qm (gE,acV,acW,A5,t32,t33,t34,n5) kn kx=aG ((fP t34 t33)) (aG (ed t34 (t32.length:Int)) (ak (Hp.call (gE,(nth zP t32 (ae t34)).1)) λx1=>ak (Hp.call (x1,(nth zP t32 (ae t34)).2.1)) λx2=>kn (qm.st (x2,acV,acW,A5,t32,t33,(bH .i64 t34 1),n5))) none) (qm.go kx ((acV,acW,A5,n5),gE)):=by kernel_rfl
theorem aFt{R:Type}(t)(k:K1 R):qG.A t k=ak (iu.call t) λx1=>aG ((!x1)) (k (qG.out ([]:List Int))) (ak (uu.call t) λx2=>ak (ql.call (x2,t.1,(t.1.length:Int),0)) λx9=>k (qG.out x9)):=by kernel_rfl
theorem alF:(qG.jP 1 qm):=by
 refine(qG.lk 1 qm) (λ(b,l1,bak,i1,l,n,i,x)=>(l).length - ae i) ?_
 rintro⟨b,l1,bak,i1,l,n,i,x⟩ ⟨hlen,k,hk,rfl,rfl,agR,hb⟩;have hlen:(l).length<=1000000000:=hlen;have hk:k<=(l).length:=hk;have agR:l.length<=12:=agR;have hb:b.length<=80000000+16*k:=hb;by_cases h:k < (l).length
 ·left;have n1:nth zP l k=l[k]:=bV (t:=zP) h;have hd:bR k l=l[k]::bR (k+1) l:=ao h;refine⟨((acG b l[k]),l1,bak,i1,l,((l).length:Int),((k+1:Nat):Int),x),⟨hlen,k+1,by omega,rfl,rfl,agR,by have:=arN b l[k];omega⟩,by simp only[aa];omega,?_,λkn kx=> ?_⟩
  ·simp only[wG,Cl,aa,hd,bo]
  ·rw[Ja,aT (by omega),bf (by omega) (by omega),aa,n1];simp only[aj];rw[Ds (d:=(b,l[k].1)) (by show b.length<=_;omega)];simp only[ah,bm,O6];rw[Ds (d:=(b++iX l[k].1,l[k].2.1)) (by show(b++iX l[k].1).length<=_;rw[ai,bY];omega)];simp only[ah,bm,O6];rw[N.mq (by omega)];rfl
 ·right;obtain rfl:k=(l).length:=by omega
  intro R kn kx;rw[Ja,aO (by omega),al];simp only[wG,Cl,aa,aK,cK]
theorem alE:(qG.jP 0 ql):=by
 refine(qG.lk 0 ql) (λ(b,l,n,i)=>(l).length - ae i) ?_
 rintro⟨b,l,n,i⟩ ⟨hlen,k,hk,rfl,rfl,EU,hx,hb⟩;have hlen:(l).length<=1000000000:=hlen;have hk:k<=(l).length:=hk;have EU:l.length<=64:=EU;have hx:∀x∈l,x.2.1.2.1.length<=12/\x.2.1.1<=9223372036854775807:=hx;have hb:b.length<=100000+1000*k:=hb;by_cases h:k < (l).length
 ·left;have n1:nth fV l k=l[k]:=bV (t:=fV) h;have hd:bR k l=l[k]::bR (k+1) l:=ao h;refine⟨((axM b l[k]),l,((l).length:Int),((k+1:Nat):Int)),⟨hlen,k+1,by omega,rfl,rfl,EU,hx,by have:=aOk b l[k] (hx _ (aM h)).1;omega⟩,by simp only[aa];omega,?_,λkn kx=> ?_⟩
  ·simp only[bm,I7,aa,hd,bo]
  ·rw[I8,aT (by omega),bf (by omega) (by omega),aa,n1];simp only[aj];have e:=hx _ (aM h);have e1:=dm b l[k].2.1.1;have e2:=dm (cz b l[k].2.1.1) l[k].2.1.2.1.length;have e3:=acH l[k].2.1.2.1 (cz (cz b l[k].2.1.1) l[k].2.1.2.1.length);rw[ji (d:=(b,l[k].2.1.1)) ⟨by show b.length<=_;omega,e.2⟩];simp only[ah,bm,oF];rw[ji (d:=(cz b l[k].2.1.1,(l[k].2.1.2.1.length:Int))) ⟨by show(cz b l[k].2.1.1).length<=_;omega,by show(l[k].2.1.2.1.length:Int)<=_;omega⟩];simp only[ah,bm,oF];rw[afp (d:=(cz (cz b l[k].2.1.1) l[k].2.1.2.1.length,l,l.length,k,l[k].2.1.2.1,l[k].2.1.2.1.length,0,l[k])) ⟨by show l[k].2.1.2.1.length<=_;omega,0,aL _,rfl,rfl,e.1,by show(cz (cz b l[k].2.1.1) l[k].2.1.2.1.length).length<=_;omega⟩];simp only[ah,wG,Cl,aY,aF];rw[Ds (d:=(l[k].2.1.2.1.foldl acG (cz (cz b l[k].2.1.1) l[k].2.1.2.1.length),l[k].2.1.2.2.1)) (by show(l[k].2.1.2.1.foldl acG (cz (cz b l[k].2.1.1) l[k].2.1.2.1.length)).length<=_;omega)];simp only[ah,bm,O6];rw[N.mq (by omega)];rfl
 ·right;obtain rfl:k=(l).length:=by omega
  intro R kn kx;rw[I8,aO (by omega),al];simp only[bm,I7,aa,aK,cK]
theorem aFu:qG.Ok:=by
 intro t hv;have hv:qt t:=hv;rw[aFt,py (d:=t) hv.1];simp only[ah,bm,ra,bm,I6,axE];cases iT:gJ t
 ·rfl
 ·obtain⟨⟨_,a2,a3,_⟩,b1,b2⟩:=jt iT;have hl:=NK iT hv;rw[adj (d:=t) ⟨iT,hv⟩];simp only[ct,al,bG,ah,bm,adi];rw[afn (d:=(ui t,t.1,t.1.length,0)) ⟨by show t.1.length<=_;omega,0,aL _,rfl,rfl,a2,λx hx=>by have:=Aw (lZ _ _ b1 x hx);exact⟨this.2.2.2.2,by omega⟩,by show(ui t).length<=_;omega⟩];rfl
theorem NZ:qG.RS:=rE [.d eH] qG
def T9:=qG.eN aFu 2 ⟨.fm alE,⟨.fm alF,trivial⟩⟩
abbrev RA:=Nat×(List gC)×Int×Int×(List bw)
abbrev al4:=Nat×(List bw)
abbrev aim:=dM
abbrev aFS:=(List bw)
def adv:RA->Prop:=λ(L,l,n,i,r)=>(l).length<=1000000/\∃k:Nat,k<=(l).length/\i=k/\n=(l).length/\L=(r).length/\(r).length<=1000000+k
def zx:RA->al4:=λ(L,l,n,i,r)=>(L+(bR (ae i) l).length,r++(bR (ae i) l).map (λx:gC=>x.1))
def asx:aim->Prop:=λt=>aXr t
def Ka:aim->aFS:=λt=>dJ t
def nh:Ls adv bm zx:=qv (λ(lL,t9,t10,t11,n19)=>⟨([bA,bA,nE 19 lL]++aP 6 ([.d (.slice fV) t9,.d ti t10,.d ti t11]++aP 10 [])),[],(bC 19 [dH (.vec 38 aV n19),[],[]])⟩) (λx=>(.exit 0,⟨([bA,bA,nE 19 x.1]++aP 19 []),[],(bC 19 [dH (.vec 38 aV x.2),[],[]])⟩))
def rK:Fs Tryz.prog asx bm Ka:=eI 72 Tryz.f72 (λt=>([.d eH t],[])) (λx=>⟨.d (.slice aV) x,[],[]⟩) [some eH] [s8] {loops:=nD [(4,{aU:=[2,9,10,11],sites:=[19],owns:=[⟨2,[],19,46⟩]})],outs:=nC [(4,{aU:=[2],sites:=[19]},{aU:=[2]})],fu:=np [(4,nh.E)],res:=[some (.slice aV)]}
theorem adw:nh.RS:=rL [.n,.d (.slice fV),.d ti,.d ti,.d (.slice aV)] nh
theorem GA{R:Type}(lL t9 t10 t11 n19)(kn:K2 R)(kx:K3 R):rK.R 0 nh (lL,t9,t10,t11,n19) kn kx=aG ((fP t11 t10)) (aG (ed t11 (t9.length:Int)) (aG (decide (lL<=(ag n19))) (aG (cT (lL+1) 40) (kn (nh.st ((lL+1),t9,t10,(bH .i64 t11 1),((aQ lL n19)++ [(nth fV t9 (ae t11)).1])))) none) none) none) (nh.go kx (lL,n19)):=by kernel_rfl
theorem axz{R:Type}(t)(k:K1 R):rK.A t k=ak (iu.call t) λx1=>aG ((!x1)) (k (rK.out ([]:List bw))) (ak (nh.call (0,t.1,(t.1.length:Int),0,([]:List bw))) λx2=>aG (decide (0=0/\(0+x2.1)<=(ag x2.2))) (k (rK.out (cut x2.2 0 x2.1))) none):=by kernel_rfl
theorem afz:(rK.jP 0 nh):=by
 refine(rK.lk 0 nh) (λ(L,l,n,i,r)=>(l).length - ae i) ?_
 rintro⟨L,l,n,i,r⟩ ⟨hlen,k,hk,rfl,rfl,rfl,rY⟩;have hlen:(l).length<=1000000:=hlen;have hk:k<=(l).length:=hk;have rY:(r).length<=1000000+k:=rY;by_cases h:k < (l).length
 ·left;have n1:nth fV l k=l[k]:=bV (t:=fV) h;have hd:bR k l=l[k]::bR (k+1) l:=ao h;refine⟨((r).length+1,l,((l).length:Int),((k+1:Nat):Int),r++ [(λx:gC=>x.1) l[k]]),⟨hlen,k+1,by omega,rfl,rfl,by rw[ai];rfl,by rw[ai];show(r).length+1<=_;omega⟩,by simp only[aa];omega,?_,λkn kx=> ?_⟩
  ·simp only[bm,zx,aa,hd,bT,az,aC,cS];rw[show ∀a c:Nat,a+1+c=a+(c+1) from λa c=>by omega]
  ·rw[GA,aT (by omega),bf (show(0:Int)<=(k:Int) by omega) (by omega),aa,n1];simp only[aj];rw[aH (aw _),de (by omega) (by omega),N.mq (by omega),bJ];rfl
 ·right;obtain rfl:k=(l).length:=by omega
  intro R kn kx;rw[GA,aO (by omega),al];simp only[bm,zx,aa,aK,gV,bj,aX,cd]
theorem axA:rK.Ok:=by
 intro t hv;have hv:aXr t:=hv;rw[axz,py (d:=t) hv];simp only[ah,bm,ra,bm,Ka,dJ];cases iT:gJ t
 ·rfl
 ·obtain⟨⟨_,a2,a3,_⟩,b1,b2⟩:=jt iT;rw[adw (d:=(0,t.1,t.1.length,0,[])) ⟨by show t.1.length<=_;omega,0,aL _,rfl,rfl,rfl,aL _⟩];simp only[ct,al,bG,ah,bm,zx,aY,aF,aR,aJ];rw[aH ⟨by trivial,by rw[bX];exact aw _⟩,aj,eP (by rw[bX])]
theorem WQ:rK.RS:=rE [.d eH] rK
def adx:=rK.eN axA 1 ⟨.fm afz,trivial⟩
abbrev adf:=Nat×Int×Int×Bs×(List bw)
abbrev axm:=Nat×(List bw)
abbrev aAb:=dM
abbrev aS8:=(List bw)
def alJ:adf->Prop:=λ(L,n,i,id,r)=>∃k m:Nat,k<=m/\i=k/\n=m/\m<=1000/\L=r.length/\L=k
def FD:adf->axm:=λ(L,n,i,id,r)=>(L+(n - i).toNat,r++Gc id i.toNat (n - i).toNat)
def aFx:aAb->Prop:=λt=>qt t
def X4:aAb->aS8:=λt=>gH t
def ur:Ls alJ bm FD:=qv (λ(lL,t12,t13,n3,n21)=>⟨([bA,bA,nE 21 lL,eG 3]++aP 8 ([.d ti t12,.d ti t13]++aP 10 [])),[],([[],[],[],dH (.d tH n3)]++bC 17 [dH (.vec 38 aV n21),[],[]])⟩) (λx=>(.exit 0,⟨([bA,bA,nE 21 x.1]++aP 21 []),[],(bC 21 [dH (.vec 38 aV x.2),[],[]])⟩))
def Gz:Fs Tryz.prog aFx bm X4:=eI 197 Tryz.f197 (λt=>([.d eH t],[])) (λx=>⟨.d (.slice aV) x,[],[]⟩) [some eH] [adb,s8] {loops:=nD [(5,{aU:=[2,3,12,13],sites:=[3,21],owns:=[⟨2,[],21,46⟩]})],outs:=nC [(5,{aU:=[2],sites:=[21]},{aU:=[2]})],fu:=np [(5,ur.E)],res:=[some (.slice aV)]}
theorem alK:ur.RS:=rL [.n,.d ti,.d ti,.d tB,.d (.slice aV)] ur
theorem LQ{R:Type}(lL t12 t13 n3 n21)(kn:K2 R)(kx:K3 R):Gz.R 0 ur (lL,t12,t13,n3,n21) kn kx=aG ((fP t13 t12)) (aG (decide (lL<=(ag n21))) (aG (cT (lL+1) 40) (kn (ur.st ((lL+1),t12,(bH .i64 t13 1),n3,((aQ lL n21)++ [(n3,(t13,()))])))) none) none) (ur.go kx (lL,n21)):=by kernel_rfl
theorem aNF{R:Type}(t)(k:K1 R):Gz.A t k=ak (tid.call t) λx1=>ak (iu.call t) λx2=>aG ((!x2)) (k (Gz.out ([]:List bw))) (ak (ur.call (0,(t.2.1.length:Int),0,x1,([]:List bw))) λx3=>aG (decide (0=0/\(0+x3.1)<=(ag x3.2))) (k (Gz.out (cut x3.2 0 x3.1))) none):=by kernel_rfl
theorem aDg(id:List Int)(k n:Nat):(Gc id k n).length=n:=by simp[Gc]
theorem avk(id:List Int)(k n:Nat):Gc id k (n+1)=(id,((k:Int),()))::Gc id (k+1) n:=by unfold Gc;rw[List.range'_succ,bT]
theorem asc:(Gz.jP 0 ur):=by
 refine(Gz.lk 0 ur) (λ(L,n,i,id,r)=>(n - i).toNat) ?_
 rintro⟨L,n,i,id,r⟩ ⟨k,m,hk,rfl,rfl,hm,rfl,bcY⟩;have bcY:r.length=k:=bcY;by_cases h:k < m
 ·left;have e1:((m:Int) - (k:Int)).toNat=(m - (k+1))+1:=by omega
  have e2:((m:Int) - ((k+1:Nat):Int)).toNat=m - (k+1):=by omega
  refine⟨(r.length+1,(m:Int),((k+1:Nat):Int),id,r++ [(id,((k:Int),()))]),⟨k+1,m,by omega,rfl,rfl,hm,by rw[ai];rfl,by show r.length+1=_;omega⟩,by show((m:Int) - ((k+1:Nat):Int)).toNat < ((m:Int) - (k:Int)).toNat;omega,?_,λkn kx=> ?_⟩
  ·simp only[bm,FD,e1,e2,aa,avk,aC,cS];rw[show r.length+1+(m - (k+1))=r.length+(m - (k+1)+1) by omega]
  ·rw[LQ,aT (by omega),aH (aw _),de (by omega) (by omega),N.mq (by omega),bJ];rfl
 ·right;obtain rfl:k=m:=by omega
  intro R kn kx;rw[LQ,aO (by omega),al];simp only[bm,FD,Int.sub_self,aY,cd];rw[show Gc id (k:Int).toNat 0=[] from rfl,bj]
theorem aNG:Gz.Ok:=by
 intro t hv;have hv:qt t:=hv;rw[aNF,Rr (d:=t) hv,py (d:=t) hv.1];simp only[ah,bm,ada,bm,ra,bm,X4,gH];cases iT:gJ t
 ·rfl
 ·obtain⟨⟨_,a2,a3,_⟩,b1,b2⟩:=jt iT;have hl:=aDg (nP t) 0 t.2.1.length;rw[alK (d:=(0,t.2.1.length,0,nP t,[])) ⟨0,t.2.1.length,aL _,rfl,rfl,by omega,rfl,rfl⟩];simp only[ct,al,bG,ah,bm,FD,pG,aa,aY,aR,aJ];rw[aH ⟨by trivial,by rw[hl];exact aw _⟩,aj,eP hl]
theorem aij:Gz.RS:=rE [.d eH] Gz
def asd:=Gz.eN aNG 1 ⟨.fm asc,trivial⟩
abbrev aIa:=(List gC)
abbrev aU3:=Nat×(List gC)
def aIb:aIa->Prop:=λl=>l.length<=1000000
def at8:aIa->aU3:=λl=>(l.length,l)
def aje:Fs Tryz.prog aIb bm at8:=eI 137 Tryz.f137 (λsv=>([.d (.slice fV) sv],[])) (λx=>⟨.bu (.new 0 0) 0 [] 0 0 x.1,[],[.obj 0 false (.vec 86 fV x.2)]⟩) [some (.slice fV)] [] {bI:=[5],owns:=[⟨2,[],5,53⟩]}
theorem aPX{R:Type}(sv)(k:K1 R):aje.A sv k=aG (decide (0 < (ag sv))) (aG (cT (0+(ag sv)) 80) (k (aje.out ((0+(ag sv)),((aQ 0 (ab 0 (((ab 32 0),(0,())),((0,(([]:List Sg),(0,()))),()))))++sv)))) none) (nd (k (aje.out (0,([]:List gC)))) (aG (cT (0+(ag sv)) 80) (k (aje.out ((0+(ag sv)),((aQ 0 (ab 0 (((ab 32 0),(0,())),((0,(([]:List Sg),(0,()))),()))))++sv)))) none)):=by kernel_rfl
theorem aPY:aje.Ok:=by
 intro l hl;have hl:l.length<=1000000:=hl;have hr:cT l.length 80=true:=de (by omega) (by omega);rw[aPX];simp only[aJ,hr,aj,dF,aR,bm,at8];by_cases h:0 < l.length
 ·simp only[aH h,aj]
 ·have:l=[]:=bB (by omega);subst this;simp only[aX,yZ,aS (gS 0),al]
theorem aIc:aje.RS:=rE [.d (.slice fV)] aje
def aPZ:=aje.eN aPY
abbrev ayt:=(List gR)
abbrev aP3:=Nat×(List gR)
def aBE:ayt->Prop:=λl=>l.length<=1000000
def ajg:ayt->aP3:=λl=>(l.length,l)
def O0:Fs Tryz.prog aBE bm ajg:=eI 138 Tryz.f138 (λsv=>([.d (.slice iV) sv],[])) (λx=>⟨.bu (.new 0 0) 0 [] 0 0 x.1,[],[.obj 0 false (.vec 79 iV x.2)]⟩) [some (.slice iV)] [] {bI:=[5],owns:=[⟨2,[],5,22⟩]}
theorem aIh{R:Type}(sv)(k:K1 R):O0.A sv k=aG (decide (0 < (ag sv))) (aG (cT (0+(ag sv)) 32) (k (O0.out ((0+(ag sv)),((aQ 0 (ab 0 (0,((([]:List pC),()),()))))++sv)))) none) (nd (k (O0.out (0,([]:List gR)))) (aG (cT (0+(ag sv)) 32) (k (O0.out ((0+(ag sv)),((aQ 0 (ab 0 (0,((([]:List pC),()),()))))++sv)))) none)):=by kernel_rfl
theorem aIi:O0.Ok:=by
 intro l hl;have hl:l.length<=1000000:=hl;have hr:cT l.length 32=true:=de (by omega) (by omega);rw[aIh];simp only[aJ,hr,aj,dF,aR,bm,ajg];by_cases h:0 < l.length
 ·simp only[aH h,aj]
 ·have:l=[]:=bB (by omega);subst this;simp only[aX,yZ,aS (gS 0),al]
theorem aBF:O0.RS:=rE [.d (.slice iV)] O0
def aIj:=O0.eN aIi
abbrev aH8:=(List pC)
abbrev aU2:=Nat×(List pC)
def aH9:aH8->Prop:=λl=>l.length<=1000000
def ajd:aH8->aU2:=λl=>(l.length,l)
def ael:Fs Tryz.prog aH9 bm ajd:=eI 140 Tryz.f140 (λsv=>([.d (.slice kj) sv],[])) (λx=>⟨.bu (.new 0 0) 0 [] 0 0 x.1,[],[.obj 0 false (.vec 98 kj x.2)]⟩) [some (.slice kj)] [] {bI:=[5],owns:=[⟨2,[],5,70⟩]}
theorem aPV{R:Type}(sv)(k:K1 R):ael.A sv k=aG (decide (0 < (ag sv))) (aG (cT (0+(ag sv)) 48) (k (ael.out ((0+(ag sv)),((aQ 0 (ab 0 (([]:List Int),(0,(0,(0,()))))))++sv)))) none) (nd (k (ael.out (0,([]:List pC)))) (aG (cT (0+(ag sv)) 48) (k (ael.out ((0+(ag sv)),((aQ 0 (ab 0 (([]:List Int),(0,(0,(0,()))))))++sv)))) none)):=by kernel_rfl
theorem aPW:ael.Ok:=by
 intro l hl;have hl:l.length<=1000000:=hl;have hr:cT l.length 48=true:=de (by omega) (by omega);rw[aPV];simp only[aJ,hr,aj,dF,aR,bm,ajd];by_cases h:0 < l.length
 ·simp only[aH h,aj]
 ·have:l=[]:=bB (by omega);subst this;simp only[aX,yZ,aS (gS 0),al]
theorem anI:ael.RS:=rE [.d (.slice kj)] ael
def ays:=ael.eN aPW
abbrev ayu:=(List Sg)
abbrev aP4:=(List Sg)
def aBG:ayu->Prop:=λl=>l.length<=1000000
def ajh:ayu->aP4:=λl=>l
def O1:Fs Tryz.prog aBG bm ajh:=eI 139 Tryz.f139 (λsv=>([.d (.slice zP) sv],[])) (λx=>⟨.d (.slice zP) x,[],[]⟩) [some (.slice zP)] [] {bI:=[5],res:=[some (.slice zP)]}
theorem aIk{R:Type}(sv)(k:K1 R):O1.A sv k=aG (decide (0 < (ag sv))) (aG (cT (0+(ag sv)) 16) (aG (decide (0=0/\(0+(0+(ag sv)))<=(ag ((aQ 0 (ab 0 (0,(0,()))))++sv)))) (k (O1.out (cut ((aQ 0 (ab 0 (0,(0,()))))++sv) 0 (0+(ag sv))))) none) none) (nd (k (O1.out ([]:List Sg))) (aG (cT (0+(ag sv)) 16) (aG (decide (0=0/\(0+(0+(ag sv)))<=(ag ((aQ 0 (ab 0 (0,(0,()))))++sv)))) (k (O1.out (cut ((aQ 0 (ab 0 (0,(0,()))))++sv) 0 (0+(ag sv))))) none) none)):=by kernel_rfl
theorem aIl:O1.Ok:=by
 intro l hl;have hl:l.length<=1000000:=hl;have hr:cT l.length 16=true:=de (by omega) (by omega);rw[aIk];simp only[aJ,hr,aj,dF,aR,aw,iR,cn,eP,bm,ajh];by_cases h:0 < l.length
 ·simp only[aH h,aj]
 ·have:l=[]:=bB (by omega);subst this;simp only[aX,yZ,aS (gS 0),al]
theorem aBH:O1.RS:=rE [.d (.slice zP)] O1
def aIm:=O1.eN aIl
abbrev FB:=Int×Int×Nat×Nat×(Int×Unit)×(Int×Unit)×(List gC)×(List gR)
abbrev Rm:=(List gC)
abbrev alG:=(Nat×Nat×(Int×Unit)×(Int×Unit)×(List gR))×((List gC))
def Jb:FB->Rm->alG:=λ(t17,t18,aRF,aaG,n1,n2,n9,n12) y=>((aRF,aaG,n1,n2,n12),y)
abbrev Rn:=Int×Int×Nat×Nat×(Int×Unit)×(Int×Unit)×(List gC)×(List gR)
abbrev alH:=Nat×Nat×(Int×Unit)×(Int×Unit)×(List gC)×(List gR)
abbrev FC:=Int×Nat×Int×Int×Int×Int×Nat×Nat×(Int×Unit)×(Int×Unit)×(List gC)×(List gR)×(List pC)
abbrev Rq:=(List pC)×(List pC)
abbrev alI:=(Int×Int×Int×Nat×Nat×(Int×Unit)×(Int×Unit)×(List gC)×(List gR))×((List pC)×(List pC))
def Jc:FC->Rq->alI:=λ(kv,lL,acZ,ac0,t51,t52,aaH,aaI,avo,sk,avq,aaC,n49) y=>((kv,acZ,ac0,aaH,aaI,avo,sk,avq,aaC),y)
abbrev aih:=dM
abbrev aFv:=Nat×((List gR)×(Int×Unit))×(List gC)
def ac4:FB->Prop:=λ(m,i,L,L2,u,v,l,os)=>(l.length<=1000/\∀x∈l,x.2.1.2.1.length<=1000000)/\∃k:Nat,k<=l.length/\i=k/\m=l.length/\L=l.length
def Rk:FB->Rm:=λ(m,i,L,L2,u,v,l,os)=>l
def ac8:FC->Prop:=λ(kv,L,m1,i1,m,i,L5,L6,u,v,ls,os,bs)=>(bs.length<=1000/\∀x∈bs,x.1.length<=1000000)/\∃k:Nat,k<=bs.length/\i=k/\m=bs.length/\L=bs.length
def Rp:FC->Rq:=λ(kv,L,m1,i1,m,i,L5,L6,u,v,ls,os,bs)=>(bs,bs)
def ac6:Rn->Prop:=λ(m,i,L3,L,u,v,ls,os)=>(os.length<=1000/\∀x∈os,x.2.1.1.length<=1000/\∀b∈x.2.1.1,b.1.length<=1000000)/\∃k:Nat,k<=os.length/\i=k/\m=os.length/\L=os.length
def Ro:Rn->alH:=λ(m,i,L3,L,u,v,ls,os)=>(L3,L,u,v,ls,os)
def ar9:aih->Prop:=λt=>gJ t=true
def aii:aih->aFv:=λt=>(t.1.length,(t.2.1,t.2.2),t.1)
def lE:Ls ac4 Jb Rk:=qv (λ(t17,t18,aRF,aaG,n1,n2,n9,n12)=>⟨([bA,eG 1,eG 2]++aP 14 ([.d ti t17,.d ti t18]++aP 56 [])),[],([[],dH (.pr (nE 9 aRF) (.pr (nE 12 aaG) (.d (.pair ti .unit) n1))),dH (.pr (.cV) (.pr (.cV) (.d (.pair ti .unit) n2)))]++bC 6 ([dH (.vec 86 fV n9),[],[],dH (.vec 79 iV n12)]++bC 62 []))⟩) (λx=>(.exit 0,⟨([bA,eG 1,eG 2]++aP 72 []),[],([[],dH (.pr (nE 9 x.1.1) (.pr (nE 12 x.1.2.1) (.d (.pair ti .unit) x.1.2.2.1))),dH (.pr (.cV) (.pr (.cV) (.d (.pair ti .unit) x.1.2.2.2.1)))]++bC 6 ([dH (.vec 86 fV x.2),[],[],dH (.vec 79 iV x.1.2.2.2.2)]++bC 62 []))⟩))
def lF:Ls ac6 bm Ro:=qv (λ(t38,t39,apO,ahg,aK4,ki,Qh,aaB)=>⟨([bA,eG 1,eG 2]++aP 35 ([.d ti t38,.d ti t39]++aP 35 [])),[],([[],dH (.pr (nE 9 apO) (.pr (nE 12 ahg) (.d (.pair ti .unit) aK4))),dH (.pr (.cV) (.pr (.cV) (.d (.pair ti .unit) ki)))]++bC 6 ([dH (.vec 86 fV Qh),[],[],dH (.vec 79 iV aaB)]++bC 62 []))⟩) (λx=>(.exit 2,⟨([bA,eG 1,eG 2]++aP 72 []),[],([[],dH (.pr (nE 9 x.1) (.pr (nE 12 x.2.1) (.d (.pair ti .unit) x.2.2.1))),dH (.pr (.cV) (.pr (.cV) (.d (.pair ti .unit) x.2.2.2.1)))]++bC 6 ([dH (.vec 86 fV x.2.2.2.2.1),[],[],dH (.vec 79 iV x.2.2.2.2.2)]++bC 62 []))⟩))
def lG:Ls ac8 Jc Rp:=qv (λ(kv,lL,acZ,ac0,t51,t52,aaH,aaI,avo,sk,avq,aaC,n49)=>⟨([bA,eG 1,eG 2,bA,.d ti kv,nE 49 lL]++aP 32 ([.d ti acZ,.d ti ac0]++aP 11 ([.d ti t51,.d ti t52]++aP 22 []))),[],([[],dH (.pr (nE 9 aaH) (.pr (nE 12 aaI) (.d (.pair ti .unit) avo))),dH (.pr (.cV) (.pr (.cV) (.d (.pair ti .unit) sk)))]++bC 6 ([dH (.vec 86 fV avq),[],[],dH (.vec 79 iV aaC)]++bC 36 ([dH (.vec 98 kj n49)]++bC 25 [])))⟩) (λx=>(.exit 4,⟨([bA,eG 1,eG 2,bA,.d ti x.1.1,.d (.slice kj) x.2.1]++aP 32 ([.d ti x.1.2.1,.d ti x.1.2.2.1]++aP 35 [])),[],([[],dH (.pr (nE 9 x.1.2.2.2.1) (.pr (nE 12 x.1.2.2.2.2.1) (.d (.pair ti .unit) x.1.2.2.2.2.2.1))),dH (.pr (.cV) (.pr (.cV) (.d (.pair ti .unit) x.1.2.2.2.2.2.2.1)))]++bC 6 ([dH (.vec 86 fV x.1.2.2.2.2.2.2.2.1),[],[],dH (.vec 79 iV x.1.2.2.2.2.2.2.2.2)]++bC 36 ([[.obj 0 true (.vec 98 kj x.2.2)]]++bC 25 [])))⟩))
def lR:Fs Tryz.prog ar9 bm aii:=eI 90 Tryz.f90 (λt=>([.d eH t],[])) (λx=>⟨.pr (.bu (.new 0 0) 0 [] 0 0 x.1) (.d (.pair (.slice iV) (.pair ti .unit)) x.2.1),[],[.obj 0 false (.vec 86 fV x.2.2)]⟩) [some eH] [aPZ,aIj,aIm,ays,To] {bI:=[1],loops:=nD [(3,{aU:=[1,2,17,18],sites:=[1,2,9,12]}),(8,{aU:=[1,2,38,39],sites:=[1,2,9,12]}),(12,{aU:=[1,2,4,5,38,39,51,52],sites:=[1,2,9,12,49]})],outs:=nC [(3,{aU:=[1,2],sites:=[1,2,9,12]},{aU:=[2]}),(8,{aU:=[1,2],sites:=[1,2,9,12]},{aU:=[2]}),(12,{aU:=[1,2,4,5,38,39],sites:=[1,2,9,12,49],data:=[(5,(.slice kj))]},{aU:=[2]})],fu:=np [(3,lE.E),(8,lF.E),(12,lG.E)],MT:=[⟨2,[.snd,.fst],(.slice iV)⟩]}
theorem ac5:lE.RS:=rL [.d ti,.d ti,.n,.n,.d (.pair ti .unit),.d (.pair ti .unit),.d (.slice fV),.d (.slice iV)] lE
theorem Gw{R:Type}(t17 t18 aRF aaG n1 n2 n9 n12)(kn:K2 R)(kx:K3 R):lR.R 0 lE (t17,t18,aRF,aaG,n1,n2,n9,n12) kn kx=aG ((fP t18 t17)) (aG (ed t18 ((aRF:Nat):Int)) (aG (decide ((0+(ae t18)) < (ag n9))) (aG (decide ((((0+(ae t18))*36)+34)=(((0+((ae t18)*36))+33)+1))) (ak (O1.call (nth fV n9 (0+(ae t18))).2.1.2.1) λx1=>aG (ed t18 ((aRF:Nat):Int)) (aG (decide ((0+(ae t18)) < (ag n9))) (aG (decide ((((0+(ae t18))*36)+34)=(((0+((ae t18)*36))+33)+1))) (aG (decide ((0+(ae t18)) < (ag n9))) (kn (lE.st (t17,(bH .i64 t18 1),aRF,aaG,n1,n2,(fK n9 (0+(ae t18)) ((nth fV n9 (0+(ae t18))).1,(((nth fV n9 (0+(ae t18))).2.1.1,(x1,(nth fV n9 (0+(ae t18))).2.1.2.2)),(nth fV n9 (0+(ae t18))).2.2))),n12))) none) none) none) none) none) none) none) (lE.go kx ((aRF,aaG,n1,n2,n12),n9)):=by kernel_rfl
theorem ac7:lF.RS:=rL [.d ti,.d ti,.n,.n,.d (.pair ti .unit),.d (.pair ti .unit),.d (.slice fV),.d (.slice iV)] lF
theorem Gx{R:Type}(t38 t39 apO ahg aK4 ki Qh aaB)(kn:K2 R)(kx:K3 R):lR.R 1 lF (t38,t39,apO,ahg,aK4,ki,Qh,aaB) kn kx=aG ((fP t39 t38)) (aG (ed t39 ((ahg:Nat):Int)) (aG (decide ((0+(ae t39)) < (ag aaB))) (aG (decide ((((0+(ae t39))*2)+1)=(((0+((ae t39)*2))+1)+0))) (ak (ael.call (nth iV aaB (0+(ae t39))).2.1.1) λx1=>ak (lG.call (t39,x1.1,t38,t39,((x1.1:Nat):Int),0,apO,ahg,aK4,ki,Qh,aaB,x1.2)) λx2=>aG (ed x2.1.1 ((x2.1.2.2.2.2.1:Nat):Int)) (aG (decide ((0+(ae x2.1.1)) < (ag x2.1.2.2.2.2.2.2.2.2))) (aG (decide ((((0+(ae x2.1.1))*2)+1)=(((0+((ae x2.1.1)*2))+1)+0))) (aG (decide ((0+(ae x2.1.1)) < (ag x2.1.2.2.2.2.2.2.2.2))) (kn (lF.st (x2.1.2.1,(bH .i64 x2.1.2.2.1 1),x2.1.2.2.2.1,x2.1.2.2.2.2.1,x2.1.2.2.2.2.2.1,x2.1.2.2.2.2.2.2.1,x2.1.2.2.2.2.2.2.2.1,(fK x2.1.2.2.2.2.2.2.2.2 (0+(ae x2.1.1)) ((nth iV x2.1.2.2.2.2.2.2.2.2 (0+(ae x2.1.1))).1,((x2.2.1,(nth iV x2.1.2.2.2.2.2.2.2.2 (0+(ae x2.1.1))).2.1.2),(nth iV x2.1.2.2.2.2.2.2.2.2 (0+(ae x2.1.1))).2.2)))))) none) none) none) none) none) none) none) (lF.go kx (apO,ahg,aK4,ki,Qh,aaB)):=by kernel_rfl
theorem ac9:lG.RS:=rL [.d ti,.n,.d ti,.d ti,.d ti,.d ti,.n,.n,.d (.pair ti .unit),.d (.pair ti .unit),.d (.slice fV),.d (.slice iV),.d (.slice kj)] lG
theorem Gy{R:Type}(kv lL acZ ac0 t51 t52 aaH aaI avo sk avq aaC n49)(kn:K2 R)(kx:K3 R):lR.R 2 lG (kv,lL,acZ,ac0,t51,t52,aaH,aaI,avo,sk,avq,aaC,n49) kn kx=aG ((fP t52 t51)) (aG (ed t52 ((lL:Nat):Int)) (aG (decide ((0+(ae t52)) < (ag n49))) (aG (decide ((((0+(ae t52))*4)+0)=((0+((ae t52)*4))+0))) (ak (AM.call (nth kj n49 (0+(ae t52))).1) λx1=>aG (ed t52 ((lL:Nat):Int)) (aG (decide ((0+(ae t52)) < (ag n49))) (aG (decide ((((0+(ae t52))*4)+0)=((0+((ae t52)*4))+0))) (aG (decide ((0+(ae t52)) < (ag n49))) (kn (lG.st (kv,lL,acZ,ac0,t51,(bH .i64 t52 1),aaH,aaI,avo,sk,avq,aaC,(fK n49 (0+(ae t52)) (x1,(nth kj n49 (0+(ae t52))).2))))) none) none) none) none) none) none) none) (aG (decide (0=0/\(0+lL)<=(ag n49))) (lG.go kx ((kv,acZ,ac0,aaH,aaI,avo,sk,avq,aaC),((cut n49 0 lL),n49))) none):=by kernel_rfl
theorem axi{R:Type}(t)(k:K1 R):lR.A t k=ak (aje.call t.1) λx1=>ak (O0.call t.2.1) λx2=>ak (lE.call (((x1.1:Nat):Int),0,x1.1,x2.1,t.2.2,(0,()),x1.2,x2.2)) λx4=>ak (lF.call (((x4.1.2.1:Nat):Int),0,x4.1.1,x4.1.2.1,x4.1.2.2.1,x4.1.2.2.2.1,x4.2,x4.1.2.2.2.2)) λx8=>aG (decide (0=0/\(0+x8.2.1)<=(ag x8.2.2.2.2.2))) (k (lR.out (x8.1,((cut x8.2.2.2.2.2 0 x8.2.1),x8.2.2.1),x8.2.2.2.2.1))) none:=by kernel_rfl
theorem afq:(lR.jP 0 lE):=by
 refine(lR.lk 0 lE) (λ(m,i,L,L2,u,v,l,os)=>l.length - ae i) ?_
 rintro⟨m,i,L,L2,u,v,l,os⟩ ⟨⟨hlen,hx⟩,k,hk,rfl,rfl,rfl⟩;have hlen:l.length<=1000:=hlen;have hk:k<=l.length:=hk;by_cases h:k < l.length
 ·left;have n1:nth fV l k=l[k]:=bV (t:=fV) h;have hs:l.set k l[k]=l:=gj h;have e:=hx _ (aM h);refine⟨((l.length:Int),((k+1:Nat):Int),l.length,L2,u,v,l,os),⟨⟨hlen,hx⟩,k+1,by omega,rfl,rfl,rfl⟩,by simp only[aa];omega,rfl,λkn kx=> ?_⟩;rw[Gw,aT (by omega),bf (by omega) (by omega)];simp only[aa,aJ,cd,eK,Nat.reduceAdd,aj,aH h,cn,n1];rw[aBH (d:=l[k].2.1.2.1) e];simp only[ah,bm,ajh];rw[N.mq (by omega)];exact bl (λz=>kn (lE.st (_,_,_,_,_,_,z,_))) hs
 ·right;obtain rfl:k=l.length:=by omega
  intro R kn kx;rw[Gw,aO (by omega),al];rfl
theorem afs:(lR.jP 2 lG):=by
 refine(lR.lk 2 lG) (λ(kv,L,m1,i1,m,i,L5,L6,u,v,ls,os,bs)=>bs.length - ae i) ?_
 rintro⟨kv,L,m1,i1,m,i,L5,L6,u,v,ls,os,bs⟩ ⟨⟨hlen,hx⟩,k,hk,rfl,rfl,rfl⟩;have hlen:bs.length<=1000:=hlen;have hk:k<=bs.length:=hk;by_cases h:k < bs.length
 ·left;have n1:nth kj bs k=bs[k]:=bV (t:=kj) h;have hs:bs.set k bs[k]=bs:=gj h;have e:=hx _ (aM h);refine⟨(kv,bs.length,m1,i1,(bs.length:Int),((k+1:Nat):Int),L5,L6,u,v,ls,os,bs),⟨⟨hlen,hx⟩,k+1,by omega,rfl,rfl,rfl⟩,by simp only[aa];omega,rfl,λkn kx=> ?_⟩;rw[Gy,aT (by omega),bf (by omega) (by omega)];simp only[aa,aJ,cd,eK,Nat.reduceAdd,aj,aH h,cn,n1];rw[NH (d:=bs[k].1) e];simp only[ah,bm,Qr];rw[N.mq (by omega)];exact bl (λz=>kn (lG.st (_,_,_,_,_,_,_,_,_,_,_,_,z))) hs
 ·right;obtain rfl:k=bs.length:=by omega
  intro R kn kx;rw[Gy,aO (by omega),al];simp only[aJ,aw,iR,cn,aj,eP];rfl
theorem afr:(lR.jP 1 lF):=by
 refine(lR.lk 1 lF) (λ(m,i,L3,L,u,v,ls,os)=>os.length - ae i) ?_
 rintro⟨m,i,L3,L,u,v,ls,os⟩ ⟨⟨hlen,hx⟩,k,hk,rfl,rfl,rfl⟩;have hlen:os.length<=1000:=hlen;have hk:k<=os.length:=hk;by_cases h:k < os.length
 ·left;have n1:nth iV os k=os[k]:=bV (t:=iV) h;have hs:os.set k os[k]=os:=gj h;have e:=hx _ (aM h);refine⟨((os.length:Int),((k+1:Nat):Int),L3,os.length,u,v,ls,os),⟨⟨hlen,hx⟩,k+1,by omega,rfl,rfl,rfl⟩,by simp only[aa];omega,rfl,λkn kx=> ?_⟩;rw[Gx,aT (by omega),bf (by omega) (by omega)];simp only[aa,aJ,cd,eK,Nat.reduceAdd,aj,aH h,cn,n1];rw[anI (d:=os[k].2.1.1) (by show os[k].2.1.1.length<=_;have:=e.1;omega)];simp only[ah,bm,ajd];rw[ac9 (d:=((k:Int),os[k].2.1.1.length,(os.length:Int),(k:Int),(os[k].2.1.1.length:Int),0,L3,os.length,u,v,ls,os,os[k].2.1.1)) ⟨e,0,aL _,rfl,rfl,rfl⟩];simp only[ah,Jc,Rp,aa,n1,aj,aH h,bf (show(0:Int)<=(k:Int) by omega) (show(k:Int) < (os.length:Int) by omega)];rw[N.mq (by omega)];exact bl (λz=>kn (lF.st (_,_,_,_,_,_,_,z))) hs
 ·right;obtain rfl:k=os.length:=by omega
  intro R kn kx;rw[Gx,aO (by omega),al];rfl
theorem Th{l:Lk}(h:km l=true):l.1.length<=4/\∀b∈l.1,b.1.length<=12:=by unfold km at h;simp only[aq,dd,ba]at h;refine⟨h.2.2,λb hb=> ?_⟩;have:=h.1 b hb;unfold uP at this;simp only[aq,ba]at this;exact this.1
theorem axj:lR.Ok:=by
 rintro⟨is,os,nt,u⟩ iT;obtain⟨⟨_,a2,a3,_⟩,b1,b2⟩:=jt iT;have a2:is.length<=64:=a2;have a3:os.length<=64:=a3;rw[axi,aIc (d:=is) (by show is.length<=_;omega),aBF (d:=os) (by show os.length<=_;omega)];simp only[ah,bm,at8,bm,ajg];rw[ac5 (d:=(is.length,0,is.length,os.length,(nt,u),(0,()),is,os)) ⟨⟨by show is.length<=_;omega,λx hx=>by have:=(Aw (lZ _ _ b1 x hx)).2.2.2.2;omega⟩,0,aL _,rfl,rfl,rfl⟩];simp only[ah,Jb,Rk];rw[ac7 (d:=(os.length,0,is.length,os.length,(nt,u),(0,()),is,os)) ⟨⟨by show os.length<=_;omega,λx hx=>by
  have:=Th (jY _ _ b2 x hx).2;exact⟨by omega,λb hb=>by have:=this.2 b hb;omega⟩⟩,0,aL _,rfl,rfl,rfl⟩]
 simp only[ah,bm,Ro,aJ,aw,iR,cn,aj,eP];rfl
theorem asa:lR.RS:=rE [.d eH] lR
def axk:=lR.eN axj 3 ⟨.fm afq,⟨.fm afr,⟨.fm afs,trivial⟩⟩⟩
theorem Qv(x:Int)(m:Int):∀k:Nat,(x%m)^k%m=x^k%m
 | 0=>by rw[kC,kC]
 |k+1=>by rw[fC,fC,jk,Qv x m k,gB _ (pD m),<-jk]
theorem aW5(a:Int)(k:Nat):(a*a)^k=a^(2*k):=by rw[Int.pow_mul,fC,fC,kC,Int.one_mul]
theorem aLU:∀(f:Nat) (a:Int) (n:Nat) (out:Int),n < 2^f->Pn out->amy f a n out=out*a^n%4611686018427377339
 | 0,a,n,out,h,ho=>by
  obtain rfl:n=0:=by omega
  rw[AQ,kC,wP,eU ho.1 ho.2]
 |f+1,a,n,out,h,ho=>by
  have e:(2:Nat)^(f+1)=2^f*2:=Nat.pow_succ 2 f;rw[amy];split
  ·rename_i h0;subst h0;rw[kC,wP,eU ho.1 ho.2]
  ·have hp:Pn (if n%2=1 then oW out a else out):=by
    split
    ·exact we _ _
    ·exact ho
   rw[aLU f _ _ _ (by omega) hp,jk];have e1:(oW a a)^(n / 2)%4611686018427377339=a^(2*(n / 2))%4611686018427377339:=by unfold oW;rw[Qv,aW5]
   have e2:(if n%2=1 then oW out a else out)%4611686018427377339=(out*a^(n%2))%4611686018427377339:=by
    split
    ·rename_i h1;rw[h1,fC,kC,Int.one_mul];exact gB _ (pD _)
    ·have h1:n%2=0:=by omega
     rw[h1,kC,wP]
   rw[e1,e2,<-jk,qI,<-Int.pow_add];have e3:n%2+2*(n / 2)=n:=by omega
   rw[e3]
theorem abo(a:Int)(n:Nat)(h:n < 18446744073709551616):pw a n=a^n%4611686018427377339:=by unfold pw;rw[aLU 64 a n 1 h ⟨by omega,by omega⟩,Int.one_mul]
theorem one_pow(k:Nat):(1:Int)^k=1:=Int.one_pow
theorem aLW(a:Int)(k q:Nat)(hk:k < 18446744073709551616)(hq:q < 18446744073709551616)(h:pw a q=1):pw (pw a k) q=1:=by rw[abo _ _ hq]at h;rw[abo _ _ hq,abo _ _ hk,Qv,<-Int.pow_mul,pN,Int.pow_mul,<-Qv,h,one_pow];rfl
theorem agK:pw 4 2305843009213688669=1:=by decide+kernel
theorem aDB:pw 1 2305843009213688669=1:=by decide+kernel
theorem aRg:uV 4=true:=by rw[uV,agK];rfl
theorem PR:uV 1=true:=by rw[uV,aDB];rfl
theorem aRM:apR 1=1:=by
 have e:pw 1 2305843009213688668=1:=by decide+kernel
 rw[apR,tk,PR];exact e
theorem akT{a:Int}(h:Pn a)(q:Nat)(hq:0 < q)(SU:q < 18446744073709551616)(hp:pw a q=1):0 < a:=by
 rcases Int.lt_or_eq_of_le h.1 with h0 | h0
 ·exact h0
 ·subst h0;rw[abo _ _ SU,Int.zero_pow (by omega)]at hp;cases hp
theorem aV8{a:Int}(h:Pn a)(hp:pw a 2305843009213688669=1):uV a=true:=by have h0:=akT h 2305843009213688669 (by decide) (by decide) hp;rw[uV,hp,gq ⟨h0,h.2⟩];rfl
theorem aCT{a:Int}(h:uV a=true):pw a 2305843009213688669=1/\Pn a:=by rw[uV,aq,ba,ba]at h;exact⟨h.2,by omega,h.1.2⟩
theorem aV9{a:Int}(h:uV a=true)(k:Nat)(hk:k < 18446744073709551616):uV (pw a k)=true:=
 aV8 (aqz _ _) (aLW a k _ hk (by decide) (aCT h).1)
theorem aWa(a:Int):uV (tk a)=true:=by
 unfold tk;cases h:uV a
 ·exact PR
 ·exact h
theorem aCU(p k:Int):uV (Fu p k)=true:=aV9 (aWa p) _ (by omega)
theorem ade{a:Int}(h:uV a=true):tk a=a:=by rw[tk,h];rfl
theorem Z9(k:Int):uV (fQ k)=true:=aCU 4 k
theorem apM{a:Int}(h:Pn a):oW a 1=a:=by rw[oW,wP,eU h.1 h.2]
def pm(m:Nat):Nat->Nat->Nat->Nat->Nat
 | 0,_,_,out=>out%m
 |f+1,a,n,out=>if n=0 then out%m else pm m f (a*a%m) (n / 2) (if n%2=1 then out*a%m else out)
theorem aUk(m:Nat):∀(f a n out:Nat),n < 2^f->pm m f a n out=out*a^n%m
 | 0,a,n,out,h=>by
  obtain rfl:n=0:=by omega
  rw[pm,Nat.pow_zero,gD]
 |f+1,a,n,out,h=>by
  have e:(2:Nat)^(f+1)=2^f*2:=Nat.pow_succ (n:=2) (m:=f);rw[pm];split
  ·rename_i h0;subst h0;rw[Nat.pow_zero,gD]
  ·rw[aUk m f _ _ _ (by omega),kE];have e1:(a*a%m)^(n / 2)%m=a^(2*(n / 2))%m:=by rw[<-Nat.pow_mod,Nat.pow_mul,Nat.pow_two]
   have e2:(if n%2=1 then out*a%m else out)%m=(out*a^(n%2))%m:=by
    split
    ·rename_i h1;rw[h1,Nat.pow_one,Nat.mod_mod]
    ·have h1:n%2=0:=by omega
     rw[h1,Nat.pow_zero,gD]
   rw[e1,e2,<-kE,Nat.mul_assoc,<-oq];have e3:n%2+2*(n / 2)=n:=by omega
   rw[e3]
theorem aJM:∀(r q:Nat) (f:Nat->Nat),(∀i,i < q->f i < r)->(∀i j,i < j->j < q->f i≠f j)->q<=r
 | 0,q,f,h,_=>by
  rcases iF q with h0 | h0
  ·omega
  ·exact absurd (h 0 h0) (Nat.not_lt_zero _)
 |r+1,q,f,h,g=>by
  by_cases hx:∃i,i < q/\f i=r
  ·obtain⟨i,hi,hr⟩:=hx;have e:=aJM r (q - 1) (λj=>if j < i then f j else f (j+1)) (λj hj=>by
    by_cases h1:j < i
    ·have a:=h j (by omega);have b:=g j i h1 hi;simp only[h1,bG];omega
    ·have a:=h (j+1) (by omega);have b:=g i (j+1) (by omega) (by omega);simp only[h1,bp];omega) (λj k bdP hk=>by
    by_cases h1:j < i
    ·by_cases h2:k < i
     ·simp only[h1,h2,bG];exact g j k bdP (by omega)
     ·simp only[h1,h2,bG,bp];exact g j (k+1) (by omega) (by omega)
    ·have h2:¬k < i:=by omega
     simp only[h1,h2,bp];exact g (j+1) (k+1) (by omega) (by omega))
   omega
  ·have e:=aJM r q f (λi hi=>by
    have a:=h i hi;have b:f i≠r:=λx=>hx ⟨i,hi,x⟩
    omega) g
   omega
theorem azB(a m:Nat)(h1:1%m=1):∀i j:Nat,a^i%m=1->a^j%m=1->a^(Nat.gcd i j)%m=1:=by
 intro i
 induction i using Nat.strongRecOn with
 |ind i ih=>
  intro j hi hj;rcases iF i with h0 | h0
  ·subst h0;rw[Nat.gcd_zero_left];exact hj
  ·rw[Nat.gcd_rec];refine ih (j%i) (Nat.mod_lt _ h0) i ?_ hi
   have e:a^j=(a^i)^(j / i)*a^(j%i):=by rw[<-Nat.pow_mul,<-oq,Nat.div_add_mod]
   rw[e,kE,Nat.pow_mod,hi,Nat.one_pow,h1,ij,Nat.mod_mod]at hj;exact hj
def aGA(n:Nat):Prop:=∀d,d∣n->d=1\/d=n
theorem azC{n k:Nat}(h:aGA n)(h0:0 < k)(hk:k < n):Nat.gcd k n=1:=by
 rcases h _ (Nat.gcd_dvd_right k n) with h1 | h1
 ·exact h1
 ·have:=Nat.le_of_dvd h0 (Nat.gcd_dvd_left k n);omega
theorem apU{n:Nat}(hn:1 < n)(h:∀r,1 < r->r*r<=n->¬r∣n):aGA n:=by
 intro d hd;obtain⟨e,he⟩:=hd;have aZZ:0 < d:=Nat.pos_of_ne_zero (by intro x;rw[x,mK]at he;omega);have ajY:0 < e:=Nat.pos_of_ne_zero (by intro x;rw[x,Nat.mul_zero]at he;omega);by_cases h1:d=1
 ·exact .inl h1
 by_cases h2:e=1
 ·right;rw[he,h2,gD]
 exfalso;rcases Nat.le_total d e with hle | hle
 ·exact h d (by omega) (by rw[he];exact Nat.mul_le_mul_left d hle) ⟨e,he⟩
 ·exact h e (by omega) (by rw[he];exact cO e hle) ⟨d,by rw[he,pN]⟩
theorem aWK{n q b:Nat}(hn:1 < n)(hq:aGA q)(aXN:1 < q)(bbp:n < q*q)(hb:b^q%n=1)(hg:Nat.gcd (b - 1) n=1)(aZY:0 < b):aGA n:=by
 refine apU hn λr hr bd8 aj4=> ?_
 have bcB:1%r=1:=jJ hr;have bcF:b^q%r=1:=by have:=Nat.mod_mod_of_dvd (b^q) aj4;rw[<-this,hb,bcB]
 have gg:b%r≠1:=by
  intro hx;have hd:r∣b - 1:=by have e:=Nat.dvd_sub_mod (n:=r) b;rw[hx]at e;exact e
  have:=Nat.dvd_gcd hd aj4;rw[hg]at this;have:=Nat.le_of_dvd (by omega) this;omega
 have key:q<=r:=by
  refine aJM r q (λi=>b^i%r) (λi _=>Nat.mod_lt _ (by omega)) λi j aZ6 hj he=> ?_
  have e1:b^(j - i)%r=1:=by
   have x1:b^(q - i)*b^i%r=b^(q - i)*b^j%r:=by rw[kE,he,<-kE]
   rw[<-oq,<-oq,show q - i+i=q by omega,show q - i+j=q+(j - i) by omega,oq,kE,bcF,ij,Nat.mod_mod]at x1;exact x1.symm
  have e2:=azB b r bcB (j - i) q e1 bcF;rw[azC hq (by omega) (by omega),Nat.pow_one]at e2;exact gg e2
 have:q*q<=r*r:=Nat.mul_le_mul key key;omega
def aLd(n:Nat):Nat->Bool
 | 0=>true
 |k+1=>n%(k+2) !=0 && aLd n k
theorem apT(n:Nat):∀k,aLd n k=true->∀d,1 < d->d<=k+1->¬d∣n
 | 0,_,d,h1,h2=>by omega
 |k+1,h,d,h1,h2=>by
  rw[aLd,aq]at h;by_cases hd:d=k+2
  ·intro hx;have:=Nat.mod_eq_zero_of_dvd hx;rw[hd]at this;rw[this]at h;exact absurd h.1 (by decide)
  ·exact apT n k h.2 d h1 (by omega)
theorem bbU:aGA 7930907:=by
 refine apU (by decide) λr hr bd8=>apT 7930907 2820 (by decide+kernel) r hr ?_
 apply Nat.le_of_not_lt;intro h;have:2822*2822<=r*r:=Nat.mul_le_mul (by omega) (by omega);omega
theorem Qw{n q:Nat}(a e:Nat)(hq:aGA q)(aXN:1 < q)(hn:1 < n)(bbp:n < q*q)(he:e < 2^64)(SU:q < 2^64)(h1:pm n 64 (pm n 64 a e 1) q 1=1)(h2:Nat.gcd (pm n 64 a e 1 - 1) n=1)(h3:0 < pm n 64 a e 1):aGA n:=by generalize pm n 64 a e 1=b at*;rw[aUk _ _ _ _ _ SU,ij]at h1;exact aWK hn hq aXN bbp h1 h2 h3
theorem bbT:aGA 11864636873:=Qw (q:=7930907) 2 1496 bbU (by decide) (by decide) (by decide) (by decide) (by decide) (by decide+kernel) (by decide+kernel) (by decide+kernel)
theorem bbS:aGA 1732236983459:=Qw (q:=11864636873) 2 146 bbT (by decide) (by decide) (by decide) (by decide) (by decide) (by decide+kernel) (by decide+kernel) (by decide+kernel)
theorem bbR:aGA 249442125618097:=Qw (q:=1732236983459) 2 144 bbS (by decide) (by decide) (by decide) (by decide) (by decide) (by decide+kernel) (by decide+kernel) (by decide+kernel)
theorem bbV:aGA 2305843009213688669:=Qw (q:=249442125618097) 2 9244 bbR (by decide) (by decide) (by decide) (by decide) (by decide) (by decide+kernel) (by decide+kernel) (by decide+kernel)
def gP(n:Nat):Int:=((4^n%4611686018427377339:Nat):Int)
theorem aeO(a m q:Nat)(h1:1%m=1)(h:a^q%m=1)(n:Nat):a^(n%q)%m=a^n%m:=by
 have e:a^n=(a^q)^(n / q)*a^(n%q):=by rw[<-Nat.pow_mul,<-oq,Nat.div_add_mod]
 rw[e,kE,Nat.pow_mod (a^q),h,Nat.one_pow,h1,ij,Nat.mod_mod]
theorem aTL:∀q:Nat,q=2305843009213688669->4^q%4611686018427377339=1:=by
 intro q hq;have h:=agK;rw[abo _ _ (by decide)]at h;rw[<-hq]at h;have e:(((4^q%4611686018427377339:Nat)):Int)=1:=by rw[pF,kr];exact h
 omega
theorem ajT(n:Nat):gP (n%2305843009213688669)=gP n:=by unfold gP;obtain⟨q,hq⟩:∃q:Nat,q=2305843009213688669:=⟨_,rfl⟩;rw[<-hq,aeO 4 4611686018427377339 q (by decide) (aTL q hq)]
theorem aYq(n:Nat)(h:n < 18446744073709551616):pw 4 n=gP n:=by rw[abo _ _ h];unfold gP;rw[pF,kr];rfl
theorem aJA(k:Int)(h:0<=k):(k%2305843009213688669).toNat=k.toNat%2305843009213688669:=by omega
theorem Xx(k:Int)(h:0<=k):fQ k=gP k.toNat:=by show pw (tk 4) _=_;rw[ade aRg,aYq _ (by omega),aJA k h,ajT]
theorem aQH(n:Nat):gP n=fQ n:=by rw[Xx _ (by omega),aa]
theorem ZJ(n:Nat):uV (gP n)=true:=by rw[aQH];exact Z9 _
theorem auG(a b:Nat):oW (gP a) (gP b)=gP (a+b):=by unfold oW gP;rw[<-kq,oq];have e:(4611686018427377339:Int)=((4611686018427377339:Nat):Int):=rfl;rw[e,<-pF,<-kE]
theorem aJB(a:Nat)(c:Int)(h:0<=c):Fu (gP a) c=gP (a*c.toNat):=by
 show pw (tk (gP a)) _=_;rw[ade (ZJ a),abo _ _ (by omega),aJA c h];obtain⟨b,hb⟩:∃b:Nat,b=c.toNat:=⟨_,rfl⟩;rw[<-hb];obtain⟨d,hd⟩:∃d:Nat,d=b%2305843009213688669:=⟨_,rfl⟩;have hx:gP (a*b)=gP (a*d):=by rw[<-ajT (a*b),<-ajT (a*d),kE a b,kE a d,hd,Nat.mod_mod]
 rw[hx,<-hd];unfold gP;have e:(4611686018427377339:Int)=((4611686018427377339:Nat):Int):=rfl;rw[e,<-kr,<-pF,<-Nat.pow_mod,<-Nat.pow_mul]
theorem ayS:gP 0=1:=by decide
theorem aYp{n:Nat}(h:0 < n)(hn:n < 2305843009213688669):gP n≠1:=by
 intro he;unfold gP at he;have he:4^n%4611686018427377339=1:=by omega
 obtain⟨q,hq⟩:∃q:Nat,q=2305843009213688669:=⟨_,rfl⟩;have e:=azB 4 4611686018427377339 (by decide) n q he (aTL q hq);rw[azC (by rw[hq];exact bbV) h (by omega)]at e;exact absurd e (by decide)
theorem aSS(k:Int)(m:List Int)(h0:0 < k)(hq:k < 2305843009213688669):z8 (fQ k) m 1 (mf k m)=true:=by
 obtain⟨kn,hk⟩:∃kn:Nat,kn=k.toNat:=⟨_,rfl⟩;have hb:fQ k=gP kn:=by rw[hk];exact Xx k (by omega)
 have hn:=ZH (aNA avr [iX k,m]);unfold mf aLe;rw[if_pos ⟨hq,by omega⟩];obtain⟨n,gg⟩:∃n,Pz (aNA avr [iX k,m])=n:=⟨_,rfl⟩;rw[gg]at hn ⊢;unfold aiH;have hr:Xv [fQ n,1]=gP n.toNat:=by show oW (oW 1 (tk (fQ n))) (tk 1)=_;rw[ade (Z9 n),ade PR,apM (we _ _),Xx n (by omega),<-ayS,auG,aJ]
 rw[hr,hb];have hc:=YN (gP n.toNat) (gP kn) m;obtain⟨c,aVD⟩:∃c,F6 (gP n.toNat) (gP kn) m=c:=⟨_,rfl⟩;rw[aVD]at hc ⊢;have ha:=ax0 n (akA c k);have h1:=hc.1;have h2:=ha.1;have h3:=ha.2;unfold z8;rw[if_neg (by
  intro h;rcases h with h | h | h | h | h
  ·exact aYp (by omega) (by omega) h
  ·rw[ZJ]at h;cases h
  ·rw[PR]at h;cases h
  ·have h:uV (gP n.toNat)=false:=h;rw[ZJ]at h;cases h
  ·exact h h3)]
 have e:fQ (as6 n (akA c k))=Xv [gP n.toNat,Fu (gP kn) c,apR 1]:=by
  show _=oW (oW (oW 1 (tk (gP n.toNat))) (tk (Fu (gP kn) c))) (tk (apR 1));rw[aRM,ade PR,apM (we _ _),ade (ZJ _),aJB _ _ h1,ade (ZJ _)];rw[show(oW 1 (gP n.toNat))=gP n.toNat by rw[<-ayS,auG,aJ]];rw[auG,Xx _ h2];have hx:(as6 n (akA c k)).toNat=(n.toNat+kn*c.toNat)%2305843009213688669:=by
   unfold as6 akA aLg;have g1:c%2305843009213688669=c:=eU h1 hc.2;have g2:k%2305843009213688669=k:=eU (by omega) hq;have g3:n%2305843009213688669=n:=eU (by omega) hn.2;rw[g1,g2,g3,gB _ (pD _)];have g4:((kn*c.toNat:Nat):Int)=c*k:=by rw[kq,hk,Int.toNat_of_nonneg (by omega),Int.toNat_of_nonneg h1,pE]
   have g5:0<=c*k:=by rw[<-g4];exact gA _
   obtain⟨z,hz⟩:∃z,c*k=z:=⟨_,rfl⟩;rw[hz]at g4 g5 ⊢;obtain⟨zn,bei⟩:∃zn,kn*c.toNat=zn:=⟨_,rfl⟩;rw[bei]at g4 ⊢;omega
  rw[hx,ajT]
 show decide (fQ (as6 n (akA c k))=Xv [gP n.toNat,Fu (gP kn) (F6 (gP n.toNat) (gP kn) m),apR 1])=true;rw[aVD];exact gq e
def HF{α:Type}(p:α->Bool):List α->Int->Int⊕Unit
 |[],_=> .inr ()
 |x::xs,i=>if p x then .inl i else HF p xs (i+1)
def ao2{α:Type}(p:α->Bool)(l:List α):Int:=match HF p l 0 with | .inl i=>i | .inr _=> -1
theorem ao3{α:Type}(p:α->Bool):∀(l:List α) (i:Int),0<=i->(match HF p l i with | .inl i=>decide (i>=0) | .inr _=>false)=l.any p
 |[],_,_=>rfl
 |x::l,i,h=>by
  rw[HF,lr];cases hp:p x
  ·simp only[bE,bp,lq];exact ao3 p l (i+1) (by omega)
  ·simp[h]
theorem ZV{α:Type}(p:α->Bool)(l:List α):BP (ao2 p l) 0=l.any p:=by
 have:=ao3 p l 0 (by omega);unfold ao2 BP;cases h:HF p l 0
 ·rw[h]at this;exact this
 ·rw[h]at this;rw[<-this];rfl
def Mp(k:Int):Bool:=decide (¬(k < 2305843009213688669/\k≠0))
def Fw(t:dM)(i br:Int)(ks:List Int):Bool:=gJ t && (decide (0<=i/\i < t.1.length/\0<=br/\br < 4/\ks.length<=12) && !(ks.any Mp))
def aNa(t:dM)(i br:Int)(ks:List Int)(sc:Int):dM×Int:=if Fw t i br ks then((t.1.set i.toNat ((nth fV t.1 i.toNat).1,(br,ks.map (λk=>mf k (nP t)),sc,()),()),t.2),0) else(([],[],0,()),1)
theorem FJ{t:dM}:Sm (nP t):=by
 unfold nP;split
 ·exact alz _ _
 ·exact⟨by rw[b8],λx hx=>by obtain rfl:=(rO.1 hx).2;exact⟨by decide,by decide⟩⟩
abbrev aAf:=Int
abbrev aTb:=Bool
def aFO:aAf->Prop:=λ_=>True
def aAg:aAf->aTb:=λk=>Mp k
def WO:Fs Tryz.prog aFO bm aAg:=eI 85 Tryz.f85 (λkv=>([.d tu kv],[])) (λx=>⟨.d .bool x,[],[]⟩) [some tu] [SR]
theorem aNU{R:Type}(kv)(k:K1 R):WO.A kv k=aG ((qO kv 0)) (k (WO.out true)) (ak (ET.call kv) λx1=>k (WO.out (!x1))):=by kernel_rfl
theorem aNV:WO.Ok:=by
 intro(k:Int) _;rw[aNU,M8 (d:=k) trivial];simp only[bm,aAg,Mp,ah,bm,Py];by_cases h:k=0
 ·rw[dj h,aj,aH (by omega)]
 ·rw[eM h,al];by_cases h2:k < 2305843009213688669
  ·rw[aT h2,aS (by omega)];rfl
  ·rw[aO h2,aH (by omega)];rfl
theorem aFP:WO.RS:=rE [.d tu] WO
def aNW:=WO.eN aNV
abbrev xl:=Bs×Int×Int
def nc:xl->AS:=λ(lN,t7,t8)=>⟨([.d tU lN,.fn 85 (.nil)]++aP 5 ([.d ti t7,.d ti t8]++aP 10 [])),[],(ab 19 [])⟩
abbrev alv:=Int
abbrev Ra:=Int
def nO:Ra->Exit×AS:=λx=>(.ret,⟨(aP 4 ([.d ti x]++aP 14 [])),[],(ab 19 [])⟩)
abbrev alw:=Unit
abbrev Rb:=Unit
def wF:Rb->Exit×AS:=λx=>(.exit 0,⟨(aP 19 []),[],(ab 19 [])⟩)
abbrev IW:=(Ra)⊕(Rb)
abbrev Ws:=(alv)⊕(alw)
def C5:IW->Out (Exit×AS):=λx=> .br x.isLeft (.get x.getLeft? λa=> .ok (nO a)) (.get x.getRight? λb=> .ok (wF b))
def jD:xl->Ws->IW:=λ(lN,t7,t8) y=>match y with | .inl y=> .inl y | .inr z=> .inr (z)
abbrev arP:=Bs
abbrev aNe:=Int
def wE:xl->Prop:=λ(l,n,i)=>(∀x∈l,True)/\l.length<=1000000000/\n=l.length/\∃k:Nat,k<=l.length/\i=k
def mH:xl->Ws:=λ(l,n,i)=>HF Mp (l.drop i.toNat) i
def awZ:arP->Prop:=λl=>(∀x∈l,True)/\l.length<=1000000000
def acI:arP->aNe:=λl=>ao2 Mp l
def Wr:=dA.fm nc wE jD mH C5
def IX:xl->Option IW:=gN Wr nc
def xG:Fs Tryz.prog awZ bm acI:=eI 132 Tryz.f132 (λsv=>([.d tU sv,.fn 85 (.nil)],[])) (λx=>⟨.d ti x,[],[]⟩) [some tU,none] [aNW] {loops:=nD [(2,{aU:=[0,1,7,8]})],outs:=nC [(2,{},{aU:=[4]})],fu:=np [(2,Wr)]}
def IV:= @eE Tryz.prog (kh xG.G) xG.an 0 Tryz.f132 0 _ nc
abbrev Q9:=lu Tryz.prog (kh xG.G) xG.an 0 Tryz.f132 0 nc wE jD mH C5
theorem afj:jd IX wE jD mH:=na (jK [.d tU,.d ti,.d ti] λ_=>by kernel_rfl)
theorem NV:oe @IV nc wE jD mH C5 Q9:=oB
theorem IY{R:Type}(lN:Bs)(t7:Int)(t8:Int)(kn:AS->Option R)(kx:Exit->AS->Option R):IV (lN,t7,t8) kn kx=aG ((fP t8 t7)) (aG (ed t8 (((ag lN):Nat):Int)) (ak (WO.call (nth tu lN (ae t8))) λx1=>aG (x1) (kx (nO t8).1 (nO t8).2) (kn (nc (lN,t7,(bH .i64 t8 (1:Int)))))) none) (kx (wF ()).1 (wF ()).2):=by kernel_rfl
theorem aE8{R:Type}(sv)(k:K1 R):xG.A sv k=ak (IX (sv,(sv.length:Int),0)) λx2=>aG (x2.isLeft) (ak (x2.getLeft?) λa3=>k (xG.out a3)) (ak (x2.getRight?) λb4=>k (xG.out (-1))):=by kernel_rfl
theorem alx:Q9:=by
 refine NV (λ(l,n,i)=>l.length - i.toNat) ?_
 rintro⟨l,n,i⟩ ⟨hl,hb,rfl,k,hk,rfl⟩;have hb:l.length<=1000000000:=hb;have hk:k<=l.length:=hk;by_cases h:k < l.length
 ·have hx:=hl _ (aM h);have n1:nth tu l k=l[k]:=bV (t:=tu) h;have hd:HF Mp (l.drop k) k=if Mp l[k] then .inl (k:Int) else HF Mp (l.drop (k+1)) ((k+1:Nat):Int):=by rw[ao h];rfl
  have step:∀ {R:Type} (kn:AS->Option R) (kx:Exit->AS->Option R),IV (l,(l.length:Int),(k:Int)) kn kx=aG (Mp l[k]) (kx (nO (k:Int)).1 (nO (k:Int)).2) (kn (nc (l,(l.length:Int),((k+1:Nat):Int)))):=by intro R kn kx;rw[IY,aT (by omega),bf (by omega) (by omega),aa,n1,aFP (d:=l[k]) hx,N.mq (by omega)];rfl
  cases hp:Mp l[k]
  ·left;refine⟨(l,l.length,((k+1:Nat):Int)),⟨hl,hb,rfl,k+1,by omega,rfl⟩,by simp only[aa];omega,?_,λkn kx=> ?_⟩
   ·simp only[jD,mH,aa,hd,hp,bE,bp]
   ·rw[step,hp,al]
  ·right;refine⟨nO (k:Int),?_,λkn kx=> ?_⟩
   ·simp only[jD,mH,aa,hd,hp,bG];rfl
   ·rw[step,hp,aj]
 ·right;obtain rfl:k=l.length:=by omega
  refine⟨wF (),?_,λkn kx=> ?_⟩
  ·simp only[jD,mH,aa,aK];rfl
  ·rw[IY,aO (by omega),al]
theorem aE9:xG.Ok:=by rintro l ⟨hl,hb⟩;rw[aE8,afj (d:=(l,l.length,0)) ⟨hl,hb,rfl,0,by omega,rfl⟩];simp only[ah,jD,mH,aY,aF,bm,acI,ao2];cases HF Mp l 0 <;> rfl
theorem aw0:xG.RS:=rE [.d tU] xG
def aFa:=xG.eN aE9 1 ⟨.fm alx,trivial⟩
abbrev Wp:=Bs
abbrev arI:=Bool
def afg:Wp->Prop:=λl=>(∀x∈l,True)/\l.length<=1000000000
def Wq:Wp->arI:=λl=>l.any Mp
def vE:Fs Tryz.prog afg bm Wq:=eI 88 Tryz.f88 (λsv=>([.d tU sv,.fn 85 (.nil)],[])) (λx=>⟨.d .bool x,[],[]⟩) [some tU,none] [aFa]
theorem alq{R:Type}(sv)(k:K1 R):vE.A sv k=ak (xG.call sv) λx1=>k (vE.out (BP x1 0)):=by kernel_rfl
theorem alr:vE.Ok:=by rintro l ⟨hl,hb⟩;rw[alq,aw0 (d:=l) ⟨hl,hb⟩];simp only[ah,bm,acI,ZV];rfl
theorem afh:vE.RS:=rE [.d tU] vE
def als:=vE.eN alr
abbrev Oc:=Int×Bs×Int×Int×dM×(Int×Unit)×Int×Nat×(Int×Unit)×Bs×(List Sg)
abbrev adu:=ad6×(List Sg)
abbrev axy:=(Int×dM×(Int×Unit))×(ad6×(List Sg))
def zw:Oc->adu->axy:=λ(Z8,t52,t53,t54,n5,n10,n13,GU,ahe,n14,aRH) y=>((Z8,n5,n10),y)
abbrev aAh:=dM×Int×Int×Bs×Int
abbrev aTc:=dM×Int
def al2:Oc->Prop:=λ(i0,l,n,i,t,e,br,L,sc,id,r)=>l.length<=1000/\(∀x∈l,nr x)/\Sm id/\∃k:Nat,k<=l.length/\i=k/\n=l.length/\L=r.length/\r.length<=1000+k
def FI:Oc->adu:=λ(i0,l,n,i,t,e,br,L,sc,id,r)=>((br,r++(l.drop i.toNat).map (λk=>mf k id),sc),r++(l.drop i.toNat).map (λk=>mf k id))
def aFQ:aAh->Prop:=λ(t,i,br,ks,sc)=>qt t/\(∀x∈ks,nr x)/\ks.length<=1000000000
def al1:aAh->aTc:=λ(t,i,br,ks,sc)=>aNa t i br ks sc
def uz:Ls al2 zw FI:=qv (λ(Z8,t52,t53,t54,n5,n10,n13,GU,ahe,n14,aRH)=>⟨([bA,.d ti Z8,bA,bA,bA,eG 5]++aP 4 ([eG 10,bA,bA,eG 13,eG 14]++aP 37 ([.d tU t52,.d ti t53,.d ti t54]++aP 21 []))),[],(bC 5 ([dH (.d eH n5)]++bC 4 ([dH (.pr (.cV) (.pr (.cV) (.d (.pair ti .unit) n10))),[],[],dH (.pr (.d ti n13) (.pr (nE 64 GU) (.d (.pair tu .unit) ahe))),dH (.d tH n14)]++bC 49 ([dH (.vec 143 zP aRH)]++bC 11 []))))⟩) (λx=>(.exit 0,⟨([bA,.d ti x.1.1,bA,bA,bA,eG 5]++aP 4 ([eG 10,bA,bA,eG 13]++aP 62 [])),[],(bC 5 ([dH (.d eH x.1.2.1)]++bC 4 ([dH (.pr (.cV) (.pr (.cV) (.d (.pair ti .unit) x.1.2.2))),[],[],dH (.d aFo x.2.1)]++bC 50 ([[.obj 0 true (.vec 143 zP x.2.2)]]++bC 11 []))))⟩))
def uX:Fs Tryz.prog aFQ bm al1:=eI 39 Tryz.f39 (λ(t,inv,branch,keys,secret)=>([.d eH t,.d ti inv,.d ti branch,.d tU keys,.d tu secret],[])) (λx=>⟨.cons (.d eH x.1) (.cons (.d ti x.2) (.nil)),[],[]⟩) [some eH,some ti,some ti,some tU,some tu] [s8,aAj,als,adb,aNt,axk] {bI:=[5],loops:=nD [(7,{aU:=[1,5,10,13,14,52,53,54],sites:=[5,10,13,14,64],owns:=[⟨13,[.snd,.fst],64,82⟩]})],outs:=nC [(7,{aU:=[1,5,10,13],sites:=[5,10,13,64],MT:=[⟨13,[.snd,.fst],(.slice zP)⟩]},{aU:=[10,11]})],fu:=np [(7,uz.E)],res:=[some eH,none]}
theorem al3:uz.RS:=rL [.d ti,.d tU,.d ti,.d ti,.d eH,.d (.pair ti .unit),.d ti,.n,.d (.pair tu .unit),.d tB,.d (.slice zP)] uz
theorem L1{R:Type}(Z8 t52 t53 t54 n5 n10 n13 GU ahe n14 aRH)(kn:K2 R)(kx:K3 R):uX.R 0 uz (Z8,t52,t53,t54,n5,n10,n13,GU,ahe,n14,aRH) kn kx=aG ((fP t54 t53)) (aG (ed t54 (t52.length:Int)) (ak (Wv.call ((nth tu t52 (ae t54)),n14)) λx4=>aG (decide (GU<=(ag aRH))) (aG (cT (GU+1) 16) (kn (uz.st (Z8,t52,t53,(bH .i64 t54 1),n5,n10,n13,(GU+1),ahe,n14,((aQ GU aRH)++ [x4])))) none) none) none) (aG (decide (0=0/\(0+GU)<=(ag aRH))) (uz.go kx ((Z8,n5,n10),((n13,((cut aRH 0 GU),ahe)),aRH))) none):=by kernel_rfl
theorem aNX{R:Type}(t inv branch keys secret)(k:K1 R):uX.A (t,inv,branch,keys,secret) k=ak (iu.call t) λasN=>aG ((!asN)) (k (uX.out ((([]:List gC),(([]:List gR),(0,()))),1))) (aG ((fP inv 0)) (k (uX.out ((([]:List gC),(([]:List gR),(0,()))),1))) (aG ((BP inv (t.1.length:Int))) (k (uX.out ((([]:List gC),(([]:List gR),(0,()))),1))) (ak (afB.call (branch,(([]:List Sg),(secret,())))) λaAy=>aG ((!aAy)) (k (uX.out ((([]:List gC),(([]:List gR),(0,()))),1))) (aG ((w5 (keys.length:Int) 12)) (k (uX.out ((([]:List gC),(([]:List gR),(0,()))),1))) (ak (vE.call keys) λaTy=>aG (aTy) (k (uX.out ((([]:List gC),(([]:List gR),(0,()))),1))) (ak (tid.call t) λFV=>ak (uz.call (inv,keys,(keys.length:Int),0,t,(0,()),branch,0,(secret,()),FV,([]:List Sg))) λad1=>ak (lR.call ad1.1.2.1) λaix=>aG (ed ad1.1.1 ((aix.1:Nat):Int)) (aG (decide ((0+(ae ad1.1.1)) < (ag aix.2.2))) (aG (decide ((((0+(ae ad1.1.1))*36)+33)=((0+((ae ad1.1.1)*36))+33))) (aG (decide ((0+(ae ad1.1.1)) < (ag aix.2.2))) (aG (decide (0=0/\(0+aix.1)<=(ag (fK aix.2.2 (0+(ae ad1.1.1)) ((nth fV aix.2.2 (0+(ae ad1.1.1))).1,(ad1.2.1,(nth fV aix.2.2 (0+(ae ad1.1.1))).2.2)))))) (k (uX.out (((cut (fK aix.2.2 (0+(ae ad1.1.1)) ((nth fV aix.2.2 (0+(ae ad1.1.1))).1,(ad1.2.1,(nth fV aix.2.2 (0+(ae ad1.1.1))).2.2))) 0 aix.1),aix.2.1),0))) none) none) none) none) none)))))):=by kernel_rfl
theorem asw:(uX.jP 0 uz):=by
 refine(uX.lk 0 uz) (λ(i0,l,n,i,t,e,br,L,sc,id,r)=>l.length - i.toNat) ?_
 rintro⟨i0,l,n,i,t,e,br,L,sc,id,r⟩ ⟨hlen,hu,hm,k,hk,rfl,rfl,rfl,hr⟩;have hlen:l.length<=1000:=hlen;have hk:k<=l.length:=hk;have hr:r.length<=1000+k:=hr;by_cases h:k < l.length
 ·left;have n1:nth tu l k=l[k]:=bV (t:=tu) h;have hd:bR k l=l[k]::bR (k+1) l:=ao h;refine⟨(i0,l,l.length,((k+1:Nat):Int),t,e,br,r.length+1,sc,id,r++ [mf l[k] id]),⟨hlen,hu,hm,k+1,by omega,rfl,rfl,by rw[ai];rfl,by rw[ai];show r.length+1<=_;omega⟩,by simp only[aa];omega,?_,λkn kx=> ?_⟩
  ·simp only[zw,FI,aa,hd,bT,aC,cS]
  ·rw[L1,aT (by omega),bf (by omega) (by omega),aa,n1,aFk (d:=(l[k],id)) ⟨hu _ (aM h),hm⟩];simp only[aj,ah,bm,alC];rw[aH (aw _),de (by omega) (by omega),N.mq (by omega),bJ];rfl
 ·right;obtain rfl:k=l.length:=by omega
  intro R kn kx;rw[L1,aO (by omega),al];simp only[zw,FI,aa,aK,gV,bj,aJ,aw,iR,cn,aj,eP]
theorem aNY:uX.Ok:=by
 rintro⟨⟨is,os,nt,u⟩,i,br,ks,sc⟩ ⟨hv,hu,hl⟩;have hv:qt (is,os,nt,u):=hv;have hl:ks.length<=1000000000:=hl;rw[aNX,py (d:=(is,os,nt,u)) hv.1];simp only[ah,bm,ra,bm,al1,aNa,Fw];rcases iJ (gJ (is,os,nt,u)) with iT | iT;rotate_left
 ·simp only[iT];rfl
 obtain⟨⟨_,a2,a3,_⟩,b1,b2⟩:=jt iT;have a2:is.length<=64:=a2;simp only[iT,ct,al,bN];by_cases h1:i < 0
 ·rw[aT h1,aj,aS (by omega)];rfl
 rw[aO h1,al];by_cases h2:i>=(is.length:Int)
 ·rw[fW h2,aj,aS (by omega)];rfl
 rw[eo h2,al,asA (d:=(br,([],(sc,())))) trivial];simp only[ah,bm,al6,Bh];by_cases h3:0<=br/\br < 4
 ·rw[aH h3];by_cases h4:ks.length > 12
  ·rw[df (by omega),aS (p:=0<=i/\i < (is.length:Int)/\0<=br/\br < 4/\ks.length<=12) (by omega)];rfl
  ·rw[cE (by omega),aH (p:=0<=i/\i < (is.length:Int)/\0<=br/\br < 4/\ks.length<=12) (by omega),afh (d:=ks) ⟨λ_ _=>trivial,hl⟩];simp only[ah,bm,Wq];rcases iJ (ks.any Mp) with hb | hb;rotate_left
   ·simp only[hb];obtain⟨k,rfl⟩:∃k:Nat,i=k:=⟨i.toNat,by omega⟩;have hk:k < is.length:=by omega
    simp only[show(([]:List Sg).length<=12)=True from eq_true (aL _),cn,vK,ct,eT,al,bN,bG];rw[Rr (d:=(is,os,nt,u)) hv];simp only[ah,bm,ada];rw[al3 (d:=((k:Int),ks,ks.length,0,(is,os,nt,u),(0,()),br,0,(sc,()),nP (is,os,nt,u),[])) ⟨by show ks.length<=_;omega,hu,FJ,0,aL _,rfl,rfl,rfl,aL _⟩];simp only[ah,zw,FI,aY,aF,aR];rw[asa (d:=(is,os,nt,u)) iT];simp only[ah,bm,aii,aa,aJ,cd,bf (show(0:Int)<=(k:Int) by omega) (show(k:Int) < (is.length:Int) by omega),aj,aH hk,cn,re,aw,iR];rw[eP (by rw[re])]
   ·simp only[hb];rfl
 ·rw[aS h3,aS (p:=0<=i/\i < (is.length:Int)/\0<=br/\br < 4/\ks.length<=12) (by omega)];rfl
theorem aFR:uX.RS:=rE [.d eH,.d ti,.d ti,.d tU,.d tu] uX
def aNZ:=uX.eN aNY 1 ⟨.fm asw,trivial⟩
abbrev eS:Ty:=(.pair iV (.pair ti .unit))
abbrev dS:=(gR×(Int×Unit))
abbrev aFn:Ty:=(.pair aV (.pair eS .unit))
abbrev X7:=(bw×(dS×Unit))
abbrev cC:Ty:=(.pair (.slice aFn) (.pair (.slice aV) .unit))
abbrev bW:=((List X7)×((List bw)×Unit))
abbrev aGX:=Bs×Bs
abbrev aUF:=Int
def aGZ:aGX->Prop:=λ_=>True
def aGY:aGX->aUF:=λ(a,b)=>aem a b
def atl:Fs Tryz.prog aGZ bm aGY:=eI 64 Tryz.f64 (λ(a,b)=>([.d tB a,.d tB b],[])) (λx=>⟨.d ti x,[],[]⟩) [some tB,some tB] [⟨108,lO,ax5,.of (aUE (fn:=Tryz.f108) (by kernel_rfl) (by kernel_rfl) (by kernel_rfl) (by kernel_rfl) (by kernel_rfl)) (by rfl)⟩]
theorem aPh{R:Type}(a b)(k:K1 R):atl.A (a,b) k=ak (amU (a,b)) λx1=>k (atl.out x1):=by kernel_rfl
theorem aPi:atl.Ok:=by rintro⟨a,b⟩ _;rw[aPh,ax6];rfl
theorem aG0:atl.RS:=rE [.d tB,.d tB] atl
def aPj:=atl.eN aPi
abbrev aJ3:=Int
abbrev aV5:=Bool
def aJ4:aJ3->Prop:=λ_=>True
def aj8:aJ3->aV5:=λ_=>false
def ao4:Fs Tryz.prog aJ4 bm aj8:=eI 109 Tryz.f109 (λx=>([.d ti x],[])) (λx=>⟨.d .bool x,[],[]⟩) [some ti]
theorem aQ6{R:Type}(x)(k:K1 R):ao4.A x k=k (ao4.out (BQ x x)):=by kernel_rfl
theorem aQ7:ao4.Ok:=by intro x _;rw[aQ6];simp only[bm,aj8,dx rfl]
theorem ao5:ao4.RS:=rE [.d ti] ao4
def aQ8:=ao4.eN aQ7
def anK(x y:Int):Int:=if x < y then -1 else if x > y then 1 else 0
abbrev aJY:=Int×Int
abbrev aV4:=Int
def aJZ:aJY->Prop:=λ_=>True
def auV:aJY->aV4:=λ(x,y)=>anK x y
def WZ:Fs Tryz.prog aJZ bm auV:=eI 65 Tryz.f65 (λ(x,yv)=>([.d ti x,.d ti yv],[])) (λx=>⟨.d ti x,[],[]⟩) [some ti,some ti] [aQ8]
theorem aQ0{R:Type}(x yv)(k:K1 R):WZ.A (x,yv) k=ak (ao4.call x) λx1=>ak (ao4.call yv) λx2=>aG (x1) (aG (x2) (k (WZ.out 0)) (k (WZ.out (-1)))) (aG (x2) (k (WZ.out 1)) (aG ((fP x yv)) (k (WZ.out (-1))) (aG ((w5 x yv)) (k (WZ.out 1)) (k (WZ.out 0))))):=by kernel_rfl
theorem aQ1:WZ.Ok:=by
 rintro⟨x,y⟩ _;rw[aQ0,ao5 (d:=x) trivial];simp only[ah,bm,aj8];rw[ao5 (d:=y) trivial];simp only[ah,bm,aj8,al,bm,auV,anK];by_cases h:x < y
 ·rw[aT h,aj,if_pos h]
 ·rw[aO h,al,if_neg h];by_cases h2:x > y
  ·rw[df h2,aj,if_pos h2]
  ·rw[cE h2,al,if_neg h2]
theorem aJ0:WZ.RS:=rE [.d ti,.d ti] WZ
def aQ2:=WZ.eN aQ1
abbrev Hn:=Int×(List Int)×Int×Int
def zL:Hn->AS:=λ(zero,t6,t7,t8)=>⟨([bA,bA,bA,.d ti zero,bA,bA,.d (.slice ti) t6,.d ti t7,.d ti t8]++aP 9 []),[],(ab 18 [])⟩
abbrev aBM:=Int
abbrev agt:=Int
def EA:agt->Exit×AS:=λx=>(.ret,⟨([bA,bA,.d ti x]++aP 15 []),[],(ab 18 [])⟩)
abbrev aBN:=Unit
abbrev agu:=Int
def EB:agu->Exit×AS:=λx=>(.exit 0,⟨([bA,bA,bA,.d ti x]++aP 14 []),[],(ab 18 [])⟩)
abbrev Y6:=(agt)⊕(agu)
abbrev anS:=(aBM)⊕(aBN)
def MI:Y6->Out (Exit×AS):=λx=> .br x.isLeft (.get x.getLeft? λa=> .ok (EA a)) (.get x.getRight? λb=> .ok (EB b))
def oE:Hn->anS->Y6:=λ(zero,t6,t7,t8) y=>match y with | .inl y=> .inl y | .inr z=> .inr (zero)
abbrev aTG:=(List Int)
abbrev aYg:=Int
def aXV:List Int->Int
 |[]=>0
 |x::l=>if x≠0 then x else aXV l
def aUh:List Int->Int⊕Unit
 |[]=> .inr ()
 |x::l=>if x≠0 then .inl x else aUh l
theorem aUi:∀l:List Int,aXV l=match aUh l with | .inl x=>x | .inr _=>0
 |[]=>rfl
 |x::l=>by
  simp only[aXV,aUh];split
  ·rfl
  ·exact aUi l
def Ez:Hn->Prop:=λ(z,l,n,i)=>z=0/\l.length<=1000000000/\n=l.length/\∃k:Nat,k<=l.length/\i=k
def wX:Hn->anS:=λ(z,l,n,i)=>aUh (l.drop i.toNat)
def aQd:aTG->Prop:=λl=>l.length<=1000000000
def aIx:aTG->aYg:=λl=>aXV l
def anQ:=dA.fm zL Ez oE wX MI
def UH:Hn->Option Y6:=gN anQ zL
def aGl:Fs Tryz.prog aQd bm aIx:=eI 63 Tryz.f63 (λiM=>([.d (.slice ti) iM],[])) (λx=>⟨.d ti x,[],[]⟩) [some (.slice ti)] [] {loops:=nD [(3,{aU:=[3,6,7,8]})],outs:=nC [(3,{aU:=[3]},{aU:=[2]})],fu:=np [(3,anQ)]}
def anR:= @eE Tryz.prog (kh aGl.G) aGl.an 0 Tryz.f63 0 _ zL
abbrev ags:=lu Tryz.prog (kh aGl.G) aGl.an 0 Tryz.f63 0 zL Ez oE wX MI
theorem auf:jd UH Ez oE wX:=na (jK [.d ti,.d (.slice ti),.d ti,.d ti] λ_=>by kernel_rfl)
theorem WU:oe @anR zL Ez oE wX MI ags:=oB
theorem Ho{R:Type}(zero:Int)(t6:(List Int))(t7:Int)(t8:Int)(kn:AS->Option R)(kx:Exit->AS->Option R):anR (zero,t6,t7,t8) kn kx=aG ((fP t8 t7)) (aG (ed t8 (((ag t6):Nat):Int)) (aG ((BQ (nth ti t6 (ae t8)) zero)) (kx (EA (nth ti t6 (ae t8))).1 (EA (nth ti t6 (ae t8))).2) (kn (zL (zero,t6,t7,(bH .i64 t8 (1:Int)))))) none) (kx (EB zero).1 (EB zero).2):=by kernel_rfl
theorem aU6{R:Type}(iM)(k:K1 R):aGl.A iM k=ak (UH (0,iM,(iM.length:Int),0)) λx1=>aG (x1.isLeft) (ak (x1.getLeft?) λa2=>k (aGl.out a2)) (ak (x1.getRight?) λb3=>k (aGl.out b3)):=by kernel_rfl
theorem aBO:ags:=by
 refine WU (λ(z,l,n,i)=>l.length - i.toNat) ?_
 rintro⟨z,l,n,i⟩ ⟨rfl,hl,rfl,k,hk,rfl⟩;by_cases h:k < l.length
 ·have hd:l.drop k=l[k]::l.drop (k+1):=ao h;have n1:nth ti l k=l[k]:=bV (t:=ti) h;by_cases h2:l[k]≠0
  ·right;refine⟨EA l[k],?_,λkn kx=> ?_⟩;rotate_left
   ·rw[Ho,aT (by omega),aj,bf (by omega) (by omega),aj,aa,n1,fa h2,aj]
   ·simp only[oE,wX,aa,hd,aUh,if_pos h2];rfl
  ·left;refine⟨(0,l,(l.length:Int),((k+1:Nat):Int)),⟨rfl,hl,rfl,k+1,by omega,rfl⟩,by simp only[aa];omega,?_,λkn kx=> ?_⟩
   ·simp only[oE,wX,aa,hd,aUh,if_neg h2]
   ·rw[Ho,aT (by omega),aj,bf (by omega) (by omega),aj,aa,n1,dx (by omega),al,N.mq (by omega)]
 ·right;obtain rfl:k=l.length:=by omega
  refine⟨EB 0,?_,λkn kx=> ?_⟩;rotate_left
  ·rw[Ho,aO (by omega),al]
  ·simp only[oE,wX,aa,aK,aUh];rfl
theorem aU7:aGl.Ok:=by intro l hl;rw[aU6,auf (d:=(0,l,(l.length:Int),0)) ⟨rfl,hl,rfl,0,aL _,rfl⟩];simp only[ah,oE,wX,aY,aF,bm,aIx];rw[aUi];cases aUh l <;> rfl
theorem aQe:aGl.RS:=rE [.d (.slice ti)] aGl
def aU8:=aGl.eN aU7 1 ⟨.fm aBO,trivial⟩
abbrev dU:Ty:=(.pair ti (.pair tH (.pair (.slice eH) (.pair ti (.pair (.slice aV) .unit)))))
abbrev dz:=(Int×(Bs×((List dM)×(Int×((List bw)×Unit)))))
theorem aYj(x y:List Int):Ty.beq tH x y=decide (x=y):=by
 by_cases h:x=y
 ·rw[h,gq rfl];exact beq_refl tH y rfl
 ·rw[je h];cases hb:Ty.beq tH x y with
  |false=>rfl
  |true=>exact absurd (beq_eq tH x y rfl hb) h
def aAz(o:bw):Prop:=o.1.length=32/\o.2.1<=9223372036854775807
def axU(b:dz):Prop:=(b.2.2.1.length<=1000/\∀t∈b.2.2.1,qt t)/\(b.1<=9223372036854775807/\b.2.1.length=32/\b.2.2.2.1<=9223372036854775807)/\b.2.2.2.2.1.length<=1000/\∀o∈b.2.2.2.2.1,aAz o
def asQ(n:Nat)(l:List dz):Prop:=n<=l.length/\n<=1000000/\∀b∈l,axU b
abbrev ai3:=Nat×Nat×(List (bw×dS))×(List bW)×(List dz)
abbrev ayk:=Unit
abbrev aPH:=Nat×Nat×(List (bw×dS))×(List bW)×(List dz)
def agc:ai3->ayk->aPH:=λ(o0baL,o1baL,o2,o3,o4) y=>(o0baL,o1baL,o2,o3,o4)
def aBt:ai3->Prop:=λ_=>True
def ayj:ai3->ayk:=λ_=>()
def YM:Fs Tryz.prog aBt agc ayj:=eI 70 Tryz.f70 (λ(o0baL,o1baL,o2,o3,o4)=>([.ptr (.bh 0) 0 [] 0],[.obj 0 false (.pr (.ptr (.bh 1) 0 [] 0) (.pr (.bu (.bh 4) 0 [] 0 0 o0baL) (.d .unit ()))),.obj 0 false (.pr (.cm (.bh 2) 0) (.pr (.bu (.bh 3) 0 [] 0 0 o1baL) (.d .unit ()))),.obj 0 false (.mp aV eS o2),.obj 0 false (.vec 256 cC o3),.obj 0 false (.vec 48 dU o4)])) (λx=>⟨.fn 117 (.cons (.ptr (.new 0 0) 0 [] 0) (.nil)),[.obj 0 false (.pr (.ptr (.bh 1) 0 [] 0) (.pr (.bu (.bh 4) 0 [] 0 0 x.1) (.d .unit ()))),.obj 0 false (.pr (.cm (.bh 2) 0) (.pr (.bu (.bh 3) 0 [] 0 0 x.2.1) (.d .unit ()))),.obj 0 false (.mp aV eS x.2.2.1),.obj 0 false (.vec 256 cC x.2.2.2.1),.obj 0 false (.vec 48 dU x.2.2.2.2)],[.obj 0 false (.ptr (.bh 0) 0 [] 0)]⟩) [none] [] {bI:=[1]}
theorem aHL{R:Type}(o0baL o1baL o2 o3 o4)(k:K1 R):YM.A (o0baL,o1baL,o2,o3,o4) k=k (YM.out (o0baL,o1baL,o2,o3,o4)):=by kernel_rfl
theorem aHM:YM.Ok:=by intro d _;rw[aHL];rfl
theorem aBu:YM.RS:=rE [.n,.n,.d (.slice (.pair aV eS)),.d (.slice cC),.d (.slice dU)] YM
def aHN:=YM.eN aHM
end Go.Ab
end
