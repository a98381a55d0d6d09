/-
  Made short by a program of mine (wip/tools/mini.py).
-/
import Derived.Test.YtmckebonopjgdaaGreatS35x2
import Derived.Test.YtmckebonopjgdaaGreatProg
set_option linter.defProp false
set_option linter.unusedVariables false
set_option linter.unusedSimpArgs false
set_option maxRecDepth 100000
set_option synthInstance.maxSize 5000
open Go.Proofs.Tryz
open List renaming replicate->ag,length->aa,set->gq,take->aJ,drop->bj
open BitVec renaming ofInt->bF
open Int renaming toNat->ae
open Or renaming inr->eF,inl->ju
open Option renaming some->aw,none->aC
open Bool renaming true->bn,false->aZ
noncomputable section
variable {R:Type}
namespace Go.Ab
open Go.Proofs
def akN:Bs->Prop:=λb=>4<=aa b
def aBj:Bs->Int:=λb=>vw (bld (b.getD 0 0) (b.getD 1 0) (b.getD 2 0) (b.getD 3 0))
def fo(j):=(.d tB j:aF)
def binary:Fs prog akN bt aBj:=eP 241 f241 (λb=>([fo b],[])) (λx=>⟨.d (.int .u32) x,[],[]⟩) [aw tB]
def aPg(b)(k:K1 R):binary.A b k=aA (dB 0 (aa b:Int)) (aA (dB 1 (aa b:Int)) (aA (dB 2 (aa b:Int)) (aA (dB 3 (aa b:Int)) (k (binary.out (cE .or .u32 (cE .or .u32 (cE .or .u32 (oO .u32 (eD .u32 (nth tb b 0)) 24) (oO .u32 (eD .u32 (nth tb b 1)) 16)) (oO .u32 (eD .u32 (nth tb b 2)) 8)) (eD .u32 (nth tb b 3))))) aC) aC) aC) aC:=bS
def aPh:binary.Ok:=by intro b h;have h:4<=aa b:=h;rw[aPg,aS aq aq,aS aq aq,aS aq aq,aS aq aq];simp only[ai,aNk,aaz,tQ];rfl
def aHn:binary.RS:=rE [.d tB] binary
def aPi:=binary.eQ aPh
def rl(w:W)(k:Nat):W:=w <<< k ||| w >>> (32 - k)
def apC:(Int×Int)->Prop:=λ(x,k)=>0<=x/\x < 4294967296
def ba6:(Int×Int)->Int:=λ(x,k)=>vw (rl (bF 32 x) (k%32).toNat)
def aU(j):=(.d ti j:aF)
def th:Fs prog apC bt ba6:=eP 231 f231 (λ(x,j)=>([.d (.int .u32) x,aU j],[])) (λx=>⟨.d (.int .u32) x,[],[]⟩) [aw (.int .u32),aw ti]
def aS5(x j)(k:K1 R):th.A (x,j) k=aA (oQ (cE .and .u64 (eD .u64 j) 31)) (aA (oQ (cY .u64 32 (cE .and .u64 (eD .u64 j) 31))) (k (th.out (cE .or .u32 (oO .u32 x (cE .and .u64 (eD .u64 j) 31)) (cI .u32 x (cY .u64 32 (cE .and .u64 (eD .u64 j) 31)))))) aC) aC:=bS
def blb(k:Int):cE .and .u64 (eD .u64 k) 31=k%32:=by have e:(31:Int)=vw (31:BitVec 64):=rfl;rw[ajT,e,aPj];simp only;have:(31:BitVec 64)=BitVec.ofNat 64 (2^5 - 1):=rfl;unfold vw;rw[BitVec.toNat_and,wy,show(31:BitVec 64).toNat=2^5 - 1 from rfl,Nat.and_two_pow_sub_one_eq_mod];omega
def aS6:th.Ok:=by
 rintro⟨x,k⟩ ⟨B,I⟩;have j:cY .u64 32 (k%32)=32 - k%32:=by unfold cY;rw[wrap_u64,jG];omega
 have A:x=vw (bF 32 x):=by rw[jG];omega
 rw[aS5,blb,j,xI aq,xI aq];simp only[ai];have u:cE .or .u32 (oO .u32 x (k%32)) (cI .u32 x (32 - k%32))=vw (rl (bF 32 x) (k%32).toNat):=by
  conv=>lhs;rw[A]
  rw[aaz,Qj,tQ];simp only[rl];congr 3;omega
 rw[u];rfl
def aK1:th.RS:=rE [.d (.int .u32),.d ti] th
def avP:=th.eQ aS6
def avO(w:W)(k:Int):th.call (vw w,k)=aw (vw (rl w (k%32).toNat)):=by have h:apC (vw w,k):=⟨af4 w,by have:=bcr w;simpa using this⟩;rw[aK1 h];show aw (vw (rl (bF 32 (vw w)) (k%32).toNat))=_;rw[aaT]
def aTH:Unit->Prop:=λ_=>True
def aOD:Unit->(List Int):=λ_=>aer
def zh(j u):=(.d (.arr j (.int .u32)) u:aF)
def table:Fs prog aTH bt aOD:=eP 230 f230 (λ_=>([],[])) (λx=>⟨zh 64 x,[],[]⟩) []
def bbP(d)(k:K1 R):table.A d k=k (table.out [1116352408,1899447441,3049323471,3921009573,961987163,1508970993,2453635748,2870763221,3624381080,310598401,607225278,1426881987,1925078388,2162078206,2614888103,3248222580,3835390401,4022224774,264347078,604807628,770255983,1249150122,1555081692,1996064986,2554220882,2821834349,2952996808,3210313671,3336571891,3584528711,113926993,338241895,666307205,773529912,1294757372,1396182291,1695183700,1986661051,2177026350,2456956037,2730485921,2820302411,3259730800,3345764771,3516065817,3600352804,4094571909,275423344,430227734,506948616,659060556,883997877,958139571,1322822218,1537002063,1747873779,1955562222,2024104815,2227730452,2361852424,2428436474,2756734187,3204031479,3329325298]):=bS
def bbQ:table.Ok:=by intro d _;rw[bbP];rfl
def aTI:table.RS:=rE [] table
def bbR:=table.eQ bbQ
def aQy:Unit->Prop:=λ_=>True
def aNa:Unit->(List Int):=λ_=>wI.l
def first:Fs prog aQy bt aNa:=eP 203 f203 (λ_=>([],[])) (λx=>⟨zh 8 x,[],[]⟩) []
def aXB(d)(k:K1 R):first.A d k=k (first.out [1779033703,3144134277,1013904242,2773480762,1359893119,2600822924,528734635,1541459225]):=bS
def aXC:first.Ok:=by intro d _;rw[aXB];rfl
def aQz:first.RS:=rE [] first
def aXD:=first.eQ aXC
abbrev V7:=Bs×Int×(List Int)
def wl(l:List W):List Int:=l.map vw
def PE(l:List W):List Int:=wl l++ag (64 - aa l) 0
def N9(b:List Int)(k:Nat):List W:=if k<=16 then(words b).take k else bc9 (words b) (k - 16)
def OY:V7->Prop:=λ(b,j,n2)=>64<=aa b/\∃k:Nat,k<=64/\j=k/\n2=PE (N9 b k)
def Kc:V7->(List Int):=λ(b,j,n2)=>wl (sched b)
def acz:Bs->Prop:=λb=>64<=aa b
def YA:Bs->(List Int):=λb=>wl (sched b)
def lC:Ls OY bt Kc:=rI (λ(j,u,n2)=>⟨([fo j,bB,eI 2]++aP 5 ([aU u]++aP 52 [])),[],([[],[],dp (zh 64 n2)]++bz 58 [])⟩) (λx=>(.exit 0,⟨([bB,bB,eI 2]++aP 58 []),[],([[],[],dp (zh 64 x)]++bz 58 [])⟩))
def schedule:Fs prog acz bt YA:=eP 229 f229 (λb=>([.d tB b],[])) (λx=>⟨.d (.arr 64 (.int .u32)) x,[],[]⟩) [aw tB] [aPi,avP] {loops:=ko [(2,{aX:=[0,2,8],sites:=[2]})],outs:=km [(2,{aX:=[2],sites:=[2]},{aX:=[2]})],eT:=jW [(2,lC.E)]}
def ajB:lC.RS:=rL [.d tB,.d ti,.d (.slice (.int .u32))] lC
def LO(u j n2)(A:K2 R)(B:K3 R):schedule.R 0 lC (u,j,n2) A B=aA (fj j 64) (aA (fj j 16) (aA (inc (fO .i64 4 j) (aa u:Int)) (ao (binary.call (cut u (ae (fO .i64 4 j)) ((aa u) - (ae (fO .i64 4 j))))) λI=>aA (dB j 64) (aA (decide ((ae j) < (aa n2))) (aA (decide ((((ae j)*1)+0)=(0+((ae j)*1)))) (aA (decide ((ae j) < (aa n2))) (A (lC.st (u,(bC .i64 j 1),(gq n2 (ae j) I)))) aC) aC) aC) aC) aC) (aA (dB (cY .i64 j 15) 64) (aA (decide ((ae (cY .i64 j 15)) < (aa n2))) (aA (decide ((((ae (cY .i64 j 15))*1)+0)=(0+((ae (cY .i64 j 15))*1)))) (aA (dB (cY .i64 j 2) 64) (aA (decide ((ae (cY .i64 j 2)) < (aa n2))) (aA (decide ((((ae (cY .i64 j 2))*1)+0)=(0+((ae (cY .i64 j 2))*1)))) (ao (th.call ((nth (.int .u32) n2 (ae (cY .i64 j 15))),(-7))) λJ=>ao (th.call ((nth (.int .u32) n2 (ae (cY .i64 j 15))),(-18))) λK=>ao (th.call ((nth (.int .u32) n2 (ae (cY .i64 j 2))),(-17))) λL=>ao (th.call ((nth (.int .u32) n2 (ae (cY .i64 j 2))),(-19))) λM=>aA (dB (cY .i64 j 16) 64) (aA (decide ((ae (cY .i64 j 16)) < (aa n2))) (aA (decide ((((ae (cY .i64 j 16))*1)+0)=(0+((ae (cY .i64 j 16))*1)))) (aA (dB (cY .i64 j 7) 64) (aA (decide ((ae (cY .i64 j 7)) < (aa n2))) (aA (decide ((((ae (cY .i64 j 7))*1)+0)=(0+((ae (cY .i64 j 7))*1)))) (aA (dB j 64) (aA (decide ((ae j) < (aa n2))) (aA (decide ((((ae j)*1)+0)=(0+((ae j)*1)))) (aA (decide ((ae j) < (aa n2))) (A (lC.st (u,(bC .i64 j 1),(gq n2 (ae j) (bC .u32 (bC .u32 (bC .u32 (nth (.int .u32) n2 (ae (cY .i64 j 16))) (cE .xor .u32 (cE .xor .u32 J K) (cI .u32 (nth (.int .u32) n2 (ae (cY .i64 j 15))) 3))) (nth (.int .u32) n2 (ae (cY .i64 j 7)))) (cE .xor .u32 (cE .xor .u32 L M) (cI .u32 (nth (.int .u32) n2 (ae (cY .i64 j 2))) 10))))))) aC) aC) aC) aC) aC) aC) aC) aC) aC) aC) aC) aC) aC) aC) aC) aC)) (lC.go B n2):=bS
def aFN(b)(k:K1 R):schedule.A b k=ao (lC.call (b,0,(ag 64 0))) λj=>k (schedule.out j):=bS
def aGO(b:List Int)(k:Nat)(h:k<=64):aa (N9 b k)=k:=by
 unfold N9;split
 .simp[fI];omega
 .rw[Hp,fI];omega
def bhk(b:List Int):N9 b 64=sched b:=rfl
def aUE(b:List Int)(k:Nat)(h:k < 16):N9 b (k+1)=N9 b k++ [be b k]:=by unfold N9;rw[av aq,av aq,jg (by rw[fI];exact h)];simp[words]
def bcJ(b:List Int)(k:Nat)(h:16<=k):N9 b (k+1)=ext (N9 b k):=by
 unfold N9;rw[au aq];by_cases j:k=16
 .subst j;rw[av aq,bp (by rw[fI];omega)];rfl
 .rw[au aq,show k+1 - 16=(k - 16)+1 by omega];rfl
def awE(l:List W)(h:aa l<=64):aa (PE l)=64:=by simp[PE,wl];omega
def Ti(l:List W)(i:Nat)(h:i < aa l):nth (.int .u32) (PE l) i=vw (l.getD i 0):=by unfold nth PE wl;rw[dH,jx (by simpa using h)];simp[h]
def atq(l:List W)(w:W)(h:aa l < 64):(PE l).set (aa l) (vw w)=PE (l++ [w]):=by unfold PE wl;rw[List.set_append_right _ _ (by simp)];simp only[cz,Nat.sub_self,qR,aj,aB,bl];rw[show 64 - aa l=(64 - (aa l+(0+1)))+1 by omega,uX,List.set_cons_zero];simp
def aHd(l:List W)(h:aa l=64):PE l=wl l:=by simp[PE,h]
def bip(b:List Int)(k:Nat)(h:4*k+4<=aa b):bld ((cut b (4*k) (aa b - 4*k)).getD 0 0) ((cut b (4*k) (aa b - 4*k)).getD 1 0) ((cut b (4*k) (aa b - 4*k)).getD 2 0) ((cut b (4*k) (aa b - 4*k)).getD 3 0)=be b k:=by
 have e:∀j,j < 4->(cut b (4*k) (aa b - 4*k)).getD j 0=b.getD (4*k+j) 0:=λj u=>by unfold cut;rw[dH,dH,List.getElem?_take_of_lt aq,pR]
 unfold be;rw[e 0 aq,e 1 aq,e 2 aq,e 3 aq,bY]
def apT:(schedule.kA 0 lC):=by
 refine(schedule.lS 0 lC) (λ(b,T,n2)=>64 - T.toNat) ?_
 rintro⟨b,T,n2⟩ ⟨hb,k,hk,rfl,rfl⟩;have j:=aGO b k hk;have I:=awE (N9 b k) aq;by_cases h:k < 64
 .left;refine⟨(b,((k+1:Nat):Int),PE (N9 b (k+1))),⟨hb,k+1,aq,rfl,rfl⟩,by simp;omega,rfl,λkn kx=> ?_⟩;have e1:bC .i64 (k:Int) 1=((k+1:Nat):Int):=by rw[eS aq aq];omega
  have e2:ae (k:Int)=k:=aq;rw[LO,aN aq];simp only[ai,e1,e2,I,j6,aO,bY,bE];by_cases J:k < 16
  .have e3:fO .i64 4 (k:Int)=((4*k:Nat):Int):=by rw[Ct aq aq];omega
   have e4:ae ((4*k:Nat):Int)=4*k:=aq;rw[aN aq,e3,l9 aq aq,e4,aS aq aq,aK h];have hp:akN (cut b (4*k) (aa b - 4*k)):=by show 4<=_;rw[Mu aq];omega
   simp only[ai,aHn hp,ah];have e5:bt (cut b (4*k) (aa b - 4*k)) (aBj (cut b (4*k) (aa b - 4*k)))=vw (be b k):=by show vw (bld _ _ _ _)=_;rw[bip b k aq]
   have u:=atq (N9 b k) (be b k) aq;rw[j]at u;rw[e5,u,aUE b k J]
  .have A:ae (cY .i64 (k:Int) 15)=k - 15:=by rw[eO aq aq];omega
   have a2:ae (cY .i64 (k:Int) 2)=k - 2:=by rw[eO aq aq];omega
   have B:ae (cY .i64 (k:Int) 16)=k - 16:=by rw[eO aq aq];omega
   have a7:ae (cY .i64 (k:Int) 7)=k - 7:=by rw[eO aq aq];omega
   have M:dB (cY .i64 (k:Int) 15) 64=bn:=aS (by rw[eO aq aq];omega) (by rw[eO aq aq];omega);have i2:dB (cY .i64 (k:Int) 2) 64=bn:=aS (by rw[eO aq aq];omega) (by rw[eO aq aq];omega);have O:dB (cY .i64 (k:Int) 16) 64=bn:=aS (by rw[eO aq aq];omega) (by rw[eO aq aq];omega);have i7:dB (cY .i64 (k:Int) 7) 64=bn:=aS (by rw[eO aq aq];omega) (by rw[eO aq aq];omega);have i0:dB (k:Int) 64=bn:=aS aq aq;have K:decide (k - 15 < 64)=bn:=aK aq;have d2:decide (k - 2 < 64)=bn:=aK aq;have L:decide (k - 16 < 64)=bn:=aK aq;have d7:decide (k - 7 < 64)=bn:=aK aq;have d0:decide (k < 64)=bn:=aK h;rw[aL aq];simp only[ai,al,A,a2,B,a7,M,i2,O,i7,i0,K,d2,L,d7,d0,Ti (N9 b k) (k - 15) aq,Ti (N9 b k) (k - 2) aq,Ti (N9 b k) (k - 16) aq,Ti (N9 b k) (k - 7) aq,avO,ah,tQ,Qj,KN];have u:=atq (N9 b k) (bhV (N9 b k) k) aq;rw[j]at u;rw[bcJ b k aq,ext,j,<-u];rfl
 .right;obtain rfl:k=64:=aq;intro R kn kx;rw[LO,aL aq,aHd _ j,bhk];simp only[al,bt,Kc]
def aFO:schedule.Ok:=by intro b j;have u:OY (b,0,ag 64 0):=⟨j,0,aq,rfl,rfl⟩;rw[aFN,ajB u];simp only[ah,bt,Kc,bt,YA]
def azO:schedule.RS:=rE [.d tB] schedule
def aFP:=schedule.eQ aFO 1 ⟨.eg apT,trivial⟩
abbrev amE:=(List Int)×Int×(List Int)×(List Int)×(List Int)×(List Int)
def XV:amE->(List Int)->(((List Int)×(List Int))×((List Int))):=λ(j,u,n4,n5,n6,n7) y=>((j,n4),y)
abbrev amH:=(List Int)×Int×(List Int)×(List Int)
def MQ:amH->(List Int)->(((List Int))×((List Int))):=λ(u,j,B,A) y=>(B,y)
def az6(l:List Int):St:=⟨bF 32 (l.getD 0 0),bF 32 (l.getD 1 0),bF 32 (l.getD 2 0),bF 32 (l.getD 3 0),bF 32 (l.getD 4 0),bF 32 (l.getD 5 0),bF 32 (l.getD 6 0),bF 32 (l.getD 7 0)⟩
def rK(s:St):az6 s.l=s:=by obtain⟨a,b,c,d,e,f,g,h⟩:=s;simp[az6,St.l,aaT]
def bcj(l:List Int):List W:=l.map (bF 32)
def NY(l:List W):bcj (wl l)=l:=by
 unfold bcj wl;rw[yz];have:(bF 32∘vw)=(id:W->W):=by funext w;exact aaT w
 rw[this,List.map_id]
def amG:amE->Prop:=λ(h,t,n4,n5,n6,n7)=>∃(s:St) (ws:List W) (k:Nat),h=s.l/\n5=wl ws/\aa ws=64/\k<=64/\t=k/\n6=aer/\n7=(rounds ws s k).l
def amF:amE->(List Int):=λ(h,t,n4,n5,n6,n7)=>(rounds (bcj n5) (az6 h) 64).l
def amI:amH->Prop:=λ(h,t,n4,n7)=>aa n7=8/\∃k:Nat,k<=8/\t=k
def aaN:amH->(List Int):=λ(h,t,n4,n7)=>from_ (λi x=>bC .u32 x (nth (.int .u32) h i)) t.toNat n7
def ayx:((List Int)×Bs)->Prop:=λ(h,b)=>(∃s:St,h=s.l)/\64<=aa b
def aNC:((List Int)×Bs)->(List Int):=λ(h,b)=>(aey (az6 h) b).l
def Jy:Ls amG XV amF:=rI (λ(u,j,n4,n5,n6,n7)=>⟨([bB,bB,.iU (.arr 8 (.int .u32)) u,bB,eI 4,eI 5,eI 6,eI 7]++aP 10 ([aU j]++aP 98 [])),[],(bz 4 ([dp (zh 8 n4),dp (zh 64 n5),dp (zh 64 n6),dp (zh 8 n7)]++bz 109 []))⟩) (λx=>(.exit 0,⟨([bB,bB,.iU (.arr 8 (.int .u32)) x.1.1,bB,eI 4,bB,bB,eI 7]++aP 109 []),[],(bz 4 ([dp (zh 8 x.1.2),[],[],dp (zh 8 x.2)]++bz 109 []))⟩))
def MP:Ls amI MQ aaN:=rI (λ(u,j,B,A)=>⟨([bB,bB,.iU (.arr 8 (.int .u32)) u,bB,eI 4,bB,bB,eI 7]++aP 96 ([aU j]++aP 12 [])),[],(bz 4 ([dp (zh 8 B),[],[],dp (zh 8 A)]++bz 109 []))⟩) (λx=>(.exit 2,⟨(aP 4 ([eI 4,bB,bB,eI 7]++aP 109 [])),[],(bz 4 ([dp (zh 8 x.1),[],[],dp (zh 8 x.2)]++bz 109 []))⟩))
def mix:Fs prog ayx bt aNC:=eP 204 f204 (λ(h,b)=>([.d (.arr 8 (.int .u32)) h,.d tB b],[])) (λx=>⟨.d (.arr 8 (.int .u32)) x,[],[]⟩) [aw (.arr 8 (.int .u32)),aw tB] [aFP,bbR,avP] {loops:=ko [(4,{aX:=[2,4,5,6,7,18],sites:=[4,5,6,7]}),(13,{aX:=[2,4,7,104],sites:=[4,7]})],outs:=km [(4,{aX:=[2,4,7],sites:=[4,7]},{aX:=[4]}),(13,{aX:=[4,7],sites:=[4,7]},{aX:=[4]})],eT:=jW [(4,Jy.E),(13,MP.E)]}
def aI4:Jy.RS:=rL [.d (.arr 8 (.int .u32)),.d ti,.d (.slice (.int .u32)),.d (.slice (.int .u32)),.d (.slice (.int .u32)),.d (.slice (.int .u32))] Jy
def ahf(u j n4 n5 n6 n7)(A:K2 R)(B:K3 R):mix.R 0 Jy (u,j,n4,n5,n6,n7) A B=aA (fj j 64) (aA (decide (4 < (aa n7))) (ao (th.call ((nth (.int .u32) n7 4),(-6))) λI=>aA (decide (4 < (aa n7))) (ao (th.call ((nth (.int .u32) n7 4),(-11))) λJ=>aA (decide (4 < (aa n7))) (ao (th.call ((nth (.int .u32) n7 4),(-25))) λK=>aA (decide (7 < (aa n7))) (aA (decide (6 < (aa n7))) (aA (decide (4 < (aa n7))) (aA (decide (5 < (aa n7))) (aA (decide (6 < (aa n7))) (aA (dB j 64) (aA (decide ((ae j) < (aa n6))) (aA (decide ((((ae j)*1)+0)=(0+((ae j)*1)))) (aA (dB j 64) (aA (decide ((ae j) < (aa n5))) (aA (decide ((((ae j)*1)+0)=(0+((ae j)*1)))) (aA (decide (0 < (aa n7))) (ao (th.call ((nth (.int .u32) n7 0),(-2))) λL=>aA (decide (0 < (aa n7))) (ao (th.call ((nth (.int .u32) n7 0),(-13))) λM=>aA (decide (0 < (aa n7))) (ao (th.call ((nth (.int .u32) n7 0),(-22))) λO=>aA (decide (0 < (aa n7))) (aA (decide (1 < (aa n7))) (aA (decide (2 < (aa n7))) (aA (decide (0 < (aa n7))) (aA (decide (1 < (aa n7))) (aA (decide (0 < (aa n7))) (aA (decide (1 < (aa n7))) (aA (decide (2 < (aa n7))) (aA (decide (3 < (aa n7))) (aA (decide (4 < (aa n7))) (aA (decide (5 < (aa n7))) (aA (decide (6 < (aa n7))) (A (Jy.st (u,(bC .i64 j 1),n4,n5,n6,[(bC .u32 (bC .u32 (bC .u32 (bC .u32 (bC .u32 (bC .u32 (nth (.int .u32) n7 7) (cE .xor .u32 (cE .xor .u32 I J) K)) (cE .xor .u32 (nth (.int .u32) n7 6) (cE .and .u32 (nth (.int .u32) n7 4) (cE .xor .u32 (nth (.int .u32) n7 5) (nth (.int .u32) n7 6))))) (nth (.int .u32) n6 (ae j))) (nth (.int .u32) n5 (ae j))) (cE .xor .u32 (cE .xor .u32 L M) O)) (cE .or .u32 (cE .and .u32 (nth (.int .u32) n7 0) (nth (.int .u32) n7 1)) (cE .and .u32 (nth (.int .u32) n7 2) (cE .or .u32 (nth (.int .u32) n7 0) (nth (.int .u32) n7 1))))),(nth (.int .u32) n7 0),(nth (.int .u32) n7 1),(nth (.int .u32) n7 2),(bC .u32 (nth (.int .u32) n7 3) (bC .u32 (bC .u32 (bC .u32 (bC .u32 (nth (.int .u32) n7 7) (cE .xor .u32 (cE .xor .u32 I J) K)) (cE .xor .u32 (nth (.int .u32) n7 6) (cE .and .u32 (nth (.int .u32) n7 4) (cE .xor .u32 (nth (.int .u32) n7 5) (nth (.int .u32) n7 6))))) (nth (.int .u32) n6 (ae j))) (nth (.int .u32) n5 (ae j)))),(nth (.int .u32) n7 4),(nth (.int .u32) n7 5),(nth (.int .u32) n7 6)]))) aC) aC) aC) aC) aC) aC) aC) aC) aC) aC) aC) aC) aC) aC) aC) aC) aC) aC) aC) aC) aC) aC) aC) aC) aC) aC) aC) aC) aC) (Jy.go B ((u,n4),n7)):=bS
def aI5:MP.RS:=rL [.d (.arr 8 (.int .u32)),.d ti,.d (.slice (.int .u32)),.d (.slice (.int .u32))] MP
def ahg(A j B u)(I:K2 R)(J:K3 R):mix.R 1 MP (A,j,B,u) I J=aA (fj j 8) (aA (dB j 8) (aA (decide ((ae j) < (aa u))) (aA (decide ((((ae j)*1)+0)=(0+((ae j)*1)))) (aA (dB j 8) (aA (dB j 8) (aA (decide ((ae j) < (aa u))) (aA (decide ((((ae j)*1)+0)=(0+((ae j)*1)))) (aA (decide ((ae j) < (aa u))) (I (MP.st (A,(bC .i64 j 1),B,(gq u (ae j) (bC .u32 (nth (.int .u32) u (ae j)) (nth (.int .u32) A (ae j))))))) aC) aC) aC) aC) aC) aC) aC) aC) (MP.go J (B,u)):=bS
def bjB(h b)(k:K1 R):mix.A (h,b) k=ao (schedule.call b) λA=>ao (table.call ()) λB=>ao (Jy.call (h,0,(ag 8 0),A,B,h)) λu=>ao (MP.call (u.1.1,0,u.1.2,u.2)) λj=>k (mix.out j.2):=bS
def St.aDf(s:St):aa s.l=8:=rfl
def ag4:aa aer=64:=rfl
def aDd(k:Nat)(h:k < 64):nth (.int .u32) aer k=vw (kw k):=by
 have j:∀k:Fin 64,nth (.int .u32) aer k.val=vw (kw k.val):=by decide+kernel
 exact j ⟨k,h⟩
def af7(ws:List W)(k:Nat)(h:k < aa ws):nth (.int .u32) (wl ws) k=vw (ws.getD k 0):=by unfold nth wl;simp[h]
def br5(w:W):rl w ((-6:Int)%32).toNat=A7 w 6:=rfl
def bpq(w:W):rl w ((-11:Int)%32).toNat=A7 w 11:=rfl
def bpt(w:W):rl w ((-25:Int)%32).toNat=A7 w 25:=rfl
def br4(w:W):rl w ((-2:Int)%32).toNat=A7 w 2:=rfl
def bpr(w:W):rl w ((-13:Int)%32).toNat=A7 w 13:=rfl
def bps(w:W):rl w ((-22:Int)%32).toNat=A7 w 22:=rfl
def n0(s:St):nth (.int .u32) s.l 0=vw s.a:=rfl
def n1(s:St):nth (.int .u32) s.l 1=vw s.b:=rfl
def n2(s:St):nth (.int .u32) s.l 2=vw s.c:=rfl
def n3(s:St):nth (.int .u32) s.l 3=vw s.d:=rfl
def n4(s:St):nth (.int .u32) s.l 4=vw s.e:=rfl
def n5(s:St):nth (.int .u32) s.l 5=vw s.f:=rfl
def n6(s:St):nth (.int .u32) s.l 6=vw s.g:=rfl
def n7(s:St):nth (.int .u32) s.l 7=vw s.h:=rfl
def aRn:(mix.kA 0 Jy):=by
 refine(mix.lS 0 Jy) (λ(h,t,n4,n5,n6,n7)=>64 - t.toNat) ?_
 rintro⟨h,t,I,m5,m6,m7⟩ ⟨s,ws,k,rfl,rfl,B,hk,rfl,rfl,rfl⟩;by_cases A:k < 64
 .left;refine⟨(s.l,((k+1:Nat):Int),I,wl ws,aer,(rounds ws s (k+1)).l),⟨s,ws,k+1,rfl,rfl,B,aq,rfl,rfl,rfl⟩,by simp;omega,rfl,λu T=> ?_⟩;have K:bC .i64 (k:Int) 1=((k+1:Nat):Int):=by rw[eS aq aq];omega
  have L:ae (k:Int)=k:=aq;have j:aa (wl ws)=64:=by simp[wl,B]
  have J:decide (k < 64)=bn:=aK A;have O:dB (k:Int) 64=bn:=aS aq aq;rw[ahf,aN aq];generalize M:rounds ws s k=v;simp only[K,L,j6,aO,bY,bE,ai,St.aDf,Nat.reduceLT,ag4,j,J,O,n0,n1,n2,n3,n4,n5,n6,n7,avO,ah,aDd k A,af7 ws k aq,tQ,KN,br5,bpq,bpt,br4,bpr,bps];show u _=u (Jy.st (s.l,((k+1:Nat):Int),I,wl ws,aer,(lS (rounds ws s k) (kw k) (ws.getD k 0)).l));rw[M];rfl
 .right;obtain rfl:k=64:=aq;intro R u T;rw[ahf,aL aq];simp only[al,XV,amF,NY,rK]
def aRo:(mix.kA 1 MP):=by
 refine(mix.lS 1 MP) (λ(h,t,n4,n7)=>8 - t.toNat) ?_
 rintro⟨h,t,m4,j⟩ ⟨u,k,hk,rfl⟩;have u:aa j=8:=u;have A:ae (k:Int)=k:=aq;have J:ae ((k+1:Nat):Int)=k+1:=aq;by_cases K:k < 8
 .left;have I:bC .i64 (k:Int) 1=((k+1:Nat):Int):=by rw[eS aq aq];omega
  have L:nth (.int .u32) j k=j[k]:=bG (t:= .int .u32) aq;refine⟨(h,((k+1:Nat):Int),m4,j.set k (bC .u32 j[k] (nth (.int .u32) h k))),⟨by simpa using u,k+1,aq,rfl⟩,by simp;omega,?_,λO T=> ?_⟩
  .simp only[MQ,aaN,A,J];rw[TC (λi x=>bC .u32 x (nth (.int .u32) h i)) j k aq]
  .have B:decide (k < 8)=bn:=aK K;have M:dB (k:Int) 8=bn:=aS aq aq;rw[ahg,aN aq];simp only[I,A,j6,aO,bY,bE,ai,u,B,M,L]
 .right;obtain rfl:k=8:=aq;intro R O T;rw[ahg,aL aq];simp only[al,MQ,aaN,A];rw[aaj _ _ _ aq]
def bjC:mix.Ok:=by
 rintro⟨h,b⟩ ⟨⟨s,rfl⟩,A⟩;have I:acz b:=A;have j:aa (sched b)=64:=by unfold sched;rw[Hp,fI]
 have B:amG (s.l,0,ag 8 0,wl (sched b),aer,s.l):=⟨s,sched b,0,rfl,rfl,j,aq,rfl,rfl,rfl⟩;rw[bjB,azO I];simp only[ah,aTI (d:=()) trivial,bt,YA,bt,aOD,aI4 B,XV,amF,NY,rK];have u:amI (s.l,0,ag 8 0,(rounds (sched b) s 64).l):=⟨rfl,0,aq,rfl⟩;simp only[aI5 u,ah,MQ,aaN,bt,aNC,rK];unfold aey;generalize rounds (sched b) s 64=v;obtain⟨J,K,L,M,O,T,h1,i1⟩:=v;simp only[St.l,from_,List.mapIdx_cons,List.mapIdx_nil,aW,Nat.not_lt_zero,bq,aO,Nat.reduceAdd];simp only[nth,List.getD_cons_zero,List.getD_cons_succ,KN]
def aND:mix.RS:=rE [.d (.slice (.int .u32)),.d tB] mix
def bjD:=mix.eQ bjC 2 ⟨.eg aRn,⟨.eg aRo,trivial⟩⟩
def xG(n:Int)(k:Int)(j:0<=k)(u:k<=64):eD .u8 (cI .i64 n k)=n / 2^k.toNat%256:=by
 rw[aeh,jG,cI];have e:min k.toNat IntKind.i64.bits=k.toNat:=by simp only[IntKind.bits];omega
 rw[e,Int.fdiv_eq_ediv_of_nonneg _ (Int.le_of_lt (Int.pow_pos aq))];rfl
def LL{n:Nat}(h:n<=140737488355328):cM n 1=bn:=cg aq aq
def alc:Bs->Prop:=λb=>aa b<=140737488355328
def PW:Bs->(Nat×(List Int)):=λb=>(aa b,b)
def FY:Fs prog alc bt PW:=eP 187 f187 (λj=>([.d tB j],[])) (λx=>⟨.dq (.new 0 0) 0 [] 0 0 x.1,[],[.obj 0 aZ (.vec 5 tb x.2)]⟩) [aw tB] [] {cd:=[5],owns:=[⟨2,[],5,125⟩]}
def aPY(j)(k:K1 R):FY.A j k=aA (decide (0 < (aa j))) (aA (cM (0+(aa j)) 1) (k (FY.out ((0+(aa j)),((aJ 0 (ag 0 0))++j)))) aC) (nd (k (FY.out (0,([]:List Int)))) (aA (cM (0+(aa j)) 1) (k (FY.out ((0+(aa j)),((aJ 0 (ag 0 0))++j)))) aC)):=bS
def aPZ:FY.Ok:=by
 intro b u;have A:cM (aa b) 1=bn:=LL u;rw[aPY];have j:(aJ 0 (ag 0 0):List Int)=[]:=rfl;simp only[aO,A,ai,j,bf,bt,PW];by_cases h:0 < aa b
 .simp only[aK h,ai]
 .have:b=[]:=bV aq;subst this;simp only[bl,EB,aV (jb 0),al]
def W8:FY.RS:=rE [.d tB] FY
def adQ:=FY.eQ aPZ
def aRc:Int->Prop:=λ_=>True
def aNw:Int->(Nat×(List Int)):=λn=>(8,jI n)
def amv:Fs prog aRc bt aNw:=eP 161 f161 (λn=>([.fR,.d ti n],[])) (λx=>⟨.dq (.new 0 0) 0 [] 0 0 x.1,[],[.obj 0 aZ (.vec 5 tb x.2)]⟩) [aC,aw ti] [] {loops:=ko [(2,{aX:=[0,1,5],sites:=[16]})],outs:=km [(2,{aX:=[0],sites:=[16]},{aX:=[4],sites:=[16]})],owns:=[⟨4,[],16,125⟩]} 12
def aYG(n)(k:K1 R):amv.A n k=k (amv.out (8,[(eD .u8 (cI .i64 n 56)),(eD .u8 (cI .i64 n 48)),(eD .u8 (cI .i64 n 40)),(eD .u8 (cI .i64 n 32)),(eD .u8 (cI .i64 n 24)),(eD .u8 (cI .i64 n 16)),(eD .u8 (cI .i64 n 8)),(eD .u8 (cI .i64 n 0))])):=bS
def aHj(n:Int): [eD .u8 (cI .i64 n 56),eD .u8 (cI .i64 n 48),eD .u8 (cI .i64 n 40),eD .u8 (cI .i64 n 32),eD .u8 (cI .i64 n 24),eD .u8 (cI .i64 n 16),eD .u8 (cI .i64 n 8),eD .u8 (cI .i64 n 0)]=jI n:=by rw[xG n 56 aq aq,xG n 48 aq aq,xG n 40 aq aq,xG n 32 aq aq,xG n 24 aq aq,xG n 16 aq aq,xG n 8 aq aq,xG n 0 aq aq];simp[jI]
def aYH:amv.Ok:=by intro n _;rw[aYG,aHj];rfl
def aRd:amv.RS:=rE [.d ti] amv
def aYI:=amv.bnI aRw aYH 1 ⟨.none bS,trivial⟩
def aev:(Nat×Int×Bs)->Prop:=λ(m,n,l)=>m=aa l/\aa l<=140737488355320
def aj1:(Nat×Int×Bs)->(Nat×(List Int)):=λ(m,n,l)=>(aa l+8,l++jI n)
def ag8:Fs prog aev bt aj1:=eP 161 f161 (λ(j,n,o0)=>([.dq (.dx 0) 0 [] 0 0 j,.d ti n],[.obj 0 aZ (.vec 5 tb o0)])) (λx=>⟨.dq (.dx 0) 8 [] 0 0 x.1,[.obj 8 aZ (.vec 5 tb x.2)],[]⟩) [aC,aw ti] [] {loops:=ko [(2,{aX:=[0,1,5],sites:=[16]})],outs:=km [(2,{aX:=[0],sites:=[16]},{aX:=[4],sites:=[16]})]} 12
def aYJ(j n o0)(k:K1 R):ag8.A (j,n,o0) k=aA (decide (j<=(aa o0))) (aA (cM (j+1) 1) (aA (decide ((j+1)<=(aa ((aJ j o0)++ [(eD .u8 (cI .i64 n 56))])))) (aA (cM ((j+1)+1) 1) (aA (decide (((j+1)+1)<=(aa ((aJ (j+1) ((aJ j o0)++ [(eD .u8 (cI .i64 n 56))]))++ [(eD .u8 (cI .i64 n 48))])))) (aA (cM (((j+1)+1)+1) 1) (aA (decide ((((j+1)+1)+1)<=(aa ((aJ ((j+1)+1) ((aJ (j+1) ((aJ j o0)++ [(eD .u8 (cI .i64 n 56))]))++ [(eD .u8 (cI .i64 n 48))]))++ [(eD .u8 (cI .i64 n 40))])))) (aA (cM ((((j+1)+1)+1)+1) 1) (aA (decide (((((j+1)+1)+1)+1)<=(aa ((aJ (((j+1)+1)+1) ((aJ ((j+1)+1) ((aJ (j+1) ((aJ j o0)++ [(eD .u8 (cI .i64 n 56))]))++ [(eD .u8 (cI .i64 n 48))]))++ [(eD .u8 (cI .i64 n 40))]))++ [(eD .u8 (cI .i64 n 32))])))) (aA (cM (((((j+1)+1)+1)+1)+1) 1) (aA (decide ((((((j+1)+1)+1)+1)+1)<=(aa ((aJ ((((j+1)+1)+1)+1) ((aJ (((j+1)+1)+1) ((aJ ((j+1)+1) ((aJ (j+1) ((aJ j o0)++ [(eD .u8 (cI .i64 n 56))]))++ [(eD .u8 (cI .i64 n 48))]))++ [(eD .u8 (cI .i64 n 40))]))++ [(eD .u8 (cI .i64 n 32))]))++ [(eD .u8 (cI .i64 n 24))])))) (aA (cM ((((((j+1)+1)+1)+1)+1)+1) 1) (aA (decide (((((((j+1)+1)+1)+1)+1)+1)<=(aa ((aJ (((((j+1)+1)+1)+1)+1) ((aJ ((((j+1)+1)+1)+1) ((aJ (((j+1)+1)+1) ((aJ ((j+1)+1) ((aJ (j+1) ((aJ j o0)++ [(eD .u8 (cI .i64 n 56))]))++ [(eD .u8 (cI .i64 n 48))]))++ [(eD .u8 (cI .i64 n 40))]))++ [(eD .u8 (cI .i64 n 32))]))++ [(eD .u8 (cI .i64 n 24))]))++ [(eD .u8 (cI .i64 n 16))])))) (aA (cM (((((((j+1)+1)+1)+1)+1)+1)+1) 1) (aA (decide ((((((((j+1)+1)+1)+1)+1)+1)+1)<=(aa ((aJ ((((((j+1)+1)+1)+1)+1)+1) ((aJ (((((j+1)+1)+1)+1)+1) ((aJ ((((j+1)+1)+1)+1) ((aJ (((j+1)+1)+1) ((aJ ((j+1)+1) ((aJ (j+1) ((aJ j o0)++ [(eD .u8 (cI .i64 n 56))]))++ [(eD .u8 (cI .i64 n 48))]))++ [(eD .u8 (cI .i64 n 40))]))++ [(eD .u8 (cI .i64 n 32))]))++ [(eD .u8 (cI .i64 n 24))]))++ [(eD .u8 (cI .i64 n 16))]))++ [(eD .u8 (cI .i64 n 8))])))) (aA (cM ((((((((j+1)+1)+1)+1)+1)+1)+1)+1) 1) (k (ag8.out (((((((((j+1)+1)+1)+1)+1)+1)+1)+1),((aJ (((((((j+1)+1)+1)+1)+1)+1)+1) ((aJ ((((((j+1)+1)+1)+1)+1)+1) ((aJ (((((j+1)+1)+1)+1)+1) ((aJ ((((j+1)+1)+1)+1) ((aJ (((j+1)+1)+1) ((aJ ((j+1)+1) ((aJ (j+1) ((aJ j o0)++ [(eD .u8 (cI .i64 n 56))]))++ [(eD .u8 (cI .i64 n 48))]))++ [(eD .u8 (cI .i64 n 40))]))++ [(eD .u8 (cI .i64 n 32))]))++ [(eD .u8 (cI .i64 n 24))]))++ [(eD .u8 (cI .i64 n 16))]))++ [(eD .u8 (cI .i64 n 8))]))++ [(eD .u8 (cI .i64 n 0))])))) aC) aC) aC) aC) aC) aC) aC) aC) aC) aC) aC) aC) aC) aC) aC) aC:=bS
def aYK:ag8.Ok:=by rintro⟨m,n,l⟩ ⟨rfl,j⟩;have j:aa l<=140737488355320:=j;rw[aYJ];simp only[ax,bE,ai,bp,aj,aB,bl,aO];rw[LL aq,LL aq,LL aq,LL aq,LL aq,LL aq,LL aq,LL aq];simp only[ai,bt,aj1,<-aHj,aR,iP,bf]
def auo:ag8.RS:=rE [.n,.d ti,.d tB] ag8
def aDm:=ag8.bnI av6 aYK 1 ⟨.none bS,trivial⟩
abbrev aec:=Bs×Nat×Bs×(List Int)
abbrev aub:=Nat×(List Int)
def HV:aec->aub->((Bs×Bs)×(Nat×(List Int))):=λ(u,j,n2,n14) y=>((u,n2),y)
abbrev aed:=Bs×Nat×Bs×(List Int)×(List Int)
def HW:aed->(List Int)->((Nat×Bs×(List Int))×((List Int))):=λ(B,u,A,n4,j) y=>((u,A,j),y)
abbrev aee:=Bs×Bs×(List Int)
def HX:aee->(List Int)->((Bs)×((List Int))):=λ(j,u,A) y=>(u,y)
abbrev auc:=Int×Bs×(List Int)
def zc(n:Nat):Nat:=(120 - n%64)%64
def agX:aec->Prop:=λ(b,m,n2,l)=>m=aa l/\aa l+zc (aa l)<=140737488355328
def TE:aec->aub:=λ(b,m,n2,l)=>(aa l+zc (aa l),l++ag (zc (aa l)) 0)
def agY:aed->Prop:=λ(b,m,n2,h,l)=>∃s:St,h=s.l
def TF:aed->(List Int):=λ(b,m,n2,h,l)=>(blocks (az6 h) b).l
def agZ:aee->Prop:=λ(b,n2,h)=>aa b%64=0/\∃s:St,h=s.l
def TG:aee->(List Int):=λ(b,n2,h)=>(blocks (az6 h) b).l
def UD(h:List Int)(i:Nat)(_:Int):Int:=eD .u8 (cI .u32 (nth (.int .u32) h (i / 4)) ((24 - 8*(i%4):Nat):Int))
def ag0:auc->Prop:=λ(t,n2,h)=>aa n2=32/\aa h=8/\∃k:Nat,k<=32/\t=k
def TH:auc->Bs:=λ(t,n2,h)=>from_ (UD h) t.toNat n2
def aCX:Bs->Prop:=λb=>aa b<=140737488350000
def aIz:Bs->Bs:=λb=>bj6 b
def vn(j):=(.vec 5 tb j:aF)
def fW(j):=(.d tH j:aF)
def Em:Ls agX HV TE:=rI (λ(u,j,n2,n14)=>⟨([fo u,bB,eI 2,uJ 14 j]++aP 61 []),[],([[],[],dp (fW n2)]++bz 11 ([dp (vn n14)]++bz 50 []))⟩) (λx=>(.exit 0,⟨([fo x.1.1,bB,eI 2,uJ 14 x.2.1]++aP 61 []),[],([[],[],dp (fW x.1.2)]++bz 11 ([dp (vn x.2.2)]++bz 50 []))⟩))
def CB(j u A B I J):=(.dq (.new j u) A [] B I J:aF)
def En:Ls agY HW TF:=rI (λ(u,A,B,n4,j)=>⟨([fo u,bB,eI 2,CB 14 0 8 0 0 A,eI 4]++aP 60 []),[],([[],[],dp (fW B),[],dp (zh 8 n4)]++bz 9 ([[.obj 8 aZ (vn j)]]++bz 50 []))⟩) (λx=>(.exit 2,⟨([bB,bB,eI 2,CB 14 0 8 0 0 x.1.1,eI 4]++aP 60 []),[],([[],[],dp (fW x.1.2.1),[],dp (zh 8 x.2)]++bz 9 ([[.obj 8 aZ (vn x.1.2.2)]]++bz 50 []))⟩))
def Eo:Ls agZ HX TG:=rI (λ(j,u,A)=>⟨([bB,bB,eI 2,fo j,eI 4]++aP 60 []),[],([[],[],dp (fW u),[],dp (zh 8 A)]++bz 60 [])⟩) (λx=>(.exit 4,⟨([bB,bB,eI 2,bB,eI 4]++aP 60 []),[],([[],[],dp (fW x.1),[],dp (zh 8 x.2)]++bz 60 [])⟩))
def Ep:Ls ag0 bt TH:=rI (λ(j,A,u)=>⟨([bB,bB,eI 2,bB,eI 4]++aP 43 ([aU j]++aP 16 [])),[],([[],[],dp (fW A),[],dp (zh 8 u)]++bz 60 [])⟩) (λx=>(.exit 6,⟨([bB,bB,eI 2]++aP 62 []),[],([[],[],dp (fW x)]++bz 62 [])⟩))
def Ht:Fs prog aCX bt aIz:=eP 162 f162 (λb=>([.d tB b],[])) (λx=>⟨.d tH x,[],[]⟩) [aw tB] [adQ,aDm,aXD,bjD] {loops:=ko [(2,{aX:=[0,2,3],sites:=[2,14],owns:=[⟨3,[],14,125⟩]}),(6,{aX:=[0,2,3,4],sites:=[2,4,14]}),(9,{aX:=[2,3,4],sites:=[2,4],data:=[(3,tB)]}),(13,{aX:=[2,4,48],sites:=[2,4]})],outs:=km [(2,{aX:=[0,2,3],sites:=[2,14]},{aX:=[2]}),(6,{aX:=[2,3,4],sites:=[2,4,14]},{aX:=[2]}),(9,{aX:=[2,4],sites:=[2,4]},{aX:=[2]}),(13,{aX:=[2],sites:=[2]},{aX:=[2]})],eT:=jW [(2,Em.E),(6,En.E),(9,Eo.E),(13,Ep.E)]}
def aCT:Em.RS:=rL [.d tB,.n,.d tB,.d tB] Em
def aao(u j n2 n14)(A:K2 R)(B:K3 R):Ht.R 0 Em (u,j,n2,n14) A B=aA (pb (kJ ((j:Nat):Int) 64) 56) (aA (decide (j<=(aa n14))) (aA (cM (j+1) 1) (A (Em.st (u,(j+1),n2,((aJ j n14)++ [0])))) aC) aC) (Em.go B ((u,n2),(j,n14))):=bS
def aCU:En.RS:=rL [.d tB,.n,.d tB,.d (.slice (.int .u32)),.d tB] En
def aap(j A B n4 u)(I:K2 R)(J:K3 R):Ht.R 1 En (j,A,B,n4,u) I J=aA (DA (aa j:Int) 64) (aA (inc 64 (aa j:Int)) (ao (mix.call (n4,(cut j 0 64))) λK=>aA (inc 64 (aa j:Int)) (I (En.st ((cut j 64 ((aa j) - 64)),A,B,K,u))) aC) aC) (En.go J ((A,B,u),n4)):=bS
def aCV:Eo.RS:=rL [.d tB,.d tB,.d (.slice (.int .u32))] Eo
def aaq(j u A)(B:K2 R)(I:K3 R):Ht.R 2 Eo (j,u,A) B I=aA (qi (aa j:Int) 0) (aA (inc 64 (aa j:Int)) (ao (mix.call (A,(cut j 0 64))) λJ=>aA (inc 64 (aa j:Int)) (B (Eo.st ((cut j 64 ((aa j) - 64)),u,J))) aC) aC) (Eo.go I (u,A)):=bS
def aCW:Ep.RS:=rL [.d ti,.d tB,.d (.slice (.int .u32))] Ep
def aar(j u A)(B:K2 R)(I:K3 R):Ht.R 3 Ep (j,u,A) B I=aA (fj j 32) (aA (dB (yp .i64 j 4) 8) (aA (decide ((ae (yp .i64 j 4)) < (aa A))) (aA (decide ((((ae (yp .i64 j 4))*1)+0)=(0+((ae (yp .i64 j 4))*1)))) (aA (oQ (cY .i64 24 (fO .i64 8 (kJ j 4)))) (aA (dB j 32) (aA (decide ((ae j) < (aa u))) (aA (decide ((((ae j)*1)+0)=(0+((ae j)*1)))) (aA (decide ((ae j) < (aa u))) (B (Ep.st ((bC .i64 j 1),(gq u (ae j) (eD .u8 (cI .u32 (nth (.int .u32) A (ae (yp .i64 j 4))) (cY .i64 24 (fO .i64 8 (kJ j 4)))))),A))) aC) aC) aC) aC) aC) aC) aC) aC) (Ep.go I u):=bS
def beU(b)(k:K1 R):Ht.A b k=aA (inc (cY .i64 (aa b:Int) (kJ (aa b:Int) 64)) (aa b:Int)) (ao (FY.call (cut b (ae (cY .i64 (aa b:Int) (kJ (aa b:Int) 64))) ((aa b) - (ae (cY .i64 (aa b:Int) (kJ (aa b:Int) 64)))))) λj=>aA (decide (j.1<=(aa j.2))) (aA (cM (j.1+1) 1) (ao (Em.call (b,(j.1+1),(ag 32 0),((aJ j.1 j.2)++ [128]))) λA=>ao (ag8.call (A.2.1,(fO .i64 8 (aa A.1.1:Int)),A.2.2)) λI=>ao (first.call ()) λK=>ao (En.call (A.1.1,I.1,A.1.2,K,I.2)) λu=>aA (decide (0=0/\(0+u.1.1)<=(aa u.1.2.2))) (ao (Eo.call ((cut u.1.2.2 0 u.1.1),u.1.2.1,u.2)) λJ=>ao (Ep.call (0,J.1,J.2)) λB=>k (Ht.out B)) aC) aC) aC) aC:=bS
def aIA:(Ht.kA 0 Em):=by
 refine(Ht.lS 0 Em) (λ(b,m,n2,l)=>zc (aa l)) ?_
 rintro⟨b,m,n2,l⟩ ⟨rfl,u⟩;have u:aa l+zc (aa l)<=140737488355328:=u;have A:kJ ((aa l:Nat):Int) 64=((aa l%64:Nat):Int):=by unfold kJ;rw[jd aq];omega
 by_cases h:aa l%64=56
 .right;intro R B I;have j:zc (aa l)=0:=by unfold zc;omega
  rw[aao,A,bU aq];simp only[al,HV,TE,j,bY,List.replicate_zero,bm]
 .left;have j:zc (aa l)=zc (aa l+1)+1:=by unfold zc;omega
  refine⟨(b,aa l+1,n2,l++ [0]),⟨by simp,by simp only[aj,aB,bl,aO];omega⟩,by simp only[aj,aB,bl,aO];omega,?_,λB I=> ?_⟩
  .simp only[HV,TE,aj,aB,bl,aO,j,aR,iP,bf,uX];rw[show aa l+1+zc (aa l+1)=aa l+(zc (aa l+1)+1) by omega]
  .rw[aao,A,dj aq,LL aq];simp only[ai,ax,bE,bI]
def aIB:(Ht.kA 1 En):=by
 refine(Ht.lS 1 En) (λ(b,m,n2,h,l)=>aa b) ?_
 rintro⟨b,m,n2,h,l⟩ ⟨s,rfl⟩;by_cases A:64<=aa b
 .left;have j:cut b 64 (aa b - 64)=b.drop 64:=by unfold cut;rw[bp (by simp)]
  have u:cut b 0 64=b.take 64:=rfl;have B:ayx (s.l,b.take 64):=⟨⟨s,rfl⟩,by simp;omega⟩;refine⟨(b.drop 64,m,n2,(aey s (b.take 64)).l,l),⟨_,rfl⟩,by simp;omega,?_,λI J=> ?_⟩
  .simp only[HW,TF,rK];rw[PO s b A]
  .rw[aap,fE aq,l9 aq aq,j,u];simp only[ai,aND B,ah,bt,aNC,rK]
 .right;intro R I J;rw[aap,ed aq];simp only[al,HW,TF,rK];rw[L9 s b aq]
def aIC:(Ht.kA 2 Eo):=by
 refine(Ht.lS 2 Eo) (λ(b,n2,h)=>aa b) ?_
 rintro⟨b,n2,h⟩ ⟨j,s,rfl⟩;have j:aa b%64=0:=j;by_cases K:0 < aa b
 .left;have u:cut b 64 (aa b - 64)=b.drop 64:=by unfold cut;rw[bp (by simp)]
  have A:cut b 0 64=b.take 64:=rfl;have B:ayx (s.l,b.take 64):=⟨⟨s,rfl⟩,by simp;omega⟩;refine⟨(b.drop 64,n2,(aey s (b.take 64)).l),⟨by simp;omega,_,rfl⟩,by simp;omega,?_,λI J=> ?_⟩
  .simp only[HX,TG,rK];rw[PO s b aq]
  .rw[aaq,cW aq,l9 aq aq,u,A];simp only[ai,aND B,ah,bt,aNC,rK]
 .right;intro R I J;rw[aaq,ct aq];simp only[al,HX,TG,rK];rw[L9 s b aq]
def aID:(Ht.kA 3 Ep):=by
 refine(Ht.lS 3 Ep) (λ(t,n2,h)=>32 - t.toNat) ?_
 rintro⟨t,m,h⟩ ⟨u,j,k,hk,rfl⟩;have u:aa m=32:=u;have j:aa h=8:=j;have A:ae (k:Int)=k:=aq;have K:ae ((k+1:Nat):Int)=k+1:=aq;by_cases M:k < 32
 .left;have J:bC .i64 (k:Int) 1=((k+1:Nat):Int):=by rw[eS aq aq];omega
  have q4:yp .i64 (k:Int) 4=((k / 4:Nat):Int):=by
   have:(k:Int).tdiv 4=((k / 4:Nat):Int):=by rw[Int.tdiv_eq_ediv_of_nonneg aq];omega
   unfold yp;rw[this,yX aq aq]
  have r4:kJ (k:Int) 4=((k%4:Nat):Int):=by unfold kJ;rw[jd aq];omega
  have s4:cY .i64 24 (fO .i64 8 ((k%4:Nat):Int))=((24 - 8*(k%4):Nat):Int):=by rw[Ct aq aq,eO aq aq];omega
  have L:ae ((k / 4:Nat):Int)=k / 4:=aq;refine⟨(((k+1:Nat):Int),m.set k (UD h k m[k]),h),⟨by simpa using u,j,k+1,aq,rfl⟩,by simp;omega,?_,λO T=> ?_⟩
  .simp only[bt,TH,A,K];rw[TC (UD h) m k aq]
  .have B:decide (k < 32)=bn:=aK M;have I:decide (k / 4 < 8)=bn:=aK aq;rw[aar,aN aq,q4,r4,s4,aS aq aq,aS aq aq,xI aq];simp only[J,A,L,j6,aO,bY,bE,ai,u,j,B,I,UD]
 .right;obtain rfl:k=32:=aq;intro R O T;rw[aar,aL aq];simp only[al,bt,TH,A];rw[aaj _ _ _ aq]
def aRE(w:W):bF 8 (vw w)=w.setWidth 8:=by apply BitVec.eq_of_toNat_eq;rw[wy,BitVec.toNat_setWidth];unfold vw;omega
def biB(w:W)(k:Int):eD .u8 (cI .u32 (vw w) k)=vw ((w >>> k.toNat).setWidth 8):=by rw[Qj,aeh,aRE]
def aNQ(s:St):from_ (UD s.l) 0 (ag 32 0)=bfP s:=by rw[alZ];simp only[List.range_eq_range',List.range',cq,gm,UD,Nat.reduceAdd,Nat.reduceDiv,Nat.reduceMod,Nat.reduceMul,Nat.reduceSub,n0,n1,n2,n3,n4,n5,n6,n7,biB];rfl
def beV:Ht.Ok:=by
 intro b K;have K:aa b<=140737488350000:=K;have hr:kJ ((aa b:Nat):Int) 64=((aa b%64:Nat):Int):=by unfold kJ;rw[jd aq];omega
 have O:cY .i64 ((aa b:Nat):Int) ((aa b%64:Nat):Int)=((aa b - aa b%64:Nat):Int):=by rw[eO aq aq];omega
 have M:ae ((aa b - aa b%64:Nat):Int)=aa b - aa b%64:=aq;have hm:fO .i64 8 ((aa b:Nat):Int)=8*(aa b:Int):=Ct aq aq;generalize hq:aa b - aa b%64=q at O M;have hc:cut b q (aa b - q)=b.drop q:=by unfold cut;rw[bp (by simp)]
 have B:aa (b.drop q)=aa b%64:=by simp;omega
 have p1:alc (b.drop q):=by show aa (b.drop q)<=_;omega
 rw[beU,hr,O,l9 aq aq,M,hc];simp only[ai,W8 p1,ah,bt,PW,ax,bE,bI];have p2:agX (b,aa (b.drop q)+1,ag 32 0,b.drop q++ [128]):=by refine⟨by simp,?_⟩;simp only[aj,aB,bl,zc];omega
 have hz:zc (aa (b.drop q++ [128]))=Gw (aa b):=by simp only[aj,aB,bl,zc,Gw];omega
 rw[LL aq];simp only[ai,aCT p2,ah,HV,TE,hm,hz];have u:aa (b.drop q++ [128])+Gw (aa b)=aa (b.drop q++ [128]++ag (Gw (aa b)) 0):=by rw[@aj _ (b.drop q++ [128]),cT]
 have p3:aev (aa (b.drop q++ [128])+Gw (aa b),8*(aa b:Int),b.drop q++ [128]++ag (Gw (aa b)) 0):=by refine⟨u,?_⟩;simp only[aj,aB,bl,cT,Gw];omega
 have p4:agY (b,aa (b.drop q++ [128]++ag (Gw (aa b)) 0)+8,ag 32 0,wI.l,b.drop q++ [128]++ag (Gw (aa b)) 0++jI (8*(aa b:Int))):=⟨wI,rfl⟩;simp only[auo p3,ah,bt,aj1,aQz (d:=()) trivial,bt,aNa,aCU p4,HW,TF,rK];generalize L:b.drop q++ [128]++ag (Gw (aa b)) 0++jI (8*(aa b:Int))=e;have j:aa (b.drop q++ [128]++ag (Gw (aa b)) 0)+8=aa e:=by rw[<-L,@aj _ _ (jI _),cC]
 have J:aa e%64=0:=by rw[<-j];simp only[aj,aB,bl,cT,Gw,B];omega
 have I:cut e 0 (aa (b.drop q++ [128]++ag (Gw (aa b)) 0)+8)=e:=by rw[j];unfold cut;rw[aH,bI]
 rw[I,j,aK ⟨trivial,aq⟩];have p5:agZ (e,ag 32 0,(blocks wI b).l):=⟨J,blocks wI b,rfl⟩;have p6:ag0 (0,ag 32 0,(blocks (blocks wI b) e).l):=⟨rfl,rfl,0,aq,rfl⟩;simp only[ai,aCV p5,ah,HX,TG,rK,aCW p6,bt,TH,bt,aIz];rw[show ae 0=0 from rfl,aNQ];have A:blocks wI (pad b)=blocks (blocks wI b) e:=by
  have T:pad b=b.take q++e:=by rw[<-L];unfold pad;rw[aR,aR,<-aR (b.take q),ee];rfl
  have h2:blocks wI b=blocks (blocks wI (b.take q)) (b.drop q):=by rw[<-UA _ _ _ (by simp;omega),ee]
  rw[T,UA _ _ _ (by simp;omega),h2,L9 _ (b.drop q) aq]
 rw[bj6,A]
def aXY:Ht.RS:=rE [.d tB] Ht
def beW:=Ht.eQ beV 4 ⟨.eg aIA,⟨.eg aIB,⟨.eg aIC,⟨.eg aID,trivial⟩⟩⟩⟩
abbrev aeg:=Nat×(List Bs)×Int×Int×Bs×(List Int)
abbrev aud:=Nat×(List Int)
def HY:aeg->aud->((Bs)×(Nat×(List Int))):=λ(I,u,A,B,n4,j) y=>(n4,y)
abbrev aXZ:=ByteArray×(List Bs)
def ag1:aeg->Prop:=λ(m,j,n,i,n4,l)=>m=aa l/\n=aa j/\aa j<=140737488350000/\∃k:Nat,k<=aa j/\i=k/\aa l+aa (rS (j.drop k))<=140737488350000
def TI:aeg->aud:=λ(m,j,n,i,n4,l)=>(aa l+aa (rS (j.drop i.toNat)),l++rS (j.drop i.toNat))
def aat:aXZ->Prop:=λ(j,u)=>aa (afS (bX j) u)<=140737488350000
def ax4:aXZ->Bs:=λ(j,u)=>tag (bX j) u
def Er:Ls ag1 HY TI:=rI (λ(I,u,A,B,n4,j)=>⟨(aP 4 ([eI 4,uJ 10 I]++aP 7 ([.d (.slice tB) u,aU A,aU B]++aP 12 []))),[],(bz 4 ([dp (fW n4)]++bz 5 ([dp (vn j)]++bz 17 [])))⟩) (λx=>(.exit 0,⟨(aP 4 ([eI 4,uJ 10 x.2.1]++aP 22 [])),[],(bz 4 ([dp (fW x.1)]++bz 5 ([dp (vn x.2.2)]++bz 17 [])))⟩))
def aef:Fs prog aat bt ax4:=eP 106 f106 (λ(u,j)=>([.d .str u,.d (.slice tB) j],[])) (λx=>⟨.d tH x,[],[]⟩) [aw .str,aw (.slice tB)] [aYI,aDm,beW] {loops:=ko [(3,{aX:=[4,5,13,14,15],sites:=[4,10],owns:=[⟨5,[],10,125⟩]})],outs:=km [(3,{aX:=[4,5],sites:=[4,10]},{aX:=[4]})],eT:=jW [(3,Er.E)]}
def aCY:Er.RS:=rL [.n,.d (.slice tB),.d ti,.d ti,.d tB,.d tB] Er
def aas(J u B j n4 A)(K:K2 R)(L:K3 R):aef.R 0 Er (J,u,B,j,n4,A) K L=aA (fj j B) (aA (dB j (aa u:Int)) (ao (ag8.call (J,(((aa (nth tB u (ae j))):Nat):Int),A)) λI=>aA (decide (I.1<=(aa I.2))) (aA (cM (I.1+(aa (nth tB u (ae j)))) 1) (K (Er.st ((I.1+(aa (nth tB u (ae j)))),u,B,(bC .i64 j 1),n4,((aJ I.1 I.2)++(nth tB u (ae j)))))) aC) aC) aC) (Er.go L (n4,(J,A))):=bS
def beX(j u)(k:K1 R):aef.A (j,u) k=ao (amv.call (((ByteArray.size j):Nat):Int)) λA=>aA (decide (A.1<=(aa A.2))) (aA (cM (A.1+(aa (bX j))) 1) (ao (Er.call ((A.1+(aa (bX j))),u,(aa u:Int),0,(ag 32 0),((aJ A.1 A.2)++(bX j)))) λB=>aA (decide (0=0/\(0+B.2.1)<=(aa B.2.2))) (ao (Ht.call (cut B.2.2 0 B.2.1)) λI=>k (aef.out I)) aC) aC) aC:=bS
def av8(p:List Int)(j:List (List Int)):rS (p::j)=jI (aa p)++p++rS j:=by simp[rS]
def av9(j:List (List Int))(k:Nat)(h:k < aa j):rS (j.drop k)=jI j[k].length++j[k]++rS (j.drop (k+1)):=by rw[ak h,av8]
def aIE:(aef.kA 0 Er):=by
 refine(aef.lS 0 Er) (λ(m,j,n,i,n4,l)=>aa j - i.toNat) ?_
 rintro⟨m,j,n,i,n4,l⟩ ⟨rfl,rfl,u,k,I,rfl,J⟩;have J:aa l+aa (rS (j.drop k))<=140737488350000:=J;have I:k<=aa j:=I;have B:ae (k:Int)=k:=aq;have O:ae ((k+1:Nat):Int)=k+1:=aq;by_cases h:k < aa j
 .left;have L:=av9 j k h;have K:aa (rS (j.drop k))=8+j[k].length+aa (rS (j.drop (k+1))):=by rw[L];simp only[aj,cC]
  have T:nth (.slice (.int .u8)) j k=j[k]:=bG (t:= .slice (.int .u8)) h;have u:aa j<=140737488350000:=u;have M:bC .i64 (k:Int) 1=((k+1:Nat):Int):=by rw[eS aq aq];omega
  refine⟨(aa (l++jI j[k].length++j[k]),j,(aa j:Int),((k+1:Nat):Int),n4,l++jI j[k].length++j[k]),⟨rfl,rfl,u,k+1,by show k+1<=aa j;omega,rfl,?_⟩,?_,?_,λkn kx=> ?_⟩
  .show aa (l++jI j[k].length++j[k])+aa (rS (j.drop (k+1)))<=_;simp only[aj,cC];omega
  .show aa j - ae ((k+1:Nat):Int) < aa j - ae (k:Int);omega
  .simp only[HY,TI,B,O,L,aR];simp only[aj,cC,fP]
  .have p1:aev (aa l,(j[k].length:Int),l):=⟨rfl,by show aa l<=_;omega⟩;rw[aas,aN aq,aS aq aq,M,B];simp only[ai,T,auo p1,ah,bt,aj1];have A:aa (l++jI j[k].length)=aa l+8:=by simp[cC]
   rw[A,aK (ax _),LL aq];simp only[ai];rw[bp (by rw[A];omega)];simp only[aj,cC,fP]
 .right;obtain rfl:k=aa j:=aq;intro R kn kx;rw[aas,aL aq];simp only[al,HY,TI,B,ay];simp[rS]
def aqf:∀j:List (List Int),8*aa j<=aa (rS j)
 |[]=>by simp[rS]
 |p::j=>by rw[av8];have:=aqf j;simp only[aj,cC,aB];omega
def na(s:ByteArray):aa (bX s)=s.size:=by simp only[bX,cz,jl];rfl
def beY:aef.Ok:=by
 rintro⟨j,u⟩ B;have B:aa (jI (aa (bX j))++bX j++rS u)<=140737488350000:=B;have M:aa (jI (aa (bX j))++bX j++rS u)=8+aa (bX j)+aa (rS u):=by simp only[aj,cC]
 have J:=aqf u;have I:((j.size:Nat):Int)=((aa (bX j):Nat):Int):=by rw[na]
 rw[beX,aRd (d:=((j.size:Nat):Int)) trivial,I];simp only[ah,bt,aNw,cC,ax,bE,ai];rw[LL aq,bp (by rw[cC];omega)];have K:ag1 (8+aa (bX j),u,(aa u:Int),0,ag 32 0,jI (aa (bX j):Int)++bX j):=by refine⟨by simp only[aj,cC],rfl,by show aa u<=_;omega,0,az _,rfl,?_⟩;rw[aH];simp only[aj,cC];omega
 simp only[ai,aCY K,ah,HY,TI,aW,aH];have A:cut (jI (aa (bX j):Int)++bX j++rS u) 0 (aa (jI (aa (bX j):Int)++bX j)+aa (rS u))=afS (bX j) u:=by unfold cut;rw[aH,bp (by simp only[aj];omega)];rfl
 have L:aCX (afS (bX j) u):=B;rw[aK ⟨trivial,by simp only[aj];omega⟩,A];simp only[ai,aXY L,ah,bt,aIz,bt,ax4,tag]
def aau:aef.RS:=rE [.d .str,.d (.slice tB)] aef
def ajR:=aef.eQ beY 1 ⟨.eg aIE,trivial⟩
def avW:(Int×Int)->Prop:=λ(x,n)=>0<=x/\x < 4294967296/\0<=n/\n<=32
def bgD:(Int×Int)->Int:=λ(x,n)=>vw (A7 (bF 32 x) n.toNat)
def tl:Fs prog avW bt bgD:=eP 214 f214 (λ(x,n)=>([.d (.int .u32) x,aU n],[])) (λx=>⟨.d (.int .u32) x,[],[]⟩) [aw (.int .u32),aw ti]
def bbk(x n)(k:K1 R):tl.A (x,n) k=aA (oQ n) (aA (oQ (cY .i64 32 n)) (k (tl.out (cE .or .u32 (cI .u32 x n) (oO .u32 x (cY .i64 32 n))))) aC) aC:=bS
def bbl:tl.Ok:=by
 rintro⟨x,n⟩ ⟨j,u,I,A⟩;obtain⟨n,rfl⟩:=Int.eq_ofNat_of_zero_le I;have J:x=vw (bF 32 x):=by rw[jG];have j:0<=x:=j;have u:x < 4294967296:=u;omega
 have A:(n:Int)<=32:=A;rw[bbk];simp(disch:=omega) only[↓S1,↓av,↓au,av,au,bQ,bq,S2];have B:cE .or .u32 (cI .u32 x (n:Int)) (oO .u32 x ((32 - n:Nat):Int))=vw (A7 (bF 32 x) n):=by
  conv=>lhs;rw[J]
  rw[aaz,Qj,tQ];simp only[A7,ab];rw[BitVec.or_comm]
 rw[B];rfl
def aTf:tl.RS:=rE [.d (.int .u32),.d ti] tl
def aFD:=tl.eQ bbl
def G0(w:W){k:Int}(h:0<=k/\k<=32):tl.call (vw w,k)=aw (vw (A7 w k.toNat)):=by have h:avW (vw w,k):=⟨af4 w,by have:=bcr w;simpa using this,h.1,h.2⟩;rw[aTf h];show aw (vw (A7 (bF 32 (vw w)) k.toNat))=_;rw[aaT]
def aFk:Unit->Prop:=λ_=>True
def avC:Unit->(List Int):=λ_=>wI.l
def NA:Fs prog aFk bt avC:=eP 175 f175 (λ_=>([],[])) (λx=>⟨.d (.slice (.int .u32)) x,[],[]⟩) [] [] {cd:=[1],res:=[aw (.slice (.int .u32))]}
def aKT(d)(k:K1 R):NA.A d k=k (NA.out [1779033703,3144134277,1013904242,2773480762,1359893119,2600822924,528734635,1541459225]):=bS
def aKU:NA.Ok:=by intro d _;rw[aKT];rfl
def aFl:NA.RS:=rE [] NA
def aKV:=NA.eQ aKU
def aSG:Unit->Prop:=λ_=>True
def aOc:Unit->(List Int):=λ_=>aer
def aoK:Fs prog aSG bt aOc:=eP 213 f213 (λ_=>([],[])) (λx=>⟨.d (.slice (.int .u32)) x,[],[]⟩) [] [] {cd:=[1],res:=[aw (.slice (.int .u32))]}
def aZ9(d)(k:K1 R):aoK.A d k=k (aoK.out [1116352408,1899447441,3049323471,3921009573,961987163,1508970993,2453635748,2870763221,3624381080,310598401,607225278,1426881987,1925078388,2162078206,2614888103,3248222580,3835390401,4022224774,264347078,604807628,770255983,1249150122,1555081692,1996064986,2554220882,2821834349,2952996808,3210313671,3336571891,3584528711,113926993,338241895,666307205,773529912,1294757372,1396182291,1695183700,1986661051,2177026350,2456956037,2730485921,2820302411,3259730800,3345764771,3516065817,3600352804,4094571909,275423344,430227734,506948616,659060556,883997877,958139571,1322822218,1537002063,1747873779,1955562222,2024104815,2227730452,2361852424,2428436474,2756734187,3204031479,3329325298]):=bS
def baa:aoK.Ok:=by intro d _;rw[aZ9];rfl
def aSH:aoK.RS:=rE [] aoK
def bab:=aoK.eQ baa
abbrev NG:=Bs×Nat×(List Int)
abbrev ack:=Nat×(List Int)
def zP:NG->ack->((Bs)×(Nat×(List Int))):=λ(u,j,n6) y=>(u,y)
abbrev acm:=Nat×Int×Int×(List Int)
def RW:NG->Prop:=λ(b,m,l)=>m=aa l/\aa l+zc (aa l)<=140737488355328
def E1:NG->ack:=λ(b,m,l)=>(aa l+zc (aa l),l++ag (zc (aa l)) 0)
def RX:acm->Prop:=λ(m,n,u,l)=>0<=n/\n < 18446744073709551616/\∃j:Nat,j<=8/\u=56 - 8*(j:Int)/\m=aa l/\aa l<=140737488355320+j
def E2:acm->(Nat×(List Int)):=λ(m,n,j,l)=>(aa l+aa (jI n) - (7 - (j / 8)).toNat,l++(jI n).drop (7 - (j / 8)).toNat)
def aif:Bs->Prop:=λb=>aa b<=140737488350000
def afs:Bs->Bs:=λb=>pad b
def qE:Ls RW zP E1:=rI (λ(u,j,n6)=>⟨([fo u,bB,bB,uJ 6 j]++aP 31 []),[],(bz 6 ([dp (vn n6)]++bz 28 []))⟩) (λx=>(.exit 0,⟨([fo x.1,bB,bB,uJ 6 x.2.1]++aP 31 []),[],(bz 6 ([dp (vn x.2.2)]++bz 28 []))⟩))
def cK(j):=(.d tu j:aF)
def qF:Ls RX bt E2:=rI (λ(u,n,A,j)=>⟨([bB,bB,bB,uJ 6 u,cK n,aU A]++aP 29 []),[],(bz 6 ([dp (vn j)]++bz 28 []))⟩) (λx=>(.exit 2,⟨([bB,bB,bB,uJ 6 x.1]++aP 31 []),[],(bz 6 ([dp (vn x.2)]++bz 28 []))⟩))
def uF:Fs prog aif bt afs:=eP 174 f174 (λb=>([.d tB b],[])) (λx=>⟨.d tB x,[],[]⟩) [aw tB] [] {cd:=[6],loops:=ko [(3,{aX:=[0,3],sites:=[6],owns:=[⟨3,[],6,125⟩]}),(7,{aX:=[3,4,5],sites:=[6],owns:=[⟨3,[],6,125⟩]})],outs:=km [(3,{aX:=[0,3],sites:=[6]},{aX:=[2]}),(7,{aX:=[3],sites:=[6]},{aX:=[2]})],eT:=jW [(3,qE.E),(7,qF.E)],res:=[aw tB]}
def apI:qE.RS:=rL [.d tB,.n,.d tB] qE
def OU(u j n6)(A:K2 R)(B:K3 R):uF.R 0 qE (u,j,n6) A B=aA (pb (kJ ((j:Nat):Int) 64) 56) (aA (decide (j<=(aa n6))) (aA (cM (j+1) 1) (A (qE.st (u,(j+1),((aJ j n6)++ [0])))) aC) aC) (qE.go B (u,(j,n6))):=bS
def apJ:qF.RS:=rL [.n,.d tu,.d ti,.d tB] qF
def OV(u n A j)(B:K2 R)(I:K3 R):uF.R 1 qF (u,n,A,j) B I=aA (DA A 0) (aA (oQ A) (aA (decide (u<=(aa j))) (aA (cM (u+1) 1) (B (qF.st ((u+1),n,(cY .i64 A 8),((aJ u j)++ [(eD .u8 (cI .u64 n A))])))) aC) aC) aC) (qF.go I (u,j)):=bS
def aK4(b)(k:K1 R):uF.A b k=aA (cM (0+(aa b)) 1) (aA (decide ((0+(aa b))<=(aa ((aJ 0 (ag 0 0))++b)))) (aA (cM ((0+(aa b))+1) 1) (ao (qE.call (b,((0+(aa b))+1),((aJ (0+(aa b)) ((aJ 0 (ag 0 0))++b))++ [128]))) λu=>ao (qF.call (u.2.1,(fO .u64 8 (eD .u64 (aa u.1:Int))),56,u.2.2)) λj=>aA (decide (0=0/\(0+j.1)<=(aa j.2))) (k (uF.out (cut j.2 0 j.1))) aC) aC) aC) aC:=bS
def asA:(uF.kA 0 qE):=by
 refine(uF.lS 0 qE) (λ(b,m,l)=>zc (aa l)) ?_
 rintro⟨b,m,l⟩ ⟨rfl,u⟩;have u:aa l+zc (aa l)<=140737488355328:=u;by_cases h:aa l%64=56
 .right;intro R A B;have j:zc (aa l)=0:=by unfold zc;omega
  rw[OU];simp(disch:=omega) only[↓S1,↓av,↓au,av,au,bQ,bq,S2,zP,E1,j,bY,List.replicate_zero,bm]
 .left;have j:zc (aa l)=zc (aa l+1)+1:=by unfold zc;omega
  refine⟨(b,aa l+1,l++ [0]),⟨by simp,by simp only[aj,aB,bl,aO];omega⟩,by simp only[aj,aB,bl,aO];omega,?_,λA B=> ?_⟩
  .simp only[zP,E1,aj,aB,bl,aO,j,aR,iP,bf,uX];rw[show aa l+1+zc (aa l+1)=aa l+(zc (aa l+1)+1) by omega]
  .rw[OU];simp(disch:=omega) only[↓S1,↓av,↓au,av,au,bQ,bq,S2,bI]
def aBg(n:Int)(j:Nat)(h:j < 8):(jI n).drop j=n / 2^(56 - 8*j)%256::(jI n).drop (j+1):=by rcases(by omega:j=0\/j=1\/j=2\/j=3\/j=4\/j=5\/j=6\/j=7) with rfl | rfl | rfl | rfl | rfl | rfl | rfl | rfl <;> simp[jI]
def aqM(n:Int)(k:Nat)(j:k<=64):eD .u8 (cI .u64 n (k:Int))=n / 2^k%256:=by
 rw[aeh,jG,cI];have e:min (k:Int).toNat IntKind.u64.bits=k:=by simp only[IntKind.bits];omega
 rw[e,Int.fdiv_eq_ediv_of_nonneg _ (Int.le_of_lt (Int.pow_pos aq))];rfl
def asB:(uF.kA 1 qF):=by
 refine(uF.lS 1 qF) (λ(m,n,B,l)=>(B+8).toNat) ?_
 rintro⟨m,n,B,l⟩ ⟨L,M,j,hj,rfl,rfl,A⟩;have A:aa l<=140737488355320+j:=A;have u:(7 - ((56 - 8*(j:Int)) / 8)).toNat=j:=aq;by_cases h:j < 8
 .left;have I:cY .i64 (56 - 8*(j:Int)) 8=56 - 8*((j+1:Nat):Int):=by rw[eO aq aq];omega
  have J:(7 - ((56 - 8*((j+1:Nat):Int)) / 8)).toNat=j+1:=aq;have K:(56 - 8*(j:Int))=((56 - 8*j:Nat):Int):=aq;refine⟨(aa l+1,n,56 - 8*((j+1:Nat):Int),l++ [n / 2^(56 - 8*j)%256]),⟨L,M,j+1,aq,rfl,by simp,by simp only[aj,aB,bl];omega⟩,by simp only;omega,?_,λO T=> ?_⟩
  .simp only[bt,E2,u,J,aBg n j h,aj,aB,bl,aR,iP,bf,cC];rw[show aa l+(0+1)+8 - (j+1)=aa l+8 - j by omega]
  .rw[OV,I,K,aqM n _ aq];simp(disch:=omega) only[↓S1,↓av,↓au,av,au,bQ,bq,S2,bI]
 .right;obtain rfl:j=8:=aq;intro R O T;rw[OV];simp(disch:=omega) only[↓S1,↓av,↓au,av,au,bQ,bq,S2,bt,E2,u];simp[jI]
def aK5:uF.Ok:=by
 intro b A;have A:aa b<=140737488350000:=A;have B:zc (aa (b++ [128]))=Gw (aa b):=by simp only[aj,aB,bl,zc,Gw];omega
 have I:Gw (aa b) < 64:=by unfold Gw;omega
 have M:RW (b,aa b+1,b++ [128]):=⟨by simp,by rw[B];simp only[aj,aB,bl] <;> omega⟩;have j:eD .u64 ((aa b:Nat):Int)=((aa b:Nat):Int):=by rw[ajT,jG];omega
 have u:fO .u64 8 ((aa b:Nat):Int)=8*(aa b:Int):=by unfold fO;rw[wrap_u64,jG];omega
 have J:aJ (aa b) b=b:=bI;rw[aK4];simp only[List.replicate_zero,List.take_nil,bf,aO,j,u,J];simp(disch:=omega) only[↓S1,↓av,↓au,av,au,bQ,bq,S2,apI M,zP,E1,B];have O:RX (aa (b++ [128])+Gw (aa b),8*(aa b:Int),56,b++ [128]++ag (Gw (aa b)) 0):=by refine⟨aq,aq,0,aq,rfl,by simp only[aj,aB,bl,cT] <;> omega,?_⟩;simp only[aj,aB,bl,cT];omega
 simp(disch:=omega) only[↓S1,↓av,↓au,av,au,bQ,bq,S2,j,u,apJ O,bt,E2];have K:(7 - ((56:Int) / 8)).toNat=0:=fm;rw[K,aH];have L:aa (b++ [128]++ag (Gw (aa b)) 0)+aa (jI (8*(aa b:Int))) - 0=aa (b++ [128]++ag (Gw (aa b)) 0++jI (8*(aa b:Int))):=by rw[@aj _ _ (jI _)];omega
 rw[L,av (ax _)];unfold cut;rw[aH,bI];simp only[bt,afs,pad,aR,iP,bf]
def aFu:uF.RS:=rE [.d tB] uF
def aK6:=uF.eQ aK5 2 ⟨.eg asA,⟨.eg asB,trivial⟩⟩
abbrev ain:=Bs×Nat×Int×(List Int)
abbrev aio:=Nat×Int×(List Int)
def V5:ain->Prop:=λ(b,m,i,l)=>64<=aa b/\∃k:Nat,k<=16/\i=k/\k=m/\l=wl ((words b).take k)
def R5:ain->(Nat×(List Int)):=λ(b,m,i,l)=>(16,wl (words b))
def V6:aio->Prop:=λ(m,i,l)=>∃ws:List W,16<=aa ws/\aa ws<=64/\l=wl ws/\m=aa ws/\i=(aa ws:Nat)
def I3:aio->(Nat×(List Int)):=λ(m,i,l)=>(64,wl (bc9 (bcj l) (64 - aa l)))
def apQ:Bs->Prop:=λb=>64<=aa b
def apP:Bs->(List Int):=λb=>wl (sched b)
def ahC(j):=(.vec 237 (.int .u32) j:aF)
def uH:Ls V5 bt R5:=rI (λ(u,A,i,j)=>⟨([fo u,bB,bB,uJ 49 A,aU i]++aP 94 []),[],(bz 49 ([dp (ahC j)]++bz 49 []))⟩) (λx=>(.exit 0,⟨([bB,bB,bB,uJ 49 x.1]++aP 95 []),[],(bz 49 ([dp (ahC x.2)]++bz 49 []))⟩))
def uI:Ls V6 bt I3:=rI (λ(j,A,u)=>⟨([bB,bB,bB,uJ 49 j,bB,aU A]++aP 93 []),[],(bz 49 ([dp (ahC u)]++bz 49 []))⟩) (λx=>(.exit 2,⟨([bB,bB,bB,uJ 49 x.1]++aP 95 []),[],(bz 49 ([dp (ahC x.2)]++bz 49 []))⟩))
def A8:Fs prog apQ bt apP:=eP 212 f212 (λb=>([.d tB b],[])) (λx=>⟨.d (.slice (.int .u32)) x,[],[]⟩) [aw tB] [aFD] {loops:=ko [(3,{aX:=[0,3,4],sites:=[49],owns:=[⟨3,[],49,234⟩]}),(7,{aX:=[3,5],sites:=[49],owns:=[⟨3,[],49,234⟩]})],outs:=km [(3,{aX:=[3],sites:=[49]},{aX:=[2]}),(7,{aX:=[3],sites:=[49]},{aX:=[2]})],eT:=jW [(3,uH.E),(7,uI.E)],res:=[aw (.slice (.int .u32))]}
def asD:uH.RS:=rL [.d tB,.n,.d ti,.d (.slice (.int .u32))] uH
def R6(j A i u)(B:K2 R)(I:K3 R):A8.R 0 uH (j,A,i,u) B I=aA (fj i 16) (aA (dB (fO .i64 4 i) (aa j:Int)) (aA (dB (bC .i64 (fO .i64 4 i) 1) (aa j:Int)) (aA (dB (bC .i64 (fO .i64 4 i) 2) (aa j:Int)) (aA (dB (bC .i64 (fO .i64 4 i) 3) (aa j:Int)) (aA (decide (A<=(aa u))) (aA (cM (A+1) 4) (B (uH.st (j,(A+1),(bC .i64 i 1),((aJ A u)++ [(cE .or .u32 (cE .or .u32 (cE .or .u32 (oO .u32 (eD .u32 (nth tb j (ae (fO .i64 4 i)))) 24) (oO .u32 (eD .u32 (nth tb j (ae (bC .i64 (fO .i64 4 i) 1)))) 16)) (oO .u32 (eD .u32 (nth tb j (ae (bC .i64 (fO .i64 4 i) 2)))) 8)) (eD .u32 (nth tb j (ae (bC .i64 (fO .i64 4 i) 3)))))])))) aC) aC) aC) aC) aC) aC) (uH.go I (A,u)):=bS
def asE:uI.RS:=rL [.n,.d ti,.d (.slice (.int .u32))] uI
def R7(u j A)(B:K2 R)(I:K3 R):A8.R 1 uI (u,j,A) B I=aA (fj j 64) (aA (dB (cY .i64 j 15) ((u:Nat):Int)) (aA (decide ((0+(ae (cY .i64 j 15))) < (aa A))) (aA (decide ((((0+(ae (cY .i64 j 15)))*1)+0)=(0+((ae (cY .i64 j 15))*1)))) (aA (dB (cY .i64 j 2) ((u:Nat):Int)) (aA (decide ((0+(ae (cY .i64 j 2))) < (aa A))) (aA (decide ((((0+(ae (cY .i64 j 2)))*1)+0)=(0+((ae (cY .i64 j 2))*1)))) (ao (tl.call ((nth (.int .u32) A (0+(ae (cY .i64 j 15)))),7)) λJ=>ao (tl.call ((nth (.int .u32) A (0+(ae (cY .i64 j 15)))),18)) λK=>ao (tl.call ((nth (.int .u32) A (0+(ae (cY .i64 j 2)))),17)) λL=>ao (tl.call ((nth (.int .u32) A (0+(ae (cY .i64 j 2)))),19)) λM=>aA (dB (cY .i64 j 16) ((u:Nat):Int)) (aA (decide ((0+(ae (cY .i64 j 16))) < (aa A))) (aA (decide ((((0+(ae (cY .i64 j 16)))*1)+0)=(0+((ae (cY .i64 j 16))*1)))) (aA (dB (cY .i64 j 7) ((u:Nat):Int)) (aA (decide ((0+(ae (cY .i64 j 7))) < (aa A))) (aA (decide ((((0+(ae (cY .i64 j 7)))*1)+0)=(0+((ae (cY .i64 j 7))*1)))) (aA (decide (u<=(aa A))) (aA (cM (u+1) 4) (B (uI.st ((u+1),(bC .i64 j 1),((aJ u A)++ [(bC .u32 (bC .u32 (bC .u32 (nth (.int .u32) A (0+(ae (cY .i64 j 16)))) (cE .xor .u32 (cE .xor .u32 J K) (cI .u32 (nth (.int .u32) A (0+(ae (cY .i64 j 15)))) 3))) (nth (.int .u32) A (0+(ae (cY .i64 j 7))))) (cE .xor .u32 (cE .xor .u32 L M) (cI .u32 (nth (.int .u32) A (0+(ae (cY .i64 j 2)))) 10)))])))) aC) aC) aC) aC) aC) aC) aC) aC) aC) aC) aC) aC) aC) aC) (uI.go I (u,A)):=bS
def aTk(b)(k:K1 R):A8.A b k=ao (uH.call (b,0,0,([]:List Int))) λu=>ao (uI.call (u.1,16,u.2)) λj=>aA (decide (0=0/\(0+j.1)<=(aa j.2))) (k (A8.out (cut j.2 0 j.1))) aC:=bS
def FG(ws:List W):aa (wl ws)=aa ws:=by simp[wl]
def aOV(m:List W):∀n,bc9 (ext m) n=bc9 m (n+1)
 | 0=>rfl
 |n+1=>by rw[bc9,aOV m n];rfl
def biq(b:List Int)(k:Nat)(h:4*k+3 < aa b):be b k=bld (nth (.int .u8) b (4*k)) (nth (.int .u8) b (4*k+1)) (nth (.int .u8) b (4*k+2)) (nth (.int .u8) b (4*k+3)):=rfl
def azM:(A8.kA 0 uH):=by
 refine(A8.lS 0 uH) (λ(b,m,i,l)=>16 - m) ?_
 rintro⟨b,m,i,l⟩ ⟨j,k,I,rfl,rfl,rfl⟩;have j:64<=aa b:=j;have u:aa (wl ((words b).take k))=k:=by rw[FG,bw,fI];omega
 by_cases h:k < 16
 .left;refine⟨(b,k+1,((k+1:Nat):Int),wl ((words b).take (k+1))),⟨j,k+1,aq,rfl,rfl,rfl⟩,by simp only;omega,rfl,λA B=> ?_⟩;rw[R6];simp(disch:=omega) only[↓S1,↓av,↓au,av,au,bQ,bq,S2,u,bp (pU u)];rw[jg (by rw[fI];exact h)];simp only[aNk,aaz,tQ,wl,qR,cq,gm];have e:(words b)[k]'(by rw[fI];exact h)=be b k:=by simp[words]
  rw[e,biq b k aq];rfl
 .right;obtain rfl:k=16:=aq;intro R A B;rw[R6];simp(disch:=omega) only[↓S1,↓av,↓au,av,au,bQ,bq,S2,bt,R5];rw[bp (by rw[fI];omega)]
def azN:(A8.kA 1 uI):=by
 refine(A8.lS 1 uI) (λ(m,i,l)=>64 - m) ?_
 rintro⟨m,i,l⟩ ⟨ws,I,J,rfl,rfl,rfl⟩;have j:=FG ws;by_cases h:aa ws < 64
 .left;refine⟨(aa ws+1,((aa ws+1:Nat):Int),wl (ext ws)),⟨ext ws,by rw[AF];omega,by rw[AF];omega,rfl,by rw[AF],by rw[AF]⟩,by simp only;omega,?_,λA B=> ?_⟩
  .simp only[bt,I3,NY,FG,AF];rw[aOV,show 64 - (aa ws+1)+1=64 - aa ws by omega]
  .rw[R7];simp(disch:=omega) only[↓S1,↓av,↓au,av,au,bQ,bq,S2,j,aO,j6,bY,af7 ws _ (by omega:aa ws - 15 < aa ws),af7 ws _ (by omega:aa ws - 2 < aa ws),af7 ws _ (by omega:aa ws - 16 < aa ws),af7 ws _ (by omega:aa ws - 7 < aa ws),G0,tQ,Qj,KN,bp (pU j)];unfold ext wl;rw[qR];rfl
 .right;have u:aa ws=64:=aq;intro R A B;rw[R7];simp(disch:=omega) only[↓S1,↓av,↓au,av,au,bQ,bq,S2,bt,I3,j,u,NY,Nat.sub_self];rfl
def aTl:A8.Ok:=by
 intro b j;have A:V5 (b,0,0,[]):=⟨j,0,aq,rfl,rfl,rfl⟩;have B:V6 (16,16,wl (words b)):=⟨words b,by rw[fI];omega,by rw[fI];omega,rfl,by rw[fI],by rw[fI];rfl⟩;have u:aa (sched b)=64:=by unfold sched;rw[Hp,fI]
 rw[aTk];simp(disch:=omega) only[↓S1,↓av,↓au,av,au,bQ,bq,S2,asD A,bt,R5,asE B,bt,I3,NY,FG,fI,aO,Nat.reduceSub];have e:bc9 (words b) 48=sched b:=rfl;rw[e,u,av (ax _)];unfold cut;rw[aH,bp (by rw[FG];omega)];simp only[bt,apP]
def aLe:A8.RS:=rE [.d tB] A8
def aTm:=A8.eQ aTl 2 ⟨.eg azM,⟨.eg azN,trivial⟩⟩
abbrev RB:=(List Int)×(List Int)×(List Int)×Nat×Int×(List Int)
abbrev ah1:=Nat×(List Int)
def J2:RB->ah1->(((List Int))×(Nat×(List Int))):=λ(j,I,A,B,i,u) y=>(j,y)
abbrev RE:=(List Int)×Nat×Int×(List Int)
def BN:RE->(List Int)->((Nat)×((List Int))):=λ(u,j,B,A) y=>(j,y)
def VQ:RB->Prop:=λ(h,u,j,m,i,l)=>∃(s:St) (ws:List W) (k:Nat),h=s.l/\u=wl ws/\aa ws=64/\k<=64/\i=k/\j=aer/\m=8/\l=(rounds ws s k).l
def RC:RB->ah1:=λ(h,j,u,m,i,l)=>(8,(rounds (bcj j) (az6 h) 64).l)
def VR:RE->Prop:=λ(h,m,i,l)=>aa h=8/\aa l=8/\m=8/\∃k:Nat,k<=8/\i=k
def Iv:RE->(List Int):=λ(h,m,i,l)=>from_ (λi x=>bC .u32 x (nth (.int .u32) h i)) i.toNat l
def aoT:((List Int)×Bs)->Prop:=λ(h,b)=>(∃s:St,h=s.l)/\64<=aa b
def aoS:((List Int)×Bs)->(List Int):=λ(h,b)=>(aey (az6 h) b).l
def ahB(j):=(.d (.slice (.int .u32)) j:aF)
def rr:Ls VQ J2 RC:=rI (λ(u,I,A,B,i,j)=>⟨([ahB u]++aP 4 ([ahB I,ahB A,uJ 18 B,aU i]++aP 146 [])),[],(bz 18 ([dp (ahC j)]++bz 136 []))⟩) (λx=>(.exit 0,⟨([ahB x.1]++aP 6 ([uJ 18 x.2.1]++aP 147 [])),[],(bz 18 ([dp (ahC x.2.2)]++bz 136 []))⟩))
def uB:Ls VR BN Iv:=rI (λ(u,j,B,A)=>⟨([ahB u]++aP 6 ([uJ 18 j]++aP 6 ([aU B]++aP 140 []))),[],(bz 18 ([dp (ahC A)]++bz 136 []))⟩) (λx=>(.exit 2,⟨(aP 7 ([uJ 18 x.1]++aP 147 [])),[],(bz 18 ([dp (ahC x.2)]++bz 136 []))⟩))
def AV:Fs prog aoT bt aoS:=eP 176 f176 (λ(h,b)=>([.d (.slice (.int .u32)) h,.d tB b],[])) (λx=>⟨.d (.slice (.int .u32)) x,[],[]⟩) [aw (.slice (.int .u32)),aw tB] [aTm,bab,aFD] {cd:=[18,137],loops:=ko [(5,{aX:=[0,5,6,7,8],sites:=[18,137],owns:=[⟨7,[],18,0⟩]}),(14,{aX:=[0,7,14],sites:=[18]})],outs:=km [(5,{aX:=[0,7],sites:=[18]},{aX:=[4]}),(14,{aX:=[7],sites:=[18]},{aX:=[4]})],eT:=jW [(5,rr.E),(14,uB.E)],res:=[aw (.slice (.int .u32))]}
def asw:rr.RS:=rL [.d (.slice (.int .u32)),.d (.slice (.int .u32)),.d (.slice (.int .u32)),.n,.d ti,.d (.slice (.int .u32))] rr
def RD(I B A u i j)(J:K2 R)(K:K3 R):AV.R 0 rr (I,B,A,u,i,j) J K=aA (fj i 64) (aA (dB 4 ((u:Nat):Int)) (aA (decide (4 < (aa j))) (ao (tl.call ((nth (.int .u32) j 4),6)) λL=>aA (dB 4 ((u:Nat):Int)) (aA (decide (4 < (aa j))) (ao (tl.call ((nth (.int .u32) j 4),11)) λM=>aA (dB 4 ((u:Nat):Int)) (aA (decide (4 < (aa j))) (ao (tl.call ((nth (.int .u32) j 4),25)) λO=>aA (dB 4 ((u:Nat):Int)) (aA (decide (4 < (aa j))) (aA (dB 5 ((u:Nat):Int)) (aA (decide (5 < (aa j))) (aA (dB 4 ((u:Nat):Int)) (aA (decide (4 < (aa j))) (aA (dB 6 ((u:Nat):Int)) (aA (decide (6 < (aa j))) (aA (dB 7 ((u:Nat):Int)) (aA (decide (7 < (aa j))) (aA (dB i (aa A:Int)) (aA (dB i (aa B:Int)) (aA (dB 0 ((u:Nat):Int)) (aA (decide (0 < (aa j))) (ao (tl.call ((nth (.int .u32) j 0),2)) λT=>aA (dB 0 ((u:Nat):Int)) (aA (decide (0 < (aa j))) (ao (tl.call ((nth (.int .u32) j 0),13)) λx5=>aA (dB 0 ((u:Nat):Int)) (aA (decide (0 < (aa j))) (ao (tl.call ((nth (.int .u32) j 0),22)) λx6=>aA (dB 0 ((u:Nat):Int)) (aA (decide (0 < (aa j))) (aA (dB 1 ((u:Nat):Int)) (aA (decide (1 < (aa j))) (aA (dB 0 ((u:Nat):Int)) (aA (decide (0 < (aa j))) (aA (dB 2 ((u:Nat):Int)) (aA (decide (2 < (aa j))) (aA (dB 1 ((u:Nat):Int)) (aA (decide (1 < (aa j))) (aA (dB 2 ((u:Nat):Int)) (aA (decide (2 < (aa j))) (aA (dB 0 ((u:Nat):Int)) (aA (decide (0 < (aa j))) (aA (dB 1 ((u:Nat):Int)) (aA (decide (1 < (aa j))) (aA (dB 2 ((u:Nat):Int)) (aA (decide (2 < (aa j))) (aA (dB 3 ((u:Nat):Int)) (aA (decide (3 < (aa j))) (aA (dB 4 ((u:Nat):Int)) (aA (decide (4 < (aa j))) (aA (dB 5 ((u:Nat):Int)) (aA (decide (5 < (aa j))) (aA (dB 6 ((u:Nat):Int)) (aA (decide (6 < (aa j))) (J (rr.st (I,B,A,8,(bC .i64 i 1),[(bC .u32 (bC .u32 (bC .u32 (bC .u32 (bC .u32 (bC .u32 (nth (.int .u32) j 7) (cE .xor .u32 (cE .xor .u32 L M) O)) (cE .xor .u32 (cE .and .u32 (nth (.int .u32) j 4) (nth (.int .u32) j 5)) (cE .and .u32 (bfg .u32 (nth (.int .u32) j 4)) (nth (.int .u32) j 6)))) (nth (.int .u32) A (ae i))) (nth (.int .u32) B (ae i))) (cE .xor .u32 (cE .xor .u32 T x5) x6)) (cE .xor .u32 (cE .xor .u32 (cE .and .u32 (nth (.int .u32) j 0) (nth (.int .u32) j 1)) (cE .and .u32 (nth (.int .u32) j 0) (nth (.int .u32) j 2))) (cE .and .u32 (nth (.int .u32) j 1) (nth (.int .u32) j 2)))),(nth (.int .u32) j 0),(nth (.int .u32) j 1),(nth (.int .u32) j 2),(bC .u32 (nth (.int .u32) j 3) (bC .u32 (bC .u32 (bC .u32 (bC .u32 (nth (.int .u32) j 7) (cE .xor .u32 (cE .xor .u32 L M) O)) (cE .xor .u32 (cE .and .u32 (nth (.int .u32) j 4) (nth (.int .u32) j 5)) (cE .and .u32 (bfg .u32 (nth (.int .u32) j 4)) (nth (.int .u32) j 6)))) (nth (.int .u32) A (ae i))) (nth (.int .u32) B (ae i)))),(nth (.int .u32) j 4),(nth (.int .u32) j 5),(nth (.int .u32) j 6)]))) aC) aC) aC) aC) aC) aC) aC) aC) aC) aC) aC) aC) aC) aC) aC) aC) aC) aC) aC) aC) aC) aC) aC) aC) aC) aC) aC) aC) aC) aC) aC) aC) aC) aC) aC) aC) aC) aC) aC) aC) aC) aC) aC) aC) aC) aC) aC) aC) aC) aC) (rr.go K (I,(u,j))):=bS
def asx:uB.RS:=rL [.d (.slice (.int .u32)),.n,.d ti,.d (.slice (.int .u32))] uB
def RF(A u j B)(I:K2 R)(J:K3 R):AV.R 1 uB (A,u,j,B) I J=aA (fj j 8) (aA (dB j ((u:Nat):Int)) (aA (decide ((0+(ae j)) < (aa B))) (aA (decide ((((0+(ae j))*1)+0)=(0+((ae j)*1)))) (aA (dB j (aa A:Int)) (aA (dB j ((u:Nat):Int)) (aA (decide ((0+(ae j)) < (aa B))) (aA (decide ((((0+(ae j))*1)+0)=(0+((ae j)*1)))) (aA (decide ((0+(ae j)) < (aa B))) (I (uB.st (A,u,(bC .i64 j 1),(gq B (0+(ae j)) (bC .u32 (nth (.int .u32) B (0+(ae j))) (nth (.int .u32) A (ae j))))))) aC) aC) aC) aC) aC) aC) aC) aC) (uB.go J (u,B)):=bS
def aSI(h b)(k:K1 R):AV.A (h,b) k=ao (A8.call b) λA=>ao (aoK.call ()) λB=>aA (cM (0+(aa h)) 4) (ao (rr.call (h,A,B,(0+(aa h)),0,((aJ 0 (ag 0 0))++h))) λu=>ao (uB.call (u.1,u.2.1,0,u.2.2)) λj=>aA (decide (0=0/\(0+j.1)<=(aa j.2))) (k (AV.out (cut j.2 0 j.1))) aC) aC:=bS
def aYi(w:W):bfg .u32 (vw w)=vw (~~~w):=by have e:(if IntKind.u32.signed then -1 else IntKind.u32.max:Int)=vw (BitVec.allOnes 32):=rfl;unfold bfg;rw[e,tQ];simp only[BitVec.allOnes_xor]
def bli(e f g:W):(e &&& f)^^^(~~~e &&& g)=g^^^(e &&& (f^^^g)):=by
 ext i j
 simp only[BitVec.getElem_xor,BitVec.getElem_and,BitVec.getElem_not];cases e[i] <;> cases f[i] <;> cases g[i] <;> rfl
def bjz(a b c:W):(a &&& b)^^^(a &&& c)^^^(b &&& c)=(a &&& b) ||| (c &&& (a ||| b)):=by
 ext i j
 simp only[BitVec.getElem_xor,BitVec.getElem_and,BitVec.getElem_or];cases a[i] <;> cases b[i] <;> cases c[i] <;> rfl
def azn:(AV.kA 0 rr):=by
 refine(AV.lS 0 rr) (λ(h,wv,I,m,i,l)=>64 - i.toNat) ?_
 rintro⟨h,wv,I,m,i,l⟩ ⟨s,ws,k,rfl,rfl,u,hk,rfl,rfl,rfl,rfl⟩;by_cases A:k < 64
 .left;refine⟨(s.l,wl ws,aer,8,((k+1:Nat):Int),(rounds ws s (k+1)).l),⟨s,ws,k+1,rfl,rfl,u,aq,rfl,rfl,rfl,rfl⟩,by simp only;omega,rfl,λj J=> ?_⟩;rw[RD];generalize B:rounds ws s k=v;have K:∀w:W,tl.call (vw w,6)=aw (vw (A7 w 6)):=λw=>G0 w aq
  have L:∀w:W,tl.call (vw w,11)=aw (vw (A7 w 11)):=λw=>G0 w aq
  have M:∀w:W,tl.call (vw w,25)=aw (vw (A7 w 25)):=λw=>G0 w aq
  have O:∀w:W,tl.call (vw w,2)=aw (vw (A7 w 2)):=λw=>G0 w aq
  have T:∀w:W,tl.call (vw w,13)=aw (vw (A7 w 13)):=λw=>G0 w aq
  have t6:∀w:W,tl.call (vw w,22)=aw (vw (A7 w 22)):=λw=>G0 w aq
  rw[n0,n1,n2,n3,n4,n5,n6,n7,K,ah,L,ah,M,ah,O,ah,T,ah,t6,ah];simp(disch:=omega) only[↓S1,↓av,↓au,av,au,bQ,bq,S2,St.aDf,ag4,FG,u,aDd k A,af7 ws k aq,tQ,KN,aYi,bli,bjz];show j _=j (rr.st (s.l,wl ws,aer,8,((k+1:Nat):Int),(lS (rounds ws s k) (kw k) (ws.getD k 0)).l));rw[B];rfl
 .right;obtain rfl:k=64:=aq;intro R j J;rw[RD];simp(disch:=omega) only[↓S1,↓av,↓au,av,au,bQ,bq,S2,J2,RC,NY,rK]
def azo:(AV.kA 1 uB):=by
 refine(AV.lS 1 uB) (λ(h,m,i,l)=>8 - i.toNat) ?_
 rintro⟨h,m,i,l⟩ ⟨j,u,rfl,k,K,rfl⟩;have u:aa l=8:=u;have j:aa h=8:=j;by_cases J:k < 8
 .left;have A:nth (.int .u32) l k=l[k]:=bG (t:= .int .u32) aq;refine⟨(h,8,((k+1:Nat):Int),l.set k (bC .u32 l[k] (nth (.int .u32) h k))),⟨j,by simpa using u,rfl,k+1,aq,rfl⟩,by simp only;omega,?_,λB I=> ?_⟩
  .simp only[BN,Iv,ab];rw[TC (λi x=>bC .u32 x (nth (.int .u32) h i)) l k aq]
  .rw[RF];simp(disch:=omega) only[↓S1,↓av,↓au,av,au,bQ,bq,S2,u,j,aO,j6,bY,A]
 .right;obtain rfl:k=8:=aq;intro R B I;rw[RF];simp(disch:=omega) only[↓S1,↓av,↓au,av,au,bQ,bq,S2,BN,Iv];rw[aaj _ _ _ aq]
def bjA(s:St)(b:List Int):from_ (λi x=>bC .u32 x (nth (.int .u32) s.l i)) 0 (rounds (sched b) s 64).l=(aey s b).l:=by unfold aey;generalize rounds (sched b) s 64=v;obtain⟨j,u,A,B,I,J,K,L⟩:=v;simp only[St.l,from_,List.mapIdx_cons,List.mapIdx_nil,Nat.not_lt_zero,bq,aO,Nat.reduceAdd];simp only[nth,List.getD_cons_zero,List.getD_cons_succ,KN]
def aSJ:AV.Ok:=by
 rintro⟨h,b⟩ ⟨⟨s,rfl⟩,J⟩;have K:apQ b:=J;have j:aa (sched b)=64:=by unfold sched;rw[Hp,fI]
 have L:VQ (s.l,wl (sched b),aer,8,0,s.l):=⟨s,sched b,0,rfl,rfl,j,aq,rfl,rfl,rfl,rfl⟩;have M:VR (s.l,8,0,(rounds (sched b) s 64).l):=⟨rfl,rfl,rfl,0,aq,rfl⟩;have u:0+aa s.l=8:=rfl;have A:aJ 0 (ag 0 (0:Int))++s.l=s.l:=rfl;rw[aSI];simp(disch:=omega) only[↓S1,↓av,↓au,av,au,bQ,bq,S2,aLe K,bt,apP,aSH (d:=()) trivial,bt,aOc,u,A,asw L,J2,RC,NY,rK,asx M,BN,Iv,aW,bjA];have B:(aey s b).l.length=8:=rfl;have I:cut (aey s b).l 0 8=(aey s b).l:=rfl;simp only[B,aO,ax,bQ,I,bt,aoS,rK]
def aKC:AV.RS:=rE [.d (.slice (.int .u32)),.d tB] AV
def aSK:=AV.eQ aSJ 2 ⟨.eg azn,⟨.eg azo,trivial⟩⟩
abbrev afy:=Bs×(List Int)×Int×Bs
def I0:afy->(List Int)->((Bs)×((List Int))):=λ(p,h,i,n2) y=>(n2,y)
abbrev afz:=(List Int)×Int×Bs×Bs
def I1:afz->Bs->((Bs)×(Bs)):=λ(u,A,j,n6) y=>(j,y)
def aik:afy->Prop:=λ(p,h,i,n2)=>aa p%64=0/\aa p<=140737488355328/\∃(s:St) (k:Nat),h=s.l/\i=((64*k:Nat):Int)/\64*k<=aa p
def T1:afy->(List Int):=λ(p,h,i,n2)=>(blocks (az6 h) (p.drop i.toNat)).l
def ail:afz->Prop:=λ(h,i,n2,l)=>aa h=8/\aa l=32/\∃k:Nat,k<=32/\i=k
def T3:afz->Bs:=λ(h,i,n2,l)=>from_ (UD h) i.toNat l
def aFA:Bs->Prop:=λb=>aa b<=140737488350000
def bj3:Bs->Bs:=λb=>bj6 b
def E3:Ls aik I0 T1:=rI (λ(p,h,i,n2)=>⟨([bB,bB,eI 2,fo p,ahB h,aU i]++aP 36 []),[],([[],[],dp (fW n2)]++bz 39 [])⟩) (λx=>(.exit 0,⟨([bB,bB,eI 2,bB,ahB x.2]++aP 37 []),[],([[],[],dp (fW x.1)]++bz 39 [])⟩))
def E4:Ls ail I1 T3:=rI (λ(j,u,A,n6)=>⟨([bB,bB,eI 2,bB,ahB j,bB,eI 6,aU u]++aP 34 []),[],([[],[],dp (fW A),[],[],[],dp (fW n6)]++bz 35 [])⟩) (λx=>(.exit 2,⟨([bB,bB,eI 2,bB,bB,bB,eI 6]++aP 35 []),[],([[],[],dp (fW x.1),[],[],[],dp (fW x.2)]++bz 35 [])⟩))
def afx:Fs prog aFA bt bj3:=eP 125 f125 (λb=>([.d tB b],[])) (λx=>⟨.d tH x,[],[]⟩) [aw tB] [aK6,aKV,aSK] {loops:=ko [(4,{aX:=[2,3,4,5],sites:=[2]}),(9,{aX:=[2,4,6,7],sites:=[2,6]})],outs:=km [(4,{aX:=[2,4],sites:=[2]},{aX:=[2]}),(9,{aX:=[2,6],sites:=[2,6]},{aX:=[2]})],eT:=jW [(4,E3.E),(9,E4.E)]}
def aFy:E3.RS:=rL [.d tB,.d (.slice (.int .u32)),.d ti,.d tB] E3
def acr(p h i n2)(j:K2 R)(u:K3 R):afx.R 0 E3 (p,h,i,n2) j u=aA (fj i (aa p:Int)) (aA (inc (bC .i64 i 64) (aa p:Int)) (aA (inc i (((ae (bC .i64 i 64)):Nat):Int)) (ao (AV.call (h,(cut p (ae i) ((ae (bC .i64 i 64)) - (ae i))))) λA=>j (E3.st (p,A,(bC .i64 i 64),n2))) aC) aC) (E3.go u (n2,h)):=bS
def aFz:E4.RS:=rL [.d (.slice (.int .u32)),.d ti,.d tB,.d tB] E4
def acs(u j A n6)(B:K2 R)(I:K3 R):afx.R 1 E4 (u,j,A,n6) B I=aA (fj j 32) (aA (dB (yp .i64 j 4) (aa u:Int)) (aA (oQ (cY .i64 24 (fO .i64 8 (kJ j 4)))) (aA (dB j 32) (aA (decide ((ae j) < (aa n6))) (aA (decide ((((ae j)*1)+0)=(0+((ae j)*1)))) (aA (decide ((ae j) < (aa n6))) (B (E4.st (u,(bC .i64 j 1),A,(gq n6 (ae j) (eD .u8 (cI .u32 (nth (.int .u32) u (ae (yp .i64 j 4))) (cY .i64 24 (fO .i64 8 (kJ j 4))))))))) aC) aC) aC) aC) aC) aC) (E4.go I (A,n6)):=bS
def bgy(b)(k:K1 R):afx.A b k=ao (uF.call b) λu=>ao (NA.call ()) λA=>ao (E3.call (u,A,0,(ag 32 0))) λj=>ao (E4.call (j.2,0,j.1,(ag 32 0))) λB=>k (afx.out B.2):=bS
def aLa:(afx.kA 0 E3):=by
 refine(afx.lS 0 E3) (λ(p,h,i,n2)=>aa p - i.toNat) ?_
 rintro⟨p,h,i,n2⟩ ⟨u,j,s,k,rfl,rfl,A⟩;have u:aa p%64=0:=u;have j:aa p<=140737488355328:=j;have A:64*k<=aa p:=A;by_cases O:64*k < aa p
 .left;have B:cut p (64*k) (64*k+64 - 64*k)=(p.drop (64*k)).take 64:=by unfold cut;rw[show 64*k+64 - 64*k=64 by omega]
  have I:(p.drop (64*k)).drop 64=p.drop (64*(k+1)):=by rw[iH];congr 1
  have J:(64*(k+1):Nat)=64*k+64:=aq;have M:aoT (s.l,(p.drop (64*k)).take 64):=⟨⟨s,rfl⟩,by simp;omega⟩;refine⟨(p,(aey s ((p.drop (64*k)).take 64)).l,((64*(k+1):Nat):Int),n2),⟨u,j,_,k+1,rfl,rfl,aq⟩,by simp only[ab];omega,?_,λK L=> ?_⟩
  .simp only[I0,T1,rK,ab];rw[PO s (p.drop (64*k)) (by simp;omega),I]
  .rw[acr];simp(disch:=omega) only[↓S1,↓av,↓au,av,au,bQ,bq,S2,B,aKC M,bt,aoS,rK,J]
 .right;intro R K L;rw[acr];simp(disch:=omega) only[↓S1,↓av,↓au,av,au,bQ,bq,S2,I0,T1,rK];rw[L9 s _ (by simp;omega)]
def aLb:(afx.kA 1 E4):=by
 refine(afx.lS 1 E4) (λ(h,i,n2,l)=>32 - i.toNat) ?_
 rintro⟨h,i,n2,l⟩ ⟨j,u,k,J,rfl⟩;have u:aa l=32:=u;have j:aa h=8:=j;by_cases I:k < 32
 .left;refine⟨(h,((k+1:Nat):Int),n2,l.set k (UD h k l[k])),⟨j,by simpa using u,k+1,aq,rfl⟩,by simp only[ab];omega,?_,λA B=> ?_⟩
  .simp only[I1,T3,ab];rw[TC (UD h) l k aq]
  .rw[acs];simp(disch:=omega) only[↓S1,↓av,↓au,av,au,bQ,bq,S2,u,j,j6,bY,aO,UD]
 .right;obtain rfl:k=32:=aq;intro R A B;rw[acs];simp(disch:=omega) only[↓S1,↓av,↓au,av,au,bQ,bq,S2,I1,T3];rw[aaj _ _ _ aq]
def aJo(b:List Int):aa (pad b)%64=0/\aa (pad b)<=aa b+73:=by unfold pad;simp only[aj,aB,cT,cC,Gw];omega
def bgz:afx.Ok:=by intro b j;have j:aa b<=140737488350000:=j;have A:aif b:=j;obtain⟨u,J⟩:=aJo b;have B:aik (pad b,wI.l,0,ag 32 0):=⟨u,aq,wI,0,rfl,rfl,aq⟩;have I:ail ((blocks wI (pad b)).l,0,ag 32 0,ag 32 0):=⟨rfl,rfl,0,aq,rfl⟩;rw[bgy];simp(disch:=omega) only[↓S1,↓av,↓au,av,au,bQ,bq,S2,aFu A,bt,afs,aFl (d:=()) trivial,bt,avC,aFy B,I0,T1,rK,aW,aH,aFz I,I1,T3,aNQ];rfl
def bbf:afx.RS:=rE [.d tB] afx
def bgA:=afx.eQ bgz 2 ⟨.eg aLa,⟨.eg aLb,trivial⟩⟩
def aS3:Int->Prop:=λn=>0<=n/\n < 18446744073709551616
def aOs:Int->(Nat×(List Int)):=λn=>(8,jI n)
def V3:Fs prog aS3 bt aOs:=eP 124 f124 (λn=>([.d tu n],[])) (λx=>⟨.dq (.new 0 0) 0 [] 0 0 x.1,[],[.obj 0 aZ (.vec 5 tb x.2)]⟩) [aw tu] [] {loops:=ko [(3,{aX:=[0,3,4],sites:=[15]})],outs:=km [(3,{aX:=[3],sites:=[15]},{aX:=[2],sites:=[15]})],owns:=[⟨2,[],15,125⟩]} 10
def baU(n)(k:K1 R):V3.A n k=k (V3.out (8,[(eD .u8 (cI .u64 n 56)),(eD .u8 (cI .u64 n 48)),(eD .u8 (cI .u64 n 40)),(eD .u8 (cI .u64 n 32)),(eD .u8 (cI .u64 n 24)),(eD .u8 (cI .u64 n 16)),(eD .u8 (cI .u64 n 8)),(eD .u8 (cI .u64 n 0))])):=bS
def baV:V3.Ok:=by
 intro n _;have e:∀k:Nat,k<=64->eD .u8 (cI .u64 n (k:Int))=n / 2^k%256:=λk M=>aqM n k M
 rw[baU];have K:eD .u8 (cI .u64 n 56)=n / 2^56%256:=e 56 aq;have J:eD .u8 (cI .u64 n 48)=n / 2^48%256:=e 48 aq;have I:eD .u8 (cI .u64 n 40)=n / 2^40%256:=e 40 aq;have B:eD .u8 (cI .u64 n 32)=n / 2^32%256:=e 32 aq;have A:eD .u8 (cI .u64 n 24)=n / 2^24%256:=e 24 aq;have u:eD .u8 (cI .u64 n 16)=n / 2^16%256:=e 16 aq;have L:eD .u8 (cI .u64 n 8)=n / 2^8%256:=e 8 aq;have j:=e 0 aq;rw[K,J,I,B,A,u,L];have j:eD .u8 (cI .u64 n 0)=n%256:=by rw[show(0:Int)=((0:Nat):Int) from rfl,j];simp
 rw[j];rfl
def avE:V3.RS:=rE [.d tu] V3
def aFn:=V3.eQ baV 1 ⟨.none bS,trivial⟩
abbrev afA:=(List Bs)×Nat×Int×Bs×(List Int)
abbrev avV:=Nat×(List Int)
def I2:afA->avV->((Bs)×(Nat×(List Int))):=λ(A,u,i,n4,j) y=>(n4,y)
abbrev bbg:=ByteArray×(List Bs)
def aim:afA->Prop:=λ(j,m,i,n4,l)=>m=aa l/\∃k:Nat,k<=aa j/\aa j<=140737488350000/\i=k/\aa l+aa (rS (j.drop k))<=140737488350000
def T4:afA->avV:=λ(j,m,i,n4,l)=>(aa l+aa (rS (j.drop i.toNat)),l++rS (j.drop i.toNat))
def aFC:bbg->Prop:=λ(j,u)=>aa (afS (bX j) u)<=140737488350000
def bbh:bbg->Bs:=λ(j,u)=>tag (bX j) u
def E5:Ls aim I2 T4:=rI (λ(A,u,i,n4,j)=>⟨([bB,.d (.slice tB) A,bB,bB,eI 4,uJ 11 u,aU i]++aP 32 []),[],(bz 4 ([dp (fW n4)]++bz 6 ([dp (vn j)]++bz 27 [])))⟩) (λx=>(.exit 0,⟨(aP 4 ([eI 4,uJ 11 x.2.1]++aP 33 [])),[],(bz 4 ([dp (fW x.1)]++bz 6 ([dp (vn x.2.2)]++bz 27 [])))⟩))
def ajA:Fs prog aFC bt bbh:=eP 83 f83 (λ(u,j)=>([.d .str u,.d (.slice tB) j],[])) (λx=>⟨.d tH x,[],[]⟩) [aw .str,aw (.slice tB)] [aFn,bgA] {loops:=ko [(3,{aX:=[1,4,5,6],sites:=[4,11],owns:=[⟨5,[],11,125⟩]})],outs:=km [(3,{aX:=[4,5],sites:=[4,11]},{aX:=[4]})],eT:=jW [(3,E5.E)]}
def aFB:E5.RS:=rL [.d (.slice tB),.n,.d ti,.d tB,.d tB] E5
def acu(B A i n4 u)(I:K2 R)(J:K3 R):ajA.R 0 E5 (B,A,i,n4,u) I J=aA (fj i (aa B:Int)) (aA (dB i (aa B:Int)) (ao (V3.call (eD .u64 (((aa (nth tB B (ae i))):Nat):Int))) λj=>aA (decide (0=0/\(0+j.1)<=(aa j.2))) (aA (decide (A<=(aa u))) (aA (cM (A+(aa (cut j.2 0 j.1))) 1) (aA (dB i (aa B:Int)) (aA (decide ((A+(aa (cut j.2 0 j.1)))<=(aa ((aJ A u)++(cut j.2 0 j.1))))) (aA (cM ((A+(aa (cut j.2 0 j.1)))+(aa (nth tB B (ae i)))) 1) (I (E5.st (B,((A+(aa (cut j.2 0 j.1)))+(aa (nth tB B (ae i)))),(bC .i64 i 1),n4,((aJ (A+(aa (cut j.2 0 j.1))) ((aJ A u)++(cut j.2 0 j.1)))++(nth tB B (ae i)))))) aC) aC) aC) aC) aC) aC) aC) (E5.go J (n4,(A,u))):=bS
def bgB(j u)(k:K1 R):ajA.A (j,u) k=ao (V3.call (eD .u64 (((ByteArray.size j):Nat):Int))) λA=>aA (decide (A.1<=(aa A.2))) (aA (cM (A.1+(aa (bX j))) 1) (ao (E5.call (u,(A.1+(aa (bX j))),0,(ag 32 0),((aJ A.1 A.2)++(bX j)))) λB=>aA (decide (0=0/\(0+B.2.1)<=(aa B.2.2))) (ao (afx.call (cut B.2.2 0 B.2.1)) λI=>k (ajA.out I)) aC) aC) aC:=bS
def aOK{n:Nat}(h:n < 18446744073709551616):eD .u64 ((n:Nat):Int)=n:=by rw[ajT,jG];omega
def aFm{n:Nat}(h:n < 18446744073709551616):V3.call (n:Int)=aw (8,jI (n:Int)):=avE (d:=(n:Int)) (show 0<=(n:Int)/\(n:Int) < 18446744073709551616 from⟨aq,aq⟩)
def bll{l:List Int}{n:Nat}(h:aa l=n):cut l 0 n=l:=by unfold cut;rw[aH,bp aq]
def aLc:(ajA.kA 0 E5):=by
 refine(ajA.lS 0 E5) (λ(j,m,i,n4,l)=>aa j - i.toNat) ?_
 rintro⟨j,m,i,n4,l⟩ ⟨rfl,k,I,u,rfl,J⟩;have I:k<=aa j:=I;have u:aa j<=140737488350000:=u;have J:aa l+aa (rS (j.drop k))<=140737488350000:=J;by_cases h:k < aa j
 .left;have L:=av9 j k h;have K:aa (rS (j.drop k))=8+j[k].length+aa (rS (j.drop (k+1))):=by rw[L];simp only[aj,cC]
  have O:nth (.slice (.int .u8)) j k=j[k]:=bG (t:= .slice (.int .u8)) h;have A:aa (l++jI (j[k].length:Int))=aa l+8:=by simp[cC]
  refine⟨(j,aa (l++jI j[k].length++j[k]),((k+1:Nat):Int),n4,l++jI j[k].length++j[k]),⟨rfl,k+1,aq,u,rfl,?_⟩,by simp only[ab];omega,?_,λT kx=> ?_⟩
  .simp only[aj,cC];omega
  .simp only[I2,T4,ab,L,aR];simp only[aj,cC,fP]
  .have M:cut (jI (j[k].length:Int)) 0 8=jI (j[k].length:Int):=bll (cC _);have B:j[k].length < 18446744073709551616:=aq;rw[acu];simp(disch:=omega) only[↓S1,↓av,↓au,av,au,bQ,bq,S2,O,aOK B,aFm B,cC,M,bI,A,aO,ax,fY,bQ];rw[bp (by rw[A];omega)];simp only[aj,cC,fP]
 .right;obtain rfl:k=aa j:=aq;intro R T kx;rw[acu];simp(disch:=omega) only[↓S1,↓av,↓au,av,au,bQ,bq,S2,I2,T4,ay];simp[rS]
def bgC:ajA.Ok:=by
 rintro⟨j,u⟩ B;have B:aa (jI (aa (bX j))++bX j++rS u)<=140737488350000:=B;have O:aa (jI (aa (bX j))++bX j++rS u)=8+aa (bX j)+aa (rS u):=by simp only[aj,cC]
 have K:=aqf u;have J:j.size=aa (bX j):=by rw[na]
 have I:aa (bX j) < 18446744073709551616:=aq;have L:aim (u,8+aa (bX j),0,ag 32 0,jI (aa (bX j):Int)++bX j):=by refine⟨by simp only[aj,cC],0,az _,aq,rfl,?_⟩;rw[aH];simp only[aj,cC];omega
 rw[bgB,J];simp(disch:=omega) only[↓S1,↓av,↓au,av,au,bQ,bq,S2,aOK I,aFm I,cC,bp (pU (cC _)),aFB L,I2,T4,aW,aH,aO];have A:cut (jI (aa (bX j):Int)++bX j++rS u) 0 (aa (jI (aa (bX j):Int)++bX j)+aa (rS u))=afS (bX j) u:=bll (by simp only[aj]);have M:aFA (afS (bX j) u):=B;rw[av (by simp only[aj];omega),A,bbf M];rfl
def apL:ajA.RS:=rE [.d .str,.d (.slice tB)] ajA
def azJ:=ajA.eQ bgC 1 ⟨.eg aLc,trivial⟩
def ac2{n:Int}(j:0<=n)(u:n < 18446744073709551616):IntKind.u64.wrap n=n:=by rw[wrap_u64,jG];omega
def ac1(n:Int):IntKind.u64.wrap n=n%18446744073709551616:=by rw[wrap_u64,jG];rfl
def tX(x y:Int):bC .u64 x y=(x+y)%18446744073709551616:=ac1 _
def ajW(x y:Int):cY .u64 x y=(x - y)%18446744073709551616:=ac1 _
def Bn(x y:Int):fO .u64 x y=(x*y)%18446744073709551616:=ac1 _
def aII(x:Int):eD .u64 x=x%18446744073709551616:=ac1 _
def aA6{x:Int}(h:0<=x)(j:x < 18446744073709551616):cE .and .u64 x 4294967295=x%4294967296:=by
 obtain⟨n,rfl⟩:∃n:Nat,x=n:=⟨x.toNat,aq⟩;have e:(bF 64 (n:Int) &&& bF 64 4294967295).toNat=n%4294967296:=by
  rw[BitVec.toNat_and];have a:(bF 64 (n:Int)).toNat=n:=by rw[j5,lT];omega
  have b:(bF 64 4294967295).toNat=2^32 - 1:=fm;rw[a,b,Nat.and_two_pow_sub_one_eq_mod]
 show IntKind.u64.wrap ((bF 64 (n:Int) &&& bF 64 4294967295).toNat:Int)=_;rw[e,ac2 aq aq];omega
def bla{x:Int}(h:0<=x)(j:x < 18446744073709551616):cE .and .u64 x 1=x%2:=by
 obtain⟨n,rfl⟩:∃n:Nat,x=n:=⟨x.toNat,aq⟩;have e:(bF 64 (n:Int) &&& bF 64 1).toNat=n%2:=by
  rw[BitVec.toNat_and];have a:(bF 64 (n:Int)).toNat=n:=by rw[j5,lT];omega
  have b:(bF 64 1).toNat=2^1 - 1:=fm;rw[a,b,Nat.and_two_pow_sub_one_eq_mod]
 show IntKind.u64.wrap ((bF 64 (n:Int) &&& bF 64 1).toNat:Int)=_;rw[e,ac2 aq aq];omega
def zS{x k:Int}(n:Nat)(j:k=n)(u:n<=64):cI .u64 x k=x / 2^n:=by
 subst j;rw[cI];have e:min (ae (n:Int)) IntKind.u64.bits=n:=by simp only[IntKind.bits];omega
 rw[e,Int.fdiv_eq_ediv_of_nonneg _ (Int.le_of_lt (Int.pow_pos aq))]
def BT{x k:Int}(n:Nat)(j:k=n)(u:n<=64):oO .u64 x k=x*2^n%18446744073709551616:=by
 subst j;rw[oO,ac1];have e:min (ae (n:Int)) IntKind.u64.bits=n:=by simp only[IntKind.bits];omega
 rw[e]
def aaV{x y:Int}(k:Nat)(m:Int)(I:m=2^k)(A:x%m=0)(J:0<=x)(K:x < 18446744073709551616)(M:0<=y)(u:y < m)(L:x+y < 18446744073709551616):cE .or .u64 x y=x+y:=by
 subst I;obtain⟨n,rfl⟩:∃n:Nat,x=n:=⟨x.toNat,aq⟩;obtain⟨j,rfl⟩:∃j:Nat,y=j:=⟨y.toNat,aq⟩;have A:n%2^k=0:=by
  have:((n%2^k:Nat):Int)=0:=by rw[tF];simpa using A
  omega
 have B:j < 2^k:=by
  have:((j:Nat):Int) < ((2^k:Nat):Int):=by simpa using u
  omega
 obtain⟨q,rfl⟩:∃q,n=2^k*q:=⟨n / 2^k,by have:=Nat.div_add_mod n (2^k);omega⟩;have e:(bF 64 ((2^k*q:Nat):Int) ||| bF 64 (j:Int)).toNat=2^k*q+j:=by
  rw[BitVec.toNat_or];have a:(bF 64 ((2^k*q:Nat):Int)).toNat=2^k*q:=by rw[j5,lT];exact lI aq
  have b:(bF 64 (j:Int)).toNat=j:=by rw[j5,lT];exact lI aq
  rw[a,b,Nat.two_pow_add_eq_or_of_lt B]
 show IntKind.u64.wrap ((bF 64 ((2^k*q:Nat):Int) ||| bF 64 (j:Int)).toNat:Int)=_;rw[e,ac2 aq aq];omega
def ayb{x y:Int}(h:0<=x)(j:0<=y)(u:x < 18446744073709551616):yp .u64 x y=x / y:=by rw[yp,Int.tdiv_eq_ediv_of_nonneg h];exact ac2 (Int.ediv_nonneg h j) (Int.lt_of_le_of_lt (Int.ediv_le_self _ h) u)
def vK{x y:Int}(h:0<=x):kJ x y=x%y:=by rw[kJ,jd h]
def k1{e u w r q:Int}(I:e=42260\/e=42264\/e=42272)(M:0<=u)(j:u < 18446744073709551616 - e)(O:0<=w)(A:w < 4294967296)(L:0<=r)(B:r < 4294967296)
  (K:q*4294967295+r=u) (J:(u*4294967296+w) / (18446744073709551616 - e)<=q):
  (4294967296<=q->(u*4294967296+w) / (18446744073709551616 - e)<=q - 1)/\
  (q < 4294967296->4294967296*r+w < q*(4294967296 - e)->(u*4294967296+w) / (18446744073709551616 - e)<=q - 1)/\
  (q < 4294967296->q*(4294967296 - e)<=4294967296*r+w->(u*4294967296+w) / (18446744073709551616 - e)=q)/\
  (4294967296<=r+4294967295->(u*4294967296+w) / (18446744073709551616 - e)<=q - 1->(u*4294967296+w) / (18446744073709551616 - e)=q - 1)/\0<=(u*4294967296+w) / (18446744073709551616 - e)/\q<=4294967297:=by
 rcases I with rfl | rfl | rfl
 .refine⟨?_,?_,?_,?_,?_,?_⟩ <;> omega
 .refine⟨?_,?_,?_,?_,?_,?_⟩ <;> omega
 .refine⟨?_,?_,?_,?_,?_,?_⟩ <;> omega
def k0{e u w:Int}(B:e=42260\/e=42264\/e=42272)(I:0<=u)(j:u < 18446744073709551616 - e)(J:0<=w)(A:w < 4294967296):
  (u*4294967296+w) / (18446744073709551616 - e)<=u / 4294967295/\0<=u - u / 4294967295*4294967295/\u - u / 4294967295*4294967295 < 4294967296/\
  (u*4294967296+w) - (u*4294967296+w) / (18446744073709551616 - e)*(18446744073709551616 - e)=(u*4294967296+w)%(18446744073709551616 - e)/\
  0<=(u*4294967296+w)%(18446744073709551616 - e)/\(u*4294967296+w)%(18446744073709551616 - e) < 18446744073709551616 - e/\
  0<=(u*4294967296+w) / (18446744073709551616 - e)/\(u*4294967296+w) / (18446744073709551616 - e) < 4294967296:=by
 rcases B with rfl | rfl | rfl
 .refine⟨?_,?_,?_,?_,?_,?_,?_,?_⟩ <;> omega
 .refine⟨?_,?_,?_,?_,?_,?_,?_,?_⟩ <;> omega
 .refine⟨?_,?_,?_,?_,?_,?_,?_,?_⟩ <;> omega
def kd(Y u A j:Int)(J:0 < Y)(B:0<=j)(I:j < 4294967296):
  ((u*4294967296+A)*4294967296+j) / Y=(u*4294967296+A) / Y*4294967296+((u*4294967296+A)%Y*4294967296+j) / Y/\
  ((u*4294967296+A)*4294967296+j)%Y=((u*4294967296+A)%Y*4294967296+j)%Y:=by
 generalize u*4294967296+A=n;have e:n*4294967296+j=(n%Y*4294967296+j)+Y*(n / Y*4294967296):=by
  have:=Int.emod_add_mul_ediv n Y;have h:Y*(n / Y*4294967296)=(Y*(n / Y))*4294967296:=by rw[va]
  rw[h];omega
 rw[e,Int.add_mul_ediv_left _ _ aq,Int.add_mul_emod_self_left];exact⟨aq,rfl⟩
def bkT(y:Int):Prop:=y=4611686018427377339\/y=2305843009213688669\/y=2305843009213688668
def aQ8:Int->Prop:=bkT
def bfo:Int->Int:=λy=>if y=4611686018427377339 then 62 else 61
def H4:Fs prog aQ8 bt bfo:=eP 201 f201 (λx=>([cK x],[])) (λx=>⟨aU x,[],[]⟩) [aw tu]
def aYx(x)(k:K1 R):H4.A x k=aA (DA x 4294967296) (aA (DA (cI .u64 x 32) 65536) (aA (DA (cI .u64 (cI .u64 x 32) 16) 256) (aA (dB (eD .u8 (cI .u64 (cI .u64 (cI .u64 x 32) 16) 8)) 256) (k (H4.out (bC .i64 56 (eD .i64 (aFT (⟨#[0,1,2,2,3,3,3,3,4,4,4,4,4,4,4,4,5,5,5,5,5,5,5,5,5,5,5,5,5,5,5,5,6,6,6,6,6,6,6,6,6,6,6,6,6,6,6,6,6,6,6,6,6,6,6,6,6,6,6,6,6,6,6,6,7,7,7,7,7,7,7,7,7,7,7,7,7,7,7,7,7,7,7,7,7,7,7,7,7,7,7,7,7,7,7,7,7,7,7,7,7,7,7,7,7,7,7,7,7,7,7,7,7,7,7,7,7,7,7,7,7,7,7,7,7,7,7,7,8,8,8,8,8,8,8,8,8,8,8,8,8,8,8,8,8,8,8,8,8,8,8,8,8,8,8,8,8,8,8,8,8,8,8,8,8,8,8,8,8,8,8,8,8,8,8,8,8,8,8,8,8,8,8,8,8,8,8,8,8,8,8,8,8,8,8,8,8,8,8,8,8,8,8,8,8,8,8,8,8,8,8,8,8,8,8,8,8,8,8,8,8,8,8,8,8,8,8,8,8,8,8,8,8,8,8,8,8,8,8,8,8,8,8,8,8,8,8,8,8,8,8,8,8,8,8,8]⟩:ByteArray) (eD .u8 (cI .u64 (cI .u64 (cI .u64 x 32) 16) 8))))))) aC) (aA (dB (eD .u8 (cI .u64 (cI .u64 x 32) 16)) 256) (k (H4.out (bC .i64 48 (eD .i64 (aFT (⟨#[0,1,2,2,3,3,3,3,4,4,4,4,4,4,4,4,5,5,5,5,5,5,5,5,5,5,5,5,5,5,5,5,6,6,6,6,6,6,6,6,6,6,6,6,6,6,6,6,6,6,6,6,6,6,6,6,6,6,6,6,6,6,6,6,7,7,7,7,7,7,7,7,7,7,7,7,7,7,7,7,7,7,7,7,7,7,7,7,7,7,7,7,7,7,7,7,7,7,7,7,7,7,7,7,7,7,7,7,7,7,7,7,7,7,7,7,7,7,7,7,7,7,7,7,7,7,7,7,8,8,8,8,8,8,8,8,8,8,8,8,8,8,8,8,8,8,8,8,8,8,8,8,8,8,8,8,8,8,8,8,8,8,8,8,8,8,8,8,8,8,8,8,8,8,8,8,8,8,8,8,8,8,8,8,8,8,8,8,8,8,8,8,8,8,8,8,8,8,8,8,8,8,8,8,8,8,8,8,8,8,8,8,8,8,8,8,8,8,8,8,8,8,8,8,8,8,8,8,8,8,8,8,8,8,8,8,8,8,8,8,8,8,8,8,8,8,8,8,8,8,8,8,8,8,8,8]⟩:ByteArray) (eD .u8 (cI .u64 (cI .u64 x 32) 16))))))) aC)) (aA (DA (cI .u64 x 32) 256) (aA (dB (eD .u8 (cI .u64 (cI .u64 x 32) 8)) 256) (k (H4.out (bC .i64 40 (eD .i64 (aFT (⟨#[0,1,2,2,3,3,3,3,4,4,4,4,4,4,4,4,5,5,5,5,5,5,5,5,5,5,5,5,5,5,5,5,6,6,6,6,6,6,6,6,6,6,6,6,6,6,6,6,6,6,6,6,6,6,6,6,6,6,6,6,6,6,6,6,7,7,7,7,7,7,7,7,7,7,7,7,7,7,7,7,7,7,7,7,7,7,7,7,7,7,7,7,7,7,7,7,7,7,7,7,7,7,7,7,7,7,7,7,7,7,7,7,7,7,7,7,7,7,7,7,7,7,7,7,7,7,7,7,8,8,8,8,8,8,8,8,8,8,8,8,8,8,8,8,8,8,8,8,8,8,8,8,8,8,8,8,8,8,8,8,8,8,8,8,8,8,8,8,8,8,8,8,8,8,8,8,8,8,8,8,8,8,8,8,8,8,8,8,8,8,8,8,8,8,8,8,8,8,8,8,8,8,8,8,8,8,8,8,8,8,8,8,8,8,8,8,8,8,8,8,8,8,8,8,8,8,8,8,8,8,8,8,8,8,8,8,8,8,8,8,8,8,8,8,8,8,8,8,8,8,8,8,8,8,8,8]⟩:ByteArray) (eD .u8 (cI .u64 (cI .u64 x 32) 8))))))) aC) (aA (dB (eD .u8 (cI .u64 x 32)) 256) (k (H4.out (bC .i64 32 (eD .i64 (aFT (⟨#[0,1,2,2,3,3,3,3,4,4,4,4,4,4,4,4,5,5,5,5,5,5,5,5,5,5,5,5,5,5,5,5,6,6,6,6,6,6,6,6,6,6,6,6,6,6,6,6,6,6,6,6,6,6,6,6,6,6,6,6,6,6,6,6,7,7,7,7,7,7,7,7,7,7,7,7,7,7,7,7,7,7,7,7,7,7,7,7,7,7,7,7,7,7,7,7,7,7,7,7,7,7,7,7,7,7,7,7,7,7,7,7,7,7,7,7,7,7,7,7,7,7,7,7,7,7,7,7,8,8,8,8,8,8,8,8,8,8,8,8,8,8,8,8,8,8,8,8,8,8,8,8,8,8,8,8,8,8,8,8,8,8,8,8,8,8,8,8,8,8,8,8,8,8,8,8,8,8,8,8,8,8,8,8,8,8,8,8,8,8,8,8,8,8,8,8,8,8,8,8,8,8,8,8,8,8,8,8,8,8,8,8,8,8,8,8,8,8,8,8,8,8,8,8,8,8,8,8,8,8,8,8,8,8,8,8,8,8,8,8,8,8,8,8,8,8,8,8,8,8,8,8,8,8,8,8]⟩:ByteArray) (eD .u8 (cI .u64 x 32))))))) aC))) (aA (DA x 65536) (aA (DA (cI .u64 x 16) 256) (aA (dB (eD .u8 (cI .u64 (cI .u64 x 16) 8)) 256) (k (H4.out (bC .i64 24 (eD .i64 (aFT (⟨#[0,1,2,2,3,3,3,3,4,4,4,4,4,4,4,4,5,5,5,5,5,5,5,5,5,5,5,5,5,5,5,5,6,6,6,6,6,6,6,6,6,6,6,6,6,6,6,6,6,6,6,6,6,6,6,6,6,6,6,6,6,6,6,6,7,7,7,7,7,7,7,7,7,7,7,7,7,7,7,7,7,7,7,7,7,7,7,7,7,7,7,7,7,7,7,7,7,7,7,7,7,7,7,7,7,7,7,7,7,7,7,7,7,7,7,7,7,7,7,7,7,7,7,7,7,7,7,7,8,8,8,8,8,8,8,8,8,8,8,8,8,8,8,8,8,8,8,8,8,8,8,8,8,8,8,8,8,8,8,8,8,8,8,8,8,8,8,8,8,8,8,8,8,8,8,8,8,8,8,8,8,8,8,8,8,8,8,8,8,8,8,8,8,8,8,8,8,8,8,8,8,8,8,8,8,8,8,8,8,8,8,8,8,8,8,8,8,8,8,8,8,8,8,8,8,8,8,8,8,8,8,8,8,8,8,8,8,8,8,8,8,8,8,8,8,8,8,8,8,8,8,8,8,8,8,8]⟩:ByteArray) (eD .u8 (cI .u64 (cI .u64 x 16) 8))))))) aC) (aA (dB (eD .u8 (cI .u64 x 16)) 256) (k (H4.out (bC .i64 16 (eD .i64 (aFT (⟨#[0,1,2,2,3,3,3,3,4,4,4,4,4,4,4,4,5,5,5,5,5,5,5,5,5,5,5,5,5,5,5,5,6,6,6,6,6,6,6,6,6,6,6,6,6,6,6,6,6,6,6,6,6,6,6,6,6,6,6,6,6,6,6,6,7,7,7,7,7,7,7,7,7,7,7,7,7,7,7,7,7,7,7,7,7,7,7,7,7,7,7,7,7,7,7,7,7,7,7,7,7,7,7,7,7,7,7,7,7,7,7,7,7,7,7,7,7,7,7,7,7,7,7,7,7,7,7,7,8,8,8,8,8,8,8,8,8,8,8,8,8,8,8,8,8,8,8,8,8,8,8,8,8,8,8,8,8,8,8,8,8,8,8,8,8,8,8,8,8,8,8,8,8,8,8,8,8,8,8,8,8,8,8,8,8,8,8,8,8,8,8,8,8,8,8,8,8,8,8,8,8,8,8,8,8,8,8,8,8,8,8,8,8,8,8,8,8,8,8,8,8,8,8,8,8,8,8,8,8,8,8,8,8,8,8,8,8,8,8,8,8,8,8,8,8,8,8,8,8,8,8,8,8,8,8,8]⟩:ByteArray) (eD .u8 (cI .u64 x 16))))))) aC)) (aA (DA x 256) (aA (dB (eD .u8 (cI .u64 x 8)) 256) (k (H4.out (bC .i64 8 (eD .i64 (aFT (⟨#[0,1,2,2,3,3,3,3,4,4,4,4,4,4,4,4,5,5,5,5,5,5,5,5,5,5,5,5,5,5,5,5,6,6,6,6,6,6,6,6,6,6,6,6,6,6,6,6,6,6,6,6,6,6,6,6,6,6,6,6,6,6,6,6,7,7,7,7,7,7,7,7,7,7,7,7,7,7,7,7,7,7,7,7,7,7,7,7,7,7,7,7,7,7,7,7,7,7,7,7,7,7,7,7,7,7,7,7,7,7,7,7,7,7,7,7,7,7,7,7,7,7,7,7,7,7,7,7,8,8,8,8,8,8,8,8,8,8,8,8,8,8,8,8,8,8,8,8,8,8,8,8,8,8,8,8,8,8,8,8,8,8,8,8,8,8,8,8,8,8,8,8,8,8,8,8,8,8,8,8,8,8,8,8,8,8,8,8,8,8,8,8,8,8,8,8,8,8,8,8,8,8,8,8,8,8,8,8,8,8,8,8,8,8,8,8,8,8,8,8,8,8,8,8,8,8,8,8,8,8,8,8,8,8,8,8,8,8,8,8,8,8,8,8,8,8,8,8,8,8,8,8,8,8,8,8]⟩:ByteArray) (eD .u8 (cI .u64 x 8))))))) aC) (aA (dB (eD .u8 x) 256) (k (H4.out (bC .i64 0 (eD .i64 (aFT (⟨#[0,1,2,2,3,3,3,3,4,4,4,4,4,4,4,4,5,5,5,5,5,5,5,5,5,5,5,5,5,5,5,5,6,6,6,6,6,6,6,6,6,6,6,6,6,6,6,6,6,6,6,6,6,6,6,6,6,6,6,6,6,6,6,6,7,7,7,7,7,7,7,7,7,7,7,7,7,7,7,7,7,7,7,7,7,7,7,7,7,7,7,7,7,7,7,7,7,7,7,7,7,7,7,7,7,7,7,7,7,7,7,7,7,7,7,7,7,7,7,7,7,7,7,7,7,7,7,7,8,8,8,8,8,8,8,8,8,8,8,8,8,8,8,8,8,8,8,8,8,8,8,8,8,8,8,8,8,8,8,8,8,8,8,8,8,8,8,8,8,8,8,8,8,8,8,8,8,8,8,8,8,8,8,8,8,8,8,8,8,8,8,8,8,8,8,8,8,8,8,8,8,8,8,8,8,8,8,8,8,8,8,8,8,8,8,8,8,8,8,8,8,8,8,8,8,8,8,8,8,8,8,8,8,8,8,8,8,8,8,8,8,8,8,8,8,8,8,8,8,8,8,8,8,8,8,8]⟩:ByteArray) (eD .u8 x)))))) aC))):=bS
def aYy:H4.Ok:=by intro y h;rw[aYx];obtain rfl | rfl | rfl:=h <;> kernel_rfl
def aQ9:H4.RS:=rE [.d tu] H4
def aYz:=H4.eQ aYy
def aYW:Int->Prop:=bkT
def aYV:Int->Int:=λy=>if y=4611686018427377339 then 2 else 3
def aI3:Fs prog aYW bt aYV:=eP 233 f233 (λx=>([cK x],[])) (λx=>⟨aU x,[],[]⟩) [aw tu] [aYz]
def bfw(x)(k:K1 R):aI3.A x k=ao (H4.call x) λj=>k (aI3.out (cY .i64 64 j)):=bS
def bfx:aI3.Ok:=by intro y h;rw[bfw,aQ9 (d:=y) h];obtain rfl | rfl | rfl:=h <;> rfl
def aYX:aI3.RS:=rE [.d tu] aI3
def bfy:=aI3.eQ bfx
abbrev Xm:=Int×Int×Int×Int×Int×Int×Int×Int×Int
def Z5:Xm->Int->((Int×Int×Int×Int×Int×Int×Int)×(Int)):=λ(u,L,J,I,j,B,A,M,K) y=>((u,L,J,I,j,B,A),y)
abbrev Xn:=Int×Int×Int×Int×Int×Int×Int×Int×Int
def Z7:Xn->Int->((Int×Int×Int×Int×Int)×(Int)):=λ(A,J,L,I,B,u,K,j,M) y=>((A,J,B,u,j),y)
def Z4:Xm->Prop:=λ(y,I,A,j,u,w,B,q,r)=>∃e:Int,(e=42260\/e=42264\/e=42272)/\y=18446744073709551616 - e/\A=4294967295/\j=4294967296 - e/\0<=u/\u < 18446744073709551616 - e/\0<=w/\w < 4294967296/\0<=r/\r < 4294967296/\q*4294967295+r=u/\(u*4294967296+w) / (18446744073709551616 - e)<=q
def Mv:Xm->Int:=λ(y,I,B,A,u,w,j,q,r)=>(u*4294967296+w) / y
def Z6:Xn->Prop:=λ(y,I,A,j,w,B,r,u,q)=>∃e:Int,(e=42260\/e=42264\/e=42272)/\y=18446744073709551616 - e/\A=4294967295/\j=4294967296 - e/\0<=u/\u < 18446744073709551616 - e/\0<=w/\w < 4294967296/\0<=r/\r < 4294967296/\q*4294967295+r=u/\(u*4294967296+w) / (18446744073709551616 - e)<=q
def Mw:Xn->Int:=λ(y,I,A,j,w,B,r,u,q)=>(u*4294967296+w) / y
def atW:(Int×Int×Int)->Prop:=λ(j,u,y)=>(bkT y\/j=0/\0 < y/\y < 18446744073709551616)/\0<=j/\j < y/\0<=u/\u < 18446744073709551616
def axv:(Int×Int×Int)->(Int×Int):=λ(j,u,y)=>((j*18446744073709551616+u) / y,(j*18446744073709551616+u)%y)
def qT:Ls Z4 Z5 Mv:=rI (λ(A,M,K,J,u,I,B,L,j)=>⟨([bB,bB,cK A]++aP 5 ([cK M,cK K,cK J,cK u,bB,cK I,cK B,cK L,cK j]++aP 118 [])),[],(ag 135 [])⟩) (λx=>(.exit 0,⟨([bB,bB,cK x.1.1]++aP 5 ([cK x.1.2.1,cK x.1.2.2.1,cK x.1.2.2.2.1,cK x.1.2.2.2.2.1,bB,cK x.1.2.2.2.2.2.1,cK x.1.2.2.2.2.2.2,cK x.2]++aP 119 [])),[],(ag 135 [])⟩))
def qU:Ls Z6 Z7 Mw:=rI (λ(B,L,K,u,J,A,I,j,M)=>⟨([bB,bB,cK B]++aP 5 ([cK L,cK K,cK u,bB,bB,bB,cK J,cK A,cK I,cK j,cK M]++aP 116 [])),[],(ag 135 [])⟩) (λx=>(.exit 2,⟨([bB,bB,cK x.1.1]++aP 5 ([cK x.1.2.1]++aP 5 ([cK x.1.2.2.1,cK x.1.2.2.2.1,bB,cK x.1.2.2.2.2,cK x.2]++aP 116 []))),[],(ag 135 [])⟩))
def HT:Fs prog atW bt axv:=eP 210 f210 (λ(j,u,A)=>([.d tu j,.d tu u,.d tu A],[])) (λx=>⟨.cons (.d tu x.1) (.cons (.d tu x.2) (.nil)),[],[]⟩) [aw tu,aw tu,aw tu] [bfy] {loops:=ko [(17,{aX:=[2,8,9,10,11,13,14,15,16]}),(24,{aX:=[2,8,9,10,14,15,16,17,18]})],outs:=km [(17,{aX:=[2,8,9,10,11,13,14,15]},{aX:=[6,7]}),(24,{aX:=[2,8,14,15,17,18]},{aX:=[6,7]})],eT:=jW [(17,qT.E),(24,qU.E)]}
def axw:qT.RS:=rL [.d tu,.d tu,.d tu,.d tu,.d tu,.d tu,.d tu,.d tu,.d tu] qT
def Jq(J M j I A B K L u)(T:K2 R)(O:K3 R):HT.R 0 qT (J,M,j,I,A,B,K,L,u) T O=aA (DA L 4294967296) (aA (DA (bC .u64 u j) 4294967296) (qT.go O ((J,M,j,I,A,B,K),(cY .u64 L 1))) (T (qT.st (J,M,j,I,A,B,K,(cY .u64 L 1),(bC .u64 u j))))) (aA (qi (fO .u64 L I) (bC .u64 (fO .u64 4294967296 u) B)) (aA (DA (bC .u64 u j) 4294967296) (qT.go O ((J,M,j,I,A,B,K),(cY .u64 L 1))) (T (qT.st (J,M,j,I,A,B,K,(cY .u64 L 1),(bC .u64 u j))))) (qT.go O ((J,M,j,I,A,B,K),L))):=bS
def axx:qU.RS:=rL [.d tu,.d tu,.d tu,.d tu,.d tu,.d tu,.d tu,.d tu,.d tu] qU
def Jr(A M K B J u L j I)(T:K2 R)(O:K3 R):HT.R 1 qU (A,M,K,B,J,u,L,j,I) T O=aA (DA I 4294967296) (aA (DA (bC .u64 L K) 4294967296) (qU.go O ((A,M,J,u,j),(cY .u64 I 1))) (T (qU.st (A,M,K,B,J,u,(bC .u64 L K),j,(cY .u64 I 1))))) (aA (qi (fO .u64 I B) (bC .u64 (fO .u64 4294967296 L) J)) (aA (DA (bC .u64 L K) 4294967296) (qU.go O ((A,M,J,u,j),(cY .u64 I 1))) (T (qU.st (A,M,K,B,J,u,(bC .u64 L K),j,(cY .u64 I 1))))) (qU.go O ((A,M,J,u,j),I))):=bS
def aXk(J B A)(k:K1 R):HT.A (J,B,A) k=aA (oC A 0) (aC) (aA (arD A J) (aC) (aA (oC J 0) (aA (vO A) (aA (vO A) (k (HT.out ((yp .u64 B A),(kJ B A)))) aC) aC) (ao (aI3.call A) λu=>aA (oQ (eD .u64 u)) (aA (oQ (eD .u64 u)) (aA (oQ (cY .u64 64 (eD .u64 u))) (aA (oQ (eD .u64 u)) (aA (vO (cI .u64 (oO .u64 A (eD .u64 u)) 32)) (ao (qT.call ((oO .u64 A (eD .u64 u)),(eD .u64 u),(cI .u64 (oO .u64 A (eD .u64 u)) 32),(cE .and .u64 (oO .u64 A (eD .u64 u)) 4294967295),(cE .or .u64 (oO .u64 J (eD .u64 u)) (cI .u64 B (cY .u64 64 (eD .u64 u)))),(cI .u64 (oO .u64 B (eD .u64 u)) 32),(cE .and .u64 (oO .u64 B (eD .u64 u)) 4294967295),(yp .u64 (cE .or .u64 (oO .u64 J (eD .u64 u)) (cI .u64 B (cY .u64 64 (eD .u64 u)))) (cI .u64 (oO .u64 A (eD .u64 u)) 32)),(cY .u64 (cE .or .u64 (oO .u64 J (eD .u64 u)) (cI .u64 B (cY .u64 64 (eD .u64 u)))) (fO .u64 (yp .u64 (cE .or .u64 (oO .u64 J (eD .u64 u)) (cI .u64 B (cY .u64 64 (eD .u64 u)))) (cI .u64 (oO .u64 A (eD .u64 u)) 32)) (cI .u64 (oO .u64 A (eD .u64 u)) 32))))) λj=>aA (vO j.1.2.2.1) (ao (qU.call (j.1.1,j.1.2.1,j.1.2.2.1,j.1.2.2.2.1,j.1.2.2.2.2.2.2,j.2,(cY .u64 (cY .u64 (bC .u64 (fO .u64 j.1.2.2.2.2.1 4294967296) j.1.2.2.2.2.2.1) (fO .u64 j.2 j.1.1)) (fO .u64 (yp .u64 (cY .u64 (bC .u64 (fO .u64 j.1.2.2.2.2.1 4294967296) j.1.2.2.2.2.2.1) (fO .u64 j.2 j.1.1)) j.1.2.2.1) j.1.2.2.1)),(cY .u64 (bC .u64 (fO .u64 j.1.2.2.2.2.1 4294967296) j.1.2.2.2.2.2.1) (fO .u64 j.2 j.1.1)),(yp .u64 (cY .u64 (bC .u64 (fO .u64 j.1.2.2.2.2.1 4294967296) j.1.2.2.2.2.2.1) (fO .u64 j.2 j.1.1)) j.1.2.2.1))) λI=>aA (oQ I.1.2.1) (k (HT.out ((bC .u64 (fO .u64 I.1.2.2.2.1 4294967296) I.2),(cI .u64 (cY .u64 (bC .u64 (fO .u64 I.1.2.2.2.2 4294967296) I.1.2.2.1) (fO .u64 I.2 I.1.1)) I.1.2.1)))) aC) aC) aC) aC) aC) aC) aC))):=bS
def aCq:(HT.kA 0 qT):=by
 refine(HT.lS 0 qT) (λ(y,O,yn1,yn0,u,w,B,q,r)=>q.toNat) ?_
 rintro⟨y,O,yn1,yn0,u,w,B,q,r⟩ ⟨e,he,rfl,rfl,rfl,L,j,M,A,hr,J,hq,hQ⟩;have L:0<=u:=L;have j:u < 18446744073709551616 - e:=j;have M:0<=w:=M;have A:w < 4294967296:=A;have hr:0<=r:=hr;have J:r < 4294967296:=J;have hq:q*4294967295+r=u:=hq;obtain⟨k1,k2,k3,k4,k5,k6⟩:=k1 he L j M A hr J hq hQ;have q0:0<=q:=Int.le_trans k5 hQ;have a1:bC .u64 r 4294967295=r+4294967295:=by rw[tX];omega
 have T:bC .u64 (fO .u64 4294967296 r) w=4294967296*r+w:=by rw[Bn,tX];omega
 have a3:q < 4294967296->fO .u64 q (4294967296 - e)=q*(4294967296 - e):=by intro h;rw[Bn];rcases he with rfl | rfl | rfl <;> omega
 have a4:0 < q->cY .u64 q 1=q - 1:=by intro h;rw[ajW];omega
 have pos:4294967296<=q\/(q < 4294967296/\4294967296*r+w < q*(4294967296 - e))->0 < q/\(u*4294967296+w) / (18446744073709551616 - e)<=q - 1:=by
  rintro(h | ⟨h,I⟩)
  .exact⟨aq,k1 h⟩
  .exact⟨by have:=k2 h I;omega,k2 h I⟩
 by_cases K:4294967296<=q\/(q < 4294967296/\4294967296*r+w < q*(4294967296 - e))
 .obtain⟨p1,p2⟩:=pos K;by_cases hb:4294967296<=r+4294967295
  .right;have hF:Mv (18446744073709551616 - e,O,4294967295,4294967296 - e,u,w,B,q,r)=q - 1:=k4 hb p2;intro R kn kx;rw[Jq,a1,T,a4 p1,fE hb,hF];rcases K with h | ⟨h,I⟩
   .rw[fE h];rfl
   .rw[ed aq,a3 h,cW I];rfl
  .left;refine⟨(18446744073709551616 - e,O,4294967295,4294967296 - e,u,w,B,q - 1,r+4294967295),⟨e,he,rfl,rfl,rfl,L,j,M,A,aq,aq,aq,p2⟩,by simp only[];omega,rfl,λkn kx=> ?_⟩;rw[Jq,a1,T,a4 p1,ed hb];rcases K with h | ⟨h,I⟩
   .rw[fE h];rfl
   .rw[ed aq,a3 h,cW I];rfl
 .right;have h:q < 4294967296:=aq;have I:¬4294967296*r+w < q*(4294967296 - e):=λx=>K (eF ⟨h,x⟩)
  have hF:Mv (18446744073709551616 - e,O,4294967295,4294967296 - e,u,w,B,q,r)=q:=k3 h aq;intro R kn kx;rw[Jq,T,a3 h,ed aq,ct I,hF];rfl
def aCr:(HT.kA 1 qU):=by
 refine(HT.lS 1 qU) (λ(y,O,yn1,yn0,w,M,r,u,q)=>q.toNat) ?_
 rintro⟨y,O,yn1,yn0,w,M,r,u,q⟩ ⟨e,he,rfl,rfl,rfl,K,j,L,A,hr,I,hq,hQ⟩;have K:0<=u:=K;have j:u < 18446744073709551616 - e:=j;have L:0<=w:=L;have A:w < 4294967296:=A;have hr:0<=r:=hr;have I:r < 4294967296:=I;have hq:q*4294967295+r=u:=hq;obtain⟨k1,k2,k3,k4,k5,k6⟩:=k1 he K j L A hr I hq hQ;have q0:0<=q:=Int.le_trans k5 hQ;have a1:bC .u64 r 4294967295=r+4294967295:=by rw[tX];omega
 have T:bC .u64 (fO .u64 4294967296 r) w=4294967296*r+w:=by rw[Bn,tX];omega
 have a3:q < 4294967296->fO .u64 q (4294967296 - e)=q*(4294967296 - e):=by intro h;rw[Bn];rcases he with rfl | rfl | rfl <;> omega
 have a4:0 < q->cY .u64 q 1=q - 1:=by intro h;rw[ajW];omega
 have pos:4294967296<=q\/(q < 4294967296/\4294967296*r+w < q*(4294967296 - e))->0 < q/\(u*4294967296+w) / (18446744073709551616 - e)<=q - 1:=by
  rintro(h | ⟨h,B⟩)
  .exact⟨aq,k1 h⟩
  .exact⟨by have:=k2 h B;omega,k2 h B⟩
 by_cases J:4294967296<=q\/(q < 4294967296/\4294967296*r+w < q*(4294967296 - e))
 .obtain⟨p1,p2⟩:=pos J;by_cases hb:4294967296<=r+4294967295
  .right;have hF:Mw (18446744073709551616 - e,O,4294967295,4294967296 - e,w,M,r,u,q)=q - 1:=k4 hb p2;intro R kn kx;rw[Jr,a1,T,a4 p1,fE hb,hF];rcases J with h | ⟨h,B⟩
   .rw[fE h];rfl
   .rw[ed aq,a3 h,cW B];rfl
  .left;refine⟨(18446744073709551616 - e,O,4294967295,4294967296 - e,w,M,r+4294967295,u,q - 1),⟨e,he,rfl,rfl,rfl,K,j,L,A,aq,aq,aq,p2⟩,by simp only[];omega,rfl,λkn kx=> ?_⟩;rw[Jr,a1,T,a4 p1,ed hb];rcases J with h | ⟨h,B⟩
   .rw[fE h];rfl
   .rw[ed aq,a3 h,cW B];rfl
 .right;have h:q < 4294967296:=aq;have B:¬4294967296*r+w < q*(4294967296 - e):=λx=>J (eF ⟨h,x⟩)
  have hF:Mw (18446744073709551616 - e,O,4294967295,4294967296 - e,w,M,r,u,q)=q:=k3 h aq;intro R kn kx;rw[Jr,T,a3 h,ed aq,ct B,hF];rfl
def biK{y u j:Int}(M:bkT y)(O:0<=u)(T:u < y)(h2:0<=j)(h3:j < 18446744073709551616):∃(s:Nat) (e m:Int),aYV y=s/\(s=2\/s=3)/\m=2^s/\(e=42260\/e=42264\/e=42272)/\y*m=18446744073709551616 - e/\
  oO .u64 y (s:Int)=18446744073709551616 - e/\
  cE .or .u64 (oO .u64 u (s:Int)) (cI .u64 j (cY .u64 64 (s:Int)))=(u*18446744073709551616+j)*m / 18446744073709551616/\
  oO .u64 j (s:Int)=(u*18446744073709551616+j)*m%18446744073709551616/\
  (u*18446744073709551616+j)*m / 18446744073709551616 < 18446744073709551616 - e/\
  (u*18446744073709551616+j)*m / (18446744073709551616 - e)=(u*18446744073709551616+j) / y/\
  (u*18446744073709551616+j)*m%(18446744073709551616 - e) / m=(u*18446744073709551616+j)%y:=by
 have L:cY .u64 64 ((2:Nat):Int)=((62:Nat):Int):=rfl;have K:cY .u64 64 ((3:Nat):Int)=((61:Nat):Int):=rfl;have I:(2:Int)^2=4:=rfl;have A:(2:Int)^3=8:=rfl;have B:(2:Int)^61=2305843009213693952:=rfl;have J:(2:Int)^62=4611686018427387904:=rfl;obtain rfl | rfl | rfl:=M
 .refine⟨2,42260,4,rfl,ju rfl,rfl,ju rfl,rfl,by rw[BT 2 (by rfl) aq,I];omega,?_,?_,aq,aq,aq⟩
  .rw[L,BT 2 (by rfl) aq,zS 62 (by rfl) aq,I,J,aaV 2 4 rfl aq aq aq aq aq aq];omega
  .rw[BT 2 (by rfl) aq,I];omega
 .refine⟨3,42264,8,rfl,eF rfl,rfl,eF (ju rfl),rfl,by rw[BT 3 (by rfl) aq,A];omega,?_,?_,aq,aq,aq⟩
  .rw[K,BT 3 (by rfl) aq,zS 61 (by rfl) aq,A,B,aaV 3 8 rfl aq aq aq aq aq aq];omega
  .rw[BT 3 (by rfl) aq,A];omega
 .refine⟨3,42272,8,rfl,eF rfl,rfl,eF (eF rfl),rfl,by rw[BT 3 (by rfl) aq,A];omega,?_,?_,aq,aq,aq⟩
  .rw[K,BT 3 (by rfl) aq,zS 61 (by rfl) aq,A,B,aaV 3 8 rfl aq aq aq aq aq aq];omega
  .rw[BT 3 (by rfl) aq,A];omega
def bpb(a b c:Int):(((a%18446744073709551616+b)%18446744073709551616) - c%18446744073709551616)%18446744073709551616=(a+b - c)%18446744073709551616:=aq
def aXl:HT.Ok:=by
 rintro⟨M,lo,y⟩ ⟨hy,h0,h1,h2,h3⟩;have h0:0<=M:=h0;have h1:M < y:=h1;have h2:0<=lo:=h2;have h3:lo < 18446744073709551616:=h3;have yb:0 < y/\y < 18446744073709551616:=by
  rcases hy with hy | hy
  .obtain rfl | rfl | rfl:=hy <;> omega
  .exact hy.2
 rw[aXk,eZ aq,jK aq];simp only[al];have z:vO y=bn:=by simp[vO];omega
 by_cases hz:M=0
 .subst hz;rw[dC rfl,z,ayb h2 aq h3,vK h2];simp only[ai,axv,bt,Int.zero_mul,je]
 .have hy:bkT y:=hy.resolve_right λe=>hz e.1
  obtain⟨s,e,m,hs,T,hm,L,bsJ,a1,a2,a3,K,a5,a6⟩:=biK hy h0 h1 h2 h3;have c1:eD .u64 (s:Int)=(s:Int):=by rw[aII];omega
  have c2:oQ (s:Int)=bn:=xI aq;have c3:oQ (cY .u64 64 (s:Int))=bn:=by rcases T with rfl | rfl <;> rfl
  rw[eZ hz,aYX (d:=y) hy];simp only[al,ah,bt,hs,c1,c2,c3,ai,a1,a2,a3];have hN:0<=(M*18446744073709551616+lo)*m:=Int.mul_nonneg aq (by rcases T with rfl | rfl <;> omega)
  revert K a5 a6
  generalize (M*18446744073709551616+lo)*m=N at hN;intro K a5 a6;have u0:0<=N / 18446744073709551616:=aq;have t0:0<=N%18446744073709551616:=aq;have t1:N%18446744073709551616 < 18446744073709551616:=aq;have hd:N=(N / 18446744073709551616*4294967296+N%18446744073709551616 / 4294967296)*4294967296+N%18446744073709551616%4294967296:=aq;have I:0<=N%18446744073709551616 / 4294967296:=aq;have J:N%18446744073709551616 / 4294967296 < 4294967296:=aq;have A:0<=N%18446744073709551616%4294967296:=aq;have B:N%18446744073709551616%4294967296 < 4294967296:=aq;have p32:(2:Int)^32=4294967296:=rfl;have b1:cI .u64 (18446744073709551616 - e) 32=4294967295:=by rw[zS 32 (by rfl) aq,p32];rcases L with rfl | rfl | rfl <;> rfl
  have b2:cE .and .u64 (18446744073709551616 - e) 4294967295=4294967296 - e:=by rw[aA6 aq aq];omega
  have b3:cI .u64 (N%18446744073709551616) 32=N%18446744073709551616 / 4294967296:=by rw[zS 32 (by rfl) aq,p32]
  have b4:cE .and .u64 (N%18446744073709551616) 4294967295=N%18446744073709551616%4294967296:=aA6 t0 t1;have z2:vO 4294967295=bn:=rfl;simp only[b1,b2,b3,b4,z2,ai];clear a1 a2 a3 b1 b2 b3 b4;have j:=kd (18446744073709551616 - e) (N / 18446744073709551616) (N%18446744073709551616 / 4294967296) (N%18446744073709551616%4294967296) aq A B;rw[<-hd,a5]at j
  revert K j
  generalize N / 18446744073709551616=u at u0;generalize N%18446744073709551616 / 4294967296=w1 at I J;generalize N%18446744073709551616%4294967296=w0 at A B;intro K j
  have g:∀u w:Int,0<=u->u < 18446744073709551616 - e->0<=w->w < 4294967296->
    yp .u64 u 4294967295=u / 4294967295/\cY .u64 u (fO .u64 (u / 4294967295) 4294967295)=u - u / 4294967295*4294967295/\
    cY .u64 (bC .u64 (fO .u64 u 4294967296) w) (fO .u64 ((u*4294967296+w) / (18446744073709551616 - e)) (18446744073709551616 - e))=(u*4294967296+w)%(18446744073709551616 - e):=by
   intro u w k1 k2 k3 k4;obtain⟨q1,q2,q3,q4,O,q6,q7,q8⟩:=k0 L k1 k2 k3 k4;refine⟨ayb k1 aq aq,by rw[ajW,Bn];omega,?_⟩;rw[ajW,tX,Bn,Bn,bpb,q4];exact fv O aq
  obtain⟨f1,f2,f3⟩:=g u w1 u0 K I J;obtain⟨q1,q2,q3,q4,O,q6,q7,q8⟩:=k0 L u0 K I J;have p1:Z4 (18446744073709551616 - e,(s:Int),4294967295,4294967296 - e,u,w1,w0,u / 4294967295,u - u / 4294967295*4294967295):=⟨e,L,rfl,rfl,rfl,u0,K,I,J,q2,q3,aq,q1⟩;rw[f1,f2,axw p1];simp only[ah,Z5,Mv,z2,ai,f3]
  revert f3 q1 j
  generalize (u*4294967296+w1)%(18446744073709551616 - e)=v at q4 O q6;generalize (u*4294967296+w1) / (18446744073709551616 - e)=Q at q4 q7 q8;intro j f3 q1;obtain⟨g1,g2,g3⟩:=g v w0 O q6 A B;obtain⟨r1,r2,r3,r4,r5,r6,r7,r8⟩:=k0 L O q6 A B;have p2:Z6 (18446744073709551616 - e,(s:Int),4294967295,4294967296 - e,w0,Q,v - v / 4294967295*4294967295,v,v / 4294967295):=⟨e,L,rfl,rfl,rfl,O,q6,A,B,r2,r3,aq,r1⟩;rw[g1,g2,axx p2];simp only[ah,Z7,Mw,c2,ai,g3];rw[<-j.2,zS s (by rfl) aq,<-hm,a6,Bn,tX];have e9:(Q*4294967296%18446744073709551616+(v*4294967296+w0) / (18446744073709551616 - e))%18446744073709551616=(M*18446744073709551616+lo) / y:=by rw[j.1];omega
  rw[e9];rfl
def aQl:HT.RS:=rE [.d tu,.d tu,.d tu] HT
def aXm:=HT.eQ aXl 2 ⟨.eg aCq,⟨.eg aCr,trivial⟩⟩
def aff:(Int×Int×Int)->Prop:=λ(j,u,y)=>bkT y/\0<=j/\j < 18446744073709551616/\0<=u/\u < 18446744073709551616
def ab6:(Int×Int×Int)->Int:=λ(j,u,y)=>(j*18446744073709551616+u)%y
def ab5:Fs prog aff bt ab6:=eP 169 f169 (λ(j,u,A)=>([cK j,cK u,cK A],[])) (λx=>⟨cK x,[],[]⟩) [aw tu,aw tu,aw tu] [aXm]
def baI(u A j)(k:K1 R):ab5.A (u,A,j) k=aA (vO j) (ao (HT.call ((kJ u j),A,j)) λB=>k (ab5.out B.2)) aC:=bS
def baJ:ab5.Ok:=by
 rintro⟨j,A,y⟩ ⟨B,u,L,I,J⟩;have u:0<=j:=u;have K:0 < y:=by obtain rfl | rfl | rfl:=B <;> omega
 have z:vO y=bn:=by simp[vO];omega
 have p:atW (j%y,A,y):=⟨.inl B,qO _ aq,lU _ K,I,J⟩;rw[baI,z,vK u,aQl p];have e:(j%y*18446744073709551616+A)%y=(j*18446744073709551616+A)%y:=by rw[pN,jc,gN _ (pO y),<-jc,<-pN]
 simp only[ai,ah,bt,axv,bt,ab6,e]
def afg:ab5.RS:=rE [.d tu,.d tu,.d tu] ab5
def apq:=ab5.eQ baJ
def aRr:(Int×Int)->Prop:=λ(x,y)=>(0<=x/\x < 18446744073709551616)/\0<=y/\y < 18446744073709551616
def aj3:(Int×Int)->(Int×Int):=λ(x,y)=>(x*y / 18446744073709551616,x*y%18446744073709551616)
def aaP:Fs prog aRr bt aj3:=eP 202 f202 (λ(x,j)=>([cK x,cK j],[])) (λx=>⟨.cons (cK x.1) (.cons (cK x.2) (.nil)),[],[]⟩) [aw tu,aw tu]
def aY0(x j)(k:K1 R):aaP.A (x,j) k=k (aaP.out ((bC .u64 (bC .u64 (fO .u64 (cI .u64 x 32) (cI .u64 j 32)) (cI .u64 (bC .u64 (fO .u64 (cI .u64 x 32) (cE .and .u64 j 4294967295)) (cI .u64 (fO .u64 (cE .and .u64 x 4294967295) (cE .and .u64 j 4294967295)) 32)) 32)) (cI .u64 (bC .u64 (cE .and .u64 (bC .u64 (fO .u64 (cI .u64 x 32) (cE .and .u64 j 4294967295)) (cI .u64 (fO .u64 (cE .and .u64 x 4294967295) (cE .and .u64 j 4294967295)) 32)) 4294967295) (fO .u64 (cE .and .u64 x 4294967295) (cI .u64 j 32))) 32)),(fO .u64 x j))):=bS
def aez{a b m n:Int}(j:0<=a)(u:a<=m)(A:0<=b)(B:b<=n):0<=a*b/\a*b<=m*n:=⟨Int.mul_nonneg j A,Int.mul_le_mul u B A (Int.le_trans j u)⟩
def aY1:aaP.Ok:=by
 rintro⟨x,y⟩ ⟨⟨B,I⟩,J,K⟩;have B:0<=x:=B;have I:x < 18446744073709551616:=I;have J:0<=y:=J;have K:y < 18446744073709551616:=K;rw[aY0];have p32:(2:Int)^32=4294967296:=rfl;have A:∀x:Int,cI .u64 x 32=x / 4294967296:=λx=>by rw[zS 32 (by rfl) aq,p32]
 simp only[A,aA6 B I,aA6 J K];obtain⟨a,b,rfl,a0,a1,b0,b1⟩:∃a b:Int,x=a*4294967296+b/\0<=a/\a<=4294967295/\0<=b/\b<=4294967295:=⟨x / 4294967296,x%4294967296,aq,aq,aq,aq,aq⟩;obtain⟨c,d,rfl,c0,c1,d0,d1⟩:∃a b:Int,y=a*4294967296+b/\0<=a/\a<=4294967295/\0<=b/\b<=4294967295:=⟨y / 4294967296,y%4294967296,aq,aq,aq,aq,aq⟩;have e1:(a*4294967296+b) / 4294967296=a:=aq;have e2:(a*4294967296+b)%4294967296=b:=aq;have e3:(c*4294967296+d) / 4294967296=c:=aq;have e4:(c*4294967296+d)%4294967296=d:=aq;have e5:(a*4294967296+b)*(c*4294967296+d)=a*c*18446744073709551616+(a*d+b*c)*4294967296+b*d:=by
  have q:(4294967296:Int)*4294967296=18446744073709551616:=rfl;rw[Int.add_mul,Int.mul_add,Int.mul_add];have q1:a*4294967296*(c*4294967296)=a*c*18446744073709551616:=by rw[<-q];ac_rfl
  have q2:a*4294967296*d=a*d*4294967296:=by ac_rfl
  have q3:b*(c*4294967296)=b*c*4294967296:=by ac_rfl
  rw[q1,q2,q3];omega
 obtain⟨m1,L⟩:=aez a0 a1 c0 c1;obtain⟨m3,M⟩:=aez a0 a1 d0 d1;obtain⟨m5,O⟩:=aez b0 b1 c0 c1;obtain⟨m7,T⟩:=aez b0 b1 d0 d1;have n:(4294967295:Int)*4294967295=18446744065119617025:=rfl;rw[n]at L M O T;simp only[e1,e2,e3,e4,bt,aj3,e5,Bn,tX]
 revert m1 L m3 M m5 O m7 T
 generalize a*c=ac;generalize a*d=j;generalize b*c=bc;generalize b*d=u;intro m1 L m3 M m5 O m7 T;have q1:u%18446744073709551616=u:=aq;have q2:j%18446744073709551616=j:=aq;have q3:bc%18446744073709551616=bc:=aq;have q4:ac%18446744073709551616=ac:=aq;rw[q1,q2,q3,q4];have q5:(j+u / 4294967296)%18446744073709551616=j+u / 4294967296:=aq;have q6:cE .and .u64 (j+u / 4294967296) 4294967295=(j+u / 4294967296)%4294967296:=aA6 aq aq;rw[q5,q6];refine bA aw (bA aaP.out (Prod.ext ?_ ?_))
 .show _=(_:Int);simp only[];omega
 .rfl
def auz:aaP.RS:=rE [.d tu,.d tu] aaP
def aDA:=aaP.eQ aY1
def Pn(x:Int):Prop:=0<=x/\x < 4611686018427377339
def mC(x:Int):Prop:=0<=x/\x < 18446744073709551616
def Pn.u{x:Int}(h:Pn x):mC x:=⟨h.1,by have:=h.2;omega⟩
def lP(a b:Int):Int:=a*b%4611686018427377339
def vN(a b:Int):Pn (lP a b):=⟨qO _ aq,lU _ aq⟩
def aAP:Nat->Int->Nat->Int->Int
 | 0,_,_,out=>out
 |f+1,a,n,out=>if n=0 then out else aAP f (lP a a) (n / 2) (if n%2=1 then lP out a else out)
def pw(a:Int)(n:Nat):Int:=aAP 64 a n 1
def GB(f:Nat)(a out:Int):aAP f a 0 out=out:=by cases f <;> rfl
def anO:∀(f g:Nat) (a:Int) (n:Nat) (out:Int),n < 2^f->n < 2^g->aAP f a n out=aAP g a n out
 | 0,g,a,n,out,h,_=>by obtain rfl:n=0:=aq;rw[GB,GB]
 |f+1,0,a,n,out,_,h=>by obtain rfl:n=0:=aq;rw[GB,GB]
 |f+1,g+1,a,n,out,h,u=>by
  have e:(2:Nat)^(f+1)=2^f*2:=Nat.pow_succ 2 f;have j:(2:Nat)^(g+1)=2^g*2:=Nat.pow_succ 2 g;unfold aAP;split
  .rfl
  .exact anO f g _ _ _ aq aq
def aZM:∀(f:Nat) (a:Int) (n:Nat) (out:Int),Pn out->Pn (aAP f a n out)
 | 0,_,_,_,h=>h
 |f+1,a,n,out,h=>by
  unfold aAP;split
  .exact h
  .refine aZM f _ _ _ ?_
   split
   .exact vN _ _
   .exact h
def anQ(a:Int)(n:Nat):Pn (pw a n):=aZM _ _ _ _ ⟨aq,aq⟩
def aJE:(Int×Int)->Prop:=λ(a,b)=>mC a/\mC b
def aZI:(Int×Int)->Int:=λ(a,b)=>lP a b
def JD:Fs prog aJE bt aZI:=eP 159 f159 (λ(a,b)=>([cK a,cK b],[])) (λx=>⟨cK x,[],[]⟩) [aw tu,aw tu] [aDA,apq]
def aR2(a b)(k:K1 R):JD.A (a,b) k=ao (aaP.call (a,b)) λj=>ao (ab5.call (j.1,j.2,4611686018427377339)) λu=>k (JD.out u):=bS
def aqJ(n:Int):n / 18446744073709551616*18446744073709551616+n%18446744073709551616=n:=aq
def aR3:JD.Ok:=by rintro⟨a,b⟩ ⟨j,u⟩;have j:mC a:=j;have u:mC b:=u;obtain⟨B,A⟩:=aez j.1 (show a<=18446744073709551615 by have:=j.2;omega) u.1 (show b<=18446744073709551615 by have:=u.2;omega);have n:(18446744073709551615:Int)*18446744073709551615=340282366920938463426481119284349108225:=rfl;rw[n]at A;have p:aff (a*b / 18446744073709551616,a*b%18446744073709551616,4611686018427377339):=⟨ju rfl,aq,aq,aq,aq⟩;rw[aR2,auz (d:=(a,b)) ⟨j,u⟩];simp only[ah,bt,aj3];rw[afg p];simp only[ah,bt,ab6,aqJ];rfl
def Yj:JD.RS:=rE [.d tu,.d tu] JD
def auS:=JD.eQ aR3
def arY:(Int×Int×Int)->Prop:=λ(a,n,o)=>mC a/\mC n/\Pn o
def H9:(Int×Int×Int)->Int:=λ(a,n,o)=>aAP 64 a n.toNat o
def aJA:(Int×Int)->Prop:=λ(a,n)=>mC a/\mC n
def aD7:(Int×Int)->Int:=λ(a,n)=>pw a n.toNat
def rh:Ls arY bt H9:=rI (λ(A,u,j)=>⟨([cK A,cK u,bB,bB,bB,cK j]++aP 14 []),[],(ag 20 [])⟩) (λx=>(.exit 0,⟨(aP 5 ([cK x]++aP 14 [])),[],(ag 20 [])⟩))
def C6:Fs prog aJA bt aD7:=eP 102 f102 (λ(a,n)=>([.d tu a,.d tu n],[])) (λx=>⟨.d tu x,[],[]⟩) [aw tu,aw tu] [auS] {loops:=ko [(2,{aX:=[0,1,5]})],outs:=km [(2,{aX:=[5]},{aX:=[4]})],eT:=jW [(2,rh.E)]}
def arZ:rh.RS:=rL [.d tu,.d tu,.d tu] rh
def QN(u A j)(B:K2 R)(I:K3 R):C6.R 0 rh (u,A,j) B I=aA (qi A 0) (aA (oC (cE .and .u64 A 1) 1) (ao (JD.call (j,u)) λJ=>ao (JD.call (u,u)) λK=>B (rh.st (K,(cI .u64 A 1),J))) (ao (JD.call (u,u)) λL=>B (rh.st (L,(cI .u64 A 1),j)))) (rh.go I j):=bS
def aRU(a n)(k:K1 R):C6.A (a,n) k=ao (rh.call (a,n,1)) λj=>k (C6.out j):=bS
def bpw{n:Int}(h:mC n):cI .u64 n 1=n / 2:=zS 1 (by rfl) aq
def ayQ:(C6.kA 0 rh):=by
 refine(C6.lS 0 rh) (λ(a,n,o)=>n.toNat) ?_
 rintro⟨a,n,o⟩ ⟨j,u,B⟩;have j:mC a:=j;have u:mC n:=u;have B:Pn o:=B;have n0:=u.1;have n1:=u.2;by_cases h:0 < n
 .left;have e:H9 (a,n,o)=H9 (lP a a,n / 2,if n%2=1 then lP o a else o):=by
   show aAP 64 a n.toNat o=aAP 64 (lP a a) (n / 2).toNat _;rw[anO 64 65 a n.toNat o aq aq];have K:(n / 2).toNat=n.toNat / 2:=aq;have L:(n%2=1)=(n.toNat%2=1):=by apply propext;omega
   rw[K];simp only[L];show(if n.toNat=0 then o else _)=_;rw[au aq]
  refine⟨(lP a a,n / 2,if n%2=1 then lP o a else o),⟨(vN a a).u,⟨aq,aq⟩,?_⟩,by show(n / 2).toNat < n.toNat;omega,?_,λI J=> ?_⟩
  .show Pn (if n%2=1 then lP o a else o);split
   .exact vN _ _
   .exact B
  .exact bA _ e.symm
  .rw[QN,cW h,bpw u,bla n0 n1,Yj (d:=(o,a)) ⟨B.u,j⟩,Yj (d:=(a,a)) ⟨j,j⟩];by_cases A:n%2=1
   .rw[dC A,av A];rfl
   .rw[eZ A,au A];rfl
 .right;intro R I J;obtain rfl:n=0:=aq;rw[QN,ct aq];simp only[al,bt,H9];rw[show aAP 64 a (ae 0) o=o from GB _ _ _]
def aRV:C6.Ok:=by rintro⟨a,n⟩ ⟨j,u⟩;rw[aRU,arZ (d:=(a,n,1)) ⟨j,u,aq,aq⟩];rfl
def Yh:C6.RS:=rE [.d tu,.d tu] C6
def aeG:=C6.eQ aRV 1 ⟨.eg ayQ,trivial⟩
def u9(p:Int):Bool:=decide (0 < p/\p < 4611686018427377339) && decide (pw p 2305843009213688669=1)
def tk(p:Int):Int:=if u9 p then p else 1
def aqp(p:Int):Pn (tk p):=by
 unfold tk;split
 .rename_i h;simp only[u9,aQ,bJ]at h;exact⟨aq,aq⟩
 .exact⟨aq,aq⟩
def zR(p k:Int):Int:=pw (tk p) (k%2305843009213688669).toNat
def fH(k:Int):Int:=zR 4 k
def anr(p:Int):Int:=pw (tk p) 2305843009213688668
def Ha(l:List Int):Int:=l.foldl (λo p=>lP o (tk p)) 1
def bgZ(l:List Int)(o:Int)(h:Pn o):Pn (l.foldl (λo p=>lP o (tk p)) o):=by
 induction l generalizing o with
 |nil=>exact h
 |cons p l j=>exact j _ (vN _ _)
def bg0(l:List Int):Pn (Ha l):=bgZ l 1 ⟨aq,aq⟩
def aJB:Int->Prop:=λp=>mC p
def aa6:Int->Bool:=λp=>u9 p
def fA(j):=(.d .bool j:aF)
def AN:Fs prog aJB bt aa6:=eP 117 f117 (λp=>([cK p],[])) (λx=>⟨fA x,[],[]⟩) [aw tu] [aeG]
def aRW(p)(k:K1 R):AN.A p k=aA (qi p 0) (aA (fj p 4611686018427377339) (ao (C6.call (p,2305843009213688669)) λj=>k (AN.out (oC j 1))) (k (AN.out aZ))) (k (AN.out aZ)):=bS
def aRX:AN.Ok:=by
 intro p u;have u:mC p:=u;rw[aRW,Yh (d:=(p,2305843009213688669)) ⟨u,by constructor <;> decide⟩];simp only[ah,bt,aD7,bt,aa6,u9];by_cases h:0 < p
 .rw[cW h,ai];by_cases j:p < 4611686018427377339
  .rw[aN j,ai,aK ⟨h,j⟩,bH];rfl
  .rw[aL j,al,aV (λx=>j x.2),cU]
 .rw[ct h,al,aV (λx=>h x.1),cU]
def Gz:AN.RS:=rE [.d tu] AN
def aeH:=AN.eQ aRX
def aJD:Int->Prop:=λp=>mC p
def QP:Int->Int:=λp=>tk p
def JC:Fs prog aJD bt QP:=eP 103 f103 (λp=>([cK p],[])) (λx=>⟨cK x,[],[]⟩) [aw tu] [aeH]
def aR0(p)(k:K1 R):JC.A p k=ao (AN.call p) λj=>aA (j) (k (JC.out p)) (k (JC.out 1)):=bS
def aR1:JC.Ok:=by intro p j;rw[aR0,Gz (d:=p) j];simp only[ah,bt,aa6,bt,QP,tk];cases u9 p <;> rfl
def Yi:JC.RS:=rE [.d tu] JC
def aeI:=JC.eQ aR1
def aJC:(Int×Int)->Prop:=λ(p,k)=>mC p/\mC k
def aD8:(Int×Int)->Int:=λ(p,k)=>zR p k
def QO:Fs prog aJC bt aD8:=eP 61 f61 (λ(p,j)=>([cK p,cK j],[])) (λx=>⟨cK x,[],[]⟩) [aw tu,aw tu] [aeI,aeG]
def aRY(p j)(k:K1 R):QO.A (p,j) k=ao (JC.call p) λu=>ao (C6.call (u,(kJ j 2305843009213688669))) λA=>k (QO.out A):=bS
def aRZ:QO.Ok:=by rintro⟨p,k⟩ ⟨u,j⟩;have j:mC k:=j;have e:=vK (y:=2305843009213688669) j.1;have b:mC (k%2305843009213688669):=⟨aq,aq⟩;rw[aRY,Yi (d:=p) u,e];simp only[ah,bt,QP];rw[Yh (d:=(tk p,k%2305843009213688669)) ⟨(aqp p).u,b⟩];rfl
def anL:QO.RS:=rE [.d tu,.d tu] QO
def auR:=QO.eQ aRZ
def aRL:Int->Prop:=λk=>mC k
def aj7:Int->Int:=λk=>fH k
def Ou:Fs prog aRL bt aj7:=eP 27 f27 (λj=>([cK j],[])) (λx=>⟨cK x,[],[]⟩) [aw tu] [auR]
def aZy(j)(k:K1 R):Ou.A j k=ao (QO.call (4,j)) λu=>k (Ou.out u):=bS
def aZz:Ou.Ok:=by intro k j;rw[aZy,anL (d:=(4,k)) ⟨⟨aq,aq⟩,j⟩];rfl
def KZ:Ou.RS:=rE [.d tu] Ou
def aa1:=Ou.eQ aZz
def aZG:Int->Prop:=λp=>mC p
def aZF:Int->Int:=λp=>anr p
def aJy:Fs prog aZG bt aZF:=eP 249 f249 (λp=>([cK p],[])) (λx=>⟨cK x,[],[]⟩) [aw tu] [aeI,aeG]
def bfZ(p)(k:K1 R):aJy.A p k=ao (JC.call p) λj=>ao (C6.call (j,2305843009213688668)) λu=>k (aJy.out u):=bS
def bf0:aJy.Ok:=by intro p j;rw[bfZ,Yi (d:=p) j];simp only[ah,bt,QP];rw[Yh (d:=(tk p,2305843009213688668)) ⟨(aqp p).u,by constructor <;> decide⟩];rfl
def aZH:aJy.RS:=rE [.d tu] aJy
def bf1:=aJy.eQ bf0
abbrev auN:=Int×Bs×Int×Int
def aDY:auN->Prop:=λ(o,l,n,i)=>Pn o/\(∀x∈l,mC x)/\aa l<=1000000000/\n=aa l/\∃k:Nat,k<=aa l/\i=k
def aeD:auN->Int:=λ(o,l,n,i)=>(l.drop i.toNat).foldl (λo p=>lP o (tk p)) o
def anG:Bs->Prop:=λl=>(∀x∈l,mC x)/\aa l<=1000000000
def bjU:Bs->Int:=λl=>Ha l
def EK:Ls aDY bt aeD:=rI (λ(j,u,A,B)=>⟨([bB,bB,bB,cK j,bB,bB,.d tU u,aU A,aU B]++aP 9 []),[],(ag 18 [])⟩) (λx=>(.exit 0,⟨([bB,bB,bB,cK x]++aP 14 []),[],(ag 18 [])⟩))
def anF:Fs prog anG bt bjU:=eP 206 f206 (λl=>([.d tU l],[])) (λx=>⟨.d tu x,[],[]⟩) [aw tU] [aeI,auS] {loops:=ko [(3,{aX:=[3,6,7,8]})],outs:=km [(3,{aX:=[3]},{aX:=[2]})],eT:=jW [(3,EK.E)]}
def aDZ:EK.RS:=rL [.d tu,.d tU,.d ti,.d ti] EK
def aaZ(j A B u)(I:K2 R)(J:K3 R):anF.R 0 EK (j,A,B,u) I J=aA (fj u B) (aA (dB u (aa A:Int)) (ao (JC.call (nth tu A (ae u))) λK=>ao (JD.call (j,K)) λL=>I (EK.st (L,A,B,(bC .i64 u 1)))) aC) (EK.go J j):=bS
def bfU(l)(k:K1 R):anF.A l k=ao (EK.call (1,l,(aa l:Int),0)) λj=>k (anF.out j):=bS
def aJq:(anF.kA 0 EK):=by
 refine(anF.lS 0 EK) (λ(o,l,n,i)=>aa l - i.toNat) ?_
 rintro⟨o,l,n,i⟩ ⟨u,B,j,rfl,k,A,rfl⟩;have u:Pn o:=u;have j:aa l<=1000000000:=j;have A:k<=aa l:=A;by_cases h:k < aa l
 .left;have I:=B _ (aD h);have n1:nth (.int .u64) l k=l[k]:=bG (t:= .int .u64) h;refine⟨(lP o (tk l[k]),l,aa l,((k+1:Nat):Int)),⟨vN _ _,B,j,rfl,k+1,aq,rfl⟩,by simp only[ab];omega,?_,λJ K=> ?_⟩
  .simp only[bt,aeD,ab];rw[ak h];rfl
  .rw[aaZ];simp(disch:=omega) only[↓S1,↓av,↓au,av,au,bQ,bq,S2,n1];rw[Yi (d:=l[k]) I];simp only[ah,bt,QP];rw[Yj (d:=(o,tk l[k])) ⟨u.u,(aqp _).u⟩];rfl
 .right;obtain rfl:k=aa l:=aq;intro R J K;rw[aaZ];simp(disch:=omega) only[↓S1,↓av,↓au,av,au,bQ,bq,S2,bt,aeD,ay];rfl
def bfV:anF.Ok:=by rintro l ⟨u,j⟩;rw[bfU,aDZ (d:=(1,l,aa l,0)) ⟨⟨aq,aq⟩,u,j,rfl,0,aq,rfl⟩];rfl
def aD0:anF.RS:=rE [.d tU] anF
def aNS:=anF.eQ bfV 1 ⟨.eg aJq,trivial⟩
def aZw:(Int×Int)->Prop:=λ(p,q)=>mC p/\mC q
def aZv:(Int×Int)->Int:=λ(p,q)=>Ha [p,q]
def aJp:Fs prog aZw bt aZv:=eP 165 f165 (λ(p,q)=>([cK p,cK q],[])) (λx=>⟨cK x,[],[]⟩) [aw tu,aw tu] [aNS]
def bfR(p q)(k:K1 R):aJp.A (p,q) k=ao (anF.call [p,q]) λj=>k (aJp.out j):=bS
def bfS:aJp.Ok:=by rintro⟨p,q⟩ ⟨u,A⟩;have h:anG [p,q]:=⟨by intro x j;simp only[cr,List.not_mem_nil,or_false]at j;rcases j with rfl | rfl <;> assumption,by simp only[aB,bl];omega⟩;rw[bfR,aD0 h];rfl
def aZx:aJp.RS:=rE [.d tu,.d tu] aJp
def bfT:=aJp.eQ bfS
def Qn(x:Int):Prop:=0<=x/\x < 2305843009213688669
def Qn.u{x:Int}(h:Qn x):mC x:=⟨h.1,by have:=h.2;omega⟩
def aZf(a:Int):Int:=a%2305843009213688669
def ayD(a:Int):Qn (aZf a):=⟨qO _ aq,lU _ aq⟩
def aG6(a b:Int):Int:=(aZf a+aZf b)%2305843009213688669
def ayy(a b:Int):Int:=aZf a*aZf b%2305843009213688669
def Qc(h:List Int):Int:=h.foldl (λn b=>(n*256+b)%2305843009213688668) 0+1
def awt.b(n:Int):Prop:=0<=n/\n < 2305843009213688668
def alX(h:List Int)(n:Int)(j:awt.b n):awt.b (h.foldl (λn b=>(n*256+b)%2305843009213688668) n):=by
 induction h generalizing n with
 |nil=>exact j
 |cons p l u=>exact u _ ⟨qO _ aq,lU _ aq⟩
def alY(h:List Int):0 < Qc h/\Qc h < 2305843009213688669:=by have:=alX h 0 ⟨aq,aq⟩;have j:=this.1;have u:=this.2;unfold Qc;omega
def aMA(a b:Int):Qn (aG6 a b):=⟨qO _ aq,lU _ aq⟩
def bfA(a b:Int):Qn (ayy a b):=⟨qO _ aq,lU _ aq⟩
def aIk:Int->Prop:=λ_=>True
def aai:Int->Bool:=λa=>fj a 2305843009213688669
def MF:Fs prog aIk bt aai:=eP 63 f63 (λa=>([cK a],[])) (λx=>⟨fA x,[],[]⟩) [aw tu]
def aQE(a)(k:K1 R):MF.A a k=k (MF.out (fj a 2305843009213688669)):=bS
def aQF:MF.Ok:=by intro a _;rw[aQE];rfl
def XB:MF.RS:=rE [.d tu] MF
def ad8:=MF.eQ aQF
def bew:Int->Prop:=λa=>mC a
def aXH:Int->Int:=λa=>aZf a
def bc3:Fs prog bew bt aXH:=eP 207 f207 (λa=>([cK a],[])) (λx=>⟨cK x,[],[]⟩) [aw tu]
def bi1(a)(k:K1 R):bc3.A a k=k (bc3.out (kJ a 2305843009213688669)):=bS
def bi2:bc3.Ok:=by intro a j;rw[bi1,vK j.1];rfl
def ajK:bc3.RS:=rE [.d tu] bc3
def aXI:=bc3.eQ bi2
def aQC:(Int×Int)->Prop:=λ(a,b)=>Qn a/\Qn b
def bex:(Int×Int)->Int:=λ(a,b)=>(a+b)%2305843009213688669
def alW:Fs prog aQC bt bex:=eP 208 f208 (λ(a,b)=>([cK a,cK b],[])) (λx=>⟨cK x,[],[]⟩) [aw tu,aw tu]
def aXJ(a b)(k:K1 R):alW.A (a,b) k=k (alW.out (kJ (bC .u64 a b) 2305843009213688669)):=bS
def aXK:alW.Ok:=by
 rintro⟨a,b⟩ ⟨j,u⟩;have j:Qn a:=j;have u:Qn b:=u;obtain⟨A,B⟩:=j;obtain⟨I,J⟩:=u;have e:bC .u64 a b=a+b:=by rw[tX];omega
 rw[aXJ,e,vK aq];rfl
def aQD:alW.RS:=rE [.d tu,.d tu] alW
def aXL:=alW.eQ aXK
def aIl:(Int×Int)->Prop:=λ(a,b)=>Qn a/\Qn b
def aXM:(Int×Int)->Int:=λ(a,b)=>a*b%2305843009213688669
def XC:Fs prog aIl bt aXM:=eP 209 f209 (λ(a,b)=>([cK a,cK b],[])) (λx=>⟨cK x,[],[]⟩) [aw tu,aw tu] [aDA,apq]
def aQG(a b)(k:K1 R):XC.A (a,b) k=ao (aaP.call (a,b)) λj=>ao (ab5.call (j.1,j.2,2305843009213688669)) λu=>k (XC.out u):=bS
def aQH:XC.Ok:=by rintro⟨a,b⟩ ⟨j,u⟩;have j:Qn a:=j;have u:Qn b:=u;obtain⟨B,A⟩:=aez j.1 (show a<=18446744073709551615 by have:=j.2;omega) u.1 (show b<=18446744073709551615 by have:=u.2;omega);have n:(18446744073709551615:Int)*18446744073709551615=340282366920938463426481119284349108225:=rfl;rw[n]at A;have p:aff (a*b / 18446744073709551616,a*b%18446744073709551616,2305843009213688669):=⟨eF (ju rfl),aq,aq,aq,aq⟩;rw[aQG,auz (d:=(a,b)) ⟨j.u,u.u⟩];simp only[ah,bt,aj3];rw[afg p];simp only[ah,bt,ab6,aqJ];rfl
def aIm:XC.RS:=rE [.d tu,.d tu] XC
def aQI:=XC.eQ aQH
def aXs:(Int×Int)->Prop:=λ(a,b)=>mC a/\mC b
def bi0:(Int×Int)->Int:=λ(a,b)=>aG6 a b
def aIf:Fs prog aXs bt bi0:=eP 166 f166 (λ(a,b)=>([cK a,cK b],[])) (λx=>⟨cK x,[],[]⟩) [aw tu,aw tu] [aXI,aXL]
def ben(a b)(k:K1 R):aIf.A (a,b) k=ao (bc3.call a) λj=>ao (bc3.call b) λu=>ao (alW.call (j,u)) λA=>k (aIf.out A):=bS
def beo:aIf.Ok:=by rintro⟨a,b⟩ ⟨j,u⟩;rw[ben,ajK (d:=a) j,ajK (d:=b) u];simp only[ah,bt,aXH];rw[aQD (d:=(aZf a,aZf b)) ⟨ayD a,ayD b⟩];rfl
def aXt:aIf.RS:=rE [.d tu,.d tu] aIf
def bep:=aIf.eQ beo
def aXF:(Int×Int)->Prop:=λ(a,b)=>mC a/\mC b
def aXE:(Int×Int)->Int:=λ(a,b)=>ayy a b
def aIj:Fs prog aXF bt aXE:=eP 167 f167 (λ(a,b)=>([cK a,cK b],[])) (λx=>⟨cK x,[],[]⟩) [aw tu,aw tu] [aXI,aQI]
def bet(a b)(k:K1 R):aIj.A (a,b) k=ao (bc3.call a) λj=>ao (bc3.call b) λu=>ao (XC.call (j,u)) λA=>k (aIj.out A):=bS
def beu:aIj.Ok:=by rintro⟨a,b⟩ ⟨j,u⟩;rw[bet,ajK (d:=a) j,ajK (d:=b) u];simp only[ah,bt,aXH];rw[aIm (d:=(aZf a,aZf b)) ⟨ayD a,ayD b⟩];rfl
def aXG:aIj.RS:=rE [.d tu,.d tu] aIj
def bev:=aIj.eQ beu
def axH:(Int×Bs×Int)->Prop:=λ(n,h,i)=>awt.b n/\aa h=32/\Bytes h/\∃k:Nat,k<=32/\i=k
def MD:(Int×Bs×Int)->Int:=λ(n,h,i)=>(h.drop i.toNat).foldl (λn b=>(n*256+b)%2305843009213688668) n
def aQx:Bs->Prop:=λh=>aa h=32/\Bytes h
def axG:Bs->Int:=λh=>Qc h
def yW:Ls axH bt MD:=rI (λ(n,j,u)=>⟨([bB,bB,bB,cK n,bB,bB,fW j,aU u]++aP 13 []),[],(ag 21 [])⟩) (λx=>(.exit 0,⟨([bB,bB,bB,cK x]++aP 17 []),[],(ag 21 [])⟩))
def P9:Fs prog aQx bt axG:=eP 110 f110 (λh=>([.d tH h],[])) (λx=>⟨.d tu x,[],[]⟩) [aw tH] [apq] {loops:=ko [(3,{aX:=[3,6,7]})],outs:=km [(3,{aX:=[3]},{aX:=[2]})],eT:=jW [(3,yW.E)]}
def axI:yW.RS:=rL [.d tu,.d tB,.d ti] yW
def U6(n u j)(A:K2 R)(B:K3 R):P9.R 0 yW (n,u,j) A B=aA (fj j 32) (aA (dB j 32) (ao (ab5.call ((cI .u64 n 56),(cE .or .u64 (oO .u64 n 8) (eD .u64 (nth tb u (ae j)))),2305843009213688668)) λI=>A (yW.st (I,u,(bC .i64 j 1)))) aC) (yW.go B n):=bS
def aXz(h)(k:K1 R):P9.A h k=ao (yW.call (0,h,0)) λj=>k (P9.out (bC .u64 j 1)):=bS
def agQ{n b:Int}(A:awt.b n)(u:akj b):cI .u64 n 56*18446744073709551616+cE .or .u64 (oO .u64 n 8) (eD .u64 b)=n*256+b/\mC (cI .u64 n 56)/\mC (cE .or .u64 (oO .u64 n 8) (eD .u64 b)):=by
 obtain⟨I,J⟩:=A;obtain⟨K,L⟩:=u;have j:(2:Int)^56=72057594037927936:=rfl;have B:(2:Int)^8=256:=rfl;have e:eD .u64 b=b:=by rw[aII];omega
 rw[zS 56 (by rfl) aq,BT 8 (by rfl) aq,j,B,e,aaV 8 256 rfl aq aq aq aq aq aq];exact⟨aq,⟨aq,aq⟩,aq,aq⟩
def aCB:(P9.kA 0 yW):=by
 refine(P9.lS 0 yW) (λ(n,h,i)=>32 - i.toNat) ?_
 rintro⟨n,h,i⟩ ⟨A,u,j,k,T,rfl⟩;have A:awt.b n:=A;have u:aa h=32:=u;have j:Bytes h:=j;by_cases O:k < 32
 .left;have K:akj (h[k]'(aq)):=j _ (aD _);have n1:nth (.int .u8) h k=h[k]'(aq):=bG (t:= .int .u8) aq;obtain⟨J,B,I⟩:=agQ A K;refine⟨((n*256+h[k]'(aq))%2305843009213688668,h,((k+1:Nat):Int)),⟨⟨aq,aq⟩,u,j,k+1,aq,rfl⟩,by simp only[ab];omega,?_,λL M=> ?_⟩
  .simp only[bt,MD,ab];rw[ak (by omega:k < aa h)];rfl
  .rw[U6];simp(disch:=omega) only[↓S1,↓av,↓au,av,au,bQ,bq,S2,n1];rw[afg (d:=(_,_,2305843009213688668)) ⟨eF (eF rfl),B.1,B.2,I.1,I.2⟩];simp only[ah,bt,ab6,J]
 .right;obtain rfl:k=32:=aq;intro R L M;rw[U6];simp(disch:=omega) only[↓S1,↓av,↓au,av,au,bQ,bq,S2,bt,MD];rw[dJ aq];rfl
def aXA:P9.Ok:=by
 rintro h ⟨B,A⟩;have e:=alX h 0 ⟨aq,aq⟩;have j:=e.1;have u:=e.2;rw[aXz,axI (d:=(0,h,0)) ⟨⟨aq,aq⟩,B,A,0,aq,rfl⟩];simp only[ah,bt,MD,bt,axG,Qc,aW,aH]
 revert j u
 generalize h.foldl (λn b=>(n*256+b)%2305843009213688668) 0=m;intro j u;have e:bC .u64 m 1=m+1:=by rw[tX];omega
 rw[e]
def at0:P9.RS:=rE [.d tB] P9
def aCC:=P9.eQ aXA 1 ⟨.eg aCB,trivial⟩
def aBh(n:Int): [eD .u8 (cI .u64 n 56),eD .u8 (cI .u64 n 48),eD .u8 (cI .u64 n 40),eD .u8 (cI .u64 n 32),eD .u8 (cI .u64 n 24),eD .u8 (cI .u64 n 16),eD .u8 (cI .u64 n 8),eD .u8 (cI .u64 n 0)]=jI n:=aHj n
theorem dM{α:Type}{l:List α}{n:Nat}(h:aa l=n):cut l 0 n=l:=by subst h;simp[cut]
def aGd{n:ByteArray}{a b c:List Int}(B:n.size<=100)(j:aa a<=1000000)(u:aa b<=1000000)(A:aa c<=1000000):aat (n,[a,b,c]):=by show aa (afS _ [a,b,c])<=_;rw[afS];simp only[rS,c9,oK,aj,cC,na,bl];omega
def bbT{n:ByteArray}{a b:List Int}(A:n.size<=100)(j:aa a<=1000000)(u:aa b<=1000000):aat (n,[a,b]):=by show aa (afS _ [a,b])<=_;rw[afS];simp only[rS,c9,oK,aj,cC,na,bl];omega
def acL{n:ByteArray}{a:List Int}(u:n.size<=100)(j:aa a<=1000000):aat (n,[a]):=by show aa (afS _ [a])<=_;rw[afS];simp only[rS,c9,oK,aj,cC,na,bl];omega
def Sm(m:List Int):Prop:=aa m=32/\Bytes m
def bkb(b:List Int):Sm (bj6 b):=⟨aLp b,aPL b⟩
def ap1(n:List Int)(j:List (List Int)):Sm (tag n j):=bkb _
def bbS(n:ByteArray)(j:List (List Int)):List Int:=tag (bX n) j
def bmu:ByteArray:=⟨#[115,105,103]⟩
def aJf:ByteArray:=⟨#[110,111,110,99,101]⟩
def Aq(r p:Int)(m:List Int):Int:=Qc (bbS bmu [jI r,jI p,m])
def ZE(r p:Int)(m:List Int):Qn (Aq r p m):=by have:=alY (bbS bmu [jI r,jI p,m]);exact⟨by unfold Aq;omega,by unfold Aq;omega⟩
def bcZ(s:Sg):Prop:=mC s.1/\mC s.2.1
def sm(p:Int)(m:List Int)(t:Int)(s:Sg):Bool:=if p=1\/u9 p=aZ\/u9 t=aZ\/u9 s.1=aZ\/¬s.2.1 < 2305843009213688669 then aZ else decide (fH s.2.1=Ha [s.1,zR p (Aq s.1 p m),anr t])
def awB(k j:Int)(m:List Int)(t:Int):Sg:=(Ha [fH j,t],aG6 j (ayy (Aq (Ha [fH j,t]) (fH k) m) k),())
def aZb(k:Int)(m:List Int):Int:=Qc (bbS aJf [jI k,m])
def oW(k:Int)(m:List Int):Sg:=if k < 2305843009213688669/\k≠0 then awB k (aZb k m) m 1 else(0,0,())
def aIa:Int->Prop:=λ_=>True
def alJ:Int->Bs:=λn=>jI n
def Mz:Fs prog aIa bt alJ:=eP 111 f111 (λn=>([.d tu n],[])) (λx=>⟨.d tB x,[],[]⟩) [aw tu] [] {loops:=ko [(3,{aX:=[0,3,7,8],sites:=[5]})],outs:=km [(3,{aX:=[3],sites:=[5]},{aX:=[2],sites:=[5]})],res:=[aw tB]} 12
def aQr(n)(k:K1 R):Mz.A n k=k (Mz.out [(eD .u8 (cI .u64 n 56)),(eD .u8 (cI .u64 n 48)),(eD .u8 (cI .u64 n 40)),(eD .u8 (cI .u64 n 32)),(eD .u8 (cI .u64 n 24)),(eD .u8 (cI .u64 n 16)),(eD .u8 (cI .u64 n 8)),(eD .u8 (cI .u64 n 0))]):=bS
def aQs:Mz.Ok:=by intro n _;rw[aQr,aBh];rfl
def Xq:Mz.RS:=rE [.d tu] Mz
def atX:=Mz.eQ aQs 1 ⟨.none bS,trivial⟩
def aPS:(Int×Int×Bs)->Prop:=λ(r,p,m)=>Sm m
def awW:(Int×Int×Bs)->Int:=λ(r,p,m)=>Aq r p m
def agv:Fs prog aPS bt awW:=eP 168 f168 (λ(r,p,m)=>([cK r,cK p,fW m],[])) (λx=>⟨cK x,[],[]⟩) [aw tu,aw tu,aw tH] [atX,ajR,aCC]
def aWk(r p m)(k:K1 R):agv.A (r,p,m) k=ao (Mz.call r) λj=>ao (Mz.call p) λu=>ao (aef.call ((⟨#[115,105,103]⟩:ByteArray),[j,u,(cut m 0 32)])) λA=>ao (P9.call A) λB=>k (agv.out B):=bS
def aWl:agv.Ok:=by rintro⟨r,p,m⟩ j;have j:Sm m:=j;rw[aWk,Xq (d:=r) trivial,Xq (d:=p) trivial];simp only[ah,bt,alJ];rw[dM j.1,aau (aGd fm (by rw[cC];omega) (by rw[cC];omega) (by rw[j.1];omega))];simp only[ah,bt,ax4];rw[at0 (d:=tag (bX (⟨#[115,105,103]⟩:ByteArray)) [jI r,jI p,m]) (ap1 _ _)];rfl
def atC:agv.RS:=rE [.d tu,.d tu,.d tB] agv
def aBG:=agv.eQ aWl
abbrev avZ:=Int×Bs×Int×Sg
def aFL:avZ->Prop:=λ(p,m,t,s)=>mC p/\Sm m/\mC t/\bcZ s
def av0:avZ->Bool:=λ(p,m,t,s)=>sm p m t s
def wq:Fs prog aFL bt av0:=eP 246 f246 (λ(p,m,t,j)=>([cK p,fW m,cK t,.d yk j],[])) (λx=>⟨fA x,[],[]⟩) [aw tu,aw tH,aw tu,aw yk] [aeH,ad8,aBG,auR,bf1,aNS,aa1]
def aLj(p m t j)(k:K1 R):wq.A (p,m,t,j) k=aA (oC p 1) (k (wq.out aZ)) (ao (AN.call p) λu=>aA (!u) (k (wq.out aZ)) (ao (AN.call t) λA=>aA (!A) (k (wq.out aZ)) (ao (AN.call j.1) λB=>aA (!B) (k (wq.out aZ)) (ao (MF.call j.2.1) λI=>aA (!I) (k (wq.out aZ)) (ao (agv.call (j.1,p,m)) λJ=>ao (QO.call (p,J)) λK=>ao (aJy.call t) λL=>ao (anF.call [j.1,K,L]) λM=>ao (Ou.call j.2.1) λO=>k (wq.out (oC O M))))))):=bS
def aLk:wq.Ok:=by
 rintro⟨p,m,t,s⟩ ⟨B,J,I,j⟩;have B:mC p:=B;have I:mC t:=I;have J:Sm m:=J;have j:bcZ s:=j;rw[aLj,Gz (d:=p) B,Gz (d:=t) I,Gz (d:=s.1) j.1,XB (d:=s.2.1) trivial];simp only[ah,bt,aa6,bt,aai,bt,av0,sm];by_cases u:p=1
 .rw[dC u,ai,av (ju u)]
 rw[eZ u,al];cases M:u9 p
 .rw[av (eF (ju rfl))];rfl
 cases O:u9 t
 .rw[av (eF (eF (ju rfl)))];rfl
 cases T:u9 s.1
 .rw[av (eF (eF (eF (ju rfl))))];rfl
 by_cases A:s.2.1 < 2305843009213688669
 .rw[aN A,au (by simp[u,A])];have L:=ZE s.1 p m;rw[atC (d:=(s.1,p,m)) J];simp only[bW,al,ah,bt,awW];rw[anL (d:=(p,Aq s.1 p m)) ⟨B,L.u⟩,aZH (d:=t) I];simp only[ah,bt,aD8,bt,aZF];have q:anG [s.1,zR p (Aq s.1 p m),anr t]:=⟨by
   intro x K;simp only[cr,List.not_mem_nil,or_false]at K;rcases K with rfl | rfl | rfl
   .exact j.1
   .exact(anQ _ _).u
   .exact(anQ _ _).u,by simp only[aB,bl];omega⟩
  rw[aD0 q,KZ (d:=s.2.1) j.2];rfl
 .rw[aL A,av (eF (eF (eF (eF A))))];rfl
def aFM:wq.RS:=rE [.d tu,.d tB,.d tu,.d yk] wq
def aLl:=wq.eQ aLk
def aGb:(Int×Bs×Sg)->Prop:=λ(p,m,s)=>mC p/\Sm m/\bcZ s
def av7:(Int×Bs×Sg)->Bool:=λ(p,m,s)=>sm p m 1 s
def NO:Fs prog aGb bt av7:=eP 239 f239 (λ(p,m,j)=>([cK p,fW m,.d yk j],[])) (λx=>⟨fA x,[],[]⟩) [aw tu,aw tH,aw yk] [aLl]
def aLI(p m j)(k:K1 R):NO.A (p,m,j) k=ao (wq.call (p,m,1,j)) λu=>k (NO.out u):=bS
def aLJ:NO.Ok:=by rintro⟨p,m,s⟩ ⟨u,j,A⟩;rw[aLI,aFM (d:=(p,m,1,s)) ⟨u,j,⟨aq,aq⟩,A⟩];rfl
def aGc:NO.RS:=rE [.d tu,.d tB,.d yk] NO
def aLK:=NO.eQ aLJ
def bbC:Int->Prop:=λ_=>True
def aLt:Int->Bool:=λk=>decide (k < 2305843009213688669/\k≠0)
def aFX:Fs prog bbC bt aLt:=eP 108 f108 (λj=>([cK j],[])) (λx=>⟨fA x,[],[]⟩) [aw tu] [ad8]
def bgQ(j)(k:K1 R):aFX.A j k=ao (MF.call j) λu=>aA (u) (k (aFX.out (pb j 0))) (k (aFX.out aZ)):=bS
def bgR:aFX.Ok:=by
 intro k _;rw[bgQ,XB (d:=k) trivial];simp only[ah,bt,aai,bt,aLt];by_cases h:k < 2305843009213688669
 .rw[aN h,ai];by_cases j:k=0
  .rw[bU j,aV (λx=>x.2 j)]
  .rw[dj j,aK ⟨h,j⟩]
 .rw[aL h,al,aV (λx=>h x.1)]
def bbD:aFX.RS:=rE [.d tu] aFX
def bgS:=aFX.eQ bgR
abbrev avY:=Int×Int×Bs×Int
def aFJ:avY->Prop:=λ(k,n,m,t)=>mC k/\mC n/\Sm m/\mC t
def aTr:avY->Sg:=λ(k,n,m,t)=>awB k n m t
def NI:Fs prog aFJ bt aTr:=eP 109 f109 (λ(u,j,m,t)=>([cK u,cK j,fW m,cK t],[])) (λx=>⟨.d yk x,[],[]⟩) [aw tu,aw tu,aw tH,aw tu] [aa1,bfT,aBG,bev,bep]
def aLg(u j m t)(k:K1 R):NI.A (u,j,m,t) k=ao (Ou.call j) λB=>ao (aJp.call (B,t)) λA=>ao (Ou.call u) λI=>ao (agv.call (A,I,m)) λJ=>ao (aIj.call (J,u)) λK=>ao (aIf.call (j,K)) λL=>k (NI.out (A,(L,()))):=bS
def aLh:NI.Ok:=by rintro⟨k,n,m,t⟩ ⟨j,u,A,B⟩;have j:mC k:=j;have u:mC n:=u;have A:Sm m:=A;have B:mC t:=B;rw[aLg,KZ (d:=n) u];simp only[ah,bt,aj7];rw[aZx (d:=(fH n,t)) ⟨(anQ _ _).u,B⟩,KZ (d:=k) j];simp only[ah,bt,aj7,bt,aZv];rw[atC (d:=(Ha [fH n,t],fH k,m)) A];simp only[ah,bt,awW];rw[aXG (d:=(Aq (Ha [fH n,t]) (fH k) m,k)) ⟨(ZE _ _ _).u,j⟩];simp only[ah,bt,aXE];rw[aXt (d:=(n,ayy (Aq (Ha [fH n,t]) (fH k) m) k)) ⟨u,(bfA _ _).u⟩];rfl
def aFK:NI.RS:=rE [.d tu,.d tu,.d tB,.d tu] NI
def aLi:=NI.eQ aLh
def aTE:(Int×Bs)->Prop:=λ(k,m)=>mC k/\Sm m
def az0:(Int×Bs)->Sg:=λ(k,m)=>oW k m
def aiu:Fs prog aTE bt az0:=eP 68 f68 (λ(j,m)=>([cK j,fW m],[])) (λx=>⟨.d yk x,[],[]⟩) [aw tu,aw tH] [bgS,atX,ajR,aCC,aLi]
def bbL(j m)(k:K1 R):aiu.A (j,m) k=ao (aFX.call j) λu=>aA (!u) (k (aiu.out (0,(0,())))) (ao (Mz.call j) λA=>ao (aef.call ((⟨#[110,111,110,99,101]⟩:ByteArray),[A,(cut m 0 32)])) λB=>ao (P9.call B) λI=>ao (NI.call (j,I,m,1)) λJ=>k (aiu.out J)):=bS
def bbM:aiu.Ok:=by
 rintro⟨k,m⟩ ⟨u,j⟩;have u:mC k:=u;have j:Sm m:=j;rw[bbL,bbD (d:=k) trivial];simp only[ah,bt,aLt,bt,az0,oW];by_cases h:k < 2305843009213688669/\k≠0
 .rw[aK h,av h,Xq (d:=k) trivial,dM j.1];simp only[bW,al,ah,bt,alJ];rw[aau (bbT fm (by rw[cC];omega) (by rw[j.1];omega))];simp only[ah,bt,ax4];rw[at0 (d:=tag (bX (⟨#[110,111,110,99,101]⟩:ByteArray)) [jI k,m]) (ap1 _ _)];simp only[ah,bt,axG];have q:=alY (tag (bX (⟨#[110,111,110,99,101]⟩:ByteArray)) [jI k,m]);rw[aFK (d:=(k,Qc (tag (bX (⟨#[110,111,110,99,101]⟩:ByteArray)) [jI k,m]),m,1)) ⟨u,⟨aq,aq⟩,j,aq,aq⟩];rfl
 .rw[aV h,au h];rfl
def aTF:aiu.RS:=rE [.d tu,.d tB] aiu
def bbN:=aiu.eQ bbM
def aPe:Int->Prop:=λn=>∃k:Nat,n=k/\k<=100000000
def aMG:Int->(Nat×(List Int)):=λn=>(0,ag n.toNat 0)
def agh:Fs prog aPe bt aMG:=eP 232 f232 (λn=>([.fR,aU n],[])) (λx=>⟨CB 0 0 0 0 0 x.1,[],[.obj 0 aZ (vn x.2)]⟩) [aC,aw ti] [] {owns:=[⟨4,[],22,125⟩]}
def aVF(n)(k:K1 R):agh.A n k=aA (fj n 0) (aC) (aA (qi (cY .i64 n 0) 0) (aA (decide (0 < (cY .i64 n 0)) && cM (ae (cY .i64 n 0)) 1) (aA (inc 0 (((ae (cY .i64 n 0)):Nat):Int)) (k (agh.out (0,(ag (ae (cY .i64 n 0)) 0)))) aC) aC) (k (agh.out (0,([]:List Int))))):=bS
def aVG:agh.Ok:=by
 rintro n ⟨k,rfl,j⟩;have e:cY .i64 (k:Int) 0=(k:Int):=by rw[eO aq aq];omega
 rw[aVF,e,aL aq,al];by_cases h:0 < k
 .rw[cW aq,ab,aK aq,cg aq aq,l9 aq aq];rfl
 .obtain rfl:k=0:=aq;rfl
def aPf:agh.RS:=rE [.d ti] agh
def aVH:=agh.eQ aVG
def y6(l:List (List Int)):Nat:=aa l.flatten
def arl(n:Nat)(l:List Int):List (List Int)->Nat×List Int
 |[]=>(n,l)
 |s::r=>(n+(s::r).flatten.length,l.take n++(s::r).flatten)
def aPN(n:Nat)(l s:List Int)(r:List (List Int))(h:n<=aa l):arl n l (s::r)=arl (n+aa s) (l.take n++s) r:=by
 have j:aa (l.take n++s)=n+aa s:=by rw[aj,bw];omega
 cases r with
 |nil=>simp[arl]
 |cons t r=>
  simp only[arl];rw[bp (pU j)];simp only[kr,aj,aR,fP]
def beh(n:Nat)(z:List Int)(r:List (List Int)):(arl 0 z r).1<=(arl 0 z r).2.length/\cut (arl 0 z r).2 0 (arl 0 z r).1=r.flatten:=by
 cases r with
 |nil=>exact⟨az _,rfl⟩
 |cons s r=>
  simp only[arl,du,bf,aO];exact⟨ax _,by show aJ _ (bj 0 _)=_;rw[aH,bI]⟩
abbrev L0:=(List Bs)×Int×(List Bs)×Int×Int
def yD:L0->Int->(((List Bs))×(Int)):=λ(u,j,I,A,B) y=>(u,y)
abbrev Zp:=Nat×(List Bs)×Int×Int×(List Int)
def PG:L0->Prop:=λ(s,j,t,n,i)=>aa s<=1000000/\t=s/\n=aa s/\∃k z:Nat,k<=aa s/\i=k/\j=z/\z+y6 (s.drop k)<=100000000
def DI:L0->Int:=λ(s,j,t,n,i)=>((j:Int)+((y6 (s.drop i.toNat):Nat):Int):Int)
def PH:Zp->Prop:=λ(n,s,t,i,l)=>aa s<=1000000/\n<=aa l/\t=aa s/\∃k:Nat,k<=aa s/\i=k/\n+y6 (s.drop k)<=100000000
def DJ:Zp->(Nat×(List Int)):=λ(n,s,t,i,l)=>arl n l (s.drop i.toNat)
def aBf:(List Bs)->Prop:=λs=>aa s<=1000000/\y6 s<=100000000
def ady:(List Bs)->Bs:=λs=>s.flatten
def pW:Ls PG yD DI:=rI (λ(B,j,I,u,A)=>⟨([.d (.slice tB) B,bB,bB,aU j]++aP 5 ([.d (.slice tB) I,aU u,aU A]++aP 24 [])),[],(ag 36 [])⟩) (λx=>(.exit 0,⟨([.d (.slice tB) x.1,bB,bB,aU x.2]++aP 32 []),[],(ag 36 [])⟩))
def pX:Ls PH bt DJ:=rI (λ(j,A,B,I,u)=>⟨(aP 6 ([uJ 24 j]++aP 18 ([.d (.slice tB) A,aU B,aU I]++aP 8 []))),[],(bz 24 ([dp (vn u)]++bz 11 []))⟩) (λx=>(.exit 2,⟨(aP 6 ([uJ 24 x.1]++aP 29 [])),[],(bz 24 ([dp (vn x.2)]++bz 11 []))⟩))
def rN:Fs prog aBf bt ady:=eP 205 f205 (λj=>([.d (.slice tB) j],[])) (λx=>⟨.d tB x,[],[]⟩) [aw (.slice tB)] [aVH] {loops:=ko [(3,{aX:=[0,3,9,10,11]}),(11,{aX:=[6,25,26,27],sites:=[24],owns:=[⟨6,[],24,125⟩]})],outs:=km [(3,{aX:=[0,3]},{aX:=[2]}),(11,{aX:=[6],sites:=[24]},{aX:=[2]})],eT:=jW [(3,pW.E),(11,pX.E)],res:=[aw tB]}
def akJ:pW.RS:=rL [.d (.slice tB),.d ti,.d (.slice tB),.d ti,.d ti] pW
def Oe(I j B A u)(J:K2 R)(K:K3 R):rN.R 0 pW (I,j,B,A,u) J K=aA (fj u A) (aA (dB u (aa B:Int)) (aA (fj (bC .i64 j (((aa (nth tB B (ae u))):Nat):Int)) 0) (aC) (J (pW.st (I,(bC .i64 j (((aa (nth tB B (ae u))):Nat):Int)),B,A,(bC .i64 u 1))))) aC) (pW.go K (I,j)):=bS
def akK:pX.RS:=rL [.n,.d (.slice tB),.d ti,.d ti,.d tB] pX
def Of(j A I u B)(J:K2 R)(K:K3 R):rN.R 1 pX (j,A,I,u,B) J K=aA (fj u I) (aA (dB u (aa A:Int)) (aA (decide (j<=(aa B))) (aA (cM (j+(aa (nth tB A (ae u)))) 1) (J (pX.st ((j+(aa (nth tB A (ae u)))),A,I,(bC .i64 u 1),((aJ j B)++(nth tB A (ae u)))))) aC) aC) aC) (pX.go K (j,B)):=bS
def aHh(j)(k:K1 R):rN.A j k=ao (pW.call (j,0,j,(aa j:Int),0)) λA=>ao (agh.call A.2) λB=>ao (pX.call (B.1,A.1,(aa A.1:Int),0,B.2)) λu=>aA (decide (0=0/\(0+u.1)<=(aa u.2))) (k (rN.out (cut u.2 0 u.1))) aC:=bS
def aNv(s:List (List Int))(k:Nat)(h:k < aa s):y6 (s.drop k)=s[k].length+y6 (s.drop (k+1)):=by unfold y6;rw[ak h,kr,aj]
def arh:(rN.kA 0 pW):=by
 refine(rN.lS 0 pW) (λ(s,j,t,n,i)=>aa s - i.toNat) ?_
 rintro⟨s,j,t,n,i⟩ ⟨u,rfl,rfl,k,z,A,rfl,rfl,B⟩;have u:aa t<=1000000:=u;have A:k<=aa t:=A;have B:z+y6 (t.drop k)<=100000000:=B;by_cases h:k < aa t
 .left;have n1:nth (.slice (.int .u8)) t k=t[k]:=bG (t:= .slice (.int .u8)) h;have I:=aNv t k h;refine⟨(t,((z+t[k].length:Nat):Int),t,aa t,((k+1:Nat):Int)),⟨u,rfl,rfl,k+1,z+t[k].length,aq,rfl,rfl,aq⟩,by simp only[ab];omega,?_,λJ K=> ?_⟩
  .simp only[yD,DI,ab];rw[I];refine bA _ ?_
   omega
  .rw[Oe];simp(disch:=omega) only[↓S1,↓av,↓au,av,au,bQ,bq,S2,n1]
 .right;obtain rfl:k=aa t:=aq;intro R J K;rw[Oe];simp(disch:=omega) only[↓S1,↓av,↓au,av,au,bQ,bq,S2,yD,DI,ay];simp only[y6,tJ,bl,Int.natCast_zero,tE]
def ari:(rN.kA 1 pX):=by
 refine(rN.lS 1 pX) (λ(n,s,t,i,l)=>aa s - i.toNat) ?_
 rintro⟨n,s,t,i,l⟩ ⟨u,j,rfl,k,A,rfl,B⟩;have u:aa s<=1000000:=u;have j:n<=aa l:=j;have A:k<=aa s:=A;have B:n+y6 (s.drop k)<=100000000:=B;by_cases h:k < aa s
 .left;have n1:nth (.slice (.int .u8)) s k=s[k]:=bG (t:= .slice (.int .u8)) h;have K:=aNv s k h;refine⟨(n+s[k].length,s,aa s,((k+1:Nat):Int),l.take n++s[k]),⟨u,by rw[aj,bw];omega,rfl,k+1,aq,rfl,aq⟩,by simp only[ab];omega,?_,λI J=> ?_⟩
  .simp only[bt,DJ,ab];rw[ak h,aPN _ _ _ _ j]
  .rw[Of];simp(disch:=omega) only[↓S1,↓av,↓au,av,au,bQ,bq,S2,n1]
 .right;obtain rfl:k=aa s:=aq;intro R I J;rw[Of];simp(disch:=omega) only[↓S1,↓av,↓au,av,au,bQ,bq,S2,bt,DJ,ay];rfl
def aHi:rN.Ok:=by rintro s ⟨j,u⟩;have j:aa s<=1000000:=j;have u:y6 s<=100000000:=u;have I:PG (s,0,s,aa s,0):=⟨j,rfl,rfl,0,0,aq,rfl,rfl,by rw[aH];omega⟩;have J:PH (0,s,aa s,0,ag (y6 s) 0):=⟨j,aq,rfl,0,aq,rfl,by rw[aH];omega⟩;rw[aHh,akJ I];simp only[ah,yD,DI,aW,aH,je];rw[aPf (d:=((y6 s:Nat):Int)) ⟨y6 s,rfl,u⟩];simp only[ah,bt,aMG,ab];rw[akK J];simp only[ah,bt,DJ,aW,aH];obtain⟨A,B⟩:=beh 0 (ag (y6 s) 0) s;simp only[aO,A,fY,bE,ai,B];rfl
def agf:rN.RS:=rE [.d (.slice tB)] rN
def akL:=rN.eQ aHi 2 ⟨.eg arh,⟨.eg ari,trivial⟩⟩
def atM:(Bs×Bs)->Prop:=λ(a,b)=>aa a+aa b<=100000000
def aw2:(Bs×Bs)->Bs:=λ(a,b)=>a++b
def PV:Fs prog atM bt aw2:=eP 172 f172 (λ(b,j)=>([fo b,fo j],[])) (λx=>⟨fo x,[],[]⟩) [aw tB,aw tB] [akL]
def aWu(b j)(k:K1 R):PV.A (b,j) k=ao (rN.call [b,j]) λu=>k (PV.out u):=bS
def aWv:PV.Ok:=by rintro⟨a,b⟩ h;have h:aa a+aa b<=100000000:=h;rw[aWu,agf (d:=[a,b]) ⟨by show [a,b].length<=_;simp,by show y6 [a,b]<=_;simp only[y6,kr,tJ,bm,aj];omega⟩];simp only[ah,bt,ady,bt,aw2,kr,tJ,bm]
def Tq:PV.RS:=rE [.d tB,.d tB] PV
def ala:=PV.eQ aWv
def iJ:Nat->Int->List Int×Int
 | 0,n=>([],n)
 |f+1,n=>if 128<=n then((n%128+128)::(iJ f (n / 128)).1,(iJ f (n / 128)).2) else([],n)
def iy(n:Int):List Int:=(iJ 10 n).1++ [(iJ 10 n).2]
def T0:∀(f g:Nat) (n:Int),n < 128^(f+1)->n < 128^(g+1)->iJ f n=iJ g n
 | 0,0,n,_,_=>rfl
 | 0,g+1,n,h,_=>by have h:n < 128:=h;rw[iJ,iJ,au aq]
 |f+1,0,n,_,h=>by have h:n < 128:=h;rw[iJ,iJ,au aq]
 |f+1,g+1,n,h,u=>by
  rw[iJ,iJ];split
  .have e:(128:Int)^(f+1+1)=128^(f+1)*128:=gl 128 (f+1);have j:(128:Int)^(g+1+1)=128^(g+1)*128:=gl 128 (g+1);rw[T0 f g (n / 128) aq aq]
  .rfl
def apF:∀(f:Nat) (n:Int),(iJ f n).1.length<=f
 | 0,_=>ax _
 |f+1,n=>by
  rw[iJ];split
  .have:=apF f (n / 128);simp only[aB];omega
  .exact az _
def avQ:∀(f:Nat) (n:Int),0<=n->n < 128^(f+1)->0<=(iJ f n).2/\(iJ f n).2 < 128
 | 0,n,h,j=>by have j:n < 128:=j;exact⟨h,j⟩
 |f+1,n,h,j=>by
  rw[iJ];have e:(128:Int)^(f+1+1)=128^(f+1)*128:=gl 128 (f+1);split
  .exact avQ f (n / 128) aq aq
  .exact⟨h,aq⟩
def avR{n:Int}(h:128<=n)(u:n<=9223372036854775807):iJ 10 n=((n%128+128)::(iJ 10 (n / 128)).1,(iJ 10 (n / 128)).2):=by have e:(128:Int)^(9+1)=1180591620717411303424:=rfl;have j:(128:Int)^(10+1)=151115727451828646838272:=rfl;rw[iJ,av h,T0 9 10 (n / 128) (by rw[e];omega) (by rw[j];omega)]
def mq(n:Int):aa (iy n)<=11:=by have:=apF 10 n;unfold iy;simp only[aj,aB,bl];omega
def Ph(n:Int):Prop:=0<=n/\n<=9223372036854775807
abbrev atS:=Int×Nat×(List Int)
def agz:atS->Prop:=λ(n,m,l)=>Ph n/\m=aa l/\aa l<=1000+0*n.toNat/\aa l+(iJ 10 n).1.length<=100
def Tu:atS->(Int×Nat×(List Int)):=λ(n,m,l)=>((iJ 10 n).2,aa (l++(iJ 10 n).1),l++(iJ 10 n).1)
def aW2:Int->Prop:=λn=>Ph n
def aH5:Int->Bs:=λn=>iy n
def DX:Ls agz bt Tu:=rI (λ(u,j,n14)=>⟨([aU u,bB,bB,uJ 14 j]++aP 16 []),[],(bz 14 ([dp (vn n14)]++bz 5 []))⟩) (λx=>(.exit 0,⟨([aU x.1,bB,bB,uJ 14 x.2.1]++aP 16 []),[],(bz 14 ([dp (vn x.2.2)]++bz 5 []))⟩))
def alm:Fs prog aW2 bt aH5:=eP 173 f173 (λn=>([.d ti n],[])) (λx=>⟨.d tB x,[],[]⟩) [aw ti] [] {loops:=ko [(2,{aX:=[0,3],sites:=[14],owns:=[⟨3,[],14,125⟩]})],outs:=km [(2,{aX:=[0,3],sites:=[14]},{aX:=[2]})],eT:=jW [(2,DX.E)],res:=[aw tB]}
def aB7:DX.RS:=rL [.d ti,.n,.d tB] DX
def ZS(u j n14)(A:K2 R)(B:K3 R):alm.R 0 DX (u,j,n14) A B=aA (DA u 128) (aA (decide (j<=(aa n14))) (aA (cM (j+1) 1) (A (DX.st ((yp .i64 u 128),(j+1),((aJ j n14)++ [(eD .u8 (bC .i64 (kJ u 128) 128))])))) aC) aC) (DX.go B (u,j,n14)):=bS
def bef(n)(k:K1 R):alm.A n k=ao (DX.call (n,0,([]:List Int))) λj=>aA (decide (j.2.1<=(aa j.2.2))) (aA (cM (j.2.1+1) 1) (aA (decide (0=0/\(0+(j.2.1+1))<=(aa ((aJ j.2.1 j.2.2)++ [(eD .u8 j.1)])))) (k (alm.out (cut ((aJ j.2.1 j.2.2)++ [(eD .u8 j.1)]) 0 (j.2.1+1)))) aC) aC) aC:=bS
def aXj{n:Int}(h:Ph n):eD .u8 (bC .i64 (kJ n 128) 128)=n%128+128:=by have j:=h.1;rw[vK h.1,eS aq aq,aeh,jG];omega
def aH6:(alm.kA 0 DX):=by
 refine(alm.lS 0 DX) (λ(n,m,l)=>n.toNat) ?_
 rintro⟨n,m,l⟩ ⟨u,rfl,M,j⟩;have u:Ph n:=u;have j:aa l+(iJ 10 n).1.length<=100:=j;have B:=u.1;have I:=u.2;by_cases h:128<=n
 .left;have e:=avR h I;have J:yp .i64 n 128=n / 128:=by rw[yp,Int.tdiv_eq_ediv_of_nonneg B];exact yX aq aq
  have A:aa ((n%128+128)::(iJ 10 (n / 128)).1)=(iJ 10 (n / 128)).1.length+1:=aB;rw[e]at j;have j:aa l+aa ((n%128+128)::(iJ 10 (n / 128)).1)<=100:=j;rw[A]at j;refine⟨(n / 128,aa l+1,l++ [n%128+128]),⟨⟨aq,aq⟩,by rw[aj];rfl,by rw[aj];simp only[aB,bl];omega,by rw[aj];simp only[aB,bl];omega⟩,by simp only[];omega,?_,λK L=> ?_⟩
  .simp only[bt,Tu,e,aR,iP,bf]
  .rw[ZS,fE h,aXj u,J];simp(disch:=omega) only[↓S1,↓av,↓au,av,au,bQ,bq,S2,ax,bI]
 .right;have e:iJ 10 n=([],n):=by rw[iJ,au h]
  intro R K L;rw[ZS,ed h];simp only[al,bt,Tu,e,bm]
def beg:alm.Ok:=by
 intro n j;have j:Ph n:=j;have I:=apF 10 n;have u:(128:Int)^(10+1)=151115727451828646838272:=rfl;have B:=avQ 10 n j.1 (by have:=j.2;rw[u];omega);have p:agz (n,0,[]):=⟨j,rfl,by simp,by simp only[bl];omega⟩;have A:eD .u8 (iJ 10 n).2=(iJ 10 n).2:=by rw[aeh,jG];omega
 rw[bef,aB7 p];simp only[ah,bt,Tu,bf,A,bI,ax,bE,ai];rw[cg aq aq];simp only[ai,aO,aj,aB,bl,ax,fY,bE];rw[dM (by rw[aj];rfl)];rfl
def aB8:alm.RS:=rE [.d ti] alm
def aMZ:=alm.eQ beg 1 ⟨.eg aH6,trivial⟩
def cZ(b:List Int)(n:Int):List Int:=if n < 0 then b else b++iy n
theorem dQ(b:List Int)(n:Int):aa (cZ b n)<=aa b+11:=by
 unfold cZ;have:=mq n;split
 .omega
 .rw[aj];omega
def aWU:(Bs×Int)->Prop:=λ(b,n)=>aa b<=90000000/\n<=9223372036854775807
def sr:(Bs×Int)->Bs:=λ(b,n)=>cZ b n
def F0:Fs prog aWU bt sr:=eP 121 f121 (λ(b,n)=>([fo b,aU n],[])) (λx=>⟨fo x,[],[]⟩) [aw tB,aw ti] [ala,aMZ]
def bed(b n)(k:K1 R):F0.A (b,n) k=aA (fj n 0) (ao (PV.call (b,([]:List Int))) λj=>k (F0.out j)) (ao (alm.call n) λu=>ao (PV.call (b,u)) λA=>k (F0.out A)):=bS
def bee:F0.Ok:=by
 rintro⟨b,n⟩ ⟨u,j⟩;have u:aa b<=90000000:=u;have j:n<=9223372036854775807:=j;rw[bed];simp only[bt,sr,cZ];by_cases h:n < 0
 .rw[aN h,av h,ai,Tq (d:=(b,[])) (by show aa b+aa ([]:List Int)<=_;simp only[bl];omega)];simp only[ah,bt,aw2,bm]
 .have A:=mq n;rw[aL h,au h,al,aB8 (d:=n) ⟨aq,j⟩];simp only[ah,bt,aH5];rw[Tq (d:=(b,iy n)) (by show aa b+aa (iy n)<=_;omega)];rfl
def kG:F0.RS:=rE [.d tB,.d ti] F0
def ajG:=F0.eQ bee
def aQd:(Bs×Int)->Prop:=λ(b,n)=>aa b<=90000000
def ZR:(Bs×Int)->Bs:=λ(b,n)=>b++jI n
def P0:Fs prog aQd bt ZR:=eP 155 f155 (λ(b,n)=>([.d tB b,.d tu n],[])) (λx=>⟨.d tB x,[],[]⟩) [aw tB,aw tu] [ala] {loops:=ko [(3,{aX:=[0,1,5,7],sites:=[5,21]})],outs:=km [(3,{aX:=[0,5],sites:=[5,21]},{aX:=[4],sites:=[5,21]})]} 12
def aW0(b n)(k:K1 R):P0.A (b,n) k=ao (PV.call (b,[(eD .u8 (cI .u64 n 56)),(eD .u8 (cI .u64 n 48)),(eD .u8 (cI .u64 n 40)),(eD .u8 (cI .u64 n 32)),(eD .u8 (cI .u64 n 24)),(eD .u8 (cI .u64 n 16)),(eD .u8 (cI .u64 n 8)),(eD .u8 (cI .u64 n 0))])) λj=>k (P0.out j):=bS
def aW1:P0.Ok:=by
 rintro⟨b,n⟩ j;have j:aa b<=90000000:=j;have p:atM (b,jI n):=by show aa b+aa (jI n)<=_;rw[cC];omega
 have e:PV.call (b,[eD .u8 (cI .u64 n 56),eD .u8 (cI .u64 n 48),eD .u8 (cI .u64 n 40),eD .u8 (cI .u64 n 32),eD .u8 (cI .u64 n 24),eD .u8 (cI .u64 n 16),eD .u8 (cI .u64 n 8),eD .u8 (cI .u64 n 0)])=aw (b++jI n):=by rw[aBh];exact Tq p
 rw[aW0];refine Eq.trans (bA (λx=>ao x _) e) ?_
 rfl
def KH:P0.RS:=rE [.d tB,.d tu] P0
def aB6:=P0.eQ aW1 1 ⟨.none bS,trivial⟩
def aaf:iM:=([],bn,())
def yo(r:iM):Prop:=aa r.1<=1000000000/\Bytes r.1
def oX(n:Nat)(r:iM):List Int×iM:=if r.2.1=bn\/aa r.1 < n then([],aaf) else(r.1.take n,(r.1.drop n,r.2))
def X4(l:List Int):Int:=l.foldl (λn b=>n*256+b) 0
def vH(r:iM):Int×iM:=(X4 (oX 8 r).1,(oX 8 r).2)
def axC:yo aaf:=⟨az _,λx j=>by cases j⟩
def Fb{n:Nat}{r:iM}(h:yo r):(oX n r).1.length<=n/\Bytes (oX n r).1/\yo (oX n r).2:=by
 unfold oX;split
 .exact⟨az _,λx j=>(by cases j),axC⟩
 .refine⟨by rw[bw];omega,λx j=>h.2 x (fw j),?_,λx j=>h.2 x (List.mem_of_mem_drop j)⟩;show aa (r.1.drop n)<=_;rw[dy];have:=h.1;omega
def aRB(l:List Int)(b:Int):X4 (l++ [b])=X4 l*256+b:=by unfold X4;rw[List.foldl_append];rfl
def aDM:∀(l:List Int) (n:Int) (k:Nat),Bytes l->0<=n->n < 256^k->0<=l.foldl (λn b=>n*256+b) n/\l.foldl (λn b=>n*256+b) n < 256^(k+aa l)
 |[],n,k,_,j,u=>⟨j,u⟩
 |b::l,n,k,hb,j,u=>by obtain⟨A,B⟩:=hb b aY;have e:(256:Int)^(k+1)=256^k*256:=gl 256 k;have:=aDM l (n*256+b) (k+1) (λx I=>hb x (aT _ I)) aq (by rw[e];omega);rw[show k+aa (b::l)=k+1+aa l by rw[aB];omega];exact this
def aNI{l:List Int}(h:Bytes l):0<=X4 l/\X4 l < 256^aa l:=by have:=aDM l 0 0 h (dT 0) fm;rw[aO]at this;exact this
def auQ{a b:Nat}(h:a<=b):(256:Int)^a<=256^b:=by have:((256^a:Nat):Int)<=((256^b:Nat):Int):=Int.ofNat_le.2 (Nat.pow_le_pow_right fm h);rw[mI,mI]at this;exact this
def bjN{l:List Int}(h:Bytes l)(j:aa l<=8):mC (X4 l):=by have e:=aNI h;have u:=auQ j;have A:(256:Int)^8=18446744073709551616:=rfl;exact⟨e.1,aq⟩
def afZ{r:iM}(h:yo r):mC (vH r).1/\yo (vH r).2:=⟨bjN (Fb h).2.1 (Fb h).1,(Fb h).2.2⟩
def bmM{n b:Int}(j:0<=n)(A:n < 72057594037927936)(u:akj b):cE .or .u64 (oO .u64 n 8) (eD .u64 b)=n*256+b:=by have e:=(agQ (n:=n) (b:=b) ⟨j,aq⟩ u).1;rw[zS 56 (by rfl) aq]at e;have p:(2:Int)^56=72057594037927936:=rfl;rw[p]at e;omega
def aSY:iM->Prop:=λ_=>True
def bgl:iM->iM:=λ_=>aaf
def qp(j u A):=(.ptr (.dx j) u [] A:aF)
def dK:aF:=qp 0 0 0
def Ow(j):=(.obj 0 aZ (.d Fa j):dR)
def ab9:Fs prog aSY bt bgl:=eP 189 f189 (λo0=>([dK],[Ow o0])) (λx=>⟨.nil,[Ow x],[]⟩) [aC] [] {Ec:=[⟨0,[.arr],Fa⟩]}
def baM(o0)(k:K1 R):ab9.A o0 k=k (ab9.out (([]:List Int),(bn,o0.2.2))):=bS
def baN:ab9.Ok:=by intro o _;rw[baM];rfl
def afi:ab9.RS:=rE [.d Fa] ab9
def aFj:=ab9.eQ baN
def avD:iM->Int->((iM)×(Int)):=λo0 y=>(o0,y)
def aS1:iM->Prop:=λ_=>True
def aOr:iM->Int:=λo=>(aa o.1:Int)
def apt:Fs prog aS1 avD aOr:=eP 154 f154 (λo0=>([dK],[Ow o0])) (λx=>⟨aU x.2,[Ow x.1],[]⟩) [aC]
def baR(o0)(k:K1 R):apt.A o0 k=k (apt.out (o0,(aa o0.1:Int))):=bS
def baS:apt.Ok:=by intro o _;rw[baR];rfl
def aS2:apt.RS:=rE [.d Fa] apt
def baT:=apt.eQ baS
def aFr:iM->Bool->((iM)×(Bool)):=λo0 y=>(o0,y)
def ba2:iM->Prop:=λ_=>True
def ba1:iM->Bool:=λo=> !o.2.1
def aK0:Fs prog ba2 aFr ba1:=eP 153 f153 (λo0=>([dK],[Ow o0])) (λx=>⟨fA x.2,[Ow x.1],[]⟩) [aC]
def bgs(o0)(k:K1 R):aK0.A o0 k=k (aK0.out (o0,(!o0.2.1))):=bS
def bgt:aK0.Ok:=by intro o _;rw[bgs];rfl
def ba3:aK0.RS:=rE [.d Fa] aK0
def bgu:=aK0.eQ bgt
def aTe:(Int×iM)->Prop:=λ(n,o)=>0<=n/\aa o.1<=1000000000
def ake:(Int×iM)->(Bs×iM):=λ(n,o)=>oX n.toNat o
def R1:Fs prog aTe bt ake:=eP 190 f190 (λ(n,o0)=>([.ptr (.dx 0) 0 [] 0,.d ti n],[.obj 0 aZ (.d Fa o0)])) (λx=>⟨.d tB x.1,[.obj 0 aZ (.d Fa x.2)],[]⟩) [aC,aw ti] [aFj,adQ] {res:=[aw tB],Ec:=[⟨0,[.arr],Fa⟩]}
def bbi(n o0)(k:K1 R):R1.A (n,o0) k=aA (o0.2.1) (ao (ab9.call o0) λu=>k (R1.out (([]:List Int),u))) (aA (qi n (aa o0.1:Int)) (ao (ab9.call o0) λA=>k (R1.out (([]:List Int),A))) (aA (inc n (aa o0.1:Int)) (ao (FY.call (cut o0.1 0 ((ae n) - 0))) λj=>aA (inc n (aa o0.1:Int)) (aA (decide (0=0/\(0+j.1)<=(aa j.2))) (k (R1.out ((cut j.2 0 j.1),((cut o0.1 (ae n) ((aa o0.1) - (ae n))),o0.2)))) aC) aC) aC)):=bS
def bbj:R1.Ok:=by
 rintro⟨n,o⟩ ⟨j,u⟩;have j:0<=n:=j;have u:aa o.1<=1000000000:=u;obtain⟨k,rfl⟩:∃k:Nat,n=k:=⟨n.toNat,aq⟩;rw[bbi];simp only[bt,ake,oX,ab,mW];cases J:o.2.1
 .by_cases A:aa o.1 < k
  .rw[cW aq,av (eF A),afi (d:=o) trivial];rfl
  .have B:cut o.1 0 k=o.1.take k:=rfl;have I:cut o.1 k (aa o.1 - k)=o.1.drop k:=by unfold cut;rw[bp];rw[dy];omega
   rw[ct aq,au (by intro x;rcases x with x | x;exact absurd x fm;exact A x),l9 aq aq,B,I,W8 (d:=o.1.take k) (by show aa (o.1.take k)<=_;rw[bw];omega)];simp only[al,ai,ah,bt,PW,aO,ax,fY,bE,dM]
 .rw[ai,av (ju rfl),afi (d:=o) trivial];rfl
def afB:R1.RS:=rE [.d ti,.d Fa] R1
def apM:=R1.eQ bbj
abbrev afD:=Int×Bs×Int×Int×iM
def aFF:afD->Int->((iM)×(Int)):=λ(n,u,A,B,j) y=>(j,y)
def aFE:afD->Prop:=λ(n,l,m,i,o)=>Bytes l/\aa l<=8/\m=aa l/\∃k:Nat,k<=aa l/\i=k/\n=X4 (l.take k)
def aTg:afD->Int:=λ(n,l,m,i,o)=>X4 l
def bbm:iM->Prop:=λo=>yo o
def afC:iM->(Int×iM):=λo=>vH o
def E6:Ls aFE aFF aTg:=rI (λ(n,u,A,B,j)=>⟨([bB,bB,bB,cK n,bB,bB,bB,fo u,aU A,aU B]++aP 10 []),dp (.d Fa j),(ag 20 [])⟩) (λx=>(.exit 0,⟨([bB,bB,bB,cK x.2]++aP 16 []),dp (.d Fa x.1),(ag 20 [])⟩))
def acv:Fs prog bbm bt afC:=eP 152 f152 (λo0=>([.ptr (.dx 0) 0 [] 0],[.obj 0 aZ (.d Fa o0)])) (λx=>⟨.d tu x.1,[.obj 0 aZ (.d Fa x.2)],[]⟩) [aC] [apM] {loops:=ko [(3,{aX:=[3,7,8,9]})],outs:=km [(3,{aX:=[3]},{aX:=[2]})],eT:=jW [(3,E6.E)]}
def aFG:E6.RS:=rL [.d tu,.d tB,.d ti,.d ti,.d Fa] E6
def acw(n u B j A)(I:K2 R)(J:K3 R):acv.R 0 E6 (n,u,B,j,A) I J=aA (fj j B) (aA (dB j (aa u:Int)) (I (E6.st ((cE .or .u64 (oO .u64 n 8) (eD .u64 (nth tb u (ae j)))),u,B,(bC .i64 j 1),A))) aC) (E6.go J (A,n)):=bS
def bgE(o0)(k:K1 R):acv.A o0 k=ao (R1.call (8,o0)) λj=>ao (E6.call (0,j.1,(aa j.1:Int),0,j.2)) λu=>k (acv.out (u.2,u.1)):=bS
def aLd:(acv.kA 0 E6):=by
 refine(acv.lS 0 E6) (λ(n,l,m,i,o)=>aa l - i.toNat) ?_
 rintro⟨n,l,m,i,o⟩ ⟨u,j,rfl,k,I,rfl,rfl⟩;have j:aa l<=8:=j;have I:k<=aa l:=I;by_cases h:k < aa l
 .left;have A:=u _ (aD h);have n1:nth (.int .u8) l k=l[k]:=bG (t:= .int .u8) h;have J:aa (l.take k)=k:=by rw[bw];omega
  have B:=aNI (l:=l.take k) λx A=>u x (fw A)
  rw[J]at B;have M:=auQ (show k<=7 by omega);have O:(256:Int)^7=72057594037927936:=rfl;refine⟨(X4 (l.take (k+1)),l,aa l,((k+1:Nat):Int),o),⟨u,j,rfl,k+1,aq,rfl,rfl⟩,by simp only[ab];omega,rfl,λK L=> ?_⟩;rw[acw,aN aq,aS aq aq,ab,n1,N.iY aq,bmM B.1 aq A,jg h,aRB];rfl
 .right;obtain rfl:k=aa l:=aq;intro R K L;rw[acw,aL aq,al,bI];rfl
def bgF:acv.Ok:=by intro o h;have h:yo o:=h;have t:=Fb (n:=8) h;rw[bgE,afB (d:=(8,o)) ⟨fm,h.1⟩];simp only[ah,bt,ake];rw[show ae 8=8 from rfl,aFG (d:=(0,(oX 8 o).1,(oX 8 o).1.length,0,(oX 8 o).2)) ⟨t.2.1,t.1,rfl,0,az _,rfl,rfl⟩];rfl
def R2:acv.RS:=rE [.d Fa] acv
def aOv:=acv.eQ bgF 1 ⟨.eg aLd,trivial⟩
def aS4:Bs->Prop:=λb=>aa b<=1000000000
def azE:Bs->iM:=λb=>(b,aZ,())
def aie:Fs prog aS4 bt azE:=eP 146 f146 (λb=>([.d tB b],[])) (λx=>⟨.ptr (.new 0 0) 0 [] 0,[],[.obj 0 aZ (.d Fa x)]⟩) [aw tB] [adQ] {cd:=[6],Ec:=[⟨2,[.arr],Fa⟩]}
def ba4(b)(k:K1 R):aie.A b k=ao (FY.call b) λj=>aA (decide (0=0/\(0+j.1)<=(aa j.2))) (k (aie.out ((cut j.2 0 j.1),(aZ,())))) aC:=bS
def ba5:aie.Ok:=by intro b j;have j:aa b<=1000000000:=j;rw[ba4,W8 (d:=b) (by show aa b<=_;omega)];simp only[ah,bt,PW,aO,ax,fY,bE,ai,dM];rfl
def avN:aie.RS:=rE [.d tB] aie
def aFs:=aie.eQ ba5
abbrev apR:=Int×iM
def NH:apR->Bool->((Int×iM)×(Bool)):=λ(o0,j) y=>((o0,j),y)
def aLf:apR->Prop:=λ(a,o)=>0<=a
def acy:apR->Bool:=λ(a,o)=>decide (aa o.1<=a.toNat\/8 < a.toNat\/(0 < a.toNat/\nth (.int .u8) o.1 a.toNat=0))
def QU:aF:=qp 2 0 0
def Kb:Fs prog aLf NH acy:=eP 188 f188 (λ(o0,j)=>([dK,qp 1 0 0],[.obj 0 aZ (aU o0),.obj 0 aZ (QU),Ow j])) (λx=>⟨fA x.2,[.obj 0 aZ (aU x.1.1),.obj 0 aZ (QU),Ow x.1.2],[]⟩) [aC,aC]
def aTn(o0 j)(k:K1 R):Kb.A (o0,j) k=aA (DA o0 (aa j.1:Int)) (k (Kb.out ((o0,j),bn))) (aA (qi o0 8) (k (Kb.out ((o0,j),bn))) (aA (qi o0 0) (aA (dB o0 (aa j.1:Int)) (k (Kb.out ((o0,j),(oC (nth tb j.1 (ae o0)) 0)))) aC) (k (Kb.out ((o0,j),aZ))))):=bS
def aTo:Kb.Ok:=by
 rintro⟨a,o⟩ B;obtain⟨k,rfl⟩:∃k:Nat,a=k:=⟨a.toNat,by have B:0<=a:=B;omega⟩;rw[aTn];simp only[NH,acy,ab];by_cases u:aa o.1<=k
 .rw[fE aq,aK (ju u)];rfl
 by_cases A:8 < k
 .rw[ed aq,cW aq,aK (eF (ju A))];rfl
 by_cases I:0 < k
 .rw[ed aq,ct aq,cW aq,aS aq aq];simp only[al,ai];by_cases j:nth (.int .u8) o.1 k=0
  .rw[dC j,aK (eF (eF ⟨I,j⟩))]
  .rw[eZ j,aV (by rintro(x | x | x);exact u x;exact A x;exact j x.2)]
 .rw[ed aq,ct aq,ct aq,aV (by rintro(x | x | x);exact u x;exact A x;exact I x.1)];rfl
def apS:Kb.RS:=rE [.d ti,.d Fa] Kb
def aTp:=Kb.eQ aTo
def Gs:List Int->Nat->Int->(Int×Nat)⊕Unit
 |[],_,_=> .inr ()
 |d::l,a,n=>if 8 < a\/(0 < a/\d=0) then .inr () else if d < 128 then .inl (n+d%128*128^a,a+1) else Gs l (a+1) (n+d%128*128^a)
def dX(r:iM):Int×iM:=match Gs r.1 0 0 with | .inl v=>(v.1,(r.1.drop v.2,r.2)) | .inr _=>(0,aaf)
def aJz(k:Nat):(128:Int)^k=((128^k:Nat):Int):=by rw[mI];rfl
def aCp{n d k:Nat}(u:k<=8)(A:n < 128^k)(J:d < 128):cE .or .i64 (n:Int) (oO .i64 (d:Int) ((7*k:Nat):Int))=((n+d*128^k:Nat):Int)/\n+d*128^k < 128^(k+1)/\128^(k+1)<=9223372036854775808:=by
 have p:128^k<=128^8:=Nat.pow_le_pow_right fm u;have K:128^8=72057594037927936:=rfl;have B:128^(k+1)=128^k*128:=Nat.pow_succ (n:=128) (m:=k);have j:2^(7*k)=128^k:=by rw[Nat.pow_mul]
 have I:d*128^k<=127*128^k:=eL _ aq;refine⟨?_,aq,aq⟩;have s:oO .i64 (d:Int) ((7*k:Nat):Int)=((d*128^k:Nat):Int):=by
  rw[oO];have e:min (ae ((7*k:Nat):Int)) IntKind.i64.bits=7*k:=by simp only[IntKind.bits,ab];omega
  rw[e,show(2:Int)^(7*k)=((2^(7*k):Nat):Int) by rw[mI];rfl,j,<-qP];exact yX aq aq
 rw[s];have e:(bF 64 (n:Int) ||| bF 64 ((d*128^k:Nat):Int)).toNat=n+d*128^k:=by
  rw[BitVec.toNat_or];have a:(bF 64 ((d*128^k:Nat):Int)).toNat=2^(7*k)*d:=by rw[j5,lT,j,Nat.mul_comm];exact lI (by rw[Nat.mul_comm];omega)
  have b:(bF 64 (n:Int)).toNat=n:=by rw[j5,lT];exact lI aq
  rw[a,b,Nat.or_comm,<-Nat.two_pow_add_eq_or_of_lt (by rw[j];exact A),j,Nat.mul_comm];omega
 show IntKind.i64.wrap ((bF 64 (n:Int) ||| bF 64 ((d*128^k:Nat):Int)).toNat:Int)=_;rw[e];exact yX aq aq
def ayC:∀(l:List Int) (a:Nat) (n:Int) (v:Int×Nat),Bytes l->a<=9->0<=n->n < 128^a->Gs l a n= .inl v->0<=v.1/\v.1 < 9223372036854775808/\a < v.2/\v.2<=a+aa l/\v.2<=9
 |[],a,n,v,_,_,_,_,h=>by cases h
 |d::l,a,n,v,hb,ha,h0,h1,h=>by
  have B:=hb d aY;obtain⟨K,L⟩:=B;rw[Gs]at h;split at h
  .cases h
  .rename_i J;have u:a<=8:=aq;rw[aJz]at h1 h;obtain⟨nn,rfl⟩:∃m:Nat,n=m:=⟨n.toNat,aq⟩;obtain⟨A,j⟩:∃m:Nat,d%128=m:=⟨(d%128).toNat,aq⟩;have g:=(aCp (n:=nn) (d:=A) u aq aq).2;rw[j]at h;have I:((nn:Int)+(A:Int)*((128^a:Nat):Int))=((nn+A*128^a:Nat):Int):=by rw[Int.natCast_add,qP]
   rw[I]at h;split at h
   .cases h;simp only[aB];exact⟨aq,aq,aq,aq,aq⟩
   .have:=ayC l (a+1) _ v (λx B=>hb x (aT _ B)) aq aq (by rw[aJz];omega) h;simp only[aB];exact⟨this.1,this.2.1,aq,aq,this.2.2.2.2⟩
def vP{r:iM}(h:yo r):0<=(dX r).1/\(dX r).1<=9223372036854775807/\yo (dX r).2:=by
 unfold dX;cases j:Gs r.1 0 0 with
 |inl v=>
  have:=ayC r.1 0 0 v h.2 fm fm fm j;refine⟨this.1,by have:=this.2.1;show v.1<=_;omega,?_,λx u=>h.2 x (List.mem_of_mem_drop u)⟩;show aa (r.1.drop v.2)<=_;rw[dy];have:=h.1;omega
 |inr _=>exact⟨dT 0,(show(0:Int)<=9223372036854775807 by decide),axC⟩
def aDO:∀(f:Nat) (n:Int) (a:Nat) (m:Int) (j:List Int),0<=n->n < 128^(f+1)->a+f<=8->(a=0\/0 < n)->
  Gs ((iJ f n).1++(iJ f n).2::j) a m= .inl (m+n*128^a,a+(iJ f n).1.length+1)
 | 0,n,a,m,j,A,u,K,L=>by have u:n < 128:=u;show Gs (n::j) a m=_;rw[Gs,au aq,av u,fv A u];rfl
 |f+1,n,a,m,j,A,u,K,L=>by
  rw[iJ];have e:(128:Int)^(f+1+1)=128^(f+1)*128:=gl 128 (f+1);split
  .rename_i h;show Gs ((n%128+128)::((iJ f (n / 128)).1++(iJ f (n / 128)).2::j)) a m=_;rw[Gs,au aq,au aq,aDO f (n / 128) (a+1) _ j aq aq aq (eF aq)];have B:(128:Int)^(a+1)=128^a*128:=gl 128 a;have I:(n%128+128)%128=n%128:=aq;have J:m+n%128*128^a+n / 128*(128^a*128)=m+n*128^a:=by
    have:n*128^a=(n%128+n / 128*128)*128^a:=by rw[show n%128+n / 128*128=n by omega]
    rw[this,Int.add_mul,va (n / 128),yx 128 (128^a),Int.add_assoc]
   rw[I,B,J];simp only[aB];rw[show a+1+(iJ f (n / 128)).1.length+1=a+((iJ f (n / 128)).1.length+1)+1 by omega]
  .rename_i h;show Gs (n::j) a m=_;rw[Gs,au aq,av aq,fv A aq];rfl
def QE(n:Int)(h:Ph n)(j:List Int)(u:Bool×Unit):dX (iy n++j,u)=(n,(j,u)):=by
 have K:=h.1;have L:=h.2;have B:(128:Int)^(8+1)=9223372036854775808:=rfl;have A:(128:Int)^(10+1)=151115727451828646838272:=rfl;have J:iJ 10 n=iJ 8 n:=T0 10 8 n (by rw[A];omega) (by rw[B];omega);have I:iy n++j=(iJ 8 n).1++(iJ 8 n).2::j:=by unfold iy;rw[J,aR];rfl
 have e:=aDO 8 n 0 0 j K (by rw[B];omega) fm (ju rfl);unfold dX;show(match Gs (iy n++j) 0 0 with | .inl v=>(v.1,((iy n++j).drop v.2,u)) | .inr _=>(0,aaf))=_;rw[I,e];show(0+n*128^0,(((iJ 8 n).1++(iJ 8 n).2::j).drop (0+(iJ 8 n).1.length+1),u))=_;rw[mR,Ci,je,aO,List.append_cons,mJ (by rw[aj];rfl)]
def aZe(n:Int)(h:mC n):X4 (jI n)=n:=by obtain⟨j,u⟩:=h;unfold X4 jI;simp only[bN,dr];omega
def SO(n:Int)(h:mC n)(j:List Int):vH (jI n++j,aZ,())=(n,(j,aZ,())):=by
 unfold vH oX;have u:=cC n;rw[au (by
  intro x;rcases x with x | x
  .have x:aZ=bn:=x;cases x
  .have x:aa (jI n++j) < 8:=x;rw[aj]at x;omega)]
 show(X4 ((jI n++j).take 8),((jI n++j).drop 8,aZ,()))=_;rw[vJ u,mJ u,aZe n h]
abbrev LK:=Int×iM×Int
def xj:LK->AS:=λ(n,j,n4)=>⟨([dK,eI 1,bB,aU n,eI 4,.fn 188 (.cons (eI 4) (.cons (eI 1) (.nil)))]++aP 35 []),dp (.d Fa j),([[],dp (dK),[],[],dp (aU n4)]++bz 36 [])⟩
def aa9(j):=(.d ti (j:Int):aF)
def IX:iM->Exit×AS:=λx=>(.ret,⟨([dK,bB,aa9 0]++aP 38 []),dp (.d Fa x),(ag 41 [])⟩)
def yd:(Int×iM×Int)->Exit×AS:=λ(a,b,c)=>(.exit 0,⟨([dK,eI 1,bB,aU a,eI 4]++aP 36 []),dp (.d Fa b),([[],dp (dK),[],[],dp (aU c)]++bz 36 [])⟩)
abbrev afn:=(iM)⊕((Int×iM×Int))
abbrev avM:=(iM)⊕((Int×iM×Int))
def RV:afn->Out (Exit×AS):=λx=> .br x.isLeft (.get x.getLeft? λa=> .ok (IX a)) (.get x.getRight? λb=> .ok (yd b))
def pE:LK->avM->afn:=λ(n,j,n4) y=>match y with | .inl y=> .inl y | .inr z=> .inr (z)
def IW:LK->Prop:=λ(n,o,i)=>yo o/\∃(k m:Nat),k<=9/\i=k/\n=m/\m < 128^k
def yc:LK->avM:=λ(n,o,i)=>match Gs (o.1.drop i.toNat) i.toNat n with | .inl v=> .inr (v.1,o,(v.2:Int)) | .inr _=> .inl aaf
def ba0:iM->Prop:=λo=>yo o
def A6:iM->(Int×iM):=λo=>dX o
def avL:=cQ.eg xj IW pE yc RV
def acf:LK->Option afn:=eN avL xj
def J8:Fs prog ba0 bt A6:=eP 148 f148 (λo0=>([.ptr (.dx 0) 0 [] 0],[.obj 0 aZ (.d Fa o0)])) (λx=>⟨.d ti x.1,[.obj 0 aZ (.d Fa x.2)],[]⟩) [aC] [aTp,aFj] {cd:=[1],loops:=ko [(3,{aX:=[0,1,3,4,5],sites:=[1,4]})],outs:=km [(3,{aX:=[0,1,3,4],sites:=[1,4]},{aX:=[0,2]})],eT:=jW [(3,avL)],Ec:=[⟨0,[.arr],Fa⟩]}
def afm:= @dm prog (gU J8.G) J8.an 0 f148 0 _ xj
abbrev apB:=gr prog (gU J8.G) J8.an 0 f148 0 xj IW pE yc RV
def aFq:fC acf IW pE yc:=ia (fy [.d ti,.d Fa,.d ti] λ_=>bS)
def afo:iX @afm xj IW pE yc RV apB:=ji
def acg(n A n4)(B:K2 R)(u:K3 R):afm (n,A,n4) B u=ao (Kb.call (n4,A)) λj=>aA (j.2) (ao (ab9.call j.1.2) λI=>u (IX I).1 (IX I).2) (aA (dB j.1.1 (((aa j.1.2.1):Nat):Int)) (aA (oQ (fO .i64 (7:Int) j.1.1)) (aA (fj (nth tb j.1.2.1 (ae j.1.1)) (128:Int)) (u (yd ((cE .or .i64 n (oO .i64 (eD .i64 (kJ (nth tb j.1.2.1 (ae j.1.1)) (128:Int))) (fO .i64 (7:Int) j.1.1))),j.1.2,(bC .i64 j.1.1 (1:Int)))).1 (yd ((cE .or .i64 n (oO .i64 (eD .i64 (kJ (nth tb j.1.2.1 (ae j.1.1)) (128:Int))) (fO .i64 (7:Int) j.1.1))),j.1.2,(bC .i64 j.1.1 (1:Int)))).2) (B (xj ((cE .or .i64 n (oO .i64 (eD .i64 (kJ (nth tb j.1.2.1 (ae j.1.1)) (128:Int))) (fO .i64 (7:Int) j.1.1))),j.1.2,(bC .i64 j.1.1 (1:Int)))))) aC) aC):=bS
def bgq(o0)(k:K1 R):J8.A o0 k=ao (acf (0,o0,0)) λu=>aA u.isLeft (ao u.getLeft? λA=>k (J8.out (0,A))) (ao u.getRight? λj=>aA (inc j.2.2 (aa j.2.1.1:Int)) (k (J8.out (j.1,((cut j.2.1.1 (ae j.2.2) ((aa j.2.1.1) - (ae j.2.2))),j.2.1.2)))) aC):=bS
def aKZ:apB:=by
 refine afo (λ(n,o,i)=>9 - i.toNat) ?_
 rintro⟨n,o,i⟩ ⟨K,k,m,M,rfl,rfl,hm⟩;have M:k<=9:=M;have K:yo o:=K;by_cases I:aa o.1<=k\/8 < k\/(0 < k/\nth (.int .u8) o.1 k=0)
 .right;have hf:Gs (o.1.drop k) k (m:Int)= .inr ():=by
   by_cases h:k < aa o.1
   .have n1:nth (.int .u8) o.1 k=o.1[k]:=bG (t:= .int .u8) h;rw[ak h,Gs,av (by rw[n1]at I;rcases I with x | x | x;exact absurd x aq;exact ju x;exact eF x)]
   .rw[dJ aq];rfl
  refine⟨IX aaf,?_,λu A=> ?_⟩
  .simp only[pE,yc,ab,hf];rfl
  .rw[acg,apS (d:=((k:Int),o)) (lV k)];simp only[ah,NH,acy,ab];rw[aK I,ai,afi (d:=o) trivial];rfl
 .have h:k < aa o.1:=aq;have hx:=K.2 _ (aD h);obtain⟨x1,x2⟩:=hx;have n1:nth (.int .u8) o.1 k=o.1[k]:=bG (t:= .int .u8) h;have T:¬(8 < k\/(0 < k/\o.1[k]=0)):=λx=>I (x.elim (λy=> .inr (.inl y)) λy=> .inr (.inr ⟨y.1,n1.trans y.2⟩))
  obtain⟨j,B⟩:∃d:Nat,o.1[k]=d:=⟨o.1[k].toNat,aq⟩;have g:=aCp (n:=m) (d:=j%128) (k:=k) aq hm aq;have step:∀ {R:Type} (u:AS->Option R) (A:Exit->AS->Option R),afm ((m:Int),o,(k:Int)) u A=aA (fj o.1[k] 128) (A (yd (((m+j%128*128^k:Nat):Int),o,((k+1:Nat):Int))).1 (yd (((m+j%128*128^k:Nat):Int),o,((k+1:Nat):Int))).2) (u (xj (((m+j%128*128^k:Nat):Int),o,((k+1:Nat):Int)))):=by intro R u A;rw[acg,apS (d:=((k:Int),o)) (lV k)];simp only[ah,NH,acy,ab];rw[aV I,al,aS aq aq,n1,B,N.bmr aq,xI aq,N.bnF,N.cN aq,g.1,N.iY aq];rfl
  have L:Gs (o.1.drop k) k (m:Int)=if o.1[k] < 128 then .inl (((m+j%128*128^k:Nat):Int),k+1) else Gs (o.1.drop (k+1)) (k+1) ((m+j%128*128^k:Nat):Int):=by
   have O:(m:Int)+o.1[k]%128*128^k=((m+j%128*128^k:Nat):Int):=by rw[B,aJz,Int.natCast_add,qP];rfl
   rw[ak h,Gs,au T,O]
  by_cases J:o.1[k] < 128
  .right;refine⟨yd (((m+j%128*128^k:Nat):Int),o,((k+1:Nat):Int)),?_,λu A=> ?_⟩
   .simp only[pE,yc,ab,L,av J];rfl
   .rw[step,aN J,ai]
  .left;refine⟨(((m+j%128*128^k:Nat):Int),o,((k+1:Nat):Int)),⟨K,k+1,_,aq,rfl,rfl,g.2.1⟩,by simp only[ab];omega,?_,λu A=> ?_⟩
   .simp only[pE,yc,ab,L,au J]
   .rw[step,aL J,al]
def bgr:J8.Ok:=by
 intro o h;have h:yo o:=h;rw[bgq,aFq (d:=(0,o,0)) ⟨h,0,0,fm,rfl,rfl,fm⟩];simp only[ah,pE,yc,aW,aH,bt,A6,dX];cases u:Gs o.1 0 0 with
 |inl v=>
  have g:=ayC o.1 0 0 v h.2 fm fm fm u;have j:cut o.1 v.2 (aa o.1 - v.2)=o.1.drop v.2:=by unfold cut;rw[bp];rw[dy];omega
  simp only[dh,cJ,al,ah,ab];rw[l9 aq aq,ai,j]
 |inr _=>rfl
def tg:J8.RS:=rE [.d Fa] J8
def akc:=J8.eQ bgr 1 ⟨.eg aKZ,trivial⟩
def zM:Int->SA:=λn=>([aU n],[])
def TV:Bs->hZ:=λx=>⟨fo x,[],[]⟩
def xL:Int->Bs->Bs:=λn y=>y
def TU:Nat->Int->Prop
 | 0=>λ_=>False
 |dep+1=>λn=>0<=n/\n<=9223372036854775807/\n < 128^(dep+1)
def Iq:Int->Bs:=λn=>iy n
def aK3{n:Int}(h:n < 128):iy n=[n]:=by unfold iy;rw[iJ,au aq];rfl
def aS8{n:Int}(h:128<=n)(j:n<=9223372036854775807):iy n=(n%128+128)::iy (n / 128):=by unfold iy;rw[avR h j];rfl
def aGt{n:Int}(j:0<=n)(h:n < 256):eD .u8 n=n:=by rw[aeh,jG];omega
def avc:∀d j,zM d=zM j->d=j:=Pp [.d ti] λ_=>bS
def abD(dep:Nat):Entry:=Entry.of [aw ti] zM (TU dep) (λd=>xL d (Iq d)) TV
def ahX(dep:Nat):Int->Option Bs:=λd=>(abD dep).run (zM d).1 (zM d).2
def aKv{dep:Nat}{d:Int}(h:TU dep d):ahX dep d=aw (xL d (Iq d)):=Entry.AI avc h
def aOb(dep:Nat):qN:=aNe 177 jh (abD dep) (gU (P:=prog) [])
def aoJ:yu:= {cd:=[8,13],res:=[aw tB]}
def aN9(dep:Nat):= @FI prog (aOb dep) aoJ 0 f177 _ zM
def aZ7(dep n)(k:K1 R):aN9 dep n k=aA (fj n (128:Int)) (k (TV [(eD .u8 n)])) (ao (ahX dep (yp .i64 n (128:Int))) λj=>aA (cM (1+(aa j)) 1) (aA (decide (0=0/\(0+(1+(aa j)))<=(aa ([(bC .u8 (eD .u8 (kJ n (128:Int))) (128:Int))]++j)))) (k (TV (cut ([(bC .u8 (eD .u8 (kJ n (128:Int))) (128:Int))]++j) 0 (1+(aa j))))) aC) aC):=bS
def aZ8:∀(dep:Nat) (d:Int),TU (dep+1) d->aN9 dep d aw=aw (TV (xL d (Iq d))):=by
 rintro dep (n:Int) ⟨j,u,A⟩;have j:0<=n:=j;have u:n<=9223372036854775807:=u;have A:n < 128^(dep+1):=A;rw[aZ7];simp only[xL,Iq];by_cases h:n < 128
 .rw[aN h,ai,aK3 h,aGt j aq]
 .obtain⟨m,rfl⟩:∃m:Nat,n=m:=⟨n.toNat,aq⟩;cases dep with
  |zero=>exact absurd A h
  |succ dep=>
   have e:(128:Int)^(dep+1+1)=128^(dep+1)*128:=gl 128 (dep+1);have I:yp .i64 (m:Int) (128:Int)=((m / 128:Nat):Int):=N.bpl aq;have J:kJ (m:Int) (128:Int)=((m%128:Nat):Int):=N.bnF;have K:bC .u8 (eD .u8 ((m%128:Nat):Int)) (128:Int)=(m:Int)%128+128:=by rw[aGt aq aq];show IntKind.u8.wrap _=_;rw[wrap_u8,jG];omega
   have L:((m / 128:Nat):Int)=(m:Int) / 128:=aq;have M:=mq ((m:Int) / 128);rw[aL h,al,I,J,K,L,aKv (dep:=dep+1) (d:=(m:Int) / 128) ⟨by show 0<=(m:Int) / 128;omega,by show(m:Int) / 128<=_;omega,by show(m:Int) / 128 < _;omega⟩];simp only[ah,xL,Iq];rw[cg aq aq,aS8 aq u];have B:aa ([(m:Int)%128+128]++iy ((m:Int) / 128))=1+aa (iy ((m:Int) / 128)):=by rw[aj];rfl
   rw[aK ⟨by trivial,by rw[B];omega⟩,dM B];rfl
def aOa:Entry:=abD 9
def Yu:Int->Option Bs:=Du aOa zM
def avd{d:Int}(h:TU 9 d):Yu d=aw (xL d (Iq d)):=show(abD 9).run (zM d).1 (zM d).2=_ from Entry.AI avc h
def ahY:∀dep,tD prog 177 (abD dep)
 | 0=>tD.of (an:=aoJ) (N:=0) (fn:=f177) bS (show Sound _ bi3 from Sound.nil _) bS bS bS (kA.fn 0 bS trivial) (λ_ h=>False.elim h)
 |dep+1=>tD.of (an:=aoJ) (N:=0) (fn:=f177) bS (show Sound _ (aOb dep) from Sound.cons (yw.of (ahY dep) (by rfl)) (Sound.gU (P:=prog) [])) bS bS bS (kA.fn 0 bS trivial) (aZ8 dep)
def aEW:SG prog:=⟨177,jh,aOa,.of (ahY 9) (by rfl)⟩
def aSu:(Bs×Int)->Prop:=λ(b,n)=>aa b<=90000000/\n<=9223372036854775807
def qA:(Bs×Int)->Bs:=λ(b,n)=>cZ b n
def vB:Fs prog aSu bt qA:=eP 127 f127 (λ(b,n)=>([.d tB b,.d ti n],[])) (λx=>⟨.d tB x,[],[]⟩) [aw tB,aw ti] [aEW] {cd:=[6],res:=[aw tB]}
def aZ5(b n)(k:K1 R):vB.A (b,n) k=aA (cM (0+(aa b)) 1) (aA (DA n 0) (ao (Yu n) λj=>aA (decide ((0+(aa b))<=(aa ((aJ 0 (ag 0 0))++b)))) (aA (cM ((0+(aa b))+(aa j)) 1) (aA (decide (0=0/\(0+((0+(aa b))+(aa j)))<=(aa ((aJ (0+(aa b)) ((aJ 0 (ag 0 0))++b))++j)))) (k (vB.out (cut ((aJ (0+(aa b)) ((aJ 0 (ag 0 0))++b))++j) 0 ((0+(aa b))+(aa j))))) aC) aC) aC) (aA (decide (0=0/\(0+(0+(aa b)))<=(aa ((aJ 0 (ag 0 0))++b)))) (k (vB.out (cut ((aJ 0 (ag 0 0))++b) 0 (0+(aa b))))) aC)) aC:=bS
def aZ6:vB.Ok:=by
 rintro⟨b,n⟩ ⟨u,j⟩;have u:aa b<=90000000:=u;have j:n<=9223372036854775807:=j;have A:(aJ 0 (ag 0 0):List Int)=[]:=rfl;rw[aZ5];simp only[aO,A,bf,bt,qA,cZ,ax,fY,bE,ai,dM,bI];rw[cg aq aq,ai];by_cases h:n>=0
 .have B:=mq n;rw[fE h,ai,au aq,avd (d:=n) ⟨h,j,by have e:(128:Int)^(8+1)=9223372036854775808:=rfl;rw[e];show n < _;omega⟩];simp only[ah,xL,Iq];rw[cg aq aq,aK ⟨by trivial,by rw[aj];omega⟩,dM (by rw[aj])];rfl
 .rw[ed h,av aq];rfl
def kz:vB.RS:=rE [.d tB,.d ti] vB
def aoF:=vB.eQ aZ6
abbrev ahW:=Int×Nat×Int×(List Int)
def asu:ahW->Prop:=λ(n,m,i,l)=>m=aa l/\∃j:Nat,j<=8/\i=7 - (j:Int)/\aa l<=100000000+j
def Ip:ahW->(Nat×(List Int)):=λ(n,m,i,l)=>(m+(i+1).toNat,l++(jI n).drop (7 - i).toNat)
def aKu:(Bs×Int)->Prop:=λ(b,n)=>aa b<=90000000
def aoH:(Bs×Int)->Bs:=λ(b,n)=>b++jI n
def uA:Ls asu bt Ip:=rI (λ(u,j,i,n7)=>⟨([bB,cK u,bB,bB,bB,uJ 7 j,aU i]++aP 17 []),[],(bz 7 ([dp (vn n7)]++bz 16 []))⟩) (λx=>(.exit 0,⟨(aP 5 ([uJ 7 x.1]++aP 18 [])),[],(bz 7 ([dp (vn x.2)]++bz 16 []))⟩))
def GR:Fs prog aKu bt aoH:=eP 180 f180 (λ(b,n)=>([.d tB b,.d tu n],[])) (λx=>⟨.d tB x,[],[]⟩) [aw tB,aw tu] [] {cd:=[7],loops:=ko [(3,{aX:=[1,5,6],sites:=[7],owns:=[⟨5,[],7,125⟩]})],outs:=km [(3,{aX:=[5],sites:=[7]},{aX:=[4]})],eT:=jW [(3,uA.E)],res:=[aw tB]}
def asv:uA.RS:=rL [.d tu,.n,.d ti,.d tB] uA
def Rz(u j i n7)(A:K2 R)(B:K3 R):GR.R 0 uA (u,j,i,n7) A B=aA (DA i 0) (aA (oQ (eD .u64 (fO .i64 8 i))) (aA (decide (j<=(aa n7))) (aA (cM (j+1) 1) (A (uA.st (u,(j+1),(cY .i64 i 1),((aJ j n7)++ [(eD .u8 (cI .u64 u (eD .u64 (fO .i64 8 i))))])))) aC) aC) aC) (uA.go B (j,n7)):=bS
def aSD(b n)(k:K1 R):GR.A (b,n) k=aA (cM (0+(aa b)) 1) (ao (uA.call (n,(0+(aa b)),7,((aJ 0 (ag 0 0))++b))) λj=>aA (decide (0=0/\(0+j.1)<=(aa j.2))) (k (GR.out (cut j.2 0 j.1))) aC) aC:=bS
def azl:(GR.kA 0 uA):=by
 refine(GR.lS 0 uA) (λ(n,m,i,l)=>(i+1).toNat) ?_
 rintro⟨n,m,i,l⟩ ⟨rfl,j,O,rfl,A⟩;have A:aa l<=100000000+j:=A;have u:(7 - (7 - (j:Int))).toNat=j:=aq;by_cases h:j < 8
 .left;have B:cY .i64 (7 - (j:Int)) 1=7 - ((j+1:Nat):Int):=by rw[eO aq aq];omega
  have I:(7 - (7 - ((j+1:Nat):Int))).toNat=j+1:=aq;have J:fO .i64 8 (7 - (j:Int))=((56 - 8*j:Nat):Int):=by rw[Ct aq aq];omega
  have K:eD .u64 ((56 - 8*j:Nat):Int)=((56 - 8*j:Nat):Int):=by rw[ajT,jG];omega
  refine⟨(n,aa l+1,7 - ((j+1:Nat):Int),l++ [n / 2^(56 - 8*j)%256]),⟨by rw[aj];rfl,j+1,aq,rfl,by rw[aj];show aa l+1<=_;omega⟩,by simp only;omega,?_,λL M=> ?_⟩
  .simp only[bt,Ip,u,I,aBg n j h,aR,cv];rw[show aa l+1+(7 - ((j+1:Nat):Int)+1).toNat=aa l+(7 - (j:Int)+1).toNat by omega]
  .rw[Rz,fE aq,J,K,xI aq,aqM n _ aq,B,aK (ax _),cg aq aq,bI];rfl
 .right;obtain rfl:j=8:=aq;intro R L M;rw[Rz,ed aq,al];simp only[bt,Ip,u];rw[dJ (by rw[cC];omega),bm];rfl
def aSE:GR.Ok:=by
 rintro⟨b,n⟩ u;have u:aa b<=90000000:=u;have A:(aJ 0 (ag 0 0):List Int)=[]:=rfl;rw[aSD];simp only[aO,A,bf];rw[cg aq aq,ai,asv (d:=(n,aa b,7,b)) ⟨rfl,0,aq,rfl,aq⟩];simp only[ah,bt,Ip];rw[show(7 - (7:Int)).toNat=0 from rfl,show((7:Int)+1).toNat=8 from rfl,aH];have j:aa (b++jI n)=aa b+8:=by rw[aj,cC]
 rw[aK ⟨by trivial,by rw[j];omega⟩,dM j];rfl
def aoI:GR.RS:=rE [.d tB,.d tu] GR
def aSF:=GR.eQ aSE 1 ⟨.eg azl,trivial⟩
def Hy(l:List Int):Prop:=∀x∈l,mC x
def aUS(b:kF):Prop:=Hy b.1/\mC b.2.2.2.1
def akk(l:Lk):Prop:=∀b∈l.1,aUS b
def XE(n:Int):Bool:=decide (0<=n/\n<=1048576)
def Al(b:kF):Bool:=decide (aa b.1<=12) && (b.1.all u9 && (XE b.2.1 && (XE b.2.2.1 && (decide (b.2.2.2.1=0) || u9 b.2.2.2.1))))
def lN(l:Lk):Bool:=l.1.all Al && decide (0 < aa l.1/\aa l.1<=4)
def DH:List Int->Int->Int⊕Unit
 |[],_=> .inr ()
 |p::ps,i=>if u9 p then DH ps (i+1) else .inl i
def aMB(l:List Int):Int:=match DH l 0 with | .inl i=>i | .inr _=> -1
def agd:∀(l:List Int) (i:Int),0<=i->(match DH l i with | .inl i=>decide (i>=0) | .inr _=>aZ)= !(l.all u9)
 |[],_,_=>rfl
 |p::ps,i,h=>by
  rw[DH,gX];cases j:u9 p
  .simp[h]
  .simp only[bQ,bH];exact agd ps (i+1) aq
def aO8(l:List Int):DA (aMB l) 0= !(l.all u9):=by
 have:=agd l 0 aq;unfold aMB DA;cases h:DH l 0
 .rw[h]at this;exact this
 .rw[h]at this;rw[<-this];rfl
def aYw:Int->Prop:=λp=>mC p
def ayh:Int->Bool:=λp=> !u9 p
def aDg:Fs prog aYw bt ayh:=eP 116 f116 (λp=>([cK p],[])) (λx=>⟨fA x,[],[]⟩) [aw tu] [aeH]
def bfm(p)(k:K1 R):aDg.A p k=ao (AN.call p) λj=>k (aDg.out (!j)):=bS
def bfn:aDg.Ok:=by intro p j;rw[bfm,Gz (d:=p) j];rfl
def amp:aDg.RS:=rE [.d tu] aDg
def aNt:=aDg.eQ bfn
abbrev Cy:=Bs×Int×Int
def qY(j u):=([aU j,aU u]:List aF)
def K7(j):=(.fn j (.nil):aF)
def um:Cy->AS:=λ(j,u,A)=>⟨([.d tU j,K7 116]++aP 5 ((qY u A)++aP 10 [])),[],(ag 19 [])⟩
def Bv:Int->Exit×AS:=λx=>(.ret,⟨(aP 4 ([aU x]++aP 14 [])),[],(ag 19 [])⟩)
def Bw:Unit->Exit×AS:=λx=>(.exit 0,⟨(aP 19 []),[],(ag 19 [])⟩)
abbrev QL:=(Int)⊕(Unit)
abbrev ahA:=(Int)⊕(Unit)
def JB:QL->Out (Exit×AS):=λx=> .br x.isLeft (.get x.getLeft? λa=> .ok (Bv a)) (.get x.getRight? λb=> .ok (Bw b))
def lk:Cy->ahA->QL:=λ(j,u,A) y=>match y with | .inl y=> .inl y | .inr z=> .inr (z)
def Bu:Cy->Prop:=λ(l,n,i)=>Hy l/\aa l<=1000000000/\n=aa l/\∃k:Nat,k<=aa l/\i=k
def pt:Cy->ahA:=λ(l,n,i)=>DH (l.drop i.toNat) i
def aJv:Bs->Prop:=λl=>Hy l/\aa l<=1000000000
def anK:Bs->Int:=λl=>aMB l
def ahy:=cQ.eg um Bu lk pt JB
def QM:Cy->Option QL:=eN ahy um
def C5:Fs prog aJv bt anK:=eP 170 f170 (λj=>([.d tU j,.fn 116 (.nil)],[])) (λx=>⟨.d ti x,[],[]⟩) [aw tU,aC] [aNt] {loops:=ko [(2,{aX:=[0,1,7,8]})],outs:=km [(2,{},{aX:=[4]})],eT:=jW [(2,ahy)]}
def ahz:= @dm prog (gU C5.G) C5.an 0 f170 0 _ um
abbrev aa3:=gr prog (gU C5.G) C5.an 0 f170 0 um Bu lk pt JB
def arW:fC QM Bu lk pt:=ia (fy [.d tU,.d ti,.d ti] λ_=>bS)
def Ye:iX @ahz um Bu lk pt JB aa3:=ji
def Gy(u B j)(I:K2 R)(A:K3 R):ahz (u,B,j) I A=aA (fj j B) (aA (dB j (((aa u):Nat):Int)) (ao (aDg.call (nth tu u (ae j))) λJ=>aA (J) (A (Bv j).1 (Bv j).2) (I (um (u,B,(bC .i64 j (1:Int)))))) aC) (A (Bw ()).1 (Bw ()).2):=bS
def aRQ(j)(k:K1 R):C5.A j k=ao (QM (j,(aa j:Int),0)) λu=>aA u.isLeft (ao u.getLeft? λA=>k (C5.out A)) (ao u.getRight? λB=>k (C5.out (-1))):=bS
def ayO:aa3:=by
 refine Ye (λ(l,n,i)=>aa l - i.toNat) ?_
 rintro⟨l,n,i⟩ ⟨I,u,rfl,k,B,rfl⟩;have u:aa l<=1000000000:=u;have B:k<=aa l:=B;by_cases h:k < aa l
 .have J:=I _ (aD h);have n1:nth (.int .u64) l k=l[k]:=bG (t:= .int .u64) h;have A:DH (l.drop k) k=if u9 l[k] then DH (l.drop (k+1)) ((k+1:Nat):Int) else .inl (k:Int):=by rw[ak h];rfl
  cases j:u9 l[k]
  .right;refine⟨Bv (k:Int),?_,λK L=> ?_⟩
   .simp only[lk,pt,ab,A,j,bu,bq];rfl
   .rw[Gy];simp(disch:=omega) only[↓S1,↓av,↓au,av,au,bQ,bq,S2,n1];rw[amp (d:=l[k]) J];simp only[ah,bt,ayh,j,eJ,ai]
  .left;refine⟨(l,aa l,((k+1:Nat):Int)),⟨I,u,rfl,k+1,aq,rfl⟩,by simp only[ab];omega,?_,λK L=> ?_⟩
   .simp only[lk,pt,ab,A,j,bQ]
   .rw[Gy];simp(disch:=omega) only[↓S1,↓av,↓au,av,au,bQ,bq,S2,n1];rw[amp (d:=l[k]) J];simp only[ah,bt,ayh,j,bW,al]
 .right;obtain rfl:k=aa l:=aq;refine⟨Bw (),?_,λK L=> ?_⟩
  .simp only[lk,pt,ab,ay];rfl
  .rw[Gy];simp(disch:=omega) only[↓S1,↓av,↓au,av,au,bQ,bq,S2]
def aRR:C5.Ok:=by rintro l ⟨u,j⟩;rw[aRQ,arW (d:=(l,aa l,0)) ⟨u,j,rfl,0,aq,rfl⟩];simp only[ah,lk,pt,aW,aH,bt,anK,aMB];cases DH l 0 <;> rfl
def aJw:C5.RS:=rE [.d tU] C5
def aRS:=C5.eQ aRR 1 ⟨.eg ayO,trivial⟩
def arU:Bs->Prop:=λl=>Hy l/\aa l<=1000000000
def ahv:Bs->Bool:=λl=> !(l.all u9)
def AK:Fs prog arU bt ahv:=eP 118 f118 (λj=>([.d tU j,K7 116],[])) (λx=>⟨fA x,[],[]⟩) [aw tU,aC] [aRS]
def ayL(j)(k:K1 R):AK.A j k=ao (C5.call j) λu=>k (AK.out (DA u 0)):=bS
def ayM:AK.Ok:=by rintro l ⟨u,j⟩;rw[ayL,aJw (d:=l) ⟨u,j⟩];simp only[ah,bt,anK,aO8];rfl
def arV:AK.RS:=rE [.d tU] AK
def ayN:=AK.eQ ayM
def aDh:Int->Prop:=λ_=>True
def aet:Int->Bool:=λn=>XE n
def Ew:Fs prog aDh bt aet:=eP 119 f119 (λn=>([aU n],[])) (λx=>⟨fA x,[],[]⟩) [aw ti]
def aIW(n)(k:K1 R):Ew.A n k=aA (DA n 0) (k (Ew.out (arD n 1048576))) (k (Ew.out aZ)):=bS
def aIX:Ew.Ok:=by
 intro n _;rw[aIW];simp only[bt,aet,XE];by_cases h:0<=n
 .rw[fE h,ai];by_cases j:n<=1048576
  .rw[np j,aK ⟨h,j⟩]
  .rw[jK j,aV (λx=>j x.2)]
 .rw[ed h,al,aV (λx=>h x.1)]
def ag7:Ew.RS:=rE [.d ti] Ew
def aIY:=Ew.eQ aIX
abbrev Cu:=Lk×(List kF)×Int×Int
def ahD(j):=(.d (.slice iq) j:aF)
def Oz(j):=(.iU O2 j:aF)
def nr:Cu->AS:=λ(j,u,A,B)=>⟨([bB,Oz j,bB,K7 116,bB,bB,bB,ahD u,aU A,aU B]++aP 47 []),[],(ag 57 [])⟩
def me:aF:= .d .bool aZ
def fQ:Unit->Exit×AS:=λx=>(.ret,⟨([bB,bB,me]++aP 54 []),[],(ag 57 [])⟩)
def Br:Lk->Exit×AS:=λx=>(.exit 0,⟨([bB,Oz x]++aP 55 []),[],(ag 57 [])⟩)
abbrev Qt:=(Unit)⊕(Lk)
abbrev ahb:=(Unit)⊕(Unit)
def Jw:Qt->Out (Exit×AS):=λx=> .br x.isLeft (.get x.getLeft? λa=> .ok (fQ a)) (.get x.getRight? λb=> .ok (Br b))
def lh:Cu->ahb->Qt:=λ(j,u,A,B) y=>match y with | .inl y=> .inl y | .inr z=> .inr (j)
def Bq:Cu->Prop:=λ(l,bs,n,i)=>(∀b∈bs,aUS b)/\aa bs<=9223372036854775807/\n=aa bs/\∃k:Nat,k<=aa bs/\i=k
def pq:Cu->ahb:=λ(l,bs,n,i)=>if(bs.drop i.toNat).all Al then .inr () else .inl ()
def aI2:Lk->Prop:=λl=>akk l/\aa l.1<=9223372036854775807
def KS:Lk->Bool:=λl=>lN l
def aha:=cQ.eg nr Bq lh pq Jw
def Qu:Cu->Option Qt:=eN aha nr
def sO:Fs prog aI2 bt KS:=eP 78 f78 (λl=>([.d O2 l],[])) (λx=>⟨.d .bool x,[],[]⟩) [aw O2] [aIY,ayN,aNt] {loops:=ko [(3,{aX:=[1,3,7,8,9]})],outs:=km [(3,{aX:=[1]},{aX:=[2]})],eT:=jW [(3,aha)]}
def Qs:= @dm prog (gU sO.G) sO.an 0 f78 0 _ nr
abbrev aaL:=gr prog (gU sO.G) sO.an 0 f78 0 nr Bq lh pq Jw
def arJ:fC Qu Bq lh pq:=ia (fy [.d O2,.d (.slice iq),.d ti,.d ti] λ_=>bS)
def XR:iX @Qs nr Bq lh pq Jw aaL:=ji
def Qv(B u I j)(J:K2 R)(A:K3 R):Qs (B,u,I,j) J A=aA (fj j I) (aA (dB j (((aa u):Nat):Int)) (aA (qi (((aa (nth iq u (ae j)).1):Nat):Int) (12:Int)) (A (fQ ()).1 (fQ ()).2) (ao (AK.call (nth iq u (ae j)).1) λK=>aA (K) (A (fQ ()).1 (fQ ()).2) (ao (Ew.call (nth iq u (ae j)).2.1) λL=>aA (!L) (A (fQ ()).1 (fQ ()).2) (ao (Ew.call (nth iq u (ae j)).2.2.1) λM=>aA (!M) (A (fQ ()).1 (fQ ()).2) (aA (pb (nth iq u (ae j)).2.2.2.1 (0:Int)) (ao (aDg.call (nth iq u (ae j)).2.2.2.1) λO=>aA (O) (A (fQ ()).1 (fQ ()).2) (J (nr (B,u,I,(bC .i64 j (1:Int)))))) (J (nr (B,u,I,(bC .i64 j (1:Int)))))))))) aC) (A (Br B).1 (Br B).2):=bS
def aRi(l)(k:K1 R):sO.A l k=ao (Qu (l,l.1,(aa l.1:Int),0)) λj=>aA j.isLeft (ao j.getLeft? λu=>k (sO.out aZ)) (ao j.getRight? λb7=>aA (qi (aa b7.1:Int) 0) (k (sO.out (arD (aa b7.1:Int) 4))) (k (sO.out aZ))):=bS
def ays:aaL:=by
 refine XR (λ(l,bs,n,i)=>aa bs - i.toNat) ?_
 rintro⟨l,bs,n,i⟩ ⟨hl,O,rfl,k,B,rfl⟩;have O:aa bs<=9223372036854775807:=O;have B:k<=aa bs:=B;by_cases h:k < aa bs
 .have T:aUS bs[k]:=hl _ (aD h);have n1:nth (.pair (.slice (.int .u64)) (.pair (.int .i64) (.pair (.int .i64) (.pair (.int .u64) .unit)))) bs k=bs[k]:=bG (t:=(.pair (.slice (.int .u64)) (.pair (.int .i64) (.pair (.int .i64) (.pair (.int .u64) .unit))))) h;have hd:(bs.drop k).all Al=(Al bs[k] && (bs.drop (k+1)).all Al):=by rw[ak h,gX]
  have step:∀ {R:Type} (j:AS->Option R) (A:Exit->AS->Option R),Qs (l,bs,(aa bs:Int),(k:Int)) j A=aA (Al bs[k]) (j (nr (l,bs,(aa bs:Int),((k+1:Nat):Int)))) (A (fQ ()).1 (fQ ()).2):=by
   intro R j A;rw[Qv,aN aq,aS aq aq,ab,n1,N.iY aq];obtain⟨⟨K,af,dl,L,u⟩,M⟩:∃b,bs[k]=b:=⟨_,rfl⟩;rw[M]at T ⊢;have h1:Hy K:=T.1;have h2:mC L:=T.2;simp only[ai,Al];by_cases B:aa K<=12
   .rw[ct aq,arV (d:=K) ⟨h1,aq⟩,ag7 (d:=af) trivial,ag7 (d:=dl) trivial,amp (d:=L) h2,aK B];simp only[al,ah,bt,ahv,bt,aet,bt,ayh,bH];cases K.all u9
    .rfl
    cases XE af
    .rfl
    cases XE dl
    .rfl
    by_cases J:L=0
    .rw[bU J,aK J];rfl
    .rw[dj J,aV J];cases u9 L <;> rfl
   .rw[cW aq,aV B];rfl
  cases I:Al bs[k]
  .right;refine⟨fQ (),?_,λj A=> ?_⟩
   .simp only[lh,pq,ab,hd,I,cU,bu,bq];rfl
   .rw[step,I,al]
  .left;refine⟨(l,bs,aa bs,((k+1:Nat):Int)),⟨hl,O,rfl,k+1,aq,rfl⟩,by simp only[ab];omega,?_,λj A=> ?_⟩
   .simp only[lh,pq,ab,hd,I,bH]
   .rw[step,I,ai]
 .right;obtain rfl:k=aa bs:=aq;refine⟨Br l,?_,λj A=> ?_⟩
  .simp only[lh,pq,ab,ay];rfl
  .rw[Qv];simp(disch:=omega) only[↓S1,↓av,↓au,av,au,bQ,bq,S2]
def aRj:sO.Ok:=by
 rintro l ⟨B,j⟩;have j:aa l.1<=9223372036854775807:=j;rw[aRi,arJ (d:=(l,l.1,aa l.1,0)) ⟨B,j,rfl,0,aq,rfl⟩];simp only[ah,lh,pq,aW,aH,bt,KS,lN];cases l.1.all Al
 .rfl
 .simp only[bQ,bH];show aA (qi _ _) _ _=_;by_cases u:0 < aa l.1
  .rw[cW aq];by_cases A:aa l.1<=4
   .rw[np aq,aK ⟨u,A⟩];rfl
   .rw[jK aq,aV (λx=>A x.2)];rfl
  .rw[ct aq,aV (λx=>u x.1)];rfl
def Gm:sO.RS:=rE [.d O2] sO
def KT:=sO.eQ aRj 1 ⟨.eg ays,trivial⟩
def xm(m:List Int):List Int->List Sg->Bool
 |[],_=>bn
 |p::ps,ss=>sm p m 1 (ss.headD (0,0,())) && xm m ps ss.tail
def sR(l:Lk)(w:Ua)(m:List Int)(j u:Int):Int:=
 if lN l=aZ\/w.1 < 0\/w.1>=aa l.1 then 1
 else
  let b:=nth (.pair (.slice (.int .u64)) (.pair (.int .i64) (.pair (.int .i64) (.pair (.int .u64) .unit)))) l.1 w.1.toNat
  if j < b.2.1\/u < b.2.2.1 then 11
  else if b.2.2.2.1≠0/\fH w.2.2.1≠b.2.2.2.1 then 23
  else if aa w.2.1≠aa b.1 then 7
  else if xm m b.1 w.2.1 then 0 else 7
def awk(m:List Int)(j:List Int)(u:List Sg)(h:aa u=aa j)(k:Nat)(A:k < aa j):xm m (j.drop k) (u.drop k)=(sm j[k] m 1 (u[k]'(aq)) && xm m (j.drop (k+1)) (u.drop (k+1))):=by rw[ak A,ak (by omega:k < aa u)];rfl
def Ze(w:Ua):Prop:=(∀s∈w.2.1,bcZ s)/\mC w.2.2.1
abbrev Gj:=Ua×Bs×Bs×Int×Int
def sM:Gj->AS:=λ(I,j,u,A,B)=>⟨(aP 6 ([.iU adr I,.iU tH j]++aP 60 ([.d tU u,aU A,aU B]++aP 14 []))),[],(ag 85 [])⟩
def ug:Unit->Exit×AS:=λx=>(.ret,⟨(aP 10 ([aa9 7]++aP 74 [])),[],(ag 85 [])⟩)
def Ey:Unit->Exit×AS:=λx=>(.exit 1,⟨(aP 85 []),[],(ag 85 [])⟩)
abbrev XP:=(Unit)⊕(Unit)
abbrev amz:=(Unit)⊕(Unit)
def ML:XP->Out (Exit×AS):=λx=> .br x.isLeft (.get x.getLeft? λa=> .ok (ug a)) (.get x.getRight? λb=> .ok (Ey b))
def nq:Gj->amz->XP:=λ(I,j,u,A,B) y=>match y with | .inl y=> .inl y | .inr z=> .inr (z)
abbrev aNy:=Lk×Ua×Bs×Int×Int
def Ex:Gj->Prop:=λ(w,m,j,n,i)=>Ze w/\Sm m/\Hy j/\aa j<=1000000000/\aa w.2.1=aa j/\n=aa j/\∃k:Nat,k<=aa j/\i=k
def sK:Gj->amz:=λ(w,m,j,n,i)=>if xm m (j.drop i.toNat) (w.2.1.drop i.toNat) then .inr () else .inl ()
def aRe:aNy->Prop:=λ(l,w,m,h,a)=>akk l/\aa l.1<=9223372036854775807/\Ze w/\Sm m
def aym:aNy->Int:=λ(l,w,m,h,a)=>sR l w m h a
def amy:=cQ.eg sM Ex nq sK ML
def Bp:Gj->Option XP:=eN amy sM
def po:Fs prog aRe bt aym:=eP 223 f223 (λ(l,A,m,j,u)=>([.d O2 l,.d adr A,.d tH m,.d ti j,.d ti u],[])) (λx=>⟨.d ti x,[],[]⟩) [aw O2,aw adr,aw tH,aw ti,aw ti] [KT,aa1,aLK] {loops:=ko [(11,{aX:=[6,7,68,69,70]})],outs:=km [(11,{},{aX:=[10]})],eT:=jW [(11,amy)]}
def XO:= @dm prog (gU po.G) po.an 0 f223 0 _ sM
abbrev ag9:=gr prog (gU po.G) po.an 0 f223 0 sM Ex nq sK ML
def ayn:fC Bp Ex nq sK:=ia (fy [.d adr,.d tH,.d tU,.d ti,.d ti] λ_=>bS)
def aaK:iX @XO sM Ex nq sK ML ag9:=ji
def Vg(I A u B j)(K:K2 R)(J:K3 R):XO (I,A,u,B,j) K J=aA (fj j B) (aA (dB j (((aa u):Nat):Int)) (aA (dB j (((aa I.2.1):Nat):Int)) (ao (NO.call ((nth tu u (ae j)),A,(nth yk I.2.1 (ae j)))) λL=>aA (!L) (J (ug ()).1 (ug ()).2) (K (sM (I,A,u,B,(bC .i64 j (1:Int)))))) aC) aC) (J (Ey ()).1 (Ey ()).2):=bS
def aYN(l j m u A)(k:K1 R):po.A (l,j,m,u,A) k=ao (sO.call l) λJ=>aA (!J) (k (po.out 1)) (aA (fj j.1 0) (k (po.out 1)) (aA (DA j.1 (aa l.1:Int)) (k (po.out 1)) (aA (dB j.1 (aa l.1:Int)) (aA (fj u (nth iq l.1 (ae j.1)).2.1) (k (po.out 11)) (aA (fj A (nth iq l.1 (ae j.1)).2.2.1) (k (po.out 11)) (aA (pb (nth iq l.1 (ae j.1)).2.2.2.1 0) (ao (Ou.call j.2.2.1) λK=>aA (pb K (nth iq l.1 (ae j.1)).2.2.2.1) (k (po.out 23)) (aA (pb (aa j.2.1:Int) (((aa (nth iq l.1 (ae j.1)).1):Nat):Int)) (k (po.out 7)) (ao (Bp (j,m,(nth iq l.1 (ae j.1)).1,(((aa (nth iq l.1 (ae j.1)).1):Nat):Int),0)) λB=>aA B.isLeft (ao B.getLeft? λL=>k (po.out 7)) (ao B.getRight? λO=>k (po.out 0))))) (aA (pb (aa j.2.1:Int) (((aa (nth iq l.1 (ae j.1)).1):Nat):Int)) (k (po.out 7)) (ao (Bp (j,m,(nth iq l.1 (ae j.1)).1,(((aa (nth iq l.1 (ae j.1)).1):Nat):Int),0)) λI=>aA I.isLeft (ao I.getLeft? λM=>k (po.out 7)) (ao I.getRight? λT=>k (po.out 0))))))) aC))):=bS
def aDr:ag9:=by
 refine aaK (λ(w,m,j,n,i)=>aa j - i.toNat) ?_
 rintro⟨w,m,j,n,i⟩ ⟨T,O,M,J,I,rfl,k,L,rfl⟩;have J:aa j<=1000000000:=J;have L:k<=aa j:=L;have I:aa w.2.1=aa j:=I;by_cases h:k < aa j
 .have hx:=M _ (aD h);have hy:=T.1 _ (aD (by omega:k < aa w.2.1));have n1:nth (.int .u64) j k=j[k]:=bG (t:= .int .u64) h;have n2:nth (.pair (.int .u64) (.pair (.int .u64) .unit)) w.2.1 k=w.2.1[k]'(aq):=bG (t:=(.pair (.int .u64) (.pair (.int .u64) .unit))) aq;have K:=awk m j w.2.1 I k h;have step:∀ {R:Type} (u:AS->Option R) (A:Exit->AS->Option R),XO (w,m,j,(aa j:Int),(k:Int)) u A=aA (sm j[k] m 1 (w.2.1[k]'(aq))) (u (sM (w,m,j,(aa j:Int),((k+1:Nat):Int)))) (A (ug ()).1 (ug ()).2):=by intro R u A;rw[Vg,aN aq,aS aq aq,aS aq aq,ab,n1,n2,N.iY aq,aGc (d:=(j[k],m,w.2.1[k]'(aq))) ⟨hx,O,hy⟩];simp only[ai,ah,bt,av7];cases sm j[k] m 1 (w.2.1[k]'(aq)) <;> rfl
  cases B:sm j[k] m 1 (w.2.1[k]'(aq))
  .right;refine⟨ug (),?_,λu A=> ?_⟩
   .simp only[nq,sK,ab,K,B,cU,bu,bq];rfl
   .rw[step,B,al]
  .left;refine⟨(w,m,j,aa j,((k+1:Nat):Int)),⟨T,O,M,J,I,rfl,k+1,aq,rfl⟩,by simp only[ab];omega,?_,λu A=> ?_⟩
   .simp only[nq,sK,ab,K,B,bH]
   .rw[step,B,ai]
 .right;obtain rfl:k=aa j:=aq;refine⟨Ey (),?_,λu A=> ?_⟩
  .simp only[nq,sK,ab,ay];rfl
  .rw[Vg];simp(disch:=omega) only[↓S1,↓av,↓au,av,au,bQ,bq,S2]
def aun{l:Lk}(h:lN l=bn){b:kF}(j:b∈l.1):aa b.1<=12:=by unfold lN at h;rw[aQ,eA]at h;have:=h.1 b j;unfold Al at this;rw[aQ]at this;simpa using this.1
def aYO:po.Ok:=by
  rintro⟨l,w,m,h,a⟩ ⟨O,hb,T,hm⟩;have O:akk l:=O;have hb:aa l.1<=9223372036854775807:=hb;have T:Ze w:=T;have hm:Sm m:=hm;rw[aYN,Gm (d:=l) ⟨O,hb⟩];simp only[ah,bt,KS,bt,aym,sR];cases iN:lN l
  · rw[av (ju rfl)];rfl
  by_cases J:w.1 < 0
  · rw[aN J,av (eF (ju J))];rfl
  by_cases h1:w.1>=aa l.1
  · rw[aL J,fE h1,av (eF (eF h1))];rfl
  rw[aL J,ed h1,aS aq aq,au (by simp[J];omega)];have hn:w.1.toNat < aa l.1:=aq;have n1:nth (.pair (.slice (.int .u64)) (.pair (.int .i64) (.pair (.int .i64) (.pair (.int .u64) .unit)))) l.1 w.1.toNat=l.1[w.1.toNat]:=bG (t:=(.pair (.slice (.int .u64)) (.pair (.int .i64) (.pair (.int .i64) (.pair (.int .u64) .unit))))) hn;rw[n1];have hx:aUS l.1[w.1.toNat]:=O _ (aD hn);have B:=aun iN (aD hn);obtain⟨⟨j,af,dl,sc,u⟩,aQP⟩:∃b,l.1[w.1.toNat]=b:=⟨_,rfl⟩;rw[aQP]at hx B ⊢;have aQR:Hy j:=hx.1;have B:aa j<=12:=B;simp only[bW,al,ai];by_cases I:h < af
  · rw[aN I,av (ju I)];rfl
  by_cases K:a < dl
  · rw[aL I,aN K,av (eF K)];rfl
  rw[aL I,aL K,au (by simp[I,K]),KZ (d:=w.2.2.1) T.2];simp only[al,ah,bt,aj7]
  have A:aA (pb ((aa w.2.1:Nat):Int) ((aa j:Nat):Int)) (aw (po.out (7:Int))) (
          ao (Bp (w,m,j,((aa j:Nat):Int),(0:Int))) λx4=>
          aA (x4.isLeft) (ao (x4.getLeft?) λa5=>aw (po.out (7:Int))) (ao (x4.getRight?) λb6=>aw (po.out (0:Int))))=aw (po.out (if aa w.2.1≠aa j then 7 else if xm m j w.2.1 then 0 else 7)):=by
    by_cases e3:aa w.2.1=aa j
    · rw[bU aq,au (by simp[e3]),al,ayn (d:=(w,m,j,aa j,0)) ⟨T,hm,aQR,by show aa j<=1000000000;omega,e3,rfl,0,aq,rfl⟩]
      simp only[ah,nq,sK,aW,aH];cases xm m j w.2.1 <;> rfl
    · rw[dj aq,av e3];rfl
  by_cases L:sc=0
  · rw[bU L,au (by simp[L]),al]
    exact A
  · rw[dj L,ai]
    by_cases M:fH w.2.2.1=sc
    · rw[bU M,au (by simp[M]),al]
      exact A
    · rw[dj M,av ⟨L,M⟩];rfl
def aRf:po.RS:=rE [.d O2,.d adr,.d tB,.d ti,.d ti] po
def aYP:=po.eQ aYO 1 ⟨.eg aDr,trivial⟩
def aJs:Bs->Prop:=λl=>aa l<=1000000
def aa2:Bs->Bs:=λl=>l
def Gx:Fs prog aJs bt aa2:=eP 101 f101 (λj=>([.d tU j],[])) (λx=>⟨.d tU x,[],[]⟩) [aw tU] [] {cd:=[5],res:=[aw tU]}
def aRM(j)(k:K1 R):Gx.A j k=aA (decide (0 < (aa j))) (aA (cM (0+(aa j)) 8) (aA (decide (0=0/\(0+(0+(aa j)))<=(aa ((aJ 0 (ag 0 0))++j)))) (k (Gx.out (cut ((aJ 0 (ag 0 0))++j) 0 (0+(aa j))))) aC) aC) (nd (k (Gx.out ([]:List Int))) (aA (cM (0+(aa j)) 8) (aA (decide (0=0/\(0+(0+(aa j)))<=(aa ((aJ 0 (ag 0 0))++j)))) (k (Gx.out (cut ((aJ 0 (ag 0 0))++j) 0 (0+(aa j))))) aC) aC)):=bS
def aRN:Gx.Ok:=by
 intro l j;have j:aa l<=1000000:=j;have A:cM (aa l) 8=bn:=cg aq aq;have u:(aJ 0 (ag 0 0):List Int)=[]:=rfl;rw[aRM];simp only[aO,A,ai,u,bf,ax,fY,bE,dM,bt,aa2];by_cases h:0 < aa l
 .simp only[aK h,ai]
 .have:l=[]:=bV aq;subst this;simp only[bl,EB,aV (jb 0),al]
def Yc:Gx.RS:=rE [.d tU] Gx
def aeE:=Gx.eQ aRN
def bik(l:List Int):Lk:=([(l,0,0,0,())],())
def aYu:Bs->Prop:=λl=>aa l<=1000000
def bjv:Bs->Lk:=λl=>bik l
def aIS:Fs prog aYu bt bjv:=eP 60 f60 (λl=>([.d tU l],[])) (λx=>⟨.d O2 x,[],[]⟩) [aw tU] [aeE]
def bfj(l)(k:K1 R):aIS.A l k=ao (Gx.call l) λj=>k (aIS.out ([(j,(0,(0,(0,()))))],())):=bS
def bfk:aIS.Ok:=by intro l j;rw[bfj,Yc (d:=l) j];rfl
def aYv:aIS.RS:=rE [.d tU] aIS
def bfl:=aIS.eQ bfk
def aYE:Int->Prop:=λ_=>True
def bjx:Int->Lk:=λp=>bik [p]
def aDj:Fs prog aYE bt bjx:=eP 26 f26 (λp=>([cK p],[])) (λx=>⟨.d O2 x,[],[]⟩) [aw tu] [bfl]
def bfq(p)(k:K1 R):aDj.A p k=ao (aIS.call [p]) λj=>k (aDj.out j):=bS
def bfr:aDj.Ok:=by intro p _;rw[bfq,aYv (d:=[p]) (by show [p].length<=_;simp)];rfl
def aYF:aDj.RS:=rE [.d tu] aDj
def bfs:=aDj.eQ bfr
def oP(o:List Int)(j:List Int):List Int:=j.foldl (λo p=>o++jI p) o
def aUT(o:List Int)(b:kF):List Int:=cZ (cZ (oP (cZ o (aa b.1)) b.1) b.2.1) b.2.2.1++jI b.2.2.2.1
def XN(l:Lk):List Int:=if lN l then l.1.foldl aUT (cZ [] (aa l.1)) else []
def TM:∀(j:List Int) (o:List Int),aa (oP o j)=aa o+8*aa j
 |[],o=>rfl
 |k::j,o=>by show aa (oP (o++jI k) j)=_;rw[TM j,aj,cC,aB];omega
def awN(o:List Int)(b:kF)(h:aa b.1<=12):aa (aUT o b)<=aa o+200:=by unfold aUT;have j:=dQ o (aa b.1);have u:=TM b.1 (cZ o (aa b.1));have A:=dQ (oP (cZ o (aa b.1)) b.1) b.2.1;have B:=dQ (cZ (oP (cZ o (aa b.1)) b.1) b.2.1) b.2.2.1;rw[aj,cC];omega
def bda(n:Int):Prop:=n<=9223372036854775807
def bk4(b:kF):Prop:=aa b.1<=12/\bda b.2.1/\bda b.2.2.1
def biz{b:kF}(h:Al b=bn):bk4 b:=by unfold Al XE at h;simp only[aQ,bJ]at h;obtain⟨j,_,u,A,_⟩:=h;exact⟨j,by unfold bda;omega,by unfold bda;omega⟩
def aml(o:List Int)(j:List Int)(k:Nat)(h:k < aa j):oP o (j.drop k)=oP (o++jI j[k]) (j.drop (k+1)):=by rw[ak h];rfl
abbrev ag5:=Bs×(List kF)×Int×Int
abbrev Qo:=Bs×(List kF)×Int×Int×Bs×Int×Int×kF
def Bo:Qo->Bs->(((List kF)×Int×Int×kF)×(Bs)):=λ(K,A,j,u,B,I,J,n5) y=>((A,j,u,n5),y)
def arG:Qo->Prop:=λ(o,bs,n,i,u,m,j,b)=>aa u<=12/\aa o+8*aa u<=80000000+8*j.toNat/\m=aa u/\∃k:Nat,k<=aa u/\j=k
def H3:Qo->Bs:=λ(o,bs,n,i,u,m,j,b)=>oP o (u.drop j.toNat)
def arE:ag5->Prop:=λ(o,bs,n,i)=>(∀b∈bs,bk4 b)/\aa bs<=4/\aa o<=1000+200*i.toNat/\n=aa bs/\∃k:Nat,k<=aa bs/\i=k
def Ql:ag5->Bs:=λ(o,bs,n,i)=>(bs.drop i.toNat).foldl aUT o
def aIT:Lk->Prop:=λl=>akk l/\aa l.1<=9223372036854775807
def aaG:Lk->Bs:=λl=>XN l
def uc:Ls arE bt Ql:=rI (λ(j,u,A,B)=>⟨([bB,bB,bB,fo j]++aP 12 ([ahD u,aU A,aU B]++aP 31 [])),[],(ag 50 [])⟩) (λx=>(.exit 0,⟨([bB,bB,bB,fo x]++aP 46 []),[],(ag 50 [])⟩))
def ud:Ls arG Bo H3:=rI (λ(J,K,j,u,A,B,I,n5)=>⟨([bB,bB,bB,fo J,bB,eI 5]++aP 10 ([ahD K,aU j,aU u]++aP 9 ([.d tU A,aU B,aU I]++aP 19 []))),[],(bz 5 ([dp (.d iq n5)]++bz 44 []))⟩) (λx=>(.exit 2,⟨([bB,bB,bB,fo x.2,bB,eI 5]++aP 10 ([ahD x.1.1,aU x.1.2.1,aU x.1.2.2.1]++aP 31 [])),[],(bz 5 ([dp (.d iq x.1.2.2.2)]++bz 44 []))⟩))
def wQ:Fs prog aIT bt aaG:=eP 164 f164 (λl=>([.d O2 l],[])) (λx=>⟨.d tB x,[],[]⟩) [aw O2] [KT,ajG,aB6] {loops:=ko [(5,{aX:=[3,16,17,18]}),(9,{aX:=[3,5,16,17,18,28,29,30],sites:=[5]})],outs:=km [(5,{aX:=[3]},{aX:=[2]}),(9,{aX:=[3,5,16,17,18],sites:=[5]},{aX:=[2]})],eT:=jW [(5,uc.E),(9,ud.E)],res:=[aw tB]}
def arF:uc.RS:=rL [.d tB,.d (.slice iq),.d ti,.d ti] uc
def Qm(A u B j)(J:K2 R)(K:K3 R):wQ.R 0 uc (A,u,B,j) J K=aA (fj j B) (aA (dB j (aa u:Int)) (ao (F0.call (A,(((aa (nth iq u (ae j)).1):Nat):Int))) λL=>ao (ud.call (L,u,B,j,(nth iq u (ae j)).1,(((aa (nth iq u (ae j)).1):Nat):Int),0,(nth iq u (ae j)))) λI=>ao (F0.call (I.2,I.1.2.2.2.2.1)) λM=>ao (F0.call (M,I.1.2.2.2.2.2.1)) λO=>ao (P0.call (O,I.1.2.2.2.2.2.2.1)) λT=>J (uc.st (T,I.1.1,I.1.2.1,(bC .i64 I.1.2.2.1 1)))) aC) (uc.go K A):=bS
def arH:ud.RS:=rL [.d tB,.d (.slice iq),.d ti,.d ti,.d tU,.d ti,.d ti,.d iq] ud
def Qp(J K A B u I j n5)(L:K2 R)(M:K3 R):wQ.R 1 ud (J,K,A,B,u,I,j,n5) L M=aA (fj j I) (aA (dB j (aa u:Int)) (ao (P0.call (J,(nth tu u (ae j)))) λO=>L (ud.st (O,K,A,B,u,I,(bC .i64 j 1),n5))) aC) (ud.go M ((K,A,B,n5),J)):=bS
def aQ6(l)(k:K1 R):wQ.A l k=ao (sO.call l) λj=>aA (!j) (k (wQ.out ([]:List Int))) (ao (F0.call (([]:List Int),(aa l.1:Int))) λu=>ao (uc.call (u,l.1,(aa l.1:Int),0)) λA=>k (wQ.out A)):=bS
def ayj:(wQ.kA 1 ud):=by
 refine(wQ.lS 1 ud) (λ(o,bs,n,i,u,m,j,b)=>aa u - j.toNat) ?_
 rintro⟨o,bs,n,i,u,m,j,b⟩ ⟨A,B,rfl,k,I,rfl⟩;have A:aa u<=12:=A;have I:k<=aa u:=I;have B:aa o+8*aa u<=80000000+8*(k:Int).toNat:=B;rw[ab]at B;by_cases h:k < aa u
 .left;have n1:nth (.int .u64) u k=u[k]:=bG (t:= .int .u64) h;refine⟨(o++jI u[k],bs,n,i,u,aa u,((k+1:Nat):Int),b),⟨A,by rw[aj,cC,ab];omega,rfl,k+1,aq,rfl⟩,by simp only[ab];omega,?_,λJ K=> ?_⟩
  .simp only[Bo,H3,ab];rw[aml _ _ _ h]
  .rw[Qp];simp(disch:=omega) only[↓S1,↓av,↓au,av,au,bQ,bq,S2,n1];rw[KH (d:=(o,u[k])) (by show aa o<=90000000;omega)];rfl
 .right;obtain rfl:k=aa u:=aq;intro R J K;rw[Qp];simp(disch:=omega) only[↓S1,↓av,↓au,av,au,bQ,bq,S2,Bo,H3,ay];rfl
def ayi:(wQ.kA 0 uc):=by
 refine(wQ.lS 0 uc) (λ(o,bs,n,i)=>aa bs - i.toNat) ?_
 rintro⟨o,bs,n,i⟩ ⟨hb,K,O,rfl,k,hk,rfl⟩;have K:aa bs<=4:=K;have hk:k<=aa bs:=hk;have O:aa o<=1000+200*(k:Int).toNat:=O;rw[ab]at O;by_cases h:k < aa bs
 .left;have T:=hb _ (aD h);have n1:nth (.pair (.slice (.int .u64)) (.pair (.int .i64) (.pair (.int .i64) (.pair (.int .u64) .unit)))) bs k=bs[k]:=bG (t:=(.pair (.slice (.int .u64)) (.pair (.int .i64) (.pair (.int .i64) (.pair (.int .u64) .unit))))) h;have e0:=awN o bs[k] T.1;refine⟨(aUT o bs[k],bs,aa bs,((k+1:Nat):Int)),⟨hb,K,by rw[ab];omega,rfl,k+1,aq,rfl⟩,by simp only[ab];omega,?_,λkn kx=> ?_⟩
  .simp only[bt,Ql,ab];rw[ak h];rfl
  .rw[Qm,aN aq,aS aq aq,ab,n1];obtain⟨⟨j,A,B,sc,u⟩,J⟩:∃b,bs[k]=b:=⟨_,rfl⟩;rw[J]at T e0 ⊢;obtain⟨I,L,M⟩:=T;have I:aa j<=12:=I;have L:A<=9223372036854775807:=L;have M:B<=9223372036854775807:=M;have l1:=dQ o (aa j);have l2:=TM j (cZ o (aa j));have l3:=dQ (oP (cZ o (aa j)) j) A;have l4:=dQ (cZ (oP (cZ o (aa j)) j) A) B;simp only[ai];rw[kG (d:=(o,(aa j:Int))) ⟨by show aa o<=90000000;omega,by show(aa j:Int)<=9223372036854775807;omega⟩];simp only[ah,bt,sr];rw[arH (d:=(cZ o (aa j),bs,aa bs,k,j,aa j,0,(j,A,B,sc,u))) ⟨I,by show aa (cZ o (aa j))+8*aa j<=_;omega,rfl,0,aq,rfl⟩];simp only[ah,Bo,H3,aW,aH];rw[kG (d:=(oP (cZ o (aa j)) j,A)) ⟨by show aa (oP (cZ o (aa j)) j)<=90000000;omega,L⟩];simp only[ah,bt,sr];rw[kG (d:=(cZ (oP (cZ o (aa j)) j) A,B)) ⟨by show aa (cZ (oP (cZ o (aa j)) j) A)<=90000000;omega,M⟩];simp only[ah,bt,sr];rw[KH (d:=(cZ (cZ (oP (cZ o (aa j)) j) A) B,sc)) (by show aa (cZ (cZ (oP (cZ o (aa j)) j) A) B)<=90000000;omega)];simp only[ah,bt,ZR];rw[N.iY aq];rfl
 .right;obtain rfl:k=aa bs:=aq;intro R kn kx;rw[Qm];simp(disch:=omega) only[↓S1,↓av,↓au,av,au,bQ,bq,S2,bt,Ql,ay];rfl
def aIZ{l:Lk}(h:lN l=bn):(∀b∈l.1,bk4 b)/\0 < aa l.1/\aa l.1<=4:=by unfold lN at h;simp only[aQ,eA,bJ]at h;exact⟨λb j=>biz (h.1 b j),h.2⟩
def aQ7:wQ.Ok:=by
 rintro l ⟨j,B⟩;have j:akk l:=j;rw[aQ6,Gm (d:=l) ⟨j,B⟩];simp only[ah,bt,KS,bt,aaG,XN];cases I:lN l
 .rfl
 .obtain⟨u,J,A⟩:=aIZ I;have L:=dQ [] (aa l.1);have K:aa ([]:List Int)=0:=rfl;simp only[bW,al,bQ];rw[kG (d:=([],(aa l.1:Int))) ⟨by show aa ([]:List Int)<=90000000;omega,by show(aa l.1:Int)<=9223372036854775807;omega⟩];simp only[ah,bt,sr];rw[arF (d:=(cZ [] (aa l.1),l.1,aa l.1,0)) ⟨u,A,by show aa (cZ [] (aa l.1))<=_;omega,rfl,0,aq,rfl⟩];rfl
def TN(l:Lk):aa (XN l)<=1000:=by
 unfold XN;split
 .rename_i h;obtain⟨A,K,L⟩:=aIZ h;have key:∀(bs:List kF) (o:List Int),(∀b∈bs,bk4 b)->aa (bs.foldl aUT o)<=aa o+200*aa bs:=by
   intro bs
   induction bs with
   |nil=>intro o _;exact ax _
   |cons b bs I=>
    intro o j;have J:=I (aUT o b) λx B=>j x (aT _ B)
    have u:=awN o b (j b aY).1;rw[bN,aB];omega
  have e:=key l.1 (cZ [] (aa l.1)) A;have u:=dQ [] (aa l.1);have M:aa ([]:List Int)=0:=rfl;omega
 .exact az _
def amq:wQ.RS:=rE [.d O2] wQ
def aul:=wQ.eQ aQ7 2 ⟨.eg ayi,⟨.eg ayj,trivial⟩⟩
def ij{a b:List Int}(j:Bytes a)(u:Bytes b):Bytes (a++b):=λx A=>by
 rcases bZ.1 A with h | h
 .exact j x h
 .exact u x h
def apE:∀(f:Nat) (n:Int),0<=n->n < 128^(f+1)->Bytes (iJ f n).1/\akj (iJ f n).2
 | 0,n,j,u=>by have u:n < 128:=u;exact⟨λx hx=>(by cases hx),j,by show n < 256;omega⟩
 |f+1,n,j,u=>by
  have e:(128:Int)^(f+1+1)=128^(f+1)*128:=gl 128 (f+1);rw[iJ];split
  .have A:=apE f (n / 128) aq aq;refine⟨λx hx=> ?_,A.2⟩;rcases cr.1 hx with rfl | hx
   .exact⟨aq,aq⟩
   .exact A.1 x hx
  .exact⟨λx hx=>(by cases hx),j,by show n < 256;omega⟩
def mQ{n:Int}(h:Ph n):Bytes (iy n):=by have j:(128:Int)^(10+1)=151115727451828646838272:=rfl;obtain⟨A,B⟩:=h;have:=apE 10 n A (by rw[j];omega);unfold iy;exact ij this.1 λx u=>by rw[bM]at u;subst u;exact this.2
def aDb:∀(j:List Int) (o:List Int),oP o j=o++j.flatMap jI
 |[],o=>by rw[oK,bm];rfl
 |k::j,o=>by show oP (o++jI k) j=_;rw[aDb j,c9,aR]
def aIR(A:List Int):Bytes (A.flatMap jI):=λx u=>by obtain⟨k,_,j⟩:=tK.1 u;exact KD k x j
def bc1(b:kF):List Int:=iy (aa b.1)++(b.1.flatMap jI++(iy b.2.1++(iy b.2.2.1++jI b.2.2.2.1)))
def aj8(o:List Int){n:Int}(h:0<=n):cZ o n=o++iy n:=by rw[cZ,au aq]
structure bic(b:kF):Prop where
 len:aa b.1<=12
 af:Ph b.2.1
 dl:Ph b.2.2.1
def biA{b:kF}(h:Al b=bn):bic b:=by unfold Al XE at h;simp only[aQ,bJ]at h;obtain⟨j,_,u,A,_⟩:=h;exact⟨j,⟨u.1,aq⟩,⟨A.1,aq⟩⟩
def za{n:Nat}(h:n<=1000000000):Ph (n:Int):=⟨aq,aq⟩
def biy(o:List Int){b:kF}(h:bic b):aUT o b=o++bc1 b:=by unfold aUT bc1;rw[aj8 _ (lV _),aDb,aj8 _ h.af.1,aj8 _ h.dl.1];simp only[aR]
def aMO:∀(bs:List kF) (o:List Int),(∀b∈bs,bic b)->bs.foldl aUT o=o++bs.flatMap bc1
 |[],o,_=>by rw[oK,bm];rfl
 |b::bs,o,h=>by rw[bN,biy o (h b aY),aMO bs _ λx j=>h x (aT _ j),c9,aR]
def aI0{l:Lk}(h:lN l=bn):(∀b∈l.1,bic b)/\0 < aa l.1/\aa l.1<=4:=by unfold lN at h;simp only[aQ,eA,bJ]at h;exact⟨λb j=>biA (h.1 b j),h.2⟩
def aYC{l:Lk}(h:lN l=bn):XN l=iy (aa l.1)++l.1.flatMap bc1:=by unfold XN;rw[av h,aMO _ _ (aI0 h).1,aj8 _ (lV _),bf]
def aPH{b:kF}(h:bic b):Bytes (bc1 b):=
 have j:=h.len
 ij (mQ (za aq)) (ij (aIR _) (ij (mQ h.af) (ij (mQ h.dl) (KD _))))
def aRa(l:Lk):Bytes (XN l):=by
 cases h:lN l
 .unfold XN;rw[h,au fm];exact λx j=>(by cases j)
 .have A:=aI0 h;rw[aYC h];refine ij (mQ (za aq)) λx j=> ?_
  obtain⟨b,u,j⟩:=tK.1 j;exact aPH (A.1 b u) x j
def aKP{b:List Int}(h:Bytes b)(j:aa b<=1000000000)(u:Bool×Unit):yo (b,u):=⟨j,h⟩
abbrev Kz:=Bs×Bs×Int×Int
def wD:Kz->AS:=λ(A,B,j,u)=>⟨([fo A,fo B]++aP 10 ((qY j u)++aP 12 [])),[],(ag 26 [])⟩
def xr:Unit->Exit×AS:=λx=>(.ret,⟨(aP 4 ([me]++aP 21 [])),[],(ag 26 [])⟩)
def HH:Unit->Exit×AS:=λx=>(.exit 0,⟨(aP 26 []),[],(ag 26 [])⟩)
abbrev adB:=(Unit)⊕(Unit)
abbrev att:=(Unit)⊕(Unit)
def PI:adB->Out (Exit×AS):=λx=> .br x.isLeft (.get x.getLeft? λa=> .ok (xr a)) (.get x.getRight? λb=> .ok (HH b))
def pf:Kz->att->adB:=λ(A,B,j,u) y=>match y with | .inl y=> .inl y | .inr z=> .inr (z)
def HG:Kz->Prop:=λ(a,b,m,i)=>aa a<=1000000000/\aa a=aa b/\m=aa a/\∃k:Nat,k<=aa a/\i=k
def xq:Kz->att:=λ(a,b,m,i)=>if a.drop i.toNat=b.drop i.toNat then .inr () else .inl ()
def aVA:(Bs×Bs)->Prop:=λ(a,b)=>aa a<=1000000000
def aHk:(Bs×Bs)->Bool:=λ(a,b)=>decide (a=b)
def ats:=cQ.eg wD HG pf xq PI
def Zq:Kz->Option adB:=eN ats wD
def adz:Fs prog aVA bt aHk:=eP 191 f191 (λ(j,u)=>([.d tB j,.d tB u],[])) (λx=>⟨.d .bool x,[],[]⟩) [aw tB,aw tB] [] {loops:=ko [(4,{aX:=[0,1,12,13]})],outs:=km [(4,{},{aX:=[4]})],eT:=jW [(4,ats)]}
def adA:= @dm prog (gU adz.G) adz.an 0 f191 0 _ wD
abbrev akM:=gr prog (gU adz.G) adz.an 0 f191 0 wD HG pf xq PI
def aBi:fC Zq HG pf xq:=ia (fy [.d tB,.d tB,.d ti,.d ti] λ_=>bS)
def adC:iX @adA wD HG pf xq PI akM:=ji
def Zr(A B u j)(J:K2 R)(I:K3 R):adA (A,B,u,j) J I=aA (fj j u) (aA (dB j (((aa A):Nat):Int)) (aA (dB j (((aa B):Nat):Int)) (aA (pb (nth tb A (ae j)) (nth tb B (ae j))) (I (xr ()).1 (xr ()).2) (J (wD (A,B,u,(bC .i64 j (1:Int)))))) aC) aC) (I (HH ()).1 (HH ()).2):=bS
def bdu(j u)(k:K1 R):adz.A (j,u) k=aA (pb (aa j:Int) (aa u:Int)) (k (adz.out aZ)) (ao (Zq (j,u,(aa j:Int),0)) λA=>aA A.isLeft (ao A.getLeft? λB=>k (adz.out aZ)) (ao A.getRight? λI=>k (adz.out bn))):=bS
def aHl:akM:=by
 refine adC (λ(a,b,m,i)=>aa a - i.toNat) ?_
 rintro⟨a,b,m,i⟩ ⟨I,B,rfl,k,L,rfl⟩;have I:aa a<=1000000000:=I;have B:aa a=aa b:=B;have L:k<=aa a:=L;by_cases h:k < aa a
 .have J:k < aa b:=aq;have n1:nth (.int .u8) a k=a[k]:=bG (t:=(.int .u8)) h;have n2:nth (.int .u8) b k=b[k]:=bG (t:=(.int .u8)) J;have K:(a.drop k=b.drop k)=(a[k]=b[k]/\a.drop (k+1)=b.drop (k+1)):=by rw[ak h,ak J,da]
  have step:∀ {R:Type} (u:AS->Option R) (A:Exit->AS->Option R),adA (a,b,(aa a:Int),(k:Int)) u A=if a[k]=b[k] then u (wD (a,b,(aa a:Int),((k+1:Nat):Int))) else A (xr ()).1 (xr ()).2:=by
   intro R u A;rw[Zr,aN aq,aS aq aq,aS aq aq,ab,n1,n2,N.iY aq];simp only[ai];by_cases j:a[k]=b[k]
   .rw[bU j,av j];rfl
   .rw[dj j,au j];rfl
  by_cases j:a[k]=b[k]
  .left;refine⟨(a,b,(aa a:Int),((k+1:Nat):Int)),⟨I,B,rfl,k+1,aq,rfl⟩,by simp only[ab];omega,?_,λu A=> ?_⟩
   .simp only[pf,xq,ab,K,j,gC]
   .rw[step,av j]
  .right;refine⟨xr (),?_,λu A=> ?_⟩
   .simp only[pf,xq,ab,K,j,oM,bq];rfl
   .rw[step,au j]
 .right;obtain rfl:k=aa a:=aq;refine⟨HH (),?_,λu A=> ?_⟩
  .simp only[pf,xq,ab,ay];rw[B,ay,av rfl];rfl
  .rw[Zr,aL aq,al]
def bdv:adz.Ok:=by
 rintro⟨a,b⟩ u;have u:aa a<=1000000000:=u;rw[bdu];simp only[bt,aHk];by_cases h:aa a=aa b
 .rw[bU aq,al,aBi (d:=(a,b,(aa a:Int),0)) ⟨u,h,rfl,0,az _,rfl⟩];simp only[ah,pf,xq,aW,aH];by_cases j:a=b
  .rw[av j,aK j];rfl
  .rw[au j,aV j];rfl
 .rw[dj aq,aV (λx=>h (by rw[x]))];rfl
def aVB:adz.RS:=rE [.d tB,.d tB] adz
def bdw:=adz.eQ bdv 1 ⟨.eg aHl,trivial⟩
abbrev QK:=Bs×Bs×Int×Int
def AM:QK->AS:=λ(A,B,j,u)=>⟨([.d tU A,.d tU B]++aP 10 ((qY j u)++aP 12 [])),[],(ag 26 [])⟩
def AL:Unit->Exit×AS:=λx=>(.ret,⟨(aP 4 ([me]++aP 21 [])),[],(ag 26 [])⟩)
def M0:Unit->Exit×AS:=λx=>(.exit 0,⟨(aP 26 []),[],(ag 26 [])⟩)
abbrev anJ:=(Unit)⊕(Unit)
abbrev aD3:=(Unit)⊕(Unit)
def Yd:anJ->Out (Exit×AS):=λx=> .br x.isLeft (.get x.getLeft? λa=> .ok (AL a)) (.get x.getRight? λb=> .ok (M0 b))
def sZ:QK->aD3->anJ:=λ(A,B,j,u) y=>match y with | .inl y=> .inl y | .inr z=> .inr (z)
def MZ:QK->Prop:=λ(a,b,m,i)=>aa a<=1000000000/\aa a=aa b/\m=aa a/\∃k:Nat,k<=aa a/\i=k
def Cx:QK->aD3:=λ(a,b,m,i)=>if a.drop i.toNat=b.drop i.toNat then .inr () else .inl ()
def bfX:(Bs×Bs)->Prop:=λ(a,b)=>aa a<=1000000000
def aZB:(Bs×Bs)->Bool:=λ(a,b)=>decide (a=b)
def aD2:=cQ.eg AM MZ sZ Cx Yd
def ahw:QK->Option anJ:=eN aD2 AM
def peq:Fs prog bfX bt aZB:=eP 73 f73 (λ(j,u)=>([.d tU j,.d tU u],[])) (λx=>⟨.d .bool x,[],[]⟩) [aw tU,aw tU] [] {loops:=ko [(4,{aX:=[0,1,12,13]})],outs:=km [(4,{},{aX:=[4]})],eT:=jW [(4,aD2)]}
def anI:= @dm prog (gU peq.G) peq.an 0 f73 0 _ AM
abbrev auP:=gr prog (gU peq.G) peq.an 0 f73 0 AM MZ sZ Cx Yd
def aJt:fC ahw MZ sZ Cx:=ia (fy [.d tU,.d tU,.d ti,.d ti] λ_=>bS)
def ai9:iX @anI AM MZ sZ Cx Yd auP:=ji
def ahx(A B u j)(J:K2 R)(I:K3 R):anI (A,B,u,j) J I=aA (fj j u) (aA (dB j (((aa A):Nat):Int)) (aA (dB j (((aa B):Nat):Int)) (aA (pb (nth tu A (ae j)) (nth tu B (ae j))) (I (AL ()).1 (AL ()).2) (J (AM (A,B,u,(bC .i64 j (1:Int)))))) aC) aC) (I (M0 ()).1 (M0 ()).2):=bS
def bjV(j u)(k:K1 R):peq.A (j,u) k=aA (pb (aa j:Int) (aa u:Int)) (k (peq.out aZ)) (ao (ahw (j,u,(aa j:Int),0)) λA=>aA A.isLeft (ao A.getLeft? λB=>k (peq.out aZ)) (ao A.getRight? λI=>k (peq.out bn))):=bS
def aRO:auP:=by
 refine ai9 (λ(a,b,m,i)=>aa a - i.toNat) ?_
 rintro⟨a,b,m,i⟩ ⟨I,B,rfl,k,L,rfl⟩;have I:aa a<=1000000000:=I;have B:aa a=aa b:=B;have L:k<=aa a:=L;by_cases h:k < aa a
 .have J:k < aa b:=aq;have n1:nth (.int .u64) a k=a[k]:=bG (t:=(.int .u64)) h;have n2:nth (.int .u64) b k=b[k]:=bG (t:=(.int .u64)) J;have K:(a.drop k=b.drop k)=(a[k]=b[k]/\a.drop (k+1)=b.drop (k+1)):=by rw[ak h,ak J,da]
  have step:∀ {R:Type} (u:AS->Option R) (A:Exit->AS->Option R),anI (a,b,(aa a:Int),(k:Int)) u A=if a[k]=b[k] then u (AM (a,b,(aa a:Int),((k+1:Nat):Int))) else A (AL ()).1 (AL ()).2:=by
   intro R u A;rw[ahx,aN aq,aS aq aq,aS aq aq,ab,n1,n2,N.iY aq];simp only[ai];by_cases j:a[k]=b[k]
   .rw[bU j,av j];rfl
   .rw[dj j,au j];rfl
  by_cases j:a[k]=b[k]
  .left;refine⟨(a,b,(aa a:Int),((k+1:Nat):Int)),⟨I,B,rfl,k+1,aq,rfl⟩,by simp only[ab];omega,?_,λu A=> ?_⟩
   .simp only[sZ,Cx,ab,K,j,gC]
   .rw[step,av j]
  .right;refine⟨AL (),?_,λu A=> ?_⟩
   .simp only[sZ,Cx,ab,K,j,oM,bq];rfl
   .rw[step,au j]
 .right;obtain rfl:k=aa a:=aq;refine⟨M0 (),?_,λu A=> ?_⟩
  .simp only[sZ,Cx,ab,ay];rw[B,ay,av rfl];rfl
  .rw[ahx,aL aq,al]
def bjW:peq.Ok:=by
 rintro⟨a,b⟩ u;have u:aa a<=1000000000:=u;rw[bjV];simp only[bt,aZB];by_cases h:aa a=aa b
 .rw[bU aq,al,aJt (d:=(a,b,(aa a:Int),0)) ⟨u,h,rfl,0,az _,rfl⟩];simp only[ah,sZ,Cx,aW,aH];by_cases j:a=b
  .rw[av j,aK j];rfl
  .rw[au j,aV j];rfl
 .rw[dj aq,aV (λx=>h (by rw[x]))];rfl
def bfY:peq.RS:=rE [.d tU,.d tU] peq
def bjX:=peq.eQ bjW 1 ⟨.eg aRO,trivial⟩
def xE:Nat->iM->List Int×iM
 | 0,r=>([],r)
 |k+1,r=>((vH r).1::(xE k (vH r).2).1,(xE k (vH r).2).2)
def KA(k:Nat)(r:iM):kF×iM:=(((xE k r).1,(dX (xE k r).2).1,(dX (dX (xE k r).2).2).1,(vH (dX (dX (xE k r).2).2).2).1,()),(vH (dX (dX (xE k r).2).2).2).2)
def KC:Nat->Int->iM->List kF
 | 0,_,_=> []
 |f+1,n,r=>if 0 < n then(if f=0\/12 < (dX r).1 then [] else(KA (dX r).1.toNat (dX r).2).1::KC f (n - 1) (KA (dX r).1.toNat (dX r).2).2) else []
def xY(b:List Int):List kF:=KC 5 (dX (b,aZ,())).1 (dX (b,aZ,())).2
def ayg:∀(k:Nat) (r:iM),yo r->Hy (xE k r).1/\(xE k r).1.length=k/\yo (xE k r).2
 | 0,r,h=>⟨λx hx=>(by cases hx),rfl,h⟩
 |k+1,r,h=>by
  have e:=afZ h;have j:=ayg k _ e.2;refine⟨λx hx=> ?_,by rw[xE,aB,j.2.1],j.2.2⟩;rcases cr.1 hx with rfl | hx
  .exact e.1
  .exact j.1 x hx
def aML(k:Nat)(r:iM)(h:yo r):aUS (KA k r).1/\(KA k r).1.1.length=k/\yo (KA k r).2:=by have j:=ayg k r h;have A:=vP j.2.2;have B:=vP A.2.2;have u:=afZ B.2.2;exact⟨⟨j.1,u.1⟩,j.2.1,u.2⟩
def aV5:∀(f:Nat) (n:Int) (r:iM),yo r->(∀b∈KC f n r,aUS b)/\aa (KC f n r)<=f
 | 0,n,r,h=>⟨λx hx=>(by cases hx),ax _⟩
 |f+1,n,r,h=>by
  have u:=vP h;have j:=aML (dX r).1.toNat _ u.2.2;have A:=aV5 f (n - 1) _ j.2.2;rw[KC];split
  .split
   .exact⟨λx hx=>(by cases hx),az _⟩
   .refine⟨λx hx=> ?_,by rw[aB];omega⟩;rcases cr.1 hx with rfl | hx
    .exact j.1
    .exact A.1 x hx
  .exact⟨λx hx=>(by cases hx),az _⟩
def aOo{b:List Int}(h:Bytes b)(j:aa b<=1000000000):akk (xY b,())/\aa (xY b)<=5:=by have e:=aV5 5 (dX (b,aZ,())).1 _ (vP (aKP h j (aZ,()))).2.2;exact⟨e.1,e.2⟩
def auk:∀(u:List Int) (j:List Int),Hy u->xE (aa u) (u.flatMap jI++j,aZ,())=(u,(j,aZ,()))
 |[],j,_=>rfl
 |k::u,j,h=>by
  have e:vH ((k::u).flatMap jI++j,aZ,())=(k,(u.flatMap jI++j,aZ,())):=by rw[c9,aR];exact SO k (h k aY) _
  have B:=auk u j λx A=>h x (aT _ A)
  rw[aB,xE,e,B]
def aPD(b:kF)(u:aUS b)(A:bic b)(j:List Int):KA (aa b.1) (b.1.flatMap jI++(iy b.2.1++(iy b.2.2.1++(jI b.2.2.2.1++j))),aZ,())=(b,(j,aZ,())):=by unfold KA;rw[auk _ _ u.1];simp only[];rw[QE _ A.af,QE _ A.dl,SO _ u.2]
def aV1(b:kF)(j:List Int):bc1 b++j=iy (aa b.1)++(b.1.flatMap jI++(iy b.2.1++(iy b.2.2.1++(jI b.2.2.2.1++j)))):=by unfold bc1;simp only[aR]
def aBy:∀(bs:List kF) (f:Nat) (j:List Int),(∀b∈bs,aUS b)->(∀b∈bs,bic b)->aa bs+1<=f->KC f (aa bs) (bs.flatMap bc1++j,aZ,())=bs
 |[],0,j,_,_,h=>absurd h (by simp)
 |[],f+1,j,_,_,_=>by rw[KC,au (by show ¬(0:Int) < ((0:Nat):Int);omega)]
 |b::bs,0,j,_,_,h=>absurd h (by simp)
 |b::bs,f+1,j,hu,hk,h=>by
  have B:=hu b aY;have A:=hk b aY;have h:aa bs+1+1<=f+1:=h;have e:(b::bs).flatMap bc1++j=iy (aa b.1)++(b.1.flatMap jI++(iy b.2.1++(iy b.2.2.1++(jI b.2.2.2.1++(bs.flatMap bc1++j))))):=by rw[c9,aR,aV1]
  have I:=A.len;rw[KC,av (by rw[aB];omega),e,QE _ (za aq)];simp only[ab];rw[au aq,aPD b B A];simp only[];rw[show(aa (b::bs):Int) - 1=(aa bs:Int) by rw[aB];omega,aBy bs f j (λx u=>hu x (aT _ u)) (λx u=>hk x (aT _ u)) aq]
def aSV{l:Lk}(B:akk l)(u:lN l=bn)(j:List Int):xY (XN l++j)=l.1:=by have A:=aI0 u;unfold xY;rw[aYC u,aR,QE _ (za aq)];exact aBy l.1 5 j B A.1 aq
def OS(b:List Int):Lk×Bool:=if lN (xY b,())=bn/\XN (xY b,())=b then((xY b,()),bn) else(([],()),aZ)
def avA{l:Lk}(A:akk l)(j:lN l=bn):OS (XN l)=(l,bn):=by
 have e:xY (XN l)=l.1:=by have e:=aSV A j [];rw[bm]at e;exact e
 unfold OS;rw[e];have u:((l.1,()):Lk)=l:=rfl;rw[u,av ⟨j,rfl⟩]
def baG{b:List Int}(h:(OS b).2=bn):∃l:Lk,lN l=bn/\XN l=b/\OS b=(l,bn)/\l=(xY b,()):=by
 unfold OS at h ⊢;split at h
 .rename_i j;exact⟨(xY b,()),j.1,j.2,by rw[av j],rfl⟩
 .cases h
abbrev amA:=Bs×Int×Int×Nat×iM×(List kF)
abbrev XQ:=Bs×Int×Int×Int×Int×Nat×Nat×(Int×(Int×(Int×Unit)))×iM×(List Int)×(List kF)
abbrev amB:=Nat×iM×(List Int)
def Ez:XQ->amB->((Bs×Int×Int×Nat×(Int×(Int×(Int×Unit)))×(List kF))×(Nat×iM×(List Int))):=λ(B,A,K,O,T,u,J,M,I,L,j) y=>((B,A,K,u,M,j),y)
def ayq:XQ->Prop:=λ(b,n,i,t,j,B,u,x,r,A,bs)=>yo r/\aa A=u/\u<=1000/\∃k c:Nat,j=k/\t=c/\k<=c/\c<=12/\u=k
def MM:XQ->amB:=λ(b,n,i,t,j,B,A,x,r,u,bs)=>(A+(t - j).toNat,(xE (t - j).toNat r).2,u++(xE (t - j).toNat r).1)
def ayo:amA->Prop:=λ(b,n,i,m,r,bs)=>yo r/\n<=9223372036854775807/\aa bs=m/\∃k:Nat,i=k/\k<=4/\m=k
def Gl:amA->(Bs×Nat×(List kF)):=λ(b,n,i,m,r,bs)=>(b,m+aa (KC (5 - i.toNat) (n - i) r),bs++KC (5 - i.toNat) (n - i) r)
def aRg:Bs->Prop:=λb=>Bytes b/\aa b<=1000000000
def aNz:Bs->(Lk×Bool):=λb=>OS b
def Ia:aF:= .pr (.fR) Pv
def Ic(j):=(.vec 93 iq j:aF)
def sN:Ls ayo bt Gl:=rI (λ(B,n,i,j,u,A)=>⟨([fo B,bB,eI 2,bB,eI 11,eI 5,aU n,aU i]++aP 57 []),[],([[],[],dp (Ia),[],[],dp (.pr (uJ 51 j) Pv)]++bz 5 ([dp (.d Fa u)]++bz 39 ([dp (Ic A)]++bz 13 [])))⟩) (λx=>(.exit 0,⟨([fo x.1,bB,eI 2,bB,bB,eI 5]++aP 59 []),[],([[],[],dp (Ia),[],[],dp (.pr (uJ 51 x.2.1) Pv)]++bz 45 ([dp (Ic x.2.2)]++bz 13 []))⟩))
def y7:Ls ayq Ez MM:=rI (λ(M,L,O,J,K,u,B,T,A,I,j)=>⟨([fo M,bB,eI 2,bB,eI 11,eI 5,aU L,aU O,eI 8]++aP 18 ((qY J K)++aP 36 [])),[],([[],[],dp (Ia),[],[],dp (.pr (uJ 51 u) Pv),[],[],dp (.pr (uJ 35 B) (.d (.pair ti (.pair ti (.pair tu .unit))) T)),[],[],dp (.d Fa A)]++bz 23 ([dp (.vec 68 tu I)]++bz 15 ([dp (Ic j)]++bz 13 [])))⟩) (λx=>(.exit 2,⟨([fo x.1.1,bB,eI 2,bB,eI 11,eI 5,aU x.1.2.1,aU x.1.2.2.1,eI 8]++aP 56 []),[],([[],[],dp (Ia),[],[],dp (.pr (uJ 51 x.1.2.2.2.1) Pv),[],[],dp (.pr (uJ 35 x.2.1) (.d (.pair ti (.pair ti (.pair tu .unit))) x.1.2.2.2.2.1)),[],[],dp (.d Fa x.2.2.1)]++bz 23 ([dp (.vec 68 tu x.2.2.2)]++bz 15 ([dp (Ic x.1.2.2.2.2.2)]++bz 13 [])))⟩))
def Gk:Fs prog aRg bt aNz:=eP 150 f150 (λb=>([.d tB b],[])) (λx=>⟨.cons (.d O2 x.1) (.cons (.d .bool x.2) (.nil)),[],[]⟩) [aw tB] [aFs,akc,aOv,KT,aul,bdw] {loops:=ko [(5,{aX:=[0,2,4,5,6,7],sites:=[2,5,11,51],owns:=[⟨5,[.fst],51,63⟩]}),(11,{aX:=[0,2,4,5,6,7,8,27,28],sites:=[2,5,8,11,35,51],owns:=[⟨8,[.fst],35,91⟩]})],outs:=km [(5,{aX:=[0,2,5],sites:=[2,5,51]},{aX:=[2,3]}),(11,{aX:=[0,2,4,5,6,7,8],sites:=[2,5,8,11,35,51]},{aX:=[2,3]})],eT:=jW [(5,sN.E),(11,y7.E)],res:=[aw O2,aC]}
def ayp:sN.RS:=rL [.d tB,.d ti,.d ti,.n,.d Fa,.d (.slice iq)] sN
def Jv(K n i u L A)(T:K2 R)(M:K3 R):Gk.R 0 sN (K,n,i,u,L,A) T M=aA (fj i n) (ao (J8.call L) λO=>aA (oC i 4) (sN.go M (K,u,A)) (aA (qi O.1 12) (sN.go M (K,u,A)) (ao (y7.call (K,n,i,O.1,0,u,0,(0,(0,(0,()))),O.2,([]:List Int),A)) λj=>ao (J8.call j.2.2.1) λJ=>ao (J8.call J.2) λB=>ao (acv.call B.2) λI=>aA (decide (0=0/\(0+j.2.1)<=(aa j.2.2.2))) (aA (decide (j.1.2.2.2.1<=(aa j.1.2.2.2.2.2))) (aA (cM (j.1.2.2.2.1+1) 48) (T (sN.st (j.1.1,j.1.2.1,(bC .i64 j.1.2.2.1 1),(j.1.2.2.2.1+1),I.2,((aJ j.1.2.2.2.1 j.1.2.2.2.2.2)++ [((cut j.2.2.2 0 j.2.1),(J.1,(B.1,(I.1,j.1.2.2.2.2.1.2.2.2))))])))) aC) aC) aC))) (sN.go M (K,u,A)):=bS
def ayr:y7.RS:=rL [.d tB,.d ti,.d ti,.d ti,.d ti,.n,.n,.d (.pair ti (.pair ti (.pair tu .unit))),.d Fa,.d tU,.d (.slice iq)] y7
def Vh(M L O J K B j T I u A)(kn:K2 R)(kx:K3 R):Gk.R 1 y7 (M,L,O,J,K,B,j,T,I,u,A) kn kx=aA (fj K J) (ao (acv.call I) λx4=>aA (decide (j<=(aa u))) (aA (cM (j+1) 8) (kn (y7.st (M,L,O,J,(bC .i64 K 1),B,(j+1),T,x4.2,((aJ j u)++ [x4.1]),A))) aC) aC) (y7.go kx ((M,L,O,B,T,A),(j,I,u))):=bS
def aYQ(b)(k:K1 R):Gk.A b k=ao (aie.call b) λJ=>ao (J8.call J) λI=>ao (sN.call (b,I.1,0,0,I.2,([]:List kF))) λj=>aA (decide (0=0/\(0+j.2.1)<=(aa j.2.2))) (ao (sO.call ((cut j.2.2 0 j.2.1),())) λB=>aA (!B) (k (Gk.out ((([]:List kF),()),aZ))) (aA (decide (0=0/\(0+j.2.1)<=(aa j.2.2))) (ao (wQ.call ((cut j.2.2 0 j.2.1),())) λA=>ao (adz.call (A,j.1)) λu=>aA (!u) (k (Gk.out ((([]:List kF),()),aZ))) (aA (decide (0=0/\(0+j.2.1)<=(aa j.2.2))) (k (Gk.out (((cut j.2.2 0 j.2.1),()),bn))) aC)) aC)) aC:=bS
def aDt:(Gk.kA 1 y7):=by
 refine(Gk.lS 1 y7) (λ(b,n,i,t,j,K,u,x,r,J,bs)=>(t - j).toNat) ?_
 rintro⟨b,n,i,t,j,K,u,x,r,J,bs⟩ ⟨I,A,hm,k,c,rfl,rfl,L,T,B⟩;have I:yo r:=I;have A:aa J=u:=A;have B:u=k:=B;by_cases h:k < c
 .left;have M:((c:Int) - (k:Int)).toNat=(c - (k+1))+1:=aq;have O:((c:Int) - ((k+1:Nat):Int)).toNat=c - (k+1):=aq;refine⟨(b,n,i,(c:Int),((k+1:Nat):Int),K,u+1,x,(vH r).2,J++ [(vH r).1],bs),⟨(afZ I).2,by rw[aj];show aa J+1=_;omega,aq,k+1,c,rfl,rfl,aq,T,aq⟩,by show((c:Int) - ((k+1:Nat):Int)).toNat < ((c:Int) - (k:Int)).toNat;omega,?_,λkn kx=> ?_⟩
  .simp only[Ez,MM,M,O,xE,aR,cv];rw[show u+1+(c - (k+1))=u+(c - (k+1)+1) by omega]
  .rw[Vh,aN aq,R2 (d:=r) I];simp only[ah,ai,bt,afC];rw[aK aq,cg aq aq,N.iY aq,bp aq];rfl
 .right;obtain rfl:k=c:=aq;intro R kn kx;rw[Vh,aL aq,al];simp only[Ez,MM,Int.sub_self,aW,xE,bm,bY]
def aDs:(Gk.kA 0 sN):=by
 refine(Gk.lS 0 sN) (λ(b,n,i,m,r,bs)=>5 - i.toNat) ?_
 rintro⟨b,n,i,m,r,bs⟩ ⟨I,hn,j,k,rfl,hk,u⟩;have I:yo r:=I;have hn:n<=9223372036854775807:=hn;have j:aa bs=m:=j;have u:m=k:=u;have O:5 - (k:Int).toNat=(4 - k)+1:=by rw[ab];omega
 have T:=vP I;by_cases h:(k:Int) < n
 .have hp:0 < n - (k:Int):=aq;by_cases hc:4 - k=0\/12 < (dX r).1
  .right;intro R kn kx;have B:KC ((4 - k)+1) (n - (k:Int)) r=[]:=by rw[KC,av hp,av hc]
   rw[Jv,aN h,tg (d:=r) I];simp only[ah,ai,bt,A6,bt,Gl,O,B,bl,bY,bm];by_cases K:(k:Int)=4
   .rw[dC K,ai]
   .rw[eZ K,al,cW aq,ai]
  .left;have K:¬(k:Int)=4:=aq;have M:¬(dX r).1 > 12:=aq;obtain⟨c,A⟩:∃c:Nat,(dX r).1=c:=⟨(dX r).1.toNat,aq⟩;have L:=aML c _ T.2.2;have J:=ayg c _ T.2.2;have ga:=vP J.2.2;have gd:=vP ga.2.2;have B:KC ((4 - k)+1) (n - (k:Int)) r=(KA c (dX r).2).1::KC (4 - k) (n - (k:Int) - 1) (KA c (dX r).2).2:=by rw[KC,av hp,au hc,A,ab]
   have e1:5 - ((k+1:Nat):Int).toNat=4 - k:=by rw[ab];omega
   refine⟨(b,n,((k+1:Nat):Int),m+1,(KA c (dX r).2).2,bs++ [(KA c (dX r).2).1]),⟨L.2.2,hn,by rw[aj];show aa bs+1=_;omega,k+1,rfl,aq,aq⟩,by simp only[ab];omega,?_,λkn kx=> ?_⟩
   .simp only[bt,Gl,O,e1,B,aR,cv,aB];rw[show n - ((k+1:Nat):Int)=n - (k:Int) - 1 by omega,show m+1+aa (KC (4 - k) (n - (k:Int) - 1) (KA c (dX r).2).2)=m+(aa (KC (4 - k) (n - (k:Int) - 1) (KA c (dX r).2).2)+1) by omega]
   .rw[Jv,aN h,tg (d:=r) I];simp only[ah,ai,bt,A6];rw[eZ K,al,ct M,al,A,ayr (d:=(b,n,(k:Int),(c:Int),0,m,0,(0,0,0,()),(dX r).2,[],bs)) ⟨T.2.2,rfl,fm,0,c,rfl,rfl,az _,aq,rfl⟩];simp only[ah,Ez,MM,tG,ab,aO,bf];rw[tg (d:=(xE c (dX r).2).2) J.2.2];simp only[ah,bt,A6];rw[tg (d:=(dX (xE c (dX r).2).2).2) ga.2.2];simp only[ah,bt,A6];rw[R2 (d:=(dX (dX (xE c (dX r).2).2).2).2) gd.2.2];simp only[ah,bt,afC];rw[aK ⟨by trivial,by rw[J.2.1];exact ax _⟩,aK aq,cg aq aq,N.iY aq,bp aq,dM J.2.1];rfl
 .right;intro R kn kx;have B:KC ((4 - k)+1) (n - (k:Int)) r=[]:=by rw[KC,au aq]
  rw[Jv,aL h,al];simp only[bt,Gl,O,B,bl,bY,bm]
def aYR:Gk.Ok:=by
 rintro b ⟨A,u⟩;have A:Bytes b:=A;have u:aa b<=1000000000:=u;have I:=aKP A u (aZ,());have J:=vP I;have K:=aOo A u;rw[aYQ,avN (d:=b) u];simp only[ah,bt,azE];rw[tg (d:=(b,aZ,())) I];simp only[ah,bt,A6];rw[ayp (d:=(b,(dX (b,aZ,())).1,0,0,(dX (b,aZ,())).2,[])) ⟨J.2.2,J.2.1,rfl,0,rfl,fm,rfl⟩];simp only[ah,bt,Gl,aW,mW,tG,aO,bf,ax,fY,bE,ai,dM];rw[show KC 5 (dX (b,aZ,())).1 (dX (b,aZ,())).2=xY b from rfl];have j:((xY b,()):Lk).1.length<=1000000000:=by show aa (xY b)<=_;omega
 rw[Gm (d:=(xY b,())) ⟨K.1,fa j fm⟩];simp only[ah,bt,KS,bt,aNz,OS];cases L:lN (xY b,())
 .rw[au (by rintro⟨x,_⟩;cases x)];rfl
 .rw[amq (d:=(xY b,())) ⟨K.1,fa j fm⟩];simp only[bW,al,ah,bt,aaG];rw[aVB (d:=(XN (xY b,()),b)) (by show aa (XN _)<=_;have:=TN (xY b,());omega)];simp only[ah,bt,aHk];by_cases B:XN (xY b,())=b
  .rw[aK B,av ⟨by trivial,B⟩];rfl
  .rw[aV B,au (λy=>B y.2)];rfl
def aRh:Gk.RS:=rE [.d tB] Gk
def aYS:=Gk.eQ aYR 2 ⟨.eg aDs,⟨.eg aDt,trivial⟩⟩
def aa4(x:Int)(m:Int):∀k:Nat,(x%m)^k%m=x^k%m
 | 0=>by rw[mR,mR]
 |k+1=>by rw[gl,gl,jc,aa4 x m k,gN _ (pO m),<-jc]
def bke(a:Int)(k:Nat):(a*a)^k=a^(2*k):=by rw[Int.pow_mul,gl,gl,mR,Int.one_mul]
def aZL:∀(f:Nat) (a:Int) (n:Nat) (out:Int),n < 2^f->Pn out->aAP f a n out=out*a^n%4611686018427377339
 | 0,a,n,out,h,j=>by obtain rfl:n=0:=aq;rw[GB,mR,Ci,fv j.1 j.2]
 |f+1,a,n,out,h,j=>by
  have e:(2:Nat)^(f+1)=2^f*2:=Nat.pow_succ 2 f;rw[aAP];split
  .rename_i J;subst J;rw[mR,Ci,fv j.1 j.2]
  .have K:Pn (if n%2=1 then lP out a else out):=by
    split
    .exact vN _ _
    .exact j
   rw[aZL f _ _ _ aq K,jc];have A:(lP a a)^(n / 2)%4611686018427377339=a^(2*(n / 2))%4611686018427377339:=by unfold lP;rw[aa4,bke]
   have B:(if n%2=1 then lP out a else out)%4611686018427377339=(out*a^(n%2))%4611686018427377339:=by
    split
    .rename_i u;rw[u,gl,mR,Int.one_mul];exact gN _ (pO _)
    .have u:n%2=0:=aq;rw[u,mR,Ci]
   rw[A,B,<-jc,va,<-Int.pow_add];have I:n%2+2*(n / 2)=n:=aq;rw[I]
def anP(a:Int)(n:Nat)(h:n < 18446744073709551616):pw a n=a^n%4611686018427377339:=by unfold pw;rw[aZL 64 a n 1 h ⟨aq,aq⟩,Int.one_mul]
def one_pow(k:Nat):(1:Int)^k=1:=Int.one_pow
def aZN(a:Int)(k q:Nat)(u:k < 18446744073709551616)(j:q < 18446744073709551616)(h:pw a q=1):pw (pw a k) q=1:=by rw[anP _ _ j]at h;rw[anP _ _ j,anP _ _ u,aa4,<-Int.pow_mul,Nat.mul_comm,Int.pow_mul,<-aa4,h,one_pow];rfl
def at5:pw 4 2305843009213688669=1:=by decide+kernel
def aRF:pw 1 2305843009213688669=1:=by decide+kernel
def bfi:u9 4=bn:=by rw[u9,at5];rfl
def MI:u9 1=bn:=by rw[u9,aRF];rfl
def aNF:anr 1=1:=by
 have e:pw 1 2305843009213688668=1:=by decide+kernel
 rw[anr,tk,MI];exact e
def ayP{a:Int}(h:Pn a)(q:Nat)(A:0 < q)(j:q < 18446744073709551616)(u:pw a q=1):0 < a:=by
 rcases Int.lt_or_eq_of_le h.1 with h0 | h0
 .exact h0
 .subst h0;rw[anP _ _ j,Int.zero_pow aq]at u;cases u
def bjs{a:Int}(h:Pn a)(j:pw a 2305843009213688669=1):u9 a=bn:=by have u:=ayP h 2305843009213688669 fm fm j;rw[u9,j,fM ⟨u,h.2⟩];rfl
def auh{a:Int}(h:u9 a=bn):pw a 2305843009213688669=1/\Pn a:=by rw[u9,aQ,bJ,bJ]at h;exact⟨h.2,aq,h.1.2⟩
def bjt{a:Int}(h:u9 a=bn)(k:Nat)(j:k < 18446744073709551616):u9 (pw a k)=bn:=bjs (anQ _ _) (aZN a k _ j fm (auh h).1)
def bju(a:Int):u9 (tk a)=bn:=by
 unfold tk;cases h:u9 a
 .exact MI
 .exact h
def aQ1(p k:Int):u9 (zR p k)=bn:=bjt (bju p) _ aq
def Wa{a:Int}(h:u9 a=bn):tk a=a:=by rw[tk,h];rfl
def Qi(k:Int):u9 (fH k)=bn:=aQ1 4 k
def aaQ{a:Int}(h:Pn a):lP a 1=a:=by rw[lP,Ci,fv h.1 h.2]
def aPW(r j s:Int):(fH s=Ha [r,j,anr 1])=(Ha [fH s,1]=Ha [r,j]):=by
 have u:Ha [fH s,1]=fH s:=by show lP (lP 1 (tk (fH s))) (tk 1)=_;rw[Wa (Qi s),Wa MI,aaQ (vN _ _),lP,Int.one_mul];have h:=(auh (Qi s)).2;exact fv h.1 h.2
 have A:Ha [r,j,anr 1]=Ha [r,j]:=by rw[aNF];show lP (lP (lP 1 (tk r)) (tk j)) (tk 1)=lP (lP 1 (tk r)) (tk j);rw[Wa MI,aaQ (vN _ _)]
 rw[u,A]
def aoB:(Int×Int×Int)->Prop:=λ(a,b,o)=>Pn a/\mC b/\Pn o
def Nl:(Int×Int×Int)->Int:=λ(a,b,o)=>(o+a*b)%4611686018427377339
def aEM:(Int×Int)->Prop:=λ(a,b)=>Pn a/\mC b
def au7:(Int×Int)->Int:=λ(a,b)=>lP a b
def ot:Ls aoB bt Nl:=rI (λ(A,u,j)=>⟨([cK A,cK u,bB,bB,bB,cK j]++aP 16 []),[],(ag 22 [])⟩) (λx=>(.exit 0,⟨(aP 5 ([cK x]++aP 16 [])),[],(ag 22 [])⟩))
def uw:Fs prog aEM bt au7:=eP 234 f234 (λ(a,b)=>([.d tu a,.d tu b],[])) (λx=>⟨.d tu x,[],[]⟩) [aw tu,aw tu] [] {loops:=ko [(2,{aX:=[0,1,5]})],outs:=km [(2,{aX:=[5]},{aX:=[4]})],eT:=jW [(2,ot.E)]}
def aoC:ot.RS:=rL [.d tu,.d tu,.d tu] ot
def OR(u A j)(B:K2 R)(I:K3 R):uw.R 0 ot (u,A,j) B I=aA (qi A 0) (aA (oC (kJ A 2) 1) (B (ot.st ((kJ (bC .u64 u u) 4611686018427377339),(yp .u64 A 2),(kJ (bC .u64 j u) 4611686018427377339)))) (B (ot.st ((kJ (bC .u64 u u) 4611686018427377339),(yp .u64 A 2),j)))) (ot.go I j):=bS
def aKe(a b)(k:K1 R):uw.A (a,b) k=ao (ot.call (a,b,0)) λj=>k (uw.out j):=bS
def aQN(o a b:Int)(m:Int):(o+a*b)%m=((if b%2=1 then(o+a)%m else o)+(a+a)%m*(b / 2))%m:=by
 have e:b=2*(b / 2)+b%2:=aq;have j:b%2=0\/b%2=1:=aq;generalize b / 2=q at*;have u:∀x y:Int,(x%m+(a+a)%m*y)%m=(x+(a+a)*y)%m:=λx y=>by rw[pN,gN _ (pO m),jc,gN _ (pO m),<-jc,<-pN]
 have A:∀x y:Int,(x+(a+a)%m*y)%m=(x+(a+a)*y)%m:=λx y=>by rw[pN,jc,gN _ (pO m),<-jc,<-pN]
 rcases j with h | h
 .rw[au aq,A];rw[h]at e;rw[e,tE,Int.add_mul,<-va,yx a 2,Int.two_mul,Int.add_mul]
 .rw[av h,u];rw[h]at e;rw[e,Int.mul_add,Ci,<-va,yx a 2,Int.two_mul];congr 1;omega
def bhM{n:Int}(h:mC n):yp .u64 n 2=n / 2:=ayb h.1 aq h.2
def asr:(uw.kA 0 ot):=by
 refine(uw.lS 0 ot) (λ(a,b,o)=>b.toNat) ?_
 rintro⟨a,b,o⟩ ⟨u,A,B⟩;have u:Pn a:=u;have A:mC b:=A;have B:Pn o:=B;obtain⟨T,a1⟩:=u;obtain⟨I,J⟩:=A;obtain⟨o0,o1⟩:=B;by_cases h:0 < b
 .left;have K:kJ (bC .u64 a a) 4611686018427377339=(a+a)%4611686018427377339:=by
   have:bC .u64 a a=a+a:=by rw[tX];omega
   rw[this,vK aq]
  have L:kJ (bC .u64 o a) 4611686018427377339=(o+a)%4611686018427377339:=by
   have:bC .u64 o a=o+a:=by rw[tX];omega
   rw[this,vK aq]
  refine⟨((a+a)%4611686018427377339,b / 2,if b%2=1 then(o+a)%4611686018427377339 else o),⟨⟨aq,aq⟩,⟨aq,aq⟩,?_⟩,by simp only[];omega,?_,λM O=> ?_⟩
  .show Pn (if b%2=1 then(o+a)%4611686018427377339 else o);split
   .exact⟨aq,aq⟩
   .exact⟨o0,o1⟩
  .exact bA _ (aQN o a b 4611686018427377339).symm
  .rw[OR,cW h,K,L,bhM ⟨I,J⟩,vK I];by_cases j:b%2=1
   .rw[dC j,av j];rfl
   .rw[eZ j,au j];rfl
 .right;intro R M O;obtain rfl:b=0:=aq;rw[OR,ct aq];simp only[al,bt,Nl];rw[show(o+a*0)%4611686018427377339=o by omega]
def aKf:uw.Ok:=by rintro⟨a,b⟩ ⟨j,u⟩;rw[aKe,aoC (d:=(a,b,0)) ⟨j,u,aq,aq⟩];simp only[ah,bt,Nl,je];rfl
def Rw:uw.RS:=rE [.d tu,.d tu] uw
def aoD:=uw.eQ aKf 1 ⟨.eg asr,trivial⟩
def aow:(Int×Int×Int)->Prop:=λ(a,n,o)=>Pn a/\mC n/\Pn o
def EP:(Int×Int×Int)->Int:=λ(a,n,o)=>aAP 64 a n.toNat o
def aEI:(Int×Int)->Prop:=λ(a,n)=>Pn a/\mC n
def aSt:(Int×Int)->Int:=λ(a,n)=>pw a n.toNat
def oq:Ls aow bt EP:=rI (λ(A,u,j)=>⟨([cK A,cK u,bB,bB,bB,cK j]++aP 14 []),[],(ag 20 [])⟩) (λx=>(.exit 0,⟨(aP 5 ([cK x]++aP 14 [])),[],(ag 20 [])⟩))
def zL:Fs prog aEI bt aSt:=eP 211 f211 (λ(a,n)=>([.d tu a,.d tu n],[])) (λx=>⟨.d tu x,[],[]⟩) [aw tu,aw tu] [aoD] {loops:=ko [(2,{aX:=[0,1,5]})],outs:=km [(2,{aX:=[5]},{aX:=[4]})],eT:=jW [(2,oq.E)]}
def aox:oq.RS:=rL [.d tu,.d tu,.d tu] oq
def OQ(u A j)(B:K2 R)(I:K3 R):zL.R 0 oq (u,A,j) B I=aA (qi A 0) (aA (oC (kJ A 2) 1) (ao (uw.call (j,u)) λJ=>ao (uw.call (u,u)) λK=>B (oq.st (K,(yp .u64 A 2),J))) (ao (uw.call (u,u)) λL=>B (oq.st (L,(yp .u64 A 2),j)))) (oq.go I j):=bS
def aJ6(a n)(k:K1 R):zL.A (a,n) k=ao (oq.call (a,n,1)) λj=>k (zL.out j):=bS
def asq:(zL.kA 0 oq):=by
 refine(zL.lS 0 oq) (λ(a,n,o)=>n.toNat) ?_
 rintro⟨a,n,o⟩ ⟨j,u,B⟩;have j:Pn a:=j;have u:mC n:=u;have B:Pn o:=B;have n0:=u.1;have n1:=u.2;by_cases h:0 < n
 .left;have e:EP (a,n,o)=EP (lP a a,n / 2,if n%2=1 then lP o a else o):=by
   show aAP 64 a n.toNat o=aAP 64 (lP a a) (n / 2).toNat _;rw[anO 64 65 a n.toNat o aq aq];have K:(n / 2).toNat=n.toNat / 2:=aq;have L:(n%2=1)=(n.toNat%2=1):=by apply propext;omega
   rw[K];simp only[L];show(if n.toNat=0 then o else _)=_;rw[au aq]
  refine⟨(lP a a,n / 2,if n%2=1 then lP o a else o),⟨vN a a,⟨aq,aq⟩,?_⟩,by show(n / 2).toNat < n.toNat;omega,?_,λI J=> ?_⟩
  .show Pn (if n%2=1 then lP o a else o);split
   .exact vN _ _
   .exact B
  .exact bA _ e.symm
  .rw[OQ,cW h,bhM u,vK n0,Rw (d:=(o,a)) ⟨B,j.u⟩,Rw (d:=(a,a)) ⟨j,j.u⟩];by_cases A:n%2=1
   .rw[dC A,av A];rfl
   .rw[eZ A,au A];rfl
 .right;intro R I J;obtain rfl:n=0:=aq;rw[OQ,ct aq];simp only[al,bt,EP];rw[show aAP 64 a (ae 0) o=o from GB _ _ _]
def aJ7:zL.Ok:=by rintro⟨a,n⟩ ⟨j,u⟩;rw[aJ6,aox (d:=(a,n,1)) ⟨j,u,aq,aq⟩];rfl
def ahS:zL.RS:=rE [.d tu,.d tu] zL
def aoy:=zL.eQ aJ7 1 ⟨.eg asq,trivial⟩
def aEJ:Int->Prop:=λp=>mC p
def FB:Int->Bool:=λp=>u9 p
def qz:Fs prog aEJ bt FB:=eP 171 f171 (λp=>([cK p],[])) (λx=>⟨fA x,[],[]⟩) [aw tu] [aoy]
def aJ8(p)(k:K1 R):qz.A p k=aA (DA p 1) (aA (fj p 4611686018427377339) (ao (zL.call (p,2305843009213688669)) λj=>k (qz.out (oC j 1))) (k (qz.out aZ))) (k (qz.out aZ)):=bS
def aJ9:qz.Ok:=by
 intro(p:Int) u;have u:mC p:=u;rw[aJ8];simp only[bt,FB,u9];by_cases h:0 < p
 .rw[fE aq,ai];by_cases j:p < 4611686018427377339
  .rw[aN j,ai,aK ⟨h,j⟩,bH,ahS (d:=(p,2305843009213688669)) ⟨⟨aq,j⟩,by constructor <;> decide⟩];rfl
  .rw[aL j,al,aV (λx=>j x.2),cU]
 .rw[ed aq,al,aV (λx=>h x.1),cU]
def xK:qz.RS:=rE [.d tu] qz
def Ys:=qz.eQ aJ9
def aEL:Int->Prop:=λp=>mC p
def TT:Int->Int:=λp=>tk p
def BM:Fs prog aEL bt TT:=eP 242 f242 (λp=>([cK p],[])) (λx=>⟨cK x,[],[]⟩) [aw tu] [Ys]
def aKc(p)(k:K1 R):BM.A p k=ao (qz.call p) λj=>aA (j) (k (BM.out p)) (k (BM.out 1)):=bS
def aKd:BM.Ok:=by intro p j;rw[aKc,xK (d:=p) j];simp only[ah,bt,FB,bt,TT,tk];cases u9 p <;> rfl
def Rv:BM.RS:=rE [.d tu] BM
def aoA:=BM.eQ aKd
def aEK:(Int×Int)->Prop:=λ(p,k)=>mC p/\mC k
def au6:(Int×Int)->Int:=λ(p,k)=>zR p k
def Il:Fs prog aEK bt au6:=eP 235 f235 (λ(p,j)=>([cK p,cK j],[])) (λx=>⟨cK x,[],[]⟩) [aw tu,aw tu] [aoA,aoy]
def aKa(p j)(k:K1 R):Il.A (p,j) k=ao (BM.call p) λu=>ao (zL.call (u,(kJ j 2305843009213688669))) λA=>k (Il.out A):=bS
def aKb:Il.Ok:=by rintro⟨p,k⟩ ⟨u,j⟩;have j:mC k:=j;have e:=vK (y:=2305843009213688669) j.1;have b:mC (k%2305843009213688669):=⟨aq,aq⟩;rw[aKa,Rv (d:=p) u,e];simp only[ah,bt,TT];rw[ahS (d:=(tk p,k%2305843009213688669)) ⟨aqp p,b⟩];rfl
def ahT:Il.RS:=rE [.d tu,.d tu] Il
def aoz:=Il.eQ aKb
def aJ5:Int->Prop:=λk=>mC k
def aou:Int->Int:=λk=>fH k
def Ru:Fs prog aJ5 bt aou:=eP 215 f215 (λj=>([cK j],[])) (λx=>⟨cK x,[],[]⟩) [aw tu] [aoz]
def aSr(j)(k:K1 R):Ru.A j k=ao (Il.call (4,j)) λu=>k (Ru.out u):=bS
def aSs:Ru.Ok:=by intro k j;rw[aSr,ahT (d:=(4,k)) ⟨⟨aq,aq⟩,j⟩];rfl
def aov:Ru.RS:=rE [.d tu] Ru
def au5:=Ru.eQ aSs
def bg1(p q:Int):Ha [p,q]=lP (tk p) (tk q):=by
 show lP (lP 1 (tk p)) (tk q)=_;have:lP 1 (tk p)=tk p:=by have h:=aqp p;unfold lP;rw[Int.one_mul];exact fv h.1 h.2
 rw[this]
def aSq:(Int×Int)->Prop:=λ(p,q)=>mC p/\mC q
def azh:(Int×Int)->Int:=λ(p,q)=>Ha [p,q]
def ahR:Fs prog aSq bt azh:=eP 244 f244 (λ(p,q)=>([cK p,cK q],[])) (λx=>⟨cK x,[],[]⟩) [aw tu,aw tu] [aoA,aoD]
def aZ2(p q)(k:K1 R):ahR.A (p,q) k=ao (BM.call p) λj=>ao (BM.call q) λu=>ao (uw.call (j,u)) λA=>k (ahR.out A):=bS
def aZ3:ahR.Ok:=by rintro⟨p,q⟩ ⟨j,u⟩;rw[aZ2,Rv (d:=p) j,Rv (d:=q) u];simp only[ah,bt,TT];rw[Rw (d:=(tk p,tk q)) ⟨aqp p,(aqp q).u⟩];simp only[ah,bt,au7,bt,azh,bg1]
def au4:ahR.RS:=rE [.d tu,.d tu] ahR
def aZ4:=ahR.eQ aZ3
def aEG:Int->Prop:=λ_=>True
def au3:Int->Bool:=λa=>fj a 2305843009213688669
def Nk:Fs prog aEG bt au3:=eP 243 f243 (λa=>([cK a],[])) (λx=>⟨fA x,[],[]⟩) [aw tu]
def aJ2(a)(k:K1 R):Nk.A a k=k (Nk.out (fj a 2305843009213688669)):=bS
def aJ3:Nk.Ok:=by intro a _;rw[aJ2];rfl
def aEH:Nk.RS:=rE [.d tu] Nk
def aJ4:=Nk.eQ aJ3
def aso:(Bs×Int×Int)->Prop:=λ(h,n,i)=>awt.b n/\aa h=32/\Bytes h/\∃k:Nat,k<=32/\i=k
def Ik:(Bs×Int×Int)->Int:=λ(h,n,i)=>(h.drop i.toNat).foldl (λn b=>(n*256+b)%2305843009213688668) n
def aJ0:Bs->Prop:=λh=>aa h=32/\Bytes h
def aEF:Bs->Int:=λh=>Qc h
def uv:Ls aso bt Ik:=rI (λ(j,n,i)=>⟨([bB,.iU tH j,bB,cK n,aU i]++aP 25 []),[],(ag 30 [])⟩) (λx=>(.exit 0,⟨([bB,bB,bB,cK x]++aP 26 []),[],(ag 30 [])⟩))
def J1:Fs prog aJ0 bt aEF:=eP 247 f247 (λh=>([.d tH h],[])) (λx=>⟨.d tu x,[],[]⟩) [aw tH] [] {loops:=ko [(3,{aX:=[1,3,4]}),(6,{aX:=[1,3,4,5]})],outs:=km [(3,{aX:=[3]},{aX:=[2]}),(6,{aX:=[1,3,4]},{aX:=[2]})],eT:=jW [(3,uv.E)]} 12
def asp:uv.RS:=rL [.d tH,.d tu,.d ti] uv
def Rt(j n i)(u:K2 R)(A:K3 R):J1.R 0 uv (j,n,i) u A=aA (fj i 32) (aA (dB i 32) (aA (dB i 32) (aA (dB i 32) (aA (dB i 32) (aA (dB i 32) (aA (dB i 32) (aA (dB i 32) (aA (dB i 32) (u (uv.st (j,(kJ (bC .u64 (fO .u64 2 (kJ (bC .u64 (fO .u64 2 (kJ (bC .u64 (fO .u64 2 (kJ (bC .u64 (fO .u64 2 (kJ (bC .u64 (fO .u64 2 (kJ (bC .u64 (fO .u64 2 (kJ (bC .u64 (fO .u64 2 (kJ (bC .u64 (fO .u64 2 n) (cE .and .u64 (cI .u64 (eD .u64 (nth tb j (ae i))) 7) 1)) 2305843009213688668)) (cE .and .u64 (cI .u64 (eD .u64 (nth tb j (ae i))) 6) 1)) 2305843009213688668)) (cE .and .u64 (cI .u64 (eD .u64 (nth tb j (ae i))) 5) 1)) 2305843009213688668)) (cE .and .u64 (cI .u64 (eD .u64 (nth tb j (ae i))) 4) 1)) 2305843009213688668)) (cE .and .u64 (cI .u64 (eD .u64 (nth tb j (ae i))) 3) 1)) 2305843009213688668)) (cE .and .u64 (cI .u64 (eD .u64 (nth tb j (ae i))) 2) 1)) 2305843009213688668)) (cE .and .u64 (cI .u64 (eD .u64 (nth tb j (ae i))) 1) 1)) 2305843009213688668)) (cE .and .u64 (cI .u64 (eD .u64 (nth tb j (ae i))) 0) 1)) 2305843009213688668),(bC .i64 i 1)))) aC) aC) aC) aC) aC) aC) aC) aC) (uv.go A n):=bS
def aSn(h)(k:K1 R):J1.A h k=ao (uv.call (h,0,0)) λj=>k (J1.out (bC .u64 j 1)):=bS
def PJ{c:Int}(u:akj c)(k:Nat)(I:k<=7):cE .and .u64 (cI .u64 (eD .u64 c) (k:Int)) 1=c / 2^k%2:=by
 obtain⟨j,B⟩:=u;have e:eD .u64 c=c:=by rw[aII];omega
 have p:(0:Int) < 2^k:=Int.pow_pos aq;have A:0<=c / 2^k:=Int.ediv_nonneg j aq;have J:c / 2^k<=c:=Int.ediv_le_self _ j;rw[e,zS k (by rfl) aq,bla A aq]
def aVI:∀c:Fin 256,(c.val:Int) / 2^7%2*128+(c.val:Int) / 2^6%2*64+(c.val:Int) / 2^5%2*32+(c.val:Int) / 2^4%2*16+(c.val:Int) / 2^3%2*8+(c.val:Int) / 2^2%2*4+(c.val:Int) / 2^1%2*2+(c.val:Int) / 2^0%2=(c.val:Int):=by decide+kernel
def aVJ{c:Int}(j:akj c):c / 2^7%2*128+c / 2^6%2*64+c / 2^5%2*32+c / 2^4%2*16+c / 2^3%2*8+c / 2^2%2*4+c / 2^1%2*2+c / 2^0%2=c:=by obtain⟨n,rfl⟩:∃n:Nat,c=n:=⟨c.toNat,by have:=j.1;omega⟩;exact aVI ⟨n,by have:=j.2;omega⟩
def aPK{c:Int}(j:akj c):∃M L K J I B A u:Int,(0<=M/\M < 2)/\(0<=L/\L < 2)/\(0<=K/\K < 2)/\(0<=J/\J < 2)/\(0<=I/\I < 2)/\(0<=B/\B < 2)/\(0<=A/\A < 2)/\(0<=u/\u < 2)/\cE .and .u64 (cI .u64 (eD .u64 c) 7) 1=M/\cE .and .u64 (cI .u64 (eD .u64 c) 6) 1=L/\cE .and .u64 (cI .u64 (eD .u64 c) 5) 1=K/\cE .and .u64 (cI .u64 (eD .u64 c) 4) 1=J/\cE .and .u64 (cI .u64 (eD .u64 c) 3) 1=I/\cE .and .u64 (cI .u64 (eD .u64 c) 2) 1=B/\cE .and .u64 (cI .u64 (eD .u64 c) 1) 1=A/\cE .and .u64 (cI .u64 (eD .u64 c) 0) 1=u/\M*128+L*64+K*32+J*16+I*8+B*4+A*2+u=c:=by
 have z:∀x:Int,0<=x%2/\x%2 < 2:=λx=>aq
 exact⟨c / 2^7%2,c / 2^6%2,c / 2^5%2,c / 2^4%2,c / 2^3%2,c / 2^2%2,c / 2^1%2,c / 2^0%2,z _,z _,z _,z _,z _,z _,z _,z _,PJ j 7 aq,PJ j 6 aq,PJ j 5 aq,PJ j 4 aq,PJ j 3 aq,PJ j 2 aq,PJ j 1 aq,PJ j 0 aq,aVJ j⟩
def PK{n b:Int}(j:awt.b n)(B:0<=b/\b < 2):kJ (bC .u64 (fO .u64 2 n) b) 2305843009213688668=(2*n+b)%2305843009213688668/\awt.b ((2*n+b)%2305843009213688668):=by
 obtain⟨u,A⟩:=j;have e:bC .u64 (fO .u64 2 n) b=2*n+b:=by rw[Bn,tX];omega
 rw[e,vK aq];exact⟨rfl,aq,aq⟩
def aIb(n c L K J I B A u j:Int)(M:Int)(h:L*128+K*64+J*32+I*16+B*8+A*4+u*2+j=c):
  (2*((2*((2*((2*((2*((2*((2*((2*n+L)%M)+K)%M)+J)%M)+I)%M)+B)%M)+A)%M)+u)%M)+j)%M=(n*256+c)%M:=by
 have l:∀x b:Int,(2*(x%M)+b)%M=(2*x+b)%M:=λx b=>by rw[pN,jc,gN _ (pO M),<-jc,<-pN]
 simp only[l];have e:2*(2*(2*(2*(2*(2*(2*(2*n+L)+K)+J)+I)+B)+A)+u)+j=n*256+c:=aq;rw[e]
def azg:(J1.kA 0 uv):=by
 refine(J1.lS 0 uv) (λ(h,n,i)=>32 - i.toNat) ?_
 rintro⟨h,n,i⟩ ⟨B,A,j,k,hk,rfl⟩;have B:awt.b n:=B;have A:aa h=32:=A;have j:Bytes h:=j;by_cases gF:k < 32
 .left;have I:akj (h[k]'(aq)):=j _ (aD _);have n1:nth (.int .u8) h k=h[k]'(aq):=bG (t:= .int .u8) aq;refine⟨(h,(n*256+h[k]'(aq))%2305843009213688668,((k+1:Nat):Int)),⟨⟨aq,aq⟩,A,j,k+1,aq,rfl⟩,by simp only[ab];omega,?_,λkn kx=> ?_⟩
  .simp only[bt,Ik,ab];rw[ak (by omega:k < aa h)];rfl
  .rw[Rt];generalize hc:h[k]'(aq)=c at I n1;obtain⟨d7,d6,d5,d4,d3,d2,d1,d0,z7,z6,z5,z4,z3,z2,z1,z0,b7,b6,T,O,M,L,K,J,Ht⟩:=aPK I;obtain⟨f7,g7⟩:=PK B z7;obtain⟨f6,g6⟩:=PK g7 z6;obtain⟨f5,g5⟩:=PK g6 z5;obtain⟨f4,g4⟩:=PK g5 z4;obtain⟨f3,g3⟩:=PK g4 z3;obtain⟨f2,g2⟩:=PK g3 z2;obtain⟨f1,g1⟩:=PK g2 z1;obtain⟨f0,g0⟩:=PK g1 z0;have e8:=aIb n c _ _ _ _ _ _ _ _ 2305843009213688668 Ht;have hi:fj (k:Int) 32=bn:=aN aq;have u:dB (k:Int) 32=bn:=aS aq aq;have ha:bC .i64 (k:Int) 1=((k+1:Nat):Int):=by rw[eS aq aq];omega
   simp only[hi,u,ha,ai,ab,n1,b7,b6,T,O,M,L,K,J,f7,f6,f5,f4,f3,f2,f1,f0,e8]
 .right;obtain rfl:k=32:=aq;intro R kn kx;rw[Rt];simp(disch:=omega) only[↓S1,↓av,↓au,av,au,bQ,bq,S2,bt,Ik];rw[dJ aq];rfl
def aSo:J1.Ok:=by
 rintro h ⟨B,A⟩;have e:=alX h 0 ⟨aq,aq⟩;have j:=e.1;have u:=e.2;rw[aSn,asp (d:=(h,0,0)) ⟨⟨aq,aq⟩,B,A,0,aq,rfl⟩];simp only[ah,bt,Ik,bt,aEF,Qc,aW,aH]
 revert j u
 generalize h.foldl (λn b=>(n*256+b)%2305843009213688668) 0=m;intro j u;have e:bC .u64 m 1=m+1:=by rw[tX];omega
 rw[e]
def aJ1:J1.RS:=rE [.d tB] J1
def aSp:=J1.eQ aSo 2 ⟨.eg azg,⟨.none bS,trivial⟩⟩
def aEP:Int->Prop:=λn=>mC n
def au9:Int->Bs:=λn=>jI n
def Im:Fs prog aEP bt au9:=eP 248 f248 (λp=>([cK p],[])) (λx=>⟨fo x,[],[]⟩) [aw tu] [aFn] {res:=[aw tB]}
def aKj(p)(k:K1 R):Im.A p k=ao (V3.call p) λj=>aA (decide (0=0/\(0+j.1)<=(aa j.2))) (k (Im.out (cut j.2 0 j.1))) aC:=bS
def aKk:Im.Ok:=by intro n j;rw[aKj,avE (d:=n) j];simp only[ah,bt,aOs,cC,aO,ax,fY,bE,ai];rw[dM (cC _)];rfl
def ahU:Im.RS:=rE [.d tu] Im
def aKl:=Im.eQ aKk
def aEN:(Int×Int×Bs)->Prop:=λ(r,p,m)=>mC r/\mC p/\Sm m
def au8:(Int×Int×Bs)->Int:=λ(r,p,m)=>Aq r p m
def Nn:Fs prog aEN bt au8:=eP 245 f245 (λ(r,p,m)=>([cK r,cK p,fW m],[])) (λx=>⟨cK x,[],[]⟩) [aw tu,aw tu,aw tH] [aKl,azJ,aSp]
def aKg(r p m)(k:K1 R):Nn.A (r,p,m) k=ao (Im.call r) λj=>ao (Im.call p) λu=>ao (ajA.call ((⟨#[115,105,103]⟩:ByteArray),[j,u,(cut m 0 32)])) λA=>ao (J1.call A) λB=>k (Nn.out B):=bS
def aKh:Nn.Ok:=by rintro⟨r,p,m⟩ ⟨B,A,j⟩;have j:Sm m:=j;have u:aFC ((⟨#[115,105,103]⟩:ByteArray),[jI r,jI p,m]):=aGd fm (by rw[cC];omega) (by rw[cC];omega) (by rw[j.1];omega);rw[aKg,ahU (d:=r) B,ahU (d:=p) A];simp only[ah,bt,au9];rw[dM j.1,apL u];simp only[ah,bt,bbh];rw[aJ1 (d:=tag (bX (⟨#[115,105,103]⟩:ByteArray)) [jI r,jI p,m]) (ap1 _ _)];rfl
def aEO:Nn.RS:=rE [.d tu,.d tu,.d tB] Nn
def aKi:=Nn.eQ aKh
def axX(p:Int)(m:List Int)(t:Int)(s:Sg):Bool:=if u9 p=aZ\/u9 t=aZ\/u9 s.1=aZ\/¬s.2.1 < 2305843009213688669\/p=1 then aZ else decide (Ha [fH s.2.1,t]=Ha [s.1,zR p (Aq s.1 p m)])
def axY(p:Int)(m:List Int)(s:Sg):axX p m 1 s=sm p m 1 s:=by
 unfold axX sm;by_cases h:p=1\/u9 p=aZ\/u9 1=aZ\/u9 s.1=aZ\/¬s.2.1 < 2305843009213688669
 .rw[av h,av (by rcases h with h | h | h | h | h <;> simp[h])]
 .rw[au h,au (by
   intro h';apply h;rcases h' with h' | h' | h' | h' | h' <;> simp[h'])]
  have e:=aPW s.1 (zR p (Aq s.1 p m)) s.2.1;by_cases j:fH s.2.1=Ha [s.1,zR p (Aq s.1 p m),anr 1]
  .rw[fM j,fM (e▸j)]
  .rw[kC j,kC (e▸j)]
abbrev ava:=Int×Bs×Int×Sg
def aEQ:ava->Prop:=λ(p,m,t,s)=>mC p/\Sm m/\mC t/\bcZ s
def aeS:ava->Bool:=λ(p,m,t,s)=>axX p m t s
def wo:Fs prog aEQ bt aeS:=eP 236 f236 (λ(p,m,t,j)=>([cK p,fW m,cK t,.d yk j],[])) (λx=>⟨fA x,[],[]⟩) [aw tu,aw tH,aw tu,aw yk] [Ys,aJ4,au5,aZ4,aKi,aoz]
def aKm(p m t j)(k:K1 R):wo.A (p,m,t,j) k=ao (qz.call p) λu=>ao (qz.call t) λA=>ao (qz.call j.1) λB=>ao (Nk.call j.2.1) λI=>aA (!u) (k (wo.out aZ)) (aA (!A) (k (wo.out aZ)) (aA (!B) (k (wo.out aZ)) (aA (!I) (k (wo.out aZ)) (aA (oC p 1) (k (wo.out aZ)) (ao (Ru.call j.2.1) λJ=>ao (ahR.call (J,t)) λK=>ao (Nn.call (j.1,p,m)) λL=>ao (Il.call (p,L)) λM=>ao (ahR.call (j.1,M)) λO=>k (wo.out (oC K O))))))):=bS
def aKn:wo.Ok:=by
 rintro⟨p,m,t,s⟩ ⟨A,J,I,j⟩;have A:mC p:=A;have I:mC t:=I;have J:Sm m:=J;have j:bcZ s:=j;rw[aKm,xK (d:=p) A,xK (d:=t) I,xK (d:=s.1) j.1,aEH (d:=s.2.1) trivial];simp only[ah,bt,FB,bt,au3,bt,aeS,axX];cases L:u9 p
 .rw[av (ju rfl)];rfl
 cases M:u9 t
 .rw[av (eF (ju rfl))];rfl
 cases O:u9 s.1
 .rw[av (eF (eF (ju rfl)))];rfl
 by_cases u:s.2.1 < 2305843009213688669
 .by_cases B:p=1
  .rw[aN u,dC B,av (eF (eF (eF (eF B))))];rfl
  rw[aN u,eZ B,au (by simp[B,u])];have K:=ZE s.1 p m;rw[aov (d:=s.2.1) j.2,aEO (d:=(s.1,p,m)) ⟨j.1,A,J⟩];simp only[bW,al,ah,bt,au8,bt,aou];rw[au4 (d:=(fH s.2.1,t)) ⟨(anQ _ _).u,I⟩,ahT (d:=(p,Aq s.1 p m)) ⟨A,K.u⟩];simp only[ah,bt,au6,bt,azh];rw[au4 (d:=(s.1,zR p (Aq s.1 p m))) ⟨j.1,(anQ _ _).u⟩];rfl
 .rw[aL u,av (eF (eF (eF (ju u))))];rfl
def aER:wo.RS:=rE [.d tu,.d tB,.d tu,.d yk] wo
def aKo:=wo.eQ aKn
def azi:(Int×Bs×Sg)->Prop:=λ(p,m,s)=>mC p/\Sm m/\bcZ s
def aoE:(Int×Bs×Sg)->Bool:=λ(p,m,s)=>sm p m 1 s
def GQ:Fs prog azi bt aoE:=eP 216 f216 (λ(p,m,j)=>([cK p,fW m,.d yk j],[])) (λx=>⟨fA x,[],[]⟩) [aw tu,aw tH,aw yk] [aKo]
def aES(p m j)(k:K1 R):GQ.A (p,m,j) k=ao (wo.call (p,m,1,j)) λu=>k (GQ.out u):=bS
def aET:GQ.Ok:=by rintro⟨p,m,s⟩ ⟨u,j,A⟩;rw[aES,aER (d:=(p,m,1,s)) ⟨u,j,⟨aq,aq⟩,A⟩];simp only[ah,bt,aeS,axY];rfl
def azj:GQ.RS:=rE [.d tu,.d tB,.d yk] GQ
def aEU:=GQ.eQ aET
abbrev s8:=kF×Int
def kD:s8->AS:=λ(j,i)=>⟨([bB,.iU iq j,bB,aU i]++aP 50 []),[],(ag 54 [])⟩
def lQ:Unit->Exit×AS:=λx=>(.ret,⟨([bB,bB,me]++aP 51 []),[],(ag 54 [])⟩)
def uq:kF->Exit×AS:=λx=>(.exit 0,⟨([bB,.iU iq x]++aP 52 []),[],(ag 54 [])⟩)
abbrev GF:=(Unit)⊕(kF)
abbrev QX:=(Unit)⊕(Unit)
def AO:GF->Out (Exit×AS):=λx=> .br x.isLeft (.get x.getLeft? λa=> .ok (lQ a)) (.get x.getRight? λb=> .ok (uq b))
def iT:s8->QX->GF:=λ(j,i) y=>match y with | .inl y=> .inl y | .inr z=> .inr (j)
def uo:s8->Prop:=λ(b,i)=>aUS b/\aa b.1<=1000000000/\∃k:Nat,k<=aa b.1/\i=k
def ka:s8->QX:=λ(b,i)=>if(b.1.drop i.toNat).all u9 then .inr () else .inl ()
def ar2:kF->Prop:=λb=>aUS b
def QV:kF->Bool:=λb=>Al b
def QW:=cQ.eg kD uo iT ka AO
def Ie:s8->Option GF:=eN QW kD
def iF:Fs prog ar2 bt QV:=eP 120 f120 (λb=>([.d iq b],[])) (λx=>⟨.d .bool x,[],[]⟩) [aw iq] [Ys] {loops:=ko [(4,{aX:=[1,3]})],outs:=km [(4,{aX:=[1]},{aX:=[2]})],eT:=jW [(4,QW)]}
def GD:= @dm prog (gU iF.G) iF.an 0 f120 0 _ kD
abbrev OA:=gr prog (gU iF.G) iF.an 0 f120 0 kD uo iT ka AO
def aeK:fC Ie uo iT ka:=ia (fy [.d iq,.d ti] λ_=>bS)
def Ps:iX @GD kD uo iT ka AO OA:=ji
def Ig(j i)(A:K2 R)(u:K3 R):GD (j,i) A u=aA (fj i (((aa j.1):Nat):Int)) (aA (dB i (((aa j.1):Nat):Int)) (ao (qz.call (nth tu j.1 (ae i))) λB=>aA (!B) (u (lQ ()).1 (lQ ()).2) (A (kD (j,(bC .i64 i (1:Int)))))) aC) (u (uq j).1 (uq j).2):=bS
def ayR(b)(k:K1 R):iF.A b k=aA (qi (aa b.1:Int) 12) (k (iF.out aZ)) (aA (fj b.2.1 0) (k (iF.out aZ)) (aA (qi b.2.1 1048576) (k (iF.out aZ)) (aA (fj b.2.2.1 0) (k (iF.out aZ)) (aA (qi b.2.2.1 1048576) (k (iF.out aZ)) (ao (Ie (b,0)) λj=>aA j.isLeft (ao j.getLeft? λB=>k (iF.out aZ)) (ao j.getRight? λu=>ao (qz.call u.2.2.2.1) λA=>aA (oC u.2.2.2.1 0) (k (iF.out bn)) (k (iF.out A)))))))):=bS
def aja:OA:=by
 refine Ps (λ(b,i)=>aa b.1 - i.toNat) ?_
 rintro⟨b,i⟩ ⟨I,B,k,K,rfl⟩;have B:aa b.1<=1000000000:=B;have K:k<=aa b.1:=K;by_cases h:k < aa b.1
 .have L:=I.1 _ (aD h);have n1:nth (.int .u64) b.1 k=b.1[k]:=bG (t:= .int .u64) h;have J:(b.1.drop k).all u9=(u9 b.1[k] && (b.1.drop (k+1)).all u9):=by rw[ak h,gX]
  have step:∀ {R:Type} (j:AS->Option R) (u:Exit->AS->Option R),GD (b,(k:Int)) j u=aA (u9 b.1[k]) (j (kD (b,((k+1:Nat):Int)))) (u (lQ ()).1 (lQ ()).2):=by intro R j u;rw[Ig,aN aq,aS aq aq,ab,n1,N.iY aq,xK (d:=b.1[k]) L];simp only[ai,ah,bt,FB];cases u9 b.1[k] <;> rfl
  cases A:u9 b.1[k]
  .right;refine⟨lQ (),?_,λj u=> ?_⟩
   .simp only[iT,ka,ab,J,A,cU,bu,bq];rfl
   .rw[step,A,al]
  .left;refine⟨(b,((k+1:Nat):Int)),⟨I,B,k+1,aq,rfl⟩,by simp only[ab];omega,?_,λj u=> ?_⟩
   .simp only[iT,ka,ab,J,A,bH]
   .rw[step,A,ai]
 .right;obtain rfl:k=aa b.1:=aq;refine⟨uq b,?_,λj u=> ?_⟩
  .simp only[iT,ka,ab,ay];rfl
  .rw[Ig];simp(disch:=omega) only[↓S1,↓av,↓au,av,au,bQ,bq,S2]
def ayS:iF.Ok:=by
 rintro⟨B,j,A,I,u⟩ M;have M:aUS (B,j,A,I,u):=M;have h2:mC I:=M.2;rw[ayR];simp only[bt,QV,Al,XE];by_cases hk:aa B<=12
 .rw[ct aq,aK hk,aeK (d:=((B,j,A,I,u),0)) ⟨M,by show aa B<=1000000000;omega,0,aq,rfl⟩];simp only[al,bH,ah,iT,ka,aW,aH];by_cases J:j < 0
  .rw[aN J,aV (p:=0<=j/\j<=1048576) aq];cases B.all u9 <;> rfl
  by_cases L:j > 1048576
  .rw[aL J,cW L,aV (p:=0<=j/\j<=1048576) aq];cases B.all u9 <;> rfl
  by_cases T:A < 0
  .rw[aL J,ct L,aN T,aV (p:=0<=A/\A<=1048576) aq];cases B.all u9 <;> cases(decide (0<=j/\j<=1048576)) <;> rfl
  by_cases a4:A > 1048576
  .rw[aL J,ct L,aL T,cW a4,aV (p:=0<=A/\A<=1048576) aq];cases B.all u9 <;> cases(decide (0<=j/\j<=1048576)) <;> rfl
  rw[aL J,ct L,aL T,ct a4,aK (p:=0<=A/\A<=1048576) aq,aK (p:=0<=j/\j<=1048576) aq];cases K:B.all u9
  .simp only[K,bu,bq];rfl
  .simp only[K,bQ];show ao (qz.call I) _=_;rw[xK (d:=I) h2];simp only[ah,bt,FB];by_cases O:I=0
   .rw[aK O];show aA (oC I 0) _ _=_;rw[dC O];rfl
   .rw[aV O];show aA (oC I 0) _ _=_;rw[eZ O];rfl
 .rw[cW aq,aV hk];rfl
def ar3:iF.RS:=rE [.d iq] iF
def ayT:=iF.eQ ayS 1 ⟨.eg aja,trivial⟩
abbrev vo:=Lk×Int
def mf:vo->AS:=λ(j,i)=>⟨([bB,Oz j,bB,aU i]++aP 24 []),[],(ag 28 [])⟩
def mK:Unit->Exit×AS:=λx=>(.ret,⟨([bB,bB,me]++aP 25 []),[],(ag 28 [])⟩)
def vV:Unit->Exit×AS:=λx=>(.exit 0,⟨(aP 28 []),[],(ag 28 [])⟩)
abbrev JH:=(Unit)⊕(Unit)
abbrev Vv:=(Unit)⊕(Unit)
def C9:JH->Out (Exit×AS):=λx=> .br x.isLeft (.get x.getLeft? λa=> .ok (mK a)) (.get x.getRight? λb=> .ok (vV b))
def jn:vo->Vv->JH:=λ(j,i) y=>match y with | .inl y=> .inl y | .inr z=> .inr (z)
def vU:vo->Prop:=λ(l,i)=>akk l/\aa l.1<=1000000000/\∃k:Nat,k<=aa l.1/\i=k
def ln:vo->Vv:=λ(l,i)=>if(l.1.drop i.toNat).all Al then .inr () else .inl ()
def ayW:Lk->Prop:=λl=>akk l
def w9:Lk->Bool:=λl=>lN l
def Vu:=cQ.eg mf vU jn ln C9
def La:vo->Option JH:=eN Vu mf
def ke:Fs prog ayW bt w9:=eP 80 f80 (λl=>([.d O2 l],[])) (λx=>⟨.d .bool x,[],[]⟩) [aw O2] [ayT] {loops:=ko [(4,{aX:=[1,3]})],outs:=km [(4,{},{aX:=[2]})],eT:=jW [(4,Vu)]}
def JG:= @dm prog (gU ke.G) ke.an 0 f80 0 _ mf
abbrev QY:=gr prog (gU ke.G) ke.an 0 f80 0 mf vU jn ln C9
def ajf:fC La vU jn ln:=ia (fy [.d O2,.d ti] λ_=>bS)
def QZ:iX @JG mf vU jn ln C9 QY:=ji
def Lb(j i)(A:K2 R)(u:K3 R):JG (j,i) A u=aA (fj i (((aa j.1):Nat):Int)) (aA (dB i (((aa j.1):Nat):Int)) (ao (iF.call (nth iq j.1 (ae i))) λB=>aA (!B) (u (mK ()).1 (mK ()).2) (A (mf (j,(bC .i64 i (1:Int)))))) aC) (u (vV ()).1 (vV ()).2):=bS
def aEj(l)(k:K1 R):ke.A l k=aA (fj (aa l.1:Int) 1) (k (ke.out aZ)) (aA (qi (aa l.1:Int) 4) (k (ke.out aZ)) (ao (La (l,0)) λj=>aA j.isLeft (ao j.getLeft? λu=>k (ke.out aZ)) (ao j.getRight? λA=>k (ke.out bn)))):=bS
def anZ:QY:=by
 refine QZ (λ(l,i)=>aa l.1 - i.toNat) ?_
 rintro⟨l,i⟩ ⟨I,B,k,K,rfl⟩;have B:aa l.1<=1000000000:=B;have K:k<=aa l.1:=K;by_cases h:k < aa l.1
 .have L:=I _ (aD h);have n1:nth (.pair (.slice (.int .u64)) (.pair (.int .i64) (.pair (.int .i64) (.pair (.int .u64) .unit)))) l.1 k=l.1[k]:=bG (t:=(.pair (.slice (.int .u64)) (.pair (.int .i64) (.pair (.int .i64) (.pair (.int .u64) .unit))))) h;have J:(l.1.drop k).all Al=(Al l.1[k] && (l.1.drop (k+1)).all Al):=by rw[ak h,gX]
  have step:∀ {R:Type} (j:AS->Option R) (u:Exit->AS->Option R),JG (l,(k:Int)) j u=aA (Al l.1[k]) (j (mf (l,((k+1:Nat):Int)))) (u (mK ()).1 (mK ()).2):=by intro R j u;rw[Lb,aN aq,aS aq aq,ab,n1,N.iY aq,ar3 (d:=l.1[k]) L];simp only[ai,ah,bt,QV];cases Al l.1[k] <;> rfl
  cases A:Al l.1[k]
  .right;refine⟨mK (),?_,λj u=> ?_⟩
   .simp only[jn,ln,ab,J,A,cU,bu,bq];rfl
   .rw[step,A,al]
  .left;refine⟨(l,((k+1:Nat):Int)),⟨I,B,k+1,aq,rfl⟩,by simp only[ab];omega,?_,λj u=> ?_⟩
   .simp only[jn,ln,ab,J,A,bH]
   .rw[step,A,ai]
 .right;obtain rfl:k=aa l.1:=aq;refine⟨vV (),?_,λj u=> ?_⟩
  .simp only[jn,ln,ab,ay];rfl
  .rw[Lb];simp(disch:=omega) only[↓S1,↓av,↓au,av,au,bQ,bq,S2]
def aEk:ke.Ok:=by
 intro l j;have j:akk l:=j;rw[aEj];simp only[bt,w9,lN];by_cases u:aa l.1 < 1
 .rw[aN aq,aV (p:=0 < aa l.1/\aa l.1<=4) aq,Bool.and_false];rfl
 by_cases A:aa l.1 > 4
 .rw[aL aq,cW aq,aV (p:=0 < aa l.1/\aa l.1<=4) aq,Bool.and_false];rfl
 rw[aL aq,ct aq,aK (p:=0 < aa l.1/\aa l.1<=4) aq,Bool.and_true,ajf (d:=(l,0)) ⟨j,by show aa l.1<=1000000000;omega,0,aq,rfl⟩];simp only[al,ah,jn,ln,aW,aH];cases l.1.all Al <;> rfl
def zm:ke.RS:=rE [.d O2] ke
def Ih:=ke.eQ aEk 1 ⟨.eg anZ,trivial⟩
abbrev zj:=Ua×Bs×Int×kF
def od:zj->AS:=λ(A,j,i,u)=>⟨(aP 6 ([.iU adr A,.iU tH j,bB,bB,bB,eI 11,aU i]++aP 72 [])),[],(bz 11 ([dp (.d iq u)]++bz 73 []))⟩
def oR:Unit->Exit×AS:=λx=>(.ret,⟨(aP 10 ([aa9 7]++aP 74 [])),[],(ag 85 [])⟩)
def zl:Unit->Exit×AS:=λx=>(.exit 0,⟨(aP 85 []),[],(ag 85 [])⟩)
abbrev M5:=(Unit)⊕(Unit)
abbrev abd:=(Unit)⊕(Unit)
def GG:M5->Out (Exit×AS):=λx=> .br x.isLeft (.get x.getLeft? λa=> .ok (oR a)) (.get x.getRight? λb=> .ok (zl b))
def kc:zj->abd->M5:=λ(A,j,i,u) y=>match y with | .inl y=> .inl y | .inr z=> .inr (z)
abbrev auZ:=Lk×Ua×Bs×Int×Int
def zk:zj->Prop:=λ(w,m,i,b)=>Ze w/\Sm m/\Hy b.1/\aa b.1<=1000000000/\aa w.2.1=aa b.1/\∃k:Nat,k<=aa b.1/\i=k
def nG:zj->abd:=λ(w,m,i,b)=>if xm m (b.1.drop i.toNat) (w.2.1.drop i.toNat) then .inr () else .inl ()
def aEh:auZ->Prop:=λ(l,w,m,h,a)=>akk l/\Ze w/\Sm m
def aeL:auZ->Int:=λ(l,w,m,h,a)=>sR l w m h a
def abc:=cQ.eg od zk kc nG GG
def vT:zj->Option M5:=eN abc od
def iC:Fs prog aEh bt aeL:=eP 179 f179 (λ(l,A,m,j,u)=>([.d O2 l,.d adr A,.d tH m,.d ti j,.d ti u],[])) (λx=>⟨.d ti x,[],[]⟩) [aw O2,aw adr,aw tH,aw ti,aw ti] [Ih,au5,aEU] {loops:=ko [(11,{aX:=[6,7,11,12],sites:=[11]})],outs:=km [(11,{},{aX:=[10]})],eT:=jW [(11,abc)]}
def M4:= @dm prog (gU iC.G) iC.an 0 f179 0 _ od
abbrev Vt:=gr prog (gU iC.G) iC.an 0 f179 0 od zk kc nG GG
def anY:fC vT zk kc nG:=ia (fy [.d adr,.d tH,.d ti,.d iq] λ_=>bS)
def Uj:iX @M4 od zk kc nG GG Vt:=ji
def OB(A u i j)(I:K2 R)(B:K3 R):M4 (A,u,i,j) I B=aA (fj i (((aa j.1):Nat):Int)) (aA (dB i (((aa j.1):Nat):Int)) (aA (dB i (((aa A.2.1):Nat):Int)) (ao (GQ.call ((nth tu j.1 (ae i)),u,(nth yk A.2.1 (ae i)))) λJ=>aA (!J) (B (oR ()).1 (oR ()).2) (I (od (A,u,(bC .i64 i (1:Int)),j)))) aC) aC) (B (zl ()).1 (zl ()).2):=bS
def aJF(l j m u A)(k:K1 R):iC.A (l,j,m,u,A) k=ao (ke.call l) λJ=>aA (!J) (k (iC.out 1)) (aA (fj j.1 0) (k (iC.out 1)) (aA (DA j.1 (aa l.1:Int)) (k (iC.out 1)) (aA (dB j.1 (aa l.1:Int)) (aA (fj u (nth iq l.1 (ae j.1)).2.1) (k (iC.out 11)) (aA (fj A (nth iq l.1 (ae j.1)).2.2.1) (k (iC.out 11)) (aA (pb (nth iq l.1 (ae j.1)).2.2.2.1 0) (ao (Ru.call j.2.2.1) λK=>aA (pb K (nth iq l.1 (ae j.1)).2.2.2.1) (k (iC.out 23)) (aA (pb (aa j.2.1:Int) (((aa (nth iq l.1 (ae j.1)).1):Nat):Int)) (k (iC.out 7)) (ao (vT (j,m,0,(nth iq l.1 (ae j.1)))) λB=>aA B.isLeft (ao B.getLeft? λL=>k (iC.out 7)) (ao B.getRight? λO=>k (iC.out 0))))) (aA (pb (aa j.2.1:Int) (((aa (nth iq l.1 (ae j.1)).1):Nat):Int)) (k (iC.out 7)) (ao (vT (j,m,0,(nth iq l.1 (ae j.1)))) λI=>aA I.isLeft (ao I.getLeft? λM=>k (iC.out 7)) (ao I.getRight? λT=>k (iC.out 0))))))) aC))):=bS
def ar4:Vt:=by
 refine Uj (λ(w,m,i,b)=>aa b.1 - i.toNat) ?_
 rintro⟨w,m,i,b⟩ ⟨O,M,L,I,B,k,K,rfl⟩;have I:aa b.1<=1000000000:=I;have K:k<=aa b.1:=K;have B:aa w.2.1=aa b.1:=B;by_cases h:k < aa b.1
 .have T:=L _ (aD h);have hy:=O.1 _ (aD (by omega:k < aa w.2.1));have n1:nth (.int .u64) b.1 k=b.1[k]:=bG (t:= .int .u64) h;have n2:nth (.pair (.int .u64) (.pair (.int .u64) .unit)) w.2.1 k=w.2.1[k]'(aq):=bG (t:=(.pair (.int .u64) (.pair (.int .u64) .unit))) aq;have J:=awk m b.1 w.2.1 B k h;have step:∀ {R:Type} (j:AS->Option R) (u:Exit->AS->Option R),M4 (w,m,(k:Int),b) j u=aA (sm b.1[k] m 1 (w.2.1[k]'(aq))) (j (od (w,m,((k+1:Nat):Int),b))) (u (oR ()).1 (oR ()).2):=by intro R j u;rw[OB,aN aq,aS aq aq,aS aq aq,ab,n1,n2,N.iY aq,azj (d:=(b.1[k],m,w.2.1[k]'(aq))) ⟨T,M,hy⟩];simp only[ai,ah,bt,aoE];cases sm b.1[k] m 1 (w.2.1[k]'(aq)) <;> rfl
  cases A:sm b.1[k] m 1 (w.2.1[k]'(aq))
  .right;refine⟨oR (),?_,λj u=> ?_⟩
   .simp only[kc,nG,ab,J,A,cU,bu,bq];rfl
   .rw[step,A,al]
  .left;refine⟨(w,m,((k+1:Nat):Int),b),⟨O,M,L,I,B,k+1,aq,rfl⟩,by simp only[ab];omega,?_,λj u=> ?_⟩
   .simp only[kc,nG,ab,J,A,bH]
   .rw[step,A,ai]
 .right;obtain rfl:k=aa b.1:=aq;refine⟨zl (),?_,λj u=> ?_⟩
  .simp only[kc,nG,ab,ay];rfl
  .rw[OB];simp(disch:=omega) only[↓S1,↓av,↓au,av,au,bQ,bq,S2]
def aJG:iC.Ok:=by
  rintro⟨l,w,m,h,a⟩ ⟨O,T,hm⟩;have O:akk l:=O;have T:Ze w:=T;have hm:Sm m:=hm;rw[aJF,zm (d:=l) O];simp only[ah,bt,w9,bt,aeL,sR];cases iN:lN l
  · rw[av (ju rfl)];rfl
  by_cases J:w.1 < 0
  · rw[aN J,av (eF (ju J))];rfl
  by_cases h1:w.1>=aa l.1
  · rw[aL J,fE h1,av (eF (eF h1))];rfl
  rw[aL J,ed h1,aS aq aq,au (by simp[J];omega)];have hn:w.1.toNat < aa l.1:=aq;have n1:nth (.pair (.slice (.int .u64)) (.pair (.int .i64) (.pair (.int .i64) (.pair (.int .u64) .unit)))) l.1 w.1.toNat=l.1[w.1.toNat]:=bG (t:=(.pair (.slice (.int .u64)) (.pair (.int .i64) (.pair (.int .i64) (.pair (.int .u64) .unit))))) hn;rw[n1];have hx:aUS l.1[w.1.toNat]:=O _ (aD hn);have B:=aun iN (aD hn);obtain⟨⟨j,af,dl,sc,u⟩,aQP⟩:∃b,l.1[w.1.toNat]=b:=⟨_,rfl⟩;rw[aQP]at hx B ⊢;have aQR:Hy j:=hx.1;have B:aa j<=12:=B;simp only[bW,al,ai];by_cases I:h < af
  · rw[aN I,av (ju I)];rfl
  by_cases K:a < dl
  · rw[aL I,aN K,av (eF K)];rfl
  rw[aL I,aL K,au (by simp[I,K]),aov (d:=w.2.2.1) T.2];simp only[al,ah,bt,aou]
  have A:aA (pb ((aa w.2.1:Nat):Int) ((aa j:Nat):Int)) (aw (iC.out (7:Int))) (
          ao (vT (w,m,(0:Int),(j,af,dl,sc,u))) λx4=>
          aA (x4.isLeft) (ao (x4.getLeft?) λa5=>aw (iC.out (7:Int))) (ao (x4.getRight?) λb6=>aw (iC.out (0:Int))))=aw (iC.out (if aa w.2.1≠aa j then 7 else if xm m j w.2.1 then 0 else 7)):=by
    by_cases e3:aa w.2.1=aa j
    · rw[bU aq,au (by simp[e3]),al,anY (d:=(w,m,0,(j,af,dl,sc,u))) ⟨T,hm,aQR,by show aa j<=1000000000;omega,e3,0,aq,rfl⟩]
      simp only[ah,kc,nG,aW,aH];cases xm m j w.2.1 <;> rfl
    · rw[dj aq,av e3];rfl
  by_cases L:sc=0
  · rw[bU L,au (by simp[L]),al]
    exact A
  · rw[dj L,ai]
    by_cases M:fH w.2.2.1=sc
    · rw[bU M,au (by simp[M]),al]
      exact A
    · rw[dj M,av ⟨L,M⟩];rfl
def aEi:iC.RS:=rE [.d O2,.d adr,.d tB,.d ti,.d ti] iC
def aJH:=iC.eQ aJG 1 ⟨.eg ar4,trivial⟩
abbrev JF:=Lk×Bs×Int×Int×kF
def vS:JF->Bs->((Lk×Int×kF)×(Bs)):=λ(j,A,u,B,n5) y=>((j,u,n5),y)
def ajd:JF->Prop:=λ(l,o,i,j,b)=>aa b.1<=12/\∃k:Nat,k<=aa b.1/\j=k/\aa o+8*aa b.1<=80000000+8*k
def By:JF->Bs:=λ(l,o,i,j,b)=>oP o (b.1.drop j.toNat)
def ajb:(Lk×Bs×Int)->Prop:=λ(l,o,i)=>(∀b∈l.1,bk4 b)/\aa l.1<=4/\∃k:Nat,k<=aa l.1/\i=k/\aa o<=1000+200*k
def JE:(Lk×Bs×Int)->Bs:=λ(l,o,i)=>(l.1.drop i.toNat).foldl aUT o
def ayU:Lk->Prop:=λl=>akk l
def Yl:Lk->Bs:=λl=>XN l
def nE:Ls ajb bt JE:=rI (λ(u,j,i)=>⟨([bB,Oz u,bB,fo j,aU i]++aP 53 []),[],(ag 58 [])⟩) (λx=>(.exit 0,⟨([bB,bB,bB,fo x]++aP 54 []),[],(ag 58 [])⟩))
def nF:Ls ajd vS By:=rI (λ(u,j,A,B,n5)=>⟨([bB,Oz u,bB,fo j,aU A,eI 5,aU B]++aP 51 []),[],(bz 5 ([dp (.d iq n5)]++bz 52 []))⟩) (λx=>(.exit 2,⟨([bB,Oz x.1.1,bB,fo x.2,aU x.1.2.1,eI 5]++aP 52 []),[],(bz 5 ([dp (.d iq x.1.2.2)]++bz 52 []))⟩))
def nD:Fs prog ayU bt Yl:=eP 137 f137 (λl=>([.d O2 l],[])) (λx=>⟨.d tB x,[],[]⟩) [aw O2] [Ih,aoF,aSF] {loops:=ko [(5,{aX:=[1,3,4]}),(10,{aX:=[1,3,4,5,6],sites:=[5]})],outs:=km [(5,{aX:=[3]},{aX:=[2]}),(10,{aX:=[1,3,4,5],sites:=[5]},{aX:=[2]})],eT:=jW [(5,nE.E),(10,nF.E)],res:=[aw tB]}
def ajc:nE.RS:=rL [.d O2,.d tB,.d ti] nE
def K8(u j i)(B:K2 R)(I:K3 R):nD.R 0 nE (u,j,i) B I=aA (fj i (aa u.1:Int)) (aA (dB i (aa u.1:Int)) (ao (vB.call (j,(((aa (nth iq u.1 (ae i)).1):Nat):Int))) λJ=>ao (nF.call (u,J,i,0,(nth iq u.1 (ae i)))) λA=>ao (vB.call (A.2,A.1.2.2.2.1)) λK=>ao (vB.call (K,A.1.2.2.2.2.1)) λL=>ao (GR.call (L,A.1.2.2.2.2.2.1)) λM=>B (nE.st (A.1.1,M,(bC .i64 A.1.2.1 1)))) aC) (nE.go I j):=bS
def aje:nF.RS:=rL [.d O2,.d tB,.d ti,.d ti,.d iq] nF
def K9(A u B j n5)(I:K2 R)(J:K3 R):nD.R 1 nF (A,u,B,j,n5) I J=aA (fj j (aa n5.1:Int)) (aA (dB j (aa n5.1:Int)) (ao (GR.call (u,(nth tu n5.1 (ae j)))) λK=>I (nF.st (A,K,B,(bC .i64 j 1),n5))) aC) (nF.go J ((A,B,n5),u)):=bS
def aEe(l)(k:K1 R):nD.A l k=ao (ke.call l) λj=>aA (!j) (k (nD.out ([]:List Int))) (ao (vB.call (([]:List Int),(aa l.1:Int))) λu=>ao (nE.call (l,u,0)) λA=>k (nD.out A)):=bS
def anX:(nD.kA 1 nF):=by
 refine(nD.lS 1 nF) (λ(l,o,i,j,b)=>aa b.1 - j.toNat) ?_
 rintro⟨l,o,i,j,b⟩ ⟨u,k,A,rfl,B⟩;have u:aa b.1<=12:=u;have A:k<=aa b.1:=A;have B:aa o+8*aa b.1<=80000000+8*k:=B;by_cases h:k < aa b.1
 .left;have n1:nth (.int .u64) b.1 k=b.1[k]:=bG (t:= .int .u64) h;refine⟨(l,o++jI b.1[k],i,((k+1:Nat):Int),b),⟨u,k+1,aq,rfl,by rw[aj,cC];omega⟩,by simp only[ab];omega,?_,λI J=> ?_⟩
  .simp only[vS,By,ab];rw[aml _ _ _ h]
  .rw[K9,aN aq,aS aq aq,ab,n1,aoI (d:=(o,b.1[k])) (by show aa o<=90000000;omega)];simp only[ai,ah,bt,aoH];rw[N.iY aq]
 .right;obtain rfl:k=aa b.1:=aq;intro R I J;rw[K9,aL aq,al];simp only[vS,By,ab,ay];rfl
def anW:(nD.kA 0 nE):=by
 refine(nD.lS 0 nE) (λ(l,o,i)=>aa l.1 - i.toNat) ?_
 rintro⟨l,o,i⟩ ⟨T,K,k,hk,rfl,hl⟩;have K:aa l.1<=4:=K;have hk:k<=aa l.1:=hk;have hl:aa o<=1000+200*k:=hl;by_cases h:k < aa l.1
 .left;have O:=T _ (aD h);have n1:nth (.pair (.slice (.int .u64)) (.pair (.int .i64) (.pair (.int .i64) (.pair (.int .u64) .unit)))) l.1 k=l.1[k]:=bG (t:=(.pair (.slice (.int .u64)) (.pair (.int .i64) (.pair (.int .i64) (.pair (.int .u64) .unit))))) h;have e0:=awN o l.1[k] O.1;refine⟨(l,aUT o l.1[k],((k+1:Nat):Int)),⟨T,K,k+1,aq,rfl,aq⟩,by simp only[ab];omega,?_,λkn kx=> ?_⟩
  .simp only[bt,JE,ab];rw[ak h];rfl
  .rw[K8,aN aq,aS aq aq,ab,n1];obtain⟨⟨j,A,B,sc,u⟩,J⟩:∃b,l.1[k]=b:=⟨_,rfl⟩;rw[J]at O e0 ⊢;obtain⟨I,L,M⟩:=O;have I:aa j<=12:=I;have L:A<=9223372036854775807:=L;have M:B<=9223372036854775807:=M;have l1:=dQ o (aa j);have l2:=TM j (cZ o (aa j));have l3:=dQ (oP (cZ o (aa j)) j) A;have l4:=dQ (cZ (oP (cZ o (aa j)) j) A) B;simp only[ai];rw[kz (d:=(o,(aa j:Int))) ⟨by show aa o<=90000000;omega,by show(aa j:Int)<=9223372036854775807;omega⟩];simp only[ah,bt,qA];rw[aje (d:=(l,cZ o (aa j),(k:Int),0,(j,A,B,sc,u))) ⟨I,0,az _,rfl,by show aa (cZ o (aa j))+8*aa j<=_;omega⟩];simp only[ah,vS,By,aW,aH];rw[kz (d:=(oP (cZ o (aa j)) j,A)) ⟨by show aa (oP (cZ o (aa j)) j)<=90000000;omega,L⟩];simp only[ah,bt,qA];rw[kz (d:=(cZ (oP (cZ o (aa j)) j) A,B)) ⟨by show aa (cZ (oP (cZ o (aa j)) j) A)<=90000000;omega,M⟩];simp only[ah,bt,qA];rw[aoI (d:=(cZ (cZ (oP (cZ o (aa j)) j) A) B,sc)) (by show aa (cZ (cZ (oP (cZ o (aa j)) j) A) B)<=90000000;omega)];simp only[ah,bt,aoH];rw[N.iY aq];rfl
 .right;obtain rfl:k=aa l.1:=aq;intro R kn kx;rw[K8,aL aq,al];simp only[bt,JE,ab,ay];rfl
def aEf:nD.Ok:=by
 intro l j;have j:akk l:=j;rw[aEe,zm (d:=l) j];simp only[ah,bt,w9,bt,Yl,XN];cases B:lN l
 .rfl
 .obtain⟨u,I,A⟩:=aIZ B;have K:=dQ [] (aa l.1);have J:aa ([]:List Int)=0:=rfl;simp only[bW,al,bQ];rw[kz (d:=([],(aa l.1:Int))) ⟨by show aa ([]:List Int)<=90000000;omega,by show(aa l.1:Int)<=9223372036854775807;omega⟩];simp only[ah,bt,qA];rw[ajc (d:=(l,cZ [] (aa l.1),0)) ⟨u,A,0,az _,rfl,by show aa (cZ [] (aa l.1))<=_;omega⟩];rfl
def ayV:nD.RS:=rE [.d O2] nD
def aEg:=nD.eQ aEf 2 ⟨.eg anW,⟨.eg anX,trivial⟩⟩
def DF(w:Ua):Bool:=decide (0<=w.1/\w.1 < 4) && decide (aa w.2.1<=12)
def Po(x:gb):Bool:=decide (0<=x.1.2.1/\x.1.2.1 < 64) && DF x.2.1
def aal(m:List (bO×Bool))(x:gb):Bool:=(bT bK x.1 m).getD aZ
def KP:List (bO×Bool)->List gb->Bool
 |_,[]=>bn
 |m,x::l=>(!(aal m x) && Po x) && KP (fi bK x.1 bn m) l
def wE(a:Int):Bool:=decide (0<=a/\a<=1125899906842624)
def Ux(a b:Int):Bool:=wE a && (wE b && decide (a+b<=1125899906842624))
def C4:Int->List dW->Bool
 |_,[]=>bn
 |s,o::l=>(Ux s o.1 && lN o.2.1) && C4 (s+o.1) l
def aqK(t:di):Bool:=decide (1<=aa t.1/\aa t.1<=64/\aa t.2.1<=64/\0<=t.2.2.1)
def ig(t:di):Bool:=aqK t && (KP [] t.1 && C4 0 t.2.1)
def bie(l:Lk):Prop:=akk l/\aa l.1<=9223372036854775807
def bkz(t:di):Prop:=(∀o∈t.2.1,bie o.2.1)/\aa t.1<=9223372036854775807/\aa t.2.1<=9223372036854775807
def bcd:Ua->Prop:=λ_=>True
def aAl:Ua->Bool:=λw=>DF w
def asZ:Fs prog bcd bt aAl:=eP 65 f65 (λj=>([.d adr j],[])) (λx=>⟨fA x,[],[]⟩) [aw adr]
def bg5(j)(k:K1 R):asZ.A j k=aA (DA j.1 0) (aA (fj j.1 4) (k (asZ.out (arD (aa j.2.1:Int) 12))) (k (asZ.out aZ))) (k (asZ.out aZ)):=bS
def bg6:asZ.Ok:=by
 rintro⟨b,B,I,u⟩ _;rw[bg5];simp only[bt,aAl,DF];by_cases h:0<=b
 .rw[fE h,ai];by_cases j:b < 4
  .rw[aN j,ai,aK ⟨h,j⟩];by_cases A:aa B<=12
   .rw[np aq,aK A];rfl
   .rw[jK aq,aV A];rfl
  .rw[aL j,al,aV (λx=>j x.2)];rfl
 .rw[ed h,al,aV (λx=>h x.1)];rfl
def aGs:asZ.RS:=rE [.d adr] asZ
def aOI:=asZ.eQ bg6
def aJh:Int->Prop:=λ_=>True
def anp:Int->Bool:=λa=>wE a
def MU:Fs prog aJh bt anp:=eP 160 f160 (λa=>([aU a],[])) (λx=>⟨fA x,[],[]⟩) [aw ti]
def aRs(a)(k:K1 R):MU.A a k=aA (DA a 0) (k (MU.out (arD a 1125899906842624))) (k (MU.out aZ)):=bS
def aRt:MU.Ok:=by
 intro(a:Int) _;rw[aRs];simp only[bt,anp,wE];by_cases h:0<=a
 .rw[fE h,ai];by_cases j:a<=1125899906842624
  .rw[np j,aK ⟨h,j⟩]
  .rw[jK j,aV (λx=>j x.2)]
 .rw[ed h,al,aV (λx=>h x.1)]
def anq:MU.RS:=rE [.d ti] MU
def aRu:=MU.eQ aRt
def aY7:(Int×Int)->Prop:=λ_=>True
def aJg:(Int×Int)->(Int×Bool):=λ(a,b)=>(bif Ux a b then a+b else 0,Ux a b)
def arQ:Fs prog aY7 bt aJg:=eP 104 f104 (λ(a,b)=>((qY a b),[])) (λx=>⟨.cons (aU x.1) (.cons (fA x.2) (.nil)),[],[]⟩) [aw ti,aw ti] [aRu]
def bfG(a b)(k:K1 R):arQ.A (a,b) k=ao (MU.call a) λj=>aA (!j) (k (arQ.out (0,aZ))) (ao (MU.call b) λu=>aA (!u) (k (arQ.out (0,aZ))) (aA (qi a (cY .i64 1125899906842624 b)) (k (arQ.out (0,aZ))) (k (arQ.out ((bC .i64 a b),bn))))):=bS
def bfH:arQ.Ok:=by
 rintro⟨a,b⟩ _;rw[bfG,anq (d:=a) trivial,anq (d:=b) trivial];simp only[ah,bt,anp,bt,aJg,Ux];cases j:wE a
 .rfl
 .cases u:wE b
  .rfl
  .simp only[wE,bJ]at j u;simp only[bW,al,bH];rw[eO aq aq];by_cases h:a+b<=1125899906842624
   .rw[ct aq,al,aK h,eS aq aq];rfl
   .rw[cW aq,ai,aV h];rfl
def aY8:arQ.RS:=rE [.d ti,.d ti] arQ
def bfI:=arQ.eQ bfH
abbrev CQ:=di×(List gb)×Int×Int×(List (bO×Bool))
def iL(j):=(.iU eU j:aF)
def aa8(j u A):=([.d (.slice fK) j,aU u,aU A]:List aF)
def QS(j u A):=(.iI (.new j u) A:aF)
def qH:CQ->AS:=λ(I,u,A,B,j)=>⟨([bB,iL I,bB,QS 31 0 0]++aP 29 ((aa8 u A B)++aP 52 [])),[],(bz 31 ([dp (.mp bK .bool j)]++bz 56 []))⟩
def gZ:Unit->Exit×AS:=λx=>(.ret,⟨([bB,bB,me]++aP 85 []),[],(ag 88 [])⟩)
def B2:di->Exit×AS:=λx=>(.exit 0,⟨([bB,iL x]++aP 86 []),[],(ag 88 [])⟩)
abbrev SF:=(Unit)⊕(di)
abbrev aiF:=(Unit)⊕(Unit)
def Kh:SF->Out (Exit×AS):=λx=> .br x.isLeft (.get x.getLeft? λa=> .ok (gZ a)) (.get x.getRight? λb=> .ok (B2 b))
def lE:CQ->aiF->SF:=λ(j,A,B,I,u) y=>match y with | .inl y=> .inl y | .inr z=> .inr (j)
abbrev CR:=Int×(List dW)×Int×Int
def qX(j):=(.d (.slice dI) j:aF)
def qI:CR->AS:=λ(j,u,A,B)=>⟨(aP 6 ([aU j]++aP 59 ([qX u,aU A,aU B]++aP 19 []))),[],(ag 88 [])⟩
def lG:Unit->Exit×AS:=λx=>(.ret,⟨([bB,bB,me]++aP 85 []),[],(ag 88 [])⟩)
def B4:Unit->Exit×AS:=λx=>(.exit 2,⟨(aP 88 []),[],(ag 88 [])⟩)
abbrev SK:=(Unit)⊕(Unit)
abbrev aiH:=(Unit)⊕(Unit)
def Ki:SK->Out (Exit×AS):=λx=> .br x.isLeft (.get x.getLeft? λa=> .ok (lG a)) (.get x.getRight? λb=> .ok (B4 b))
def lF:CR->aiH->SK:=λ(j,u,A,B) y=>match y with | .inl y=> .inl y | .inr z=> .inr (z)
def B1:CQ->Prop:=λ(t,l,n,i,m)=>aa l<=9223372036854775807/\n=aa l/\∃k:Nat,k<=aa l/\i=k
def pJ:CQ->aiF:=λ(t,l,n,i,m)=>if KP m (l.drop i.toNat) then .inr () else .inl ()
def B3:CR->Prop:=λ(s,l,n,i)=>(∀o∈l,bie o.2.1)/\aa l<=9223372036854775807/\n=aa l/\∃k:Nat,k<=aa l/\i=k
def pK:CR->aiH:=λ(s,l,n,i)=>if C4 s (l.drop i.toNat) then .inr () else .inl ()
def aLS:di->Prop:=λt=>bkz t
def vG:di->Bool:=λt=>ig t
def aiE:=cQ.eg qH B1 lE pJ Kh
def SH:CQ->Option SF:=eN aiE qH
def aiG:=cQ.eg qI B3 lF pK Ki
def Hg:CR->Option SK:=eN aiG qI
def jv:Fs prog aLS bt vG:=eP 64 f64 (λt=>([.d eU t],[])) (λx=>⟨.d .bool x,[],[]⟩) [aw eU] [aOI,bfI,KT] {loops:=ko [(5,{aX:=[1,3,33,34,35],sites:=[31]}),(13,{aX:=[6,66,67,68]})],outs:=km [(5,{aX:=[1]},{aX:=[2]}),(13,{},{aX:=[2]})],eT:=jW [(5,aiE),(13,aiG)]}
def SE:= @dm prog (gU jv.G) jv.an 0 f64 0 _ qH
abbrev acV:=gr prog (gU jv.G) jv.an 0 f64 0 qH B1 lE pJ Kh
def SJ:= @dm prog (gU jv.G) jv.an 0 f64 1 _ qI
abbrev acW:=gr prog (gU jv.G) jv.an 0 f64 1 qI B3 lF pK Ki
def asV:fC SH B1 lE pJ:=ia (fy [.d eU,.d (.slice fK),.d ti,.d ti,.d (.slice (.pair bK .bool))] λ_=>bS)
def YN:iX @SE qH B1 lE pJ Kh acV:=ji
def SI(J u B j A)(K:K2 R)(I:K3 R):SE (J,u,B,j,A) K I=aA (fj j B) (aA (dB j (((aa u):Nat):Int)) (aA ((bT bK (nth fK u (ae j)).1 A).getD aZ) (I (gZ ()).1 (gZ ()).2) (aA (fj (nth fK u (ae j)).1.2.1 (0:Int)) (I (gZ ()).1 (gZ ()).2) (aA (DA (nth fK u (ae j)).1.2.1 (64:Int)) (I (gZ ()).1 (gZ ()).2) (ao (asZ.call (nth fK u (ae j)).2.1) λL=>aA (!L) (I (gZ ()).1 (gZ ()).2) (K (qH (J,u,B,(bC .i64 j (1:Int)),(fi bK (nth fK u (ae j)).1 bn A)))))))) aC) (I (B2 J).1 (B2 J).2):=bS
def asW:fC Hg B3 lF pK:=ia (fy [.d ti,.d (.slice dI),.d ti,.d ti] λ_=>bS)
def YO:iX @SJ qI B3 lF pK Ki acW:=ji
def SL(I u A j)(L:K2 R)(J:K3 R):SJ (I,u,A,j) L J=aA (fj j A) (aA (dB j (((aa u):Nat):Int)) (ao (arQ.call (I,(nth dI u (ae j)).1)) λB=>aA (!B.2) (J (lG ()).1 (lG ()).2) (ao (sO.call (nth dI u (ae j)).2.1) λK=>aA (!K) (J (lG ()).1 (lG ()).2) (L (qI (B.1,u,A,(bC .i64 j (1:Int))))))) aC) (J (B4 ()).1 (B4 ()).2):=bS
def aTS(t)(k:K1 R):jv.A t k=aA (fj (aa t.1:Int) 1) (k (jv.out aZ)) (aA (qi (aa t.1:Int) 64) (k (jv.out aZ)) (aA (qi (aa t.2.1:Int) 64) (k (jv.out aZ)) (aA (fj t.2.2.1 0) (k (jv.out aZ)) (ao (SH (t,t.1,(aa t.1:Int),0,([]:List (bO×Bool)))) λu=>aA u.isLeft (ao u.getLeft? λB=>k (jv.out aZ)) (ao u.getRight? λA=>ao (Hg (0,A.2.1,(aa A.2.1:Int),0)) λj=>aA j.isLeft (ao j.getLeft? λI=>k (jv.out aZ)) (ao j.getRight? λJ=>k (jv.out bn))))))):=bS
def aAg:acV:=by
 refine YN (λ(t,l,n,i,m)=>aa l - i.toNat) ?_
 rintro⟨t,l,n,i,m⟩ ⟨B,rfl,k,L,rfl⟩;have B:aa l<=9223372036854775807:=B;have L:k<=aa l:=L;by_cases h:k < aa l
 .have n1:nth fK l k=l[k]:=bG (t:=fK) h;have K:KP m (l.drop k)=((!(aal m l[k]) && Po l[k]) && KP (fi bK l[k].1 bn m) (l.drop (k+1))):=by rw[ak h];rfl
  have step:∀ {R:Type} (j:AS->Option R) (u:Exit->AS->Option R),SE (t,l,(aa l:Int),(k:Int),m) j u=aA (!(aal m l[k]) && Po l[k]) (j (qH (t,l,(aa l:Int),((k+1:Nat):Int),fi bK l[k].1 bn m))) (u (gZ ()).1 (gZ ()).2):=by
   intro R j u;rw[SI,aN aq,aS aq aq,ab,n1,N.iY aq,aGs (d:=l[k].2.1) trivial];simp only[ai,ah,bt,aAl];have e:(bT bK l[k].1 m).getD aZ=aal m l[k]:=rfl;rw[e];cases aal m l[k]
   .simp only[eJ,bH,al,Po];by_cases I:l[k].1.2.1 < 0
    .rw[aN I,ai,aV (λx=>aq)];rfl
    .rw[aL I,al];by_cases J:64<=l[k].1.2.1
     .rw[fE J,ai,aV (λx=>aq)];rfl
     .rw[ed J,al,aK ⟨aq,aq⟩];cases DF l[k].2.1 <;> rfl
   .rfl
  cases A:(!(aal m l[k]) && Po l[k])
  .right;refine⟨gZ (),?_,λj u=> ?_⟩
   .simp only[lE,pJ,ab,K,A,cU,bu,bq];rfl
   .rw[step,A,al]
  .left;refine⟨(t,l,aa l,((k+1:Nat):Int),fi bK l[k].1 bn m),⟨B,rfl,k+1,aq,rfl⟩,by simp only[ab];omega,?_,λj u=> ?_⟩
   .simp only[lE,pJ,ab,K,A,bH]
   .rw[step,A,ai]
 .right;obtain rfl:k=aa l:=aq;refine⟨B2 t,?_,λj u=> ?_⟩
  .simp only[lE,pJ,ab,ay];rfl
  .rw[SI];simp(disch:=omega) only[↓S1,↓av,↓au,av,au,bQ,bq,S2]
def aAh:acW:=by
 refine YO (λ(s,l,n,i)=>aa l - i.toNat) ?_
 rintro⟨s,l,n,i⟩ ⟨K,B,rfl,k,J,rfl⟩;have B:aa l<=9223372036854775807:=B;have J:k<=aa l:=J;by_cases h:k < aa l
 .have L:bie l[k].2.1:=K _ (aD h);have n1:nth dI l k=l[k]:=bG (t:=dI) h;have I:C4 s (l.drop k)=((Ux s l[k].1 && lN l[k].2.1) && C4 (s+l[k].1) (l.drop (k+1))):=by rw[ak h];rfl
  have step:∀ {R:Type} (j:AS->Option R) (u:Exit->AS->Option R),SJ (s,l,(aa l:Int),(k:Int)) j u=aA (Ux s l[k].1 && lN l[k].2.1) (j (qI (s+l[k].1,l,(aa l:Int),((k+1:Nat):Int)))) (u (lG ()).1 (lG ()).2):=by
   intro R j u;rw[SL,aN aq,aS aq aq,ab,n1,N.iY aq,aY8 (d:=(s,l[k].1)) trivial,Gm (d:=l[k].2.1) L];simp only[ai,ah,bt,aJg,bt,KS];cases Ux s l[k].1
   .rfl
   .cases lN l[k].2.1 <;> rfl
  cases A:(Ux s l[k].1 && lN l[k].2.1)
  .right;refine⟨lG (),?_,λj u=> ?_⟩
   .simp only[lF,pK,ab,I,A,cU,bu,bq];rfl
   .rw[step,A,al]
  .left;refine⟨(s+l[k].1,l,aa l,((k+1:Nat):Int)),⟨K,B,rfl,k+1,aq,rfl⟩,by simp only[ab];omega,?_,λj u=> ?_⟩
   .simp only[lF,pK,ab,I,A,bH]
   .rw[step,A,ai]
 .right;obtain rfl:k=aa l:=aq;refine⟨B4 (),?_,λj u=> ?_⟩
  .simp only[lF,pK,ab,ay];rfl
  .rw[SL];simp(disch:=omega) only[↓S1,↓av,↓au,av,au,bQ,bq,S2]
def aTT:jv.Ok:=by
 rintro⟨is,os,B,u⟩ ⟨I,j,A⟩;have j:aa is<=9223372036854775807:=j;have A:aa os<=9223372036854775807:=A;rw[aTS,asV (d:=((is,os,B,u),is,aa is,0,[])) ⟨j,rfl,0,aq,rfl⟩];simp only[ah,lE,pJ,aW,aH,bt,vG,ig,aqK];by_cases J:aa is < 1
 .rw[aN aq,ai,aV (λx=>aq)];rfl
 rw[aL aq,al];by_cases K:64 < aa is
 .rw[cW aq,ai,aV (λx=>aq)];rfl
 rw[ct aq,al];by_cases L:64 < aa os
 .rw[cW aq,ai,aV (λx=>aq)];rfl
 rw[ct aq,al];by_cases M:B < 0
 .rw[aN aq,ai,aV (λx=>aq)];rfl
 rw[aL aq,al,aK ⟨aq,aq,aq,aq⟩];cases KP [] is
 .rfl
 .simp only[bQ,bH];show ao (Hg (0,os,(aa os:Int),0)) _=_;rw[asW (d:=(0,os,aa os,0)) ⟨I,A,rfl,0,aq,rfl⟩];simp only[ah,lF,pK,aW,aH];cases C4 0 os <;> rfl
def tv:jv.RS:=rE [.d eU] jv
def ym:=jv.eQ aTT 2 ⟨.eg aAg,⟨.eg aAh,trivial⟩⟩
def aQc:(Bs×Bs)->Prop:=λ(b,h)=>aa b+aa h<=100000000/\aa h=32
def ZQ:(Bs×Bs)->Bs:=λ(b,h)=>b++h
def UL:Fs prog aQc bt ZQ:=eP 122 f122 (λ(b,h)=>([fo b,fW h],[])) (λx=>⟨fo x,[],[]⟩) [aw tB,aw tH] [ala]
def aWY(b h)(k:K1 R):UL.A (b,h) k=ao (PV.call (b,(cut h 0 32))) λj=>k (UL.out j):=bS
def aWZ:UL.Ok:=by rintro⟨b,h⟩ ⟨j,u⟩;have j:aa b+aa h<=100000000:=j;have u:aa h=32:=u;rw[aWY,dM u,Tq (d:=(b,h)) j];rfl
def Tt:UL.RS:=rE [.d tB,.d tB] UL
def aB5:=UL.eQ aWZ
def aQa:(Bs×Bs)->Prop:=λ(b,c)=>aa b+aa c<=90000000
def axe:(Bs×Bs)->Bs:=λ(b,c)=>b++(iy (aa c)++c)
def alk:Fs prog aQa bt axe:=eP 163 f163 (λ(b,c)=>([fo b,fo c],[])) (λx=>⟨fo x,[],[]⟩) [aw tB,aw tB] [aMZ,akL] {res:=[aw tB]}
def aWV(b c)(k:K1 R):alk.A (b,c) k=ao (alm.call (aa c:Int)) λj=>ao (rN.call [b,j,c]) λu=>k (alk.out u):=bS
def aWW:alk.Ok:=by rintro⟨b,c⟩ h;have h:aa b+aa c<=90000000:=h;have j:=mq (aa c);rw[aWV,aB8 (d:=(aa c:Int)) ⟨aq,aq⟩];simp only[ah,bt,aH5];rw[agf (d:=[b,iy (aa c),c]) ⟨by show [b,iy (aa c),c].length<=_;simp,by show y6 [b,iy (aa c),c]<=_;simp only[y6,kr,tJ,bm,aj];omega⟩];simp only[ah,bt,ady,bt,axe,kr,tJ,bm]
def aQb:alk.RS:=rE [.d tB,.d tB] alk
def aWX:=alk.eQ aWW
def XF(b:List Int)(x:gb):List Int:=cZ (b++x.1.1) x.1.2.1
def X8(b:List Int)(o:dW):List Int:=cZ b o.1++(iy (aa (XN o.2.1))++XN o.2.1)
def zg(t:di):List Int:=cZ (t.2.1.foldl X8 (cZ (t.1.foldl XF (cZ [] (aa t.1))) (aa t.2.1))) t.2.2.1
def apV(b:List Int)(s:Sg):List Int:=b++jI s.1++jI s.2.1
def aMi(b:List Int)(x:gb):List Int:=x.2.1.2.1.foldl apV (cZ (cZ b x.2.1.1) (aa x.2.1.2.1))++jI x.2.1.2.2.1
def aL4(t:di):List Int:=if ig t then t.1.foldl aMi (zg t) else []
def mw(t:di):List Int:=if ig t then tag (bX (⟨#[116,120]⟩:ByteArray)) [zg t] else ag 32 0
def bnP(x:gb):Prop:=Sm x.1.1/\Ze x.2.1/\aa x.2.1.2.1<=9223372036854775807
def mE(t:di):Prop:=bkz t/\(∀x∈t.1,bnP x)/\t.2.2.1<=9223372036854775807
def ma:∀(l:List gb) (m:List (bO×Bool)),KP m l=bn->∀x∈l,Po x=bn
 |[],_,_,x,hx=>by cases hx
 |y::l,m,h,x,hx=>by
  rw[KP,aQ,aQ]at h;rcases cr.1 hx with rfl | hx
  .exact h.1.2
  .exact ma l _ h.2 x hx
def jL:∀(l:List dW) (s:Int),C4 s l=bn->∀o∈l,(0<=o.1/\o.1<=1125899906842624)/\lN o.2.1=bn
 |[],_,_,o,ho=>by cases ho
 |y::l,s,h,o,ho=>by
  rw[C4,aQ,aQ]at h;rcases cr.1 ho with rfl | ho
  .have j:=h.1.1;unfold Ux wE at j;simp only[aQ,bJ]at j;exact⟨j.2.1,h.1.2⟩
  .exact jL l _ h.2 o ho
def C1{x:gb}(h:Po x=bn):0<=x.1.2.1/\x.1.2.1 < 64/\0<=x.2.1.1/\x.2.1.1 < 4/\aa x.2.1.2.1<=12:=by unfold Po DF at h;simp only[aQ,bJ]at h;exact⟨h.1.1,h.1.2,h.2.1.1,h.2.1.2,h.2.2⟩
def iW{t:di}(h:ig t=bn):(1<=aa t.1/\aa t.1<=64/\aa t.2.1<=64/\0<=t.2.2.1)/\KP [] t.1=bn/\C4 0 t.2.1=bn:=by unfold ig aqK at h;simp only[aQ,bJ]at h;exact h
def ax6(b:List Int)(x:gb):aa (XF b x)<=aa b+aa x.1.1+11:=by have:=dQ (b++x.1.1) x.1.2.1;rw[aj]at this;exact this
theorem anC(b:List Int)(o:dW):aa (X8 b o)<=aa b+1022:=by have j:=dQ b o.1;have u:=mq (aa (XN o.2.1));have A:=TN o.2.1;unfold X8;rw[aj,aj];omega
def aFU(b:List Int)(s:Sg):aa (apV b s)=aa b+16:=by unfold apV;rw[aj,aj,cC,cC]
abbrev Sz:=di×Bs×(List gb)×Int×Int
def BZ:Sz->Bs->((di)×(Bs)):=λ(j,b,u,A,B) y=>(j,y)
abbrev SC:=di×Bs×(List dW)×Int×Int
def B0:SC->Bs->((di)×(Bs)):=λ(j,I,u,A,B) y=>(j,y)
def asR:Sz->Prop:=λ(t,b,l,n,i)=>aa (l)<=1000000000/\∃k:Nat,k<=aa (l)/\i=k/\n=aa (l)/\(aa l<=64)/\(∀x∈l,aa x.1.1=32/\x.1.2.1<=9223372036854775807)/\(aa b<=100+50*k)
def I8:Sz->Bs:=λ(t,b,l,n,i)=>(bj (ae i) l).foldl XF b
def asT:SC->Prop:=λ(t,b,l,n,i)=>aa (l)<=1000000000/\∃k:Nat,k<=aa (l)/\i=k/\n=aa (l)/\(aa l<=64)/\(∀o∈l,o.1<=9223372036854775807/\bie o.2.1)/\(aa b<=4000+1100*k)
def I9:SC->Bs:=λ(t,b,l,n,i)=>(bj (ae i) l).foldl X8 b
def aLR:di->Prop:=λt=>ig t=bn/\mE t
def aqs:di->Bs:=λt=>zg t
def uM:Ls asR BZ I8:=rI (λ(B,b,j,u,A)=>⟨([bB,iL B,bB,fo b]++aP 9 ((aa8 j u A)++aP 38 [])),[],(ag 54 [])⟩) (λx=>(.exit 0,⟨([bB,iL x.1,bB,fo x.2]++aP 50 []),[],(ag 54 [])⟩))
def uN:Ls asT B0 I9:=rI (λ(I,B,j,u,A)=>⟨([bB,iL I,bB,fo B]++aP 31 ([qX j,aU u,aU A]++aP 16 [])),[],(ag 54 [])⟩) (λx=>(.exit 2,⟨([bB,iL x.1,bB,fo x.2]++aP 50 []),[],(ag 54 [])⟩))
def zW:Fs prog aLR bt aqs:=eP 107 f107 (λt=>([.d eU t],[])) (λx=>⟨.d tB x,[],[]⟩) [aw eU] [ajG,aB5,aul,aWX] {loops:=ko [(3,{aX:=[1,3,13,14,15]}),(9,{aX:=[1,3,35,36,37]})],outs:=km [(3,{aX:=[1,3]},{aX:=[2]}),(9,{aX:=[1,3]},{aX:=[2]})],eT:=jW [(3,uM.E),(9,uN.E)],res:=[aw tB]}
def asS:uM.RS:=rL [.d eU,.d tB,.d (.slice fK),.d ti,.d ti] uM
def SB(B b u A j)(I:K2 R)(J:K3 R):zW.R 0 uM (B,b,u,A,j) I J=aA (fj j A) (aA (dB j (aa u:Int)) (ao (UL.call (b,(nth fK u (ae j)).1.1)) λK=>ao (F0.call (K,(nth fK u (ae j)).1.2.1)) λL=>I (uM.st (B,L,u,A,(bC .i64 j 1)))) aC) (uM.go J (B,b)):=bS
def asU:uN.RS:=rL [.d eU,.d tB,.d (.slice dI),.d ti,.d ti] uN
def SD(I B u A j)(J:K2 R)(K:K3 R):zW.R 1 uN (I,B,u,A,j) J K=aA (fj j A) (aA (dB j (aa u:Int)) (ao (F0.call (B,(nth dI u (ae j)).1)) λL=>ao (wQ.call (nth dI u (ae j)).2.1) λM=>ao (alk.call (L,M)) λO=>J (uN.st (I,O,u,A,(bC .i64 j 1)))) aC) (uN.go K (I,B)):=bS
def aTP(t)(k:K1 R):zW.A t k=ao (F0.call (([]:List Int),(aa t.1:Int))) λB=>ao (uM.call (t,B,t.1,(aa t.1:Int),0)) λj=>ao (F0.call (j.2,(aa j.1.2.1:Int))) λI=>ao (uN.call (j.1,I,j.1.2.1,(aa j.1.2.1:Int),0)) λA=>ao (F0.call (A.2,A.1.2.2.1)) λu=>k (zW.out u):=bS
def az7:(zW.kA 0 uM):=by
 refine(zW.lS 0 uM) (λ(t,b,l,n,i)=>aa (l) - ae i) ?_
 rintro⟨t,b,l,n,i⟩ ⟨j,k,I,rfl,rfl,A,u,B⟩;have j:aa (l)<=1000000000:=j;have I:k<=aa (l):=I;have A:aa l<=64:=A;have u:∀x∈l,aa x.1.1=32/\x.1.2.1<=9223372036854775807:=u;have B:aa b<=100+50*k:=B;by_cases h:k < aa (l)
 .left;have n1:nth fK l k=l[k]:=bG (t:=fK) h;have J:bj k l=l[k]::bj (k+1) l:=ak h;refine⟨(t,(XF b l[k]),l,(aa (l):Int),((k+1:Nat):Int)),⟨j,k+1,aq,rfl,rfl,A,u,by have:=ax6 b l[k];have:=(u _ (aD h)).1;omega⟩,by simp only[ab];omega,?_,λK L=> ?_⟩
  .simp only[BZ,I8,ab,J,bN]
  .rw[SB,aN aq,aS aq aq,ab,n1];simp only[ai];have e:=u _ (aD h);have M:aa (b++l[k].1.1)=aa b+l[k].1.1.length:=aj;rw[Tt (d:=(b,l[k].1.1)) ⟨by show aa b+l[k].1.1.length<=_;omega,e.1⟩];simp only[ah,bt,ZQ];rw[kG (d:=(b++l[k].1.1,l[k].1.2.1)) ⟨by show aa (b++l[k].1.1)<=_;omega,e.2⟩];simp only[ah,bt,sr];rw[N.iY aq];rfl
 .right;obtain rfl:k=aa (l):=aq;intro R K L;rw[SB,aL aq,al];simp only[BZ,I8,ab,ay,dr]
def az8:(zW.kA 1 uN):=by
 refine(zW.lS 1 uN) (λ(t,b,l,n,i)=>aa (l) - ae i) ?_
 rintro⟨t,b,l,n,i⟩ ⟨j,k,I,rfl,rfl,A,u,B⟩;have j:aa (l)<=1000000000:=j;have I:k<=aa (l):=I;have A:aa l<=64:=A;have u:∀o∈l,o.1<=9223372036854775807/\bie o.2.1:=u;have B:aa b<=4000+1100*k:=B;by_cases h:k < aa (l)
 .left;have n1:nth dI l k=l[k]:=bG (t:=dI) h;have J:bj k l=l[k]::bj (k+1) l:=ak h;refine⟨(t,(X8 b l[k]),l,(aa (l):Int),((k+1:Nat):Int)),⟨j,k+1,aq,rfl,rfl,A,u,by have:=anC b l[k];omega⟩,by simp only[ab];omega,?_,λK L=> ?_⟩
  .simp only[B0,I9,ab,J,bN]
  .rw[SD,aN aq,aS aq aq,ab,n1];simp only[ai];have e:=u _ (aD h);have M:=dQ b l[k].1;have O:=TN l[k].2.1;rw[kG (d:=(b,l[k].1)) ⟨by show aa b<=_;omega,e.1⟩];simp only[ah,bt,sr];rw[amq (d:=l[k].2.1) e.2];simp only[ah,bt,aaG];rw[aQb (d:=(cZ b l[k].1,XN l[k].2.1)) (by show aa (cZ b l[k].1)+aa (XN l[k].2.1)<=_;omega)];simp only[ah,bt,axe];rw[N.iY aq];rfl
 .right;obtain rfl:k=aa (l):=aq;intro R K L;rw[SD,aL aq,al];simp only[B0,I9,ab,ay,dr]
def ajV:∀(l:List gb) (b:List Int),(∀x∈l,aa x.1.1=32)->aa (l.foldl XF b)<=aa b+43*aa l
 |[],b,_=>ax _
 |x::l,b,h=>by
  have u:=ax6 b x;have A:=h x aY;have B:=ajV l (XF b x) λy j=>h y (aT _ j)
  rw[bN,aB];omega
def aaX:∀(l:List dW) (b:List Int),aa (l.foldl X8 b)<=aa b+1022*aa l
 |[],b=>ax _
 |x::l,b=>by have j:=anC b x;have u:=aaX l (X8 b x);rw[bN,aB];omega
def Yg{t:di}(A:ig t=bn)(j:mE t):aa (zg t)<=70000:=by
 obtain⟨⟨_,B,I,_⟩,_,_⟩:=iW A;have K:=ajV t.1 (cZ [] (aa t.1)) λx u=>(j.2.1 x u).1.1
 have L:=dQ [] (aa t.1);have M:=dQ (t.1.foldl XF (cZ [] (aa t.1))) (aa t.2.1);have O:=aaX t.2.1 (cZ (t.1.foldl XF (cZ [] (aa t.1))) (aa t.2.1));have T:=dQ (t.2.1.foldl X8 (cZ (t.1.foldl XF (cZ [] (aa t.1))) (aa t.2.1))) t.2.2.1;have J:aa ([]:List Int)=0:=rfl;unfold zg;omega
def aTQ:zW.Ok:=by
 rintro t ⟨L,j⟩;have j:mE t:=j;obtain⟨⟨_,B,I,_⟩,J,K⟩:=iW L;have M:aa ([]:List Int)=0:=rfl;have O:=dQ [] (aa t.1);have T:=ajV t.1 (cZ [] (aa t.1)) λx u=>(j.2.1 x u).1.1
 have l2:=dQ (t.1.foldl XF (cZ [] (aa t.1))) (aa t.2.1);have l3:=aaX t.2.1 (cZ (t.1.foldl XF (cZ [] (aa t.1))) (aa t.2.1));rw[aTP,kG (d:=([],(aa t.1:Int))) ⟨by show aa ([]:List Int)<=_;omega,by show(aa t.1:Int)<=_;omega⟩];simp only[ah,bt,sr];rw[asS (d:=(t,cZ [] (aa t.1),t.1,aa t.1,0)) ⟨by show aa t.1<=_;omega,0,az _,rfl,rfl,B,λx u=>⟨(j.2.1 x u).1.1,by have:=C1 (ma _ _ J x u);omega⟩,by show aa (cZ [] (aa t.1))<=_;omega⟩];simp only[ah,BZ,I8,aW,aH];rw[kG (d:=(t.1.foldl XF (cZ [] (aa t.1)),(aa t.2.1:Int))) ⟨by show aa (t.1.foldl XF (cZ [] (aa t.1)))<=_;omega,by show(aa t.2.1:Int)<=_;omega⟩];simp only[ah,bt,sr];rw[asU (d:=(t,cZ (t.1.foldl XF (cZ [] (aa t.1))) (aa t.2.1),t.2.1,aa t.2.1,0)) ⟨by show aa t.2.1<=_;omega,0,az _,rfl,rfl,I,λo A=>⟨by have:=(jL _ _ K o A).1;omega,j.1.1 o A⟩,by show aa (cZ (t.1.foldl XF (cZ [] (aa t.1))) (aa t.2.1))<=_;omega⟩];simp only[ah,B0,I9,aW,aH];rw[kG (d:=(t.2.1.foldl X8 (cZ (t.1.foldl XF (cZ [] (aa t.1))) (aa t.2.1)),t.2.2.1)) ⟨by show aa (t.2.1.foldl X8 (cZ (t.1.foldl XF (cZ [] (aa t.1))) (aa t.2.1)))<=_;omega,j.2.2⟩];rfl
def aqt:zW.RS:=rE [.d eU] zW
def awe:=zW.eQ aTQ 2 ⟨.eg az7,⟨.eg az8,trivial⟩⟩
def FL(t:di):Prop:=(aa t.1<=1000000000/\∀x∈t.1,aa x.2.1.2.1<=1000000000)/\aa t.2.1<=1000000000/\∀x∈t.2.1,aa x.2.1.1<=1000000000/\∀b∈x.2.1.1,aa b.1<=1000000000
def xn(n:Int)(x:gb):Int:=n+(10+8*aa x.2.1.2.1)+(if x.2.1.2.2.1=0 then 0 else 4)
def Hl(t:di):Int:=if ig t then t.1.foldl xn (10+8*aa t.2.1) else 0
def dG(t:di):List bO:=if ig t then t.1.map (·.1) else []
def y8(id:List Int)(k n:Nat):List bO:=(List.range' k n).map λi:Nat=>(id,((i:Int),()))
def gI(t:di):List bO:=if ig t then y8 (mw t) 0 (aa t.2.1) else []
def bg3:di->Prop:=λt=>mE t
def aqn:di->Bs:=λt=>mw t
def rQ(j):=(.d eU j:aF)
def tid:Fs prog bg3 bt aqn:=eP 67 f67 (λt=>([rQ t],[])) (λx=>⟨fW x,[],[]⟩) [aw eU] [ym,awe,ajR]
def bkh(t)(k:K1 R):tid.A t k=ao (jv.call t) λj=>aA (!j) (k (tid.out (ag 32 0))) (ao (zW.call t) λu=>ao (aef.call ((⟨#[116,120]⟩:ByteArray),[u])) λA=>k (tid.out A)):=bS
def bki:tid.Ok:=by
 intro t j;have j:mE t:=j;rw[bkh,tv (d:=t) j.1];simp only[ah,bt,vG,bt,aqn,mw];cases u:ig t
 .rfl
 .have A:=Yg u j;rw[aqt (d:=t) ⟨u,j⟩];simp only[bW,al,bQ,ah,bt,aqs];rw[aau (d:=((⟨#[116,120]⟩:ByteArray),[zg t])) (acL fm aq)];rfl
def acR:tid.RS:=rE [.d eU] tid
def aqo:=tid.eQ bki
abbrev acZ:=Int×(List gb)×Int×Int
def aqH:acZ->Prop:=λ(n,l,m,i)=>aa (l)<=1000000000/\∃k:Nat,k<=aa (l)/\i=k/\m=aa (l)/\(aa l<=64)/\(∀x∈l,aa x.2.1.2.1<=12)/\(0<=n)/\(n<=1000+200*(k:Int))
def Fl:acZ->Int:=λ(n,l,m,i)=>(bj (ae i) l).foldl xn n
def aGq:di->Prop:=λt=>mE t
def afY:di->Int:=λt=>Hl t
def oA:Ls aqH bt Fl:=rI (λ(n,j,u,A)=>⟨([bB,bB,bB,aU n]++aP 11 ((aa8 j u A)++aP 19 [])),[],(ag 37 [])⟩) (λx=>(.exit 0,⟨([bB,bB,bB,aU x]++aP 33 []),[],(ag 37 [])⟩))
def z8:Fs prog aGq bt afY:=eP 237 f237 (λt=>([.d eU t],[])) (λx=>⟨.d ti x,[],[]⟩) [aw eU] [ym] {loops:=ko [(5,{aX:=[3,15,16,17]})],outs:=km [(5,{aX:=[3]},{aX:=[2]})],eT:=jW [(5,oA.E)]}
def aqI:oA.RS:=rL [.d ti,.d (.slice fK),.d ti,.d ti] oA
def O8(n u A j)(B:K2 R)(I:K3 R):z8.R 0 oA (n,u,A,j) B I=aA (fj j A) (aA (dB j (aa u:Int)) (aA (pb (nth fK u (ae j)).2.1.2.2.1 0) (B (oA.st ((bC .i64 (bC .i64 n (bC .i64 10 (fO .i64 8 (((aa (nth fK u (ae j)).2.1.2.1):Nat):Int)))) 4),u,A,(bC .i64 j 1)))) (B (oA.st ((bC .i64 n (bC .i64 10 (fO .i64 8 (((aa (nth fK u (ae j)).2.1.2.1):Nat):Int)))),u,A,(bC .i64 j 1))))) aC) (oA.go I n):=bS
def aL1(t)(k:K1 R):z8.A t k=ao (jv.call t) λj=>aA (!j) (k (z8.out 0)) (ao (oA.call ((bC .i64 10 (fO .i64 8 (aa t.2.1:Int))),t.1,(aa t.1:Int),0)) λu=>k (z8.out u)):=bS
def asY:(z8.kA 0 oA):=by
 refine(z8.lS 0 oA) (λ(n,l,m,i)=>aa (l) - ae i) ?_
 rintro⟨n,l,m,i⟩ ⟨j,k,K,rfl,rfl,B,u,I,J⟩;have j:aa (l)<=1000000000:=j;have K:k<=aa (l):=K;have B:aa l<=64:=B;have u:∀x∈l,aa x.2.1.2.1<=12:=u;have I:0<=n:=I;have J:n<=1000+200*(k:Int):=J;by_cases h:k < aa (l)
 .left;have n1:nth fK l k=l[k]:=bG (t:=fK) h;have M:bj k l=l[k]::bj (k+1) l:=ak h;refine⟨((xn n l[k]),l,(aa (l):Int),((k+1:Nat):Int)),⟨j,k+1,aq,rfl,rfl,B,u,by unfold xn;split <;> omega,by have:=u _ (aD h);unfold xn;split <;> omega⟩,by simp only[ab];omega,?_,λO T=> ?_⟩
  .simp only[bt,Fl,ab,M,bN]
  .rw[O8,aN aq,aS aq aq,ab,n1];simp only[ai];have e:=u _ (aD h);rw[N.bmr aq];have L:bC .i64 10 ((8*l[k].2.1.2.1.length:Nat):Int)=10+8*(l[k].2.1.2.1.length:Int):=by rw[eS aq aq];omega
   rw[L,eS (x:=n) aq aq,N.iY aq];unfold xn;by_cases A:l[k].2.1.2.2.1=0
   .rw[bU A,al,av A,tE]
   .rw[dj A,ai,au A,eS aq aq]
 .right;obtain rfl:k=aa (l):=aq;intro R O T;rw[O8,aL aq,al];simp only[bt,Fl,ab,ay,dr]
def aL2:z8.Ok:=by
 intro t j;have j:mE t:=j;rw[aL1,tv (d:=t) j.1];simp only[ah,bt,vG,bt,afY,Hl];cases I:ig t
 .rfl
 .obtain⟨⟨_,u,J,_⟩,A,K⟩:=iW I;rw[N.bmr aq,eS aq aq,aqI (d:=(10+((8*aa t.2.1:Nat):Int),t.1,aa t.1,0)) ⟨by show aa t.1<=_;omega,0,az _,rfl,rfl,u,λx B=>(C1 (ma _ _ A x B)).2.2.2.2,by show(0:Int)<=10+((8*aa t.2.1:Nat):Int);omega,by show 10+((8*aa t.2.1:Nat):Int)<=_;omega⟩];simp only[ah,bt,Fl,aW,aH,bW,al,bQ,qP];rfl
def aGr:z8.RS:=rE [.d eU] z8
def aL3:=z8.eQ aL2 1 ⟨.eg asY,trivial⟩
abbrev aiy:=Bs×(List gb)×Int×Int
abbrev Su:=Bs×(List gb)×Int×Int×(List Sg)×Int×Int×gb
def BY:Su->Bs->(((List gb)×Int×Int×gb)×(Bs)):=λ(K,j,u,A,B,I,J,n5) y=>((j,u,A,n5),y)
def asM:Su->Prop:=λ(b,A,j,u,l,n,i,x)=>aa (l)<=1000000000/\∃k:Nat,k<=aa (l)/\i=k/\n=aa (l)/\(aa l<=12)/\(aa b<=80000000+16*k)
def I7:Su->Bs:=λ(b,A,j,u,l,n,i,x)=>(bj (ae i) l).foldl apV b
def asK:aiy->Prop:=λ(b,l,n,i)=>aa (l)<=1000000000/\∃k:Nat,k<=aa (l)/\i=k/\n=aa (l)/\(aa l<=64)/\(∀x∈l,aa x.2.1.2.1<=12/\x.2.1.1<=9223372036854775807)/\(aa b<=100000+1000*k)
def Sr:aiy->Bs:=λ(b,l,n,i)=>(bj (ae i) l).foldl aMi b
theorem apX:∀(l:List Sg) (b:List Int),aa (l.foldl apV b)=aa b+16*aa l
 |[],b=>rfl
 |x::l,b=>by have j:=aFU b x;have u:=apX l (apV b x);rw[bN,aB];omega
def bcx(b:List Int)(x:gb)(h:aa x.2.1.2.1<=12):aa (aMi b x)<=aa b+300:=by grind [dQ,apX,aMi,cC]
def aLL:di->Prop:=λt=>mE t
def Sq:di->Bs:=λt=>aL4 t
def uK:Ls asK bt Sr:=rI (λ(b,j,u,A)=>⟨([bB,bB,bB,fo b]++aP 10 ((aa8 j u A)++aP 36 [])),[],(ag 53 [])⟩) (λx=>(.exit 0,⟨([bB,bB,bB,fo x]++aP 49 []),[],(ag 53 [])⟩))
def uL:Ls asM BY I7:=rI (λ(K,j,u,J,A,B,I,n5)=>⟨([bB,bB,bB,fo K,bB,eI 5]++aP 8 ((aa8 j u J)++aP 15 ([.d (.slice yk) A,aU B,aU I]++aP 18 []))),[],(bz 5 ([dp (.d fK n5)]++bz 47 []))⟩) (λx=>(.exit 2,⟨([bB,bB,bB,fo x.2,bB,eI 5]++aP 8 ((aa8 x.1.1 x.1.2.1 x.1.2.2.1)++aP 36 [])),[],(bz 5 ([dp (.d fK x.1.2.2.2)]++bz 47 []))⟩))
def u6:Fs prog aLL bt Sq:=eP 95 f95 (λt=>([.d eU t],[])) (λx=>⟨.d tB x,[],[]⟩) [aw eU] [ym,awe,ajG,aB6] {loops:=ko [(5,{aX:=[3,14,15,16]}),(9,{aX:=[3,5,14,15,16,32,33,34],sites:=[5]})],outs:=km [(5,{aX:=[3]},{aX:=[2]}),(9,{aX:=[3,5,14,15,16],sites:=[5]},{aX:=[2]})],eT:=jW [(5,uK.E),(9,uL.E)],res:=[aw tB]}
def asL:uK.RS:=rL [.d tB,.d (.slice fK),.d ti,.d ti] uK
def Ss(b u A j)(I:K2 R)(J:K3 R):u6.R 0 uK (b,u,A,j) I J=aA (fj j A) (aA (dB j (aa u:Int)) (ao (F0.call (b,(nth fK u (ae j)).2.1.1)) λK=>ao (F0.call (K,(((aa (nth fK u (ae j)).2.1.2.1):Nat):Int))) λL=>ao (uL.call (L,u,A,j,(nth fK u (ae j)).2.1.2.1,(((aa (nth fK u (ae j)).2.1.2.1):Nat):Int),0,(nth fK u (ae j)))) λB=>ao (P0.call (B.2,B.1.2.2.2.2.1.2.2.1)) λM=>I (uK.st (M,B.1.1,B.1.2.1,(bC .i64 B.1.2.2.1 1)))) aC) (uK.go J b):=bS
def asN:uL.RS:=rL [.d tB,.d (.slice fK),.d ti,.d ti,.d (.slice yk),.d ti,.d ti,.d fK] uL
def Sv(K A B J u I j n5)(L:K2 R)(M:K3 R):u6.R 1 uL (K,A,B,J,u,I,j,n5) L M=aA (fj j I) (aA (dB j (aa u:Int)) (ao (P0.call (K,(nth yk u (ae j)).1)) λO=>ao (P0.call (O,(nth yk u (ae j)).2.1)) λT=>L (uL.st (T,A,B,J,u,I,(bC .i64 j 1),n5))) aC) (uL.go M ((A,B,J,n5),K)):=bS
def aTL(t)(k:K1 R):u6.A t k=ao (jv.call t) λj=>aA (!j) (k (u6.out ([]:List Int))) (ao (zW.call t) λu=>ao (uK.call (u,t.1,(aa t.1:Int),0)) λA=>k (u6.out A)):=bS
def az3:(u6.kA 1 uL):=by
 refine(u6.lS 1 uL) (λ(b,K,u,J,l,n,i,x)=>aa (l) - ae i) ?_
 rintro⟨b,K,u,J,l,n,i,x⟩ ⟨j,k,I,rfl,rfl,A,B⟩;have j:aa (l)<=1000000000:=j;have I:k<=aa (l):=I;have A:aa l<=12:=A;have B:aa b<=80000000+16*k:=B;by_cases h:k < aa (l)
 .left;have n1:nth yk l k=l[k]:=bG (t:=yk) h;have L:bj k l=l[k]::bj (k+1) l:=ak h;refine⟨((apV b l[k]),K,u,J,l,(aa (l):Int),((k+1:Nat):Int),x),⟨j,k+1,aq,rfl,rfl,A,by have:=aFU b l[k];omega⟩,by simp only[ab];omega,?_,λM O=> ?_⟩
  .simp only[BY,I7,ab,L,bN]
  .rw[Sv,aN aq,aS aq aq,ab,n1];simp only[ai];rw[KH (d:=(b,l[k].1)) (by show aa b<=_;omega)];simp only[ah,bt,ZR];rw[KH (d:=(b++jI l[k].1,l[k].2.1)) (by show aa (b++jI l[k].1)<=_;rw[aj,cC];omega)];simp only[ah,bt,ZR];rw[N.iY aq];rfl
 .right;obtain rfl:k=aa (l):=aq;intro R M O;rw[Sv,aL aq,al];simp only[BY,I7,ab,ay,dr]
def az2:(u6.kA 0 uK):=by
 refine(u6.lS 0 uK) (λ(b,l,n,i)=>aa (l) - ae i) ?_
 rintro⟨b,l,n,i⟩ ⟨j,k,I,rfl,rfl,A,u,B⟩;have j:aa (l)<=1000000000:=j;have I:k<=aa (l):=I;have A:aa l<=64:=A;have u:∀x∈l,aa x.2.1.2.1<=12/\x.2.1.1<=9223372036854775807:=u;have B:aa b<=100000+1000*k:=B;by_cases h:k < aa (l)
 .left;have n1:nth fK l k=l[k]:=bG (t:=fK) h;have J:bj k l=l[k]::bj (k+1) l:=ak h;refine⟨((aMi b l[k]),l,(aa (l):Int),((k+1:Nat):Int)),⟨j,k+1,aq,rfl,rfl,A,u,by have:=bcx b l[k] (u _ (aD h)).1;omega⟩,by simp only[ab];omega,?_,λK L=> ?_⟩
  .simp only[bt,Sr,ab,J,bN]
  .rw[Ss,aN aq,aS aq aq,ab,n1];simp only[ai];have e:=u _ (aD h);have M:=dQ b l[k].2.1.1;have O:=dQ (cZ b l[k].2.1.1) l[k].2.1.2.1.length;have T:=apX l[k].2.1.2.1 (cZ (cZ b l[k].2.1.1) l[k].2.1.2.1.length);rw[kG (d:=(b,l[k].2.1.1)) ⟨by show aa b<=_;omega,e.2⟩];simp only[ah,bt,sr];rw[kG (d:=(cZ b l[k].2.1.1,(l[k].2.1.2.1.length:Int))) ⟨by show aa (cZ b l[k].2.1.1)<=_;omega,by show(l[k].2.1.2.1.length:Int)<=_;omega⟩];simp only[ah,bt,sr];rw[asN (d:=(cZ (cZ b l[k].2.1.1) l[k].2.1.2.1.length,l,aa l,k,l[k].2.1.2.1,l[k].2.1.2.1.length,0,l[k])) ⟨by show l[k].2.1.2.1.length<=_;omega,0,az _,rfl,rfl,e.1,by show aa (cZ (cZ b l[k].2.1.1) l[k].2.1.2.1.length)<=_;omega⟩];simp only[ah,BY,I7,aW,aH];rw[KH (d:=(l[k].2.1.2.1.foldl apV (cZ (cZ b l[k].2.1.1) l[k].2.1.2.1.length),l[k].2.1.2.2.1)) (by show aa (l[k].2.1.2.1.foldl apV (cZ (cZ b l[k].2.1.1) l[k].2.1.2.1.length))<=_;omega)];simp only[ah,bt,ZR];rw[N.iY aq];rfl
 .right;obtain rfl:k=aa (l):=aq;intro R K L;rw[Ss,aL aq,al];simp only[bt,Sr,ab,ay,dr]
def aTM:u6.Ok:=by
 intro t j;have j:mE t:=j;rw[aTL,tv (d:=t) j.1];simp only[ah,bt,vG,bt,Sq,aL4];cases u:ig t
 .rfl
 .obtain⟨⟨_,A,J,_⟩,B,K⟩:=iW u;have L:=Yg u j;rw[aqt (d:=t) ⟨u,j⟩];simp only[bW,al,bQ,ah,bt,aqs];rw[asL (d:=(zg t,t.1,aa t.1,0)) ⟨by show aa t.1<=_;omega,0,az _,rfl,rfl,A,λx I=>by have:=C1 (ma _ _ B x I);exact⟨this.2.2.2.2,aq⟩,by show aa (zg t)<=_;omega⟩];rfl
def YG:u6.RS:=rE [.d eU] u6
def afT:=u6.eQ aTM 2 ⟨.eg az2,⟨.eg az3,trivial⟩⟩
abbrev acX:=Nat×(List gb)×Int×Int×(List bO)
def aqE:acX->Prop:=λ(L,l,n,i,r)=>aa (l)<=1000000/\∃k:Nat,k<=aa (l)/\i=k/\n=aa (l)/\L=aa (r)/\aa (r)<=1000000+k
def Fk:acX->(Nat×(List bO)):=λ(L,l,n,i,r)=>(L+aa (bj (ae i) l),r++(bj (ae i) l).map (λx:gb=>x.1))
def aGp:di->Prop:=λt=>bkz t
def T6:di->(List bO):=λt=>dG t
def K5(j):=(.vec 38 bK j:aF)
def qJ:Ls aqE bt Fk:=rI (λ(B,I,u,A,j)=>⟨([bB,bB,uJ 19 B]++aP 6 ((aa8 I u A)++aP 10 [])),[],(bz 19 [dp (K5 j),[],[]])⟩) (λx=>(.exit 0,⟨([bB,bB,uJ 19 x.1]++aP 19 []),[],(bz 19 [dp (K5 x.2),[],[]])⟩))
def wu:Fs prog aGp bt T6:=eP 145 f145 (λt=>([.d eU t],[])) (λx=>⟨.d (.slice bK) x,[],[]⟩) [aw eU] [ym] {loops:=ko [(4,{aX:=[2,9,10,11],sites:=[19],owns:=[⟨2,[],19,46⟩]})],outs:=km [(4,{aX:=[2],sites:=[19]},{aX:=[2]})],eT:=jW [(4,qJ.E)],res:=[aw (.slice bK)]}
def aqF:qJ.RS:=rL [.n,.d (.slice fK),.d ti,.d ti,.d (.slice bK)] qJ
def O7(B I A j u)(J:K2 R)(K:K3 R):wu.R 0 qJ (B,I,A,j,u) J K=aA (fj j A) (aA (dB j (aa I:Int)) (aA (decide (B<=(aa u))) (aA (cM (B+1) 40) (J (qJ.st ((B+1),I,A,(bC .i64 j 1),((aJ B u)++ [(nth fK I (ae j)).1])))) aC) aC) aC) (qJ.go K (B,u)):=bS
def aLZ(t)(k:K1 R):wu.A t k=ao (jv.call t) λu=>aA (!u) (k (wu.out ([]:List bO))) (ao (qJ.call (0,t.1,(aa t.1:Int),0,([]:List bO))) λj=>aA (decide (0=0/\(0+j.1)<=(aa j.2))) (k (wu.out (cut j.2 0 j.1))) aC):=bS
def asX:(wu.kA 0 qJ):=by
 refine(wu.lS 0 qJ) (λ(L,l,n,i,r)=>aa (l) - ae i) ?_
 rintro⟨L,l,n,i,r⟩ ⟨j,k,u,rfl,rfl,rfl,A⟩;have j:aa (l)<=1000000:=j;have u:k<=aa (l):=u;have A:aa (r)<=1000000+k:=A;by_cases h:k < aa (l)
 .left;have n1:nth fK l k=l[k]:=bG (t:=fK) h;have B:bj k l=l[k]::bj (k+1) l:=ak h;refine⟨(aa (r)+1,l,(aa (l):Int),((k+1:Nat):Int),r++ [(λx:gb=>x.1) l[k]]),⟨j,k+1,aq,rfl,rfl,by rw[aj];rfl,by rw[aj];show aa (r)+1<=_;omega⟩,by simp only[ab];omega,?_,λI J=> ?_⟩
  .simp only[bt,Fk,ab,B,cq,aB,aR,cv];rw[show ∀a c:Nat,a+1+c=a+(c+1) from λa c=>aq]
  .rw[O7,aN aq,aS (show(0:Int)<=(k:Int) by omega) aq,ab,n1];simp only[ai];rw[aK (ax _),cg aq aq,N.iY aq,bI];rfl
 .right;obtain rfl:k=aa (l):=aq;intro R I J;rw[O7,aL aq,al];simp only[bt,Fk,ab,ay,gm,bm,bl,bY]
def aL0:wu.Ok:=by
 intro t j;have j:bkz t:=j;rw[aLZ,tv (d:=t) j];simp only[ah,bt,vG,bt,T6,dG];cases u:ig t
 .rfl
 .obtain⟨⟨_,A,B,_⟩,I,J⟩:=iW u;rw[aqF (d:=(0,t.1,aa t.1,0,[])) ⟨by show aa t.1<=_;omega,0,az _,rfl,rfl,rfl,az _⟩];simp only[bW,al,bQ,ah,bt,Fk,aW,aH,bf,aO];rw[aK ⟨by trivial,by rw[cz];exact ax _⟩,ai,dM (by rw[cz])]
def aiJ:wu.RS:=rE [.d eU] wu
def aqG:=wu.eQ aL0 1 ⟨.eg asX,trivial⟩
abbrev aqq:=Nat×Int×Int×Bs×(List bO)
def az4:aqq->Prop:=λ(L,n,i,id,r)=>∃k m:Nat,k<=m/\i=k/\n=m/\m<=1000/\L=aa r/\L=k
def NR:aqq->(Nat×(List bO)):=λ(L,n,i,id,r)=>(L+(n - i).toNat,r++y8 id i.toNat (n - i).toNat)
def aTN:di->Prop:=λt=>mE t
def akg:di->(List bO):=λt=>gI t
def zV:Ls az4 bt NR:=rI (λ(B,u,A,n3,j)=>⟨([bB,bB,uJ 21 B,eI 3]++aP 8 ((qY u A)++aP 10 [])),[],([[],[],[],dp (fW n3)]++bz 17 [dp (K5 j),[],[]])⟩) (λx=>(.exit 0,⟨([bB,bB,uJ 21 x.1]++aP 21 []),[],(bz 21 [dp (K5 x.2),[],[]])⟩))
def O6:Fs prog aTN bt akg:=eP 183 f183 (λt=>([.d eU t],[])) (λx=>⟨.d (.slice bK) x,[],[]⟩) [aw eU] [aqo,ym] {loops:=ko [(5,{aX:=[2,3,12,13],sites:=[3,21],owns:=[⟨2,[],21,46⟩]})],outs:=km [(5,{aX:=[2],sites:=[21]},{aX:=[2]})],eT:=jW [(5,zV.E)],res:=[aw (.slice bK)]}
def az5:zV.RS:=rL [.n,.d ti,.d ti,.d tB,.d (.slice bK)] zV
def Wb(B A u n3 j)(I:K2 R)(J:K3 R):O6.R 0 zV (B,A,u,n3,j) I J=aA (fj u A) (aA (decide (B<=(aa j))) (aA (cM (B+1) 40) (I (zV.st ((B+1),A,(bC .i64 u 1),n3,((aJ B j)++ [(n3,(u,()))])))) aC) aC) (zV.go J (B,j)):=bS
def bbW(t)(k:K1 R):O6.A t k=ao (tid.call t) λu=>ao (jv.call t) λA=>aA (!A) (k (O6.out ([]:List bO))) (ao (zV.call (0,(aa t.2.1:Int),0,u,([]:List bO))) λj=>aA (decide (0=0/\(0+j.1)<=(aa j.2))) (k (O6.out (cut j.2 0 j.1))) aC):=bS
def aRk(id:List Int)(k n:Nat):aa (y8 id k n)=n:=by simp[y8]
def XS(id:List Int)(k n:Nat):y8 id k (n+1)=(id,((k:Int),()))::y8 id (k+1) n:=by unfold y8;rw[List.range'_succ,cq]
def aGg:(O6.kA 0 zV):=by
 refine(O6.lS 0 zV) (λ(L,n,i,id,r)=>(n - i).toNat) ?_
 rintro⟨L,n,i,id,r⟩ ⟨k,m,K,rfl,rfl,B,rfl,j⟩;have j:aa r=k:=j;by_cases h:k < m
 .left;have u:((m:Int) - (k:Int)).toNat=(m - (k+1))+1:=aq;have A:((m:Int) - ((k+1:Nat):Int)).toNat=m - (k+1):=aq;refine⟨(aa r+1,(m:Int),((k+1:Nat):Int),id,r++ [(id,((k:Int),()))]),⟨k+1,m,aq,rfl,rfl,B,by rw[aj];rfl,by show aa r+1=_;omega⟩,by show((m:Int) - ((k+1:Nat):Int)).toNat < ((m:Int) - (k:Int)).toNat;omega,?_,λI J=> ?_⟩
  .simp only[bt,NR,u,A,ab,XS,aR,cv];rw[show aa r+1+(m - (k+1))=aa r+(m - (k+1)+1) by omega]
  .rw[Wb,aN aq,aK (ax _),cg aq aq,N.iY aq,bI];rfl
 .right;obtain rfl:k=m:=aq;intro R I J;rw[Wb,aL aq,al];simp only[bt,NR,Int.sub_self,aW,bY];rw[show y8 id (k:Int).toNat 0=[] from rfl,bm]
def bbX:O6.Ok:=by
 intro t j;have j:mE t:=j;rw[bbW,acR (d:=t) j,tv (d:=t) j.1];simp only[ah,bt,aqn,bt,vG,bt,akg,gI];cases A:ig t
 .rfl
 .obtain⟨⟨_,B,I,_⟩,J,K⟩:=iW A;have u:=aRk (mw t) 0 (aa t.2.1);rw[az5 (d:=(0,aa t.2.1,0,mw t,[])) ⟨0,aa t.2.1,az _,rfl,rfl,aq,rfl,rfl⟩];simp only[bW,al,bQ,ah,bt,NR,tG,ab,aW,bf,aO];rw[aK ⟨by trivial,by rw[u];exact ax _⟩,ai,dM u]
def awc:O6.RS:=rE [.d eU] O6
def aGh:=O6.eQ bbX 1 ⟨.eg aGg,trivial⟩
end Go.Ab
end
