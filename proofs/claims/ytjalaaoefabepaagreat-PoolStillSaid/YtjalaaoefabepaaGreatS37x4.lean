/-
  Made short by a program of mine (wip/tools/mini.py).
-/
import Derived.Test.YtjalaaoefabepaaGreatS37x3
import Derived.Test.YtjalaaoefabepaaGreatProg
set_option linter.unusedVariables false
set_option linter.unusedSimpArgs false
set_option maxRecDepth 100000
set_option synthInstance.maxSize 5000
open List renaming replicate->ae,set->dZ,take->aJ,drop->bt
open BitVec renaming ofInt->bn
open Int renaming toNat->ab
open Or renaming inr->ej,inl->jH
open Option renaming some->aj,none->aF
open Bool renaming true->aL,false->aS
noncomputable section
variable {R:Type}
namespace Go.Ab
open Go.Proofs
def aaH:Bs->Prop:=λb=>4<=b.length
def anX:Bs->Int:=λb=>vw (aSe (b.getD 0 0) (b.getD 1 0) (b.getD 2 0) (b.getD 3 0))
def binary:Fs Tryz.prog aaH bz anX:=fu 162 Tryz.f162 (λb=>([.d tB b],[])) (λx=>⟨.d (.int .u32) x,[],[]⟩) [aj tB]
theorem azr(b)(k:K1 R):binary.A b k=aG (eE 0 (b.length:Int)) (aG (eE 1 (b.length:Int)) (aG (eE 2 (b.length:Int)) (aG (eE 3 (b.length:Int)) (k (binary.out (db .or .u32 (db .or .u32 (db .or .u32 (nk .u32 (dO .u32 (nth tb b 0)) 24) (nk .u32 (dO .u32 (nth tb b 1)) 16)) (nk .u32 (dO .u32 (nth tb b 2)) 8)) (dO .u32 (nth tb b 3))))) aF) aF) aF) aF:=cf
theorem azs:binary.Ok:=by intro b h;have h:4<=b.length:=h;rw[azr,aZ au au,aZ au au,aZ au au,aZ au au];simp only[ak,axX,SD,rP];rfl
theorem as2:binary.RS:=rE [.d tB] binary
def azt:=binary.fI azs
def rl(w:W)(k:Nat):W:=w <<< k ||| w >>> (32 - k)
def aep:(Int×Int)->Prop:=λ(x,k)=>0<=x/\x < 4294967296
def aJz:(Int×Int)->Int:=λ(x,k)=>vw (rl (bn 32 x) (k%32).toNat)
def rb:Fs Tryz.prog aep bz aJz:=fu 150 Tryz.f150 (λ(x,kv)=>([.d (.int .u32) x,.d ti kv],[])) (λx=>⟨.d (.int .u32) x,[],[]⟩) [aj (.int .u32),aj ti]
theorem aCX(x kv)(k:K1 R):rb.A (x,kv) k=aG (nv (db .and .u64 (dO .u64 kv) 31)) (aG (nv (dG .u64 32 (db .and .u64 (dO .u64 kv) 31))) (k (rb.out (db .or .u32 (nk .u32 x (db .and .u64 (dO .u64 kv) 31)) (cq .u32 x (dG .u64 32 (db .and .u64 (dO .u64 kv) 31)))))) aF) aF:=cf
theorem aSd(k:Int):db .and .u64 (dO .u64 k) 31=k%32:=by have e:(31:Int)=vw (31:BitVec 64):=rfl;rw[Sx,e,azu];simp only;have:(31:BitVec 64)=BitVec.ofNat 64 (2^5 - 1):=rfl;unfold vw;rw[BitVec.toNat_and,uE,show(31:BitVec 64).toNat=2^5 - 1 from rfl,Nat.and_two_pow_sub_one_eq_mod];omega
theorem aCY:rb.Ok:=by
 rintro⟨x,k⟩ ⟨h1,h2⟩;have e1:dG .u64 32 (k%32)=32 - k%32:=by unfold dG;rw[wrap_u64,ix];omega
 have hx:x=vw (bn 32 x):=by rw[ix];omega
 rw[aCX,aSd,e1,vz au,vz au];simp only[ak];have e2:db .or .u32 (nk .u32 x (k%32)) (cq .u32 x (32 - k%32))=vw (rl (bn 32 x) (k%32).toNat):=by
  conv=>lhs;rw[hx]
  rw[SD,Ke,rP];simp only[rl];congr 3;omega
 rw[e2];rfl
theorem avZ:rb.RS:=rE [.d (.int .u32),.d ti] rb
def ajc:=rb.fI aCY
theorem ajb(w:W)(k:Int):rb.call (vw w,k)=aj (vw (rl w (k%32).toNat)):=by have h:aep (vw w,k):=⟨WK w,by have:=aKG w;simpa using this⟩;rw[avZ h];show aj (vw (rl (bn 32 (vw w)) (k%32).toNat))=_;rw[SV]
def aDt:Unit->Prop:=λ_=>True
def ay2:Unit->(List Int):=λ_=>VD
def table:Fs Tryz.prog aDt bz ay2:=fu 149 Tryz.f149 (λ_=>([],[])) (λx=>⟨.d (.arr 64 (.int .u32)) x,[],[]⟩) []
theorem aJ6(d)(k:K1 R):table.A d k=k (table.out [1116352408,1899447441,3049323471,3921009573,961987163,1508970993,2453635748,2870763221,3624381080,310598401,607225278,1426881987,1925078388,2162078206,2614888103,3248222580,3835390401,4022224774,264347078,604807628,770255983,1249150122,1555081692,1996064986,2554220882,2821834349,2952996808,3210313671,3336571891,3584528711,113926993,338241895,666307205,773529912,1294757372,1396182291,1695183700,1986661051,2177026350,2456956037,2730485921,2820302411,3259730800,3345764771,3516065817,3600352804,4094571909,275423344,430227734,506948616,659060556,883997877,958139571,1322822218,1537002063,1747873779,1955562222,2024104815,2227730452,2361852424,2428436474,2756734187,3204031479,3329325298]):=cf
theorem aJ7:table.Ok:=by intro d _;rw[aJ6];rfl
theorem aDu:table.RS:=rE [] table
def aJ8:=table.fI aJ7
def aAe:Unit->Prop:=λ_=>True
def axM:Unit->(List Int):=λ_=>uP.l
def first:Fs Tryz.prog aAe bz axM:=fu 127 Tryz.f127 (λ_=>([],[])) (λx=>⟨.d (.arr 8 (.int .u32)) x,[],[]⟩) []
theorem aF4(d)(k:K1 R):first.A d k=k (first.out [1779033703,3144134277,1013904242,2773480762,1359893119,2600822924,528734635,1541459225]):=cf
theorem aF6:first.Ok:=by intro d _;rw[aF4];rfl
theorem aAf:first.RS:=rE [] first
def aF7:=first.fI aF6
abbrev O9:=Bs×Int×(List Int)
def wl(l:List W):List Int:=l.map vw
def JO(l:List W):List Int:=wl l++ae (64 - l.length) 0
def IY(b:List Int)(k:Nat):List W:=if k<=16 then(words b).take k else aK5 (words b) (k - 16)
def Jq:O9->Prop:=λ(b,t8,n2)=>64<=b.length/\∃k:Nat,k<=64/\t8=k/\n2=JO (IY b k)
def F1:O9->(List Int):=λ(b,t8,n2)=>wl (sched b)
def Uj:Bs->Prop:=λb=>64<=b.length
def Q3:Bs->(List Int):=λb=>wl (sched b)
def kc:Ls Jq bz F1:=te (λ(gY,t8,n2)=>⟨([.d tB gY,bC,dP 2]++aQ 5 ([.d ti t8]++aQ 52 [])),[],([[],[],cJ (.d (.arr 64 (.int .u32)) n2)]++bk 58 [])⟩) (λx=>(.exit 0,⟨([bC,bC,dP 2]++aQ 58 []),[],([[],[],cJ (.d (.arr 64 (.int .u32)) x)]++bk 58 [])⟩))
def schedule:Fs Tryz.prog Uj bz Q3:=fu 148 Tryz.f148 (λb=>([.d tB b],[])) (λx=>⟨.d (.arr 64 (.int .u32)) x,[],[]⟩) [aj tB] [azt,ajc] {loops:=oI [(2,{aV:=[0,2,8],sites:=[2]})],outs:=oH [(2,{aV:=[2],sites:=[2]},{aV:=[2]})],fE:=pW [(2,kc.E)]}
theorem ZL:kc.RS:=rL [.d tB,.d ti,.d (.slice (.int .u32))] kc
theorem Hd(gY t8 n2)(kn:K2 R)(kx:K3 R):schedule.R 0 kc (gY,t8,n2) kn kx=aG (fL t8 64) (aG (fL t8 16) (aG (inc (gB .i64 4 t8) (gY.length:Int)) (al (binary.call (cut gY (ab (gB .i64 4 t8)) ((List.length gY) - (ab (gB .i64 4 t8))))) λx1=>aG (eE t8 64) (aG (decide ((ab t8) < (List.length n2))) (aG (decide ((((ab t8)*1)+0)=(0+((ab t8)*1)))) (aG (decide ((ab t8) < (List.length n2))) (kn (kc.st (gY,(bA .i64 t8 1),(dZ n2 (ab t8) x1)))) aF) aF) aF) aF) aF) (aG (eE (dG .i64 t8 15) 64) (aG (decide ((ab (dG .i64 t8 15)) < (List.length n2))) (aG (decide ((((ab (dG .i64 t8 15))*1)+0)=(0+((ab (dG .i64 t8 15))*1)))) (aG (eE (dG .i64 t8 2) 64) (aG (decide ((ab (dG .i64 t8 2)) < (List.length n2))) (aG (decide ((((ab (dG .i64 t8 2))*1)+0)=(0+((ab (dG .i64 t8 2))*1)))) (al (rb.call ((nth (.int .u32) n2 (ab (dG .i64 t8 15))),(-7))) λx2=>al (rb.call ((nth (.int .u32) n2 (ab (dG .i64 t8 15))),(-18))) λx3=>al (rb.call ((nth (.int .u32) n2 (ab (dG .i64 t8 2))),(-17))) λx4=>al (rb.call ((nth (.int .u32) n2 (ab (dG .i64 t8 2))),(-19))) λx5=>aG (eE (dG .i64 t8 16) 64) (aG (decide ((ab (dG .i64 t8 16)) < (List.length n2))) (aG (decide ((((ab (dG .i64 t8 16))*1)+0)=(0+((ab (dG .i64 t8 16))*1)))) (aG (eE (dG .i64 t8 7) 64) (aG (decide ((ab (dG .i64 t8 7)) < (List.length n2))) (aG (decide ((((ab (dG .i64 t8 7))*1)+0)=(0+((ab (dG .i64 t8 7))*1)))) (aG (eE t8 64) (aG (decide ((ab t8) < (List.length n2))) (aG (decide ((((ab t8)*1)+0)=(0+((ab t8)*1)))) (aG (decide ((ab t8) < (List.length n2))) (kn (kc.st (gY,(bA .i64 t8 1),(dZ n2 (ab t8) (bA .u32 (bA .u32 (bA .u32 (nth (.int .u32) n2 (ab (dG .i64 t8 16))) (db .xor .u32 (db .xor .u32 x2 x3) (cq .u32 (nth (.int .u32) n2 (ab (dG .i64 t8 15))) 3))) (nth (.int .u32) n2 (ab (dG .i64 t8 7)))) (db .xor .u32 (db .xor .u32 x4 x5) (cq .u32 (nth (.int .u32) n2 (ab (dG .i64 t8 2))) 10))))))) aF) aF) aF) aF) aF) aF) aF) aF) aF) aF) aF) aF) aF) aF) aF) aF)) (kc.go kx n2):=cf
theorem arO(b)(k:K1 R):schedule.A b k=al (kc.call (b,0,(ae 64 0))) λx6=>k (schedule.out x6):=cf
theorem asz(b:List Int)(k:Nat)(h:k<=64):(IY b k).length=k:=by
 unfold IY;split
 ·simp[e7];omega
 ·rw[DY,e7];omega
theorem aOe(b:List Int):IY b 64=sched b:=rfl
theorem aD4(b:List Int)(k:Nat)(h:k < 16):IY b (k+1)=IY b k++ [be b k]:=by unfold IY;rw[if_pos au,if_pos au,ir (by rw[e7];exact h)];simp[words]
theorem aKJ(b:List Int)(k:Nat)(h:16<=k):IY b (k+1)=ext (IY b k):=by
 unfold IY;rw[if_neg au];by_cases aUA:k=16
 ·subst aUA;rw[if_pos au,bG (by rw[e7];omega)];rfl
 ·rw[if_neg au,show k+1 - 16=(k - 16)+1 by omega];rfl
theorem ajR(l:List W)(h:l.length<=64):(JO l).length=64:=by simp[JO,wl];omega
theorem ML(l:List W)(i:Nat)(h:i < l.length):nth (.int .u32) (JO l) i=vw (l.getD i 0):=by unfold nth JO wl;rw[bS,List.getElem?_append_left (by simpa using h)];simp[h]
theorem ahJ(l:List W)(w:W)(h:l.length < 64):(JO l).set l.length (vw w)=JO (l++ [w]):=by unfold JO wl;rw[List.set_append_right _ _ (by simp)];simp only[List.length_map,Nat.sub_self,lz,ai,aE,bq];rw[show 64 - l.length=(64 - (l.length+(0+1)))+1 by omega,List.replicate_succ,List.set_cons_zero];simp
theorem asU(l:List W)(h:l.length=64):JO l=wl l:=by simp[JO,h]
theorem aPz(b:List Int)(k:Nat)(h:4*k+4<=b.length):aSe ((cut b (4*k) (b.length - 4*k)).getD 0 0) ((cut b (4*k) (b.length - 4*k)).getD 1 0) ((cut b (4*k) (b.length - 4*k)).getD 2 0) ((cut b (4*k) (b.length - 4*k)).getD 3 0)=be b k:=by
 have e:∀j,j < 4->(cut b (4*k) (b.length - 4*k)).getD j 0=b.getD (4*k+j) 0:=λj hj=>by unfold cut;rw[bS,bS,List.getElem?_take_of_lt au,kE]
 unfold be;rw[e 0 au,e 1 au,e 2 au,e 3 au,de]
theorem aeE:(schedule.kA 0 kc):=by
 refine(schedule.nN 0 kc) (λ(b,t8,n2)=>64 - t8.toNat) ?_
 rintro⟨b,t8,n2⟩ ⟨hb,k,hk,rfl,rfl⟩;have aRR:=asz b k hk;have axR:=ajR (IY b k) au;by_cases h:k < 64
 ·left;refine⟨(b,((k+1:Nat):Int),JO (IY b (k+1))),⟨hb,k+1,au,rfl,rfl⟩,by simp;omega,rfl,λkn kx=> ?_⟩;have e1:bA .i64 (k:Int) 1=((k+1:Nat):Int):=by rw[jn au au];omega
  have e2:ab (k:Int)=k:=au;rw[Hd,aT au];simp only[ak,e1,e2,axR,hZ,aU,de,cG];by_cases aUA:k < 16
  ·have e3:gB .i64 4 (k:Int)=((4*k:Nat):Int):=by rw[Kb au au];omega
   have e4:ab ((4*k:Nat):Int)=4*k:=au;rw[aT au,e3,C4 au au,e4,aZ au au,aI h];have hp:aaH (cut b (4*k) (b.length - 4*k)):=by show 4<=_;rw[HA au];omega
   simp only[ak,as2 hp,ah];have e5:bz (cut b (4*k) (b.length - 4*k)) (anX (cut b (4*k) (b.length - 4*k)))=vw (be b k):=by show vw (aSe _ _ _ _)=_;rw[aPz b k au]
   have e6:=ahJ (IY b k) (be b k) au;rw[aRR]at e6;rw[e5,e6,aD4 b k aUA]
  ·have a15:ab (dG .i64 (k:Int) 15)=k - 15:=by rw[gC au au];omega
   have a2:ab (dG .i64 (k:Int) 2)=k - 2:=by rw[gC au au];omega
   have a16:ab (dG .i64 (k:Int) 16)=k - 16:=by rw[gC au au];omega
   have a7:ab (dG .i64 (k:Int) 7)=k - 7:=by rw[gC au au];omega
   have i15:eE (dG .i64 (k:Int) 15) 64=aL:=aZ (by rw[gC au au];omega) (by rw[gC au au];omega);have i2:eE (dG .i64 (k:Int) 2) 64=aL:=aZ (by rw[gC au au];omega) (by rw[gC au au];omega);have i16:eE (dG .i64 (k:Int) 16) 64=aL:=aZ (by rw[gC au au];omega) (by rw[gC au au];omega);have i7:eE (dG .i64 (k:Int) 7) 64=aL:=aZ (by rw[gC au au];omega) (by rw[gC au au];omega);have i0:eE (k:Int) 64=aL:=aZ au au;have d15:decide (k - 15 < 64)=aL:=aI au;have d2:decide (k - 2 < 64)=aL:=aI au;have d16:decide (k - 16 < 64)=aL:=aI au;have d7:decide (k - 7 < 64)=aL:=aI au;have d0:decide (k < 64)=aL:=aI h;rw[aP au];simp only[ak,ao,a15,a2,a16,a7,i15,i2,i16,i7,i0,d15,d2,d16,d7,d0,ML (IY b k) (k - 15) au,ML (IY b k) (k - 2) au,ML (IY b k) (k - 16) au,ML (IY b k) (k - 7) au,ajb,ah,rP,Ke,Gx];have e6:=ahJ (IY b k) (aO7 (IY b k) k) au;rw[aRR]at e6;rw[aKJ b k au,ext,aRR,<-e6];rfl
 ·right;obtain rfl:k=64:=au;intro R kn kx;rw[Hd,aP au,asU _ aRR,aOe];simp only[ao,bz,F1]
theorem arP:schedule.Ok:=by intro b hb;have hp:Jq (b,0,ae 64 0):=⟨hb,0,au,rfl,rfl⟩;rw[arO,ZL hp];simp only[ah,bz,F1,bz,Q3]
theorem amH:schedule.RS:=rE [.d tB] schedule
def arQ:=schedule.fI arP 1 ⟨.eW aeE,trivial⟩
abbrev ace:=(List Int)×Int×(List Int)×(List Int)×(List Int)×(List Int)
def Qe:ace->(List Int)->(((List Int)×(List Int))×((List Int))):=λ(Sl,t18,n4,n5,n6,n7) y=>((Sl,n4),y)
abbrev ach:=(List Int)×Int×(List Int)×(List Int)
def HU:ach->(List Int)->(((List Int))×((List Int))):=λ(axQ,t104,tw,agf) y=>(tw,y)
def amX(l:List Int):St:=⟨bn 32 (l.getD 0 0),bn 32 (l.getD 1 0),bn 32 (l.getD 2 0),bn 32 (l.getD 3 0),bn 32 (l.getD 4 0),bn 32 (l.getD 5 0),bn 32 (l.getD 6 0),bn 32 (l.getD 7 0)⟩
theorem pY(s:St):amX s.l=s:=by obtain⟨a,b,c,d,e,f,g,h⟩:=s;simp[amX,St.l,SV]
def aKE(l:List Int):List W:=l.map (bn 32)
theorem IU(l:List W):aKE (wl l)=l:=by
 unfold aKE wl;rw[List.map_map];have:(bn 32∘vw)=(id:W->W):=by funext w;exact SV w
 rw[this,List.map_id]
def acg:ace->Prop:=λ(h,t,n4,n5,n6,n7)=>∃(s:St) (ws:List W) (k:Nat),h=s.l/\n5=wl ws/\ws.length=64/\k<=64/\t=k/\n6=VD/\n7=(rounds ws s k).l
def acf:ace->(List Int):=λ(h,t,n4,n5,n6,n7)=>(rounds (aKE n5) (amX h) 64).l
def aci:ach->Prop:=λ(h,t,n4,n7)=>n7.length=8/\∃k:Nat,k<=8/\t=k
def SN:ach->(List Int):=λ(h,t,n4,n7)=>from_ (λi x=>bA .u32 x (nth (.int .u32) h i)) t.toNat n7
def ald:((List Int)×Bs)->Prop:=λ(h,b)=>(∃s:St,h=s.l)/\64<=b.length
def ayb:((List Int)×Bs)->(List Int):=λ(h,b)=>(VK (amX h) b).l
def Fp:Ls acg Qe acf:=te (λ(Sl,t18,n4,n5,n6,n7)=>⟨([bC,bC,.dx (.arr 8 (.int .u32)) Sl,bC,dP 4,dP 5,dP 6,dP 7]++aQ 10 ([.d ti t18]++aQ 98 [])),[],(bk 4 ([cJ (.d (.arr 8 (.int .u32)) n4),cJ (.d (.arr 64 (.int .u32)) n5),cJ (.d (.arr 64 (.int .u32)) n6),cJ (.d (.arr 8 (.int .u32)) n7)]++bk 109 []))⟩) (λx=>(.exit 0,⟨([bC,bC,.dx (.arr 8 (.int .u32)) x.1.1,bC,dP 4,bC,bC,dP 7]++aQ 109 []),[],(bk 4 ([cJ (.d (.arr 8 (.int .u32)) x.1.2),[],[],cJ (.d (.arr 8 (.int .u32)) x.2)]++bk 109 []))⟩))
def HT:Ls aci HU SN:=te (λ(axQ,t104,tw,agf)=>⟨([bC,bC,.dx (.arr 8 (.int .u32)) axQ,bC,dP 4,bC,bC,dP 7]++aQ 96 ([.d ti t104]++aQ 12 [])),[],(bk 4 ([cJ (.d (.arr 8 (.int .u32)) tw),[],[],cJ (.d (.arr 8 (.int .u32)) agf)]++bk 109 []))⟩) (λx=>(.exit 2,⟨(aQ 4 ([dP 4,bC,bC,dP 7]++aQ 109 [])),[],(bk 4 ([cJ (.d (.arr 8 (.int .u32)) x.1),[],[],cJ (.d (.arr 8 (.int .u32)) x.2)]++bk 109 []))⟩))
def mix:Fs Tryz.prog ald bz ayb:=fu 128 Tryz.f128 (λ(h,b)=>([.d (.arr 8 (.int .u32)) h,.d tB b],[])) (λx=>⟨.d (.arr 8 (.int .u32)) x,[],[]⟩) [aj (.arr 8 (.int .u32)),aj tB] [arQ,aJ8,ajc] {loops:=oI [(4,{aV:=[2,4,5,6,7,18],sites:=[4,5,6,7]}),(13,{aV:=[2,4,7,104],sites:=[4,7]})],outs:=oH [(4,{aV:=[2,4,7],sites:=[4,7]},{aV:=[4]}),(13,{aV:=[4,7],sites:=[4,7]},{aV:=[4]})],fE:=pW [(4,Fp.E),(13,HT.E)]}
theorem aum:Fp.RS:=rL [.d (.arr 8 (.int .u32)),.d ti,.d (.slice (.int .u32)),.d (.slice (.int .u32)),.d (.slice (.int .u32)),.d (.slice (.int .u32))] Fp
theorem XE(Sl t18 n4 n5 n6 n7)(kn:K2 R)(kx:K3 R):mix.R 0 Fp (Sl,t18,n4,n5,n6,n7) kn kx=aG (fL t18 64) (aG (decide (4 < (List.length n7))) (al (rb.call ((nth (.int .u32) n7 4),(-6))) λx1=>aG (decide (4 < (List.length n7))) (al (rb.call ((nth (.int .u32) n7 4),(-11))) λx2=>aG (decide (4 < (List.length n7))) (al (rb.call ((nth (.int .u32) n7 4),(-25))) λx3=>aG (decide (7 < (List.length n7))) (aG (decide (6 < (List.length n7))) (aG (decide (4 < (List.length n7))) (aG (decide (5 < (List.length n7))) (aG (decide (6 < (List.length n7))) (aG (eE t18 64) (aG (decide ((ab t18) < (List.length n6))) (aG (decide ((((ab t18)*1)+0)=(0+((ab t18)*1)))) (aG (eE t18 64) (aG (decide ((ab t18) < (List.length n5))) (aG (decide ((((ab t18)*1)+0)=(0+((ab t18)*1)))) (aG (decide (0 < (List.length n7))) (al (rb.call ((nth (.int .u32) n7 0),(-2))) λx4=>aG (decide (0 < (List.length n7))) (al (rb.call ((nth (.int .u32) n7 0),(-13))) λx5=>aG (decide (0 < (List.length n7))) (al (rb.call ((nth (.int .u32) n7 0),(-22))) λx6=>aG (decide (0 < (List.length n7))) (aG (decide (1 < (List.length n7))) (aG (decide (2 < (List.length n7))) (aG (decide (0 < (List.length n7))) (aG (decide (1 < (List.length n7))) (aG (decide (0 < (List.length n7))) (aG (decide (1 < (List.length n7))) (aG (decide (2 < (List.length n7))) (aG (decide (3 < (List.length n7))) (aG (decide (4 < (List.length n7))) (aG (decide (5 < (List.length n7))) (aG (decide (6 < (List.length n7))) (kn (Fp.st (Sl,(bA .i64 t18 1),n4,n5,n6,[(bA .u32 (bA .u32 (bA .u32 (bA .u32 (bA .u32 (bA .u32 (nth (.int .u32) n7 7) (db .xor .u32 (db .xor .u32 x1 x2) x3)) (db .xor .u32 (nth (.int .u32) n7 6) (db .and .u32 (nth (.int .u32) n7 4) (db .xor .u32 (nth (.int .u32) n7 5) (nth (.int .u32) n7 6))))) (nth (.int .u32) n6 (ab t18))) (nth (.int .u32) n5 (ab t18))) (db .xor .u32 (db .xor .u32 x4 x5) x6)) (db .or .u32 (db .and .u32 (nth (.int .u32) n7 0) (nth (.int .u32) n7 1)) (db .and .u32 (nth (.int .u32) n7 2) (db .or .u32 (nth (.int .u32) n7 0) (nth (.int .u32) n7 1))))),(nth (.int .u32) n7 0),(nth (.int .u32) n7 1),(nth (.int .u32) n7 2),(bA .u32 (nth (.int .u32) n7 3) (bA .u32 (bA .u32 (bA .u32 (bA .u32 (nth (.int .u32) n7 7) (db .xor .u32 (db .xor .u32 x1 x2) x3)) (db .xor .u32 (nth (.int .u32) n7 6) (db .and .u32 (nth (.int .u32) n7 4) (db .xor .u32 (nth (.int .u32) n7 5) (nth (.int .u32) n7 6))))) (nth (.int .u32) n6 (ab t18))) (nth (.int .u32) n5 (ab t18)))),(nth (.int .u32) n7 4),(nth (.int .u32) n7 5),(nth (.int .u32) n7 6)]))) aF) aF) aF) aF) aF) aF) aF) aF) aF) aF) aF) aF) aF) aF) aF) aF) aF) aF) aF) aF) aF) aF) aF) aF) aF) aF) aF) aF) aF) (Fp.go kx ((Sl,n4),n7)):=cf
theorem aun:HT.RS:=rL [.d (.arr 8 (.int .u32)),.d ti,.d (.slice (.int .u32)),.d (.slice (.int .u32))] HT
theorem XF(axQ t104 tw agf)(kn:K2 R)(kx:K3 R):mix.R 1 HT (axQ,t104,tw,agf) kn kx=aG (fL t104 8) (aG (eE t104 8) (aG (decide ((ab t104) < (List.length agf))) (aG (decide ((((ab t104)*1)+0)=(0+((ab t104)*1)))) (aG (eE t104 8) (aG (eE t104 8) (aG (decide ((ab t104) < (List.length agf))) (aG (decide ((((ab t104)*1)+0)=(0+((ab t104)*1)))) (aG (decide ((ab t104) < (List.length agf))) (kn (HT.st (axQ,(bA .i64 t104 1),tw,(dZ agf (ab t104) (bA .u32 (nth (.int .u32) agf (ab t104)) (nth (.int .u32) axQ (ab t104))))))) aF) aF) aF) aF) aF) aF) aF) aF) (HT.go kx (tw,agf)):=cf
theorem aQF(h b)(k:K1 R):mix.A (h,b) k=al (schedule.call b) λx1=>al (table.call ()) λx2=>al (Fp.call (h,0,(ae 8 0),x1,x2,h)) λx9=>al (HT.call (x9.1.1,0,x9.1.2,x9.2)) λant=>k (mix.out ant.2):=cf
theorem St.apd(s:St):s.l.length=8:=rfl
theorem Xt:VD.length=64:=rfl
theorem apc(k:Nat)(h:k < 64):nth (.int .u32) VD k=vw (kw k):=by
 have hh:∀k:Fin 64,nth (.int .u32) VD k.val=vw (kw k.val):=by decide+kernel
 exact hh ⟨k,h⟩
theorem WL(ws:List W)(k:Nat)(h:k < ws.length):nth (.int .u32) (wl ws) k=vw (ws.getD k 0):=by unfold nth wl;simp[h]
theorem aYw(w:W):rl w ((-6:Int)%32).toNat=yo w 6:=rfl
theorem aVF(w:W):rl w ((-11:Int)%32).toNat=yo w 11:=rfl
theorem aVI(w:W):rl w ((-25:Int)%32).toNat=yo w 25:=rfl
theorem aYv(w:W):rl w ((-2:Int)%32).toNat=yo w 2:=rfl
theorem aVG(w:W):rl w ((-13:Int)%32).toNat=yo w 13:=rfl
theorem aVH(w:W):rl w ((-22:Int)%32).toNat=yo w 22:=rfl
theorem n0(s:St):nth (.int .u32) s.l 0=vw s.a:=rfl
theorem n1(s:St):nth (.int .u32) s.l 1=vw s.b:=rfl
theorem n2(s:St):nth (.int .u32) s.l 2=vw s.c:=rfl
theorem n3(s:St):nth (.int .u32) s.l 3=vw s.d:=rfl
theorem n4(s:St):nth (.int .u32) s.l 4=vw s.e:=rfl
theorem n5(s:St):nth (.int .u32) s.l 5=vw s.f:=rfl
theorem n6(s:St):nth (.int .u32) s.l 6=vw s.g:=rfl
theorem n7(s:St):nth (.int .u32) s.l 7=vw s.h:=rfl
theorem aA2:(mix.kA 0 Fp):=by
 refine(mix.nN 0 Fp) (λ(h,t,n4,n5,n6,n7)=>64 - t.toNat) ?_
 rintro⟨h,t,m4,m5,m6,m7⟩ ⟨s,ws,k,rfl,rfl,hw,hk,rfl,rfl,rfl⟩;by_cases iB:k < 64
 ·left;refine⟨(s.l,((k+1:Nat):Int),m4,wl ws,VD,(rounds ws s (k+1)).l),⟨s,ws,k+1,rfl,rfl,hw,au,rfl,rfl,rfl⟩,by simp;omega,rfl,λkn kx=> ?_⟩;have e1:bA .i64 (k:Int) 1=((k+1:Nat):Int):=by rw[jn au au];omega
  have e2:ab (k:Int)=k:=au;have aRR:(wl ws).length=64:=by simp[wl,hw]
  have d0:decide (k < 64)=aL:=aI iB;have i0:eE (k:Int) 64=aL:=aZ au au;rw[XE,aT au];generalize hv:rounds ws s k=v;simp only[e1,e2,hZ,aU,de,cG,ak,St.apd,Nat.reduceLT,Xt,aRR,d0,i0,n0,n1,n2,n3,n4,n5,n6,n7,ajb,ah,apc k iB,WL ws k au,rP,Gx,aYw,aVF,aVI,aYv,aVG,aVH];show kn _=kn (Fp.st (s.l,((k+1:Nat):Int),m4,wl ws,VD,(nN (rounds ws s k) (kw k) (ws.getD k 0)).l));rw[hv];rfl
 ·right;obtain rfl:k=64:=au;intro R kn kx;rw[XE,aP au];simp only[ao,Qe,acf,IU,pY]
theorem aA3:(mix.kA 1 HT):=by
 refine(mix.nN 1 HT) (λ(h,t,n4,n7)=>8 - t.toNat) ?_
 rintro⟨h,t,m4,m7⟩ ⟨hl,k,hk,rfl⟩;have hl:m7.length=8:=hl;have e2:ab (k:Int)=k:=au;have e3:ab ((k+1:Nat):Int)=k+1:=au;by_cases iB:k < 8
 ·left;have e1:bA .i64 (k:Int) 1=((k+1:Nat):Int):=by rw[jn au au];omega
  have hn:nth (.int .u32) m7 k=m7[k]:=cj (t:= .int .u32) au;refine⟨(h,((k+1:Nat):Int),m4,m7.set k (bA .u32 m7[k] (nth (.int .u32) h k))),⟨by simpa using hl,k+1,au,rfl⟩,by simp;omega,?_,λkn kx=> ?_⟩
  ·simp only[HU,SN,e2,e3];rw[MV (λi x=>bA .u32 x (nth (.int .u32) h i)) m7 k au]
  ·have d0:decide (k < 8)=aL:=aI iB;have i0:eE (k:Int) 8=aL:=aZ au au;rw[XF,aT au];simp only[e1,e2,hZ,aU,de,cG,ak,hl,d0,i0,hn]
 ·right;obtain rfl:k=8:=au;intro R kn kx;rw[XF,aP au];simp only[ao,HU,SN,e2];rw[Sf _ _ _ au]
theorem aQG:mix.Ok:=by
 rintro⟨h,b⟩ ⟨⟨s,rfl⟩,hb⟩;have hs:Uj b:=hb;have af0:(sched b).length=64:=by unfold sched;rw[DY,e7]
 have hp:acg (s.l,0,ae 8 0,wl (sched b),VD,s.l):=⟨s,sched b,0,rfl,rfl,af0,au,rfl,rfl,rfl⟩;rw[aQF,amH hs];simp only[ah,aDu (d:=()) trivial,bz,Q3,bz,ay2,aum hp,Qe,acf,IU,pY];have aOK:aci (s.l,0,ae 8 0,(rounds (sched b) s 64).l):=⟨rfl,0,au,rfl⟩;simp only[aun aOK,ah,HU,SN,bz,ayb,pY];unfold VK;generalize rounds (sched b) s 64=v;obtain⟨a1,b1,c1,d1,f1,g1,h1,i1⟩:=v;simp only[St.l,from_,List.mapIdx_cons,List.mapIdx_nil,aW,jG,bp,aU,Nat.reduceAdd];simp only[nth,List.getD_cons_zero,List.getD_cons_succ,Gx]
theorem ayc:mix.RS:=rE [.d (.slice (.int .u32)),.d tB] mix
def aQH:=mix.fI aQG 2 ⟨.eW aA2,⟨.eW aA3,trivial⟩⟩
theorem vu(n:Int)(k:Int)(h0:0<=k)(h1:k<=64):dO .u8 (cq .i64 n k)=n / 2^k.toNat%256:=by
 rw[Vv,ix,cq];have e:min k.toNat IntKind.i64.bits=k.toNat:=by simp only[IntKind.bits];omega
 rw[e,Int.fdiv_eq_ediv_of_nonneg _ (Int.le_of_lt (Int.pow_pos au))];rfl
theorem Hc{n:Nat}(h:n<=140737488355328):dd n 1=aL:=dk au au
def aaO:Bs->Prop:=λb=>b.length<=140737488355328
def JX:Bs->(Nat×(List Int)):=λb=>(b.length,b)
def CQ:Fs Tryz.prog aaO bz JX:=fu 126 Tryz.f126 (λsv=>([.d tB sv],[])) (λx=>⟨.cg (.new 0 0) 0 [] 0 0 x.1,[],[.obj 0 aS (.vec 5 tb x.2)]⟩) [aj tB] [] {bu:=[5],owns:=[⟨2,[],5,113⟩]}
theorem azJ(sv)(k:K1 R):CQ.A sv k=aG (decide (0 < (List.length sv))) (aG (dd (0+(List.length sv)) 1) (k (CQ.out ((0+(List.length sv)),((aJ 0 (ae 0 0))++sv)))) aF) (nd (k (CQ.out (0,([]:List Int)))) (aG (dd (0+(List.length sv)) 1) (k (CQ.out ((0+(List.length sv)),((aJ 0 (ae 0 0))++sv)))) aF)):=cf
theorem azK:CQ.Ok:=by
 intro b hb;have hr:dd b.length 1=aL:=Hc hb;rw[azJ];have e0:(aJ 0 (ae 0 0):List Int)=[]:=rfl;simp only[aU,hr,ak,e0,bm,bz,JX];by_cases h:0 < b.length
 ·simp only[aI h,ak]
 ·have:b=[]:=bD au;subst this;simp only[bq,HX,aN (gQ 0),ao]
theorem Py:CQ.RS:=rE [.d tB] CQ
def U8:=CQ.fI azK
def aAR:Int->Prop:=λ_=>True
def ax5:Int->(Nat×(List Int)):=λn=>(8,jA n)
def ab1:Fs Tryz.prog aAR bz ax5:=fu 86 Tryz.f86 (λn=>([.cT,.d ti n],[])) (λx=>⟨.cg (.new 0 0) 0 [] 0 0 x.1,[],[.obj 0 aS (.vec 5 tb x.2)]⟩) [aF,aj ti] [] {loops:=oI [(2,{aV:=[0,1,5],sites:=[16]})],outs:=oH [(2,{aV:=[0],sites:=[16]},{aV:=[4],sites:=[16]})],owns:=[⟨4,[],16,113⟩]} 12
theorem aG8(n)(k:K1 R):ab1.A n k=k (ab1.out (8,[(dO .u8 (cq .i64 n 56)),(dO .u8 (cq .i64 n 48)),(dO .u8 (cq .i64 n 40)),(dO .u8 (cq .i64 n 32)),(dO .u8 (cq .i64 n 24)),(dO .u8 (cq .i64 n 16)),(dO .u8 (cq .i64 n 8)),(dO .u8 (cq .i64 n 0))])):=cf
theorem asY(n:Int): [dO .u8 (cq .i64 n 56),dO .u8 (cq .i64 n 48),dO .u8 (cq .i64 n 40),dO .u8 (cq .i64 n 32),dO .u8 (cq .i64 n 24),dO .u8 (cq .i64 n 16),dO .u8 (cq .i64 n 8),dO .u8 (cq .i64 n 0)]=jA n:=by rw[vu n 56 au au,vu n 48 au au,vu n 40 au au,vu n 32 au au,vu n 24 au au,vu n 16 au au,vu n 8 au au,vu n 0 au au];simp[jA]
theorem aG9:ab1.Ok:=by intro n _;rw[aG8,asY];rfl
theorem aAS:ab1.RS:=rE [.d ti] ab1
def aHa:=ab1.aRc aBd aG9 1 ⟨.none cf,trivial⟩
def VH:(Nat×Int×Bs)->Prop:=λ(m,n,l)=>m=l.length/\l.length<=140737488355320
def aaa:(Nat×Int×Bs)->(Nat×(List Int)):=λ(m,n,l)=>(l.length+8,l++jA n)
def Xy:Fs Tryz.prog VH bz aaa:=fu 86 Tryz.f86 (λ(bL,n,o0)=>([.cg (.bW 0) 0 [] 0 0 bL,.d ti n],[.obj 0 aS (.vec 5 tb o0)])) (λx=>⟨.cg (.bW 0) 8 [] 0 0 x.1,[.obj 8 aS (.vec 5 tb x.2)],[]⟩) [aF,aj ti] [] {loops:=oI [(2,{aV:=[0,1,5],sites:=[16]})],outs:=oH [(2,{aV:=[0],sites:=[16]},{aV:=[4],sites:=[16]})]} 12
theorem aHb(bL n o0)(k:K1 R):Xy.A (bL,n,o0) k=aG (decide (bL<=(List.length o0))) (aG (dd (bL+1) 1) (aG (decide ((bL+1)<=(List.length ((aJ bL o0)++ [(dO .u8 (cq .i64 n 56))])))) (aG (dd ((bL+1)+1) 1) (aG (decide (((bL+1)+1)<=(List.length ((aJ (bL+1) ((aJ bL o0)++ [(dO .u8 (cq .i64 n 56))]))++ [(dO .u8 (cq .i64 n 48))])))) (aG (dd (((bL+1)+1)+1) 1) (aG (decide ((((bL+1)+1)+1)<=(List.length ((aJ ((bL+1)+1) ((aJ (bL+1) ((aJ bL o0)++ [(dO .u8 (cq .i64 n 56))]))++ [(dO .u8 (cq .i64 n 48))]))++ [(dO .u8 (cq .i64 n 40))])))) (aG (dd ((((bL+1)+1)+1)+1) 1) (aG (decide (((((bL+1)+1)+1)+1)<=(List.length ((aJ (((bL+1)+1)+1) ((aJ ((bL+1)+1) ((aJ (bL+1) ((aJ bL o0)++ [(dO .u8 (cq .i64 n 56))]))++ [(dO .u8 (cq .i64 n 48))]))++ [(dO .u8 (cq .i64 n 40))]))++ [(dO .u8 (cq .i64 n 32))])))) (aG (dd (((((bL+1)+1)+1)+1)+1) 1) (aG (decide ((((((bL+1)+1)+1)+1)+1)<=(List.length ((aJ ((((bL+1)+1)+1)+1) ((aJ (((bL+1)+1)+1) ((aJ ((bL+1)+1) ((aJ (bL+1) ((aJ bL o0)++ [(dO .u8 (cq .i64 n 56))]))++ [(dO .u8 (cq .i64 n 48))]))++ [(dO .u8 (cq .i64 n 40))]))++ [(dO .u8 (cq .i64 n 32))]))++ [(dO .u8 (cq .i64 n 24))])))) (aG (dd ((((((bL+1)+1)+1)+1)+1)+1) 1) (aG (decide (((((((bL+1)+1)+1)+1)+1)+1)<=(List.length ((aJ (((((bL+1)+1)+1)+1)+1) ((aJ ((((bL+1)+1)+1)+1) ((aJ (((bL+1)+1)+1) ((aJ ((bL+1)+1) ((aJ (bL+1) ((aJ bL o0)++ [(dO .u8 (cq .i64 n 56))]))++ [(dO .u8 (cq .i64 n 48))]))++ [(dO .u8 (cq .i64 n 40))]))++ [(dO .u8 (cq .i64 n 32))]))++ [(dO .u8 (cq .i64 n 24))]))++ [(dO .u8 (cq .i64 n 16))])))) (aG (dd (((((((bL+1)+1)+1)+1)+1)+1)+1) 1) (aG (decide ((((((((bL+1)+1)+1)+1)+1)+1)+1)<=(List.length ((aJ ((((((bL+1)+1)+1)+1)+1)+1) ((aJ (((((bL+1)+1)+1)+1)+1) ((aJ ((((bL+1)+1)+1)+1) ((aJ (((bL+1)+1)+1) ((aJ ((bL+1)+1) ((aJ (bL+1) ((aJ bL o0)++ [(dO .u8 (cq .i64 n 56))]))++ [(dO .u8 (cq .i64 n 48))]))++ [(dO .u8 (cq .i64 n 40))]))++ [(dO .u8 (cq .i64 n 32))]))++ [(dO .u8 (cq .i64 n 24))]))++ [(dO .u8 (cq .i64 n 16))]))++ [(dO .u8 (cq .i64 n 8))])))) (aG (dd ((((((((bL+1)+1)+1)+1)+1)+1)+1)+1) 1) (k (Xy.out (((((((((bL+1)+1)+1)+1)+1)+1)+1)+1),((aJ (((((((bL+1)+1)+1)+1)+1)+1)+1) ((aJ ((((((bL+1)+1)+1)+1)+1)+1) ((aJ (((((bL+1)+1)+1)+1)+1) ((aJ ((((bL+1)+1)+1)+1) ((aJ (((bL+1)+1)+1) ((aJ ((bL+1)+1) ((aJ (bL+1) ((aJ bL o0)++ [(dO .u8 (cq .i64 n 56))]))++ [(dO .u8 (cq .i64 n 48))]))++ [(dO .u8 (cq .i64 n 40))]))++ [(dO .u8 (cq .i64 n 32))]))++ [(dO .u8 (cq .i64 n 24))]))++ [(dO .u8 (cq .i64 n 16))]))++ [(dO .u8 (cq .i64 n 8))]))++ [(dO .u8 (cq .i64 n 0))])))) aF) aF) aF) aF) aF) aF) aF) aF) aF) aF) aF) aF) aF) aF) aF) aF:=cf
theorem aHc:Xy.Ok:=by rintro⟨m,n,l⟩ ⟨rfl,hl⟩;have hl:l.length<=140737488355320:=hl;rw[aHb];simp only[aB,cG,ak,bG,ai,aE,bq,aU];rw[Hc au,Hc au,Hc au,Hc au,Hc au,Hc au,Hc au,Hc au];simp only[ak,bz,aaa,<-asY,aM,na,bm]
theorem aiu:Xy.RS:=rE [.n,.d ti,.d tB] Xy
def apm:=Xy.aRc ajt aHc 1 ⟨.none cf,trivial⟩
abbrev Vr:=Bs×Nat×Bs×(List Int)
abbrev aij:=Nat×(List Int)
def Eh:Vr->aij->((Bs×Bs)×(Nat×(List Int))):=λ(gY,endL,n2,Hi) y=>((gY,n2),y)
abbrev Vs:=Bs×Nat×Bs×(List Int)×(List Int)
def Ek:Vs->(List Int)->((Nat×Bs×(List Int))×((List Int))):=λ(JF,PO,oJ,n4,acq) y=>((PO,oJ,acq),y)
abbrev Vt:=Bs×Bs×(List Int)
def El:Vt->(List Int)->((Bs)×((List Int))):=λ(endv,uV,tw) y=>(uV,y)
abbrev aik:=Int×Bs×(List Int)
def zc(n:Nat):Nat:=(120 - n%64)%64
def Xl:Vr->Prop:=λ(b,m,n2,l)=>m=l.length/\l.length+zc l.length<=140737488355328
def MX:Vr->aij:=λ(b,m,n2,l)=>(l.length+zc l.length,l++ae (zc l.length) 0)
def Xm:Vs->Prop:=λ(b,m,n2,h,l)=>∃s:St,h=s.l
def MY:Vs->(List Int):=λ(b,m,n2,h,l)=>(blocks (amX h) b).l
def Xn:Vt->Prop:=λ(b,n2,h)=>b.length%64=0/\∃s:St,h=s.l
def MZ:Vt->(List Int):=λ(b,n2,h)=>(blocks (amX h) b).l
def NR(h:List Int)(i:Nat)(_:Int):Int:=dO .u8 (cq .u32 (nth (.int .u32) h (i / 4)) ((24 - 8*(i%4):Nat):Int))
def Xo:aik->Prop:=λ(t,n2,h)=>n2.length=32/\h.length=8/\∃k:Nat,k<=32/\t=k
def M0:aik->Bs:=λ(t,n2,h)=>from_ (NR h) t.toNat n2
def ao0:Bs->Prop:=λb=>b.length<=140737488350000
def atL:Bs->Bs:=λb=>aRd b
def Bq:Ls Xl Eh MX:=te (λ(gY,endL,n2,Hi)=>⟨([.d tB gY,bC,dP 2,je 14 endL]++aQ 61 []),[],([[],[],cJ (.d tH n2)]++bk 11 ([cJ (.vec 5 tb Hi)]++bk 50 []))⟩) (λx=>(.exit 0,⟨([.d tB x.1.1,bC,dP 2,je 14 x.2.1]++aQ 61 []),[],([[],[],cJ (.d tH x.1.2)]++bk 11 ([cJ (.vec 5 tb x.2.2)]++bk 50 []))⟩))
def Br:Ls Xm Ek MY:=te (λ(JF,PO,oJ,n4,acq)=>⟨([.d tB JF,bC,dP 2,.cg (.new 14 0) 8 [] 0 0 PO,dP 4]++aQ 60 []),[],([[],[],cJ (.d tH oJ),[],cJ (.d (.arr 8 (.int .u32)) n4)]++bk 9 ([[.obj 8 aS (.vec 5 tb acq)]]++bk 50 []))⟩) (λx=>(.exit 2,⟨([bC,bC,dP 2,.cg (.new 14 0) 8 [] 0 0 x.1.1,dP 4]++aQ 60 []),[],([[],[],cJ (.d tH x.1.2.1),[],cJ (.d (.arr 8 (.int .u32)) x.2)]++bk 9 ([[.obj 8 aS (.vec 5 tb x.1.2.2)]]++bk 50 []))⟩))
def Bu:Ls Xn El MZ:=te (λ(endv,uV,tw)=>⟨([bC,bC,dP 2,.d tB endv,dP 4]++aQ 60 []),[],([[],[],cJ (.d tH uV),[],cJ (.d (.arr 8 (.int .u32)) tw)]++bk 60 [])⟩) (λx=>(.exit 4,⟨([bC,bC,dP 2,bC,dP 4]++aQ 60 []),[],([[],[],cJ (.d tH x.1),[],cJ (.d (.arr 8 (.int .u32)) x.2)]++bk 60 [])⟩))
def Bv:Ls Xo bz M0:=te (λ(t48,Dc,D5)=>⟨([bC,bC,dP 2,bC,dP 4]++aQ 43 ([.d ti t48]++aQ 16 [])),[],([[],[],cJ (.d tH Dc),[],cJ (.d (.arr 8 (.int .u32)) D5)]++bk 60 [])⟩) (λx=>(.exit 6,⟨([bC,bC,dP 2]++aQ 62 []),[],([[],[],cJ (.d tH x)]++bk 62 [])⟩))
def Gw:Fs Tryz.prog ao0 bz atL:=fu 87 Tryz.f87 (λb=>([.d tB b],[])) (λx=>⟨.d tH x,[],[]⟩) [aj tB] [U8,apm,aF7,aQH] {loops:=oI [(2,{aV:=[0,2,3],sites:=[2,14],owns:=[⟨3,[],14,113⟩]}),(6,{aV:=[0,2,3,4],sites:=[2,4,14]}),(9,{aV:=[2,3,4],sites:=[2,4],data:=[(3,tB)]}),(13,{aV:=[2,4,48],sites:=[2,4]})],outs:=oH [(2,{aV:=[0,2,3],sites:=[2,14]},{aV:=[2]}),(6,{aV:=[2,3,4],sites:=[2,4,14]},{aV:=[2]}),(9,{aV:=[2,4],sites:=[2,4]},{aV:=[2]}),(13,{aV:=[2],sites:=[2]},{aV:=[2]})],fE:=pW [(2,Bq.E),(6,Br.E),(9,Bu.E),(13,Bv.E)]}
theorem aoW:Bq.RS:=rL [.d tB,.n,.d tB,.d tB] Bq
theorem Sp(gY endL n2 Hi)(kn:K2 R)(kx:K3 R):Gw.R 0 Bq (gY,endL,n2,Hi) kn kx=aG (Cw (nM ((endL:Nat):Int) 64) 56) (aG (decide (endL<=(List.length Hi))) (aG (dd (endL+1) 1) (kn (Bq.st (gY,(endL+1),n2,((aJ endL Hi)++ [0])))) aF) aF) (Bq.go kx ((gY,n2),(endL,Hi))):=cf
theorem aoX:Br.RS:=rL [.d tB,.n,.d tB,.d (.slice (.int .u32)),.d tB] Br
theorem Sq(JF PO oJ n4 acq)(kn:K2 R)(kx:K3 R):Gw.R 1 Br (JF,PO,oJ,n4,acq) kn kx=aG (D4 (JF.length:Int) 64) (aG (inc 64 (JF.length:Int)) (al (mix.call (n4,(cut JF 0 64))) λx1=>aG (inc 64 (JF.length:Int)) (kn (Br.st ((cut JF 64 ((List.length JF) - 64)),PO,oJ,x1,acq))) aF) aF) (Br.go kx ((PO,oJ,acq),n4)):=cf
theorem aoY:Bu.RS:=rL [.d tB,.d tB,.d (.slice (.int .u32))] Bu
theorem Sr(endv uV tw)(kn:K2 R)(kx:K3 R):Gw.R 2 Bu (endv,uV,tw) kn kx=aG (Af (endv.length:Int) 0) (aG (inc 64 (endv.length:Int)) (al (mix.call (tw,(cut endv 0 64))) λx1=>aG (inc 64 (endv.length:Int)) (kn (Bu.st ((cut endv 64 ((List.length endv) - 64)),uV,x1))) aF) aF) (Bu.go kx (uV,tw)):=cf
theorem aoZ:Bv.RS:=rL [.d ti,.d tB,.d (.slice (.int .u32))] Bv
theorem Ss(t48 Dc D5)(kn:K2 R)(kx:K3 R):Gw.R 3 Bv (t48,Dc,D5) kn kx=aG (fL t48 32) (aG (eE (vS .i64 t48 4) 8) (aG (decide ((ab (vS .i64 t48 4)) < (List.length D5))) (aG (decide ((((ab (vS .i64 t48 4))*1)+0)=(0+((ab (vS .i64 t48 4))*1)))) (aG (nv (dG .i64 24 (gB .i64 8 (nM t48 4)))) (aG (eE t48 32) (aG (decide ((ab t48) < (List.length Dc))) (aG (decide ((((ab t48)*1)+0)=(0+((ab t48)*1)))) (aG (decide ((ab t48) < (List.length Dc))) (kn (Bv.st ((bA .i64 t48 1),(dZ Dc (ab t48) (dO .u8 (cq .u32 (nth (.int .u32) D5 (ab (vS .i64 t48 4))) (dG .i64 24 (gB .i64 8 (nM t48 4)))))),D5))) aF) aF) aF) aF) aF) aF) aF) aF) (Bv.go kx Dc):=cf
theorem aMd(b)(k:K1 R):Gw.A b k=aG (inc (dG .i64 (b.length:Int) (nM (b.length:Int) 64)) (b.length:Int)) (al (CQ.call (cut b (ab (dG .i64 (b.length:Int) (nM (b.length:Int) 64))) ((List.length b) - (ab (dG .i64 (b.length:Int) (nM (b.length:Int) 64)))))) λx1=>aG (decide (x1.1<=(List.length x1.2))) (aG (dd (x1.1+1) 1) (al (Bq.call (b,(x1.1+1),(ae 32 0),((aJ x1.1 x1.2)++ [128]))) λx2=>al (Xy.call (x2.2.1,(gB .i64 8 (x2.1.1.length:Int)),x2.2.2)) λx3=>al (first.call ()) λx4=>al (Br.call (x2.1.1,x3.1,x2.1.2,x4,x3.2)) λx6=>aG (decide (0=0/\(0+x6.1.1)<=(List.length x6.1.2.2))) (al (Bu.call ((cut x6.1.2.2 0 x6.1.1),x6.1.2.1,x6.2)) λx9=>al (Bv.call (0,x9.1,x9.2)) λant=>k (Gw.out ant)) aF) aF) aF) aF:=cf
theorem atM:(Gw.kA 0 Bq):=by
 refine(Gw.nN 0 Bq) (λ(b,m,n2,l)=>zc l.length) ?_
 rintro⟨b,m,n2,l⟩ ⟨rfl,hl⟩;have hl:l.length+zc l.length<=140737488355328:=hl;have hr:nM ((l.length:Nat):Int) 64=((l.length%64:Nat):Int):=by unfold nM;rw[im au];omega
 by_cases h:l.length%64=56
 ·right;intro R kn kx;have hz:zc l.length=0:=by unfold zc;omega
  rw[Sp,hr,cz au];simp only[ao,Eh,MX,hz,de,List.replicate_zero,bJ]
 ·left;have hz:zc l.length=zc (l.length+1)+1:=by unfold zc;omega
  refine⟨(b,l.length+1,n2,l++ [0]),⟨by simp,by simp only[ai,aE,bq,aU];omega⟩,by simp only[ai,aE,bq,aU];omega,?_,λkn kx=> ?_⟩
  ·simp only[Eh,MX,ai,aE,bq,aU,hz,aM,na,bm,List.replicate_succ];rw[show l.length+1+zc (l.length+1)=l.length+(zc (l.length+1)+1) by omega]
  ·rw[Sp,hr,eA au,Hc au];simp only[ak,aB,cG,bK]
theorem atN:(Gw.kA 1 Br):=by
 refine(Gw.nN 1 Br) (λ(b,m,n2,h,l)=>b.length) ?_
 rintro⟨b,m,n2,h,l⟩ ⟨s,rfl⟩;by_cases hb:64<=b.length
 ·left;have e1:cut b 64 (b.length - 64)=b.drop 64:=by unfold cut;rw[bG (by simp)]
  have e2:cut b 0 64=b.take 64:=rfl;have hp:ald (s.l,b.take 64):=⟨⟨s,rfl⟩,by simp;omega⟩;refine⟨(b.drop 64,m,n2,(VK s (b.take 64)).l,l),⟨_,rfl⟩,by simp;omega,?_,λkn kx=> ?_⟩
  ·simp only[Ek,MY,pY];rw[JT s b hb]
  ·rw[Sq,gA au,C4 au au,e1,e2];simp only[ak,ayc hp,ah,bz,ayb,pY]
 ·right;intro R kn kx;rw[Sq,eD au];simp only[ao,Ek,MY,pY];rw[Hn s b au]
theorem atO:(Gw.kA 2 Bu):=by
 refine(Gw.nN 2 Bu) (λ(b,n2,h)=>b.length) ?_
 rintro⟨b,n2,h⟩ ⟨hm,s,rfl⟩;have hm:b.length%64=0:=hm;by_cases hb:0 < b.length
 ·left;have e1:cut b 64 (b.length - 64)=b.drop 64:=by unfold cut;rw[bG (by simp)]
  have e2:cut b 0 64=b.take 64:=rfl;have hp:ald (s.l,b.take 64):=⟨⟨s,rfl⟩,by simp;omega⟩;refine⟨(b.drop 64,n2,(VK s (b.take 64)).l),⟨by simp;omega,_,rfl⟩,by simp;omega,?_,λkn kx=> ?_⟩
  ·simp only[El,MZ,pY];rw[JT s b au]
  ·rw[Sr,dj au,C4 au au,e1,e2];simp only[ak,ayc hp,ah,bz,ayb,pY]
 ·right;intro R kn kx;rw[Sr,cw au];simp only[ao,El,MZ,pY];rw[Hn s b au]
theorem atP:(Gw.kA 3 Bv):=by
 refine(Gw.nN 3 Bv) (λ(t,n2,h)=>32 - t.toNat) ?_
 rintro⟨t,m,h⟩ ⟨hl,h8,k,hk,rfl⟩;have hl:m.length=32:=hl;have h8:h.length=8:=h8;have e2:ab (k:Int)=k:=au;have e3:ab ((k+1:Nat):Int)=k+1:=au;by_cases iB:k < 32
 ·left;have e1:bA .i64 (k:Int) 1=((k+1:Nat):Int):=by rw[jn au au];omega
  have q4:vS .i64 (k:Int) 4=((k / 4:Nat):Int):=by
   have:(k:Int).tdiv 4=((k / 4:Nat):Int):=by rw[Int.tdiv_eq_ediv_of_nonneg au];omega
   unfold vS;rw[this,wk au au]
  have r4:nM (k:Int) 4=((k%4:Nat):Int):=by unfold nM;rw[im au];omega
  have s4:dG .i64 24 (gB .i64 8 ((k%4:Nat):Int))=((24 - 8*(k%4):Nat):Int):=by rw[Kb au au,gC au au];omega
  have e4:ab ((k / 4:Nat):Int)=k / 4:=au;refine⟨(((k+1:Nat):Int),m.set k (NR h k m[k]),h),⟨by simpa using hl,h8,k+1,au,rfl⟩,by simp;omega,?_,λkn kx=> ?_⟩
  ·simp only[bz,M0,e2,e3];rw[MV (NR h) m k au]
  ·have d0:decide (k < 32)=aL:=aI iB;have d1:decide (k / 4 < 8)=aL:=aI au;rw[Ss,aT au,q4,r4,s4,aZ au au,aZ au au,vz au];simp only[e1,e2,e4,hZ,aU,de,cG,ak,hl,h8,d0,d1,NR]
 ·right;obtain rfl:k=32:=au;intro R kn kx;rw[Ss,aP au];simp only[ao,bz,M0,e2];rw[Sf _ _ _ au]
theorem aBh(w:W):bn 8 (vw w)=w.setWidth 8:=by apply BitVec.eq_of_toNat_eq;rw[uE,BitVec.toNat_setWidth];unfold vw;omega
theorem aPI(w:W)(k:Int):dO .u8 (cq .u32 (vw w) k)=vw ((w >>> k.toNat).setWidth 8):=by rw[Ke,Vv,aBh]
theorem ayn(s:St):from_ (NR s.l) 0 (ae 32 0)=aMZ s:=by rw[abp];simp only[List.range_eq_range',List.range',bM,gW,NR,Nat.reduceAdd,Nat.reduceDiv,Nat.reduceMod,Nat.reduceMul,Nat.reduceSub,n0,n1,n2,n3,n4,n5,n6,n7,aPI];rfl
theorem aMe:Gw.Ok:=by
 intro b hb;have hb:b.length<=140737488350000:=hb;have hr:nM ((b.length:Nat):Int) 64=((b.length%64:Nat):Int):=by unfold nM;rw[im au];omega
 have hs:dG .i64 ((b.length:Nat):Int) ((b.length%64:Nat):Int)=((b.length - b.length%64:Nat):Int):=by rw[gC au au];omega
 have hn:ab ((b.length - b.length%64:Nat):Int)=b.length - b.length%64:=au;have hm:gB .i64 8 ((b.length:Nat):Int)=8*(b.length:Int):=Kb au au;generalize hq:b.length - b.length%64=q at hs hn;have hc:cut b q (b.length - q)=b.drop q:=by unfold cut;rw[bG (by simp)]
 have aKW:(b.drop q).length=b.length%64:=by simp;omega
 have p1:aaO (b.drop q):=by show(b.drop q).length<=_;omega
 rw[aMd,hr,hs,C4 au au,hn,hc];simp only[ak,Py p1,ah,bz,JX,aB,cG,bK];have p2:Xl (b,(b.drop q).length+1,ae 32 0,b.drop q++ [128]):=by refine⟨by simp,?_⟩;simp only[ai,aE,bq,zc];omega
 have hz:zc (b.drop q++ [128]).length=Dn b.length:=by simp only[ai,aE,bq,zc,Dn];omega
 rw[Hc au];simp only[ak,aoW p2,ah,Eh,MX,hm,hz];have hlen:(b.drop q++ [128]).length+Dn b.length=(b.drop q++ [128]++ae (Dn b.length) 0).length:=by rw[@ai _ (b.drop q++ [128]),dR]
 have p3:VH ((b.drop q++ [128]).length+Dn b.length,8*(b.length:Int),b.drop q++ [128]++ae (Dn b.length) 0):=by refine⟨hlen,?_⟩;simp only[ai,aE,bq,dR,Dn];omega
 have p4:Xm (b,(b.drop q++ [128]++ae (Dn b.length) 0).length+8,ae 32 0,uP.l,b.drop q++ [128]++ae (Dn b.length) 0++jA (8*(b.length:Int))):=⟨uP,rfl⟩;simp only[aiu p3,ah,bz,aaa,aAf (d:=()) trivial,bz,axM,aoX p4,Ek,MY,pY];generalize he:b.drop q++ [128]++ae (Dn b.length) 0++jA (8*(b.length:Int))=e;have Rk:(b.drop q++ [128]++ae (Dn b.length) 0).length+8=e.length:=by rw[<-he,@ai _ _ (jA _),cl]
 have aTV:e.length%64=0:=by rw[<-Rk];simp only[ai,aE,bq,dR,Dn,aKW];omega
 have aQc:cut e 0 ((b.drop q++ [128]++ae (Dn b.length) 0).length+8)=e:=by rw[Rk];unfold cut;rw[aO,bK]
 rw[aQc,Rk,aI ⟨trivial,au⟩];have p5:Xn (e,ae 32 0,(blocks uP b).l):=⟨aTV,blocks uP b,rfl⟩;have p6:Xo (0,ae 32 0,(blocks (blocks uP b) e).l):=⟨rfl,rfl,0,au,rfl⟩;simp only[ak,aoY p5,ah,El,MZ,pY,aoZ p6,bz,M0,bz,atL];rw[show ab 0=0 from rfl,ayn];have aQa:blocks uP (pad b)=blocks (blocks uP b) e:=by
  have h1:pad b=b.take q++e:=by rw[<-he];unfold pad;rw[aM,aM,<-aM (b.take q),eJ];rfl
  have h2:blocks uP b=blocks (blocks uP (b.take q)) (b.drop q):=by rw[<-NO _ _ _ (by simp;omega),eJ]
  rw[h1,NO _ _ _ (by simp;omega),h2,Hn _ (b.drop q) au]
 rw[aRd,aQa]
theorem aGA:Gw.RS:=rE [.d tB] Gw
def aMf:=Gw.fI aMe 4 ⟨.eW atM,⟨.eW atN,⟨.eW atO,⟨.eW atP,trivial⟩⟩⟩⟩
abbrev Vu:=Nat×(List Bs)×Int×Int×Bs×(List Int)
abbrev ail:=Nat×(List Int)
def Em:Vu->ail->((Bs)×(Nat×(List Int))):=λ(bL,t13,t14,t15,n4,I9) y=>(n4,y)
abbrev aGB:=ByteArray×(List Bs)
def Xp:Vu->Prop:=λ(m,ps,n,i,n4,l)=>m=l.length/\n=ps.length/\ps.length<=140737488350000/\∃k:Nat,k<=ps.length/\i=k/\l.length+(qj (ps.drop k)).length<=140737488350000
def M1:Vu->ail:=λ(m,ps,n,i,n4,l)=>(l.length+(qj (ps.drop i.toNat)).length,l++qj (ps.drop i.toNat))
def Sw:aGB->Prop:=λ(name,ps)=>(WE (bH name) ps).length<=140737488350000
def akN:aGB->Bs:=λ(name,ps)=>tag (bH name) ps
def Bw:Ls Xp Em M1:=te (λ(bL,t13,t14,t15,n4,I9)=>⟨(aQ 4 ([dP 4,je 10 bL]++aQ 7 ([.d (.slice tB) t13,.d ti t14,.d ti t15]++aQ 12 []))),[],(bk 4 ([cJ (.d tH n4)]++bk 5 ([cJ (.vec 5 tb I9)]++bk 17 [])))⟩) (λx=>(.exit 0,⟨(aQ 4 ([dP 4,je 10 x.2.1]++aQ 22 [])),[],(bk 4 ([cJ (.d tH x.1)]++bk 5 ([cJ (.vec 5 tb x.2.2)]++bk 17 [])))⟩))
def Zo:Fs Tryz.prog Sw bz akN:=fu 43 Tryz.f43 (λ(name,parts)=>([.d .str name,.d (.slice tB) parts],[])) (λx=>⟨.d tH x,[],[]⟩) [aj .str,aj (.slice tB)] [aHa,apm,aMf] {loops:=oI [(3,{aV:=[4,5,13,14,15],sites:=[4,10],owns:=[⟨5,[],10,113⟩]})],outs:=oH [(3,{aV:=[4,5],sites:=[4,10]},{aV:=[4]})],fE:=pW [(3,Bw.E)]}
theorem ao1:Bw.RS:=rL [.n,.d (.slice tB),.d ti,.d ti,.d tB,.d tB] Bw
theorem Sv(bL t13 t14 t15 n4 I9)(kn:K2 R)(kx:K3 R):Zo.R 0 Bw (bL,t13,t14,t15,n4,I9) kn kx=aG (fL t15 t14) (aG (eE t15 (t13.length:Int)) (al (Xy.call (bL,(((List.length (nth tB t13 (ab t15))):Nat):Int),I9)) λx1=>aG (decide (x1.1<=(List.length x1.2))) (aG (dd (x1.1+(List.length (nth tB t13 (ab t15)))) 1) (kn (Bw.st ((x1.1+(List.length (nth tB t13 (ab t15)))),t13,t14,(bA .i64 t15 1),n4,((aJ x1.1 x1.2)++(nth tB t13 (ab t15)))))) aF) aF) aF) (Bw.go kx (n4,(bL,I9))):=cf
theorem aMg(name parts)(k:K1 R):Zo.A (name,parts) k=al (ab1.call (((ByteArray.size name):Nat):Int)) λx1=>aG (decide (x1.1<=(List.length x1.2))) (aG (dd (x1.1+(List.length (bH name))) 1) (al (Bw.call ((x1.1+(List.length (bH name))),parts,(parts.length:Int),0,(ae 32 0),((aJ x1.1 x1.2)++(bH name)))) λx4=>aG (decide (0=0/\(0+x4.2.1)<=(List.length x4.2.2))) (al (Gw.call (cut x4.2.2 0 x4.2.1)) λx5=>k (Zo.out x5)) aF) aF) aF:=cf
theorem ajv(p:List Int)(ps:List (List Int)):qj (p::ps)=jA p.length++p++qj ps:=by simp[qj]
theorem ajw(ps:List (List Int))(k:Nat)(h:k < ps.length):qj (ps.drop k)=jA ps[k].length++ps[k]++qj (ps.drop (k+1)):=by rw[aq h,ajv]
theorem atQ:(Zo.kA 0 Bw):=by
 refine(Zo.nN 0 Bw) (λ(m,ps,n,i,n4,l)=>ps.length - i.toNat) ?_
 rintro⟨m,ps,n,i,n4,l⟩ ⟨rfl,rfl,P2,k,hk,rfl,hl⟩;have hl:l.length+(qj (ps.drop k)).length<=140737488350000:=hl;have hk:k<=ps.length:=hk;have e2:ab (k:Int)=k:=au;have e3:ab ((k+1:Nat):Int)=k+1:=au;by_cases h:k < ps.length
 ·left;have ht:=ajw ps k h;have hlen:(qj (ps.drop k)).length=8+ps[k].length+(qj (ps.drop (k+1))).length:=by rw[ht];simp only[ai,cl]
  have hn:nth (.slice (.int .u8)) ps k=ps[k]:=cj (t:= .slice (.int .u8)) h;have P2:ps.length<=140737488350000:=P2;have e1:bA .i64 (k:Int) 1=((k+1:Nat):Int):=by rw[jn au au];omega
  refine⟨((l++jA ps[k].length++ps[k]).length,ps,(ps.length:Int),((k+1:Nat):Int),n4,l++jA ps[k].length++ps[k]),⟨rfl,rfl,P2,k+1,by show k+1<=ps.length;omega,rfl,?_⟩,?_,?_,λkn kx=> ?_⟩
  ·show(l++jA ps[k].length++ps[k]).length+(qj (ps.drop (k+1))).length<=_;simp only[ai,cl];omega
  ·show ps.length - ab ((k+1:Nat):Int) < ps.length - ab (k:Int);omega
  ·simp only[Em,M1,e2,e3,ht,aM];simp only[ai,cl,fk]
  ·have p1:VH (l.length,(ps[k].length:Int),l):=⟨rfl,by show l.length<=_;omega⟩;rw[Sv,aT au,aZ au au,e1,e2];simp only[ak,hn,aiu p1,ah,bz,aaa];have aEb:(l++jA ps[k].length).length=l.length+8:=by simp[cl]
   rw[aEb,aI (aB _),Hc au];simp only[ak];rw[bG (by rw[aEb];omega)];simp only[ai,cl,fk]
 ·right;obtain rfl:k=ps.length:=au;intro R kn kx;rw[Sv,aP au];simp only[ao,Em,M1,e2,aH];simp[qj]
theorem aeX:∀ps:List (List Int),8*ps.length<=(qj ps).length
 |[]=>by simp[qj]
 |p::ps=>by rw[ajv];have:=aeX ps;simp only[ai,cl,aE];omega
theorem lP(s:ByteArray):(bH s).length=s.size:=by simp only[bH,List.length_map,eX];rfl
theorem aMh:Zo.Ok:=by
 rintro⟨name,ps⟩ hp;have hp:(jA (bH name).length++bH name++qj ps).length<=140737488350000:=hp;have hl:(jA (bH name).length++bH name++qj ps).length=8+(bH name).length+(qj ps).length:=by simp only[ai,cl]
 have P2:=aeX ps;have xr:((name.size:Nat):Int)=(((bH name).length:Nat):Int):=by rw[lP]
 rw[aMg,aAS (d:=((name.size:Nat):Int)) trivial,xr];simp only[ah,bz,ax5,cl,aB,cG,ak];rw[Hc au,bG (by rw[cl];omega)];have p2:Xp (8+(bH name).length,ps,(ps.length:Int),0,ae 32 0,jA ((bH name).length:Int)++bH name):=by refine⟨by simp only[ai,cl],rfl,by show ps.length<=_;omega,0,aK _,rfl,?_⟩;rw[aO];simp only[ai,cl];omega
 simp only[ak,ao1 p2,ah,Em,M1,aW,aO];have aGm:cut (jA ((bH name).length:Int)++bH name++qj ps) 0 ((jA ((bH name).length:Int)++bH name).length+(qj ps).length)=WE (bH name) ps:=by unfold cut;rw[aO,bG (by simp only[ai];omega)];rfl
 have p3:ao0 (WE (bH name) ps):=hp;rw[aI ⟨trivial,by simp only[ai];omega⟩,aGm];simp only[ak,aGA p3,ah,bz,atL,bz,akN,tag]
theorem abE:Zo.RS:=rE [.d .str,.d (.slice tB)] Zo
def akO:=Zo.fI aMh 1 ⟨.eW atQ,trivial⟩
def ajh:(Int×Int)->Prop:=λ(x,n)=>0<=x/\x < 4294967296/\0<=n/\n<=32
def aNH:(Int×Int)->Int:=λ(x,n)=>vw (yo (bn 32 x) n.toNat)
def re:Fs Tryz.prog ajh bz aNH:=fu 155 Tryz.f155 (λ(x,n)=>([.d (.int .u32) x,.d ti n],[])) (λx=>⟨.d (.int .u32) x,[],[]⟩) [aj (.int .u32),aj ti]
theorem aJI(x n)(k:K1 R):re.A (x,n) k=aG (nv n) (aG (nv (dG .i64 32 n)) (k (re.out (db .or .u32 (cq .u32 x n) (nk .u32 x (dG .i64 32 n))))) aF) aF:=cf
theorem aJJ:re.Ok:=by
 rintro⟨x,n⟩ ⟨h1,h2,h3,h4⟩;obtain⟨n,rfl⟩:=Int.eq_ofNat_of_zero_le h3;have hx:x=vw (bn 32 x):=by rw[ix];have h1:0<=x:=h1;have h2:x < 4294967296:=h2;omega
 have h4:(n:Int)<=32:=h4;rw[aJI];simp(disch:=omega) only[↓S1,↓if_pos,↓if_neg,if_pos,if_neg,bE,bp,S2];have e2:db .or .u32 (cq .u32 x (n:Int)) (nk .u32 x ((32 - n:Nat):Int))=vw (yo (bn 32 x) n):=by
  conv=>lhs;rw[hx]
  rw[SD,Ke,rP];simp only[yo,aa];rw[BitVec.or_comm]
 rw[e2];rfl
theorem aC2:re.RS:=rE [.d (.int .u32),.d ti] re
def arE:=re.fI aJJ
theorem DL(w:W){k:Int}(h:0<=k/\k<=32):re.call (vw w,k)=aj (vw (yo w k.toNat)):=by have h:ajh (vw w,k):=⟨WK w,by have:=aKG w;simpa using this,h.1,h.2⟩;rw[aC2 h];show aj (vw (yo (bn 32 (vw w)) k.toNat))=_;rw[SV]
def arp:Unit->Prop:=λ_=>True
def ai6:Unit->(List Int):=λ_=>uP.l
def Iz:Fs Tryz.prog arp bz ai6:=fu 134 Tryz.f134 (λ_=>([],[])) (λx=>⟨.d (.slice (.int .u32)) x,[],[]⟩) [] [] {bu:=[1],res:=[aj (.slice (.int .u32))]}
theorem avU(d)(k:K1 R):Iz.A d k=k (Iz.out [1779033703,3144134277,1013904242,2773480762,1359893119,2600822924,528734635,1541459225]):=cf
theorem avV:Iz.Ok:=by intro d _;rw[avU];rfl
theorem arq:Iz.RS:=rE [] Iz
def avW:=Iz.fI avV
def aCH:Unit->Prop:=λ_=>True
def ayT:Unit->(List Int):=λ_=>VD
def aec:Fs Tryz.prog aCH bz ayT:=fu 154 Tryz.f154 (λ_=>([],[])) (λx=>⟨.d (.slice (.int .u32)) x,[],[]⟩) [] [] {bu:=[1],res:=[aj (.slice (.int .u32))]}
theorem aJc(d)(k:K1 R):aec.A d k=k (aec.out [1116352408,1899447441,3049323471,3921009573,961987163,1508970993,2453635748,2870763221,3624381080,310598401,607225278,1426881987,1925078388,2162078206,2614888103,3248222580,3835390401,4022224774,264347078,604807628,770255983,1249150122,1555081692,1996064986,2554220882,2821834349,2952996808,3210313671,3336571891,3584528711,113926993,338241895,666307205,773529912,1294757372,1396182291,1695183700,1986661051,2177026350,2456956037,2730485921,2820302411,3259730800,3345764771,3516065817,3600352804,4094571909,275423344,430227734,506948616,659060556,883997877,958139571,1322822218,1537002063,1747873779,1955562222,2024104815,2227730452,2361852424,2428436474,2756734187,3204031479,3329325298]):=cf
theorem aJd:aec.Ok:=by intro d _;rw[aJc];rfl
theorem aCI:aec.RS:=rE [] aec
def aJe:=aec.fI aJd
abbrev IB:=Bs×Nat×(List Int)
abbrev Ub:=Nat×(List Int)
def w9:IB->Ub->((Bs)×(Nat×(List Int))):=λ(gY,outL,n6) y=>(gY,y)
abbrev Uc:=Nat×Int×Int×(List Int)
def LF:IB->Prop:=λ(b,m,l)=>m=l.length/\l.length+zc l.length<=140737488355328
def B7:IB->Ub:=λ(b,m,l)=>(l.length+zc l.length,l++ae (zc l.length) 0)
def LG:Uc->Prop:=λ(m,n,kv,l)=>0<=n/\n < 18446744073709551616/\∃j:Nat,j<=8/\kv=56 - 8*(j:Int)/\m=l.length/\l.length<=140737488355320+j
def B8:Uc->(Nat×(List Int)):=λ(m,n,kv,l)=>(l.length+(jA n).length - (7 - (kv / 8)).toNat,l++(jA n).drop (7 - (kv / 8)).toNat)
def YJ:Bs->Prop:=λb=>b.length<=140737488350000
def Wn:Bs->Bs:=λb=>pad b
def oS:Ls LF w9 B7:=te (λ(gY,outL,n6)=>⟨([.d tB gY,bC,bC,je 6 outL]++aQ 31 []),[],(bk 6 ([cJ (.vec 5 tb n6)]++bk 28 []))⟩) (λx=>(.exit 0,⟨([.d tB x.1,bC,bC,je 6 x.2.1]++aQ 31 []),[],(bk 6 ([cJ (.vec 5 tb x.2.2)]++bk 28 []))⟩))
def oT:Ls LG bz B8:=te (λ(uW,n,kv,aA7)=>⟨([bC,bC,bC,je 6 uW,.d tu n,.d ti kv]++aQ 29 []),[],(bk 6 ([cJ (.vec 5 tb aA7)]++bk 28 []))⟩) (λx=>(.exit 2,⟨([bC,bC,bC,je 6 x.1]++aQ 31 []),[],(bk 6 ([cJ (.vec 5 tb x.2)]++bk 28 []))⟩))
def sI:Fs Tryz.prog YJ bz Wn:=fu 133 Tryz.f133 (λb=>([.d tB b],[])) (λx=>⟨.d tB x,[],[]⟩) [aj tB] [] {bu:=[6],loops:=oI [(3,{aV:=[0,3],sites:=[6],owns:=[⟨3,[],6,113⟩]}),(7,{aV:=[3,4,5],sites:=[6],owns:=[⟨3,[],6,113⟩]})],outs:=oH [(3,{aV:=[0,3],sites:=[6]},{aV:=[2]}),(7,{aV:=[3],sites:=[6]},{aV:=[2]})],fE:=pW [(3,oS.E),(7,oT.E)],res:=[aj tB]}
theorem aev:oS.RS:=rL [.d tB,.n,.d tB] oS
theorem Jn(gY outL n6)(kn:K2 R)(kx:K3 R):sI.R 0 oS (gY,outL,n6) kn kx=aG (Cw (nM ((outL:Nat):Int) 64) 56) (aG (decide (outL<=(List.length n6))) (aG (dd (outL+1) 1) (kn (oS.st (gY,(outL+1),((aJ outL n6)++ [0])))) aF) aF) (oS.go kx (gY,(outL,n6))):=cf
theorem aew:oT.RS:=rL [.n,.d tu,.d ti,.d tB] oT
theorem Jo(uW n kv aA7)(kn:K2 R)(kx:K3 R):sI.R 1 oT (uW,n,kv,aA7) kn kx=aG (D4 kv 0) (aG (nv kv) (aG (decide (uW<=(List.length aA7))) (aG (dd (uW+1) 1) (kn (oT.st ((uW+1),n,(dG .i64 kv 8),((aJ uW aA7)++ [(dO .u8 (cq .u64 n kv))])))) aF) aF) aF) (oT.go kx (uW,aA7)):=cf
theorem av1(b)(k:K1 R):sI.A b k=aG (dd (0+(List.length b)) 1) (aG (decide ((0+(List.length b))<=(List.length ((aJ 0 (ae 0 0))++b)))) (aG (dd ((0+(List.length b))+1) 1) (al (oS.call (b,((0+(List.length b))+1),((aJ (0+(List.length b)) ((aJ 0 (ae 0 0))++b))++ [128]))) λx1=>al (oT.call (x1.2.1,(gB .u64 8 (dO .u64 (x1.1.length:Int))),56,x1.2.2)) λx2=>aG (decide (0=0/\(0+x2.1)<=(List.length x2.2))) (k (sI.out (cut x2.2 0 x2.1))) aF) aF) aF) aF:=cf
theorem agW:(sI.kA 0 oS):=by
 refine(sI.nN 0 oS) (λ(b,m,l)=>zc l.length) ?_
 rintro⟨b,m,l⟩ ⟨rfl,hl⟩;have hl:l.length+zc l.length<=140737488355328:=hl;by_cases h:l.length%64=56
 ·right;intro R kn kx;have hz:zc l.length=0:=by unfold zc;omega
  rw[Jn];simp(disch:=omega) only[↓S1,↓if_pos,↓if_neg,if_pos,if_neg,bE,bp,S2,w9,B7,hz,de,List.replicate_zero,bJ]
 ·left;have hz:zc l.length=zc (l.length+1)+1:=by unfold zc;omega
  refine⟨(b,l.length+1,l++ [0]),⟨by simp,by simp only[ai,aE,bq,aU];omega⟩,by simp only[ai,aE,bq,aU];omega,?_,λkn kx=> ?_⟩
  ·simp only[w9,B7,ai,aE,bq,aU,hz,aM,na,bm,List.replicate_succ];rw[show l.length+1+zc (l.length+1)=l.length+(zc (l.length+1)+1) by omega]
  ·rw[Jn];simp(disch:=omega) only[↓S1,↓if_pos,↓if_neg,if_pos,if_neg,bE,bp,S2,bK]
theorem anU(n:Int)(j:Nat)(h:j < 8):(jA n).drop j=n / 2^(56 - 8*j)%256::(jA n).drop (j+1):=by rcases(by omega:j=0\/j=1\/j=2\/j=3\/j=4\/j=5\/j=6\/j=7) with rfl | rfl | rfl | rfl | rfl | rfl | rfl | rfl <;> simp[jA]
theorem afx(n:Int)(k:Nat)(h1:k<=64):dO .u8 (cq .u64 n (k:Int))=n / 2^k%256:=by
 rw[Vv,ix,cq];have e:min (k:Int).toNat IntKind.u64.bits=k:=by simp only[IntKind.bits];omega
 rw[e,Int.fdiv_eq_ediv_of_nonneg _ (Int.le_of_lt (Int.pow_pos au))];rfl
theorem agX:(sI.kA 1 oT):=by
 refine(sI.nN 1 oT) (λ(m,n,kv,l)=>(kv+8).toNat) ?_
 rintro⟨m,n,kv,l⟩ ⟨h1,h2,j,hj,rfl,rfl,hl⟩;have hl:l.length<=140737488355320+j:=hl;have e1:(7 - ((56 - 8*(j:Int)) / 8)).toNat=j:=au;by_cases h:j < 8
 ·left;have e2:dG .i64 (56 - 8*(j:Int)) 8=56 - 8*((j+1:Nat):Int):=by rw[gC au au];omega
  have e3:(7 - ((56 - 8*((j+1:Nat):Int)) / 8)).toNat=j+1:=au;have e4:(56 - 8*(j:Int))=((56 - 8*j:Nat):Int):=au;refine⟨(l.length+1,n,56 - 8*((j+1:Nat):Int),l++ [n / 2^(56 - 8*j)%256]),⟨h1,h2,j+1,au,rfl,by simp,by simp only[ai,aE,bq];omega⟩,by simp only;omega,?_,λkn kx=> ?_⟩
  ·simp only[bz,B8,e1,e3,anU n j h,ai,aE,bq,aM,na,bm,cl];rw[show l.length+(0+1)+8 - (j+1)=l.length+8 - j by omega]
  ·rw[Jo,e2,e4,afx n _ au];simp(disch:=omega) only[↓S1,↓if_pos,↓if_neg,if_pos,if_neg,bE,bp,S2,bK]
 ·right;obtain rfl:j=8:=au;intro R kn kx;rw[Jo];simp(disch:=omega) only[↓S1,↓if_pos,↓if_neg,if_pos,if_neg,bE,bp,S2,bz,B8,e1];simp[jA]
theorem av2:sI.Ok:=by
 intro b hb;have hb:b.length<=140737488350000:=hb;have hz:zc (b++ [128]).length=Dn b.length:=by simp only[ai,aE,bq,zc,Dn];omega
 have aY5:Dn b.length < 64:=by unfold Dn;omega
 have p1:LF (b,b.length+1,b++ [128]):=⟨by simp,by rw[hz];simp only[ai,aE,bq] <;> omega⟩;have e1:dO .u64 ((b.length:Nat):Int)=((b.length:Nat):Int):=by rw[Sx,ix];omega
 have e2:gB .u64 8 ((b.length:Nat):Int)=8*(b.length:Int):=by unfold gB;rw[wrap_u64,ix];omega
 have e3:aJ b.length b=b:=bK;rw[av1];simp only[List.replicate_zero,List.take_nil,bm,aU,e1,e2,e3];simp(disch:=omega) only[↓S1,↓if_pos,↓if_neg,if_pos,if_neg,bE,bp,S2,aev p1,w9,B7,hz];have p2:LG ((b++ [128]).length+Dn b.length,8*(b.length:Int),56,b++ [128]++ae (Dn b.length) 0):=by refine⟨au,au,0,au,rfl,by simp only[ai,aE,bq,dR] <;> omega,?_⟩;simp only[ai,aE,bq,dR];omega
 simp(disch:=omega) only[↓S1,↓if_pos,↓if_neg,if_pos,if_neg,bE,bp,S2,e1,e2,aew p2,bz,B8];have e5:(7 - ((56:Int) / 8)).toNat=0:=eG;rw[e5,aO];have e6:(b++ [128]++ae (Dn b.length) 0).length+(jA (8*(b.length:Int))).length - 0=(b++ [128]++ae (Dn b.length) 0++jA (8*(b.length:Int))).length:=by rw[@ai _ _ (jA _)];omega
 rw[e6,if_pos (aB _)];unfold cut;rw[aO,bK];simp only[bz,Wn,pad,aM,na,bm]
theorem arz:sI.RS:=rE [.d tB] sI
def av3:=sI.fI av2 2 ⟨.eW agW,⟨.eW agX,trivial⟩⟩
abbrev YN:=Bs×Nat×Int×(List Int)
abbrev YO:=Nat×Int×(List Int)
def O7:YN->Prop:=λ(b,m,i,l)=>64<=b.length/\∃k:Nat,k<=16/\i=k/\k=m/\l=wl ((words b).take k)
def LJ:YN->(Nat×(List Int)):=λ(b,m,i,l)=>(16,wl (words b))
def O8:YO->Prop:=λ(m,i,l)=>∃ws:List W,16<=ws.length/\ws.length<=64/\l=wl ws/\m=ws.length/\i=(ws.length:Nat)
def ES:YO->(Nat×(List Int)):=λ(m,i,l)=>(64,wl (aK5 (aKE l) (64 - l.length)))
def aeB:Bs->Prop:=λb=>64<=b.length
def aeA:Bs->(List Int):=λb=>wl (sched b)
def sJ:Ls O7 bz LJ:=te (λ(gY,wL,i,aiI)=>⟨([.d tB gY,bC,bC,je 49 wL,.d ti i]++aQ 94 []),[],(bk 49 ([cJ (.vec 190 (.int .u32) aiI)]++bk 49 []))⟩) (λx=>(.exit 0,⟨([bC,bC,bC,je 49 x.1]++aQ 95 []),[],(bk 49 ([cJ (.vec 190 (.int .u32) x.2)]++bk 49 []))⟩))
def sK:Ls O8 bz ES:=te (λ(ZP,fK,xH)=>⟨([bC,bC,bC,je 49 ZP,bC,.d ti fK]++aQ 93 []),[],(bk 49 ([cJ (.vec 190 (.int .u32) xH)]++bk 49 []))⟩) (λx=>(.exit 2,⟨([bC,bC,bC,je 49 x.1]++aQ 95 []),[],(bk 49 ([cJ (.vec 190 (.int .u32) x.2)]++bk 49 []))⟩))
def yp:Fs Tryz.prog aeB bz aeA:=fu 153 Tryz.f153 (λb=>([.d tB b],[])) (λx=>⟨.d (.slice (.int .u32)) x,[],[]⟩) [aj tB] [arE] {loops:=oI [(3,{aV:=[0,3,4],sites:=[49],owns:=[⟨3,[],49,199⟩]}),(7,{aV:=[3,5],sites:=[49],owns:=[⟨3,[],49,199⟩]})],outs:=oH [(3,{aV:=[3],sites:=[49]},{aV:=[2]}),(7,{aV:=[3],sites:=[49]},{aV:=[2]})],fE:=pW [(3,sJ.E),(7,sK.E)],res:=[aj (.slice (.int .u32))]}
theorem agZ:sJ.RS:=rL [.d tB,.n,.d ti,.d (.slice (.int .u32))] sJ
theorem LK(gY wL i aiI)(kn:K2 R)(kx:K3 R):yp.R 0 sJ (gY,wL,i,aiI) kn kx=aG (fL i 16) (aG (eE (gB .i64 4 i) (gY.length:Int)) (aG (eE (bA .i64 (gB .i64 4 i) 1) (gY.length:Int)) (aG (eE (bA .i64 (gB .i64 4 i) 2) (gY.length:Int)) (aG (eE (bA .i64 (gB .i64 4 i) 3) (gY.length:Int)) (aG (decide (wL<=(List.length aiI))) (aG (dd (wL+1) 4) (kn (sJ.st (gY,(wL+1),(bA .i64 i 1),((aJ wL aiI)++ [(db .or .u32 (db .or .u32 (db .or .u32 (nk .u32 (dO .u32 (nth tb gY (ab (gB .i64 4 i)))) 24) (nk .u32 (dO .u32 (nth tb gY (ab (bA .i64 (gB .i64 4 i) 1)))) 16)) (nk .u32 (dO .u32 (nth tb gY (ab (bA .i64 (gB .i64 4 i) 2)))) 8)) (dO .u32 (nth tb gY (ab (bA .i64 (gB .i64 4 i) 3)))))])))) aF) aF) aF) aF) aF) aF) (sJ.go kx (wL,aiI)):=cf
theorem ag0:sK.RS:=rL [.n,.d ti,.d (.slice (.int .u32))] sK
theorem LL(ZP fK xH)(kn:K2 R)(kx:K3 R):yp.R 1 sK (ZP,fK,xH) kn kx=aG (fL fK 64) (aG (eE (dG .i64 fK 15) ((ZP:Nat):Int)) (aG (decide ((0+(ab (dG .i64 fK 15))) < (List.length xH))) (aG (decide ((((0+(ab (dG .i64 fK 15)))*1)+0)=(0+((ab (dG .i64 fK 15))*1)))) (aG (eE (dG .i64 fK 2) ((ZP:Nat):Int)) (aG (decide ((0+(ab (dG .i64 fK 2))) < (List.length xH))) (aG (decide ((((0+(ab (dG .i64 fK 2)))*1)+0)=(0+((ab (dG .i64 fK 2))*1)))) (al (re.call ((nth (.int .u32) xH (0+(ab (dG .i64 fK 15)))),7)) λx1=>al (re.call ((nth (.int .u32) xH (0+(ab (dG .i64 fK 15)))),18)) λx2=>al (re.call ((nth (.int .u32) xH (0+(ab (dG .i64 fK 2)))),17)) λx3=>al (re.call ((nth (.int .u32) xH (0+(ab (dG .i64 fK 2)))),19)) λx4=>aG (eE (dG .i64 fK 16) ((ZP:Nat):Int)) (aG (decide ((0+(ab (dG .i64 fK 16))) < (List.length xH))) (aG (decide ((((0+(ab (dG .i64 fK 16)))*1)+0)=(0+((ab (dG .i64 fK 16))*1)))) (aG (eE (dG .i64 fK 7) ((ZP:Nat):Int)) (aG (decide ((0+(ab (dG .i64 fK 7))) < (List.length xH))) (aG (decide ((((0+(ab (dG .i64 fK 7)))*1)+0)=(0+((ab (dG .i64 fK 7))*1)))) (aG (decide (ZP<=(List.length xH))) (aG (dd (ZP+1) 4) (kn (sK.st ((ZP+1),(bA .i64 fK 1),((aJ ZP xH)++ [(bA .u32 (bA .u32 (bA .u32 (nth (.int .u32) xH (0+(ab (dG .i64 fK 16)))) (db .xor .u32 (db .xor .u32 x1 x2) (cq .u32 (nth (.int .u32) xH (0+(ab (dG .i64 fK 15)))) 3))) (nth (.int .u32) xH (0+(ab (dG .i64 fK 7))))) (db .xor .u32 (db .xor .u32 x3 x4) (cq .u32 (nth (.int .u32) xH (0+(ab (dG .i64 fK 2)))) 10)))])))) aF) aF) aF) aF) aF) aF) aF) aF) aF) aF) aF) aF) aF) aF) (sK.go kx (ZP,xH)):=cf
theorem aC5(b)(k:K1 R):yp.A b k=al (sJ.call (b,0,0,([]:List Int))) λx1=>al (sK.call (x1.1,16,x1.2)) λant=>aG (decide (0=0/\(0+ant.1)<=(List.length ant.2))) (k (yp.out (cut ant.2 0 ant.1))) aF:=cf
theorem CE(ws:List W):(wl ws).length=ws.length:=by simp[wl]
theorem ay8(m:List W):∀n,aK5 (ext m) n=aK5 m (n+1)
 | 0=>rfl
 |n+1=>by rw[aK5,ay8 m n];rfl
theorem aPA(b:List Int)(k:Nat)(h:4*k+3 < b.length):be b k=aSe (nth (.int .u8) b (4*k)) (nth (.int .u8) b (4*k+1)) (nth (.int .u8) b (4*k+2)) (nth (.int .u8) b (4*k+3)):=rfl
theorem amF:(yp.kA 0 sJ):=by
 refine(yp.nN 0 sJ) (λ(b,m,i,l)=>16 - m) ?_
 rintro⟨b,m,i,l⟩ ⟨hb,k,hk,rfl,rfl,rfl⟩;have hb:64<=b.length:=hb;have hl:(wl ((words b).take k)).length=k:=by rw[CE,dw,e7];omega
 by_cases h:k < 16
 ·left;refine⟨(b,k+1,((k+1:Nat):Int),wl ((words b).take (k+1))),⟨hb,k+1,au,rfl,rfl,rfl⟩,by simp only;omega,rfl,λkn kx=> ?_⟩;rw[LK];simp(disch:=omega) only[↓S1,↓if_pos,↓if_neg,if_pos,if_neg,bE,bp,S2,hl,bG (vX hl)];rw[ir (by rw[e7];exact h)];simp only[axX,SD,rP,wl,lz,bM,gW];have e:(words b)[k]'(by rw[e7];exact h)=be b k:=by simp[words]
  rw[e,aPA b k au];rfl
 ·right;obtain rfl:k=16:=au;intro R kn kx;rw[LK];simp(disch:=omega) only[↓S1,↓if_pos,↓if_neg,if_pos,if_neg,bE,bp,S2,bz,LJ];rw[bG (by rw[e7];omega)]
theorem amG:(yp.kA 1 sK):=by
 refine(yp.nN 1 sK) (λ(m,i,l)=>64 - m) ?_
 rintro⟨m,i,l⟩ ⟨ws,h1,h2,rfl,rfl,rfl⟩;have hl:=CE ws;by_cases h:ws.length < 64
 ·left;refine⟨(ws.length+1,((ws.length+1:Nat):Int),wl (ext ws)),⟨ext ws,by rw[xT];omega,by rw[xT];omega,rfl,by rw[xT],by rw[xT]⟩,by simp only;omega,?_,λkn kx=> ?_⟩
  ·simp only[bz,ES,IU,CE,xT];rw[ay8,show 64 - (ws.length+1)+1=64 - ws.length by omega]
  ·rw[LL];simp(disch:=omega) only[↓S1,↓if_pos,↓if_neg,if_pos,if_neg,bE,bp,S2,hl,aU,hZ,de,WL ws _ (by omega:ws.length - 15 < ws.length),WL ws _ (by omega:ws.length - 2 < ws.length),WL ws _ (by omega:ws.length - 16 < ws.length),WL ws _ (by omega:ws.length - 7 < ws.length),DL,rP,Ke,Gx,bG (vX hl)];unfold ext wl;rw[lz];rfl
 ·right;have I5:ws.length=64:=au;intro R kn kx;rw[LL];simp(disch:=omega) only[↓S1,↓if_pos,↓if_neg,if_pos,if_neg,bE,bp,S2,bz,ES,hl,I5,IU,Nat.sub_self];rfl
theorem aC6:yp.Ok:=by
 intro b hb;have p1:O7 (b,0,0,[]):=⟨hb,0,au,rfl,rfl,rfl⟩;have p2:O8 (16,16,wl (words b)):=⟨words b,by rw[e7];omega,by rw[e7];omega,rfl,by rw[e7],by rw[e7];rfl⟩;have hs:(sched b).length=64:=by unfold sched;rw[DY,e7]
 rw[aC5];simp(disch:=omega) only[↓S1,↓if_pos,↓if_neg,if_pos,if_neg,bE,bp,S2,agZ p1,bz,LJ,ag0 p2,bz,ES,IU,CE,e7,aU,Nat.reduceSub];have e:aK5 (words b) 48=sched b:=rfl;rw[e,hs,if_pos (aB _)];unfold cut;rw[aO,bG (by rw[CE];omega)];simp only[bz,aeA]
theorem av9:yp.RS:=rE [.d tB] yp
def aC7:=yp.fI aC6 2 ⟨.eW amF,⟨.eW amG,trivial⟩⟩
abbrev Lw:=(List Int)×(List Int)×(List Int)×Nat×Int×(List Int)
abbrev YC:=Nat×(List Int)
def FY:Lw->YC->(((List Int))×(Nat×(List Int))):=λ(Sl,wv,kv,vL,i,sY) y=>(Sl,y)
abbrev Lz:=(List Int)×Nat×Int×(List Int)
def ze:Lz->(List Int)->((Nat)×((List Int))):=λ(axQ,anp,fK,Ol) y=>(anp,y)
def O3:Lw->Prop:=λ(h,wv,kv,m,i,l)=>∃(s:St) (ws:List W) (k:Nat),h=s.l/\wv=wl ws/\ws.length=64/\k<=64/\i=k/\kv=VD/\m=8/\l=(rounds ws s k).l
def Lx:Lw->YC:=λ(h,wv,kv,m,i,l)=>(8,(rounds (aKE wv) (amX h) 64).l)
def O4:Lz->Prop:=λ(h,m,i,l)=>h.length=8/\l.length=8/\m=8/\∃k:Nat,k<=8/\i=k
def EJ:Lz->(List Int):=λ(h,m,i,l)=>from_ (λi x=>bA .u32 x (nth (.int .u32) h i)) i.toNat l
def aeg:((List Int)×Bs)->Prop:=λ(h,b)=>(∃s:St,h=s.l)/\64<=b.length
def aef:((List Int)×Bs)->(List Int):=λ(h,b)=>(VK (amX h) b).l
def pL:Ls O3 FY Lx:=te (λ(Sl,wv,kv,vL,i,sY)=>⟨([.d (.slice (.int .u32)) Sl]++aQ 4 ([.d (.slice (.int .u32)) wv,.d (.slice (.int .u32)) kv,je 18 vL,.d ti i]++aQ 146 [])),[],(bk 18 ([cJ (.vec 190 (.int .u32) sY)]++bk 136 []))⟩) (λx=>(.exit 0,⟨([.d (.slice (.int .u32)) x.1]++aQ 6 ([je 18 x.2.1]++aQ 147 [])),[],(bk 18 ([cJ (.vec 190 (.int .u32) x.2.2)]++bk 136 []))⟩))
def sH:Ls O4 ze EJ:=te (λ(axQ,anp,fK,Ol)=>⟨([.d (.slice (.int .u32)) axQ]++aQ 6 ([je 18 anp]++aQ 6 ([.d ti fK]++aQ 140 []))),[],(bk 18 ([cJ (.vec 190 (.int .u32) Ol)]++bk 136 []))⟩) (λx=>(.exit 2,⟨(aQ 7 ([je 18 x.1]++aQ 147 [])),[],(bk 18 ([cJ (.vec 190 (.int .u32) x.2)]++bk 136 []))⟩))
def ym:Fs Tryz.prog aeg bz aef:=fu 135 Tryz.f135 (λ(h,b)=>([.d (.slice (.int .u32)) h,.d tB b],[])) (λx=>⟨.d (.slice (.int .u32)) x,[],[]⟩) [aj (.slice (.int .u32)),aj tB] [aC7,aJe,arE] {bu:=[18,137],loops:=oI [(5,{aV:=[0,5,6,7,8],sites:=[18,137],owns:=[⟨7,[],18,0⟩]}),(14,{aV:=[0,7,14],sites:=[18]})],outs:=oH [(5,{aV:=[0,7],sites:=[18]},{aV:=[4]}),(14,{aV:=[7],sites:=[18]},{aV:=[4]})],fE:=pW [(5,pL.E),(14,sH.E)],res:=[aj (.slice (.int .u32))]}
theorem agS:pL.RS:=rL [.d (.slice (.int .u32)),.d (.slice (.int .u32)),.d (.slice (.int .u32)),.n,.d ti,.d (.slice (.int .u32))] pL
theorem Ly(Sl wv kv vL i sY)(kn:K2 R)(kx:K3 R):ym.R 0 pL (Sl,wv,kv,vL,i,sY) kn kx=aG (fL i 64) (aG (eE 4 ((vL:Nat):Int)) (aG (decide (4 < (List.length sY))) (al (re.call ((nth (.int .u32) sY 4),6)) λx1=>aG (eE 4 ((vL:Nat):Int)) (aG (decide (4 < (List.length sY))) (al (re.call ((nth (.int .u32) sY 4),11)) λx2=>aG (eE 4 ((vL:Nat):Int)) (aG (decide (4 < (List.length sY))) (al (re.call ((nth (.int .u32) sY 4),25)) λx3=>aG (eE 4 ((vL:Nat):Int)) (aG (decide (4 < (List.length sY))) (aG (eE 5 ((vL:Nat):Int)) (aG (decide (5 < (List.length sY))) (aG (eE 4 ((vL:Nat):Int)) (aG (decide (4 < (List.length sY))) (aG (eE 6 ((vL:Nat):Int)) (aG (decide (6 < (List.length sY))) (aG (eE 7 ((vL:Nat):Int)) (aG (decide (7 < (List.length sY))) (aG (eE i (kv.length:Int)) (aG (eE i (wv.length:Int)) (aG (eE 0 ((vL:Nat):Int)) (aG (decide (0 < (List.length sY))) (al (re.call ((nth (.int .u32) sY 0),2)) λx4=>aG (eE 0 ((vL:Nat):Int)) (aG (decide (0 < (List.length sY))) (al (re.call ((nth (.int .u32) sY 0),13)) λx5=>aG (eE 0 ((vL:Nat):Int)) (aG (decide (0 < (List.length sY))) (al (re.call ((nth (.int .u32) sY 0),22)) λx6=>aG (eE 0 ((vL:Nat):Int)) (aG (decide (0 < (List.length sY))) (aG (eE 1 ((vL:Nat):Int)) (aG (decide (1 < (List.length sY))) (aG (eE 0 ((vL:Nat):Int)) (aG (decide (0 < (List.length sY))) (aG (eE 2 ((vL:Nat):Int)) (aG (decide (2 < (List.length sY))) (aG (eE 1 ((vL:Nat):Int)) (aG (decide (1 < (List.length sY))) (aG (eE 2 ((vL:Nat):Int)) (aG (decide (2 < (List.length sY))) (aG (eE 0 ((vL:Nat):Int)) (aG (decide (0 < (List.length sY))) (aG (eE 1 ((vL:Nat):Int)) (aG (decide (1 < (List.length sY))) (aG (eE 2 ((vL:Nat):Int)) (aG (decide (2 < (List.length sY))) (aG (eE 3 ((vL:Nat):Int)) (aG (decide (3 < (List.length sY))) (aG (eE 4 ((vL:Nat):Int)) (aG (decide (4 < (List.length sY))) (aG (eE 5 ((vL:Nat):Int)) (aG (decide (5 < (List.length sY))) (aG (eE 6 ((vL:Nat):Int)) (aG (decide (6 < (List.length sY))) (kn (pL.st (Sl,wv,kv,8,(bA .i64 i 1),[(bA .u32 (bA .u32 (bA .u32 (bA .u32 (bA .u32 (bA .u32 (nth (.int .u32) sY 7) (db .xor .u32 (db .xor .u32 x1 x2) x3)) (db .xor .u32 (db .and .u32 (nth (.int .u32) sY 4) (nth (.int .u32) sY 5)) (db .and .u32 (aMq .u32 (nth (.int .u32) sY 4)) (nth (.int .u32) sY 6)))) (nth (.int .u32) kv (ab i))) (nth (.int .u32) wv (ab i))) (db .xor .u32 (db .xor .u32 x4 x5) x6)) (db .xor .u32 (db .xor .u32 (db .and .u32 (nth (.int .u32) sY 0) (nth (.int .u32) sY 1)) (db .and .u32 (nth (.int .u32) sY 0) (nth (.int .u32) sY 2))) (db .and .u32 (nth (.int .u32) sY 1) (nth (.int .u32) sY 2)))),(nth (.int .u32) sY 0),(nth (.int .u32) sY 1),(nth (.int .u32) sY 2),(bA .u32 (nth (.int .u32) sY 3) (bA .u32 (bA .u32 (bA .u32 (bA .u32 (nth (.int .u32) sY 7) (db .xor .u32 (db .xor .u32 x1 x2) x3)) (db .xor .u32 (db .and .u32 (nth (.int .u32) sY 4) (nth (.int .u32) sY 5)) (db .and .u32 (aMq .u32 (nth (.int .u32) sY 4)) (nth (.int .u32) sY 6)))) (nth (.int .u32) kv (ab i))) (nth (.int .u32) wv (ab i)))),(nth (.int .u32) sY 4),(nth (.int .u32) sY 5),(nth (.int .u32) sY 6)]))) aF) aF) aF) aF) aF) aF) aF) aF) aF) aF) aF) aF) aF) aF) aF) aF) aF) aF) aF) aF) aF) aF) aF) aF) aF) aF) aF) aF) aF) aF) aF) aF) aF) aF) aF) aF) aF) aF) aF) aF) aF) aF) aF) aF) aF) aF) aF) aF) aF) aF) (pL.go kx (Sl,(vL,sY))):=cf
theorem agT:sH.RS:=rL [.d (.slice (.int .u32)),.n,.d ti,.d (.slice (.int .u32))] sH
theorem LA(axQ anp fK Ol)(kn:K2 R)(kx:K3 R):ym.R 1 sH (axQ,anp,fK,Ol) kn kx=aG (fL fK 8) (aG (eE fK ((anp:Nat):Int)) (aG (decide ((0+(ab fK)) < (List.length Ol))) (aG (decide ((((0+(ab fK))*1)+0)=(0+((ab fK)*1)))) (aG (eE fK (axQ.length:Int)) (aG (eE fK ((anp:Nat):Int)) (aG (decide ((0+(ab fK)) < (List.length Ol))) (aG (decide ((((0+(ab fK))*1)+0)=(0+((ab fK)*1)))) (aG (decide ((0+(ab fK)) < (List.length Ol))) (kn (sH.st (axQ,anp,(bA .i64 fK 1),(dZ Ol (0+(ab fK)) (bA .u32 (nth (.int .u32) Ol (0+(ab fK))) (nth (.int .u32) axQ (ab fK))))))) aF) aF) aF) aF) aF) aF) aF) aF) (sH.go kx (anp,Ol)):=cf
theorem aCJ(h b)(k:K1 R):ym.A (h,b) k=al (yp.call b) λx1=>al (aec.call ()) λx2=>aG (dd (0+(List.length h)) 4) (al (pL.call (h,x1,x2,(0+(List.length h)),0,((aJ 0 (ae 0 0))++h))) λaRx=>al (sH.call (aRx.1,aRx.2.1,0,aRx.2.2)) λpS=>aG (decide (0=0/\(0+pS.1)<=(List.length pS.2))) (k (ym.out (cut pS.2 0 pS.1))) aF) aF:=cf
theorem aGM(w:W):aMq .u32 (vw w)=vw (~~~w):=by have e:(if IntKind.u32.signed then -1 else IntKind.u32.max:Int)=vw (BitVec.allOnes 32):=rfl;unfold aMq;rw[e,rP];simp only[BitVec.allOnes_xor]
theorem aSg(e f g:W):(e &&& f)^^^(~~~e &&& g)=g^^^(e &&& (f^^^g)):=by
 ext i hi
 simp only[BitVec.getElem_xor,BitVec.getElem_and,BitVec.getElem_not];cases e[i] <;> cases f[i] <;> cases g[i] <;> rfl
theorem aQD(a b c:W):(a &&& b)^^^(a &&& c)^^^(b &&& c)=(a &&& b) ||| (c &&& (a ||| b)):=by
 ext i hi
 simp only[BitVec.getElem_xor,BitVec.getElem_and,BitVec.getElem_or];cases a[i] <;> cases b[i] <;> cases c[i] <;> rfl
theorem amw:(ym.kA 0 pL):=by
 refine(ym.nN 0 pL) (λ(h,wv,kv,m,i,l)=>64 - i.toNat) ?_
 rintro⟨h,wv,kv,m,i,l⟩ ⟨s,ws,k,rfl,rfl,hw,hk,rfl,rfl,rfl,rfl⟩;by_cases iB:k < 64
 ·left;refine⟨(s.l,wl ws,VD,8,((k+1:Nat):Int),(rounds ws s (k+1)).l),⟨s,ws,k+1,rfl,rfl,hw,au,rfl,rfl,rfl,rfl⟩,by simp only;omega,rfl,λkn kx=> ?_⟩;rw[Ly];generalize hv:rounds ws s k=v;have t1:∀w:W,re.call (vw w,6)=aj (vw (yo w 6)):=λw=>DL w au
  have t2:∀w:W,re.call (vw w,11)=aj (vw (yo w 11)):=λw=>DL w au
  have t3:∀w:W,re.call (vw w,25)=aj (vw (yo w 25)):=λw=>DL w au
  have t4:∀w:W,re.call (vw w,2)=aj (vw (yo w 2)):=λw=>DL w au
  have t5:∀w:W,re.call (vw w,13)=aj (vw (yo w 13)):=λw=>DL w au
  have t6:∀w:W,re.call (vw w,22)=aj (vw (yo w 22)):=λw=>DL w au
  rw[n0,n1,n2,n3,n4,n5,n6,n7,t1,ah,t2,ah,t3,ah,t4,ah,t5,ah,t6,ah];simp(disch:=omega) only[↓S1,↓if_pos,↓if_neg,if_pos,if_neg,bE,bp,S2,St.apd,Xt,CE,hw,apc k iB,WL ws k au,rP,Gx,aGM,aSg,aQD];show kn _=kn (pL.st (s.l,wl ws,VD,8,((k+1:Nat):Int),(nN (rounds ws s k) (kw k) (ws.getD k 0)).l));rw[hv];rfl
 ·right;obtain rfl:k=64:=au;intro R kn kx;rw[Ly];simp(disch:=omega) only[↓S1,↓if_pos,↓if_neg,if_pos,if_neg,bE,bp,S2,FY,Lx,IU,pY]
theorem amx:(ym.kA 1 sH):=by
 refine(ym.nN 1 sH) (λ(h,m,i,l)=>8 - i.toNat) ?_
 rintro⟨h,m,i,l⟩ ⟨hh,hl,rfl,k,hk,rfl⟩;have hl:l.length=8:=hl;have hh:h.length=8:=hh;by_cases iB:k < 8
 ·left;have hn:nth (.int .u32) l k=l[k]:=cj (t:= .int .u32) au;refine⟨(h,8,((k+1:Nat):Int),l.set k (bA .u32 l[k] (nth (.int .u32) h k))),⟨hh,by simpa using hl,rfl,k+1,au,rfl⟩,by simp only;omega,?_,λkn kx=> ?_⟩
  ·simp only[ze,EJ,aa];rw[MV (λi x=>bA .u32 x (nth (.int .u32) h i)) l k au]
  ·rw[LA];simp(disch:=omega) only[↓S1,↓if_pos,↓if_neg,if_pos,if_neg,bE,bp,S2,hl,hh,aU,hZ,de,hn]
 ·right;obtain rfl:k=8:=au;intro R kn kx;rw[LA];simp(disch:=omega) only[↓S1,↓if_pos,↓if_neg,if_pos,if_neg,bE,bp,S2,ze,EJ];rw[Sf _ _ _ au]
theorem aQE(s:St)(b:List Int):from_ (λi x=>bA .u32 x (nth (.int .u32) s.l i)) 0 (rounds (sched b) s 64).l=(VK s b).l:=by unfold VK;generalize rounds (sched b) s 64=v;obtain⟨a1,b1,c1,d1,f1,g1,h1,i1⟩:=v;simp only[St.l,from_,List.mapIdx_cons,List.mapIdx_nil,jG,bp,aU,Nat.reduceAdd];simp only[nth,List.getD_cons_zero,List.getD_cons_succ,Gx]
theorem aCK:ym.Ok:=by
 rintro⟨h,b⟩ ⟨⟨s,rfl⟩,hb⟩;have p0:aeB b:=hb;have af0:(sched b).length=64:=by unfold sched;rw[DY,e7]
 have p1:O3 (s.l,wl (sched b),VD,8,0,s.l):=⟨s,sched b,0,rfl,rfl,af0,au,rfl,rfl,rfl,rfl⟩;have p2:O4 (s.l,8,0,(rounds (sched b) s 64).l):=⟨rfl,rfl,rfl,0,au,rfl⟩;have e0:0+s.l.length=8:=rfl;have e1:aJ 0 (ae 0 (0:Int))++s.l=s.l:=rfl;rw[aCJ];simp(disch:=omega) only[↓S1,↓if_pos,↓if_neg,if_pos,if_neg,bE,bp,S2,av9 p0,bz,aeA,aCI (d:=()) trivial,bz,ayT,e0,e1,agS p1,FY,Lx,IU,pY,agT p2,ze,EJ,aW,aQE];have e2:(VK s b).l.length=8:=rfl;have e3:cut (VK s b).l 0 8=(VK s b).l:=rfl;simp only[e2,aU,aB,bE,e3,bz,aef,pY]
theorem avO:ym.RS:=rE [.d (.slice (.int .u32)),.d tB] ym
def aCL:=ym.fI aCK 2 ⟨.eW amw,⟨.eW amx,trivial⟩⟩
abbrev Wp:=Bs×(List Int)×Int×Bs
def EO:Wp->(List Int)->((Bs)×((List Int))):=λ(p,h,i,n2) y=>(n2,y)
abbrev Wq:=(List Int)×Int×Bs×Bs
def EP:Wq->Bs->((Bs)×(Bs)):=λ(Sl,fK,oJ,n6) y=>(oJ,y)
def YK:Wp->Prop:=λ(p,h,i,n2)=>p.length%64=0/\p.length<=140737488355328/\∃(s:St) (k:Nat),h=s.l/\i=((64*k:Nat):Int)/\64*k<=p.length
def Np:Wp->(List Int):=λ(p,h,i,n2)=>(blocks (amX h) (p.drop i.toNat)).l
def YL:Wq->Prop:=λ(h,i,n2,l)=>h.length=8/\l.length=32/\∃k:Nat,k<=32/\i=k
def Nq:Wq->Bs:=λ(h,i,n2,l)=>from_ (NR h) i.toNat l
def arC:Bs->Prop:=λb=>b.length<=140737488350000
def aQ6:Bs->Bs:=λb=>aRd b
def B9:Ls YK EO Np:=te (λ(p,h,i,n2)=>⟨([bC,bC,dP 2,.d tB p,.d (.slice (.int .u32)) h,.d ti i]++aQ 36 []),[],([[],[],cJ (.d tH n2)]++bk 39 [])⟩) (λx=>(.exit 0,⟨([bC,bC,dP 2,bC,.d (.slice (.int .u32)) x.2]++aQ 37 []),[],([[],[],cJ (.d tH x.1)]++bk 39 [])⟩))
def Ca:Ls YL EP Nq:=te (λ(Sl,fK,oJ,n6)=>⟨([bC,bC,dP 2,bC,.d (.slice (.int .u32)) Sl,bC,dP 6,.d ti fK]++aQ 34 []),[],([[],[],cJ (.d tH oJ),[],[],[],cJ (.d tH n6)]++bk 35 [])⟩) (λx=>(.exit 2,⟨([bC,bC,dP 2,bC,bC,bC,dP 6]++aQ 35 []),[],([[],[],cJ (.d tH x.1),[],[],[],cJ (.d tH x.2)]++bk 35 [])⟩))
def Wo:Fs Tryz.prog arC bz aQ6:=fu 96 Tryz.f96 (λb=>([.d tB b],[])) (λx=>⟨.d tH x,[],[]⟩) [aj tB] [av3,avW,aCL] {loops:=oI [(4,{aV:=[2,3,4,5],sites:=[2]}),(9,{aV:=[2,4,6,7],sites:=[2,6]})],outs:=oH [(4,{aV:=[2,4],sites:=[2]},{aV:=[2]}),(9,{aV:=[2,6],sites:=[2,6]},{aV:=[2]})],fE:=pW [(4,B9.E),(9,Ca.E)]}
theorem arA:B9.RS:=rL [.d tB,.d (.slice (.int .u32)),.d ti,.d tB] B9
theorem Ud(p h i n2)(kn:K2 R)(kx:K3 R):Wo.R 0 B9 (p,h,i,n2) kn kx=aG (fL i (p.length:Int)) (aG (inc (bA .i64 i 64) (p.length:Int)) (aG (inc i (((ab (bA .i64 i 64)):Nat):Int)) (al (ym.call (h,(cut p (ab i) ((ab (bA .i64 i 64)) - (ab i))))) λx1=>kn (B9.st (p,x1,(bA .i64 i 64),n2))) aF) aF) (B9.go kx (n2,h)):=cf
theorem arB:Ca.RS:=rL [.d (.slice (.int .u32)),.d ti,.d tB,.d tB] Ca
theorem Ue(Sl fK oJ n6)(kn:K2 R)(kx:K3 R):Wo.R 1 Ca (Sl,fK,oJ,n6) kn kx=aG (fL fK 32) (aG (eE (vS .i64 fK 4) (Sl.length:Int)) (aG (nv (dG .i64 24 (gB .i64 8 (nM fK 4)))) (aG (eE fK 32) (aG (decide ((ab fK) < (List.length n6))) (aG (decide ((((ab fK)*1)+0)=(0+((ab fK)*1)))) (aG (decide ((ab fK) < (List.length n6))) (kn (Ca.st (Sl,(bA .i64 fK 1),oJ,(dZ n6 (ab fK) (dO .u8 (cq .u32 (nth (.int .u32) Sl (ab (vS .i64 fK 4))) (dG .i64 24 (gB .i64 8 (nM fK 4))))))))) aF) aF) aF) aF) aF) aF) (Ca.go kx (oJ,n6)):=cf
theorem aNB(b)(k:K1 R):Wo.A b k=al (sI.call b) λx1=>al (Iz.call ()) λx2=>al (B9.call (x1,x2,0,(ae 32 0))) λx4=>al (Ca.call (x4.2,0,x4.1,(ae 32 0))) λx5=>k (Wo.out x5.2):=cf
theorem av4:(Wo.kA 0 B9):=by
 refine(Wo.nN 0 B9) (λ(p,h,i,n2)=>p.length - i.toNat) ?_
 rintro⟨p,h,i,n2⟩ ⟨hm,hb,s,k,rfl,rfl,hk⟩;have hm:p.length%64=0:=hm;have hb:p.length<=140737488355328:=hb;have hk:64*k<=p.length:=hk;by_cases iB:64*k < p.length
 ·left;have e1:cut p (64*k) (64*k+64 - 64*k)=(p.drop (64*k)).take 64:=by unfold cut;rw[show 64*k+64 - 64*k=64 by omega]
  have e2:(p.drop (64*k)).drop 64=p.drop (64*(k+1)):=by rw[gO];congr 1
  have e3:(64*(k+1):Nat)=64*k+64:=au;have p1:aeg (s.l,(p.drop (64*k)).take 64):=⟨⟨s,rfl⟩,by simp;omega⟩;refine⟨(p,(VK s ((p.drop (64*k)).take 64)).l,((64*(k+1):Nat):Int),n2),⟨hm,hb,_,k+1,rfl,rfl,au⟩,by simp only[aa];omega,?_,λkn kx=> ?_⟩
  ·simp only[EO,Np,pY,aa];rw[JT s (p.drop (64*k)) (by simp;omega),e2]
  ·rw[Ud];simp(disch:=omega) only[↓S1,↓if_pos,↓if_neg,if_pos,if_neg,bE,bp,S2,e1,avO p1,bz,aef,pY,e3]
 ·right;intro R kn kx;rw[Ud];simp(disch:=omega) only[↓S1,↓if_pos,↓if_neg,if_pos,if_neg,bE,bp,S2,EO,Np,pY];rw[Hn s _ (by simp;omega)]
theorem av5:(Wo.kA 1 Ca):=by
 refine(Wo.nN 1 Ca) (λ(h,i,n2,l)=>32 - i.toNat) ?_
 rintro⟨h,i,n2,l⟩ ⟨h8,hl,k,hk,rfl⟩;have hl:l.length=32:=hl;have h8:h.length=8:=h8;by_cases iB:k < 32
 ·left;refine⟨(h,((k+1:Nat):Int),n2,l.set k (NR h k l[k])),⟨h8,by simpa using hl,k+1,au,rfl⟩,by simp only[aa];omega,?_,λkn kx=> ?_⟩
  ·simp only[EP,Nq,aa];rw[MV (NR h) l k au]
  ·rw[Ue];simp(disch:=omega) only[↓S1,↓if_pos,↓if_neg,if_pos,if_neg,bE,bp,S2,hl,h8,hZ,de,aU,NR]
 ·right;obtain rfl:k=32:=au;intro R kn kx;rw[Ue];simp(disch:=omega) only[↓S1,↓if_pos,↓if_neg,if_pos,if_neg,bE,bp,S2,EP,Nq];rw[Sf _ _ _ au]
theorem auJ(b:List Int):(pad b).length%64=0/\(pad b).length<=b.length+73:=by unfold pad;simp only[ai,aE,dR,cl,Dn];omega
theorem aNC:Wo.Ok:=by intro b hb;have hb:b.length<=140737488350000:=hb;have p1:YJ b:=hb;obtain⟨h1,h2⟩:=auJ b;have p2:YK (pad b,uP.l,0,ae 32 0):=⟨h1,au,uP,0,rfl,rfl,au⟩;have p3:YL ((blocks uP (pad b)).l,0,ae 32 0,ae 32 0):=⟨rfl,rfl,0,au,rfl⟩;rw[aNB];simp(disch:=omega) only[↓S1,↓if_pos,↓if_neg,if_pos,if_neg,bE,bp,S2,arz p1,bz,Wn,arq (d:=()) trivial,bz,ai6,arA p2,EO,Np,pY,aW,aO,arB p3,EP,Nq,ayn];rfl
theorem aJC:Wo.RS:=rE [.d tB] Wo
def aND:=Wo.fI aNC 2 ⟨.eW av4,⟨.eW av5,trivial⟩⟩
def aCU:Int->Prop:=λn=>0<=n/\n < 18446744073709551616
def aNw:Int->(Nat×(List Int)):=λn=>(8,jA n)
def T5:Fs Tryz.prog aCU bz aNw:=fu 95 Tryz.f95 (λn=>([.d tu n],[])) (λx=>⟨.cg (.new 0 0) 0 [] 0 0 x.1,[],[.obj 0 aS (.vec 5 tb x.2)]⟩) [aj tu] [] {loops:=oI [(3,{aV:=[0,3,4],sites:=[15]})],outs:=oH [(3,{aV:=[3],sites:=[15]},{aV:=[2],sites:=[15]})],owns:=[⟨2,[],15,113⟩]} 10
theorem aJs(n)(k:K1 R):T5.A n k=k (T5.out (8,[(dO .u8 (cq .u64 n 56)),(dO .u8 (cq .u64 n 48)),(dO .u8 (cq .u64 n 40)),(dO .u8 (cq .u64 n 32)),(dO .u8 (cq .u64 n 24)),(dO .u8 (cq .u64 n 16)),(dO .u8 (cq .u64 n 8)),(dO .u8 (cq .u64 n 0))])):=cf
theorem aJt:T5.Ok:=by
 intro n _;have e:∀k:Nat,k<=64->dO .u8 (cq .u64 n (k:Int))=n / 2^k%256:=λk hk=>afx n k hk
 rw[aJs];have e56:dO .u8 (cq .u64 n 56)=n / 2^56%256:=e 56 au;have e48:dO .u8 (cq .u64 n 48)=n / 2^48%256:=e 48 au;have e40:dO .u8 (cq .u64 n 40)=n / 2^40%256:=e 40 au;have e32:dO .u8 (cq .u64 n 32)=n / 2^32%256:=e 32 au;have e24:dO .u8 (cq .u64 n 24)=n / 2^24%256:=e 24 au;have e16:dO .u8 (cq .u64 n 16)=n / 2^16%256:=e 16 au;have e8:dO .u8 (cq .u64 n 8)=n / 2^8%256:=e 8 au;have e0:=e 0 au;rw[e56,e48,e40,e32,e24,e16,e8];have e0:dO .u8 (cq .u64 n 0)=n%256:=by rw[show(0:Int)=((0:Nat):Int) from rfl,e0];simp
 rw[e0];rfl
theorem aCV:T5.RS:=rE [.d tu] T5
def aJu:=T5.fI aJt 1 ⟨.none cf,trivial⟩
abbrev Wr:=(List Bs)×Nat×Int×Bs×(List Int)
abbrev ajg:=Nat×(List Int)
def ER:Wr->ajg->((Bs)×(Nat×(List Int))):=λ(tR,bL,i,n4,agd) y=>(n4,y)
abbrev aJD:=ByteArray×(List Bs)
def YM:Wr->Prop:=λ(ps,m,i,n4,l)=>m=l.length/\∃k:Nat,k<=ps.length/\ps.length<=140737488350000/\i=k/\l.length+(qj (ps.drop k)).length<=140737488350000
def Nr:Wr->ajg:=λ(ps,m,i,n4,l)=>(l.length+(qj (ps.drop i.toNat)).length,l++qj (ps.drop i.toNat))
def aJE:aJD->Prop:=λ(name,ps)=>(WE (bH name) ps).length<=140737488350000
def aQ7:aJD->Bs:=λ(name,ps)=>tag (bH name) ps
def Cb:Ls YM ER Nr:=te (λ(tR,bL,i,n4,agd)=>⟨([bC,.d (.slice tB) tR,bC,bC,dP 4,je 11 bL,.d ti i]++aQ 32 []),[],(bk 4 ([cJ (.d tH n4)]++bk 6 ([cJ (.vec 5 tb agd)]++bk 27 [])))⟩) (λx=>(.exit 0,⟨(aQ 4 ([dP 4,je 11 x.2.1]++aQ 33 [])),[],(bk 4 ([cJ (.d tH x.1)]++bk 6 ([cJ (.vec 5 tb x.2.2)]++bk 27 [])))⟩))
def agY:Fs Tryz.prog aJE bz aQ7:=fu 61 Tryz.f61 (λ(name,parts)=>([.d .str name,.d (.slice tB) parts],[])) (λx=>⟨.d tH x,[],[]⟩) [aj .str,aj (.slice tB)] [aJu,aND] {loops:=oI [(3,{aV:=[1,4,5,6],sites:=[4,11],owns:=[⟨5,[],11,113⟩]})],outs:=oH [(3,{aV:=[4,5],sites:=[4,11]},{aV:=[4]})],fE:=pW [(3,Cb.E)]}
theorem arD:Cb.RS:=rL [.d (.slice tB),.n,.d ti,.d tB,.d tB] Cb
theorem Uf(tR bL i n4 agd)(kn:K2 R)(kx:K3 R):agY.R 0 Cb (tR,bL,i,n4,agd) kn kx=aG (fL i (tR.length:Int)) (aG (eE i (tR.length:Int)) (al (T5.call (dO .u64 (((List.length (nth tB tR (ab i))):Nat):Int))) λx1=>aG (decide (0=0/\(0+x1.1)<=(List.length x1.2))) (aG (decide (bL<=(List.length agd))) (aG (dd (bL+(List.length (cut x1.2 0 x1.1))) 1) (aG (eE i (tR.length:Int)) (aG (decide ((bL+(List.length (cut x1.2 0 x1.1)))<=(List.length ((aJ bL agd)++(cut x1.2 0 x1.1))))) (aG (dd ((bL+(List.length (cut x1.2 0 x1.1)))+(List.length (nth tB tR (ab i)))) 1) (kn (Cb.st (tR,((bL+(List.length (cut x1.2 0 x1.1)))+(List.length (nth tB tR (ab i)))),(bA .i64 i 1),n4,((aJ (bL+(List.length (cut x1.2 0 x1.1))) ((aJ bL agd)++(cut x1.2 0 x1.1)))++(nth tB tR (ab i)))))) aF) aF) aF) aF) aF) aF) aF) (Cb.go kx (n4,(bL,agd))):=cf
theorem aNE(name parts)(k:K1 R):agY.A (name,parts) k=al (T5.call (dO .u64 (((ByteArray.size name):Nat):Int))) λx1=>aG (decide (x1.1<=(List.length x1.2))) (aG (dd (x1.1+(List.length (bH name))) 1) (al (Cb.call (parts,(x1.1+(List.length (bH name))),0,(ae 32 0),((aJ x1.1 x1.2)++(bH name)))) λx4=>aG (decide (0=0/\(0+x4.2.1)<=(List.length x4.2.2))) (al (Wo.call (cut x4.2.2 0 x4.2.1)) λx5=>k (agY.out x5)) aF) aF) aF:=cf
theorem ay7{n:Nat}(h:n < 18446744073709551616):dO .u64 ((n:Nat):Int)=n:=by rw[Sx,ix];omega
theorem aru{n:Nat}(h:n < 18446744073709551616):T5.call (n:Int)=aj (8,jA (n:Int)):=aCV (d:=(n:Int)) (show 0<=(n:Int)/\(n:Int) < 18446744073709551616 from⟨au,au⟩)
theorem aSi{l:List Int}{n:Nat}(h:l.length=n):cut l 0 n=l:=by unfold cut;rw[aO,bG au]
theorem av6:(agY.kA 0 Cb):=by
 refine(agY.nN 0 Cb) (λ(ps,m,i,n4,l)=>ps.length - i.toNat) ?_
 rintro⟨ps,m,i,n4,l⟩ ⟨rfl,k,hk,P2,rfl,hl⟩;have hk:k<=ps.length:=hk;have P2:ps.length<=140737488350000:=P2;have hl:l.length+(qj (ps.drop k)).length<=140737488350000:=hl;by_cases h:k < ps.length
 ·left;have ht:=ajw ps k h;have hlen:(qj (ps.drop k)).length=8+ps[k].length+(qj (ps.drop (k+1))).length:=by rw[ht];simp only[ai,cl]
  have hn:nth (.slice (.int .u8)) ps k=ps[k]:=cj (t:= .slice (.int .u8)) h;have aEb:(l++jA (ps[k].length:Int)).length=l.length+8:=by simp[cl]
  refine⟨(ps,(l++jA ps[k].length++ps[k]).length,((k+1:Nat):Int),n4,l++jA ps[k].length++ps[k]),⟨rfl,k+1,au,P2,rfl,?_⟩,by simp only[aa];omega,?_,λkn kx=> ?_⟩
  ·simp only[ai,cl];omega
  ·simp only[ER,Nr,aa,ht,aM];simp only[ai,cl,fk]
  ·have c8:cut (jA (ps[k].length:Int)) 0 8=jA (ps[k].length:Int):=aSi (cl _);have I5:ps[k].length < 18446744073709551616:=au;rw[Uf];simp(disch:=omega) only[↓S1,↓if_pos,↓if_neg,if_pos,if_neg,bE,bp,S2,hn,ay7 I5,aru I5,cl,c8,bK,aEb,aU,aB,ji,bE];rw[bG (by rw[aEb];omega)];simp only[ai,cl,fk]
 ·right;obtain rfl:k=ps.length:=au;intro R kn kx;rw[Uf];simp(disch:=omega) only[↓S1,↓if_pos,↓if_neg,if_pos,if_neg,bE,bp,S2,ER,Nr,aH];simp[qj]
theorem aNF:agY.Ok:=by
 rintro⟨name,ps⟩ hp;have hp:(jA (bH name).length++bH name++qj ps).length<=140737488350000:=hp;have hl:(jA (bH name).length++bH name++qj ps).length=8+(bH name).length+(qj ps).length:=by simp only[ai,cl]
 have P2:=aeX ps;have xr:name.size=(bH name).length:=by rw[lP]
 have I5:(bH name).length < 18446744073709551616:=au;have p2:YM (ps,8+(bH name).length,0,ae 32 0,jA ((bH name).length:Int)++bH name):=by refine⟨by simp only[ai,cl],0,aK _,au,rfl,?_⟩;rw[aO];simp only[ai,cl];omega
 rw[aNE,xr];simp(disch:=omega) only[↓S1,↓if_pos,↓if_neg,if_pos,if_neg,bE,bp,S2,ay7 I5,aru I5,cl,bG (vX (cl _)),arD p2,ER,Nr,aW,aO,aU];have aGm:cut (jA ((bH name).length:Int)++bH name++qj ps) 0 ((jA ((bH name).length:Int)++bH name).length+(qj ps).length)=WE (bH name) ps:=aSi (by simp only[ai]);have p3:arC (WE (bH name) ps):=hp;rw[if_pos (by simp only[ai];omega),aGm,aJC p3];rfl
theorem aJF:agY.RS:=rE [.d .str,.d (.slice tB)] agY
def aNG:=agY.fI aNF 1 ⟨.eW av6,trivial⟩
theorem UR{n:Int}(h1:0<=n)(h2:n < 18446744073709551616):IntKind.u64.wrap n=n:=by rw[wrap_u64,ix];omega
theorem UQ(n:Int):IntKind.u64.wrap n=n%18446744073709551616:=by rw[wrap_u64,ix];rfl
theorem wm(x y:Int):bA .u64 x y=(x+y)%18446744073709551616:=UQ _
theorem Z3(x y:Int):dG .u64 x y=(x - y)%18446744073709551616:=UQ _
theorem Bx(x y:Int):gB .u64 x y=(x*y)%18446744073709551616:=UQ _
theorem aGG(x:Int):dO .u64 x=x%18446744073709551616:=UQ _
theorem anN{x:Int}(h:0<=x)(h2:x < 18446744073709551616):db .and .u64 x 4294967295=x%4294967296:=by
 obtain⟨n,rfl⟩:∃n:Nat,x=n:=⟨x.toNat,au⟩;have e:(bn 64 (n:Int) &&& bn 64 4294967295).toNat=n%4294967296:=by
  rw[BitVec.toNat_and];have a:(bn 64 (n:Int)).toNat=n:=by rw[jf,kB];omega
  have b:(bn 64 4294967295).toNat=2^32 - 1:=eG;rw[a,b,Nat.and_two_pow_sub_one_eq_mod]
 show IntKind.u64.wrap ((bn 64 (n:Int) &&& bn 64 4294967295).toNat:Int)=_;rw[e,UR au au];omega
theorem aUt{x:Int}(h:0<=x)(h2:x < 18446744073709551616):db .and .u64 x 1=x%2:=by
 obtain⟨n,rfl⟩:∃n:Nat,x=n:=⟨x.toNat,au⟩;have e:(bn 64 (n:Int) &&& bn 64 1).toNat=n%2:=by
  rw[BitVec.toNat_and];have a:(bn 64 (n:Int)).toNat=n:=by rw[jf,kB];omega
  have b:(bn 64 1).toNat=2^1 - 1:=eG;rw[a,b,Nat.and_two_pow_sub_one_eq_mod]
 show IntKind.u64.wrap ((bn 64 (n:Int) &&& bn 64 1).toNat:Int)=_;rw[e,UR au au];omega
theorem zh{x k:Int}(n:Nat)(hk:k=n)(hn:n<=64):cq .u64 x k=x / 2^n:=by
 subst hk;rw[cq];have e:min (ab (n:Int)) IntKind.u64.bits=n:=by simp only[IntKind.bits];omega
 rw[e,Int.fdiv_eq_ediv_of_nonneg _ (Int.le_of_lt (Int.pow_pos au))]
theorem zg{x k:Int}(n:Nat)(hk:k=n)(hn:n<=64):nk .u64 x k=x*2^n%18446744073709551616:=by
 subst hk;rw[nk,UQ];have e:min (ab (n:Int)) IntKind.u64.bits=n:=by simp only[IntKind.bits];omega
 rw[e]
theorem SX{x y:Int}(k:Nat)(m:Int)(hm:m=2^k)(hx:x%m=0)(h0:0<=x)(h1:x < 18446744073709551616)(hy:0<=y)(aQu:y < m)(h2:x+y < 18446744073709551616):db .or .u64 x y=x+y:=by
 subst hm;obtain⟨n,rfl⟩:∃n:Nat,x=n:=⟨x.toNat,au⟩;obtain⟨j,rfl⟩:∃j:Nat,y=j:=⟨y.toNat,au⟩;have hx:n%2^k=0:=by
  have:((n%2^k:Nat):Int)=0:=by rw[rG];simpa using hx
  omega
 have hj:j < 2^k:=by
  have:((j:Nat):Int) < ((2^k:Nat):Int):=by simpa using aQu
  omega
 obtain⟨q,rfl⟩:∃q,n=2^k*q:=⟨n / 2^k,by have:=Nat.div_add_mod n (2^k);omega⟩;have e:(bn 64 ((2^k*q:Nat):Int) ||| bn 64 (j:Int)).toNat=2^k*q+j:=by
  rw[BitVec.toNat_or];have a:(bn 64 ((2^k*q:Nat):Int)).toNat=2^k*q:=by rw[jf,kB];exact nc au
  have b:(bn 64 (j:Int)).toNat=j:=by rw[jf,kB];exact nc au
  rw[a,b,Nat.two_pow_add_eq_or_of_lt hj]
 show IntKind.u64.wrap ((bn 64 ((2^k*q:Nat):Int) ||| bn 64 (j:Int)).toNat:Int)=_;rw[e,UR au au];omega
theorem akT{x y:Int}(h:0<=x)(h1:0<=y)(h2:x < 18446744073709551616):vS .u64 x y=x / y:=by rw[vS,Int.tdiv_eq_ediv_of_nonneg h];exact UR (Int.ediv_nonneg h h1) (Int.lt_of_le_of_lt (Int.ediv_le_self _ h) h2)
theorem yF{x y:Int}(h:0<=x):nM x y=x%y:=by rw[nM,im h]
theorem k1{e u w r q:Int}(he:e=42260\/e=42264\/e=42272)(hu:0<=u)(aAz:u < 18446744073709551616 - e)(hw:0<=w)(aEf:w < 4294967296)(hr:0<=r)(asC:r < 4294967296)
  (hq:q*4294967295+r=u) (hQ:(u*4294967296+w) / (18446744073709551616 - e)<=q):
  (4294967296<=q->(u*4294967296+w) / (18446744073709551616 - e)<=q - 1)/\
  (q < 4294967296->4294967296*r+w < q*(4294967296 - e)->(u*4294967296+w) / (18446744073709551616 - e)<=q - 1)/\
  (q < 4294967296->q*(4294967296 - e)<=4294967296*r+w->(u*4294967296+w) / (18446744073709551616 - e)=q)/\
  (4294967296<=r+4294967295->(u*4294967296+w) / (18446744073709551616 - e)<=q - 1->(u*4294967296+w) / (18446744073709551616 - e)=q - 1)/\0<=(u*4294967296+w) / (18446744073709551616 - e)/\q<=4294967297:=by
 rcases he with rfl | rfl | rfl
 ·refine⟨?_,?_,?_,?_,?_,?_⟩ <;> omega
 ·refine⟨?_,?_,?_,?_,?_,?_⟩ <;> omega
 ·refine⟨?_,?_,?_,?_,?_,?_⟩ <;> omega
theorem k0{e u w:Int}(he:e=42260\/e=42264\/e=42272)(hu:0<=u)(aAz:u < 18446744073709551616 - e)(hw:0<=w)(aEf:w < 4294967296):
  (u*4294967296+w) / (18446744073709551616 - e)<=u / 4294967295/\0<=u - u / 4294967295*4294967295/\u - u / 4294967295*4294967295 < 4294967296/\
  (u*4294967296+w) - (u*4294967296+w) / (18446744073709551616 - e)*(18446744073709551616 - e)=(u*4294967296+w)%(18446744073709551616 - e)/\
  0<=(u*4294967296+w)%(18446744073709551616 - e)/\(u*4294967296+w)%(18446744073709551616 - e) < 18446744073709551616 - e/\
  0<=(u*4294967296+w) / (18446744073709551616 - e)/\(u*4294967296+w) / (18446744073709551616 - e) < 4294967296:=by
 rcases he with rfl | rfl | rfl
 ·refine⟨?_,?_,?_,?_,?_,?_,?_,?_⟩ <;> omega
 ·refine⟨?_,?_,?_,?_,?_,?_,?_,?_⟩ <;> omega
 ·refine⟨?_,?_,?_,?_,?_,?_,?_,?_⟩ <;> omega
theorem kd(Y u w1 w0:Int)(hY:0 < Y)(h0:0<=w0)(h1:w0 < 4294967296):
  ((u*4294967296+w1)*4294967296+w0) / Y=(u*4294967296+w1) / Y*4294967296+((u*4294967296+w1)%Y*4294967296+w0) / Y/\
  ((u*4294967296+w1)*4294967296+w0)%Y=((u*4294967296+w1)%Y*4294967296+w0)%Y:=by
 generalize u*4294967296+w1=n;have e:n*4294967296+w0=(n%Y*4294967296+w0)+Y*(n / Y*4294967296):=by
  have:=Int.emod_add_mul_ediv n Y;have h:Y*(n / Y*4294967296)=(Y*(n / Y))*4294967296:=by rw[th]
  rw[h];omega
 rw[e,Int.add_mul_ediv_left _ _ au,Int.add_mul_emod_self_left];exact⟨au,rfl⟩
def aRU(y:Int):Prop:=y=4611686018427377339\/y=2305843009213688669\/y=2305843009213688668
def aAL:Int->Prop:=aRU
def aMx:Int->Int:=λy=>if y=4611686018427377339 then 62 else 61
def Er:Fs Tryz.prog aAL bz aMx:=fu 166 Tryz.f166 (λx=>([.d tu x],[])) (λx=>⟨.d ti x,[],[]⟩) [aj tu]
theorem aGY(x)(k:K1 R):Er.A x k=aG (D4 x 4294967296) (aG (D4 (cq .u64 x 32) 65536) (aG (D4 (cq .u64 (cq .u64 x 32) 16) 256) (aG (eE (dO .u8 (cq .u64 (cq .u64 (cq .u64 x 32) 16) 8)) 256) (k (Er.out (bA .i64 56 (dO .i64 (arU (⟨#[0,1,2,2,3,3,3,3,4,4,4,4,4,4,4,4,5,5,5,5,5,5,5,5,5,5,5,5,5,5,5,5,6,6,6,6,6,6,6,6,6,6,6,6,6,6,6,6,6,6,6,6,6,6,6,6,6,6,6,6,6,6,6,6,7,7,7,7,7,7,7,7,7,7,7,7,7,7,7,7,7,7,7,7,7,7,7,7,7,7,7,7,7,7,7,7,7,7,7,7,7,7,7,7,7,7,7,7,7,7,7,7,7,7,7,7,7,7,7,7,7,7,7,7,7,7,7,7,8,8,8,8,8,8,8,8,8,8,8,8,8,8,8,8,8,8,8,8,8,8,8,8,8,8,8,8,8,8,8,8,8,8,8,8,8,8,8,8,8,8,8,8,8,8,8,8,8,8,8,8,8,8,8,8,8,8,8,8,8,8,8,8,8,8,8,8,8,8,8,8,8,8,8,8,8,8,8,8,8,8,8,8,8,8,8,8,8,8,8,8,8,8,8,8,8,8,8,8,8,8,8,8,8,8,8,8,8,8,8,8,8,8,8,8,8,8,8,8,8,8,8,8,8,8,8,8]⟩:ByteArray) (dO .u8 (cq .u64 (cq .u64 (cq .u64 x 32) 16) 8))))))) aF) (aG (eE (dO .u8 (cq .u64 (cq .u64 x 32) 16)) 256) (k (Er.out (bA .i64 48 (dO .i64 (arU (⟨#[0,1,2,2,3,3,3,3,4,4,4,4,4,4,4,4,5,5,5,5,5,5,5,5,5,5,5,5,5,5,5,5,6,6,6,6,6,6,6,6,6,6,6,6,6,6,6,6,6,6,6,6,6,6,6,6,6,6,6,6,6,6,6,6,7,7,7,7,7,7,7,7,7,7,7,7,7,7,7,7,7,7,7,7,7,7,7,7,7,7,7,7,7,7,7,7,7,7,7,7,7,7,7,7,7,7,7,7,7,7,7,7,7,7,7,7,7,7,7,7,7,7,7,7,7,7,7,7,8,8,8,8,8,8,8,8,8,8,8,8,8,8,8,8,8,8,8,8,8,8,8,8,8,8,8,8,8,8,8,8,8,8,8,8,8,8,8,8,8,8,8,8,8,8,8,8,8,8,8,8,8,8,8,8,8,8,8,8,8,8,8,8,8,8,8,8,8,8,8,8,8,8,8,8,8,8,8,8,8,8,8,8,8,8,8,8,8,8,8,8,8,8,8,8,8,8,8,8,8,8,8,8,8,8,8,8,8,8,8,8,8,8,8,8,8,8,8,8,8,8,8,8,8,8,8,8]⟩:ByteArray) (dO .u8 (cq .u64 (cq .u64 x 32) 16))))))) aF)) (aG (D4 (cq .u64 x 32) 256) (aG (eE (dO .u8 (cq .u64 (cq .u64 x 32) 8)) 256) (k (Er.out (bA .i64 40 (dO .i64 (arU (⟨#[0,1,2,2,3,3,3,3,4,4,4,4,4,4,4,4,5,5,5,5,5,5,5,5,5,5,5,5,5,5,5,5,6,6,6,6,6,6,6,6,6,6,6,6,6,6,6,6,6,6,6,6,6,6,6,6,6,6,6,6,6,6,6,6,7,7,7,7,7,7,7,7,7,7,7,7,7,7,7,7,7,7,7,7,7,7,7,7,7,7,7,7,7,7,7,7,7,7,7,7,7,7,7,7,7,7,7,7,7,7,7,7,7,7,7,7,7,7,7,7,7,7,7,7,7,7,7,7,8,8,8,8,8,8,8,8,8,8,8,8,8,8,8,8,8,8,8,8,8,8,8,8,8,8,8,8,8,8,8,8,8,8,8,8,8,8,8,8,8,8,8,8,8,8,8,8,8,8,8,8,8,8,8,8,8,8,8,8,8,8,8,8,8,8,8,8,8,8,8,8,8,8,8,8,8,8,8,8,8,8,8,8,8,8,8,8,8,8,8,8,8,8,8,8,8,8,8,8,8,8,8,8,8,8,8,8,8,8,8,8,8,8,8,8,8,8,8,8,8,8,8,8,8,8,8,8]⟩:ByteArray) (dO .u8 (cq .u64 (cq .u64 x 32) 8))))))) aF) (aG (eE (dO .u8 (cq .u64 x 32)) 256) (k (Er.out (bA .i64 32 (dO .i64 (arU (⟨#[0,1,2,2,3,3,3,3,4,4,4,4,4,4,4,4,5,5,5,5,5,5,5,5,5,5,5,5,5,5,5,5,6,6,6,6,6,6,6,6,6,6,6,6,6,6,6,6,6,6,6,6,6,6,6,6,6,6,6,6,6,6,6,6,7,7,7,7,7,7,7,7,7,7,7,7,7,7,7,7,7,7,7,7,7,7,7,7,7,7,7,7,7,7,7,7,7,7,7,7,7,7,7,7,7,7,7,7,7,7,7,7,7,7,7,7,7,7,7,7,7,7,7,7,7,7,7,7,8,8,8,8,8,8,8,8,8,8,8,8,8,8,8,8,8,8,8,8,8,8,8,8,8,8,8,8,8,8,8,8,8,8,8,8,8,8,8,8,8,8,8,8,8,8,8,8,8,8,8,8,8,8,8,8,8,8,8,8,8,8,8,8,8,8,8,8,8,8,8,8,8,8,8,8,8,8,8,8,8,8,8,8,8,8,8,8,8,8,8,8,8,8,8,8,8,8,8,8,8,8,8,8,8,8,8,8,8,8,8,8,8,8,8,8,8,8,8,8,8,8,8,8,8,8,8,8]⟩:ByteArray) (dO .u8 (cq .u64 x 32))))))) aF))) (aG (D4 x 65536) (aG (D4 (cq .u64 x 16) 256) (aG (eE (dO .u8 (cq .u64 (cq .u64 x 16) 8)) 256) (k (Er.out (bA .i64 24 (dO .i64 (arU (⟨#[0,1,2,2,3,3,3,3,4,4,4,4,4,4,4,4,5,5,5,5,5,5,5,5,5,5,5,5,5,5,5,5,6,6,6,6,6,6,6,6,6,6,6,6,6,6,6,6,6,6,6,6,6,6,6,6,6,6,6,6,6,6,6,6,7,7,7,7,7,7,7,7,7,7,7,7,7,7,7,7,7,7,7,7,7,7,7,7,7,7,7,7,7,7,7,7,7,7,7,7,7,7,7,7,7,7,7,7,7,7,7,7,7,7,7,7,7,7,7,7,7,7,7,7,7,7,7,7,8,8,8,8,8,8,8,8,8,8,8,8,8,8,8,8,8,8,8,8,8,8,8,8,8,8,8,8,8,8,8,8,8,8,8,8,8,8,8,8,8,8,8,8,8,8,8,8,8,8,8,8,8,8,8,8,8,8,8,8,8,8,8,8,8,8,8,8,8,8,8,8,8,8,8,8,8,8,8,8,8,8,8,8,8,8,8,8,8,8,8,8,8,8,8,8,8,8,8,8,8,8,8,8,8,8,8,8,8,8,8,8,8,8,8,8,8,8,8,8,8,8,8,8,8,8,8,8]⟩:ByteArray) (dO .u8 (cq .u64 (cq .u64 x 16) 8))))))) aF) (aG (eE (dO .u8 (cq .u64 x 16)) 256) (k (Er.out (bA .i64 16 (dO .i64 (arU (⟨#[0,1,2,2,3,3,3,3,4,4,4,4,4,4,4,4,5,5,5,5,5,5,5,5,5,5,5,5,5,5,5,5,6,6,6,6,6,6,6,6,6,6,6,6,6,6,6,6,6,6,6,6,6,6,6,6,6,6,6,6,6,6,6,6,7,7,7,7,7,7,7,7,7,7,7,7,7,7,7,7,7,7,7,7,7,7,7,7,7,7,7,7,7,7,7,7,7,7,7,7,7,7,7,7,7,7,7,7,7,7,7,7,7,7,7,7,7,7,7,7,7,7,7,7,7,7,7,7,8,8,8,8,8,8,8,8,8,8,8,8,8,8,8,8,8,8,8,8,8,8,8,8,8,8,8,8,8,8,8,8,8,8,8,8,8,8,8,8,8,8,8,8,8,8,8,8,8,8,8,8,8,8,8,8,8,8,8,8,8,8,8,8,8,8,8,8,8,8,8,8,8,8,8,8,8,8,8,8,8,8,8,8,8,8,8,8,8,8,8,8,8,8,8,8,8,8,8,8,8,8,8,8,8,8,8,8,8,8,8,8,8,8,8,8,8,8,8,8,8,8,8,8,8,8,8,8]⟩:ByteArray) (dO .u8 (cq .u64 x 16))))))) aF)) (aG (D4 x 256) (aG (eE (dO .u8 (cq .u64 x 8)) 256) (k (Er.out (bA .i64 8 (dO .i64 (arU (⟨#[0,1,2,2,3,3,3,3,4,4,4,4,4,4,4,4,5,5,5,5,5,5,5,5,5,5,5,5,5,5,5,5,6,6,6,6,6,6,6,6,6,6,6,6,6,6,6,6,6,6,6,6,6,6,6,6,6,6,6,6,6,6,6,6,7,7,7,7,7,7,7,7,7,7,7,7,7,7,7,7,7,7,7,7,7,7,7,7,7,7,7,7,7,7,7,7,7,7,7,7,7,7,7,7,7,7,7,7,7,7,7,7,7,7,7,7,7,7,7,7,7,7,7,7,7,7,7,7,8,8,8,8,8,8,8,8,8,8,8,8,8,8,8,8,8,8,8,8,8,8,8,8,8,8,8,8,8,8,8,8,8,8,8,8,8,8,8,8,8,8,8,8,8,8,8,8,8,8,8,8,8,8,8,8,8,8,8,8,8,8,8,8,8,8,8,8,8,8,8,8,8,8,8,8,8,8,8,8,8,8,8,8,8,8,8,8,8,8,8,8,8,8,8,8,8,8,8,8,8,8,8,8,8,8,8,8,8,8,8,8,8,8,8,8,8,8,8,8,8,8,8,8,8,8,8,8]⟩:ByteArray) (dO .u8 (cq .u64 x 8))))))) aF) (aG (eE (dO .u8 x) 256) (k (Er.out (bA .i64 0 (dO .i64 (arU (⟨#[0,1,2,2,3,3,3,3,4,4,4,4,4,4,4,4,5,5,5,5,5,5,5,5,5,5,5,5,5,5,5,5,6,6,6,6,6,6,6,6,6,6,6,6,6,6,6,6,6,6,6,6,6,6,6,6,6,6,6,6,6,6,6,6,7,7,7,7,7,7,7,7,7,7,7,7,7,7,7,7,7,7,7,7,7,7,7,7,7,7,7,7,7,7,7,7,7,7,7,7,7,7,7,7,7,7,7,7,7,7,7,7,7,7,7,7,7,7,7,7,7,7,7,7,7,7,7,7,8,8,8,8,8,8,8,8,8,8,8,8,8,8,8,8,8,8,8,8,8,8,8,8,8,8,8,8,8,8,8,8,8,8,8,8,8,8,8,8,8,8,8,8,8,8,8,8,8,8,8,8,8,8,8,8,8,8,8,8,8,8,8,8,8,8,8,8,8,8,8,8,8,8,8,8,8,8,8,8,8,8,8,8,8,8,8,8,8,8,8,8,8,8,8,8,8,8,8,8,8,8,8,8,8,8,8,8,8,8,8,8,8,8,8,8,8,8,8,8,8,8,8,8,8,8,8,8]⟩:ByteArray) (dO .u8 x)))))) aF))):=cf
theorem aGZ:Er.Ok:=by intro y h;rw[aGY];obtain rfl | rfl | rfl:=h <;> kernel_rfl
theorem aAM:Er.RS:=rE [.d tu] Er
def aG0:=Er.fI aGZ
def aHm:Int->Prop:=aRU
def aHl:Int->Int:=λy=>if y=4611686018427377339 then 2 else 3
def aui:Fs Tryz.prog aHm bz aHl:=fu 164 Tryz.f164 (λx=>([.d tu x],[])) (λx=>⟨.d ti x,[],[]⟩) [aj tu] [aG0]
theorem aMB(x)(k:K1 R):aui.A x k=al (Er.call x) λx1=>k (aui.out (dG .i64 64 x1)):=cf
theorem aMC:aui.Ok:=by intro y h;rw[aMB,aAM (d:=y) h];obtain rfl | rfl | rfl:=h <;> rfl
theorem aHn:aui.RS:=rE [.d tu] aui
def aMD:=aui.fI aMC
abbrev PL:=Int×Int×Int×Int×Int×Int×Int×Int×Int
def RX:PL->Int->((Int×Int×Int×Int×Int×Int×Int)×(Int)):=λ(ahw,sv,yn1,yn0,un32,un1,un0,q1,rhat) y=>((ahw,sv,yn1,yn0,un32,un1,un0),y)
abbrev PM:=Int×Int×Int×Int×Int×Int×Int×Int×Int
def RZ:PM->Int->((Int×Int×Int×Int×Int)×(Int)):=λ(ahx,mO,Pm,afF,ME,agD,IA,un21,q0) y=>((ahx,mO,ME,agD,un21),y)
def RW:PL->Prop:=λ(y,sv,yn1,yn0,u,w,un0,q,r)=>∃e:Int,(e=42260\/e=42264\/e=42272)/\y=18446744073709551616 - e/\yn1=4294967295/\yn0=4294967296 - e/\0<=u/\u < 18446744073709551616 - e/\0<=w/\w < 4294967296/\0<=r/\r < 4294967296/\q*4294967295+r=u/\(u*4294967296+w) / (18446744073709551616 - e)<=q
def HC:PL->Int:=λ(y,sv,yn1,yn0,u,w,un0,q,r)=>(u*4294967296+w) / y
def RY:PM->Prop:=λ(y,sv,yn1,yn0,w,q1,r,u,q)=>∃e:Int,(e=42260\/e=42264\/e=42272)/\y=18446744073709551616 - e/\yn1=4294967295/\yn0=4294967296 - e/\0<=u/\u < 18446744073709551616 - e/\0<=w/\w < 4294967296/\0<=r/\r < 4294967296/\q*4294967295+r=u/\(u*4294967296+w) / (18446744073709551616 - e)<=q
def HD:PM->Int:=λ(y,sv,yn1,yn0,w,q1,r,u,q)=>(u*4294967296+w) / y
def ah2:(Int×Int×Int)->Prop:=λ(hi,lo,y)=>(aRU y\/hi=0/\0 < y/\y < 18446744073709551616)/\0<=hi/\hi < y/\0<=lo/\lo < 18446744073709551616
def akn:(Int×Int×Int)->(Int×Int):=λ(hi,lo,y)=>((hi*18446744073709551616+lo) / y,(hi*18446744073709551616+lo)%y)
def pj:Ls RW RX HC:=te (λ(ahw,sv,yn1,yn0,un32,un1,un0,q1,rhat)=>⟨([bC,bC,.d tu ahw]++aQ 5 ([.d tu sv,.d tu yn1,.d tu yn0,.d tu un32,bC,.d tu un1,.d tu un0,.d tu q1,.d tu rhat]++aQ 118 [])),[],(ae 135 [])⟩) (λx=>(.exit 0,⟨([bC,bC,.d tu x.1.1]++aQ 5 ([.d tu x.1.2.1,.d tu x.1.2.2.1,.d tu x.1.2.2.2.1,.d tu x.1.2.2.2.2.1,bC,.d tu x.1.2.2.2.2.2.1,.d tu x.1.2.2.2.2.2.2,.d tu x.2]++aQ 119 [])),[],(ae 135 [])⟩))
def po:Ls RY RZ HD:=te (λ(ahx,mO,Pm,afF,ME,agD,IA,un21,q0)=>⟨([bC,bC,.d tu ahx]++aQ 5 ([.d tu mO,.d tu Pm,.d tu afF,bC,bC,bC,.d tu ME,.d tu agD,.d tu IA,.d tu un21,.d tu q0]++aQ 116 [])),[],(ae 135 [])⟩) (λx=>(.exit 2,⟨([bC,bC,.d tu x.1.1]++aQ 5 ([.d tu x.1.2.1]++aQ 5 ([.d tu x.1.2.2.1,.d tu x.1.2.2.2.1,bC,.d tu x.1.2.2.2.2,.d tu x.2]++aQ 116 []))),[],(ae 135 [])⟩))
def Ef:Fs Tryz.prog ah2 bz akn:=fu 158 Tryz.f158 (λ(hi,lo,yv)=>([.d tu hi,.d tu lo,.d tu yv],[])) (λx=>⟨.cons (.d tu x.1) (.cons (.d tu x.2) (.nil)),[],[]⟩) [aj tu,aj tu,aj tu] [aMD] {loops:=oI [(17,{aV:=[2,8,9,10,11,13,14,15,16]}),(24,{aV:=[2,8,9,10,14,15,16,17,18]})],outs:=oH [(17,{aV:=[2,8,9,10,11,13,14,15]},{aV:=[6,7]}),(24,{aV:=[2,8,14,15,17,18]},{aV:=[6,7]})],fE:=pW [(17,pj.E),(24,po.E)]}
theorem ako:pj.RS:=rL [.d tu,.d tu,.d tu,.d tu,.d tu,.d tu,.d tu,.d tu,.d tu] pj
theorem Fg(ahw sv yn1 yn0 un32 un1 un0 q1 rhat)(kn:K2 R)(kx:K3 R):Ef.R 0 pj (ahw,sv,yn1,yn0,un32,un1,un0,q1,rhat) kn kx=aG (D4 q1 4294967296) (aG (D4 (bA .u64 rhat yn1) 4294967296) (pj.go kx ((ahw,sv,yn1,yn0,un32,un1,un0),(dG .u64 q1 1))) (kn (pj.st (ahw,sv,yn1,yn0,un32,un1,un0,(dG .u64 q1 1),(bA .u64 rhat yn1))))) (aG (Af (gB .u64 q1 yn0) (bA .u64 (gB .u64 4294967296 rhat) un1)) (aG (D4 (bA .u64 rhat yn1) 4294967296) (pj.go kx ((ahw,sv,yn1,yn0,un32,un1,un0),(dG .u64 q1 1))) (kn (pj.st (ahw,sv,yn1,yn0,un32,un1,un0,(dG .u64 q1 1),(bA .u64 rhat yn1))))) (pj.go kx ((ahw,sv,yn1,yn0,un32,un1,un0),q1))):=cf
theorem akp:po.RS:=rL [.d tu,.d tu,.d tu,.d tu,.d tu,.d tu,.d tu,.d tu,.d tu] po
theorem Fh(ahx mO Pm afF ME agD IA un21 q0)(kn:K2 R)(kx:K3 R):Ef.R 1 po (ahx,mO,Pm,afF,ME,agD,IA,un21,q0) kn kx=aG (D4 q0 4294967296) (aG (D4 (bA .u64 IA Pm) 4294967296) (po.go kx ((ahx,mO,ME,agD,un21),(dG .u64 q0 1))) (kn (po.st (ahx,mO,Pm,afF,ME,agD,(bA .u64 IA Pm),un21,(dG .u64 q0 1))))) (aG (Af (gB .u64 q0 afF) (bA .u64 (gB .u64 4294967296 IA) ME)) (aG (D4 (bA .u64 IA Pm) 4294967296) (po.go kx ((ahx,mO,ME,agD,un21),(dG .u64 q0 1))) (kn (po.st (ahx,mO,Pm,afF,ME,agD,(bA .u64 IA Pm),un21,(dG .u64 q0 1))))) (po.go kx ((ahx,mO,ME,agD,un21),q0))):=cf
theorem aFN(hi lo yv)(k:K1 R):Ef.A (hi,lo,yv) k=aG (AP yv 0) (aF) (aG (akP yv hi) (aF) (aG (AP hi 0) (aG (tP yv) (aG (tP yv) (k (Ef.out ((vS .u64 lo yv),(nM lo yv)))) aF) aF) (al (aui.call yv) λx1=>aG (nv (dO .u64 x1)) (aG (nv (dO .u64 x1)) (aG (nv (dG .u64 64 (dO .u64 x1))) (aG (nv (dO .u64 x1)) (aG (tP (cq .u64 (nk .u64 yv (dO .u64 x1)) 32)) (al (pj.call ((nk .u64 yv (dO .u64 x1)),(dO .u64 x1),(cq .u64 (nk .u64 yv (dO .u64 x1)) 32),(db .and .u64 (nk .u64 yv (dO .u64 x1)) 4294967295),(db .or .u64 (nk .u64 hi (dO .u64 x1)) (cq .u64 lo (dG .u64 64 (dO .u64 x1)))),(cq .u64 (nk .u64 lo (dO .u64 x1)) 32),(db .and .u64 (nk .u64 lo (dO .u64 x1)) 4294967295),(vS .u64 (db .or .u64 (nk .u64 hi (dO .u64 x1)) (cq .u64 lo (dG .u64 64 (dO .u64 x1)))) (cq .u64 (nk .u64 yv (dO .u64 x1)) 32)),(dG .u64 (db .or .u64 (nk .u64 hi (dO .u64 x1)) (cq .u64 lo (dG .u64 64 (dO .u64 x1)))) (gB .u64 (vS .u64 (db .or .u64 (nk .u64 hi (dO .u64 x1)) (cq .u64 lo (dG .u64 64 (dO .u64 x1)))) (cq .u64 (nk .u64 yv (dO .u64 x1)) 32)) (cq .u64 (nk .u64 yv (dO .u64 x1)) 32))))) λx2=>aG (tP x2.1.2.2.1) (al (po.call (x2.1.1,x2.1.2.1,x2.1.2.2.1,x2.1.2.2.2.1,x2.1.2.2.2.2.2.2,x2.2,(dG .u64 (dG .u64 (bA .u64 (gB .u64 x2.1.2.2.2.2.1 4294967296) x2.1.2.2.2.2.2.1) (gB .u64 x2.2 x2.1.1)) (gB .u64 (vS .u64 (dG .u64 (bA .u64 (gB .u64 x2.1.2.2.2.2.1 4294967296) x2.1.2.2.2.2.2.1) (gB .u64 x2.2 x2.1.1)) x2.1.2.2.1) x2.1.2.2.1)),(dG .u64 (bA .u64 (gB .u64 x2.1.2.2.2.2.1 4294967296) x2.1.2.2.2.2.2.1) (gB .u64 x2.2 x2.1.1)),(vS .u64 (dG .u64 (bA .u64 (gB .u64 x2.1.2.2.2.2.1 4294967296) x2.1.2.2.2.2.2.1) (gB .u64 x2.2 x2.1.1)) x2.1.2.2.1))) λx3=>aG (nv x3.1.2.1) (k (Ef.out ((bA .u64 (gB .u64 x3.1.2.2.2.1 4294967296) x3.2),(cq .u64 (dG .u64 (bA .u64 (gB .u64 x3.1.2.2.2.2 4294967296) x3.1.2.2.1) (gB .u64 x3.2 x3.1.1)) x3.1.2.1)))) aF) aF) aF) aF) aF) aF) aF))):=cf
theorem aoz:(Ef.kA 0 pj):=by
 refine(Ef.nN 0 pj) (λ(y,sv,yn1,yn0,u,w,un0,q,r)=>q.toNat) ?_
 rintro⟨y,sv,yn1,yn0,u,w,un0,q,r⟩ ⟨e,he,rfl,rfl,rfl,hu,aAz,hw,aEf,hr,asC,hq,hQ⟩;have hu:0<=u:=hu;have aAz:u < 18446744073709551616 - e:=aAz;have hw:0<=w:=hw;have aEf:w < 4294967296:=aEf;have hr:0<=r:=hr;have asC:r < 4294967296:=asC;have hq:q*4294967295+r=u:=hq;obtain⟨k1,k2,k3,k4,k5,k6⟩:=k1 he hu aAz hw aEf hr asC hq hQ;have q0:0<=q:=Int.le_trans k5 hQ;have a1:bA .u64 r 4294967295=r+4294967295:=by rw[wm];omega
 have a2:bA .u64 (gB .u64 4294967296 r) w=4294967296*r+w:=by rw[Bx,wm];omega
 have a3:q < 4294967296->gB .u64 q (4294967296 - e)=q*(4294967296 - e):=by intro h;rw[Bx];rcases he with rfl | rfl | rfl <;> omega
 have a4:0 < q->dG .u64 q 1=q - 1:=by intro h;rw[Z3];omega
 have pos:4294967296<=q\/(q < 4294967296/\4294967296*r+w < q*(4294967296 - e))->0 < q/\(u*4294967296+w) / (18446744073709551616 - e)<=q - 1:=by
  rintro(h | ⟨h,h2⟩)
  ·exact⟨au,k1 h⟩
  ·exact⟨by have:=k2 h h2;omega,k2 h h2⟩
 by_cases hc:4294967296<=q\/(q < 4294967296/\4294967296*r+w < q*(4294967296 - e))
 ·obtain⟨p1,p2⟩:=pos hc;by_cases hb:4294967296<=r+4294967295
  ·right;have hF:HC (18446744073709551616 - e,sv,4294967295,4294967296 - e,u,w,un0,q,r)=q - 1:=k4 hb p2;intro R kn kx;rw[Fg,a1,a2,a4 p1,gA hb,hF];rcases hc with h | ⟨h,h2⟩
   ·rw[gA h];rfl
   ·rw[eD au,a3 h,dj h2];rfl
  ·left;refine⟨(18446744073709551616 - e,sv,4294967295,4294967296 - e,u,w,un0,q - 1,r+4294967295),⟨e,he,rfl,rfl,rfl,hu,aAz,hw,aEf,au,au,au,p2⟩,by simp only[];omega,rfl,λkn kx=> ?_⟩;rw[Fg,a1,a2,a4 p1,eD hb];rcases hc with h | ⟨h,h2⟩
   ·rw[gA h];rfl
   ·rw[eD au,a3 h,dj h2];rfl
 ·right;have h:q < 4294967296:=au;have h2:¬4294967296*r+w < q*(4294967296 - e):=λx=>hc (ej ⟨h,x⟩)
  have hF:HC (18446744073709551616 - e,sv,4294967295,4294967296 - e,u,w,un0,q,r)=q:=k3 h au;intro R kn kx;rw[Fg,a2,a3 h,eD au,cw h2,hF];rfl
theorem aoA:(Ef.kA 1 po):=by
 refine(Ef.nN 1 po) (λ(y,sv,yn1,yn0,w,q1,r,u,q)=>q.toNat) ?_
 rintro⟨y,sv,yn1,yn0,w,q1,r,u,q⟩ ⟨e,he,rfl,rfl,rfl,hu,aAz,hw,aEf,hr,asC,hq,hQ⟩;have hu:0<=u:=hu;have aAz:u < 18446744073709551616 - e:=aAz;have hw:0<=w:=hw;have aEf:w < 4294967296:=aEf;have hr:0<=r:=hr;have asC:r < 4294967296:=asC;have hq:q*4294967295+r=u:=hq;obtain⟨k1,k2,k3,k4,k5,k6⟩:=k1 he hu aAz hw aEf hr asC hq hQ;have q0:0<=q:=Int.le_trans k5 hQ;have a1:bA .u64 r 4294967295=r+4294967295:=by rw[wm];omega
 have a2:bA .u64 (gB .u64 4294967296 r) w=4294967296*r+w:=by rw[Bx,wm];omega
 have a3:q < 4294967296->gB .u64 q (4294967296 - e)=q*(4294967296 - e):=by intro h;rw[Bx];rcases he with rfl | rfl | rfl <;> omega
 have a4:0 < q->dG .u64 q 1=q - 1:=by intro h;rw[Z3];omega
 have pos:4294967296<=q\/(q < 4294967296/\4294967296*r+w < q*(4294967296 - e))->0 < q/\(u*4294967296+w) / (18446744073709551616 - e)<=q - 1:=by
  rintro(h | ⟨h,h2⟩)
  ·exact⟨au,k1 h⟩
  ·exact⟨by have:=k2 h h2;omega,k2 h h2⟩
 by_cases hc:4294967296<=q\/(q < 4294967296/\4294967296*r+w < q*(4294967296 - e))
 ·obtain⟨p1,p2⟩:=pos hc;by_cases hb:4294967296<=r+4294967295
  ·right;have hF:HD (18446744073709551616 - e,sv,4294967295,4294967296 - e,w,q1,r,u,q)=q - 1:=k4 hb p2;intro R kn kx;rw[Fh,a1,a2,a4 p1,gA hb,hF];rcases hc with h | ⟨h,h2⟩
   ·rw[gA h];rfl
   ·rw[eD au,a3 h,dj h2];rfl
  ·left;refine⟨(18446744073709551616 - e,sv,4294967295,4294967296 - e,w,q1,r+4294967295,u,q - 1),⟨e,he,rfl,rfl,rfl,hu,aAz,hw,aEf,au,au,au,p2⟩,by simp only[];omega,rfl,λkn kx=> ?_⟩;rw[Fh,a1,a2,a4 p1,eD hb];rcases hc with h | ⟨h,h2⟩
   ·rw[gA h];rfl
   ·rw[eD au,a3 h,dj h2];rfl
 ·right;have h:q < 4294967296:=au;have h2:¬4294967296*r+w < q*(4294967296 - e):=λx=>hc (ej ⟨h,x⟩)
  have hF:HD (18446744073709551616 - e,sv,4294967295,4294967296 - e,w,q1,r,u,q)=q:=k3 h au;intro R kn kx;rw[Fh,a2,a3 h,eD au,cw h2,hF];rfl
theorem aPP{y hi lo:Int}(hy:aRU y)(h0:0<=hi)(h1:hi < y)(h2:0<=lo)(h3:lo < 18446744073709551616):∃(s:Nat) (e m:Int),aHl y=s/\(s=2\/s=3)/\m=2^s/\(e=42260\/e=42264\/e=42272)/\y*m=18446744073709551616 - e/\
  nk .u64 y (s:Int)=18446744073709551616 - e/\
  db .or .u64 (nk .u64 hi (s:Int)) (cq .u64 lo (dG .u64 64 (s:Int)))=(hi*18446744073709551616+lo)*m / 18446744073709551616/\
  nk .u64 lo (s:Int)=(hi*18446744073709551616+lo)*m%18446744073709551616/\
  (hi*18446744073709551616+lo)*m / 18446744073709551616 < 18446744073709551616 - e/\
  (hi*18446744073709551616+lo)*m / (18446744073709551616 - e)=(hi*18446744073709551616+lo) / y/\
  (hi*18446744073709551616+lo)*m%(18446744073709551616 - e) / m=(hi*18446744073709551616+lo)%y:=by
 have e1:dG .u64 64 ((2:Nat):Int)=((62:Nat):Int):=rfl;have e2:dG .u64 64 ((3:Nat):Int)=((61:Nat):Int):=rfl;have p2:(2:Int)^2=4:=rfl;have p3:(2:Int)^3=8:=rfl;have p61:(2:Int)^61=2305843009213693952:=rfl;have p62:(2:Int)^62=4611686018427387904:=rfl;obtain rfl | rfl | rfl:=hy
 ·refine⟨2,42260,4,rfl,jH rfl,rfl,jH rfl,rfl,by rw[zg 2 (by rfl) au,p2];omega,?_,?_,au,au,au⟩
  ·rw[e1,zg 2 (by rfl) au,zh 62 (by rfl) au,p2,p62,SX 2 4 rfl au au au au au au];omega
  ·rw[zg 2 (by rfl) au,p2];omega
 ·refine⟨3,42264,8,rfl,ej rfl,rfl,ej (jH rfl),rfl,by rw[zg 3 (by rfl) au,p3];omega,?_,?_,au,au,au⟩
  ·rw[e2,zg 3 (by rfl) au,zh 61 (by rfl) au,p3,p61,SX 3 8 rfl au au au au au au];omega
  ·rw[zg 3 (by rfl) au,p3];omega
 ·refine⟨3,42272,8,rfl,ej rfl,rfl,ej (ej rfl),rfl,by rw[zg 3 (by rfl) au,p3];omega,?_,?_,au,au,au⟩
  ·rw[e2,zg 3 (by rfl) au,zh 61 (by rfl) au,p3,p61,SX 3 8 rfl au au au au au au];omega
  ·rw[zg 3 (by rfl) au,p3];omega
theorem aVq(a b c:Int):(((a%18446744073709551616+b)%18446744073709551616) - c%18446744073709551616)%18446744073709551616=(a+b - c)%18446744073709551616:=au
theorem aFO:Ef.Ok:=by
 rintro⟨hi,lo,y⟩ ⟨hy,h0,h1,h2,h3⟩;have h0:0<=hi:=h0;have h1:hi < y:=h1;have h2:0<=lo:=h2;have h3:lo < 18446744073709551616:=h3;have yb:0 < y/\y < 18446744073709551616:=by
  rcases hy with hy | hy
  ·obtain rfl | rfl | rfl:=hy <;> omega
  ·exact hy.2
 rw[aFN,fU au,kr au];simp only[ao];have z:tP y=aL:=by simp[tP];omega
 by_cases hz:hi=0
 ·subst hz;rw[eU rfl,z,akT h2 au h3,yF h2];simp only[ak,akn,bz,Int.zero_mul,Int.zero_add]
 ·have hy:aRU y:=hy.resolve_right λe=>hz e.1
  obtain⟨s,e,m,hs,ZZ,hm,he,aY4,a1,a2,a3,a4,a5,a6⟩:=aPP hy h0 h1 h2 h3;have c1:dO .u64 (s:Int)=(s:Int):=by rw[aGG];omega
  have c2:nv (s:Int)=aL:=vz au;have c3:nv (dG .u64 64 (s:Int))=aL:=by rcases ZZ with rfl | rfl <;> rfl
  rw[fU hz,aHn (d:=y) hy];simp only[ao,ah,bz,hs,c1,c2,c3,ak,a1,a2,a3];have hN:0<=(hi*18446744073709551616+lo)*m:=Int.mul_nonneg au (by rcases ZZ with rfl | rfl <;> omega)
  revert a4 a5 a6
  generalize (hi*18446744073709551616+lo)*m=N at hN;intro a4 a5 a6;have u0:0<=N / 18446744073709551616:=au;have t0:0<=N%18446744073709551616:=au;have t1:N%18446744073709551616 < 18446744073709551616:=au;have hd:N=(N / 18446744073709551616*4294967296+N%18446744073709551616 / 4294967296)*4294967296+N%18446744073709551616%4294967296:=au;have w10:0<=N%18446744073709551616 / 4294967296:=au;have w11:N%18446744073709551616 / 4294967296 < 4294967296:=au;have w00:0<=N%18446744073709551616%4294967296:=au;have w01:N%18446744073709551616%4294967296 < 4294967296:=au;have p32:(2:Int)^32=4294967296:=rfl;have b1:cq .u64 (18446744073709551616 - e) 32=4294967295:=by rw[zh 32 (by rfl) au,p32];rcases he with rfl | rfl | rfl <;> rfl
  have b2:db .and .u64 (18446744073709551616 - e) 4294967295=4294967296 - e:=by rw[anN au au];omega
  have b3:cq .u64 (N%18446744073709551616) 32=N%18446744073709551616 / 4294967296:=by rw[zh 32 (by rfl) au,p32]
  have b4:db .and .u64 (N%18446744073709551616) 4294967295=N%18446744073709551616%4294967296:=anN t0 t1;have z2:tP 4294967295=aL:=rfl;simp only[b1,b2,b3,b4,z2,ak];clear a1 a2 a3 b1 b2 b3 b4;have kdd:=kd (18446744073709551616 - e) (N / 18446744073709551616) (N%18446744073709551616 / 4294967296) (N%18446744073709551616%4294967296) au w00 w01;rw[<-hd,a5]at kdd
  revert a4 kdd
  generalize N / 18446744073709551616=u at u0;generalize N%18446744073709551616 / 4294967296=w1 at w10 w11;generalize N%18446744073709551616%4294967296=w0 at w00 w01;intro a4 kdd
  have g:∀u w:Int,0<=u->u < 18446744073709551616 - e->0<=w->w < 4294967296->
    vS .u64 u 4294967295=u / 4294967295/\dG .u64 u (gB .u64 (u / 4294967295) 4294967295)=u - u / 4294967295*4294967295/\
    dG .u64 (bA .u64 (gB .u64 u 4294967296) w) (gB .u64 ((u*4294967296+w) / (18446744073709551616 - e)) (18446744073709551616 - e))=(u*4294967296+w)%(18446744073709551616 - e):=by
   intro u w k1 k2 k3 k4;obtain⟨q1,q2,q3,q4,q5,q6,q7,q8⟩:=k0 he k1 k2 k3 k4;refine⟨akT k1 au au,by rw[Z3,Bx];omega,?_⟩;rw[Z3,wm,Bx,Bx,aVq,q4];exact fM q5 au
  obtain⟨f1,f2,f3⟩:=g u w1 u0 a4 w10 w11;obtain⟨q1,q2,q3,q4,q5,q6,q7,q8⟩:=k0 he u0 a4 w10 w11;have p1:RW (18446744073709551616 - e,(s:Int),4294967295,4294967296 - e,u,w1,w0,u / 4294967295,u - u / 4294967295*4294967295):=⟨e,he,rfl,rfl,rfl,u0,a4,w10,w11,q2,q3,au,q1⟩;rw[f1,f2,ako p1];simp only[ah,RX,HC,z2,ak,f3]
  revert f3 q1 kdd
  generalize (u*4294967296+w1)%(18446744073709551616 - e)=v at q4 q5 q6;generalize (u*4294967296+w1) / (18446744073709551616 - e)=Q at q4 q7 q8;intro kdd f3 q1;obtain⟨g1,g2,g3⟩:=g v w0 q5 q6 w00 w01;obtain⟨r1,r2,r3,r4,r5,r6,r7,r8⟩:=k0 he q5 q6 w00 w01;have p2:RY (18446744073709551616 - e,(s:Int),4294967295,4294967296 - e,w0,Q,v - v / 4294967295*4294967295,v,v / 4294967295):=⟨e,he,rfl,rfl,rfl,q5,q6,w00,w01,r2,r3,au,r1⟩;rw[g1,g2,akp p2];simp only[ah,RZ,HD,c2,ak,g3];rw[<-kdd.2,zh s (by rfl) au,<-hm,a6,Bx,wm];have e9:(Q*4294967296%18446744073709551616+(v*4294967296+w0) / (18446744073709551616 - e))%18446744073709551616=(hi*18446744073709551616+lo) / y:=by rw[kdd.1];omega
  rw[e9];rfl
theorem az5:Ef.RS:=rE [.d tu,.d tu,.d tu] Ef
def aFP:=Ef.fI aFO 2 ⟨.eW aoz,⟨.eW aoA,trivial⟩⟩
def Wc:(Int×Int×Int)->Prop:=λ(hi,lo,y)=>aRU y/\0<=hi/\hi < 18446744073709551616/\0<=lo/\lo < 18446744073709551616
def TY:(Int×Int×Int)->Int:=λ(hi,lo,y)=>(hi*18446744073709551616+lo)%y
def TX:Fs Tryz.prog Wc bz TY:=fu 143 Tryz.f143 (λ(hi,lo,yv)=>([.d tu hi,.d tu lo,.d tu yv],[])) (λx=>⟨.d tu x,[],[]⟩) [aj tu,aj tu,aj tu] [aFP]
theorem aJi(hi lo yv)(k:K1 R):TX.A (hi,lo,yv) k=aG (tP yv) (al (Ef.call ((nM hi yv),lo,yv)) λx1=>k (TX.out x1.2)) aF:=cf
theorem aJj:TX.Ok:=by
 rintro⟨hi,lo,y⟩ ⟨hy,h0,h1,h2,h3⟩;have h0:0<=hi:=h0;have yb:0 < y:=by obtain rfl | rfl | rfl:=hy <;> omega
 have z:tP y=aL:=by simp[tP];omega
 have p:ah2 (hi%y,lo,y):=⟨.inl hy,pd _ au,kC _ yb,h2,h3⟩;rw[aJi,z,yF h0,az5 p];have e:(hi%y*18446744073709551616+lo)%y=(hi*18446744073709551616+lo)%y:=by rw[vU,jN,hH _ (rz y),<-jN,<-vU]
 simp only[ak,ah,bz,akn,bz,TY,e]
theorem Wd:TX.RS:=rE [.d tu,.d tu,.d tu] TX
def aej:=TX.fI aJj
def aA5:(Int×Int)->Prop:=λ(x,y)=>(0<=x/\x < 18446744073709551616)/\0<=y/\y < 18446744073709551616
def SP:(Int×Int)->(Int×Int):=λ(x,y)=>(x*y / 18446744073709551616,x*y%18446744073709551616)
def Kv:Fs Tryz.prog aA5 bz SP:=fu 72 Tryz.f72 (λ(x,yv)=>([.d tu x,.d tu yv],[])) (λx=>⟨.cons (.d tu x.1) (.cons (.d tu x.2) (.nil)),[],[]⟩) [aj tu,aj tu]
theorem aHr(x yv)(k:K1 R):Kv.A (x,yv) k=k (Kv.out ((bA .u64 (bA .u64 (gB .u64 (cq .u64 x 32) (cq .u64 yv 32)) (cq .u64 (bA .u64 (gB .u64 (cq .u64 x 32) (db .and .u64 yv 4294967295)) (cq .u64 (gB .u64 (db .and .u64 x 4294967295) (db .and .u64 yv 4294967295)) 32)) 32)) (cq .u64 (bA .u64 (db .and .u64 (bA .u64 (gB .u64 (cq .u64 x 32) (db .and .u64 yv 4294967295)) (cq .u64 (gB .u64 (db .and .u64 x 4294967295) (db .and .u64 yv 4294967295)) 32)) 4294967295) (gB .u64 (db .and .u64 x 4294967295) (cq .u64 yv 32))) 32)),(gB .u64 x yv))):=cf
theorem VL{a b m n:Int}(h0:0<=a)(h1:a<=m)(h2:0<=b)(h3:b<=n):0<=a*b/\a*b<=m*n:=⟨Int.mul_nonneg h0 h2,Int.mul_le_mul h1 h3 h2 (Int.le_trans h0 h1)⟩
theorem aHs:Kv.Ok:=by
 rintro⟨x,y⟩ ⟨⟨h0,h1⟩,h2,h3⟩;have h0:0<=x:=h0;have h1:x < 18446744073709551616:=h1;have h2:0<=y:=h2;have h3:y < 18446744073709551616:=h3;rw[aHr];have p32:(2:Int)^32=4294967296:=rfl;have aYx:∀x:Int,cq .u64 x 32=x / 4294967296:=λx=>by rw[zh 32 (by rfl) au,p32]
 simp only[aYx,anN h0 h1,anN h2 h3];obtain⟨a,b,rfl,a0,a1,b0,b1⟩:∃a b:Int,x=a*4294967296+b/\0<=a/\a<=4294967295/\0<=b/\b<=4294967295:=⟨x / 4294967296,x%4294967296,au,au,au,au,au⟩;obtain⟨c,d,rfl,c0,c1,d0,d1⟩:∃a b:Int,y=a*4294967296+b/\0<=a/\a<=4294967295/\0<=b/\b<=4294967295:=⟨y / 4294967296,y%4294967296,au,au,au,au,au⟩;have e1:(a*4294967296+b) / 4294967296=a:=au;have e2:(a*4294967296+b)%4294967296=b:=au;have e3:(c*4294967296+d) / 4294967296=c:=au;have e4:(c*4294967296+d)%4294967296=d:=au;have e5:(a*4294967296+b)*(c*4294967296+d)=a*c*18446744073709551616+(a*d+b*c)*4294967296+b*d:=by
  have q:(4294967296:Int)*4294967296=18446744073709551616:=rfl;rw[Int.add_mul,Int.mul_add,Int.mul_add];have q1:a*4294967296*(c*4294967296)=a*c*18446744073709551616:=by rw[<-q];ac_rfl
  have q2:a*4294967296*d=a*d*4294967296:=by ac_rfl
  have q3:b*(c*4294967296)=b*c*4294967296:=by ac_rfl
  rw[q1,q2,q3];omega
 obtain⟨m1,m2⟩:=VL a0 a1 c0 c1;obtain⟨m3,m4⟩:=VL a0 a1 d0 d1;obtain⟨m5,m6⟩:=VL b0 b1 c0 c1;obtain⟨m7,m8⟩:=VL b0 b1 d0 d1;have n:(4294967295:Int)*4294967295=18446744065119617025:=rfl;rw[n]at m2 m4 m6 m8;simp only[e1,e2,e3,e4,bz,SP,e5,Bx,wm]
 revert m1 m2 m3 m4 m5 m6 m7 m8
 generalize a*c=ac;generalize a*d=ad;generalize b*c=bc;generalize b*d=bd;intro m1 m2 m3 m4 m5 m6 m7 m8;have q1:bd%18446744073709551616=bd:=au;have q2:ad%18446744073709551616=ad:=au;have q3:bc%18446744073709551616=bc:=au;have q4:ac%18446744073709551616=ac:=au;rw[q1,q2,q3,q4];have q5:(ad+bd / 4294967296)%18446744073709551616=ad+bd / 4294967296:=au;have q6:db .and .u64 (ad+bd / 4294967296) 4294967295=(ad+bd / 4294967296)%4294967296:=anN au au;rw[q5,q6];refine congrArg aj (congrArg Kv.out (Prod.ext ?_ ?_))
 ·show _=(_:Int);simp only[];omega
 ·rfl
theorem Na:Kv.RS:=rE [.d tu,.d tu] Kv
def acn:=Kv.fI aHs
def Pn(x:Int):Prop:=0<=x/\x < 4611686018427377339
def ow(x:Int):Prop:=0<=x/\x < 18446744073709551616
theorem Pn.u{x:Int}(h:Pn x):ow x:=⟨h.1,by have:=h.2;omega⟩
def qR(a b:Int):Int:=a*b%4611686018427377339
theorem yM(a b:Int):Pn (qR a b):=⟨pd _ au,kC _ au⟩
def anD:Nat->Int->Nat->Int->Int
 | 0,_,_,out=>out
 |f+1,a,n,out=>if n=0 then out else anD f (qR a a) (n / 2) (if n%2=1 then qR out a else out)
def pw(a:Int)(n:Nat):Int:=anD 64 a n 1
theorem DC(f:Nat)(a out:Int):anD f a 0 out=out:=by cases f <;> rfl
theorem adI:∀(f g:Nat) (a:Int) (n:Nat) (out:Int),n < 2^f->n < 2^g->anD f a n out=anD g a n out
 | 0,g,a,n,out,h,_=>by obtain rfl:n=0:=au;rw[DC,DC]
 |f+1,0,a,n,out,_,h=>by obtain rfl:n=0:=au;rw[DC,DC]
 |f+1,g+1,a,n,out,h,h'=>by
  have e:(2:Nat)^(f+1)=2^f*2:=Nat.pow_succ 2 f;have e':(2:Nat)^(g+1)=2^g*2:=Nat.pow_succ 2 g;unfold anD;split
  ·rfl
  ·exact adI f g _ _ _ au au
theorem aIZ:∀(f:Nat) (a:Int) (n:Nat) (out:Int),Pn out->Pn (anD f a n out)
 | 0,_,_,_,h=>h
 |f+1,a,n,out,h=>by
  unfold anD;split
  ·exact h
  ·refine aIZ f _ _ _ ?_
   split
   ·exact yM _ _
   ·exact h
theorem aqT(a:Int)(n:Nat):Pn (pw a n):=aIZ _ _ _ _ ⟨au,au⟩
def avm:(Int×Int)->Prop:=λ(a,b)=>ow a/\ow b
def aIV:(Int×Int)->Int:=λ(a,b)=>qR a b
def FB:Fs Tryz.prog avm bz aIV:=fu 117 Tryz.f117 (λ(a,b)=>([.d tu a,.d tu b],[])) (λx=>⟨.d tu x,[],[]⟩) [aj tu,aj tu] [acn,aej]
theorem aCf(a b)(k:K1 R):FB.A (a,b) k=al (Kv.call (a,b)) λx1=>al (TX.call (x1.1,x1.2,4611686018427377339)) λx2=>k (FB.out x2):=cf
theorem aft(n:Int):n / 18446744073709551616*18446744073709551616+n%18446744073709551616=n:=au
theorem aCg:FB.Ok:=by rintro⟨a,b⟩ ⟨ha,hb⟩;have ha:ow a:=ha;have hb:ow b:=hb;obtain⟨m1,m2⟩:=VL ha.1 (show a<=18446744073709551615 by have:=ha.2;omega) hb.1 (show b<=18446744073709551615 by have:=hb.2;omega);have n:(18446744073709551615:Int)*18446744073709551615=340282366920938463426481119284349108225:=rfl;rw[n]at m2;have p:Wc (a*b / 18446744073709551616,a*b%18446744073709551616,4611686018427377339):=⟨jH rfl,au,au,au,au⟩;rw[aCf,Na (d:=(a,b)) ⟨ha,hb⟩];simp only[ah,bz,SP];rw[Wd p];simp only[ah,bz,TY,aft];rfl
theorem QQ:FB.RS:=rE [.d tu,.d tu] FB
def ai0:=FB.fI aCg
def agv:(Int×Int×Int)->Prop:=λ(a,n,o)=>ow a/\ow n/\Pn o
def ED:(Int×Int×Int)->Int:=λ(a,n,o)=>anD 64 a n.toNat o
def ave:(Int×Int)->Prop:=λ(a,n)=>ow a/\ow n
def aqJ:(Int×Int)->Int:=λ(a,n)=>pw a n.toNat
def pH:Ls agv bz ED:=te (λ(qq,xZ,outv)=>⟨([.d tu qq,.d tu xZ,bC,bC,bC,.d tu outv]++aQ 14 []),[],(ae 20 [])⟩) (λx=>(.exit 0,⟨(aQ 5 ([.d tu x]++aQ 14 [])),[],(ae 20 [])⟩))
def Ap:Fs Tryz.prog ave bz aqJ:=fu 79 Tryz.f79 (λ(a,n)=>([.d tu a,.d tu n],[])) (λx=>⟨.d tu x,[],[]⟩) [aj tu,aj tu] [ai0] {loops:=oI [(2,{aV:=[0,1,5]})],outs:=oH [(2,{aV:=[5]},{aV:=[4]})],fE:=pW [(2,pH.E)]}
theorem agw:pH.RS:=rL [.d tu,.d tu,.d tu] pH
theorem KQ(qq xZ outv)(kn:K2 R)(kx:K3 R):Ap.R 0 pH (qq,xZ,outv) kn kx=aG (Af xZ 0) (aG (AP (db .and .u64 xZ 1) 1) (al (FB.call (outv,qq)) λx1=>al (FB.call (qq,qq)) λx2=>kn (pH.st (x2,(cq .u64 xZ 1),x1))) (al (FB.call (qq,qq)) λx3=>kn (pH.st (x3,(cq .u64 xZ 1),outv)))) (pH.go kx outv):=cf
theorem aB2(a n)(k:K1 R):Ap.A (a,n) k=al (pH.call (a,n,1)) λx4=>k (Ap.out x4):=cf
theorem aVL{n:Int}(h:ow n):cq .u64 n 1=n / 2:=zh 1 (by rfl) au
theorem al6:(Ap.kA 0 pH):=by
 refine(Ap.nN 0 pH) (λ(a,n,o)=>n.toNat) ?_
 rintro⟨a,n,o⟩ ⟨ha,hn,ho⟩;have ha:ow a:=ha;have hn:ow n:=hn;have ho:Pn o:=ho;have n0:=hn.1;have n1:=hn.2;by_cases h:0 < n
 ·left;have e:ED (a,n,o)=ED (qR a a,n / 2,if n%2=1 then qR o a else o):=by
   show anD 64 a n.toNat o=anD 64 (qR a a) (n / 2).toNat _;rw[adI 64 65 a n.toNat o au au];have t1:(n / 2).toNat=n.toNat / 2:=au;have t2:(n%2=1)=(n.toNat%2=1):=by apply propext;omega
   rw[t1];simp only[t2];show(if n.toNat=0 then o else _)=_;rw[if_neg au]
  refine⟨(qR a a,n / 2,if n%2=1 then qR o a else o),⟨(yM a a).u,⟨au,au⟩,?_⟩,by show(n / 2).toNat < n.toNat;omega,?_,λkn kx=> ?_⟩
  ·show Pn (if n%2=1 then qR o a else o);split
   ·exact yM _ _
   ·exact ho
  ·exact congrArg _ e.symm
  ·rw[KQ,dj h,aVL hn,aUt n0 n1,QQ (d:=(o,a)) ⟨ho.u,ha⟩,QQ (d:=(a,a)) ⟨ha,ha⟩];by_cases h1:n%2=1
   ·rw[eU h1,if_pos h1];rfl
   ·rw[fU h1,if_neg h1];rfl
 ·right;intro R kn kx;obtain rfl:n=0:=au;rw[KQ,cw au];simp only[ao,bz,ED];rw[show anD 64 a (ab 0) o=o from DC _ _ _]
theorem aB3:Ap.Ok:=by rintro⟨a,n⟩ ⟨ha,hn⟩;rw[aB2,agw (d:=(a,n,1)) ⟨ha,hn,au,au⟩];rfl
theorem QO:Ap.RS:=rE [.d tu,.d tu] Ap
def V4:=Ap.fI aB3 1 ⟨.eW al6,trivial⟩
def xG(p:Int):Bool:=decide (0 < p/\p < 4611686018427377339) && decide (pw p 2305843009213688669=1)
def tk(p:Int):Int:=if xG p then p else 1
theorem aKe(p:Int):Pn (tk p):=by
 unfold tk;split
 ·rename_i h;simp only[xG,ax,bO]at h;exact⟨au,au⟩
 ·exact⟨au,au⟩
def IF(p k:Int):Int:=pw (tk p) (k%2305843009213688669).toNat
def gj(k:Int):Int:=IF 4 k
def apR(p:Int):Int:=pw (tk p) 2305843009213688668
def ZO(l:List Int):Int:=l.foldl (λo p=>qR o (tk p)) 1
theorem aNY(l:List Int)(o:Int)(h:Pn o):Pn (l.foldl (λo p=>qR o (tk p)) o):=by
 induction l generalizing o with
 |nil=>exact h
 |cons p l ih=>exact ih _ (yM _ _)
theorem aNZ(l:List Int):Pn (ZO l):=aNY l 1 ⟨au,au⟩
def avf:Int->Prop:=λp=>ow p
def TF:Int->Bool:=λp=>xG p
def yj:Fs Tryz.prog avf bz TF:=fu 55 Tryz.f55 (λp=>([.d tu p],[])) (λx=>⟨.d .bool x,[],[]⟩) [aj tu] [V4]
theorem aB4(p)(k:K1 R):yj.A p k=aG (Af p 0) (aG (fL p 4611686018427377339) (al (Ap.call (p,2305843009213688669)) λx1=>k (yj.out (AP x1 1))) (k (yj.out aS))) (k (yj.out aS)):=cf
theorem aB5:yj.Ok:=by
 intro p hp;have hp:ow p:=hp;rw[aB4,QO (d:=(p,2305843009213688669)) ⟨hp,by constructor <;> decide⟩];simp only[ah,bz,aqJ,bz,TF,xG];by_cases h:0 < p
 ·rw[dj h,ak];by_cases h2:p < 4611686018427377339
  ·rw[aT h2,ak,aI ⟨h,h2⟩,bF];rfl
  ·rw[aP h2,ao,aN (λx=>h2 x.2),dm]
 ·rw[cw h,ao,aN (λx=>h x.1),dm]
theorem DA:yj.RS:=rE [.d tu] yj
def V5:=yj.fI aB5
def avl:Int->Prop:=λp=>ow p
def KX:Int->Int:=λp=>tk p
def FA:Fs Tryz.prog avl bz KX:=fu 80 Tryz.f80 (λp=>([.d tu p],[])) (λx=>⟨.d tu x,[],[]⟩) [aj tu] [V5]
theorem aCd(p)(k:K1 R):FA.A p k=al (yj.call p) λx1=>aG (x1) (k (FA.out p)) (k (FA.out 1)):=cf
theorem aCe:FA.Ok:=by intro p hp;rw[aCd,DA (d:=p) hp];simp only[ah,bz,TF,bz,KX,tk];cases xG p <;> rfl
theorem QP:FA.RS:=rE [.d tu] FA
def V6:=FA.fI aCe
def avg:(Int×Int)->Prop:=λ(p,k)=>ow p/\ow k
def aqK:(Int×Int)->Int:=λ(p,k)=>IF p k
def KR:Fs Tryz.prog avg bz aqK:=fu 41 Tryz.f41 (λ(p,kv)=>([.d tu p,.d tu kv],[])) (λx=>⟨.d tu x,[],[]⟩) [aj tu,aj tu] [V6,V4]
theorem aB6(p kv)(k:K1 R):KR.A (p,kv) k=al (FA.call p) λx1=>al (Ap.call (x1,(nM kv 2305843009213688669))) λx2=>k (KR.out x2):=cf
theorem aB7:KR.Ok:=by rintro⟨p,k⟩ ⟨hp,hk⟩;have hk:ow k:=hk;have e:=yF (y:=2305843009213688669) hk.1;have b:ow (k%2305843009213688669):=⟨au,au⟩;rw[aB6,QP (d:=p) hp,e];simp only[ah,bz,KX];rw[QO (d:=(tk p,k%2305843009213688669)) ⟨(aKe p).u,b⟩];rfl
theorem adE:KR.RS:=rE [.d tu,.d tu] KR
def aiX:=KR.fI aB7
def aBs:Int->Prop:=λk=>ow k
def S3:Int->Int:=λk=>gj k
def Jb:Fs Tryz.prog aBs bz S3:=fu 14 Tryz.f14 (λkv=>([.d tu kv],[])) (λx=>⟨.d tu x,[],[]⟩) [aj tu] [aiX]
theorem aH1(kv)(k:K1 R):Jb.A kv k=al (KR.call (4,kv)) λx1=>k (Jb.out x1):=cf
theorem aH2:Jb.Ok:=by intro k hk;rw[aH1,adE (d:=(4,k)) ⟨⟨au,au⟩,hk⟩];rfl
theorem Cz:Jb.RS:=rE [.d tu] Jb
def KD:=Jb.fI aH2
def aIH:Int->Prop:=λp=>ow p
def aIG:Int->Int:=λp=>apR p
def avb:Fs Tryz.prog aIH bz aIG:=fu 157 Tryz.f157 (λp=>([.d tu p],[])) (λx=>⟨.d tu x,[],[]⟩) [aj tu] [V6,V4]
theorem aNi(p)(k:K1 R):avb.A p k=al (FA.call p) λx1=>al (Ap.call (x1,2305843009213688668)) λx2=>k (avb.out x2):=cf
theorem aNj:avb.Ok:=by intro p hp;rw[aNi,QP (d:=p) hp];simp only[ah,bz,KX];rw[QO (d:=(tk p,2305843009213688668)) ⟨(aKe p).u,by constructor <;> decide⟩];rfl
theorem aII:avb.RS:=rE [.d tu] avb
def aNk:=avb.fI aNj
abbrev aiO:=Int×Bs×Int×Int
def aqc:aiO->Prop:=λ(o,l,n,i)=>Pn o/\(∀x∈l,ow x)/\l.length<=1000000000/\n=l.length/\∃k:Nat,k<=l.length/\i=k
def VU:aiO->Int:=λ(o,l,n,i)=>(l.drop i.toNat).foldl (λo p=>qR o (tk p)) o
def ac0:Bs->Prop:=λl=>(∀x∈l,ow x)/\l.length<=1000000000
def aQV:Bs->Int:=λl=>ZO l
def BM:Ls aqc bz VU:=te (λ(outv,t6,t7,t8)=>⟨([bC,bC,bC,.d tu outv,bC,bC,.d tU t6,.d ti t7,.d ti t8]++aQ 9 []),[],(ae 18 [])⟩) (λx=>(.exit 0,⟨([bC,bC,bC,.d tu x]++aQ 14 []),[],(ae 18 [])⟩))
def acZ:Fs Tryz.prog ac0 bz aQV:=fu 156 Tryz.f156 (λl=>([.d tU l],[])) (λx=>⟨.d tu x,[],[]⟩) [aj tU] [V6,ai0] {loops:=oI [(3,{aV:=[3,6,7,8]})],outs:=oH [(3,{aV:=[3]},{aV:=[2]})],fE:=pW [(3,BM.E)]}
theorem aqd:BM.RS:=rL [.d tu,.d tU,.d ti,.d ti] BM
theorem S0(outv t6 t7 t8)(kn:K2 R)(kx:K3 R):acZ.R 0 BM (outv,t6,t7,t8) kn kx=aG (fL t8 t7) (aG (eE t8 (t6.length:Int)) (al (FA.call (nth tu t6 (ab t8))) λx1=>al (FB.call (outv,x1)) λx2=>kn (BM.st (x2,t6,t7,(bA .i64 t8 1)))) aF) (BM.go kx outv):=cf
theorem aM4(l)(k:K1 R):acZ.A l k=al (BM.call (1,l,(l.length:Int),0)) λx3=>k (acZ.out x3):=cf
theorem auM:(acZ.kA 0 BM):=by
 refine(acZ.nN 0 BM) (λ(o,l,n,i)=>l.length - i.toNat) ?_
 rintro⟨o,l,n,i⟩ ⟨ho,hl,hb,rfl,k,hk,rfl⟩;have ho:Pn o:=ho;have hb:l.length<=1000000000:=hb;have hk:k<=l.length:=hk;by_cases h:k < l.length
 ·left;have hx:=hl _ (aR h);have n1:nth (.int .u64) l k=l[k]:=cj (t:= .int .u64) h;refine⟨(qR o (tk l[k]),l,l.length,((k+1:Nat):Int)),⟨yM _ _,hl,hb,rfl,k+1,au,rfl⟩,by simp only[aa];omega,?_,λkn kx=> ?_⟩
  ·simp only[bz,VU,aa];rw[aq h];rfl
  ·rw[S0];simp(disch:=omega) only[↓S1,↓if_pos,↓if_neg,if_pos,if_neg,bE,bp,S2,n1];rw[QP (d:=l[k]) hx];simp only[ah,bz,KX];rw[QQ (d:=(o,tk l[k])) ⟨ho.u,(aKe _).u⟩];rfl
 ·right;obtain rfl:k=l.length:=au;intro R kn kx;rw[S0];simp(disch:=omega) only[↓S1,↓if_pos,↓if_neg,if_pos,if_neg,bE,bp,S2,bz,VU,aH];rfl
theorem aM5:acZ.Ok:=by rintro l ⟨hl,hb⟩;rw[aM4,aqd (d:=(1,l,l.length,0)) ⟨⟨au,au⟩,hl,hb,rfl,0,au,rfl⟩];rfl
theorem aqe:acZ.RS:=rE [.d tU] acZ
def ayp:=acZ.fI aM5 1 ⟨.eW auM,trivial⟩
def aHZ:(Int×Int)->Prop:=λ(p,q)=>ow p/\ow q
def aHY:(Int×Int)->Int:=λ(p,q)=>ZO [p,q]
def auK:Fs Tryz.prog aHZ bz aHY:=fu 144 Tryz.f144 (λ(p,q)=>([.d tu p,.d tu q],[])) (λx=>⟨.d tu x,[],[]⟩) [aj tu,aj tu] [ayp]
theorem aM1(p q)(k:K1 R):auK.A (p,q) k=al (acZ.call [p,q]) λx1=>k (auK.out x1):=cf
theorem aM2:auK.Ok:=by rintro⟨p,q⟩ ⟨hp,hq⟩;have h:ac0 [p,q]:=⟨by intro x hx;simp only[bI,List.not_mem_nil,or_false]at hx;rcases hx with rfl | rfl <;> assumption,by simp only[aE,bq];omega⟩;rw[aM1,aqe h];rfl
theorem aH0:auK.RS:=rE [.d tu,.d tu] auK
def aM3:=auK.fI aM2
def Qn(x:Int):Prop:=0<=x/\x < 2305843009213688669
theorem Qn.u{x:Int}(h:Qn x):ow x:=⟨h.1,by have:=h.2;omega⟩
def aHK(a:Int):Int:=a%2305843009213688669
theorem aln(a:Int):Qn (aHK a):=⟨pd _ au,kC _ au⟩
def asS(a b:Int):Int:=(aHK a+aHK b)%2305843009213688669
def ale(a b:Int):Int:=aHK a*aHK b%2305843009213688669
def Se(h:List Int):Int:=h.foldl (λn b=>(n*256+b)%2305843009213688668) 0+1
def aEp.b(n:Int):Prop:=0<=n/\n < 2305843009213688668
theorem aoL(h:List Int)(n:Int)(hn:aEp.b n):aEp.b (h.foldl (λn b=>(n*256+b)%2305843009213688668) n):=by
 induction h generalizing n with
 |nil=>exact hn
 |cons p l ih=>exact ih _ ⟨pd _ au,kC _ au⟩
theorem abo(h:List Int):0 < Se h/\Se h < 2305843009213688669:=by have:=aoL h 0 ⟨au,au⟩;have h1:=this.1;have h2:=this.2;unfold Se;omega
theorem axc(a b:Int):Qn (asS a b):=⟨pd _ au,kC _ au⟩
theorem aMG(a b:Int):Qn (ale a b):=⟨pd _ au,kC _ au⟩
def atz:Int->Prop:=λ_=>True
def Sd:Int->Bool:=λa=>fL a 2305843009213688669
def HK:Fs Tryz.prog atz bz Sd:=fu 82 Tryz.f82 (λa=>([.d tu a],[])) (λx=>⟨.d .bool x,[],[]⟩) [aj tu]
theorem aAj(a)(k:K1 R):HK.A a k=k (HK.out (fL a 2305843009213688669)):=cf
theorem aAk:HK.Ok:=by intro a _;rw[aAj];rfl
theorem PY:HK.RS:=rE [.d tu] HK
def Vl:=HK.fI aAk
def aLX:Int->Prop:=λa=>ow a
def aGb:Int->Int:=λa=>aHK a
def aKV:Fs Tryz.prog aLX bz aGb:=fu 159 Tryz.f159 (λa=>([.d tu a],[])) (λx=>⟨.d tu x,[],[]⟩) [aj tu]
theorem aP4(a)(k:K1 R):aKV.A a k=k (aKV.out (nM a 2305843009213688669)):=cf
theorem aP5:aKV.Ok:=by intro a ha;rw[aP4,yF ha.1];rfl
theorem ZX:aKV.RS:=rE [.d tu] aKV
def aGc:=aKV.fI aP5
def aAh:(Int×Int)->Prop:=λ(a,b)=>Qn a/\Qn b
def aLY:(Int×Int)->Int:=λ(a,b)=>(a+b)%2305843009213688669
def abn:Fs Tryz.prog aAh bz aLY:=fu 160 Tryz.f160 (λ(a,b)=>([.d tu a,.d tu b],[])) (λx=>⟨.d tu x,[],[]⟩) [aj tu,aj tu]
theorem aGd(a b)(k:K1 R):abn.A (a,b) k=k (abn.out (nM (bA .u64 a b) 2305843009213688669)):=cf
theorem aGe:abn.Ok:=by
 rintro⟨a,b⟩ ⟨ha,hb⟩;have ha:Qn a:=ha;have hb:Qn b:=hb;obtain⟨h1,h2⟩:=ha;obtain⟨h3,h4⟩:=hb;have e:bA .u64 a b=a+b:=by rw[wm];omega
 rw[aGd,e,yF au];rfl
theorem aAi:abn.RS:=rE [.d tu,.d tu] abn
def aGf:=abn.fI aGe
def atA:(Int×Int)->Prop:=λ(a,b)=>Qn a/\Qn b
def aGg:(Int×Int)->Int:=λ(a,b)=>a*b%2305843009213688669
def PZ:Fs Tryz.prog atA bz aGg:=fu 161 Tryz.f161 (λ(a,b)=>([.d tu a,.d tu b],[])) (λx=>⟨.d tu x,[],[]⟩) [aj tu,aj tu] [acn,aej]
theorem aAl(a b)(k:K1 R):PZ.A (a,b) k=al (Kv.call (a,b)) λx1=>al (TX.call (x1.1,x1.2,2305843009213688669)) λx2=>k (PZ.out x2):=cf
theorem aAm:PZ.Ok:=by rintro⟨a,b⟩ ⟨ha,hb⟩;have ha:Qn a:=ha;have hb:Qn b:=hb;obtain⟨m1,m2⟩:=VL ha.1 (show a<=18446744073709551615 by have:=ha.2;omega) hb.1 (show b<=18446744073709551615 by have:=hb.2;omega);have n:(18446744073709551615:Int)*18446744073709551615=340282366920938463426481119284349108225:=rfl;rw[n]at m2;have p:Wc (a*b / 18446744073709551616,a*b%18446744073709551616,2305843009213688669):=⟨ej (jH rfl),au,au,au,au⟩;rw[aAl,Na (d:=(a,b)) ⟨ha.u,hb.u⟩];simp only[ah,bz,SP];rw[Wd p];simp only[ah,bz,TY,aft];rfl
theorem atB:PZ.RS:=rE [.d tu,.d tu] PZ
def aAn:=PZ.fI aAm
def aFV:(Int×Int)->Prop:=λ(a,b)=>ow a/\ow b
def aP3:(Int×Int)->Int:=λ(a,b)=>asS a b
def atu:Fs Tryz.prog aFV bz aP3:=fu 145 Tryz.f145 (λ(a,b)=>([.d tu a,.d tu b],[])) (λx=>⟨.d tu x,[],[]⟩) [aj tu,aj tu] [aGc,aGf]
theorem aLO(a b)(k:K1 R):atu.A (a,b) k=al (aKV.call a) λx1=>al (aKV.call b) λx2=>al (abn.call (x1,x2)) λx3=>k (atu.out x3):=cf
theorem aLP:atu.Ok:=by rintro⟨a,b⟩ ⟨ha,hb⟩;rw[aLO,ZX (d:=a) ha,ZX (d:=b) hb];simp only[ah,bz,aGb];rw[aAi (d:=(aHK a,aHK b)) ⟨aln a,aln b⟩];rfl
theorem aFW:atu.RS:=rE [.d tu,.d tu] atu
def aLQ:=atu.fI aLP
def aF9:(Int×Int)->Prop:=λ(a,b)=>ow a/\ow b
def aF8:(Int×Int)->Int:=λ(a,b)=>ale a b
def aty:Fs Tryz.prog aF9 bz aF8:=fu 146 Tryz.f146 (λ(a,b)=>([.d tu a,.d tu b],[])) (λx=>⟨.d tu x,[],[]⟩) [aj tu,aj tu] [aGc,aAn]
theorem aLT(a b)(k:K1 R):aty.A (a,b) k=al (aKV.call a) λx1=>al (aKV.call b) λx2=>al (PZ.call (x1,x2)) λx3=>k (aty.out x3):=cf
theorem aLU:aty.Ok:=by rintro⟨a,b⟩ ⟨ha,hb⟩;rw[aLT,ZX (d:=a) ha,ZX (d:=b) hb];simp only[ah,bz,aGb];rw[atB (d:=(aHK a,aHK b)) ⟨aln a,aln b⟩];rfl
theorem aGa:aty.RS:=rE [.d tu,.d tu] aty
def aLV:=aty.fI aLU
def akz:(Int×Bs×Int)->Prop:=λ(n,h,i)=>aEp.b n/\h.length=32/\Bytes h/\∃k:Nat,k<=32/\i=k
def HI:(Int×Bs×Int)->Int:=λ(n,h,i)=>(h.drop i.toNat).foldl (λn b=>(n*256+b)%2305843009213688668) n
def aAc:Bs->Prop:=λh=>h.length=32/\Bytes h
def aky:Bs->Int:=λh=>Se h
def wg:Ls akz bz HI:=te (λ(n,t6,t7)=>⟨([bC,bC,bC,.d tu n,bC,bC,.d tH t6,.d ti t7]++aQ 13 []),[],(ae 21 [])⟩) (λx=>(.exit 0,⟨([bC,bC,bC,.d tu x]++aQ 17 []),[],(ae 21 [])⟩))
def J5:Fs Tryz.prog aAc bz aky:=fu 121 Tryz.f121 (λh=>([.d tH h],[])) (λx=>⟨.d tu x,[],[]⟩) [aj tH] [aej] {loops:=oI [(3,{aV:=[3,6,7]})],outs:=oH [(3,{aV:=[3]},{aV:=[2]})],fE:=pW [(3,wg.E)]}
theorem akA:wg.RS:=rL [.d tu,.d tB,.d ti] wg
theorem Ob(n t6 t7)(kn:K2 R)(kx:K3 R):J5.R 0 wg (n,t6,t7) kn kx=aG (fL t7 32) (aG (eE t7 32) (al (TX.call ((cq .u64 n 56),(db .or .u64 (nk .u64 n 8) (dO .u64 (nth tb t6 (ab t7)))),2305843009213688668)) λx1=>kn (wg.st (x1,t6,(bA .i64 t7 1)))) aF) (wg.go kx n):=cf
theorem aF1(h)(k:K1 R):J5.A h k=al (wg.call (0,h,0)) λx2=>k (J5.out (bA .u64 x2 1)):=cf
theorem Xj{n b:Int}(hn:aEp.b n)(hb:asJ b):cq .u64 n 56*18446744073709551616+db .or .u64 (nk .u64 n 8) (dO .u64 b)=n*256+b/\ow (cq .u64 n 56)/\ow (db .or .u64 (nk .u64 n 8) (dO .u64 b)):=by
 obtain⟨h1,h2⟩:=hn;obtain⟨h3,h4⟩:=hb;have p56:(2:Int)^56=72057594037927936:=rfl;have p8:(2:Int)^8=256:=rfl;have e:dO .u64 b=b:=by rw[aGG];omega
 rw[zh 56 (by rfl) au,zg 8 (by rfl) au,p56,p8,e,SX 8 256 rfl au au au au au au];exact⟨au,⟨au,au⟩,au,au⟩
theorem aoH:(J5.kA 0 wg):=by
 refine(J5.nN 0 wg) (λ(n,h,i)=>32 - i.toNat) ?_
 rintro⟨n,h,i⟩ ⟨hn,hl,hb,k,hk,rfl⟩;have hn:aEp.b n:=hn;have hl:h.length=32:=hl;have hb:Bytes h:=hb;by_cases iB:k < 32
 ·left;have hx:asJ (h[k]'(au)):=hb _ (aR _);have n1:nth (.int .u8) h k=h[k]'(au):=cj (t:= .int .u8) au;obtain⟨d1,d2,d3⟩:=Xj hn hx;refine⟨((n*256+h[k]'(au))%2305843009213688668,h,((k+1:Nat):Int)),⟨⟨au,au⟩,hl,hb,k+1,au,rfl⟩,by simp only[aa];omega,?_,λkn kx=> ?_⟩
  ·simp only[bz,HI,aa];rw[aq (by omega:k < h.length)];rfl
  ·rw[Ob];simp(disch:=omega) only[↓S1,↓if_pos,↓if_neg,if_pos,if_neg,bE,bp,S2,n1];rw[Wd (d:=(_,_,2305843009213688668)) ⟨ej (ej rfl),d2.1,d2.2,d3.1,d3.2⟩];simp only[ah,bz,TY,d1]
 ·right;obtain rfl:k=32:=au;intro R kn kx;rw[Ob];simp(disch:=omega) only[↓S1,↓if_pos,↓if_neg,if_pos,if_neg,bE,bp,S2,bz,HI];rw[fv au];rfl
theorem aF2:J5.Ok:=by
 rintro h ⟨hl,hb⟩;have e:=aoL h 0 ⟨au,au⟩;have h1:=e.1;have h2:=e.2;rw[aF1,akA (d:=(0,h,0)) ⟨⟨au,au⟩,hl,hb,0,au,rfl⟩];simp only[ah,bz,HI,bz,aky,Se,aW,aO]
 revert h1 h2
 generalize h.foldl (λn b=>(n*256+b)%2305843009213688668) 0=m;intro h1 h2;have e:bA .u64 m 1=m+1:=by rw[wm];omega
 rw[e]
theorem ah6:J5.RS:=rE [.d tB] J5
def aoI:=J5.fI aF2 1 ⟨.eW aoH,trivial⟩
theorem anV(n:Int): [dO .u8 (cq .u64 n 56),dO .u8 (cq .u64 n 48),dO .u8 (cq .u64 n 40),dO .u8 (cq .u64 n 32),dO .u8 (cq .u64 n 24),dO .u8 (cq .u64 n 16),dO .u8 (cq .u64 n 8),dO .u8 (cq .u64 n 0)]=jA n:=asY n
theorem eF{α:Type}{l:List α}{n:Nat}(h:l.length=n):cut l 0 n=l:=by subst h;simp[cut]
theorem aKb{n:ByteArray}{a b c:List Int}(hn:n.size<=100)(ha:a.length<=1000000)(hb:b.length<=1000000)(hc:c.length<=1000000):Sw (n,[a,b,c]):=by show(WE _ [a,b,c]).length<=_;rw[WE];simp only[qj,dC,rJ,ai,cl,lP,bq];omega
theorem aKa{n:ByteArray}{a b:List Int}(hn:n.size<=100)(ha:a.length<=1000000)(hb:b.length<=1000000):Sw (n,[a,b]):=by show(WE _ [a,b]).length<=_;rw[WE];simp only[qj,dC,rJ,ai,cl,lP,bq];omega
theorem asa{n:ByteArray}{a:List Int}(hn:n.size<=100)(ha:a.length<=1000000):Sw (n,[a]):=by show(WE _ [a]).length<=_;rw[WE];simp only[qj,dC,rJ,ai,cl,lP,bq];omega
def Sm(m:List Int):Prop:=m.length=32/\Bytes m
theorem aRi(b:List Int):Sm (aRd b):=⟨awj b,azD b⟩
theorem awo(n:List Int)(ps:List (List Int)):Sm (tag n ps):=aRi _
def aJ9(n:ByteArray)(ps:List (List Int)):List Int:=tag (bH n) ps
def aTp:ByteArray:=⟨#[115,105,103]⟩
def auu:ByteArray:=⟨#[110,111,110,99,101]⟩
def I4(r p:Int)(m:List Int):Int:=Se (aJ9 aTp [jA r,jA p,m])
theorem aaM(r p:Int)(m:List Int):Qn (I4 r p m):=by have:=abo (aJ9 aTp [jA r,jA p,m]);exact⟨by unfold I4;omega,by unfold I4;omega⟩
def aPs(s:Sg):Prop:=ow s.1/\ow s.2.1
def CP(p:Int)(m:List Int)(t:Int)(s:Sg):Bool:=if p=1\/xG p=aS\/xG t=aS\/xG s.1=aS\/¬s.2.1 < 2305843009213688669 then aS else decide (gj s.2.1=ZO [s.1,IF p (I4 s.1 p m),apR t])
def ajP(k nonce:Int)(m:List Int)(t:Int):Sg:=(ZO [gj nonce,t],asS nonce (ale (I4 (ZO [gj nonce,t]) (gj k) m) k),())
def aHD(k:Int)(m:List Int):Int:=Se (aJ9 auu [jA k,m])
def mq(k:Int)(m:List Int):Sg:=if k < 2305843009213688669/\k≠0 then ajP k (aHD k m) m 1 else(0,0,())
def atq:Int->Prop:=λ_=>True
def abd:Int->Bs:=λn=>jA n
def HF:Fs Tryz.prog atq bz abd:=fu 122 Tryz.f122 (λn=>([.d tu n],[])) (λx=>⟨.d tB x,[],[]⟩) [aj tu] [] {loops:=oI [(3,{aV:=[0,3,7,8],sites:=[5]})],outs:=oH [(3,{aV:=[3],sites:=[5]},{aV:=[2],sites:=[5]})],res:=[aj tB]} 12
theorem az6(n)(k:K1 R):HF.A n k=k (HF.out [(dO .u8 (cq .u64 n 56)),(dO .u8 (cq .u64 n 48)),(dO .u8 (cq .u64 n 40)),(dO .u8 (cq .u64 n 32)),(dO .u8 (cq .u64 n 24)),(dO .u8 (cq .u64 n 16)),(dO .u8 (cq .u64 n 8)),(dO .u8 (cq .u64 n 0))]):=cf
theorem az7:HF.Ok:=by intro n _;rw[az6,anV];rfl
theorem PN:HF.RS:=rE [.d tu] HF
def ah4:=HF.fI az7 1 ⟨.none cf,trivial⟩
def azI:(Int×Int×Bs)->Prop:=λ(r,p,m)=>Sm m
def ajX:(Int×Int×Bs)->Int:=λ(r,p,m)=>I4 r p m
def WY:Fs Tryz.prog azI bz ajX:=fu 147 Tryz.f147 (λ(r,p,m)=>([.d tu r,.d tu p,.d tH m],[])) (λx=>⟨.d tu x,[],[]⟩) [aj tu,aj tu,aj tH] [ah4,akO,aoI]
theorem aE7(r p m)(k:K1 R):WY.A (r,p,m) k=al (HF.call r) λx1=>al (HF.call p) λx2=>al (Zo.call ((⟨#[115,105,103]⟩:ByteArray),[x1,x2,(cut m 0 32)])) λx3=>al (J5.call x3) λx4=>k (WY.out x4):=cf
theorem aE8:WY.Ok:=by rintro⟨r,p,m⟩ hm;have hm:Sm m:=hm;rw[aE7,PN (d:=r) trivial,PN (d:=p) trivial];simp only[ah,bz,abd];rw[eF hm.1,abE (aKb eG (by rw[cl];omega) (by rw[cl];omega) (by rw[hm.1];omega))];simp only[ah,bz,akN];rw[ah6 (d:=tag (bH (⟨#[115,105,103]⟩:ByteArray)) [jA r,jA p,m]) (awo _ _)];rfl
theorem ahP:WY.RS:=rE [.d tu,.d tu,.d tB] WY
def an4:=WY.fI aE8
abbrev ajl:=Int×Bs×Int×Sg
def arM:ajl->Prop:=λ(p,m,t,s)=>ow p/\Sm m/\ow t/\aPs s
def ajm:ajl->Bool:=λ(p,m,t,s)=>CP p m t s
def ur:Fs Tryz.prog arM bz ajm:=fu 142 Tryz.f142 (λ(p,m,t,pre)=>([.d tu p,.d tH m,.d tu t,.d xn pre],[])) (λx=>⟨.d .bool x,[],[]⟩) [aj tu,aj tH,aj tu,aj xn] [V5,Vl,an4,aiX,aNk,ayp,KD]
theorem awe(p m t pre)(k:K1 R):ur.A (p,m,t,pre) k=aG (AP p 1) (k (ur.out aS)) (al (yj.call p) λx1=>aG (!x1) (k (ur.out aS)) (al (yj.call t) λx2=>aG (!x2) (k (ur.out aS)) (al (yj.call pre.1) λx3=>aG (!x3) (k (ur.out aS)) (al (HK.call pre.2.1) λx4=>aG (!x4) (k (ur.out aS)) (al (WY.call (pre.1,p,m)) λx5=>al (KR.call (p,x5)) λx6=>al (avb.call t) λx7=>al (acZ.call [pre.1,x6,x7]) λx8=>al (Jb.call pre.2.1) λx9=>k (ur.out (AP x9 x8))))))):=cf
theorem awf:ur.Ok:=by
 rintro⟨p,m,t,s⟩ ⟨hp,hm,ht,hs⟩;have hp:ow p:=hp;have ht:ow t:=ht;have hm:Sm m:=hm;have hs:aPs s:=hs;rw[awe,DA (d:=p) hp,DA (d:=t) ht,DA (d:=s.1) hs.1,PY (d:=s.2.1) trivial];simp only[ah,bz,TF,bz,Sd,bz,ajm,CP];by_cases h1:p=1
 ·rw[eU h1,ak,if_pos (jH h1)]
 rw[fU h1,ao];cases h2:xG p
 ·rw[if_pos (ej (jH rfl))];rfl
 cases h3:xG t
 ·rw[if_pos (ej (ej (jH rfl)))];rfl
 cases h4:xG s.1
 ·rw[if_pos (ej (ej (ej (jH rfl))))];rfl
 by_cases h5:s.2.1 < 2305843009213688669
 ·rw[aT h5,if_neg (by simp[h1,h5])];have hq:=aaM s.1 p m;rw[ahP (d:=(s.1,p,m)) hm];simp only[bY,ao,ah,bz,ajX];rw[adE (d:=(p,I4 s.1 p m)) ⟨hp,hq.u⟩,aII (d:=t) ht];simp only[ah,bz,aqK,bz,aIG];have q:ac0 [s.1,IF p (I4 s.1 p m),apR t]:=⟨by
   intro x hx;simp only[bI,List.not_mem_nil,or_false]at hx;rcases hx with rfl | rfl | rfl
   ·exact hs.1
   ·exact(aqT _ _).u
   ·exact(aqT _ _).u,by simp only[aE,bq];omega⟩
  rw[aqe q,Cz (d:=s.2.1) hs.2];rfl
 ·rw[aP h5,if_pos (ej (ej (ej (ej h5))))];rfl
theorem arN:ur.RS:=rE [.d tu,.d tB,.d tu,.d xn] ur
def awg:=ur.fI awf
def ar7:(Int×Bs×Sg)->Prop:=λ(p,m,s)=>ow p/\Sm m/\aPs s
def aju:(Int×Bs×Sg)->Bool:=λ(p,m,s)=>CP p m 1 s
def IJ:Fs Tryz.prog ar7 bz aju:=fu 115 Tryz.f115 (λ(p,m,sv)=>([.d tu p,.d tH m,.d xn sv],[])) (λx=>⟨.d .bool x,[],[]⟩) [aj tu,aj tH,aj xn] [awg]
theorem awB(p m sv)(k:K1 R):IJ.A (p,m,sv) k=al (ur.call (p,m,1,sv)) λx1=>k (IJ.out x1):=cf
theorem awC:IJ.Ok:=by rintro⟨p,m,s⟩ ⟨hp,hm,hs⟩;rw[awB,arN (d:=(p,m,1,s)) ⟨hp,hm,⟨au,au⟩,hs⟩];rfl
theorem ar8:IJ.RS:=rE [.d tu,.d tB,.d xn] IJ
def awD:=IJ.fI awC
def aJX:Int->Prop:=λ_=>True
def awn:Int->Bool:=λk=>decide (k < 2305843009213688669/\k≠0)
def arY:Fs Tryz.prog aJX bz awn:=fu 119 Tryz.f119 (λkv=>([.d tu kv],[])) (λx=>⟨.d .bool x,[],[]⟩) [aj tu] [Vl]
theorem aNU(kv)(k:K1 R):arY.A kv k=al (HK.call kv) λx1=>aG (x1) (k (arY.out (Cw kv 0))) (k (arY.out aS)):=cf
theorem aNV:arY.Ok:=by
 intro k _;rw[aNU,PY (d:=k) trivial];simp only[ah,bz,Sd,bz,awn];by_cases h:k < 2305843009213688669
 ·rw[aT h,ak];by_cases h0:k=0
  ·rw[cz h0,aN (λx=>x.2 h0)]
  ·rw[eA h0,aI ⟨h,h0⟩]
 ·rw[aP h,ao,aN (λx=>h x.1)]
theorem aJY:arY.RS:=rE [.d tu] arY
def aNW:=arY.fI aNV
abbrev ajk:=Int×Int×Bs×Int
def arK:ajk->Prop:=λ(k,n,m,t)=>ow k/\ow n/\Sm m/\ow t
def aDc:ajk->Sg:=λ(k,n,m,t)=>ajP k n m t
def IE:Fs Tryz.prog arK bz aDc:=fu 120 Tryz.f120 (λ(kv,nonce,m,t)=>([.d tu kv,.d tu nonce,.d tH m,.d tu t],[])) (λx=>⟨.d xn x,[],[]⟩) [aj tu,aj tu,aj tH,aj tu] [KD,aM3,an4,aLV,aLQ]
theorem awb(kv nonce m t)(k:K1 R):IE.A (kv,nonce,m,t) k=al (Jb.call nonce) λx1=>al (auK.call (x1,t)) λx2=>al (Jb.call kv) λx3=>al (WY.call (x2,x3,m)) λx4=>al (aty.call (x4,kv)) λx5=>al (atu.call (nonce,x5)) λx6=>k (IE.out (x2,(x6,()))):=cf
theorem awc:IE.Ok:=by rintro⟨k,n,m,t⟩ ⟨hk,hn,hm,ht⟩;have hk:ow k:=hk;have hn:ow n:=hn;have hm:Sm m:=hm;have ht:ow t:=ht;rw[awb,Cz (d:=n) hn];simp only[ah,bz,S3];rw[aH0 (d:=(gj n,t)) ⟨(aqT _ _).u,ht⟩,Cz (d:=k) hk];simp only[ah,bz,S3,bz,aHY];rw[ahP (d:=(ZO [gj n,t],gj k,m)) hm];simp only[ah,bz,ajX];rw[aGa (d:=(I4 (ZO [gj n,t]) (gj k) m,k)) ⟨(aaM _ _ _).u,hk⟩];simp only[ah,bz,aF8];rw[aFW (d:=(n,ale (I4 (ZO [gj n,t]) (gj k) m) k)) ⟨hn,(aMG _ _).u⟩];rfl
theorem arL:IE.RS:=rE [.d tu,.d tu,.d tB,.d tu] IE
def awd:=IE.fI awc
def aDo:(Int×Bs)->Prop:=λ(k,m)=>ow k/\Sm m
def amR:(Int×Bs)->Sg:=λ(k,m)=>mq k m
def YT:Fs Tryz.prog aDo bz amR:=fu 84 Tryz.f84 (λ(kv,m)=>([.d tu kv,.d tH m],[])) (λx=>⟨.d xn x,[],[]⟩) [aj tu,aj tH] [aNW,ah4,akO,aoI,awd]
theorem aJ1(kv m)(k:K1 R):YT.A (kv,m) k=al (arY.call kv) λx1=>aG (!x1) (k (YT.out (0,(0,())))) (al (HF.call kv) λx2=>al (Zo.call ((⟨#[110,111,110,99,101]⟩:ByteArray),[x2,(cut m 0 32)])) λx3=>al (J5.call x3) λx4=>al (IE.call (kv,x4,m,1)) λx5=>k (YT.out x5)):=cf
theorem aJ2:YT.Ok:=by
 rintro⟨k,m⟩ ⟨hk,hm⟩;have hk:ow k:=hk;have hm:Sm m:=hm;rw[aJ1,aJY (d:=k) trivial];simp only[ah,bz,awn,bz,amR,mq];by_cases h:k < 2305843009213688669/\k≠0
 ·rw[aI h,if_pos h,PN (d:=k) trivial,eF hm.1];simp only[bY,ao,ah,bz,abd];rw[abE (aKa eG (by rw[cl];omega) (by rw[hm.1];omega))];simp only[ah,bz,akN];rw[ah6 (d:=tag (bH (⟨#[110,111,110,99,101]⟩:ByteArray)) [jA k,m]) (awo _ _)];simp only[ah,bz,aky];have q:=abo (tag (bH (⟨#[110,111,110,99,101]⟩:ByteArray)) [jA k,m]);rw[arL (d:=(k,Se (tag (bH (⟨#[110,111,110,99,101]⟩:ByteArray)) [jA k,m]),m,1)) ⟨hk,⟨au,au⟩,hm,au,au⟩];rfl
 ·rw[aN h,if_neg h];rfl
theorem aDp:YT.RS:=rE [.d tu,.d tB] YT
def aJ3:=YT.fI aJ2
def IZ(l:List Int):Prop:=∀x∈l,ow x
def aEm(b:pZ):Prop:=IZ b.1/\ow b.2.2.2.1
def afG(l:Lk):Prop:=∀b∈l.1,aEm b
def Su(n:Int):Bool:=decide (0<=n/\n<=1048576)
def xp(b:pZ):Bool:=decide (b.1.length<=12) && (b.1.all xG && (Su b.2.1 && (Su b.2.2.1 && (decide (b.2.2.2.1=0) || xG b.2.2.2.1))))
def lk(l:Lk):Bool:=l.1.all xp && decide (0 < l.1.length/\l.1.length<=4)
def AY:List Int->Int->Int⊕Unit
 |[],_=> .inr ()
 |p::ps,i=>if xG p then AY ps (i+1) else .inl i
def axf(l:List Int):Int:=match AY l 0 with | .inl i=>i | .inr _=> -1
theorem WO:∀(l:List Int) (i:Int),0<=i->(match AY l i with | .inl i=>decide (i>=0) | .inr _=>aS)= !(l.all xG)
 |[],_,_=>rfl
 |p::ps,i,h=>by
  rw[AY,eR];cases hp:xG p
  ·simp[h]
  ·simp only[bE,bF];exact WO ps (i+1) au
theorem azo(l:List Int):D4 (axf l) 0= !(l.all xG):=by
 have:=WO l 0 au;unfold axf D4;cases h:AY l 0
 ·rw[h]at this;exact this
 ·rw[h]at this;rw[<-this];rfl
def aGX:Int->Prop:=λp=>ow p
def akY:Int->Bool:=λp=> !xG p
def apg:Fs Tryz.prog aGX bz akY:=fu 54 Tryz.f54 (λp=>([.d tu p],[])) (λx=>⟨.d .bool x,[],[]⟩) [aj tu] [V5]
theorem aMv(p)(k:K1 R):apg.A p k=al (yj.call p) λx1=>k (apg.out (!x1)):=cf
theorem aMw:apg.Ok:=by intro p hp;rw[aMv,DA (d:=p) hp];rfl
theorem abT:apg.RS:=rE [.d tu] apg
def ax2:=apg.fI aMw
abbrev zO:=Bs×Int×Int
def sy:zO->AS:=λ(mO,t7,t8)=>⟨([.d tU mO,.fn 54 (.nil)]++aQ 5 ([.d ti t7,.d ti t8]++aQ 10 [])),[],(ae 19 [])⟩
def yP:Int->Exit×AS:=λx=>(.ret,⟨(aQ 4 ([.d ti x]++aQ 14 [])),[],(ae 19 [])⟩)
def yQ:Unit->Exit×AS:=λx=>(.exit 0,⟨(aQ 19 []),[],(ae 19 [])⟩)
abbrev KK:=(Int)⊕(Unit)
abbrev X9:=(Int)⊕(Unit)
def Fw:KK->Out (Exit×AS):=λx=> .br x.isLeft (.get x.getLeft? λa=> .ok (yP a)) (.get x.getRight? λb=> .ok (yQ b))
def jY:zO->X9->KK:=λ(mO,t7,t8) y=>match y with | .inl y=> .inl y | .inr z=> .inr (z)
def yO:zO->Prop:=λ(l,n,i)=>IZ l/\l.length<=1000000000/\n=l.length/\∃k:Nat,k<=l.length/\i=k
def nW:zO->X9:=λ(l,n,i)=>AY (l.drop i.toNat) i
def au3:Bs->Prop:=λl=>IZ l/\l.length<=1000000000
def adj:Bs->Int:=λl=>axf l
def X7:=du.eW sy yO jY nW Fw
def KL:zO->Option KK:=fP X7 sy
def An:Fs Tryz.prog au3 bz adj:=fu 92 Tryz.f92 (λsv=>([.d tU sv,.fn 54 (.nil)],[])) (λx=>⟨.d ti x,[],[]⟩) [aj tU,aF] [ax2] {loops:=oI [(2,{aV:=[0,1,7,8]})],outs:=oH [(2,{},{aV:=[4]})],fE:=pW [(2,X7)]}
def X8:= @dV Tryz.prog (jB An.G) An.an 0 Tryz.f92 0 _ sy
abbrev Ti:=jh Tryz.prog (jB An.G) An.an 0 Tryz.f92 0 sy yO jY nW Fw
theorem ags:iy KL yO jY nW:=kz (jC [.d tU,.d ti,.d ti] λ_=>cf)
theorem QD:mY @X8 sy yO jY nW Fw Ti:=nJ
theorem Dt(mO t7 t8)(kn:K2 R)(kx:K3 R):X8 (mO,t7,t8) kn kx=aG (fL t8 t7) (aG (eE t8 (((List.length mO):Nat):Int)) (al (apg.call (nth tu mO (ab t8))) λx1=>aG (x1) (kx (yP t8).1 (yP t8).2) (kn (sy (mO,t7,(bA .i64 t8 (1:Int)))))) aF) (kx (yQ ()).1 (yQ ()).2):=cf
theorem aBI(sv)(k:K1 R):An.A sv k=al (KL (sv,(sv.length:Int),0)) λx2=>aG x2.isLeft (al x2.getLeft? λa3=>k (An.out a3)) (al x2.getRight? λb4=>k (An.out (-1))):=cf
theorem alL:Ti:=by
 refine QD (λ(l,n,i)=>l.length - i.toNat) ?_
 rintro⟨l,n,i⟩ ⟨hl,hb,rfl,k,hk,rfl⟩;have hb:l.length<=1000000000:=hb;have hk:k<=l.length:=hk;by_cases h:k < l.length
 ·have hx:=hl _ (aR h);have n1:nth (.int .u64) l k=l[k]:=cj (t:= .int .u64) h;have hd:AY (l.drop k) k=if xG l[k] then AY (l.drop (k+1)) ((k+1:Nat):Int) else .inl (k:Int):=by rw[aq h];rfl
  cases hp:xG l[k]
  ·right;refine⟨yP (k:Int),?_,λkn kx=> ?_⟩
   ·simp only[jY,nW,aa,hd,hp,bw,bp];rfl
   ·rw[Dt];simp(disch:=omega) only[↓S1,↓if_pos,↓if_neg,if_pos,if_neg,bE,bp,S2,n1];rw[abT (d:=l[k]) hx];simp only[ah,bz,akY,hp,dK,ak]
  ·left;refine⟨(l,l.length,((k+1:Nat):Int)),⟨hl,hb,rfl,k+1,au,rfl⟩,by simp only[aa];omega,?_,λkn kx=> ?_⟩
   ·simp only[jY,nW,aa,hd,hp,bE]
   ·rw[Dt];simp(disch:=omega) only[↓S1,↓if_pos,↓if_neg,if_pos,if_neg,bE,bp,S2,n1];rw[abT (d:=l[k]) hx];simp only[ah,bz,akY,hp,bY,ao]
 ·right;obtain rfl:k=l.length:=au;refine⟨yQ (),?_,λkn kx=> ?_⟩
  ·simp only[jY,nW,aa,aH];rfl
  ·rw[Dt];simp(disch:=omega) only[↓S1,↓if_pos,↓if_neg,if_pos,if_neg,bE,bp,S2]
theorem aBJ:An.Ok:=by rintro l ⟨hl,hb⟩;rw[aBI,ags (d:=(l,l.length,0)) ⟨hl,hb,rfl,0,au,rfl⟩];simp only[ah,jY,nW,aW,aO,bz,adj,axf];cases AY l 0 <;> rfl
theorem au4:An.RS:=rE [.d tU] An
def aBK:=An.fI aBJ 1 ⟨.eW alL,trivial⟩
def agp:Bs->Prop:=λl=>IZ l/\l.length<=1000000000
def XV:Bs->Bool:=λl=> !(l.all xG)
def yd:Fs Tryz.prog agp bz XV:=fu 56 Tryz.f56 (λsv=>([.d tU sv,.fn 54 (.nil)],[])) (λx=>⟨.d .bool x,[],[]⟩) [aj tU,aF] [aBK]
theorem alC(sv)(k:K1 R):yd.A sv k=al (An.call sv) λx1=>k (yd.out (D4 x1 0)):=cf
theorem alD:yd.Ok:=by rintro l ⟨hl,hb⟩;rw[alC,au4 (d:=l) ⟨hl,hb⟩];simp only[ah,bz,adj,azo];rfl
theorem agq:yd.RS:=rE [.d tU] yd
def alE:=yd.fI alD
def aph:Int->Prop:=λ_=>True
def VG:Int->Bool:=λn=>Su n
def BB:Fs Tryz.prog aph bz VG:=fu 57 Tryz.f57 (λn=>([.d ti n],[])) (λx=>⟨.d .bool x,[],[]⟩) [aj ti]
theorem auc(n)(k:K1 R):BB.A n k=aG (D4 n 0) (k (BB.out (akP n 1048576))) (k (BB.out aS)):=cf
theorem aud:BB.Ok:=by
 intro n _;rw[auc];simp only[bz,VG,Su];by_cases h:0<=n
 ·rw[gA h,ak];by_cases h2:n<=1048576
  ·rw[pt h2,aI ⟨h,h2⟩]
  ·rw[kr h2,aN (λx=>h2 x.2)]
 ·rw[eD h,ao,aN (λx=>h x.1)]
theorem Xx:BB.RS:=rE [.d ti] BB
def aue:=BB.fI aud
abbrev zJ:=Lk×(List pZ)×Int×Int
def lX:zJ->AS:=λ(VE,t7,t8,t9)=>⟨([bC,.dx Ag VE,bC,.fn 54 (.nil),bC,bC,bC,.d (.slice iS) t7,.d ti t8,.d ti t9]++aQ 47 []),[],(ae 57 [])⟩
def fm:Unit->Exit×AS:=λx=>(.ret,⟨([bC,bC,.d .bool aS]++aQ 54 []),[],(ae 57 [])⟩)
def yL:Lk->Exit×AS:=λx=>(.exit 0,⟨([bC,.dx Ag x]++aQ 55 []),[],(ae 57 [])⟩)
abbrev Kn:=(Unit)⊕(Lk)
abbrev XB:=(Unit)⊕(Unit)
def Fo:Kn->Out (Exit×AS):=λx=> .br x.isLeft (.get x.getLeft? λa=> .ok (fm a)) (.get x.getRight? λb=> .ok (yL b))
def jW:zJ->XB->Kn:=λ(VE,t7,t8,t9) y=>match y with | .inl y=> .inl y | .inr z=> .inr (VE)
def yK:zJ->Prop:=λ(l,bs,n,i)=>(∀b∈bs,aEm b)/\bs.length<=9223372036854775807/\n=bs.length/\∃k:Nat,k<=bs.length/\i=k
def nU:zJ->XB:=λ(l,bs,n,i)=>if(bs.drop i.toNat).all xp then .inr () else .inl ()
def auh:Lk->Prop:=λl=>afG l/\l.1.length<=9223372036854775807
def GB:Lk->Bool:=λl=>lk l
def XA:=du.eW lX yK jW nU Fo
def Ko:zJ->Option Kn:=fP XA lX
def qP:Fs Tryz.prog auh bz GB:=fu 22 Tryz.f22 (λl=>([.d Ag l],[])) (λx=>⟨.d .bool x,[],[]⟩) [aj Ag] [aue,alE,ax2] {loops:=oI [(3,{aV:=[1,3,7,8,9]})],outs:=oH [(3,{aV:=[1]},{aV:=[2]})],fE:=pW [(3,XA)]}
def Km:= @dV Tryz.prog (jB qP.G) qP.an 0 Tryz.f22 0 _ lX
abbrev SL:=jh Tryz.prog (jB qP.G) qP.an 0 Tryz.f22 0 lX yK jW nU Fo
theorem af8:iy Ko yK jW nU:=kz (jC [.d Ag,.d (.slice iS),.d ti,.d ti] λ_=>cf)
theorem Qc:mY @Km lX yK jW nU Fo SL:=nJ
theorem Kp(VE t7 t8 t9)(kn:K2 R)(kx:K3 R):Km (VE,t7,t8,t9) kn kx=aG (fL t9 t8) (aG (eE t9 (((List.length t7):Nat):Int)) (aG (Af (((List.length (nth iS t7 (ab t9)).1):Nat):Int) (12:Int)) (kx (fm ()).1 (fm ()).2) (al (yd.call (nth iS t7 (ab t9)).1) λx1=>aG (x1) (kx (fm ()).1 (fm ()).2) (al (BB.call (nth iS t7 (ab t9)).2.1) λx2=>aG (!x2) (kx (fm ()).1 (fm ()).2) (al (BB.call (nth iS t7 (ab t9)).2.2.1) λx3=>aG (!x3) (kx (fm ()).1 (fm ()).2) (aG (Cw (nth iS t7 (ab t9)).2.2.2.1 (0:Int)) (al (apg.call (nth iS t7 (ab t9)).2.2.2.1) λx4=>aG (x4) (kx (fm ()).1 (fm ()).2) (kn (lX (VE,t7,t8,(bA .i64 t9 (1:Int)))))) (kn (lX (VE,t7,t8,(bA .i64 t9 (1:Int)))))))))) aF) (kx (yL VE).1 (yL VE).2):=cf
theorem aAW(l)(k:K1 R):qP.A l k=al (Ko (l,l.1,(l.1.length:Int),0)) λx5=>aG x5.isLeft (al x5.getLeft? λa6=>k (qP.out aS)) (al x5.getRight? λb7=>aG (Af (b7.1.length:Int) 0) (k (qP.out (akP (b7.1.length:Int) 4))) (k (qP.out aS))):=cf
theorem ala:SL:=by
 refine Qc (λ(l,bs,n,i)=>bs.length - i.toNat) ?_
 rintro⟨l,bs,n,i⟩ ⟨hl,hb,rfl,k,hk,rfl⟩;have hb:bs.length<=9223372036854775807:=hb;have hk:k<=bs.length:=hk;by_cases h:k < bs.length
 ·have hx:aEm bs[k]:=hl _ (aR h);have n1:nth (.pair (.slice (.int .u64)) (.pair (.int .i64) (.pair (.int .i64) (.pair (.int .u64) .unit)))) bs k=bs[k]:=cj (t:=(.pair (.slice (.int .u64)) (.pair (.int .i64) (.pair (.int .i64) (.pair (.int .u64) .unit))))) h;have hd:(bs.drop k).all xp=(xp bs[k] && (bs.drop (k+1)).all xp):=by rw[aq h,eR]
  have step:∀ {R:Type} (kn:AS->Option R) (kx:Exit->AS->Option R),Km (l,bs,(bs.length:Int),(k:Int)) kn kx=aG (xp bs[k]) (kn (lX (l,bs,(bs.length:Int),((k+1:Nat):Int)))) (kx (fm ()).1 (fm ()).2):=by
   intro R kn kx;rw[Kp,aT au,aZ au au,aa,n1,N.lh au];obtain⟨⟨ks,af,dl,sc,u⟩,aP9⟩:∃b,bs[k]=b:=⟨_,rfl⟩;rw[aP9]at hx ⊢;have h1:IZ ks:=hx.1;have h2:ow sc:=hx.2;simp only[ak,xp];by_cases hk:ks.length<=12
   ·rw[cw au,agq (d:=ks) ⟨h1,au⟩,Xx (d:=af) trivial,Xx (d:=dl) trivial,abT (d:=sc) h2,aI hk];simp only[ao,ah,bz,XV,bz,VG,bz,akY,bF];cases ks.all xG
    ·rfl
    cases Su af
    ·rfl
    cases Su dl
    ·rfl
    by_cases hs:sc=0
    ·rw[cz hs,aI hs];rfl
    ·rw[eA hs,aN hs];cases xG sc <;> rfl
   ·rw[dj au,aN hk];rfl
  cases hp:xp bs[k]
  ·right;refine⟨fm (),?_,λkn kx=> ?_⟩
   ·simp only[jW,nU,aa,hd,hp,dm,bw,bp];rfl
   ·rw[step,hp,ao]
  ·left;refine⟨(l,bs,bs.length,((k+1:Nat):Int)),⟨hl,hb,rfl,k+1,au,rfl⟩,by simp only[aa];omega,?_,λkn kx=> ?_⟩
   ·simp only[jW,nU,aa,hd,hp,bF]
   ·rw[step,hp,ak]
 ·right;obtain rfl:k=bs.length:=au;refine⟨yL l,?_,λkn kx=> ?_⟩
  ·simp only[jW,nU,aa,aH];rfl
  ·rw[Kp];simp(disch:=omega) only[↓S1,↓if_pos,↓if_neg,if_pos,if_neg,bE,bp,S2]
theorem aAX:qP.Ok:=by
 rintro l ⟨hl,hb⟩;have hb:l.1.length<=9223372036854775807:=hb;rw[aAW,af8 (d:=(l,l.1,l.1.length,0)) ⟨hl,hb,rfl,0,au,rfl⟩];simp only[ah,jW,nU,aW,aO,bz,GB,lk];cases l.1.all xp
 ·rfl
 ·simp only[bE,bF];show aG (Af _ _) _ _=_;by_cases h0:0 < l.1.length
  ·rw[dj au];by_cases h4:l.1.length<=4
   ·rw[pt au,aI ⟨h0,h4⟩];rfl
   ·rw[kr au,aN (λx=>h4 x.2)];rfl
  ·rw[cw au,aN (λx=>h0 x.1)];rfl
theorem C7:qP.RS:=rE [.d Ag] qP
def GC:=qP.fI aAX 1 ⟨.eW ala,trivial⟩
def AI(m:List Int):List Int->List Sg->Bool
 |[],_=>aL
 |p::ps,ss=>CP p m 1 (ss.headD (0,0,())) && AI m ps ss.tail
def GO(l:Lk)(w:Pq)(m:List Int)(height age:Int):Int:=
 if lk l=aS\/w.1 < 0\/w.1>=l.1.length then 1
 else
  let b:=nth (.pair (.slice (.int .u64)) (.pair (.int .i64) (.pair (.int .i64) (.pair (.int .u64) .unit)))) l.1 w.1.toNat
  if height < b.2.1\/age < b.2.2.1 then 11
  else if b.2.2.2.1≠0/\gj w.2.2.1≠b.2.2.2.1 then 23
  else if w.2.1.length≠b.1.length then 7
  else if AI m b.1 w.2.1 then 0 else 7
theorem aD3(m:List Int)(ks:List Int)(ss:List Sg)(h:ss.length=ks.length)(k:Nat)(hk:k < ks.length):AI m (ks.drop k) (ss.drop k)=(CP ks[k] m 1 (ss[k]'(au)) && AI m (ks.drop (k+1)) (ss.drop (k+1))):=by rw[aq hk,aq (by omega:k < ss.length)];rfl
def aaw(w:Pq):Prop:=(∀s∈w.2.1,aPs s)/\ow w.2.2.1
abbrev C5:=Pq×Bs×Bs×Int×Int
def qN:C5->AS:=λ(aw0,afI,t68,t69,t70)=>⟨(aQ 6 ([.dx aeW aw0,.dx tH afI]++aQ 60 ([.d tU t68,.d ti t69,.d ti t70]++aQ 14 []))),[],(ae 85 [])⟩
def sa:Unit->Exit×AS:=λx=>(.ret,⟨(aQ 10 ([.d ti (7:Int)]++aQ 74 [])),[],(ae 85 [])⟩)
def BD:Unit->Exit×AS:=λx=>(.exit 1,⟨(aQ 85 []),[],(ae 85 [])⟩)
abbrev Qa:=(Unit)⊕(Unit)
abbrev ab4:=(Unit)⊕(Unit)
def HP:Qa->Out (Exit×AS):=λx=> .br x.isLeft (.get x.getLeft? λa=> .ok (sa a)) (.get x.getRight? λb=> .ok (BD b))
def lW:C5->ab4->Qa:=λ(aw0,afI,t68,t69,t70) y=>match y with | .inl y=> .inl y | .inr z=> .inr (z)
abbrev ax6:=Lk×Pq×Bs×Int×Int
def BC:C5->Prop:=λ(w,m,ks,n,i)=>aaw w/\Sm m/\IZ ks/\ks.length<=1000000000/\w.2.1.length=ks.length/\n=ks.length/\∃k:Nat,k<=ks.length/\i=k
def qM:C5->ab4:=λ(w,m,ks,n,i)=>if AI m (ks.drop i.toNat) (w.2.1.drop i.toNat) then .inr () else .inl ()
def aAT:ax6->Prop:=λ(l,w,m,h,a)=>afG l/\l.1.length<=9223372036854775807/\aaw w/\Sm m
def ak3:ax6->Int:=λ(l,w,m,h,a)=>GO l w m h a
def ab3:=du.eW qN BC lW qM HP
def yJ:C5->Option Qa:=fP ab3 qN
def nT:Fs Tryz.prog aAT bz ak3:=fu 75 Tryz.f75 (λ(l,wv,m,height,age)=>([.d Ag l,.d aeW wv,.d tH m,.d ti height,.d ti age],[])) (λx=>⟨.d ti x,[],[]⟩) [aj Ag,aj aeW,aj tH,aj ti,aj ti] [GC,KD,awD] {loops:=oI [(11,{aV:=[6,7,68,69,70]})],outs:=oH [(11,{},{aV:=[10]})],fE:=pW [(11,ab3)]}
def P9:= @dV Tryz.prog (jB nT.G) nT.an 0 Tryz.f75 0 _ qN
abbrev Xz:=jh Tryz.prog (jB nT.G) nT.an 0 Tryz.f75 0 qN BC lW qM HP
theorem ak4:iy yJ BC lW qM:=kz (jC [.d aeW,.d tH,.d tU,.d ti,.d ti] λ_=>cf)
theorem SK:mY @P9 qN BC lW qM HP Xz:=nJ
theorem Oi(aw0 afI t68 t69 t70)(kn:K2 R)(kx:K3 R):P9 (aw0,afI,t68,t69,t70) kn kx=aG (fL t70 t69) (aG (eE t70 (((List.length t68):Nat):Int)) (aG (eE t70 (((List.length aw0.2.1):Nat):Int)) (al (IJ.call ((nth tu t68 (ab t70)),afI,(nth xn aw0.2.1 (ab t70)))) λx1=>aG (!x1) (kx (sa ()).1 (sa ()).2) (kn (qN (aw0,afI,t68,t69,(bA .i64 t70 (1:Int)))))) aF) aF) (kx (BD ()).1 (BD ()).2):=cf
theorem aHd(l wv m height age)(k:K1 R):nT.A (l,wv,m,height,age) k=al (qP.call l) λx1=>aG (!x1) (k (nT.out 1)) (aG (fL wv.1 0) (k (nT.out 1)) (aG (D4 wv.1 (l.1.length:Int)) (k (nT.out 1)) (aG (eE wv.1 (l.1.length:Int)) (aG (fL height (nth iS l.1 (ab wv.1)).2.1) (k (nT.out 11)) (aG (fL age (nth iS l.1 (ab wv.1)).2.2.1) (k (nT.out 11)) (aG (Cw (nth iS l.1 (ab wv.1)).2.2.2.1 0) (al (Jb.call wv.2.2.1) λx2=>aG (Cw x2 (nth iS l.1 (ab wv.1)).2.2.2.1) (k (nT.out 23)) (aG (Cw (wv.2.1.length:Int) (((List.length (nth iS l.1 (ab wv.1)).1):Nat):Int)) (k (nT.out 7)) (al (yJ (wv,m,(nth iS l.1 (ab wv.1)).1,(((List.length (nth iS l.1 (ab wv.1)).1):Nat):Int),0)) λx4=>aG x4.isLeft (al x4.getLeft? λa5=>k (nT.out 7)) (al x4.getRight? λb6=>k (nT.out 0))))) (aG (Cw (wv.2.1.length:Int) (((List.length (nth iS l.1 (ab wv.1)).1):Nat):Int)) (k (nT.out 7)) (al (yJ (wv,m,(nth iS l.1 (ab wv.1)).1,(((List.length (nth iS l.1 (ab wv.1)).1):Nat):Int),0)) λx7=>aG x7.isLeft (al x7.getLeft? λa8=>k (nT.out 7)) (al x7.getRight? λb9=>k (nT.out 0))))))) aF))):=cf
theorem apo:Xz:=by
 refine SK (λ(w,m,ks,n,i)=>ks.length - i.toNat) ?_
 rintro⟨w,m,ks,n,i⟩ ⟨hw,hm,hl,hb,hs,rfl,k,hk,rfl⟩;have hb:ks.length<=1000000000:=hb;have hk:k<=ks.length:=hk;have hs:w.2.1.length=ks.length:=hs;by_cases h:k < ks.length
 ·have hx:=hl _ (aR h);have hy:=hw.1 _ (aR (by omega:k < w.2.1.length));have n1:nth (.int .u64) ks k=ks[k]:=cj (t:= .int .u64) h;have n2:nth (.pair (.int .u64) (.pair (.int .u64) .unit)) w.2.1 k=w.2.1[k]'(au):=cj (t:=(.pair (.int .u64) (.pair (.int .u64) .unit))) au;have hd:=aD3 m ks w.2.1 hs k h;have step:∀ {R:Type} (kn:AS->Option R) (kx:Exit->AS->Option R),P9 (w,m,ks,(ks.length:Int),(k:Int)) kn kx=aG (CP ks[k] m 1 (w.2.1[k]'(au))) (kn (qN (w,m,ks,(ks.length:Int),((k+1:Nat):Int)))) (kx (sa ()).1 (sa ()).2):=by intro R kn kx;rw[Oi,aT au,aZ au au,aZ au au,aa,n1,n2,N.lh au,ar8 (d:=(ks[k],m,w.2.1[k]'(au))) ⟨hx,hm,hy⟩];simp only[ak,ah,bz,aju];cases CP ks[k] m 1 (w.2.1[k]'(au)) <;> rfl
  cases hp:CP ks[k] m 1 (w.2.1[k]'(au))
  ·right;refine⟨sa (),?_,λkn kx=> ?_⟩
   ·simp only[lW,qM,aa,hd,hp,dm,bw,bp];rfl
   ·rw[step,hp,ao]
  ·left;refine⟨(w,m,ks,ks.length,((k+1:Nat):Int)),⟨hw,hm,hl,hb,hs,rfl,k+1,au,rfl⟩,by simp only[aa];omega,?_,λkn kx=> ?_⟩
   ·simp only[lW,qM,aa,hd,hp,bF]
   ·rw[step,hp,ak]
 ·right;obtain rfl:k=ks.length:=au;refine⟨BD (),?_,λkn kx=> ?_⟩
  ·simp only[lW,qM,aa,aH];rfl
  ·rw[Oi];simp(disch:=omega) only[↓S1,↓if_pos,↓if_neg,if_pos,if_neg,bE,bp,S2]
theorem aAP{l:Lk}(h:lk l=aL){b:pZ}(hb:b∈l.1):b.1.length<=12:=by unfold lk at h;rw[ax,bQ]at h;have:=h.1 b hb;unfold xp at this;rw[ax]at this;simpa using this.1
theorem aHe:nT.Ok:=by
  rintro⟨l,w,m,h,a⟩ ⟨hl,hb,hw,hm⟩;have hl:afG l:=hl;have hb:l.1.length<=9223372036854775807:=hb;have hw:aaw w:=hw;have hm:Sm m:=hm;rw[aHd,C7 (d:=l) ⟨hl,hb⟩];simp only[ah,bz,GB,bz,ak3,GO];cases gb:lk l
  · rw[if_pos (jH rfl)];rfl
  by_cases h0:w.1 < 0
  · rw[aT h0,if_pos (ej (jH h0))];rfl
  by_cases h1:w.1>=l.1.length
  · rw[aP h0,gA h1,if_pos (ej (ej h1))];rfl
  rw[aP h0,eD h1,aZ au au,if_neg (by simp[h0];omega)];have hn:w.1.toNat < l.1.length:=au;have n1:nth (.pair (.slice (.int .u64)) (.pair (.int .i64) (.pair (.int .i64) (.pair (.int .u64) .unit)))) l.1 w.1.toNat=l.1[w.1.toNat]:=cj (t:=(.pair (.slice (.int .u64)) (.pair (.int .i64) (.pair (.int .i64) (.pair (.int .u64) .unit))))) hn;rw[n1];have hx:aEm l.1[w.1.toNat]:=hl _ (aR hn);have aSV:=aAP gb (aR hn);obtain⟨⟨ks,af,dl,sc,u⟩,aP9⟩:∃b,l.1[w.1.toNat]=b:=⟨_,rfl⟩;rw[aP9]at hx aSV ⊢;have aQj:IZ ks:=hx.1;have aSV:ks.length<=12:=aSV;simp only[bY,ao,ak];by_cases e1:h < af
  · rw[aT e1,if_pos (jH e1)];rfl
  by_cases e2:a < dl
  · rw[aP e1,aT e2,if_pos (ej e2)];rfl
  rw[aP e1,aP e2,if_neg (by simp[e1,e2]),Cz (d:=w.2.2.1) hw.2];simp only[ao,ah,bz,S3]
  have last:aG (Cw ((w.2.1.length:Nat):Int) ((ks.length:Nat):Int)) (aj (nT.out (7:Int))) (
          al (yJ (w,m,ks,((ks.length:Nat):Int),(0:Int))) λx4=>
          aG (x4.isLeft) (al (x4.getLeft?) λa5=>aj (nT.out (7:Int))) (al (x4.getRight?) λb6=>aj (nT.out (0:Int))))=aj (nT.out (if w.2.1.length≠ks.length then 7 else if AI m ks w.2.1 then 0 else 7)):=by
    by_cases e3:w.2.1.length=ks.length
    · rw[cz au,if_neg (by simp[e3]),ao,ak4 (d:=(w,m,ks,ks.length,0)) ⟨hw,hm,aQj,by show ks.length<=1000000000;omega,e3,rfl,0,au,rfl⟩]
      simp only[ah,lW,qM,aW,aO];cases AI m ks w.2.1 <;> rfl
    · rw[eA au,if_pos e3];rfl
  by_cases e4:sc=0
  · rw[cz e4,if_neg (by simp[e4]),ao]
    exact last
  · rw[eA e4,ak]
    by_cases e5:gj w.2.2.1=sc
    · rw[cz e5,if_neg (by simp[e5]),ao]
      exact last
    · rw[eA e5,if_pos ⟨e4,e5⟩];rfl
theorem aAU:nT.RS:=rE [.d Ag,.d aeW,.d tB,.d ti,.d ti] nT
def aHf:=nT.fI aHe 1 ⟨.eW apo,trivial⟩
def azp:Int->Prop:=λn=>∃k:Nat,n=k/\k<=100000000
def axo:Int->(Nat×(List Int)):=λn=>(0,ae n.toNat 0)
def WR:Fs Tryz.prog azp bz axo:=fu 151 Tryz.f151 (λn=>([.cT,.d ti n],[])) (λx=>⟨.cg (.new 0 0) 0 [] 0 0 x.1,[],[.obj 0 aS (.vec 5 tb x.2)]⟩) [aF,aj ti] [] {owns:=[⟨4,[],22,113⟩]}
theorem aEQ(n)(k:K1 R):WR.A n k=aG (fL n 0) (aF) (aG (Af (dG .i64 n 0) 0) (aG (decide (0 < (dG .i64 n 0)) && dd (ab (dG .i64 n 0)) 1) (aG (inc 0 (((ab (dG .i64 n 0)):Nat):Int)) (k (WR.out (0,(ae (ab (dG .i64 n 0)) 0)))) aF) aF) (k (WR.out (0,([]:List Int))))):=cf
theorem aER:WR.Ok:=by
 rintro n ⟨k,rfl,hk⟩;have e:dG .i64 (k:Int) 0=(k:Int):=by rw[gC au au];omega
 rw[aEQ,e,aP au,ao];by_cases h:0 < k
 ·rw[dj au,aa,aI au,dk au au,C4 au au];rfl
 ·obtain rfl:k=0:=au;rfl
theorem azq:WR.RS:=rE [.d ti] WR
def aES:=WR.fI aER
def wq(l:List (List Int)):Nat:=l.flatten.length
def afQ(n:Nat)(l:List Int):List (List Int)->Nat×List Int
 |[]=>(n,l)
 |s::r=>(n+(s::r).flatten.length,l.take n++(s::r).flatten)
theorem azG(n:Nat)(l s:List Int)(r:List (List Int))(h:n<=l.length):afQ n l (s::r)=afQ (n+s.length) (l.take n++s) r:=by
 have hl:(l.take n++s).length=n+s.length:=by rw[ai,dw];omega
 cases r with
 |nil=>simp[afQ]
 |cons t r=>
  simp only[afQ];rw[bG (vX hl)];simp only[lJ,ai,aM,fk]
theorem aLL(n:Nat)(z:List Int)(r:List (List Int)):(afQ 0 z r).1<=(afQ 0 z r).2.length/\cut (afQ 0 z r).2 0 (afQ 0 z r).1=r.flatten:=by
 cases r with
 |nil=>exact⟨aK _,rfl⟩
 |cons s r=>
  simp only[afQ,fe,bm,aU];exact⟨aB _,by show aJ _ (bt 0 _)=_;rw[aO,bK]⟩
abbrev Hm:=(List Bs)×Int×(List Bs)×Int×Int
def v5:Hm->Int->(((List Bs))×(Int)):=λ(DO,size,t9,t10,t11) y=>(DO,y)
abbrev Rw:=Nat×(List Bs)×Int×Int×(List Int)
def JP:Hm->Prop:=λ(s,size,t,n,i)=>s.length<=1000000/\t=s/\n=s.length/\∃k z:Nat,k<=s.length/\i=k/\size=z/\z+wq (s.drop k)<=100000000
def AZ:Hm->Int:=λ(s,size,t,n,i)=>((size:Int)+((wq (s.drop i.toNat):Nat):Int):Int)
def JQ:Rw->Prop:=λ(n,s,t,i,l)=>s.length<=1000000/\n<=l.length/\t=s.length/\∃k:Nat,k<=s.length/\i=k/\n+wq (s.drop k)<=100000000
def A0:Rw->(Nat×(List Int)):=λ(n,s,t,i,l)=>afQ n l (s.drop i.toNat)
def anT:(List Bs)->Prop:=λs=>s.length<=1000000/\wq s<=100000000
def UY:(List Bs)->Bs:=λs=>s.flatten
def oz:Ls JP v5 AZ:=te (λ(DO,size,t9,t10,t11)=>⟨([.d (.slice tB) DO,bC,bC,.d ti size]++aQ 5 ([.d (.slice tB) t9,.d ti t10,.d ti t11]++aQ 24 [])),[],(ae 36 [])⟩) (λx=>(.exit 0,⟨([.d (.slice tB) x.1,bC,bC,.d ti x.2]++aQ 32 []),[],(ae 36 [])⟩))
def oA:Ls JQ bz A0:=te (λ(newsliceL,t25,t26,t27,aRX)=>⟨(aQ 6 ([je 24 newsliceL]++aQ 18 ([.d (.slice tB) t25,.d ti t26,.d ti t27]++aQ 8 []))),[],(bk 24 ([cJ (.vec 5 tb aRX)]++bk 11 []))⟩) (λx=>(.exit 2,⟨(aQ 6 ([je 24 x.1]++aQ 29 [])),[],(bk 24 ([cJ (.vec 5 tb x.2)]++bk 11 []))⟩))
def qc:Fs Tryz.prog anT bz UY:=fu 131 Tryz.f131 (λslices=>([.d (.slice tB) slices],[])) (λx=>⟨.d tB x,[],[]⟩) [aj (.slice tB)] [aES] {loops:=oI [(3,{aV:=[0,3,9,10,11]}),(11,{aV:=[6,25,26,27],sites:=[24],owns:=[⟨6,[],24,113⟩]})],outs:=oH [(3,{aV:=[0,3]},{aV:=[2]}),(11,{aV:=[6],sites:=[24]},{aV:=[2]})],fE:=pW [(3,oz.E),(11,oA.E)],res:=[aj tB]}
theorem aaD:oz.RS:=rL [.d (.slice tB),.d ti,.d (.slice tB),.d ti,.d ti] oz
theorem I1(DO size t9 t10 t11)(kn:K2 R)(kx:K3 R):qc.R 0 oz (DO,size,t9,t10,t11) kn kx=aG (fL t11 t10) (aG (eE t11 (t9.length:Int)) (aG (fL (bA .i64 size (((List.length (nth tB t9 (ab t11))):Nat):Int)) 0) (aF) (kn (oz.st (DO,(bA .i64 size (((List.length (nth tB t9 (ab t11))):Nat):Int)),t9,t10,(bA .i64 t11 1))))) aF) (oz.go kx (DO,size)):=cf
theorem aaE:oA.RS:=rL [.n,.d (.slice tB),.d ti,.d ti,.d tB] oA
theorem I2(newsliceL t25 t26 t27 aRX)(kn:K2 R)(kx:K3 R):qc.R 1 oA (newsliceL,t25,t26,t27,aRX) kn kx=aG (fL t27 t26) (aG (eE t27 (t25.length:Int)) (aG (decide (newsliceL<=(List.length aRX))) (aG (dd (newsliceL+(List.length (nth tB t25 (ab t27)))) 1) (kn (oA.st ((newsliceL+(List.length (nth tB t25 (ab t27)))),t25,t26,(bA .i64 t27 1),((aJ newsliceL aRX)++(nth tB t25 (ab t27)))))) aF) aF) aF) (oA.go kx (newsliceL,aRX)):=cf
theorem asW(slices)(k:K1 R):qc.A slices k=al (oz.call (slices,0,slices,(slices.length:Int),0)) λx1=>al (WR.call x1.2) λx2=>al (oA.call (x2.1,x1.1,(x1.1.length:Int),0,x2.2)) λx3=>aG (decide (0=0/\(0+x3.1)<=(List.length x3.2))) (k (qc.out (cut x3.2 0 x3.1))) aF:=cf
theorem ax3(s:List (List Int))(k:Nat)(h:k < s.length):wq (s.drop k)=s[k].length+wq (s.drop (k+1)):=by unfold wq;rw[aq h,lJ,ai]
theorem afN:(qc.kA 0 oz):=by
 refine(qc.nN 0 oz) (λ(s,size,t,n,i)=>s.length - i.toNat) ?_
 rintro⟨s,size,t,n,i⟩ ⟨hs,rfl,rfl,k,z,hk,rfl,rfl,hz⟩;have hs:t.length<=1000000:=hs;have hk:k<=t.length:=hk;have hz:z+wq (t.drop k)<=100000000:=hz;by_cases h:k < t.length
 ·left;have n1:nth (.slice (.int .u8)) t k=t[k]:=cj (t:= .slice (.int .u8)) h;have hd:=ax3 t k h;refine⟨(t,((z+t[k].length:Nat):Int),t,t.length,((k+1:Nat):Int)),⟨hs,rfl,rfl,k+1,z+t[k].length,au,rfl,rfl,au⟩,by simp only[aa];omega,?_,λkn kx=> ?_⟩
  ·simp only[v5,AZ,aa];rw[hd];refine congrArg _ ?_
   omega
  ·rw[I1];simp(disch:=omega) only[↓S1,↓if_pos,↓if_neg,if_pos,if_neg,bE,bp,S2,n1]
 ·right;obtain rfl:k=t.length:=au;intro R kn kx;rw[I1];simp(disch:=omega) only[↓S1,↓if_pos,↓if_neg,if_pos,if_neg,bE,bp,S2,v5,AZ,aH];simp only[wq,rK,bq,Int.natCast_zero,Int.add_zero]
theorem afO:(qc.kA 1 oA):=by
 refine(qc.nN 1 oA) (λ(n,s,t,i,l)=>s.length - i.toNat) ?_
 rintro⟨n,s,t,i,l⟩ ⟨hs,hn,rfl,k,hk,rfl,hz⟩;have hs:s.length<=1000000:=hs;have hn:n<=l.length:=hn;have hk:k<=s.length:=hk;have hz:n+wq (s.drop k)<=100000000:=hz;by_cases h:k < s.length
 ·left;have n1:nth (.slice (.int .u8)) s k=s[k]:=cj (t:= .slice (.int .u8)) h;have hd:=ax3 s k h;refine⟨(n+s[k].length,s,s.length,((k+1:Nat):Int),l.take n++s[k]),⟨hs,by rw[ai,dw];omega,rfl,k+1,au,rfl,au⟩,by simp only[aa];omega,?_,λkn kx=> ?_⟩
  ·simp only[bz,A0,aa];rw[aq h,azG _ _ _ _ hn]
  ·rw[I2];simp(disch:=omega) only[↓S1,↓if_pos,↓if_neg,if_pos,if_neg,bE,bp,S2,n1]
 ·right;obtain rfl:k=s.length:=au;intro R kn kx;rw[I2];simp(disch:=omega) only[↓S1,↓if_pos,↓if_neg,if_pos,if_neg,bE,bp,S2,bz,A0,aH];rfl
theorem asX:qc.Ok:=by rintro s ⟨hs,hz⟩;have hs:s.length<=1000000:=hs;have hz:wq s<=100000000:=hz;have p1:JP (s,0,s,s.length,0):=⟨hs,rfl,rfl,0,0,au,rfl,rfl,by rw[aO];omega⟩;have p2:JQ (0,s,s.length,0,ae (wq s) 0):=⟨hs,au,rfl,0,au,rfl,by rw[aO];omega⟩;rw[asW,aaD p1];simp only[ah,v5,AZ,aW,aO,Int.zero_add];rw[azq (d:=((wq s:Nat):Int)) ⟨wq s,rfl,hz⟩];simp only[ah,bz,axo,aa];rw[aaE p2];simp only[ah,bz,A0,aW,aO];obtain⟨c1,c2⟩:=aLL 0 (ae (wq s) 0) s;simp only[aU,c1,ji,cG,ak,c2];rfl
theorem WQ:qc.RS:=rE [.d (.slice tB)] qc
def aaF:=qc.fI asX 2 ⟨.eW afN,⟨.eW afO,trivial⟩⟩
def ahS:(Bs×Bs)->Prop:=λ(a,b)=>a.length+b.length<=100000000
def ajY:(Bs×Bs)->Bs:=λ(a,b)=>a++b
def JW:Fs Tryz.prog ahS bz ajY:=fu 129 Tryz.f129 (λ(b,more)=>([.d tB b,.d tB more],[])) (λx=>⟨.d tB x,[],[]⟩) [aj tB,aj tB] [aaF]
theorem aFa(b more)(k:K1 R):JW.A (b,more) k=al (qc.call [b,more]) λx1=>k (JW.out x1):=cf
theorem aFb:JW.Ok:=by rintro⟨a,b⟩ h;have h:a.length+b.length<=100000000:=h;rw[aFa,WQ (d:=[a,b]) ⟨by show [a,b].length<=_;simp,by show wq [a,b]<=_;simp only[wq,lJ,rK,bJ,ai];omega⟩];simp only[ah,bz,UY,bz,ajY,lJ,rK,bJ]
theorem MN:JW.RS:=rE [.d tB,.d tB] JW
def aaN:=JW.fI aFb
def gT:Nat->Int->List Int×Int
 | 0,n=>([],n)
 |f+1,n=>if 128<=n then((n%128+128)::(gT f (n / 128)).1,(gT f (n / 128)).2) else([],n)
def gH(n:Int):List Int:=(gT 10 n).1++ [(gT 10 n).2]
theorem Nn:∀(f g:Nat) (n:Int),n < 128^(f+1)->n < 128^(g+1)->gT f n=gT g n
 | 0,0,n,_,_=>rfl
 | 0,g+1,n,h,_=>by have h:n < 128:=h;rw[gT,gT,if_neg au]
 |f+1,0,n,_,h=>by have h:n < 128:=h;rw[gT,gT,if_neg au]
 |f+1,g+1,n,h,h'=>by
  rw[gT,gT];split
  ·have e:(128:Int)^(f+1+1)=128^(f+1)*128:=fO 128 (f+1);have e':(128:Int)^(g+1+1)=128^(g+1)*128:=fO 128 (g+1);rw[Nn f g (n / 128) au au]
  ·rfl
theorem aet:∀(f:Nat) (n:Int),(gT f n).1.length<=f
 | 0,_=>aB _
 |f+1,n=>by
  rw[gT];split
  ·have:=aet f (n / 128);simp only[aE];omega
  ·exact aK _
theorem ajd:∀(f:Nat) (n:Int),0<=n->n < 128^(f+1)->0<=(gT f n).2/\(gT f n).2 < 128
 | 0,n,h,h'=>by have h':n < 128:=h';exact⟨h,h'⟩
 |f+1,n,h,h'=>by
  rw[gT];have e:(128:Int)^(f+1+1)=128^(f+1)*128:=fO 128 (f+1);split
  ·exact ajd f (n / 128) au au
  ·exact⟨h,au⟩
theorem aje{n:Int}(h:128<=n)(h2:n<=9223372036854775807):gT 10 n=((n%128+128)::(gT 10 (n / 128)).1,(gT 10 (n / 128)).2):=by have e:(128:Int)^(9+1)=1180591620717411303424:=rfl;have e2:(128:Int)^(10+1)=151115727451828646838272:=rfl;rw[gT,if_pos h,Nn 9 10 (n / 128) (by rw[e];omega) (by rw[e2];omega)]
theorem kV(n:Int):(gH n).length<=11:=by have:=aet 10 n;unfold gH;simp only[ai,aE,bq];omega
def JE(n:Int):Prop:=0<=n/\n<=9223372036854775807
abbrev ahZ:=Int×Nat×(List Int)
def W0:ahZ->Prop:=λ(n,m,l)=>JE n/\m=l.length/\l.length<=1000+0*n.toNat/\l.length+(gT 10 n).1.length<=100
def MO:ahZ->(Int×Nat×(List Int)):=λ(n,m,l)=>((gT 10 n).2,(l++(gT 10 n).1).length,l++(gT 10 n).1)
def aFA:Int->Prop:=λn=>JE n
def atj:Int->Bs:=λn=>gH n
def A5:Ls W0 bz MO:=te (λ(xZ,outL,Hi)=>⟨([.d ti xZ,bC,bC,je 14 outL]++aQ 16 []),[],(bk 14 ([cJ (.vec 5 tb Hi)]++bk 5 []))⟩) (λx=>(.exit 0,⟨([.d ti x.1,bC,bC,je 14 x.2.1]++aQ 16 []),[],(bk 14 ([cJ (.vec 5 tb x.2.2)]++bk 5 []))⟩))
def aaS:Fs Tryz.prog aFA bz atj:=fu 130 Tryz.f130 (λn=>([.d ti n],[])) (λx=>⟨.d tB x,[],[]⟩) [aj ti] [] {loops:=oI [(2,{aV:=[0,3],sites:=[14],owns:=[⟨3,[],14,113⟩]})],outs:=oH [(2,{aV:=[0,3],sites:=[14]},{aV:=[2]})],fE:=pW [(2,A5.E)],res:=[aj tB]}
theorem aoi:A5.RS:=rL [.d ti,.n,.d tB] A5
theorem RJ(xZ outL Hi)(kn:K2 R)(kx:K3 R):aaS.R 0 A5 (xZ,outL,Hi) kn kx=aG (D4 xZ 128) (aG (decide (outL<=(List.length Hi))) (aG (dd (outL+1) 1) (kn (A5.st ((vS .i64 xZ 128),(outL+1),((aJ outL Hi)++ [(dO .u8 (bA .i64 (nM xZ 128) 128))])))) aF) aF) (A5.go kx (xZ,outL,Hi)):=cf
theorem aLJ(n)(k:K1 R):aaS.A n k=al (A5.call (n,0,([]:List Int))) λx1=>aG (decide (x1.2.1<=(List.length x1.2.2))) (aG (dd (x1.2.1+1) 1) (aG (decide (0=0/\(0+(x1.2.1+1))<=(List.length ((aJ x1.2.1 x1.2.2)++ [(dO .u8 x1.1)])))) (k (aaS.out (cut ((aJ x1.2.1 x1.2.2)++ [(dO .u8 x1.1)]) 0 (x1.2.1+1)))) aF) aF) aF:=cf
theorem aFM{n:Int}(h:JE n):dO .u8 (bA .i64 (nM n 128) 128)=n%128+128:=by have h1:=h.1;rw[yF h.1,jn au au,Vv,ix];omega
theorem atk:(aaS.kA 0 A5):=by
 refine(aaS.nN 0 A5) (λ(n,m,l)=>n.toNat) ?_
 rintro⟨n,m,l⟩ ⟨hn,rfl,hl,hz⟩;have hn:JE n:=hn;have hz:l.length+(gT 10 n).1.length<=100:=hz;have h1:=hn.1;have h2:=hn.2;by_cases h:128<=n
 ·left;have e:=aje h h2;have hq:vS .i64 n 128=n / 128:=by rw[vS,Int.tdiv_eq_ediv_of_nonneg h1];exact wk au au
  have el:((n%128+128)::(gT 10 (n / 128)).1).length=(gT 10 (n / 128)).1.length+1:=aE;rw[e]at hz;have hz:l.length+((n%128+128)::(gT 10 (n / 128)).1).length<=100:=hz;rw[el]at hz;refine⟨(n / 128,l.length+1,l++ [n%128+128]),⟨⟨au,au⟩,by rw[ai];rfl,by rw[ai];simp only[aE,bq];omega,by rw[ai];simp only[aE,bq];omega⟩,by simp only[];omega,?_,λkn kx=> ?_⟩
  ·simp only[bz,MO,e,aM,na,bm]
  ·rw[RJ,gA h,aFM hn,hq];simp(disch:=omega) only[↓S1,↓if_pos,↓if_neg,if_pos,if_neg,bE,bp,S2,aB,bK]
 ·right;have e:gT 10 n=([],n):=by rw[gT,if_neg h]
  intro R kn kx;rw[RJ,eD h];simp only[ao,bz,MO,e,bJ]
theorem aLK:aaS.Ok:=by
 intro n hn;have hn:JE n:=hn;have hl:=aet 10 n;have e2:(128:Int)^(10+1)=151115727451828646838272:=rfl;have hd:=ajd 10 n hn.1 (by have:=hn.2;rw[e2];omega);have p:W0 (n,0,[]):=⟨hn,rfl,by simp,by simp only[bq];omega⟩;have hi:dO .u8 (gT 10 n).2=(gT 10 n).2:=by rw[Vv,ix];omega
 rw[aLJ,aoi p];simp only[ah,bz,MO,bm,hi,bK,aB,cG,ak];rw[dk au au];simp only[ak,aU,ai,aE,bq,aB,ji,cG];rw[eF (by rw[ai];rfl)];rfl
theorem aoj:aaS.RS:=rE [.d ti] aaS
def axA:=aaS.fI aLK 1 ⟨.eW atk,trivial⟩
def dJ(b:List Int)(n:Int):List Int:=if n < 0 then b else b++gH n
theorem fg(b:List Int)(n:Int):(dJ b n).length<=b.length+11:=by
 unfold dJ;have:=kV n;split
 ·omega
 ·rw[ai];omega
def aFr:(Bs×Int)->Prop:=λ(b,n)=>b.length<=90000000/\n<=9223372036854775807
def Ai:(Bs×Int)->Bs:=λ(b,n)=>dJ b n
def JG:Fs Tryz.prog aFr bz Ai:=fu 88 Tryz.f88 (λ(b,n)=>([.d tB b,.d ti n],[])) (λx=>⟨.d tB x,[],[]⟩) [aj tB,aj ti] [aaN,axA]
theorem aLH(b n)(k:K1 R):JG.A (b,n) k=aG (fL n 0) (al (JW.call (b,([]:List Int))) λx1=>k (JG.out x1)) (al (aaS.call n) λx2=>al (JW.call (b,x2)) λx3=>k (JG.out x3)):=cf
theorem aLI:JG.Ok:=by
 rintro⟨b,n⟩ ⟨hb,hn⟩;have hb:b.length<=90000000:=hb;have hn:n<=9223372036854775807:=hn;rw[aLH];simp only[bz,Ai,dJ];by_cases h:n < 0
 ·rw[aT h,if_pos h,ak,MN (d:=(b,[])) (by show b.length+([]:List Int).length<=_;simp only[bq];omega)];simp only[ah,bz,ajY,bJ]
 ·have hl:=kV n;rw[aP h,if_neg h,ao,aoj (d:=n) ⟨au,hn⟩];simp only[ah,bz,atj];rw[MN (d:=(b,gH n)) (by show b.length+(gH n).length<=_;omega)];rfl
theorem qy:JG.RS:=rE [.d tB,.d ti] JG
def aj7:=JG.fI aLI
def azZ:(Bs×Int)->Prop:=λ(b,n)=>b.length<=90000000
def RI:(Bs×Int)->Bs:=λ(b,n)=>b++jA n
def J0:Fs Tryz.prog azZ bz RI:=fu 111 Tryz.f111 (λ(b,n)=>([.d tB b,.d tu n],[])) (λx=>⟨.d tB x,[],[]⟩) [aj tB,aj tu] [aaN] {loops:=oI [(3,{aV:=[0,1,5,7],sites:=[5,21]})],outs:=oH [(3,{aV:=[0,5],sites:=[5,21]},{aV:=[4],sites:=[5,21]})]} 12
theorem aFy(b n)(k:K1 R):J0.A (b,n) k=al (JW.call (b,[(dO .u8 (cq .u64 n 56)),(dO .u8 (cq .u64 n 48)),(dO .u8 (cq .u64 n 40)),(dO .u8 (cq .u64 n 32)),(dO .u8 (cq .u64 n 24)),(dO .u8 (cq .u64 n 16)),(dO .u8 (cq .u64 n 8)),(dO .u8 (cq .u64 n 0))])) λx1=>k (J0.out x1):=cf
theorem aFz:J0.Ok:=by
 rintro⟨b,n⟩ hb;have hb:b.length<=90000000:=hb;have p:ahS (b,jA n):=by show b.length+(jA n).length<=_;rw[cl];omega
 have e:JW.call (b,[dO .u8 (cq .u64 n 56),dO .u8 (cq .u64 n 48),dO .u8 (cq .u64 n 40),dO .u8 (cq .u64 n 32),dO .u8 (cq .u64 n 24),dO .u8 (cq .u64 n 16),dO .u8 (cq .u64 n 8),dO .u8 (cq .u64 n 0)])=aj (b++jA n):=by rw[anV];exact MN p
 rw[aFy];refine Eq.trans (congrArg (λx=>al x _) e) ?_
 rfl
theorem Gm:J0.RS:=rE [.d tB,.d tu] J0
def aoh:=J0.fI aFz 1 ⟨.none cf,trivial⟩
def AV(w:Pq):Bool:=decide (0<=w.1/\w.1 < 4) && decide (w.2.1.length<=12)
def Kc(x:gK):Bool:=decide (0<=x.1.2.1/\x.1.2.1 < 64) && AV x.2.1
def Od(m:List (cr×Bool))(x:gK):Bool:=(bV bX x.1 m).getD aS
def Gz:List (cr×Bool)->List gK->Bool
 |_,[]=>aL
 |m,x::l=>(!(Od m x) && Kc x) && Gz (cY bX x.1 aL m) l
def xQ(a:Int):Bool:=decide (0<=a/\a<=1125899906842624)
def Gf(a b:Int):Bool:=xQ a && (xQ b && decide (a+b<=1125899906842624))
def Am:Int->List gX->Bool
 |_,[]=>aL
 |s,o::l=>(Gf s o.1 && lk o.2.1) && Am (s+o.1) l
def afv(t:cR):Bool:=decide (1<=t.1.length/\t.1.length<=64/\t.2.1.length<=64/\0<=t.2.2.1)
def gv(t:cR):Bool:=afv t && (Gz [] t.1 && Am 0 t.2.1)
def aPr(l:Lk):Prop:=afG l/\l.1.length<=9223372036854775807
def aPu(t:cR):Prop:=(∀o∈t.2.1,aPr o.2.1)/\t.1.length<=9223372036854775807/\t.2.1.length<=9223372036854775807
def aKv:Pq->Prop:=λ_=>True
def ank:Pq->Bool:=λw=>AV w
def aht:Fs Tryz.prog aKv bz ank:=fu 64 Tryz.f64 (λwv=>([.d aeW wv],[])) (λx=>⟨.d .bool x,[],[]⟩) [aj aeW]
theorem aN1(wv)(k:K1 R):aht.A wv k=aG (D4 wv.1 0) (aG (fL wv.1 4) (k (aht.out (akP (wv.2.1.length:Int) 12))) (k (aht.out aS))) (k (aht.out aS)):=cf
theorem aN2:aht.Ok:=by
 rintro⟨b,ss,sc,u⟩ _;rw[aN1];simp only[bz,ank,AV];by_cases h:0<=b
 ·rw[gA h,ak];by_cases h2:b < 4
  ·rw[aT h2,ak,aI ⟨h,h2⟩];by_cases h3:ss.length<=12
   ·rw[pt au,aI h3];rfl
   ·rw[kr au,aN h3];rfl
  ·rw[aP h2,ao,aN (λx=>h2 x.2)];rfl
 ·rw[eD h,ao,aN (λx=>h x.1)];rfl
theorem ast:aht.RS:=rE [.d aeW] aht
def ay5:=aht.fI aN2
def auz:Int->Prop:=λ_=>True
def acM:Int->Bool:=λa=>xQ a
def HW:Fs Tryz.prog auz bz acM:=fu 101 Tryz.f101 (λa=>([.d ti a],[])) (λx=>⟨.d .bool x,[],[]⟩) [aj ti]
theorem aA9(a)(k:K1 R):HW.A a k=aG (D4 a 0) (k (HW.out (akP a 1125899906842624))) (k (HW.out aS)):=cf
theorem aBa:HW.Ok:=by
 intro(a:Int) _;rw[aA9];simp only[bz,acM,xQ];by_cases h:0<=a
 ·rw[gA h,ak];by_cases h2:a<=1125899906842624
  ·rw[pt h2,aI ⟨h,h2⟩]
  ·rw[kr h2,aN (λx=>h2 x.2)]
 ·rw[eD h,ao,aN (λx=>h x.1)]
theorem acN:HW.RS:=rE [.d ti] HW
def aBb:=HW.fI aBa
def aHx:(Int×Int)->Prop:=λ_=>True
def auy:(Int×Int)->(Int×Bool):=λ(a,b)=>(bif Gf a b then a+b else 0,Gf a b)
def agh:Fs Tryz.prog aHx bz auy:=fu 65 Tryz.f65 (λ(a,b)=>([.d ti a,.d ti b],[])) (λx=>⟨.cons (.d ti x.1) (.cons (.d .bool x.2) (.nil)),[],[]⟩) [aj ti,aj ti] [aBb]
theorem aMM(a b)(k:K1 R):agh.A (a,b) k=al (HW.call a) λx1=>aG (!x1) (k (agh.out (0,aS))) (al (HW.call b) λx2=>aG (!x2) (k (agh.out (0,aS))) (aG (Af a (dG .i64 1125899906842624 b)) (k (agh.out (0,aS))) (k (agh.out ((bA .i64 a b),aL))))):=cf
theorem aMN:agh.Ok:=by
 rintro⟨a,b⟩ _;rw[aMM,acN (d:=a) trivial,acN (d:=b) trivial];simp only[ah,bz,acM,bz,auy,Gf];cases ha:xQ a
 ·rfl
 ·cases hb:xQ b
  ·rfl
  ·simp only[xQ,bO]at ha hb;simp only[bY,ao,bF];rw[gC au au];by_cases h:a+b<=1125899906842624
   ·rw[cw au,ao,aI h,jn au au];rfl
   ·rw[dj au,ak,aN h];rfl
theorem aHy:agh.RS:=rE [.d ti,.d ti] agh
def aMO:=agh.fI aMN
abbrev Aa:=cR×(List gK)×Int×Int×(List (cr×Bool))
def oZ:Aa->AS:=λ(il,t33,t34,t35,aRY)=>⟨([bC,.dx dz il,bC,.cK (.new 31 0) 0]++aQ 29 ([.d (.slice fo) t33,.d ti t34,.d ti t35]++aQ 52 [])),[],(bk 31 ([cJ (.mp bX .bool aRY)]++bk 56 []))⟩
def gg:Unit->Exit×AS:=λx=>(.ret,⟨([bC,bC,.d .bool aS]++aQ 85 []),[],(ae 88 [])⟩)
def zx:cR->Exit×AS:=λx=>(.exit 0,⟨([bC,.dx dz x]++aQ 86 []),[],(ae 88 [])⟩)
abbrev Mv:=(Unit)⊕(cR)
abbrev Y6:=(Unit)⊕(Unit)
def F7:Mv->Out (Exit×AS):=λx=> .br x.isLeft (.get x.getLeft? λa=> .ok (gg a)) (.get x.getRight? λb=> .ok (zx b))
def kh:Aa->Y6->Mv:=λ(il,t33,t34,t35,aRY) y=>match y with | .inl y=> .inl y | .inr z=> .inr (il)
abbrev Ac:=Int×(List gX)×Int×Int
def o7:Ac->AS:=λ(sum,t66,t67,t68)=>⟨(aQ 6 ([.d ti sum]++aQ 59 ([.d (.slice fJ) t66,.d ti t67,.d ti t68]++aQ 19 []))),[],(ae 88 [])⟩
def kj:Unit->Exit×AS:=λx=>(.ret,⟨([bC,bC,.d .bool aS]++aQ 85 []),[],(ae 88 [])⟩)
def zz:Unit->Exit×AS:=λx=>(.exit 2,⟨(aQ 88 []),[],(ae 88 [])⟩)
abbrev Mz:=(Unit)⊕(Unit)
abbrev Y8:=(Unit)⊕(Unit)
def F8:Mz->Out (Exit×AS):=λx=> .br x.isLeft (.get x.getLeft? λa=> .ok (kj a)) (.get x.getRight? λb=> .ok (zz b))
def ki:Ac->Y8->Mz:=λ(sum,t66,t67,t68) y=>match y with | .inl y=> .inl y | .inr z=> .inr (z)
def zw:Aa->Prop:=λ(t,l,n,i,m)=>l.length<=9223372036854775807/\n=l.length/\∃k:Nat,k<=l.length/\i=k
def oo:Aa->Y6:=λ(t,l,n,i,m)=>if Gz m (l.drop i.toNat) then .inr () else .inl ()
def zy:Ac->Prop:=λ(s,l,n,i)=>(∀o∈l,aPr o.2.1)/\l.length<=9223372036854775807/\n=l.length/\∃k:Nat,k<=l.length/\i=k
def oq:Ac->Y8:=λ(s,l,n,i)=>if Am s (l.drop i.toNat) then .inr () else .inl ()
def awN:cR->Prop:=λt=>aPu t
def nG:cR->Bool:=λt=>gv t
def Y5:=du.eW oZ zw kh oo F7
def Mw:Aa->Option Mv:=fP Y5 oZ
def Y7:=du.eW o7 zy ki oq F8
def DW:Ac->Option Mz:=fP Y7 o7
def ij:Fs Tryz.prog awN bz nG:=fu 28 Tryz.f28 (λt=>([.d dz t],[])) (λx=>⟨.d .bool x,[],[]⟩) [aj dz] [ay5,aMO,GC] {loops:=oI [(5,{aV:=[1,3,33,34,35],sites:=[31]}),(13,{aV:=[6,66,67,68]})],outs:=oH [(5,{aV:=[1]},{aV:=[2]}),(13,{},{aV:=[2]})],fE:=pW [(5,Y5),(13,Y7)]}
def Mu:= @dV Tryz.prog (jB ij.G) ij.an 0 Tryz.f28 0 _ oZ
abbrev UL:=jh Tryz.prog (jB ij.G) ij.an 0 Tryz.f28 0 oZ zw kh oo F7
def My:= @dV Tryz.prog (jB ij.G) ij.an 0 Tryz.f28 1 _ o7
abbrev UM:=jh Tryz.prog (jB ij.G) ij.an 0 Tryz.f28 1 o7 zy ki oq F8
theorem ahp:iy Mw zw kh oo:=kz (jC [.d dz,.d (.slice fo),.d ti,.d ti,.d (.slice (.pair bX .bool))] λ_=>cf)
theorem Rf:mY @Mu oZ zw kh oo F7 UL:=nJ
theorem Mx(il t33 t34 t35 aRY)(kn:K2 R)(kx:K3 R):Mu (il,t33,t34,t35,aRY) kn kx=aG (fL t35 t34) (aG (eE t35 (((List.length t33):Nat):Int)) (aG ((bV bX (nth fo t33 (ab t35)).1 aRY).getD aS) (kx (gg ()).1 (gg ()).2) (aG (fL (nth fo t33 (ab t35)).1.2.1 (0:Int)) (kx (gg ()).1 (gg ()).2) (aG (D4 (nth fo t33 (ab t35)).1.2.1 (64:Int)) (kx (gg ()).1 (gg ()).2) (al (aht.call (nth fo t33 (ab t35)).2.1) λx8=>aG (!x8) (kx (gg ()).1 (gg ()).2) (kn (oZ (il,t33,t34,(bA .i64 t35 (1:Int)),(cY bX (nth fo t33 (ab t35)).1 aL aRY)))))))) aF) (kx (zx il).1 (zx il).2):=cf
theorem ahq:iy DW zy ki oq:=kz (jC [.d ti,.d (.slice fJ),.d ti,.d ti] λ_=>cf)
theorem Rg:mY @My o7 zy ki oq F8 UM:=nJ
theorem MA(sum t66 t67 t68)(kn:K2 R)(kx:K3 R):My (sum,t66,t67,t68) kn kx=aG (fL t68 t67) (aG (eE t68 (((List.length t66):Nat):Int)) (al (agh.call (sum,(nth fJ t66 (ab t68)).1)) λant=>aG (!ant.2) (kx (kj ()).1 (kj ()).2) (al (qP.call (nth fJ t66 (ab t68)).2.1) λaK6=>aG (!aK6) (kx (kj ()).1 (kj ()).2) (kn (o7 (ant.1,t66,t67,(bA .i64 t68 (1:Int))))))) aF) (kx (zz ()).1 (zz ()).2):=cf
theorem aDI(t)(k:K1 R):ij.A t k=aG (fL (t.1.length:Int) 1) (k (ij.out aS)) (aG (Af (t.1.length:Int) 64) (k (ij.out aS)) (aG (Af (t.2.1.length:Int) 64) (k (ij.out aS)) (aG (fL t.2.2.1 0) (k (ij.out aS)) (al (Mw (t,t.1,(t.1.length:Int),0,([]:List (cr×Bool)))) λaK6=>aG aK6.isLeft (al aK6.getLeft? λa13=>k (ij.out aS)) (al aK6.getRight? λb14=>al (DW (0,b14.2.1,(b14.2.1.length:Int),0)) λaas=>aG aas.isLeft (al aas.getLeft? λa31=>k (ij.out aS)) (al aas.getRight? λb32=>k (ij.out aL))))))):=cf
theorem ane:UL:=by
 refine Rf (λ(t,l,n,i,m)=>l.length - i.toNat) ?_
 rintro⟨t,l,n,i,m⟩ ⟨hb,rfl,k,hk,rfl⟩;have hb:l.length<=9223372036854775807:=hb;have hk:k<=l.length:=hk;by_cases h:k < l.length
 ·have n1:nth fo l k=l[k]:=cj (t:=fo) h;have hd:Gz m (l.drop k)=((!(Od m l[k]) && Kc l[k]) && Gz (cY bX l[k].1 aL m) (l.drop (k+1))):=by rw[aq h];rfl
  have step:∀ {R:Type} (kn:AS->Option R) (kx:Exit->AS->Option R),Mu (t,l,(l.length:Int),(k:Int),m) kn kx=aG (!(Od m l[k]) && Kc l[k]) (kn (oZ (t,l,(l.length:Int),((k+1:Nat):Int),cY bX l[k].1 aL m))) (kx (gg ()).1 (gg ()).2):=by
   intro R kn kx;rw[Mx,aT au,aZ au au,aa,n1,N.lh au,ast (d:=l[k].2.1) trivial];simp only[ak,ah,bz,ank];have e:(bV bX l[k].1 m).getD aS=Od m l[k]:=rfl;rw[e];cases Od m l[k]
   ·simp only[dK,bF,ao,Kc];by_cases h1:l[k].1.2.1 < 0
    ·rw[aT h1,ak,aN (λx=>au)];rfl
    ·rw[aP h1,ao];by_cases h2:64<=l[k].1.2.1
     ·rw[gA h2,ak,aN (λx=>au)];rfl
     ·rw[eD h2,ao,aI ⟨au,au⟩];cases AV l[k].2.1 <;> rfl
   ·rfl
  cases hp:(!(Od m l[k]) && Kc l[k])
  ·right;refine⟨gg (),?_,λkn kx=> ?_⟩
   ·simp only[kh,oo,aa,hd,hp,dm,bw,bp];rfl
   ·rw[step,hp,ao]
  ·left;refine⟨(t,l,l.length,((k+1:Nat):Int),cY bX l[k].1 aL m),⟨hb,rfl,k+1,au,rfl⟩,by simp only[aa];omega,?_,λkn kx=> ?_⟩
   ·simp only[kh,oo,aa,hd,hp,bF]
   ·rw[step,hp,ak]
 ·right;obtain rfl:k=l.length:=au;refine⟨zx t,?_,λkn kx=> ?_⟩
  ·simp only[kh,oo,aa,aH];rfl
  ·rw[Mx];simp(disch:=omega) only[↓S1,↓if_pos,↓if_neg,if_pos,if_neg,bE,bp,S2]
theorem anf:UM:=by
 refine Rg (λ(s,l,n,i)=>l.length - i.toNat) ?_
 rintro⟨s,l,n,i⟩ ⟨hl,hb,rfl,k,hk,rfl⟩;have hb:l.length<=9223372036854775807:=hb;have hk:k<=l.length:=hk;by_cases h:k < l.length
 ·have hx:aPr l[k].2.1:=hl _ (aR h);have n1:nth fJ l k=l[k]:=cj (t:=fJ) h;have hd:Am s (l.drop k)=((Gf s l[k].1 && lk l[k].2.1) && Am (s+l[k].1) (l.drop (k+1))):=by rw[aq h];rfl
  have step:∀ {R:Type} (kn:AS->Option R) (kx:Exit->AS->Option R),My (s,l,(l.length:Int),(k:Int)) kn kx=aG (Gf s l[k].1 && lk l[k].2.1) (kn (o7 (s+l[k].1,l,(l.length:Int),((k+1:Nat):Int)))) (kx (kj ()).1 (kj ()).2):=by
   intro R kn kx;rw[MA,aT au,aZ au au,aa,n1,N.lh au,aHy (d:=(s,l[k].1)) trivial,C7 (d:=l[k].2.1) hx];simp only[ak,ah,bz,auy,bz,GB];cases Gf s l[k].1
   ·rfl
   ·cases lk l[k].2.1 <;> rfl
  cases hp:(Gf s l[k].1 && lk l[k].2.1)
  ·right;refine⟨kj (),?_,λkn kx=> ?_⟩
   ·simp only[ki,oq,aa,hd,hp,dm,bw,bp];rfl
   ·rw[step,hp,ao]
  ·left;refine⟨(s+l[k].1,l,l.length,((k+1:Nat):Int)),⟨hl,hb,rfl,k+1,au,rfl⟩,by simp only[aa];omega,?_,λkn kx=> ?_⟩
   ·simp only[ki,oq,aa,hd,hp,bF]
   ·rw[step,hp,ak]
 ·right;obtain rfl:k=l.length:=au;refine⟨zz (),?_,λkn kx=> ?_⟩
  ·simp only[ki,oq,aa,aH];rfl
  ·rw[MA];simp(disch:=omega) only[↓S1,↓if_pos,↓if_neg,if_pos,if_neg,bE,bp,S2]
theorem aDJ:ij.Ok:=by
 rintro⟨is,os,nt,u⟩ ⟨hl,h1,h2⟩;have h1:is.length<=9223372036854775807:=h1;have h2:os.length<=9223372036854775807:=h2;rw[aDI,ahp (d:=((is,os,nt,u),is,is.length,0,[])) ⟨h1,rfl,0,au,rfl⟩];simp only[ah,kh,oo,aW,aO,bz,nG,gv,afv];by_cases a1:is.length < 1
 ·rw[aT au,ak,aN (λx=>au)];rfl
 rw[aP au,ao];by_cases a2:64 < is.length
 ·rw[dj au,ak,aN (λx=>au)];rfl
 rw[cw au,ao];by_cases a3:64 < os.length
 ·rw[dj au,ak,aN (λx=>au)];rfl
 rw[cw au,ao];by_cases a4:nt < 0
 ·rw[aT au,ak,aN (λx=>au)];rfl
 rw[aP au,ao,aI ⟨au,au,au,au⟩];cases Gz [] is
 ·rfl
 ·simp only[bE,bF];show al (DW (0,os,(os.length:Int),0)) _=_;rw[ahq (d:=(0,os,os.length,0)) ⟨hl,h2,rfl,0,au,rfl⟩];simp only[ah,ki,oq,aW,aO];cases Am 0 os <;> rfl
theorem kX:ij.RS:=rE [.d dz] ij
def pQ:=ij.fI aDJ 2 ⟨.eW ane,⟨.eW anf,trivial⟩⟩
def auT:Bs->Prop:=λl=>l.length<=1000000
def S6:Bs->Bs:=λl=>l
def Dq:Fs Tryz.prog auT bz S6:=fu 59 Tryz.f59 (λsv=>([.d tU sv],[])) (λx=>⟨.d tU x,[],[]⟩) [aj tU] [] {bu:=[5],res:=[aj tU]}
theorem aBw(sv)(k:K1 R):Dq.A sv k=aG (decide (0 < (List.length sv))) (aG (dd (0+(List.length sv)) 8) (aG (decide (0=0/\(0+(0+(List.length sv)))<=(List.length ((aJ 0 (ae 0 0))++sv)))) (k (Dq.out (cut ((aJ 0 (ae 0 0))++sv) 0 (0+(List.length sv))))) aF) aF) (nd (k (Dq.out ([]:List Int))) (aG (dd (0+(List.length sv)) 8) (aG (decide (0=0/\(0+(0+(List.length sv)))<=(List.length ((aJ 0 (ae 0 0))++sv)))) (k (Dq.out (cut ((aJ 0 (ae 0 0))++sv) 0 (0+(List.length sv))))) aF) aF)):=cf
theorem aBx:Dq.Ok:=by
 intro l hl;have hl:l.length<=1000000:=hl;have hr:dd l.length 8=aL:=dk au au;have e0:(aJ 0 (ae 0 0):List Int)=[]:=rfl;rw[aBw];simp only[aU,hr,ak,e0,bm,aB,ji,cG,eF,bz,S6];by_cases h:0 < l.length
 ·simp only[aI h,ak]
 ·have:l=[]:=bD au;subst this;simp only[bq,HX,aN (gQ 0),ao]
theorem Qx:Dq.RS:=rE [.d tU] Dq
def VV:=Dq.fI aBx
def aPx(l:List Int):Lk:=([(l,0,0,0,())],())
def aGT:Bs->Prop:=λl=>l.length<=1000000
def aQz:Bs->Lk:=λl=>aPx l
def at7:Fs Tryz.prog aGT bz aQz:=fu 40 Tryz.f40 (λl=>([.d tU l],[])) (λx=>⟨.d Ag x,[],[]⟩) [aj tU] [VV]
theorem aMs(l)(k:K1 R):at7.A l k=al (Dq.call l) λx1=>k (at7.out ([(x1,(0,(0,(0,()))))],())):=cf
theorem aMt:at7.Ok:=by intro l hl;rw[aMs,Qx (d:=l) hl];rfl
theorem aGU:at7.RS:=rE [.d tU] at7
def aMu:=at7.fI aMt
def aG7:Int->Prop:=λ_=>True
def aG6:Int->Lk:=λp=>aPx [p]
def ak1:Fs Tryz.prog aG7 bz aG6:=fu 13 Tryz.f13 (λp=>([.d tu p],[])) (λx=>⟨.d Ag x,[],[]⟩) [aj tu] [aMu]
theorem aMz(p)(k:K1 R):ak1.A p k=al (at7.call [p]) λx1=>k (ak1.out x1):=cf
theorem aMA:ak1.Ok:=by intro p _;rw[aMz,aGU (d:=[p]) (by show [p].length<=_;simp)];rfl
theorem apj:ak1.RS:=rE [.d tu] ak1
def ax4:=ak1.fI aMA
def np(o:List Int)(ks:List Int):List Int:=ks.foldl (λo p=>o++jA p) o
def aD8(o:List Int)(b:pZ):List Int:=dJ (dJ (np (dJ o b.1.length) b.1) b.2.1) b.2.2.1++jA b.2.2.2.1
def P8(l:Lk):List Int:=if lk l then l.1.foldl aD8 (dJ [] l.1.length) else []
theorem M4:∀(ks:List Int) (o:List Int),(np o ks).length=o.length+8*ks.length
 |[],o=>rfl
 |k::ks,o=>by show(np (o++jA k) ks).length=_;rw[M4 ks,ai,cl,aE];omega
theorem ajU(o:List Int)(b:pZ)(h:b.1.length<=12):(aD8 o b).length<=o.length+200:=by unfold aD8;have h1:=fg o b.1.length;have h2:=M4 b.1 (dJ o b.1.length);have h3:=fg (np (dJ o b.1.length) b.1) b.2.1;have h4:=fg (dJ (np (dJ o b.1.length) b.1) b.2.1) b.2.2.1;rw[ai,cl];omega
def aLd(n:Int):Prop:=n<=9223372036854775807
def aR6(b:pZ):Prop:=b.1.length<=12/\aLd b.2.1/\aLd b.2.2.1
theorem aPF{b:pZ}(h:xp b=aL):aR6 b:=by unfold xp Su at h;simp only[ax,bO]at h;obtain⟨h1,_,h2,h3,_⟩:=h;exact⟨h1,by unfold aLd;omega,by unfold aLd;omega⟩
theorem abS(o:List Int)(ks:List Int)(k:Nat)(h:k < ks.length):np o (ks.drop k)=np (o++jA ks[k]) (ks.drop (k+1)):=by rw[aq h];rfl
abbrev Xu:=Bs×(List pZ)×Int×Int
abbrev Kj:=Bs×(List pZ)×Int×Int×Bs×Int×Int×pZ
def yH:Kj->Bs->(((List pZ)×Int×Int×pZ)×(Bs)):=λ(yc,DP,aeS,aeT,t28,t29,t30,n5) y=>((DP,aeS,aeT,n5),y)
def af5:Kj->Prop:=λ(o,bs,n,i,ks,m,j,b)=>ks.length<=12/\o.length+8*ks.length<=80000000+8*j.toNat/\m=ks.length/\∃k:Nat,k<=ks.length/\j=k
def Ep:Kj->Bs:=λ(o,bs,n,i,ks,m,j,b)=>np o (ks.drop j.toNat)
def af3:Xu->Prop:=λ(o,bs,n,i)=>(∀b∈bs,aR6 b)/\bs.length<=4/\o.length<=1000+200*i.toNat/\n=bs.length/\∃k:Nat,k<=bs.length/\i=k
def Kh:Xu->Bs:=λ(o,bs,n,i)=>(bs.drop i.toNat).foldl aD8 o
def at9:Lk->Prop:=λl=>afG l/\l.1.length<=9223372036854775807
def SH:Lk->Bs:=λl=>P8 l
def rY:Ls af3 bz Kh:=te (λ(outv,t16,t17,t18)=>⟨([bC,bC,bC,.d tB outv]++aQ 12 ([.d (.slice iS) t16,.d ti t17,.d ti t18]++aQ 31 [])),[],(ae 50 [])⟩) (λx=>(.exit 0,⟨([bC,bC,bC,.d tB x]++aQ 46 []),[],(ae 50 [])⟩))
def rZ:Ls af5 yH Ep:=te (λ(yc,DP,aeS,aeT,t28,t29,t30,n5)=>⟨([bC,bC,bC,.d tB yc,bC,dP 5]++aQ 10 ([.d (.slice iS) DP,.d ti aeS,.d ti aeT]++aQ 9 ([.d tU t28,.d ti t29,.d ti t30]++aQ 19 []))),[],(bk 5 ([cJ (.d iS n5)]++bk 44 []))⟩) (λx=>(.exit 2,⟨([bC,bC,bC,.d tB x.2,bC,dP 5]++aQ 10 ([.d (.slice iS) x.1.1,.d ti x.1.2.1,.d ti x.1.2.2.1]++aQ 31 [])),[],(bk 5 ([cJ (.d iS x.1.2.2.2)]++bk 44 []))⟩))
def uT:Fs Tryz.prog at9 bz SH:=fu 91 Tryz.f91 (λl=>([.d Ag l],[])) (λx=>⟨.d tB x,[],[]⟩) [aj Ag] [GC,aj7,aoh] {loops:=oI [(5,{aV:=[3,16,17,18]}),(9,{aV:=[3,5,16,17,18,28,29,30],sites:=[5]})],outs:=oH [(5,{aV:=[3]},{aV:=[2]}),(9,{aV:=[3,5,16,17,18],sites:=[5]},{aV:=[2]})],fE:=pW [(5,rY.E),(9,rZ.E)],res:=[aj tB]}
theorem af4:rY.RS:=rL [.d tB,.d (.slice iS),.d ti,.d ti] rY
theorem Ki(outv t16 t17 t18)(kn:K2 R)(kx:K3 R):uT.R 0 rY (outv,t16,t17,t18) kn kx=aG (fL t18 t17) (aG (eE t18 (t16.length:Int)) (al (JG.call (outv,(((List.length (nth iS t16 (ab t18)).1):Nat):Int))) λx1=>al (rZ.call (x1,t16,t17,t18,(nth iS t16 (ab t18)).1,(((List.length (nth iS t16 (ab t18)).1):Nat):Int),0,(nth iS t16 (ab t18)))) λx2=>al (JG.call (x2.2,x2.1.2.2.2.2.1)) λx3=>al (JG.call (x3,x2.1.2.2.2.2.2.1)) λx4=>al (J0.call (x4,x2.1.2.2.2.2.2.2.1)) λx5=>kn (rY.st (x5,x2.1.1,x2.1.2.1,(bA .i64 x2.1.2.2.1 1)))) aF) (rY.go kx outv):=cf
theorem af6:rZ.RS:=rL [.d tB,.d (.slice iS),.d ti,.d ti,.d tU,.d ti,.d ti,.d iS] rZ
theorem Kk(yc DP aeS aeT t28 t29 t30 n5)(kn:K2 R)(kx:K3 R):uT.R 1 rZ (yc,DP,aeS,aeT,t28,t29,t30,n5) kn kx=aG (fL t30 t29) (aG (eE t30 (t28.length:Int)) (al (J0.call (yc,(nth tu t28 (ab t30)))) λx1=>kn (rZ.st (x1,DP,aeS,aeT,t28,t29,(bA .i64 t30 1),n5))) aF) (rZ.go kx ((DP,aeS,aeT,n5),yc)):=cf
theorem aAJ(l)(k:K1 R):uT.A l k=al (qP.call l) λx1=>aG (!x1) (k (uT.out ([]:List Int))) (al (JG.call (([]:List Int),(l.1.length:Int))) λx2=>al (rY.call (x2,l.1,(l.1.length:Int),0)) λx9=>k (uT.out x9)):=cf
theorem ak0:(uT.kA 1 rZ):=by
 refine(uT.nN 1 rZ) (λ(o,bs,n,i,ks,m,j,b)=>ks.length - j.toNat) ?_
 rintro⟨o,bs,n,i,ks,m,j,b⟩ ⟨aQi,hl,rfl,k,hk,rfl⟩;have aQi:ks.length<=12:=aQi;have hk:k<=ks.length:=hk;have hl:o.length+8*ks.length<=80000000+8*(k:Int).toNat:=hl;rw[aa]at hl;by_cases h:k < ks.length
 ·left;have n1:nth (.int .u64) ks k=ks[k]:=cj (t:= .int .u64) h;refine⟨(o++jA ks[k],bs,n,i,ks,ks.length,((k+1:Nat):Int),b),⟨aQi,by rw[ai,cl,aa];omega,rfl,k+1,au,rfl⟩,by simp only[aa];omega,?_,λkn kx=> ?_⟩
  ·simp only[yH,Ep,aa];rw[abS _ _ _ h]
  ·rw[Kk];simp(disch:=omega) only[↓S1,↓if_pos,↓if_neg,if_pos,if_neg,bE,bp,S2,n1];rw[Gm (d:=(o,ks[k])) (by show o.length<=90000000;omega)];rfl
 ·right;obtain rfl:k=ks.length:=au;intro R kn kx;rw[Kk];simp(disch:=omega) only[↓S1,↓if_pos,↓if_neg,if_pos,if_neg,bE,bp,S2,yH,Ep,aH];rfl
theorem akZ:(uT.kA 0 rY):=by
 refine(uT.nN 0 rY) (λ(o,bs,n,i)=>bs.length - i.toNat) ?_
 rintro⟨o,bs,n,i⟩ ⟨hb,h4,hl,rfl,k,hk,rfl⟩;have h4:bs.length<=4:=h4;have hk:k<=bs.length:=hk;have hl:o.length<=1000+200*(k:Int).toNat:=hl;rw[aa]at hl;by_cases h:k < bs.length
 ·left;have hx:=hb _ (aR h);have n1:nth (.pair (.slice (.int .u64)) (.pair (.int .i64) (.pair (.int .i64) (.pair (.int .u64) .unit)))) bs k=bs[k]:=cj (t:=(.pair (.slice (.int .u64)) (.pair (.int .i64) (.pair (.int .i64) (.pair (.int .u64) .unit))))) h;have e0:=ajU o bs[k] hx.1;refine⟨(aD8 o bs[k],bs,bs.length,((k+1:Nat):Int)),⟨hb,h4,by rw[aa];omega,rfl,k+1,au,rfl⟩,by simp only[aa];omega,?_,λkn kx=> ?_⟩
  ·simp only[bz,Kh,aa];rw[aq h];rfl
  ·rw[Ki,aT au,aZ au au,aa,n1];obtain⟨⟨ks,af,dl,sc,u⟩,aP9⟩:∃b,bs[k]=b:=⟨_,rfl⟩;rw[aP9]at hx e0 ⊢;obtain⟨Zm,ha,hd⟩:=hx;have Zm:ks.length<=12:=Zm;have ha:af<=9223372036854775807:=ha;have hd:dl<=9223372036854775807:=hd;have l1:=fg o ks.length;have l2:=M4 ks (dJ o ks.length);have l3:=fg (np (dJ o ks.length) ks) af;have l4:=fg (dJ (np (dJ o ks.length) ks) af) dl;simp only[ak];rw[qy (d:=(o,(ks.length:Int))) ⟨by show o.length<=90000000;omega,by show(ks.length:Int)<=9223372036854775807;omega⟩];simp only[ah,bz,Ai];rw[af6 (d:=(dJ o ks.length,bs,bs.length,k,ks,ks.length,0,(ks,af,dl,sc,u))) ⟨Zm,by show(dJ o ks.length).length+8*ks.length<=_;omega,rfl,0,au,rfl⟩];simp only[ah,yH,Ep,aW,aO];rw[qy (d:=(np (dJ o ks.length) ks,af)) ⟨by show(np (dJ o ks.length) ks).length<=90000000;omega,ha⟩];simp only[ah,bz,Ai];rw[qy (d:=(dJ (np (dJ o ks.length) ks) af,dl)) ⟨by show(dJ (np (dJ o ks.length) ks) af).length<=90000000;omega,hd⟩];simp only[ah,bz,Ai];rw[Gm (d:=(dJ (dJ (np (dJ o ks.length) ks) af) dl,sc)) (by show(dJ (dJ (np (dJ o ks.length) ks) af) dl).length<=90000000;omega)];simp only[ah,bz,RI];rw[N.lh au];rfl
 ·right;obtain rfl:k=bs.length:=au;intro R kn kx;rw[Ki];simp(disch:=omega) only[↓S1,↓if_pos,↓if_neg,if_pos,if_neg,bE,bp,S2,bz,Kh,aH];rfl
theorem auf{l:Lk}(h:lk l=aL):(∀b∈l.1,aR6 b)/\0 < l.1.length/\l.1.length<=4:=by unfold lk at h;simp only[ax,bQ,bO]at h;exact⟨λb hb=>aPF (h.1 b hb),h.2⟩
theorem aAK:uT.Ok:=by
 rintro l ⟨hl,hb⟩;have hl:afG l:=hl;rw[aAJ,C7 (d:=l) ⟨hl,hb⟩];simp only[ah,bz,GB,bz,SH,P8];cases gb:lk l
 ·rfl
 ·obtain⟨h1,h2,h3⟩:=auf gb;have l1:=fg [] l.1.length;have l0:([]:List Int).length=0:=rfl;simp only[bY,ao,bE];rw[qy (d:=([],(l.1.length:Int))) ⟨by show([]:List Int).length<=90000000;omega,by show(l.1.length:Int)<=9223372036854775807;omega⟩];simp only[ah,bz,Ai];rw[af4 (d:=(dJ [] l.1.length,l.1,l.1.length,0)) ⟨h1,h3,by show(dJ [] l.1.length).length<=_;omega,rfl,0,au,rfl⟩];rfl
theorem M5(l:Lk):(P8 l).length<=1000:=by
 unfold P8;split
 ·rename_i h;obtain⟨h1,h2,h3⟩:=auf h;have key:∀(bs:List pZ) (o:List Int),(∀b∈bs,aR6 b)->(bs.foldl aD8 o).length<=o.length+200*bs.length:=by
   intro bs
   induction bs with
   |nil=>intro o _;exact aB _
   |cons b bs ih=>
    intro o hb;have e1:=ih (aD8 o b) λx hx=>hb x (az _ hx)
    have e2:=ajU o b (hb b aC).1;rw[aX,aE];omega
  have e:=key l.1 (dJ [] l.1.length) h1;have e2:=fg [] l.1.length;have l0:([]:List Int).length=0:=rfl;omega
 ·exact aK _
theorem abU:uT.RS:=rE [.d Ag] uT
def ait:=uT.fI aAK 2 ⟨.eW akZ,⟨.eW ak0,trivial⟩⟩
def azX:(Bs×Bs)->Prop:=λ(b,h)=>b.length+h.length<=100000000/\h.length=32
def axz:(Bs×Bs)->Bs:=λ(b,h)=>b++h
def aaR:Fs Tryz.prog azX bz axz:=fu 89 Tryz.f89 (λ(b,h)=>([.d tB b,.d tH h],[])) (λx=>⟨.d tB x,[],[]⟩) [aj tB,aj tH] [aaN]
theorem aFv(b h)(k:K1 R):aaR.A (b,h) k=al (JW.call (b,(cut h 0 32))) λx1=>k (aaR.out x1):=cf
theorem aFw:aaR.Ok:=by rintro⟨b,h⟩ ⟨h1,h2⟩;have h1:b.length+h.length<=100000000:=h1;have h2:h.length=32:=h2;rw[aFv,eF h2,MN (d:=(b,h)) h1];rfl
theorem azY:aaR.RS:=rE [.d tB,.d tB] aaR
def aFx:=aaR.fI aFw
def azV:(Bs×Bs)->Prop:=λ(b,c)=>b.length+c.length<=90000000
def aj8:(Bs×Bs)->Bs:=λ(b,c)=>b++(gH c.length++c)
def aaQ:Fs Tryz.prog azV bz aj8:=fu 90 Tryz.f90 (λ(b,c)=>([.d tB b,.d tB c],[])) (λx=>⟨.d tB x,[],[]⟩) [aj tB,aj tB] [axA,aaF] {res:=[aj tB]}
theorem aFs(b c)(k:K1 R):aaQ.A (b,c) k=al (aaS.call (c.length:Int)) λx1=>al (qc.call [b,x1,c]) λx2=>k (aaQ.out x2):=cf
theorem aFt:aaQ.Ok:=by rintro⟨b,c⟩ h;have h:b.length+c.length<=90000000:=h;have hl:=kV c.length;rw[aFs,aoj (d:=(c.length:Int)) ⟨au,au⟩];simp only[ah,bz,atj];rw[WQ (d:=[b,gH c.length,c]) ⟨by show [b,gH c.length,c].length<=_;simp,by show wq [b,gH c.length,c]<=_;simp only[wq,lJ,rK,bJ,ai];omega⟩];simp only[ah,bz,UY,bz,aj8,lJ,rK,bJ]
theorem azW:aaQ.RS:=rE [.d tB,.d tB] aaQ
def aFu:=aaQ.fI aFt
def P5(b:List Int)(x:gK):List Int:=dJ (b++x.1.1) x.1.2.1
def Qt(b:List Int)(o:gX):List Int:=dJ b o.1++(gH (P8 o.2.1).length++P8 o.2.1)
def wE(t:cR):List Int:=dJ (t.2.1.foldl Qt (dJ (t.1.foldl P5 (dJ [] t.1.length)) t.2.1.length)) t.2.2.1
def aeH(b:List Int)(s:Sg):List Int:=b++jA s.1++jA s.2.1
def awZ(b:List Int)(x:gK):List Int:=x.2.1.2.1.foldl aeH (dJ (dJ b x.2.1.1) x.2.1.2.1.length)++jA x.2.1.2.2.1
def aK4(t:cR):List Int:=if gv t then t.1.foldl awZ (wE t) else []
def sX(t:cR):List Int:=if gv t then tag (bH (⟨#[116,120]⟩:ByteArray)) [wE t] else ae 32 0
def aWb(x:gK):Prop:=Sm x.1.1/\aaw x.2.1/\x.2.1.2.1.length<=9223372036854775807
def xx(t:cR):Prop:=aPu t/\(∀x∈t.1,aWb x)/\t.2.2.1<=9223372036854775807
theorem nj:∀(l:List gK) (m:List (cr×Bool)),Gz m l=aL->∀x∈l,Kc x=aL
 |[],_,_,x,hx=>by cases hx
 |y::l,m,h,x,hx=>by
  rw[Gz,ax,ax]at h;rcases bI.1 hx with rfl | hx
  ·exact h.1.2
  ·exact nj l _ h.2 x hx
theorem kK:∀(l:List gX) (s:Int),Am s l=aL->∀o∈l,(0<=o.1/\o.1<=1125899906842624)/\lk o.2.1=aL
 |[],_,_,o,ho=>by cases ho
 |y::l,s,h,o,ho=>by
  rw[Am,ax,ax]at h;rcases bI.1 ho with rfl | ho
  ·have h1:=h.1.1;unfold Gf xQ at h1;simp only[ax,bO]at h1;exact⟨h1.2.1,h.1.2⟩
  ·exact kK l _ h.2 o ho
theorem C3{x:gK}(h:Kc x=aL):0<=x.1.2.1/\x.1.2.1 < 64/\0<=x.2.1.1/\x.2.1.1 < 4/\x.2.1.2.1.length<=12:=by unfold Kc AV at h;simp only[ax,bO]at h;exact⟨h.1.1,h.1.2,h.2.1.1,h.2.1.2,h.2.2⟩
theorem iZ{t:cR}(h:gv t=aL):(1<=t.1.length/\t.1.length<=64/\t.2.1.length<=64/\0<=t.2.2.1)/\Gz [] t.1=aL/\Am 0 t.2.1=aL:=by unfold gv afv at h;simp only[ax,bO]at h;exact h
theorem akQ(b:List Int)(x:gK):(P5 b x).length<=b.length+x.1.1.length+11:=by have:=fg (b++x.1.1) x.1.2.1;rw[ai]at this;exact this
theorem acV(b:List Int)(o:gX):(Qt b o).length<=b.length+1022:=by have h1:=fg b o.1;have h2:=kV (P8 o.2.1).length;have h3:=M5 o.2.1;unfold Qt;rw[ai,ai];omega
theorem arV(b:List Int)(s:Sg):(aeH b s).length=b.length+16:=by unfold aeH;rw[ai,ai,cl,cl]
abbrev Md:=cR×Bs×(List gK)×Int×Int
def zm:Md->Bs->((cR)×(Bs)):=λ(il,b,t13,t14,t15) y=>(il,y)
abbrev Mf:=cR×Bs×(List gX)×Int×Int
def zo:Mf->Bs->((cR)×(Bs)):=λ(qi,gY,t35,t36,t37) y=>(qi,y)
def ahf:Md->Prop:=λ(t,b,l,n,i)=>(l).length<=1000000000/\∃k:Nat,k<=(l).length/\i=k/\n=(l).length/\(l.length<=64)/\(∀x∈l,x.1.1.length=32/\x.1.2.1<=9223372036854775807)/\(b.length<=100+50*k)
def EZ:Md->Bs:=λ(t,b,l,n,i)=>(bt (ab i) l).foldl P5 b
def ahh:Mf->Prop:=λ(t,b,l,n,i)=>(l).length<=1000000000/\∃k:Nat,k<=(l).length/\i=k/\n=(l).length/\(l.length<=64)/\(∀o∈l,o.1<=9223372036854775807/\aPr o.2.1)/\(b.length<=4000+1100*k)
def E2:Mf->Bs:=λ(t,b,l,n,i)=>(bt (ab i) l).foldl Qt b
def awK:cR->Prop:=λt=>gv t=aL/\xx t
def afa:cR->Bs:=λt=>wE t
def sQ:Ls ahf zm EZ:=te (λ(il,b,t13,t14,t15)=>⟨([bC,.dx dz il,bC,.d tB b]++aQ 9 ([.d (.slice fo) t13,.d ti t14,.d ti t15]++aQ 38 [])),[],(ae 54 [])⟩) (λx=>(.exit 0,⟨([bC,.dx dz x.1,bC,.d tB x.2]++aQ 50 []),[],(ae 54 [])⟩))
def sR:Ls ahh zo E2:=te (λ(qi,gY,t35,t36,t37)=>⟨([bC,.dx dz qi,bC,.d tB gY]++aQ 31 ([.d (.slice fJ) t35,.d ti t36,.d ti t37]++aQ 16 [])),[],(ae 54 [])⟩) (λx=>(.exit 2,⟨([bC,.dx dz x.1,bC,.d tB x.2]++aQ 50 []),[],(ae 54 [])⟩))
def xi:Fs Tryz.prog awK bz afa:=fu 44 Tryz.f44 (λt=>([.d dz t],[])) (λx=>⟨.d tB x,[],[]⟩) [aj dz] [aj7,aFx,ait,aFu] {loops:=oI [(3,{aV:=[1,3,13,14,15]}),(9,{aV:=[1,3,35,36,37]})],outs:=oH [(3,{aV:=[1,3]},{aV:=[2]}),(9,{aV:=[1,3]},{aV:=[2]})],fE:=pW [(3,sQ.E),(9,sR.E)],res:=[aj tB]}
theorem ahg:sQ.RS:=rL [.d dz,.d tB,.d (.slice fo),.d ti,.d ti] sQ
theorem Me(il b t13 t14 t15)(kn:K2 R)(kx:K3 R):xi.R 0 sQ (il,b,t13,t14,t15) kn kx=aG (fL t15 t14) (aG (eE t15 (t13.length:Int)) (al (aaR.call (b,(nth fo t13 (ab t15)).1.1)) λx1=>al (JG.call (x1,(nth fo t13 (ab t15)).1.2.1)) λx2=>kn (sQ.st (il,x2,t13,t14,(bA .i64 t15 1)))) aF) (sQ.go kx (il,b)):=cf
theorem ahi:sR.RS:=rL [.d dz,.d tB,.d (.slice fJ),.d ti,.d ti] sR
theorem Mg(qi gY t35 t36 t37)(kn:K2 R)(kx:K3 R):xi.R 1 sR (qi,gY,t35,t36,t37) kn kx=aG (fL t37 t36) (aG (eE t37 (t35.length:Int)) (al (JG.call (gY,(nth fJ t35 (ab t37)).1)) λx1=>al (uT.call (nth fJ t35 (ab t37)).2.1) λx2=>al (aaQ.call (x1,x2)) λx3=>kn (sR.st (qi,x3,t35,t36,(bA .i64 t37 1)))) aF) (sR.go kx (qi,gY)):=cf
theorem aDB(t)(k:K1 R):xi.A t k=al (JG.call (([]:List Int),(t.1.length:Int))) λx1=>al (sQ.call (t,x1,t.1,(t.1.length:Int),0)) λx4=>al (JG.call (x4.2,(x4.1.2.1.length:Int))) λx5=>al (sR.call (x4.1,x5,x4.1.2.1,(x4.1.2.1.length:Int),0)) λx9=>al (JG.call (x9.2,x9.1.2.2.1)) λant=>k (xi.out ant):=cf
theorem amZ:(xi.kA 0 sQ):=by
 refine(xi.nN 0 sQ) (λ(t,b,l,n,i)=>(l).length - ab i) ?_
 rintro⟨t,b,l,n,i⟩ ⟨hlen,k,hk,rfl,rfl,I5,hx,hb⟩;have hlen:(l).length<=1000000000:=hlen;have hk:k<=(l).length:=hk;have I5:l.length<=64:=I5;have hx:∀x∈l,x.1.1.length=32/\x.1.2.1<=9223372036854775807:=hx;have hb:b.length<=100+50*k:=hb;by_cases h:k < (l).length
 ·left;have n1:nth fo l k=l[k]:=cj (t:=fo) h;have hd:bt k l=l[k]::bt (k+1) l:=aq h;refine⟨(t,(P5 b l[k]),l,((l).length:Int),((k+1:Nat):Int)),⟨hlen,k+1,au,rfl,rfl,I5,hx,by have:=akQ b l[k];have:=(hx _ (aR h)).1;omega⟩,by simp only[aa];omega,?_,λkn kx=> ?_⟩
  ·simp only[zm,EZ,aa,hd,aX]
  ·rw[Me,aT au,aZ au au,aa,n1];simp only[ak];have e:=hx _ (aR h);have e2:(b++l[k].1.1).length=b.length+l[k].1.1.length:=ai;rw[azY (d:=(b,l[k].1.1)) ⟨by show b.length+l[k].1.1.length<=_;omega,e.1⟩];simp only[ah,bz,axz];rw[qy (d:=(b++l[k].1.1,l[k].1.2.1)) ⟨by show(b++l[k].1.1).length<=_;omega,e.2⟩];simp only[ah,bz,Ai];rw[N.lh au];rfl
 ·right;obtain rfl:k=(l).length:=au;intro R kn kx;rw[Me,aP au,ao];simp only[zm,EZ,aa,aH,eO]
theorem am0:(xi.kA 1 sR):=by
 refine(xi.nN 1 sR) (λ(t,b,l,n,i)=>(l).length - ab i) ?_
 rintro⟨t,b,l,n,i⟩ ⟨hlen,k,hk,rfl,rfl,I5,hx,hb⟩;have hlen:(l).length<=1000000000:=hlen;have hk:k<=(l).length:=hk;have I5:l.length<=64:=I5;have hx:∀o∈l,o.1<=9223372036854775807/\aPr o.2.1:=hx;have hb:b.length<=4000+1100*k:=hb;by_cases h:k < (l).length
 ·left;have n1:nth fJ l k=l[k]:=cj (t:=fJ) h;have hd:bt k l=l[k]::bt (k+1) l:=aq h;refine⟨(t,(Qt b l[k]),l,((l).length:Int),((k+1:Nat):Int)),⟨hlen,k+1,au,rfl,rfl,I5,hx,by have:=acV b l[k];omega⟩,by simp only[aa];omega,?_,λkn kx=> ?_⟩
  ·simp only[zo,E2,aa,hd,aX]
  ·rw[Mg,aT au,aZ au au,aa,n1];simp only[ak];have e:=hx _ (aR h);have e1:=fg b l[k].1;have e2:=M5 l[k].2.1;rw[qy (d:=(b,l[k].1)) ⟨by show b.length<=_;omega,e.1⟩];simp only[ah,bz,Ai];rw[abU (d:=l[k].2.1) e.2];simp only[ah,bz,SH];rw[azW (d:=(dJ b l[k].1,P8 l[k].2.1)) (by show(dJ b l[k].1).length+(P8 l[k].2.1).length<=_;omega)];simp only[ah,bz,aj8];rw[N.lh au];rfl
 ·right;obtain rfl:k=(l).length:=au;intro R kn kx;rw[Mg,aP au,ao];simp only[zo,E2,aa,aH,eO]
theorem Z2:∀(l:List gK) (b:List Int),(∀x∈l,x.1.1.length=32)->(l.foldl P5 b).length<=b.length+43*l.length
 |[],b,_=>aB _
 |x::l,b,h=>by
  have h1:=akQ b x;have h2:=h x aC;have h3:=Z2 l (P5 b x) λy hy=>h y (az _ hy)
  rw[aX,aE];omega
theorem SZ:∀(l:List gX) (b:List Int),(l.foldl Qt b).length<=b.length+1022*l.length
 |[],b=>aB _
 |x::l,b=>by have h1:=acV b x;have h3:=SZ l (Qt b x);rw[aX,aE];omega
theorem QI{t:cR}(gb:gv t=aL)(hv:xx t):(wE t).length<=70000:=by
 obtain⟨⟨_,a2,a3,_⟩,_,_⟩:=iZ gb;have h1:=Z2 t.1 (dJ [] t.1.length) λx hx=>(hv.2.1 x hx).1.1
 have h2:=fg [] t.1.length;have h3:=fg (t.1.foldl P5 (dJ [] t.1.length)) t.2.1.length;have h4:=SZ t.2.1 (dJ (t.1.foldl P5 (dJ [] t.1.length)) t.2.1.length);have h5:=fg (t.2.1.foldl Qt (dJ (t.1.foldl P5 (dJ [] t.1.length)) t.2.1.length)) t.2.2.1;have h0:([]:List Int).length=0:=rfl;unfold wE;omega
theorem aDC:xi.Ok:=by
 rintro t ⟨gb,hv⟩;have hv:xx t:=hv;obtain⟨⟨_,a2,a3,_⟩,b1,b2⟩:=iZ gb;have h0:([]:List Int).length=0:=rfl;have l0:=fg [] t.1.length;have l1:=Z2 t.1 (dJ [] t.1.length) λx hx=>(hv.2.1 x hx).1.1
 have l2:=fg (t.1.foldl P5 (dJ [] t.1.length)) t.2.1.length;have l3:=SZ t.2.1 (dJ (t.1.foldl P5 (dJ [] t.1.length)) t.2.1.length);rw[aDB,qy (d:=([],(t.1.length:Int))) ⟨by show([]:List Int).length<=_;omega,by show(t.1.length:Int)<=_;omega⟩];simp only[ah,bz,Ai];rw[ahg (d:=(t,dJ [] t.1.length,t.1,t.1.length,0)) ⟨by show t.1.length<=_;omega,0,aK _,rfl,rfl,a2,λx hx=>⟨(hv.2.1 x hx).1.1,by have:=C3 (nj _ _ b1 x hx);omega⟩,by show(dJ [] t.1.length).length<=_;omega⟩];simp only[ah,zm,EZ,aW,aO];rw[qy (d:=(t.1.foldl P5 (dJ [] t.1.length),(t.2.1.length:Int))) ⟨by show(t.1.foldl P5 (dJ [] t.1.length)).length<=_;omega,by show(t.2.1.length:Int)<=_;omega⟩];simp only[ah,bz,Ai];rw[ahi (d:=(t,dJ (t.1.foldl P5 (dJ [] t.1.length)) t.2.1.length,t.2.1,t.2.1.length,0)) ⟨by show t.2.1.length<=_;omega,0,aK _,rfl,rfl,a3,λo ho=>⟨by have:=(kK _ _ b2 o ho).1;omega,hv.1.1 o ho⟩,by show(dJ (t.1.foldl P5 (dJ [] t.1.length)) t.2.1.length).length<=_;omega⟩];simp only[ah,zo,E2,aW,aO];rw[qy (d:=(t.2.1.foldl Qt (dJ (t.1.foldl P5 (dJ [] t.1.length)) t.2.1.length),t.2.2.1)) ⟨by show(t.2.1.foldl Qt (dJ (t.1.foldl P5 (dJ [] t.1.length)) t.2.1.length)).length<=_;omega,hv.2.2⟩];rfl
theorem afb:xi.RS:=rE [.d dz] xi
def ajD:=xi.fI aDC 2 ⟨.eW amZ,⟨.eW am0,trivial⟩⟩
def JM(t:cR):Prop:=(t.1.length<=1000000000/\∀x∈t.1,x.2.1.2.1.length<=1000000000)/\t.2.1.length<=1000000000/\∀x∈t.2.1,x.2.1.1.length<=1000000000/\∀b∈x.2.1.1,b.1.length<=1000000000
def AJ(n:Int)(x:gK):Int:=n+(10+8*x.2.1.2.1.length)+(if x.2.1.2.2.1=0 then 0 else 4)
def lq(t:cR):Int:=if gv t then t.1.foldl AJ (10+8*t.2.1.length) else 0
def da(t:cR):List cr:=if gv t then t.1.map (·.1) else []
def GD(id:List Int)(k n:Nat):List cr:=(List.range' k n).map λi:Nat=>(id,((i:Int),()))
def gl(t:cR):List cr:=if gv t then GD (sX t) 0 t.2.1.length else []
def aN0:cR->Prop:=λt=>xx t
def ajB:cR->Bs:=λt=>sX t
def tid:Fs Tryz.prog aN0 bz ajB:=fu 16 Tryz.f16 (λt=>([.d dz t],[])) (λx=>⟨.d tH x,[],[]⟩) [aj dz] [pQ,ajD,akO]
theorem aRo(t)(k:K1 R):tid.A t k=al (ij.call t) λx1=>aG (!x1) (k (tid.out (ae 32 0))) (al (xi.call t) λx2=>al (Zo.call ((⟨#[116,120]⟩:ByteArray),[x2])) λx3=>k (tid.out x3)):=cf
theorem aRp:tid.Ok:=by
 intro t hv;have hv:xx t:=hv;rw[aRo,kX (d:=t) hv.1];simp only[ah,bz,nG,bz,ajB,sX];cases gb:gv t
 ·rfl
 ·have hl:=QI gb hv;rw[afb (d:=t) ⟨gb,hv⟩];simp only[bY,ao,bE,ah,bz,afa];rw[abE (d:=((⟨#[116,120]⟩:ByteArray),[wE t])) (asa eG au)];rfl
theorem UE:tid.RS:=rE [.d dz] tid
def ae6:=tid.fI aRp
abbrev UO:=Int×(List gK)×Int×Int
def afq:UO->Prop:=λ(n,l,m,i)=>(l).length<=1000000000/\∃k:Nat,k<=(l).length/\i=k/\m=(l).length/\(l.length<=64)/\(∀x∈l,x.2.1.2.1.length<=12)/\(0<=n)/\(n<=1000+200*(k:Int))
def Cq:UO->Int:=λ(n,l,m,i)=>(bt (ab i) l).foldl AJ n
def ass:cR->Prop:=λt=>xx t
def WH:cR->Int:=λt=>lq t
def mK:Ls afq bz Cq:=te (λ(n,t15,t16,t17)=>⟨([bC,bC,bC,.d ti n]++aQ 11 ([.d (.slice fo) t15,.d ti t16,.d ti t17]++aQ 19 [])),[],(ae 37 [])⟩) (λx=>(.exit 0,⟨([bC,bC,bC,.d ti x]++aQ 33 []),[],(ae 37 [])⟩))
def uw:Fs Tryz.prog ass bz WH:=fu 17 Tryz.f17 (λt=>([.d dz t],[])) (λx=>⟨.d ti x,[],[]⟩) [aj dz] [pQ] {loops:=oI [(5,{aV:=[3,15,16,17]})],outs:=oH [(5,{aV:=[3]},{aV:=[2]})],fE:=pW [(5,mK.E)]}
theorem afr:mK.RS:=rL [.d ti,.d (.slice fo),.d ti,.d ti] mK
theorem JD(n t15 t16 t17)(kn:K2 R)(kx:K3 R):uw.R 0 mK (n,t15,t16,t17) kn kx=aG (fL t17 t16) (aG (eE t17 (t15.length:Int)) (aG (Cw (nth fo t15 (ab t17)).2.1.2.2.1 0) (kn (mK.st ((bA .i64 (bA .i64 n (bA .i64 10 (gB .i64 8 (((List.length (nth fo t15 (ab t17)).2.1.2.1):Nat):Int)))) 4),t15,t16,(bA .i64 t17 1)))) (kn (mK.st ((bA .i64 n (bA .i64 10 (gB .i64 8 (((List.length (nth fo t15 (ab t17)).2.1.2.1):Nat):Int)))),t15,t16,(bA .i64 t17 1))))) aF) (mK.go kx n):=cf
theorem awW(t)(k:K1 R):uw.A t k=al (ij.call t) λx1=>aG (!x1) (k (uw.out 0)) (al (mK.call ((bA .i64 10 (gB .i64 8 (t.2.1.length:Int))),t.1,(t.1.length:Int),0)) λx2=>k (uw.out x2)):=cf
theorem ahs:(uw.kA 0 mK):=by
 refine(uw.nN 0 mK) (λ(n,l,m,i)=>(l).length - ab i) ?_
 rintro⟨n,l,m,i⟩ ⟨hlen,k,hk,rfl,rfl,I5,hx,h0,h1⟩;have hlen:(l).length<=1000000000:=hlen;have hk:k<=(l).length:=hk;have I5:l.length<=64:=I5;have hx:∀x∈l,x.2.1.2.1.length<=12:=hx;have h0:0<=n:=h0;have h1:n<=1000+200*(k:Int):=h1;by_cases h:k < (l).length
 ·left;have n1:nth fo l k=l[k]:=cj (t:=fo) h;have hd:bt k l=l[k]::bt (k+1) l:=aq h;refine⟨((AJ n l[k]),l,((l).length:Int),((k+1:Nat):Int)),⟨hlen,k+1,au,rfl,rfl,I5,hx,by unfold AJ;split <;> omega,by have:=hx _ (aR h);unfold AJ;split <;> omega⟩,by simp only[aa];omega,?_,λkn kx=> ?_⟩
  ·simp only[bz,Cq,aa,hd,aX]
  ·rw[JD,aT au,aZ au au,aa,n1];simp only[ak];have e:=hx _ (aR h);rw[N.aTm au];have e2:bA .i64 10 ((8*l[k].2.1.2.1.length:Nat):Int)=10+8*(l[k].2.1.2.1.length:Int):=by rw[jn au au];omega
   rw[e2,jn (x:=n) au au,N.lh au];unfold AJ;by_cases hs:l[k].2.1.2.2.1=0
   ·rw[cz hs,ao,if_pos hs,Int.add_zero]
   ·rw[eA hs,ak,if_neg hs,jn au au]
 ·right;obtain rfl:k=(l).length:=au;intro R kn kx;rw[JD,aP au,ao];simp only[bz,Cq,aa,aH,eO]
theorem awX:uw.Ok:=by
 intro t hv;have hv:xx t:=hv;rw[awW,kX (d:=t) hv.1];simp only[ah,bz,nG,bz,WH,lq];cases gb:gv t
 ·rfl
 ·obtain⟨⟨_,a2,a3,_⟩,b1,b2⟩:=iZ gb;rw[N.aTm au,jn au au,afr (d:=(10+((8*t.2.1.length:Nat):Int),t.1,t.1.length,0)) ⟨by show t.1.length<=_;omega,0,aK _,rfl,rfl,a2,λx hx=>(C3 (nj _ _ b1 x hx)).2.2.2.2,by show(0:Int)<=10+((8*t.2.1.length:Nat):Int);omega,by show 10+((8*t.2.1.length:Nat):Int)<=_;omega⟩];simp only[ah,bz,Cq,aW,aO,bY,ao,bE,pf];rfl
theorem Zb:uw.RS:=rE [.d dz] uw
def afs:=uw.fI awX 1 ⟨.eW ahs,trivial⟩
abbrev YU:=Bs×(List gK)×Int×Int
abbrev L8:=Bs×(List gK)×Int×Int×(List Sg)×Int×Int×gK
def zl:L8->Bs->(((List gK)×Int×Int×gK)×(Bs)):=λ(gY,aeQ,aeR,DP,t32,t33,t34,n5) y=>((aeQ,aeR,DP,n5),y)
def aha:L8->Prop:=λ(b,l1,aUb,i1,l,n,i,x)=>(l).length<=1000000000/\∃k:Nat,k<=(l).length/\i=k/\n=(l).length/\(l.length<=12)/\(b.length<=80000000+16*k)
def EX:L8->Bs:=λ(b,l1,aUb,i1,l,n,i,x)=>(bt (ab i) l).foldl aeH b
def ag8:YU->Prop:=λ(b,l,n,i)=>(l).length<=1000000000/\∃k:Nat,k<=(l).length/\i=k/\n=(l).length/\(l.length<=64)/\(∀x∈l,x.2.1.2.1.length<=12/\x.2.1.1<=9223372036854775807)/\(b.length<=100000+1000*k)
def L4:YU->Bs:=λ(b,l,n,i)=>(bt (ab i) l).foldl awZ b
theorem aeI:∀(l:List Sg) (b:List Int),(l.foldl aeH b).length=b.length+16*l.length
 |[],b=>rfl
 |x::l,b=>by have h1:=arV b x;have h3:=aeI l (aeH b x);rw[aX,aE];omega
theorem aKH(b:List Int)(x:gK)(h:x.2.1.2.1.length<=12):(awZ b x).length<=b.length+300:=by grind [fg,aeI,awZ,cl]
def awE:cR->Prop:=λt=>xx t
def Ux:cR->Bs:=λt=>aK4 t
def sO:Ls ag8 bz L4:=te (λ(b,t14,t15,t16)=>⟨([bC,bC,bC,.d tB b]++aQ 10 ([.d (.slice fo) t14,.d ti t15,.d ti t16]++aQ 36 [])),[],(ae 53 [])⟩) (λx=>(.exit 0,⟨([bC,bC,bC,.d tB x]++aQ 49 []),[],(ae 53 [])⟩))
def sP:Ls aha zl EX:=te (λ(gY,aeQ,aeR,DP,t32,t33,t34,n5)=>⟨([bC,bC,bC,.d tB gY,bC,dP 5]++aQ 8 ([.d (.slice fo) aeQ,.d ti aeR,.d ti DP]++aQ 15 ([.d (.slice xn) t32,.d ti t33,.d ti t34]++aQ 18 []))),[],(bk 5 ([cJ (.d fo n5)]++bk 47 []))⟩) (λx=>(.exit 2,⟨([bC,bC,bC,.d tB x.2,bC,dP 5]++aQ 8 ([.d (.slice fo) x.1.1,.d ti x.1.2.1,.d ti x.1.2.2.1]++aQ 36 [])),[],(bk 5 ([cJ (.d fo x.1.2.2.2)]++bk 47 []))⟩))
def vc:Fs Tryz.prog awE bz Ux:=fu 67 Tryz.f67 (λt=>([.d dz t],[])) (λx=>⟨.d tB x,[],[]⟩) [aj dz] [pQ,ajD,aj7,aoh] {loops:=oI [(5,{aV:=[3,14,15,16]}),(9,{aV:=[3,5,14,15,16,32,33,34],sites:=[5]})],outs:=oH [(5,{aV:=[3]},{aV:=[2]}),(9,{aV:=[3,5,14,15,16],sites:=[5]},{aV:=[2]})],fE:=pW [(5,sO.E),(9,sP.E)],res:=[aj tB]}
theorem ag9:sO.RS:=rL [.d tB,.d (.slice fo),.d ti,.d ti] sO
theorem L7(b t14 t15 t16)(kn:K2 R)(kx:K3 R):vc.R 0 sO (b,t14,t15,t16) kn kx=aG (fL t16 t15) (aG (eE t16 (t14.length:Int)) (al (JG.call (b,(nth fo t14 (ab t16)).2.1.1)) λx1=>al (JG.call (x1,(((List.length (nth fo t14 (ab t16)).2.1.2.1):Nat):Int))) λx2=>al (sP.call (x2,t14,t15,t16,(nth fo t14 (ab t16)).2.1.2.1,(((List.length (nth fo t14 (ab t16)).2.1.2.1):Nat):Int),0,(nth fo t14 (ab t16)))) λx3=>al (J0.call (x3.2,x3.1.2.2.2.2.1.2.2.1)) λx4=>kn (sO.st (x4,x3.1.1,x3.1.2.1,(bA .i64 x3.1.2.2.1 1)))) aF) (sO.go kx b):=cf
theorem ahb:sP.RS:=rL [.d tB,.d (.slice fo),.d ti,.d ti,.d (.slice xn),.d ti,.d ti,.d fo] sP
theorem L9(gY aeQ aeR DP t32 t33 t34 n5)(kn:K2 R)(kx:K3 R):vc.R 1 sP (gY,aeQ,aeR,DP,t32,t33,t34,n5) kn kx=aG (fL t34 t33) (aG (eE t34 (t32.length:Int)) (al (J0.call (gY,(nth xn t32 (ab t34)).1)) λx1=>al (J0.call (x1,(nth xn t32 (ab t34)).2.1)) λx2=>kn (sP.st (x2,aeQ,aeR,DP,t32,t33,(bA .i64 t34 1),n5))) aF) (sP.go kx ((aeQ,aeR,DP,n5),gY)):=cf
theorem aDv(t)(k:K1 R):vc.A t k=al (ij.call t) λx1=>aG (!x1) (k (vc.out ([]:List Int))) (al (xi.call t) λx2=>al (sO.call (x2,t.1,(t.1.length:Int),0)) λx9=>k (vc.out x9)):=cf
theorem amU:(vc.kA 1 sP):=by
 refine(vc.nN 1 sP) (λ(b,l1,aUb,i1,l,n,i,x)=>(l).length - ab i) ?_
 rintro⟨b,l1,aUb,i1,l,n,i,x⟩ ⟨hlen,k,hk,rfl,rfl,Zm,hb⟩;have hlen:(l).length<=1000000000:=hlen;have hk:k<=(l).length:=hk;have Zm:l.length<=12:=Zm;have hb:b.length<=80000000+16*k:=hb;by_cases h:k < (l).length
 ·left;have n1:nth xn l k=l[k]:=cj (t:=xn) h;have hd:bt k l=l[k]::bt (k+1) l:=aq h;refine⟨((aeH b l[k]),l1,aUb,i1,l,((l).length:Int),((k+1:Nat):Int),x),⟨hlen,k+1,au,rfl,rfl,Zm,by have:=arV b l[k];omega⟩,by simp only[aa];omega,?_,λkn kx=> ?_⟩
  ·simp only[zl,EX,aa,hd,aX]
  ·rw[L9,aT au,aZ au au,aa,n1];simp only[ak];rw[Gm (d:=(b,l[k].1)) (by show b.length<=_;omega)];simp only[ah,bz,RI];rw[Gm (d:=(b++jA l[k].1,l[k].2.1)) (by show(b++jA l[k].1).length<=_;rw[ai,cl];omega)];simp only[ah,bz,RI];rw[N.lh au];rfl
 ·right;obtain rfl:k=(l).length:=au;intro R kn kx;rw[L9,aP au,ao];simp only[zl,EX,aa,aH,eO]
theorem amT:(vc.kA 0 sO):=by
 refine(vc.nN 0 sO) (λ(b,l,n,i)=>(l).length - ab i) ?_
 rintro⟨b,l,n,i⟩ ⟨hlen,k,hk,rfl,rfl,I5,hx,hb⟩;have hlen:(l).length<=1000000000:=hlen;have hk:k<=(l).length:=hk;have I5:l.length<=64:=I5;have hx:∀x∈l,x.2.1.2.1.length<=12/\x.2.1.1<=9223372036854775807:=hx;have hb:b.length<=100000+1000*k:=hb;by_cases h:k < (l).length
 ·left;have n1:nth fo l k=l[k]:=cj (t:=fo) h;have hd:bt k l=l[k]::bt (k+1) l:=aq h;refine⟨((awZ b l[k]),l,((l).length:Int),((k+1:Nat):Int)),⟨hlen,k+1,au,rfl,rfl,I5,hx,by have:=aKH b l[k] (hx _ (aR h)).1;omega⟩,by simp only[aa];omega,?_,λkn kx=> ?_⟩
  ·simp only[bz,L4,aa,hd,aX]
  ·rw[L7,aT au,aZ au au,aa,n1];simp only[ak];have e:=hx _ (aR h);have e1:=fg b l[k].2.1.1;have e2:=fg (dJ b l[k].2.1.1) l[k].2.1.2.1.length;have e3:=aeI l[k].2.1.2.1 (dJ (dJ b l[k].2.1.1) l[k].2.1.2.1.length);rw[qy (d:=(b,l[k].2.1.1)) ⟨by show b.length<=_;omega,e.2⟩];simp only[ah,bz,Ai];rw[qy (d:=(dJ b l[k].2.1.1,(l[k].2.1.2.1.length:Int))) ⟨by show(dJ b l[k].2.1.1).length<=_;omega,by show(l[k].2.1.2.1.length:Int)<=_;omega⟩];simp only[ah,bz,Ai];rw[ahb (d:=(dJ (dJ b l[k].2.1.1) l[k].2.1.2.1.length,l,l.length,k,l[k].2.1.2.1,l[k].2.1.2.1.length,0,l[k])) ⟨by show l[k].2.1.2.1.length<=_;omega,0,aK _,rfl,rfl,e.1,by show(dJ (dJ b l[k].2.1.1) l[k].2.1.2.1.length).length<=_;omega⟩];simp only[ah,zl,EX,aW,aO];rw[Gm (d:=(l[k].2.1.2.1.foldl aeH (dJ (dJ b l[k].2.1.1) l[k].2.1.2.1.length),l[k].2.1.2.2.1)) (by show(l[k].2.1.2.1.foldl aeH (dJ (dJ b l[k].2.1.1) l[k].2.1.2.1.length)).length<=_;omega)];simp only[ah,bz,RI];rw[N.lh au];rfl
 ·right;obtain rfl:k=(l).length:=au;intro R kn kx;rw[L7,aP au,ao];simp only[bz,L4,aa,aH,eO]
theorem aDw:vc.Ok:=by
 intro t hv;have hv:xx t:=hv;rw[aDv,kX (d:=t) hv.1];simp only[ah,bz,nG,bz,Ux,aK4];cases gb:gv t
 ·rfl
 ·obtain⟨⟨_,a2,a3,_⟩,b1,b2⟩:=iZ gb;have hl:=QI gb hv;rw[afb (d:=t) ⟨gb,hv⟩];simp only[bY,ao,bE,ah,bz,afa];rw[ag9 (d:=(wE t,t.1,t.1.length,0)) ⟨by show t.1.length<=_;omega,0,aK _,rfl,rfl,a2,λx hx=>by have:=C3 (nj _ _ b1 x hx);exact⟨this.2.2.2.2,au⟩,by show(wE t).length<=_;omega⟩];rfl
theorem aeZ:vc.RS:=rE [.d dz] vc
def ajz:=vc.fI aDw 2 ⟨.eW amT,⟨.eW amU,trivial⟩⟩
abbrev UN:=Nat×(List gK)×Int×Int×(List cr)
def afn:UN->Prop:=λ(L,l,n,i,r)=>(l).length<=1000000/\∃k:Nat,k<=(l).length/\i=k/\n=(l).length/\L=(r).length/\(r).length<=1000000+k
def Cp:UN->(Nat×(List cr)):=λ(L,l,n,i,r)=>(L+(bt (ab i) l).length,r++(bt (ab i) l).map (λx:gK=>x.1))
def asq:cR->Prop:=λt=>aPu t
def Nv:cR->(List cr):=λt=>da t
def o8:Ls afn bz Cp:=te (λ(lL,t9,t10,t11,VN)=>⟨([bC,bC,je 19 lL]++aQ 6 ([.d (.slice fo) t9,.d ti t10,.d ti t11]++aQ 10 [])),[],(bk 19 [cJ (.vec 58 bX VN),[],[]])⟩) (λx=>(.exit 0,⟨([bC,bC,je 19 x.1]++aQ 19 []),[],(bk 19 [cJ (.vec 58 bX x.2),[],[]])⟩))
def uv:Fs Tryz.prog asq bz Nv:=fu 31 Tryz.f31 (λt=>([.d dz t],[])) (λx=>⟨.d (.slice bX) x,[],[]⟩) [aj dz] [pQ] {loops:=oI [(4,{aV:=[2,9,10,11],sites:=[19],owns:=[⟨2,[],19,31⟩]})],outs:=oH [(4,{aV:=[2],sites:=[19]},{aV:=[2]})],fE:=pW [(4,o8.E)],res:=[aj (.slice bX)]}
theorem afo:o8.RS:=rL [.n,.d (.slice fo),.d ti,.d ti,.d (.slice bX)] o8
theorem JC(lL t9 t10 t11 VN)(kn:K2 R)(kx:K3 R):uv.R 0 o8 (lL,t9,t10,t11,VN) kn kx=aG (fL t11 t10) (aG (eE t11 (t9.length:Int)) (aG (decide (lL<=(List.length VN))) (aG (dd (lL+1) 40) (kn (o8.st ((lL+1),t9,t10,(bA .i64 t11 1),((aJ lL VN)++ [(nth fo t9 (ab t11)).1])))) aF) aF) aF) (o8.go kx (lL,VN)):=cf
theorem awU(t)(k:K1 R):uv.A t k=al (ij.call t) λx1=>aG (!x1) (k (uv.out ([]:List cr))) (al (o8.call (0,t.1,(t.1.length:Int),0,([]:List cr))) λx2=>aG (decide (0=0/\(0+x2.1)<=(List.length x2.2))) (k (uv.out (cut x2.2 0 x2.1))) aF):=cf
theorem ahr:(uv.kA 0 o8):=by
 refine(uv.nN 0 o8) (λ(L,l,n,i,r)=>(l).length - ab i) ?_
 rintro⟨L,l,n,i,r⟩ ⟨hlen,k,hk,rfl,rfl,rfl,nL⟩;have hlen:(l).length<=1000000:=hlen;have hk:k<=(l).length:=hk;have nL:(r).length<=1000000+k:=nL;by_cases h:k < (l).length
 ·left;have n1:nth fo l k=l[k]:=cj (t:=fo) h;have hd:bt k l=l[k]::bt (k+1) l:=aq h;refine⟨((r).length+1,l,((l).length:Int),((k+1:Nat):Int),r++ [(λx:gK=>x.1) l[k]]),⟨hlen,k+1,au,rfl,rfl,by rw[ai];rfl,by rw[ai];show(r).length+1<=_;omega⟩,by simp only[aa];omega,?_,λkn kx=> ?_⟩
  ·simp only[bz,Cp,aa,hd,bM,aE,aM,cS];rw[show ∀a c:Nat,a+1+c=a+(c+1) from λa c=>au]
  ·rw[JC,aT au,aZ (show(0:Int)<=(k:Int) by omega) au,aa,n1];simp only[ak];rw[aI (aB _),dk au au,N.lh au,bK];rfl
 ·right;obtain rfl:k=(l).length:=au;intro R kn kx;rw[JC,aP au,ao];simp only[bz,Cp,aa,aH,gW,bJ,bq,de]
theorem awV:uv.Ok:=by
 intro t hv;have hv:aPu t:=hv;rw[awU,kX (d:=t) hv];simp only[ah,bz,nG,bz,Nv,da];cases gb:gv t
 ·rfl
 ·obtain⟨⟨_,a2,a3,_⟩,b1,b2⟩:=iZ gb;rw[afo (d:=(0,t.1,t.1.length,0,[])) ⟨by show t.1.length<=_;omega,0,aK _,rfl,rfl,rfl,aK _⟩];simp only[bY,ao,bE,ah,bz,Cp,aW,aO,bm,aU];rw[aI ⟨by trivial,by rw[List.length_map];exact aB _⟩,ak,eF (by rw[List.length_map])]
theorem Za:uv.RS:=rE [.d dz] uv
def afp:=uv.fI awV 1 ⟨.eW ahr,trivial⟩
abbrev ae8:=Nat×Int×Int×Bs×(List cr)
def amV:ae8->Prop:=λ(L,n,i,id,r)=>∃k m:Nat,k<=m/\i=k/\n=m/\m<=1000/\L=r.length/\L=k
def IM:ae8->(Nat×(List cr)):=λ(L,n,i,id,r)=>(L+(n - i).toNat,r++GD id i.toNat (n - i).toNat)
def aDy:cR->Prop:=λt=>xx t
def aap:cR->(List cr):=λt=>gl t
def xf:Ls amV bz IM:=te (λ(lL,t12,t13,n3,aRW)=>⟨([bC,bC,je 21 lL,dP 3]++aQ 8 ([.d ti t12,.d ti t13]++aQ 10 [])),[],([[],[],[],cJ (.d tH n3)]++bk 17 [cJ (.vec 58 bX aRW),[],[]])⟩) (λx=>(.exit 0,⟨([bC,bC,je 21 x.1]++aQ 21 []),[],(bk 21 [cJ (.vec 58 bX x.2),[],[]])⟩))
def JB:Fs Tryz.prog aDy bz aap:=fu 37 Tryz.f37 (λt=>([.d dz t],[])) (λx=>⟨.d (.slice bX) x,[],[]⟩) [aj dz] [ae6,pQ] {loops:=oI [(5,{aV:=[2,3,12,13],sites:=[3,21],owns:=[⟨2,[],21,31⟩]})],outs:=oH [(5,{aV:=[2],sites:=[21]},{aV:=[2]})],fE:=pW [(5,xf.E)],res:=[aj (.slice bX)]}
theorem amW:xf.RS:=rL [.n,.d ti,.d ti,.d tB,.d (.slice bX)] xf
theorem Pa(lL t12 t13 n3 aRW)(kn:K2 R)(kx:K3 R):JB.R 0 xf (lL,t12,t13,n3,aRW) kn kx=aG (fL t13 t12) (aG (decide (lL<=(List.length aRW))) (aG (dd (lL+1) 40) (kn (xf.st ((lL+1),t12,(bA .i64 t13 1),n3,((aJ lL aRW)++ [(n3,(t13,()))])))) aF) aF) (xf.go kx (lL,aRW)):=cf
theorem aKf(t)(k:K1 R):JB.A t k=al (tid.call t) λx1=>al (ij.call t) λx2=>aG (!x2) (k (JB.out ([]:List cr))) (al (xf.call (0,(t.2.1.length:Int),0,x1,([]:List cr))) λx3=>aG (decide (0=0/\(0+x3.1)<=(List.length x3.2))) (k (JB.out (cut x3.2 0 x3.1))) aF):=cf
theorem aAY(id:List Int)(k n:Nat):(GD id k n).length=n:=by simp[GD]
theorem auk(id:List Int)(k n:Nat):GD id k (n+1)=(id,((k:Int),()))::GD id (k+1) n:=by unfold GD;rw[List.range'_succ,bM]
theorem asg:(JB.kA 0 xf):=by
 refine(JB.nN 0 xf) (λ(L,n,i,id,r)=>(n - i).toNat) ?_
 rintro⟨L,n,i,id,r⟩ ⟨k,m,hk,rfl,rfl,hm,rfl,aWU⟩;have aWU:r.length=k:=aWU;by_cases h:k < m
 ·left;have e1:((m:Int) - (k:Int)).toNat=(m - (k+1))+1:=au;have e2:((m:Int) - ((k+1:Nat):Int)).toNat=m - (k+1):=au;refine⟨(r.length+1,(m:Int),((k+1:Nat):Int),id,r++ [(id,((k:Int),()))]),⟨k+1,m,au,rfl,rfl,hm,by rw[ai];rfl,by show r.length+1=_;omega⟩,by show((m:Int) - ((k+1:Nat):Int)).toNat < ((m:Int) - (k:Int)).toNat;omega,?_,λkn kx=> ?_⟩
  ·simp only[bz,IM,e1,e2,aa,auk,aM,cS];rw[show r.length+1+(m - (k+1))=r.length+(m - (k+1)+1) by omega]
  ·rw[Pa,aT au,aI (aB _),dk au au,N.lh au,bK];rfl
 ·right;obtain rfl:k=m:=au;intro R kn kx;rw[Pa,aP au,ao];simp only[bz,IM,Int.sub_self,aW,de];rw[show GD id (k:Int).toNat 0=[] from rfl,bJ]
theorem aKg:JB.Ok:=by
 intro t hv;have hv:xx t:=hv;rw[aKf,UE (d:=t) hv,kX (d:=t) hv.1];simp only[ah,bz,ajB,bz,nG,bz,aap,gl];cases gb:gv t
 ·rfl
 ·obtain⟨⟨_,a2,a3,_⟩,b1,b2⟩:=iZ gb;have hl:=aAY (sX t) 0 t.2.1.length;rw[amW (d:=(0,t.2.1.length,0,sX t,[])) ⟨0,t.2.1.length,aK _,rfl,rfl,au,rfl,rfl⟩];simp only[bY,ao,bE,ah,bz,IM,jO,aa,aW,bm,aU];rw[aI ⟨by trivial,by rw[hl];exact aB _⟩,ak,eF hl]
theorem ajC:JB.RS:=rE [.d dz] JB
def ash:=JB.fI aKg 1 ⟨.eW asg,trivial⟩
def aFd:(List gK)->Prop:=λl=>l.length<=1000000
def ata:(List gK)->(Nat×(List gK)):=λl=>(l.length,l)
def aj0:Fs Tryz.prog aFd bz ata:=fu 123 Tryz.f123 (λsv=>([.d (.slice fo) sv],[])) (λx=>⟨.cg (.new 0 0) 0 [] 0 0 x.1,[],[.obj 0 aS (.vec 110 fo x.2)]⟩) [aj (.slice fo)] [] {bu:=[5],owns:=[⟨2,[],5,24⟩]}
theorem aLz(sv)(k:K1 R):aj0.A sv k=aG (decide (0 < (List.length sv))) (aG (dd (0+(List.length sv)) 80) (k (aj0.out ((0+(List.length sv)),((aJ 0 (ae 0 (((ae 32 0),(0,())),((0,(([]:List Sg),(0,()))),()))))++sv)))) aF) (nd (k (aj0.out (0,([]:List gK)))) (aG (dd (0+(List.length sv)) 80) (k (aj0.out ((0+(List.length sv)),((aJ 0 (ae 0 (((ae 32 0),(0,())),((0,(([]:List Sg),(0,()))),()))))++sv)))) aF)):=cf
theorem aLA:aj0.Ok:=by
 intro l hl;have hl:l.length<=1000000:=hl;have hr:dd l.length 80=aL:=dk au au;rw[aLz];simp only[aU,hr,ak,fe,bm,bz,ata];by_cases h:0 < l.length
 ·simp only[aI h,ak]
 ·have:l=[]:=bD au;subst this;simp only[bq,HX,aN (gQ 0),ao]
theorem aFe:aj0.RS:=rE [.d (.slice fo)] aj0
def aLB:=aj0.fI aLA
def azL:(List gX)->Prop:=λl=>l.length<=1000000
def aj1:(List gX)->(Nat×(List gX)):=λl=>(l.length,l)
def RD:Fs Tryz.prog azL bz aj1:=fu 124 Tryz.f124 (λsv=>([.d (.slice fJ) sv],[])) (λx=>⟨.cg (.new 0 0) 0 [] 0 0 x.1,[],[.obj 0 aS (.vec 45 fJ x.2)]⟩) [aj (.slice fJ)] [] {bu:=[5],owns:=[⟨2,[],5,22⟩]}
theorem aFf(sv)(k:K1 R):RD.A sv k=aG (decide (0 < (List.length sv))) (aG (dd (0+(List.length sv)) 32) (k (RD.out ((0+(List.length sv)),((aJ 0 (ae 0 (0,((([]:List pZ),()),()))))++sv)))) aF) (nd (k (RD.out (0,([]:List gX)))) (aG (dd (0+(List.length sv)) 32) (k (RD.out ((0+(List.length sv)),((aJ 0 (ae 0 (0,((([]:List pZ),()),()))))++sv)))) aF)):=cf
theorem aFg:RD.Ok:=by
 intro l hl;have hl:l.length<=1000000:=hl;have hr:dd l.length 32=aL:=dk au au;rw[aFf];simp only[aU,hr,ak,fe,bm,bz,aj1];by_cases h:0 < l.length
 ·simp only[aI h,ak]
 ·have:l=[]:=bD au;subst this;simp only[bq,HX,aN (gQ 0),ao]
theorem azM:RD.RS:=rE [.d (.slice fJ)] RD
def aFh:=RD.fI aFg
def aFc:(List pZ)->Prop:=λl=>l.length<=1000000
def ajZ:(List pZ)->(Nat×(List pZ)):=λl=>(l.length,l)
def afR:Fs Tryz.prog aFc bz ajZ:=fu 58 Tryz.f58 (λsv=>([.d (.slice iS) sv],[])) (λx=>⟨.cg (.new 0 0) 0 [] 0 0 x.1,[],[.obj 0 aS (.vec 120 iS x.2)]⟩) [aj (.slice iS)] [] {bu:=[5],owns:=[⟨2,[],5,41⟩]}
theorem aLx(sv)(k:K1 R):afR.A sv k=aG (decide (0 < (List.length sv))) (aG (dd (0+(List.length sv)) 48) (k (afR.out ((0+(List.length sv)),((aJ 0 (ae 0 (([]:List Int),(0,(0,(0,()))))))++sv)))) aF) (nd (k (afR.out (0,([]:List pZ)))) (aG (dd (0+(List.length sv)) 48) (k (afR.out ((0+(List.length sv)),((aJ 0 (ae 0 (([]:List Int),(0,(0,(0,()))))))++sv)))) aF)):=cf
theorem aLy:afR.Ok:=by
 intro l hl;have hl:l.length<=1000000:=hl;have hr:dd l.length 48=aL:=dk au au;rw[aLx];simp only[aU,hr,ak,fe,bm,bz,ajZ];by_cases h:0 < l.length
 ·simp only[aI h,ak]
 ·have:l=[]:=bD au;subst this;simp only[bq,HX,aN (gQ 0),ao]
theorem an6:afR.RS:=rE [.d (.slice iS)] afR
def axw:=afR.fI aLy
def azN:(List Sg)->Prop:=λl=>l.length<=1000000
def aj2:(List Sg)->(List Sg):=λl=>l
def RE:Fs Tryz.prog azN bz aj2:=fu 125 Tryz.f125 (λsv=>([.d (.slice xn) sv],[])) (λx=>⟨.d (.slice xn) x,[],[]⟩) [aj (.slice xn)] [] {bu:=[5],res:=[aj (.slice xn)]}
theorem aFi(sv)(k:K1 R):RE.A sv k=aG (decide (0 < (List.length sv))) (aG (dd (0+(List.length sv)) 16) (aG (decide (0=0/\(0+(0+(List.length sv)))<=(List.length ((aJ 0 (ae 0 (0,(0,()))))++sv)))) (k (RE.out (cut ((aJ 0 (ae 0 (0,(0,()))))++sv) 0 (0+(List.length sv))))) aF) aF) (nd (k (RE.out ([]:List Sg))) (aG (dd (0+(List.length sv)) 16) (aG (decide (0=0/\(0+(0+(List.length sv)))<=(List.length ((aJ 0 (ae 0 (0,(0,()))))++sv)))) (k (RE.out (cut ((aJ 0 (ae 0 (0,(0,()))))++sv) 0 (0+(List.length sv))))) aF) aF)):=cf
theorem aFj:RE.Ok:=by
 intro l hl;have hl:l.length<=1000000:=hl;have hr:dd l.length 16=aL:=dk au au;rw[aFi];simp only[aU,hr,ak,fe,bm,aB,ji,cG,eF,bz,aj2];by_cases h:0 < l.length
 ·simp only[aI h,ak]
 ·have:l=[]:=bD au;subst this;simp only[bq,HX,aN (gQ 0),ao]
theorem azO:RE.RS:=rE [.d (.slice xn)] RE
def aFk:=RE.fI aFj
abbrev IK:=Int×Int×Nat×Nat×(Int×Unit)×(Int×Unit)×(List gK)×(List gX)
def Ma:IK->(List gK)->((Nat×Nat×(Int×Unit)×(Int×Unit)×(List gX))×((List gK))):=λ(t17,t18,aMI,acr,n1,n2,n9,auq) y=>((aMI,acr,n1,n2,auq),y)
abbrev Uz:=Int×Int×Nat×Nat×(Int×Unit)×(Int×Unit)×(List gK)×(List gX)
abbrev IL:=Int×Nat×Int×Int×Int×Int×Nat×Nat×(Int×Unit)×(Int×Unit)×(List gK)×(List gX)×(List pZ)
abbrev UD:=(List pZ)×(List pZ)
def Mb:IL->UD->((Int×Int×Int×Nat×Nat×(Int×Unit)×(Int×Unit)×(List gK)×(List gX))×((List pZ)×(List pZ))):=λ(kv,lL,z7,aeU,t51,t52,acs,acu,aur,uV,Qo,acp,aiI) y=>((kv,z7,aeU,acs,acu,aur,uV,Qo,acp),y)
def ae0:IK->Prop:=λ(m,i,L,L2,u,v,l,os)=>(l.length<=1000/\∀x∈l,x.2.1.2.1.length<=1000000)/\∃k:Nat,k<=l.length/\i=k/\m=l.length/\L=l.length
def Uy:IK->(List gK):=λ(m,i,L,L2,u,v,l,os)=>l
def ae4:IL->Prop:=λ(kv,L,m1,i1,m,i,L5,L6,u,v,ls,os,bs)=>(bs.length<=1000/\∀x∈bs,x.1.length<=1000000)/\∃k:Nat,k<=bs.length/\i=k/\m=bs.length/\L=bs.length
def UC:IL->UD:=λ(kv,L,m1,i1,m,i,L5,L6,u,v,ls,os,bs)=>(bs,bs)
def ae2:Uz->Prop:=λ(m,i,L3,L,u,v,ls,os)=>(os.length<=1000/\∀x∈os,x.2.1.1.length<=1000/\∀b∈x.2.1.1,b.1.length<=1000000)/\∃k:Nat,k<=os.length/\i=k/\m=os.length/\L=os.length
def UA:Uz->(Nat×Nat×(Int×Unit)×(Int×Unit)×(List gK)×(List gX)):=λ(m,i,L3,L,u,v,ls,os)=>(L3,L,u,v,ls,os)
def asd:cR->Prop:=λt=>gv t=aL
def ajA:cR->(Nat×((List gX)×(Int×Unit))×(List gK)):=λt=>(t.1.length,(t.2.1,t.2.2),t.1)
def mH:Ls ae0 Ma Uy:=te (λ(t17,t18,aMI,acr,n1,n2,n9,auq)=>⟨([bC,dP 1,dP 2]++aQ 14 ([.d ti t17,.d ti t18]++aQ 56 [])),[],([[],cJ (.pr (je 9 aMI) (.pr (je 12 acr) (.d (.pair ti .unit) n1))),cJ (.pr (.cT) (.pr (.cT) (.d (.pair ti .unit) n2)))]++bk 6 ([cJ (.vec 110 fo n9),[],[],cJ (.vec 45 fJ auq)]++bk 62 []))⟩) (λx=>(.exit 0,⟨([bC,dP 1,dP 2]++aQ 72 []),[],([[],cJ (.pr (je 9 x.1.1) (.pr (je 12 x.1.2.1) (.d (.pair ti .unit) x.1.2.2.1))),cJ (.pr (.cT) (.pr (.cT) (.d (.pair ti .unit) x.1.2.2.2.1)))]++bk 6 ([cJ (.vec 110 fo x.2),[],[],cJ (.vec 45 fJ x.1.2.2.2.2)]++bk 62 []))⟩))
def mI:Ls ae2 bz UA:=te (λ(t38,t39,apE,aiH,aHt,oJ,xY,aco)=>⟨([bC,dP 1,dP 2]++aQ 35 ([.d ti t38,.d ti t39]++aQ 35 [])),[],([[],cJ (.pr (je 9 apE) (.pr (je 12 aiH) (.d (.pair ti .unit) aHt))),cJ (.pr (.cT) (.pr (.cT) (.d (.pair ti .unit) oJ)))]++bk 6 ([cJ (.vec 110 fo xY),[],[],cJ (.vec 45 fJ aco)]++bk 62 []))⟩) (λx=>(.exit 2,⟨([bC,dP 1,dP 2]++aQ 72 []),[],([[],cJ (.pr (je 9 x.1) (.pr (je 12 x.2.1) (.d (.pair ti .unit) x.2.2.1))),cJ (.pr (.cT) (.pr (.cT) (.d (.pair ti .unit) x.2.2.2.1)))]++bk 6 ([cJ (.vec 110 fo x.2.2.2.2.1),[],[],cJ (.vec 45 fJ x.2.2.2.2.2)]++bk 62 []))⟩))
def mJ:Ls ae4 Mb UC:=te (λ(kv,lL,z7,aeU,t51,t52,acs,acu,aur,uV,Qo,acp,aiI)=>⟨([bC,dP 1,dP 2,bC,.d ti kv,je 49 lL]++aQ 32 ([.d ti z7,.d ti aeU]++aQ 11 ([.d ti t51,.d ti t52]++aQ 22 []))),[],([[],cJ (.pr (je 9 acs) (.pr (je 12 acu) (.d (.pair ti .unit) aur))),cJ (.pr (.cT) (.pr (.cT) (.d (.pair ti .unit) uV)))]++bk 6 ([cJ (.vec 110 fo Qo),[],[],cJ (.vec 45 fJ acp)]++bk 36 ([cJ (.vec 120 iS aiI)]++bk 25 [])))⟩) (λx=>(.exit 4,⟨([bC,dP 1,dP 2,bC,.d ti x.1.1,.d (.slice iS) x.2.1]++aQ 32 ([.d ti x.1.2.1,.d ti x.1.2.2.1]++aQ 35 [])),[],([[],cJ (.pr (je 9 x.1.2.2.2.1) (.pr (je 12 x.1.2.2.2.2.1) (.d (.pair ti .unit) x.1.2.2.2.2.2.1))),cJ (.pr (.cT) (.pr (.cT) (.d (.pair ti .unit) x.1.2.2.2.2.2.2.1)))]++bk 6 ([cJ (.vec 110 fo x.1.2.2.2.2.2.2.2.1),[],[],cJ (.vec 45 fJ x.1.2.2.2.2.2.2.2.2)]++bk 36 ([[.obj 0 aL (.vec 120 iS x.2.2)]]++bk 25 [])))⟩))
def mX:Fs Tryz.prog asd bz ajA:=fu 85 Tryz.f85 (λt=>([.d dz t],[])) (λx=>⟨.pr (.cg (.new 0 0) 0 [] 0 0 x.1) (.d (.pair (.slice fJ) (.pair ti .unit)) x.2.1),[],[.obj 0 aS (.vec 110 fo x.2.2)]⟩) [aj dz] [aLB,aFh,aFk,axw,VV] {bu:=[1],loops:=oI [(3,{aV:=[1,2,17,18],sites:=[1,2,9,12]}),(8,{aV:=[1,2,38,39],sites:=[1,2,9,12]}),(12,{aV:=[1,2,4,5,38,39,51,52],sites:=[1,2,9,12,49]})],outs:=oH [(3,{aV:=[1,2],sites:=[1,2,9,12]},{aV:=[2]}),(8,{aV:=[1,2],sites:=[1,2,9,12]},{aV:=[2]}),(12,{aV:=[1,2,4,5,38,39],sites:=[1,2,9,12,49],data:=[(5,(.slice iS))]},{aV:=[2]})],fE:=pW [(3,mH.E),(8,mI.E),(12,mJ.E)],PJ:=[⟨2,[.snd,.fst],(.slice fJ)⟩]}
theorem ae1:mH.RS:=rL [.d ti,.d ti,.n,.n,.d (.pair ti .unit),.d (.pair ti .unit),.d (.slice fo),.d (.slice fJ)] mH
theorem Jy(t17 t18 aMI acr n1 n2 n9 auq)(kn:K2 R)(kx:K3 R):mX.R 0 mH (t17,t18,aMI,acr,n1,n2,n9,auq) kn kx=aG (fL t18 t17) (aG (eE t18 ((aMI:Nat):Int)) (aG (decide ((0+(ab t18)) < (List.length n9))) (aG (decide ((((0+(ab t18))*36)+34)=(((0+((ab t18)*36))+33)+1))) (al (RE.call (nth fo n9 (0+(ab t18))).2.1.2.1) λx1=>aG (eE t18 ((aMI:Nat):Int)) (aG (decide ((0+(ab t18)) < (List.length n9))) (aG (decide ((((0+(ab t18))*36)+34)=(((0+((ab t18)*36))+33)+1))) (aG (decide ((0+(ab t18)) < (List.length n9))) (kn (mH.st (t17,(bA .i64 t18 1),aMI,acr,n1,n2,(dZ n9 (0+(ab t18)) ((nth fo n9 (0+(ab t18))).1,(((nth fo n9 (0+(ab t18))).2.1.1,(x1,(nth fo n9 (0+(ab t18))).2.1.2.2)),(nth fo n9 (0+(ab t18))).2.2))),auq))) aF) aF) aF) aF) aF) aF) aF) (mH.go kx ((aMI,acr,n1,n2,auq),n9)):=cf
theorem ae3:mI.RS:=rL [.d ti,.d ti,.n,.n,.d (.pair ti .unit),.d (.pair ti .unit),.d (.slice fo),.d (.slice fJ)] mI
theorem Jz(t38 t39 apE aiH aHt oJ xY aco)(kn:K2 R)(kx:K3 R):mX.R 1 mI (t38,t39,apE,aiH,aHt,oJ,xY,aco) kn kx=aG (fL t39 t38) (aG (eE t39 ((aiH:Nat):Int)) (aG (decide ((0+(ab t39)) < (List.length aco))) (aG (decide ((((0+(ab t39))*2)+1)=(((0+((ab t39)*2))+1)+0))) (al (afR.call (nth fJ aco (0+(ab t39))).2.1.1) λx1=>al (mJ.call (t39,x1.1,t38,t39,((x1.1:Nat):Int),0,apE,aiH,aHt,oJ,xY,aco,x1.2)) λx2=>aG (eE x2.1.1 ((x2.1.2.2.2.2.1:Nat):Int)) (aG (decide ((0+(ab x2.1.1)) < (List.length x2.1.2.2.2.2.2.2.2.2))) (aG (decide ((((0+(ab x2.1.1))*2)+1)=(((0+((ab x2.1.1)*2))+1)+0))) (aG (decide ((0+(ab x2.1.1)) < (List.length x2.1.2.2.2.2.2.2.2.2))) (kn (mI.st (x2.1.2.1,(bA .i64 x2.1.2.2.1 1),x2.1.2.2.2.1,x2.1.2.2.2.2.1,x2.1.2.2.2.2.2.1,x2.1.2.2.2.2.2.2.1,x2.1.2.2.2.2.2.2.2.1,(dZ x2.1.2.2.2.2.2.2.2.2 (0+(ab x2.1.1)) ((nth fJ x2.1.2.2.2.2.2.2.2.2 (0+(ab x2.1.1))).1,((x2.2.1,(nth fJ x2.1.2.2.2.2.2.2.2.2 (0+(ab x2.1.1))).2.1.2),(nth fJ x2.1.2.2.2.2.2.2.2.2 (0+(ab x2.1.1))).2.2)))))) aF) aF) aF) aF) aF) aF) aF) (mI.go kx (apE,aiH,aHt,oJ,xY,aco)):=cf
theorem ae5:mJ.RS:=rL [.d ti,.n,.d ti,.d ti,.d ti,.d ti,.n,.n,.d (.pair ti .unit),.d (.pair ti .unit),.d (.slice fo),.d (.slice fJ),.d (.slice iS)] mJ
theorem JA(kv lL z7 aeU t51 t52 acs acu aur uV Qo acp aiI)(kn:K2 R)(kx:K3 R):mX.R 2 mJ (kv,lL,z7,aeU,t51,t52,acs,acu,aur,uV,Qo,acp,aiI) kn kx=aG (fL t52 t51) (aG (eE t52 ((lL:Nat):Int)) (aG (decide ((0+(ab t52)) < (List.length aiI))) (aG (decide ((((0+(ab t52))*4)+0)=((0+((ab t52)*4))+0))) (al (Dq.call (nth iS aiI (0+(ab t52))).1) λx1=>aG (eE t52 ((lL:Nat):Int)) (aG (decide ((0+(ab t52)) < (List.length aiI))) (aG (decide ((((0+(ab t52))*4)+0)=((0+((ab t52)*4))+0))) (aG (decide ((0+(ab t52)) < (List.length aiI))) (kn (mJ.st (kv,lL,z7,aeU,t51,(bA .i64 t52 1),acs,acu,aur,uV,Qo,acp,(dZ aiI (0+(ab t52)) (x1,(nth iS aiI (0+(ab t52))).2))))) aF) aF) aF) aF) aF) aF) aF) (aG (decide (0=0/\(0+lL)<=(List.length aiI))) (mJ.go kx ((kv,z7,aeU,acs,acu,aur,uV,Qo,acp),((cut aiI 0 lL),aiI))) aF):=cf
theorem awF(t)(k:K1 R):mX.A t k=al (aj0.call t.1) λx1=>al (RD.call t.2.1) λx2=>al (mH.call (((x1.1:Nat):Int),0,x1.1,x2.1,t.2.2,(0,()),x1.2,x2.2)) λx4=>al (mI.call (((x4.1.2.1:Nat):Int),0,x4.1.1,x4.1.2.1,x4.1.2.2.1,x4.1.2.2.2.1,x4.2,x4.1.2.2.2.2)) λx8=>aG (decide (0=0/\(0+x8.2.1)<=(List.length x8.2.2.2.2.2))) (k (mX.out (x8.1,((cut x8.2.2.2.2.2 0 x8.2.1),x8.2.2.1),x8.2.2.2.2.1))) aF:=cf
theorem ahc:(mX.kA 0 mH):=by
 refine(mX.nN 0 mH) (λ(m,i,L,L2,u,v,l,os)=>l.length - ab i) ?_
 rintro⟨m,i,L,L2,u,v,l,os⟩ ⟨⟨hlen,hx⟩,k,hk,rfl,rfl,rfl⟩;have hlen:l.length<=1000:=hlen;have hk:k<=l.length:=hk;by_cases h:k < l.length
 ·left;have n1:nth fo l k=l[k]:=cj (t:=fo) h;have hs:l.set k l[k]=l:=iP h;have e:=hx _ (aR h);refine⟨((l.length:Int),((k+1:Nat):Int),l.length,L2,u,v,l,os),⟨⟨hlen,hx⟩,k+1,au,rfl,rfl,rfl⟩,by simp only[aa];omega,rfl,λkn kx=> ?_⟩;rw[Jy,aT au,aZ au au];simp only[aa,aU,de,fk,Nat.reduceAdd,ak,aI h,cG,n1];rw[azO (d:=l[k].2.1.2.1) e];simp only[ah,bz,aj2];rw[N.lh au];exact congrArg (λz=>kn (mH.st (_,_,_,_,_,_,z,_))) hs
 ·right;obtain rfl:k=l.length:=au;intro R kn kx;rw[Jy,aP au,ao];rfl
theorem ahe:(mX.kA 2 mJ):=by
 refine(mX.nN 2 mJ) (λ(kv,L,m1,i1,m,i,L5,L6,u,v,ls,os,bs)=>bs.length - ab i) ?_
 rintro⟨kv,L,m1,i1,m,i,L5,L6,u,v,ls,os,bs⟩ ⟨⟨hlen,hx⟩,k,hk,rfl,rfl,rfl⟩;have hlen:bs.length<=1000:=hlen;have hk:k<=bs.length:=hk;by_cases h:k < bs.length
 ·left;have n1:nth iS bs k=bs[k]:=cj (t:=iS) h;have hs:bs.set k bs[k]=bs:=iP h;have e:=hx _ (aR h);refine⟨(kv,bs.length,m1,i1,(bs.length:Int),((k+1:Nat):Int),L5,L6,u,v,ls,os,bs),⟨⟨hlen,hx⟩,k+1,au,rfl,rfl,rfl⟩,by simp only[aa];omega,rfl,λkn kx=> ?_⟩;rw[JA,aT au,aZ au au];simp only[aa,aU,de,fk,Nat.reduceAdd,ak,aI h,cG,n1];rw[Qx (d:=bs[k].1) e];simp only[ah,bz,S6];rw[N.lh au];exact congrArg (λz=>kn (mJ.st (_,_,_,_,_,_,_,_,_,_,_,_,z))) hs
 ·right;obtain rfl:k=bs.length:=au;intro R kn kx;rw[JA,aP au,ao];simp only[aU,aB,ji,cG,ak,eF];rfl
theorem ahd:(mX.kA 1 mI):=by
 refine(mX.nN 1 mI) (λ(m,i,L3,L,u,v,ls,os)=>os.length - ab i) ?_
 rintro⟨m,i,L3,L,u,v,ls,os⟩ ⟨⟨hlen,hx⟩,k,hk,rfl,rfl,rfl⟩;have hlen:os.length<=1000:=hlen;have hk:k<=os.length:=hk;by_cases h:k < os.length
 ·left;have n1:nth fJ os k=os[k]:=cj (t:=fJ) h;have hs:os.set k os[k]=os:=iP h;have e:=hx _ (aR h);refine⟨((os.length:Int),((k+1:Nat):Int),L3,os.length,u,v,ls,os),⟨⟨hlen,hx⟩,k+1,au,rfl,rfl,rfl⟩,by simp only[aa];omega,rfl,λkn kx=> ?_⟩;rw[Jz,aT au,aZ au au];simp only[aa,aU,de,fk,Nat.reduceAdd,ak,aI h,cG,n1];rw[an6 (d:=os[k].2.1.1) (by show os[k].2.1.1.length<=_;have:=e.1;omega)];simp only[ah,bz,ajZ];rw[ae5 (d:=((k:Int),os[k].2.1.1.length,(os.length:Int),(k:Int),(os[k].2.1.1.length:Int),0,L3,os.length,u,v,ls,os,os[k].2.1.1)) ⟨e,0,aK _,rfl,rfl,rfl⟩];simp only[ah,Mb,UC,aa,n1,ak,aI h,aZ (show(0:Int)<=(k:Int) by omega) (show(k:Int) < (os.length:Int) by omega)];rw[N.lh au];exact congrArg (λz=>kn (mI.st (_,_,_,_,_,_,_,z))) hs
 ·right;obtain rfl:k=os.length:=au;intro R kn kx;rw[Jz,aP au,ao];rfl
theorem abY{l:Lk}(h:lk l=aL):l.1.length<=4/\∀b∈l.1,b.1.length<=12:=by unfold lk at h;simp only[ax,bQ,bO]at h;refine⟨h.2.2,λb hb=> ?_⟩;have:=h.1 b hb;unfold xp at this;simp only[ax,bO]at this;exact this.1
theorem awG:mX.Ok:=by
 rintro⟨is,os,nt,u⟩ gb;obtain⟨⟨_,a2,a3,_⟩,b1,b2⟩:=iZ gb;have a2:is.length<=64:=a2;have a3:os.length<=64:=a3;rw[awF,aFe (d:=is) (by show is.length<=_;omega),azM (d:=os) (by show os.length<=_;omega)];simp only[ah,bz,ata,bz,aj1];rw[ae1 (d:=(is.length,0,is.length,os.length,(nt,u),(0,()),is,os)) ⟨⟨by show is.length<=_;omega,λx hx=>by have:=(C3 (nj _ _ b1 x hx)).2.2.2.2;omega⟩,0,aK _,rfl,rfl,rfl⟩];simp only[ah,Ma,Uy];rw[ae3 (d:=(os.length,0,is.length,os.length,(nt,u),(0,()),is,os)) ⟨⟨by show os.length<=_;omega,λx hx=>by
  have:=abY (kK _ _ b2 x hx).2;exact⟨au,λb hb=>by have:=this.2 b hb;omega⟩⟩,0,aK _,rfl,rfl,rfl⟩]
 simp only[ah,bz,UA,aU,aB,ji,cG,ak,eF];rfl
theorem ase:mX.RS:=rE [.d dz] mX
def awH:=mX.fI awG 3 ⟨.eW ahc,⟨.eW ahd,⟨.eW ahe,trivial⟩⟩⟩
theorem TD(x:Int)(m:Int):∀k:Nat,(x%m)^k%m=x^k%m
 | 0=>by rw[lI,lI]
 |k+1=>by rw[fO,fO,jN,TD x m k,hH _ (rz m),<-jN]
theorem aRk(a:Int)(k:Nat):(a*a)^k=a^(2*k):=by rw[Int.pow_mul,fO,fO,lI,Int.one_mul]
theorem aIY:∀(f:Nat) (a:Int) (n:Nat) (out:Int),n < 2^f->Pn out->anD f a n out=out*a^n%4611686018427377339
 | 0,a,n,out,h,ho=>by obtain rfl:n=0:=au;rw[DC,lI,zA,fM ho.1 ho.2]
 |f+1,a,n,out,h,ho=>by
  have e:(2:Nat)^(f+1)=2^f*2:=Nat.pow_succ 2 f;rw[anD];split
  ·rename_i h0;subst h0;rw[lI,zA,fM ho.1 ho.2]
  ·have hp:Pn (if n%2=1 then qR out a else out):=by
    split
    ·exact yM _ _
    ·exact ho
   rw[aIY f _ _ _ au hp,jN];have e1:(qR a a)^(n / 2)%4611686018427377339=a^(2*(n / 2))%4611686018427377339:=by unfold qR;rw[TD,aRk]
   have e2:(if n%2=1 then qR out a else out)%4611686018427377339=(out*a^(n%2))%4611686018427377339:=by
    split
    ·rename_i h1;rw[h1,fO,lI,Int.one_mul];exact hH _ (rz _)
    ·have h1:n%2=0:=au;rw[h1,lI,zA]
   rw[e1,e2,<-jN,th,<-Int.pow_add];have e3:n%2+2*(n / 2)=n:=au;rw[e3]
theorem adJ(a:Int)(n:Nat)(h:n < 18446744073709551616):pw a n=a^n%4611686018427377339:=by unfold pw;rw[aIY 64 a n 1 h ⟨au,au⟩,Int.one_mul]
theorem one_pow(k:Nat):(1:Int)^k=1:=Int.one_pow
theorem aI0(a:Int)(k q:Nat)(hk:k < 18446744073709551616)(hq:q < 18446744073709551616)(h:pw a q=1):pw (pw a k) q=1:=by rw[adJ _ _ hq]at h;rw[adJ _ _ hq,adJ _ _ hk,TD,<-Int.pow_mul,Nat.mul_comm,Int.pow_mul,<-TD,h,one_pow];rfl
theorem aia:pw 4 2305843009213688669=1:=by decide+kernel
theorem aBi:pw 1 2305843009213688669=1:=by decide+kernel
theorem aMr:xG 4=aL:=by rw[xG,aia];rfl
theorem SC:xG 1=aL:=by rw[xG,aBi];rfl
theorem aMP:apR 1=1:=by
 have e:pw 1 2305843009213688668=1:=by decide+kernel
 rw[apR,tk,SC];exact e
theorem alW{a:Int}(h:Pn a)(q:Nat)(hq:0 < q)(Vp:q < 18446744073709551616)(hp:pw a q=1):0 < a:=by
 rcases Int.lt_or_eq_of_le h.1 with h0 | h0
 ·exact h0
 ·subst h0;rw[adJ _ _ Vp,Int.zero_pow au]at hp;cases hp
theorem aQv{a:Int}(h:Pn a)(hp:pw a 2305843009213688669=1):xG a=aL:=by have h0:=alW h 2305843009213688669 eG eG hp;rw[xG,hp,qD ⟨h0,h.2⟩];rfl
theorem aAE{a:Int}(h:xG a=aL):pw a 2305843009213688669=1/\Pn a:=by rw[xG,ax,bO,bO]at h;exact⟨h.2,au,h.1.2⟩
theorem aQw{a:Int}(h:xG a=aL)(k:Nat)(hk:k < 18446744073709551616):xG (pw a k)=aL:=aQv (aqT _ _) (aI0 a k _ hk eG (aAE h).1)
theorem aQx(a:Int):xG (tk a)=aL:=by
 unfold tk;cases h:xG a
 ·exact SC
 ·exact h
theorem aAF(p k:Int):xG (IF p k)=aL:=aQw (aQx p) _ au
theorem ae7{a:Int}(h:xG a=aL):tk a=a:=by rw[tk,h];rfl
theorem abP(k:Int):xG (gj k)=aL:=aAF 4 k
theorem apD{a:Int}(h:Pn a):qR a 1=a:=by rw[qR,zA,fM h.1 h.2]
def pm(m:Nat):Nat->Nat->Nat->Nat->Nat
 | 0,_,_,out=>out%m
 |f+1,a,n,out=>if n=0 then out%m else pm m f (a*a%m) (n / 2) (if n%2=1 then out*a%m else out)
theorem aPb(m:Nat):∀(f a n out:Nat),n < 2^f->pm m f a n out=out*a^n%m
 | 0,a,n,out,h=>by obtain rfl:n=0:=au;rw[pm,Nat.pow_zero,hZ]
 |f+1,a,n,out,h=>by
  have e:(2:Nat)^(f+1)=2^f*2:=Nat.pow_succ (n:=2) (m:=f);rw[pm];split
  ·rename_i h0;subst h0;rw[Nat.pow_zero,hZ]
  ·rw[aPb m f _ _ _ au,lN];have e1:(a*a%m)^(n / 2)%m=a^(2*(n / 2))%m:=by rw[<-Nat.pow_mod,Nat.pow_mul,Nat.pow_two]
   have e2:(if n%2=1 then out*a%m else out)%m=(out*a^(n%2))%m:=by
    split
    ·rename_i h1;rw[h1,Nat.pow_one,Nat.mod_mod]
    ·have h1:n%2=0:=au;rw[h1,Nat.pow_zero,hZ]
   rw[e1,e2,<-lN,Nat.mul_assoc,<-qp];have e3:n%2+2*(n / 2)=n:=au;rw[e3]
theorem aGu:∀(r q:Nat) (f:Nat->Nat),(∀i,i < q->f i < r)->(∀i j,i < j->j < q->f i≠f j)->q<=r
 | 0,q,f,h,_=>by
  rcases Nat.eq_zero_or_pos q with h0 | h0
  ·omega
  ·exact absurd (h 0 h0) (jG _)
 |r+1,q,f,h,g=>by
  by_cases hx:∃i,i < q/\f i=r
  ·obtain⟨i,hi,hr⟩:=hx;have e:=aGu r (q - 1) (λj=>if j < i then f j else f (j+1)) (λj hj=>by
    by_cases h1:j < i
    ·have a:=h j au;have b:=g j i h1 hi;simp only[h1,bE];omega
    ·have a:=h (j+1) au;have b:=g i (j+1) au au;simp only[h1,bp];omega) (λj k aXP hk=>by
    by_cases h1:j < i
    ·by_cases h2:k < i
     ·simp only[h1,h2,bE];exact g j k aXP au
     ·simp only[h1,h2,bE,bp];exact g j (k+1) au au
    ·have h2:¬k < i:=au;simp only[h1,h2,bp];exact g (j+1) (k+1) au au)
   omega
  ·have e:=aGu r q f (λi hi=>by
    have a:=h i hi;have b:f i≠r:=λx=>hx ⟨i,hi,x⟩
    omega) g
   omega
theorem ayL(a m:Nat)(h1:1%m=1):∀i j:Nat,a^i%m=1->a^j%m=1->a^(Nat.gcd i j)%m=1:=by
 intro i
 induction i using Nat.strongRecOn with
 |ind i ih=>
  intro j hi hj;rcases Nat.eq_zero_or_pos i with h0 | h0
  ·subst h0;rw[Nat.gcd_zero_left];exact hj
  ·rw[Nat.gcd_rec];refine ih (j%i) (Nat.mod_lt _ h0) i ?_ hi
   have e:a^j=(a^i)^(j / i)*a^(j%i):=by rw[<-Nat.pow_mul,<-qp,Nat.div_add_mod]
   rw[e,lN,Nat.pow_mod,hi,Nat.one_pow,h1,vf,Nat.mod_mod]at hj;exact hj
def aEv(n:Nat):Prop:=∀d,d∣n->d=1\/d=n
theorem ayN{n k:Nat}(h:aEv n)(h0:0 < k)(hk:k < n):Nat.gcd k n=1:=by
 rcases h _ (Nat.gcd_dvd_right k n) with h1 | h1
 ·exact h1
 ·have:=Nat.le_of_dvd h0 (Nat.gcd_dvd_left k n);omega
theorem apX{n:Nat}(hn:1 < n)(h:∀r,1 < r->r*r<=n->¬r∣n):aEv n:=by
 intro d hd;obtain⟨e,he⟩:=hd;have aYR:0 < d:=Nat.pos_of_ne_zero (by intro x;rw[x,Nat.zero_mul]at he;omega);have aih:0 < e:=Nat.pos_of_ne_zero (by intro x;rw[x,Nat.mul_zero]at he;omega);by_cases h1:d=1
 ·exact .inl h1
 by_cases h2:e=1
 ·right;rw[he,h2,hZ]
 exfalso;rcases Nat.le_total d e with hle | hle
 ·exact h d au (by rw[he];exact Nat.mul_le_mul_left d hle) ⟨e,he⟩
 ·exact h e au (by rw[he];exact Nat.mul_le_mul_right e hle) ⟨d,by rw[he,Nat.mul_comm]⟩
theorem aQ0{n q b:Nat}(hn:1 < n)(hq:aEv q)(aS6:1 < q)(aU8:n < q*q)(hb:b^q%n=1)(hg:Nat.gcd (b - 1) n=1)(aWp:0 < b):aEv n:=by
 refine apX hn λr hr aX8 aAx=> ?_
 have aWj:1%r=1:=nc hr;have aWq:b^q%r=1:=by have:=Nat.mod_mod_of_dvd (b^q) aAx;rw[<-this,hb,aWj]
 have kJ:b%r≠1:=by
  intro hx;have hd:r∣b - 1:=by have e:=Nat.dvd_sub_mod (n:=r) b;rw[hx]at e;exact e
  have:=Nat.dvd_gcd hd aAx;rw[hg]at this;have:=Nat.le_of_dvd au this;omega
 have key:q<=r:=by
  refine aGu r q (λi=>b^i%r) (λi _=>Nat.mod_lt _ au) λi j aYU hj he=> ?_
  have e1:b^(j - i)%r=1:=by
   have x1:b^(q - i)*b^i%r=b^(q - i)*b^j%r:=by rw[lN,he,<-lN]
   rw[<-qp,<-qp,show q - i+i=q by omega,show q - i+j=q+(j - i) by omega,qp,lN,aWq,vf,Nat.mod_mod]at x1;exact x1.symm
  have e2:=ayL b r aWj (j - i) q e1 aWq;rw[ayN hq au au,Nat.pow_one]at e2;exact kJ e2
 have:q*q<=r*r:=Nat.mul_le_mul key key;omega
def aHC(n:Nat):Nat->Bool
 | 0=>aL
 |k+1=>n%(k+2) !=0 && aHC n k
theorem apV(n:Nat):∀k,aHC n k=aL->∀d,1 < d->d<=k+1->¬d∣n
 | 0,_,d,h1,h2=>au
 |k+1,h,d,h1,h2=>by
  rw[aHC,ax]at h;by_cases hd:d=k+2
  ·intro hx;have:=Nat.mod_eq_zero_of_dvd hx;rw[hd]at this;rw[this]at h;exact absurd h.1 eG
  ·exact apV n k h.2 d h1 au
theorem aVz:aEv 7930907:=by
 refine apX eG λr hr aX8=>apV 7930907 2820 (by decide+kernel) r hr ?_
 apply Nat.le_of_not_lt;intro h;have:2822*2822<=r*r:=Nat.mul_le_mul au au;omega
theorem TE{n q:Nat}(a e:Nat)(hq:aEv q)(aS6:1 < q)(hn:1 < n)(aU8:n < q*q)(he:e < 2^64)(Vp:q < 2^64)(h1:pm n 64 (pm n 64 a e 1) q 1=1)(h2:Nat.gcd (pm n 64 a e 1 - 1) n=1)(h3:0 < pm n 64 a e 1):aEv n:=by generalize pm n 64 a e 1=b at*;rw[aPb _ _ _ _ _ Vp,vf]at h1;exact aQ0 hn hq aS6 aU8 h1 h2 h3
theorem aVy:aEv 11864636873:=TE (q:=7930907) 2 1496 aVz eG eG eG eG eG (by decide+kernel) (by decide+kernel) (by decide+kernel)
theorem aVx:aEv 1732236983459:=TE (q:=11864636873) 2 146 aVy eG eG eG eG eG (by decide+kernel) (by decide+kernel) (by decide+kernel)
theorem aVw:aEv 249442125618097:=TE (q:=1732236983459) 2 144 aVx eG eG eG eG eG (by decide+kernel) (by decide+kernel) (by decide+kernel)
theorem aVA:aEv 2305843009213688669:=TE (q:=249442125618097) 2 9244 aVw eG eG eG eG eG (by decide+kernel) (by decide+kernel) (by decide+kernel)
def gP(n:Nat):Int:=((4^n%4611686018427377339:Nat):Int)
theorem agu(a m q:Nat)(h1:1%m=1)(h:a^q%m=1)(n:Nat):a^(n%q)%m=a^n%m:=by
 have e:a^n=(a^q)^(n / q)*a^(n%q):=by rw[<-Nat.pow_mul,<-qp,Nat.div_add_mod]
 rw[e,lN,Nat.pow_mod (a^q),h,Nat.one_pow,h1,vf,Nat.mod_mod]
theorem aOx:∀q:Nat,q=2305843009213688669->4^q%4611686018427377339=1:=by
 intro q hq;have h:=aia;rw[adJ _ _ eG]at h;rw[<-hq]at h;have e:(((4^q%4611686018427377339:Nat)):Int)=1:=by rw[rG,lu];exact h
 omega
theorem akE(n:Nat):gP (n%2305843009213688669)=gP n:=by unfold gP;obtain⟨q,hq⟩:∃q:Nat,q=2305843009213688669:=⟨_,rfl⟩;rw[<-hq,agu 4 4611686018427377339 q eG (aOx q hq)]
theorem aSt(n:Nat)(h:n < 18446744073709551616):pw 4 n=gP n:=by rw[adJ _ _ h];unfold gP;rw[rG,lu];rfl
theorem aGh(k:Int)(h:0<=k):(k%2305843009213688669).toNat=k.toNat%2305843009213688669:=au
theorem ZS(k:Int)(h:0<=k):gj k=gP k.toNat:=by show pw (tk 4) _=_;rw[ae7 aMr,aSt _ au,aGh k h,akE]
theorem aL0(n:Nat):gP n=gj n:=by rw[ZS _ au,aa]
theorem abq(n:Nat):xG (gP n)=aL:=by rw[aL0];exact abP _
theorem atC(a b:Nat):qR (gP a) (gP b)=gP (a+b):=by unfold qR gP;rw[<-pf,qp];have e:(4611686018427377339:Int)=((4611686018427377339:Nat):Int):=rfl;rw[e,<-rG,<-lN]
theorem aGi(a:Nat)(c:Int)(h:0<=c):IF (gP a) c=gP (a*c.toNat):=by
 show pw (tk (gP a)) _=_;rw[ae7 (abq a),adJ _ _ au,aGh c h];obtain⟨b,hb⟩:∃b:Nat,b=c.toNat:=⟨_,rfl⟩;rw[<-hb];obtain⟨d,hd⟩:∃d:Nat,d=b%2305843009213688669:=⟨_,rfl⟩;have hx:gP (a*b)=gP (a*d):=by rw[<-akE (a*b),<-akE (a*d),lN a b,lN a d,hd,Nat.mod_mod]
 rw[hx,<-hd];unfold gP;have e:(4611686018427377339:Int)=((4611686018427377339:Nat):Int):=rfl;rw[e,<-lu,<-rG,<-Nat.pow_mod,<-Nat.pow_mul]
theorem axO:gP 0=1:=eG
theorem aSs{n:Nat}(h:0 < n)(hn:n < 2305843009213688669):gP n≠1:=by intro he;unfold gP at he;have he:4^n%4611686018427377339=1:=au;obtain⟨q,hq⟩:∃q:Nat,q=2305843009213688669:=⟨_,rfl⟩;have e:=ayL 4 4611686018427377339 eG n q he (aOx q hq);rw[ayN (by rw[hq];exact aVA) h au]at e;exact absurd e eG
theorem aNT(k:Int)(m:List Int)(h0:0 < k)(hq:k < 2305843009213688669):CP (gj k) m 1 (mq k m)=aL:=by
 obtain⟨kn,hk⟩:∃kn:Nat,kn=k.toNat:=⟨_,rfl⟩;have hb:gj k=gP kn:=by rw[hk];exact ZS k au
 have hn:=abo (aJ9 auu [jA k,m]);unfold mq aHD;rw[if_pos ⟨hq,au⟩];obtain⟨n,kJ⟩:∃n,Se (aJ9 auu [jA k,m])=n:=⟨_,rfl⟩;rw[kJ]at hn ⊢;unfold ajP;have hr:ZO [gj n,1]=gP n.toNat:=by show qR (qR 1 (tk (gj n))) (tk 1)=_;rw[ae7 (abP n),ae7 SC,apD (yM _ _),ZS n au,<-axO,atC,aU]
 rw[hr,hb];have hc:=aaM (gP n.toNat) (gP kn) m;obtain⟨c,aQc⟩:∃c,I4 (gP n.toNat) (gP kn) m=c:=⟨_,rfl⟩;rw[aQc]at hc ⊢;have ha:=axc n (ale c k);have h1:=hc.1;have h2:=ha.1;have h3:=ha.2;unfold CP;rw[if_neg (by
  intro h;rcases h with h | h | h | h | h
  ·exact aSs au au h
  ·rw[abq]at h;cases h
  ·rw[SC]at h;cases h
  ·have h:xG (gP n.toNat)=aS:=h;rw[abq]at h;cases h
  ·exact h h3)]
 have e:gj (asS n (ale c k))=ZO [gP n.toNat,IF (gP kn) c,apR 1]:=by
  show _=qR (qR (qR 1 (tk (gP n.toNat))) (tk (IF (gP kn) c))) (tk (apR 1));rw[aMP,ae7 SC,apD (yM _ _),ae7 (abq _),aGi _ _ h1,ae7 (abq _)];rw[show(qR 1 (gP n.toNat))=gP n.toNat by rw[<-axO,atC,aU]];rw[atC,ZS _ h2];have hx:(asS n (ale c k)).toNat=(n.toNat+kn*c.toNat)%2305843009213688669:=by
   unfold asS ale aHK;have g1:c%2305843009213688669=c:=fM h1 hc.2;have g2:k%2305843009213688669=k:=fM au hq;have g3:n%2305843009213688669=n:=fM au hn.2;rw[g1,g2,g3,hH _ (rz _)];have g4:((kn*c.toNat:Nat):Int)=c*k:=by rw[pf,hk,Int.toNat_of_nonneg au,Int.toNat_of_nonneg h1,vV]
   have g5:0<=c*k:=by rw[<-g4];exact kD _
   obtain⟨z,hz⟩:∃z,c*k=z:=⟨_,rfl⟩;rw[hz]at g4 g5 ⊢;obtain⟨zn,aYh⟩:∃zn,kn*c.toNat=zn:=⟨_,rfl⟩;rw[aYh]at g4 ⊢;omega
  rw[hx,akE]
 show decide (gj (asS n (ale c k))=ZO [gP n.toNat,IF (gP kn) (I4 (gP n.toNat) (gP kn) m),apR 1])=aL;rw[aQc];exact qD e
def Ka{α:Type}(p:α->Bool):List α->Int->Int⊕Unit
 |[],_=> .inr ()
 |x::xs,i=>if p x then .inl i else Ka p xs (i+1)
def ao4{α:Type}(p:α->Bool)(l:List α):Int:=match Ka p l 0 with | .inl i=>i | .inr _=> -1
theorem ao5{α:Type}(p:α->Bool):∀(l:List α) (i:Int),0<=i->(match Ka p l i with | .inl i=>decide (i>=0) | .inr _=>aS)=l.any p
 |[],_,_=>rfl
 |x::l,i,h=>by
  rw[Ka,yw];cases hp:p x
  ·simp only[bw,bp,pA];exact ao5 p l (i+1) au
  ·simp[h]
theorem abF{α:Type}(p:α->Bool)(l:List α):D4 (ao4 p l) 0=l.any p:=by
 have:=ao5 p l 0 au;unfold ao4 D4;cases h:Ka p l 0
 ·rw[h]at this;exact this
 ·rw[h]at this;rw[<-this];rfl
def Rv(k:Int):Bool:=decide (¬(k < 2305843009213688669/\k≠0))
def IG(t:cR)(i br:Int)(ks:List Int):Bool:=gv t && (decide (0<=i/\i < t.1.length/\0<=br/\br < 4/\ks.length<=12) && !(ks.any Rv))
def aJT(t:cR)(i br:Int)(ks:List Int)(sc:Int):cR×Int:=if IG t i br ks then((t.1.set i.toNat ((nth fo t.1 i.toNat).1,(br,ks.map (λk=>mq k (sX t)),sc,()),()),t.2),0) else(([],[],0,()),1)
theorem afu{t:cR}:Sm (sX t):=by
 unfold sX;split
 ·exact awo _ _
 ·exact⟨by rw[dR],λx hx=>by obtain rfl:=(ou.1 hx).2;exact⟨eG,eG⟩⟩
def aDV:Int->Prop:=λ_=>True
def ay3:Int->Bool:=λk=>Rv k
def Y9:Fs Tryz.prog aDV bz ay3:=fu 81 Tryz.f81 (λkv=>([.d tu kv],[])) (λx=>⟨.d .bool x,[],[]⟩) [aj tu] [Vl]
theorem aKn(kv)(k:K1 R):Y9.A kv k=aG (AP kv 0) (k (Y9.out aL)) (al (HK.call kv) λx1=>k (Y9.out (!x1))):=cf
theorem aKo:Y9.Ok:=by
 intro(k:Int) _;rw[aKn,PY (d:=k) trivial];simp only[bz,ay3,Rv,ah,bz,Sd];by_cases h:k=0
 ·rw[eU h,ak,aI au]
 ·rw[fU h,ao];by_cases h2:k < 2305843009213688669
  ·rw[aT h2,aN au];rfl
  ·rw[aP h2,aI au];rfl
theorem aDW:Y9.RS:=rE [.d tu] Y9
def aKp:=Y9.fI aKo
abbrev z5:=Bs×Int×Int
def oV:z5->AS:=λ(mO,t7,t8)=>⟨([.d tU mO,.fn 81 (.nil)]++aQ 5 ([.d ti t7,.d ti t8]++aQ 10 [])),[],(ae 19 [])⟩
def pN:Int->Exit×AS:=λx=>(.ret,⟨(aQ 4 ([.d ti x]++aQ 14 [])),[],(ae 19 [])⟩)
def zj:Unit->Exit×AS:=λx=>(.exit 0,⟨(aQ 19 []),[],(ae 19 [])⟩)
abbrev LP:=(Int)⊕(Unit)
abbrev YR:=(Int)⊕(Unit)
def F3:LP->Out (Exit×AS):=λx=> .br x.isLeft (.get x.getLeft? λa=> .ok (pN a)) (.get x.getRight? λb=> .ok (zj b))
def ke:z5->YR->LP:=λ(mO,t7,t8) y=>match y with | .inl y=> .inl y | .inr z=> .inr (z)
def zi:z5->Prop:=λ(l,n,i)=>(∀x∈l,True)/\l.length<=1000000000/\n=l.length/\∃k:Nat,k<=l.length/\i=k
def og:z5->YR:=λ(l,n,i)=>Ka Rv (l.drop i.toNat) i
def awl:Bs->Prop:=λl=>(∀x∈l,True)/\l.length<=1000000000
def aeJ:Bs->Int:=λl=>ao4 Rv l
def YQ:=du.eW oV zi ke og F3
def LQ:z5->Option LP:=fP YQ oV
def AE:Fs Tryz.prog awl bz aeJ:=fu 118 Tryz.f118 (λsv=>([.d tU sv,.fn 81 (.nil)],[])) (λx=>⟨.d ti x,[],[]⟩) [aj tU,aF] [aKp] {loops:=oI [(2,{aV:=[0,1,7,8]})],outs:=oH [(2,{},{aV:=[4]})],fE:=pW [(2,YQ)]}
def LO:= @dV Tryz.prog (jB AE.G) AE.an 0 Tryz.f118 0 _ oV
abbrev Uq:=jh Tryz.prog (jB AE.G) AE.an 0 Tryz.f118 0 oV zi ke og F3
theorem ag5:iy LQ zi ke og:=kz (jC [.d tU,.d ti,.d ti] λ_=>cf)
theorem Q4:mY @LO oV zi ke og F3 Uq:=nJ
theorem LR(mO t7 t8)(kn:K2 R)(kx:K3 R):LO (mO,t7,t8) kn kx=aG (fL t8 t7) (aG (eE t8 (((List.length mO):Nat):Int)) (al (Y9.call (nth tu mO (ab t8))) λx1=>aG (x1) (kx (pN t8).1 (pN t8).2) (kn (oV (mO,t7,(bA .i64 t8 (1:Int)))))) aF) (kx (zj ()).1 (zj ()).2):=cf
theorem aDf(sv)(k:K1 R):AE.A sv k=al (LQ (sv,(sv.length:Int),0)) λx2=>aG x2.isLeft (al x2.getLeft? λa3=>k (AE.out a3)) (al x2.getRight? λb4=>k (AE.out (-1))):=cf
theorem amN:Uq:=by
 refine Q4 (λ(l,n,i)=>l.length - i.toNat) ?_
 rintro⟨l,n,i⟩ ⟨hl,hb,rfl,k,hk,rfl⟩;have hb:l.length<=1000000000:=hb;have hk:k<=l.length:=hk;by_cases h:k < l.length
 ·have hx:=hl _ (aR h);have n1:nth tu l k=l[k]:=cj (t:=tu) h;have hd:Ka Rv (l.drop k) k=if Rv l[k] then .inl (k:Int) else Ka Rv (l.drop (k+1)) ((k+1:Nat):Int):=by rw[aq h];rfl
  have step:∀ {R:Type} (kn:AS->Option R) (kx:Exit->AS->Option R),LO (l,(l.length:Int),(k:Int)) kn kx=aG (Rv l[k]) (kx (pN (k:Int)).1 (pN (k:Int)).2) (kn (oV (l,(l.length:Int),((k+1:Nat):Int)))):=by intro R kn kx;rw[LR,aT au,aZ au au,aa,n1,aDW (d:=l[k]) hx,N.lh au];rfl
  cases hp:Rv l[k]
  ·left;refine⟨(l,l.length,((k+1:Nat):Int)),⟨hl,hb,rfl,k+1,au,rfl⟩,by simp only[aa];omega,?_,λkn kx=> ?_⟩
   ·simp only[ke,og,aa,hd,hp,bw,bp]
   ·rw[step,hp,ao]
  ·right;refine⟨pN (k:Int),?_,λkn kx=> ?_⟩
   ·simp only[ke,og,aa,hd,hp,bE];rfl
   ·rw[step,hp,ak]
 ·right;obtain rfl:k=l.length:=au;refine⟨zj (),?_,λkn kx=> ?_⟩
  ·simp only[ke,og,aa,aH];rfl
  ·rw[LR,aP au,ao]
theorem aDg:AE.Ok:=by rintro l ⟨hl,hb⟩;rw[aDf,ag5 (d:=(l,l.length,0)) ⟨hl,hb,rfl,0,au,rfl⟩];simp only[ah,ke,og,aW,aO,bz,aeJ,ao4];cases Ka Rv l 0 <;> rfl
theorem awm:AE.RS:=rE [.d tU] AE
def aDh:=AE.fI aDg 1 ⟨.eW amN,trivial⟩
def ag1:Bs->Prop:=λl=>(∀x∈l,True)/\l.length<=1000000000
def YP:Bs->Bool:=λl=>l.any Rv
def yq:Fs Tryz.prog ag1 bz YP:=fu 83 Tryz.f83 (λsv=>([.d tU sv,.fn 81 (.nil)],[])) (λx=>⟨.d .bool x,[],[]⟩) [aj tU,aF] [aDh]
theorem amI(sv)(k:K1 R):yq.A sv k=al (AE.call sv) λx1=>k (yq.out (D4 x1 0)):=cf
theorem amJ:yq.Ok:=by rintro l ⟨hl,hb⟩;rw[amI,awm (d:=l) ⟨hl,hb⟩];simp only[ah,bz,aeJ,abF];rfl
theorem ag2:yq.RS:=rE [.d tU] yq
def amK:=yq.fI amJ
abbrev Rh:=Int×Bs×Int×Int×cR×(Int×Unit)×Int×Nat×(Int×Unit)×Bs×(List Sg)
def Co:Rh->(Pq×(List Sg))->((Int×cR×(Int×Unit))×(Pq×(List Sg))):=λ(abN,t52,t53,t54,n5,I9,alf,pv,nV,Hi,aMK) y=>((abN,n5,I9),y)
abbrev ay4:=cR×Int×Int×Bs×Int
def ani:Rh->Prop:=λ(i0,l,n,i,t,e,br,L,sc,id,r)=>l.length<=1000/\(∀x∈l,ow x)/\Sm id/\∃k:Nat,k<=l.length/\i=k/\n=l.length/\L=r.length/\r.length<=1000+k
def IT:Rh->(Pq×(List Sg)):=λ(i0,l,n,i,t,e,br,L,sc,id,r)=>((br,r++(l.drop i.toNat).map (λk=>mq k id),sc),r++(l.drop i.toNat).map (λk=>mq k id))
def aDX:ay4->Prop:=λ(t,i,br,ks,sc)=>xx t/\(∀x∈ks,ow x)/\ks.length<=1000000000
def anh:ay4->(cR×Int):=λ(t,i,br,ks,sc)=>aJT t i br ks sc
def xl:Ls ani Co IT:=te (λ(abN,t52,t53,t54,n5,I9,alf,pv,nV,Hi,aMK)=>⟨([bC,.d ti abN,bC,bC,bC,dP 5]++aQ 4 ([dP 10,bC,bC,dP 13,dP 14]++aQ 37 ([.d tU t52,.d ti t53,.d ti t54]++aQ 21 []))),[],(bk 5 ([cJ (.d dz n5)]++bk 4 ([cJ (.pr (.cT) (.pr (.cT) (.d (.pair ti .unit) I9))),[],[],cJ (.pr (.d ti alf) (.pr (je 64 pv) (.d (.pair tu .unit) nV))),cJ (.d tH Hi)]++bk 49 ([cJ (.vec 117 xn aMK)]++bk 11 []))))⟩) (λx=>(.exit 0,⟨([bC,.d ti x.1.1,bC,bC,bC,dP 5]++aQ 4 ([dP 10,bC,bC,dP 13]++aQ 62 [])),[],(bk 5 ([cJ (.d dz x.1.2.1)]++bk 4 ([cJ (.pr (.cT) (.pr (.cT) (.d (.pair ti .unit) x.1.2.2))),[],[],cJ (.d aeW x.2.1)]++bk 50 ([[.obj 0 aL (.vec 117 xn x.2.2)]]++bk 11 []))))⟩))
def Ad:Fs Tryz.prog aDX bz anh:=fu 42 Tryz.f42 (λ(t,inv,branch,keys,secret)=>([.d dz t,.d ti inv,.d ti branch,.d tU keys,.d tu secret],[])) (λx=>⟨.cons (.d dz x.1) (.cons (.d ti x.2) (.nil)),[],[]⟩) [aj dz,aj ti,aj ti,aj tU,aj tu] [pQ,ay5,amK,ae6,aJ3,awH] {bu:=[5],loops:=oI [(7,{aV:=[1,5,10,13,14,52,53,54],sites:=[5,10,13,14,64],owns:=[⟨13,[.snd,.fst],64,106⟩]})],outs:=oH [(7,{aV:=[1,5,10,13],sites:=[5,10,13,64],PJ:=[⟨13,[.snd,.fst],(.slice xn)⟩]},{aV:=[10,11]})],fE:=pW [(7,xl.E)],res:=[aj dz,aF]}
theorem anj:xl.RS:=rL [.d ti,.d tU,.d ti,.d ti,.d dz,.d (.pair ti .unit),.d ti,.n,.d (.pair tu .unit),.d tB,.d (.slice xn)] xl
theorem Pj(abN t52 t53 t54 n5 I9 alf pv nV Hi aMK)(kn:K2 R)(kx:K3 R):Ad.R 0 xl (abN,t52,t53,t54,n5,I9,alf,pv,nV,Hi,aMK) kn kx=aG (fL t54 t53) (aG (eE t54 (t52.length:Int)) (al (YT.call ((nth tu t52 (ab t54)),Hi)) λx4=>aG (decide (pv<=(List.length aMK))) (aG (dd (pv+1) 16) (kn (xl.st (abN,t52,t53,(bA .i64 t54 1),n5,I9,alf,(pv+1),nV,Hi,((aJ pv aMK)++ [x4])))) aF) aF) aF) (aG (decide (0=0/\(0+pv)<=(List.length aMK))) (xl.go kx ((abN,n5,I9),((alf,((cut aMK 0 pv),nV)),aMK))) aF):=cf
theorem aKq(t inv branch keys secret)(k:K1 R):Ad.A (t,inv,branch,keys,secret) k=al (ij.call t) λant=>aG (!ant) (k (Ad.out ((([]:List gK),(([]:List gX),(0,()))),1))) (aG (fL inv 0) (k (Ad.out ((([]:List gK),(([]:List gX),(0,()))),1))) (aG (D4 inv (t.1.length:Int)) (k (Ad.out ((([]:List gK),(([]:List gX),(0,()))),1))) (al (aht.call (branch,(([]:List Sg),(secret,())))) λasG=>aG (!asG) (k (Ad.out ((([]:List gK),(([]:List gX),(0,()))),1))) (aG (Af (keys.length:Int) 12) (k (Ad.out ((([]:List gK),(([]:List gX),(0,()))),1))) (al (yq.call keys) λaK6=>aG (aK6) (k (Ad.out ((([]:List gK),(([]:List gX),(0,()))),1))) (al (tid.call t) λpS=>al (xl.call (inv,keys,(keys.length:Int),0,t,(0,()),branch,0,(secret,()),pS,([]:List Sg))) λPk=>al (mX.call Pk.1.2.1) λaas=>aG (eE Pk.1.1 ((aas.1:Nat):Int)) (aG (decide ((0+(ab Pk.1.1)) < (List.length aas.2.2))) (aG (decide ((((0+(ab Pk.1.1))*36)+33)=((0+((ab Pk.1.1)*36))+33))) (aG (decide ((0+(ab Pk.1.1)) < (List.length aas.2.2))) (aG (decide (0=0/\(0+aas.1)<=(List.length (dZ aas.2.2 (0+(ab Pk.1.1)) ((nth fo aas.2.2 (0+(ab Pk.1.1))).1,(Pk.2.1,(nth fo aas.2.2 (0+(ab Pk.1.1))).2.2)))))) (k (Ad.out (((cut (dZ aas.2.2 (0+(ab Pk.1.1)) ((nth fo aas.2.2 (0+(ab Pk.1.1))).1,(Pk.2.1,(nth fo aas.2.2 (0+(ab Pk.1.1))).2.2))) 0 aas.1),aas.2.1),0))) aF) aF) aF) aF) aF)))))):=cf
theorem asp:(Ad.kA 0 xl):=by
 refine(Ad.nN 0 xl) (λ(i0,l,n,i,t,e,br,L,sc,id,r)=>l.length - i.toNat) ?_
 rintro⟨i0,l,n,i,t,e,br,L,sc,id,r⟩ ⟨hlen,hu,hm,k,hk,rfl,rfl,rfl,hr⟩;have hlen:l.length<=1000:=hlen;have hk:k<=l.length:=hk;have hr:r.length<=1000+k:=hr;by_cases h:k < l.length
 ·left;have n1:nth tu l k=l[k]:=cj (t:=tu) h;have hd:bt k l=l[k]::bt (k+1) l:=aq h;refine⟨(i0,l,l.length,((k+1:Nat):Int),t,e,br,r.length+1,sc,id,r++ [mq l[k] id]),⟨hlen,hu,hm,k+1,au,rfl,rfl,by rw[ai];rfl,by rw[ai];show r.length+1<=_;omega⟩,by simp only[aa];omega,?_,λkn kx=> ?_⟩
  ·simp only[Co,IT,aa,hd,bM,aM,cS]
  ·rw[Pj,aT au,aZ au au,aa,n1,aDp (d:=(l[k],id)) ⟨hu _ (aR h),hm⟩];simp only[ak,ah,bz,amR];rw[aI (aB _),dk au au,N.lh au,bK];rfl
 ·right;obtain rfl:k=l.length:=au;intro R kn kx;rw[Pj,aP au,ao];simp only[Co,IT,aa,aH,gW,bJ,aU,aB,ji,cG,ak,eF]
theorem aKr:Ad.Ok:=by
 rintro⟨⟨is,os,nt,u⟩,i,br,ks,sc⟩ ⟨hv,hu,hl⟩;have hv:xx (is,os,nt,u):=hv;have hl:ks.length<=1000000000:=hl;rw[aKq,kX (d:=(is,os,nt,u)) hv.1];simp only[ah,bz,nG,bz,anh,aJT,IG];rcases my (gv (is,os,nt,u)) with gb | gb;rotate_left
 ·simp only[gb];rfl
 obtain⟨⟨_,a2,a3,_⟩,b1,b2⟩:=iZ gb;have a2:is.length<=64:=a2;simp only[gb,bY,ao,bF];by_cases h1:i < 0
 ·rw[aT h1,ak,aN au];rfl
 rw[aP h1,ao];by_cases h2:i>=(is.length:Int)
 ·rw[gA h2,ak,aN au];rfl
 rw[eD h2,ao,ast (d:=(br,([],(sc,())))) trivial];simp only[ah,bz,ank,AV];by_cases h3:0<=br/\br < 4
 ·rw[aI h3];by_cases h4:ks.length > 12
  ·rw[dj au,aN (p:=0<=i/\i < (is.length:Int)/\0<=br/\br < 4/\ks.length<=12) au];rfl
  ·rw[cw au,aI (p:=0<=i/\i < (is.length:Int)/\0<=br/\br < 4/\ks.length<=12) au,ag2 (d:=ks) ⟨λ_ _=>trivial,hl⟩];simp only[ah,bz,YP];rcases my (ks.any Rv) with hb | hb;rotate_left
   ·simp only[hb];obtain⟨k,rfl⟩:∃k:Nat,i=k:=⟨i.toNat,au⟩;have hk:k < is.length:=au;simp only[show(([]:List Sg).length<=12)=True from eq_true (aK _),cG,Bool.and_self,bY,dK,ao,bF,bE];rw[UE (d:=(is,os,nt,u)) hv];simp only[ah,bz,ajB];rw[anj (d:=((k:Int),ks,ks.length,0,(is,os,nt,u),(0,()),br,0,(sc,()),sX (is,os,nt,u),[])) ⟨by show ks.length<=_;omega,hu,afu,0,aK _,rfl,rfl,rfl,aK _⟩];simp only[ah,Co,IT,aW,aO,bm];rw[ase (d:=(is,os,nt,u)) gb];simp only[ah,bz,ajA,aa,aU,de,aZ (show(0:Int)<=(k:Int) by omega) (show(k:Int) < (is.length:Int) by omega),ak,aI hk,cG,tO,aB,ji];rw[eF (by rw[tO])]
   ·simp only[hb];rfl
 ·rw[aN h3,aN (p:=0<=i/\i < (is.length:Int)/\0<=br/\br < 4/\ks.length<=12) au];rfl
theorem aDY:Ad.RS:=rE [.d dz,.d ti,.d ti,.d tU,.d tu] Ad
def aKs:=Ad.fI aKr 1 ⟨.eW asp,trivial⟩
abbrev fh:Ty:=(.pair fJ (.pair ti .unit))
abbrev fj:=(gX×(Int×Unit))
abbrev aRn:Ty:=(.pair bX (.pair fh .unit))
abbrev aEq:=(cr×(fj×Unit))
abbrev cv:Ty:=(.pair (.slice aRn) (.pair (.slice bX) .unit))
abbrev cI:=((List aEq)×((List cr)×Unit))
def aEG:(Bs×Bs)->Prop:=λ_=>True
def aEF:(Bs×Bs)->Int:=λ(a,b)=>atb a b
def asV:Fs Tryz.prog aEG bz aEF:=fu 78 Tryz.f78 (λ(a,b)=>([.d tB a,.d tB b],[])) (λx=>⟨.d ti x,[],[]⟩) [aj tB,aj tB] [⟨116,qb,axi,.of (aPy (fn:=Tryz.f116) cf cf cf cf cf) (by rfl)⟩]
theorem aLk(a b)(k:K1 R):asV.A (a,b) k=al (anS (a,b)) λx1=>k (asV.out x1):=cf
theorem aLl:asV.Ok:=by rintro⟨a,b⟩ _;rw[aLk,axj];rfl
theorem aEH:asV.RS:=rE [.d tB,.d tB] asV
def aLm:=asV.fI aLl
def azR(x y:Int):Int:=if x < y then -1 else if x > y then 1 else 0
abbrev JY:=Int×(List Int)×Int×Int
def Cu:JY->AS:=λ(zero,t6,t7,t8)=>⟨([bC,bC,bC,.d ti zero,bC,bC,.d (.slice ti) t6,.d ti t7,.d ti t8]++aQ 9 []),[],(ae 18 [])⟩
def Hu:Int->Exit×AS:=λx=>(.ret,⟨([bC,bC,.d ti x]++aQ 15 []),[],(ae 18 [])⟩)
def Hv:Int->Exit×AS:=λx=>(.exit 0,⟨([bC,bC,bC,.d ti x]++aQ 14 []),[],(ae 18 [])⟩)
abbrev aaP:=(Int)⊕(Int)
abbrev aoc:=(Int)⊕(Unit)
def PC:aaP->Out (Exit×AS):=λx=> .br x.isLeft (.get x.getLeft? λa=> .ok (Hu a)) (.get x.getRight? λb=> .ok (Hv b))
def qx:JY->aoc->aaP:=λ(zero,t6,t7,t8) y=>match y with | .inl y=> .inl y | .inr z=> .inr (zero)
def aTs:List Int->Int
 |[]=>0
 |x::l=>if x≠0 then x else aTs l
def aO9:List Int->Int⊕Unit
 |[]=> .inr ()
 |x::l=>if x≠0 then .inl x else aO9 l
theorem aPa:∀l:List Int,aTs l=match aO9 l with | .inl x=>x | .inr _=>0
 |[]=>rfl
 |x::l=>by
  simp only[aTs,aO9];split
  ·rfl
  ·exact aPa l
def Ht:JY->Prop:=λ(z,l,n,i)=>z=0/\l.length<=1000000000/\n=l.length/\∃k:Nat,k<=l.length/\i=k
def zD:JY->aoc:=λ(z,l,n,i)=>aO9 (l.drop i.toNat)
def aLD:(List Int)->Prop:=λl=>l.length<=1000000000
def aOt:(List Int)->Int:=λl=>aTs l
def aoa:=du.eW Cu Ht qx zD PC
def WZ:JY->Option aaP:=fP aoa Cu
def aD9:Fs Tryz.prog aLD bz aOt:=fu 73 Tryz.f73 (λjT=>([.d (.slice ti) jT],[])) (λx=>⟨.d ti x,[],[]⟩) [aj (.slice ti)] [] {loops:=oI [(3,{aV:=[3,6,7,8]})],outs:=oH [(3,{aV:=[3]},{aV:=[2]})],fE:=pW [(3,aoa)]}
def aob:= @dV Tryz.prog (jB aD9.G) aD9.an 0 Tryz.f73 0 _ Cu
abbrev ahX:=jh Tryz.prog (jB aD9.G) aD9.an 0 Tryz.f73 0 Cu Ht qx zD PC
theorem atg:iy WZ Ht qx zD:=kz (jC [.d ti,.d (.slice ti),.d ti,.d ti] λ_=>cf)
theorem Zi:mY @aob Cu Ht qx zD PC ahX:=nJ
theorem JZ(zero t6 t7 t8)(kn:K2 R)(kx:K3 R):aob (zero,t6,t7,t8) kn kx=aG (fL t8 t7) (aG (eE t8 (((List.length t6):Nat):Int)) (aG (Cw (nth ti t6 (ab t8)) zero) (kx (Hu (nth ti t6 (ab t8))).1 (Hu (nth ti t6 (ab t8))).2) (kn (Cu (zero,t6,t7,(bA .i64 t8 (1:Int)))))) aF) (kx (Hv zero).1 (Hv zero).2):=cf
theorem aPM(jT)(k:K1 R):aD9.A jT k=al (WZ (0,jT,(jT.length:Int),0)) λx1=>aG x1.isLeft (al x1.getLeft? λa2=>k (aD9.out a2)) (al x1.getRight? λb3=>k (aD9.out b3)):=cf
theorem azT:ahX:=by
 refine Zi (λ(z,l,n,i)=>l.length - i.toNat) ?_
 rintro⟨z,l,n,i⟩ ⟨rfl,hl,rfl,k,hk,rfl⟩;by_cases h:k < l.length
 ·have hd:l.drop k=l[k]::l.drop (k+1):=aq h;have n1:nth ti l k=l[k]:=cj (t:=ti) h;by_cases h2:l[k]≠0
  ·right;refine⟨Hu l[k],?_,λkn kx=> ?_⟩;rotate_left
   ·rw[JZ,aT au,ak,aZ au au,ak,aa,n1,eA h2,ak]
   ·simp only[qx,zD,aa,hd,aO9,if_pos h2];rfl
  ·left;refine⟨(0,l,(l.length:Int),((k+1:Nat):Int)),⟨rfl,hl,rfl,k+1,au,rfl⟩,by simp only[aa];omega,?_,λkn kx=> ?_⟩
   ·simp only[qx,zD,aa,hd,aO9,if_neg h2]
   ·rw[JZ,aT au,ak,aZ au au,ak,aa,n1,cz au,ao,N.lh au]
 ·right;obtain rfl:k=l.length:=au;refine⟨Hv 0,?_,λkn kx=> ?_⟩;rotate_left
  ·rw[JZ,aP au,ao]
  ·simp only[qx,zD,aa,aH,aO9];rfl
theorem aPN:aD9.Ok:=by intro l hl;rw[aPM,atg (d:=(0,l,(l.length:Int),0)) ⟨rfl,hl,rfl,0,aK _,rfl⟩];simp only[ah,qx,zD,aW,aO,bz,aOt];rw[aPa];cases aO9 l <;> rfl
theorem aLE:aD9.RS:=rE [.d (.slice ti)] aD9
def aPO:=aD9.fI aPN 1 ⟨.eW azT,trivial⟩
def aWe(o:cr):Prop:=o.1.length=32/\∀x∈o.1,0<=x/\x < 256
theorem Ev{β:Type}{kt:Ty}(hc:kt.comp=aL){x:kt.den}{v:β}:∀ {l:List (kt.den×β)},x ∉ l.map (·.1)->cY kt x v l=l++ [(x,v)]
 |[],_=>rfl
 |p::l,h=>by
  rw[gG];have h1:¬kt.beq x p.1=aL:=λe=>h (by rw[beq_eq kt _ _ hc e];simp)
  rw[if_neg h1,Ev hc λe=>h (by simp[e])];rfl
theorem gV:bX.comp=aL:=rfl
def AW(l:List (cr×fj)):Int:=(l.map λp=>p.2.1.1).sum
theorem rM(p:cr×fj)(l:List (cr×fj)):AW (p::l)=p.2.1.1+AW l:=by simp[AW]
theorem anK(l l':List (cr×fj)):AW (l++l')=AW l+AW l':=by simp[AW]
theorem ahG{l l':List (cr×fj)}(h:l.Perm l'):AW l=AW l':=by
 induction h with
 |nil=>rfl
 |cons x _ ih=>rw[rM,rM,ih]
 |swap x y l=>rw[rM,rM,rM,rM];omega
 |trans _ _ h1 h2=>rw[h1,h2]
theorem CX{α:Type}{l:List α}{j:Nat}(h:j < l.length):l.Perm (l[j]::l.eraseIdx j):=by
 induction l generalizing j with
 |nil=>simp at h
 |cons x l ih=>
  cases j with
  |zero=>exact List.Perm.refl _
  |succ j=>
   have h:j < l.length:=by simpa using h
   simp only[List.getElem_cons_succ,List.eraseIdx_cons_succ];exact((ih h).cons x).trans (List.Perm.swap _ _ _)
theorem H0{kt vt:Ty}{l:List (kt.den×vt.den)}{j:Nat}(h:j < l.length):sj kt vt l j=l[j]:=by simp[sj,bS,cm h]
abbrev aj3:=Nat×(List cI)
abbrev axx:=Nat×(List cI)
def U9:aj3->axx->(((List cI))×(Nat×(List cI))):=λ(sL,o0) y=>(o0,y)
def azP:aj3->Prop:=λ(n,l)=>n<=l.length/\l.length<=1000000
def aj4:aj3->axx:=λ(n,l)=>((l.take n).length,l.take n)
def RF:Fs Tryz.prog azP U9 aj4:=fu 63 Tryz.f63 (λ(sL,o0)=>([.cg (.bW 0) 0 [] 0 0 sL],[.obj 0 aS (.vec 95 cv o0)])) (λx=>⟨.cg (.new 0 0) 0 [] 0 0 x.2.1,[.obj 0 aS (.vec 95 cv x.1)],[.obj 0 aS (.vec 95 cv x.2.2)]⟩) [aF] [] {bu:=[5],owns:=[⟨2,[],5,67⟩]}
theorem aFl(sL o0)(k:K1 R):RF.A (sL,o0) k=aG (decide (0 < sL)) (aG (decide (0=0/\(0+sL)<=(List.length o0))) (aG (dd (0+(List.length (cut o0 0 sL))) 48) (k (RF.out (o0,((0+(List.length (cut o0 0 sL))),((aJ 0 (ae 0 (([]:List aEq),(([]:List cr),()))))++(cut o0 0 sL)))))) aF) aF) (nd (k (RF.out (o0,(0,([]:List cI))))) (aG (decide (0=0/\(0+sL)<=(List.length o0))) (aG (dd (0+(List.length (cut o0 0 sL))) 48) (k (RF.out (o0,((0+(List.length (cut o0 0 sL))),((aJ 0 (ae 0 (([]:List aEq),(([]:List cr),()))))++(cut o0 0 sL)))))) aF) aF)):=cf
theorem aFm:RF.Ok:=by
 rintro⟨n,l⟩ ⟨h1,h2⟩;have h1:n<=l.length:=h1;have h2:l.length<=1000000:=h2;have ec:cut l 0 n=l.take n:=by simp[cut]
 have ht:(l.take n).length<=1000000:=by rw[dw];omega
 have hr:dd (l.take n).length 48=aL:=dk au au;rw[aFl];simp only[aU,ec,hr,ak,fe,bm,iw,aI h1,U9,aj4];by_cases h:0 < n
 ·simp only[aI h,ak]
 ·have:n=0:=au;subst this;simp only[fe,bq,aK,cG,ak,HX,aN (gQ 0),ao]
theorem azQ:RF.RS:=rE [.n,.d (.slice cv)] RF
def aFn:=RF.aRc ajt aFm
abbrev J2:=Nat×(List (cr×fj))×(List cI)×(List (cr×fj))×(List cI)×Nat×(List (cr×fj))
abbrev W9:=(List (cr×fj))
def yA:J2->W9->((Nat×(List (cr×fj))×(List cI)×(List cI)×Nat)×((List (cr×fj)))):=λ(o0L,jJ,eZ,n6,agd,pv,sY) y=>((o0L,jJ,eZ,agd,pv),y)
abbrev aoq:=Nat×(List (cr×fj))×(List cI)
def afS:J2->Prop:=λ(_,_,_,m,_,_,rest)=>((m++rest).map (·.1)).Nodup
def Ee:J2->W9:=λ(_,_,_,m,_,_,rest)=>dq (m++rest)
def atl:aoq->Prop:=λ(n,a,s)=>n<=s.length/\s.length<=1000000/\(a.map (·.1)).Nodup
def aor:aoq->(Nat×(List (cr×fj))×(List cI)×Nat×(List (cr×fj))×(List cI)):=λ(n,a,s)=>(n,a,s,(s.take n).length,dq a,s.take n)
def rR:Ls afS yA Ee:=te (λ(o0L,jJ,eZ,n6,agd,pv,sY)=>⟨([bC,bC,bC,dP 13]++aQ 14 ([dP 18]++aQ 12 [])),[cO (.pr (.cK (.bW 1) 0) (.pr (.cg (.bW 2) 0 [] 0 0 o0L) jL)),.obj 0 aL (.mp bX fh jJ),cO (.vec 95 cv eZ)],(bk 6 ([cJ (.mp bX fh n6)]++bk 4 ([cJ (.vec 95 cv agd),[],cJ (.pr (.cK (.new 6 0) 0) (.pr (je 11 pv) jL))]++bk 4 ([cJ (.rW (.bW 1) 1 bX fh sY aF)]++bk 12 []))))⟩) (λx=>(.exit 0,⟨([bC,bC,bC,dP 13]++aQ 27 []),[cO (.pr (.cK (.bW 1) 0) (.pr (.cg (.bW 2) 0 [] 0 0 x.1.1) jL)),cO (.mp bX fh x.1.2.1),cO (.vec 95 cv x.1.2.2.1)],(bk 6 ([cJ (.mp bX fh x.2)]++bk 4 ([cJ (.vec 95 cv x.1.2.2.2.1),[],cJ (.pr (.cK (.new 6 0) 0) (.pr (je 11 x.1.2.2.2.2) jL))]++bk 17 [])))⟩))
def we:Fs Tryz.prog atl bz aor:=fu 27 Tryz.f27 (λ(o0baL,o1,o2)=>([.ptr (.bW 0) 0 [] 0],[.obj 0 aS (.pr (.cK (.bW 1) 0) (.pr (.cg (.bW 2) 0 [] 0 0 o0baL) (.d .unit ()))),.obj 0 aS (.mp bX fh o1),.obj 0 aS (.vec 95 cv o2)])) (λx=>⟨.ptr (.new 0 0) 0 [] 0,[.obj 0 aS (.pr (.cK (.bW 1) 0) (.pr (.cg (.bW 2) 0 [] 0 0 x.1) (.d .unit ()))),.obj 0 aS (.mp bX fh x.2.1),.obj 0 aS (.vec 95 cv x.2.2.1)],[.obj 0 aS (.pr (.cK (.new 0 1) 0) (.pr (.cg (.new 0 2) 0 [] 0 0 x.2.2.2.1) (.d .unit ()))),.obj 0 aS (.mp bX fh x.2.2.2.2.1),.obj 0 aS (.vec 95 cv x.2.2.2.2.2)]⟩) [aF] [aFn] {bu:=[13],loops:=oI [(3,{aV:=[3,18],sites:=[6,11,13,18],aRV:=[18]})],outs:=oH [(3,{aV:=[3],sites:=[6,11,13],aPJ:=[(.new 6 0)]},{aV:=[2]})],fE:=pW [(3,rR.E)]}
theorem afT:rR.RS:=rL [.n,.d (.slice (.pair bX fh)),.d (.slice cv),.d (.slice (.pair bX fh)),.d (.slice cv),.n,.d (.slice (.pair bX fh))] rR
theorem J3(o0L jJ eZ n6 agd pv sY)(kn:K2 R)(kx:K3 R):we.R 0 rR (o0L,jJ,eZ,n6,agd,pv,sY) kn kx=aG (decide (0 < (List.length sY))) (aow (List.length sY) λj1=>kn (rR.st (o0L,jJ,eZ,(cY bX (sj bX fh sY j1).1 (sj bX fh sY j1).2 n6),agd,pv,(List.eraseIdx sY j1)))) (rR.go kx ((o0L,jJ,eZ,agd,pv),(dq n6))):=cf
theorem az2(o0baL o1 o2)(k:K1 R):we.A (o0baL,o1,o2) k=al (RF.call (o0baL,o2)) λx1=>al (rR.call (o0baL,o1,x1.1,([]:List (cr×fj)),x1.2.2,x1.2.1,o1)) λx3=>k (we.out (x3.1.1,x3.1.2.1,x3.1.2.2.1,x3.1.2.2.2.2,x3.2,x3.1.2.2.2.1)):=cf
theorem akh:(we.kA 0 rR):=by
 refine(we.aVJ 0 rR) (λ(_,_,_,_,_,_,rest)=>rest.length) ?_
 rintro⟨n,a,s,m,u,k0,rest⟩ hn;have hn:((m++rest).map (·.1)).Nodup:=hn;by_cases h:0 < rest.length
 ·left;have e1:∀j,j < rest.length->cY bX (sj bX fh rest j).1 (sj bX fh rest j).2 m=m++ [sj bX fh rest j]:=λj hj=>by rw[Ev gV];intro hm;rw[lz,List.nodup_append]at hn;exact hn.2.2 _ hm _ (eu.2 ⟨_,aR hj,by rw[H0 hj]⟩) rfl
  have e2:∀j,j < rest.length->(m++ [sj bX fh rest j]++rest.eraseIdx j).Perm (m++rest):=λj hj=>by rw[aM,H0 hj];exact List.Perm.append_left _ (CX hj).symm
  refine⟨rest.length,λj=>(n,a,s,cY bX (sj bX fh rest j).1 (sj bX fh rest j).2 m,u,k0,rest.eraseIdx j),h,λj hj=>⟨?_,?_,?_⟩,λkn kx=> ?_⟩
  ·show((cY bX (sj bX fh rest j).1 (sj bX fh rest j).2 m++rest.eraseIdx j).map (·.1)).Nodup;rw[e1 j hj];exact(((e2 j hj).map _).nodup_iff).2 hn
  ·show(rest.eraseIdx j).length < rest.length;rw[qm,if_pos hj];omega
  ·simp only[yA,Ee,e1 j hj];rw[azF (e2 j hj)]
  ·rw[J3,aI h,ak]
 ·right;obtain rfl:rest=[]:=bD au;intro T kn kx;rw[J3,aN h,ao];simp only[yA,Ee,bJ]
theorem az3:we.Ok:=by rintro⟨n,a,s⟩ ⟨h1,h2,h3⟩;have h1:n<=s.length:=h1;have h2:s.length<=1000000:=h2;rw[az2,azQ (d:=(n,s)) ⟨h1,h2⟩];simp only[ah,U9,aj4];rw[afT (d:=(n,a,s,[],s.take n,(s.take n).length,a)) h3];simp only[ah,yA,Ee,bz,aor,bm]
theorem atm:we.RS:=rE [.n,.d (.slice (.pair bX fh)),.d (.slice cv)] we
def MR:=we.fI az3 1 ⟨.eW akh,trivial⟩
abbrev Vb:=gX×Nat×Nat×Int×Int×Int×(List pZ)
abbrev ahY:=(List pZ)×(List pZ)
def aoe:Vb->ahY->((gX×Int)×((List pZ)×(List pZ))):=λ(aQS,lL,aDs,t11,t12,n2,n9) y=>((aQS,n2),y)
def aWd(l:Lk):Prop:=l.1.length<=1000/\∀b∈l.1,b.1.length<=1000000
def aod:Vb->Prop:=λ(_,n,m,t,i,_,l)=>(l.length<=1000/\∀b∈l,b.1.length<=1000000)/\∃k:Nat,k<=l.length/\i=k/\n=l.length/\m=l.length/\t=l.length
def azU:Vb->ahY:=λ(_,_,_,_,_,_,l)=>(l,l)
def aFq:gX->Prop:=λo=>aWd o.2.1
def ath:gX->gX:=λo=>o
def yz:Ls aod aoe azU:=te (λ(aQS,lL,aDs,t11,t12,n2,n9)=>⟨([bC,.dx fJ aQS,dP 2,je 9 lL]++aQ 6 ([je 9 aDs,.d ti t11,.d ti t12]++aQ 17 [])),[],([[],[],cJ (.pr (.d ti n2) (.pr (.pr (.cT) jL) jL))]++bk 6 ([cJ (.vec 120 iS n9)]++bk 20 []))⟩) (λx=>(.exit 0,⟨([bC,.dx fJ x.1.1,dP 2,.d (.slice iS) x.2.1]++aQ 26 []),[],([[],[],cJ (.pr (.d ti x.1.2) (.pr (.pr (.cT) jL) jL))]++bk 6 ([[.obj 0 aL (.vec 120 iS x.2.2)]]++bk 20 []))⟩))
def Zj:Fs Tryz.prog aFq bz ath:=fu 23 Tryz.f23 (λo=>([.d fJ o],[])) (λx=>⟨.d fJ x,[],[]⟩) [aj fJ] [axw,VV] {loops:=oI [(3,{aV:=[1,2,3,10,11,12],sites:=[2,9]})],outs:=oH [(3,{aV:=[1,2,3],sites:=[2,9],data:=[(3,(.slice iS))]},{aV:=[2]})],fE:=pW [(3,yz.E)],res:=[aj fJ]}
theorem aof:yz.RS:=rL [.d fJ,.n,.n,.d ti,.d ti,.d ti,.d (.slice iS)] yz
theorem RH(aQS lL aDs t11 t12 n2 n9)(kn:K2 R)(kx:K3 R):Zj.R 0 yz (aQS,lL,aDs,t11,t12,n2,n9) kn kx=aG (fL t12 t11) (aG (eE t12 ((aDs:Nat):Int)) (aG (decide ((0+(ab t12)) < (List.length n9))) (aG (decide ((((0+(ab t12))*4)+0)=(0+((ab t12)*4)))) (al (Dq.call (nth iS n9 (0+(ab t12))).1) λx1=>aG (eE t12 ((lL:Nat):Int)) (aG (decide ((0+(ab t12)) < (List.length n9))) (aG (decide ((((0+(ab t12))*4)+0)=((0+((ab t12)*4))+0))) (aG (decide ((0+(ab t12)) < (List.length n9))) (kn (yz.st (aQS,lL,aDs,t11,(bA .i64 t12 1),n2,(dZ n9 (0+(ab t12)) (x1,(nth iS n9 (0+(ab t12))).2))))) aF) aF) aF) aF) aF) aF) aF) (aG (decide (0=0/\(0+lL)<=(List.length n9))) (yz.go kx ((aQS,n2),((cut n9 0 lL),n9))) aF):=cf
theorem aLF(o)(k:K1 R):Zj.A o k=al (afR.call o.2.1.1) λx1=>al (yz.call (o,x1.1,x1.1,((x1.1:Nat):Int),0,0,x1.2)) λx3=>k (Zj.out (x3.1.1.1,((x3.2.1,()),()))):=cf
theorem ati:(Zj.kA 0 yz):=by
 refine(Zj.nN 0 yz) (λ(_,_,_,_,i,_,l)=>l.length - i.toNat) ?_
 rintro⟨o,n,m,t,i,u,l⟩ ⟨⟨hlen,hx⟩,k,hk,rfl,rfl,rfl,rfl⟩;have hlen:l.length<=1000:=hlen;have hk:k<=l.length:=hk;by_cases h:k < l.length
 ·left;have n1:nth iS l k=l[k]:=cj (t:=iS) h;have hs:l.set k l[k]=l:=iP h;have e:=hx _ (aR h);refine⟨(o,l.length,l.length,(l.length:Int),((k+1:Nat):Int),u,l),⟨⟨hlen,hx⟩,k+1,au,rfl,rfl,rfl,rfl⟩,by simp only[aa];omega,rfl,λkn kx=> ?_⟩;rw[RH,aT au,aZ au au];simp only[aa,aU,de,ak,aI h,cG,n1];rw[Qx (d:=l[k].1) e];simp only[ah,bz,S6];rw[N.lh au];exact congrArg (λz=>kn (yz.st (_,_,_,_,_,_,z))) hs
 ·right;obtain rfl:k=l.length:=au;intro R kn kx;rw[RH,aP au,ao,aI au,ak,eF rfl];rfl
theorem aLG:Zj.Ok:=by rintro⟨a,⟨l,u⟩,v⟩ ⟨h1,h2⟩;have h1:l.length<=1000:=h1;rw[aLF,an6 (d:=l) (by show l.length<=_;omega)];simp only[ah,bz,ajZ];rw[aof (d:=((a,(l,u),v),l.length,l.length,(l.length:Int),0,0,l)) ⟨⟨h1,h2⟩,0,aK _,rfl,rfl,rfl,rfl⟩];rfl
theorem aog:Zj.RS:=rE [.d fJ] Zj
def axy:=Zj.fI aLG 1 ⟨.eW ati,trivial⟩
abbrev CV:=Int×(List gX)×Int×Int×(List (cr×fj))
def qC:CV->AS:=λ(sum,t13,t14,t15,I9)=>⟨([bC,bC,bC,dP 12,.d ti sum]++aQ 8 ([.d (.slice fJ) t13,.d ti t14,.d ti t15]++aQ 35 [])),[],(bk 10 ([cJ (.mp bX fh I9),[],cJ (.pr (.cK (.new 10 0) 0) (.pr (.cT) jL))]++bk 38 []))⟩
def fQ:Unit->Exit×AS:=λx=>(.ret,⟨([bC,bC,.iQ]++aQ 48 []),[],(ae 51 [])⟩)
abbrev Xb:=(List (cr×fj))
def Bh:Xb->Exit×AS:=λx=>(.exit 0,⟨([bC,bC,bC,dP 12]++aQ 47 []),[],(bk 10 ([cJ (.mp bX fh x),[],cJ (.pr (.cK (.new 10 0) 0) (.pr (.cT) jL))]++bk 38 []))⟩)
abbrev PI:=(Unit)⊕(Xb)
abbrev aa6:=(Unit)⊕(((List (cr×fj))))
def Hz:PI->Out (Exit×AS):=λx=> .br x.isLeft (.get x.getLeft? λa=> .ok (fQ a)) (.get x.getRight? λb=> .ok (Bh b))
def lR:CV->aa6->PI:=λ(sum,t13,t14,t15,I9) y=>match y with | .inl y=> .inl y | .inr z=> .inr (z)
abbrev RT:=(List gX)
def aa8:RT->SA:=λouts=>([.d (.slice fJ) outs],[])
abbrev axH:=(Unit)⊕((List (cr×fj))×(List cI))
abbrev akk:=(Unit)⊕((List (cr×fj))×(List cI))
def Gp:akk->ja:=λx=>match x with | .inl x=>⟨.iQ,[],[]⟩ | .inr x=>⟨dP 0,[],[cO (.pr (.cK (.new 0 1) 0) (.pr (.cg (.new 0 2) 0 [] 0 0 0) jL)),cO (.mp bX fh x.1),cO (.vec 95 cv x.2)]⟩
def Gn:RT->axH->akk:=λouts y=>match y with | .inl y=> .inl y | .inr y=> .inr y
def AN(k:Nat)(o:gX):cr×fj:=((ae 32 (0:Int),((k:Int),())),(o,((0:Int),())))
def H5(sum:Int)(o:gX):Bool:=lk o.2.1 && decide (0<=o.1/\o.1<=1125899906842624 - sum)
def HY(sum:Int)(k:Nat):List gX->Option (List (cr×fj))
 |[]=>aj []
 |o::l=>match H5 sum o with | true=>(HY (sum+o.1) (k+1) l).map (AN k o:: ·) | false=>aF
def Qp(outs:List gX):Option (List (cr×fj)):=if outs.length<=256 then HY 0 0 outs else aF
def anG(o:gX):Prop:=afG o.2.1/\o.2.1.1.length<=9223372036854775807/\o.1<=9223372036854775807
def Bg:CV->Prop:=λ(sum,outs,n,i,a)=>(∀o∈outs,anG o)/\outs.length<=256/\0<=sum/\sum<=1125899906842624/\∃k:Nat,k<=outs.length/\i=k/\n=outs.length/\∀p∈a,p.1.2.1 < (k:Int)
def qB:CV->aa6:=λ(sum,outs,_,i,a)=>match HY sum i.toNat (outs.drop i.toNat) with | none=> .inl () | some r=> .inr (a++r)
def Vd:RT->Prop:=λouts=>∀o∈outs,anG o
def RU:RT->axH:=λouts=>match Qp outs with | none=> .inl () | some r=> .inr (r,[])
def aki:pb:=jB (P:=Tryz.prog) [GC,axy]
def aa5:=du.eW qC Bg lR qB Hz
def N0:CV->Option PI:=fP aa5 qC
def aa7:Ae:= {bu:=[12],loops:=oI [(5,{aV:=[3,4,13,14,15],sites:=[10,12]})],outs:=oH [(5,{aV:=[3],sites:=[10,12]},{aV:=[2]})],fE:=pW [(5,aa5)],owns:=[⟨2,[.snd,.fst],0,67⟩]}
def axF:= @Rl Tryz.prog aki aa7 0 Tryz.f5 _ aa8
abbrev aFG:=aze @axF Vd Gn RU Gp
def PH:= @dV Tryz.prog aki aa7 0 Tryz.f5 0 _ qC
abbrev Xa:=jh Tryz.prog aki aa7 0 Tryz.f5 0 qC Bg lR qB Hz
theorem akj:iy N0 Bg lR qB:=kz (jC [.d ti,.d (.slice fJ),.d ti,.d ti,.d (.slice (.pair bX fh))] λ_=>cf)
theorem RV:mY @PH qC Bg lR qB Hz Xa:=nJ
theorem N3(sum t13 t14 t15 I9)(kn:K2 R)(kx:K3 R):PH (sum,t13,t14,t15,I9) kn kx=aG (fL t15 t14) (aG (eE t15 (((List.length t13):Nat):Int)) (al (qP.call (nth fJ t13 (ab t15)).2.1) λx1=>aG (!x1) (kx (fQ ()).1 (fQ ()).2) (aG (fL (nth fJ t13 (ab t15)).1 (0:Int)) (kx (fQ ()).1 (fQ ()).2) (aG (Af (nth fJ t13 (ab t15)).1 (dG .i64 (1125899906842624:Int) sum)) (kx (fQ ()).1 (fQ ()).2) (al (Zj.call (nth fJ t13 (ab t15))) λx2=>kn (qC ((bA .i64 sum (nth fJ t13 (ab t15)).1),t13,t14,(bA .i64 t15 (1:Int)),(cY bX ((ae 32 (0:Int)),(t15,())) (x2,((0:Int),())) I9))))))) aF) (kx (Bh I9).1 (Bh I9).2):=cf
theorem aFH(outs)(k:K1 R):axF outs k=aG (Af (((List.length outs):Nat):Int) (256:Int)) (k (Gp (.inl ()))) (al (N0 ((0:Int),outs,(((List.length outs):Nat):Int),(0:Int),([]:List (cr×fj)))) λx3=>aG x3.isLeft (al x3.getLeft? λa4=>k (Gp (.inl ()))) (al x3.getRight? λb5=>k (Gp (.inr (b5,([]:List cI)))))):=cf
theorem aos:Xa:=by
 refine RV (λ(_,outs,_,i,_)=>outs.length - i.toNat) ?_
 rintro⟨sum,outs,n,i,a⟩ ⟨hg,hl,h0,h1,k,hk,rfl,rfl,hf⟩;have h0:0<=sum:=h0;have h1:sum<=1125899906842624:=h1;have hl:outs.length<=256:=hl;have hk:k<=outs.length:=hk;by_cases h:k < outs.length
 ·obtain⟨g1,g2,g3⟩:=hg _ (aR h);have n1:nth fJ outs k=outs[k]:=cj (t:=fJ) h;have hd:outs.drop k=outs[k]::outs.drop (k+1):=aq h
  have hs:∀ {R:Type} (kn:AS->Option R) (kx:Exit->AS->Option R),PH (sum,outs,(outs.length:Int),(k:Int),a) kn kx=
    aG (!(lk outs[k].2.1)) (kx (fQ ()).1 (fQ ()).2) (aG (fL outs[k].1 0) (kx (fQ ()).1 (fQ ()).2) (aG (Af outs[k].1 (1125899906842624 - sum)) (kx (fQ ()).1 (fQ ()).2)
     (al (Zj.call outs[k]) λx2=>kn (qC ((bA .i64 sum outs[k].1),outs,(outs.length:Int),(bA .i64 (k:Int) (1:Int)),(cY bX ((ae 32 (0:Int)),((k:Int),())) (x2,((0:Int),())) a)))))):=λkn kx=>by
   rw[N3,aT au,ak,aZ au au,ak,aa,n1,C7 (d:=outs[k].2.1) ⟨g1,g2⟩,gC au au];rfl
  by_cases gb:H5 sum outs[k]=aL
  ·left;have hok':=gb;unfold H5 at hok';simp only[ax,bO]at hok';obtain⟨k1,k2,k3⟩:=hok';have Zn:=abY k1;refine⟨(sum+outs[k].1,outs,(outs.length:Int),((k+1:Nat):Int),a++ [AN k outs[k]]),⟨hg,hl,by show 0<=sum+outs[k].1;omega,by show sum+outs[k].1<=_;omega,k+1,au,rfl,rfl,λp hp=> ?_⟩,by simp only[aa];omega,?_,λkn kx=> ?_⟩
   ·rcases bg.1 hp with hp | hp
    ·have:=hf p hp;omega
    ·rw[aY.1 hp];show(k:Int) < _;omega
   ·simp only[lR,qB,aa,hd,HY,gb];cases HY (sum+outs[k].1) (k+1) (outs.drop (k+1)) with
    |none=>rfl
    |some r=>simp only[iC,aM,cS]
   ·rw[hs,k1,bY,ao,aP au,ao,cw au,ao,aog (d:=outs[k]) ⟨au,λb hb=>by have:=Zn.2 b hb;omega⟩];simp only[ah,bz,ath];rw[jn au au,N.lh au,Ev gV]
    ·rfl
    ·intro hm;obtain⟨p,hp,he⟩:=eu.1 hm;have:=hf p hp;have he:p.1=_:=he;rw[he]at this;have this:(k:Int) < k:=this;omega
  ·right;have aMa:H5 sum outs[k]=aS:=by simpa using gb
   refine⟨fQ (),?_,λkn kx=> ?_⟩;rotate_left
   ·rw[hs];unfold H5 at aMa;cases k1:lk outs[k].2.1 with
    |false=>rw[dK,ak]
    |true=>
     rw[k1]at aMa;simp only[bF,decide_eq_false_iff_not]at aMa;rw[bY,ao];by_cases k2:outs[k].1 < 0
     ·rw[aT k2,ak]
     ·rw[aP k2,ao,dj au,ak]
   ·simp only[lR,qB,aa,hd,HY,aMa];rfl
 ·right;obtain rfl:k=outs.length:=au;refine⟨Bh a,?_,λkn kx=> ?_⟩;rotate_left
  ·rw[N3,aP au,ao]
  ·simp only[lR,qB,aa,aH,HY,bJ];rfl
theorem aFI:aFG:=by
 intro outs hg;rw[aFH];simp only[Gn,RU,Qp];by_cases h:outs.length<=256
 ·rw[cw au,ao,akj (d:=(0,outs,(outs.length:Int),0,[])) ⟨hg,h,eG,eG,0,aK _,rfl,rfl,λp hp=>by cases hp⟩,if_pos h];simp only[ah,lR,qB,aW,aO];cases HY 0 0 outs with
  |none=>rfl
  |some r=>rfl
 ·rw[dj au,ak,if_neg h]
def axG:=Entry.auo [aj (.slice fJ)] aa8 Vd Gn RU Gp
def oF:RT->Option akk:=NS axG aa8
theorem az4:iy oF Vd Gn RU:=arI (abI [.d (.slice fJ)] λ_=>cf)
def aot:SG Tryz.prog:=⟨5,qb,axG,.of (.aTF (.fn 1 cf aFI (And.intro (.eW aos cf) trivial))) (by rfl)⟩
def aUm(c:fj):Prop:=lk c.1.2.1=aL/\afG c.1.2.1/\0<=c.1.1/\c.1.1<=1125899906842624/\0<=c.2.1/\c.2.1<=1048576
def anE(a:List (cr×fj)):Prop:=(a.map (·.1)).Nodup/\∀p∈a,aWe p.1/\aUm p.2
theorem anE.get{a:List (cr×fj)}(h:anE a){o:cr}{c:fj}(hg:bV bX o a=aj c):aUm c:=(h.2 _ ((lA gV h.1).1 hg)).2
def aKP:fj:=((0,(([],()),())),(0,()))
abbrev CT:=Int×cR×Int×(List gK)×Int×Int×Nat×(List (cr×fj))×(List cI)×Bs
def qz:CT->AS:=λ(fS,il,kq,t35,t36,t37,o0L,jJ,eZ,n8)=>⟨([.ptr (.bW 0) 0 [] 0,bC,.d ti fS,bC,.dx dz il,bC,bC,bC,dP 8,.d ti kq]++aQ 25 ([.d (.slice fo) t35,.d ti t36,.d ti t37]++aQ 69 [])),[cO (.pr (.cK (.bW 1) 0) (.pr (.cg (.bW 2) 0 [] 0 0 o0L) jL)),cO (.mp bX fh jJ),cO (.vec 95 cv eZ)],(bk 8 ([cJ (.d tH n8)]++bk 98 []))⟩
abbrev W4:=(Nat×(List (cr×fj))×(List cI))×(Int)
def jR:W4->Exit×AS:=λ((a,b,c),e)=>(.ret,⟨(aQ 6 ([.d ti (0:Int),.d ti e]++aQ 99 [])),[cO (.pr (.cK (.bW 1) 0) (.pr (.cg (.bW 2) 0 [] 0 0 a) jL)),cO (.mp bX fh b),cO (.vec 95 cv c)],(ae 107 [])⟩)
abbrev W5:=(cR×Nat×(List (cr×fj))×(List cI))×(Int)
def Bb:W5->Exit×AS:=λ((a,b,c,e),f)=>(.exit 0,⟨([.ptr (.bW 0) 0 [] 0,bC,bC,bC,.dx dz a]++aQ 4 ([.d ti f]++aQ 97 [])),[cO (.pr (.cK (.bW 1) 0) (.pr (.cg (.bW 2) 0 [] 0 0 b) jL)),cO (.mp bX fh c),cO (.vec 95 cv e)],(ae 107 [])⟩)
abbrev PE:=(W4)⊕(W5)
abbrev aa0:=(Int)⊕(Int)
def Hw:PE->Out (Exit×AS):=λx=> .br x.isLeft (.get x.getLeft? λa=> .ok (jR a)) (.get x.getRight? λb=> .ok (Bb b))
def jQ:CT->aa0->PE:=λ(fS,il,kq,t35,t36,t37,o0L,jJ,eZ,n8) y=>match y with | .inl y=> .inl ((o0L,jJ,eZ),y) | .inr z=> .inr (((il,o0L,jJ,eZ),z))
abbrev CU:=cR×Int×(List cr)×Int×Int×Nat×(List (cr×fj))×(List cI)
def vk:CU->AS:=λ(qi,Xe,t75,t76,t77,vA,GN,pX)=>⟨([.ptr (.bW 0) 0 [] 0,bC,bC,bC,.dx dz qi]++aQ 4 ([.d ti Xe]++aQ 65 ([.d (.slice bX) t75,.d ti t76,.d ti t77]++aQ 29 []))),[cO (.pr (.cK (.bW 1) 0) (.pr (.cg (.bW 2) 0 [] 0 0 vA) jL)),cO (.mp bX fh GN),cO (.vec 95 cv pX)],(ae 107 [])⟩
abbrev W7:=Nat×(List (cr×fj))×(List cI)
def Bd:W7->Exit×AS:=λ(a,b,c)=>(.ret,⟨(aQ 6 ([.d ti (0:Int),.d ti (4:Int)]++aQ 99 [])),[cO (.pr (.cK (.bW 1) 0) (.pr (.cg (.bW 2) 0 [] 0 0 a) jL)),cO (.mp bX fh b),cO (.vec 95 cv c)],(ae 107 [])⟩)
abbrev W8:=cR×Int×Nat×(List (cr×fj))×(List cI)
def Be:W8->Exit×AS:=λ(a,b,c,e,f)=>(.exit 2,⟨(aQ 4 ([.dx dz a]++aQ 4 ([.d ti b]++aQ 97 []))),[cO (.pr (.cK (.bW 1) 0) (.pr (.cg (.bW 2) 0 [] 0 0 c) jL)),cO (.mp bX fh e),cO (.vec 95 cv f)],(ae 107 [])⟩)
abbrev PF:=(W7)⊕(W8)
abbrev aa3:=(Unit)⊕(Unit)
def Hx:PF->Out (Exit×AS):=λx=> .br x.isLeft (.get x.getLeft? λa=> .ok (Bd a)) (.get x.getRight? λb=> .ok (Be b))
def lQ:CU->aa3->PF:=λ(qi,Xe,t75,t76,t77,vA,GN,pX) y=>match y with | .inl y=> .inl (vA,GN,pX) | .inr z=> .inr ((qi,Xe,vA,GN,pX))
abbrev PG:=Int×(List gX)×Int×Int×Nat×(List (cr×fj))×(List cI)
def Bf:PG->Int->((Nat×(List (cr×fj))×(List cI))×(Int)):=λ(ah5,t93,t94,t95,acP,auC,tz) y=>((acP,auC,tz),y)
abbrev axE:=cR×Int×Nat×(List (cr×fj))×(List cI)
def By(h:Int)(id:List Int)(a:List (cr×fj)):List gK->Int->Int⊕Int
 |[],kq=> .inr kq
 |x::l,kq=>match bV bX x.1 a with
  |none=> .inl 5
  |some c=>if GO c.1.2.1 x.2.1 id h (h - c.2.1)≠0 then .inl (GO c.1.2.1 x.2.1 id h (h - c.2.1)) else By h id a l (kq+c.1.1)
def yG(a:List (cr×fj))(o:cr):Bool:=(bV bX o a).isSome
def iN(l:List gX):Int:=(l.map (·.1)).sum
def eM(t:cR)(h:Int)(a:List (cr×fj)):Int×Int:=
 if gv t=aL/\1<=h/\h<=1048576 then
  match By h (sX t) a t.1 0 with
  | .inl e=>(0,e)
  | .inr kq=>if(gl t).any (yG a)=aL then(0,4) else if kq - iN t.2.1 < 0 then(0,8) else(kq - iN t.2.1,0)
 else(0,1)
def Ba:CT->Prop:=λ(h,_,kq,l,n,i,_,a,_,id)=>(0<=h/\h<=1048576)/\Sm id/\l.length<=64/\(∀x∈l,aWb x)/\anE a/\∃k:Nat,k<=l.length/\i=k/\n=l.length/\0<=kq/\kq<=(k:Int)*1125899906842624
def oE:CT->aa0:=λ(h,_,kq,l,_,i,_,a,_,id)=>By h id a (l.drop i.toNat) kq
def Bc:CU->Prop:=λ(_,_,l,n,i,_,_,_)=>l.length<=1000/\∃k:Nat,k<=l.length/\i=k/\n=l.length
def qA:CU->aa3:=λ(_,_,l,_,i,_,a,_)=>if(l.drop i.toNat).any (yG a)=aL then .inl () else .inr ()
def akf:PG->Prop:=λ(kq,l,n,i,_,_,_)=>l.length<=64/\(∀o∈l,0<=o.1/\o.1<=1125899906842624)/\∃k:Nat,k<=l.length/\i=k/\n=l.length/\ -((k:Int)*1125899906842624)<=kq/\kq<=1000000000000000000
def Hy:PG->Int:=λ(kq,l,_,i,_,_,_)=>kq - iN (l.drop i.toNat)
def az1:axE->Prop:=λ(t,_,_,a,_)=>xx t/\anE a
def akc:axE->(Int×Int×Nat×(List (cr×fj))×(List cI)):=λ(t,h,n,a,s)=>((eM t h a).1,(eM t h a).2,n,a,s)
def aaZ:=du.eW qz Ba jQ oE Hw
def NX:CT->Option PE:=fP aaZ qz
def aa1:=du.eW vk Bc lQ qA Hx
def NY:CU->Option PF:=fP aa1 vk
def wc:Ls akf Bf Hy:=te (λ(ah5,t93,t94,t95,acP,auC,tz)=>⟨(aQ 9 ([.d ti ah5]++aQ 83 ([.d (.slice fJ) t93,.d ti t94,.d ti t95]++aQ 11 []))),[cO (.pr (.cK (.bW 1) 0) (.pr (.cg (.bW 2) 0 [] 0 0 acP) jL)),cO (.mp bX fh auC),cO (.vec 95 cv tz)],(ae 107 [])⟩) (λx=>(.exit 4,⟨(aQ 9 ([.d ti x.2]++aQ 97 [])),[cO (.pr (.cK (.bW 1) 0) (.pr (.cg (.bW 2) 0 [] 0 0 x.1.1) jL)),cO (.mp bX fh x.1.2.1),cO (.vec 95 cv x.1.2.2)],(ae 107 [])⟩))
def nh:Fs Tryz.prog az1 bz akc:=fu 36 Tryz.f36 (λ(t,height,o0baL,o1,o2)=>([.ptr (.bW 0) 0 [] 0,.d dz t,.d ti height],[.obj 0 aS (.pr (.cK (.bW 1) 0) (.pr (.cg (.bW 2) 0 [] 0 0 o0baL) (.d .unit ()))),.obj 0 aS (.mp bX fh o1),.obj 0 aS (.vec 95 cv o2)])) (λx=>⟨.cons (.d ti x.1) (.cons (.d ti x.2.1) (.nil)),[.obj 0 aS (.pr (.cK (.bW 1) 0) (.pr (.cg (.bW 2) 0 [] 0 0 x.2.2.1) (.d .unit ()))),.obj 0 aS (.mp bX fh x.2.2.2.1),.obj 0 aS (.vec 95 cv x.2.2.2.2)],[]⟩) [aF,aj dz,aj ti] [pQ,ae6,aHf,ash] {loops:=oI [(5,{aV:=[0,2,4,8,9,35,36,37],sites:=[8]}),(16,{aV:=[0,4,9,75,76,77]}),(23,{aV:=[9,93,94,95]})],outs:=oH [(5,{aV:=[0,4,9]},{aV:=[6,7]}),(16,{aV:=[4,9]},{aV:=[6,7]}),(23,{aV:=[9]},{aV:=[6,7]})],fE:=pW [(5,aaZ),(16,aa1),(23,wc.E)]}
def PD:= @dV Tryz.prog (jB nh.G) nh.an 0 Tryz.f36 0 _ qz
abbrev W3:=jh Tryz.prog (jB nh.G) nh.an 0 Tryz.f36 0 qz Ba jQ oE Hw
def aa2:= @dV Tryz.prog (jB nh.G) nh.an 0 Tryz.f36 1 _ vk
abbrev W6:=jh Tryz.prog (jB nh.G) nh.an 0 Tryz.f36 1 vk Bc lQ qA Hx
theorem akd:iy NX Ba jQ oE:=kz (jC [.d ti,.d dz,.d ti,.d (.slice fo),.d ti,.d ti,.n,.d (.slice (.pair bX fh)),.d (.slice cv),.d tB] λ_=>cf)
theorem RQ:mY @PD qz Ba jQ oE Hw W3:=nJ
theorem Fe(fS il kq t35 t36 t37 o0L jJ eZ n8)(kn:K2 R)(kx:K3 R):PD (fS,il,kq,t35,t36,t37,o0L,jJ,eZ,n8) kn kx=aG (fL t37 t36) (aG (eE t37 (((List.length t35):Nat):Int)) (aG (!(bV bX (nth fo t35 (ab t37)).1 jJ).isSome) (kx (jR ((o0L,jJ,eZ),(5:Int))).1 (jR ((o0L,jJ,eZ),(5:Int))).2) (al (nT.call (((bV bX (nth fo t35 (ab t37)).1 jJ).getD (((0:Int),((([]:List pZ),()),())),((0:Int),()))).1.2.1,(nth fo t35 (ab t37)).2.1,n8,fS,(dG .i64 fS ((bV bX (nth fo t35 (ab t37)).1 jJ).getD (((0:Int),((([]:List pZ),()),())),((0:Int),()))).2.1))) λx1=>aG (Cw x1 (0:Int)) (kx (jR ((o0L,jJ,eZ),x1)).1 (jR ((o0L,jJ,eZ),x1)).2) (kn (qz (fS,il,(bA .i64 kq ((bV bX (nth fo t35 (ab t37)).1 jJ).getD (((0:Int),((([]:List pZ),()),())),((0:Int),()))).1.1),t35,t36,(bA .i64 t37 (1:Int)),o0L,jJ,eZ,n8))))) aF) (kx (Bb ((il,o0L,jJ,eZ),kq)).1 (Bb ((il,o0L,jJ,eZ),kq)).2):=cf
theorem ake:iy NY Bc lQ qA:=kz (jC [.d dz,.d ti,.d (.slice bX),.d ti,.d ti,.n,.d (.slice (.pair bX fh)),.d (.slice cv)] λ_=>cf)
theorem RR:mY @aa2 vk Bc lQ qA Hx W6:=nJ
theorem Ff(qi Xe t75 t76 t77 vA GN pX)(kn:K2 R)(kx:K3 R):aa2 (qi,Xe,t75,t76,t77,vA,GN,pX) kn kx=aG (fL t77 t76) (aG (eE t77 (((List.length t75):Nat):Int)) (aG ((bV bX (nth bX t75 (ab t77)) GN).isSome) (kx (Bd (vA,GN,pX)).1 (Bd (vA,GN,pX)).2) (kn (vk (qi,Xe,t75,t76,(bA .i64 t77 (1:Int)),vA,GN,pX)))) aF) (kx (Be (qi,Xe,vA,GN,pX)).1 (Be (qi,Xe,vA,GN,pX)).2):=cf
theorem akg:wc.RS:=rL [.d ti,.d (.slice fJ),.d ti,.d ti,.n,.d (.slice (.pair bX fh)),.d (.slice cv)] wc
theorem NZ(ah5 t93 t94 t95 acP auC tz)(kn:K2 R)(kx:K3 R):nh.R 2 wc (ah5,t93,t94,t95,acP,auC,tz) kn kx=aG (fL t95 t94) (aG (eE t95 (t93.length:Int)) (kn (wc.st ((dG .i64 ah5 (nth fJ t93 (ab t95)).1),t93,t94,(bA .i64 t95 1),acP,auC,tz))) aF) (wc.go kx ((acP,auC,tz),ah5)):=cf
theorem aFE(t height o0baL o1 o2)(k:K1 R):nh.A (t,height,o0baL,o1,o2) k=al (ij.call t) λx1=>aG (!x1) (k (nh.out (0,1,o0baL,o1,o2))) (aG (fL height 1) (k (nh.out (0,1,o0baL,o1,o2))) (aG (Af height 1048576) (k (nh.out (0,1,o0baL,o1,o2))) (al (tid.call t) λx2=>al (NX (height,t,0,t.1,(t.1.length:Int),0,o0baL,o1,o2,x2)) λx4=>aG x4.isLeft (al x4.getLeft? λa5=>k (nh.out (0,a5.2,a5.1.1,a5.1.2.1,a5.1.2.2))) (al x4.getRight? λb6=>al (JB.call b6.1.1) λx7=>al (NY (b6.1.1,b6.2,x7,(x7.length:Int),0,b6.1.2.1,b6.1.2.2.1,b6.1.2.2.2)) λx8=>aG x8.isLeft (al x8.getLeft? λa9=>k (nh.out (0,4,a9.1,a9.2.1,a9.2.2))) (al x8.getRight? λb10=>al (wc.call (b10.2.1,b10.1.2.1,(b10.1.2.1.length:Int),0,b10.2.2.1,b10.2.2.2.1,b10.2.2.2.2)) λasG=>aG (fL asG.2 0) (k (nh.out (0,8,asG.1.1,asG.1.2.1,asG.1.2.2))) (k (nh.out (asG.2,0,asG.1.1,asG.1.2.1,asG.1.2.2)))))))):=cf
theorem aom:W3:=by
 refine RQ (λ(_,_,_,l,_,i,_,_,_,_)=>l.length - i.toNat) ?_
 rintro⟨h,t,kq,l,n,i,o,a,s,id⟩ ⟨⟨aUM,aTY⟩,dy,hl,hu,ha,k,hk,rfl,rfl,aKX,aSM⟩;have aUM:0<=h:=aUM;have aTY:h<=1048576:=aTY;have hl:l.length<=64:=hl;have aKX:0<=kq:=aKX;have aSM:kq<=(k:Int)*1125899906842624:=aSM;have hk:k<=l.length:=hk;by_cases iB:k < l.length
 ·have hx:=hu _ (aR iB);have n1:nth fo l k=l[k]:=cj (t:=fo) iB;have hd:l.drop k=l[k]::l.drop (k+1):=aq iB;cases hg:bV bX l[k].1 a with
  |none=>
   right;refine⟨jR ((o,a,s),5),?_,λkn kx=> ?_⟩;rotate_left
   ·rw[Fe,aT au,ak,aZ au au,ak,aa,n1,hg];simp only[Option.isSome_none,dK,ak]
   ·simp only[jQ,oE,aa,hd,By,hg];rfl
  |some c=>
   have hc:=ha.get hg;obtain⟨c1,c2,c3,c4,c5,c6⟩:=hc
   have vR:∀ {R:Type} (kn:AS->Option R) (kx:Exit->AS->Option R),PD (h,t,kq,l,(l.length:Int),(k:Int),o,a,s,id) kn kx=
     aG (Cw (GO c.1.2.1 l[k].2.1 id h (h - c.2.1)) 0) (kx (jR ((o,a,s),GO c.1.2.1 l[k].2.1 id h (h - c.2.1))).1 (jR ((o,a,s),GO c.1.2.1 l[k].2.1 id h (h - c.2.1))).2)
      (kn (qz (h,t,kq+c.1.1,l,(l.length:Int),((k+1:Nat):Int),o,a,s,id))):=λkn kx=>by
    rw[Fe,aT au,ak,aZ au au,ak,aa,n1,hg];simp only[Option.isSome_some,bY,ao,eB];rw[gC au au,aAU (d:=(c.1.2.1,l[k].2.1,id,h,h - c.2.1)) ⟨c2,by have:=abY c1;omega,hx.2.1,dy⟩];simp only[ah,bz,ak3];rw[jn au au,N.lh au]
   by_cases he:GO c.1.2.1 l[k].2.1 id h (h - c.2.1)=0
   ·left;refine⟨(h,t,kq+c.1.1,l,(l.length:Int),((k+1:Nat):Int),o,a,s,id),⟨⟨aUM,aTY⟩,dy,hl,hu,ha,k+1,au,rfl,rfl,by show 0<=kq+c.1.1;omega,by show kq+c.1.1<=_;omega⟩,by simp only[aa];omega,?_,λkn kx=> ?_⟩
    ·simp only[jQ,oE,aa,hd,By,hg,he,ne_eq,not_true_eq_false,bp]
    ·rw[vR,cz he,ao]
   ·right;refine⟨jR ((o,a,s),GO c.1.2.1 l[k].2.1 id h (h - c.2.1)),?_,λkn kx=> ?_⟩;rotate_left
    ·rw[vR,eA he,ak]
    ·simp only[jQ,oE,aa,hd,By,hg];rw[if_pos he];rfl
 ·right;obtain rfl:k=l.length:=au;refine⟨Bb ((t,o,a,s),kq),?_,λkn kx=> ?_⟩;rotate_left
  ·rw[Fe,aP au,ao]
  ·simp only[jQ,oE,aa,aH,By];rfl
theorem aon:W6:=by
 refine RR (λ(_,_,l,_,i,_,_,_)=>l.length - i.toNat) ?_
 rintro⟨t,kq,l,n,i,o,a,s⟩ ⟨hl,k,hk,rfl,rfl⟩;have hl:l.length<=1000:=hl;have hk:k<=l.length:=hk;by_cases iB:k < l.length
 ·have n1:nth bX l k=l[k]:=cj (t:=bX) iB;have hd:l.drop k=l[k]::l.drop (k+1):=aq iB;cases hg:(bV bX l[k] a).isSome with
  |true=>
   right;refine⟨Bd (o,a,s),?_,λkn kx=> ?_⟩;rotate_left
   ·rw[Ff,aT au,ak,aZ au au,ak,aa,n1,hg,ak]
   ·simp only[lQ,qA,aa,hd,yw,yG,hg,ot,bE];rfl
  |false=>
   left;refine⟨(t,kq,l,(l.length:Int),((k+1:Nat):Int),o,a,s),⟨hl,k+1,au,rfl,rfl⟩,by simp only[aa];omega,?_,λkn kx=> ?_⟩
   ·simp only[lQ,qA,aa,hd,yw,yG,hg,pA]
   ·rw[Ff,aT au,ak,aZ au au,ak,aa,n1,hg,ao,N.lh au]
 ·right;obtain rfl:k=l.length:=au;refine⟨Be (t,kq,o,a,s),?_,λkn kx=> ?_⟩;rotate_left
  ·rw[Ff,aP au,ao]
  ·simp only[lQ,qA,aa,aH,List.any_nil,bw,bp];rfl
theorem aoo:(nh.kA 2 wc):=by
 refine(nh.nN 2 wc) (λ(_,l,_,i,_,_,_)=>l.length - i.toNat) ?_
 rintro⟨kq,l,n,i,o,a,s⟩ ⟨hl,ho,k,hk,rfl,rfl,aKX,aSM⟩;have hl:l.length<=64:=hl;have hk:k<=l.length:=hk;have aKX: -((k:Int)*1125899906842624)<=kq:=aKX;have aSM:kq<=1000000000000000000:=aSM;by_cases iB:k < l.length
 ·left;have n1:nth fJ l k=l[k]:=cj (t:=fJ) iB;have hd:l.drop k=l[k]::l.drop (k+1):=aq iB;have hx:=ho _ (aR iB);refine⟨(kq - l[k].1,l,(l.length:Int),((k+1:Nat):Int),o,a,s),⟨hl,ho,k+1,au,rfl,rfl,by show _<=kq - l[k].1;omega,by show kq - l[k].1<=_;omega⟩,by simp only[aa];omega,?_,λkn kx=> ?_⟩
  ·simp only[Bf,Hy,aa,hd,iN,bM,jb];rw[Int.sub_sub]
  ·rw[NZ,aT au,ak,aZ au au,ak,aa,n1,gC au au,N.lh au]
 ·right;obtain rfl:k=l.length:=au;intro R kn kx;rw[NZ,aP au,ao];simp only[Bf,Hy,aa,aH,iN,gW,List.sum_nil,jO]
theorem xW{t:cR}(h:gv t=aL):(gl t).length=t.2.1.length:=by unfold gl;rw[if_pos h];simp[GD]
theorem abJ{h:Int}{id:List Int}{a:List (cr×fj)}(ha:anE a):∀(l:List gK) (kq f:Int),By h id a l kq= .inr f->kq<=f/\f<=kq+(l.length:Int)*1125899906842624
 |[],kq,f,e=>by simp only[By,Sum.inr.injEq]at e;subst e;simp
 |x::l,kq,f,e=>by
  simp only[By]at e;cases hg:bV bX x.1 a with
  |none=>rw[hg]at e;cases e
  |some c=>
   rw[hg]at e;simp only at e;split at e
   ·cases e
   ·have hc:=ha.get hg;have:=abJ ha l _ _ e;obtain⟨_,_,c3,c4,_⟩:=hc;rw[aE];omega
theorem aFF:nh.Ok:=by
 rintro⟨t,h,n,a,s⟩ ⟨hv,ha⟩;have hv:xx t:=hv;have ha:anE a:=ha;rw[aFE,kX (d:=t) hv.1];simp only[ah,bz,nG,bz,akc,eM];by_cases gb:gv t=aL
 ·rw[gb,bY,ao];obtain⟨⟨_,a2,a3,_⟩,b1,b2⟩:=iZ gb;by_cases h1:1<=h
  ·rw[aP au,ao];by_cases h2:h<=1048576
   ·rw[cw au,ao,if_pos ⟨rfl,h1,h2⟩,UE (d:=t) hv];simp only[ah,bz,ajB];rw[akd (d:=(h,t,0,t.1,(t.1.length:Int),0,n,a,s,sX t)) ⟨⟨by show 0<=h;omega,h2⟩,afu,a2,hv.2.1,ha,0,aK _,rfl,rfl,eG,eG⟩];simp only[ah,jQ,oE,aW,aO];cases hi:By h (sX t) a t.1 0 with
    |inl e=>
     simp only[ng,ak,ko,ah]
    |inr kq=>
     have hb:=abJ ha _ _ _ hi;simp only[dN,ao,cV,ah];rw[ajC (d:=t) hv];simp only[ah,bz,aap];rw[ake (d:=(t,kq,gl t,((gl t).length:Int),0,n,a,s)) ⟨by rw[xW gb];omega,0,aK _,rfl,rfl⟩];simp only[ah,lQ,qA,aW,aO];by_cases hm:(gl t).any (yG a)=aL
     ·rw[if_pos hm];simp only[ng,ak,ko,ah,bE,hm]
     ·rw[if_neg hm];simp only[dN,ao,cV,ah];rw[akg (d:=(kq,t.2.1,(t.2.1.length:Int),0,n,a,s)) ⟨a3,λo ho=>(kK _ _ b2 o ho).1,0,aK _,rfl,rfl,by show -((0:Int)*_)<=kq;omega,by show kq<=_;omega⟩];simp only[ah,Bf,Hy,aW,aO];rw[if_neg hm];by_cases hf:kq - iN t.2.1 < 0
      ·rw[aT hf,ak,if_pos hf]
      ·rw[aP hf,ao,if_neg hf]
   ·rw[dj au,ak,if_neg (λe=>h2 e.2.2)]
  ·rw[aT au,ak,if_neg (λe=>h1 e.2.1)]
 ·have hok':gv t=aS:=by simpa using gb
  rw[hok',dK,ak,if_neg (λe=>by cases e.1)]
theorem ah0:nh.RS:=rE [.d dz,.d ti,.n,.d (.slice (.pair bX fh)),.d (.slice cv)] nh
def aa4:=nh.fI aFF 3 ⟨.eW aom,⟨.eW aon,⟨.eW aoo,trivial⟩⟩⟩
end Go.Ab
end
