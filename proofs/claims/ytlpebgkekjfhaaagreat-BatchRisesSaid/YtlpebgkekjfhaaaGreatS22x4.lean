/-
  Made short by a program of mine (wip/tools/mini.py).
-/
import Derived.Test.YtlpebgkekjfhaaaGreatS22x3
import Derived.Test.YtlpebgkekjfhaaaGreatProg
import Derived.Shelf.SlSortCmp.NoneTotal
set_option linter.unusedVariables false
set_option linter.unusedSimpArgs false
set_option maxRecDepth 100000
set_option synthInstance.maxSize 5000
noncomputable section
namespace Go.Ab
open Go.Proofs
abbrev binary.D:=Bs
abbrev binary.Y:=Int
def binary.bf:binary.D->Prop:=λb=>4<=b.length
def binary.F:binary.D->binary.Y:=λb=>vw (OJ (b.getD 0 0) (b.getD 1 0) (b.getD 2 0) (b.getD 3 0))
def binary:Fs Tryz.prog binary.bf bS binary.F:=fS 277 Tryz.f277 (λb=>([.d tB b],[])) (λx=>⟨.d (.int .u32) x,[],[]⟩) [some tB]
theorem binary.eq{R:Type}(b)(k:K1 R):binary.A b k=
 aO (gK 0 (b.length:Int)) (
 aO (gK 1 (b.length:Int)) (
 aO (gK 2 (b.length:Int)) (
 aO (gK 3 (b.length:Int)) (
 k (binary.out (di .or .u32 (di .or .u32 (di .or .u32 (lP .u32 (dF .u32 (nth tb b 0)) 24) (lP .u32 (dF .u32 (nth tb b 1)) 16)) (lP .u32 (dF .u32 (nth tb b 2)) 8)) (dF .u32 (nth tb b 3))))) none) none) none) none:=by kernel_rfl
theorem binary.ok:binary.Ok:=by
 intro b h
 have h:4<=b.length:=h
 rw[binary.eq,bM (by omega) (by omega),bM (by omega) (by omega),bM (by omega) (by omega),bM (by omega) (by omega)]
 simp only[aj,JF,Cx,rv]
 rfl
theorem binary.run:binary.RS:=rE [.d tB] binary
def binary.sg:=binary.gl binary.ok
abbrev dS.D:=Int×Int
abbrev dS.Y:=Int
def rl(w:W)(k:Nat):W:=w <<< k ||| w >>> (32 - k)
def dS.bf:dS.D->Prop:=λ(x,k)=>0<=x/\x < 4294967296
def dS.F:dS.D->dS.Y:=λ(x,k)=>vw (rl (BitVec.ofInt 32 x) (k%32).toNat)
def dS:Fs Tryz.prog dS.bf bS dS.F:=fS 248 Tryz.f248 (λ(x,kv)=>([.d (.int .u32) x,.d ti kv],[])) (λx=>⟨.d (.int .u32) x,[],[]⟩) [some (.int .u32),some ti]
theorem dS.eq{R:Type}(x kv)(k:K1 R):dS.A (x,kv) k=
 aO (lF (di .and .u64 (dF .u64 kv) 31)) (
 aO (lF (df .u64 32 (di .and .u64 (dF .u64 kv) 31))) (
 k (dS.out (di .or .u32 (lP .u32 x (di .and .u64 (dF .u64 kv) 31)) (bZ .u32 x (df .u64 32 (di .and .u64 (dF .u64 kv) 31)))))) none) none:=by kernel_rfl
theorem Nd(k:Int):di .and .u64 (dF .u64 k) 31=k%32:=by
 have e:(31:Int)=vw (31:BitVec 64):=rfl
 rw[JG,e,FO]
 simp only
 have:(31:BitVec 64)=BitVec.ofNat 64 (2^5 - 1):=rfl
 unfold vw
 rw[BitVec.toNat_and,kB,show(31:BitVec 64).toNat=2^5 - 1 from rfl,Nat.and_two_pow_sub_one_eq_mod]
 omega
theorem dS.ok:dS.Ok:=by
 rintro⟨x,k⟩ ⟨h1,h2⟩
 have e1:df .u64 32 (k%32)=32 - k%32:=by
  unfold df
  rw[wrap_u64,jg]
  omega
 have hx:x=vw (BitVec.ofInt 32 x):=by rw[jg];omega
 rw[dS.eq,Nd,e1,oZ (by omega),oZ (by omega)]
 simp only[aj]
 have e2:di .or .u32 (lP .u32 x (k%32)) (bZ .u32 x (32 - k%32))=vw (rl (BitVec.ofInt 32 x) (k%32).toNat):=by
  conv=>lhs;rw[hx]
  rw[Cx,xR,rv]
  simp only[rl]
  congr 3
  omega
 rw[e2]
 rfl
theorem dS.run:dS.RS:=rE [.d (.int .u32),.d ti] dS
def dS.sg:=dS.gl dS.ok
theorem dS.at(w:W)(k:Int):dS.call (vw w,k)=some (vw (rl w (k%32).toNat)):=by
 have h:dS.bf (vw w,k):=⟨AE w,by have:=KV w;simpa using this⟩
 rw[dS.run h]
 show some (vw (rl (BitVec.ofInt 32 (vw w)) (k%32).toNat))=_
 rw[mH]
abbrev table.D:=Unit
abbrev table.Y:=(List Int)
def table.bf:table.D->Prop:=λ_=>True
def table.F:table.D->table.Y:=λ_=>Cz
def table:Fs Tryz.prog table.bf bS table.F:=fS 247 Tryz.f247 (λ_=>([],[])) (λx=>⟨.d (.arr 64 (.int .u32)) x,[],[]⟩) []
theorem table.eq{R:Type}(d)(k:K1 R):table.A d k=
 k (table.out [1116352408,1899447441,3049323471,3921009573,961987163,1508970993,2453635748,2870763221,3624381080,310598401,607225278,1426881987,1925078388,2162078206,2614888103,3248222580,3835390401,4022224774,264347078,604807628,770255983,1249150122,1555081692,1996064986,2554220882,2821834349,2952996808,3210313671,3336571891,3584528711,113926993,338241895,666307205,773529912,1294757372,1396182291,1695183700,1986661051,2177026350,2456956037,2730485921,2820302411,3259730800,3345764771,3516065817,3600352804,4094571909,275423344,430227734,506948616,659060556,883997877,958139571,1322822218,1537002063,1747873779,1955562222,2024104815,2227730452,2361852424,2428436474,2756734187,3204031479,3329325298]):=by kernel_rfl
theorem table.ok:table.Ok:=by
 intro d _
 rw[table.eq]
 rfl
theorem table.run:table.RS:=rE [] table
def table.sg:=table.gl table.ok
abbrev first.D:=Unit
abbrev first.Y:=(List Int)
def first.bf:first.D->Prop:=λ_=>True
def first.F:first.D->first.Y:=λ_=>oh.l
def first:Fs Tryz.prog first.bf bS first.F:=fS 201 Tryz.f201 (λ_=>([],[])) (λx=>⟨.d (.arr 8 (.int .u32)) x,[],[]⟩) []
theorem first.eq{R:Type}(d)(k:K1 R):first.A d k=
 k (first.out [1779033703,3144134277,1013904242,2773480762,1359893119,2600822924,528734635,1541459225]):=by kernel_rfl
theorem first.ok:first.Ok:=by
 intro d _
 rw[first.eq]
 rfl
theorem first.run:first.RS:=rE [] first
def first.sg:=first.gl first.ok
abbrev schedule.L0.D:=Bs×Int×(List Int)
abbrev schedule.L0.Y:=(List Int)
abbrev schedule.D:=Bs
abbrev schedule.Y:=(List Int)
def wl(l:List W):List Int:=l.map vw
def qw(l:List W):List Int:=wl l++List.replicate (64 - l.length) 0
def qf(b:List Int)(k:Nat):List W:=if k<=16 then(words b).take k else OA (words b) (k - 16)
def schedule.L0.bf:schedule.L0.D->Prop:=λ(b,t8,n2)=>64<=b.length/\∃k:Nat,k<=64/\t8=k/\n2=qw (qf b k)
def schedule.L0.F:schedule.L0.D->schedule.L0.Y:=λ(b,t8,n2)=>wl (sched b)
def schedule.bf:schedule.D->Prop:=λb=>64<=b.length
def schedule.F:schedule.D->schedule.Y:=λb=>wl (sched b)
def schedule.L0:Ls schedule.L0.bf bS schedule.L0.F:=so (λ(qh,t8,n2)=>⟨([.d tB qh,.undef,.ptr (.new 2 0) 0 [] 0]++bE 5 ([.d ti t8]++bE 52 [])),[],([[],[],[.obj 0 false (.d (.arr 64 (.int .u32)) n2)]]++cS 58 [])⟩) (λx=>(.exit 0,⟨([.undef,.undef,.ptr (.new 2 0) 0 [] 0]++bE 58 []),[],([[],[],[.obj 0 false (.d (.arr 64 (.int .u32)) x)]]++cS 58 [])⟩))
def schedule:Fs Tryz.prog schedule.bf bS schedule.F:=fS 246 Tryz.f246 (λb=>([.d tB b],[])) (λx=>⟨.d (.arr 64 (.int .u32)) x,[],[]⟩) [some tB] [binary.sg,dS.sg] {loops:=qP [(2,{bI:=[0,2,8],sites:=[2]})],outs:=qO [(2,{bI:=[2],sites:=[2]},{bI:=[2]})],jK:=sm [(2,schedule.L0.E)]}
theorem schedule.L0.run:schedule.L0.RS:=rL [.d tB,.d ti,.d (.slice (.int .u32))] schedule.L0
theorem schedule.L0.step{R:Type}(qh t8 n2)(kn:K2 R)(kx:K3 R):schedule.R 0 schedule.L0 (qh,t8,n2) kn kx=
  aO ((ju t8 64)) (
   aO ((ju t8 16)) (
    aO (inc (gu .i64 4 t8) (qh.length:Int)) (
    aA (binary.call (cut qh (Int.toNat (gu .i64 4 t8)) ((List.length qh) - (Int.toNat (gu .i64 4 t8))))) λx1=>
    aO (gK t8 64) (
    aO (decide ((Int.toNat t8) < (List.length n2))) (
    aO (decide ((((Int.toNat t8)*1)+0)=(0+((Int.toNat t8)*1)))) (
    aO (decide ((Int.toNat t8) < (List.length n2))) (
    kn (schedule.L0.st (qh,(bW .i64 t8 1),(List.set n2 (Int.toNat t8) x1)))) none) none) none) none) none) (
    aO (gK (df .i64 t8 15) 64) (
    aO (decide ((Int.toNat (df .i64 t8 15)) < (List.length n2))) (
    aO (decide ((((Int.toNat (df .i64 t8 15))*1)+0)=(0+((Int.toNat (df .i64 t8 15))*1)))) (
    aO (gK (df .i64 t8 2) 64) (
    aO (decide ((Int.toNat (df .i64 t8 2)) < (List.length n2))) (
    aO (decide ((((Int.toNat (df .i64 t8 2))*1)+0)=(0+((Int.toNat (df .i64 t8 2))*1)))) (
    aA (dS.call ((nth (.int .u32) n2 (Int.toNat (df .i64 t8 15))),(-7))) λx2=>
    aA (dS.call ((nth (.int .u32) n2 (Int.toNat (df .i64 t8 15))),(-18))) λx3=>
    aA (dS.call ((nth (.int .u32) n2 (Int.toNat (df .i64 t8 2))),(-17))) λx4=>
    aA (dS.call ((nth (.int .u32) n2 (Int.toNat (df .i64 t8 2))),(-19))) λx5=>
    aO (gK (df .i64 t8 16) 64) (
    aO (decide ((Int.toNat (df .i64 t8 16)) < (List.length n2))) (
    aO (decide ((((Int.toNat (df .i64 t8 16))*1)+0)=(0+((Int.toNat (df .i64 t8 16))*1)))) (
    aO (gK (df .i64 t8 7) 64) (
    aO (decide ((Int.toNat (df .i64 t8 7)) < (List.length n2))) (
    aO (decide ((((Int.toNat (df .i64 t8 7))*1)+0)=(0+((Int.toNat (df .i64 t8 7))*1)))) (
    aO (gK t8 64) (
    aO (decide ((Int.toNat t8) < (List.length n2))) (
    aO (decide ((((Int.toNat t8)*1)+0)=(0+((Int.toNat t8)*1)))) (
    aO (decide ((Int.toNat t8) < (List.length n2))) (
    kn (schedule.L0.st (qh,(bW .i64 t8 1),(List.set n2 (Int.toNat t8) (bW .u32 (bW .u32 (bW .u32 (nth (.int .u32) n2 (Int.toNat (df .i64 t8 16))) (di .xor .u32 (di .xor .u32 x2 x3) (bZ .u32 (nth (.int .u32) n2 (Int.toNat (df .i64 t8 15))) 3))) (nth (.int .u32) n2 (Int.toNat (df .i64 t8 7)))) (di .xor .u32 (di .xor .u32 x4 x5) (bZ .u32 (nth (.int .u32) n2 (Int.toNat (df .i64 t8 2))) 10))))))) none) none) none) none) none) none) none) none) none) none) none) none) none) none) none) none)) (
   schedule.L0.go kx n2):=by kernel_rfl
theorem schedule.eq{R:Type}(b)(k:K1 R):schedule.A b k=
 aA (schedule.L0.call (b,0,(List.replicate 64 0))) λx6=>
 k (schedule.out x6):=by kernel_rfl
theorem Dt(b:List Int)(k:Nat)(h:k<=64):(qf b k).length=k:=by
 unfold qf
 split
 ·simp[lM];omega
 ·rw[tv,lM];omega
theorem Ka(b:List Int):qf b 64=sched b:=rfl
theorem G4(b:List Int)(k:Nat)(h:k < 16):qf b (k+1)=qf b k++ [be b k]:=by
 unfold qf
 rw[if_pos (by omega),if_pos (by omega),List.take_succ_eq_append_getElem (by rw[lM];exact h)]
 simp[words]
theorem IV(b:List Int)(k:Nat)(h:16<=k):qf b (k+1)=ext (qf b k):=by
 unfold qf
 rw[if_neg (by omega)]
 by_cases Ps:k=16
 ·subst Ps
  rw[if_pos (by omega),bo (by rw[lM];omega)]
  rfl
 ·rw[if_neg (by omega),show k+1 - 16=(k - 16)+1 by omega]
  rfl
theorem AN(l:List W)(h:l.length<=64):(qw l).length=64:=by simp[qw,wl];omega
theorem ru(l:List W)(i:Nat)(h:i < l.length):nth (.int .u32) (qw l) i=vw (l.getD i 0):=by
 unfold nth qw wl
 rw[ax,dO (by simpa using h)]
 simp[h]
theorem zH(l:List W)(w:W)(h:l.length < 64):(qw l).set l.length (vw w)=qw (l++ [w]):=by
 unfold qw wl
 rw[List.set_append_right _ _ (by simp)]
 simp only[cj,Nat.sub_self,List.map_append,au,aC,aZ]
 rw[show 64 - l.length=(64 - (l.length+(0+1)))+1 by omega,List.replicate_succ,List.set_cons_zero]
 simp
theorem DK(l:List W)(h:l.length=64):qw l=wl l:=by simp[qw,h]
theorem K6(b:List Int)(k:Nat)(h:4*k+4<=b.length):OJ ((cut b (4*k) (b.length - 4*k)).getD 0 0) ((cut b (4*k) (b.length - 4*k)).getD 1 0) ((cut b (4*k) (b.length - 4*k)).getD 2 0) ((cut b (4*k) (b.length - 4*k)).getD 3 0)=be b k:=by
 have e:∀j,j < 4->(cut b (4*k) (b.length - 4*k)).getD j 0=b.getD (4*k+j) 0:=λj hj=>by
  unfold cut
  rw[ax,ax,List.getElem?_take_of_lt (by omega),ew]
 unfold be
 rw[e 0 (by omega),e 1 (by omega),e 2 (by omega),e 3 (by omega),ct]
theorem schedule.L0.ok:(schedule.mf 0 schedule.L0):=by
 refine(schedule.nN 0 schedule.L0) (λ(b,t8,n2)=>64 - t8.toNat) ?_
 rintro⟨b,t8,n2⟩ ⟨hb,k,hk,rfl,rfl⟩
 have MU:=Dt b k hk
 have HI:=AN (qf b k) (by omega)
 by_cases h:k < 64
 ·left
  refine⟨(b,((k+1:Nat):Int),qw (qf b (k+1))),⟨hb,k+1,by omega,rfl,rfl⟩,by simp;omega,rfl,λkn kx=> ?_⟩
  have e1:bW .i64 (k:Int) 1=((k+1:Nat):Int):=by rw[eP (by omega) (by omega)];omega
  have e2:Int.toNat (k:Int)=k:=by omega
  rw[schedule.L0.step,bq (by omega)]
  simp only[aj,e1,e2,HI,mq,aR,ct,decide_true]
  by_cases Ps:k < 16
  ·have e3:gu .i64 4 (k:Int)=((4*k:Nat):Int):=by rw[pz (by omega) (by omega)];omega
   have e4:Int.toNat ((4*k:Nat):Int)=4*k:=by omega
   rw[bq (by omega),e3,jF (by omega) (by omega),e4,bM (by omega) (by omega),aY h]
   have hp:binary.bf (cut b (4*k) (b.length - 4*k)):=by
    show 4<=_
    rw[oc (by omega)];omega
   simp only[aj,binary.run hp,ah]
   have e5:bS (cut b (4*k) (b.length - 4*k)) (binary.F (cut b (4*k) (b.length - 4*k)))=vw (be b k):=by
    show vw (OJ _ _ _ _)=_
    rw[K6 b k (by omega)]
   have e6:=zH (qf b k) (be b k) (by omega)
   rw[MU]at e6
   rw[e5,e6,G4 b k Ps]
  ·have a15:Int.toNat (df .i64 (k:Int) 15)=k - 15:=by rw[dM (by omega) (by omega)];omega
   have a2:Int.toNat (df .i64 (k:Int) 2)=k - 2:=by rw[dM (by omega) (by omega)];omega
   have a16:Int.toNat (df .i64 (k:Int) 16)=k - 16:=by rw[dM (by omega) (by omega)];omega
   have a7:Int.toNat (df .i64 (k:Int) 7)=k - 7:=by rw[dM (by omega) (by omega)];omega
   have i15:gK (df .i64 (k:Int) 15) 64=true:=bM (by rw[dM (by omega) (by omega)];omega) (by rw[dM (by omega) (by omega)];omega)
   have i2:gK (df .i64 (k:Int) 2) 64=true:=bM (by rw[dM (by omega) (by omega)];omega) (by rw[dM (by omega) (by omega)];omega)
   have i16:gK (df .i64 (k:Int) 16) 64=true:=bM (by rw[dM (by omega) (by omega)];omega) (by rw[dM (by omega) (by omega)];omega)
   have i7:gK (df .i64 (k:Int) 7) 64=true:=bM (by rw[dM (by omega) (by omega)];omega) (by rw[dM (by omega) (by omega)];omega)
   have i0:gK (k:Int) 64=true:=bM (by omega) (by omega)
   have d15:decide (k - 15 < 64)=true:=aY (by omega)
   have d2:decide (k - 2 < 64)=true:=aY (by omega)
   have d16:decide (k - 16 < 64)=true:=aY (by omega)
   have d7:decide (k - 7 < 64)=true:=aY (by omega)
   have d0:decide (k < 64)=true:=aY h
   rw[bn (by omega)]
   simp only[aj,aq,a15,a2,a16,a7,i15,i2,i16,i7,i0,d15,d2,d16,d7,d0,ru (qf b k) (k - 15) (by omega),ru (qf b k) (k - 2) (by omega),ru (qf b k) (k - 16) (by omega),ru (qf b k) (k - 7) (by omega),dS.at,ah,rv,xR,xL]
   have e6:=zH (qf b k) (KL (qf b k) k) (by omega)
   rw[MU]at e6
   rw[IV b k (by omega),ext,MU,<-e6]
   rfl
 ·right
  obtain rfl:k=64:=by omega
  intro R kn kx
  rw[schedule.L0.step,bn (by omega),DK _ MU,Ka]
  simp only[aq,bS,schedule.L0.F]
theorem schedule.ok:schedule.Ok:=by
 intro b hb
 have hp:schedule.L0.bf (b,0,List.replicate 64 0):=⟨hb,0,by omega,rfl,rfl⟩
 rw[schedule.eq,schedule.L0.run hp]
 simp only[ah,bS,schedule.L0.F,bS,schedule.F]
theorem schedule.run:schedule.RS:=rE [.d tB] schedule
def schedule.sg:=schedule.gl schedule.ok 1 ⟨.jG schedule.L0.ok,trivial⟩
abbrev mix.L0.D:=(List Int)×Int×(List Int)×(List Int)×(List Int)×(List Int)
abbrev mix.L0.Y:=(List Int)
abbrev mix.L0.X:=((List Int)×(List Int))×((List Int))
def mix.L0.add:mix.L0.D->mix.L0.Y->mix.L0.X:=λ(LD,t18,n4,n5,n6,n7) y=>((LD,n4),y)
abbrev mix.L1.D:=(List Int)×Int×(List Int)×(List Int)
abbrev mix.L1.Y:=(List Int)
abbrev mix.L1.X:=((List Int))×((List Int))
def mix.L1.add:mix.L1.D->mix.L1.Y->mix.L1.X:=λ(MJ,t104,ud,zo) y=>(ud,y)
abbrev mix.D:=(List Int)×Bs
abbrev mix.Y:=(List Int)
def G1(l:List Int):St:=⟨BitVec.ofInt 32 (l.getD 0 0),BitVec.ofInt 32 (l.getD 1 0),BitVec.ofInt 32 (l.getD 2 0),BitVec.ofInt 32 (l.getD 3 0),BitVec.ofInt 32 (l.getD 4 0),BitVec.ofInt 32 (l.getD 5 0),BitVec.ofInt 32 (l.getD 6 0),BitVec.ofInt 32 (l.getD 7 0)⟩
theorem oI(s:St):G1 s.l=s:=by
 obtain⟨a,b,c,d,e,f,g,h⟩:=s
 simp[G1,St.l,mH]
def MB(l:List Int):List W:=l.map (BitVec.ofInt 32)
theorem FE(l:List W):MB (wl l)=l:=by
 unfold MB wl
 rw[List.map_map]
 have:(BitVec.ofInt 32∘vw)=(id:W->W):=by funext w;exact mH w
 rw[this,List.map_id]
def mix.L0.bf:mix.L0.D->Prop:=λ(h,t,n4,n5,n6,n7)=>∃(s:St) (ws:List W) (k:Nat),h=s.l/\n5=wl ws/\ws.length=64/\k<=64/\t=k/\n6=Cz/\n7=(rounds ws s k).l
def mix.L0.F:mix.L0.D->mix.L0.Y:=λ(h,t,n4,n5,n6,n7)=>(rounds (MB n5) (G1 h) 64).l
def mix.L1.bf:mix.L1.D->Prop:=λ(h,t,n4,n7)=>n7.length=8/\∃k:Nat,k<=8/\t=k
def mix.L1.F:mix.L1.D->mix.L1.Y:=λ(h,t,n4,n7)=>from_ (λi x=>bW .u32 x (nth (.int .u32) h i)) t.toNat n7
def mix.bf:mix.D->Prop:=λ(h,b)=>(∃s:St,h=s.l)/\64<=b.length
def mix.F:mix.D->mix.Y:=λ(h,b)=>(Gt (G1 h) b).l
def mix.L0:Ls mix.L0.bf mix.L0.add mix.L0.F:=so (λ(LD,t18,n4,n5,n6,n7)=>⟨([.undef,.undef,.eW (.arr 8 (.int .u32)) LD,.undef,.ptr (.new 4 0) 0 [] 0,.ptr (.new 5 0) 0 [] 0,.ptr (.new 6 0) 0 [] 0,.ptr (.new 7 0) 0 [] 0]++bE 10 ([.d ti t18]++bE 98 [])),[],(cS 4 ([[.obj 0 false (.d (.arr 8 (.int .u32)) n4)],[.obj 0 false (.d (.arr 64 (.int .u32)) n5)],[.obj 0 false (.d (.arr 64 (.int .u32)) n6)],[.obj 0 false (.d (.arr 8 (.int .u32)) n7)]]++cS 109 []))⟩) (λx=>(.exit 0,⟨([.undef,.undef,.eW (.arr 8 (.int .u32)) x.1.1,.undef,.ptr (.new 4 0) 0 [] 0,.undef,.undef,.ptr (.new 7 0) 0 [] 0]++bE 109 []),[],(cS 4 ([[.obj 0 false (.d (.arr 8 (.int .u32)) x.1.2)],[],[],[.obj 0 false (.d (.arr 8 (.int .u32)) x.2)]]++cS 109 []))⟩))
def mix.L1:Ls mix.L1.bf mix.L1.add mix.L1.F:=so (λ(MJ,t104,ud,zo)=>⟨([.undef,.undef,.eW (.arr 8 (.int .u32)) MJ,.undef,.ptr (.new 4 0) 0 [] 0,.undef,.undef,.ptr (.new 7 0) 0 [] 0]++bE 96 ([.d ti t104]++bE 12 [])),[],(cS 4 ([[.obj 0 false (.d (.arr 8 (.int .u32)) ud)],[],[],[.obj 0 false (.d (.arr 8 (.int .u32)) zo)]]++cS 109 []))⟩) (λx=>(.exit 2,⟨(bE 4 ([.ptr (.new 4 0) 0 [] 0,.undef,.undef,.ptr (.new 7 0) 0 [] 0]++bE 109 [])),[],(cS 4 ([[.obj 0 false (.d (.arr 8 (.int .u32)) x.1)],[],[],[.obj 0 false (.d (.arr 8 (.int .u32)) x.2)]]++cS 109 []))⟩))
def mix:Fs Tryz.prog mix.bf bS mix.F:=fS 202 Tryz.f202 (λ(h,b)=>([.d (.arr 8 (.int .u32)) h,.d tB b],[])) (λx=>⟨.d (.arr 8 (.int .u32)) x,[],[]⟩) [some (.arr 8 (.int .u32)),some tB] [schedule.sg,table.sg,dS.sg] {loops:=qP [(4,{bI:=[2,4,5,6,7,18],sites:=[4,5,6,7]}),(13,{bI:=[2,4,7,104],sites:=[4,7]})],outs:=qO [(4,{bI:=[2,4,7],sites:=[4,7]},{bI:=[4]}),(13,{bI:=[4,7],sites:=[4,7]},{bI:=[4]})],jK:=sm [(4,mix.L0.E),(13,mix.L1.E)]}
theorem mix.L0.run:mix.L0.RS:=rL [.d (.arr 8 (.int .u32)),.d ti,.d (.slice (.int .u32)),.d (.slice (.int .u32)),.d (.slice (.int .u32)),.d (.slice (.int .u32))] mix.L0
theorem mix.L0.step{R:Type}(LD t18 n4 n5 n6 n7)(kn:K2 R)(kx:K3 R):mix.R 0 mix.L0 (LD,t18,n4,n5,n6,n7) kn kx=
  aO ((ju t18 64)) (
   aO (decide (4 < (List.length n7))) (
   aA (dS.call ((nth (.int .u32) n7 4),(-6))) λx1=>
   aO (decide (4 < (List.length n7))) (
   aA (dS.call ((nth (.int .u32) n7 4),(-11))) λx2=>
   aO (decide (4 < (List.length n7))) (
   aA (dS.call ((nth (.int .u32) n7 4),(-25))) λx3=>
   aO (decide (7 < (List.length n7))) (
   aO (decide (6 < (List.length n7))) (
   aO (decide (4 < (List.length n7))) (
   aO (decide (5 < (List.length n7))) (
   aO (decide (6 < (List.length n7))) (
   aO (gK t18 64) (
   aO (decide ((Int.toNat t18) < (List.length n6))) (
   aO (decide ((((Int.toNat t18)*1)+0)=(0+((Int.toNat t18)*1)))) (
   aO (gK t18 64) (
   aO (decide ((Int.toNat t18) < (List.length n5))) (
   aO (decide ((((Int.toNat t18)*1)+0)=(0+((Int.toNat t18)*1)))) (
   aO (decide (0 < (List.length n7))) (
   aA (dS.call ((nth (.int .u32) n7 0),(-2))) λx4=>
   aO (decide (0 < (List.length n7))) (
   aA (dS.call ((nth (.int .u32) n7 0),(-13))) λx5=>
   aO (decide (0 < (List.length n7))) (
   aA (dS.call ((nth (.int .u32) n7 0),(-22))) λx6=>
   aO (decide (0 < (List.length n7))) (
   aO (decide (1 < (List.length n7))) (
   aO (decide (2 < (List.length n7))) (
   aO (decide (0 < (List.length n7))) (
   aO (decide (1 < (List.length n7))) (
   aO (decide (0 < (List.length n7))) (
   aO (decide (1 < (List.length n7))) (
   aO (decide (2 < (List.length n7))) (
   aO (decide (3 < (List.length n7))) (
   aO (decide (4 < (List.length n7))) (
   aO (decide (5 < (List.length n7))) (
   aO (decide (6 < (List.length n7))) (
   kn (mix.L0.st (LD,(bW .i64 t18 1),n4,n5,n6,[(bW .u32 (bW .u32 (bW .u32 (bW .u32 (bW .u32 (bW .u32 (nth (.int .u32) n7 7) (di .xor .u32 (di .xor .u32 x1 x2) x3)) (di .xor .u32 (nth (.int .u32) n7 6) (di .and .u32 (nth (.int .u32) n7 4) (di .xor .u32 (nth (.int .u32) n7 5) (nth (.int .u32) n7 6))))) (nth (.int .u32) n6 (Int.toNat t18))) (nth (.int .u32) n5 (Int.toNat t18))) (di .xor .u32 (di .xor .u32 x4 x5) x6)) (di .or .u32 (di .and .u32 (nth (.int .u32) n7 0) (nth (.int .u32) n7 1)) (di .and .u32 (nth (.int .u32) n7 2) (di .or .u32 (nth (.int .u32) n7 0) (nth (.int .u32) n7 1))))),(nth (.int .u32) n7 0),(nth (.int .u32) n7 1),(nth (.int .u32) n7 2),(bW .u32 (nth (.int .u32) n7 3) (bW .u32 (bW .u32 (bW .u32 (bW .u32 (nth (.int .u32) n7 7) (di .xor .u32 (di .xor .u32 x1 x2) x3)) (di .xor .u32 (nth (.int .u32) n7 6) (di .and .u32 (nth (.int .u32) n7 4) (di .xor .u32 (nth (.int .u32) n7 5) (nth (.int .u32) n7 6))))) (nth (.int .u32) n6 (Int.toNat t18))) (nth (.int .u32) n5 (Int.toNat t18)))),(nth (.int .u32) n7 4),(nth (.int .u32) n7 5),(nth (.int .u32) n7 6)]))) none) none) none) none) none) none) none) none) none) none) none) none) none) none) none) none) none) none) none) none) none) none) none) none) none) none) none) none) none) (
   mix.L0.go kx ((LD,n4),n7)):=by kernel_rfl
theorem mix.L1.run:mix.L1.RS:=rL [.d (.arr 8 (.int .u32)),.d ti,.d (.slice (.int .u32)),.d (.slice (.int .u32))] mix.L1
theorem mix.L1.step{R:Type}(MJ t104 ud zo)(kn:K2 R)(kx:K3 R):mix.R 1 mix.L1 (MJ,t104,ud,zo) kn kx=
  aO ((ju t104 8)) (
   aO (gK t104 8) (
   aO (decide ((Int.toNat t104) < (List.length zo))) (
   aO (decide ((((Int.toNat t104)*1)+0)=(0+((Int.toNat t104)*1)))) (
   aO (gK t104 8) (
   aO (gK t104 8) (
   aO (decide ((Int.toNat t104) < (List.length zo))) (
   aO (decide ((((Int.toNat t104)*1)+0)=(0+((Int.toNat t104)*1)))) (
   aO (decide ((Int.toNat t104) < (List.length zo))) (
   kn (mix.L1.st (MJ,(bW .i64 t104 1),ud,(List.set zo (Int.toNat t104) (bW .u32 (nth (.int .u32) zo (Int.toNat t104)) (nth (.int .u32) MJ (Int.toNat t104))))))) none) none) none) none) none) none) none) none) (
   mix.L1.go kx (ud,zo)):=by kernel_rfl
theorem mix.eq{R:Type}(h b)(k:K1 R):mix.A (h,b) k=
 aA (schedule.call b) λx1=>
 aA (table.call ()) λx2=>
 aA (mix.L0.call (h,0,(List.replicate 8 0),x1,x2,h)) λx9=>
 aA (mix.L1.call (x9.1.1,0,x9.1.2,x9.2)) λI9=>
 k (mix.out I9.2):=by kernel_rfl
theorem St.H3(s:St):s.l.length=8:=rfl
theorem CA:Cz.length=64:=rfl
theorem H0(k:Nat)(h:k < 64):nth (.int .u32) Cz k=vw (kw k):=by
 have hh:∀k:Fin 64,nth (.int .u32) Cz k.val=vw (kw k.val):=by decide+kernel
 exact hh ⟨k,h⟩
theorem MC(ws:List W)(k:Nat)(h:k < ws.length):nth (.int .u32) (wl ws) k=vw (ws.getD k 0):=by
 unfold nth wl
 simp[h]
theorem Sd(w:W):rl w ((-6:Int)%32).toNat=rV w 6:=rfl
theorem QA(w:W):rl w ((-11:Int)%32).toNat=rV w 11:=rfl
theorem QD(w:W):rl w ((-25:Int)%32).toNat=rV w 25:=rfl
theorem Sc(w:W):rl w ((-2:Int)%32).toNat=rV w 2:=rfl
theorem QB(w:W):rl w ((-13:Int)%32).toNat=rV w 13:=rfl
theorem QC(w:W):rl w ((-22:Int)%32).toNat=rV w 22:=rfl
theorem n0(s:St):nth (.int .u32) s.l 0=vw s.a:=rfl
theorem n1(s:St):nth (.int .u32) s.l 1=vw s.b:=rfl
theorem n2(s:St):nth (.int .u32) s.l 2=vw s.c:=rfl
theorem n3(s:St):nth (.int .u32) s.l 3=vw s.d:=rfl
theorem n4(s:St):nth (.int .u32) s.l 4=vw s.e:=rfl
theorem n5(s:St):nth (.int .u32) s.l 5=vw s.f:=rfl
theorem n6(s:St):nth (.int .u32) s.l 6=vw s.g:=rfl
theorem n7(s:St):nth (.int .u32) s.l 7=vw s.h:=rfl
theorem mix.L0.ok:(mix.mf 0 mix.L0):=by
 refine(mix.nN 0 mix.L0) (λ(h,t,n4,n5,n6,n7)=>64 - t.toNat) ?_
 rintro⟨h,t,m4,m5,m6,m7⟩ ⟨s,ws,k,rfl,rfl,hw,hk,rfl,rfl,rfl⟩
 by_cases gO:k < 64
 ·left
  refine⟨(s.l,((k+1:Nat):Int),m4,wl ws,Cz,(rounds ws s (k+1)).l),⟨s,ws,k+1,rfl,rfl,hw,by omega,rfl,rfl,rfl⟩,by simp;omega,rfl,λkn kx=> ?_⟩
  have e1:bW .i64 (k:Int) 1=((k+1:Nat):Int):=by rw[eP (by omega) (by omega)];omega
  have e2:Int.toNat (k:Int)=k:=by omega
  have MU:(wl ws).length=64:=by simp[wl,hw]
  have d0:decide (k < 64)=true:=aY gO
  have i0:gK (k:Int) 64=true:=bM (by omega) (by omega)
  rw[mix.L0.step,bq (by omega)]
  generalize hv:rounds ws s k=v
  simp only[e1,e2,mq,aR,ct,decide_true,aj,St.H3,Nat.reduceLT,CA,MU,d0,i0,n0,n1,n2,n3,n4,n5,n6,n7,dS.at,ah,H0 k gO,MC ws k (by omega),rv,xL,Sd,QA,QD,Sc,QB,QC]
  show kn _=kn (mix.L0.st (s.l,((k+1:Nat):Int),m4,wl ws,Cz,(nN (rounds ws s k) (kw k) (ws.getD k 0)).l))
  rw[hv]
  rfl
 ·right
  obtain rfl:k=64:=by omega
  intro R kn kx
  rw[mix.L0.step,bn (by omega)]
  simp only[aq,mix.L0.add,mix.L0.F,FE,oI]
theorem mix.L1.ok:(mix.mf 1 mix.L1):=by
 refine(mix.nN 1 mix.L1) (λ(h,t,n4,n7)=>8 - t.toNat) ?_
 rintro⟨h,t,m4,m7⟩ ⟨hl,k,hk,rfl⟩
 have hl:m7.length=8:=hl
 have e2:Int.toNat (k:Int)=k:=by omega
 have e3:Int.toNat ((k+1:Nat):Int)=k+1:=by omega
 by_cases gO:k < 8
 ·left
  have e1:bW .i64 (k:Int) 1=((k+1:Nat):Int):=by rw[eP (by omega) (by omega)];omega
  have hn:nth (.int .u32) m7 k=m7[k]:=dR (t:= .int .u32) (by omega)
  refine⟨(h,((k+1:Nat):Int),m4,m7.set k (bW .u32 m7[k] (nth (.int .u32) h k))),⟨by simpa using hl,k+1,by omega,rfl⟩,by simp;omega,?_,λkn kx=> ?_⟩
  ·simp only[mix.L1.add,mix.L1.F,e2,e3]
   rw[zV (λi x=>bW .u32 x (nth (.int .u32) h i)) m7 k (by omega)]
  ·have d0:decide (k < 8)=true:=aY gO
   have i0:gK (k:Int) 8=true:=bM (by omega) (by omega)
   rw[mix.L1.step,bq (by omega)]
   simp only[e1,e2,mq,aR,ct,decide_true,aj,hl,d0,i0,hn]
 ·right
  obtain rfl:k=8:=by omega
  intro R kn kx
  rw[mix.L1.step,bn (by omega)]
  simp only[aq,mix.L1.add,mix.L1.F,e2]
  rw[Ci _ _ _ (by omega)]
theorem mix.ok:mix.Ok:=by
 rintro⟨h,b⟩ ⟨⟨s,rfl⟩,hb⟩
 have hs:schedule.bf b:=hb
 have Hb:(sched b).length=64:=by unfold sched;rw[tv,lM]
 have hp:mix.L0.bf (s.l,0,List.replicate 8 0,wl (sched b),Cz,s.l):=⟨s,sched b,0,rfl,rfl,Hb,by omega,rfl,rfl,rfl⟩
 rw[mix.eq,schedule.run hs]
 simp only[ah,table.run (d:=()) trivial,bS,schedule.F,bS,table.F,mix.L0.run hp,mix.L0.add,mix.L0.F,FE,oI]
 have MR:mix.L1.bf (s.l,0,List.replicate 8 0,(rounds (sched b) s 64).l):=⟨rfl,0,by omega,rfl⟩
 simp only[mix.L1.run MR,ah,mix.L1.add,mix.L1.F,bS,mix.F,oI]
 unfold Gt
 generalize rounds (sched b) s 64=v
 obtain⟨a1,b1,c1,d1,f1,g1,h1,i1⟩:=v
 simp only[St.l,from_,List.mapIdx_cons,List.mapIdx_nil,cV,Nat.not_lt_zero,if_false,aR,Nat.reduceAdd]
 simp only[nth,ij,List.getD_cons_succ,xL]
theorem mix.run:mix.RS:=rE [.d (.slice (.int .u32)),.d tB] mix
def mix.sg:=mix.gl mix.ok 2 ⟨.jG mix.L0.ok,⟨.jG mix.L1.ok,trivial⟩⟩
theorem kW(n:Int)(k:Int)(h0:0<=k)(h1:k<=64):dF .u8 (bZ .i64 n k)=n / 2^k.toNat%256:=by
 rw[A7,jg,bZ]
 have e:min k.toNat IntKind.i64.bits=k.toNat:=by simp only[IntKind.bits];omega
 rw[e,Int.fdiv_eq_ediv_of_nonneg _ (Int.le_of_lt (Int.pow_pos (by omega)))]
 rfl
theorem pD{n:Nat}(h:n<=140737488355328):dK n 1=true:=fN (by omega) (by omega)
abbrev fh.D:=Bs
abbrev fh.Y:=Nat×(List Int)
def fh.bf:fh.D->Prop:=λb=>b.length<=140737488355328
def fh.F:fh.D->fh.Y:=λb=>(b.length,b)
def fh:Fs Tryz.prog fh.bf bS fh.F:=fS 200 Tryz.f200 (λsv=>([.d tB sv],[])) (λx=>⟨.cv (.new 0 0) 0 [] 0 0 x.1,[],[.obj 0 false (.vec 5 tb x.2)]⟩) [some tB] [] {bk:=[5],owns:=[⟨2,[],5,140⟩]}
theorem fh.eq{R:Type}(sv)(k:K1 R):fh.A sv k=
  aO (decide (0 < (List.length sv))) (
   aO (dK (0+(List.length sv)) 1) (
   k (fh.out ((0+(List.length sv)),((List.take 0 (List.replicate 0 0))++sv)))) none) (
   nd (
    k (fh.out (0,([]:List Int)))) (
    aO (dK (0+(List.length sv)) 1) (
    k (fh.out ((0+(List.length sv)),((List.take 0 (List.replicate 0 0))++sv)))) none)):=by kernel_rfl
theorem fh.ok:fh.Ok:=by
 intro b hb
 have hr:dK b.length 1=true:=pD hb
 rw[fh.eq]
 have e0:(List.take 0 (List.replicate 0 0):List Int)=[]:=rfl
 simp only[aR,hr,aj,e0,aT,bS,fh.F]
 by_cases h:0 < b.length
 ·simp only[aY h,aj]
 ·have:b=[]:=aJ (by omega)
  subst this
  simp only[aZ,rH,cg (gg 0),aq]
theorem fh.run:fh.RS:=rE [.d tB] fh
def fh.sg:=fh.gl fh.ok
abbrev jb.D:=Int
abbrev jb.Y:=Nat×(List Int)
def jb.bf:jb.D->Prop:=λ_=>True
def jb.F:jb.D->jb.Y:=λn=>(8,pa n)
def jb:Fs Tryz.prog jb.bf bS jb.F:=fS 143 Tryz.f143 (λn=>([.c6,.d ti n],[])) (λx=>⟨.cv (.new 0 0) 0 [] 0 0 x.1,[],[.obj 0 false (.vec 5 tb x.2)]⟩) [none,some ti] [] {loops:=qP [(2,{bI:=[0,1,5],sites:=[16]})],outs:=qO [(2,{bI:=[0],sites:=[16]},{bI:=[4],sites:=[16]})],owns:=[⟨4,[],16,140⟩]} 12
theorem jb.eq{R:Type}(n)(k:K1 R):jb.A n k=
 k (jb.out (8,[(dF .u8 (bZ .i64 n 56)),(dF .u8 (bZ .i64 n 48)),(dF .u8 (bZ .i64 n 40)),(dF .u8 (bZ .i64 n 32)),(dF .u8 (bZ .i64 n 24)),(dF .u8 (bZ .i64 n 16)),(dF .u8 (bZ .i64 n 8)),(dF .u8 (bZ .i64 n 0))])):=by kernel_rfl
theorem DL(n:Int): [dF .u8 (bZ .i64 n 56),dF .u8 (bZ .i64 n 48),dF .u8 (bZ .i64 n 40),dF .u8 (bZ .i64 n 32),dF .u8 (bZ .i64 n 24),dF .u8 (bZ .i64 n 16),dF .u8 (bZ .i64 n 8),dF .u8 (bZ .i64 n 0)]=pa n:=by
 rw[kW n 56 (by omega) (by omega),kW n 48 (by omega) (by omega),kW n 40 (by omega) (by omega),kW n 32 (by omega) (by omega),kW n 24 (by omega) (by omega),kW n 16 (by omega) (by omega),kW n 8 (by omega) (by omega),kW n 0 (by omega) (by omega)]
 simp[pa]
theorem jb.ok:jb.Ok:=by
 intro n _
 rw[jb.eq,DL]
 rfl
theorem jb.run:jb.RS:=rE [.d ti] jb
def jb.sg:=jb.QG Gz jb.ok 1 ⟨.none (by kernel_rfl),trivial⟩
abbrev gj.D:=Nat×Int×Bs
abbrev gj.Y:=Nat×(List Int)
def gj.bf:gj.D->Prop:=λ(m,n,l)=>m=l.length/\l.length<=140737488355320
def gj.F:gj.D->gj.Y:=λ(m,n,l)=>(l.length+8,l++pa n)
def gj:Fs Tryz.prog gj.bf bS gj.F:=fS 143 Tryz.f143 (λ(bL,n,o0)=>([.cv (.c8 0) 0 [] 0 0 bL,.d ti n],[.obj 0 false (.vec 5 tb o0)])) (λx=>⟨.cv (.c8 0) 8 [] 0 0 x.1,[.obj 8 false (.vec 5 tb x.2)],[]⟩) [none,some ti] [] {loops:=qP [(2,{bI:=[0,1,5],sites:=[16]})],outs:=qO [(2,{bI:=[0],sites:=[16]},{bI:=[4],sites:=[16]})]} 12
theorem gj.eq{R:Type}(bL n o0)(k:K1 R):gj.A (bL,n,o0) k=
 aO (decide (bL<=(List.length o0))) (
 aO (dK (bL+1) 1) (
 aO (decide ((bL+1)<=(List.length ((List.take bL o0)++ [(dF .u8 (bZ .i64 n 56))])))) (
 aO (dK ((bL+1)+1) 1) (
 aO (decide (((bL+1)+1)<=(List.length ((List.take (bL+1) ((List.take bL o0)++ [(dF .u8 (bZ .i64 n 56))]))++ [(dF .u8 (bZ .i64 n 48))])))) (
 aO (dK (((bL+1)+1)+1) 1) (
 aO (decide ((((bL+1)+1)+1)<=(List.length ((List.take ((bL+1)+1) ((List.take (bL+1) ((List.take bL o0)++ [(dF .u8 (bZ .i64 n 56))]))++ [(dF .u8 (bZ .i64 n 48))]))++ [(dF .u8 (bZ .i64 n 40))])))) (
 aO (dK ((((bL+1)+1)+1)+1) 1) (
 aO (decide (((((bL+1)+1)+1)+1)<=(List.length ((List.take (((bL+1)+1)+1) ((List.take ((bL+1)+1) ((List.take (bL+1) ((List.take bL o0)++ [(dF .u8 (bZ .i64 n 56))]))++ [(dF .u8 (bZ .i64 n 48))]))++ [(dF .u8 (bZ .i64 n 40))]))++ [(dF .u8 (bZ .i64 n 32))])))) (
 aO (dK (((((bL+1)+1)+1)+1)+1) 1) (
 aO (decide ((((((bL+1)+1)+1)+1)+1)<=(List.length ((List.take ((((bL+1)+1)+1)+1) ((List.take (((bL+1)+1)+1) ((List.take ((bL+1)+1) ((List.take (bL+1) ((List.take bL o0)++ [(dF .u8 (bZ .i64 n 56))]))++ [(dF .u8 (bZ .i64 n 48))]))++ [(dF .u8 (bZ .i64 n 40))]))++ [(dF .u8 (bZ .i64 n 32))]))++ [(dF .u8 (bZ .i64 n 24))])))) (
 aO (dK ((((((bL+1)+1)+1)+1)+1)+1) 1) (
 aO (decide (((((((bL+1)+1)+1)+1)+1)+1)<=(List.length ((List.take (((((bL+1)+1)+1)+1)+1) ((List.take ((((bL+1)+1)+1)+1) ((List.take (((bL+1)+1)+1) ((List.take ((bL+1)+1) ((List.take (bL+1) ((List.take bL o0)++ [(dF .u8 (bZ .i64 n 56))]))++ [(dF .u8 (bZ .i64 n 48))]))++ [(dF .u8 (bZ .i64 n 40))]))++ [(dF .u8 (bZ .i64 n 32))]))++ [(dF .u8 (bZ .i64 n 24))]))++ [(dF .u8 (bZ .i64 n 16))])))) (
 aO (dK (((((((bL+1)+1)+1)+1)+1)+1)+1) 1) (
 aO (decide ((((((((bL+1)+1)+1)+1)+1)+1)+1)<=(List.length ((List.take ((((((bL+1)+1)+1)+1)+1)+1) ((List.take (((((bL+1)+1)+1)+1)+1) ((List.take ((((bL+1)+1)+1)+1) ((List.take (((bL+1)+1)+1) ((List.take ((bL+1)+1) ((List.take (bL+1) ((List.take bL o0)++ [(dF .u8 (bZ .i64 n 56))]))++ [(dF .u8 (bZ .i64 n 48))]))++ [(dF .u8 (bZ .i64 n 40))]))++ [(dF .u8 (bZ .i64 n 32))]))++ [(dF .u8 (bZ .i64 n 24))]))++ [(dF .u8 (bZ .i64 n 16))]))++ [(dF .u8 (bZ .i64 n 8))])))) (
 aO (dK ((((((((bL+1)+1)+1)+1)+1)+1)+1)+1) 1) (
 k (gj.out (((((((((bL+1)+1)+1)+1)+1)+1)+1)+1),((List.take (((((((bL+1)+1)+1)+1)+1)+1)+1) ((List.take ((((((bL+1)+1)+1)+1)+1)+1) ((List.take (((((bL+1)+1)+1)+1)+1) ((List.take ((((bL+1)+1)+1)+1) ((List.take (((bL+1)+1)+1) ((List.take ((bL+1)+1) ((List.take (bL+1) ((List.take bL o0)++ [(dF .u8 (bZ .i64 n 56))]))++ [(dF .u8 (bZ .i64 n 48))]))++ [(dF .u8 (bZ .i64 n 40))]))++ [(dF .u8 (bZ .i64 n 32))]))++ [(dF .u8 (bZ .i64 n 24))]))++ [(dF .u8 (bZ .i64 n 16))]))++ [(dF .u8 (bZ .i64 n 8))]))++ [(dF .u8 (bZ .i64 n 0))])))) none) none) none) none) none) none) none) none) none) none) none) none) none) none) none) none:=by kernel_rfl
theorem gj.ok:gj.Ok:=by
 rintro⟨m,n,l⟩ ⟨rfl,hl⟩
 have hl:l.length<=140737488355320:=hl
 rw[gj.eq]
 simp only[aw,decide_true,aj,bo,au,aC,aZ,aR]
 rw[pD (by omega),pD (by omega),pD (by omega),pD (by omega),pD (by omega),pD (by omega),pD (by omega),pD (by omega)]
 simp only[aj,bS,gj.F,<-DL,bC,jN,aT]
theorem gj.run:gj.RS:=rE [.n,.d ti,.d tB] gj
def gj.sg:=gj.QG GV gj.ok 1 ⟨.none (by kernel_rfl),trivial⟩
abbrev bH.L0.D:=Bs×Nat×Bs×(List Int)
abbrev bH.L0.Y:=Nat×(List Int)
abbrev bH.L0.X:=(Bs×Bs)×(Nat×(List Int))
def bH.L0.add:bH.L0.D->bH.L0.Y->bH.L0.X:=λ(qh,endL,n2,n14) y=>((qh,n2),y)
abbrev bH.L1.D:=Bs×Nat×Bs×(List Int)×(List Int)
abbrev bH.L1.Y:=(List Int)
abbrev bH.L1.X:=(Nat×Bs×(List Int))×((List Int))
def bH.L1.add:bH.L1.D->bH.L1.Y->bH.L1.X:=λ(I0,sQ,pj,n4,yk) y=>((sQ,pj,yk),y)
abbrev bH.L2.D:=Bs×Bs×(List Int)
abbrev bH.L2.Y:=(List Int)
abbrev bH.L2.X:=(Bs)×((List Int))
def bH.L2.add:bH.L2.D->bH.L2.Y->bH.L2.X:=λ(endv,oA,ud) y=>(oA,y)
abbrev bH.L3.D:=Int×Bs×(List Int)
abbrev bH.L3.Y:=Bs
abbrev bH.D:=Bs
abbrev bH.Y:=Bs
def zc(n:Nat):Nat:=(120 - n%64)%64
def bH.L0.bf:bH.L0.D->Prop:=λ(b,m,n2,l)=>m=l.length/\l.length+zc l.length<=140737488355328
def bH.L0.F:bH.L0.D->bH.L0.Y:=λ(b,m,n2,l)=>(l.length+zc l.length,l++List.replicate (zc l.length) 0)
def bH.L1.bf:bH.L1.D->Prop:=λ(b,m,n2,h,l)=>∃s:St,h=s.l
def bH.L1.F:bH.L1.D->bH.L1.Y:=λ(b,m,n2,h,l)=>(blocks (G1 h) b).l
def bH.L2.bf:bH.L2.D->Prop:=λ(b,n2,h)=>b.length%64=0/\∃s:St,h=s.l
def bH.L2.F:bH.L2.D->bH.L2.Y:=λ(b,n2,h)=>(blocks (G1 h) b).l
def zJ(h:List Int)(i:Nat)(_:Int):Int:=dF .u8 (bZ .u32 (nth (.int .u32) h (i / 4)) ((24 - 8*(i%4):Nat):Int))
def bH.L3.bf:bH.L3.D->Prop:=λ(t,n2,h)=>n2.length=32/\h.length=8/\∃k:Nat,k<=32/\t=k
def bH.L3.F:bH.L3.D->bH.L3.Y:=λ(t,n2,h)=>from_ (zJ h) t.toNat n2
def bH.bf:bH.D->Prop:=λb=>b.length<=140737488350000
def bH.F:bH.D->bH.Y:=λb=>M4 b
def bH.L0:Ls bH.L0.bf bH.L0.add bH.L0.F:=so (λ(qh,endL,n2,n14)=>⟨([.d tB qh,.undef,.ptr (.new 2 0) 0 [] 0,.cv (.new 14 0) 0 [] 0 0 endL]++bE 61 []),[],([[],[],[.obj 0 false (.d tH n2)]]++cS 11 ([[.obj 0 false (.vec 5 tb n14)]]++cS 50 []))⟩) (λx=>(.exit 0,⟨([.d tB x.1.1,.undef,.ptr (.new 2 0) 0 [] 0,.cv (.new 14 0) 0 [] 0 0 x.2.1]++bE 61 []),[],([[],[],[.obj 0 false (.d tH x.1.2)]]++cS 11 ([[.obj 0 false (.vec 5 tb x.2.2)]]++cS 50 []))⟩))
def bH.L1:Ls bH.L1.bf bH.L1.add bH.L1.F:=so (λ(I0,sQ,pj,n4,yk)=>⟨([.d tB I0,.undef,.ptr (.new 2 0) 0 [] 0,.cv (.new 14 0) 8 [] 0 0 sQ,.ptr (.new 4 0) 0 [] 0]++bE 60 []),[],([[],[],[.obj 0 false (.d tH pj)],[],[.obj 0 false (.d (.arr 8 (.int .u32)) n4)]]++cS 9 ([[.obj 8 false (.vec 5 tb yk)]]++cS 50 []))⟩) (λx=>(.exit 2,⟨([.undef,.undef,.ptr (.new 2 0) 0 [] 0,.cv (.new 14 0) 8 [] 0 0 x.1.1,.ptr (.new 4 0) 0 [] 0]++bE 60 []),[],([[],[],[.obj 0 false (.d tH x.1.2.1)],[],[.obj 0 false (.d (.arr 8 (.int .u32)) x.2)]]++cS 9 ([[.obj 8 false (.vec 5 tb x.1.2.2)]]++cS 50 []))⟩))
def bH.L2:Ls bH.L2.bf bH.L2.add bH.L2.F:=so (λ(endv,oA,ud)=>⟨([.undef,.undef,.ptr (.new 2 0) 0 [] 0,.d tB endv,.ptr (.new 4 0) 0 [] 0]++bE 60 []),[],([[],[],[.obj 0 false (.d tH oA)],[],[.obj 0 false (.d (.arr 8 (.int .u32)) ud)]]++cS 60 [])⟩) (λx=>(.exit 4,⟨([.undef,.undef,.ptr (.new 2 0) 0 [] 0,.undef,.ptr (.new 4 0) 0 [] 0]++bE 60 []),[],([[],[],[.obj 0 false (.d tH x.1)],[],[.obj 0 false (.d (.arr 8 (.int .u32)) x.2)]]++cS 60 [])⟩))
def bH.L3:Ls bH.L3.bf bS bH.L3.F:=so (λ(t48,Es,Gx)=>⟨([.undef,.undef,.ptr (.new 2 0) 0 [] 0,.undef,.ptr (.new 4 0) 0 [] 0]++bE 43 ([.d ti t48]++bE 16 [])),[],([[],[],[.obj 0 false (.d tH Es)],[],[.obj 0 false (.d (.arr 8 (.int .u32)) Gx)]]++cS 60 [])⟩) (λx=>(.exit 6,⟨([.undef,.undef,.ptr (.new 2 0) 0 [] 0]++bE 62 []),[],([[],[],[.obj 0 false (.d tH x)]]++cS 62 [])⟩))
def bH:Fs Tryz.prog bH.bf bS bH.F:=fS 144 Tryz.f144 (λb=>([.d tB b],[])) (λx=>⟨.d tH x,[],[]⟩) [some tB] [fh.sg,gj.sg,first.sg,mix.sg] {loops:=qP [(2,{bI:=[0,2,3],sites:=[2,14],owns:=[⟨3,[],14,140⟩]}),(6,{bI:=[0,2,3,4],sites:=[2,4,14]}),(9,{bI:=[2,3,4],sites:=[2,4],data:=[(3,tB)]}),(13,{bI:=[2,4,48],sites:=[2,4]})],outs:=qO [(2,{bI:=[0,2,3],sites:=[2,14]},{bI:=[2]}),(6,{bI:=[2,3,4],sites:=[2,4,14]},{bI:=[2]}),(9,{bI:=[2,4],sites:=[2,4]},{bI:=[2]}),(13,{bI:=[2],sites:=[2]},{bI:=[2]})],jK:=sm [(2,bH.L0.E),(6,bH.L1.E),(9,bH.L2.E),(13,bH.L3.E)]}
theorem bH.L0.run:bH.L0.RS:=rL [.d tB,.n,.d tB,.d tB] bH.L0
theorem bH.L0.step{R:Type}(qh endL n2 n14)(kn:K2 R)(kx:K3 R):bH.R 0 bH.L0 (qh,endL,n2,n14) kn kx=
  aO ((wV (nH ((endL:Nat):Int) 64) 56)) (
   aO (decide (endL<=(List.length n14))) (
   aO (dK (endL+1) 1) (
   kn (bH.L0.st (qh,(endL+1),n2,((List.take endL n14)++ [0])))) none) none) (
   bH.L0.go kx ((qh,n2),(endL,n14))):=by kernel_rfl
theorem bH.L1.run:bH.L1.RS:=rL [.d tB,.n,.d tB,.d (.slice (.int .u32)),.d tB] bH.L1
theorem bH.L1.step{R:Type}(I0 sQ pj n4 yk)(kn:K2 R)(kx:K3 R):bH.R 1 bH.L1 (I0,sQ,pj,n4,yk) kn kx=
  aO ((pN (I0.length:Int) 64)) (
   aO (inc 64 (I0.length:Int)) (
   aA (mix.call (n4,(cut I0 0 64))) λx1=>
   aO (inc 64 (I0.length:Int)) (
   kn (bH.L1.st ((cut I0 64 ((List.length I0) - 64)),sQ,pj,x1,yk))) none) none) (
   bH.L1.go kx ((sQ,pj,yk),n4)):=by kernel_rfl
theorem bH.L2.run:bH.L2.RS:=rL [.d tB,.d tB,.d (.slice (.int .u32))] bH.L2
theorem bH.L2.step{R:Type}(endv oA ud)(kn:K2 R)(kx:K3 R):bH.R 2 bH.L2 (endv,oA,ud) kn kx=
  aO ((pv (endv.length:Int) 0)) (
   aO (inc 64 (endv.length:Int)) (
   aA (mix.call (ud,(cut endv 0 64))) λx1=>
   aO (inc 64 (endv.length:Int)) (
   kn (bH.L2.st ((cut endv 64 ((List.length endv) - 64)),oA,x1))) none) none) (
   bH.L2.go kx (oA,ud)):=by kernel_rfl
theorem bH.L3.run:bH.L3.RS:=rL [.d ti,.d tB,.d (.slice (.int .u32))] bH.L3
theorem bH.L3.step{R:Type}(t48 Es Gx)(kn:K2 R)(kx:K3 R):bH.R 3 bH.L3 (t48,Es,Gx) kn kx=
  aO ((ju t48 32)) (
   aO (gK (pg .i64 t48 4) 8) (
   aO (decide ((Int.toNat (pg .i64 t48 4)) < (List.length Gx))) (
   aO (decide ((((Int.toNat (pg .i64 t48 4))*1)+0)=(0+((Int.toNat (pg .i64 t48 4))*1)))) (
   aO (lF (df .i64 24 (gu .i64 8 (nH t48 4)))) (
   aO (gK t48 32) (
   aO (decide ((Int.toNat t48) < (List.length Es))) (
   aO (decide ((((Int.toNat t48)*1)+0)=(0+((Int.toNat t48)*1)))) (
   aO (decide ((Int.toNat t48) < (List.length Es))) (
   kn (bH.L3.st ((bW .i64 t48 1),(List.set Es (Int.toNat t48) (dF .u8 (bZ .u32 (nth (.int .u32) Gx (Int.toNat (pg .i64 t48 4))) (df .i64 24 (gu .i64 8 (nH t48 4)))))),Gx))) none) none) none) none) none) none) none) none) (
   bH.L3.go kx Es):=by kernel_rfl
theorem bH.eq{R:Type}(b)(k:K1 R):bH.A b k=
 aO (inc (df .i64 (b.length:Int) (nH (b.length:Int) 64)) (b.length:Int)) (
 aA (fh.call (cut b (Int.toNat (df .i64 (b.length:Int) (nH (b.length:Int) 64))) ((List.length b) - (Int.toNat (df .i64 (b.length:Int) (nH (b.length:Int) 64)))))) λx1=>
 aO (decide (x1.1<=(List.length x1.2))) (
 aO (dK (x1.1+1) 1) (
 aA (bH.L0.call (b,(x1.1+1),(List.replicate 32 0),((List.take x1.1 x1.2)++ [128]))) λx2=>
 aA (gj.call (x2.2.1,(gu .i64 8 (x2.1.1.length:Int)),x2.2.2)) λx3=>
 aA (first.call ()) λx4=>
 aA (bH.L1.call (x2.1.1,x3.1,x2.1.2,x4,x3.2)) λx6=>
 aO (decide (0=0/\(0+x6.1.1)<=(List.length x6.1.2.2))) (
 aA (bH.L2.call ((cut x6.1.2.2 0 x6.1.1),x6.1.2.1,x6.2)) λx9=>
 aA (bH.L3.call (0,x9.1,x9.2)) λI9=>
 k (bH.out I9)) none) none) none) none:=by kernel_rfl
theorem bH.L0.ok:(bH.mf 0 bH.L0):=by
 refine(bH.nN 0 bH.L0) (λ(b,m,n2,l)=>zc l.length) ?_
 rintro⟨b,m,n2,l⟩ ⟨rfl,hl⟩
 have hl:l.length+zc l.length<=140737488355328:=hl
 have hr:nH ((l.length:Nat):Int) 64=((l.length%64:Nat):Int):=by
  unfold nH
  rw[fc (by omega)]
  omega
 by_cases h:l.length%64=56
 ·right
  intro R kn kx
  have hz:zc l.length=0:=by unfold zc;omega
  rw[bH.L0.step,hr,e7 (by omega)]
  simp only[aq,bH.L0.add,bH.L0.F,hz,ct,List.replicate_zero,cZ]
 ·left
  have hz:zc l.length=zc (l.length+1)+1:=by unfold zc;omega
  refine⟨(b,l.length+1,n2,l++ [0]),⟨by simp,by simp only[au,aC,aZ,aR];omega⟩,by simp only[au,aC,aZ,aR];omega,?_,λkn kx=> ?_⟩
  ·simp only[bH.L0.add,bH.L0.F,au,aC,aZ,aR,hz,bC,jN,aT,List.replicate_succ]
   rw[show l.length+1+zc (l.length+1)=l.length+(zc (l.length+1)+1) by omega]
  ·rw[bH.L0.step,hr,iA (by omega),pD (by omega)]
   simp only[aj,aw,decide_true,cX]
theorem bH.L1.ok:(bH.mf 1 bH.L1):=by
 refine(bH.nN 1 bH.L1) (λ(b,m,n2,h,l)=>b.length) ?_
 rintro⟨b,m,n2,h,l⟩ ⟨s,rfl⟩
 by_cases hb:64<=b.length
 ·left
  have e1:cut b 64 (b.length - 64)=b.drop 64:=by unfold cut;rw[bo (by simp)]
  have e2:cut b 0 64=b.take 64:=rfl
  have hp:mix.bf (s.l,b.take 64):=⟨⟨s,rfl⟩,by simp;omega⟩
  refine⟨(b.drop 64,m,n2,(Gt s (b.take 64)).l,l),⟨_,rfl⟩,by simp;omega,?_,λkn kx=> ?_⟩
  ·simp only[bH.L1.add,bH.L1.F,oI]
   rw[vP s b hb]
  ·rw[bH.L1.step,fH (by omega),jF (by omega) (by omega),e1,e2]
   simp only[aj,mix.run hp,ah,bS,mix.F,oI]
 ·right
  intro R kn kx
  rw[bH.L1.step,eg (by omega)]
  simp only[aq,bH.L1.add,bH.L1.F,oI]
  rw[sF s b (by omega)]
theorem bH.L2.ok:(bH.mf 2 bH.L2):=by
 refine(bH.nN 2 bH.L2) (λ(b,n2,h)=>b.length) ?_
 rintro⟨b,n2,h⟩ ⟨hm,s,rfl⟩
 have hm:b.length%64=0:=hm
 by_cases hb:0 < b.length
 ·left
  have e1:cut b 64 (b.length - 64)=b.drop 64:=by unfold cut;rw[bo (by simp)]
  have e2:cut b 0 64=b.take 64:=rfl
  have hp:mix.bf (s.l,b.take 64):=⟨⟨s,rfl⟩,by simp;omega⟩
  refine⟨(b.drop 64,n2,(Gt s (b.take 64)).l),⟨by simp;omega,_,rfl⟩,by simp;omega,?_,λkn kx=> ?_⟩
  ·simp only[bH.L2.add,bH.L2.F,oI]
   rw[vP s b (by omega)]
  ·rw[bH.L2.step,db (by omega),jF (by omega) (by omega),e1,e2]
   simp only[aj,mix.run hp,ah,bS,mix.F,oI]
 ·right
  intro R kn kx
  rw[bH.L2.step,cR (by omega)]
  simp only[aq,bH.L2.add,bH.L2.F,oI]
  rw[sF s b (by omega)]
theorem bH.L3.ok:(bH.mf 3 bH.L3):=by
 refine(bH.nN 3 bH.L3) (λ(t,n2,h)=>32 - t.toNat) ?_
 rintro⟨t,m,h⟩ ⟨hl,h8,k,hk,rfl⟩
 have hl:m.length=32:=hl
 have h8:h.length=8:=h8
 have e2:Int.toNat (k:Int)=k:=by omega
 have e3:Int.toNat ((k+1:Nat):Int)=k+1:=by omega
 by_cases gO:k < 32
 ·left
  have e1:bW .i64 (k:Int) 1=((k+1:Nat):Int):=by rw[eP (by omega) (by omega)];omega
  have q4:pg .i64 (k:Int) 4=((k / 4:Nat):Int):=by
   have:(k:Int).tdiv 4=((k / 4:Nat):Int):=by rw[gw (by omega)];omega
   unfold pg
   rw[this,oq (by omega) (by omega)]
  have r4:nH (k:Int) 4=((k%4:Nat):Int):=by
   unfold nH
   rw[fc (by omega)]
   omega
  have s4:df .i64 24 (gu .i64 8 ((k%4:Nat):Int))=((24 - 8*(k%4):Nat):Int):=by
   rw[pz (by omega) (by omega),dM (by omega) (by omega)]
   omega
  have e4:Int.toNat ((k / 4:Nat):Int)=k / 4:=by omega
  refine⟨(((k+1:Nat):Int),m.set k (zJ h k m[k]),h),⟨by simpa using hl,h8,k+1,by omega,rfl⟩,by simp;omega,?_,λkn kx=> ?_⟩
  ·simp only[bS,bH.L3.F,e2,e3]
   rw[zV (zJ h) m k (by omega)]
  ·have d0:decide (k < 32)=true:=aY gO
   have d1:decide (k / 4 < 8)=true:=aY (by omega)
   rw[bH.L3.step,bq (by omega),q4,r4,s4,bM (by omega) (by omega),bM (by omega) (by omega),oZ (by omega)]
   simp only[e1,e2,e4,mq,aR,ct,decide_true,aj,hl,h8,d0,d1,zJ]
 ·right
  obtain rfl:k=32:=by omega
  intro R kn kx
  rw[bH.L3.step,bn (by omega)]
  simp only[aq,bS,bH.L3.F,e2]
  rw[Ci _ _ _ (by omega)]
theorem GF(w:W):BitVec.ofInt 8 (vw w)=w.setWidth 8:=by
 apply BitVec.eq_of_toNat_eq
 rw[kB,BitVec.toNat_setWidth]
 unfold vw
 omega
theorem Lc(w:W)(k:Int):dF .u8 (bZ .u32 (vw w) k)=vw ((w >>> k.toNat).setWidth 8):=by
 rw[xR,A7,GF]
theorem JT(s:St):from_ (zJ s.l) 0 (List.replicate 32 0)=JS s:=by
 rw[xz]
 simp only[List.range_eq_range',List.range',bX,fW,zJ,Nat.reduceAdd,Nat.reduceDiv,Nat.reduceMod,Nat.reduceMul,Nat.reduceSub,n0,n1,n2,n3,n4,n5,n6,n7,Lc]
 rfl
theorem bH.ok:bH.Ok:=by
 intro b hb
 have hb:b.length<=140737488350000:=hb
 have hr:nH ((b.length:Nat):Int) 64=((b.length%64:Nat):Int):=by
  unfold nH
  rw[fc (by omega)]
  omega
 have hs:df .i64 ((b.length:Nat):Int) ((b.length%64:Nat):Int)=((b.length - b.length%64:Nat):Int):=by
  rw[dM (by omega) (by omega)];omega
 have hn:Int.toNat ((b.length - b.length%64:Nat):Int)=b.length - b.length%64:=by omega
 have hm:gu .i64 8 ((b.length:Nat):Int)=8*(b.length:Int):=pz (by omega) (by omega)
 generalize hq:b.length - b.length%64=q at hs hn
 have hc:cut b q (b.length - q)=b.drop q:=by unfold cut;rw[bo (by simp)]
 have G7:(b.drop q).length=b.length%64:=by simp;omega
 have p1:fh.bf (b.drop q):=by show(b.drop q).length<=_;omega
 rw[bH.eq,hr,hs,jF (by omega) (by omega),hn,hc]
 simp only[aj,fh.run p1,ah,bS,fh.F,aw,decide_true,cX]
 have p2:bH.L0.bf (b,(b.drop q).length+1,List.replicate 32 0,b.drop q++ [128]):=by
  refine⟨by simp,?_⟩
  simp only[au,aC,aZ,zc]
  omega
 have hz:zc (b.drop q++ [128]).length=uh b.length:=by
  simp only[au,aC,aZ,zc,uh]
  omega
 rw[pD (by omega)]
 simp only[aj,bH.L0.run p2,ah,bH.L0.add,bH.L0.F,hm,hz]
 have hlen:(b.drop q++ [128]).length+uh b.length=(b.drop q++ [128]++List.replicate (uh b.length) 0).length:=by rw[@au _ (b.drop q++ [128]),cd]
 have p3:gj.bf ((b.drop q++ [128]).length+uh b.length,8*(b.length:Int),b.drop q++ [128]++List.replicate (uh b.length) 0):=by
  refine⟨hlen,?_⟩
  simp only[au,aC,aZ,cd,uh]
  omega
 have p4:bH.L1.bf (b,(b.drop q++ [128]++List.replicate (uh b.length) 0).length+8,List.replicate 32 0,oh.l,b.drop q++ [128]++List.replicate (uh b.length) 0++pa (8*(b.length:Int))):=⟨oh,rfl⟩
 simp only[gj.run p3,ah,bS,gj.F,first.run (d:=()) trivial,bS,first.F,bH.L1.run p4,bH.L1.add,bH.L1.F,oI]
 generalize he:b.drop q++ [128]++List.replicate (uh b.length) 0++pa (8*(b.length:Int))=e
 have rR:(b.drop q++ [128]++List.replicate (uh b.length) 0).length+8=e.length:=by rw[<-he,@au _ _ (pa _),dq]
 have MN:e.length%64=0:=by
  rw[<-rR]
  simp only[au,aC,aZ,cd,uh,G7]
  omega
 have OL:cut e 0 ((b.drop q++ [128]++List.replicate (uh b.length) 0).length+8)=e:=by
  rw[rR];unfold cut;rw[aL,cX]
 rw[OL,rR,aY ⟨trivial,by omega⟩]
 have p5:bH.L2.bf (e,List.replicate 32 0,(blocks oh b).l):=⟨MN,blocks oh b,rfl⟩
 have p6:bH.L3.bf (0,List.replicate 32 0,(blocks (blocks oh b) e).l):=⟨rfl,rfl,0,by omega,rfl⟩
 simp only[aj,bH.L2.run p5,ah,bH.L2.add,bH.L2.F,oI,bH.L3.run p6,bS,bH.L3.F,bS,bH.F]
 rw[show Int.toNat 0=0 from rfl,JT]
 have MK:blocks oh (pad b)=blocks (blocks oh b) e:=by
  have h1:pad b=b.take q++e:=by
   rw[<-he]
   unfold pad
   rw[bC,bC,<-bC (b.take q),cQ]
   rfl
  have h2:blocks oh b=blocks (blocks oh (b.take q)) (b.drop q):=by
   rw[<-r9 _ _ _ (by simp;omega),cQ]
  rw[h1,r9 _ _ _ (by simp;omega),h2,sF _ (b.drop q) (by omega)]
 rw[M4,MK]
theorem bH.run:bH.RS:=rE [.d tB] bH
def bH.sg:=bH.gl bH.ok 4 ⟨.jG bH.L0.ok,⟨.jG bH.L1.ok,⟨.jG bH.L2.ok,⟨.jG bH.L3.ok,trivial⟩⟩⟩⟩
abbrev dW.L0.D:=Nat×(List Bs)×Int×Int×Bs×(List Int)
abbrev dW.L0.Y:=Nat×(List Int)
abbrev dW.L0.X:=(Bs)×(Nat×(List Int))
def dW.L0.add:dW.L0.D->dW.L0.Y->dW.L0.X:=λ(bL,t13,t14,t15,n4,n10) y=>(n4,y)
abbrev dW.D:=ByteArray×(List Bs)
abbrev dW.Y:=Bs
def dW.L0.bf:dW.L0.D->Prop:=λ(m,ps,n,i,n4,l)=>m=l.length/\n=ps.length/\ps.length<=140737488350000/\∃k:Nat,k<=ps.length/\i=k/\l.length+(nS (ps.drop k)).length<=140737488350000
def dW.L0.F:dW.L0.D->dW.L0.Y:=λ(m,ps,n,i,n4,l)=>(l.length+(nS (ps.drop i.toNat)).length,l++nS (ps.drop i.toNat))
def dW.bf:dW.D->Prop:=λ(name,ps)=>(zy (bQ name) ps).length<=140737488350000
def dW.F:dW.D->dW.Y:=λ(name,ps)=>tag (bQ name) ps
def dW.L0:Ls dW.L0.bf dW.L0.add dW.L0.F:=so (λ(bL,t13,t14,t15,n4,n10)=>⟨(bE 4 ([.ptr (.new 4 0) 0 [] 0,.cv (.new 10 0) 0 [] 0 0 bL]++bE 7 ([.d (.slice tB) t13,.d ti t14,.d ti t15]++bE 12 []))),[],(cS 4 ([[.obj 0 false (.d tH n4)]]++cS 5 ([[.obj 0 false (.vec 5 tb n10)]]++cS 17 [])))⟩) (λx=>(.exit 0,⟨(bE 4 ([.ptr (.new 4 0) 0 [] 0,.cv (.new 10 0) 0 [] 0 0 x.2.1]++bE 22 [])),[],(cS 4 ([[.obj 0 false (.d tH x.1)]]++cS 5 ([[.obj 0 false (.vec 5 tb x.2.2)]]++cS 17 [])))⟩))
def dW:Fs Tryz.prog dW.bf bS dW.F:=fS 72 Tryz.f72 (λ(name,parts)=>([.d .str name,.d (.slice tB) parts],[])) (λx=>⟨.d tH x,[],[]⟩) [some .str,some (.slice tB)] [jb.sg,gj.sg,bH.sg] {loops:=qP [(3,{bI:=[4,5,13,14,15],sites:=[4,10],owns:=[⟨5,[],10,140⟩]})],outs:=qO [(3,{bI:=[4,5],sites:=[4,10]},{bI:=[4]})],jK:=sm [(3,dW.L0.E)]}
theorem dW.L0.run:dW.L0.RS:=rL [.n,.d (.slice tB),.d ti,.d ti,.d tB,.d tB] dW.L0
theorem dW.L0.step{R:Type}(bL t13 t14 t15 n4 n10)(kn:K2 R)(kx:K3 R):dW.R 0 dW.L0 (bL,t13,t14,t15,n4,n10) kn kx=
  aO ((ju t15 t14)) (
   aO (gK t15 (t13.length:Int)) (
   aA (gj.call (bL,(((List.length (nth tB t13 (Int.toNat t15))):Nat):Int),n10)) λx1=>
   aO (decide (x1.1<=(List.length x1.2))) (
   aO (dK (x1.1+(List.length (nth tB t13 (Int.toNat t15)))) 1) (
   kn (dW.L0.st ((x1.1+(List.length (nth tB t13 (Int.toNat t15)))),t13,t14,(bW .i64 t15 1),n4,((List.take x1.1 x1.2)++(nth tB t13 (Int.toNat t15)))))) none) none) none) (
   dW.L0.go kx (n4,(bL,n10))):=by kernel_rfl
theorem dW.eq{R:Type}(name parts)(k:K1 R):dW.A (name,parts) k=
 aA (jb.call (((ByteArray.size name):Nat):Int)) λx1=>
 aO (decide (x1.1<=(List.length x1.2))) (
 aO (dK (x1.1+(List.length (bQ name))) 1) (
 aA (dW.L0.call ((x1.1+(List.length (bQ name))),parts,(parts.length:Int),0,(List.replicate 32 0),((List.take x1.1 x1.2)++(bQ name)))) λx4=>
 aO (decide (0=0/\(0+x4.2.1)<=(List.length x4.2.2))) (
 aA (bH.call (cut x4.2.2 0 x4.2.1)) λx5=>
 k (dW.out x5)) none) none) none:=by kernel_rfl
theorem Az(p:List Int)(ps:List (List Int)):nS (p::ps)=pa p.length++p++nS ps:=by simp[nS]
theorem GZ(ps:List (List Int))(k:Nat)(h:k < ps.length):nS (ps.drop k)=pa ps[k].length++ps[k]++nS (ps.drop (k+1)):=by
 rw[aB h,Az]
theorem dW.L0.ok:(dW.mf 0 dW.L0):=by
 refine(dW.nN 0 dW.L0) (λ(m,ps,n,i,n4,l)=>ps.length - i.toNat) ?_
 rintro⟨m,ps,n,i,n4,l⟩ ⟨rfl,rfl,wF,k,hk,rfl,hl⟩
 have hl:l.length+(nS (ps.drop k)).length<=140737488350000:=hl
 have hk:k<=ps.length:=hk
 have e2:Int.toNat (k:Int)=k:=by omega
 have e3:Int.toNat ((k+1:Nat):Int)=k+1:=by omega
 by_cases h:k < ps.length
 ·left
  have ht:=GZ ps k h
  have hlen:(nS (ps.drop k)).length=8+ps[k].length+(nS (ps.drop (k+1))).length:=by rw[ht];simp only[au,dq]
  have hn:nth (.slice (.int .u8)) ps k=ps[k]:=dR (t:= .slice (.int .u8)) h
  have wF:ps.length<=140737488350000:=wF
  have e1:bW .i64 (k:Int) 1=((k+1:Nat):Int):=by rw[eP (by omega) (by omega)];omega
  refine⟨((l++pa ps[k].length++ps[k]).length,ps,(ps.length:Int),((k+1:Nat):Int),n4,l++pa ps[k].length++ps[k]),⟨rfl,rfl,wF,k+1,by show k+1<=ps.length;omega,rfl,?_⟩,?_,?_,λkn kx=> ?_⟩
  ·show(l++pa ps[k].length++ps[k]).length+(nS (ps.drop (k+1))).length<=_
   simp only[au,dq];omega
  ·show ps.length - Int.toNat ((k+1:Nat):Int) < ps.length - Int.toNat (k:Int)
   omega
  ·simp only[dW.L0.add,dW.L0.F,e2,e3,ht,bC]
   simp only[au,dq,dB]
  ·have p1:gj.bf (l.length,(ps[k].length:Int),l):=⟨rfl,by show l.length<=_;omega⟩
   rw[dW.L0.step,bq (by omega),bM (by omega) (by omega),e1,e2]
   simp only[aj,hn,gj.run p1,ah,bS,gj.F]
   have NR:(l++pa ps[k].length).length=l.length+8:=by simp[dq]
   rw[NR,aY (aw _),pD (by omega)]
   simp only[aj]
   rw[bo (by rw[NR];omega)]
   simp only[au,dq,dB]
 ·right
  obtain rfl:k=ps.length:=by omega
  intro R kn kx
  rw[dW.L0.step,bn (by omega)]
  simp only[aq,dW.L0.add,dW.L0.F,e2,bG]
  simp[nS]
theorem Dl:∀ps:List (List Int),8*ps.length<=(nS ps).length
 |[]=>by simp[nS]
 |p::ps=>by
  rw[Az]
  have:=Dl ps
  simp only[au,dq,aC]
  omega
theorem js(s:ByteArray):(bQ s).length=s.size:=by simp only[bQ,cj,bU];rfl
theorem dW.ok:dW.Ok:=by
 rintro⟨name,ps⟩ hp
 have hp:(pa (bQ name).length++bQ name++nS ps).length<=140737488350000:=hp
 have hl:(pa (bQ name).length++bQ name++nS ps).length=8+(bQ name).length+(nS ps).length:=by simp only[au,dq]
 have wF:=Dl ps
 have lz:((name.size:Nat):Int)=(((bQ name).length:Nat):Int):=by rw[js]
 rw[dW.eq,jb.run (d:=((name.size:Nat):Int)) trivial,lz]
 simp only[ah,bS,jb.F,dq,aw,decide_true,aj]
 rw[pD (by omega),bo (by rw[dq];omega)]
 have p2:dW.L0.bf (8+(bQ name).length,ps,(ps.length:Int),0,List.replicate 32 0,pa ((bQ name).length:Int)++bQ name):=by
  refine⟨by simp only[au,dq],rfl,by show ps.length<=_;omega,0,bj _,rfl,?_⟩
  rw[aL]
  simp only[au,dq]
  omega
 simp only[aj,dW.L0.run p2,ah,dW.L0.add,dW.L0.F,cV,aL]
 have Jx:cut (pa ((bQ name).length:Int)++bQ name++nS ps) 0 ((pa ((bQ name).length:Int)++bQ name).length+(nS ps).length)=zy (bQ name) ps:=by
  unfold cut
  rw[aL,bo (by simp only[au];omega)]
  rfl
 have p3:bH.bf (zy (bQ name) ps):=hp
 rw[aY ⟨trivial,by simp only[au];omega⟩,Jx]
 simp only[aj,bH.run p3,ah,bS,bH.F,bS,dW.F,tag]
theorem dW.run:dW.RS:=rE [.d .str,.d (.slice tB)] dW
def dW.sg:=dW.gl dW.ok 1 ⟨.jG dW.L0.ok,trivial⟩
theorem uM{n:Int}(h1:0<=n)(h2:n < 18446744073709551616):IntKind.u64.wrap n=n:=by
 rw[wrap_u64,jg];omega
theorem uL(n:Int):IntKind.u64.wrap n=n%18446744073709551616:=by
 rw[wrap_u64,jg];rfl
theorem nF(x y:Int):bW .u64 x y=(x+y)%18446744073709551616:=uL _
theorem wW(x y:Int):df .u64 x y=(x - y)%18446744073709551616:=uL _
theorem nG(x y:Int):gu .u64 x y=(x*y)%18446744073709551616:=uL _
theorem vf(x:Int):dF .u64 x=x%18446744073709551616:=uL _
theorem BO{x:Int}(h:0<=x)(h2:x < 18446744073709551616):di .and .u64 x 4294967295=x%4294967296:=by
 obtain⟨n,rfl⟩:∃n:Nat,x=n:=⟨x.toNat,by omega⟩
 have e:(BitVec.ofInt 64 (n:Int) &&& BitVec.ofInt 64 4294967295).toNat=n%4294967296:=by
  rw[BitVec.toNat_and]
  have a:(BitVec.ofInt 64 (n:Int)).toNat=n:=by rw[jy,kC];omega
  have b:(BitVec.ofInt 64 4294967295).toNat=2^32 - 1:=by decide
  rw[a,b,Nat.and_two_pow_sub_one_eq_mod]
 show IntKind.u64.wrap ((BitVec.ofInt 64 (n:Int) &&& BitVec.ofInt 64 4294967295).toNat:Int)=_
 rw[e,uM (by omega) (by omega)];omega
theorem Pc{x:Int}(h:0<=x)(h2:x < 18446744073709551616):di .and .u64 x 1=x%2:=by
 obtain⟨n,rfl⟩:∃n:Nat,x=n:=⟨x.toNat,by omega⟩
 have e:(BitVec.ofInt 64 (n:Int) &&& BitVec.ofInt 64 1).toNat=n%2:=by
  rw[BitVec.toNat_and]
  have a:(BitVec.ofInt 64 (n:Int)).toNat=n:=by rw[jy,kC];omega
  have b:(BitVec.ofInt 64 1).toNat=2^1 - 1:=by decide
  rw[a,b,Nat.and_two_pow_sub_one_eq_mod]
 show IntKind.u64.wrap ((BitVec.ofInt 64 (n:Int) &&& BitVec.ofInt 64 1).toNat:Int)=_
 rw[e,uM (by omega) (by omega)];omega
theorem nP{x k:Int}(n:Nat)(hk:k=n)(hn:n<=64):bZ .u64 x k=x / 2^n:=by
 subst hk
 rw[bZ]
 have e:min (Int.toNat (n:Int)) IntKind.u64.bits=n:=by simp only[IntKind.bits];omega
 rw[e,Int.fdiv_eq_ediv_of_nonneg _ (Int.le_of_lt (Int.pow_pos (by omega)))]
theorem mn{x k:Int}(n:Nat)(hk:k=n)(hn:n<=64):lP .u64 x k=x*2^n%18446744073709551616:=by
 subst hk
 rw[lP,uL]
 have e:min (Int.toNat (n:Int)) IntKind.u64.bits=n:=by simp only[IntKind.bits];omega
 rw[e]
theorem ug{x y:Int}(k:Nat)(m:Int)(hm:m=2^k)(hx:x%m=0)(h0:0<=x)(h1:x < 18446744073709551616)(hy:0<=y)(MV:y < m)(h2:x+y < 18446744073709551616):di .or .u64 x y=x+y:=by
 subst hm
 obtain⟨n,rfl⟩:∃n:Nat,x=n:=⟨x.toNat,by omega⟩
 obtain⟨j,rfl⟩:∃j:Nat,y=j:=⟨y.toNat,by omega⟩
 have hx:n%2^k=0:=by
  have:((n%2^k:Nat):Int)=0:=by rw[Int.natCast_emod];simpa using hx
  omega
 have hj:j < 2^k:=by
  have:((j:Nat):Int) < ((2^k:Nat):Int):=by simpa using MV
  omega
 obtain⟨q,rfl⟩:∃q,n=2^k*q:=⟨n / 2^k,by have:=Nat.div_add_mod n (2^k);omega⟩
 have e:(BitVec.ofInt 64 ((2^k*q:Nat):Int) ||| BitVec.ofInt 64 (j:Int)).toNat=2^k*q+j:=by
  rw[BitVec.toNat_or]
  have a:(BitVec.ofInt 64 ((2^k*q:Nat):Int)).toNat=2^k*q:=by rw[jy,kC];exact Nat.mod_eq_of_lt (by omega)
  have b:(BitVec.ofInt 64 (j:Int)).toNat=j:=by rw[jy,kC];exact Nat.mod_eq_of_lt (by omega)
  rw[a,b,Nat.two_pow_add_eq_or_of_lt hj]
 show IntKind.u64.wrap ((BitVec.ofInt 64 ((2^k*q:Nat):Int) ||| BitVec.ofInt 64 (j:Int)).toNat:Int)=_
 rw[e,uM (by omega) (by omega)];omega
theorem Fm{x y:Int}(h:0<=x)(h1:0<=y)(h2:x < 18446744073709551616):pg .u64 x y=x / y:=by
 rw[pg,gw h]
 exact uM (Int.ediv_nonneg h h1) (Int.lt_of_le_of_lt (Int.ediv_le_self _ h) h2)
theorem rB{x y:Int}(h:0<=x):nH x y=x%y:=by rw[nH,fc h]
theorem k1{e u w r q:Int}(he:e=42260\/e=42264\/e=42272)(hu:0<=u)(BB:u < 18446744073709551616 - e)(hw:0<=w)(Hc:w < 4294967296)(hr:0<=r)(Ef:r < 4294967296)
  (hq:q*4294967295+r=u) (hQ:(u*4294967296+w) / (18446744073709551616 - e)<=q):
  (4294967296<=q->(u*4294967296+w) / (18446744073709551616 - e)<=q - 1)/\
  (q < 4294967296->4294967296*r+w < q*(4294967296 - e)->(u*4294967296+w) / (18446744073709551616 - e)<=q - 1)/\
  (q < 4294967296->q*(4294967296 - e)<=4294967296*r+w->(u*4294967296+w) / (18446744073709551616 - e)=q)/\
  (4294967296<=r+4294967295->(u*4294967296+w) / (18446744073709551616 - e)<=q - 1->(u*4294967296+w) / (18446744073709551616 - e)=q - 1)/\0<=(u*4294967296+w) / (18446744073709551616 - e)/\q<=4294967297:=by
 rcases he with rfl | rfl | rfl
 ·refine⟨?_,?_,?_,?_,?_,?_⟩ <;> omega
 ·refine⟨?_,?_,?_,?_,?_,?_⟩ <;> omega
 ·refine⟨?_,?_,?_,?_,?_,?_⟩ <;> omega
theorem k0{e u w:Int}(he:e=42260\/e=42264\/e=42272)(hu:0<=u)(BB:u < 18446744073709551616 - e)(hw:0<=w)(Hc:w < 4294967296):
  (u*4294967296+w) / (18446744073709551616 - e)<=u / 4294967295/\0<=u - u / 4294967295*4294967295/\u - u / 4294967295*4294967295 < 4294967296/\
  (u*4294967296+w) - (u*4294967296+w) / (18446744073709551616 - e)*(18446744073709551616 - e)=(u*4294967296+w)%(18446744073709551616 - e)/\
  0<=(u*4294967296+w)%(18446744073709551616 - e)/\(u*4294967296+w)%(18446744073709551616 - e) < 18446744073709551616 - e/\
  0<=(u*4294967296+w) / (18446744073709551616 - e)/\(u*4294967296+w) / (18446744073709551616 - e) < 4294967296:=by
 rcases he with rfl | rfl | rfl
 ·refine⟨?_,?_,?_,?_,?_,?_,?_,?_⟩ <;> omega
 ·refine⟨?_,?_,?_,?_,?_,?_,?_,?_⟩ <;> omega
 ·refine⟨?_,?_,?_,?_,?_,?_,?_,?_⟩ <;> omega
theorem kd(Y u w1 w0:Int)(hY:0 < Y)(h0:0<=w0)(h1:w0 < 4294967296):
  ((u*4294967296+w1)*4294967296+w0) / Y=(u*4294967296+w1) / Y*4294967296+((u*4294967296+w1)%Y*4294967296+w0) / Y/\
  ((u*4294967296+w1)*4294967296+w0)%Y=((u*4294967296+w1)%Y*4294967296+w0)%Y:=by
 generalize u*4294967296+w1=n
 have e:n*4294967296+w0=(n%Y*4294967296+w0)+Y*(n / Y*4294967296):=by
  have:=Int.emod_add_mul_ediv n Y
  have h:Y*(n / Y*4294967296)=(Y*(n / Y))*4294967296:=by rw[Int.mul_assoc]
  rw[h];omega
 rw[e,Int.add_mul_ediv_left _ _ (by omega),Int.add_mul_emod_self_left]
 exact⟨by omega,rfl⟩
abbrev gD.D:=Int
abbrev gD.Y:=Int
def MX(y:Int):Prop:=y=4611686018427377339\/y=2305843009213688669\/y=2305843009213688668
def gD.bf:gD.D->Prop:=MX
def gD.F:gD.D->gD.Y:=λy=>if y=4611686018427377339 then 62 else 61
def gD:Fs Tryz.prog gD.bf bS gD.F:=fS 215 Tryz.f215 (λx=>([.d tu x],[])) (λx=>⟨.d ti x,[],[]⟩) [some tu]
theorem gD.eq{R:Type}(x)(k:K1 R):gD.A x k=
  aO ((pN x 4294967296)) (
   aO ((pN (bZ .u64 x 32) 65536)) (
    aO ((pN (bZ .u64 (bZ .u64 x 32) 16) 256)) (
     aO (gK (dF .u8 (bZ .u64 (bZ .u64 (bZ .u64 x 32) 16) 8)) 256) (
     k (gD.out (bW .i64 56 (dF .i64 (C8 (⟨#[0,1,2,2,3,3,3,3,4,4,4,4,4,4,4,4,5,5,5,5,5,5,5,5,5,5,5,5,5,5,5,5,6,6,6,6,6,6,6,6,6,6,6,6,6,6,6,6,6,6,6,6,6,6,6,6,6,6,6,6,6,6,6,6,7,7,7,7,7,7,7,7,7,7,7,7,7,7,7,7,7,7,7,7,7,7,7,7,7,7,7,7,7,7,7,7,7,7,7,7,7,7,7,7,7,7,7,7,7,7,7,7,7,7,7,7,7,7,7,7,7,7,7,7,7,7,7,7,8,8,8,8,8,8,8,8,8,8,8,8,8,8,8,8,8,8,8,8,8,8,8,8,8,8,8,8,8,8,8,8,8,8,8,8,8,8,8,8,8,8,8,8,8,8,8,8,8,8,8,8,8,8,8,8,8,8,8,8,8,8,8,8,8,8,8,8,8,8,8,8,8,8,8,8,8,8,8,8,8,8,8,8,8,8,8,8,8,8,8,8,8,8,8,8,8,8,8,8,8,8,8,8,8,8,8,8,8,8,8,8,8,8,8,8,8,8,8,8,8,8,8,8,8,8,8,8]⟩:ByteArray) (dF .u8 (bZ .u64 (bZ .u64 (bZ .u64 x 32) 16) 8))))))) none) (
     aO (gK (dF .u8 (bZ .u64 (bZ .u64 x 32) 16)) 256) (
     k (gD.out (bW .i64 48 (dF .i64 (C8 (⟨#[0,1,2,2,3,3,3,3,4,4,4,4,4,4,4,4,5,5,5,5,5,5,5,5,5,5,5,5,5,5,5,5,6,6,6,6,6,6,6,6,6,6,6,6,6,6,6,6,6,6,6,6,6,6,6,6,6,6,6,6,6,6,6,6,7,7,7,7,7,7,7,7,7,7,7,7,7,7,7,7,7,7,7,7,7,7,7,7,7,7,7,7,7,7,7,7,7,7,7,7,7,7,7,7,7,7,7,7,7,7,7,7,7,7,7,7,7,7,7,7,7,7,7,7,7,7,7,7,8,8,8,8,8,8,8,8,8,8,8,8,8,8,8,8,8,8,8,8,8,8,8,8,8,8,8,8,8,8,8,8,8,8,8,8,8,8,8,8,8,8,8,8,8,8,8,8,8,8,8,8,8,8,8,8,8,8,8,8,8,8,8,8,8,8,8,8,8,8,8,8,8,8,8,8,8,8,8,8,8,8,8,8,8,8,8,8,8,8,8,8,8,8,8,8,8,8,8,8,8,8,8,8,8,8,8,8,8,8,8,8,8,8,8,8,8,8,8,8,8,8,8,8,8,8,8,8]⟩:ByteArray) (dF .u8 (bZ .u64 (bZ .u64 x 32) 16))))))) none)) (
    aO ((pN (bZ .u64 x 32) 256)) (
     aO (gK (dF .u8 (bZ .u64 (bZ .u64 x 32) 8)) 256) (
     k (gD.out (bW .i64 40 (dF .i64 (C8 (⟨#[0,1,2,2,3,3,3,3,4,4,4,4,4,4,4,4,5,5,5,5,5,5,5,5,5,5,5,5,5,5,5,5,6,6,6,6,6,6,6,6,6,6,6,6,6,6,6,6,6,6,6,6,6,6,6,6,6,6,6,6,6,6,6,6,7,7,7,7,7,7,7,7,7,7,7,7,7,7,7,7,7,7,7,7,7,7,7,7,7,7,7,7,7,7,7,7,7,7,7,7,7,7,7,7,7,7,7,7,7,7,7,7,7,7,7,7,7,7,7,7,7,7,7,7,7,7,7,7,8,8,8,8,8,8,8,8,8,8,8,8,8,8,8,8,8,8,8,8,8,8,8,8,8,8,8,8,8,8,8,8,8,8,8,8,8,8,8,8,8,8,8,8,8,8,8,8,8,8,8,8,8,8,8,8,8,8,8,8,8,8,8,8,8,8,8,8,8,8,8,8,8,8,8,8,8,8,8,8,8,8,8,8,8,8,8,8,8,8,8,8,8,8,8,8,8,8,8,8,8,8,8,8,8,8,8,8,8,8,8,8,8,8,8,8,8,8,8,8,8,8,8,8,8,8,8,8]⟩:ByteArray) (dF .u8 (bZ .u64 (bZ .u64 x 32) 8))))))) none) (
     aO (gK (dF .u8 (bZ .u64 x 32)) 256) (
     k (gD.out (bW .i64 32 (dF .i64 (C8 (⟨#[0,1,2,2,3,3,3,3,4,4,4,4,4,4,4,4,5,5,5,5,5,5,5,5,5,5,5,5,5,5,5,5,6,6,6,6,6,6,6,6,6,6,6,6,6,6,6,6,6,6,6,6,6,6,6,6,6,6,6,6,6,6,6,6,7,7,7,7,7,7,7,7,7,7,7,7,7,7,7,7,7,7,7,7,7,7,7,7,7,7,7,7,7,7,7,7,7,7,7,7,7,7,7,7,7,7,7,7,7,7,7,7,7,7,7,7,7,7,7,7,7,7,7,7,7,7,7,7,8,8,8,8,8,8,8,8,8,8,8,8,8,8,8,8,8,8,8,8,8,8,8,8,8,8,8,8,8,8,8,8,8,8,8,8,8,8,8,8,8,8,8,8,8,8,8,8,8,8,8,8,8,8,8,8,8,8,8,8,8,8,8,8,8,8,8,8,8,8,8,8,8,8,8,8,8,8,8,8,8,8,8,8,8,8,8,8,8,8,8,8,8,8,8,8,8,8,8,8,8,8,8,8,8,8,8,8,8,8,8,8,8,8,8,8,8,8,8,8,8,8,8,8,8,8,8,8]⟩:ByteArray) (dF .u8 (bZ .u64 x 32))))))) none))) (
   aO ((pN x 65536)) (
    aO ((pN (bZ .u64 x 16) 256)) (
     aO (gK (dF .u8 (bZ .u64 (bZ .u64 x 16) 8)) 256) (
     k (gD.out (bW .i64 24 (dF .i64 (C8 (⟨#[0,1,2,2,3,3,3,3,4,4,4,4,4,4,4,4,5,5,5,5,5,5,5,5,5,5,5,5,5,5,5,5,6,6,6,6,6,6,6,6,6,6,6,6,6,6,6,6,6,6,6,6,6,6,6,6,6,6,6,6,6,6,6,6,7,7,7,7,7,7,7,7,7,7,7,7,7,7,7,7,7,7,7,7,7,7,7,7,7,7,7,7,7,7,7,7,7,7,7,7,7,7,7,7,7,7,7,7,7,7,7,7,7,7,7,7,7,7,7,7,7,7,7,7,7,7,7,7,8,8,8,8,8,8,8,8,8,8,8,8,8,8,8,8,8,8,8,8,8,8,8,8,8,8,8,8,8,8,8,8,8,8,8,8,8,8,8,8,8,8,8,8,8,8,8,8,8,8,8,8,8,8,8,8,8,8,8,8,8,8,8,8,8,8,8,8,8,8,8,8,8,8,8,8,8,8,8,8,8,8,8,8,8,8,8,8,8,8,8,8,8,8,8,8,8,8,8,8,8,8,8,8,8,8,8,8,8,8,8,8,8,8,8,8,8,8,8,8,8,8,8,8,8,8,8,8]⟩:ByteArray) (dF .u8 (bZ .u64 (bZ .u64 x 16) 8))))))) none) (
     aO (gK (dF .u8 (bZ .u64 x 16)) 256) (
     k (gD.out (bW .i64 16 (dF .i64 (C8 (⟨#[0,1,2,2,3,3,3,3,4,4,4,4,4,4,4,4,5,5,5,5,5,5,5,5,5,5,5,5,5,5,5,5,6,6,6,6,6,6,6,6,6,6,6,6,6,6,6,6,6,6,6,6,6,6,6,6,6,6,6,6,6,6,6,6,7,7,7,7,7,7,7,7,7,7,7,7,7,7,7,7,7,7,7,7,7,7,7,7,7,7,7,7,7,7,7,7,7,7,7,7,7,7,7,7,7,7,7,7,7,7,7,7,7,7,7,7,7,7,7,7,7,7,7,7,7,7,7,7,8,8,8,8,8,8,8,8,8,8,8,8,8,8,8,8,8,8,8,8,8,8,8,8,8,8,8,8,8,8,8,8,8,8,8,8,8,8,8,8,8,8,8,8,8,8,8,8,8,8,8,8,8,8,8,8,8,8,8,8,8,8,8,8,8,8,8,8,8,8,8,8,8,8,8,8,8,8,8,8,8,8,8,8,8,8,8,8,8,8,8,8,8,8,8,8,8,8,8,8,8,8,8,8,8,8,8,8,8,8,8,8,8,8,8,8,8,8,8,8,8,8,8,8,8,8,8,8]⟩:ByteArray) (dF .u8 (bZ .u64 x 16))))))) none)) (
    aO ((pN x 256)) (
     aO (gK (dF .u8 (bZ .u64 x 8)) 256) (
     k (gD.out (bW .i64 8 (dF .i64 (C8 (⟨#[0,1,2,2,3,3,3,3,4,4,4,4,4,4,4,4,5,5,5,5,5,5,5,5,5,5,5,5,5,5,5,5,6,6,6,6,6,6,6,6,6,6,6,6,6,6,6,6,6,6,6,6,6,6,6,6,6,6,6,6,6,6,6,6,7,7,7,7,7,7,7,7,7,7,7,7,7,7,7,7,7,7,7,7,7,7,7,7,7,7,7,7,7,7,7,7,7,7,7,7,7,7,7,7,7,7,7,7,7,7,7,7,7,7,7,7,7,7,7,7,7,7,7,7,7,7,7,7,8,8,8,8,8,8,8,8,8,8,8,8,8,8,8,8,8,8,8,8,8,8,8,8,8,8,8,8,8,8,8,8,8,8,8,8,8,8,8,8,8,8,8,8,8,8,8,8,8,8,8,8,8,8,8,8,8,8,8,8,8,8,8,8,8,8,8,8,8,8,8,8,8,8,8,8,8,8,8,8,8,8,8,8,8,8,8,8,8,8,8,8,8,8,8,8,8,8,8,8,8,8,8,8,8,8,8,8,8,8,8,8,8,8,8,8,8,8,8,8,8,8,8,8,8,8,8,8]⟩:ByteArray) (dF .u8 (bZ .u64 x 8))))))) none) (
     aO (gK (dF .u8 x) 256) (
     k (gD.out (bW .i64 0 (dF .i64 (C8 (⟨#[0,1,2,2,3,3,3,3,4,4,4,4,4,4,4,4,5,5,5,5,5,5,5,5,5,5,5,5,5,5,5,5,6,6,6,6,6,6,6,6,6,6,6,6,6,6,6,6,6,6,6,6,6,6,6,6,6,6,6,6,6,6,6,6,7,7,7,7,7,7,7,7,7,7,7,7,7,7,7,7,7,7,7,7,7,7,7,7,7,7,7,7,7,7,7,7,7,7,7,7,7,7,7,7,7,7,7,7,7,7,7,7,7,7,7,7,7,7,7,7,7,7,7,7,7,7,7,7,8,8,8,8,8,8,8,8,8,8,8,8,8,8,8,8,8,8,8,8,8,8,8,8,8,8,8,8,8,8,8,8,8,8,8,8,8,8,8,8,8,8,8,8,8,8,8,8,8,8,8,8,8,8,8,8,8,8,8,8,8,8,8,8,8,8,8,8,8,8,8,8,8,8,8,8,8,8,8,8,8,8,8,8,8,8,8,8,8,8,8,8,8,8,8,8,8,8,8,8,8,8,8,8,8,8,8,8,8,8,8,8,8,8,8,8,8,8,8,8,8,8,8,8,8,8,8,8]⟩:ByteArray) (dF .u8 x)))))) none))):=by kernel_rfl
theorem gD.ok:gD.Ok:=by
 intro y h
 rw[gD.eq]
 obtain rfl | rfl | rfl:=h <;> kernel_rfl
theorem gD.run:gD.RS:=rE [.d tu] gD
def gD.sg:=gD.gl gD.ok
abbrev nb.D:=Int
abbrev nb.Y:=Int
def nb.bf:nb.D->Prop:=MX
def nb.F:nb.D->nb.Y:=λy=>if y=4611686018427377339 then 2 else 3
def nb:Fs Tryz.prog nb.bf bS nb.F:=fS 276 Tryz.f276 (λx=>([.d tu x],[])) (λx=>⟨.d ti x,[],[]⟩) [some tu] [gD.sg]
theorem nb.eq{R:Type}(x)(k:K1 R):nb.A x k=
 aA (gD.call x) λx1=>
 k (nb.out (df .i64 64 x1)):=by kernel_rfl
theorem nb.ok:nb.Ok:=by
 intro y h
 rw[nb.eq,gD.run (d:=y) h]
 obtain rfl | rfl | rfl:=h <;> rfl
theorem nb.run:nb.RS:=rE [.d tu] nb
def nb.sg:=nb.gl nb.ok
abbrev bJ.L0.D:=Int×Int×Int×Int×Int×Int×Int×Int×Int
abbrev bJ.L0.Y:=Int
abbrev bJ.L0.X:=(Int×Int×Int×Int×Int×Int×Int)×(Int)
def bJ.L0.add:bJ.L0.D->bJ.L0.Y->bJ.L0.X:=λ(zB,sv,yn1,yn0,un32,un1,un0,q1,rhat) y=>((zB,sv,yn1,yn0,un32,un1,un0),y)
abbrev bJ.L1.D:=Int×Int×Int×Int×Int×Int×Int×Int×Int
abbrev bJ.L1.Y:=Int
abbrev bJ.L1.X:=(Int×Int×Int×Int×Int)×(Int)
def bJ.L1.add:bJ.L1.D->bJ.L1.Y->bJ.L1.X:=λ(zC,mR,sD,yZ,rk,zs,qc,un21,q0) y=>((zC,mR,rk,zs,un21),y)
abbrev bJ.D:=Int×Int×Int
abbrev bJ.Y:=Int×Int
def bJ.L0.bf:bJ.L0.D->Prop:=λ(y,sv,yn1,yn0,u,w,un0,q,r)=>∃e:Int,(e=42260\/e=42264\/e=42272)/\y=18446744073709551616 - e/\yn1=4294967295/\yn0=4294967296 - e/\0<=u/\u < 18446744073709551616 - e/\0<=w/\w < 4294967296/\0<=r/\r < 4294967296/\q*4294967295+r=u/\(u*4294967296+w) / (18446744073709551616 - e)<=q
def bJ.L0.F:bJ.L0.D->bJ.L0.Y:=λ(y,sv,yn1,yn0,u,w,un0,q,r)=>(u*4294967296+w) / y
def bJ.L1.bf:bJ.L1.D->Prop:=λ(y,sv,yn1,yn0,w,q1,r,u,q)=>∃e:Int,(e=42260\/e=42264\/e=42272)/\y=18446744073709551616 - e/\yn1=4294967295/\yn0=4294967296 - e/\0<=u/\u < 18446744073709551616 - e/\0<=w/\w < 4294967296/\0<=r/\r < 4294967296/\q*4294967295+r=u/\(u*4294967296+w) / (18446744073709551616 - e)<=q
def bJ.L1.F:bJ.L1.D->bJ.L1.Y:=λ(y,sv,yn1,yn0,w,q1,r,u,q)=>(u*4294967296+w) / y
def bJ.bf:bJ.D->Prop:=λ(hi,lo,y)=>(MX y\/hi=0/\0 < y/\y < 18446744073709551616)/\0<=hi/\hi < y/\0<=lo/\lo < 18446744073709551616
def bJ.F:bJ.D->bJ.Y:=λ(hi,lo,y)=>((hi*18446744073709551616+lo) / y,(hi*18446744073709551616+lo)%y)
def bJ.L0:Ls bJ.L0.bf bJ.L0.add bJ.L0.F:=so (λ(zB,sv,yn1,yn0,un32,un1,un0,q1,rhat)=>⟨([.undef,.undef,.d tu zB]++bE 5 ([.d tu sv,.d tu yn1,.d tu yn0,.d tu un32,.undef,.d tu un1,.d tu un0,.d tu q1,.d tu rhat]++bE 118 [])),[],(List.replicate 135 [])⟩) (λx=>(.exit 0,⟨([.undef,.undef,.d tu x.1.1]++bE 5 ([.d tu x.1.2.1,.d tu x.1.2.2.1,.d tu x.1.2.2.2.1,.d tu x.1.2.2.2.2.1,.undef,.d tu x.1.2.2.2.2.2.1,.d tu x.1.2.2.2.2.2.2,.d tu x.2]++bE 119 [])),[],(List.replicate 135 [])⟩))
def bJ.L1:Ls bJ.L1.bf bJ.L1.add bJ.L1.F:=so (λ(zC,mR,sD,yZ,rk,zs,qc,un21,q0)=>⟨([.undef,.undef,.d tu zC]++bE 5 ([.d tu mR,.d tu sD,.d tu yZ,.undef,.undef,.undef,.d tu rk,.d tu zs,.d tu qc,.d tu un21,.d tu q0]++bE 116 [])),[],(List.replicate 135 [])⟩) (λx=>(.exit 2,⟨([.undef,.undef,.d tu x.1.1]++bE 5 ([.d tu x.1.2.1]++bE 5 ([.d tu x.1.2.2.1,.d tu x.1.2.2.2.1,.undef,.d tu x.1.2.2.2.2,.d tu x.2]++bE 116 []))),[],(List.replicate 135 [])⟩))
def bJ:Fs Tryz.prog bJ.bf bS bJ.F:=fS 237 Tryz.f237 (λ(hi,lo,yv)=>([.d tu hi,.d tu lo,.d tu yv],[])) (λx=>⟨.cons (.d tu x.1) (.cons (.d tu x.2) (.nil)),[],[]⟩) [some tu,some tu,some tu] [nb.sg] {loops:=qP [(17,{bI:=[2,8,9,10,11,13,14,15,16]}),(24,{bI:=[2,8,9,10,14,15,16,17,18]})],outs:=qO [(17,{bI:=[2,8,9,10,11,13,14,15]},{bI:=[6,7]}),(24,{bI:=[2,8,14,15,17,18]},{bI:=[6,7]})],jK:=sm [(17,bJ.L0.E),(24,bJ.L1.E)]}
theorem bJ.L0.run:bJ.L0.RS:=rL [.d tu,.d tu,.d tu,.d tu,.d tu,.d tu,.d tu,.d tu,.d tu] bJ.L0
theorem bJ.L0.step{R:Type}(zB sv yn1 yn0 un32 un1 un0 q1 rhat)(kn:K2 R)(kx:K3 R):bJ.R 0 bJ.L0 (zB,sv,yn1,yn0,un32,un1,un0,q1,rhat) kn kx=
  aO ((pN q1 4294967296)) (
   aO ((pN (bW .u64 rhat yn1) 4294967296)) (
    bJ.L0.go kx ((zB,sv,yn1,yn0,un32,un1,un0),(df .u64 q1 1))) (
    kn (bJ.L0.st (zB,sv,yn1,yn0,un32,un1,un0,(df .u64 q1 1),(bW .u64 rhat yn1))))) (
   aO ((pv (gu .u64 q1 yn0) (bW .u64 (gu .u64 4294967296 rhat) un1))) (
    aO ((pN (bW .u64 rhat yn1) 4294967296)) (
     bJ.L0.go kx ((zB,sv,yn1,yn0,un32,un1,un0),(df .u64 q1 1))) (
     kn (bJ.L0.st (zB,sv,yn1,yn0,un32,un1,un0,(df .u64 q1 1),(bW .u64 rhat yn1))))) (
    bJ.L0.go kx ((zB,sv,yn1,yn0,un32,un1,un0),q1))):=by kernel_rfl
theorem bJ.L1.run:bJ.L1.RS:=rL [.d tu,.d tu,.d tu,.d tu,.d tu,.d tu,.d tu,.d tu,.d tu] bJ.L1
theorem bJ.L1.step{R:Type}(zC mR sD yZ rk zs qc un21 q0)(kn:K2 R)(kx:K3 R):bJ.R 1 bJ.L1 (zC,mR,sD,yZ,rk,zs,qc,un21,q0) kn kx=
  aO ((pN q0 4294967296)) (
   aO ((pN (bW .u64 qc sD) 4294967296)) (
    bJ.L1.go kx ((zC,mR,rk,zs,un21),(df .u64 q0 1))) (
    kn (bJ.L1.st (zC,mR,sD,yZ,rk,zs,(bW .u64 qc sD),un21,(df .u64 q0 1))))) (
   aO ((pv (gu .u64 q0 yZ) (bW .u64 (gu .u64 4294967296 qc) rk))) (
    aO ((pN (bW .u64 qc sD) 4294967296)) (
     bJ.L1.go kx ((zC,mR,rk,zs,un21),(df .u64 q0 1))) (
     kn (bJ.L1.st (zC,mR,sD,yZ,rk,zs,(bW .u64 qc sD),un21,(df .u64 q0 1))))) (
    bJ.L1.go kx ((zC,mR,rk,zs,un21),q0))):=by kernel_rfl
theorem bJ.eq{R:Type}(hi lo yv)(k:K1 R):bJ.A (hi,lo,yv) k=
  aO ((Ac yv 0)) (
   none) (
   aO ((Ct yv hi)) (
    none) (
    aO ((Ac hi 0)) (
     aO (ky yv) (
     aO (ky yv) (
     k (bJ.out ((pg .u64 lo yv),(nH lo yv)))) none) none) (
     aA (nb.call yv) λx1=>
     aO (lF (dF .u64 x1)) (
     aO (lF (dF .u64 x1)) (
     aO (lF (df .u64 64 (dF .u64 x1))) (
     aO (lF (dF .u64 x1)) (
     aO (ky (bZ .u64 (lP .u64 yv (dF .u64 x1)) 32)) (
     aA (bJ.L0.call ((lP .u64 yv (dF .u64 x1)),(dF .u64 x1),(bZ .u64 (lP .u64 yv (dF .u64 x1)) 32),(di .and .u64 (lP .u64 yv (dF .u64 x1)) 4294967295),(di .or .u64 (lP .u64 hi (dF .u64 x1)) (bZ .u64 lo (df .u64 64 (dF .u64 x1)))),(bZ .u64 (lP .u64 lo (dF .u64 x1)) 32),(di .and .u64 (lP .u64 lo (dF .u64 x1)) 4294967295),(pg .u64 (di .or .u64 (lP .u64 hi (dF .u64 x1)) (bZ .u64 lo (df .u64 64 (dF .u64 x1)))) (bZ .u64 (lP .u64 yv (dF .u64 x1)) 32)),(df .u64 (di .or .u64 (lP .u64 hi (dF .u64 x1)) (bZ .u64 lo (df .u64 64 (dF .u64 x1)))) (gu .u64 (pg .u64 (di .or .u64 (lP .u64 hi (dF .u64 x1)) (bZ .u64 lo (df .u64 64 (dF .u64 x1)))) (bZ .u64 (lP .u64 yv (dF .u64 x1)) 32)) (bZ .u64 (lP .u64 yv (dF .u64 x1)) 32))))) λx2=>
     aO (ky x2.1.2.2.1) (
     aA (bJ.L1.call (x2.1.1,x2.1.2.1,x2.1.2.2.1,x2.1.2.2.2.1,x2.1.2.2.2.2.2.2,x2.2,(df .u64 (df .u64 (bW .u64 (gu .u64 x2.1.2.2.2.2.1 4294967296) x2.1.2.2.2.2.2.1) (gu .u64 x2.2 x2.1.1)) (gu .u64 (pg .u64 (df .u64 (bW .u64 (gu .u64 x2.1.2.2.2.2.1 4294967296) x2.1.2.2.2.2.2.1) (gu .u64 x2.2 x2.1.1)) x2.1.2.2.1) x2.1.2.2.1)),(df .u64 (bW .u64 (gu .u64 x2.1.2.2.2.2.1 4294967296) x2.1.2.2.2.2.2.1) (gu .u64 x2.2 x2.1.1)),(pg .u64 (df .u64 (bW .u64 (gu .u64 x2.1.2.2.2.2.1 4294967296) x2.1.2.2.2.2.2.1) (gu .u64 x2.2 x2.1.1)) x2.1.2.2.1))) λx3=>
     aO (lF x3.1.2.1) (
     k (bJ.out ((bW .u64 (gu .u64 x3.1.2.2.2.1 4294967296) x3.2),(bZ .u64 (df .u64 (bW .u64 (gu .u64 x3.1.2.2.2.2 4294967296) x3.1.2.2.1) (gu .u64 x3.2 x3.1.1)) x3.1.2.1)))) none) none) none) none) none) none) none))):=by kernel_rfl
theorem bJ.L0.ok:(bJ.mf 0 bJ.L0):=by
 refine(bJ.nN 0 bJ.L0) (λ(y,sv,yn1,yn0,u,w,un0,q,r)=>q.toNat) ?_
 rintro⟨y,sv,yn1,yn0,u,w,un0,q,r⟩ ⟨e,he,rfl,rfl,rfl,hu,BB,hw,Hc,hr,Ef,hq,hQ⟩
 have hu:0<=u:=hu
 have BB:u < 18446744073709551616 - e:=BB
 have hw:0<=w:=hw
 have Hc:w < 4294967296:=Hc
 have hr:0<=r:=hr
 have Ef:r < 4294967296:=Ef
 have hq:q*4294967295+r=u:=hq
 obtain⟨k1,k2,k3,k4,k5,k6⟩:=k1 he hu BB hw Hc hr Ef hq hQ
 have q0:0<=q:=Int.le_trans k5 hQ
 have a1:bW .u64 r 4294967295=r+4294967295:=by rw[nF];omega
 have a2:bW .u64 (gu .u64 4294967296 r) w=4294967296*r+w:=by rw[nG,nF];omega
 have a3:q < 4294967296->gu .u64 q (4294967296 - e)=q*(4294967296 - e):=by
  intro h;rw[nG];rcases he with rfl | rfl | rfl <;> omega
 have a4:0 < q->df .u64 q 1=q - 1:=by intro h;rw[wW];omega
 have pos:4294967296<=q\/(q < 4294967296/\4294967296*r+w < q*(4294967296 - e))->0 < q/\(u*4294967296+w) / (18446744073709551616 - e)<=q - 1:=by
  rintro(h | ⟨h,h2⟩)
  ·exact⟨by omega,k1 h⟩
  ·exact⟨by have:=k2 h h2;omega,k2 h h2⟩
 by_cases hc:4294967296<=q\/(q < 4294967296/\4294967296*r+w < q*(4294967296 - e))
 ·obtain⟨p1,p2⟩:=pos hc
  by_cases hb:4294967296<=r+4294967295
  ·right
   have hF:bJ.L0.F (18446744073709551616 - e,sv,4294967295,4294967296 - e,u,w,un0,q,r)=q - 1:=k4 hb p2
   intro R kn kx
   rw[bJ.L0.step,a1,a2,a4 p1,fH hb,hF]
   rcases hc with h | ⟨h,h2⟩
   ·rw[fH h];rfl
   ·rw[eg (by omega),a3 h,db h2];rfl
  ·left
   refine⟨(18446744073709551616 - e,sv,4294967295,4294967296 - e,u,w,un0,q - 1,r+4294967295),⟨e,he,rfl,rfl,rfl,hu,BB,hw,Hc,by omega,by omega,by omega,p2⟩,by simp only[];omega,rfl,λkn kx=> ?_⟩
   rw[bJ.L0.step,a1,a2,a4 p1,eg hb]
   rcases hc with h | ⟨h,h2⟩
   ·rw[fH h];rfl
   ·rw[eg (by omega),a3 h,db h2];rfl
 ·right
  have h:q < 4294967296:=by omega
  have h2:¬4294967296*r+w < q*(4294967296 - e):=λx=>hc (Or.inr ⟨h,x⟩)
  have hF:bJ.L0.F (18446744073709551616 - e,sv,4294967295,4294967296 - e,u,w,un0,q,r)=q:=k3 h (by omega)
  intro R kn kx
  rw[bJ.L0.step,a2,a3 h,eg (by omega),cR h2,hF]
  rfl
theorem bJ.L1.ok:(bJ.mf 1 bJ.L1):=by
 refine(bJ.nN 1 bJ.L1) (λ(y,sv,yn1,yn0,w,q1,r,u,q)=>q.toNat) ?_
 rintro⟨y,sv,yn1,yn0,w,q1,r,u,q⟩ ⟨e,he,rfl,rfl,rfl,hu,BB,hw,Hc,hr,Ef,hq,hQ⟩
 have hu:0<=u:=hu
 have BB:u < 18446744073709551616 - e:=BB
 have hw:0<=w:=hw
 have Hc:w < 4294967296:=Hc
 have hr:0<=r:=hr
 have Ef:r < 4294967296:=Ef
 have hq:q*4294967295+r=u:=hq
 obtain⟨k1,k2,k3,k4,k5,k6⟩:=k1 he hu BB hw Hc hr Ef hq hQ
 have q0:0<=q:=Int.le_trans k5 hQ
 have a1:bW .u64 r 4294967295=r+4294967295:=by rw[nF];omega
 have a2:bW .u64 (gu .u64 4294967296 r) w=4294967296*r+w:=by rw[nG,nF];omega
 have a3:q < 4294967296->gu .u64 q (4294967296 - e)=q*(4294967296 - e):=by
  intro h;rw[nG];rcases he with rfl | rfl | rfl <;> omega
 have a4:0 < q->df .u64 q 1=q - 1:=by intro h;rw[wW];omega
 have pos:4294967296<=q\/(q < 4294967296/\4294967296*r+w < q*(4294967296 - e))->0 < q/\(u*4294967296+w) / (18446744073709551616 - e)<=q - 1:=by
  rintro(h | ⟨h,h2⟩)
  ·exact⟨by omega,k1 h⟩
  ·exact⟨by have:=k2 h h2;omega,k2 h h2⟩
 by_cases hc:4294967296<=q\/(q < 4294967296/\4294967296*r+w < q*(4294967296 - e))
 ·obtain⟨p1,p2⟩:=pos hc
  by_cases hb:4294967296<=r+4294967295
  ·right
   have hF:bJ.L1.F (18446744073709551616 - e,sv,4294967295,4294967296 - e,w,q1,r,u,q)=q - 1:=k4 hb p2
   intro R kn kx
   rw[bJ.L1.step,a1,a2,a4 p1,fH hb,hF]
   rcases hc with h | ⟨h,h2⟩
   ·rw[fH h];rfl
   ·rw[eg (by omega),a3 h,db h2];rfl
  ·left
   refine⟨(18446744073709551616 - e,sv,4294967295,4294967296 - e,w,q1,r+4294967295,u,q - 1),⟨e,he,rfl,rfl,rfl,hu,BB,hw,Hc,by omega,by omega,by omega,p2⟩,by simp only[];omega,rfl,λkn kx=> ?_⟩
   rw[bJ.L1.step,a1,a2,a4 p1,eg hb]
   rcases hc with h | ⟨h,h2⟩
   ·rw[fH h];rfl
   ·rw[eg (by omega),a3 h,db h2];rfl
 ·right
  have h:q < 4294967296:=by omega
  have h2:¬4294967296*r+w < q*(4294967296 - e):=λx=>hc (Or.inr ⟨h,x⟩)
  have hF:bJ.L1.F (18446744073709551616 - e,sv,4294967295,4294967296 - e,w,q1,r,u,q)=q:=k3 h (by omega)
  intro R kn kx
  rw[bJ.L1.step,a2,a3 h,eg (by omega),cR h2,hF]
  rfl
theorem Lj{y hi lo:Int}(hy:MX y)(h0:0<=hi)(h1:hi < y)(h2:0<=lo)(h3:lo < 18446744073709551616):∃(s:Nat) (e m:Int),nb.F y=s/\(s=2\/s=3)/\m=2^s/\(e=42260\/e=42264\/e=42272)/\y*m=18446744073709551616 - e/\
  lP .u64 y (s:Int)=18446744073709551616 - e/\
  di .or .u64 (lP .u64 hi (s:Int)) (bZ .u64 lo (df .u64 64 (s:Int)))=(hi*18446744073709551616+lo)*m / 18446744073709551616/\
  lP .u64 lo (s:Int)=(hi*18446744073709551616+lo)*m%18446744073709551616/\
  (hi*18446744073709551616+lo)*m / 18446744073709551616 < 18446744073709551616 - e/\
  (hi*18446744073709551616+lo)*m / (18446744073709551616 - e)=(hi*18446744073709551616+lo) / y/\
  (hi*18446744073709551616+lo)*m%(18446744073709551616 - e) / m=(hi*18446744073709551616+lo)%y:=by
 have e1:df .u64 64 ((2:Nat):Int)=((62:Nat):Int):=rfl
 have e2:df .u64 64 ((3:Nat):Int)=((61:Nat):Int):=rfl
 have p2:(2:Int)^2=4:=rfl
 have p3:(2:Int)^3=8:=rfl
 have p61:(2:Int)^61=2305843009213693952:=rfl
 have p62:(2:Int)^62=4611686018427387904:=rfl
 obtain rfl | rfl | rfl:=hy
 ·refine⟨2,42260,4,rfl,Or.inl rfl,rfl,Or.inl rfl,rfl,by rw[mn 2 (by rfl) (by omega),p2];omega,?_,?_,by omega,by omega,by omega⟩
  ·rw[e1,mn 2 (by rfl) (by omega),nP 62 (by rfl) (by omega),p2,p62,ug 2 4 rfl (by omega) (by omega) (by omega) (by omega) (by omega) (by omega)];omega
  ·rw[mn 2 (by rfl) (by omega),p2];omega
 ·refine⟨3,42264,8,rfl,Or.inr rfl,rfl,Or.inr (Or.inl rfl),rfl,by rw[mn 3 (by rfl) (by omega),p3];omega,?_,?_,by omega,by omega,by omega⟩
  ·rw[e2,mn 3 (by rfl) (by omega),nP 61 (by rfl) (by omega),p3,p61,ug 3 8 rfl (by omega) (by omega) (by omega) (by omega) (by omega) (by omega)];omega
  ·rw[mn 3 (by rfl) (by omega),p3];omega
 ·refine⟨3,42272,8,rfl,Or.inr rfl,rfl,Or.inr (Or.inr rfl),rfl,by rw[mn 3 (by rfl) (by omega),p3];omega,?_,?_,by omega,by omega,by omega⟩
  ·rw[e2,mn 3 (by rfl) (by omega),nP 61 (by rfl) (by omega),p3,p61,ug 3 8 rfl (by omega) (by omega) (by omega) (by omega) (by omega) (by omega)];omega
  ·rw[mn 3 (by rfl) (by omega),p3];omega
theorem Qu(a b c:Int):(((a%18446744073709551616+b)%18446744073709551616) - c%18446744073709551616)%18446744073709551616=(a+b - c)%18446744073709551616:=by omega
theorem bJ.ok:bJ.Ok:=by
 rintro⟨hi,lo,y⟩ ⟨hy,h0,h1,h2,h3⟩
 have h0:0<=hi:=h0
 have h1:hi < y:=h1
 have h2:0<=lo:=h2
 have h3:lo < 18446744073709551616:=h3
 have yb:0 < y/\y < 18446744073709551616:=by
  rcases hy with hy | hy
  ·obtain rfl | rfl | rfl:=hy <;> omega
  ·exact hy.2
 rw[bJ.eq,gP (by omega),iy (by omega)]
 simp only[aq]
 have z:ky y=true:=by simp[ky];omega
 by_cases hz:hi=0
 ·subst hz
  rw[ja rfl,z,Fm h2 (by omega) h3,rB h2]
  simp only[aj,bJ.F,bS,Int.zero_mul,Int.zero_add]
 ·have hy:MX y:=hy.resolve_right λe=>hz e.1
  obtain⟨s,e,m,hs,xI,hm,he,SE,a1,a2,a3,a4,a5,a6⟩:=Lj hy h0 h1 h2 h3
  have c1:dF .u64 (s:Int)=(s:Int):=by rw[vf];omega
  have c2:lF (s:Int)=true:=oZ (by omega)
  have c3:lF (df .u64 64 (s:Int))=true:=by rcases xI with rfl | rfl <;> rfl
  rw[gP hz,nb.run (d:=y) hy]
  simp only[aq,ah,bS,hs,c1,c2,c3,aj,a1,a2,a3]
  have hN:0<=(hi*18446744073709551616+lo)*m:=lb (by omega) (by rcases xI with rfl | rfl <;> omega)
  revert a4 a5 a6
  generalize (hi*18446744073709551616+lo)*m=N at hN
  intro a4 a5 a6
  have u0:0<=N / 18446744073709551616:=by omega
  have t0:0<=N%18446744073709551616:=by omega
  have t1:N%18446744073709551616 < 18446744073709551616:=by omega
  have hd:N=(N / 18446744073709551616*4294967296+N%18446744073709551616 / 4294967296)*4294967296+N%18446744073709551616%4294967296:=by omega
  have w10:0<=N%18446744073709551616 / 4294967296:=by omega
  have w11:N%18446744073709551616 / 4294967296 < 4294967296:=by omega
  have w00:0<=N%18446744073709551616%4294967296:=by omega
  have w01:N%18446744073709551616%4294967296 < 4294967296:=by omega
  have p32:(2:Int)^32=4294967296:=rfl
  have b1:bZ .u64 (18446744073709551616 - e) 32=4294967295:=by rw[nP 32 (by rfl) (by omega),p32];rcases he with rfl | rfl | rfl <;> rfl
  have b2:di .and .u64 (18446744073709551616 - e) 4294967295=4294967296 - e:=by rw[BO (by omega) (by omega)];omega
  have b3:bZ .u64 (N%18446744073709551616) 32=N%18446744073709551616 / 4294967296:=by rw[nP 32 (by rfl) (by omega),p32]
  have b4:di .and .u64 (N%18446744073709551616) 4294967295=N%18446744073709551616%4294967296:=BO t0 t1
  have z2:ky 4294967295=true:=rfl
  simp only[b1,b2,b3,b4,z2,aj]
  clear a1 a2 a3 b1 b2 b3 b4
  have kdd:=kd (18446744073709551616 - e) (N / 18446744073709551616) (N%18446744073709551616 / 4294967296) (N%18446744073709551616%4294967296) (by omega) w00 w01
  rw[<-hd,a5]at kdd
  revert a4 kdd
  generalize N / 18446744073709551616=u at u0
  generalize N%18446744073709551616 / 4294967296=w1 at w10 w11
  generalize N%18446744073709551616%4294967296=w0 at w00 w01
  intro a4 kdd
  have g:∀u w:Int,0<=u->u < 18446744073709551616 - e->0<=w->w < 4294967296->
    pg .u64 u 4294967295=u / 4294967295/\df .u64 u (gu .u64 (u / 4294967295) 4294967295)=u - u / 4294967295*4294967295/\
    df .u64 (bW .u64 (gu .u64 u 4294967296) w) (gu .u64 ((u*4294967296+w) / (18446744073709551616 - e)) (18446744073709551616 - e))=(u*4294967296+w)%(18446744073709551616 - e):=by
   intro u w k1 k2 k3 k4
   obtain⟨q1,q2,q3,q4,q5,q6,q7,q8⟩:=k0 he k1 k2 k3 k4
   refine⟨Fm k1 (by omega) (by omega),by rw[wW,nG];omega,?_⟩
   rw[wW,nF,nG,nG,Qu,q4]
   exact Int.emod_eq_of_lt q5 (by omega)
  obtain⟨f1,f2,f3⟩:=g u w1 u0 a4 w10 w11
  obtain⟨q1,q2,q3,q4,q5,q6,q7,q8⟩:=k0 he u0 a4 w10 w11
  have p1:bJ.L0.bf (18446744073709551616 - e,(s:Int),4294967295,4294967296 - e,u,w1,w0,u / 4294967295,u - u / 4294967295*4294967295):=⟨e,he,rfl,rfl,rfl,u0,a4,w10,w11,q2,q3,by omega,q1⟩
  rw[f1,f2,bJ.L0.run p1]
  simp only[ah,bJ.L0.add,bJ.L0.F,z2,aj,f3]
  revert f3 q1 kdd
  generalize (u*4294967296+w1)%(18446744073709551616 - e)=v at q4 q5 q6
  generalize (u*4294967296+w1) / (18446744073709551616 - e)=Q at q4 q7 q8
  intro kdd f3 q1
  obtain⟨g1,g2,g3⟩:=g v w0 q5 q6 w00 w01
  obtain⟨r1,r2,r3,r4,r5,r6,r7,r8⟩:=k0 he q5 q6 w00 w01
  have p2:bJ.L1.bf (18446744073709551616 - e,(s:Int),4294967295,4294967296 - e,w0,Q,v - v / 4294967295*4294967295,v,v / 4294967295):=⟨e,he,rfl,rfl,rfl,q5,q6,w00,w01,r2,r3,by omega,r1⟩
  rw[g1,g2,bJ.L1.run p2]
  simp only[ah,bJ.L1.add,bJ.L1.F,c2,aj,g3]
  rw[<-kdd.2,nP s (by rfl) (by omega),<-hm,a6,nG,nF]
  have e9:(Q*4294967296%18446744073709551616+(v*4294967296+w0) / (18446744073709551616 - e))%18446744073709551616=(hi*18446744073709551616+lo) / y:=by rw[kdd.1];omega
  rw[e9]
  rfl
theorem bJ.run:bJ.RS:=rE [.d tu,.d tu,.d tu] bJ
def bJ.sg:=bJ.gl bJ.ok 2 ⟨.jG bJ.L0.ok,⟨.jG bJ.L1.ok,trivial⟩⟩
abbrev fB.D:=Int×Int×Int
abbrev fB.Y:=Int
def fB.bf:fB.D->Prop:=λ(hi,lo,y)=>MX y/\0<=hi/\hi < 18446744073709551616/\0<=lo/\lo < 18446744073709551616
def fB.F:fB.D->fB.Y:=λ(hi,lo,y)=>(hi*18446744073709551616+lo)%y
def fB:Fs Tryz.prog fB.bf bS fB.F:=fS 199 Tryz.f199 (λ(hi,lo,yv)=>([.d tu hi,.d tu lo,.d tu yv],[])) (λx=>⟨.d tu x,[],[]⟩) [some tu,some tu,some tu] [bJ.sg]
theorem fB.eq{R:Type}(hi lo yv)(k:K1 R):fB.A (hi,lo,yv) k=
 aO (ky yv) (
 aA (bJ.call ((nH hi yv),lo,yv)) λx1=>
 k (fB.out x1.2)) none:=by kernel_rfl
theorem fB.ok:fB.Ok:=by
 rintro⟨hi,lo,y⟩ ⟨hy,h0,h1,h2,h3⟩
 have h0:0<=hi:=h0
 have yb:0 < y:=by obtain rfl | rfl | rfl:=hy <;> omega
 have z:ky y=true:=by simp[ky];omega
 have p:bJ.bf (hi%y,lo,y):=⟨.inl hy,fP _ (by omega),fw _ yb,h2,h3⟩
 rw[fB.eq,z,rB h0,bJ.run p]
 have e:(hi%y*18446744073709551616+lo)%y=(hi*18446744073709551616+lo)%y:=by
  rw[Int.add_emod,Int.mul_emod,Int.emod_emod_of_dvd _ (Int.dvd_refl y),<-Int.mul_emod,<-Int.add_emod]
 simp only[aj,ah,bS,bJ.F,bS,fB.F,e]
theorem fB.run:fB.RS:=rE [.d tu,.d tu,.d tu] fB
def fB.sg:=fB.gl fB.ok
abbrev fJ.D:=Int×Int
abbrev fJ.Y:=Int×Int
def fJ.bf:fJ.D->Prop:=λ(x,y)=>(0<=x/\x < 18446744073709551616)/\0<=y/\y < 18446744073709551616
def fJ.F:fJ.D->fJ.Y:=λ(x,y)=>(x*y / 18446744073709551616,x*y%18446744073709551616)
def fJ:Fs Tryz.prog fJ.bf bS fJ.F:=fS 236 Tryz.f236 (λ(x,yv)=>([.d tu x,.d tu yv],[])) (λx=>⟨.cons (.d tu x.1) (.cons (.d tu x.2) (.nil)),[],[]⟩) [some tu,some tu]
theorem fJ.eq{R:Type}(x yv)(k:K1 R):fJ.A (x,yv) k=
 k (fJ.out ((bW .u64 (bW .u64 (gu .u64 (bZ .u64 x 32) (bZ .u64 yv 32)) (bZ .u64 (bW .u64 (gu .u64 (bZ .u64 x 32) (di .and .u64 yv 4294967295)) (bZ .u64 (gu .u64 (di .and .u64 x 4294967295) (di .and .u64 yv 4294967295)) 32)) 32)) (bZ .u64 (bW .u64 (di .and .u64 (bW .u64 (gu .u64 (bZ .u64 x 32) (di .and .u64 yv 4294967295)) (bZ .u64 (gu .u64 (di .and .u64 x 4294967295) (di .and .u64 yv 4294967295)) 32)) 4294967295) (gu .u64 (di .and .u64 x 4294967295) (bZ .u64 yv 32))) 32)),(gu .u64 x yv))):=by kernel_rfl
theorem vu{a b m n:Int}(h0:0<=a)(h1:a<=m)(h2:0<=b)(h3:b<=n):0<=a*b/\a*b<=m*n:=
 ⟨lb h0 h2,Int.mul_le_mul h1 h3 h2 (Int.le_trans h0 h1)⟩
theorem fJ.ok:fJ.Ok:=by
 rintro⟨x,y⟩ ⟨⟨h0,h1⟩,h2,h3⟩
 have h0:0<=x:=h0
 have h1:x < 18446744073709551616:=h1
 have h2:0<=y:=h2
 have h3:y < 18446744073709551616:=h3
 rw[fJ.eq]
 have p32:(2:Int)^32=4294967296:=rfl
 have Se:∀x:Int,bZ .u64 x 32=x / 4294967296:=λx=>by rw[nP 32 (by rfl) (by omega),p32]
 simp only[Se,BO h0 h1,BO h2 h3]
 obtain⟨a,b,rfl,a0,a1,b0,b1⟩:∃a b:Int,x=a*4294967296+b/\0<=a/\a<=4294967295/\0<=b/\b<=4294967295:=⟨x / 4294967296,x%4294967296,by omega,by omega,by omega,by omega,by omega⟩
 obtain⟨c,d,rfl,c0,c1,d0,d1⟩:∃a b:Int,y=a*4294967296+b/\0<=a/\a<=4294967295/\0<=b/\b<=4294967295:=⟨y / 4294967296,y%4294967296,by omega,by omega,by omega,by omega,by omega⟩
 have e1:(a*4294967296+b) / 4294967296=a:=by omega
 have e2:(a*4294967296+b)%4294967296=b:=by omega
 have e3:(c*4294967296+d) / 4294967296=c:=by omega
 have e4:(c*4294967296+d)%4294967296=d:=by omega
 have e5:(a*4294967296+b)*(c*4294967296+d)=a*c*18446744073709551616+(a*d+b*c)*4294967296+b*d:=by
  have q:(4294967296:Int)*4294967296=18446744073709551616:=rfl
  rw[Int.add_mul,Int.mul_add,Int.mul_add]
  have q1:a*4294967296*(c*4294967296)=a*c*18446744073709551616:=by rw[<-q];ac_rfl
  have q2:a*4294967296*d=a*d*4294967296:=by ac_rfl
  have q3:b*(c*4294967296)=b*c*4294967296:=by ac_rfl
  rw[q1,q2,q3];omega
 obtain⟨m1,m2⟩:=vu a0 a1 c0 c1
 obtain⟨m3,m4⟩:=vu a0 a1 d0 d1
 obtain⟨m5,m6⟩:=vu b0 b1 c0 c1
 obtain⟨m7,m8⟩:=vu b0 b1 d0 d1
 have n:(4294967295:Int)*4294967295=18446744065119617025:=rfl
 rw[n]at m2 m4 m6 m8
 simp only[e1,e2,e3,e4,bS,fJ.F,e5,nG,nF]
 revert m1 m2 m3 m4 m5 m6 m7 m8
 generalize a*c=ac
 generalize a*d=ad
 generalize b*c=bc
 generalize b*d=bd
 intro m1 m2 m3 m4 m5 m6 m7 m8
 have q1:bd%18446744073709551616=bd:=by omega
 have q2:ad%18446744073709551616=ad:=by omega
 have q3:bc%18446744073709551616=bc:=by omega
 have q4:ac%18446744073709551616=ac:=by omega
 rw[q1,q2,q3,q4]
 have q5:(ad+bd / 4294967296)%18446744073709551616=ad+bd / 4294967296:=by omega
 have q6:di .and .u64 (ad+bd / 4294967296) 4294967295=(ad+bd / 4294967296)%4294967296:=BO (by omega) (by omega)
 rw[q5,q6]
 refine congrArg some (congrArg fJ.out (Prod.ext ?_ ?_))
 ·show _=(_:Int)
  simp only[]
  omega
 ·rfl
theorem fJ.run:fJ.RS:=rE [.d tu,.d tu] fJ
def fJ.sg:=fJ.gl fJ.ok
def Pn(x:Int):Prop:=0<=x/\x < 4611686018427377339
def ku(x:Int):Prop:=0<=x/\x < 18446744073709551616
theorem Pn.u{x:Int}(h:Pn x):ku x:=⟨h.1,by have:=h.2;omega⟩
def ub(a b:Int):Int:=a*b%4611686018427377339
theorem uc(a b:Int):Pn (ub a b):=⟨fP _ (by omega),fw _ (by omega)⟩
def He:Nat->Int->Nat->Int->Int
 | 0,_,_,out=>out
 |f+1,a,n,out=>if n=0 then out else He f (ub a a) (n / 2) (if n%2=1 then ub out a else out)
def pw(a:Int)(n:Nat):Int:=He 64 a n 1
theorem qX(f:Nat)(a out:Int):He f a 0 out=out:=by cases f <;> rfl
theorem C2:∀(f g:Nat) (a:Int) (n:Nat) (out:Int),n < 2^f->n < 2^g->He f a n out=He g a n out
 | 0,g,a,n,out,h,_=>by
  obtain rfl:n=0:=by omega
  rw[qX,qX]
 |f+1,0,a,n,out,_,h=>by
  obtain rfl:n=0:=by omega
  rw[qX,qX]
 |f+1,g+1,a,n,out,h,h'=>by
  have e:(2:Nat)^(f+1)=2^f*2:=Nat.pow_succ 2 f
  have e':(2:Nat)^(g+1)=2^g*2:=Nat.pow_succ 2 g
  unfold He
  split
  ·rfl
  ·exact C2 f g _ _ _ (by omega) (by omega)
theorem Iv:∀(f:Nat) (a:Int) (n:Nat) (out:Int),Pn out->Pn (He f a n out)
 | 0,_,_,_,h=>h
 |f+1,a,n,out,h=>by
  unfold He
  split
  ·exact h
  ·refine Iv f _ _ _ ?_
   split
   ·exact uc _ _
   ·exact h
theorem Ot(a:Int)(n:Nat):Pn (pw a n):=Iv _ _ _ _ ⟨by omega,by omega⟩
abbrev fb.D:=Int×Int
abbrev fb.Y:=Int
def fb.bf:fb.D->Prop:=λ(a,b)=>ku a/\ku b
def fb.F:fb.D->fb.Y:=λ(a,b)=>ub a b
def fb:Fs Tryz.prog fb.bf bS fb.F:=fS 193 Tryz.f193 (λ(a,b)=>([.d tu a,.d tu b],[])) (λx=>⟨.d tu x,[],[]⟩) [some tu,some tu] [fJ.sg,fB.sg]
theorem fb.eq{R:Type}(a b)(k:K1 R):fb.A (a,b) k=
 aA (fJ.call (a,b)) λx1=>
 aA (fB.call (x1.1,x1.2,4611686018427377339)) λx2=>
 k (fb.out x2):=by kernel_rfl
theorem yV(n:Int):n / 18446744073709551616*18446744073709551616+n%18446744073709551616=n:=by omega
theorem fb.ok:fb.Ok:=by
 rintro⟨a,b⟩ ⟨ha,hb⟩
 have ha:ku a:=ha
 have hb:ku b:=hb
 obtain⟨m1,m2⟩:=vu ha.1 (show a<=18446744073709551615 by have:=ha.2;omega) hb.1 (show b<=18446744073709551615 by have:=hb.2;omega)
 have n:(18446744073709551615:Int)*18446744073709551615=340282366920938463426481119284349108225:=rfl
 rw[n]at m2
 have p:fB.bf (a*b / 18446744073709551616,a*b%18446744073709551616,4611686018427377339):=⟨Or.inl rfl,by omega,by omega,by omega,by omega⟩
 rw[fb.eq,fJ.run (d:=(a,b)) ⟨ha,hb⟩]
 simp only[ah,bS,fJ.F]
 rw[fB.run p]
 simp only[ah,bS,fB.F,yV]
 rfl
theorem fb.run:fb.RS:=rE [.d tu,.d tu] fb
def fb.sg:=fb.gl fb.ok
abbrev cK.L0.D:=Int×Int×Int
abbrev cK.L0.Y:=Int
abbrev cK.D:=Int×Int
abbrev cK.Y:=Int
def cK.L0.bf:cK.L0.D->Prop:=λ(a,n,o)=>ku a/\ku n/\Pn o
def cK.L0.F:cK.L0.D->cK.L0.Y:=λ(a,n,o)=>He 64 a n.toNat o
def cK.bf:cK.D->Prop:=λ(a,n)=>ku a/\ku n
def cK.F:cK.D->cK.Y:=λ(a,n)=>pw a n.toNat
def cK.L0:Ls cK.L0.bf bS cK.L0.F:=so (λ(Kf,Eu,outv)=>⟨([.d tu Kf,.d tu Eu,.undef,.undef,.undef,.d tu outv]++bE 14 []),[],(List.replicate 20 [])⟩) (λx=>(.exit 0,⟨(bE 5 ([.d tu x]++bE 14 [])),[],(List.replicate 20 [])⟩))
def cK:Fs Tryz.prog cK.bf bS cK.F:=fS 130 Tryz.f130 (λ(a,n)=>([.d tu a,.d tu n],[])) (λx=>⟨.d tu x,[],[]⟩) [some tu,some tu] [fb.sg] {loops:=qP [(2,{bI:=[0,1,5]})],outs:=qO [(2,{bI:=[5]},{bI:=[4]})],jK:=sm [(2,cK.L0.E)]}
theorem cK.L0.run:cK.L0.RS:=rL [.d tu,.d tu,.d tu] cK.L0
theorem cK.L0.step{R:Type}(Kf Eu outv)(kn:K2 R)(kx:K3 R):cK.R 0 cK.L0 (Kf,Eu,outv) kn kx=
  aO ((pv Eu 0)) (
   aO ((Ac (di .and .u64 Eu 1) 1)) (
    aA (fb.call (outv,Kf)) λx1=>
    aA (fb.call (Kf,Kf)) λx2=>
    kn (cK.L0.st (x2,(bZ .u64 Eu 1),x1))) (
    aA (fb.call (Kf,Kf)) λx3=>
    kn (cK.L0.st (x3,(bZ .u64 Eu 1),outv)))) (
   cK.L0.go kx outv):=by kernel_rfl
theorem cK.eq{R:Type}(a n)(k:K1 R):cK.A (a,n) k=
 aA (cK.L0.call (a,n,1)) λx4=>
 k (cK.out x4):=by kernel_rfl
theorem QH{n:Int}(h:ku n):bZ .u64 n 1=n / 2:=nP 1 (by rfl) (by omega)
theorem cK.L0.ok:(cK.mf 0 cK.L0):=by
 refine(cK.nN 0 cK.L0) (λ(a,n,o)=>n.toNat) ?_
 rintro⟨a,n,o⟩ ⟨ha,hn,ho⟩
 have ha:ku a:=ha
 have hn:ku n:=hn
 have ho:Pn o:=ho
 have n0:=hn.1
 have n1:=hn.2
 by_cases h:0 < n
 ·left
  have e:cK.L0.F (a,n,o)=cK.L0.F (ub a a,n / 2,if n%2=1 then ub o a else o):=by
   show He 64 a n.toNat o=He 64 (ub a a) (n / 2).toNat _
   rw[C2 64 65 a n.toNat o (by omega) (by omega)]
   have t1:(n / 2).toNat=n.toNat / 2:=by omega
   have t2:(n%2=1)=(n.toNat%2=1):=by apply propext;omega
   rw[t1]
   simp only[t2]
   show(if n.toNat=0 then o else _)=_
   rw[if_neg (by omega)]
  refine⟨(ub a a,n / 2,if n%2=1 then ub o a else o),⟨(uc a a).u,⟨by omega,by omega⟩,?_⟩,by show(n / 2).toNat < n.toNat;omega,?_,λkn kx=> ?_⟩
  ·show Pn (if n%2=1 then ub o a else o)
   split
   ·exact uc _ _
   ·exact ho
  ·exact congrArg _ e.symm
  ·rw[cK.L0.step,db h,QH hn,Pc n0 n1,fb.run (d:=(o,a)) ⟨ho.u,ha⟩,fb.run (d:=(a,a)) ⟨ha,ha⟩]
   by_cases h1:n%2=1
   ·rw[ja h1,if_pos h1];rfl
   ·rw[gP h1,if_neg h1];rfl
 ·right
  intro R kn kx
  obtain rfl:n=0:=by omega
  rw[cK.L0.step,cR (by omega)]
  simp only[aq,bS,cK.L0.F]
  rw[show He 64 a (Int.toNat 0) o=o from qX _ _ _]
theorem cK.ok:cK.Ok:=by
 rintro⟨a,n⟩ ⟨ha,hn⟩
 rw[cK.eq,cK.L0.run (d:=(a,n,1)) ⟨ha,hn,by omega,by omega⟩]
 rfl
theorem cK.run:cK.RS:=rE [.d tu,.d tu] cK
def cK.sg:=cK.gl cK.ok 1 ⟨.jG cK.L0.ok,trivial⟩
def vi(p:Int):Bool:=decide (0 < p/\p < 4611686018427377339) && decide (pw p 2305843009213688669=1)
def tk(p:Int):Int:=if vi p then p else 1
theorem KT(p:Int):Pn (tk p):=by
 unfold tk
 split
 ·rename_i h
  simp only[vi,ae,decide_eq_true_eq]at h
  exact⟨by omega,by omega⟩
 ·exact⟨by omega,by omega⟩
def EI(p k:Int):Int:=pw (tk p) (k%2305843009213688669).toNat
def kb(k:Int):Int:=EI 4 k
def Qv(p:Int):Int:=pw (tk p) 2305843009213688668
def Br(l:List Int):Int:=l.foldl (λo p=>ub o (tk p)) 1
theorem J5(l:List Int)(o:Int)(h:Pn o):Pn (l.foldl (λo p=>ub o (tk p)) o):=by
 induction l generalizing o with
 |nil=>exact h
 |cons p l ih=>exact ih _ (uc _ _)
theorem J6(l:List Int):Pn (Br l):=J5 l 1 ⟨by omega,by omega⟩
abbrev eU.D:=Int
abbrev eU.Y:=Bool
def eU.bf:eU.D->Prop:=λp=>ku p
def eU.F:eU.D->eU.Y:=λp=>vi p
def eU:Fs Tryz.prog eU.bf bS eU.F:=fS 151 Tryz.f151 (λp=>([.d tu p],[])) (λx=>⟨.d .bool x,[],[]⟩) [some tu] [cK.sg]
theorem eU.eq{R:Type}(p)(k:K1 R):eU.A p k=
  aO ((pv p 0)) (
   aO ((ju p 4611686018427377339)) (
    aA (cK.call (p,2305843009213688669)) λx1=>
    k (eU.out (Ac x1 1))) (
    k (eU.out false))) (
   k (eU.out false)):=by kernel_rfl
theorem eU.ok:eU.Ok:=by
 intro p hp
 have hp:ku p:=hp
 rw[eU.eq,cK.run (d:=(p,2305843009213688669)) ⟨hp,by constructor <;> decide⟩]
 simp only[ah,bS,cK.F,bS,eU.F,vi]
 by_cases h:0 < p
 ·rw[db h,aj]
  by_cases h2:p < 4611686018427377339
  ·rw[bq h2,aj,aY ⟨h,h2⟩,ck]
   rfl
  ·rw[bn h2,aq,cg (λx=>h2 x.2),eM]
 ·rw[cR h,aq,cg (λx=>h x.1),eM]
theorem eU.run:eU.RS:=rE [.d tu] eU
def eU.sg:=eU.gl eU.ok
abbrev eV.D:=Int
abbrev eV.Y:=Int
def eV.bf:eV.D->Prop:=λp=>ku p
def eV.F:eV.D->eV.Y:=λp=>tk p
def eV:Fs Tryz.prog eV.bf bS eV.F:=fS 131 Tryz.f131 (λp=>([.d tu p],[])) (λx=>⟨.d tu x,[],[]⟩) [some tu] [eU.sg]
theorem eV.eq{R:Type}(p)(k:K1 R):eV.A p k=
  aA (eU.call p) λx1=>
  aO (x1) (
   k (eV.out p)) (
   k (eV.out 1)):=by kernel_rfl
theorem eV.ok:eV.Ok:=by
 intro p hp
 rw[eV.eq,eU.run (d:=p) hp]
 simp only[ah,bS,eU.F,bS,eV.F,tk]
 cases vi p <;> rfl
theorem eV.run:eV.RS:=rE [.d tu] eV
def eV.sg:=eV.gl eV.ok
abbrev gd.D:=Int×Int
abbrev gd.Y:=Int
def gd.bf:gd.D->Prop:=λ(p,k)=>ku p/\ku k
def gd.F:gd.D->gd.Y:=λ(p,k)=>EI p k
def gd:Fs Tryz.prog gd.bf bS gd.F:=fS 63 Tryz.f63 (λ(p,kv)=>([.d tu p,.d tu kv],[])) (λx=>⟨.d tu x,[],[]⟩) [some tu,some tu] [eV.sg,cK.sg]
theorem gd.eq{R:Type}(p kv)(k:K1 R):gd.A (p,kv) k=
 aA (eV.call p) λx1=>
 aA (cK.call (x1,(nH kv 2305843009213688669))) λx2=>
 k (gd.out x2):=by kernel_rfl
theorem gd.ok:gd.Ok:=by
 rintro⟨p,k⟩ ⟨hp,hk⟩
 have hk:ku k:=hk
 have e:=rB (y:=2305843009213688669) hk.1
 have b:ku (k%2305843009213688669):=⟨by omega,by omega⟩
 rw[gd.eq,eV.run (d:=p) hp,e]
 simp only[ah,bS,eV.F]
 rw[cK.run (d:=(tk p,k%2305843009213688669)) ⟨(KT p).u,b⟩]
 rfl
theorem gd.run:gd.RS:=rE [.d tu,.d tu] gd
def gd.sg:=gd.gl gd.ok
abbrev gk.D:=Int
abbrev gk.Y:=Int
def gk.bf:gk.D->Prop:=λk=>ku k
def gk.F:gk.D->gk.Y:=λk=>kb k
def gk:Fs Tryz.prog gk.bf bS gk.F:=fS 14 Tryz.f14 (λkv=>([.d tu kv],[])) (λx=>⟨.d tu x,[],[]⟩) [some tu] [gd.sg]
theorem gk.eq{R:Type}(kv)(k:K1 R):gk.A kv k=
 aA (gd.call (4,kv)) λx1=>
 k (gk.out x1):=by kernel_rfl
theorem gk.ok:gk.Ok:=by
 intro k hk
 rw[gk.eq,gd.run (d:=(4,k)) ⟨⟨by omega,by omega⟩,hk⟩]
 rfl
theorem gk.run:gk.RS:=rE [.d tu] gk
def gk.sg:=gk.gl gk.ok
abbrev fv.L0.D:=Int×Bs×Int×Int
abbrev fv.L0.Y:=Int
abbrev fv.D:=Bs
abbrev fv.Y:=Int
def fv.L0.bf:fv.L0.D->Prop:=λ(o,l,n,i)=>Pn o/\(∀x∈l,ku x)/\l.length<=1000000000/\n=l.length/\∃k:Nat,k<=l.length/\i=k
def fv.L0.F:fv.L0.D->fv.L0.Y:=λ(o,l,n,i)=>(l.drop i.toNat).foldl (λo p=>ub o (tk p)) o
def fv.bf:fv.D->Prop:=λl=>(∀x∈l,ku x)/\l.length<=1000000000
def fv.F:fv.D->fv.Y:=λl=>Br l
def fv.L0:Ls fv.L0.bf bS fv.L0.F:=so (λ(outv,t6,t7,t8)=>⟨([.undef,.undef,.undef,.d tu outv,.undef,.undef,.d tU t6,.d ti t7,.d ti t8]++bE 9 []),[],(List.replicate 18 [])⟩) (λx=>(.exit 0,⟨([.undef,.undef,.undef,.d tu x]++bE 14 []),[],(List.replicate 18 [])⟩))
def fv:Fs Tryz.prog fv.bf bS fv.F:=fS 242 Tryz.f242 (λl=>([.d tU l],[])) (λx=>⟨.d tu x,[],[]⟩) [some tU] [eV.sg,fb.sg] {loops:=qP [(3,{bI:=[3,6,7,8]})],outs:=qO [(3,{bI:=[3]},{bI:=[2]})],jK:=sm [(3,fv.L0.E)]}
theorem fv.L0.run:fv.L0.RS:=rL [.d tu,.d tU,.d ti,.d ti] fv.L0
theorem fv.L0.step{R:Type}(outv t6 t7 t8)(kn:K2 R)(kx:K3 R):fv.R 0 fv.L0 (outv,t6,t7,t8) kn kx=
  aO ((ju t8 t7)) (
   aO (gK t8 (t6.length:Int)) (
   aA (eV.call (nth tu t6 (Int.toNat t8))) λx1=>
   aA (fb.call (outv,x1)) λx2=>
   kn (fv.L0.st (x2,t6,t7,(bW .i64 t8 1)))) none) (
   fv.L0.go kx outv):=by kernel_rfl
theorem fv.eq{R:Type}(l)(k:K1 R):fv.A l k=
 aA (fv.L0.call (1,l,(l.length:Int),0)) λx3=>
 k (fv.out x3):=by kernel_rfl
theorem fv.L0.ok:(fv.mf 0 fv.L0):=by
 refine(fv.nN 0 fv.L0) (λ(o,l,n,i)=>l.length - i.toNat) ?_
 rintro⟨o,l,n,i⟩ ⟨ho,hl,hb,rfl,k,hk,rfl⟩
 have ho:Pn o:=ho
 have hb:l.length<=1000000000:=hb
 have hk:k<=l.length:=hk
 by_cases h:k < l.length
 ·left
  have hx:=hl _ (b6 h)
  have n1:nth (.int .u64) l k=l[k]:=dR (t:= .int .u64) h
  refine⟨(ub o (tk l[k]),l,l.length,((k+1:Nat):Int)),⟨uc _ _,hl,hb,rfl,k+1,by omega,rfl⟩,by simp only[aa];omega,?_,λkn kx=> ?_⟩
  ·simp only[bS,fv.L0.F,aa]
   rw[aB h]
   rfl
  ·rw[fv.L0.step]
   simp(disch:=omega) only[↓S1,↓if_pos,↓if_neg,if_pos,if_neg,if_true,if_false,S2,n1]
   rw[eV.run (d:=l[k]) hx]
   simp only[ah,bS,eV.F]
   rw[fb.run (d:=(o,tk l[k])) ⟨ho.u,(KT _).u⟩]
   rfl
 ·right
  obtain rfl:k=l.length:=by omega
  intro R kn kx
  rw[fv.L0.step]
  simp(disch:=omega) only[↓S1,↓if_pos,↓if_neg,if_pos,if_neg,if_true,if_false,S2,bS,fv.L0.F,bG]
  rfl
theorem fv.ok:fv.Ok:=by
 rintro l ⟨hl,hb⟩
 rw[fv.eq,fv.L0.run (d:=(1,l,l.length,0)) ⟨⟨by omega,by omega⟩,hl,hb,rfl,0,by omega,rfl⟩]
 rfl
theorem fv.run:fv.RS:=rE [.d tU] fv
def fv.sg:=fv.gl fv.ok 1 ⟨.jG fv.L0.ok,trivial⟩
abbrev nc.D:=Int×Int
abbrev nc.Y:=Int
def nc.bf:nc.D->Prop:=λ(p,q)=>ku p/\ku q
def nc.F:nc.D->nc.Y:=λ(p,q)=>Br [p,q]
def nc:Fs Tryz.prog nc.bf bS nc.F:=fS 195 Tryz.f195 (λ(p,q)=>([.d tu p,.d tu q],[])) (λx=>⟨.d tu x,[],[]⟩) [some tu,some tu] [fv.sg]
theorem nc.eq{R:Type}(p q)(k:K1 R):nc.A (p,q) k=
 aA (fv.call [p,q]) λx1=>
 k (nc.out x1):=by kernel_rfl
theorem nc.ok:nc.Ok:=by
 rintro⟨p,q⟩ ⟨hp,hq⟩
 have h:fv.bf [p,q]:=⟨by intro x hx;simp only[b8,gr,or_false]at hx;rcases hx with rfl | rfl <;> assumption,by simp only[aC,aZ];omega⟩
 rw[nc.eq,fv.run h]
 rfl
theorem nc.run:nc.RS:=rE [.d tu,.d tu] nc
def nc.sg:=nc.gl nc.ok
def Qn(x:Int):Prop:=0<=x/\x < 2305843009213688669
theorem Qn.u{x:Int}(h:Qn x):ku x:=⟨h.1,by have:=h.2;omega⟩
def I6(a:Int):Int:=a%2305843009213688669
theorem Bi(a:Int):Qn (I6 a):=⟨fP _ (by omega),fw _ (by omega)⟩
def K5(a b:Int):Int:=(I6 a+I6 b)%2305843009213688669
def JN(a b:Int):Int:=I6 a*I6 b%2305843009213688669
def vW(h:List Int):Int:=h.foldl (λn b=>(n*256+b)%2305843009213688668) 0+1
def Hh.b(n:Int):Prop:=0<=n/\n < 2305843009213688668
theorem Cf(h:List Int)(n:Int)(hn:Hh.b n):Hh.b (h.foldl (λn b=>(n*256+b)%2305843009213688668) n):=by
 induction h generalizing n with
 |nil=>exact hn
 |cons p l ih=>exact ih _ ⟨fP _ (by omega),fw _ (by omega)⟩
theorem Cg(h:List Int):0 < vW h/\vW h < 2305843009213688669:=by
 have:=Cf h 0 ⟨by omega,by omega⟩
 have h1:=this.1
 have h2:=this.2
 unfold vW
 omega
theorem Jd(a b:Int):Qn (K5 a b):=⟨fP _ (by omega),fw _ (by omega)⟩
theorem JO(a b:Int):Qn (JN a b):=⟨fP _ (by omega),fw _ (by omega)⟩
abbrev eB.D:=Int
abbrev eB.Y:=Bool
def eB.bf:eB.D->Prop:=λ_=>True
def eB.F:eB.D->eB.Y:=λa=>ju a 2305843009213688669
def eB:Fs Tryz.prog eB.bf bS eB.F:=fS 65 Tryz.f65 (λa=>([.d tu a],[])) (λx=>⟨.d .bool x,[],[]⟩) [some tu]
theorem eB.eq{R:Type}(a)(k:K1 R):eB.A a k=
 k (eB.out (ju a 2305843009213688669)):=by kernel_rfl
theorem eB.ok:eB.Ok:=by
 intro a _
 rw[eB.eq]
 rfl
theorem eB.run:eB.RS:=rE [.d tu] eB
def eB.sg:=eB.gl eB.ok
abbrev rP.D:=Int
abbrev rP.Y:=Int
def rP.bf:rP.D->Prop:=λa=>ku a
def rP.F:rP.D->rP.Y:=λa=>I6 a
def rP:Fs Tryz.prog rP.bf bS rP.F:=fS 243 Tryz.f243 (λa=>([.d tu a],[])) (λx=>⟨.d tu x,[],[]⟩) [some tu]
theorem rP.eq{R:Type}(a)(k:K1 R):rP.A a k=
 k (rP.out (nH a 2305843009213688669)):=by kernel_rfl
theorem rP.ok:rP.Ok:=by
 intro a ha
 rw[rP.eq,rB ha.1]
 rfl
theorem rP.run:rP.RS:=rE [.d tu] rP
def rP.sg:=rP.gl rP.ok
abbrev jt.D:=Int×Int
abbrev jt.Y:=Int
def jt.bf:jt.D->Prop:=λ(a,b)=>Qn a/\Qn b
def jt.F:jt.D->jt.Y:=λ(a,b)=>(a+b)%2305843009213688669
def jt:Fs Tryz.prog jt.bf bS jt.F:=fS 244 Tryz.f244 (λ(a,b)=>([.d tu a,.d tu b],[])) (λx=>⟨.d tu x,[],[]⟩) [some tu,some tu]
theorem jt.eq{R:Type}(a b)(k:K1 R):jt.A (a,b) k=
 k (jt.out (nH (bW .u64 a b) 2305843009213688669)):=by kernel_rfl
theorem jt.ok:jt.Ok:=by
 rintro⟨a,b⟩ ⟨ha,hb⟩
 have ha:Qn a:=ha
 have hb:Qn b:=hb
 obtain⟨h1,h2⟩:=ha
 obtain⟨h3,h4⟩:=hb
 have e:bW .u64 a b=a+b:=by rw[nF];omega
 rw[jt.eq,e,rB (by omega)]
 rfl
theorem jt.run:jt.RS:=rE [.d tu,.d tu] jt
def jt.sg:=jt.gl jt.ok
abbrev ga.D:=Int×Int
abbrev ga.Y:=Int
def ga.bf:ga.D->Prop:=λ(a,b)=>Qn a/\Qn b
def ga.F:ga.D->ga.Y:=λ(a,b)=>a*b%2305843009213688669
def ga:Fs Tryz.prog ga.bf bS ga.F:=fS 245 Tryz.f245 (λ(a,b)=>([.d tu a,.d tu b],[])) (λx=>⟨.d tu x,[],[]⟩) [some tu,some tu] [fJ.sg,fB.sg]
theorem ga.eq{R:Type}(a b)(k:K1 R):ga.A (a,b) k=
 aA (fJ.call (a,b)) λx1=>
 aA (fB.call (x1.1,x1.2,2305843009213688669)) λx2=>
 k (ga.out x2):=by kernel_rfl
theorem ga.ok:ga.Ok:=by
 rintro⟨a,b⟩ ⟨ha,hb⟩
 have ha:Qn a:=ha
 have hb:Qn b:=hb
 obtain⟨m1,m2⟩:=vu ha.1 (show a<=18446744073709551615 by have:=ha.2;omega) hb.1 (show b<=18446744073709551615 by have:=hb.2;omega)
 have n:(18446744073709551615:Int)*18446744073709551615=340282366920938463426481119284349108225:=rfl
 rw[n]at m2
 have p:fB.bf (a*b / 18446744073709551616,a*b%18446744073709551616,2305843009213688669):=⟨Or.inr (Or.inl rfl),by omega,by omega,by omega,by omega⟩
 rw[ga.eq,fJ.run (d:=(a,b)) ⟨ha.u,hb.u⟩]
 simp only[ah,bS,fJ.F]
 rw[fB.run p]
 simp only[ah,bS,fB.F,yV]
 rfl
theorem ga.run:ga.RS:=rE [.d tu,.d tu] ga
def ga.sg:=ga.gl ga.ok
abbrev nD.D:=Int×Int
abbrev nD.Y:=Int
def nD.bf:nD.D->Prop:=λ(a,b)=>ku a/\ku b
def nD.F:nD.D->nD.Y:=λ(a,b)=>K5 a b
def nD:Fs Tryz.prog nD.bf bS nD.F:=fS 196 Tryz.f196 (λ(a,b)=>([.d tu a,.d tu b],[])) (λx=>⟨.d tu x,[],[]⟩) [some tu,some tu] [rP.sg,jt.sg]
theorem nD.eq{R:Type}(a b)(k:K1 R):nD.A (a,b) k=
 aA (rP.call a) λx1=>
 aA (rP.call b) λx2=>
 aA (jt.call (x1,x2)) λx3=>
 k (nD.out x3):=by kernel_rfl
theorem nD.ok:nD.Ok:=by
 rintro⟨a,b⟩ ⟨ha,hb⟩
 rw[nD.eq,rP.run (d:=a) ha,rP.run (d:=b) hb]
 simp only[ah,bS,rP.F]
 rw[jt.run (d:=(I6 a,I6 b)) ⟨Bi a,Bi b⟩]
 rfl
theorem nD.run:nD.RS:=rE [.d tu,.d tu] nD
def nD.sg:=nD.gl nD.ok
abbrev mY.D:=Int×Int
abbrev mY.Y:=Int
def mY.bf:mY.D->Prop:=λ(a,b)=>ku a/\ku b
def mY.F:mY.D->mY.Y:=λ(a,b)=>JN a b
def mY:Fs Tryz.prog mY.bf bS mY.F:=fS 197 Tryz.f197 (λ(a,b)=>([.d tu a,.d tu b],[])) (λx=>⟨.d tu x,[],[]⟩) [some tu,some tu] [rP.sg,ga.sg]
theorem mY.eq{R:Type}(a b)(k:K1 R):mY.A (a,b) k=
 aA (rP.call a) λx1=>
 aA (rP.call b) λx2=>
 aA (ga.call (x1,x2)) λx3=>
 k (mY.out x3):=by kernel_rfl
theorem mY.ok:mY.Ok:=by
 rintro⟨a,b⟩ ⟨ha,hb⟩
 rw[mY.eq,rP.run (d:=a) ha,rP.run (d:=b) hb]
 simp only[ah,bS,rP.F]
 rw[ga.run (d:=(I6 a,I6 b)) ⟨Bi a,Bi b⟩]
 rfl
theorem mY.run:mY.RS:=rE [.d tu,.d tu] mY
def mY.sg:=mY.gl mY.ok
abbrev dp.L0.D:=Int×Bs×Int
abbrev dp.L0.Y:=Int
abbrev dp.D:=Bs
abbrev dp.Y:=Int
def dp.L0.bf:dp.L0.D->Prop:=λ(n,h,i)=>Hh.b n/\h.length=32/\Bytes h/\∃k:Nat,k<=32/\i=k
def dp.L0.F:dp.L0.D->dp.L0.Y:=λ(n,h,i)=>(h.drop i.toNat).foldl (λn b=>(n*256+b)%2305843009213688668) n
def dp.bf:dp.D->Prop:=λh=>h.length=32/\Bytes h
def dp.F:dp.D->dp.Y:=λh=>vW h
def dp.L0:Ls dp.L0.bf bS dp.L0.F:=so (λ(n,t6,t7)=>⟨([.undef,.undef,.undef,.d tu n,.undef,.undef,.d tH t6,.d ti t7]++bE 13 []),[],(List.replicate 21 [])⟩) (λx=>(.exit 0,⟨([.undef,.undef,.undef,.d tu x]++bE 17 []),[],(List.replicate 21 [])⟩))
def dp:Fs Tryz.prog dp.bf bS dp.F:=fS 136 Tryz.f136 (λh=>([.d tH h],[])) (λx=>⟨.d tu x,[],[]⟩) [some tH] [fB.sg] {loops:=qP [(3,{bI:=[3,6,7]})],outs:=qO [(3,{bI:=[3]},{bI:=[2]})],jK:=sm [(3,dp.L0.E)]}
theorem dp.L0.run:dp.L0.RS:=rL [.d tu,.d tB,.d ti] dp.L0
theorem dp.L0.step{R:Type}(n t6 t7)(kn:K2 R)(kx:K3 R):dp.R 0 dp.L0 (n,t6,t7) kn kx=
  aO ((ju t7 32)) (
   aO (gK t7 32) (
   aA (fB.call ((bZ .u64 n 56),(di .or .u64 (lP .u64 n 8) (dF .u64 (nth tb t6 (Int.toNat t7)))),2305843009213688668)) λx1=>
   kn (dp.L0.st (x1,t6,(bW .i64 t7 1)))) none) (
   dp.L0.go kx n):=by kernel_rfl
theorem dp.eq{R:Type}(h)(k:K1 R):dp.A h k=
 aA (dp.L0.call (0,h,0)) λx2=>
 k (dp.out (bW .u64 x2 1)):=by kernel_rfl
theorem Ch{n b:Int}(hn:Hh.b n)(hb:FG b):bZ .u64 n 56*18446744073709551616+di .or .u64 (lP .u64 n 8) (dF .u64 b)=n*256+b/\ku (bZ .u64 n 56)/\ku (di .or .u64 (lP .u64 n 8) (dF .u64 b)):=by
 obtain⟨h1,h2⟩:=hn
 obtain⟨h3,h4⟩:=hb
 have p56:(2:Int)^56=72057594037927936:=rfl
 have p8:(2:Int)^8=256:=rfl
 have e:dF .u64 b=b:=by rw[vf];omega
 rw[nP 56 (by rfl) (by omega),mn 8 (by rfl) (by omega),p56,p8,e,ug 8 256 rfl (by omega) (by omega) (by omega) (by omega) (by omega) (by omega)]
 exact⟨by omega,⟨by omega,by omega⟩,by omega,by omega⟩
theorem dp.L0.ok:(dp.mf 0 dp.L0):=by
 refine(dp.nN 0 dp.L0) (λ(n,h,i)=>32 - i.toNat) ?_
 rintro⟨n,h,i⟩ ⟨hn,hl,hb,k,hk,rfl⟩
 have hn:Hh.b n:=hn
 have hl:h.length=32:=hl
 have hb:Bytes h:=hb
 by_cases gO:k < 32
 ·left
  have hx:FG (h[k]'(by omega)):=hb _ (b6 _)
  have n1:nth (.int .u8) h k=h[k]'(by omega):=dR (t:= .int .u8) (by omega)
  obtain⟨d1,d2,d3⟩:=Ch hn hx
  refine⟨((n*256+h[k]'(by omega))%2305843009213688668,h,((k+1:Nat):Int)),⟨⟨by omega,by omega⟩,hl,hb,k+1,by omega,rfl⟩,by simp only[aa];omega,?_,λkn kx=> ?_⟩
  ·simp only[bS,dp.L0.F,aa]
   rw[aB (by omega:k < h.length)]
   rfl
  ·rw[dp.L0.step]
   simp(disch:=omega) only[↓S1,↓if_pos,↓if_neg,if_pos,if_neg,if_true,if_false,S2,n1]
   rw[fB.run (d:=(_,_,2305843009213688668)) ⟨Or.inr (Or.inr rfl),d2.1,d2.2,d3.1,d3.2⟩]
   simp only[ah,bS,fB.F,d1]
 ·right
  obtain rfl:k=32:=by omega
  intro R kn kx
  rw[dp.L0.step]
  simp(disch:=omega) only[↓S1,↓if_pos,↓if_neg,if_pos,if_neg,if_true,if_false,S2,bS,dp.L0.F]
  rw[fe (by omega)]
  rfl
theorem dp.ok:dp.Ok:=by
 rintro h ⟨hl,hb⟩
 have e:=Cf h 0 ⟨by omega,by omega⟩
 have h1:=e.1
 have h2:=e.2
 rw[dp.eq,dp.L0.run (d:=(0,h,0)) ⟨⟨by omega,by omega⟩,hl,hb,0,by omega,rfl⟩]
 simp only[ah,bS,dp.L0.F,bS,dp.F,vW,cV,aL]
 revert h1 h2
 generalize h.foldl (λn b=>(n*256+b)%2305843009213688668) 0=m
 intro h1 h2
 have e:bW .u64 m 1=m+1:=by rw[nF];omega
 rw[e]
theorem dp.run:dp.RS:=rE [.d tB] dp
def dp.sg:=dp.gl dp.ok 1 ⟨.jG dp.L0.ok,trivial⟩
theorem BR(n:Int): [dF .u8 (bZ .u64 n 56),dF .u8 (bZ .u64 n 48),dF .u8 (bZ .u64 n 40),dF .u8 (bZ .u64 n 32),dF .u8 (bZ .u64 n 24),dF .u8 (bZ .u64 n 16),dF .u8 (bZ .u64 n 8),dF .u8 (bZ .u64 n 0)]=pa n:=DL n
theorem gR{α:Type}{l:List α}{n:Nat}(h:l.length=n):cut l 0 n=l:=by subst h;simp[cut]
theorem IL{n:ByteArray}{a b c:List Int}(hn:n.size<=100)(ha:a.length<=1000000)(hb:b.length<=1000000)(hc:c.length<=1000000):dW.bf (n,[a,b,c]):=by
 show(zy _ [a,b,c]).length<=_
 rw[zy]
 simp only[nS,List.flatMap_cons,List.flatMap_nil,au,dq,js,aZ]
 omega
theorem IK{n:ByteArray}{a b:List Int}(hn:n.size<=100)(ha:a.length<=1000000)(hb:b.length<=1000000):dW.bf (n,[a,b]):=by
 show(zy _ [a,b]).length<=_
 rw[zy]
 simp only[nS,List.flatMap_cons,List.flatMap_nil,au,dq,js,aZ]
 omega
theorem IJ{n:ByteArray}{a:List Int}(hn:n.size<=100)(ha:a.length<=1000000):dW.bf (n,[a]):=by
 show(zy _ [a]).length<=_
 rw[zy]
 simp only[nS,List.flatMap_cons,List.flatMap_nil,au,dq,js,aZ]
 omega
def Sm(m:List Int):Prop:=m.length=32/\Bytes m
theorem Mv(b:List Int):Sm (M4 b):=⟨EJ b,FT b⟩
theorem EK(n:List Int)(ps:List (List Int)):Sm (tag n ps):=Mv _
def Mx(n:ByteArray)(ps:List (List Int)):List Int:=tag (bQ n) ps
def Ol:ByteArray:=⟨#[115,105,103]⟩
def Mi:ByteArray:=⟨#[110,111,110,99,101]⟩
def vR(r p:Int)(m:List Int):Int:=vW (Mx Ol [pa r,pa p,m])
theorem Ht(r p:Int)(m:List Int):Qn (vR r p m):=by
 have:=Cg (Mx Ol [pa r,pa p,m])
 exact⟨by unfold vR;omega,by unfold vR;omega⟩
def QO(s:Sg):Prop:=ku s.1/\ku s.2.1
def Ld(p:Int)(m:List Int)(t:Int)(s:Sg):Bool:=
 if p=1\/vi p=false\/vi t=false\/vi s.1=false\/¬s.2.1 < 2305843009213688669 then false
 else decide (kb s.2.1=Br [s.1,EI p (vR s.1 p m),Qv t])
def E4(k nonce:Int)(m:List Int)(t:Int):Sg:=
 (Br [kb nonce,t],K5 nonce (JN (vR (Br [kb nonce,t]) (kb k) m) k),())
def Ml(k:Int)(m:List Int):Int:=vW (Mx Mi [pa k,m])
def qo(k:Int)(m:List Int):Sg:=if k < 2305843009213688669/\k≠0 then E4 k (Ml k m) m 1 else(0,0,())
abbrev eT.D:=Int
abbrev eT.Y:=Bs
def eT.bf:eT.D->Prop:=λ_=>True
def eT.F:eT.D->eT.Y:=λn=>pa n
def eT:Fs Tryz.prog eT.bf bS eT.F:=fS 137 Tryz.f137 (λn=>([.d tu n],[])) (λx=>⟨.d tB x,[],[]⟩) [some tu] [] {loops:=qP [(3,{bI:=[0,3,7,8],sites:=[5]})],outs:=qO [(3,{bI:=[3],sites:=[5]},{bI:=[2],sites:=[5]})],res:=[some tB]} 12
theorem eT.eq{R:Type}(n)(k:K1 R):eT.A n k=
 k (eT.out [(dF .u8 (bZ .u64 n 56)),(dF .u8 (bZ .u64 n 48)),(dF .u8 (bZ .u64 n 40)),(dF .u8 (bZ .u64 n 32)),(dF .u8 (bZ .u64 n 24)),(dF .u8 (bZ .u64 n 16)),(dF .u8 (bZ .u64 n 8)),(dF .u8 (bZ .u64 n 0))]):=by kernel_rfl
theorem eT.ok:eT.Ok:=by
 intro n _
 rw[eT.eq,BR]
 rfl
theorem eT.run:eT.RS:=rE [.d tu] eT
def eT.sg:=eT.gl eT.ok 1 ⟨.none (by kernel_rfl),trivial⟩
abbrev iV.D:=Int×Int×Bs
abbrev iV.Y:=Int
def iV.bf:iV.D->Prop:=λ(r,p,m)=>Sm m
def iV.F:iV.D->iV.Y:=λ(r,p,m)=>vR r p m
def iV:Fs Tryz.prog iV.bf bS iV.F:=fS 198 Tryz.f198 (λ(r,p,m)=>([.d tu r,.d tu p,.d tH m],[])) (λx=>⟨.d tu x,[],[]⟩) [some tu,some tu,some tH] [eT.sg,dW.sg,dp.sg]
theorem iV.eq{R:Type}(r p m)(k:K1 R):iV.A (r,p,m) k=
 aA (eT.call r) λx1=>
 aA (eT.call p) λx2=>
 aA (dW.call ((⟨#[115,105,103]⟩:ByteArray),[x1,x2,(cut m 0 32)])) λx3=>
 aA (dp.call x3) λx4=>
 k (iV.out x4):=by kernel_rfl
theorem iV.ok:iV.Ok:=by
 rintro⟨r,p,m⟩ hm
 have hm:Sm m:=hm
 rw[iV.eq,eT.run (d:=r) trivial,eT.run (d:=p) trivial]
 simp only[ah,bS,eT.F]
 rw[gR hm.1,dW.run (IL (by decide) (by rw[dq];omega) (by rw[dq];omega) (by rw[hm.1];omega))]
 simp only[ah,bS,dW.F]
 rw[dp.run (d:=tag (bQ (⟨#[115,105,103]⟩:ByteArray)) [pa r,pa p,m]) (EK _ _)]
 rfl
theorem iV.run:iV.RS:=rE [.d tu,.d tu,.d tB] iV
def iV.sg:=iV.gl iV.ok
abbrev ma.D:=Int
abbrev ma.Y:=Bool
def ma.bf:ma.D->Prop:=λ_=>True
def ma.F:ma.D->ma.Y:=λk=>decide (k < 2305843009213688669/\k≠0)
def ma:Fs Tryz.prog ma.bf bS ma.F:=fS 134 Tryz.f134 (λkv=>([.d tu kv],[])) (λx=>⟨.d .bool x,[],[]⟩) [some tu] [eB.sg]
theorem ma.eq{R:Type}(kv)(k:K1 R):ma.A kv k=
  aA (eB.call kv) λx1=>
  aO (x1) (
   k (ma.out (wV kv 0))) (
   k (ma.out false)):=by kernel_rfl
theorem ma.ok:ma.Ok:=by
 intro k _
 rw[ma.eq,eB.run (d:=k) trivial]
 simp only[ah,bS,eB.F,bS,ma.F]
 by_cases h:k < 2305843009213688669
 ·rw[bq h,aj]
  by_cases h0:k=0
  ·rw[e7 h0,cg (λx=>x.2 h0)]
  ·rw[iA h0,aY ⟨h,h0⟩]
 ·rw[bn h,aq,cg (λx=>h x.1)]
theorem ma.run:ma.RS:=rE [.d tu] ma
def ma.sg:=ma.gl ma.ok
abbrev fa.D:=Int×Int×Bs×Int
abbrev fa.Y:=Sg
def fa.bf:fa.D->Prop:=λ(k,n,m,t)=>ku k/\ku n/\Sm m/\ku t
def fa.F:fa.D->fa.Y:=λ(k,n,m,t)=>E4 k n m t
def fa:Fs Tryz.prog fa.bf bS fa.F:=fS 135 Tryz.f135 (λ(kv,nonce,m,t)=>([.d tu kv,.d tu nonce,.d tH m,.d tu t],[])) (λx=>⟨.d Hf x,[],[]⟩) [some tu,some tu,some tH,some tu] [gk.sg,nc.sg,iV.sg,mY.sg,nD.sg]
theorem fa.eq{R:Type}(kv nonce m t)(k:K1 R):fa.A (kv,nonce,m,t) k=
 aA (gk.call nonce) λx1=>
 aA (nc.call (x1,t)) λx2=>
 aA (gk.call kv) λx3=>
 aA (iV.call (x2,x3,m)) λx4=>
 aA (mY.call (x4,kv)) λx5=>
 aA (nD.call (nonce,x5)) λx6=>
 k (fa.out (x2,(x6,()))):=by kernel_rfl
theorem fa.ok:fa.Ok:=by
 rintro⟨k,n,m,t⟩ ⟨hk,hn,hm,ht⟩
 have hk:ku k:=hk
 have hn:ku n:=hn
 have hm:Sm m:=hm
 have ht:ku t:=ht
 rw[fa.eq,gk.run (d:=n) hn]
 simp only[ah,bS,gk.F]
 rw[nc.run (d:=(kb n,t)) ⟨(Ot _ _).u,ht⟩,gk.run (d:=k) hk]
 simp only[ah,bS,gk.F,bS,nc.F]
 rw[iV.run (d:=(Br [kb n,t],kb k,m)) hm]
 simp only[ah,bS,iV.F]
 rw[mY.run (d:=(vR (Br [kb n,t]) (kb k) m,k)) ⟨(Ht _ _ _).u,hk⟩]
 simp only[ah,bS,mY.F]
 rw[nD.run (d:=(n,JN (vR (Br [kb n,t]) (kb k) m) k)) ⟨hn,(JO _ _).u⟩]
 rfl
theorem fa.run:fa.RS:=rE [.d tu,.d tu,.d tB,.d tu] fa
def fa.sg:=fa.gl fa.ok
abbrev iC.D:=Int×Bs
abbrev iC.Y:=Sg
def iC.bf:iC.D->Prop:=λ(k,m)=>ku k/\Sm m
def iC.F:iC.D->iC.Y:=λ(k,m)=>qo k m
def iC:Fs Tryz.prog iC.bf bS iC.F:=fS 69 Tryz.f69 (λ(kv,m)=>([.d tu kv,.d tH m],[])) (λx=>⟨.d Hf x,[],[]⟩) [some tu,some tH] [ma.sg,eT.sg,dW.sg,dp.sg,fa.sg]
theorem iC.eq{R:Type}(kv m)(k:K1 R):iC.A (kv,m) k=
  aA (ma.call kv) λx1=>
  aO ((!x1)) (
   k (iC.out (0,(0,())))) (
   aA (eT.call kv) λx2=>
   aA (dW.call ((⟨#[110,111,110,99,101]⟩:ByteArray),[x2,(cut m 0 32)])) λx3=>
   aA (dp.call x3) λx4=>
   aA (fa.call (kv,x4,m,1)) λx5=>
   k (iC.out x5)):=by kernel_rfl
theorem iC.ok:iC.Ok:=by
 rintro⟨k,m⟩ ⟨hk,hm⟩
 have hk:ku k:=hk
 have hm:Sm m:=hm
 rw[iC.eq,ma.run (d:=k) trivial]
 simp only[ah,bS,ma.F,bS,iC.F,qo]
 by_cases h:k < 2305843009213688669/\k≠0
 ·rw[aY h,if_pos h,eT.run (d:=k) trivial,gR hm.1]
  simp only[cz,aq,ah,bS,eT.F]
  rw[dW.run (IK (by decide) (by rw[dq];omega) (by rw[hm.1];omega))]
  simp only[ah,bS,dW.F]
  rw[dp.run (d:=tag (bQ (⟨#[110,111,110,99,101]⟩:ByteArray)) [pa k,m]) (EK _ _)]
  simp only[ah,bS,dp.F]
  have q:=Cg (tag (bQ (⟨#[110,111,110,99,101]⟩:ByteArray)) [pa k,m])
  rw[fa.run (d:=(k,vW (tag (bQ (⟨#[110,111,110,99,101]⟩:ByteArray)) [pa k,m]),m,1)) ⟨hk,⟨by omega,by omega⟩,hm,by omega,by omega⟩]
  rfl
 ·rw[cg h,if_neg h];rfl
theorem iC.run:iC.RS:=rE [.d tu,.d tB] iC
def iC.sg:=iC.gl iC.ok
def zD(l:List Int):Prop:=∀x∈l,ku x
def O5(b:tw):Prop:=zD b.1/\ku b.2.2.2.1
def Ke(l:Lk):Prop:=∀b∈l.1,O5 b
def wG(n:Int):Bool:=decide (0<=n/\n<=1048576)
def sH(b:tw):Bool:=decide (b.1.length<=12) && (b.1.all vi && (wG b.2.1 && (wG b.2.2.1 && (decide (b.2.2.2.1=0) || vi b.2.2.2.1))))
def oR(l:Lk):Bool:=l.1.all sH && decide (0 < l.1.length/\l.1.length<=4)
def nv:List Int->Int->Int⊕Unit
 |[],_=> .inr ()
 |p::ps,i=>if vi p then nv ps (i+1) else .inl i
def E6(l:List Int):Int:=match nv l 0 with | .inl i=>i | .inr _=> -1
theorem vO:∀(l:List Int) (i:Int),0<=i->(match nv l i with | .inl i=>decide (i>=0) | .inr _=>false)= !(l.all vi)
 |[],_,_=>rfl
 |p::ps,i,h=>by
  rw[nv,fD]
  cases hp:vi p
  ·simp[h]
  ·simp only[if_true,ck]
   exact vO ps (i+1) (by omega)
theorem FN(l:List Int):pN (E6 l) 0= !(l.all vi):=by
 have:=vO l 0 (by omega)
 unfold E6 pN
 cases h:nv l 0
 ·rw[h]at this;exact this
 ·rw[h]at this;rw[<-this];rfl
abbrev kQ.D:=Int
abbrev kQ.Y:=Bool
def kQ.bf:kQ.D->Prop:=λp=>ku p
def kQ.F:kQ.D->kQ.Y:=λp=> !vi p
def kQ:Fs Tryz.prog kQ.bf bS kQ.F:=fS 150 Tryz.f150 (λp=>([.d tu p],[])) (λx=>⟨.d .bool x,[],[]⟩) [some tu] [eU.sg]
theorem kQ.eq{R:Type}(p)(k:K1 R):kQ.A p k=
 aA (eU.call p) λx1=>
 k (kQ.out (!x1)):=by kernel_rfl
theorem kQ.ok:kQ.Ok:=by
 intro p hp
 rw[kQ.eq,eU.run (d:=p) hp]
 rfl
theorem kQ.run:kQ.RS:=rE [.d tu] kQ
def kQ.sg:=kQ.gl kQ.ok
abbrev aW.L0.D:=Bs×Int×Int
def aW.L0.st:aW.L0.D->AS:=λ(mR,t7,t8)=>⟨([.d tU mR,.fn 150 (.nil)]++bE 5 ([.d ti t7,.d ti t8]++bE 10 [])),[],(List.replicate 19 [])⟩
abbrev aW.L0.Y0:=Int
abbrev aW.L0.X0:=Int
def aW.L0.eR:aW.L0.X0->Exit×AS:=λx=>(.ret,⟨(bE 4 ([.d ti x]++bE 14 [])),[],(List.replicate 19 [])⟩)
abbrev aW.L0.Y1:=Unit
abbrev aW.L0.X1:=Unit
def aW.L0.iZ:aW.L0.X1->Exit×AS:=λx=>(.exit 0,⟨(bE 19 []),[],(List.replicate 19 [])⟩)
abbrev aW.L0.X:=(aW.L0.X0)⊕(aW.L0.X1)
abbrev aW.L0.Y:=(aW.L0.Y0)⊕(aW.L0.Y1)
def aW.L0.out:aW.L0.X->Out (Exit×AS):=λx=> .br x.isLeft (.get x.getLeft? λa=> .ok (aW.L0.eR a)) (.get x.getRight? λb=> .ok (aW.L0.iZ b))
def aW.L0.add:aW.L0.D->aW.L0.Y->aW.L0.X:=λ(mR,t7,t8) y=>match y with | .inl y=> .inl y | .inr z=> .inr (z)
abbrev aW.D:=Bs
abbrev aW.Y:=Int
def aW.L0.bf:aW.L0.D->Prop:=λ(l,n,i)=>zD l/\l.length<=1000000000/\n=l.length/\∃k:Nat,k<=l.length/\i=k
def aW.L0.F:aW.L0.D->aW.L0.Y:=λ(l,n,i)=>nv (l.drop i.toNat) i
def aW.bf:aW.D->Prop:=λl=>zD l/\l.length<=1000000000
def aW.F:aW.D->aW.Y:=λl=>E6 l
def aW.L0.E:=eS.jG aW.L0.st aW.L0.bf aW.L0.add aW.L0.F aW.L0.out
def aW.L0.call:aW.L0.D->Option aW.L0.X:=mz aW.L0.E aW.L0.st
def aW:Fs Tryz.prog aW.bf bS aW.F:=fS 205 Tryz.f205 (λsv=>([.d tU sv,.fn 150 (.nil)],[])) (λx=>⟨.d ti x,[],[]⟩) [some tU,none] [kQ.sg] {loops:=qP [(2,{bI:=[0,1,7,8]})],outs:=qO [(2,{},{bI:=[4]})],jK:=sm [(2,aW.L0.E)]}
def aW.L0.R:= @jC Tryz.prog (oO aW.G) aW.an 0 Tryz.f205 0 _ aW.L0.st
abbrev aW.L0.Ok:=qq Tryz.prog (oO aW.G) aW.an 0 Tryz.f205 0 aW.L0.st aW.L0.bf aW.L0.add aW.L0.F aW.L0.out
theorem aW.L0.run:o9 aW.L0.call aW.L0.bf aW.L0.add aW.L0.F:=rW (rT [.d tU,.d ti,.d ti] λ_=>by kernel_rfl)
theorem aW.L0.dA:rM @aW.L0.R aW.L0.st aW.L0.bf aW.L0.add aW.L0.F aW.L0.out aW.L0.Ok:=sI
theorem aW.L0.step{R:Type}(mR:Bs)(t7:Int)(t8:Int)(kn:AS->Option R)(kx:Exit->AS->Option R):aW.L0.R (mR,t7,t8) kn kx=
  aO ((ju t8 t7)) (
   aO (gK t8 (((List.length mR):Nat):Int)) (
   aA (kQ.call (nth tu mR (Int.toNat t8))) λx1=>
   aO (x1) (
    kx (aW.L0.eR t8).1 (aW.L0.eR t8).2) (
    kn (aW.L0.st (mR,t7,(bW .i64 t8 (1:Int)))))) none) (
   kx (aW.L0.iZ ()).1 (aW.L0.iZ ()).2):=by kernel_rfl
theorem aW.eq{R:Type}(sv)(k:K1 R):aW.A sv k=
  aA (aW.L0.call (sv,(sv.length:Int),0)) λx2=>
  aO (x2.isLeft) (
   aA (x2.getLeft?) λa3=>
   k (aW.out a3)) (
   aA (x2.getRight?) λb4=>
   k (aW.out (-1))):=by kernel_rfl
theorem aW.L0.ok:aW.L0.Ok:=by
 refine aW.L0.dA (λ(l,n,i)=>l.length - i.toNat) ?_
 rintro⟨l,n,i⟩ ⟨hl,hb,rfl,k,hk,rfl⟩
 have hb:l.length<=1000000000:=hb
 have hk:k<=l.length:=hk
 by_cases h:k < l.length
 ·have hx:=hl _ (b6 h)
  have n1:nth (.int .u64) l k=l[k]:=dR (t:= .int .u64) h
  have hd:nv (l.drop k) k=if vi l[k] then nv (l.drop (k+1)) ((k+1:Nat):Int) else .inl (k:Int):=by rw[aB h];rfl
  cases hp:vi l[k]
  ·right
   refine⟨aW.L0.eR (k:Int),?_,λkn kx=> ?_⟩
   ·simp only[aW.L0.add,aW.L0.F,aa,hd,hp,bN,if_false]
    rfl
   ·rw[aW.L0.step]
    simp(disch:=omega) only[↓S1,↓if_pos,↓if_neg,if_pos,if_neg,if_true,if_false,S2,n1]
    rw[kQ.run (d:=l[k]) hx]
    simp only[ah,bS,kQ.F,hp,dG,aj]
  ·left
   refine⟨(l,l.length,((k+1:Nat):Int)),⟨hl,hb,rfl,k+1,by omega,rfl⟩,by simp only[aa];omega,?_,λkn kx=> ?_⟩
   ·simp only[aW.L0.add,aW.L0.F,aa,hd,hp,if_true]
   ·rw[aW.L0.step]
    simp(disch:=omega) only[↓S1,↓if_pos,↓if_neg,if_pos,if_neg,if_true,if_false,S2,n1]
    rw[kQ.run (d:=l[k]) hx]
    simp only[ah,bS,kQ.F,hp,cz,aq]
 ·right
  obtain rfl:k=l.length:=by omega
  refine⟨aW.L0.iZ (),?_,λkn kx=> ?_⟩
  ·simp only[aW.L0.add,aW.L0.F,aa,bG]
   rfl
  ·rw[aW.L0.step]
   simp(disch:=omega) only[↓S1,↓if_pos,↓if_neg,if_pos,if_neg,if_true,if_false,S2]
theorem aW.ok:aW.Ok:=by
 rintro l ⟨hl,hb⟩
 rw[aW.eq,aW.L0.run (d:=(l,l.length,0)) ⟨hl,hb,rfl,0,by omega,rfl⟩]
 simp only[ah,aW.L0.add,aW.L0.F,cV,aL,bS,aW.F,E6]
 cases nv l 0 <;> rfl
theorem aW.run:aW.RS:=rE [.d tU] aW
def aW.sg:=aW.gl aW.ok 1 ⟨.jG aW.L0.ok,trivial⟩
abbrev dx.D:=Bs
abbrev dx.Y:=Bool
def dx.bf:dx.D->Prop:=λl=>zD l/\l.length<=1000000000
def dx.F:dx.D->dx.Y:=λl=> !(l.all vi)
def dx:Fs Tryz.prog dx.bf bS dx.F:=fS 152 Tryz.f152 (λsv=>([.d tU sv,.fn 150 (.nil)],[])) (λx=>⟨.d .bool x,[],[]⟩) [some tU,none] [aW.sg]
theorem dx.eq{R:Type}(sv)(k:K1 R):dx.A sv k=
 aA (aW.call sv) λx1=>
 k (dx.out (pN x1 0)):=by kernel_rfl
theorem dx.ok:dx.Ok:=by
 rintro l ⟨hl,hb⟩
 rw[dx.eq,aW.run (d:=l) ⟨hl,hb⟩]
 simp only[ah,bS,aW.F,FN]
 rfl
theorem dx.run:dx.RS:=rE [.d tU] dx
def dx.sg:=dx.gl dx.ok
abbrev ee.D:=Int
abbrev ee.Y:=Bool
def ee.bf:ee.D->Prop:=λ_=>True
def ee.F:ee.D->ee.Y:=λn=>wG n
def ee:Fs Tryz.prog ee.bf bS ee.F:=fS 153 Tryz.f153 (λn=>([.d ti n],[])) (λx=>⟨.d .bool x,[],[]⟩) [some ti]
theorem ee.eq{R:Type}(n)(k:K1 R):ee.A n k=
  aO ((pN n 0)) (
   k (ee.out (Ct n 1048576))) (
   k (ee.out false)):=by kernel_rfl
theorem ee.ok:ee.Ok:=by
 intro n _
 rw[ee.eq]
 simp only[bS,ee.F,wG]
 by_cases h:0<=n
 ·rw[fH h,aj]
  by_cases h2:n<=1048576
  ·rw[ki h2,aY ⟨h,h2⟩]
  ·rw[iy h2,cg (λx=>h2 x.2)]
 ·rw[eg h,aq,cg (λx=>h x.1)]
theorem ee.run:ee.RS:=rE [.d ti] ee
def ee.sg:=ee.gl ee.ok
abbrev aK.L0.D:=Lk×(List tw)×Int×Int
def aK.L0.st:aK.L0.D->AS:=λ(sk,t7,t8,t9)=>⟨([.undef,.eW wN sk,.undef,.fn 150 (.nil),.undef,.undef,.undef,.d (.slice o6) t7,.d ti t8,.d ti t9]++bE 47 []),[],(List.replicate 57 [])⟩
abbrev aK.L0.Y0:=Unit
abbrev aK.L0.X0:=Unit
def aK.L0.eR:aK.L0.X0->Exit×AS:=λx=>(.ret,⟨([.undef,.undef,.d .bool false]++bE 54 []),[],(List.replicate 57 [])⟩)
abbrev aK.L0.Y1:=Unit
abbrev aK.L0.X1:=Lk
def aK.L0.iZ:aK.L0.X1->Exit×AS:=λx=>(.exit 0,⟨([.undef,.eW wN x]++bE 55 []),[],(List.replicate 57 [])⟩)
abbrev aK.L0.X:=(aK.L0.X0)⊕(aK.L0.X1)
abbrev aK.L0.Y:=(aK.L0.Y0)⊕(aK.L0.Y1)
def aK.L0.out:aK.L0.X->Out (Exit×AS):=λx=> .br x.isLeft (.get x.getLeft? λa=> .ok (aK.L0.eR a)) (.get x.getRight? λb=> .ok (aK.L0.iZ b))
def aK.L0.add:aK.L0.D->aK.L0.Y->aK.L0.X:=λ(sk,t7,t8,t9) y=>match y with | .inl y=> .inl y | .inr z=> .inr (sk)
abbrev aK.D:=Lk
abbrev aK.Y:=Bool
def aK.L0.bf:aK.L0.D->Prop:=λ(l,bs,n,i)=>(∀b∈bs,O5 b)/\bs.length<=9223372036854775807/\n=bs.length/\∃k:Nat,k<=bs.length/\i=k
def aK.L0.F:aK.L0.D->aK.L0.Y:=λ(l,bs,n,i)=>if(bs.drop i.toNat).all sH then .inr () else .inl ()
def aK.bf:aK.D->Prop:=λl=>Ke l/\l.1.length<=9223372036854775807
def aK.F:aK.D->aK.Y:=λl=>oR l
def aK.L0.E:=eS.jG aK.L0.st aK.L0.bf aK.L0.add aK.L0.F aK.L0.out
def aK.L0.call:aK.L0.D->Option aK.L0.X:=mz aK.L0.E aK.L0.st
def aK:Fs Tryz.prog aK.bf bS aK.F:=fS 77 Tryz.f77 (λl=>([.d wN l],[])) (λx=>⟨.d .bool x,[],[]⟩) [some wN] [dx.sg,ee.sg,kQ.sg] {loops:=qP [(3,{bI:=[1,3,7,8,9]})],outs:=qO [(3,{bI:=[1]},{bI:=[2]})],jK:=sm [(3,aK.L0.E)]}
def aK.L0.R:= @jC Tryz.prog (oO aK.G) aK.an 0 Tryz.f77 0 _ aK.L0.st
abbrev aK.L0.Ok:=qq Tryz.prog (oO aK.G) aK.an 0 Tryz.f77 0 aK.L0.st aK.L0.bf aK.L0.add aK.L0.F aK.L0.out
theorem aK.L0.run:o9 aK.L0.call aK.L0.bf aK.L0.add aK.L0.F:=rW (rT [.d wN,.d (.slice o6),.d ti,.d ti] λ_=>by kernel_rfl)
theorem aK.L0.dA:rM @aK.L0.R aK.L0.st aK.L0.bf aK.L0.add aK.L0.F aK.L0.out aK.L0.Ok:=sI
theorem aK.L0.step{R:Type}(sk:Lk)(t7:(List tw))(t8:Int)(t9:Int)(kn:AS->Option R)(kx:Exit->AS->Option R):aK.L0.R (sk,t7,t8,t9) kn kx=
  aO ((ju t9 t8)) (
   aO (gK t9 (((List.length t7):Nat):Int)) (
   aO ((pv (((List.length (nth o6 t7 (Int.toNat t9)).1):Nat):Int) (12:Int))) (
    kx (aK.L0.eR ()).1 (aK.L0.eR ()).2) (
    aA (dx.call (nth o6 t7 (Int.toNat t9)).1) λx1=>
    aO (x1) (
     kx (aK.L0.eR ()).1 (aK.L0.eR ()).2) (
     aA (ee.call (nth o6 t7 (Int.toNat t9)).2.1) λx2=>
     aO ((!x2)) (
      kx (aK.L0.eR ()).1 (aK.L0.eR ()).2) (
      aA (ee.call (nth o6 t7 (Int.toNat t9)).2.2.1) λx3=>
      aO ((!x3)) (
       kx (aK.L0.eR ()).1 (aK.L0.eR ()).2) (
       aO ((wV (nth o6 t7 (Int.toNat t9)).2.2.2.1 (0:Int))) (
        aA (kQ.call (nth o6 t7 (Int.toNat t9)).2.2.2.1) λx4=>
        aO (x4) (
         kx (aK.L0.eR ()).1 (aK.L0.eR ()).2) (
         kn (aK.L0.st (sk,t7,t8,(bW .i64 t9 (1:Int)))))) (
        kn (aK.L0.st (sk,t7,t8,(bW .i64 t9 (1:Int)))))))))) none) (
   kx (aK.L0.iZ sk).1 (aK.L0.iZ sk).2):=by kernel_rfl
theorem aK.eq{R:Type}(l)(k:K1 R):aK.A l k=
  aA (aK.L0.call (l,l.1,(l.1.length:Int),0)) λx5=>
  aO (x5.isLeft) (
   aA (x5.getLeft?) λa6=>
   k (aK.out false)) (
   aA (x5.getRight?) λb7=>
   aO ((pv (b7.1.length:Int) 0)) (
    k (aK.out (Ct (b7.1.length:Int) 4))) (
    k (aK.out false))):=by kernel_rfl
theorem aK.L0.ok:aK.L0.Ok:=by
 refine aK.L0.dA (λ(l,bs,n,i)=>bs.length - i.toNat) ?_
 rintro⟨l,bs,n,i⟩ ⟨hl,hb,rfl,k,hk,rfl⟩
 have hb:bs.length<=9223372036854775807:=hb
 have hk:k<=bs.length:=hk
 by_cases h:k < bs.length
 ·have hx:O5 bs[k]:=hl _ (b6 h)
  have n1:nth (.pair (.slice (.int .u64)) (.pair (.int .i64) (.pair (.int .i64) (.pair (.int .u64) .unit)))) bs k=bs[k]:=dR (t:=(.pair (.slice (.int .u64)) (.pair (.int .i64) (.pair (.int .i64) (.pair (.int .u64) .unit))))) h
  have hd:(bs.drop k).all sH=(sH bs[k] && (bs.drop (k+1)).all sH):=by rw[aB h,fD]
  have step:∀ {R:Type} (kn:AS->Option R) (kx:Exit->AS->Option R),aK.L0.R (l,bs,(bs.length:Int),(k:Int)) kn kx=aO (sH bs[k]) (kn (aK.L0.st (l,bs,(bs.length:Int),((k+1:Nat):Int)))) (kx (aK.L0.eR ()).1 (aK.L0.eR ()).2):=by
   intro R kn kx
   rw[aK.L0.step,bq (by omega),bM (by omega) (by omega),aa,n1,N.rO (by omega)]
   obtain⟨⟨ks,af,dl,sc,u⟩,PB⟩:∃b,bs[k]=b:=⟨_,rfl⟩
   rw[PB]at hx ⊢
   have h1:zD ks:=hx.1
   have h2:ku sc:=hx.2
   simp only[aj,sH]
   by_cases hk:ks.length<=12
   ·rw[cR (by omega),dx.run (d:=ks) ⟨h1,by omega⟩,ee.run (d:=af) trivial,ee.run (d:=dl) trivial,kQ.run (d:=sc) h2,aY hk]
    simp only[aq,ah,bS,dx.F,bS,ee.F,bS,kQ.F,ck]
    cases ks.all vi
    ·rfl
    cases wG af
    ·rfl
    cases wG dl
    ·rfl
    by_cases hs:sc=0
    ·rw[e7 hs,aY hs];rfl
    ·rw[iA hs,cg hs]
     cases vi sc <;> rfl
   ·rw[db (by omega),cg hk];rfl
  cases hp:sH bs[k]
  ·right
   refine⟨aK.L0.eR (),?_,λkn kx=> ?_⟩
   ·simp only[aK.L0.add,aK.L0.F,aa,hd,hp,eM,bN,if_false]
    rfl
   ·rw[step,hp,aq]
  ·left
   refine⟨(l,bs,bs.length,((k+1:Nat):Int)),⟨hl,hb,rfl,k+1,by omega,rfl⟩,by simp only[aa];omega,?_,λkn kx=> ?_⟩
   ·simp only[aK.L0.add,aK.L0.F,aa,hd,hp,ck]
   ·rw[step,hp,aj]
 ·right
  obtain rfl:k=bs.length:=by omega
  refine⟨aK.L0.iZ l,?_,λkn kx=> ?_⟩
  ·simp only[aK.L0.add,aK.L0.F,aa,bG]
   rfl
  ·rw[aK.L0.step]
   simp(disch:=omega) only[↓S1,↓if_pos,↓if_neg,if_pos,if_neg,if_true,if_false,S2]
theorem aK.ok:aK.Ok:=by
 rintro l ⟨hl,hb⟩
 have hb:l.1.length<=9223372036854775807:=hb
 rw[aK.eq,aK.L0.run (d:=(l,l.1,l.1.length,0)) ⟨hl,hb,rfl,0,by omega,rfl⟩]
 simp only[ah,aK.L0.add,aK.L0.F,cV,aL,bS,aK.F,oR]
 cases l.1.all sH
 ·rfl
 ·simp only[if_true,ck]
  show aO (pv _ _) _ _=_
  by_cases h0:0 < l.1.length
  ·rw[db (by omega)]
   by_cases h4:l.1.length<=4
   ·rw[ki (by omega),aY ⟨h0,h4⟩];rfl
   ·rw[iy (by omega),cg (λx=>h4 x.2)];rfl
  ·rw[cR (by omega),cg (λx=>h0 x.1)];rfl
theorem aK.run:aK.RS:=rE [.d wN] aK
def aK.sg:=aK.gl aK.ok 1 ⟨.jG aK.L0.ok,trivial⟩
def IU(m:List Int):List Int->List Sg->Bool
 |[],_=>true
 |p::ps,ss=>Ld p m 1 (ss.headD (0,0,())) && IU m ps ss.tail
def KN(l:Lk)(w:DI)(m:List Int)(height age:Int):Int:=
 if oR l=false\/w.1 < 0\/w.1>=l.1.length then 1
 else
  let b:=nth (.pair (.slice (.int .u64)) (.pair (.int .i64) (.pair (.int .i64) (.pair (.int .u64) .unit)))) l.1 w.1.toNat
  if height < b.2.1\/age < b.2.2.1 then 11
  else if b.2.2.2.1≠0/\kb w.2.2.1≠b.2.2.2.1 then 23
  else if w.2.1.length≠b.1.length then 7
  else if IU m b.1 w.2.1 then 0 else 7
def K4(w:DI):Prop:=(∀s∈w.2.1,QO s)/\ku w.2.2.1
abbrev iI.D:=Int
abbrev iI.Y:=Nat×(List Int)
def iI.bf:iI.D->Prop:=λn=>∃k:Nat,n=k/\k<=100000000
def iI.F:iI.D->iI.Y:=λn=>(0,List.replicate n.toNat 0)
def iI:Fs Tryz.prog iI.bf bS iI.F:=fS 249 Tryz.f249 (λn=>([.c6,.d ti n],[])) (λx=>⟨.cv (.new 0 0) 0 [] 0 0 x.1,[],[.obj 0 false (.vec 5 tb x.2)]⟩) [none,some ti] [] {owns:=[⟨4,[],22,140⟩]}
theorem iI.eq{R:Type}(n)(k:K1 R):iI.A n k=
  aO ((ju n 0)) (
   none) (
   aO ((pv (df .i64 n 0) 0)) (
    aO (decide (0 < (df .i64 n 0)) && dK (Int.toNat (df .i64 n 0)) 1) (
    aO (inc 0 (((Int.toNat (df .i64 n 0)):Nat):Int)) (
    k (iI.out (0,(List.replicate (Int.toNat (df .i64 n 0)) 0)))) none) none) (
    k (iI.out (0,([]:List Int))))):=by kernel_rfl
theorem iI.ok:iI.Ok:=by
 rintro n ⟨k,rfl,hk⟩
 have e:df .i64 (k:Int) 0=(k:Int):=by rw[dM (by omega) (by omega)];omega
 rw[iI.eq,e,bn (by omega),aq]
 by_cases h:0 < k
 ·rw[db (by omega),aa,aY (by omega),fN (by omega) (by omega),jF (by omega) (by omega)]
  rfl
 ·obtain rfl:k=0:=by omega
  rfl
theorem iI.run:iI.RS:=rE [.d ti] iI
def iI.sg:=iI.gl iI.ok
def lB(l:List (List Int)):Nat:=l.flatten.length
def zb(n:Nat)(l:List Int):List (List Int)->Nat×List Int
 |[]=>(n,l)
 |s::r=>(n+(s::r).flatten.length,l.take n++(s::r).flatten)
theorem FV(n:Nat)(l s:List Int)(r:List (List Int))(h:n<=l.length):zb n l (s::r)=zb (n+s.length) (l.take n++s) r:=by
 have hl:(l.take n++s).length=n+s.length:=by rw[au,cn];omega
 cases r with
 |nil=>simp[zb]
 |cons t r=>
  simp only[zb]
  rw[bo (Nat.le_of_eq hl)]
  simp only[ff,au,bC,dB]
theorem Jm(n:Nat)(z:List Int)(r:List (List Int)):(zb 0 z r).1<=(zb 0 z r).2.length/\cut (zb 0 z r).2 0 (zb 0 z r).1=r.flatten:=by
 cases r with
 |nil=>exact⟨bj _,rfl⟩
 |cons s r=>
  simp only[zb,eN,aT,aR]
  exact⟨aw _,by show List.take _ (List.drop 0 _)=_;rw[aL,cX]⟩
abbrev aQ.L0.D:=(List Bs)×Int×(List Bs)×Int×Int
abbrev aQ.L0.Y:=Int
abbrev aQ.L0.X:=((List Bs))×(Int)
def aQ.L0.add:aQ.L0.D->aQ.L0.Y->aQ.L0.X:=λ(oH,size,t9,t10,t11) y=>(oH,y)
abbrev aQ.L1.D:=Nat×(List Bs)×Int×Int×(List Int)
abbrev aQ.L1.Y:=Nat×(List Int)
abbrev aQ.D:=(List Bs)
abbrev aQ.Y:=Bs
def aQ.L0.bf:aQ.L0.D->Prop:=λ(s,size,t,n,i)=>s.length<=1000000/\t=s/\n=s.length/\∃k z:Nat,k<=s.length/\i=k/\size=z/\z+lB (s.drop k)<=100000000
def aQ.L0.F:aQ.L0.D->aQ.L0.Y:=λ(s,size,t,n,i)=>((size:Int)+((lB (s.drop i.toNat):Nat):Int):Int)
def aQ.L1.bf:aQ.L1.D->Prop:=λ(n,s,t,i,l)=>s.length<=1000000/\n<=l.length/\t=s.length/\∃k:Nat,k<=s.length/\i=k/\n+lB (s.drop k)<=100000000
def aQ.L1.F:aQ.L1.D->aQ.L1.Y:=λ(n,s,t,i,l)=>zb n l (s.drop i.toNat)
def aQ.bf:aQ.D->Prop:=λs=>s.length<=1000000/\lB s<=100000000
def aQ.F:aQ.D->aQ.Y:=λs=>s.flatten
def aQ.L0:Ls aQ.L0.bf aQ.L0.add aQ.L0.F:=so (λ(oH,size,t9,t10,t11)=>⟨([.d (.slice tB) oH,.undef,.undef,.d ti size]++bE 5 ([.d (.slice tB) t9,.d ti t10,.d ti t11]++bE 24 [])),[],(List.replicate 36 [])⟩) (λx=>(.exit 0,⟨([.d (.slice tB) x.1,.undef,.undef,.d ti x.2]++bE 32 []),[],(List.replicate 36 [])⟩))
def aQ.L1:Ls aQ.L1.bf bS aQ.L1.F:=so (λ(newsliceL,t25,t26,t27,n24)=>⟨(bE 6 ([.cv (.new 24 0) 0 [] 0 0 newsliceL]++bE 18 ([.d (.slice tB) t25,.d ti t26,.d ti t27]++bE 8 []))),[],(cS 24 ([[.obj 0 false (.vec 5 tb n24)]]++cS 11 []))⟩) (λx=>(.exit 2,⟨(bE 6 ([.cv (.new 24 0) 0 [] 0 0 x.1]++bE 29 [])),[],(cS 24 ([[.obj 0 false (.vec 5 tb x.2)]]++cS 11 []))⟩))
def aQ:Fs Tryz.prog aQ.bf bS aQ.F:=fS 203 Tryz.f203 (λslices=>([.d (.slice tB) slices],[])) (λx=>⟨.d tB x,[],[]⟩) [some (.slice tB)] [iI.sg] {loops:=qP [(3,{bI:=[0,3,9,10,11]}),(11,{bI:=[6,25,26,27],sites:=[24],owns:=[⟨6,[],24,140⟩]})],outs:=qO [(3,{bI:=[0,3]},{bI:=[2]}),(11,{bI:=[6],sites:=[24]},{bI:=[2]})],jK:=sm [(3,aQ.L0.E),(11,aQ.L1.E)],res:=[some tB]}
theorem aQ.L0.run:aQ.L0.RS:=rL [.d (.slice tB),.d ti,.d (.slice tB),.d ti,.d ti] aQ.L0
theorem aQ.L0.step{R:Type}(oH size t9 t10 t11)(kn:K2 R)(kx:K3 R):aQ.R 0 aQ.L0 (oH,size,t9,t10,t11) kn kx=
  aO ((ju t11 t10)) (
   aO (gK t11 (t9.length:Int)) (
   aO ((ju (bW .i64 size (((List.length (nth tB t9 (Int.toNat t11))):Nat):Int)) 0)) (
    none) (
    kn (aQ.L0.st (oH,(bW .i64 size (((List.length (nth tB t9 (Int.toNat t11))):Nat):Int)),t9,t10,(bW .i64 t11 1))))) none) (
   aQ.L0.go kx (oH,size)):=by kernel_rfl
theorem aQ.L1.run:aQ.L1.RS:=rL [.n,.d (.slice tB),.d ti,.d ti,.d tB] aQ.L1
theorem aQ.L1.step{R:Type}(newsliceL t25 t26 t27 n24)(kn:K2 R)(kx:K3 R):aQ.R 1 aQ.L1 (newsliceL,t25,t26,t27,n24) kn kx=
  aO ((ju t27 t26)) (
   aO (gK t27 (t25.length:Int)) (
   aO (decide (newsliceL<=(List.length n24))) (
   aO (dK (newsliceL+(List.length (nth tB t25 (Int.toNat t27)))) 1) (
   kn (aQ.L1.st ((newsliceL+(List.length (nth tB t25 (Int.toNat t27)))),t25,t26,(bW .i64 t27 1),((List.take newsliceL n24)++(nth tB t25 (Int.toNat t27)))))) none) none) none) (
   aQ.L1.go kx (newsliceL,n24)):=by kernel_rfl
theorem aQ.eq{R:Type}(slices)(k:K1 R):aQ.A slices k=
 aA (aQ.L0.call (slices,0,slices,(slices.length:Int),0)) λx1=>
 aA (iI.call x1.2) λx2=>
 aA (aQ.L1.call (x2.1,x1.1,(x1.1.length:Int),0,x2.2)) λx3=>
 aO (decide (0=0/\(0+x3.1)<=(List.length x3.2))) (
 k (aQ.out (cut x3.2 0 x3.1))) none:=by kernel_rfl
theorem Fp(s:List (List Int))(k:Nat)(h:k < s.length):lB (s.drop k)=s[k].length+lB (s.drop (k+1)):=by
 unfold lB
 rw[aB h,ff,au]
theorem aQ.L0.ok:(aQ.mf 0 aQ.L0):=by
 refine(aQ.nN 0 aQ.L0) (λ(s,size,t,n,i)=>s.length - i.toNat) ?_
 rintro⟨s,size,t,n,i⟩ ⟨hs,rfl,rfl,k,z,hk,rfl,rfl,hz⟩
 have hs:t.length<=1000000:=hs
 have hk:k<=t.length:=hk
 have hz:z+lB (t.drop k)<=100000000:=hz
 by_cases h:k < t.length
 ·left
  have n1:nth (.slice (.int .u8)) t k=t[k]:=dR (t:= .slice (.int .u8)) h
  have hd:=Fp t k h
  refine⟨(t,((z+t[k].length:Nat):Int),t,t.length,((k+1:Nat):Int)),⟨hs,rfl,rfl,k+1,z+t[k].length,by omega,rfl,rfl,by omega⟩,by simp only[aa];omega,?_,λkn kx=> ?_⟩
  ·simp only[aQ.L0.add,aQ.L0.F,aa]
   rw[hd]
   refine congrArg _ ?_
   omega
  ·rw[aQ.L0.step]
   simp(disch:=omega) only[↓S1,↓if_pos,↓if_neg,if_pos,if_neg,if_true,if_false,S2,n1]
 ·right
  obtain rfl:k=t.length:=by omega
  intro R kn kx
  rw[aQ.L0.step]
  simp(disch:=omega) only[↓S1,↓if_pos,↓if_neg,if_pos,if_neg,if_true,if_false,S2,aQ.L0.add,aQ.L0.F,bG]
  simp only[lB,jO,aZ,Int.natCast_zero,Int.add_zero]
theorem aQ.L1.ok:(aQ.mf 1 aQ.L1):=by
 refine(aQ.nN 1 aQ.L1) (λ(n,s,t,i,l)=>s.length - i.toNat) ?_
 rintro⟨n,s,t,i,l⟩ ⟨hs,hn,rfl,k,hk,rfl,hz⟩
 have hs:s.length<=1000000:=hs
 have hn:n<=l.length:=hn
 have hk:k<=s.length:=hk
 have hz:n+lB (s.drop k)<=100000000:=hz
 by_cases h:k < s.length
 ·left
  have n1:nth (.slice (.int .u8)) s k=s[k]:=dR (t:= .slice (.int .u8)) h
  have hd:=Fp s k h
  refine⟨(n+s[k].length,s,s.length,((k+1:Nat):Int),l.take n++s[k]),⟨hs,by rw[au,cn];omega,rfl,k+1,by omega,rfl,by omega⟩,by simp only[aa];omega,?_,λkn kx=> ?_⟩
  ·simp only[bS,aQ.L1.F,aa]
   rw[aB h,FV _ _ _ _ hn]
  ·rw[aQ.L1.step]
   simp(disch:=omega) only[↓S1,↓if_pos,↓if_neg,if_pos,if_neg,if_true,if_false,S2,n1]
 ·right
  obtain rfl:k=s.length:=by omega
  intro R kn kx
  rw[aQ.L1.step]
  simp(disch:=omega) only[↓S1,↓if_pos,↓if_neg,if_pos,if_neg,if_true,if_false,S2,bS,aQ.L1.F,bG]
  rfl
theorem aQ.ok:aQ.Ok:=by
 rintro s ⟨hs,hz⟩
 have hs:s.length<=1000000:=hs
 have hz:lB s<=100000000:=hz
 have p1:aQ.L0.bf (s,0,s,s.length,0):=⟨hs,rfl,rfl,0,0,by omega,rfl,rfl,by rw[aL];omega⟩
 have p2:aQ.L1.bf (0,s,s.length,0,List.replicate (lB s) 0):=⟨hs,by omega,rfl,0,by omega,rfl,by rw[aL];omega⟩
 rw[aQ.eq,aQ.L0.run p1]
 simp only[ah,aQ.L0.add,aQ.L0.F,cV,aL,Int.zero_add]
 rw[iI.run (d:=((lB s:Nat):Int)) ⟨lB s,rfl,hz⟩]
 simp only[ah,bS,iI.F,aa]
 rw[aQ.L1.run p2]
 simp only[ah,bS,aQ.L1.F,cV,aL]
 obtain⟨c1,c2⟩:=Jm 0 (List.replicate (lB s) 0) s
 simp only[aR,c1,and_self,decide_true,aj,c2]
 rfl
theorem aQ.run:aQ.RS:=rE [.d (.slice tB)] aQ
def aQ.sg:=aQ.gl aQ.ok 2 ⟨.jG aQ.L0.ok,⟨.jG aQ.L1.ok,trivial⟩⟩
abbrev fy.D:=Bs×Bs
abbrev fy.Y:=Bs
def fy.bf:fy.D->Prop:=λ(a,b)=>a.length+b.length<=100000000
def fy.F:fy.D->fy.Y:=λ(a,b)=>a++b
def fy:Fs Tryz.prog fy.bf bS fy.F:=fS 179 Tryz.f179 (λ(b,more)=>([.d tB b,.d tB more],[])) (λx=>⟨.d tB x,[],[]⟩) [some tB,some tB] [aQ.sg]
theorem fy.eq{R:Type}(b more)(k:K1 R):fy.A (b,more) k=
 aA (aQ.call [b,more]) λx1=>
 k (fy.out x1):=by kernel_rfl
theorem fy.ok:fy.Ok:=by
 rintro⟨a,b⟩ h
 have h:a.length+b.length<=100000000:=h
 rw[fy.eq,aQ.run (d:=[a,b]) ⟨by show [a,b].length<=_;simp,by show lB [a,b]<=_;simp only[lB,ff,jO,cZ,au];omega⟩]
 simp only[ah,bS,aQ.F,bS,fy.F,ff,jO,cZ]
theorem fy.run:fy.RS:=rE [.d tB,.d tB] fy
def fy.sg:=fy.gl fy.ok
def j7:Nat->Int->List Int×Int
 | 0,n=>([],n)
 |f+1,n=>if 128<=n then((n%128+128)::(j7 f (n / 128)).1,(j7 f (n / 128)).2) else([],n)
def yF(n:Int):List Int:=(j7 10 n).1++ [(j7 10 n).2]
theorem Au:∀(f g:Nat) (n:Int),n < 128^(f+1)->n < 128^(g+1)->j7 f n=j7 g n
 | 0,0,n,_,_=>rfl
 | 0,g+1,n,h,_=>by
  have h:n < 128:=h
  rw[j7,j7,if_neg (by omega)]
 |f+1,0,n,_,h=>by
  have h:n < 128:=h
  rw[j7,j7,if_neg (by omega)]
 |f+1,g+1,n,h,h'=>by
  rw[j7,j7]
  split
  ·have e:(128:Int)^(f+1+1)=128^(f+1)*128:=Int.pow_succ 128 (f+1)
   have e':(128:Int)^(g+1+1)=128^(g+1)*128:=Int.pow_succ 128 (g+1)
   rw[Au f g (n / 128) (by omega) (by omega)]
  ·rfl
theorem yE:∀(f:Nat) (n:Int),(j7 f n).1.length<=f
 | 0,_=>aw _
 |f+1,n=>by
  rw[j7]
  split
  ·have:=yE f (n / 128)
   simp only[aC];omega
  ·exact bj _
theorem As:∀(f:Nat) (n:Int),0<=n->n < 128^(f+1)->0<=(j7 f n).2/\(j7 f n).2 < 128
 | 0,n,h,h'=>by have h':n < 128:=h';exact⟨h,h'⟩
 |f+1,n,h,h'=>by
  rw[j7]
  have e:(128:Int)^(f+1+1)=128^(f+1)*128:=Int.pow_succ 128 (f+1)
  split
  ·exact As f (n / 128) (by omega) (by omega)
  ·exact⟨h,by omega⟩
theorem GL{n:Int}(h:128<=n)(h2:n<=9223372036854775807):j7 10 n=((n%128+128)::(j7 10 (n / 128)).1,(j7 10 (n / 128)).2):=by
 have e:(128:Int)^(9+1)=1180591620717411303424:=rfl
 have e2:(128:Int)^(10+1)=151115727451828646838272:=rfl
 rw[j7,if_pos h,Au 9 10 (n / 128) (by rw[e];omega) (by rw[e2];omega)]
theorem uw(n:Int):(yF n).length<=11:=by
 have:=yE 10 n
 unfold yF
 simp only[au,aC,aZ];omega
def DC(n:Int):Prop:=0<=n/\n<=9223372036854775807
abbrev eY.L0.D:=Int×Nat×(List Int)
abbrev eY.L0.Y:=Int×Nat×(List Int)
abbrev eY.D:=Int
abbrev eY.Y:=Bs
def eY.L0.bf:eY.L0.D->Prop:=λ(n,m,l)=>DC n/\m=l.length/\l.length<=1000+0*n.toNat/\l.length+(j7 10 n).1.length<=100
def eY.L0.F:eY.L0.D->eY.L0.Y:=λ(n,m,l)=>((j7 10 n).2,(l++(j7 10 n).1).length,l++(j7 10 n).1)
def eY.bf:eY.D->Prop:=λn=>DC n
def eY.F:eY.D->eY.Y:=λn=>yF n
def eY.L0:Ls eY.L0.bf bS eY.L0.F:=so (λ(Eu,outL,n14)=>⟨([.d ti Eu,.undef,.undef,.cv (.new 14 0) 0 [] 0 0 outL]++bE 16 []),[],(cS 14 ([[.obj 0 false (.vec 5 tb n14)]]++cS 5 []))⟩) (λx=>(.exit 0,⟨([.d ti x.1,.undef,.undef,.cv (.new 14 0) 0 [] 0 0 x.2.1]++bE 16 []),[],(cS 14 ([[.obj 0 false (.vec 5 tb x.2.2)]]++cS 5 []))⟩))
def eY:Fs Tryz.prog eY.bf bS eY.F:=fS 180 Tryz.f180 (λn=>([.d ti n],[])) (λx=>⟨.d tB x,[],[]⟩) [some ti] [] {loops:=qP [(2,{bI:=[0,3],sites:=[14],owns:=[⟨3,[],14,140⟩]})],outs:=qO [(2,{bI:=[0,3],sites:=[14]},{bI:=[2]})],jK:=sm [(2,eY.L0.E)],res:=[some tB]}
theorem eY.L0.run:eY.L0.RS:=rL [.d ti,.n,.d tB] eY.L0
theorem eY.L0.step{R:Type}(Eu outL n14)(kn:K2 R)(kx:K3 R):eY.R 0 eY.L0 (Eu,outL,n14) kn kx=
  aO ((pN Eu 128)) (
   aO (decide (outL<=(List.length n14))) (
   aO (dK (outL+1) 1) (
   kn (eY.L0.st ((pg .i64 Eu 128),(outL+1),((List.take outL n14)++ [(dF .u8 (bW .i64 (nH Eu 128) 128))])))) none) none) (
   eY.L0.go kx (Eu,outL,n14)):=by kernel_rfl
theorem eY.eq{R:Type}(n)(k:K1 R):eY.A n k=
 aA (eY.L0.call (n,0,([]:List Int))) λx1=>
 aO (decide (x1.2.1<=(List.length x1.2.2))) (
 aO (dK (x1.2.1+1) 1) (
 aO (decide (0=0/\(0+(x1.2.1+1))<=(List.length ((List.take x1.2.1 x1.2.2)++ [(dF .u8 x1.1)])))) (
 k (eY.out (cut ((List.take x1.2.1 x1.2.2)++ [(dF .u8 x1.1)]) 0 (x1.2.1+1)))) none) none) none:=by kernel_rfl
theorem Hz{n:Int}(h:DC n):dF .u8 (bW .i64 (nH n 128) 128)=n%128+128:=by
 have h1:=h.1
 rw[rB h.1,eP (by omega) (by omega),A7,jg]
 omega
theorem eY.L0.ok:(eY.mf 0 eY.L0):=by
 refine(eY.nN 0 eY.L0) (λ(n,m,l)=>n.toNat) ?_
 rintro⟨n,m,l⟩ ⟨hn,rfl,hl,hz⟩
 have hn:DC n:=hn
 have hz:l.length+(j7 10 n).1.length<=100:=hz
 have h1:=hn.1
 have h2:=hn.2
 by_cases h:128<=n
 ·left
  have e:=GL h h2
  have hq:pg .i64 n 128=n / 128:=by
   rw[pg,gw h1]
   exact oq (by omega) (by omega)
  have el:((n%128+128)::(j7 10 (n / 128)).1).length=(j7 10 (n / 128)).1.length+1:=aC
  rw[e]at hz
  have hz:l.length+((n%128+128)::(j7 10 (n / 128)).1).length<=100:=hz
  rw[el]at hz
  refine⟨(n / 128,l.length+1,l++ [n%128+128]),⟨⟨by omega,by omega⟩,by rw[au];rfl,by rw[au];simp only[aC,aZ];omega,by rw[au];simp only[aC,aZ];omega⟩,by simp only[];omega,?_,λkn kx=> ?_⟩
  ·simp only[bS,eY.L0.F,e,bC,jN,aT]
  ·rw[eY.L0.step,fH h,Hz hn,hq]
   simp(disch:=omega) only[↓S1,↓if_pos,↓if_neg,if_pos,if_neg,if_true,if_false,S2,aw,cX]
 ·right
  have e:j7 10 n=([],n):=by rw[j7,if_neg h]
  intro R kn kx
  rw[eY.L0.step,eg h]
  simp only[aq,bS,eY.L0.F,e,cZ]
theorem eY.ok:eY.Ok:=by
 intro n hn
 have hn:DC n:=hn
 have hl:=yE 10 n
 have e2:(128:Int)^(10+1)=151115727451828646838272:=rfl
 have hd:=As 10 n hn.1 (by have:=hn.2;rw[e2];omega)
 have p:eY.L0.bf (n,0,[]):=⟨hn,rfl,by simp,by simp only[aZ];omega⟩
 have hi:dF .u8 (j7 10 n).2=(j7 10 n).2:=by rw[A7,jg];omega
 rw[eY.eq,eY.L0.run p]
 simp only[ah,bS,eY.L0.F,aT,hi,cX,aw,decide_true,aj]
 rw[fN (by omega) (by omega)]
 simp only[aj,aR,au,aC,aZ,aw,and_self,decide_true]
 rw[gR (by rw[au];rfl)]
 rfl
theorem eY.run:eY.RS:=rE [.d ti] eY
def eY.sg:=eY.gl eY.ok 1 ⟨.jG eY.L0.ok,trivial⟩
def e8(b:List Int)(n:Int):List Int:=if n < 0 then b else b++yF n
theorem fT(b:List Int)(n:Int):(e8 b n).length<=b.length+11:=by
 unfold e8
 have:=uw n
 split
 ·omega
 ·rw[au];omega
abbrev fQ.D:=Bs×Int
abbrev fQ.Y:=Bs
def fQ.bf:fQ.D->Prop:=λ(b,n)=>b.length<=90000000/\n<=9223372036854775807
def fQ.F:fQ.D->fQ.Y:=λ(b,n)=>e8 b n
def fQ:Fs Tryz.prog fQ.bf bS fQ.F:=fS 123 Tryz.f123 (λ(b,n)=>([.d tB b,.d ti n],[])) (λx=>⟨.d tB x,[],[]⟩) [some tB,some ti] [fy.sg,eY.sg]
theorem fQ.eq{R:Type}(b n)(k:K1 R):fQ.A (b,n) k=
  aO ((ju n 0)) (
   aA (fy.call (b,([]:List Int))) λx1=>
   k (fQ.out x1)) (
   aA (eY.call n) λx2=>
   aA (fy.call (b,x2)) λx3=>
   k (fQ.out x3)):=by kernel_rfl
theorem fQ.ok:fQ.Ok:=by
 rintro⟨b,n⟩ ⟨hb,hn⟩
 have hb:b.length<=90000000:=hb
 have hn:n<=9223372036854775807:=hn
 rw[fQ.eq]
 simp only[bS,fQ.F,e8]
 by_cases h:n < 0
 ·rw[bq h,if_pos h,aj,fy.run (d:=(b,[])) (by show b.length+([]:List Int).length<=_;simp only[aZ];omega)]
  simp only[ah,bS,fy.F,cZ]
 ·have hl:=uw n
  rw[bn h,if_neg h,aq,eY.run (d:=n) ⟨by omega,hn⟩]
  simp only[ah,bS,eY.F]
  rw[fy.run (d:=(b,yF n)) (by show b.length+(yF n).length<=_;omega)]
  rfl
theorem fQ.run:fQ.RS:=rE [.d tB,.d ti] fQ
def fQ.sg:=fQ.gl fQ.ok
abbrev ix.D:=Bs×Int
abbrev ix.Y:=Bs
def ix.bf:ix.D->Prop:=λ(b,n)=>b.length<=90000000
def ix.F:ix.D->ix.Y:=λ(b,n)=>b++pa n
def ix:Fs Tryz.prog ix.bf bS ix.F:=fS 191 Tryz.f191 (λ(b,n)=>([.d tB b,.d tu n],[])) (λx=>⟨.d tB x,[],[]⟩) [some tB,some tu] [fy.sg] {loops:=qP [(3,{bI:=[0,1,5,7],sites:=[5,21]})],outs:=qO [(3,{bI:=[0,5],sites:=[5,21]},{bI:=[4],sites:=[5,21]})]} 12
theorem ix.eq{R:Type}(b n)(k:K1 R):ix.A (b,n) k=
 aA (fy.call (b,[(dF .u8 (bZ .u64 n 56)),(dF .u8 (bZ .u64 n 48)),(dF .u8 (bZ .u64 n 40)),(dF .u8 (bZ .u64 n 32)),(dF .u8 (bZ .u64 n 24)),(dF .u8 (bZ .u64 n 16)),(dF .u8 (bZ .u64 n 8)),(dF .u8 (bZ .u64 n 0))])) λx1=>
 k (ix.out x1):=by kernel_rfl
theorem ix.ok:ix.Ok:=by
 rintro⟨b,n⟩ hb
 have hb:b.length<=90000000:=hb
 have p:fy.bf (b,pa n):=by show b.length+(pa n).length<=_;rw[dq];omega
 have e:fy.call (b,[dF .u8 (bZ .u64 n 56),dF .u8 (bZ .u64 n 48),dF .u8 (bZ .u64 n 40),dF .u8 (bZ .u64 n 32),dF .u8 (bZ .u64 n 24),dF .u8 (bZ .u64 n 16),dF .u8 (bZ .u64 n 8),dF .u8 (bZ .u64 n 0)])=some (b++pa n):=by
  rw[BR];exact fy.run p
 rw[ix.eq]
 refine Eq.trans (congrArg (λx=>aA x _) e) ?_
 rfl
theorem ix.run:ix.RS:=rE [.d tB,.d tu] ix
def ix.sg:=ix.gl ix.ok 1 ⟨.none (by kernel_rfl),trivial⟩
def qp(w:DI):Bool:=decide (0<=w.1/\w.1 < 4) && decide (w.2.1.length<=12)
def xM(x:iG):Bool:=decide (0<=x.1.2.1/\x.1.2.1 < 64) && qp x.2.1
def vZ(m:List (jm×Bool))(x:iG):Bool:=(du gX x.1 m).getD false
def rU:List (jm×Bool)->List iG->Bool
 |_,[]=>true
 |m,x::l=>(!(vZ m x) && xM x) && rU (gE gX x.1 true m) l
def lq(a:Int):Bool:=decide (0<=a/\a<=1125899906842624)
def oT(a b:Int):Bool:=lq a && (lq b && decide (a+b<=1125899906842624))
def pV:Int->List lS->Bool
 |_,[]=>true
 |s,o::l=>(oT s o.1 && oR o.2.1) && pV (s+o.1) l
def yW(t:jh):Bool:=decide (1<=t.1.length/\t.1.length<=64/\t.2.1.length<=64/\0<=t.2.2.1)
def kq(t:jh):Bool:=yW t && (rU [] t.1 && pV 0 t.2.1)
def IY(l:Lk):Prop:=Ke l/\l.1.length<=9223372036854775807
def QP(t:jh):Prop:=(∀o∈t.2.1,IY o.2.1)/\t.1.length<=9223372036854775807/\t.2.1.length<=9223372036854775807
abbrev ko.D:=DI
abbrev ko.Y:=Bool
def ko.bf:ko.D->Prop:=λ_=>True
def ko.F:ko.D->ko.Y:=λw=>qp w
def ko:Fs Tryz.prog ko.bf bS ko.F:=fS 67 Tryz.f67 (λwv=>([.d Oy wv],[])) (λx=>⟨.d .bool x,[],[]⟩) [some Oy]
theorem ko.eq{R:Type}(wv)(k:K1 R):ko.A wv k=
  aO ((pN wv.1 0)) (
   aO ((ju wv.1 4)) (
    k (ko.out (Ct (wv.2.1.length:Int) 12))) (
    k (ko.out false))) (
   k (ko.out false)):=by kernel_rfl
theorem ko.ok:ko.Ok:=by
 rintro⟨b,ss,sc,u⟩ _
 rw[ko.eq]
 simp only[bS,ko.F,qp]
 by_cases h:0<=b
 ·rw[fH h,aj]
  by_cases h2:b < 4
  ·rw[bq h2,aj,aY ⟨h,h2⟩]
   by_cases h3:ss.length<=12
   ·rw[ki (by omega),aY h3];rfl
   ·rw[iy (by omega),cg h3];rfl
  ·rw[bn h2,aq,cg (λx=>h2 x.2)];rfl
 ·rw[eg h,aq,cg (λx=>h x.1)];rfl
theorem ko.run:ko.RS:=rE [.d Oy] ko
def ko.sg:=ko.gl ko.ok
abbrev eG.D:=Int
abbrev eG.Y:=Bool
def eG.bf:eG.D->Prop:=λ_=>True
def eG.F:eG.D->eG.Y:=λa=>lq a
def eG:Fs Tryz.prog eG.bf bS eG.F:=fS 194 Tryz.f194 (λa=>([.d ti a],[])) (λx=>⟨.d .bool x,[],[]⟩) [some ti]
theorem eG.eq{R:Type}(a)(k:K1 R):eG.A a k=
  aO ((pN a 0)) (
   k (eG.out (Ct a 1125899906842624))) (
   k (eG.out false)):=by kernel_rfl
theorem eG.ok:eG.Ok:=by
 intro(a:Int) _
 rw[eG.eq]
 simp only[bS,eG.F,lq]
 by_cases h:0<=a
 ·rw[fH h,aj]
  by_cases h2:a<=1125899906842624
  ·rw[ki h2,aY ⟨h,h2⟩]
  ·rw[iy h2,cg (λx=>h2 x.2)]
 ·rw[eg h,aq,cg (λx=>h x.1)]
theorem eG.run:eG.RS:=rE [.d ti] eG
def eG.sg:=eG.gl eG.ok
abbrev jc.D:=Int×Int
abbrev jc.Y:=Int×Bool
def jc.bf:jc.D->Prop:=λ_=>True
def jc.F:jc.D->jc.Y:=λ(a,b)=>(bif oT a b then a+b else 0,oT a b)
def jc:Fs Tryz.prog jc.bf bS jc.F:=fS 132 Tryz.f132 (λ(a,b)=>([.d ti a,.d ti b],[])) (λx=>⟨.cons (.d ti x.1) (.cons (.d .bool x.2) (.nil)),[],[]⟩) [some ti,some ti] [eG.sg]
theorem jc.eq{R:Type}(a b)(k:K1 R):jc.A (a,b) k=
  aA (eG.call a) λx1=>
  aO ((!x1)) (
   k (jc.out (0,false))) (
   aA (eG.call b) λx2=>
   aO ((!x2)) (
    k (jc.out (0,false))) (
    aO ((pv a (df .i64 1125899906842624 b))) (
     k (jc.out (0,false))) (
     k (jc.out ((bW .i64 a b),true))))):=by kernel_rfl
theorem jc.ok:jc.Ok:=by
 rintro⟨a,b⟩ _
 rw[jc.eq,eG.run (d:=a) trivial,eG.run (d:=b) trivial]
 simp only[ah,bS,eG.F,bS,jc.F,oT]
 cases ha:lq a
 ·rfl
 ·cases hb:lq b
  ·rfl
  ·simp only[lq,decide_eq_true_eq]at ha hb
   simp only[cz,aq,ck]
   rw[dM (by omega) (by omega)]
   by_cases h:a+b<=1125899906842624
   ·rw[cR (by omega),aq,aY h,eP (by omega) (by omega)];rfl
   ·rw[db (by omega),aj,cg h];rfl
theorem jc.run:jc.RS:=rE [.d ti,.d ti] jc
def jc.sg:=jc.gl jc.ok
abbrev ay.L0.D:=jh×(List iG)×Int×Int×(List (jm×Bool))
def ay.L0.st:ay.L0.D->AS:=λ(uP,t33,t34,t35,n31)=>⟨([.undef,.eW nU uP,.undef,.kT (.new 31 0) 0]++bE 29 ([.d (.slice jL) t33,.d ti t34,.d ti t35]++bE 52 [])),[],(cS 31 ([[.obj 0 false (.mp gX .bool n31)]]++cS 56 []))⟩
abbrev ay.L0.Y0:=Unit
abbrev ay.L0.X0:=Unit
def ay.L0.eR:ay.L0.X0->Exit×AS:=λx=>(.ret,⟨([.undef,.undef,.d .bool false]++bE 85 []),[],(List.replicate 88 [])⟩)
abbrev ay.L0.Y1:=Unit
abbrev ay.L0.X1:=jh
def ay.L0.iZ:ay.L0.X1->Exit×AS:=λx=>(.exit 0,⟨([.undef,.eW nU x]++bE 86 []),[],(List.replicate 88 [])⟩)
abbrev ay.L0.X:=(ay.L0.X0)⊕(ay.L0.X1)
abbrev ay.L0.Y:=(ay.L0.Y0)⊕(ay.L0.Y1)
def ay.L0.out:ay.L0.X->Out (Exit×AS):=λx=> .br x.isLeft (.get x.getLeft? λa=> .ok (ay.L0.eR a)) (.get x.getRight? λb=> .ok (ay.L0.iZ b))
def ay.L0.add:ay.L0.D->ay.L0.Y->ay.L0.X:=λ(uP,t33,t34,t35,n31) y=>match y with | .inl y=> .inl y | .inr z=> .inr (uP)
abbrev ay.L1.D:=Int×(List lS)×Int×Int
def ay.L1.st:ay.L1.D->AS:=λ(sum,t66,t67,t68)=>⟨(bE 6 ([.d ti sum]++bE 59 ([.d (.slice lR) t66,.d ti t67,.d ti t68]++bE 19 []))),[],(List.replicate 88 [])⟩
abbrev ay.L1.Y0:=Unit
abbrev ay.L1.X0:=Unit
def ay.L1.eR:ay.L1.X0->Exit×AS:=λx=>(.ret,⟨([.undef,.undef,.d .bool false]++bE 85 []),[],(List.replicate 88 [])⟩)
abbrev ay.L1.Y1:=Unit
abbrev ay.L1.X1:=Unit
def ay.L1.iZ:ay.L1.X1->Exit×AS:=λx=>(.exit 2,⟨(bE 88 []),[],(List.replicate 88 [])⟩)
abbrev ay.L1.X:=(ay.L1.X0)⊕(ay.L1.X1)
abbrev ay.L1.Y:=(ay.L1.Y0)⊕(ay.L1.Y1)
def ay.L1.out:ay.L1.X->Out (Exit×AS):=λx=> .br x.isLeft (.get x.getLeft? λa=> .ok (ay.L1.eR a)) (.get x.getRight? λb=> .ok (ay.L1.iZ b))
def ay.L1.add:ay.L1.D->ay.L1.Y->ay.L1.X:=λ(sum,t66,t67,t68) y=>match y with | .inl y=> .inl y | .inr z=> .inr (z)
abbrev ay.D:=jh
abbrev ay.Y:=Bool
def ay.L0.bf:ay.L0.D->Prop:=λ(t,l,n,i,m)=>l.length<=9223372036854775807/\n=l.length/\∃k:Nat,k<=l.length/\i=k
def ay.L0.F:ay.L0.D->ay.L0.Y:=λ(t,l,n,i,m)=>if rU m (l.drop i.toNat) then .inr () else .inl ()
def ay.L1.bf:ay.L1.D->Prop:=λ(s,l,n,i)=>(∀o∈l,IY o.2.1)/\l.length<=9223372036854775807/\n=l.length/\∃k:Nat,k<=l.length/\i=k
def ay.L1.F:ay.L1.D->ay.L1.Y:=λ(s,l,n,i)=>if pV s (l.drop i.toNat) then .inr () else .inl ()
def ay.bf:ay.D->Prop:=λt=>QP t
def ay.F:ay.D->ay.Y:=λt=>kq t
def ay.L0.E:=eS.jG ay.L0.st ay.L0.bf ay.L0.add ay.L0.F ay.L0.out
def ay.L0.call:ay.L0.D->Option ay.L0.X:=mz ay.L0.E ay.L0.st
def ay.L1.E:=eS.jG ay.L1.st ay.L1.bf ay.L1.add ay.L1.F ay.L1.out
def ay.L1.call:ay.L1.D->Option ay.L1.X:=mz ay.L1.E ay.L1.st
def ay:Fs Tryz.prog ay.bf bS ay.F:=fS 66 Tryz.f66 (λt=>([.d nU t],[])) (λx=>⟨.d .bool x,[],[]⟩) [some nU] [ko.sg,jc.sg,aK.sg] {loops:=qP [(5,{bI:=[1,3,33,34,35],sites:=[31]}),(13,{bI:=[6,66,67,68]})],outs:=qO [(5,{bI:=[1]},{bI:=[2]}),(13,{},{bI:=[2]})],jK:=sm [(5,ay.L0.E),(13,ay.L1.E)]}
def ay.L0.R:= @jC Tryz.prog (oO ay.G) ay.an 0 Tryz.f66 0 _ ay.L0.st
abbrev ay.L0.Ok:=qq Tryz.prog (oO ay.G) ay.an 0 Tryz.f66 0 ay.L0.st ay.L0.bf ay.L0.add ay.L0.F ay.L0.out
def ay.L1.R:= @jC Tryz.prog (oO ay.G) ay.an 0 Tryz.f66 1 _ ay.L1.st
abbrev ay.L1.Ok:=qq Tryz.prog (oO ay.G) ay.an 0 Tryz.f66 1 ay.L1.st ay.L1.bf ay.L1.add ay.L1.F ay.L1.out
theorem ay.L0.run:o9 ay.L0.call ay.L0.bf ay.L0.add ay.L0.F:=rW (rT [.d nU,.d (.slice jL),.d ti,.d ti,.d (.slice (.pair gX .bool))] λ_=>by kernel_rfl)
theorem ay.L0.dA:rM @ay.L0.R ay.L0.st ay.L0.bf ay.L0.add ay.L0.F ay.L0.out ay.L0.Ok:=sI
theorem ay.L0.step{R:Type}(uP:jh)(t33:(List iG))(t34:Int)(t35:Int)(n31:(List (jm×Bool)))(kn:AS->Option R)(kx:Exit->AS->Option R):ay.L0.R (uP,t33,t34,t35,n31) kn kx=
  aO ((ju t35 t34)) (
   aO (gK t35 (((List.length t33):Nat):Int)) (
   aO (((du gX (nth jL t33 (Int.toNat t35)).1 n31).getD false)) (
    kx (ay.L0.eR ()).1 (ay.L0.eR ()).2) (
    aO ((ju (nth jL t33 (Int.toNat t35)).1.2.1 (0:Int))) (
     kx (ay.L0.eR ()).1 (ay.L0.eR ()).2) (
     aO ((pN (nth jL t33 (Int.toNat t35)).1.2.1 (64:Int))) (
      kx (ay.L0.eR ()).1 (ay.L0.eR ()).2) (
      aA (ko.call (nth jL t33 (Int.toNat t35)).2.1) λx8=>
      aO ((!x8)) (
       kx (ay.L0.eR ()).1 (ay.L0.eR ()).2) (
       kn (ay.L0.st (uP,t33,t34,(bW .i64 t35 (1:Int)),(gE gX (nth jL t33 (Int.toNat t35)).1 true n31)))))))) none) (
   kx (ay.L0.iZ uP).1 (ay.L0.iZ uP).2):=by kernel_rfl
theorem ay.L1.run:o9 ay.L1.call ay.L1.bf ay.L1.add ay.L1.F:=rW (rT [.d ti,.d (.slice lR),.d ti,.d ti] λ_=>by kernel_rfl)
theorem ay.L1.dA:rM @ay.L1.R ay.L1.st ay.L1.bf ay.L1.add ay.L1.F ay.L1.out ay.L1.Ok:=sI
theorem ay.L1.step{R:Type}(sum:Int)(t66:(List lS))(t67:Int)(t68:Int)(kn:AS->Option R)(kx:Exit->AS->Option R):ay.L1.R (sum,t66,t67,t68) kn kx=
  aO ((ju t68 t67)) (
   aO (gK t68 (((List.length t66):Nat):Int)) (
   aA (jc.call (sum,(nth lR t66 (Int.toNat t68)).1)) λI9=>
   aO ((!I9.2)) (
    kx (ay.L1.eR ()).1 (ay.L1.eR ()).2) (
    aA (aK.call (nth lR t66 (Int.toNat t68)).2.1) λIW=>
    aO ((!IW)) (
     kx (ay.L1.eR ()).1 (ay.L1.eR ()).2) (
     kn (ay.L1.st (I9.1,t66,t67,(bW .i64 t68 (1:Int))))))) none) (
   kx (ay.L1.iZ ()).1 (ay.L1.iZ ()).2):=by kernel_rfl
theorem ay.eq{R:Type}(t)(k:K1 R):ay.A t k=
  aO ((ju (t.1.length:Int) 1)) (
   k (ay.out false)) (
   aO ((pv (t.1.length:Int) 64)) (
    k (ay.out false)) (
    aO ((pv (t.2.1.length:Int) 64)) (
     k (ay.out false)) (
     aO ((ju t.2.2.1 0)) (
      k (ay.out false)) (
      aA (ay.L0.call (t,t.1,(t.1.length:Int),0,([]:List (jm×Bool)))) λIW=>
      aO (IW.isLeft) (
       aA (IW.getLeft?) λa13=>
       k (ay.out false)) (
       aA (IW.getRight?) λb14=>
       aA (ay.L1.call (0,b14.2.1,(b14.2.1.length:Int),0)) λDB=>
       aO (DB.isLeft) (
        aA (DB.getLeft?) λa31=>
        k (ay.out false)) (
        aA (DB.getRight?) λb32=>
        k (ay.out true))))))):=by kernel_rfl
theorem ay.L0.ok:ay.L0.Ok:=by
 refine ay.L0.dA (λ(t,l,n,i,m)=>l.length - i.toNat) ?_
 rintro⟨t,l,n,i,m⟩ ⟨hb,rfl,k,hk,rfl⟩
 have hb:l.length<=9223372036854775807:=hb
 have hk:k<=l.length:=hk
 by_cases h:k < l.length
 ·have n1:nth jL l k=l[k]:=dR (t:=jL) h
  have hd:rU m (l.drop k)=((!(vZ m l[k]) && xM l[k]) && rU (gE gX l[k].1 true m) (l.drop (k+1))):=by rw[aB h];rfl
  have step:∀ {R:Type} (kn:AS->Option R) (kx:Exit->AS->Option R),ay.L0.R (t,l,(l.length:Int),(k:Int),m) kn kx=aO (!(vZ m l[k]) && xM l[k]) (kn (ay.L0.st (t,l,(l.length:Int),((k+1:Nat):Int),gE gX l[k].1 true m))) (kx (ay.L0.eR ()).1 (ay.L0.eR ()).2):=by
   intro R kn kx
   rw[ay.L0.step,bq (by omega),bM (by omega) (by omega),aa,n1,N.rO (by omega),ko.run (d:=l[k].2.1) trivial]
   simp only[aj,ah,bS,ko.F]
   have e:(du gX l[k].1 m).getD false=vZ m l[k]:=rfl
   rw[e]
   cases vZ m l[k]
   ·simp only[dG,ck,aq,xM]
    by_cases h1:l[k].1.2.1 < 0
    ·rw[bq h1,aj,cg (λx=>by omega)];rfl
    ·rw[bn h1,aq]
     by_cases h2:64<=l[k].1.2.1
     ·rw[fH h2,aj,cg (λx=>by omega)];rfl
     ·rw[eg h2,aq,aY ⟨by omega,by omega⟩]
      cases qp l[k].2.1 <;> rfl
   ·rfl
  cases hp:(!(vZ m l[k]) && xM l[k])
  ·right
   refine⟨ay.L0.eR (),?_,λkn kx=> ?_⟩
   ·simp only[ay.L0.add,ay.L0.F,aa,hd,hp,eM,bN,if_false]
    rfl
   ·rw[step,hp,aq]
  ·left
   refine⟨(t,l,l.length,((k+1:Nat):Int),gE gX l[k].1 true m),⟨hb,rfl,k+1,by omega,rfl⟩,by simp only[aa];omega,?_,λkn kx=> ?_⟩
   ·simp only[ay.L0.add,ay.L0.F,aa,hd,hp,ck]
   ·rw[step,hp,aj]
 ·right
  obtain rfl:k=l.length:=by omega
  refine⟨ay.L0.iZ t,?_,λkn kx=> ?_⟩
  ·simp only[ay.L0.add,ay.L0.F,aa,bG]
   rfl
  ·rw[ay.L0.step]
   simp(disch:=omega) only[↓S1,↓if_pos,↓if_neg,if_pos,if_neg,if_true,if_false,S2]
theorem ay.L1.ok:ay.L1.Ok:=by
 refine ay.L1.dA (λ(s,l,n,i)=>l.length - i.toNat) ?_
 rintro⟨s,l,n,i⟩ ⟨hl,hb,rfl,k,hk,rfl⟩
 have hb:l.length<=9223372036854775807:=hb
 have hk:k<=l.length:=hk
 by_cases h:k < l.length
 ·have hx:IY l[k].2.1:=hl _ (b6 h)
  have n1:nth lR l k=l[k]:=dR (t:=lR) h
  have hd:pV s (l.drop k)=((oT s l[k].1 && oR l[k].2.1) && pV (s+l[k].1) (l.drop (k+1))):=by rw[aB h];rfl
  have step:∀ {R:Type} (kn:AS->Option R) (kx:Exit->AS->Option R),ay.L1.R (s,l,(l.length:Int),(k:Int)) kn kx=aO (oT s l[k].1 && oR l[k].2.1) (kn (ay.L1.st (s+l[k].1,l,(l.length:Int),((k+1:Nat):Int)))) (kx (ay.L1.eR ()).1 (ay.L1.eR ()).2):=by
   intro R kn kx
   rw[ay.L1.step,bq (by omega),bM (by omega) (by omega),aa,n1,N.rO (by omega),jc.run (d:=(s,l[k].1)) trivial,aK.run (d:=l[k].2.1) hx]
   simp only[aj,ah,bS,jc.F,bS,aK.F]
   cases oT s l[k].1
   ·rfl
   ·cases oR l[k].2.1 <;> rfl
  cases hp:(oT s l[k].1 && oR l[k].2.1)
  ·right
   refine⟨ay.L1.eR (),?_,λkn kx=> ?_⟩
   ·simp only[ay.L1.add,ay.L1.F,aa,hd,hp,eM,bN,if_false]
    rfl
   ·rw[step,hp,aq]
  ·left
   refine⟨(s+l[k].1,l,l.length,((k+1:Nat):Int)),⟨hl,hb,rfl,k+1,by omega,rfl⟩,by simp only[aa];omega,?_,λkn kx=> ?_⟩
   ·simp only[ay.L1.add,ay.L1.F,aa,hd,hp,ck]
   ·rw[step,hp,aj]
 ·right
  obtain rfl:k=l.length:=by omega
  refine⟨ay.L1.iZ (),?_,λkn kx=> ?_⟩
  ·simp only[ay.L1.add,ay.L1.F,aa,bG]
   rfl
  ·rw[ay.L1.step]
   simp(disch:=omega) only[↓S1,↓if_pos,↓if_neg,if_pos,if_neg,if_true,if_false,S2]
theorem ay.ok:ay.Ok:=by
 rintro⟨is,os,nt,u⟩ ⟨hl,h1,h2⟩
 have h1:is.length<=9223372036854775807:=h1
 have h2:os.length<=9223372036854775807:=h2
 rw[ay.eq,ay.L0.run (d:=((is,os,nt,u),is,is.length,0,[])) ⟨h1,rfl,0,by omega,rfl⟩]
 simp only[ah,ay.L0.add,ay.L0.F,cV,aL,bS,ay.F,kq,yW]
 by_cases a1:is.length < 1
 ·rw[bq (by omega),aj,cg (λx=>by omega)];rfl
 rw[bn (by omega),aq]
 by_cases a2:64 < is.length
 ·rw[db (by omega),aj,cg (λx=>by omega)];rfl
 rw[cR (by omega),aq]
 by_cases a3:64 < os.length
 ·rw[db (by omega),aj,cg (λx=>by omega)];rfl
 rw[cR (by omega),aq]
 by_cases a4:nt < 0
 ·rw[bq (by omega),aj,cg (λx=>by omega)];rfl
 rw[bn (by omega),aq,aY ⟨by omega,by omega,by omega,by omega⟩]
 cases rU [] is
 ·rfl
 ·simp only[if_true,ck]
  show aA (ay.L1.call (0,os,(os.length:Int),0)) _=_
  rw[ay.L1.run (d:=(0,os,os.length,0)) ⟨hl,h2,rfl,0,by omega,rfl⟩]
  simp only[ah,ay.L1.add,ay.L1.F,cV,aL]
  cases pV 0 os <;> rfl
theorem ay.run:ay.RS:=rE [.d nU] ay
def ay.sg:=ay.gl ay.ok 2 ⟨.jG ay.L0.ok,⟨.jG ay.L1.ok,trivial⟩⟩
abbrev ez.D:=Bs
abbrev ez.Y:=Bs
def ez.bf:ez.D->Prop:=λl=>l.length<=1000000
def ez.F:ez.D->ez.Y:=λl=>l
def ez:Fs Tryz.prog ez.bf bS ez.F:=fS 142 Tryz.f142 (λsv=>([.d tU sv],[])) (λx=>⟨.d tU x,[],[]⟩) [some tU] [] {bk:=[5],res:=[some tU]}
theorem ez.eq{R:Type}(sv)(k:K1 R):ez.A sv k=
  aO (decide (0 < (List.length sv))) (
   aO (dK (0+(List.length sv)) 8) (
   aO (decide (0=0/\(0+(0+(List.length sv)))<=(List.length ((List.take 0 (List.replicate 0 0))++sv)))) (
   k (ez.out (cut ((List.take 0 (List.replicate 0 0))++sv) 0 (0+(List.length sv))))) none) none) (
   nd (
    k (ez.out ([]:List Int))) (
    aO (dK (0+(List.length sv)) 8) (
    aO (decide (0=0/\(0+(0+(List.length sv)))<=(List.length ((List.take 0 (List.replicate 0 0))++sv)))) (
    k (ez.out (cut ((List.take 0 (List.replicate 0 0))++sv) 0 (0+(List.length sv))))) none) none)):=by kernel_rfl
theorem ez.ok:ez.Ok:=by
 intro l hl
 have hl:l.length<=1000000:=hl
 have hr:dK l.length 8=true:=fN (by omega) (by omega)
 have e0:(List.take 0 (List.replicate 0 0):List Int)=[]:=rfl
 rw[ez.eq]
 simp only[aR,hr,aj,e0,aT,aw,and_self,decide_true,gR,bS,ez.F]
 by_cases h:0 < l.length
 ·simp only[aY h,aj]
 ·have:l=[]:=aJ (by omega)
  subst this
  simp only[aZ,rH,cg (gg 0),aq]
theorem ez.run:ez.RS:=rE [.d tU] ez
def ez.sg:=ez.gl ez.ok
def gB(l:List Int):Lk:=([(l,0,0,0,())],())
abbrev nJ.D:=Bs
abbrev nJ.Y:=Lk
def nJ.bf:nJ.D->Prop:=λl=>l.length<=1000000
def nJ.F:nJ.D->nJ.Y:=λl=>gB l
def nJ:Fs Tryz.prog nJ.bf bS nJ.F:=fS 71 Tryz.f71 (λl=>([.d tU l],[])) (λx=>⟨.d wN x,[],[]⟩) [some tU] [ez.sg]
theorem nJ.eq{R:Type}(l)(k:K1 R):nJ.A l k=
 aA (ez.call l) λx1=>
 k (nJ.out ([(x1,(0,(0,(0,()))))],())):=by kernel_rfl
theorem nJ.ok:nJ.Ok:=by
 intro l hl
 rw[nJ.eq,ez.run (d:=l) hl]
 rfl
theorem nJ.run:nJ.RS:=rE [.d tU] nJ
def nJ.sg:=nJ.gl nJ.ok
abbrev kR.D:=Int
abbrev kR.Y:=Lk
def kR.bf:kR.D->Prop:=λ_=>True
def kR.F:kR.D->kR.Y:=λp=>gB [p]
def kR:Fs Tryz.prog kR.bf bS kR.F:=fS 17 Tryz.f17 (λp=>([.d tu p],[])) (λx=>⟨.d wN x,[],[]⟩) [some tu] [nJ.sg]
theorem kR.eq{R:Type}(p)(k:K1 R):kR.A p k=
 aA (nJ.call [p]) λx1=>
 k (kR.out x1):=by kernel_rfl
theorem kR.ok:kR.Ok:=by
 intro p _
 rw[kR.eq,nJ.run (d:=[p]) (by show [p].length<=_;simp)]
 rfl
theorem kR.run:kR.RS:=rE [.d tu] kR
def kR.sg:=kR.gl kR.ok
def nm(o:List Int)(ks:List Int):List Int:=ks.foldl (λo p=>o++pa p) o
def La(o:List Int)(b:tw):List Int:=e8 (e8 (nm (e8 o b.1.length) b.1) b.2.1) b.2.2.1++pa b.2.2.2.1
def JL(l:Lk):List Int:=if oR l then l.1.foldl La (e8 [] l.1.length) else []
theorem vk:∀(ks:List Int) (o:List Int),(nm o ks).length=o.length+8*ks.length
 |[],o=>rfl
 |k::ks,o=>by
  show(nm (o++pa k) ks).length=_
  rw[vk ks,au,dq,aC];omega
theorem E9(o:List Int)(b:tw)(h:b.1.length<=12):(La o b).length<=o.length+200:=by
 unfold La
 have h1:=fT o b.1.length
 have h2:=vk b.1 (e8 o b.1.length)
 have h3:=fT (nm (e8 o b.1.length) b.1) b.2.1
 have h4:=fT (e8 (nm (e8 o b.1.length) b.1) b.2.1) b.2.2.1
 rw[au,dq];omega
def Jb(n:Int):Prop:=n<=9223372036854775807
def OD(b:tw):Prop:=b.1.length<=12/\Jb b.2.1/\Jb b.2.2.1
theorem Lb{b:tw}(h:sH b=true):OD b:=by
 unfold sH wG at h
 simp only[ae,decide_eq_true_eq]at h
 obtain⟨h1,_,h2,h3,_⟩:=h
 exact⟨h1,by unfold Jb;omega,by unfold Jb;omega⟩
theorem El(o:List Int)(ks:List Int)(k:Nat)(h:k < ks.length):nm o (ks.drop k)=nm (o++pa ks[k]) (ks.drop (k+1)):=by rw[aB h];rfl
abbrev bw.L0.D:=Bs×(List tw)×Int×Int
abbrev bw.L0.Y:=Bs
abbrev bw.L1.D:=Bs×(List tw)×Int×Int×Bs×Int×Int×tw
abbrev bw.L1.Y:=Bs
abbrev bw.L1.X:=((List tw)×Int×Int×tw)×(Bs)
def bw.L1.add:bw.L1.D->bw.L1.Y->bw.L1.X:=λ(vA,yP,yQ,yR,t28,t29,t30,n5) y=>((yP,yQ,yR,n5),y)
abbrev bw.D:=Lk
abbrev bw.Y:=Bs
def bw.L1.bf:bw.L1.D->Prop:=λ(o,bs,n,i,ks,m,j,b)=>ks.length<=12/\o.length+8*ks.length<=80000000+8*j.toNat/\m=ks.length/\∃k:Nat,k<=ks.length/\j=k
def bw.L1.F:bw.L1.D->bw.L1.Y:=λ(o,bs,n,i,ks,m,j,b)=>nm o (ks.drop j.toNat)
def bw.L0.bf:bw.L0.D->Prop:=λ(o,bs,n,i)=>(∀b∈bs,OD b)/\bs.length<=4/\o.length<=1000+200*i.toNat/\n=bs.length/\∃k:Nat,k<=bs.length/\i=k
def bw.L0.F:bw.L0.D->bw.L0.Y:=λ(o,bs,n,i)=>(bs.drop i.toNat).foldl La o
def bw.bf:bw.D->Prop:=λl=>Ke l/\l.1.length<=9223372036854775807
def bw.F:bw.D->bw.Y:=λl=>JL l
def bw.L0:Ls bw.L0.bf bS bw.L0.F:=so (λ(outv,t16,t17,t18)=>⟨([.undef,.undef,.undef,.d tB outv]++bE 12 ([.d (.slice o6) t16,.d ti t17,.d ti t18]++bE 31 [])),[],(List.replicate 50 [])⟩) (λx=>(.exit 0,⟨([.undef,.undef,.undef,.d tB x]++bE 46 []),[],(List.replicate 50 [])⟩))
def bw.L1:Ls bw.L1.bf bw.L1.add bw.L1.F:=so (λ(vA,yP,yQ,yR,t28,t29,t30,n5)=>⟨([.undef,.undef,.undef,.d tB vA,.undef,.ptr (.new 5 0) 0 [] 0]++bE 10 ([.d (.slice o6) yP,.d ti yQ,.d ti yR]++bE 9 ([.d tU t28,.d ti t29,.d ti t30]++bE 19 []))),[],(cS 5 ([[.obj 0 false (.d o6 n5)]]++cS 44 []))⟩) (λx=>(.exit 2,⟨([.undef,.undef,.undef,.d tB x.2,.undef,.ptr (.new 5 0) 0 [] 0]++bE 10 ([.d (.slice o6) x.1.1,.d ti x.1.2.1,.d ti x.1.2.2.1]++bE 31 [])),[],(cS 5 ([[.obj 0 false (.d o6 x.1.2.2.2)]]++cS 44 []))⟩))
def bw:Fs Tryz.prog bw.bf bS bw.F:=fS 146 Tryz.f146 (λl=>([.d wN l],[])) (λx=>⟨.d tB x,[],[]⟩) [some wN] [aK.sg,fQ.sg,ix.sg] {loops:=qP [(5,{bI:=[3,16,17,18]}),(9,{bI:=[3,5,16,17,18,28,29,30],sites:=[5]})],outs:=qO [(5,{bI:=[3]},{bI:=[2]}),(9,{bI:=[3,5,16,17,18],sites:=[5]},{bI:=[2]})],jK:=sm [(5,bw.L0.E),(9,bw.L1.E)],res:=[some tB]}
theorem bw.L0.run:bw.L0.RS:=rL [.d tB,.d (.slice o6),.d ti,.d ti] bw.L0
theorem bw.L0.step{R:Type}(outv t16 t17 t18)(kn:K2 R)(kx:K3 R):bw.R 0 bw.L0 (outv,t16,t17,t18) kn kx=
  aO ((ju t18 t17)) (
   aO (gK t18 (t16.length:Int)) (
   aA (fQ.call (outv,(((List.length (nth o6 t16 (Int.toNat t18)).1):Nat):Int))) λx1=>
   aA (bw.L1.call (x1,t16,t17,t18,(nth o6 t16 (Int.toNat t18)).1,(((List.length (nth o6 t16 (Int.toNat t18)).1):Nat):Int),0,(nth o6 t16 (Int.toNat t18)))) λx2=>
   aA (fQ.call (x2.2,x2.1.2.2.2.2.1)) λx3=>
   aA (fQ.call (x3,x2.1.2.2.2.2.2.1)) λx4=>
   aA (ix.call (x4,x2.1.2.2.2.2.2.2.1)) λx5=>
   kn (bw.L0.st (x5,x2.1.1,x2.1.2.1,(bW .i64 x2.1.2.2.1 1)))) none) (
   bw.L0.go kx outv):=by kernel_rfl
theorem bw.L1.run:bw.L1.RS:=rL [.d tB,.d (.slice o6),.d ti,.d ti,.d tU,.d ti,.d ti,.d o6] bw.L1
theorem bw.L1.step{R:Type}(vA yP yQ yR t28 t29 t30 n5)(kn:K2 R)(kx:K3 R):bw.R 1 bw.L1 (vA,yP,yQ,yR,t28,t29,t30,n5) kn kx=
  aO ((ju t30 t29)) (
   aO (gK t30 (t28.length:Int)) (
   aA (ix.call (vA,(nth tu t28 (Int.toNat t30)))) λx1=>
   kn (bw.L1.st (x1,yP,yQ,yR,t28,t29,(bW .i64 t30 1),n5))) none) (
   bw.L1.go kx ((yP,yQ,yR,n5),vA)):=by kernel_rfl
theorem bw.eq{R:Type}(l)(k:K1 R):bw.A l k=
  aA (aK.call l) λx1=>
  aO ((!x1)) (
   k (bw.out ([]:List Int))) (
   aA (fQ.call (([]:List Int),(l.1.length:Int))) λx2=>
   aA (bw.L0.call (x2,l.1,(l.1.length:Int),0)) λx9=>
   k (bw.out x9)):=by kernel_rfl
theorem bw.L1.ok:(bw.mf 1 bw.L1):=by
 refine(bw.nN 1 bw.L1) (λ(o,bs,n,i,ks,m,j,b)=>ks.length - j.toNat) ?_
 rintro⟨o,bs,n,i,ks,m,j,b⟩ ⟨LR,hl,rfl,k,hk,rfl⟩
 have LR:ks.length<=12:=LR
 have hk:k<=ks.length:=hk
 have hl:o.length+8*ks.length<=80000000+8*(k:Int).toNat:=hl
 rw[aa]at hl
 by_cases h:k < ks.length
 ·left
  have n1:nth (.int .u64) ks k=ks[k]:=dR (t:= .int .u64) h
  refine⟨(o++pa ks[k],bs,n,i,ks,ks.length,((k+1:Nat):Int),b),⟨LR,by rw[au,dq,aa];omega,rfl,k+1,by omega,rfl⟩,by simp only[aa];omega,?_,λkn kx=> ?_⟩
  ·simp only[bw.L1.add,bw.L1.F,aa]
   rw[El _ _ _ h]
  ·rw[bw.L1.step]
   simp(disch:=omega) only[↓S1,↓if_pos,↓if_neg,if_pos,if_neg,if_true,if_false,S2,n1]
   rw[ix.run (d:=(o,ks[k])) (by show o.length<=90000000;omega)]
   rfl
 ·right
  obtain rfl:k=ks.length:=by omega
  intro R kn kx
  rw[bw.L1.step]
  simp(disch:=omega) only[↓S1,↓if_pos,↓if_neg,if_pos,if_neg,if_true,if_false,S2,bw.L1.add,bw.L1.F,bG]
  rfl
theorem bw.L0.ok:(bw.mf 0 bw.L0):=by
 refine(bw.nN 0 bw.L0) (λ(o,bs,n,i)=>bs.length - i.toNat) ?_
 rintro⟨o,bs,n,i⟩ ⟨hb,h4,hl,rfl,k,hk,rfl⟩
 have h4:bs.length<=4:=h4
 have hk:k<=bs.length:=hk
 have hl:o.length<=1000+200*(k:Int).toNat:=hl
 rw[aa]at hl
 by_cases h:k < bs.length
 ·left
  have hx:=hb _ (b6 h)
  have n1:nth (.pair (.slice (.int .u64)) (.pair (.int .i64) (.pair (.int .i64) (.pair (.int .u64) .unit)))) bs k=bs[k]:=dR (t:=(.pair (.slice (.int .u64)) (.pair (.int .i64) (.pair (.int .i64) (.pair (.int .u64) .unit))))) h
  have e0:=E9 o bs[k] hx.1
  refine⟨(La o bs[k],bs,bs.length,((k+1:Nat):Int)),⟨hb,h4,by rw[aa];omega,rfl,k+1,by omega,rfl⟩,by simp only[aa];omega,?_,λkn kx=> ?_⟩
  ·simp only[bS,bw.L0.F,aa]
   rw[aB h]
   rfl
  ·rw[bw.L0.step,bq (by omega),bM (by omega) (by omega),aa,n1]
   obtain⟨⟨ks,af,dl,sc,u⟩,PB⟩:∃b,bs[k]=b:=⟨_,rfl⟩
   rw[PB]at hx e0 ⊢
   obtain⟨Nq,ha,hd⟩:=hx
   have Nq:ks.length<=12:=Nq
   have ha:af<=9223372036854775807:=ha
   have hd:dl<=9223372036854775807:=hd
   have l1:=fT o ks.length
   have l2:=vk ks (e8 o ks.length)
   have l3:=fT (nm (e8 o ks.length) ks) af
   have l4:=fT (e8 (nm (e8 o ks.length) ks) af) dl
   simp only[aj]
   rw[fQ.run (d:=(o,(ks.length:Int))) ⟨by show o.length<=90000000;omega,by show(ks.length:Int)<=9223372036854775807;omega⟩]
   simp only[ah,bS,fQ.F]
   rw[bw.L1.run (d:=(e8 o ks.length,bs,bs.length,k,ks,ks.length,0,(ks,af,dl,sc,u))) ⟨Nq,by show(e8 o ks.length).length+8*ks.length<=_;omega,rfl,0,by omega,rfl⟩]
   simp only[ah,bw.L1.add,bw.L1.F,cV,aL]
   rw[fQ.run (d:=(nm (e8 o ks.length) ks,af)) ⟨by show(nm (e8 o ks.length) ks).length<=90000000;omega,ha⟩]
   simp only[ah,bS,fQ.F]
   rw[fQ.run (d:=(e8 (nm (e8 o ks.length) ks) af,dl)) ⟨by show(e8 (nm (e8 o ks.length) ks) af).length<=90000000;omega,hd⟩]
   simp only[ah,bS,fQ.F]
   rw[ix.run (d:=(e8 (e8 (nm (e8 o ks.length) ks) af) dl,sc)) (by show(e8 (e8 (nm (e8 o ks.length) ks) af) dl).length<=90000000;omega)]
   simp only[ah,bS,ix.F]
   rw[N.rO (by omega)]
   rfl
 ·right
  obtain rfl:k=bs.length:=by omega
  intro R kn kx
  rw[bw.L0.step]
  simp(disch:=omega) only[↓S1,↓if_pos,↓if_neg,if_pos,if_neg,if_true,if_false,S2,bS,bw.L0.F,bG]
  rfl
theorem H8{l:Lk}(h:oR l=true):(∀b∈l.1,OD b)/\0 < l.1.length/\l.1.length<=4:=by
 unfold oR at h
 simp only[ae,cG,decide_eq_true_eq]at h
 exact⟨λb hb=>Lb (h.1 b hb),h.2⟩
theorem bw.ok:bw.Ok:=by
 rintro l ⟨hl,hb⟩
 have hl:Ke l:=hl
 rw[bw.eq,aK.run (d:=l) ⟨hl,hb⟩]
 simp only[ah,bS,aK.F,bS,bw.F,JL]
 cases nE:oR l
 ·rfl
 ·obtain⟨h1,h2,h3⟩:=H8 nE
  have l1:=fT [] l.1.length
  have l0:([]:List Int).length=0:=rfl
  simp only[cz,aq,if_true]
  rw[fQ.run (d:=([],(l.1.length:Int))) ⟨by show([]:List Int).length<=90000000;omega,by show(l.1.length:Int)<=9223372036854775807;omega⟩]
  simp only[ah,bS,fQ.F]
  rw[bw.L0.run (d:=(e8 [] l.1.length,l.1,l.1.length,0)) ⟨h1,h3,by show(e8 [] l.1.length).length<=_;omega,rfl,0,by omega,rfl⟩]
  rfl
theorem Fq(l:Lk):(JL l).length<=1000:=by
 unfold JL
 split
 ·rename_i h
  obtain⟨h1,h2,h3⟩:=H8 h
  have key:∀(bs:List tw) (o:List Int),(∀b∈bs,OD b)->(bs.foldl La o).length<=o.length+200*bs.length:=by
   intro bs
   induction bs with
   |nil=>intro o _;exact aw _
   |cons b bs ih=>
    intro o hb
    have e1:=ih (La o b) λx hx=>hb x (aH _ hx)
    have e2:=E9 o b (hb b aI).1
    rw[cO,aC];omega
  have e:=key l.1 (e8 [] l.1.length) h1
  have e2:=fT [] l.1.length
  have l0:([]:List Int).length=0:=rfl
  omega
 ·exact bj _
theorem bw.run:bw.RS:=rE [.d wN] bw
def bw.sg:=bw.gl bw.ok 2 ⟨.jG bw.L0.ok,⟨.jG bw.L1.ok,trivial⟩⟩
abbrev iW.D:=Bs×Bs
abbrev iW.Y:=Bs
def iW.bf:iW.D->Prop:=λ(b,h)=>b.length+h.length<=100000000/\h.length=32
def iW.F:iW.D->iW.Y:=λ(b,h)=>b++h
def iW:Fs Tryz.prog iW.bf bS iW.F:=fS 124 Tryz.f124 (λ(b,h)=>([.d tB b,.d tH h],[])) (λx=>⟨.d tB x,[],[]⟩) [some tB,some tH] [fy.sg]
theorem iW.eq{R:Type}(b h)(k:K1 R):iW.A (b,h) k=
 aA (fy.call (b,(cut h 0 32))) λx1=>
 k (iW.out x1):=by kernel_rfl
theorem iW.ok:iW.Ok:=by
 rintro⟨b,h⟩ ⟨h1,h2⟩
 have h1:b.length+h.length<=100000000:=h1
 have h2:h.length=32:=h2
 rw[iW.eq,gR h2,fy.run (d:=(b,h)) h1]
 rfl
theorem iW.run:iW.RS:=rE [.d tB,.d tB] iW
def iW.sg:=iW.gl iW.ok
abbrev iK.D:=Bs×Bs
abbrev iK.Y:=Bs
def iK.bf:iK.D->Prop:=λ(b,c)=>b.length+c.length<=90000000
def iK.F:iK.D->iK.Y:=λ(b,c)=>b++(yF c.length++c)
def iK:Fs Tryz.prog iK.bf bS iK.F:=fS 145 Tryz.f145 (λ(b,c)=>([.d tB b,.d tB c],[])) (λx=>⟨.d tB x,[],[]⟩) [some tB,some tB] [eY.sg,aQ.sg] {res:=[some tB]}
theorem iK.eq{R:Type}(b c)(k:K1 R):iK.A (b,c) k=
 aA (eY.call (c.length:Int)) λx1=>
 aA (aQ.call [b,x1,c]) λx2=>
 k (iK.out x2):=by kernel_rfl
theorem iK.ok:iK.Ok:=by
 rintro⟨b,c⟩ h
 have h:b.length+c.length<=90000000:=h
 have hl:=uw c.length
 rw[iK.eq,eY.run (d:=(c.length:Int)) ⟨by omega,by omega⟩]
 simp only[ah,bS,eY.F]
 rw[aQ.run (d:=[b,yF c.length,c]) ⟨by show [b,yF c.length,c].length<=_;simp,by show lB [b,yF c.length,c]<=_;simp only[lB,ff,jO,cZ,au];omega⟩]
 simp only[ah,bS,aQ.F,bS,iK.F,ff,jO,cZ]
theorem iK.run:iK.RS:=rE [.d tB,.d tB] iK
def iK.sg:=iK.gl iK.ok
def y8(b:List Int)(x:iG):List Int:=e8 (b++x.1.1) x.1.2.1
def zq(b:List Int)(o:lS):List Int:=e8 b o.1++(yF (JL o.2.1).length++JL o.2.1)
def qW(t:jh):List Int:=e8 (t.2.1.foldl zq (e8 (t.1.foldl y8 (e8 [] t.1.length)) t.2.1.length)) t.2.2.1
def Dr(t:jh):List Int:=if kq t then tag (bQ (⟨#[116,120]⟩:ByteArray)) [qW t] else List.replicate 32 0
def Rk(x:iG):Prop:=Sm x.1.1/\K4 x.2.1/\x.2.1.2.1.length<=9223372036854775807
def Bz(t:jh):Prop:=QP t/\(∀x∈t.1,Rk x)/\t.2.2.1<=9223372036854775807
theorem tQ:∀(l:List iG) (m:List (jm×Bool)),rU m l=true->∀x∈l,xM x=true
 |[],_,_,x,hx=>by cases hx
 |y::l,m,h,x,hx=>by
  rw[rU,ae,ae]at h
  rcases b8.1 hx with rfl | hx
  ·exact h.1.2
  ·exact tQ l _ h.2 x hx
theorem tf:∀(l:List lS) (s:Int),pV s l=true->∀o∈l,(0<=o.1/\o.1<=1125899906842624)/\oR o.2.1=true
 |[],_,_,o,ho=>by cases ho
 |y::l,s,h,o,ho=>by
  rw[pV,ae,ae]at h
  rcases b8.1 ho with rfl | ho
  ·have h1:=h.1.1
   unfold oT lq at h1
   simp only[ae,decide_eq_true_eq]at h1
   exact⟨h1.2.1,h.1.2⟩
  ·exact tf l _ h.2 o ho
theorem HU{x:iG}(h:xM x=true):0<=x.1.2.1/\x.1.2.1 < 64/\0<=x.2.1.1/\x.2.1.1 < 4/\x.2.1.2.1.length<=12:=by
 unfold xM qp at h
 simp only[ae,decide_eq_true_eq]at h
 exact⟨h.1.1,h.1.2,h.2.1.1,h.2.1.2,h.2.2⟩
theorem vM{t:jh}(h:kq t=true):(1<=t.1.length/\t.1.length<=64/\t.2.1.length<=64/\0<=t.2.2.1)/\rU [] t.1=true/\pV 0 t.2.1=true:=by
 unfold kq yW at h
 simp only[ae,decide_eq_true_eq]at h
 exact h
theorem Fk(b:List Int)(x:iG):(y8 b x).length<=b.length+x.1.1.length+11:=by
 have:=fT (b++x.1.1) x.1.2.1
 rw[au]at this
 exact this
theorem CU(b:List Int)(o:lS):(zq b o).length<=b.length+1022:=by
 have h1:=fT b o.1
 have h2:=uw (JL o.2.1).length
 have h3:=Fq o.2.1
 unfold zq
 rw[au,au]
 omega
abbrev bm.L0.D:=jh×Bs×(List iG)×Int×Int
abbrev bm.L0.Y:=Bs
abbrev bm.L0.X:=(jh)×(Bs)
def bm.L0.add:bm.L0.D->bm.L0.Y->bm.L0.X:=λ(uP,b,t13,t14,t15) y=>(uP,y)
abbrev bm.L1.D:=jh×Bs×(List lS)×Int×Int
abbrev bm.L1.Y:=Bs
abbrev bm.L1.X:=(jh)×(Bs)
def bm.L1.add:bm.L1.D->bm.L1.Y->bm.L1.X:=λ(DA,qh,t35,t36,t37) y=>(DA,y)
abbrev bm.D:=jh
abbrev bm.Y:=Bs
def bm.L0.bf:bm.L0.D->Prop:=λ(t,b,l,n,i)=>(l).length<=1000000000/\∃k:Nat,k<=(l).length/\i=k/\n=(l).length/\(l.length<=64)/\(∀x∈l,x.1.1.length=32/\x.1.2.1<=9223372036854775807)/\(b.length<=100+50*k)
def bm.L0.F:bm.L0.D->bm.L0.Y:=λ(t,b,l,n,i)=>(List.drop (Int.toNat i) l).foldl y8 b
def bm.L1.bf:bm.L1.D->Prop:=λ(t,b,l,n,i)=>(l).length<=1000000000/\∃k:Nat,k<=(l).length/\i=k/\n=(l).length/\(l.length<=64)/\(∀o∈l,o.1<=9223372036854775807/\IY o.2.1)/\(b.length<=4000+1100*k)
def bm.L1.F:bm.L1.D->bm.L1.Y:=λ(t,b,l,n,i)=>(List.drop (Int.toNat i) l).foldl zq b
def bm.bf:bm.D->Prop:=λt=>kq t=true/\Bz t
def bm.F:bm.D->bm.Y:=λt=>qW t
def bm.L0:Ls bm.L0.bf bm.L0.add bm.L0.F:=so (λ(uP,b,t13,t14,t15)=>⟨([.undef,.eW nU uP,.undef,.d tB b]++bE 9 ([.d (.slice jL) t13,.d ti t14,.d ti t15]++bE 38 [])),[],(List.replicate 54 [])⟩) (λx=>(.exit 0,⟨([.undef,.eW nU x.1,.undef,.d tB x.2]++bE 50 []),[],(List.replicate 54 [])⟩))
def bm.L1:Ls bm.L1.bf bm.L1.add bm.L1.F:=so (λ(DA,qh,t35,t36,t37)=>⟨([.undef,.eW nU DA,.undef,.d tB qh]++bE 31 ([.d (.slice lR) t35,.d ti t36,.d ti t37]++bE 16 [])),[],(List.replicate 54 [])⟩) (λx=>(.exit 2,⟨([.undef,.eW nU x.1,.undef,.d tB x.2]++bE 50 []),[],(List.replicate 54 [])⟩))
def bm:Fs Tryz.prog bm.bf bS bm.F:=fS 73 Tryz.f73 (λt=>([.d nU t],[])) (λx=>⟨.d tB x,[],[]⟩) [some nU] [fQ.sg,iW.sg,bw.sg,iK.sg] {loops:=qP [(3,{bI:=[1,3,13,14,15]}),(9,{bI:=[1,3,35,36,37]})],outs:=qO [(3,{bI:=[1,3]},{bI:=[2]}),(9,{bI:=[1,3]},{bI:=[2]})],jK:=sm [(3,bm.L0.E),(9,bm.L1.E)],res:=[some tB]}
theorem bm.L0.run:bm.L0.RS:=rL [.d nU,.d tB,.d (.slice jL),.d ti,.d ti] bm.L0
theorem bm.L0.step{R:Type}(uP b t13 t14 t15)(kn:K2 R)(kx:K3 R):bm.R 0 bm.L0 (uP,b,t13,t14,t15) kn kx=
  aO ((ju t15 t14)) (
   aO (gK t15 (t13.length:Int)) (
   aA (iW.call (b,(nth jL t13 (Int.toNat t15)).1.1)) λx1=>
   aA (fQ.call (x1,(nth jL t13 (Int.toNat t15)).1.2.1)) λx2=>
   kn (bm.L0.st (uP,x2,t13,t14,(bW .i64 t15 1)))) none) (
   bm.L0.go kx (uP,b)):=by kernel_rfl
theorem bm.L1.run:bm.L1.RS:=rL [.d nU,.d tB,.d (.slice lR),.d ti,.d ti] bm.L1
theorem bm.L1.step{R:Type}(DA qh t35 t36 t37)(kn:K2 R)(kx:K3 R):bm.R 1 bm.L1 (DA,qh,t35,t36,t37) kn kx=
  aO ((ju t37 t36)) (
   aO (gK t37 (t35.length:Int)) (
   aA (fQ.call (qh,(nth lR t35 (Int.toNat t37)).1)) λx1=>
   aA (bw.call (nth lR t35 (Int.toNat t37)).2.1) λx2=>
   aA (iK.call (x1,x2)) λx3=>
   kn (bm.L1.st (DA,x3,t35,t36,(bW .i64 t37 1)))) none) (
   bm.L1.go kx (DA,qh)):=by kernel_rfl
theorem bm.eq{R:Type}(t)(k:K1 R):bm.A t k=
 aA (fQ.call (([]:List Int),(t.1.length:Int))) λx1=>
 aA (bm.L0.call (t,x1,t.1,(t.1.length:Int),0)) λx4=>
 aA (fQ.call (x4.2,(x4.1.2.1.length:Int))) λx5=>
 aA (bm.L1.call (x4.1,x5,x4.1.2.1,(x4.1.2.1.length:Int),0)) λx9=>
 aA (fQ.call (x9.2,x9.1.2.2.1)) λI9=>
 k (bm.out I9):=by kernel_rfl
theorem bm.L0.ok:(bm.mf 0 bm.L0):=by
 refine(bm.nN 0 bm.L0) (λ(t,b,l,n,i)=>(l).length - Int.toNat i) ?_
 rintro⟨t,b,l,n,i⟩ ⟨hlen,k,hk,rfl,rfl,LC,hx,hb⟩
 have hlen:(l).length<=1000000000:=hlen
 have hk:k<=(l).length:=hk
 have LC:l.length<=64:=LC
 have hx:∀x∈l,x.1.1.length=32/\x.1.2.1<=9223372036854775807:=hx
 have hb:b.length<=100+50*k:=hb
 by_cases h:k < (l).length
 ·left
  have n1:nth jL l k=l[k]:=dR (t:=jL) h
  have hd:List.drop k l=l[k]::List.drop (k+1) l:=aB h
  refine⟨(t,(y8 b l[k]),l,((l).length:Int),((k+1:Nat):Int)),⟨hlen,k+1,by omega,rfl,rfl,LC,hx,by have:=Fk b l[k];have:=(hx _ (b6 h)).1;omega⟩,by simp only[aa];omega,?_,λkn kx=> ?_⟩
  ·simp only[bm.L0.add,bm.L0.F,aa,hd,cO]
  ·rw[bm.L0.step,bq (by omega),bM (by omega) (by omega),aa,n1]
   simp only[aj]
   have e:=hx _ (b6 h)
   have e2:(b++l[k].1.1).length=b.length+l[k].1.1.length:=au
   rw[iW.run (d:=(b,l[k].1.1)) ⟨by show b.length+l[k].1.1.length<=_;omega,e.1⟩]
   simp only[ah,bS,iW.F]
   rw[fQ.run (d:=(b++l[k].1.1,l[k].1.2.1)) ⟨by show(b++l[k].1.1).length<=_;omega,e.2⟩]
   simp only[ah,bS,fQ.F]
   rw[N.rO (by omega)]
   rfl
 ·right
  obtain rfl:k=(l).length:=by omega
  intro R kn kx
  rw[bm.L0.step,bn (by omega),aq]
  simp only[bm.L0.add,bm.L0.F,aa,bG,jB]
theorem bm.L1.ok:(bm.mf 1 bm.L1):=by
 refine(bm.nN 1 bm.L1) (λ(t,b,l,n,i)=>(l).length - Int.toNat i) ?_
 rintro⟨t,b,l,n,i⟩ ⟨hlen,k,hk,rfl,rfl,LC,hx,hb⟩
 have hlen:(l).length<=1000000000:=hlen
 have hk:k<=(l).length:=hk
 have LC:l.length<=64:=LC
 have hx:∀o∈l,o.1<=9223372036854775807/\IY o.2.1:=hx
 have hb:b.length<=4000+1100*k:=hb
 by_cases h:k < (l).length
 ·left
  have n1:nth lR l k=l[k]:=dR (t:=lR) h
  have hd:List.drop k l=l[k]::List.drop (k+1) l:=aB h
  refine⟨(t,(zq b l[k]),l,((l).length:Int),((k+1:Nat):Int)),⟨hlen,k+1,by omega,rfl,rfl,LC,hx,by have:=CU b l[k];omega⟩,by simp only[aa];omega,?_,λkn kx=> ?_⟩
  ·simp only[bm.L1.add,bm.L1.F,aa,hd,cO]
  ·rw[bm.L1.step,bq (by omega),bM (by omega) (by omega),aa,n1]
   simp only[aj]
   have e:=hx _ (b6 h)
   have e1:=fT b l[k].1
   have e2:=Fq l[k].2.1
   rw[fQ.run (d:=(b,l[k].1)) ⟨by show b.length<=_;omega,e.1⟩]
   simp only[ah,bS,fQ.F]
   rw[bw.run (d:=l[k].2.1) e.2]
   simp only[ah,bS,bw.F]
   rw[iK.run (d:=(e8 b l[k].1,JL l[k].2.1)) (by show(e8 b l[k].1).length+(JL l[k].2.1).length<=_;omega)]
   simp only[ah,bS,iK.F]
   rw[N.rO (by omega)]
   rfl
 ·right
  obtain rfl:k=(l).length:=by omega
  intro R kn kx
  rw[bm.L1.step,bn (by omega),aq]
  simp only[bm.L1.add,bm.L1.F,aa,bG,jB]
theorem A9:∀(l:List iG) (b:List Int),(∀x∈l,x.1.1.length=32)->(l.foldl y8 b).length<=b.length+43*l.length
 |[],b,_=>aw _
 |x::l,b,h=>by
  have h1:=Fk b x
  have h2:=h x aI
  have h3:=A9 l (y8 b x) λy hy=>h y (aH _ hy)
  rw[cO,aC]
  omega
theorem yt:∀(l:List lS) (b:List Int),(l.foldl zq b).length<=b.length+1022*l.length
 |[],b=>aw _
 |x::l,b=>by
  have h1:=CU b x
  have h3:=yt l (zq b x)
  rw[cO,aC]
  omega
theorem EB{t:jh}(nE:kq t=true)(hv:Bz t):(qW t).length<=70000:=by
 obtain⟨⟨_,a2,a3,_⟩,_,_⟩:=vM nE
 have h1:=A9 t.1 (e8 [] t.1.length) λx hx=>(hv.2.1 x hx).1.1
 have h2:=fT [] t.1.length
 have h3:=fT (t.1.foldl y8 (e8 [] t.1.length)) t.2.1.length
 have h4:=yt t.2.1 (e8 (t.1.foldl y8 (e8 [] t.1.length)) t.2.1.length)
 have h5:=fT (t.2.1.foldl zq (e8 (t.1.foldl y8 (e8 [] t.1.length)) t.2.1.length)) t.2.2.1
 have h0:([]:List Int).length=0:=rfl
 unfold qW
 omega
theorem bm.ok:bm.Ok:=by
 rintro t ⟨nE,hv⟩
 have hv:Bz t:=hv
 obtain⟨⟨_,a2,a3,_⟩,b1,b2⟩:=vM nE
 have h0:([]:List Int).length=0:=rfl
 have l0:=fT [] t.1.length
 have l1:=A9 t.1 (e8 [] t.1.length) λx hx=>(hv.2.1 x hx).1.1
 have l2:=fT (t.1.foldl y8 (e8 [] t.1.length)) t.2.1.length
 have l3:=yt t.2.1 (e8 (t.1.foldl y8 (e8 [] t.1.length)) t.2.1.length)
 rw[bm.eq,fQ.run (d:=([],(t.1.length:Int))) ⟨by show([]:List Int).length<=_;omega,by show(t.1.length:Int)<=_;omega⟩]
 simp only[ah,bS,fQ.F]
 rw[bm.L0.run (d:=(t,e8 [] t.1.length,t.1,t.1.length,0)) ⟨by show t.1.length<=_;omega,0,bj _,rfl,rfl,a2,λx hx=>⟨(hv.2.1 x hx).1.1,by have:=HU (tQ _ _ b1 x hx);omega⟩,by show(e8 [] t.1.length).length<=_;omega⟩]
 simp only[ah,bm.L0.add,bm.L0.F,cV,aL]
 rw[fQ.run (d:=(t.1.foldl y8 (e8 [] t.1.length),(t.2.1.length:Int))) ⟨by show(t.1.foldl y8 (e8 [] t.1.length)).length<=_;omega,by show(t.2.1.length:Int)<=_;omega⟩]
 simp only[ah,bS,fQ.F]
 rw[bm.L1.run (d:=(t,e8 (t.1.foldl y8 (e8 [] t.1.length)) t.2.1.length,t.2.1,t.2.1.length,0)) ⟨by show t.2.1.length<=_;omega,0,bj _,rfl,rfl,a3,λo ho=>⟨by have:=(tf _ _ b2 o ho).1;omega,hv.1.1 o ho⟩,by show(e8 (t.1.foldl y8 (e8 [] t.1.length)) t.2.1.length).length<=_;omega⟩]
 simp only[ah,bm.L1.add,bm.L1.F,cV,aL]
 rw[fQ.run (d:=(t.2.1.foldl zq (e8 (t.1.foldl y8 (e8 [] t.1.length)) t.2.1.length),t.2.2.1)) ⟨by show(t.2.1.foldl zq (e8 (t.1.foldl y8 (e8 [] t.1.length)) t.2.1.length)).length<=_;omega,hv.2.2⟩]
 rfl
theorem bm.run:bm.RS:=rE [.d nU] bm
def bm.sg:=bm.gl bm.ok 2 ⟨.jG bm.L0.ok,⟨.jG bm.L1.ok,trivial⟩⟩
def im(t:jh):List jm:=if kq t then t.1.map (·.1) else []
def Ie(id:List Int)(k n:Nat):List jm:=(List.range' k n).map λi:Nat=>(id,((i:Int),()))
def np(t:jh):List jm:=if kq t then Ie (Dr t) 0 t.2.1.length else []
abbrev tid.D:=jh
abbrev tid.Y:=Bs
def tid.bf:tid.D->Prop:=λt=>Bz t
def tid.F:tid.D->tid.Y:=λt=>Dr t
def tid:Fs Tryz.prog tid.bf bS tid.F:=fS 18 Tryz.f18 (λt=>([.d nU t],[])) (λx=>⟨.d tH x,[],[]⟩) [some nU] [ay.sg,bm.sg,dW.sg]
theorem tid.eq{R:Type}(t)(k:K1 R):tid.A t k=
  aA (ay.call t) λx1=>
  aO ((!x1)) (
   k (tid.out (List.replicate 32 0))) (
   aA (bm.call t) λx2=>
   aA (dW.call ((⟨#[116,120]⟩:ByteArray),[x2])) λx3=>
   k (tid.out x3)):=by kernel_rfl
theorem tid.ok:tid.Ok:=by
 intro t hv
 have hv:Bz t:=hv
 rw[tid.eq,ay.run (d:=t) hv.1]
 simp only[ah,bS,ay.F,bS,tid.F,Dr]
 cases nE:kq t
 ·rfl
 ·have hl:=EB nE hv
  rw[bm.run (d:=t) ⟨nE,hv⟩]
  simp only[cz,aq,if_true,ah,bS,bm.F]
  rw[dW.run (d:=((⟨#[116,120]⟩:ByteArray),[qW t])) (IJ (by decide) (by omega))]
  rfl
theorem tid.run:tid.RS:=rE [.d nU] tid
def tid.sg:=tid.gl tid.ok
abbrev lO.D:=(List iG)
abbrev lO.Y:=Nat×(List iG)
def lO.bf:lO.D->Prop:=λl=>l.length<=1000000
def lO.F:lO.D->lO.Y:=λl=>(l.length,l)
def lO:Fs Tryz.prog lO.bf bS lO.F:=fS 138 Tryz.f138 (λsv=>([.d (.slice jL) sv],[])) (λx=>⟨.cv (.new 0 0) 0 [] 0 0 x.1,[],[.obj 0 false (.vec 52 jL x.2)]⟩) [some (.slice jL)] [] {bk:=[5],owns:=[⟨2,[],5,38⟩]}
theorem lO.eq{R:Type}(sv)(k:K1 R):lO.A sv k=
  aO (decide (0 < (List.length sv))) (
   aO (dK (0+(List.length sv)) 80) (
   k (lO.out ((0+(List.length sv)),((List.take 0 (List.replicate 0 (((List.replicate 32 0),(0,())),((0,(([]:List Sg),(0,()))),()))))++sv)))) none) (
   nd (
    k (lO.out (0,([]:List iG)))) (
    aO (dK (0+(List.length sv)) 80) (
    k (lO.out ((0+(List.length sv)),((List.take 0 (List.replicate 0 (((List.replicate 32 0),(0,())),((0,(([]:List Sg),(0,()))),()))))++sv)))) none)):=by kernel_rfl
theorem lO.ok:lO.Ok:=by
 intro l hl
 have hl:l.length<=1000000:=hl
 have hr:dK l.length 80=true:=fN (by omega) (by omega)
 rw[lO.eq]
 simp only[aR,hr,aj,eN,aT,bS,lO.F]
 by_cases h:0 < l.length
 ·simp only[aY h,aj]
 ·have:l=[]:=aJ (by omega)
  subst this
  simp only[aZ,rH,cg (gg 0),aq]
theorem lO.run:lO.RS:=rE [.d (.slice jL)] lO
def lO.sg:=lO.gl lO.ok
abbrev hM.D:=(List lS)
abbrev hM.Y:=Nat×(List lS)
def hM.bf:hM.D->Prop:=λl=>l.length<=1000000
def hM.F:hM.D->hM.Y:=λl=>(l.length,l)
def hM:Fs Tryz.prog hM.bf bS hM.F:=fS 139 Tryz.f139 (λsv=>([.d (.slice lR) sv],[])) (λx=>⟨.cv (.new 0 0) 0 [] 0 0 x.1,[],[.obj 0 false (.vec 36 lR x.2)]⟩) [some (.slice lR)] [] {bk:=[5],owns:=[⟨2,[],5,37⟩]}
theorem hM.eq{R:Type}(sv)(k:K1 R):hM.A sv k=
  aO (decide (0 < (List.length sv))) (
   aO (dK (0+(List.length sv)) 32) (
   k (hM.out ((0+(List.length sv)),((List.take 0 (List.replicate 0 (0,((([]:List tw),()),()))))++sv)))) none) (
   nd (
    k (hM.out (0,([]:List lS)))) (
    aO (dK (0+(List.length sv)) 32) (
    k (hM.out ((0+(List.length sv)),((List.take 0 (List.replicate 0 (0,((([]:List tw),()),()))))++sv)))) none)):=by kernel_rfl
theorem hM.ok:hM.Ok:=by
 intro l hl
 have hl:l.length<=1000000:=hl
 have hr:dK l.length 32=true:=fN (by omega) (by omega)
 rw[hM.eq]
 simp only[aR,hr,aj,eN,aT,bS,hM.F]
 by_cases h:0 < l.length
 ·simp only[aY h,aj]
 ·have:l=[]:=aJ (by omega)
  subst this
  simp only[aZ,rH,cg (gg 0),aq]
theorem hM.run:hM.RS:=rE [.d (.slice lR)] hM
def hM.sg:=hM.gl hM.ok
abbrev ke.D:=(List tw)
abbrev ke.Y:=Nat×(List tw)
def ke.bf:ke.D->Prop:=λl=>l.length<=1000000
def ke.F:ke.D->ke.Y:=λl=>(l.length,l)
def ke:Fs Tryz.prog ke.bf bS ke.F:=fS 141 Tryz.f141 (λsv=>([.d (.slice o6) sv],[])) (λx=>⟨.cv (.new 0 0) 0 [] 0 0 x.1,[],[.obj 0 false (.vec 29 o6 x.2)]⟩) [some (.slice o6)] [] {bk:=[5],owns:=[⟨2,[],5,32⟩]}
theorem ke.eq{R:Type}(sv)(k:K1 R):ke.A sv k=
  aO (decide (0 < (List.length sv))) (
   aO (dK (0+(List.length sv)) 48) (
   k (ke.out ((0+(List.length sv)),((List.take 0 (List.replicate 0 (([]:List Int),(0,(0,(0,()))))))++sv)))) none) (
   nd (
    k (ke.out (0,([]:List tw)))) (
    aO (dK (0+(List.length sv)) 48) (
    k (ke.out ((0+(List.length sv)),((List.take 0 (List.replicate 0 (([]:List Int),(0,(0,(0,()))))))++sv)))) none)):=by kernel_rfl
theorem ke.ok:ke.Ok:=by
 intro l hl
 have hl:l.length<=1000000:=hl
 have hr:dK l.length 48=true:=fN (by omega) (by omega)
 rw[ke.eq]
 simp only[aR,hr,aj,eN,aT,bS,ke.F]
 by_cases h:0 < l.length
 ·simp only[aY h,aj]
 ·have:l=[]:=aJ (by omega)
  subst this
  simp only[aZ,rH,cg (gg 0),aq]
theorem ke.run:ke.RS:=rE [.d (.slice o6)] ke
def ke.sg:=ke.gl ke.ok
abbrev hZ.D:=(List Sg)
abbrev hZ.Y:=(List Sg)
def hZ.bf:hZ.D->Prop:=λl=>l.length<=1000000
def hZ.F:hZ.D->hZ.Y:=λl=>l
def hZ:Fs Tryz.prog hZ.bf bS hZ.F:=fS 140 Tryz.f140 (λsv=>([.d (.slice Hf) sv],[])) (λx=>⟨.d (.slice Hf) x,[],[]⟩) [some (.slice Hf)] [] {bk:=[5],res:=[some (.slice Hf)]}
theorem hZ.eq{R:Type}(sv)(k:K1 R):hZ.A sv k=
  aO (decide (0 < (List.length sv))) (
   aO (dK (0+(List.length sv)) 16) (
   aO (decide (0=0/\(0+(0+(List.length sv)))<=(List.length ((List.take 0 (List.replicate 0 (0,(0,()))))++sv)))) (
   k (hZ.out (cut ((List.take 0 (List.replicate 0 (0,(0,()))))++sv) 0 (0+(List.length sv))))) none) none) (
   nd (
    k (hZ.out ([]:List Sg))) (
    aO (dK (0+(List.length sv)) 16) (
    aO (decide (0=0/\(0+(0+(List.length sv)))<=(List.length ((List.take 0 (List.replicate 0 (0,(0,()))))++sv)))) (
    k (hZ.out (cut ((List.take 0 (List.replicate 0 (0,(0,()))))++sv) 0 (0+(List.length sv))))) none) none)):=by kernel_rfl
theorem hZ.ok:hZ.Ok:=by
 intro l hl
 have hl:l.length<=1000000:=hl
 have hr:dK l.length 16=true:=fN (by omega) (by omega)
 rw[hZ.eq]
 simp only[aR,hr,aj,eN,aT,aw,and_self,decide_true,gR,bS,hZ.F]
 by_cases h:0 < l.length
 ·simp only[aY h,aj]
 ·have:l=[]:=aJ (by omega)
  subst this
  simp only[aZ,rH,cg (gg 0),aq]
theorem hZ.run:hZ.RS:=rE [.d (.slice Hf)] hZ
def hZ.sg:=hZ.gl hZ.ok
abbrev aF.L0.D:=Int×Int×Nat×Nat×(Int×Unit)×(Int×Unit)×(List iG)×(List lS)
abbrev aF.L0.Y:=(List iG)
abbrev aF.L0.X:=(Nat×Nat×(Int×Unit)×(Int×Unit)×(List lS))×((List iG))
def aF.L0.add:aF.L0.D->aF.L0.Y->aF.L0.X:=λ(t17,t18,BC,ym,n1,n2,n9,n12) y=>((BC,ym,n1,n2,n12),y)
abbrev aF.L1.D:=Int×Int×Nat×Nat×(Int×Unit)×(Int×Unit)×(List iG)×(List lS)
abbrev aF.L1.Y:=Nat×Nat×(Int×Unit)×(Int×Unit)×(List iG)×(List lS)
abbrev aF.L2.D:=Int×Nat×Int×Int×Int×Int×Nat×Nat×(Int×Unit)×(Int×Unit)×(List iG)×(List lS)×(List tw)
abbrev aF.L2.Y:=(List tw)×(List tw)
abbrev aF.L2.X:=(Int×Int×Int×Nat×Nat×(Int×Unit)×(Int×Unit)×(List iG)×(List lS))×((List tw)×(List tw))
def aF.L2.add:aF.L2.D->aF.L2.Y->aF.L2.X:=λ(kv,lL,yS,yT,t51,t52,yn,yo,tc,oA,Et,yj,n49) y=>((kv,yS,yT,yn,yo,tc,oA,Et,yj),y)
abbrev aF.D:=jh
abbrev aF.Y:=Nat×((List lS)×(Int×Unit))×(List iG)
def aF.L0.bf:aF.L0.D->Prop:=λ(m,i,L,L2,u,v,l,os)=>(l.length<=1000/\∀x∈l,x.2.1.2.1.length<=1000000)/\∃k:Nat,k<=l.length/\i=k/\m=l.length/\L=l.length
def aF.L0.F:aF.L0.D->aF.L0.Y:=λ(m,i,L,L2,u,v,l,os)=>l
def aF.L2.bf:aF.L2.D->Prop:=λ(kv,L,m1,i1,m,i,L5,L6,u,v,ls,os,bs)=>(bs.length<=1000/\∀x∈bs,x.1.length<=1000000)/\∃k:Nat,k<=bs.length/\i=k/\m=bs.length/\L=bs.length
def aF.L2.F:aF.L2.D->aF.L2.Y:=λ(kv,L,m1,i1,m,i,L5,L6,u,v,ls,os,bs)=>(bs,bs)
def aF.L1.bf:aF.L1.D->Prop:=λ(m,i,L3,L,u,v,ls,os)=>(os.length<=1000/\∀x∈os,x.2.1.1.length<=1000/\∀b∈x.2.1.1,b.1.length<=1000000)/\∃k:Nat,k<=os.length/\i=k/\m=os.length/\L=os.length
def aF.L1.F:aF.L1.D->aF.L1.Y:=λ(m,i,L3,L,u,v,ls,os)=>(L3,L,u,v,ls,os)
def aF.bf:aF.D->Prop:=λt=>kq t=true
def aF.F:aF.D->aF.Y:=λt=>(t.1.length,(t.2.1,t.2.2),t.1)
def aF.L0:Ls aF.L0.bf aF.L0.add aF.L0.F:=so (λ(t17,t18,BC,ym,n1,n2,n9,n12)=>⟨([.undef,.ptr (.new 1 0) 0 [] 0,.ptr (.new 2 0) 0 [] 0]++bE 14 ([.d ti t17,.d ti t18]++bE 56 [])),[],([[],[.obj 0 false (.pr (.cv (.new 9 0) 0 [] 0 0 BC) (.pr (.cv (.new 12 0) 0 [] 0 0 ym) (.d (.pair ti .unit) n1)))],[.obj 0 false (.pr (.c6) (.pr (.c6) (.d (.pair ti .unit) n2)))]]++cS 6 ([[.obj 0 false (.vec 52 jL n9)],[],[],[.obj 0 false (.vec 36 lR n12)]]++cS 62 []))⟩) (λx=>(.exit 0,⟨([.undef,.ptr (.new 1 0) 0 [] 0,.ptr (.new 2 0) 0 [] 0]++bE 72 []),[],([[],[.obj 0 false (.pr (.cv (.new 9 0) 0 [] 0 0 x.1.1) (.pr (.cv (.new 12 0) 0 [] 0 0 x.1.2.1) (.d (.pair ti .unit) x.1.2.2.1)))],[.obj 0 false (.pr (.c6) (.pr (.c6) (.d (.pair ti .unit) x.1.2.2.2.1)))]]++cS 6 ([[.obj 0 false (.vec 52 jL x.2)],[],[],[.obj 0 false (.vec 36 lR x.1.2.2.2.2)]]++cS 62 []))⟩))
def aF.L1:Ls aF.L1.bf bS aF.L1.F:=so (λ(t38,t39,CN,Am,vy,pj,Ih,yi)=>⟨([.undef,.ptr (.new 1 0) 0 [] 0,.ptr (.new 2 0) 0 [] 0]++bE 35 ([.d ti t38,.d ti t39]++bE 35 [])),[],([[],[.obj 0 false (.pr (.cv (.new 9 0) 0 [] 0 0 CN) (.pr (.cv (.new 12 0) 0 [] 0 0 Am) (.d (.pair ti .unit) vy)))],[.obj 0 false (.pr (.c6) (.pr (.c6) (.d (.pair ti .unit) pj)))]]++cS 6 ([[.obj 0 false (.vec 52 jL Ih)],[],[],[.obj 0 false (.vec 36 lR yi)]]++cS 62 []))⟩) (λx=>(.exit 2,⟨([.undef,.ptr (.new 1 0) 0 [] 0,.ptr (.new 2 0) 0 [] 0]++bE 72 []),[],([[],[.obj 0 false (.pr (.cv (.new 9 0) 0 [] 0 0 x.1) (.pr (.cv (.new 12 0) 0 [] 0 0 x.2.1) (.d (.pair ti .unit) x.2.2.1)))],[.obj 0 false (.pr (.c6) (.pr (.c6) (.d (.pair ti .unit) x.2.2.2.1)))]]++cS 6 ([[.obj 0 false (.vec 52 jL x.2.2.2.2.1)],[],[],[.obj 0 false (.vec 36 lR x.2.2.2.2.2)]]++cS 62 []))⟩))
def aF.L2:Ls aF.L2.bf aF.L2.add aF.L2.F:=so (λ(kv,lL,yS,yT,t51,t52,yn,yo,tc,oA,Et,yj,n49)=>⟨([.undef,.ptr (.new 1 0) 0 [] 0,.ptr (.new 2 0) 0 [] 0,.undef,.d ti kv,.cv (.new 49 0) 0 [] 0 0 lL]++bE 32 ([.d ti yS,.d ti yT]++bE 11 ([.d ti t51,.d ti t52]++bE 22 []))),[],([[],[.obj 0 false (.pr (.cv (.new 9 0) 0 [] 0 0 yn) (.pr (.cv (.new 12 0) 0 [] 0 0 yo) (.d (.pair ti .unit) tc)))],[.obj 0 false (.pr (.c6) (.pr (.c6) (.d (.pair ti .unit) oA)))]]++cS 6 ([[.obj 0 false (.vec 52 jL Et)],[],[],[.obj 0 false (.vec 36 lR yj)]]++cS 36 ([[.obj 0 false (.vec 29 o6 n49)]]++cS 25 [])))⟩) (λx=>(.exit 4,⟨([.undef,.ptr (.new 1 0) 0 [] 0,.ptr (.new 2 0) 0 [] 0,.undef,.d ti x.1.1,.d (.slice o6) x.2.1]++bE 32 ([.d ti x.1.2.1,.d ti x.1.2.2.1]++bE 35 [])),[],([[],[.obj 0 false (.pr (.cv (.new 9 0) 0 [] 0 0 x.1.2.2.2.1) (.pr (.cv (.new 12 0) 0 [] 0 0 x.1.2.2.2.2.1) (.d (.pair ti .unit) x.1.2.2.2.2.2.1)))],[.obj 0 false (.pr (.c6) (.pr (.c6) (.d (.pair ti .unit) x.1.2.2.2.2.2.2.1)))]]++cS 6 ([[.obj 0 false (.vec 52 jL x.1.2.2.2.2.2.2.2.1)],[],[],[.obj 0 false (.vec 36 lR x.1.2.2.2.2.2.2.2.2)]]++cS 36 ([[.obj 0 true (.vec 29 o6 x.2.2)]]++cS 25 [])))⟩))
def aF:Fs Tryz.prog aF.bf bS aF.F:=fS 70 Tryz.f70 (λt=>([.d nU t],[])) (λx=>⟨.pr (.cv (.new 0 0) 0 [] 0 0 x.1) (.d (.pair (.slice lR) (.pair ti .unit)) x.2.1),[],[.obj 0 false (.vec 52 jL x.2.2)]⟩) [some nU] [lO.sg,hM.sg,hZ.sg,ke.sg,ez.sg] {bk:=[1],loops:=qP [(3,{bI:=[1,2,17,18],sites:=[1,2,9,12]}),(8,{bI:=[1,2,38,39],sites:=[1,2,9,12]}),(12,{bI:=[1,2,4,5,38,39,51,52],sites:=[1,2,9,12,49]})],outs:=qO [(3,{bI:=[1,2],sites:=[1,2,9,12]},{bI:=[2]}),(8,{bI:=[1,2],sites:=[1,2,9,12]},{bI:=[2]}),(12,{bI:=[1,2,4,5,38,39],sites:=[1,2,9,12,49],data:=[(5,(.slice o6))]},{bI:=[2]})],jK:=sm [(3,aF.L0.E),(8,aF.L1.E),(12,aF.L2.E)],DY:=[⟨2,[.snd,.fst],(.slice lR)⟩]}
theorem aF.L0.run:aF.L0.RS:=rL [.d ti,.d ti,.n,.n,.d (.pair ti .unit),.d (.pair ti .unit),.d (.slice jL),.d (.slice lR)] aF.L0
theorem aF.L0.step{R:Type}(t17 t18 BC ym n1 n2 n9 n12)(kn:K2 R)(kx:K3 R):aF.R 0 aF.L0 (t17,t18,BC,ym,n1,n2,n9,n12) kn kx=
  aO ((ju t18 t17)) (
   aO (gK t18 ((BC:Nat):Int)) (
   aO (decide ((0+(Int.toNat t18)) < (List.length n9))) (
   aO (decide ((((0+(Int.toNat t18))*36)+34)=(((0+((Int.toNat t18)*36))+33)+1))) (
   aA (hZ.call (nth jL n9 (0+(Int.toNat t18))).2.1.2.1) λx1=>
   aO (gK t18 ((BC:Nat):Int)) (
   aO (decide ((0+(Int.toNat t18)) < (List.length n9))) (
   aO (decide ((((0+(Int.toNat t18))*36)+34)=(((0+((Int.toNat t18)*36))+33)+1))) (
   aO (decide ((0+(Int.toNat t18)) < (List.length n9))) (
   kn (aF.L0.st (t17,(bW .i64 t18 1),BC,ym,n1,n2,(List.set n9 (0+(Int.toNat t18)) ((nth jL n9 (0+(Int.toNat t18))).1,(((nth jL n9 (0+(Int.toNat t18))).2.1.1,(x1,(nth jL n9 (0+(Int.toNat t18))).2.1.2.2)),(nth jL n9 (0+(Int.toNat t18))).2.2))),n12))) none) none) none) none) none) none) none) (
   aF.L0.go kx ((BC,ym,n1,n2,n12),n9)):=by kernel_rfl
theorem aF.L1.run:aF.L1.RS:=rL [.d ti,.d ti,.n,.n,.d (.pair ti .unit),.d (.pair ti .unit),.d (.slice jL),.d (.slice lR)] aF.L1
theorem aF.L1.step{R:Type}(t38 t39 CN Am vy pj Ih yi)(kn:K2 R)(kx:K3 R):aF.R 1 aF.L1 (t38,t39,CN,Am,vy,pj,Ih,yi) kn kx=
  aO ((ju t39 t38)) (
   aO (gK t39 ((Am:Nat):Int)) (
   aO (decide ((0+(Int.toNat t39)) < (List.length yi))) (
   aO (decide ((((0+(Int.toNat t39))*2)+1)=(((0+((Int.toNat t39)*2))+1)+0))) (
   aA (ke.call (nth lR yi (0+(Int.toNat t39))).2.1.1) λx1=>
   aA (aF.L2.call (t39,x1.1,t38,t39,((x1.1:Nat):Int),0,CN,Am,vy,pj,Ih,yi,x1.2)) λx2=>
   aO (gK x2.1.1 ((x2.1.2.2.2.2.1:Nat):Int)) (
   aO (decide ((0+(Int.toNat x2.1.1)) < (List.length x2.1.2.2.2.2.2.2.2.2))) (
   aO (decide ((((0+(Int.toNat x2.1.1))*2)+1)=(((0+((Int.toNat x2.1.1)*2))+1)+0))) (
   aO (decide ((0+(Int.toNat x2.1.1)) < (List.length x2.1.2.2.2.2.2.2.2.2))) (
   kn (aF.L1.st (x2.1.2.1,(bW .i64 x2.1.2.2.1 1),x2.1.2.2.2.1,x2.1.2.2.2.2.1,x2.1.2.2.2.2.2.1,x2.1.2.2.2.2.2.2.1,x2.1.2.2.2.2.2.2.2.1,(List.set x2.1.2.2.2.2.2.2.2.2 (0+(Int.toNat x2.1.1)) ((nth lR x2.1.2.2.2.2.2.2.2.2 (0+(Int.toNat x2.1.1))).1,((x2.2.1,(nth lR x2.1.2.2.2.2.2.2.2.2 (0+(Int.toNat x2.1.1))).2.1.2),(nth lR x2.1.2.2.2.2.2.2.2.2 (0+(Int.toNat x2.1.1))).2.2)))))) none) none) none) none) none) none) none) (
   aF.L1.go kx (CN,Am,vy,pj,Ih,yi)):=by kernel_rfl
theorem aF.L2.run:aF.L2.RS:=rL [.d ti,.n,.d ti,.d ti,.d ti,.d ti,.n,.n,.d (.pair ti .unit),.d (.pair ti .unit),.d (.slice jL),.d (.slice lR),.d (.slice o6)] aF.L2
theorem aF.L2.step{R:Type}(kv lL yS yT t51 t52 yn yo tc oA Et yj n49)(kn:K2 R)(kx:K3 R):aF.R 2 aF.L2 (kv,lL,yS,yT,t51,t52,yn,yo,tc,oA,Et,yj,n49) kn kx=
  aO ((ju t52 t51)) (
   aO (gK t52 ((lL:Nat):Int)) (
   aO (decide ((0+(Int.toNat t52)) < (List.length n49))) (
   aO (decide ((((0+(Int.toNat t52))*4)+0)=((0+((Int.toNat t52)*4))+0))) (
   aA (ez.call (nth o6 n49 (0+(Int.toNat t52))).1) λx1=>
   aO (gK t52 ((lL:Nat):Int)) (
   aO (decide ((0+(Int.toNat t52)) < (List.length n49))) (
   aO (decide ((((0+(Int.toNat t52))*4)+0)=((0+((Int.toNat t52)*4))+0))) (
   aO (decide ((0+(Int.toNat t52)) < (List.length n49))) (
   kn (aF.L2.st (kv,lL,yS,yT,t51,(bW .i64 t52 1),yn,yo,tc,oA,Et,yj,(List.set n49 (0+(Int.toNat t52)) (x1,(nth o6 n49 (0+(Int.toNat t52))).2))))) none) none) none) none) none) none) none) (
   aO (decide (0=0/\(0+lL)<=(List.length n49))) (
   aF.L2.go kx ((kv,yS,yT,yn,yo,tc,oA,Et,yj),((cut n49 0 lL),n49))) none):=by kernel_rfl
theorem aF.eq{R:Type}(t)(k:K1 R):aF.A t k=
 aA (lO.call t.1) λx1=>
 aA (hM.call t.2.1) λx2=>
 aA (aF.L0.call (((x1.1:Nat):Int),0,x1.1,x2.1,t.2.2,(0,()),x1.2,x2.2)) λx4=>
 aA (aF.L1.call (((x4.1.2.1:Nat):Int),0,x4.1.1,x4.1.2.1,x4.1.2.2.1,x4.1.2.2.2.1,x4.2,x4.1.2.2.2.2)) λx8=>
 aO (decide (0=0/\(0+x8.2.1)<=(List.length x8.2.2.2.2.2))) (
 k (aF.out (x8.1,((cut x8.2.2.2.2.2 0 x8.2.1),x8.2.2.1),x8.2.2.2.2.1))) none:=by kernel_rfl
theorem aF.L0.ok:(aF.mf 0 aF.L0):=by
 refine(aF.nN 0 aF.L0) (λ(m,i,L,L2,u,v,l,os)=>l.length - Int.toNat i) ?_
 rintro⟨m,i,L,L2,u,v,l,os⟩ ⟨⟨hlen,hx⟩,k,hk,rfl,rfl,rfl⟩
 have hlen:l.length<=1000:=hlen
 have hk:k<=l.length:=hk
 by_cases h:k < l.length
 ·left
  have n1:nth jL l k=l[k]:=dR (t:=jL) h
  have hs:l.set k l[k]=l:=eK h
  have e:=hx _ (b6 h)
  refine⟨((l.length:Int),((k+1:Nat):Int),l.length,L2,u,v,l,os),⟨⟨hlen,hx⟩,k+1,by omega,rfl,rfl,rfl⟩,by simp only[aa];omega,rfl,λkn kx=> ?_⟩
  rw[aF.L0.step,bq (by omega),bM (by omega) (by omega)]
  simp only[aa,aR,ct,dB,Nat.reduceAdd,aj,aY h,decide_true,n1]
  rw[hZ.run (d:=l[k].2.1.2.1) e]
  simp only[ah,bS,hZ.F]
  rw[N.rO (by omega)]
  exact congrArg (λz=>kn (aF.L0.st (_,_,_,_,_,_,z,_))) hs
 ·right
  obtain rfl:k=l.length:=by omega
  intro R kn kx
  rw[aF.L0.step,bn (by omega),aq]
  rfl
theorem aF.L2.ok:(aF.mf 2 aF.L2):=by
 refine(aF.nN 2 aF.L2) (λ(kv,L,m1,i1,m,i,L5,L6,u,v,ls,os,bs)=>bs.length - Int.toNat i) ?_
 rintro⟨kv,L,m1,i1,m,i,L5,L6,u,v,ls,os,bs⟩ ⟨⟨hlen,hx⟩,k,hk,rfl,rfl,rfl⟩
 have hlen:bs.length<=1000:=hlen
 have hk:k<=bs.length:=hk
 by_cases h:k < bs.length
 ·left
  have n1:nth o6 bs k=bs[k]:=dR (t:=o6) h
  have hs:bs.set k bs[k]=bs:=eK h
  have e:=hx _ (b6 h)
  refine⟨(kv,bs.length,m1,i1,(bs.length:Int),((k+1:Nat):Int),L5,L6,u,v,ls,os,bs),⟨⟨hlen,hx⟩,k+1,by omega,rfl,rfl,rfl⟩,by simp only[aa];omega,rfl,λkn kx=> ?_⟩
  rw[aF.L2.step,bq (by omega),bM (by omega) (by omega)]
  simp only[aa,aR,ct,dB,Nat.reduceAdd,aj,aY h,decide_true,n1]
  rw[ez.run (d:=bs[k].1) e]
  simp only[ah,bS,ez.F]
  rw[N.rO (by omega)]
  exact congrArg (λz=>kn (aF.L2.st (_,_,_,_,_,_,_,_,_,_,_,_,z))) hs
 ·right
  obtain rfl:k=bs.length:=by omega
  intro R kn kx
  rw[aF.L2.step,bn (by omega),aq]
  simp only[aR,aw,and_self,decide_true,aj,gR]
  rfl
theorem aF.L1.ok:(aF.mf 1 aF.L1):=by
 refine(aF.nN 1 aF.L1) (λ(m,i,L3,L,u,v,ls,os)=>os.length - Int.toNat i) ?_
 rintro⟨m,i,L3,L,u,v,ls,os⟩ ⟨⟨hlen,hx⟩,k,hk,rfl,rfl,rfl⟩
 have hlen:os.length<=1000:=hlen
 have hk:k<=os.length:=hk
 by_cases h:k < os.length
 ·left
  have n1:nth lR os k=os[k]:=dR (t:=lR) h
  have hs:os.set k os[k]=os:=eK h
  have e:=hx _ (b6 h)
  refine⟨((os.length:Int),((k+1:Nat):Int),L3,os.length,u,v,ls,os),⟨⟨hlen,hx⟩,k+1,by omega,rfl,rfl,rfl⟩,by simp only[aa];omega,rfl,λkn kx=> ?_⟩
  rw[aF.L1.step,bq (by omega),bM (by omega) (by omega)]
  simp only[aa,aR,ct,dB,Nat.reduceAdd,aj,aY h,decide_true,n1]
  rw[ke.run (d:=os[k].2.1.1) (by show os[k].2.1.1.length<=_;have:=e.1;omega)]
  simp only[ah,bS,ke.F]
  rw[aF.L2.run (d:=((k:Int),os[k].2.1.1.length,(os.length:Int),(k:Int),(os[k].2.1.1.length:Int),0,L3,os.length,u,v,ls,os,os[k].2.1.1)) ⟨e,0,bj _,rfl,rfl,rfl⟩]
  simp only[ah,aF.L2.add,aF.L2.F,aa,n1,aj,aY h,bM (show(0:Int)<=(k:Int) by omega) (show(k:Int) < (os.length:Int) by omega)]
  rw[N.rO (by omega)]
  exact congrArg (λz=>kn (aF.L1.st (_,_,_,_,_,_,_,z))) hs
 ·right
  obtain rfl:k=os.length:=by omega
  intro R kn kx
  rw[aF.L1.step,bn (by omega),aq]
  rfl
theorem H9{l:Lk}(h:oR l=true):l.1.length<=4/\∀b∈l.1,b.1.length<=12:=by
 unfold oR at h
 simp only[ae,cG,decide_eq_true_eq]at h
 refine⟨h.2.2,λb hb=> ?_⟩
 have:=h.1 b hb
 unfold sH at this
 simp only[ae,decide_eq_true_eq]at this
 exact this.1
theorem aF.ok:aF.Ok:=by
 rintro⟨is,os,nt,u⟩ nE
 obtain⟨⟨_,a2,a3,_⟩,b1,b2⟩:=vM nE
 have a2:is.length<=64:=a2
 have a3:os.length<=64:=a3
 rw[aF.eq,lO.run (d:=is) (by show is.length<=_;omega),hM.run (d:=os) (by show os.length<=_;omega)]
 simp only[ah,bS,lO.F,bS,hM.F]
 rw[aF.L0.run (d:=(is.length,0,is.length,os.length,(nt,u),(0,()),is,os)) ⟨⟨by show is.length<=_;omega,λx hx=>by have:=(HU (tQ _ _ b1 x hx)).2.2.2.2;omega⟩,0,bj _,rfl,rfl,rfl⟩]
 simp only[ah,aF.L0.add,aF.L0.F]
 rw[aF.L1.run (d:=(os.length,0,is.length,os.length,(nt,u),(0,()),is,os)) ⟨⟨by show os.length<=_;omega,λx hx=>by
  have:=H9 (tf _ _ b2 x hx).2
  exact⟨by omega,λb hb=>by have:=this.2 b hb;omega⟩⟩,0,bj _,rfl,rfl,rfl⟩]
 simp only[ah,bS,aF.L1.F,aR,aw,and_self,decide_true,aj,gR]
 rfl
theorem aF.run:aF.RS:=rE [.d nU] aF
def aF.sg:=aF.gl aF.ok 3 ⟨.jG aF.L0.ok,⟨.jG aF.L1.ok,⟨.jG aF.L2.ok,trivial⟩⟩⟩
def vg{α:Type}(p:α->Bool):List α->Int->Int⊕Unit
 |[],_=> .inr ()
 |x::xs,i=>if p x then .inl i else vg p xs (i+1)
def Gl{α:Type}(p:α->Bool)(l:List α):Int:=match vg p l 0 with | .inl i=>i | .inr _=> -1
theorem Cs{α:Type}(p:α->Bool):∀(l:List α) (i:Int),0<=i->(match vg p l i with | .inl i=>decide (i>=0) | .inr _=>false)=l.any p
 |[],_,_=>rfl
 |x::l,i,h=>by
  rw[vg,List.any_cons]
  cases hp:p x
  ·simp only[bN,if_false,Bool.false_or]
   exact Cs p l (i+1) (by omega)
  ·simp[h]
theorem Cr{α:Type}(p:α->Bool)(l:List α):pN (Gl p l) 0=l.any p:=by
 have:=Cs p l 0 (by omega)
 unfold Gl pN
 cases h:vg p l 0
 ·rw[h]at this;exact this
 ·rw[h]at this;rw[<-this];rfl
def tD(k:Int):Bool:=decide (¬(k < 2305843009213688669/\k≠0))
def oG(t:jh)(i br:Int)(ks:List Int):Bool:=kq t && (decide (0<=i/\i < t.1.length/\0<=br/\br < 4/\ks.length<=12) && !(ks.any tD))
def nq(t:jh)(i br:Int)(ks:List Int)(sc:Int):jh×Int:=
 if oG t i br ks then((t.1.set i.toNat ((nth jL t.1 i.toNat).1,(br,ks.map (λk=>qo k (Dr t)),sc,()),()),t.2),0) else(([],[],0,()),1)
theorem My{t:jh}:Sm (Dr t):=by
 unfold Dr
 split
 ·exact EK _ _
 ·exact⟨by rw[cd],λx hx=>by obtain rfl:=(List.mem_replicate.1 hx).2;exact⟨by decide,by decide⟩⟩
abbrev iN.D:=Int
abbrev iN.Y:=Bool
def iN.bf:iN.D->Prop:=λ_=>True
def iN.F:iN.D->iN.Y:=λk=>tD k
def iN:Fs Tryz.prog iN.bf bS iN.F:=fS 64 Tryz.f64 (λkv=>([.d tu kv],[])) (λx=>⟨.d .bool x,[],[]⟩) [some tu] [eB.sg]
theorem iN.eq{R:Type}(kv)(k:K1 R):iN.A kv k=
  aO ((Ac kv 0)) (
   k (iN.out true)) (
   aA (eB.call kv) λx1=>
   k (iN.out (!x1))):=by kernel_rfl
theorem iN.ok:iN.Ok:=by
 intro(k:Int) _
 rw[iN.eq,eB.run (d:=k) trivial]
 simp only[bS,iN.F,tD,ah,bS,eB.F]
 by_cases h:k=0
 ·rw[ja h,aj,aY (by omega)]
 ·rw[gP h,aq]
  by_cases h2:k < 2305843009213688669
  ·rw[bq h2,cg (by omega)];rfl
  ·rw[bn h2,aY (by omega)];rfl
theorem iN.run:iN.RS:=rE [.d tu] iN
def iN.sg:=iN.gl iN.ok
abbrev aV.L0.D:=Bs×Int×Int
def aV.L0.st:aV.L0.D->AS:=λ(mR,t7,t8)=>⟨([.d tU mR,.fn 64 (.nil)]++bE 5 ([.d ti t7,.d ti t8]++bE 10 [])),[],(List.replicate 19 [])⟩
abbrev aV.L0.Y0:=Int
abbrev aV.L0.X0:=Int
def aV.L0.eR:aV.L0.X0->Exit×AS:=λx=>(.ret,⟨(bE 4 ([.d ti x]++bE 14 [])),[],(List.replicate 19 [])⟩)
abbrev aV.L0.Y1:=Unit
abbrev aV.L0.X1:=Unit
def aV.L0.iZ:aV.L0.X1->Exit×AS:=λx=>(.exit 0,⟨(bE 19 []),[],(List.replicate 19 [])⟩)
abbrev aV.L0.X:=(aV.L0.X0)⊕(aV.L0.X1)
abbrev aV.L0.Y:=(aV.L0.Y0)⊕(aV.L0.Y1)
def aV.L0.out:aV.L0.X->Out (Exit×AS):=λx=> .br x.isLeft (.get x.getLeft? λa=> .ok (aV.L0.eR a)) (.get x.getRight? λb=> .ok (aV.L0.iZ b))
def aV.L0.add:aV.L0.D->aV.L0.Y->aV.L0.X:=λ(mR,t7,t8) y=>match y with | .inl y=> .inl y | .inr z=> .inr (z)
abbrev aV.D:=Bs
abbrev aV.Y:=Int
def aV.L0.bf:aV.L0.D->Prop:=λ(l,n,i)=>(∀x∈l,True)/\l.length<=1000000000/\n=l.length/\∃k:Nat,k<=l.length/\i=k
def aV.L0.F:aV.L0.D->aV.L0.Y:=λ(l,n,i)=>vg tD (l.drop i.toNat) i
def aV.bf:aV.D->Prop:=λl=>(∀x∈l,True)/\l.length<=1000000000
def aV.F:aV.D->aV.Y:=λl=>Gl tD l
def aV.L0.E:=eS.jG aV.L0.st aV.L0.bf aV.L0.add aV.L0.F aV.L0.out
def aV.L0.call:aV.L0.D->Option aV.L0.X:=mz aV.L0.E aV.L0.st
def aV:Fs Tryz.prog aV.bf bS aV.F:=fS 133 Tryz.f133 (λsv=>([.d tU sv,.fn 64 (.nil)],[])) (λx=>⟨.d ti x,[],[]⟩) [some tU,none] [iN.sg] {loops:=qP [(2,{bI:=[0,1,7,8]})],outs:=qO [(2,{},{bI:=[4]})],jK:=sm [(2,aV.L0.E)]}
def aV.L0.R:= @jC Tryz.prog (oO aV.G) aV.an 0 Tryz.f133 0 _ aV.L0.st
abbrev aV.L0.Ok:=qq Tryz.prog (oO aV.G) aV.an 0 Tryz.f133 0 aV.L0.st aV.L0.bf aV.L0.add aV.L0.F aV.L0.out
theorem aV.L0.run:o9 aV.L0.call aV.L0.bf aV.L0.add aV.L0.F:=rW (rT [.d tU,.d ti,.d ti] λ_=>by kernel_rfl)
theorem aV.L0.dA:rM @aV.L0.R aV.L0.st aV.L0.bf aV.L0.add aV.L0.F aV.L0.out aV.L0.Ok:=sI
theorem aV.L0.step{R:Type}(mR:Bs)(t7:Int)(t8:Int)(kn:AS->Option R)(kx:Exit->AS->Option R):aV.L0.R (mR,t7,t8) kn kx=
  aO ((ju t8 t7)) (
   aO (gK t8 (((List.length mR):Nat):Int)) (
   aA (iN.call (nth tu mR (Int.toNat t8))) λx1=>
   aO (x1) (
    kx (aV.L0.eR t8).1 (aV.L0.eR t8).2) (
    kn (aV.L0.st (mR,t7,(bW .i64 t8 (1:Int)))))) none) (
   kx (aV.L0.iZ ()).1 (aV.L0.iZ ()).2):=by kernel_rfl
theorem aV.eq{R:Type}(sv)(k:K1 R):aV.A sv k=
  aA (aV.L0.call (sv,(sv.length:Int),0)) λx2=>
  aO (x2.isLeft) (
   aA (x2.getLeft?) λa3=>
   k (aV.out a3)) (
   aA (x2.getRight?) λb4=>
   k (aV.out (-1))):=by kernel_rfl
theorem aV.L0.ok:aV.L0.Ok:=by
 refine aV.L0.dA (λ(l,n,i)=>l.length - i.toNat) ?_
 rintro⟨l,n,i⟩ ⟨hl,hb,rfl,k,hk,rfl⟩
 have hb:l.length<=1000000000:=hb
 have hk:k<=l.length:=hk
 by_cases h:k < l.length
 ·have hx:=hl _ (b6 h)
  have n1:nth tu l k=l[k]:=dR (t:=tu) h
  have hd:vg tD (l.drop k) k=if tD l[k] then .inl (k:Int) else vg tD (l.drop (k+1)) ((k+1:Nat):Int):=by rw[aB h];rfl
  have step:∀ {R:Type} (kn:AS->Option R) (kx:Exit->AS->Option R),aV.L0.R (l,(l.length:Int),(k:Int)) kn kx=aO (tD l[k]) (kx (aV.L0.eR (k:Int)).1 (aV.L0.eR (k:Int)).2) (kn (aV.L0.st (l,(l.length:Int),((k+1:Nat):Int)))):=by
   intro R kn kx
   rw[aV.L0.step,bq (by omega),bM (by omega) (by omega),aa,n1,iN.run (d:=l[k]) hx,N.rO (by omega)]
   rfl
  cases hp:tD l[k]
  ·left
   refine⟨(l,l.length,((k+1:Nat):Int)),⟨hl,hb,rfl,k+1,by omega,rfl⟩,by simp only[aa];omega,?_,λkn kx=> ?_⟩
   ·simp only[aV.L0.add,aV.L0.F,aa,hd,hp,bN,if_false]
   ·rw[step,hp,aq]
  ·right
   refine⟨aV.L0.eR (k:Int),?_,λkn kx=> ?_⟩
   ·simp only[aV.L0.add,aV.L0.F,aa,hd,hp,if_true]
    rfl
   ·rw[step,hp,aj]
 ·right
  obtain rfl:k=l.length:=by omega
  refine⟨aV.L0.iZ (),?_,λkn kx=> ?_⟩
  ·simp only[aV.L0.add,aV.L0.F,aa,bG]
   rfl
  ·rw[aV.L0.step,bn (by omega),aq]
theorem aV.ok:aV.Ok:=by
 rintro l ⟨hl,hb⟩
 rw[aV.eq,aV.L0.run (d:=(l,l.length,0)) ⟨hl,hb,rfl,0,by omega,rfl⟩]
 simp only[ah,aV.L0.add,aV.L0.F,cV,aL,bS,aV.F,Gl]
 cases vg tD l 0 <;> rfl
theorem aV.run:aV.RS:=rE [.d tU] aV
def aV.sg:=aV.gl aV.ok 1 ⟨.jG aV.L0.ok,trivial⟩
abbrev dy.D:=Bs
abbrev dy.Y:=Bool
def dy.bf:dy.D->Prop:=λl=>(∀x∈l,True)/\l.length<=1000000000
def dy.F:dy.D->dy.Y:=λl=>l.any tD
def dy:Fs Tryz.prog dy.bf bS dy.F:=fS 68 Tryz.f68 (λsv=>([.d tU sv,.fn 64 (.nil)],[])) (λx=>⟨.d .bool x,[],[]⟩) [some tU,none] [aV.sg]
theorem dy.eq{R:Type}(sv)(k:K1 R):dy.A sv k=
 aA (aV.call sv) λx1=>
 k (dy.out (pN x1 0)):=by kernel_rfl
theorem dy.ok:dy.Ok:=by
 rintro l ⟨hl,hb⟩
 rw[dy.eq,aV.run (d:=l) ⟨hl,hb⟩]
 simp only[ah,bS,aV.F,Cr]
 rfl
theorem dy.run:dy.RS:=rE [.d tU] dy
def dy.sg:=dy.gl dy.ok
abbrev cY.L0.D:=Int×Bs×Int×Int×jh×(Int×Unit)×Int×Nat×(Int×Unit)×Bs×(List Sg)
abbrev cY.L0.Y:=DI×(List Sg)
abbrev cY.L0.X:=(Int×jh×(Int×Unit))×(DI×(List Sg))
def cY.L0.add:cY.L0.D->cY.L0.Y->cY.L0.X:=λ(xQ,t52,t53,t54,n5,n10,n13,zn,Al,n14,JP) y=>((xQ,n5,n10),y)
abbrev cY.D:=jh×Int×Int×Bs×Int
abbrev cY.Y:=jh×Int
def cY.L0.bf:cY.L0.D->Prop:=λ(i0,l,n,i,t,e,br,L,sc,id,r)=>l.length<=1000/\(∀x∈l,ku x)/\Sm id/\∃k:Nat,k<=l.length/\i=k/\n=l.length/\L=r.length/\r.length<=1000+k
def cY.L0.F:cY.L0.D->cY.L0.Y:=λ(i0,l,n,i,t,e,br,L,sc,id,r)=>((br,r++(l.drop i.toNat).map (λk=>qo k id),sc),r++(l.drop i.toNat).map (λk=>qo k id))
def cY.bf:cY.D->Prop:=λ(t,i,br,ks,sc)=>Bz t/\(∀x∈ks,ku x)/\ks.length<=1000000000
def cY.F:cY.D->cY.Y:=λ(t,i,br,ks,sc)=>nq t i br ks sc
def cY.L0:Ls cY.L0.bf cY.L0.add cY.L0.F:=so (λ(xQ,t52,t53,t54,n5,n10,n13,zn,Al,n14,JP)=>⟨([.undef,.d ti xQ,.undef,.undef,.undef,.ptr (.new 5 0) 0 [] 0]++bE 4 ([.ptr (.new 10 0) 0 [] 0,.undef,.undef,.ptr (.new 13 0) 0 [] 0,.ptr (.new 14 0) 0 [] 0]++bE 37 ([.d tU t52,.d ti t53,.d ti t54]++bE 21 []))),[],(cS 5 ([[.obj 0 false (.d nU n5)]]++cS 4 ([[.obj 0 false (.pr (.c6) (.pr (.c6) (.d (.pair ti .unit) n10)))],[],[],[.obj 0 false (.pr (.d ti n13) (.pr (.cv (.new 64 0) 0 [] 0 0 zn) (.d (.pair tu .unit) Al)))],[.obj 0 false (.d tH n14)]]++cS 49 ([[.obj 0 false (.vec 135 Hf JP)]]++cS 11 []))))⟩) (λx=>(.exit 0,⟨([.undef,.d ti x.1.1,.undef,.undef,.undef,.ptr (.new 5 0) 0 [] 0]++bE 4 ([.ptr (.new 10 0) 0 [] 0,.undef,.undef,.ptr (.new 13 0) 0 [] 0]++bE 62 [])),[],(cS 5 ([[.obj 0 false (.d nU x.1.2.1)]]++cS 4 ([[.obj 0 false (.pr (.c6) (.pr (.c6) (.d (.pair ti .unit) x.1.2.2)))],[],[],[.obj 0 false (.d Oy x.2.1)]]++cS 50 ([[.obj 0 true (.vec 135 Hf x.2.2)]]++cS 11 []))))⟩))
def cY:Fs Tryz.prog cY.bf bS cY.F:=fS 16 Tryz.f16 (λ(t,inv,branch,keys,secret)=>([.d nU t,.d ti inv,.d ti branch,.d tU keys,.d tu secret],[])) (λx=>⟨.cons (.d nU x.1) (.cons (.d ti x.2) (.nil)),[],[]⟩) [some nU,some ti,some ti,some tU,some tu] [ay.sg,ko.sg,dy.sg,tid.sg,iC.sg,aF.sg] {bk:=[5],loops:=qP [(7,{bI:=[1,5,10,13,14,52,53,54],sites:=[5,10,13,14,64],owns:=[⟨13,[.snd,.fst],64,48⟩]})],outs:=qO [(7,{bI:=[1,5,10,13],sites:=[5,10,13,64],DY:=[⟨13,[.snd,.fst],(.slice Hf)⟩]},{bI:=[10,11]})],jK:=sm [(7,cY.L0.E)],res:=[some nU,none]}
theorem cY.L0.run:cY.L0.RS:=rL [.d ti,.d tU,.d ti,.d ti,.d nU,.d (.pair ti .unit),.d ti,.n,.d (.pair tu .unit),.d tB,.d (.slice Hf)] cY.L0
theorem cY.L0.step{R:Type}(xQ t52 t53 t54 n5 n10 n13 zn Al n14 JP)(kn:K2 R)(kx:K3 R):cY.R 0 cY.L0 (xQ,t52,t53,t54,n5,n10,n13,zn,Al,n14,JP) kn kx=
  aO ((ju t54 t53)) (
   aO (gK t54 (t52.length:Int)) (
   aA (iC.call ((nth tu t52 (Int.toNat t54)),n14)) λx4=>
   aO (decide (zn<=(List.length JP))) (
   aO (dK (zn+1) 16) (
   kn (cY.L0.st (xQ,t52,t53,(bW .i64 t54 1),n5,n10,n13,(zn+1),Al,n14,((List.take zn JP)++ [x4])))) none) none) none) (
   aO (decide (0=0/\(0+zn)<=(List.length JP))) (
   cY.L0.go kx ((xQ,n5,n10),((n13,((cut JP 0 zn),Al)),JP))) none):=by kernel_rfl
theorem cY.eq{R:Type}(t inv branch keys secret)(k:K1 R):cY.A (t,inv,branch,keys,secret) k=
  aA (ay.call t) λI9=>
  aO ((!I9)) (
   k (cY.out ((([]:List iG),(([]:List lS),(0,()))),1))) (
   aO ((ju inv 0)) (
    k (cY.out ((([]:List iG),(([]:List lS),(0,()))),1))) (
    aO ((pN inv (t.1.length:Int))) (
     k (cY.out ((([]:List iG),(([]:List lS),(0,()))),1))) (
     aA (ko.call (branch,(([]:List Sg),(secret,())))) λSl=>
     aO ((!Sl)) (
      k (cY.out ((([]:List iG),(([]:List lS),(0,()))),1))) (
      aO ((pv (keys.length:Int) 12)) (
       k (cY.out ((([]:List iG),(([]:List lS),(0,()))),1))) (
       aA (dy.call keys) λIW=>
       aO (IW) (
        k (cY.out ((([]:List iG),(([]:List lS),(0,()))),1))) (
        aA (tid.call t) λHg=>
        aA (cY.L0.call (inv,keys,(keys.length:Int),0,t,(0,()),branch,0,(secret,()),Hg,([]:List Sg))) λAF=>
        aA (aF.call AF.1.2.1) λDB=>
        aO (gK AF.1.1 ((DB.1:Nat):Int)) (
        aO (decide ((0+(Int.toNat AF.1.1)) < (List.length DB.2.2))) (
        aO (decide ((((0+(Int.toNat AF.1.1))*36)+33)=((0+((Int.toNat AF.1.1)*36))+33))) (
        aO (decide ((0+(Int.toNat AF.1.1)) < (List.length DB.2.2))) (
        aO (decide (0=0/\(0+DB.1)<=(List.length (List.set DB.2.2 (0+(Int.toNat AF.1.1)) ((nth jL DB.2.2 (0+(Int.toNat AF.1.1))).1,(AF.2.1,(nth jL DB.2.2 (0+(Int.toNat AF.1.1))).2.2)))))) (
        k (cY.out (((cut (List.set DB.2.2 (0+(Int.toNat AF.1.1)) ((nth jL DB.2.2 (0+(Int.toNat AF.1.1))).1,(AF.2.1,(nth jL DB.2.2 (0+(Int.toNat AF.1.1))).2.2))) 0 DB.1),DB.2.1),0))) none) none) none) none) none)))))):=by kernel_rfl
theorem cY.L0.ok:(cY.mf 0 cY.L0):=by
 refine(cY.nN 0 cY.L0) (λ(i0,l,n,i,t,e,br,L,sc,id,r)=>l.length - i.toNat) ?_
 rintro⟨i0,l,n,i,t,e,br,L,sc,id,r⟩ ⟨hlen,hu,hm,k,hk,rfl,rfl,rfl,hr⟩
 have hlen:l.length<=1000:=hlen
 have hk:k<=l.length:=hk
 have hr:r.length<=1000+k:=hr
 by_cases h:k < l.length
 ·left
  have n1:nth tu l k=l[k]:=dR (t:=tu) h
  have hd:List.drop k l=l[k]::List.drop (k+1) l:=aB h
  refine⟨(i0,l,l.length,((k+1:Nat):Int),t,e,br,r.length+1,sc,id,r++ [qo l[k] id]),⟨hlen,hu,hm,k+1,by omega,rfl,rfl,by rw[au];rfl,by rw[au];show r.length+1<=_;omega⟩,by simp only[aa];omega,?_,λkn kx=> ?_⟩
  ·simp only[cY.L0.add,cY.L0.F,aa,hd,bX,bC,fp]
  ·rw[cY.L0.step,bq (by omega),bM (by omega) (by omega),aa,n1,iC.run (d:=(l[k],id)) ⟨hu _ (b6 h),hm⟩]
   simp only[aj,ah,bS,iC.F]
   rw[aY (aw _),fN (by omega) (by omega),N.rO (by omega),cX]
   rfl
 ·right
  obtain rfl:k=l.length:=by omega
  intro R kn kx
  rw[cY.L0.step,bn (by omega),aq]
  simp only[cY.L0.add,cY.L0.F,aa,bG,fW,cZ,aR,aw,and_self,decide_true,aj,gR]
theorem cY.ok:cY.Ok:=by
 rintro⟨⟨is,os,nt,u⟩,i,br,ks,sc⟩ ⟨hv,hu,hl⟩
 have hv:Bz (is,os,nt,u):=hv
 have hl:ks.length<=1000000000:=hl
 rw[cY.eq,ay.run (d:=(is,os,nt,u)) hv.1]
 simp only[ah,bS,ay.F,bS,cY.F,nq,oG]
 rcases fC (kq (is,os,nt,u)) with nE | nE
 rotate_left
 ·simp only[nE];rfl
 obtain⟨⟨_,a2,a3,_⟩,b1,b2⟩:=vM nE
 have a2:is.length<=64:=a2
 simp only[nE,cz,aq,ck]
 by_cases h1:i < 0
 ·rw[bq h1,aj,cg (by omega)];rfl
 rw[bn h1,aq]
 by_cases h2:i>=(is.length:Int)
 ·rw[fH h2,aj,cg (by omega)];rfl
 rw[eg h2,aq,ko.run (d:=(br,([],(sc,())))) trivial]
 simp only[ah,bS,ko.F,qp]
 by_cases h3:0<=br/\br < 4
 ·rw[aY h3]
  by_cases h4:ks.length > 12
  ·rw[db (by omega),cg (p:=0<=i/\i < (is.length:Int)/\0<=br/\br < 4/\ks.length<=12) (by omega)];rfl
  ·rw[cR (by omega),aY (p:=0<=i/\i < (is.length:Int)/\0<=br/\br < 4/\ks.length<=12) (by omega),dy.run (d:=ks) ⟨λ_ _=>trivial,hl⟩]
   simp only[ah,bS,dy.F]
   rcases fC (ks.any tD) with hb | hb
   rotate_left
   ·simp only[hb]
    obtain⟨k,rfl⟩:∃k:Nat,i=k:=⟨i.toNat,by omega⟩
    have hk:k < is.length:=by omega
    simp only[show(([]:List Sg).length<=12)=True from eq_true (bj _),decide_true,Bool.and_self,cz,dG,aq,ck,if_true]
    rw[tid.run (d:=(is,os,nt,u)) hv]
    simp only[ah,bS,tid.F]
    rw[cY.L0.run (d:=((k:Int),ks,ks.length,0,(is,os,nt,u),(0,()),br,0,(sc,()),Dr (is,os,nt,u),[])) ⟨by show ks.length<=_;omega,hu,My,0,bj _,rfl,rfl,rfl,bj _⟩]
    simp only[ah,cY.L0.add,cY.L0.F,cV,aL,aT]
    rw[aF.run (d:=(is,os,nt,u)) nE]
    simp only[ah,bS,aF.F,aa,aR,ct,bM (show(0:Int)<=(k:Int) by omega) (show(k:Int) < (is.length:Int) by omega),aj,aY hk,decide_true,iU,aw,and_self]
    rw[gR (by rw[iU])]
   ·simp only[hb];rfl
 ·rw[cg h3,cg (p:=0<=i/\i < (is.length:Int)/\0<=br/\br < 4/\ks.length<=12) (by omega)];rfl
theorem cY.run:cY.RS:=rE [.d nU,.d ti,.d ti,.d tU,.d tu] cY
def cY.sg:=cY.gl cY.ok 1 ⟨.jG cY.L0.ok,trivial⟩
abbrev y4:=(lS×(Int×Unit))
abbrev lj.D:=Bs×Bs
abbrev lj.Y:=Int
def lj.bf:lj.D->Prop:=λ_=>True
def lj.F:lj.D->lj.Y:=λ(a,b)=>xk a b
def lj:Fs Tryz.prog lj.bf bS lj.F:=fS 82 Tryz.f82 (λ(a,b)=>([.d tB a,.d tB b],[])) (λx=>⟨.d ti x,[],[]⟩) [some tB,some tB] [⟨156,wO,E7.E,.of (E7.of (fn:=Tryz.f156) (by kernel_rfl) (by kernel_rfl) (by kernel_rfl) (by kernel_rfl) (by kernel_rfl)) (by rfl)⟩]
theorem lj.eq{R:Type}(a b)(k:K1 R):lj.A (a,b) k=
 aA (E7.call (a,b)) λx1=>
 k (lj.out x1):=by kernel_rfl
theorem lj.ok:lj.Ok:=by
 rintro⟨a,b⟩ _
 rw[lj.eq,E7.run]
 rfl
theorem lj.run:lj.RS:=rE [.d tB,.d tB] lj
def lj.sg:=lj.gl lj.ok
abbrev lA.D:=Int
abbrev lA.Y:=Bool
def lA.bf:lA.D->Prop:=λ_=>True
def lA.F:lA.D->lA.Y:=λ_=>false
def lA:Fs Tryz.prog lA.bf bS lA.F:=fS 157 Tryz.f157 (λx=>([.d ti x],[])) (λx=>⟨.d .bool x,[],[]⟩) [some ti]
theorem lA.eq{R:Type}(x)(k:K1 R):lA.A x k=
 k (lA.out (wV x x)):=by kernel_rfl
theorem lA.ok:lA.Ok:=by
 intro x _
 rw[lA.eq]
 simp only[bS,lA.F,e7 rfl]
theorem lA.run:lA.RS:=rE [.d ti] lA
def lA.sg:=lA.gl lA.ok
def qF(x y:Int):Int:=if x < y then -1 else if x > y then 1 else 0
abbrev iR.D:=Int×Int
abbrev iR.Y:=Int
def iR.bf:iR.D->Prop:=λ_=>True
def iR.F:iR.D->iR.Y:=λ(x,y)=>qF x y
def iR:Fs Tryz.prog iR.bf bS iR.F:=fS 83 Tryz.f83 (λ(x,yv)=>([.d ti x,.d ti yv],[])) (λx=>⟨.d ti x,[],[]⟩) [some ti,some ti] [lA.sg]
theorem iR.eq{R:Type}(x yv)(k:K1 R):iR.A (x,yv) k=
  aA (lA.call x) λx1=>
  aA (lA.call yv) λx2=>
  aO (x1) (
   aO (x2) (
    k (iR.out 0)) (
    k (iR.out (-1)))) (
   aO (x2) (
    k (iR.out 1)) (
    aO ((ju x yv)) (
     k (iR.out (-1))) (
     aO ((pv x yv)) (
      k (iR.out 1)) (
      k (iR.out 0))))):=by kernel_rfl
theorem iR.ok:iR.Ok:=by
 rintro⟨x,y⟩ _
 rw[iR.eq,lA.run (d:=x) trivial]
 simp only[ah,bS,lA.F]
 rw[lA.run (d:=y) trivial]
 simp only[ah,bS,lA.F,aq,bS,iR.F,qF]
 by_cases h:x < y
 ·rw[bq h,aj,if_pos h]
 ·rw[bn h,aq,if_neg h]
  by_cases h2:x > y
  ·rw[db h2,aj,if_pos h2]
  ·rw[cR h2,aq,if_neg h2]
theorem iR.run:iR.RS:=rE [.d ti,.d ti] iR
def iR.sg:=iR.gl iR.ok
abbrev eX.L0.D:=Int×(List Int)×Int×Int
def eX.L0.st:eX.L0.D->AS:=λ(zero,t6,t7,t8)=>⟨([.undef,.undef,.undef,.d ti zero,.undef,.undef,.d (.slice ti) t6,.d ti t7,.d ti t8]++bE 9 []),[],(List.replicate 18 [])⟩
abbrev eX.L0.Y0:=Int
abbrev eX.L0.X0:=Int
def eX.L0.eR:eX.L0.X0->Exit×AS:=λx=>(.ret,⟨([.undef,.undef,.d ti x]++bE 15 []),[],(List.replicate 18 [])⟩)
abbrev eX.L0.Y1:=Unit
abbrev eX.L0.X1:=Int
def eX.L0.iZ:eX.L0.X1->Exit×AS:=λx=>(.exit 0,⟨([.undef,.undef,.undef,.d ti x]++bE 14 []),[],(List.replicate 18 [])⟩)
abbrev eX.L0.X:=(eX.L0.X0)⊕(eX.L0.X1)
abbrev eX.L0.Y:=(eX.L0.Y0)⊕(eX.L0.Y1)
def eX.L0.out:eX.L0.X->Out (Exit×AS):=λx=> .br x.isLeft (.get x.getLeft? λa=> .ok (eX.L0.eR a)) (.get x.getRight? λb=> .ok (eX.L0.iZ b))
def eX.L0.add:eX.L0.D->eX.L0.Y->eX.L0.X:=λ(zero,t6,t7,t8) y=>match y with | .inl y=> .inl y | .inr z=> .inr (zero)
abbrev eX.D:=(List Int)
abbrev eX.Y:=Int
def KO:List Int->Int
 |[]=>0
 |x::l=>if x≠0 then x else KO l
def KP:List Int->Int⊕Unit
 |[]=> .inr ()
 |x::l=>if x≠0 then .inl x else KP l
theorem KQ:∀l:List Int,KO l=match KP l with | .inl x=>x | .inr _=>0
 |[]=>rfl
 |x::l=>by
  simp only[KO,KP]
  split
  ·rfl
  ·exact KQ l
def eX.L0.bf:eX.L0.D->Prop:=λ(z,l,n,i)=>z=0/\l.length<=1000000000/\n=l.length/\∃k:Nat,k<=l.length/\i=k
def eX.L0.F:eX.L0.D->eX.L0.Y:=λ(z,l,n,i)=>KP (l.drop i.toNat)
def eX.bf:eX.D->Prop:=λl=>l.length<=1000000000
def eX.F:eX.D->eX.Y:=λl=>KO l
def eX.L0.E:=eS.jG eX.L0.st eX.L0.bf eX.L0.add eX.L0.F eX.L0.out
def eX.L0.call:eX.L0.D->Option eX.L0.X:=mz eX.L0.E eX.L0.st
def eX:Fs Tryz.prog eX.bf bS eX.F:=fS 81 Tryz.f81 (λhJ=>([.d (.slice ti) hJ],[])) (λx=>⟨.d ti x,[],[]⟩) [some (.slice ti)] [] {loops:=qP [(3,{bI:=[3,6,7,8]})],outs:=qO [(3,{bI:=[3]},{bI:=[2]})],jK:=sm [(3,eX.L0.E)]}
def eX.L0.R:= @jC Tryz.prog (oO eX.G) eX.an 0 Tryz.f81 0 _ eX.L0.st
abbrev eX.L0.Ok:=qq Tryz.prog (oO eX.G) eX.an 0 Tryz.f81 0 eX.L0.st eX.L0.bf eX.L0.add eX.L0.F eX.L0.out
theorem eX.L0.run:o9 eX.L0.call eX.L0.bf eX.L0.add eX.L0.F:=rW (rT [.d ti,.d (.slice ti),.d ti,.d ti] λ_=>by kernel_rfl)
theorem eX.L0.dA:rM @eX.L0.R eX.L0.st eX.L0.bf eX.L0.add eX.L0.F eX.L0.out eX.L0.Ok:=sI
theorem eX.L0.step{R:Type}(zero:Int)(t6:(List Int))(t7:Int)(t8:Int)(kn:AS->Option R)(kx:Exit->AS->Option R):eX.L0.R (zero,t6,t7,t8) kn kx=
  aO ((ju t8 t7)) (
   aO (gK t8 (((List.length t6):Nat):Int)) (
   aO ((wV (nth ti t6 (Int.toNat t8)) zero)) (
    kx (eX.L0.eR (nth ti t6 (Int.toNat t8))).1 (eX.L0.eR (nth ti t6 (Int.toNat t8))).2) (
    kn (eX.L0.st (zero,t6,t7,(bW .i64 t8 (1:Int)))))) none) (
   kx (eX.L0.iZ zero).1 (eX.L0.iZ zero).2):=by kernel_rfl
theorem eX.eq{R:Type}(hJ)(k:K1 R):eX.A hJ k=
  aA (eX.L0.call (0,hJ,(hJ.length:Int),0)) λx1=>
  aO (x1.isLeft) (
   aA (x1.getLeft?) λa2=>
   k (eX.out a2)) (
   aA (x1.getRight?) λb3=>
   k (eX.out b3)):=by kernel_rfl
theorem eX.L0.ok:eX.L0.Ok:=by
 refine eX.L0.dA (λ(z,l,n,i)=>l.length - i.toNat) ?_
 rintro⟨z,l,n,i⟩ ⟨rfl,hl,rfl,k,hk,rfl⟩
 by_cases h:k < l.length
 ·have hd:l.drop k=l[k]::l.drop (k+1):=aB h
  have n1:nth ti l k=l[k]:=dR (t:=ti) h
  by_cases h2:l[k]≠0
  ·right
   refine⟨eX.L0.eR l[k],?_,λkn kx=> ?_⟩
   rotate_left
   ·rw[eX.L0.step,bq (by omega),aj,bM (by omega) (by omega),aj,aa,n1,iA h2,aj]
   ·simp only[eX.L0.add,eX.L0.F,aa,hd,KP,if_pos h2]
    rfl
  ·left
   refine⟨(0,l,(l.length:Int),((k+1:Nat):Int)),⟨rfl,hl,rfl,k+1,by omega,rfl⟩,by simp only[aa];omega,?_,λkn kx=> ?_⟩
   ·simp only[eX.L0.add,eX.L0.F,aa,hd,KP,if_neg h2]
   ·rw[eX.L0.step,bq (by omega),aj,bM (by omega) (by omega),aj,aa,n1,e7 (by omega),aq,N.rO (by omega)]
 ·right
  obtain rfl:k=l.length:=by omega
  refine⟨eX.L0.iZ 0,?_,λkn kx=> ?_⟩
  rotate_left
  ·rw[eX.L0.step,bn (by omega),aq]
  ·simp only[eX.L0.add,eX.L0.F,aa,bG,KP]
   rfl
theorem eX.ok:eX.Ok:=by
 intro l hl
 rw[eX.eq,eX.L0.run (d:=(0,l,(l.length:Int),0)) ⟨rfl,hl,rfl,0,bj _,rfl⟩]
 simp only[ah,eX.L0.add,eX.L0.F,cV,aL,bS,eX.F]
 rw[KQ]
 cases KP l <;> rfl
theorem eX.run:eX.RS:=rE [.d (.slice ti)] eX
def eX.sg:=eX.gl eX.ok 1 ⟨.jG eX.L0.ok,trivial⟩
end Go.Ab
namespace Go.Ab
open Go.Sort (grow)
structure Kc(P:Program)(t:Ty)(g:FuncId)(Q:t.den->Prop)(cf:t.den->t.den->Int):Prop where
 bA:∃en,j2 P g en/\∀x y,Q x->Q y->∃X,en.run [.d t x,.d t y] []=some X/\en.out [.d t x,.d t y] [] X=⟨.d (.int .i64) (cf x y),[],[]⟩
 enters:∀args w,(callFunc g args).run P w= .ok (.enter g args) w
 irrefl:∀x,Q x->¬cf x x < 0
 trans:∀x y z,Q x->Q y->Q z->cf x y < 0->cf y z < 0->cf x z < 0
 ntrans:∀x y z,Q x->Q y->Q z->¬cf x y < 0->¬cf y z < 0->¬cf x z < 0
theorem Jv{w w':World}(KA:w'.os=w.os)(Qi:w'.tape=w.tape)(A4:w'.output=w.output/\w.drawn<=w'.drawn)(lz:w.heap.size<=w'.heap.size)(hb:∀b:Nat,b < w.heap.size->w'.heap[b]? =w.heap[b]?):
  ∃q os,w'=grow (w.drewN q) os:=by
 obtain⟨h1,t1,d1,o1,p1⟩:=w
 obtain⟨h2,t2,d2,o2,p2⟩:=w'
 simp only at*
 obtain⟨A4,hd⟩:=A4
 subst KA Qi A4
 obtain⟨q,rfl⟩:∃q,d2=d1+q:=⟨d2 - d1,by omega⟩
 refine⟨q,h2.extract h1.size h2.size,?_⟩
 have hh:h2=h1++h2.extract h1.size h2.size:=by
  apply kA
  intro i
  rw[gH]
  by_cases hi:i < h1.size
  ·rw[if_pos hi,hb i hi]
  ·rw[if_neg hi,Array.getElem?_extract]
   by_cases h3:i < h2.size
   ·rw[if_pos (by omega)]
    congr 1;omega
   ·rw[if_neg (by omega),Array.getElem?_eq_none (by omega)]
 show({heap:=h2,tape:=_,drawn:=_,os:=_,output:=_}:World)= {heap:=h1++h2.extract h1.size h2.size,tape:=_,drawn:=_,os:=_,output:=_}
 rw[<-hh]
 rfl
section
variable {P:Program} {t:Ty} {g:FuncId} {Q:t.den->Prop} {cf:t.den->t.den->Int}
theorem Kc.No(h:Kc P t g Q cf)(ha:t.agg=true){W:World}{cx cy:List Value}{x y:t.den}(hx:cC ((eE []).env W (λ_=> .free) (λ_=>none)) t cx x)
  (hy:cC ((eE []).env W (λ_=> .free) (λ_=>none)) t cy y) (qx:Q x) (qy:Q y):
  Calls P g #[.agg cx.toArray,.agg cy.toArray] W λe w'=>e= .returned (.int .i64 (cf x y))/\∃q os,w'=grow (W.drewN q) os:=by
 obtain⟨en,hd,jT⟩:=h.bA
 obtain⟨X,hX1,hX2⟩:=jT x y qx qy
 have one:∀ {c:List Value} {z:t.den},cC ((eE []).env W (λ_=> .free) (λ_=>none)) t c z->VS ((eE []).env W (λ_=> .free) (λ_=>none)) (.d t z) (.agg c.toArray):=λhz=>
  ⟨_,by simpa only[V]using hz,by show ei t.agg _ _;rw[ha];rfl⟩
 have ho:fF ((eE []).env W (λ_=> .free) (λ_=>none)):=λid ver fr c h=>by
  exfalso
  cases id with
  |c8 k=>simp[AS.env,AS.bA,eE]at h
  |new i j=>simp[AS.env,AS.bA,eE]at h
 rcases hd W (λ_=> .free) (λ_=>none) [.d t x,.d t y] [] [.agg cx.toArray,.agg cy.toArray] X ⟨one hx,one hy,trivial⟩ ho hX1 with⟨_,hc⟩ | ⟨v,w',hc,_⟩
 ·refine hc.mono λe w' he=> ?_
  obtain⟨v,rfl,g',β',hv,_,ht,_⟩:=he
  rw[hX2]at hv
  obtain⟨cs,k1,k2⟩:=hv
  have k1:cs=[.int .i64 (cf x y)]:=k1
  subst k1
  have k2: [Value.int .i64 (cf x y)]=[v]:=k2
  have hv:v= .int .i64 (cf x y):=by simpa using k2.symm
  exact⟨by rw[hv],Jv ht.os ht.tape ht.output ht.size λb hb=>(ht.uS b hb).2⟩
 ·rw[h.enters]at hc;cases hc
def DE(cf:t.den->t.den->Int)(l l':List t.den):Prop:=l'.Perm l/\l'.Pairwise λx y=>¬cf y x < 0
open Classical in
def rX(cf:t.den->t.den->Int)(l:List t.den):List t.den:=if h:∃l',DE cf l l' then h.choose else l
theorem Bo(h:Kc P t g Q cf){l:List t.den}(hQ:∀x∈l,Q x):DE cf l (rX cf l):=by
 have hx:∃l',DE cf l l':=by
  let le: {x // Q x}-> {x // Q x}->Bool:=λx y=> !decide (cf y.1 x.1 < 0)
  refine⟨((l.attachWith Q hQ).mergeSort le).map (·.1),?_,?_⟩
  ·have h1:=(List.mergeSort_perm (l.attachWith Q hQ) le).map (·.1)
   rwa[List.attachWith_map_subtype_val]at h1
  ·have h2:=List.pairwise_mergeSort (le:=le) (λa b c h1 h2=>by
    simp only[le,bt,decide_eq_false_iff_not]at*
    exact h.ntrans _ _ _ c.2 b.2 a.2 h2 h1) (λa b=>by
    simp only[le,fj,bt,decide_eq_false_iff_not]
    by_cases h1:cf b.1 a.1 < 0
    ·exact .inr λh2=>h.irrefl _ a.2 (h.trans _ _ _ a.2 b.2 a.2 h2 h1)
    ·exact .inl h1) (l.attachWith Q hQ)
   rw[List.pairwise_map]
   exact h2.imp λ {a b} h3=>by simpa[le]using h3
 unfold rX
 rw[dif_pos hx]
 exact hx.choose_spec
theorem tl(h:Kc P t g Q cf){l l':List t.den}(hQ:∀x∈l,Q x)(hT:∀x∈l,∀y∈l,¬cf x y < 0->¬cf y x < 0->x=y)(hs:DE cf l l'):l'=rX cf l:=by
 have h2:=Bo h hQ
 exact List.Perm.eq_of_pairwise (λa b ha hb h3 h4=>hT a (hs.1.mem_iff.1 ha) b (h2.1.mem_iff.1 hb) h4 h3) hs.2 h2.2 (hs.1.trans h2.1.symm)
def uJ(g:FuncId)(e:TypeId)(t:Ty):Nat×List t.den->List ao×List c7:=λd=>([.cv (.c8 0) 0 [] 0 0 d.1,.fn g .nil],[.obj 0 false (.vec e t d.2)])
def vK(Q:t.den->Prop)(cf:t.den->t.den->Int):Nat×List t.den->Prop:=λd=>d.1=d.2.length/\d.2.length < 4611686018427387904/\(∀x∈d.2,Q x)/\∀x∈d.2,∀y∈d.2,¬cf x y < 0->¬cf y x < 0->x=y
def Mw(e:TypeId)(t:Ty):Nat×List t.den->iq:=λx=>⟨.nil,[.obj 0 false (.vec e t x.2)],[]⟩
def IH(g:FuncId)(e:TypeId)(t:Ty)(Q:t.den->Prop)(cf:t.den->t.den->Int):Entry:=
 Entry.of [none,none] (uJ g e t) (vK Q cf) (λd=>(d.1,rX cf d.2)) (Mw e t)
theorem J4{g:FuncId}{e:TypeId}{t:Ty}(d d':Nat×List t.den)(h:uJ g e t d=uJ g e t d'):d=d':=by
 obtain⟨n,l⟩:=d
 obtain⟨n',l'⟩:=d'
 simp only[uJ,bY,dg,ao.cv.injEq,c7.obj.injEq,true_and,and_true]at h
 obtain⟨rfl,h2⟩:=h
 rw[J9 h2]
def xc(g:FuncId)(e:TypeId)(t:Ty)(Q:t.den->Prop)(cf:t.den->t.den->Int):Nat×List t.den->Option (Nat×List t.den):=λd=>(IH g e t Q cf).run (uJ g e t d).1 (uJ g e t d).2
theorem Bp{g:FuncId}{e:TypeId}{t:Ty}{Q:t.den->Prop}{cf:t.den->t.den->Int}{d:Nat×List t.den}(h:vK Q cf d):xc g e t Q cf d=some (d.1,rX cf d.2):=Entry.pU J4 h
theorem tF{R:List Value->t.den->Prop}:∀ {cs:List Value} {l:List t.den},aM R cs l->(∀x∈l,Q x)->∃ps:List {p:List Value×t.den // R p.1 p.2/\Q p.2},ps.map (·.1.2)=l/\(ps.map (·.1.1)).flatten=cs
 |cs,[],h,_=>⟨[],rfl,by have h:cs=[]:=h;rw[h];rfl⟩
 |cs,x::l,⟨c,cs',h1,h2,h3⟩,hq=>by
  obtain⟨ps,h4,h5⟩:=tF h3 λy hy=>hq y (aH _ hy)
  exact⟨⟨(c,x),h2,hq x (aI ..)⟩::ps,by simp[h4],by simp[h5,h1]⟩
theorem ui{R R':List Value->t.den->Prop}(hR:∀c x,R c x->R' c x):∀ps:List {p:List Value×t.den // R p.1 p.2/\Q p.2},aM R' (ps.map (·.1.1)).flatten (ps.map (·.1.2))
 |[]=>rfl
 |p::ps=>⟨p.1.1,(ps.map (·.1.1)).flatten,by simp,hR _ _ p.2.1,ui hR ps⟩
theorem Cc{α:Type} [Inhabited α] (enc:α->List Value) {k:Nat} (hk:∀x,(enc x).length=k):∀(ps:List α) (j:Nat),j < ps.length*k->((ps.map enc).flatten)[j]? =(enc (ps.toArray[j / k]!))[j%k]?
 |[],j,h=>by simp at h
 |p::ps,j,h=>by
  have k0:0 < k:=by
   rcases iP k with h0 | h0
   ·subst h0;simp at h
   ·exact h0
  simp only[bX,ff]
  by_cases hj:j < k
  ·rw[dO (by rw[hk];exact hj),Nat.div_eq_of_lt hj,Nat.mod_eq_of_lt hj]
   rfl
  ·have e1:j / k=(j - k) / k+1:=by
    rw[Nat.div_eq_sub_div k0 (by omega)]
   have e2:j%k=(j - k)%k:=by rw[Nat.mod_eq_sub_mod (by omega)]
   rw[List.getElem?_append_right (by rw[hk];omega),hk,Cc enc hk ps (j - k) (by simp only[aC,dn,iH]at h;omega),e1,e2]
   congr 2
   simp
theorem sV{α:Type} [Inhabited α] (enc:α->List Value) {k:Nat} (hk:∀x,(enc x).length=k) (d:Array α):(Go.Sort.flatK enc k d).toList=(d.toList.map enc).flatten:=by
 have hl:((d.toList.map enc).flatten).length=d.size*k:=by
  rw[List.length_flatten,List.map_map]
  have:(d.toList.map (List.length∘enc))=List.replicate d.size k:=by
   rw[List.eq_replicate_iff]
   exact⟨by simp,λx hx=>by obtain⟨y,_,rfl⟩:=cU.1 hx;exact hk y⟩
  rw[this,List.sum_replicate_nat]
 apply gQ
 intro j
 by_cases hj:j < d.size*k
 ·rw[Cc enc hk d.toList j (by simpa using hj)]
  have h2:(Go.Sort.flatK enc k d).toList[j]? =some ((Go.Sort.flatK enc k d)[j]!):=by
   rw[fo,getElem!_pos _ j (by rw[Go.Sort.size_flatK];exact hj)]
   simp[hj]
  rw[h2,Go.Sort.get_flatK _ _ _ _ hj]
  have Kt:0 < k:=by
   rcases iP k with h0 | h0
   ·subst h0;simp at hj
   ·exact h0
  have hm:j%k < k:=Nat.mod_lt _ Kt
  simp only[Array.toArray_toList]
  rw[bO (by rw[hk];exact hm),getElem!_pos _ _ (by rw[hk];exact hm)]
 ·rw[cW (by simpa using hj),cW (by rw[hl];omega)]
theorem It{F cur:Array Value}(h:F.size<=cur.size):(Go.Sort.putCells id 0 F cur).toList=F.toList++cur.toList.drop F.size:=by
 apply gQ
 intro j
 simp only[Go.Sort.putCells,fo,Array.getElem?_mapIdx,bj,true_and,aR,Nat.sub_zero,id]
 by_cases hj:j < F.size
 ·rw[dO (by simpa using hj),fo,dN hj,dN (by omega),dh,if_pos hj,getElem!_pos F j hj]
 ·rw[List.getElem?_append_right (by simpa using hj),ew,fo,bU,show F.size+(j - F.size)=j by omega]
  cases cur[j]? with
  |none=>rfl
  |some y=>rw[dh,if_neg hj]
end
section
open Go.Proofs Go.Shelf Go.Lib Go.Sort
variable {P:Program} {ρ:Go.Shelf.Ren} {t:Ty} {g:FuncId} {Q:t.den->Prop} {cf:t.den->t.den->Int}
theorem yO{α:Type} [Inhabited α] (enc:α->List Value) (k:Nat) (w:World) (uS m:Nat) (dk:Array α) (os:Array Obj) {b:Nat} (hb:b < w.heap.size) (fL:b≠uS):(sortWorldK enc k w uS 0 m dk os).heap[b]? =w.heap[b]? :=by
 show((w.heap.modify uS _)++os)[b]? =_
 rw[gH,if_pos (by simpa using hb),eJ,if_neg (λe=>fL e.symm)]
theorem J7{α:Type} [Inhabited α] (enc:α->List Value) (k:Nat) (w:World) (uS m:Nat) (dk:Array α) (os:Array Obj) {cur:Array Value} {e:TypeId} {fr:Nat×Nat} (hb:w.heap[uS]? =some (.cells cur e fr)):
  (sortWorldK enc k w uS 0 m dk os).heap[uS]? =some (.cells (putCells id 0 (flatK enc k dk) cur) e fr):=by
 have gO:uS < w.heap.size:=(bg.1 hb).1
 show((w.heap.modify uS _)++os)[uS]? =_
 rw[gH,if_pos (by simpa using gO),eJ,if_pos rfl,hb]
 rfl
set_option maxHeartbeats 1000000 in
theorem Di(L:SlLaysF0.n6 P ρ){e:TypeId}(ha:t.agg=true)(aE:∀w,(isAgg (ρ.t 24)).run P w= .ok true w)(zE:∀w,(Go.sizeOf (ρ.t 24)).run P w= .ok t.size w)(hc:Kc P t g Q cf):
  j2 P (ρ.f 6) (IH g e t Q cf):=by
 intro w γ β args bP hJ x hv ho hx
 obtain⟨d0,PG,N0⟩:∃d,uJ g e t d=(args,bP)/\vK Q cf d:=by
  by_cases hh:∃d,uJ g e t d=(args,bP)/\vK Q cf d
  ·exact hh
  ·exfalso
   have hn:(IH g e t Q cf).run args bP=none:=dif_neg hh
   rw[hn]at hx
   cases hx
 have hr:=Bp (g:=g) (e:=e) N0
 unfold xc at hr
 rw[PG]at hr
 obtain rfl:x=(d0.1,rX cf d0.2):=aN (hx.symm.trans hr)
 obtain⟨n,l⟩:=d0
 simp only[uJ,bY]at PG
 obtain⟨rfl,rfl⟩:=PG
 obtain⟨hn,lz,hQ,hT⟩:=N0
 have hn:n=l.length:=hn
 subst hn
 match hJ,hv with
 |[y1,y2],⟨Ma,v7,_⟩=>
 obtain⟨vs,rfl,tP⟩:=zT v7
 have tP:vs=[]:=by simpa only[VC]using tP
 subst tP
 have h1:=Ma.single rfl rfl
 simp only[V]at h1
 obtain⟨a,cap,h1,tM,jZ,_,dV⟩:=h1
 have h1:y1= .slice a l.length cap:=by simpa using h1
 subst h1
 have b5:(eE [c7.obj 0 false (.vec e t l)]).bA (.c8 0)=some (.obj 0 false (.vec e t l)):=rfl
 obtain⟨hz,hO⟩:Nc ((eE [c7.obj 0 false (.vec e t l)]).env w γ β) (.c8 0) false e t l:=ho (.c8 0) 0 false _ b5
 have dV:=dV ⟨false,_,b5⟩
 refine .inl ⟨L.f6.enters rfl _ _,?_⟩
 have RR:∀v:Value,v= .tuple #[]->VS ((iq.st ⟨.nil,[.obj 0 false (.vec e t (rX cf l))],[]⟩).env w γ β) .nil v:=λv hv=>by rw[hv];exact rfl
 have hS:=Bo hc hQ
 by_cases hl:l=[]
 ·subst hl
  have hs:rX cf ([]:List t.den)=[]:=aJ hS.1.length_eq
  refine(AnyF.slices_SortFunc_none L a cap _ w).mono λe' w' he=> ?_
  obtain⟨rfl,rfl⟩:=he
  refine⟨_,rfl,?_⟩
  show ng _ (⟨.nil,[.obj 0 false (.vec e t (rX cf []))],[]⟩:iq) _ _
  rw[hs]
  exact ng.same rfl ho
 ·have kM:0 < l.length:=List.length_pos_iff.2 hl
  change (match β (.c8 0) with | none=>l=[] | some pl=>∃cur k,w.heap[pl.b]? =some (.cells cur e (0,0))/\cur.size=pl.cap*t.size/\l.length<=pl.cap/\pl.cap<=maxLen/\γ pl.b= .own (.id (.c8 0)) k/\
   k<=l.length*t.size/\(false=false->k=0)/\aM (cC ((eE [c7.obj 0 false (.vec e t l)]).env w γ β) t) (cur.toList.take (l.length*t.size)) l) at hO
  change (match β (.c8 0) with | some pl=>(0 < l.length\/True->a=some ⟨pl.b,0,none⟩)/\(True->True->cap=pl.cap) | none=>a=none/\l.length=0/\cap=0) at dV
  cases hβ:β (.c8 0) with
  |none=>rw[hβ]at hO;exact absurd hO hl
  |some pl=>
  rw[hβ]at hO dV
  obtain⟨cur,k0,q1,q2,q3,q4,q5,_,q7,q8⟩:=hO
  obtain rfl:=q7 rfl
  obtain rfl:=dV.1 (.inl kM)
  have hblk:pl.b < w.heap.size:=(bg.1 q1).1
  obtain⟨R,hR⟩:∃R:List Value->t.den->Prop,R=cC ((eE [c7.obj 0 false (.vec e t l)]).env w γ β) t:=⟨_,rfl⟩
  have hRm:∀c x,R c x->cC ((eE [c7.obj 0 false (.vec e t l)]).env w γ β) t c x:=by rw[hR];exact λ_ _ h=>h
  rw[<-hR]at q8
  obtain⟨ps,p1,p2⟩:=tF (Q:=Q) q8 hQ
  have N1:ps.length=l.length:=by rw[<-p1,cj]
  let α:= {p:List Value×t.den // R p.1 p.2/\Q p.2}
  have:0 < ps.length:=by omega
  letI:Inhabited α:=⟨ps[0]⟩
  let enc:α->List Value:=λp=>p.1.1
  let cf':α->α->Int:=λp q=>cf p.1.2 q.1.2
  have hk:∀x,(enc x).length=t.size:=λx=>(hRm _ _ x.2.1).size
  have hO:SWO (ltOf cf'):=⟨λx=>by simpa[ltOf,cf']using hc.irrefl _ x.2.2,λx y z h1 h2=>by
   simp only[ltOf,decide_eq_true_eq,cf']at*
   exact hc.trans _ _ _ x.2.2 y.2.2 z.2.2 h1 h2,λx y z h1 h2=>by
   simp only[ltOf,decide_eq_false_iff_not,cf']at*
   exact hc.ntrans _ _ _ x.2.2 y.2.2 z.2.2 h1 h2⟩
  have py:∀j,j < l.length*t.size->cur[j]? =((ps.map enc).flatten)[j]? :=λj hj=>by
   have:(ps.map enc).flatten=cur.toList.take (l.length*t.size):=p2
   rw[this,cD,if_pos hj,fo]
  have hH:HoldsK enc t.size w pl.b 0 ps.toArray:=λj hj=>by
   rw[size_flatK]at hj
   have hj:j < ps.length*t.size:=by simpa using hj
   have h2:=py j (by rw[<-N1];exact hj)
   have h3:((flatK enc t.size ps.toArray).toList)[j]? =((ps.map enc).flatten)[j]? :=by rw[sV enc hk]
   rw[fo,dN (by rw[size_flatK];simpa using hj)]at h3
   refine⟨?_,?_⟩
   ·show(match w.heap[pl.b]? with | some (.cells c _ _)=>if(none:Option _).isSome then none else c[0+j]? | _=>none)=_
    rw[q1]
    simp only[Option.isSome_none,bN,if_false,aR]
    rw[h2,<-h3,getElem!_pos _ j (by rw[size_flatK];simpa using hj)]
    rfl
   ·show(match w.heap[pl.b]? with | some (.cells _ _ (lo,hi))=>decide (lo<=0+j) && decide (0+j < hi) | _=>false)=false
    rw[q1]
    simp
  have pd:∀(m:Nat) (dk:Array α) (os:Array Obj),lg ((eE [c7.obj 0 false (.vec e t l)]).env w γ β) ((eE []).env (sortWorldK enc t.size w pl.b 0 m dk os) (λ_=> .free) (λ_=>none)):=λm dk os=>by
   refine⟨λb off v hh=>⟨?_,trivial⟩,λb ob hf ia=>⟨rfl,?_⟩⟩
   ·obtain⟨h1,h2⟩:=hh
    have hb:b < w.heap.size:=World.block_lt_of_cell? _ _ h1
    have fL:b≠pl.b:=λe=>by
     have h2:lQ γ b off:=h2
     unfold lQ at h2
     rw[e,q5]at h2
     exact Nat.not_lt_zero _ h2
    have h1:w.cell? ⟨b,off,none⟩=some v:=h1
    show(sortWorldK enc t.size w pl.b 0 m dk os).cell? ⟨b,off,none⟩=some v
    simpa only[World.cell?,yO enc t.size w pl.b m dk os hb fL]using h1
   ·have ia:w.heap[b]? =some ob:=ia
    have hb:b < w.heap.size:=(bg.1 ia).1
    have fL:b≠pl.b:=λe=>by
     have hf:γ b= .free:=hf
     rw[e,q5]at hf;cases hf
    exact(yO enc t.size w pl.b m dk os hb fL).trans ia
  have PE:CmpLays P g #[] enc t.size cf' pl.b 0 ps.toArray.size w:=λm os dk _ p q=>
   hc.No ha ((hRm _ _ p.2.1).mono (pd m dk os)) ((hRm _ _ q.2.1).mono (pd m dk os)) p.2.2 q.2.2
  have ND:=AnyQ.slices_SortFunc L t.size aE zE enc hk (λp=>(hRm _ _ p.2.1).one) cf' hO g #[] pl.b 0 cap ps.toArray w hc.enters PE hH hblk (by simpa[N1]using lz)
  rw[show ps.toArray.size=l.length by simpa using N1]at ND
  refine ND.mono λe' w' he=> ?_
  obtain⟨rfl,d',m,os,hp,hs,rfl⟩:=he
  refine⟨_,rfl,?_⟩
  obtain⟨s1,_,s2⟩:=hp
  have hd:d'.size=l.length:=by rw[s1];simpa using N1
  have Cp:d'.toList.Perm ps:=by
   have e1:(d'.extract 0 l.length)=d':=by rw[<-hd];simp
   have e2:(ps.toArray.extract 0 l.length)=ps.toArray:=by rw[<-N1];simp
   rw[e1,e2]at s2
   exact s2
  have hl':DE cf l (d'.toList.map (·.1.2)):=by
   refine⟨by rw[<-p1];exact Cp.map _,?_⟩
   rw[List.pairwise_map,List.pairwise_iff_getElem]
   intro i j hi hj PM
   have:=hs i j (bj _) PM (by rw[<-hd];simpa using hj)
   rw[getElem!_pos d' i (by simpa using hi),getElem!_pos d' j (by simpa using hj)]at this
   simpa[ltOf,cf']using this
  have heq:=tl hc hQ hT hl'
  show ng _ (⟨.nil,[.obj 0 false (.vec e t (rX cf l))],[]⟩:iq) _ _
  rw[<-heq]
  have iL:=J7 enc t.size w pl.b m d' os q1
  have hFs:(flatK enc t.size d').size<=cur.size:=by
   rw[size_flatK,hd,q2]
   exact cE _ q3
  have tO:∀b,b < w.heap.size->b≠pl.b->(sortWorldK enc t.size w pl.b 0 m d' os).heap[b]? =w.heap[b]? :=λb hb fL=>yO enc t.size w pl.b m d' os hb fL
  have HP:w.heap.size<=(sortWorldK enc t.size w pl.b 0 m d' os).heap.size:=size_sortWorldK_c enc t.size w pl.b 0 m d' os
  have hw:(sortWorldK enc t.size w pl.b 0 m d' os).os=w.os/\(sortWorldK enc t.size w pl.b 0 m d' os).tape=w.tape/\((sortWorldK enc t.size w pl.b 0 m d' os).output=w.output/\w.drawn<=(sortWorldK enc t.size w pl.b 0 m d' os).drawn):=⟨rfl,rfl,rfl,Nat.le_add_right _ _⟩
  generalize sortWorldK enc t.size w pl.b 0 m d' os=w' at iL tO HP hw
  have ht:Trans w w' γ γ:=by
   refine⟨hw.1,hw.2.1,hw.2.2,HP,λb hb=> ?_⟩
   by_cases Pz:b=pl.b
   ·subst Pz
    rw[q5]
    exact⟨.inr ⟨_,0,rfl,aw _⟩,λ_ _ hh=>by omega⟩
   ·rw[tO b hb Pz]
    cases wE:γ b with
    |free=>exact⟨rfl,rfl⟩
    |own o' k=>cases o' with
     |dm=>exact⟨rfl,rfl⟩
     |id i'=>exact⟨.inr ⟨i',k,rfl,aw _⟩,λoff v _ hv=>by simpa only[World.cell?,tO b hb Pz]using hv⟩
  have hle:bV ((eE [c7.obj 0 false (.vec e t l)]).env w γ β) ((iq.st ⟨.nil,[.obj 0 false (.vec e t (d'.toList.map (·.1.2)))],[]⟩).env w' γ β):=by
   have e0:∀id,(∃c,(eE [c7.obj 0 false (.vec e t l)]).bA id=some (.obj 0 false c)/\id= .c8 0)\/((eE [c7.obj 0 false (.vec e t l)]).bA id=none/\(iq.st ⟨.nil,[.obj 0 false (.vec e t (d'.toList.map (·.1.2)))],[]⟩).bA id=none):=λid=>by
    cases id with
    |c8 k=>cases k with
     |zero=>exact .inl ⟨_,rfl,rfl⟩
     |succ k=>exact .inr ⟨rfl,rfl⟩
    |new i j=>refine .inr ⟨?_,?_⟩ <;> cases i <;> rfl
   refine⟨Trans.mem (E:=(eE [c7.obj 0 false (.vec e t l)]).env w γ β) (E':=(iq.st ⟨.nil,[.obj 0 false (.vec e t (d'.toList.map (·.1.2)))],[]⟩).env w' γ β) ht,λid ver hb=> ?_,λid ver hb Rv=> ?_⟩
   ·rcases e0 id with⟨c,_,rfl⟩ | ⟨h1,_⟩
    ·refine⟨by show(some _:Option c7)≠none;simp,λv fr c h=> ?_⟩
     have h:some (c7.obj 0 false (.vec e t (d'.toList.map (·.1.2))))=some (.obj v fr c):=h
     simp only[al,c7.obj.injEq]at h
     have:=hb.2 0 false _ rfl
     omega
    ·exact absurd h1 hb.1
   ·rcases e0 id with⟨c,_,rfl⟩ | ⟨h1,_⟩
    ·obtain⟨fr,c,h⟩:=Rv
     have h:some (c7.obj 0 false (.vec e t (d'.toList.map (·.1.2))))=some (.obj ver fr c):=h
     simp only[al,c7.obj.injEq]at h
     obtain⟨rfl,rfl,_⟩:=h
     exact⟨⟨false,_,rfl⟩,rfl⟩
    ·exact absurd h1 hb.1
  refine⟨γ,β,rfl,λid ver fr c h=> ?_,ht,hle⟩
  have cI:id= .c8 0/\ver=0/\fr=false/\c= .vec e t (d'.toList.map (·.1.2)):=by
   cases id with
   |c8 k=>cases k with
    |zero=>
     have h:some (c7.obj 0 false (.vec e t (d'.toList.map (·.1.2))))=some (.obj ver fr c):=h
     simp only[al,c7.obj.injEq]at h
     obtain⟨rfl,rfl,rfl⟩:=h
     exact⟨rfl,rfl,rfl,rfl⟩
    |succ k=>cases h
   |new i j=>cases i <;> cases h
  obtain⟨rfl,rfl,rfl,rfl⟩:=cI
  refine⟨hz,?_⟩
  show(match β (.c8 0) with | none=>(d'.toList.map (·.1.2))=[] | some pl=>_)
  rw[hβ]
  have hlen:(d'.toList.map (λp:α=>p.1.2)).length=l.length:=by simpa using hd
  refine⟨_,0,iL,?_,by rw[hlen];exact q3,q4,q5,bj _,λ_=>rfl,?_⟩
  ·rw[<-q2];simp[putCells]
  ·have e3:(putCells id 0 (flatK enc t.size d') cur).toList.take ((d'.toList.map (λp:α=>p.1.2)).length*t.size)=(d'.toList.map enc).flatten:=by
    rw[It hFs,sV enc hk,hlen]
    have e4:((d'.toList.map enc).flatten).length=l.length*t.size:=by
     rw[<-sV enc hk,bU,size_flatK,hd]
    rw[<-e4,List.take_left]
   rw[e3]
   exact ui (Q:=Q) (λc x h=>(hRm c x h).mono hle.mem) d'.toList
end
end Go.Ab
namespace Go.Ab
open Go.Proofs
def nR(x:iG):Bool:=decide (x.2.1.2.1.length<=14)
def mo(b:tw):Bool:=decide (b.1.length<=14)
def kk(o:lS):Bool:=decide (o.2.1.1.length<=6) && o.2.1.1.all mo
def vJ(t:jh):Bool:=decide (t.1.length<=66/\t.2.1.length<=66) && (t.1.all nR && t.2.1.all kk)
abbrev ab.L0.D:=jh×Int
def ab.L0.st:ab.L0.D->AS:=λ(uP,i)=>⟨([.undef,.eW nU uP,.undef,.d ti i]++bE 69 []),[],(List.replicate 73 [])⟩
abbrev ab.L0.Y0:=Unit
abbrev ab.L0.X0:=Unit
def ab.L0.eR:ab.L0.X0->Exit×AS:=λx=>(.ret,⟨([.undef,.undef,.d .bool false]++bE 70 []),[],(List.replicate 73 [])⟩)
abbrev ab.L0.Y1:=Unit
abbrev ab.L0.X1:=jh
def ab.L0.iZ:ab.L0.X1->Exit×AS:=λx=>(.exit 0,⟨([.undef,.eW nU x]++bE 71 []),[],(List.replicate 73 [])⟩)
abbrev ab.L0.X:=(ab.L0.X0)⊕(ab.L0.X1)
abbrev ab.L0.Y:=(ab.L0.Y0)⊕(ab.L0.Y1)
def ab.L0.out:ab.L0.X->Out (Exit×AS):=λx=> .br x.isLeft (.get x.getLeft? λa=> .ok (ab.L0.eR a)) (.get x.getRight? λb=> .ok (ab.L0.iZ b))
def ab.L0.add:ab.L0.D->ab.L0.Y->ab.L0.X:=λ(uP,i) y=>match y with | .inl y=> .inl y | .inr z=> .inr (uP)
abbrev ab.L1.D:=jh×Int
def ab.L1.st:ab.L1.D->AS:=λ(DA,KE)=>⟨([.undef,.eW nU DA,.undef,.undef,.d ti KE]++bE 68 []),[],(List.replicate 73 [])⟩
abbrev ab.L1.Y0:=Unit
abbrev ab.L1.X0:=Unit
def ab.L1.eR:ab.L1.X0->Exit×AS:=λx=>(.ret,⟨([.undef,.undef,.d .bool false]++bE 70 []),[],(List.replicate 73 [])⟩)
abbrev ab.L1.Y1:=Unit
abbrev ab.L1.X1:=Unit
def ab.L1.iZ:ab.L1.X1->Exit×AS:=λx=>(.exit 2,⟨(bE 73 []),[],(List.replicate 73 [])⟩)
abbrev ab.L1.X:=(ab.L1.X0)⊕(ab.L1.X1)
abbrev ab.L1.Y:=(ab.L1.Y0)⊕(ab.L1.Y1)
def ab.L1.out:ab.L1.X->Out (Exit×AS):=λx=> .br x.isLeft (.get x.getLeft? λa=> .ok (ab.L1.eR a)) (.get x.getRight? λb=> .ok (ab.L1.iZ b))
def ab.L1.add:ab.L1.D->ab.L1.Y->ab.L1.X:=λ(DA,KE) y=>match y with | .inl y=> .inl y | .inr z=> .inr (z)
abbrev ab.L2.D:=jh×Int×Int
def ab.L2.st:ab.L2.D->AS:=λ(GY,Gk,kv)=>⟨([.undef,.eW nU GY,.undef,.undef,.d ti Gk,.d ti kv]++bE 67 []),[],(List.replicate 73 [])⟩
abbrev ab.L2.Y0:=Unit
abbrev ab.L2.X0:=Unit
def ab.L2.eR:ab.L2.X0->Exit×AS:=λx=>(.ret,⟨([.undef,.undef,.d .bool false]++bE 70 []),[],(List.replicate 73 [])⟩)
abbrev ab.L2.Y1:=Unit
abbrev ab.L2.X1:=jh×Int
def ab.L2.iZ:ab.L2.X1->Exit×AS:=λx=>(.exit 4,⟨([.undef,.eW nU x.1,.undef,.undef,.d ti x.2]++bE 68 []),[],(List.replicate 73 [])⟩)
abbrev ab.L2.X:=(ab.L2.X0)⊕(ab.L2.X1)
abbrev ab.L2.Y:=(ab.L2.Y0)⊕(ab.L2.Y1)
def ab.L2.out:ab.L2.X->Out (Exit×AS):=λx=> .br x.isLeft (.get x.getLeft? λa=> .ok (ab.L2.eR a)) (.get x.getRight? λb=> .ok (ab.L2.iZ b))
def ab.L2.add:ab.L2.D->ab.L2.Y->ab.L2.X:=λ(GY,Gk,kv) y=>match y with | .inl y=> .inl y | .inr z=> .inr ((GY,Gk))
abbrev ab.D:=jh
abbrev ab.Y:=Bool
def ab.L0.bf:ab.L0.D->Prop:=λ(t,i)=>t.1.length<=1000000000/\∃k:Nat,k<=t.1.length/\i=k
def ab.L0.F:ab.L0.D->ab.L0.Y:=λ(t,i)=>if(List.drop (Int.toNat i) t.1).all nR then .inr () else .inl ()
def ab.L2.bf:ab.L2.D->Prop:=λ(t,j,i)=>(nth lR t.2.1 (Int.toNat j)).2.1.1.length<=1000000000/\∃k:Nat,k<=(nth lR t.2.1 (Int.toNat j)).2.1.1.length/\i=k/\(0<=j/\j < (t.2.1.length:Int))
def ab.L2.F:ab.L2.D->ab.L2.Y:=λ(t,j,i)=>if(List.drop (Int.toNat i) (nth lR t.2.1 (Int.toNat j)).2.1.1).all mo then .inr () else .inl ()
def ab.L1.bf:ab.L1.D->Prop:=λ(t,i)=>t.2.1.length<=1000000000/\∃k:Nat,k<=t.2.1.length/\i=k
def ab.L1.F:ab.L1.D->ab.L1.Y:=λ(t,i)=>if(List.drop (Int.toNat i) t.2.1).all kk then .inr () else .inl ()
def ab.bf:ab.D->Prop:=λ_=>True
def ab.F:ab.D->ab.Y:=λt=>vJ t
def ab.L0.E:=eS.jG ab.L0.st ab.L0.bf ab.L0.add ab.L0.F ab.L0.out
def ab.L0.call:ab.L0.D->Option ab.L0.X:=mz ab.L0.E ab.L0.st
def ab.L1.E:=eS.jG ab.L1.st ab.L1.bf ab.L1.add ab.L1.F ab.L1.out
def ab.L1.call:ab.L1.D->Option ab.L1.X:=mz ab.L1.E ab.L1.st
def ab.L2.E:=eS.jG ab.L2.st ab.L2.bf ab.L2.add ab.L2.F ab.L2.out
def ab.L2.call:ab.L2.D->Option ab.L2.X:=mz ab.L2.E ab.L2.st
def ab:Fs Tryz.prog ab.bf bS ab.F:=fS 49 Tryz.f49 (λt=>([.d nU t],[])) (λx=>⟨.d .bool x,[],[]⟩) [some nU] [] {loops:=qP [(4,{bI:=[1,3]}),(9,{bI:=[1,4]}),(14,{bI:=[1,4,5]})],outs:=qO [(4,{bI:=[1]},{bI:=[2]}),(9,{},{bI:=[2]}),(14,{bI:=[1,4]},{bI:=[2]})],jK:=sm [(4,ab.L0.E),(9,ab.L1.E),(14,ab.L2.E)]}
def ab.L0.R:= @jC Tryz.prog (oO ab.G) ab.an 0 Tryz.f49 0 _ ab.L0.st
abbrev ab.L0.Ok:=qq Tryz.prog (oO ab.G) ab.an 0 Tryz.f49 0 ab.L0.st ab.L0.bf ab.L0.add ab.L0.F ab.L0.out
def ab.L1.R:= @jC Tryz.prog (oO ab.G) ab.an 0 Tryz.f49 1 _ ab.L1.st
abbrev ab.L1.Ok:=qq Tryz.prog (oO ab.G) ab.an 0 Tryz.f49 1 ab.L1.st ab.L1.bf ab.L1.add ab.L1.F ab.L1.out
def ab.L2.R:= @jC Tryz.prog (oO ab.G) ab.an 0 Tryz.f49 2 _ ab.L2.st
abbrev ab.L2.Ok:=qq Tryz.prog (oO ab.G) ab.an 0 Tryz.f49 2 ab.L2.st ab.L2.bf ab.L2.add ab.L2.F ab.L2.out
theorem ab.L0.run:o9 ab.L0.call ab.L0.bf ab.L0.add ab.L0.F:=rW (rT [.d nU,.d ti] λ_=>by kernel_rfl)
theorem ab.L0.dA:rM @ab.L0.R ab.L0.st ab.L0.bf ab.L0.add ab.L0.F ab.L0.out ab.L0.Ok:=sI
theorem ab.L0.step{R:Type}(uP:jh)(i:Int)(kn:AS->Option R)(kx:Exit->AS->Option R):ab.L0.R (uP,i) kn kx=
  aO ((ju i (((List.length uP.1):Nat):Int))) (
   aO (gK i (((List.length uP.1):Nat):Int)) (
   aO ((pv (((List.length (nth jL uP.1 (Int.toNat i)).2.1.2.1):Nat):Int) (14:Int))) (
    kx (ab.L0.eR ()).1 (ab.L0.eR ()).2) (
    kn (ab.L0.st (uP,(bW .i64 i (1:Int)))))) none) (
   kx (ab.L0.iZ uP).1 (ab.L0.iZ uP).2):=by kernel_rfl
theorem ab.L1.run:o9 ab.L1.call ab.L1.bf ab.L1.add ab.L1.F:=rW (rT [.d nU,.d ti] λ_=>by kernel_rfl)
theorem ab.L1.dA:rM @ab.L1.R ab.L1.st ab.L1.bf ab.L1.add ab.L1.F ab.L1.out ab.L1.Ok:=sI
theorem ab.L1.step{R:Type}(DA:jh)(KE:Int)(kn:AS->Option R)(kx:Exit->AS->Option R):ab.L1.R (DA,KE) kn kx=
  aO ((ju KE (((List.length DA.2.1):Nat):Int))) (
   aO (gK KE (((List.length DA.2.1):Nat):Int)) (
   aO ((pv (((List.length (nth lR DA.2.1 (Int.toNat KE)).2.1.1):Nat):Int) (6:Int))) (
    kx (ab.L1.eR ()).1 (ab.L1.eR ()).2) (
    aA (ab.L2.call (DA,KE,(0:Int))) λx1=>
    aO (x1.isLeft) (
     aA (x1.getLeft?) λa2=>
     kx (ab.L1.eR ()).1 (ab.L1.eR ()).2) (
     aA (x1.getRight?) λb3=>
     kn (ab.L1.st (b3.1,(bW .i64 b3.2 (1:Int))))))) none) (
   kx (ab.L1.iZ ()).1 (ab.L1.iZ ()).2):=by kernel_rfl
theorem ab.L2.run:o9 ab.L2.call ab.L2.bf ab.L2.add ab.L2.F:=rW (rT [.d nU,.d ti,.d ti] λ_=>by kernel_rfl)
theorem ab.L2.dA:rM @ab.L2.R ab.L2.st ab.L2.bf ab.L2.add ab.L2.F ab.L2.out ab.L2.Ok:=sI
theorem ab.L2.step{R:Type}(GY:jh)(Gk:Int)(kv:Int)(kn:AS->Option R)(kx:Exit->AS->Option R):ab.L2.R (GY,Gk,kv) kn kx=
  aO (gK Gk (((List.length GY.2.1):Nat):Int)) (
  aO ((ju kv (((List.length (nth lR GY.2.1 (Int.toNat Gk)).2.1.1):Nat):Int))) (
   aO (gK Gk (((List.length GY.2.1):Nat):Int)) (
   aO (gK kv (((List.length (nth lR GY.2.1 (Int.toNat Gk)).2.1.1):Nat):Int)) (
   aO ((pv (((List.length (nth o6 (nth lR GY.2.1 (Int.toNat Gk)).2.1.1 (Int.toNat kv)).1):Nat):Int) (14:Int))) (
    kx (ab.L2.eR ()).1 (ab.L2.eR ()).2) (
    kn (ab.L2.st (GY,Gk,(bW .i64 kv (1:Int)))))) none) none) (
   kx (ab.L2.iZ (GY,Gk)).1 (ab.L2.iZ (GY,Gk)).2)) none:=by kernel_rfl
theorem ab.eq{R:Type}(t)(k:K1 R):ab.A t k=
  aO ((pv (t.1.length:Int) 66)) (
   k (ab.out false)) (
   aO ((pv (t.2.1.length:Int) 66)) (
    k (ab.out false)) (
    aA (ab.L0.call (t,0)) λx1=>
    aO (x1.isLeft) (
     aA (x1.getLeft?) λa2=>
     k (ab.out false)) (
     aA (x1.getRight?) λb3=>
     aA (ab.L1.call (b3,0)) λx7=>
     aO (x7.isLeft) (
      aA (x7.getLeft?) λa8=>
      k (ab.out false)) (
      aA (x7.getRight?) λb9=>
      k (ab.out true))))):=by kernel_rfl
theorem ab.L0.ok:ab.L0.Ok:=by
 refine ab.L0.dA (λ(t,i)=>t.1.length - Int.toNat i) ?_
 rintro⟨t,i⟩ ⟨hlen,k,hk,rfl⟩
 have hlen:t.1.length<=1000000000:=hlen
 have hk:k<=t.1.length:=hk
 by_cases h:k < t.1.length
 ·have n1:nth jL t.1 k=t.1[k]:=dR (t:=jL) h
  have hd:(List.drop k t.1).all nR=(nR t.1[k] && (List.drop (k+1) t.1).all nR):=by rw[aB h,fD]
  have step:∀ {R:Type} (kn:AS->Option R) (kx:Exit->AS->Option R),ab.L0.R (t,(k:Int)) kn kx=aO (nR t.1[k]) (kn (ab.L0.st (t,((k+1:Nat):Int)))) (kx (ab.L0.eR ()).1 (ab.L0.eR ()).2):=by
   intro R kn kx
   rw[ab.L0.step,bq (by omega),bM (show(0:Int)<=(k:Int) by omega) (by omega),aa,n1]
   simp only[aj]
   rw[N.rO (by omega)]
   unfold nR
   by_cases hs:t.1[k].2.1.2.1.length<=14
   ·rw[cR (by omega),aY hs];rfl
   ·rw[db (by omega),cg hs];rfl
  cases hp:nR t.1[k]
  ·right
   refine⟨ab.L0.eR (),?_,λkn kx=> ?_⟩
   ·simp only[ab.L0.add,ab.L0.F,aa,hd,hp,eM,bN,if_false]
    rfl
   ·rw[step,hp,aq]
  ·left
   refine⟨(t,((k+1:Nat):Int)),⟨hlen,k+1,by omega,rfl⟩,by simp only[aa];omega,?_,λkn kx=> ?_⟩
   ·simp only[ab.L0.add,ab.L0.F,aa,hd,hp,ck]
   ·rw[step,hp,aj]
 ·right
  obtain rfl:k=t.1.length:=by omega
  refine⟨ab.L0.iZ t,?_,λkn kx=> ?_⟩
  ·simp only[ab.L0.add,ab.L0.F,aa,bG]
   rfl
  ·rw[ab.L0.step,bn (by omega),aq]
theorem ab.L2.ok:ab.L2.Ok:=by
 refine ab.L2.dA (λ(t,j,i)=>(nth lR t.2.1 (Int.toNat j)).2.1.1.length - Int.toNat i) ?_
 rintro⟨t,j,i⟩ ⟨hlen,k,hk,rfl,hj⟩
 have hlen:(nth lR t.2.1 (Int.toNat j)).2.1.1.length<=1000000000:=hlen
 have hk:k<=(nth lR t.2.1 (Int.toNat j)).2.1.1.length:=hk
 have hj:0<=j/\j < (t.2.1.length:Int):=hj
 by_cases h:k < (nth lR t.2.1 (Int.toNat j)).2.1.1.length
 ·have n1:nth o6 (nth lR t.2.1 (Int.toNat j)).2.1.1 k=(nth lR t.2.1 (Int.toNat j)).2.1.1[k]:=dR (t:=o6) h
  have hd:(List.drop k (nth lR t.2.1 (Int.toNat j)).2.1.1).all mo=(mo (nth lR t.2.1 (Int.toNat j)).2.1.1[k] && (List.drop (k+1) (nth lR t.2.1 (Int.toNat j)).2.1.1).all mo):=by rw[aB h,fD]
  have step:∀ {R:Type} (kn:AS->Option R) (kx:Exit->AS->Option R),ab.L2.R (t,j,(k:Int)) kn kx=aO (mo (nth lR t.2.1 (Int.toNat j)).2.1.1[k]) (kn (ab.L2.st (t,j,((k+1:Nat):Int)))) (kx (ab.L2.eR ()).1 (ab.L2.eR ()).2):=by
   intro R kn kx
   rw[ab.L2.step,bM hj.1 hj.2,aj,bq (by omega),bM (show(0:Int)<=(k:Int) by omega) (by omega),aa,n1]
   simp only[aj]
   rw[N.rO (by omega)]
   unfold mo
   by_cases hs:(nth lR t.2.1 (Int.toNat j)).2.1.1[k].1.length<=14
   ·rw[cR (by omega),aY hs];rfl
   ·rw[db (by omega),cg hs];rfl
  cases hp:mo (nth lR t.2.1 (Int.toNat j)).2.1.1[k]
  ·right
   refine⟨ab.L2.eR (),?_,λkn kx=> ?_⟩
   ·simp only[ab.L2.add,ab.L2.F,aa,hd,hp,eM,bN,if_false]
    rfl
   ·rw[step,hp,aq]
  ·left
   refine⟨(t,j,((k+1:Nat):Int)),⟨hlen,k+1,by omega,rfl,hj⟩,by simp only[aa];omega,?_,λkn kx=> ?_⟩
   ·simp only[ab.L2.add,ab.L2.F,aa,hd,hp,ck]
   ·rw[step,hp,aj]
 ·right
  obtain rfl:k=(nth lR t.2.1 (Int.toNat j)).2.1.1.length:=by omega
  refine⟨ab.L2.iZ (t,j),?_,λkn kx=> ?_⟩
  ·simp only[ab.L2.add,ab.L2.F,aa,bG]
   rfl
  ·rw[ab.L2.step,bM hj.1 hj.2,aj,bn (by omega),aq]
theorem ab.L1.ok:ab.L1.Ok:=by
 refine ab.L1.dA (λ(t,i)=>t.2.1.length - Int.toNat i) ?_
 rintro⟨t,i⟩ ⟨hlen,k,hk,rfl⟩
 have hlen:t.2.1.length<=1000000000:=hlen
 have hk:k<=t.2.1.length:=hk
 by_cases h:k < t.2.1.length
 ·have n1:nth lR t.2.1 k=t.2.1[k]:=dR (t:=lR) h
  have hd:(List.drop k t.2.1).all kk=(kk t.2.1[k] && (List.drop (k+1) t.2.1).all kk):=by rw[aB h,fD]
  have step:∀ {R:Type} (kn:AS->Option R) (kx:Exit->AS->Option R),ab.L1.R (t,(k:Int)) kn kx=aO (kk t.2.1[k]) (kn (ab.L1.st (t,((k+1:Nat):Int)))) (kx (ab.L1.eR ()).1 (ab.L1.eR ()).2):=by
   intro R kn kx
   rw[ab.L1.step,bq (by omega),bM (show(0:Int)<=(k:Int) by omega) (by omega),aa,n1]
   simp only[aj]
   unfold kk
   by_cases hs:t.2.1[k].2.1.1.length<=6
   ·rw[cR (by omega),aY hs,aq,ab.L2.run (d:=(t,(k:Int),0)) ⟨by rw[aa,n1];show t.2.1[k].2.1.1.length<=_;omega,0,bj _,rfl,by show(0:Int)<=(k:Int);omega,by show(k:Int) < (t.2.1.length:Int);omega⟩]
    simp only[ah,ab.L2.add,ab.L2.F,aa,n1,cV,aL,ck]
    cases t.2.1[k].2.1.1.all mo
    ·rfl
    ·simp only[if_true,Sum.isLeft_inr,Sum.getRight?_inr,aq,ah,aj]
     rw[N.rO (by omega)]
   ·rw[db (by omega),cg hs];rfl
  cases hp:kk t.2.1[k]
  ·right
   refine⟨ab.L1.eR (),?_,λkn kx=> ?_⟩
   ·simp only[ab.L1.add,ab.L1.F,aa,hd,hp,eM,bN,if_false]
    rfl
   ·rw[step,hp,aq]
  ·left
   refine⟨(t,((k+1:Nat):Int)),⟨hlen,k+1,by omega,rfl⟩,by simp only[aa];omega,?_,λkn kx=> ?_⟩
   ·simp only[ab.L1.add,ab.L1.F,aa,hd,hp,ck]
   ·rw[step,hp,aj]
 ·right
  obtain rfl:k=t.2.1.length:=by omega
  refine⟨ab.L1.iZ (),?_,λkn kx=> ?_⟩
  ·simp only[ab.L1.add,ab.L1.F,aa,bG]
   rfl
  ·rw[ab.L1.step,bn (by omega),aq]
theorem ab.ok:ab.Ok:=by
 intro t _
 rw[ab.eq]
 simp only[bS,ab.F,vJ]
 by_cases h1:t.1.length<=66
 ·by_cases h2:t.2.1.length<=66
  ·rw[cR (by omega),cR (by omega),aq,aq,aY ⟨h1,h2⟩,ab.L0.run (d:=(t,0)) ⟨by show t.1.length<=_;omega,0,bj _,rfl⟩]
   simp only[ah,ab.L0.add,ab.L0.F,cV,aL,ck]
   cases t.1.all nR
   ·rfl
   ·simp only[if_true,Sum.isLeft_inr,Sum.getRight?_inr,aq,ah,ck]
    rw[ab.L1.run (d:=(t,0)) ⟨by show t.2.1.length<=_;omega,0,bj _,rfl⟩]
    simp only[ah,ab.L1.add,ab.L1.F,cV,aL]
    cases t.2.1.all kk <;> rfl
  ·rw[cR (by omega),db (by omega),cg (λx=>h2 x.2)];rfl
 ·rw[db (by omega),cg (λx=>h1 x.1)];rfl
theorem ab.run:ab.RS:=rE [.d nU] ab
def ab.sg:=ab.gl ab.ok 3 ⟨.jG ab.L0.ok,⟨.jG ab.L1.ok,⟨.jG ab.L2.ok,trivial⟩⟩⟩
abbrev mX.D:=jm×jm
abbrev mX.Y:=Int
def xm(a b:jm):Int:=KO [xk a.1 b.1,qF a.2.1 b.2.1]
def mX.bf:mX.D->Prop:=λ(a,b)=>a.1.length=32/\b.1.length=32
def mX.F:mX.D->mX.Y:=λ(a,b)=>xm a b
def mX:Fs Tryz.prog mX.bf bS mX.F:=fS 80 Tryz.f80 (λ(a,b)=>([.d gX a,.d gX b],[])) (λx=>⟨.d ti x,[],[]⟩) [some gX,some gX] [lj.sg,iR.sg,eX.sg]
theorem mX.eq{R:Type}(a b)(k:K1 R):mX.A (a,b) k=
 aA (lj.call ((cut a.1 0 32),(cut b.1 0 32))) λx1=>
 aA (iR.call (a.2.1,b.2.1)) λx2=>
 aA (eX.call [x1,x2]) λx3=>
 k (mX.out x3):=by kernel_rfl
theorem mX.ok:mX.Ok:=by
 rintro⟨a,b⟩ ⟨ha,hb⟩
 have ha:a.1.length=32:=ha
 have hb:b.1.length=32:=hb
 have c1:cut a.1 0 32=a.1:=gR ha
 have c2:cut b.1 0 32=b.1:=gR hb
 rw[mX.eq,c1,c2,lj.run (d:=(a.1,b.1)) trivial]
 simp only[ah,bS,lj.F]
 rw[iR.run (d:=(a.2.1,b.2.1)) trivial]
 simp only[ah,bS,iR.F]
 rw[eX.run (d:=[xk a.1 b.1,qF a.2.1 b.2.1]) (by show 2<=_;decide)]
 simp only[ah,bS,eX.F,bS,mX.F,xm]
theorem mX.run:mX.RS:=rE [.d gX,.d gX] mX
def mX.sg:=mX.gl mX.ok
def lx:List Int->List Int->Int
 |x::xs,y::ys=>if x≠y then(if x < y then -1 else 1) else lx xs ys
 |_,_=>0
theorem Bc:∀a,lx a a=0
 |[]=>rfl
 |x::a=>by simp[lx,Bc a]
theorem Ic:∀ {a b:List Int},a.length=b.length->lx a b=0->a=b
 |[],[],_,_=>rfl
 |[],_::_,h,_=>by simp at h
 |_::_,[],h,_=>by simp at h
 |x::a,y::b,h,h2=>by
  simp only[lx]at h2
  split at h2
  ·split at h2 <;> omega
  ·rename_i e
   have e:x=y:=by omega
   rw[e,Ic (by simpa using h) h2]
theorem pR:∀a b:List Int,lx b a= - lx a b
 |[],[]=>rfl
 |[],_::_=>rfl
 |_::_,[]=>rfl
 |x::a,y::b=>by
  simp only[lx]
  by_cases h:x=y
  ·rw[if_neg (by omega),if_neg (by omega),pR a b]
  ·rw[if_pos (by omega),if_pos h]
   by_cases h2:x < y
   ·rw[if_neg (by omega),if_pos h2];rfl
   ·rw[if_pos (by omega),if_neg h2]
theorem qR:∀ {a b c:List Int},a.length=b.length->b.length=c.length->lx a b<=0->lx b c<=0->lx a c<=0/\(lx a c=0->lx a b=0/\lx b c=0)
 |[],[],[],_,_,_,_=>by simp[lx]
 |x::a,y::b,z::c,h1,h2,h3,h4=>by
  have ih:=qR (a:=a) (b:=b) (c:=c) (by simpa using h1) (by simpa using h2)
  simp only[lx]at h3 h4 ⊢
  by_cases e1:x=y
  ·by_cases e2:y=z
   ·rw[if_neg (by omega)]at h3 h4
    rw[if_neg (by omega),if_neg (by omega),if_neg (by omega)]
    exact ih h3 h4
   ·rw[if_neg (by omega)]at h3
    rw[if_pos e2]at h4
    rw[if_pos (by omega)]
    by_cases e3:y < z
    ·rw[if_pos (by omega)]
     exact⟨by omega,λh=>by omega⟩
    ·rw[if_neg e3]at h4;omega
  ·rw[if_pos e1]at h3
   by_cases e3:x < y
   ·by_cases e2:y=z
    ·rw[if_pos (by omega),if_pos (by omega)]
     exact⟨by omega,λh=>by omega⟩
    ·rw[if_pos e2]at h4
     by_cases e4:y < z
     ·rw[if_pos (by omega),if_pos (by omega)]
      exact⟨by omega,λh=>by omega⟩
     ·rw[if_neg e4]at h4;omega
   ·rw[if_neg e3]at h3;omega
 |[],_::_,_,h,_,_,_=>by simp at h
 |_::_,[],_,h,_,_,_=>by simp at h
 |_,[],_::_,_,h,_,_=>by simp at h
 |_,_::_,[],_,h,_,_=>by simp at h
def O0(a b:Int):Int:=if a=0 then b else a
theorem w6{p:Int}{a b:List Int}:lx (p::a) (p::b)=lx a b:=by simp[lx]
theorem rF{p q:Int}{a b:List Int}(h:¬p=q):lx (p::a) (q::b)=if p < q then -1 else 1:=by simp[lx,h]
theorem Fu:∀ {a b:List Int} (x y:Int),a.length=b.length->lx (a++ [x]) (b++ [y])=O0 (lx a b) (qF x y)
 |[],[],x,y,_=>by
  show lx [x] [y]=O0 0 (qF x y)
  simp only[O0,if_true]
  unfold qF
  by_cases h:x=y
  ·subst h
   rw[w6,if_neg (by omega),if_neg (by omega)]
   rfl
  ·rw[rF h]
   by_cases h2:x < y
   ·rw[if_pos h2,if_pos h2]
   ·rw[if_neg h2,if_neg h2,if_pos (by omega)]
 |[],_::_,_,_,h=>by simp at h
 |_::_,[],_,_,h=>by simp at h
 |p::a,q::b,x,y,h=>by
  show lx (p::(a++ [x])) (q::(b++ [y]))=_
  by_cases h2:p=q
  ·subst h2
   rw[w6,w6]
   exact Fu x y (by simpa using h)
  ·rw[rF h2,rF h2]
   by_cases h3:p < q
   ·rw[if_pos h3];rfl
   ·rw[if_neg h3];rfl
def Hu:List UInt8->List UInt8->Int
 |x::xs,y::ys=>if x !=y then(if x < y then -1 else 1) else Hu xs ys
 |_,_=>0
theorem BZ:∀(xs ys:List UInt8),xs.length=ys.length->(match(List.range xs.length).find? λi=>xs[i]! !=ys[i]! with | some i=>if xs[i]! < ys[i]! then(-1:Int) else 1 | none=>0)=Hu xs ys
 |[],[],_=>rfl
 |[],_::_,h=>by simp at h
 |_::_,[],h=>by simp at h
 |x::xs,y::ys,h=>by
  have ih:=BZ xs ys (by simpa using h)
  rw[aC,List.range_succ_eq_map,List.find?_cons]
  simp only[List.getElem!_cons_zero,Hu]
  cases hb:(x !=y) with
  |true=>simp
  |false=>
   simp only[bN,if_false]
   rw[List.find?_map,<-ih]
   have e:((λi=>(x::xs)[i]! !=(y::ys)[i]!)∘Nat.succ)=λi=>xs[i]! !=ys[i]! :=by
    funext i;simp
   rw[e]
   cases(List.range xs.length).find? λi=>xs[i]! !=ys[i]! <;> simp
theorem Fa:∀ {a b:List Int},(∀x∈a,0<=x/\x < 256)->(∀x∈b,0<=x/\x < 256)->Hu (a.map λn=>UInt8.ofNat n.toNat) (b.map λn=>UInt8.ofNat n.toNat)=lx a b
 |[],_,_,_=>by cases ‹List Int› <;> rfl
 |_::_,[],_,_=>rfl
 |x::a,y::b,ha,hb=>by
  have hx:=ha x (aI ..)
  have hy:=hb y (aI ..)
  have ih:=Fa (a:=a) (b:=b) (λz hz=>ha z (aH _ hz)) (λz hz=>hb z (aH _ hz))
  simp only[bX,Hu,lx,ih]
  have e1:(UInt8.ofNat x.toNat).toNat=x.toNat:=by simp[UInt8.toNat_ofNat];omega
  have e2:(UInt8.ofNat y.toNat).toNat=y.toNat:=by simp[UInt8.toNat_ofNat];omega
  by_cases h:x=y
  ·subst h;simp
  ·have fL:(UInt8.ofNat x.toNat !=UInt8.ofNat y.toNat)=true:=by
    rw[bne_iff_ne]
    intro e
    have:=congrArg UInt8.toNat e
    rw[e1,e2]at this
    omega
   rw[fL,if_pos rfl,if_pos h]
   have gO:UInt8.ofNat x.toNat < UInt8.ofNat y.toNat↔x < y:=by
    rw[UInt8.lt_iff_toNat_lt,e1,e2];omega
   by_cases h2:x < y
   ·rw[if_pos (gO.2 h2),if_pos h2]
   ·rw[if_neg (λe=>h2 (gO.1 e)),if_neg h2]
theorem Ji{a b:List Int}(hl:a.length=b.length)(ha:∀x∈a,0<=x/\x < 256)(hb:∀x∈b,0<=x/\x < 256):xk a b=lx a b:=by
 rw[<-Fa ha hb,<-BZ _ _ (by simpa using hl)]
 unfold xk Extern.BytealgCompare.cmp
 have s1:∀l:List Int,(dT l).size=l.length:=λl=>by simp[dT,ByteArray.size]
 have g1:∀(l:List Int) (i:Nat),(dT l)[i]! =(l.map λn=>UInt8.ofNat n.toNat)[i]! :=λl i=>by
  by_cases h:i < (dT l).size
  ·rw[getElem!_pos _ i h]
   have h2:i < (l.map λn=>UInt8.ofNat n.toNat).length:=by simpa[dT,ByteArray.size]using h
   rw[getElem!_pos _ i h2]
   rfl
  ·rw[getElem!_neg _ i h]
   have h2:¬i < (l.map λn=>UInt8.ofNat n.toNat).length:=by simpa[dT,ByteArray.size]using h
   rw[getElem!_neg _ i h2]
 simp only[s1,g1,hl,Nat.min_self,cj]
 cases(List.range b.length).find? λi=>(a.map λn=>UInt8.ofNat n.toNat)[i]! !=(b.map λn=>UInt8.ofNat n.toNat)[i]! <;> simp
def IZ(o:jm):Prop:=o.1.length=32/\∀x∈o.1,0<=x/\x < 256
def nL(o:jm):List Int:=o.1++ [o.2.1]
theorem jI{o:jm}(h:IZ o):(nL o).length=33:=by simp[nL,h.1]
theorem CR{a b:jm}(ha:IZ a)(hb:IZ b)(h:nL a=nL b):a=b:=by
 obtain⟨a1,a2,_⟩:=a
 obtain⟨b1,b2,_⟩:=b
 have h:a1++ [a2]=b1++ [b2]:=h
 have:=List.append_inj' h rfl
 rw[this.1,show a2=b2 by simpa using this.2]
theorem lk{a b:jm}(ha:IZ a)(hb:IZ b):xm a b=lx (nL a) (nL b):=by
 unfold nL xm
 rw[Fu _ _ (ha.1.trans hb.1.symm),Ji (ha.1.trans hb.1.symm) ha.2 hb.2]
 simp only[KO,O0]
 by_cases h:lx a.1 b.1=0
 ·rw[if_pos h,if_neg (λe=>e h)]
  split
  ·rfl
  ·omega
 ·rw[if_neg h,if_pos h]
theorem xn:Kc Tryz.prog gX 80 IZ xm:= {
 bA:=⟨mX.E,mX.sg.h.1 (by rfl),λx y hx hy=>⟨_,mX.run (d:=(x,y)) ⟨hx.1,hy.1⟩,rfl⟩⟩
 enters:=enters_of Tryz.func80 (by kernel_rfl) rfl
 irrefl:=λx hx=>by rw[lk hx hx,Bc];decide
 trans:=λx y z hx hy hz h1 h2=>by
  rw[lk hx hy]at h1
  rw[lk hy hz]at h2
  rw[lk hx hz]
  have:=qR (by rw[jI hx,jI hy]) (by rw[jI hy,jI hz]) (by omega:lx (nL x) (nL y)<=0) (by omega:lx (nL y) (nL z)<=0)
  have h3:=this.1
  by_cases h4:lx (nL x) (nL z)=0
  ·have:=(this.2 h4).1;omega
  ·omega
 ntrans:=λx y z hx hy hz h1 h2=>by
  rw[lk hx hy]at h1
  rw[lk hy hz]at h2
  rw[lk hx hz]
  have e1:=pR (nL x) (nL y)
  have e2:=pR (nL y) (nL z)
  have e3:=pR (nL x) (nL z)
  have:=(qR (by rw[jI hz,jI hy]) (by rw[jI hy,jI hx]) (by omega:lx (nL z) (nL y)<=0) (by omega:lx (nL y) (nL x)<=0)).1
  omega}
theorem xo{x y:jm}(hx:IZ x)(hy:IZ y)(h1:¬xm x y < 0)(h2:¬xm y x < 0):x=y:=by
 rw[lk hx hy]at h1
 rw[lk hy hx,pR]at h2
 exact CR hx hy (Ic (by rw[jI hx,jI hy]) (by omega))
end Go.Ab
namespace Go.Proofs
open Go.Shelf
def Tryz.EL:Go.Shelf.Ren:=⟨λ | 6=>102 | 15=>155 | 14=>166 | 28=>214 | 29=>215 | 20=>226 | 21=>227 | 22=>228 | 23=>229 | 24=>230 | 25=>231 | 26=>232 | 27=>233 | 46=>270 | 47=>256 | 48=>257 | 49=>271 | 50=>272 | 57=>285 | n=>n,λ | 22=>92 | 24=>117 | 25=>179 | 3=>3 | 39=>224 | 0=>0 | 53=>255 | 55=>22 | 4=>4 | 46=>265 | 45=>264 | 50=>66 | 5=>5 | 9=>9 | 66=>298 | 70=>301 | 76=>313 | 77=>314 | n=>n,λ | n=>n⟩
theorem Tryz.IG:Go.Proofs.SlLaysF0.n6 Tryz.prog Tryz.EL:= {
 mixed:=by kernel_rfl
 f6:=⟨Tryz.f102.name,by decide,Tryz.func102.trans (congrArg some (by kernel_rfl))⟩
 f14:=⟨Tryz.f166.name,by decide,Tryz.func166.trans (congrArg some (by kernel_rfl))⟩
 f15:=Tryz.func155.trans (congrArg some (by kernel_rfl))
 f20:=⟨Tryz.f226.name,by decide,Tryz.func226.trans (congrArg some (by kernel_rfl))⟩
 f21:=⟨Tryz.f227.name,by decide,Tryz.func227.trans (congrArg some (by kernel_rfl))⟩
 f22:=⟨Tryz.f228.name,by decide,Tryz.func228.trans (congrArg some (by kernel_rfl))⟩
 f23:=⟨Tryz.f229.name,by decide,Tryz.func229.trans (congrArg some (by kernel_rfl))⟩
 f24:=⟨Tryz.f230.name,by decide,Tryz.func230.trans (congrArg some (by kernel_rfl))⟩
 f25:=⟨Tryz.f231.name,by decide,Tryz.func231.trans (congrArg some (by kernel_rfl))⟩
 f26:=⟨Tryz.f232.name,by decide,Tryz.func232.trans (congrArg some (by kernel_rfl))⟩
 f27:=⟨Tryz.f233.name,by decide,Tryz.func233.trans (congrArg some (by kernel_rfl))⟩
 f28:=Tryz.func214.trans (congrArg some (by kernel_rfl))
 f29:=Tryz.func215.trans (congrArg some (by kernel_rfl))
 f46:=⟨Tryz.f270.name,by decide,Tryz.func270.trans (congrArg some (by kernel_rfl))⟩
 f47:=Tryz.func256.trans (congrArg some (by kernel_rfl))
 f48:=Tryz.func257.trans (congrArg some (by kernel_rfl))
 f49:=⟨Tryz.f271.name,by decide,Tryz.func271.trans (congrArg some (by kernel_rfl))⟩
 f50:=⟨Tryz.f272.name,by decide,Tryz.func272.trans (congrArg some (by kernel_rfl))⟩
 f57:=⟨Tryz.f285.name,by decide,Tryz.func285.trans (congrArg some (by kernel_rfl))⟩
 t0:=Tryz.underlying0
 a0:=Tryz.isAgg0
 z0:=Tryz.sizeOf0
 v0:=Tryz.zeroValue0
 t3:=Tryz.underlying3
 a3:=Tryz.isAgg3
 z3:=Tryz.sizeOf3
 v3:=Tryz.zeroValue3
 t4:=Tryz.underlying4
 a4:=Tryz.isAgg4
 z4:=Tryz.sizeOf4
 v4:=Tryz.zeroValue4
 t5:=Tryz.underlying5
 a5:=Tryz.isAgg5
 z5:=Tryz.sizeOf5
 v5:=Tryz.zeroValue5
 t9:=Tryz.underlying9
 a9:=Tryz.isAgg9
 z9:=Tryz.sizeOf9
 v9:=Tryz.zeroValue9
 t22:=Tryz.underlying92
 a22:=Tryz.isAgg92
 z22:=Tryz.sizeOf92
 v22:=Tryz.zeroValue92
 t25:=Tryz.underlying179
 a25:=Tryz.isAgg179
 z25:=Tryz.sizeOf179
 v25:=Tryz.zeroValue179
 t39:=Tryz.underlying224
 a39:=Tryz.isAgg224
 z39:=Tryz.sizeOf224
 v39:=Tryz.zeroValue224
 t45:=Tryz.underlying264
 a45:=Tryz.isAgg264
 z45:=Tryz.sizeOf264
 v45:=Tryz.zeroValue264
 t46:=Tryz.underlying265
 a46:=Tryz.isAgg265
 z46:=Tryz.sizeOf265
 v46:=Tryz.zeroValue265
 t50:=Tryz.underlying66
 a50:=Tryz.isAgg66
 z50:=Tryz.sizeOf66
 v50:=Tryz.zeroValue66
 t53:=Tryz.underlying255
 a53:=Tryz.isAgg255
 z53:=Tryz.sizeOf255
 v53:=Tryz.zeroValue255
 t55:=Tryz.underlying22
 a55:=Tryz.isAgg22
 z55:=Tryz.sizeOf22
 v55:=Tryz.zeroValue22
 t66:=Tryz.underlying298
 a66:=Tryz.isAgg298
 z66:=Tryz.sizeOf298
 v66:=Tryz.zeroValue298
 t70:=Tryz.underlying301
 a70:=Tryz.isAgg301
 z70:=Tryz.sizeOf301
 v70:=Tryz.zeroValue301
 t76:=Tryz.underlying313
 a76:=Tryz.isAgg313
 z76:=Tryz.sizeOf313
 v76:=Tryz.zeroValue313
 t77:=Tryz.underlying314
 a77:=Tryz.isAgg314
 z77:=Tryz.sizeOf314
 v77:=Tryz.zeroValue314}
end Go.Proofs
namespace Go.Ab
open Go.Proofs
theorem wm{β:Type}{kt:Ty}(hc:kt.comp=true){x:kt.den}{v:β}:∀ {l:List (kt.den×β)},x ∉ l.map (·.1)->gE kt x v l=l++ [(x,v)]
 |[],_=>rfl
 |p::l,h=>by
  rw[s8]
  have h1:¬kt.beq x p.1=true:=λe=>h (by rw[beq_eq kt _ _ hc e];simp)
  rw[if_neg h1,wm hc λe=>h (by simp[e])]
  rfl
theorem jf:gX.comp=true:=rfl
def qs(l:List (jm×y4)):Int:=(l.map λp=>p.2.1.1).sum
theorem lV(p:jm×y4)(l:List (jm×y4)):qs (p::l)=p.2.1.1+qs l:=by simp[qs]
theorem BL(l l':List (jm×y4)):qs (l++l')=qs l+qs l':=by simp[qs]
theorem FK{l l':List (jm×y4)}(h:l.Perm l'):qs l=qs l':=by
 induction h with
 |nil=>rfl
 |cons x _ ih=>rw[lV,lV,ih]
 |swap x y l=>rw[lV,lV,lV,lV];omega
 |trans _ _ h1 h2=>rw[h1,h2]
def OH(l:Lk):Prop:=l.1.length<=1000/\∀b∈l.1,b.1.length<=1000000
end Go.Ab
end
