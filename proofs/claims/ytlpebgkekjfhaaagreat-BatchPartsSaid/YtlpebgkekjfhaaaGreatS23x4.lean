/-
  Made short by a program of mine (wip/tools/mini.py).
-/
import Derived.Test.YtlpebgkekjfhaaaGreatS23x3
import Derived.Test.YtlpebgkekjfhaaaGreatProg
import Derived.Shelf.SlSortCmp.NoneTotal
set_option linter.unusedVariables false
set_option linter.unusedSimpArgs false
set_option maxRecDepth 100000
set_option synthInstance.maxSize 5000
noncomputable section
namespace Go.Ab
open Go.Proofs
abbrev binary.D:=Bs
abbrev binary.Y:=Int
def binary.aY:binary.D->Prop:=λb=>4<=b.length
def binary.F:binary.D->binary.Y:=λb=>vw (PS (b.getD 0 0) (b.getD 1 0) (b.getD 2 0) (b.getD 3 0))
def binary:Fs Tryz.prog binary.aY bU binary.F:=gh 277 Tryz.f277 (λb=>([.d tB b],[])) (λx=>⟨.d (.int .u32) x,[],[]⟩) [some tB]
theorem binary.eq{R:Type}(b)(k:K1 R):binary.A b k=
 aK (fa 0 (b.length:Int)) (
 aK (fa 1 (b.length:Int)) (
 aK (fa 2 (b.length:Int)) (
 aK (fa 3 (b.length:Int)) (
 k (binary.out (du .or .u32 (du .or .u32 (du .or .u32 (mq .u32 (dP .u32 (nth tb b 0)) 24) (mq .u32 (dP .u32 (nth tb b 1)) 16)) (mq .u32 (dP .u32 (nth tb b 2)) 8)) (dP .u32 (nth tb b 3))))) none) none) none) none:=by kernel_rfl
theorem binary.ok:binary.Ok:=by
 intro b h
 have h:4<=b.length:=h
 rw[binary.eq,bJ (by omega) (by omega),bJ (by omega) (by omega),bJ (by omega) (by omega),bJ (by omega) (by omega)]
 simp only[aj,KC,Dv,sJ]
 rfl
theorem binary.run:binary.RS:=rE [.d tB] binary
def binary.sg:=binary.gC binary.ok
abbrev eb.D:=Int×Int
abbrev eb.Y:=Int
def rl(w:W)(k:Nat):W:=w <<< k ||| w >>> (32 - k)
def eb.aY:eb.D->Prop:=λ(x,k)=>0<=x/\x < 4294967296
def eb.F:eb.D->eb.Y:=λ(x,k)=>vw (rl (BitVec.ofInt 32 x) (k%32).toNat)
def eb:Fs Tryz.prog eb.aY bU eb.F:=gh 248 Tryz.f248 (λ(x,kv)=>([.d (.int .u32) x,.d ti kv],[])) (λx=>⟨.d (.int .u32) x,[],[]⟩) [some (.int .u32),some ti]
theorem eb.eq{R:Type}(x kv)(k:K1 R):eb.A (x,kv) k=
 aK (mf (du .and .u64 (dP .u64 kv) 31)) (
 aK (mf (dn .u64 32 (du .and .u64 (dP .u64 kv) 31))) (
 k (eb.out (du .or .u32 (mq .u32 x (du .and .u64 (dP .u64 kv) 31)) (cg .u32 x (dn .u64 32 (du .and .u64 (dP .u64 kv) 31)))))) none) none:=by kernel_rfl
theorem Oo(k:Int):du .and .u64 (dP .u64 k) 31=k%32:=by
 have e:(31:Int)=vw (31:BitVec 64):=rfl
 rw[KD,e,G0]
 simp only
 have:(31:BitVec 64)=BitVec.ofNat 64 (2^5 - 1):=rfl
 unfold vw
 rw[BitVec.toNat_and,lb,show(31:BitVec 64).toNat=2^5 - 1 from rfl,Nat.and_two_pow_sub_one_eq_mod]
 omega
theorem eb.ok:eb.Ok:=by
 rintro⟨x,k⟩ ⟨h1,h2⟩
 have e1:dn .u64 32 (k%32)=32 - k%32:=by
  unfold dn
  rw[wrap_u64,jH]
  omega
 have hx:x=vw (BitVec.ofInt 32 x):=by rw[jH];omega
 rw[eb.eq,Oo,e1,pO (by omega),pO (by omega)]
 simp only[aj]
 have e2:du .or .u32 (mq .u32 x (k%32)) (cg .u32 x (32 - k%32))=vw (rl (BitVec.ofInt 32 x) (k%32).toNat):=by
  conv=>lhs;rw[hx]
  rw[Dv,yT,sJ]
  simp only[rl]
  congr 3
  omega
 rw[e2]
 rfl
theorem eb.run:eb.RS:=rE [.d (.int .u32),.d ti] eb
def eb.sg:=eb.gC eb.ok
theorem eb.at(w:W)(k:Int):eb.call (vw w,k)=some (vw (rl w (k%32).toNat)):=by
 have h:eb.aY (vw w,k):=⟨Bu w,by have:=Ma w;simpa using this⟩
 rw[eb.run h]
 show some (vw (rl (BitVec.ofInt 32 (vw w)) (k%32).toNat))=_
 rw[nq]
abbrev table.D:=Unit
abbrev table.Y:=(List Int)
def table.aY:table.D->Prop:=λ_=>True
def table.F:table.D->table.Y:=λ_=>Dw
def table:Fs Tryz.prog table.aY bU table.F:=gh 247 Tryz.f247 (λ_=>([],[])) (λx=>⟨.d (.arr 64 (.int .u32)) x,[],[]⟩) []
theorem table.eq{R:Type}(d)(k:K1 R):table.A d k=
 k (table.out [1116352408,1899447441,3049323471,3921009573,961987163,1508970993,2453635748,2870763221,3624381080,310598401,607225278,1426881987,1925078388,2162078206,2614888103,3248222580,3835390401,4022224774,264347078,604807628,770255983,1249150122,1555081692,1996064986,2554220882,2821834349,2952996808,3210313671,3336571891,3584528711,113926993,338241895,666307205,773529912,1294757372,1396182291,1695183700,1986661051,2177026350,2456956037,2730485921,2820302411,3259730800,3345764771,3516065817,3600352804,4094571909,275423344,430227734,506948616,659060556,883997877,958139571,1322822218,1537002063,1747873779,1955562222,2024104815,2227730452,2361852424,2428436474,2756734187,3204031479,3329325298]):=by kernel_rfl
theorem table.ok:table.Ok:=by
 intro d _
 rw[table.eq]
 rfl
theorem table.run:table.RS:=rE [] table
def table.sg:=table.gC table.ok
abbrev first.D:=Unit
abbrev first.Y:=(List Int)
def first.aY:first.D->Prop:=λ_=>True
def first.F:first.D->first.Y:=λ_=>oZ.l
def first:Fs Tryz.prog first.aY bU first.F:=gh 201 Tryz.f201 (λ_=>([],[])) (λx=>⟨.d (.arr 8 (.int .u32)) x,[],[]⟩) []
theorem first.eq{R:Type}(d)(k:K1 R):first.A d k=
 k (first.out [1779033703,3144134277,1013904242,2773480762,1359893119,2600822924,528734635,1541459225]):=by kernel_rfl
theorem first.ok:first.Ok:=by
 intro d _
 rw[first.eq]
 rfl
theorem first.run:first.RS:=rE [] first
def first.sg:=first.gC first.ok
abbrev schedule.L0.D:=Bs×Int×(List Int)
abbrev schedule.L0.Y:=(List Int)
abbrev schedule.D:=Bs
abbrev schedule.Y:=(List Int)
def wl(l:List W):List Int:=l.map vw
def rO(l:List W):List Int:=wl l++List.replicate (64 - l.length) 0
def rk(b:List Int)(k:Nat):List W:=if k<=16 then(words b).take k else PJ (words b) (k - 16)
def schedule.L0.aY:schedule.L0.D->Prop:=λ(b,t8,n2)=>64<=b.length/\∃k:Nat,k<=64/\t8=k/\n2=rO (rk b k)
def schedule.L0.F:schedule.L0.D->schedule.L0.Y:=λ(b,t8,n2)=>wl (sched b)
def schedule.aY:schedule.D->Prop:=λb=>64<=b.length
def schedule.F:schedule.D->schedule.Y:=λb=>wl (sched b)
def schedule.L0:Ls schedule.L0.aY bU schedule.L0.F:=tq (λ(uH,t8,n2)=>⟨([.d tB uH,.undef,.ptr (.new 2 0) 0 [] 0]++bB 5 ([.d ti t8]++bB 52 [])),[],([[],[],[.obj 0 false (.d (.arr 64 (.int .u32)) n2)]]++cR 58 [])⟩) (λx=>(.exit 0,⟨([.undef,.undef,.ptr (.new 2 0) 0 [] 0]++bB 58 []),[],([[],[],[.obj 0 false (.d (.arr 64 (.int .u32)) x)]]++cR 58 [])⟩))
def schedule:Fs Tryz.prog schedule.aY bU schedule.F:=gh 246 Tryz.f246 (λb=>([.d tB b],[])) (λx=>⟨.d (.arr 64 (.int .u32)) x,[],[]⟩) [some tB] [binary.sg,eb.sg] {loops:=rH [(2,{bI:=[0,2,8],sites:=[2]})],outs:=rG [(2,{bI:=[2],sites:=[2]},{bI:=[2]})],jP:=sh [(2,schedule.L0.E)]}
theorem schedule.L0.run:schedule.L0.RS:=rL [.d tB,.d ti,.d (.slice (.int .u32))] schedule.L0
theorem schedule.L0.step{R:Type}(uH t8 n2)(kn:K2 R)(kx:K3 R):schedule.R 0 schedule.L0 (uH,t8,n2) kn kx=
  aK ((iI t8 64)) (
   aK ((iI t8 16)) (
    aK (inc (gz .i64 4 t8) (uH.length:Int)) (
    aA (binary.call (cut uH (Int.toNat (gz .i64 4 t8)) ((List.length uH) - (Int.toNat (gz .i64 4 t8))))) λx1=>
    aK (fa t8 64) (
    aK (decide ((Int.toNat t8) < (List.length n2))) (
    aK (decide ((((Int.toNat t8)*1)+0)=(0+((Int.toNat t8)*1)))) (
    aK (decide ((Int.toNat t8) < (List.length n2))) (
    kn (schedule.L0.st (uH,(bN .i64 t8 1),(List.set n2 (Int.toNat t8) x1)))) none) none) none) none) none) (
    aK (fa (dn .i64 t8 15) 64) (
    aK (decide ((Int.toNat (dn .i64 t8 15)) < (List.length n2))) (
    aK (decide ((((Int.toNat (dn .i64 t8 15))*1)+0)=(0+((Int.toNat (dn .i64 t8 15))*1)))) (
    aK (fa (dn .i64 t8 2) 64) (
    aK (decide ((Int.toNat (dn .i64 t8 2)) < (List.length n2))) (
    aK (decide ((((Int.toNat (dn .i64 t8 2))*1)+0)=(0+((Int.toNat (dn .i64 t8 2))*1)))) (
    aA (eb.call ((nth (.int .u32) n2 (Int.toNat (dn .i64 t8 15))),(-7))) λx2=>
    aA (eb.call ((nth (.int .u32) n2 (Int.toNat (dn .i64 t8 15))),(-18))) λx3=>
    aA (eb.call ((nth (.int .u32) n2 (Int.toNat (dn .i64 t8 2))),(-17))) λx4=>
    aA (eb.call ((nth (.int .u32) n2 (Int.toNat (dn .i64 t8 2))),(-19))) λx5=>
    aK (fa (dn .i64 t8 16) 64) (
    aK (decide ((Int.toNat (dn .i64 t8 16)) < (List.length n2))) (
    aK (decide ((((Int.toNat (dn .i64 t8 16))*1)+0)=(0+((Int.toNat (dn .i64 t8 16))*1)))) (
    aK (fa (dn .i64 t8 7) 64) (
    aK (decide ((Int.toNat (dn .i64 t8 7)) < (List.length n2))) (
    aK (decide ((((Int.toNat (dn .i64 t8 7))*1)+0)=(0+((Int.toNat (dn .i64 t8 7))*1)))) (
    aK (fa t8 64) (
    aK (decide ((Int.toNat t8) < (List.length n2))) (
    aK (decide ((((Int.toNat t8)*1)+0)=(0+((Int.toNat t8)*1)))) (
    aK (decide ((Int.toNat t8) < (List.length n2))) (
    kn (schedule.L0.st (uH,(bN .i64 t8 1),(List.set n2 (Int.toNat t8) (bN .u32 (bN .u32 (bN .u32 (nth (.int .u32) n2 (Int.toNat (dn .i64 t8 16))) (du .xor .u32 (du .xor .u32 x2 x3) (cg .u32 (nth (.int .u32) n2 (Int.toNat (dn .i64 t8 15))) 3))) (nth (.int .u32) n2 (Int.toNat (dn .i64 t8 7)))) (du .xor .u32 (du .xor .u32 x4 x5) (cg .u32 (nth (.int .u32) n2 (Int.toNat (dn .i64 t8 2))) 10))))))) none) none) none) none) none) none) none) none) none) none) none) none) none) none) none) none)) (
   schedule.L0.go kx n2):=by kernel_rfl
theorem schedule.eq{R:Type}(b)(k:K1 R):schedule.A b k=
 aA (schedule.L0.call (b,0,(List.replicate 64 0))) λx6=>
 k (schedule.out x6):=by kernel_rfl
theorem Et(b:List Int)(k:Nat)(h:k<=64):(rk b k).length=k:=by
 unfold rk
 split
 ·simp[mm];omega
 ·rw[uA,mm];omega
theorem Le(b:List Int):rk b 64=sched b:=rfl
theorem Ib(b:List Int)(k:Nat)(h:k < 16):rk b (k+1)=rk b k++ [be b k]:=by
 unfold rk
 rw[if_pos (by omega),if_pos (by omega),List.take_succ_eq_append_getElem (by rw[mm];exact h)]
 simp[words]
theorem JZ(b:List Int)(k:Nat)(h:16<=k):rk b (k+1)=ext (rk b k):=by
 unfold rk
 rw[if_neg (by omega)]
 by_cases QB:k=16
 ·subst QB
  rw[if_pos (by omega),bz (by rw[mm];omega)]
  rfl
 ·rw[if_neg (by omega),show k+1 - 16=(k - 16)+1 by omega]
  rfl
theorem BE(l:List W)(h:l.length<=64):(rO l).length=64:=by simp[rO,wl];omega
theorem sI(l:List W)(i:Nat)(h:i < l.length):nth (.int .u32) (rO l) i=vw (l.getD i 0):=by
 unfold nth rO wl
 rw[ay,dY (by simpa using h)]
 simp[h]
theorem AB(l:List W)(w:W)(h:l.length < 64):(rO l).set l.length (vw w)=rO (l++ [w]):=by
 unfold rO wl
 rw[List.set_append_right _ _ (by simp)]
 simp only[ct,Nat.sub_self,kW,aq,aD,ba]
 rw[show 64 - l.length=(64 - (l.length+(0+1)))+1 by omega,List.replicate_succ,List.set_cons_zero]
 simp
theorem EL(l:List W)(h:l.length=64):rO l=wl l:=by simp[rO,h]
theorem Mh(b:List Int)(k:Nat)(h:4*k+4<=b.length):PS ((cut b (4*k) (b.length - 4*k)).getD 0 0) ((cut b (4*k) (b.length - 4*k)).getD 1 0) ((cut b (4*k) (b.length - 4*k)).getD 2 0) ((cut b (4*k) (b.length - 4*k)).getD 3 0)=be b k:=by
 have e:∀j,j < 4->(cut b (4*k) (b.length - 4*k)).getD j 0=b.getD (4*k+j) 0:=λj hj=>by
  unfold cut
  rw[ay,ay,List.getElem?_take_of_lt (by omega),eG]
 unfold be
 rw[e 0 (by omega),e 1 (by omega),e 2 (by omega),e 3 (by omega),cq]
theorem schedule.L0.ok:(schedule.mO 0 schedule.L0):=by
 refine(schedule.oG 0 schedule.L0) (λ(b,t8,n2)=>64 - t8.toNat) ?_
 rintro⟨b,t8,n2⟩ ⟨hb,k,hk,rfl,rfl⟩
 have N3:=Et b k hk
 have IV:=BE (rk b k) (by omega)
 by_cases h:k < 64
 ·left
  refine⟨(b,((k+1:Nat):Int),rO (rk b (k+1))),⟨hb,k+1,by omega,rfl,rfl⟩,by simp;omega,rfl,λkn kx=> ?_⟩
  have e1:bN .i64 (k:Int) 1=((k+1:Nat):Int):=by rw[eH (by omega) (by omega)];omega
  have e2:Int.toNat (k:Int)=k:=by omega
  rw[schedule.L0.step,bA (by omega)]
  simp only[aj,e1,e2,IV,na,aN,cq,decide_true]
  by_cases QB:k < 16
  ·have e3:gz .i64 4 (k:Int)=((4*k:Nat):Int):=by rw[o9 (by omega) (by omega)];omega
   have e4:Int.toNat ((4*k:Nat):Int)=4*k:=by omega
   rw[bA (by omega),e3,gV (by omega) (by omega),e4,bJ (by omega) (by omega),aX h]
   have hp:binary.aY (cut b (4*k) (b.length - 4*k)):=by
    show 4<=_
    rw[oV (by omega)];omega
   simp only[aj,binary.run hp,ah]
   have e5:bU (cut b (4*k) (b.length - 4*k)) (binary.F (cut b (4*k) (b.length - 4*k)))=vw (be b k):=by
    show vw (PS _ _ _ _)=_
    rw[Mh b k (by omega)]
   have e6:=AB (rk b k) (be b k) (by omega)
   rw[N3]at e6
   rw[e5,e6,Ib b k QB]
  ·have a15:Int.toNat (dn .i64 (k:Int) 15)=k - 15:=by rw[dS (by omega) (by omega)];omega
   have a2:Int.toNat (dn .i64 (k:Int) 2)=k - 2:=by rw[dS (by omega) (by omega)];omega
   have a16:Int.toNat (dn .i64 (k:Int) 16)=k - 16:=by rw[dS (by omega) (by omega)];omega
   have a7:Int.toNat (dn .i64 (k:Int) 7)=k - 7:=by rw[dS (by omega) (by omega)];omega
   have i15:fa (dn .i64 (k:Int) 15) 64=true:=bJ (by rw[dS (by omega) (by omega)];omega) (by rw[dS (by omega) (by omega)];omega)
   have i2:fa (dn .i64 (k:Int) 2) 64=true:=bJ (by rw[dS (by omega) (by omega)];omega) (by rw[dS (by omega) (by omega)];omega)
   have i16:fa (dn .i64 (k:Int) 16) 64=true:=bJ (by rw[dS (by omega) (by omega)];omega) (by rw[dS (by omega) (by omega)];omega)
   have i7:fa (dn .i64 (k:Int) 7) 64=true:=bJ (by rw[dS (by omega) (by omega)];omega) (by rw[dS (by omega) (by omega)];omega)
   have i0:fa (k:Int) 64=true:=bJ (by omega) (by omega)
   have d15:decide (k - 15 < 64)=true:=aX (by omega)
   have d2:decide (k - 2 < 64)=true:=aX (by omega)
   have d16:decide (k - 16 < 64)=true:=aX (by omega)
   have d7:decide (k - 7 < 64)=true:=aX (by omega)
   have d0:decide (k < 64)=true:=aX h
   rw[bl (by omega)]
   simp only[aj,au,a15,a2,a16,a7,i15,i2,i16,i7,i0,d15,d2,d16,d7,d0,sI (rk b k) (k - 15) (by omega),sI (rk b k) (k - 2) (by omega),sI (rk b k) (k - 16) (by omega),sI (rk b k) (k - 7) (by omega),eb.at,ah,sJ,yT,yN]
   have e6:=AB (rk b k) (LU (rk b k) k) (by omega)
   rw[N3]at e6
   rw[JZ b k (by omega),ext,N3,<-e6]
   rfl
 ·right
  obtain rfl:k=64:=by omega
  intro R kn kx
  rw[schedule.L0.step,bl (by omega),EL _ N3,Le]
  simp only[au,bU,schedule.L0.F]
theorem schedule.ok:schedule.Ok:=by
 intro b hb
 have hp:schedule.L0.aY (b,0,List.replicate 64 0):=⟨hb,0,by omega,rfl,rfl⟩
 rw[schedule.eq,schedule.L0.run hp]
 simp only[ah,bU,schedule.L0.F,bU,schedule.F]
theorem schedule.run:schedule.RS:=rE [.d tB] schedule
def schedule.sg:=schedule.gC schedule.ok 1 ⟨.js schedule.L0.ok,trivial⟩
abbrev mix.L0.D:=(List Int)×Int×(List Int)×(List Int)×(List Int)×(List Int)
abbrev mix.L0.Y:=(List Int)
abbrev mix.L0.X:=((List Int)×(List Int))×((List Int))
def mix.L0.add:mix.L0.D->mix.L0.Y->mix.L0.X:=λ(ML,t18,n4,n5,n6,n7) y=>((ML,n4),y)
abbrev mix.L1.D:=(List Int)×Int×(List Int)×(List Int)
abbrev mix.L1.Y:=(List Int)
abbrev mix.L1.X:=((List Int))×((List Int))
def mix.L1.add:mix.L1.D->mix.L1.Y->mix.L1.X:=λ(NR,t104,vc,Aj) y=>(vc,y)
abbrev mix.D:=(List Int)×Bs
abbrev mix.Y:=(List Int)
def H7(l:List Int):St:=⟨BitVec.ofInt 32 (l.getD 0 0),BitVec.ofInt 32 (l.getD 1 0),BitVec.ofInt 32 (l.getD 2 0),BitVec.ofInt 32 (l.getD 3 0),BitVec.ofInt 32 (l.getD 4 0),BitVec.ofInt 32 (l.getD 5 0),BitVec.ofInt 32 (l.getD 6 0),BitVec.ofInt 32 (l.getD 7 0)⟩
theorem po(s:St):H7 s.l=s:=by
 obtain⟨a,b,c,d,e,f,g,h⟩:=s
 simp[H7,St.l,nq]
def NG(l:List Int):List W:=l.map (BitVec.ofInt 32)
theorem GP(l:List W):NG (wl l)=l:=by
 unfold NG wl
 rw[List.map_map]
 have:(BitVec.ofInt 32∘vw)=(id:W->W):=by funext w;exact nq w
 rw[this,List.map_id]
def mix.L0.aY:mix.L0.D->Prop:=λ(h,t,n4,n5,n6,n7)=>∃(s:St) (ws:List W) (k:Nat),h=s.l/\n5=wl ws/\ws.length=64/\k<=64/\t=k/\n6=Dw/\n7=(rounds ws s k).l
def mix.L0.F:mix.L0.D->mix.L0.Y:=λ(h,t,n4,n5,n6,n7)=>(rounds (NG n5) (H7 h) 64).l
def mix.L1.aY:mix.L1.D->Prop:=λ(h,t,n4,n7)=>n7.length=8/\∃k:Nat,k<=8/\t=k
def mix.L1.F:mix.L1.D->mix.L1.Y:=λ(h,t,n4,n7)=>from_ (λi x=>bN .u32 x (nth (.int .u32) h i)) t.toNat n7
def mix.aY:mix.D->Prop:=λ(h,b)=>(∃s:St,h=s.l)/\64<=b.length
def mix.F:mix.D->mix.Y:=λ(h,b)=>(HA (H7 h) b).l
def mix.L0:Ls mix.L0.aY mix.L0.add mix.L0.F:=tq (λ(ML,t18,n4,n5,n6,n7)=>⟨([.undef,.undef,.eO (.arr 8 (.int .u32)) ML,.undef,.ptr (.new 4 0) 0 [] 0,.ptr (.new 5 0) 0 [] 0,.ptr (.new 6 0) 0 [] 0,.ptr (.new 7 0) 0 [] 0]++bB 10 ([.d ti t18]++bB 98 [])),[],(cR 4 ([[.obj 0 false (.d (.arr 8 (.int .u32)) n4)],[.obj 0 false (.d (.arr 64 (.int .u32)) n5)],[.obj 0 false (.d (.arr 64 (.int .u32)) n6)],[.obj 0 false (.d (.arr 8 (.int .u32)) n7)]]++cR 109 []))⟩) (λx=>(.exit 0,⟨([.undef,.undef,.eO (.arr 8 (.int .u32)) x.1.1,.undef,.ptr (.new 4 0) 0 [] 0,.undef,.undef,.ptr (.new 7 0) 0 [] 0]++bB 109 []),[],(cR 4 ([[.obj 0 false (.d (.arr 8 (.int .u32)) x.1.2)],[],[],[.obj 0 false (.d (.arr 8 (.int .u32)) x.2)]]++cR 109 []))⟩))
def mix.L1:Ls mix.L1.aY mix.L1.add mix.L1.F:=tq (λ(NR,t104,vc,Aj)=>⟨([.undef,.undef,.eO (.arr 8 (.int .u32)) NR,.undef,.ptr (.new 4 0) 0 [] 0,.undef,.undef,.ptr (.new 7 0) 0 [] 0]++bB 96 ([.d ti t104]++bB 12 [])),[],(cR 4 ([[.obj 0 false (.d (.arr 8 (.int .u32)) vc)],[],[],[.obj 0 false (.d (.arr 8 (.int .u32)) Aj)]]++cR 109 []))⟩) (λx=>(.exit 2,⟨(bB 4 ([.ptr (.new 4 0) 0 [] 0,.undef,.undef,.ptr (.new 7 0) 0 [] 0]++bB 109 [])),[],(cR 4 ([[.obj 0 false (.d (.arr 8 (.int .u32)) x.1)],[],[],[.obj 0 false (.d (.arr 8 (.int .u32)) x.2)]]++cR 109 []))⟩))
def mix:Fs Tryz.prog mix.aY bU mix.F:=gh 202 Tryz.f202 (λ(h,b)=>([.d (.arr 8 (.int .u32)) h,.d tB b],[])) (λx=>⟨.d (.arr 8 (.int .u32)) x,[],[]⟩) [some (.arr 8 (.int .u32)),some tB] [schedule.sg,table.sg,eb.sg] {loops:=rH [(4,{bI:=[2,4,5,6,7,18],sites:=[4,5,6,7]}),(13,{bI:=[2,4,7,104],sites:=[4,7]})],outs:=rG [(4,{bI:=[2,4,7],sites:=[4,7]},{bI:=[4]}),(13,{bI:=[4,7],sites:=[4,7]},{bI:=[4]})],jP:=sh [(4,mix.L0.E),(13,mix.L1.E)]}
theorem mix.L0.run:mix.L0.RS:=rL [.d (.arr 8 (.int .u32)),.d ti,.d (.slice (.int .u32)),.d (.slice (.int .u32)),.d (.slice (.int .u32)),.d (.slice (.int .u32))] mix.L0
theorem mix.L0.step{R:Type}(ML t18 n4 n5 n6 n7)(kn:K2 R)(kx:K3 R):mix.R 0 mix.L0 (ML,t18,n4,n5,n6,n7) kn kx=
  aK ((iI t18 64)) (
   aK (decide (4 < (List.length n7))) (
   aA (eb.call ((nth (.int .u32) n7 4),(-6))) λx1=>
   aK (decide (4 < (List.length n7))) (
   aA (eb.call ((nth (.int .u32) n7 4),(-11))) λx2=>
   aK (decide (4 < (List.length n7))) (
   aA (eb.call ((nth (.int .u32) n7 4),(-25))) λx3=>
   aK (decide (7 < (List.length n7))) (
   aK (decide (6 < (List.length n7))) (
   aK (decide (4 < (List.length n7))) (
   aK (decide (5 < (List.length n7))) (
   aK (decide (6 < (List.length n7))) (
   aK (fa t18 64) (
   aK (decide ((Int.toNat t18) < (List.length n6))) (
   aK (decide ((((Int.toNat t18)*1)+0)=(0+((Int.toNat t18)*1)))) (
   aK (fa t18 64) (
   aK (decide ((Int.toNat t18) < (List.length n5))) (
   aK (decide ((((Int.toNat t18)*1)+0)=(0+((Int.toNat t18)*1)))) (
   aK (decide (0 < (List.length n7))) (
   aA (eb.call ((nth (.int .u32) n7 0),(-2))) λx4=>
   aK (decide (0 < (List.length n7))) (
   aA (eb.call ((nth (.int .u32) n7 0),(-13))) λx5=>
   aK (decide (0 < (List.length n7))) (
   aA (eb.call ((nth (.int .u32) n7 0),(-22))) λx6=>
   aK (decide (0 < (List.length n7))) (
   aK (decide (1 < (List.length n7))) (
   aK (decide (2 < (List.length n7))) (
   aK (decide (0 < (List.length n7))) (
   aK (decide (1 < (List.length n7))) (
   aK (decide (0 < (List.length n7))) (
   aK (decide (1 < (List.length n7))) (
   aK (decide (2 < (List.length n7))) (
   aK (decide (3 < (List.length n7))) (
   aK (decide (4 < (List.length n7))) (
   aK (decide (5 < (List.length n7))) (
   aK (decide (6 < (List.length n7))) (
   kn (mix.L0.st (ML,(bN .i64 t18 1),n4,n5,n6,[(bN .u32 (bN .u32 (bN .u32 (bN .u32 (bN .u32 (bN .u32 (nth (.int .u32) n7 7) (du .xor .u32 (du .xor .u32 x1 x2) x3)) (du .xor .u32 (nth (.int .u32) n7 6) (du .and .u32 (nth (.int .u32) n7 4) (du .xor .u32 (nth (.int .u32) n7 5) (nth (.int .u32) n7 6))))) (nth (.int .u32) n6 (Int.toNat t18))) (nth (.int .u32) n5 (Int.toNat t18))) (du .xor .u32 (du .xor .u32 x4 x5) x6)) (du .or .u32 (du .and .u32 (nth (.int .u32) n7 0) (nth (.int .u32) n7 1)) (du .and .u32 (nth (.int .u32) n7 2) (du .or .u32 (nth (.int .u32) n7 0) (nth (.int .u32) n7 1))))),(nth (.int .u32) n7 0),(nth (.int .u32) n7 1),(nth (.int .u32) n7 2),(bN .u32 (nth (.int .u32) n7 3) (bN .u32 (bN .u32 (bN .u32 (bN .u32 (nth (.int .u32) n7 7) (du .xor .u32 (du .xor .u32 x1 x2) x3)) (du .xor .u32 (nth (.int .u32) n7 6) (du .and .u32 (nth (.int .u32) n7 4) (du .xor .u32 (nth (.int .u32) n7 5) (nth (.int .u32) n7 6))))) (nth (.int .u32) n6 (Int.toNat t18))) (nth (.int .u32) n5 (Int.toNat t18)))),(nth (.int .u32) n7 4),(nth (.int .u32) n7 5),(nth (.int .u32) n7 6)]))) none) none) none) none) none) none) none) none) none) none) none) none) none) none) none) none) none) none) none) none) none) none) none) none) none) none) none) none) none) (
   mix.L0.go kx ((ML,n4),n7)):=by kernel_rfl
theorem mix.L1.run:mix.L1.RS:=rL [.d (.arr 8 (.int .u32)),.d ti,.d (.slice (.int .u32)),.d (.slice (.int .u32))] mix.L1
theorem mix.L1.step{R:Type}(NR t104 vc Aj)(kn:K2 R)(kx:K3 R):mix.R 1 mix.L1 (NR,t104,vc,Aj) kn kx=
  aK ((iI t104 8)) (
   aK (fa t104 8) (
   aK (decide ((Int.toNat t104) < (List.length Aj))) (
   aK (decide ((((Int.toNat t104)*1)+0)=(0+((Int.toNat t104)*1)))) (
   aK (fa t104 8) (
   aK (fa t104 8) (
   aK (decide ((Int.toNat t104) < (List.length Aj))) (
   aK (decide ((((Int.toNat t104)*1)+0)=(0+((Int.toNat t104)*1)))) (
   aK (decide ((Int.toNat t104) < (List.length Aj))) (
   kn (mix.L1.st (NR,(bN .i64 t104 1),vc,(List.set Aj (Int.toNat t104) (bN .u32 (nth (.int .u32) Aj (Int.toNat t104)) (nth (.int .u32) NR (Int.toNat t104))))))) none) none) none) none) none) none) none) none) (
   mix.L1.go kx (vc,Aj)):=by kernel_rfl
theorem mix.eq{R:Type}(h b)(k:K1 R):mix.A (h,b) k=
 aA (schedule.call b) λx1=>
 aA (table.call ()) λx2=>
 aA (mix.L0.call (h,0,(List.replicate 8 0),x1,x2,h)) λx9=>
 aA (mix.L1.call (x9.1.1,0,x9.1.2,x9.2)) λIp=>
 k (mix.out Ip.2):=by kernel_rfl
theorem St.Jg(s:St):s.l.length=8:=rfl
theorem Dx:Dw.length=64:=rfl
theorem Jd(k:Nat)(h:k < 64):nth (.int .u32) Dw k=vw (kw k):=by
 have hh:∀k:Fin 64,nth (.int .u32) Dw k.val=vw (kw k.val):=by decide+kernel
 exact hh ⟨k,h⟩
theorem NH(ws:List W)(k:Nat)(h:k < ws.length):nth (.int .u32) (wl ws) k=vw (ws.getD k 0):=by
 unfold nth wl
 simp[h]
theorem TC(w:W):rl w ((-6:Int)%32).toNat=te w 6:=rfl
theorem RK(w:W):rl w ((-11:Int)%32).toNat=te w 11:=rfl
theorem RN(w:W):rl w ((-25:Int)%32).toNat=te w 25:=rfl
theorem TB(w:W):rl w ((-2:Int)%32).toNat=te w 2:=rfl
theorem RL(w:W):rl w ((-13:Int)%32).toNat=te w 13:=rfl
theorem RM(w:W):rl w ((-22:Int)%32).toNat=te w 22:=rfl
theorem n0(s:St):nth (.int .u32) s.l 0=vw s.a:=rfl
theorem n1(s:St):nth (.int .u32) s.l 1=vw s.b:=rfl
theorem n2(s:St):nth (.int .u32) s.l 2=vw s.c:=rfl
theorem n3(s:St):nth (.int .u32) s.l 3=vw s.d:=rfl
theorem n4(s:St):nth (.int .u32) s.l 4=vw s.e:=rfl
theorem n5(s:St):nth (.int .u32) s.l 5=vw s.f:=rfl
theorem n6(s:St):nth (.int .u32) s.l 6=vw s.g:=rfl
theorem n7(s:St):nth (.int .u32) s.l 7=vw s.h:=rfl
theorem mix.L0.ok:(mix.mO 0 mix.L0):=by
 refine(mix.oG 0 mix.L0) (λ(h,t,n4,n5,n6,n7)=>64 - t.toNat) ?_
 rintro⟨h,t,m4,m5,m6,m7⟩ ⟨s,ws,k,rfl,rfl,hw,hk,rfl,rfl,rfl⟩
 by_cases iC:k < 64
 ·left
  refine⟨(s.l,((k+1:Nat):Int),m4,wl ws,Dw,(rounds ws s (k+1)).l),⟨s,ws,k+1,rfl,rfl,hw,by omega,rfl,rfl,rfl⟩,by simp;omega,rfl,λkn kx=> ?_⟩
  have e1:bN .i64 (k:Int) 1=((k+1:Nat):Int):=by rw[eH (by omega) (by omega)];omega
  have e2:Int.toNat (k:Int)=k:=by omega
  have N3:(wl ws).length=64:=by simp[wl,hw]
  have d0:decide (k < 64)=true:=aX iC
  have i0:fa (k:Int) 64=true:=bJ (by omega) (by omega)
  rw[mix.L0.step,bA (by omega)]
  generalize hv:rounds ws s k=v
  simp only[e1,e2,na,aN,cq,decide_true,aj,St.Jg,Nat.reduceLT,Dx,N3,d0,i0,n0,n1,n2,n3,n4,n5,n6,n7,eb.at,ah,Jd k iC,NH ws k (by omega),sJ,yN,TC,RK,RN,TB,RL,RM]
  show kn _=kn (mix.L0.st (s.l,((k+1:Nat):Int),m4,wl ws,Dw,(oG (rounds ws s k) (kw k) (ws.getD k 0)).l))
  rw[hv]
  rfl
 ·right
  obtain rfl:k=64:=by omega
  intro R kn kx
  rw[mix.L0.step,bl (by omega)]
  simp only[au,mix.L0.add,mix.L0.F,GP,po]
theorem mix.L1.ok:(mix.mO 1 mix.L1):=by
 refine(mix.oG 1 mix.L1) (λ(h,t,n4,n7)=>8 - t.toNat) ?_
 rintro⟨h,t,m4,m7⟩ ⟨hl,k,hk,rfl⟩
 have hl:m7.length=8:=hl
 have e2:Int.toNat (k:Int)=k:=by omega
 have e3:Int.toNat ((k+1:Nat):Int)=k+1:=by omega
 by_cases iC:k < 8
 ·left
  have e1:bN .i64 (k:Int) 1=((k+1:Nat):Int):=by rw[eH (by omega) (by omega)];omega
  have hn:nth (.int .u32) m7 k=m7[k]:=dM (t:= .int .u32) (by omega)
  refine⟨(h,((k+1:Nat):Int),m4,m7.set k (bN .u32 m7[k] (nth (.int .u32) h k))),⟨by simpa using hl,k+1,by omega,rfl⟩,by simp;omega,?_,λkn kx=> ?_⟩
  ·simp only[mix.L1.add,mix.L1.F,e2,e3]
   rw[AQ (λi x=>bN .u32 x (nth (.int .u32) h i)) m7 k (by omega)]
  ·have d0:decide (k < 8)=true:=aX iC
   have i0:fa (k:Int) 8=true:=bJ (by omega) (by omega)
   rw[mix.L1.step,bA (by omega)]
   simp only[e1,e2,na,aN,cq,decide_true,aj,hl,d0,i0,hn]
 ·right
  obtain rfl:k=8:=by omega
  intro R kn kx
  rw[mix.L1.step,bl (by omega)]
  simp only[au,mix.L1.add,mix.L1.F,e2]
  rw[C9 _ _ _ (by omega)]
theorem mix.ok:mix.Ok:=by
 rintro⟨h,b⟩ ⟨⟨s,rfl⟩,hb⟩
 have hs:schedule.aY b:=hb
 have Dn:(sched b).length=64:=by unfold sched;rw[uA,mm]
 have hp:mix.L0.aY (s.l,0,List.replicate 8 0,wl (sched b),Dw,s.l):=⟨s,sched b,0,rfl,rfl,Dn,by omega,rfl,rfl,rfl⟩
 rw[mix.eq,schedule.run hs]
 simp only[ah,table.run (d:=()) trivial,bU,schedule.F,bU,table.F,mix.L0.run hp,mix.L0.add,mix.L0.F,GP,po]
 have NZ:mix.L1.aY (s.l,0,List.replicate 8 0,(rounds (sched b) s 64).l):=⟨rfl,0,by omega,rfl⟩
 simp only[mix.L1.run NZ,ah,mix.L1.add,mix.L1.F,bU,mix.F,po]
 unfold HA
 generalize rounds (sched b) s 64=v
 obtain⟨a1,b1,c1,d1,f1,g1,h1,i1⟩:=v
 simp only[St.l,from_,List.mapIdx_cons,List.mapIdx_nil,cF,Nat.not_lt_zero,if_false,aN,Nat.reduceAdd]
 simp only[nth,iL,List.getD_cons_succ,yN]
theorem mix.run:mix.RS:=rE [.d (.slice (.int .u32)),.d tB] mix
def mix.sg:=mix.gC mix.ok 2 ⟨.js mix.L0.ok,⟨.js mix.L1.ok,trivial⟩⟩
theorem lJ(n:Int)(k:Int)(h0:0<=k)(h1:k<=64):dP .u8 (cg .i64 n k)=n / 2^k.toNat%256:=by
 rw[BW,jH,cg]
 have e:min k.toNat IntKind.i64.bits=k.toNat:=by simp only[IntKind.bits];omega
 rw[e,Int.fdiv_eq_ediv_of_nonneg _ (Int.le_of_lt (Int.pow_pos (by omega)))]
 rfl
theorem qv{n:Nat}(h:n<=140737488355328):dT n 1=true:=fL (by omega) (by omega)
abbrev fy.D:=Bs
abbrev fy.Y:=Nat×(List Int)
def fy.aY:fy.D->Prop:=λb=>b.length<=140737488355328
def fy.F:fy.D->fy.Y:=λb=>(b.length,b)
def fy:Fs Tryz.prog fy.aY bU fy.F:=gh 200 Tryz.f200 (λsv=>([.d tB sv],[])) (λx=>⟨.cD (.new 0 0) 0 [] 0 0 x.1,[],[.obj 0 false (.vec 5 tb x.2)]⟩) [some tB] [] {bo:=[5],owns:=[⟨2,[],5,140⟩]}
theorem fy.eq{R:Type}(sv)(k:K1 R):fy.A sv k=
  aK (decide (0 < (List.length sv))) (
   aK (dT (0+(List.length sv)) 1) (
   k (fy.out ((0+(List.length sv)),((List.take 0 (List.replicate 0 0))++sv)))) none) (
   nd (
    k (fy.out (0,([]:List Int)))) (
    aK (dT (0+(List.length sv)) 1) (
    k (fy.out ((0+(List.length sv)),((List.take 0 (List.replicate 0 0))++sv)))) none)):=by kernel_rfl
theorem fy.ok:fy.Ok:=by
 intro b hb
 have hr:dT b.length 1=true:=qv hb
 rw[fy.eq]
 have e0:(List.take 0 (List.replicate 0 0):List Int)=[]:=rfl
 simp only[aN,hr,aj,e0,aS,bU,fy.F]
 by_cases h:0 < b.length
 ·simp only[aX h,aj]
 ·have:b=[]:=aL (by omega)
  subst this
  simp only[ba,sS,cn (gE 0),au]
theorem fy.run:fy.RS:=rE [.d tB] fy
def fy.sg:=fy.gC fy.ok
abbrev jC.D:=Int
abbrev jC.Y:=Nat×(List Int)
def jC.aY:jC.D->Prop:=λ_=>True
def jC.F:jC.D->jC.Y:=λn=>(8,pU n)
def jC:Fs Tryz.prog jC.aY bU jC.F:=gh 143 Tryz.f143 (λn=>([.db,.d ti n],[])) (λx=>⟨.cD (.new 0 0) 0 [] 0 0 x.1,[],[.obj 0 false (.vec 5 tb x.2)]⟩) [none,some ti] [] {loops:=rH [(2,{bI:=[0,1,5],sites:=[16]})],outs:=rG [(2,{bI:=[0],sites:=[16]},{bI:=[4],sites:=[16]})],owns:=[⟨4,[],16,140⟩]} 12
theorem jC.eq{R:Type}(n)(k:K1 R):jC.A n k=
 k (jC.out (8,[(dP .u8 (cg .i64 n 56)),(dP .u8 (cg .i64 n 48)),(dP .u8 (cg .i64 n 40)),(dP .u8 (cg .i64 n 32)),(dP .u8 (cg .i64 n 24)),(dP .u8 (cg .i64 n 16)),(dP .u8 (cg .i64 n 8)),(dP .u8 (cg .i64 n 0))])):=by kernel_rfl
theorem EM(n:Int): [dP .u8 (cg .i64 n 56),dP .u8 (cg .i64 n 48),dP .u8 (cg .i64 n 40),dP .u8 (cg .i64 n 32),dP .u8 (cg .i64 n 24),dP .u8 (cg .i64 n 16),dP .u8 (cg .i64 n 8),dP .u8 (cg .i64 n 0)]=pU n:=by
 rw[lJ n 56 (by omega) (by omega),lJ n 48 (by omega) (by omega),lJ n 40 (by omega) (by omega),lJ n 32 (by omega) (by omega),lJ n 24 (by omega) (by omega),lJ n 16 (by omega) (by omega),lJ n 8 (by omega) (by omega),lJ n 0 (by omega) (by omega)]
 simp[pU]
theorem jC.ok:jC.Ok:=by
 intro n _
 rw[jC.eq,EM]
 rfl
theorem jC.run:jC.RS:=rE [.d ti] jC
def jC.sg:=jC.Qb HG jC.ok 1 ⟨.none (by kernel_rfl),trivial⟩
abbrev gG.D:=Nat×Int×Bs
abbrev gG.Y:=Nat×(List Int)
def gG.aY:gG.D->Prop:=λ(m,n,l)=>m=l.length/\l.length<=140737488355320
def gG.F:gG.D->gG.Y:=λ(m,n,l)=>(l.length+8,l++pU n)
def gG:Fs Tryz.prog gG.aY bU gG.F:=gh 143 Tryz.f143 (λ(bL,n,o0)=>([.cD (.dd 0) 0 [] 0 0 bL,.d ti n],[.obj 0 false (.vec 5 tb o0)])) (λx=>⟨.cD (.dd 0) 8 [] 0 0 x.1,[.obj 8 false (.vec 5 tb x.2)],[]⟩) [none,some ti] [] {loops:=rH [(2,{bI:=[0,1,5],sites:=[16]})],outs:=rG [(2,{bI:=[0],sites:=[16]},{bI:=[4],sites:=[16]})]} 12
theorem gG.eq{R:Type}(bL n o0)(k:K1 R):gG.A (bL,n,o0) k=
 aK (decide (bL<=(List.length o0))) (
 aK (dT (bL+1) 1) (
 aK (decide ((bL+1)<=(List.length ((List.take bL o0)++ [(dP .u8 (cg .i64 n 56))])))) (
 aK (dT ((bL+1)+1) 1) (
 aK (decide (((bL+1)+1)<=(List.length ((List.take (bL+1) ((List.take bL o0)++ [(dP .u8 (cg .i64 n 56))]))++ [(dP .u8 (cg .i64 n 48))])))) (
 aK (dT (((bL+1)+1)+1) 1) (
 aK (decide ((((bL+1)+1)+1)<=(List.length ((List.take ((bL+1)+1) ((List.take (bL+1) ((List.take bL o0)++ [(dP .u8 (cg .i64 n 56))]))++ [(dP .u8 (cg .i64 n 48))]))++ [(dP .u8 (cg .i64 n 40))])))) (
 aK (dT ((((bL+1)+1)+1)+1) 1) (
 aK (decide (((((bL+1)+1)+1)+1)<=(List.length ((List.take (((bL+1)+1)+1) ((List.take ((bL+1)+1) ((List.take (bL+1) ((List.take bL o0)++ [(dP .u8 (cg .i64 n 56))]))++ [(dP .u8 (cg .i64 n 48))]))++ [(dP .u8 (cg .i64 n 40))]))++ [(dP .u8 (cg .i64 n 32))])))) (
 aK (dT (((((bL+1)+1)+1)+1)+1) 1) (
 aK (decide ((((((bL+1)+1)+1)+1)+1)<=(List.length ((List.take ((((bL+1)+1)+1)+1) ((List.take (((bL+1)+1)+1) ((List.take ((bL+1)+1) ((List.take (bL+1) ((List.take bL o0)++ [(dP .u8 (cg .i64 n 56))]))++ [(dP .u8 (cg .i64 n 48))]))++ [(dP .u8 (cg .i64 n 40))]))++ [(dP .u8 (cg .i64 n 32))]))++ [(dP .u8 (cg .i64 n 24))])))) (
 aK (dT ((((((bL+1)+1)+1)+1)+1)+1) 1) (
 aK (decide (((((((bL+1)+1)+1)+1)+1)+1)<=(List.length ((List.take (((((bL+1)+1)+1)+1)+1) ((List.take ((((bL+1)+1)+1)+1) ((List.take (((bL+1)+1)+1) ((List.take ((bL+1)+1) ((List.take (bL+1) ((List.take bL o0)++ [(dP .u8 (cg .i64 n 56))]))++ [(dP .u8 (cg .i64 n 48))]))++ [(dP .u8 (cg .i64 n 40))]))++ [(dP .u8 (cg .i64 n 32))]))++ [(dP .u8 (cg .i64 n 24))]))++ [(dP .u8 (cg .i64 n 16))])))) (
 aK (dT (((((((bL+1)+1)+1)+1)+1)+1)+1) 1) (
 aK (decide ((((((((bL+1)+1)+1)+1)+1)+1)+1)<=(List.length ((List.take ((((((bL+1)+1)+1)+1)+1)+1) ((List.take (((((bL+1)+1)+1)+1)+1) ((List.take ((((bL+1)+1)+1)+1) ((List.take (((bL+1)+1)+1) ((List.take ((bL+1)+1) ((List.take (bL+1) ((List.take bL o0)++ [(dP .u8 (cg .i64 n 56))]))++ [(dP .u8 (cg .i64 n 48))]))++ [(dP .u8 (cg .i64 n 40))]))++ [(dP .u8 (cg .i64 n 32))]))++ [(dP .u8 (cg .i64 n 24))]))++ [(dP .u8 (cg .i64 n 16))]))++ [(dP .u8 (cg .i64 n 8))])))) (
 aK (dT ((((((((bL+1)+1)+1)+1)+1)+1)+1)+1) 1) (
 k (gG.out (((((((((bL+1)+1)+1)+1)+1)+1)+1)+1),((List.take (((((((bL+1)+1)+1)+1)+1)+1)+1) ((List.take ((((((bL+1)+1)+1)+1)+1)+1) ((List.take (((((bL+1)+1)+1)+1)+1) ((List.take ((((bL+1)+1)+1)+1) ((List.take (((bL+1)+1)+1) ((List.take ((bL+1)+1) ((List.take (bL+1) ((List.take bL o0)++ [(dP .u8 (cg .i64 n 56))]))++ [(dP .u8 (cg .i64 n 48))]))++ [(dP .u8 (cg .i64 n 40))]))++ [(dP .u8 (cg .i64 n 32))]))++ [(dP .u8 (cg .i64 n 24))]))++ [(dP .u8 (cg .i64 n 16))]))++ [(dP .u8 (cg .i64 n 8))]))++ [(dP .u8 (cg .i64 n 0))])))) none) none) none) none) none) none) none) none) none) none) none) none) none) none) none) none:=by kernel_rfl
theorem gG.ok:gG.Ok:=by
 rintro⟨m,n,l⟩ ⟨rfl,hl⟩
 have hl:l.length<=140737488355320:=hl
 rw[gG.eq]
 simp only[ax,decide_true,aj,bz,aq,aD,ba,aN]
 rw[qv (by omega),qv (by omega),qv (by omega),qv (by omega),qv (by omega),qv (by omega),qv (by omega),qv (by omega)]
 simp only[aj,bU,gG.F,<-EM,bg,ke,aS]
theorem gG.run:gG.RS:=rE [.n,.d ti,.d tB] gG
def gG.sg:=gG.Qb Bn gG.ok 1 ⟨.none (by kernel_rfl),trivial⟩
abbrev bO.L0.D:=Bs×Nat×Bs×(List Int)
abbrev bO.L0.Y:=Nat×(List Int)
abbrev bO.L0.X:=(Bs×Bs)×(Nat×(List Int))
def bO.L0.add:bO.L0.D->bO.L0.Y->bO.L0.X:=λ(uH,endL,n2,n14) y=>((uH,n2),y)
abbrev bO.L1.D:=Bs×Nat×Bs×(List Int)×(List Int)
abbrev bO.L1.Y:=(List Int)
abbrev bO.L1.X:=(Nat×Bs×(List Int))×((List Int))
def bO.L1.add:bO.L1.D->bO.L1.Y->bO.L1.X:=λ(zT,tR,qd,n4,zd) y=>((tR,qd,zd),y)
abbrev bO.L2.D:=Bs×Bs×(List Int)
abbrev bO.L2.Y:=(List Int)
abbrev bO.L2.X:=(Bs)×((List Int))
def bO.L2.add:bO.L2.D->bO.L2.Y->bO.L2.X:=λ(endv,pd,vc) y=>(pd,y)
abbrev bO.L3.D:=Int×Bs×(List Int)
abbrev bO.L3.Y:=Bs
abbrev bO.D:=Bs
abbrev bO.Y:=Bs
def zc(n:Nat):Nat:=(120 - n%64)%64
def bO.L0.aY:bO.L0.D->Prop:=λ(b,m,n2,l)=>m=l.length/\l.length+zc l.length<=140737488355328
def bO.L0.F:bO.L0.D->bO.L0.Y:=λ(b,m,n2,l)=>(l.length+zc l.length,l++List.replicate (zc l.length) 0)
def bO.L1.aY:bO.L1.D->Prop:=λ(b,m,n2,h,l)=>∃s:St,h=s.l
def bO.L1.F:bO.L1.D->bO.L1.Y:=λ(b,m,n2,h,l)=>(blocks (H7 h) b).l
def bO.L2.aY:bO.L2.D->Prop:=λ(b,n2,h)=>b.length%64=0/\∃s:St,h=s.l
def bO.L2.F:bO.L2.D->bO.L2.Y:=λ(b,n2,h)=>(blocks (H7 h) b).l
def AE(h:List Int)(i:Nat)(_:Int):Int:=dP .u8 (cg .u32 (nth (.int .u32) h (i / 4)) ((24 - 8*(i%4):Nat):Int))
def bO.L3.aY:bO.L3.D->Prop:=λ(t,n2,h)=>n2.length=32/\h.length=8/\∃k:Nat,k<=32/\t=k
def bO.L3.F:bO.L3.D->bO.L3.Y:=λ(t,n2,h)=>from_ (AE h) t.toNat n2
def bO.aY:bO.D->Prop:=λb=>b.length<=140737488350000
def bO.F:bO.D->bO.Y:=λb=>Od b
def bO.L0:Ls bO.L0.aY bO.L0.add bO.L0.F:=tq (λ(uH,endL,n2,n14)=>⟨([.d tB uH,.undef,.ptr (.new 2 0) 0 [] 0,.cD (.new 14 0) 0 [] 0 0 endL]++bB 61 []),[],([[],[],[.obj 0 false (.d tH n2)]]++cR 11 ([[.obj 0 false (.vec 5 tb n14)]]++cR 50 []))⟩) (λx=>(.exit 0,⟨([.d tB x.1.1,.undef,.ptr (.new 2 0) 0 [] 0,.cD (.new 14 0) 0 [] 0 0 x.2.1]++bB 61 []),[],([[],[],[.obj 0 false (.d tH x.1.2)]]++cR 11 ([[.obj 0 false (.vec 5 tb x.2.2)]]++cR 50 []))⟩))
def bO.L1:Ls bO.L1.aY bO.L1.add bO.L1.F:=tq (λ(zT,tR,qd,n4,zd)=>⟨([.d tB zT,.undef,.ptr (.new 2 0) 0 [] 0,.cD (.new 14 0) 8 [] 0 0 tR,.ptr (.new 4 0) 0 [] 0]++bB 60 []),[],([[],[],[.obj 0 false (.d tH qd)],[],[.obj 0 false (.d (.arr 8 (.int .u32)) n4)]]++cR 9 ([[.obj 8 false (.vec 5 tb zd)]]++cR 50 []))⟩) (λx=>(.exit 2,⟨([.undef,.undef,.ptr (.new 2 0) 0 [] 0,.cD (.new 14 0) 8 [] 0 0 x.1.1,.ptr (.new 4 0) 0 [] 0]++bB 60 []),[],([[],[],[.obj 0 false (.d tH x.1.2.1)],[],[.obj 0 false (.d (.arr 8 (.int .u32)) x.2)]]++cR 9 ([[.obj 8 false (.vec 5 tb x.1.2.2)]]++cR 50 []))⟩))
def bO.L2:Ls bO.L2.aY bO.L2.add bO.L2.F:=tq (λ(endv,pd,vc)=>⟨([.undef,.undef,.ptr (.new 2 0) 0 [] 0,.d tB endv,.ptr (.new 4 0) 0 [] 0]++bB 60 []),[],([[],[],[.obj 0 false (.d tH pd)],[],[.obj 0 false (.d (.arr 8 (.int .u32)) vc)]]++cR 60 [])⟩) (λx=>(.exit 4,⟨([.undef,.undef,.ptr (.new 2 0) 0 [] 0,.undef,.ptr (.new 4 0) 0 [] 0]++bB 60 []),[],([[],[],[.obj 0 false (.d tH x.1)],[],[.obj 0 false (.d (.arr 8 (.int .u32)) x.2)]]++cR 60 [])⟩))
def bO.L3:Ls bO.L3.aY bU bO.L3.F:=tq (λ(t48,Fx,HE)=>⟨([.undef,.undef,.ptr (.new 2 0) 0 [] 0,.undef,.ptr (.new 4 0) 0 [] 0]++bB 43 ([.d ti t48]++bB 16 [])),[],([[],[],[.obj 0 false (.d tH Fx)],[],[.obj 0 false (.d (.arr 8 (.int .u32)) HE)]]++cR 60 [])⟩) (λx=>(.exit 6,⟨([.undef,.undef,.ptr (.new 2 0) 0 [] 0]++bB 62 []),[],([[],[],[.obj 0 false (.d tH x)]]++cR 62 [])⟩))
def bO:Fs Tryz.prog bO.aY bU bO.F:=gh 144 Tryz.f144 (λb=>([.d tB b],[])) (λx=>⟨.d tH x,[],[]⟩) [some tB] [fy.sg,gG.sg,first.sg,mix.sg] {loops:=rH [(2,{bI:=[0,2,3],sites:=[2,14],owns:=[⟨3,[],14,140⟩]}),(6,{bI:=[0,2,3,4],sites:=[2,4,14]}),(9,{bI:=[2,3,4],sites:=[2,4],data:=[(3,tB)]}),(13,{bI:=[2,4,48],sites:=[2,4]})],outs:=rG [(2,{bI:=[0,2,3],sites:=[2,14]},{bI:=[2]}),(6,{bI:=[2,3,4],sites:=[2,4,14]},{bI:=[2]}),(9,{bI:=[2,4],sites:=[2,4]},{bI:=[2]}),(13,{bI:=[2],sites:=[2]},{bI:=[2]})],jP:=sh [(2,bO.L0.E),(6,bO.L1.E),(9,bO.L2.E),(13,bO.L3.E)]}
theorem bO.L0.run:bO.L0.RS:=rL [.d tB,.n,.d tB,.d tB] bO.L0
theorem bO.L0.step{R:Type}(uH endL n2 n14)(kn:K2 R)(kx:K3 R):bO.R 0 bO.L0 (uH,endL,n2,n14) kn kx=
  aK ((uD (ov ((endL:Nat):Int) 64) 56)) (
   aK (decide (endL<=(List.length n14))) (
   aK (dT (endL+1) 1) (
   kn (bO.L0.st (uH,(endL+1),n2,((List.take endL n14)++ [0])))) none) none) (
   bO.L0.go kx ((uH,n2),(endL,n14))):=by kernel_rfl
theorem bO.L1.run:bO.L1.RS:=rL [.d tB,.n,.d tB,.d (.slice (.int .u32)),.d tB] bO.L1
theorem bO.L1.step{R:Type}(zT tR qd n4 zd)(kn:K2 R)(kx:K3 R):bO.R 1 bO.L1 (zT,tR,qd,n4,zd) kn kx=
  aK ((qP (zT.length:Int) 64)) (
   aK (inc 64 (zT.length:Int)) (
   aA (mix.call (n4,(cut zT 0 64))) λx1=>
   aK (inc 64 (zT.length:Int)) (
   kn (bO.L1.st ((cut zT 64 ((List.length zT) - 64)),tR,qd,x1,zd))) none) none) (
   bO.L1.go kx ((tR,qd,zd),n4)):=by kernel_rfl
theorem bO.L2.run:bO.L2.RS:=rL [.d tB,.d tB,.d (.slice (.int .u32))] bO.L2
theorem bO.L2.step{R:Type}(endv pd vc)(kn:K2 R)(kx:K3 R):bO.R 2 bO.L2 (endv,pd,vc) kn kx=
  aK ((ot (endv.length:Int) 0)) (
   aK (inc 64 (endv.length:Int)) (
   aA (mix.call (vc,(cut endv 0 64))) λx1=>
   aK (inc 64 (endv.length:Int)) (
   kn (bO.L2.st ((cut endv 64 ((List.length endv) - 64)),pd,x1))) none) none) (
   bO.L2.go kx (pd,vc)):=by kernel_rfl
theorem bO.L3.run:bO.L3.RS:=rL [.d ti,.d tB,.d (.slice (.int .u32))] bO.L3
theorem bO.L3.step{R:Type}(t48 Fx HE)(kn:K2 R)(kx:K3 R):bO.R 3 bO.L3 (t48,Fx,HE) kn kx=
  aK ((iI t48 32)) (
   aK (fa (qb .i64 t48 4) 8) (
   aK (decide ((Int.toNat (qb .i64 t48 4)) < (List.length HE))) (
   aK (decide ((((Int.toNat (qb .i64 t48 4))*1)+0)=(0+((Int.toNat (qb .i64 t48 4))*1)))) (
   aK (mf (dn .i64 24 (gz .i64 8 (ov t48 4)))) (
   aK (fa t48 32) (
   aK (decide ((Int.toNat t48) < (List.length Fx))) (
   aK (decide ((((Int.toNat t48)*1)+0)=(0+((Int.toNat t48)*1)))) (
   aK (decide ((Int.toNat t48) < (List.length Fx))) (
   kn (bO.L3.st ((bN .i64 t48 1),(List.set Fx (Int.toNat t48) (dP .u8 (cg .u32 (nth (.int .u32) HE (Int.toNat (qb .i64 t48 4))) (dn .i64 24 (gz .i64 8 (ov t48 4)))))),HE))) none) none) none) none) none) none) none) none) (
   bO.L3.go kx Fx):=by kernel_rfl
theorem bO.eq{R:Type}(b)(k:K1 R):bO.A b k=
 aK (inc (dn .i64 (b.length:Int) (ov (b.length:Int) 64)) (b.length:Int)) (
 aA (fy.call (cut b (Int.toNat (dn .i64 (b.length:Int) (ov (b.length:Int) 64))) ((List.length b) - (Int.toNat (dn .i64 (b.length:Int) (ov (b.length:Int) 64)))))) λx1=>
 aK (decide (x1.1<=(List.length x1.2))) (
 aK (dT (x1.1+1) 1) (
 aA (bO.L0.call (b,(x1.1+1),(List.replicate 32 0),((List.take x1.1 x1.2)++ [128]))) λx2=>
 aA (gG.call (x2.2.1,(gz .i64 8 (x2.1.1.length:Int)),x2.2.2)) λx3=>
 aA (first.call ()) λx4=>
 aA (bO.L1.call (x2.1.1,x3.1,x2.1.2,x4,x3.2)) λx6=>
 aK (decide (0=0/\(0+x6.1.1)<=(List.length x6.1.2.2))) (
 aA (bO.L2.call ((cut x6.1.2.2 0 x6.1.1),x6.1.2.1,x6.2)) λx9=>
 aA (bO.L3.call (0,x9.1,x9.2)) λIp=>
 k (bO.out Ip)) none) none) none) none:=by kernel_rfl
theorem bO.L0.ok:(bO.mO 0 bO.L0):=by
 refine(bO.oG 0 bO.L0) (λ(b,m,n2,l)=>zc l.length) ?_
 rintro⟨b,m,n2,l⟩ ⟨rfl,hl⟩
 have hl:l.length+zc l.length<=140737488355328:=hl
 have hr:ov ((l.length:Nat):Int) 64=((l.length%64:Nat):Int):=by
  unfold ov
  rw[fu (by omega)]
  omega
 by_cases h:l.length%64=56
 ·right
  intro R kn kx
  have hz:zc l.length=0:=by unfold zc;omega
  rw[bO.L0.step,hr,eX (by omega)]
  simp only[au,bO.L0.add,bO.L0.F,hz,cq,List.replicate_zero,cH]
 ·left
  have hz:zc l.length=zc (l.length+1)+1:=by unfold zc;omega
  refine⟨(b,l.length+1,n2,l++ [0]),⟨by simp,by simp only[aq,aD,ba,aN];omega⟩,by simp only[aq,aD,ba,aN];omega,?_,λkn kx=> ?_⟩
  ·simp only[bO.L0.add,bO.L0.F,aq,aD,ba,aN,hz,bg,ke,aS,List.replicate_succ]
   rw[show l.length+1+zc (l.length+1)=l.length+(zc (l.length+1)+1) by omega]
  ·rw[bO.L0.step,hr,iX (by omega),qv (by omega)]
   simp only[aj,ax,decide_true,cY]
theorem bO.L1.ok:(bO.mO 1 bO.L1):=by
 refine(bO.oG 1 bO.L1) (λ(b,m,n2,h,l)=>b.length) ?_
 rintro⟨b,m,n2,h,l⟩ ⟨s,rfl⟩
 by_cases hb:64<=b.length
 ·left
  have e1:cut b 64 (b.length - 64)=b.drop 64:=by unfold cut;rw[bz (by simp)]
  have e2:cut b 0 64=b.take 64:=rfl
  have hp:mix.aY (s.l,b.take 64):=⟨⟨s,rfl⟩,by simp;omega⟩
  refine⟨(b.drop 64,m,n2,(HA s (b.take 64)).l,l),⟨_,rfl⟩,by simp;omega,?_,λkn kx=> ?_⟩
  ·simp only[bO.L1.add,bO.L1.F,po]
   rw[wR s b hb]
  ·rw[bO.L1.step,fW (by omega),gV (by omega) (by omega),e1,e2]
   simp only[aj,mix.run hp,ah,bU,mix.F,po]
 ·right
  intro R kn kx
  rw[bO.L1.step,eu (by omega)]
  simp only[au,bO.L1.add,bO.L1.F,po]
  rw[tG s b (by omega)]
theorem bO.L2.ok:(bO.mO 2 bO.L2):=by
 refine(bO.oG 2 bO.L2) (λ(b,n2,h)=>b.length) ?_
 rintro⟨b,n2,h⟩ ⟨hm,s,rfl⟩
 have hm:b.length%64=0:=hm
 by_cases hb:0 < b.length
 ·left
  have e1:cut b 64 (b.length - 64)=b.drop 64:=by unfold cut;rw[bz (by simp)]
  have e2:cut b 0 64=b.take 64:=rfl
  have hp:mix.aY (s.l,b.take 64):=⟨⟨s,rfl⟩,by simp;omega⟩
  refine⟨(b.drop 64,n2,(HA s (b.take 64)).l),⟨by simp;omega,_,rfl⟩,by simp;omega,?_,λkn kx=> ?_⟩
  ·simp only[bO.L2.add,bO.L2.F,po]
   rw[wR s b (by omega)]
  ·rw[bO.L2.step,dv (by omega),gV (by omega) (by omega),e1,e2]
   simp only[aj,mix.run hp,ah,bU,mix.F,po]
 ·right
  intro R kn kx
  rw[bO.L2.step,cZ (by omega)]
  simp only[au,bO.L2.add,bO.L2.F,po]
  rw[tG s b (by omega)]
theorem bO.L3.ok:(bO.mO 3 bO.L3):=by
 refine(bO.oG 3 bO.L3) (λ(t,n2,h)=>32 - t.toNat) ?_
 rintro⟨t,m,h⟩ ⟨hl,h8,k,hk,rfl⟩
 have hl:m.length=32:=hl
 have h8:h.length=8:=h8
 have e2:Int.toNat (k:Int)=k:=by omega
 have e3:Int.toNat ((k+1:Nat):Int)=k+1:=by omega
 by_cases iC:k < 32
 ·left
  have e1:bN .i64 (k:Int) 1=((k+1:Nat):Int):=by rw[eH (by omega) (by omega)];omega
  have q4:qb .i64 (k:Int) 4=((k / 4:Nat):Int):=by
   have:(k:Int).tdiv 4=((k / 4:Nat):Int):=by rw[gP (by omega)];omega
   unfold qb
   rw[this,o8 (by omega) (by omega)]
  have r4:ov (k:Int) 4=((k%4:Nat):Int):=by
   unfold ov
   rw[fu (by omega)]
   omega
  have s4:dn .i64 24 (gz .i64 8 ((k%4:Nat):Int))=((24 - 8*(k%4):Nat):Int):=by
   rw[o9 (by omega) (by omega),dS (by omega) (by omega)]
   omega
  have e4:Int.toNat ((k / 4:Nat):Int)=k / 4:=by omega
  refine⟨(((k+1:Nat):Int),m.set k (AE h k m[k]),h),⟨by simpa using hl,h8,k+1,by omega,rfl⟩,by simp;omega,?_,λkn kx=> ?_⟩
  ·simp only[bU,bO.L3.F,e2,e3]
   rw[AQ (AE h) m k (by omega)]
  ·have d0:decide (k < 32)=true:=aX iC
   have d1:decide (k / 4 < 8)=true:=aX (by omega)
   rw[bO.L3.step,bA (by omega),q4,r4,s4,bJ (by omega) (by omega),bJ (by omega) (by omega),pO (by omega)]
   simp only[e1,e2,e4,na,aN,cq,decide_true,aj,hl,h8,d0,d1,AE]
 ·right
  obtain rfl:k=32:=by omega
  intro R kn kx
  rw[bO.L3.step,bl (by omega)]
  simp only[au,bU,bO.L3.F,e2]
  rw[C9 _ _ _ (by omega)]
theorem HL(w:W):BitVec.ofInt 8 (vw w)=w.setWidth 8:=by
 apply BitVec.eq_of_toNat_eq
 rw[lb,BitVec.toNat_setWidth]
 unfold vw
 omega
theorem Mn(w:W)(k:Int):dP .u8 (cg .u32 (vw w) k)=vw ((w >>> k.toNat).setWidth 8):=by
 rw[yT,BW,HL]
theorem KQ(s:St):from_ (AE s.l) 0 (List.replicate 32 0)=KP s:=by
 rw[yz]
 simp only[List.range_eq_range',List.range',bE,gr,AE,Nat.reduceAdd,Nat.reduceDiv,Nat.reduceMod,Nat.reduceMul,Nat.reduceSub,n0,n1,n2,n3,n4,n5,n6,n7,Mn]
 rfl
theorem bO.ok:bO.Ok:=by
 intro b hb
 have hb:b.length<=140737488350000:=hb
 have hr:ov ((b.length:Nat):Int) 64=((b.length%64:Nat):Int):=by
  unfold ov
  rw[fu (by omega)]
  omega
 have hs:dn .i64 ((b.length:Nat):Int) ((b.length%64:Nat):Int)=((b.length - b.length%64:Nat):Int):=by
  rw[dS (by omega) (by omega)];omega
 have hn:Int.toNat ((b.length - b.length%64:Nat):Int)=b.length - b.length%64:=by omega
 have hm:gz .i64 8 ((b.length:Nat):Int)=8*(b.length:Int):=o9 (by omega) (by omega)
 generalize hq:b.length - b.length%64=q at hs hn
 have hc:cut b q (b.length - q)=b.drop q:=by unfold cut;rw[bz (by simp)]
 have Fc:(b.drop q).length=b.length%64:=by simp;omega
 have p1:fy.aY (b.drop q):=by show(b.drop q).length<=_;omega
 rw[bO.eq,hr,hs,gV (by omega) (by omega),hn,hc]
 simp only[aj,fy.run p1,ah,bU,fy.F,ax,decide_true,cY]
 have p2:bO.L0.aY (b,(b.drop q).length+1,List.replicate 32 0,b.drop q++ [128]):=by
  refine⟨by simp,?_⟩
  simp only[aq,aD,ba,zc]
  omega
 have hz:zc (b.drop q++ [128]).length=vh b.length:=by
  simp only[aq,aD,ba,zc,vh]
  omega
 rw[qv (by omega)]
 simp only[aj,bO.L0.run p2,ah,bO.L0.add,bO.L0.F,hm,hz]
 have hlen:(b.drop q++ [128]).length+vh b.length=(b.drop q++ [128]++List.replicate (vh b.length) 0).length:=by rw[@aq _ (b.drop q++ [128]),ck]
 have p3:gG.aY ((b.drop q++ [128]).length+vh b.length,8*(b.length:Int),b.drop q++ [128]++List.replicate (vh b.length) 0):=by
  refine⟨hlen,?_⟩
  simp only[aq,aD,ba,ck,vh]
  omega
 have p4:bO.L1.aY (b,(b.drop q++ [128]++List.replicate (vh b.length) 0).length+8,List.replicate 32 0,oZ.l,b.drop q++ [128]++List.replicate (vh b.length) 0++pU (8*(b.length:Int))):=⟨oZ,rfl⟩
 simp only[gG.run p3,ah,bU,gG.F,first.run (d:=()) trivial,bU,first.F,bO.L1.run p4,bO.L1.add,bO.L1.F,po]
 generalize he:b.drop q++ [128]++List.replicate (vh b.length) 0++pU (8*(b.length:Int))=e
 have s9:(b.drop q++ [128]++List.replicate (vh b.length) 0).length+8=e.length:=by rw[<-he,@aq _ _ (pU _),dB]
 have NV:e.length%64=0:=by
  rw[<-s9]
  simp only[aq,aD,ba,ck,vh,Fc]
  omega
 have PU:cut e 0 ((b.drop q++ [128]++List.replicate (vh b.length) 0).length+8)=e:=by
  rw[s9];unfold cut;rw[aJ,cY]
 rw[PU,s9,aX ⟨trivial,by omega⟩]
 have p5:bO.L2.aY (e,List.replicate 32 0,(blocks oZ b).l):=⟨NV,blocks oZ b,rfl⟩
 have p6:bO.L3.aY (0,List.replicate 32 0,(blocks (blocks oZ b) e).l):=⟨rfl,rfl,0,by omega,rfl⟩
 simp only[aj,bO.L2.run p5,ah,bO.L2.add,bO.L2.F,po,bO.L3.run p6,bU,bO.L3.F,bU,bO.F]
 rw[show Int.toNat 0=0 from rfl,KQ]
 have NS:blocks oZ (pad b)=blocks (blocks oZ b) e:=by
  have h1:pad b=b.take q++e:=by
   rw[<-he]
   unfold pad
   rw[bg,bg,<-bg (b.take q),cW]
   rfl
  have h2:blocks oZ b=blocks (blocks oZ (b.take q)) (b.drop q):=by
   rw[<-tj _ _ _ (by simp;omega),cW]
  rw[h1,tj _ _ _ (by simp;omega),h2,tG _ (b.drop q) (by omega)]
 rw[Od,NS]
theorem bO.run:bO.RS:=rE [.d tB] bO
def bO.sg:=bO.gC bO.ok 4 ⟨.js bO.L0.ok,⟨.js bO.L1.ok,⟨.js bO.L2.ok,⟨.js bO.L3.ok,trivial⟩⟩⟩⟩
abbrev eh.L0.D:=Nat×(List Bs)×Int×Int×Bs×(List Int)
abbrev eh.L0.Y:=Nat×(List Int)
abbrev eh.L0.X:=(Bs)×(Nat×(List Int))
def eh.L0.add:eh.L0.D->eh.L0.Y->eh.L0.X:=λ(bL,t13,t14,t15,n4,n10) y=>(n4,y)
abbrev eh.D:=ByteArray×(List Bs)
abbrev eh.Y:=Bs
def eh.L0.aY:eh.L0.D->Prop:=λ(m,ps,n,i,n4,l)=>m=l.length/\n=ps.length/\ps.length<=140737488350000/\∃k:Nat,k<=ps.length/\i=k/\l.length+(oM (ps.drop k)).length<=140737488350000
def eh.L0.F:eh.L0.D->eh.L0.Y:=λ(m,ps,n,i,n4,l)=>(l.length+(oM (ps.drop i.toNat)).length,l++oM (ps.drop i.toNat))
def eh.aY:eh.D->Prop:=λ(name,ps)=>(As (bV name) ps).length<=140737488350000
def eh.F:eh.D->eh.Y:=λ(name,ps)=>tag (bV name) ps
def eh.L0:Ls eh.L0.aY eh.L0.add eh.L0.F:=tq (λ(bL,t13,t14,t15,n4,n10)=>⟨(bB 4 ([.ptr (.new 4 0) 0 [] 0,.cD (.new 10 0) 0 [] 0 0 bL]++bB 7 ([.d (.slice tB) t13,.d ti t14,.d ti t15]++bB 12 []))),[],(cR 4 ([[.obj 0 false (.d tH n4)]]++cR 5 ([[.obj 0 false (.vec 5 tb n10)]]++cR 17 [])))⟩) (λx=>(.exit 0,⟨(bB 4 ([.ptr (.new 4 0) 0 [] 0,.cD (.new 10 0) 0 [] 0 0 x.2.1]++bB 22 [])),[],(cR 4 ([[.obj 0 false (.d tH x.1)]]++cR 5 ([[.obj 0 false (.vec 5 tb x.2.2)]]++cR 17 [])))⟩))
def eh:Fs Tryz.prog eh.aY bU eh.F:=gh 72 Tryz.f72 (λ(name,parts)=>([.d .str name,.d (.slice tB) parts],[])) (λx=>⟨.d tH x,[],[]⟩) [some .str,some (.slice tB)] [jC.sg,gG.sg,bO.sg] {loops:=rH [(3,{bI:=[4,5,13,14,15],sites:=[4,10],owns:=[⟨5,[],10,140⟩]})],outs:=rG [(3,{bI:=[4,5],sites:=[4,10]},{bI:=[4]})],jP:=sh [(3,eh.L0.E)]}
theorem eh.L0.run:eh.L0.RS:=rL [.n,.d (.slice tB),.d ti,.d ti,.d tB,.d tB] eh.L0
theorem eh.L0.step{R:Type}(bL t13 t14 t15 n4 n10)(kn:K2 R)(kx:K3 R):eh.R 0 eh.L0 (bL,t13,t14,t15,n4,n10) kn kx=
  aK ((iI t15 t14)) (
   aK (fa t15 (t13.length:Int)) (
   aA (gG.call (bL,(((List.length (nth tB t13 (Int.toNat t15))):Nat):Int),n10)) λx1=>
   aK (decide (x1.1<=(List.length x1.2))) (
   aK (dT (x1.1+(List.length (nth tB t13 (Int.toNat t15)))) 1) (
   kn (eh.L0.st ((x1.1+(List.length (nth tB t13 (Int.toNat t15)))),t13,t14,(bN .i64 t15 1),n4,((List.take x1.1 x1.2)++(nth tB t13 (Int.toNat t15)))))) none) none) none) (
   eh.L0.go kx (n4,(bL,n10))):=by kernel_rfl
theorem eh.eq{R:Type}(name parts)(k:K1 R):eh.A (name,parts) k=
 aA (jC.call (((ByteArray.size name):Nat):Int)) λx1=>
 aK (decide (x1.1<=(List.length x1.2))) (
 aK (dT (x1.1+(List.length (bV name))) 1) (
 aA (eh.L0.call ((x1.1+(List.length (bV name))),parts,(parts.length:Int),0,(List.replicate 32 0),((List.take x1.1 x1.2)++(bV name)))) λx4=>
 aK (decide (0=0/\(0+x4.2.1)<=(List.length x4.2.2))) (
 aA (bO.call (cut x4.2.2 0 x4.2.1)) λx5=>
 k (eh.out x5)) none) none) none:=by kernel_rfl
theorem Bp(p:List Int)(ps:List (List Int)):oM (p::ps)=pU p.length++p++oM ps:=by simp[oM]
theorem H5(ps:List (List Int))(k:Nat)(h:k < ps.length):oM (ps.drop k)=pU ps[k].length++ps[k]++oM (ps.drop (k+1)):=by
 rw[aC h,Bp]
theorem eh.L0.ok:(eh.mO 0 eh.L0):=by
 refine(eh.oG 0 eh.L0) (λ(m,ps,n,i,n4,l)=>ps.length - i.toNat) ?_
 rintro⟨m,ps,n,i,n4,l⟩ ⟨rfl,rfl,xz,k,hk,rfl,hl⟩
 have hl:l.length+(oM (ps.drop k)).length<=140737488350000:=hl
 have hk:k<=ps.length:=hk
 have e2:Int.toNat (k:Int)=k:=by omega
 have e3:Int.toNat ((k+1:Nat):Int)=k+1:=by omega
 by_cases h:k < ps.length
 ·left
  have ht:=H5 ps k h
  have hlen:(oM (ps.drop k)).length=8+ps[k].length+(oM (ps.drop (k+1))).length:=by rw[ht];simp only[aq,dB]
  have hn:nth (.slice (.int .u8)) ps k=ps[k]:=dM (t:= .slice (.int .u8)) h
  have xz:ps.length<=140737488350000:=xz
  have e1:bN .i64 (k:Int) 1=((k+1:Nat):Int):=by rw[eH (by omega) (by omega)];omega
  refine⟨((l++pU ps[k].length++ps[k]).length,ps,(ps.length:Int),((k+1:Nat):Int),n4,l++pU ps[k].length++ps[k]),⟨rfl,rfl,xz,k+1,by show k+1<=ps.length;omega,rfl,?_⟩,?_,?_,λkn kx=> ?_⟩
  ·show(l++pU ps[k].length++ps[k]).length+(oM (ps.drop (k+1))).length<=_
   simp only[aq,dB];omega
  ·show ps.length - Int.toNat ((k+1:Nat):Int) < ps.length - Int.toNat (k:Int)
   omega
  ·simp only[eh.L0.add,eh.L0.F,e2,e3,ht,bg]
   simp only[aq,dB,dz]
  ·have p1:gG.aY (l.length,(ps[k].length:Int),l):=⟨rfl,by show l.length<=_;omega⟩
   rw[eh.L0.step,bA (by omega),bJ (by omega) (by omega),e1,e2]
   simp only[aj,hn,gG.run p1,ah,bU,gG.F]
   have O3:(l++pU ps[k].length).length=l.length+8:=by simp[dB]
   rw[O3,aX (ax _),qv (by omega)]
   simp only[aj]
   rw[bz (by rw[O3];omega)]
   simp only[aq,dB,dz]
 ·right
  obtain rfl:k=ps.length:=by omega
  intro R kn kx
  rw[eh.L0.step,bl (by omega)]
  simp only[au,eh.L0.add,eh.L0.F,e2,bq]
  simp[oM]
theorem El:∀ps:List (List Int),8*ps.length<=(oM ps).length
 |[]=>by simp[oM]
 |p::ps=>by
  rw[Bp]
  have:=El ps
  simp only[aq,dB,aD]
  omega
theorem jR(s:ByteArray):(bV s).length=s.size:=by simp only[bV,ct,bZ];rfl
theorem eh.ok:eh.Ok:=by
 rintro⟨name,ps⟩ hp
 have hp:(pU (bV name).length++bV name++oM ps).length<=140737488350000:=hp
 have hl:(pU (bV name).length++bV name++oM ps).length=8+(bV name).length+(oM ps).length:=by simp only[aq,dB]
 have xz:=El ps
 have l8:((name.size:Nat):Int)=(((bV name).length:Nat):Int):=by rw[jR]
 rw[eh.eq,jC.run (d:=((name.size:Nat):Int)) trivial,l8]
 simp only[ah,bU,jC.F,dB,ax,decide_true,aj]
 rw[qv (by omega),bz (by rw[dB];omega)]
 have p2:eh.L0.aY (8+(bV name).length,ps,(ps.length:Int),0,List.replicate 32 0,pU ((bV name).length:Int)++bV name):=by
  refine⟨by simp only[aq,dB],rfl,by show ps.length<=_;omega,0,bh _,rfl,?_⟩
  rw[aJ]
  simp only[aq,dB]
  omega
 simp only[aj,eh.L0.run p2,ah,eh.L0.add,eh.L0.F,cF,aJ]
 have Kv:cut (pU ((bV name).length:Int)++bV name++oM ps) 0 ((pU ((bV name).length:Int)++bV name).length+(oM ps).length)=As (bV name) ps:=by
  unfold cut
  rw[aJ,bz (by simp only[aq];omega)]
  rfl
 have p3:bO.aY (As (bV name) ps):=hp
 rw[aX ⟨trivial,by simp only[aq];omega⟩,Kv]
 simp only[aj,bO.run p3,ah,bU,bO.F,bU,eh.F,tag]
theorem eh.run:eh.RS:=rE [.d .str,.d (.slice tB)] eh
def eh.sg:=eh.gC eh.ok 1 ⟨.js eh.L0.ok,trivial⟩
theorem vM{n:Int}(h1:0<=n)(h2:n < 18446744073709551616):IntKind.u64.wrap n=n:=by
 rw[wrap_u64,jH];omega
theorem vL(n:Int):IntKind.u64.wrap n=n%18446744073709551616:=by
 rw[wrap_u64,jH];rfl
theorem oq(x y:Int):bN .u64 x y=(x+y)%18446744073709551616:=vL _
theorem xQ(x y:Int):dn .u64 x y=(x - y)%18446744073709551616:=vL _
theorem ou(x y:Int):gz .u64 x y=(x*y)%18446744073709551616:=vL _
theorem wi(x:Int):dP .u64 x=x%18446744073709551616:=vL _
theorem CH{x:Int}(h:0<=x)(h2:x < 18446744073709551616):du .and .u64 x 4294967295=x%4294967296:=by
 obtain⟨n,rfl⟩:∃n:Nat,x=n:=⟨x.toNat,by omega⟩
 have e:(BitVec.ofInt 64 (n:Int) &&& BitVec.ofInt 64 4294967295).toNat=n%4294967296:=by
  rw[BitVec.toNat_and]
  have a:(BitVec.ofInt 64 (n:Int)).toNat=n:=by rw[jX,lf];omega
  have b:(BitVec.ofInt 64 4294967295).toNat=2^32 - 1:=by decide
  rw[a,b,Nat.and_two_pow_sub_one_eq_mod]
 show IntKind.u64.wrap ((BitVec.ofInt 64 (n:Int) &&& BitVec.ofInt 64 4294967295).toNat:Int)=_
 rw[e,vM (by omega) (by omega)];omega
theorem Qo{x:Int}(h:0<=x)(h2:x < 18446744073709551616):du .and .u64 x 1=x%2:=by
 obtain⟨n,rfl⟩:∃n:Nat,x=n:=⟨x.toNat,by omega⟩
 have e:(BitVec.ofInt 64 (n:Int) &&& BitVec.ofInt 64 1).toNat=n%2:=by
  rw[BitVec.toNat_and]
  have a:(BitVec.ofInt 64 (n:Int)).toNat=n:=by rw[jX,lf];omega
  have b:(BitVec.ofInt 64 1).toNat=2^1 - 1:=by decide
  rw[a,b,Nat.and_two_pow_sub_one_eq_mod]
 show IntKind.u64.wrap ((BitVec.ofInt 64 (n:Int) &&& BitVec.ofInt 64 1).toNat:Int)=_
 rw[e,vM (by omega) (by omega)];omega
theorem oJ{x k:Int}(n:Nat)(hk:k=n)(hn:n<=64):cg .u64 x k=x / 2^n:=by
 subst hk
 rw[cg]
 have e:min (Int.toNat (n:Int)) IntKind.u64.bits=n:=by simp only[IntKind.bits];omega
 rw[e,Int.fdiv_eq_ediv_of_nonneg _ (Int.le_of_lt (Int.pow_pos (by omega)))]
theorem mY{x k:Int}(n:Nat)(hk:k=n)(hn:n<=64):mq .u64 x k=x*2^n%18446744073709551616:=by
 subst hk
 rw[mq,vL]
 have e:min (Int.toNat (n:Int)) IntKind.u64.bits=n:=by simp only[IntKind.bits];omega
 rw[e]
theorem vg{x y:Int}(k:Nat)(m:Int)(hm:m=2^k)(hx:x%m=0)(h0:0<=x)(h1:x < 18446744073709551616)(hy:0<=y)(N4:y < m)(h2:x+y < 18446744073709551616):du .or .u64 x y=x+y:=by
 subst hm
 obtain⟨n,rfl⟩:∃n:Nat,x=n:=⟨x.toNat,by omega⟩
 obtain⟨j,rfl⟩:∃j:Nat,y=j:=⟨y.toNat,by omega⟩
 have hx:n%2^k=0:=by
  have:((n%2^k:Nat):Int)=0:=by rw[Int.natCast_emod];simpa using hx
  omega
 have hj:j < 2^k:=by
  have:((j:Nat):Int) < ((2^k:Nat):Int):=by simpa using N4
  omega
 obtain⟨q,rfl⟩:∃q,n=2^k*q:=⟨n / 2^k,by have:=Nat.div_add_mod n (2^k);omega⟩
 have e:(BitVec.ofInt 64 ((2^k*q:Nat):Int) ||| BitVec.ofInt 64 (j:Int)).toNat=2^k*q+j:=by
  rw[BitVec.toNat_or]
  have a:(BitVec.ofInt 64 ((2^k*q:Nat):Int)).toNat=2^k*q:=by rw[jX,lf];exact Nat.mod_eq_of_lt (by omega)
  have b:(BitVec.ofInt 64 (j:Int)).toNat=j:=by rw[jX,lf];exact Nat.mod_eq_of_lt (by omega)
  rw[a,b,Nat.two_pow_add_eq_or_of_lt hj]
 show IntKind.u64.wrap ((BitVec.ofInt 64 ((2^k*q:Nat):Int) ||| BitVec.ofInt 64 (j:Int)).toNat:Int)=_
 rw[e,vM (by omega) (by omega)];omega
theorem Gz{x y:Int}(h:0<=x)(h1:0<=y)(h2:x < 18446744073709551616):qb .u64 x y=x / y:=by
 rw[qb,gP h]
 exact vM (Int.ediv_nonneg h h1) (Int.lt_of_le_of_lt (Int.ediv_le_self _ h) h2)
theorem sN{x y:Int}(h:0<=x):ov x y=x%y:=by rw[ov,fu h]
theorem k1{e u w r q:Int}(he:e=42260\/e=42264\/e=42272)(hu:0<=u)(Cs:u < 18446744073709551616 - e)(hw:0<=w)(Ik:w < 4294967296)(hr:0<=r)(Fg:r < 4294967296)
  (hq:q*4294967295+r=u) (hQ:(u*4294967296+w) / (18446744073709551616 - e)<=q):
  (4294967296<=q->(u*4294967296+w) / (18446744073709551616 - e)<=q - 1)/\
  (q < 4294967296->4294967296*r+w < q*(4294967296 - e)->(u*4294967296+w) / (18446744073709551616 - e)<=q - 1)/\
  (q < 4294967296->q*(4294967296 - e)<=4294967296*r+w->(u*4294967296+w) / (18446744073709551616 - e)=q)/\
  (4294967296<=r+4294967295->(u*4294967296+w) / (18446744073709551616 - e)<=q - 1->(u*4294967296+w) / (18446744073709551616 - e)=q - 1)/\0<=(u*4294967296+w) / (18446744073709551616 - e)/\q<=4294967297:=by
 rcases he with rfl | rfl | rfl
 ·refine⟨?_,?_,?_,?_,?_,?_⟩ <;> omega
 ·refine⟨?_,?_,?_,?_,?_,?_⟩ <;> omega
 ·refine⟨?_,?_,?_,?_,?_,?_⟩ <;> omega
theorem k0{e u w:Int}(he:e=42260\/e=42264\/e=42272)(hu:0<=u)(Cs:u < 18446744073709551616 - e)(hw:0<=w)(Ik:w < 4294967296):
  (u*4294967296+w) / (18446744073709551616 - e)<=u / 4294967295/\0<=u - u / 4294967295*4294967295/\u - u / 4294967295*4294967295 < 4294967296/\
  (u*4294967296+w) - (u*4294967296+w) / (18446744073709551616 - e)*(18446744073709551616 - e)=(u*4294967296+w)%(18446744073709551616 - e)/\
  0<=(u*4294967296+w)%(18446744073709551616 - e)/\(u*4294967296+w)%(18446744073709551616 - e) < 18446744073709551616 - e/\
  0<=(u*4294967296+w) / (18446744073709551616 - e)/\(u*4294967296+w) / (18446744073709551616 - e) < 4294967296:=by
 rcases he with rfl | rfl | rfl
 ·refine⟨?_,?_,?_,?_,?_,?_,?_,?_⟩ <;> omega
 ·refine⟨?_,?_,?_,?_,?_,?_,?_,?_⟩ <;> omega
 ·refine⟨?_,?_,?_,?_,?_,?_,?_,?_⟩ <;> omega
theorem kd(Y u w1 w0:Int)(hY:0 < Y)(h0:0<=w0)(h1:w0 < 4294967296):
  ((u*4294967296+w1)*4294967296+w0) / Y=(u*4294967296+w1) / Y*4294967296+((u*4294967296+w1)%Y*4294967296+w0) / Y/\
  ((u*4294967296+w1)*4294967296+w0)%Y=((u*4294967296+w1)%Y*4294967296+w0)%Y:=by
 generalize u*4294967296+w1=n
 have e:n*4294967296+w0=(n%Y*4294967296+w0)+Y*(n / Y*4294967296):=by
  have:=Int.emod_add_mul_ediv n Y
  have h:Y*(n / Y*4294967296)=(Y*(n / Y))*4294967296:=by rw[Int.mul_assoc]
  rw[h];omega
 rw[e,Int.add_mul_ediv_left _ _ (by omega),Int.add_mul_emod_self_left]
 exact⟨by omega,rfl⟩
abbrev gW.D:=Int
abbrev gW.Y:=Int
def N7(y:Int):Prop:=y=4611686018427377339\/y=2305843009213688669\/y=2305843009213688668
def gW.aY:gW.D->Prop:=N7
def gW.F:gW.D->gW.Y:=λy=>if y=4611686018427377339 then 62 else 61
def gW:Fs Tryz.prog gW.aY bU gW.F:=gh 215 Tryz.f215 (λx=>([.d tu x],[])) (λx=>⟨.d ti x,[],[]⟩) [some tu]
theorem gW.eq{R:Type}(x)(k:K1 R):gW.A x k=
  aK ((qP x 4294967296)) (
   aK ((qP (cg .u64 x 32) 65536)) (
    aK ((qP (cg .u64 (cg .u64 x 32) 16) 256)) (
     aK (fa (dP .u8 (cg .u64 (cg .u64 (cg .u64 x 32) 16) 8)) 256) (
     k (gW.out (bN .i64 56 (dP .i64 (D8 (⟨#[0,1,2,2,3,3,3,3,4,4,4,4,4,4,4,4,5,5,5,5,5,5,5,5,5,5,5,5,5,5,5,5,6,6,6,6,6,6,6,6,6,6,6,6,6,6,6,6,6,6,6,6,6,6,6,6,6,6,6,6,6,6,6,6,7,7,7,7,7,7,7,7,7,7,7,7,7,7,7,7,7,7,7,7,7,7,7,7,7,7,7,7,7,7,7,7,7,7,7,7,7,7,7,7,7,7,7,7,7,7,7,7,7,7,7,7,7,7,7,7,7,7,7,7,7,7,7,7,8,8,8,8,8,8,8,8,8,8,8,8,8,8,8,8,8,8,8,8,8,8,8,8,8,8,8,8,8,8,8,8,8,8,8,8,8,8,8,8,8,8,8,8,8,8,8,8,8,8,8,8,8,8,8,8,8,8,8,8,8,8,8,8,8,8,8,8,8,8,8,8,8,8,8,8,8,8,8,8,8,8,8,8,8,8,8,8,8,8,8,8,8,8,8,8,8,8,8,8,8,8,8,8,8,8,8,8,8,8,8,8,8,8,8,8,8,8,8,8,8,8,8,8,8,8,8,8]⟩:ByteArray) (dP .u8 (cg .u64 (cg .u64 (cg .u64 x 32) 16) 8))))))) none) (
     aK (fa (dP .u8 (cg .u64 (cg .u64 x 32) 16)) 256) (
     k (gW.out (bN .i64 48 (dP .i64 (D8 (⟨#[0,1,2,2,3,3,3,3,4,4,4,4,4,4,4,4,5,5,5,5,5,5,5,5,5,5,5,5,5,5,5,5,6,6,6,6,6,6,6,6,6,6,6,6,6,6,6,6,6,6,6,6,6,6,6,6,6,6,6,6,6,6,6,6,7,7,7,7,7,7,7,7,7,7,7,7,7,7,7,7,7,7,7,7,7,7,7,7,7,7,7,7,7,7,7,7,7,7,7,7,7,7,7,7,7,7,7,7,7,7,7,7,7,7,7,7,7,7,7,7,7,7,7,7,7,7,7,7,8,8,8,8,8,8,8,8,8,8,8,8,8,8,8,8,8,8,8,8,8,8,8,8,8,8,8,8,8,8,8,8,8,8,8,8,8,8,8,8,8,8,8,8,8,8,8,8,8,8,8,8,8,8,8,8,8,8,8,8,8,8,8,8,8,8,8,8,8,8,8,8,8,8,8,8,8,8,8,8,8,8,8,8,8,8,8,8,8,8,8,8,8,8,8,8,8,8,8,8,8,8,8,8,8,8,8,8,8,8,8,8,8,8,8,8,8,8,8,8,8,8,8,8,8,8,8,8]⟩:ByteArray) (dP .u8 (cg .u64 (cg .u64 x 32) 16))))))) none)) (
    aK ((qP (cg .u64 x 32) 256)) (
     aK (fa (dP .u8 (cg .u64 (cg .u64 x 32) 8)) 256) (
     k (gW.out (bN .i64 40 (dP .i64 (D8 (⟨#[0,1,2,2,3,3,3,3,4,4,4,4,4,4,4,4,5,5,5,5,5,5,5,5,5,5,5,5,5,5,5,5,6,6,6,6,6,6,6,6,6,6,6,6,6,6,6,6,6,6,6,6,6,6,6,6,6,6,6,6,6,6,6,6,7,7,7,7,7,7,7,7,7,7,7,7,7,7,7,7,7,7,7,7,7,7,7,7,7,7,7,7,7,7,7,7,7,7,7,7,7,7,7,7,7,7,7,7,7,7,7,7,7,7,7,7,7,7,7,7,7,7,7,7,7,7,7,7,8,8,8,8,8,8,8,8,8,8,8,8,8,8,8,8,8,8,8,8,8,8,8,8,8,8,8,8,8,8,8,8,8,8,8,8,8,8,8,8,8,8,8,8,8,8,8,8,8,8,8,8,8,8,8,8,8,8,8,8,8,8,8,8,8,8,8,8,8,8,8,8,8,8,8,8,8,8,8,8,8,8,8,8,8,8,8,8,8,8,8,8,8,8,8,8,8,8,8,8,8,8,8,8,8,8,8,8,8,8,8,8,8,8,8,8,8,8,8,8,8,8,8,8,8,8,8,8]⟩:ByteArray) (dP .u8 (cg .u64 (cg .u64 x 32) 8))))))) none) (
     aK (fa (dP .u8 (cg .u64 x 32)) 256) (
     k (gW.out (bN .i64 32 (dP .i64 (D8 (⟨#[0,1,2,2,3,3,3,3,4,4,4,4,4,4,4,4,5,5,5,5,5,5,5,5,5,5,5,5,5,5,5,5,6,6,6,6,6,6,6,6,6,6,6,6,6,6,6,6,6,6,6,6,6,6,6,6,6,6,6,6,6,6,6,6,7,7,7,7,7,7,7,7,7,7,7,7,7,7,7,7,7,7,7,7,7,7,7,7,7,7,7,7,7,7,7,7,7,7,7,7,7,7,7,7,7,7,7,7,7,7,7,7,7,7,7,7,7,7,7,7,7,7,7,7,7,7,7,7,8,8,8,8,8,8,8,8,8,8,8,8,8,8,8,8,8,8,8,8,8,8,8,8,8,8,8,8,8,8,8,8,8,8,8,8,8,8,8,8,8,8,8,8,8,8,8,8,8,8,8,8,8,8,8,8,8,8,8,8,8,8,8,8,8,8,8,8,8,8,8,8,8,8,8,8,8,8,8,8,8,8,8,8,8,8,8,8,8,8,8,8,8,8,8,8,8,8,8,8,8,8,8,8,8,8,8,8,8,8,8,8,8,8,8,8,8,8,8,8,8,8,8,8,8,8,8,8]⟩:ByteArray) (dP .u8 (cg .u64 x 32))))))) none))) (
   aK ((qP x 65536)) (
    aK ((qP (cg .u64 x 16) 256)) (
     aK (fa (dP .u8 (cg .u64 (cg .u64 x 16) 8)) 256) (
     k (gW.out (bN .i64 24 (dP .i64 (D8 (⟨#[0,1,2,2,3,3,3,3,4,4,4,4,4,4,4,4,5,5,5,5,5,5,5,5,5,5,5,5,5,5,5,5,6,6,6,6,6,6,6,6,6,6,6,6,6,6,6,6,6,6,6,6,6,6,6,6,6,6,6,6,6,6,6,6,7,7,7,7,7,7,7,7,7,7,7,7,7,7,7,7,7,7,7,7,7,7,7,7,7,7,7,7,7,7,7,7,7,7,7,7,7,7,7,7,7,7,7,7,7,7,7,7,7,7,7,7,7,7,7,7,7,7,7,7,7,7,7,7,8,8,8,8,8,8,8,8,8,8,8,8,8,8,8,8,8,8,8,8,8,8,8,8,8,8,8,8,8,8,8,8,8,8,8,8,8,8,8,8,8,8,8,8,8,8,8,8,8,8,8,8,8,8,8,8,8,8,8,8,8,8,8,8,8,8,8,8,8,8,8,8,8,8,8,8,8,8,8,8,8,8,8,8,8,8,8,8,8,8,8,8,8,8,8,8,8,8,8,8,8,8,8,8,8,8,8,8,8,8,8,8,8,8,8,8,8,8,8,8,8,8,8,8,8,8,8,8]⟩:ByteArray) (dP .u8 (cg .u64 (cg .u64 x 16) 8))))))) none) (
     aK (fa (dP .u8 (cg .u64 x 16)) 256) (
     k (gW.out (bN .i64 16 (dP .i64 (D8 (⟨#[0,1,2,2,3,3,3,3,4,4,4,4,4,4,4,4,5,5,5,5,5,5,5,5,5,5,5,5,5,5,5,5,6,6,6,6,6,6,6,6,6,6,6,6,6,6,6,6,6,6,6,6,6,6,6,6,6,6,6,6,6,6,6,6,7,7,7,7,7,7,7,7,7,7,7,7,7,7,7,7,7,7,7,7,7,7,7,7,7,7,7,7,7,7,7,7,7,7,7,7,7,7,7,7,7,7,7,7,7,7,7,7,7,7,7,7,7,7,7,7,7,7,7,7,7,7,7,7,8,8,8,8,8,8,8,8,8,8,8,8,8,8,8,8,8,8,8,8,8,8,8,8,8,8,8,8,8,8,8,8,8,8,8,8,8,8,8,8,8,8,8,8,8,8,8,8,8,8,8,8,8,8,8,8,8,8,8,8,8,8,8,8,8,8,8,8,8,8,8,8,8,8,8,8,8,8,8,8,8,8,8,8,8,8,8,8,8,8,8,8,8,8,8,8,8,8,8,8,8,8,8,8,8,8,8,8,8,8,8,8,8,8,8,8,8,8,8,8,8,8,8,8,8,8,8,8]⟩:ByteArray) (dP .u8 (cg .u64 x 16))))))) none)) (
    aK ((qP x 256)) (
     aK (fa (dP .u8 (cg .u64 x 8)) 256) (
     k (gW.out (bN .i64 8 (dP .i64 (D8 (⟨#[0,1,2,2,3,3,3,3,4,4,4,4,4,4,4,4,5,5,5,5,5,5,5,5,5,5,5,5,5,5,5,5,6,6,6,6,6,6,6,6,6,6,6,6,6,6,6,6,6,6,6,6,6,6,6,6,6,6,6,6,6,6,6,6,7,7,7,7,7,7,7,7,7,7,7,7,7,7,7,7,7,7,7,7,7,7,7,7,7,7,7,7,7,7,7,7,7,7,7,7,7,7,7,7,7,7,7,7,7,7,7,7,7,7,7,7,7,7,7,7,7,7,7,7,7,7,7,7,8,8,8,8,8,8,8,8,8,8,8,8,8,8,8,8,8,8,8,8,8,8,8,8,8,8,8,8,8,8,8,8,8,8,8,8,8,8,8,8,8,8,8,8,8,8,8,8,8,8,8,8,8,8,8,8,8,8,8,8,8,8,8,8,8,8,8,8,8,8,8,8,8,8,8,8,8,8,8,8,8,8,8,8,8,8,8,8,8,8,8,8,8,8,8,8,8,8,8,8,8,8,8,8,8,8,8,8,8,8,8,8,8,8,8,8,8,8,8,8,8,8,8,8,8,8,8,8]⟩:ByteArray) (dP .u8 (cg .u64 x 8))))))) none) (
     aK (fa (dP .u8 x) 256) (
     k (gW.out (bN .i64 0 (dP .i64 (D8 (⟨#[0,1,2,2,3,3,3,3,4,4,4,4,4,4,4,4,5,5,5,5,5,5,5,5,5,5,5,5,5,5,5,5,6,6,6,6,6,6,6,6,6,6,6,6,6,6,6,6,6,6,6,6,6,6,6,6,6,6,6,6,6,6,6,6,7,7,7,7,7,7,7,7,7,7,7,7,7,7,7,7,7,7,7,7,7,7,7,7,7,7,7,7,7,7,7,7,7,7,7,7,7,7,7,7,7,7,7,7,7,7,7,7,7,7,7,7,7,7,7,7,7,7,7,7,7,7,7,7,8,8,8,8,8,8,8,8,8,8,8,8,8,8,8,8,8,8,8,8,8,8,8,8,8,8,8,8,8,8,8,8,8,8,8,8,8,8,8,8,8,8,8,8,8,8,8,8,8,8,8,8,8,8,8,8,8,8,8,8,8,8,8,8,8,8,8,8,8,8,8,8,8,8,8,8,8,8,8,8,8,8,8,8,8,8,8,8,8,8,8,8,8,8,8,8,8,8,8,8,8,8,8,8,8,8,8,8,8,8,8,8,8,8,8,8,8,8,8,8,8,8,8,8,8,8,8,8]⟩:ByteArray) (dP .u8 x)))))) none))):=by kernel_rfl
theorem gW.ok:gW.Ok:=by
 intro y h
 rw[gW.eq]
 obtain rfl | rfl | rfl:=h <;> kernel_rfl
theorem gW.run:gW.RS:=rE [.d tu] gW
def gW.sg:=gW.gC gW.ok
abbrev nO.D:=Int
abbrev nO.Y:=Int
def nO.aY:nO.D->Prop:=N7
def nO.F:nO.D->nO.Y:=λy=>if y=4611686018427377339 then 2 else 3
def nO:Fs Tryz.prog nO.aY bU nO.F:=gh 276 Tryz.f276 (λx=>([.d tu x],[])) (λx=>⟨.d ti x,[],[]⟩) [some tu] [gW.sg]
theorem nO.eq{R:Type}(x)(k:K1 R):nO.A x k=
 aA (gW.call x) λx1=>
 k (nO.out (dn .i64 64 x1)):=by kernel_rfl
theorem nO.ok:nO.Ok:=by
 intro y h
 rw[nO.eq,gW.run (d:=y) h]
 obtain rfl | rfl | rfl:=h <;> rfl
theorem nO.run:nO.RS:=rE [.d tu] nO
def nO.sg:=nO.gC nO.ok
abbrev bQ.L0.D:=Int×Int×Int×Int×Int×Int×Int×Int×Int
abbrev bQ.L0.Y:=Int
abbrev bQ.L0.X:=(Int×Int×Int×Int×Int×Int×Int)×(Int)
def bQ.L0.add:bQ.L0.D->bQ.L0.Y->bQ.L0.X:=λ(Aw,sv,yn1,yn0,un32,un1,un0,q1,rhat) y=>((Aw,sv,yn1,yn0,un32,un1,un0),y)
abbrev bQ.L1.D:=Int×Int×Int×Int×Int×Int×Int×Int×Int
abbrev bQ.L1.Y:=Int
abbrev bQ.L1.X:=(Int×Int×Int×Int×Int)×(Int)
def bQ.L1.add:bQ.L1.D->bQ.L1.Y->bQ.L1.X:=λ(Ax,nE,tE,zQ,sE,An,ri,un21,q0) y=>((Ax,nE,sE,An,un21),y)
abbrev bQ.D:=Int×Int×Int
abbrev bQ.Y:=Int×Int
def bQ.L0.aY:bQ.L0.D->Prop:=λ(y,sv,yn1,yn0,u,w,un0,q,r)=>∃e:Int,(e=42260\/e=42264\/e=42272)/\y=18446744073709551616 - e/\yn1=4294967295/\yn0=4294967296 - e/\0<=u/\u < 18446744073709551616 - e/\0<=w/\w < 4294967296/\0<=r/\r < 4294967296/\q*4294967295+r=u/\(u*4294967296+w) / (18446744073709551616 - e)<=q
def bQ.L0.F:bQ.L0.D->bQ.L0.Y:=λ(y,sv,yn1,yn0,u,w,un0,q,r)=>(u*4294967296+w) / y
def bQ.L1.aY:bQ.L1.D->Prop:=λ(y,sv,yn1,yn0,w,q1,r,u,q)=>∃e:Int,(e=42260\/e=42264\/e=42272)/\y=18446744073709551616 - e/\yn1=4294967295/\yn0=4294967296 - e/\0<=u/\u < 18446744073709551616 - e/\0<=w/\w < 4294967296/\0<=r/\r < 4294967296/\q*4294967295+r=u/\(u*4294967296+w) / (18446744073709551616 - e)<=q
def bQ.L1.F:bQ.L1.D->bQ.L1.Y:=λ(y,sv,yn1,yn0,w,q1,r,u,q)=>(u*4294967296+w) / y
def bQ.aY:bQ.D->Prop:=λ(hi,lo,y)=>(N7 y\/hi=0/\0 < y/\y < 18446744073709551616)/\0<=hi/\hi < y/\0<=lo/\lo < 18446744073709551616
def bQ.F:bQ.D->bQ.Y:=λ(hi,lo,y)=>((hi*18446744073709551616+lo) / y,(hi*18446744073709551616+lo)%y)
def bQ.L0:Ls bQ.L0.aY bQ.L0.add bQ.L0.F:=tq (λ(Aw,sv,yn1,yn0,un32,un1,un0,q1,rhat)=>⟨([.undef,.undef,.d tu Aw]++bB 5 ([.d tu sv,.d tu yn1,.d tu yn0,.d tu un32,.undef,.d tu un1,.d tu un0,.d tu q1,.d tu rhat]++bB 118 [])),[],(List.replicate 135 [])⟩) (λx=>(.exit 0,⟨([.undef,.undef,.d tu x.1.1]++bB 5 ([.d tu x.1.2.1,.d tu x.1.2.2.1,.d tu x.1.2.2.2.1,.d tu x.1.2.2.2.2.1,.undef,.d tu x.1.2.2.2.2.2.1,.d tu x.1.2.2.2.2.2.2,.d tu x.2]++bB 119 [])),[],(List.replicate 135 [])⟩))
def bQ.L1:Ls bQ.L1.aY bQ.L1.add bQ.L1.F:=tq (λ(Ax,nE,tE,zQ,sE,An,ri,un21,q0)=>⟨([.undef,.undef,.d tu Ax]++bB 5 ([.d tu nE,.d tu tE,.d tu zQ,.undef,.undef,.undef,.d tu sE,.d tu An,.d tu ri,.d tu un21,.d tu q0]++bB 116 [])),[],(List.replicate 135 [])⟩) (λx=>(.exit 2,⟨([.undef,.undef,.d tu x.1.1]++bB 5 ([.d tu x.1.2.1]++bB 5 ([.d tu x.1.2.2.1,.d tu x.1.2.2.2.1,.undef,.d tu x.1.2.2.2.2,.d tu x.2]++bB 116 []))),[],(List.replicate 135 [])⟩))
def bQ:Fs Tryz.prog bQ.aY bU bQ.F:=gh 237 Tryz.f237 (λ(hi,lo,yv)=>([.d tu hi,.d tu lo,.d tu yv],[])) (λx=>⟨.cons (.d tu x.1) (.cons (.d tu x.2) (.nil)),[],[]⟩) [some tu,some tu,some tu] [nO.sg] {loops:=rH [(17,{bI:=[2,8,9,10,11,13,14,15,16]}),(24,{bI:=[2,8,9,10,14,15,16,17,18]})],outs:=rG [(17,{bI:=[2,8,9,10,11,13,14,15]},{bI:=[6,7]}),(24,{bI:=[2,8,14,15,17,18]},{bI:=[6,7]})],jP:=sh [(17,bQ.L0.E),(24,bQ.L1.E)]}
theorem bQ.L0.run:bQ.L0.RS:=rL [.d tu,.d tu,.d tu,.d tu,.d tu,.d tu,.d tu,.d tu,.d tu] bQ.L0
theorem bQ.L0.step{R:Type}(Aw sv yn1 yn0 un32 un1 un0 q1 rhat)(kn:K2 R)(kx:K3 R):bQ.R 0 bQ.L0 (Aw,sv,yn1,yn0,un32,un1,un0,q1,rhat) kn kx=
  aK ((qP q1 4294967296)) (
   aK ((qP (bN .u64 rhat yn1) 4294967296)) (
    bQ.L0.go kx ((Aw,sv,yn1,yn0,un32,un1,un0),(dn .u64 q1 1))) (
    kn (bQ.L0.st (Aw,sv,yn1,yn0,un32,un1,un0,(dn .u64 q1 1),(bN .u64 rhat yn1))))) (
   aK ((ot (gz .u64 q1 yn0) (bN .u64 (gz .u64 4294967296 rhat) un1))) (
    aK ((qP (bN .u64 rhat yn1) 4294967296)) (
     bQ.L0.go kx ((Aw,sv,yn1,yn0,un32,un1,un0),(dn .u64 q1 1))) (
     kn (bQ.L0.st (Aw,sv,yn1,yn0,un32,un1,un0,(dn .u64 q1 1),(bN .u64 rhat yn1))))) (
    bQ.L0.go kx ((Aw,sv,yn1,yn0,un32,un1,un0),q1))):=by kernel_rfl
theorem bQ.L1.run:bQ.L1.RS:=rL [.d tu,.d tu,.d tu,.d tu,.d tu,.d tu,.d tu,.d tu,.d tu] bQ.L1
theorem bQ.L1.step{R:Type}(Ax nE tE zQ sE An ri un21 q0)(kn:K2 R)(kx:K3 R):bQ.R 1 bQ.L1 (Ax,nE,tE,zQ,sE,An,ri,un21,q0) kn kx=
  aK ((qP q0 4294967296)) (
   aK ((qP (bN .u64 ri tE) 4294967296)) (
    bQ.L1.go kx ((Ax,nE,sE,An,un21),(dn .u64 q0 1))) (
    kn (bQ.L1.st (Ax,nE,tE,zQ,sE,An,(bN .u64 ri tE),un21,(dn .u64 q0 1))))) (
   aK ((ot (gz .u64 q0 zQ) (bN .u64 (gz .u64 4294967296 ri) sE))) (
    aK ((qP (bN .u64 ri tE) 4294967296)) (
     bQ.L1.go kx ((Ax,nE,sE,An,un21),(dn .u64 q0 1))) (
     kn (bQ.L1.st (Ax,nE,tE,zQ,sE,An,(bN .u64 ri tE),un21,(dn .u64 q0 1))))) (
    bQ.L1.go kx ((Ax,nE,sE,An,un21),q0))):=by kernel_rfl
theorem bQ.eq{R:Type}(hi lo yv)(k:K1 R):bQ.A (hi,lo,yv) k=
  aK ((BX yv 0)) (
   none) (
   aK ((Ct yv hi)) (
    none) (
    aK ((BX hi 0)) (
     aK (kY yv) (
     aK (kY yv) (
     k (bQ.out ((qb .u64 lo yv),(ov lo yv)))) none) none) (
     aA (nO.call yv) λx1=>
     aK (mf (dP .u64 x1)) (
     aK (mf (dP .u64 x1)) (
     aK (mf (dn .u64 64 (dP .u64 x1))) (
     aK (mf (dP .u64 x1)) (
     aK (kY (cg .u64 (mq .u64 yv (dP .u64 x1)) 32)) (
     aA (bQ.L0.call ((mq .u64 yv (dP .u64 x1)),(dP .u64 x1),(cg .u64 (mq .u64 yv (dP .u64 x1)) 32),(du .and .u64 (mq .u64 yv (dP .u64 x1)) 4294967295),(du .or .u64 (mq .u64 hi (dP .u64 x1)) (cg .u64 lo (dn .u64 64 (dP .u64 x1)))),(cg .u64 (mq .u64 lo (dP .u64 x1)) 32),(du .and .u64 (mq .u64 lo (dP .u64 x1)) 4294967295),(qb .u64 (du .or .u64 (mq .u64 hi (dP .u64 x1)) (cg .u64 lo (dn .u64 64 (dP .u64 x1)))) (cg .u64 (mq .u64 yv (dP .u64 x1)) 32)),(dn .u64 (du .or .u64 (mq .u64 hi (dP .u64 x1)) (cg .u64 lo (dn .u64 64 (dP .u64 x1)))) (gz .u64 (qb .u64 (du .or .u64 (mq .u64 hi (dP .u64 x1)) (cg .u64 lo (dn .u64 64 (dP .u64 x1)))) (cg .u64 (mq .u64 yv (dP .u64 x1)) 32)) (cg .u64 (mq .u64 yv (dP .u64 x1)) 32))))) λx2=>
     aK (kY x2.1.2.2.1) (
     aA (bQ.L1.call (x2.1.1,x2.1.2.1,x2.1.2.2.1,x2.1.2.2.2.1,x2.1.2.2.2.2.2.2,x2.2,(dn .u64 (dn .u64 (bN .u64 (gz .u64 x2.1.2.2.2.2.1 4294967296) x2.1.2.2.2.2.2.1) (gz .u64 x2.2 x2.1.1)) (gz .u64 (qb .u64 (dn .u64 (bN .u64 (gz .u64 x2.1.2.2.2.2.1 4294967296) x2.1.2.2.2.2.2.1) (gz .u64 x2.2 x2.1.1)) x2.1.2.2.1) x2.1.2.2.1)),(dn .u64 (bN .u64 (gz .u64 x2.1.2.2.2.2.1 4294967296) x2.1.2.2.2.2.2.1) (gz .u64 x2.2 x2.1.1)),(qb .u64 (dn .u64 (bN .u64 (gz .u64 x2.1.2.2.2.2.1 4294967296) x2.1.2.2.2.2.2.1) (gz .u64 x2.2 x2.1.1)) x2.1.2.2.1))) λx3=>
     aK (mf x3.1.2.1) (
     k (bQ.out ((bN .u64 (gz .u64 x3.1.2.2.2.1 4294967296) x3.2),(cg .u64 (dn .u64 (bN .u64 (gz .u64 x3.1.2.2.2.2 4294967296) x3.1.2.2.1) (gz .u64 x3.2 x3.1.1)) x3.1.2.1)))) none) none) none) none) none) none) none))):=by kernel_rfl
theorem bQ.L0.ok:(bQ.mO 0 bQ.L0):=by
 refine(bQ.oG 0 bQ.L0) (λ(y,sv,yn1,yn0,u,w,un0,q,r)=>q.toNat) ?_
 rintro⟨y,sv,yn1,yn0,u,w,un0,q,r⟩ ⟨e,he,rfl,rfl,rfl,hu,Cs,hw,Ik,hr,Fg,hq,hQ⟩
 have hu:0<=u:=hu
 have Cs:u < 18446744073709551616 - e:=Cs
 have hw:0<=w:=hw
 have Ik:w < 4294967296:=Ik
 have hr:0<=r:=hr
 have Fg:r < 4294967296:=Fg
 have hq:q*4294967295+r=u:=hq
 obtain⟨k1,k2,k3,k4,k5,k6⟩:=k1 he hu Cs hw Ik hr Fg hq hQ
 have q0:0<=q:=Int.le_trans k5 hQ
 have a1:bN .u64 r 4294967295=r+4294967295:=by rw[oq];omega
 have a2:bN .u64 (gz .u64 4294967296 r) w=4294967296*r+w:=by rw[ou,oq];omega
 have a3:q < 4294967296->gz .u64 q (4294967296 - e)=q*(4294967296 - e):=by
  intro h;rw[ou];rcases he with rfl | rfl | rfl <;> omega
 have a4:0 < q->dn .u64 q 1=q - 1:=by intro h;rw[xQ];omega
 have pos:4294967296<=q\/(q < 4294967296/\4294967296*r+w < q*(4294967296 - e))->0 < q/\(u*4294967296+w) / (18446744073709551616 - e)<=q - 1:=by
  rintro(h | ⟨h,h2⟩)
  ·exact⟨by omega,k1 h⟩
  ·exact⟨by have:=k2 h h2;omega,k2 h h2⟩
 by_cases hc:4294967296<=q\/(q < 4294967296/\4294967296*r+w < q*(4294967296 - e))
 ·obtain⟨p1,p2⟩:=pos hc
  by_cases hb:4294967296<=r+4294967295
  ·right
   have hF:bQ.L0.F (18446744073709551616 - e,sv,4294967295,4294967296 - e,u,w,un0,q,r)=q - 1:=k4 hb p2
   intro R kn kx
   rw[bQ.L0.step,a1,a2,a4 p1,fW hb,hF]
   rcases hc with h | ⟨h,h2⟩
   ·rw[fW h];rfl
   ·rw[eu (by omega),a3 h,dv h2];rfl
  ·left
   refine⟨(18446744073709551616 - e,sv,4294967295,4294967296 - e,u,w,un0,q - 1,r+4294967295),⟨e,he,rfl,rfl,rfl,hu,Cs,hw,Ik,by omega,by omega,by omega,p2⟩,by simp only[];omega,rfl,λkn kx=> ?_⟩
   rw[bQ.L0.step,a1,a2,a4 p1,eu hb]
   rcases hc with h | ⟨h,h2⟩
   ·rw[fW h];rfl
   ·rw[eu (by omega),a3 h,dv h2];rfl
 ·right
  have h:q < 4294967296:=by omega
  have h2:¬4294967296*r+w < q*(4294967296 - e):=λx=>hc (Or.inr ⟨h,x⟩)
  have hF:bQ.L0.F (18446744073709551616 - e,sv,4294967295,4294967296 - e,u,w,un0,q,r)=q:=k3 h (by omega)
  intro R kn kx
  rw[bQ.L0.step,a2,a3 h,eu (by omega),cZ h2,hF]
  rfl
theorem bQ.L1.ok:(bQ.mO 1 bQ.L1):=by
 refine(bQ.oG 1 bQ.L1) (λ(y,sv,yn1,yn0,w,q1,r,u,q)=>q.toNat) ?_
 rintro⟨y,sv,yn1,yn0,w,q1,r,u,q⟩ ⟨e,he,rfl,rfl,rfl,hu,Cs,hw,Ik,hr,Fg,hq,hQ⟩
 have hu:0<=u:=hu
 have Cs:u < 18446744073709551616 - e:=Cs
 have hw:0<=w:=hw
 have Ik:w < 4294967296:=Ik
 have hr:0<=r:=hr
 have Fg:r < 4294967296:=Fg
 have hq:q*4294967295+r=u:=hq
 obtain⟨k1,k2,k3,k4,k5,k6⟩:=k1 he hu Cs hw Ik hr Fg hq hQ
 have q0:0<=q:=Int.le_trans k5 hQ
 have a1:bN .u64 r 4294967295=r+4294967295:=by rw[oq];omega
 have a2:bN .u64 (gz .u64 4294967296 r) w=4294967296*r+w:=by rw[ou,oq];omega
 have a3:q < 4294967296->gz .u64 q (4294967296 - e)=q*(4294967296 - e):=by
  intro h;rw[ou];rcases he with rfl | rfl | rfl <;> omega
 have a4:0 < q->dn .u64 q 1=q - 1:=by intro h;rw[xQ];omega
 have pos:4294967296<=q\/(q < 4294967296/\4294967296*r+w < q*(4294967296 - e))->0 < q/\(u*4294967296+w) / (18446744073709551616 - e)<=q - 1:=by
  rintro(h | ⟨h,h2⟩)
  ·exact⟨by omega,k1 h⟩
  ·exact⟨by have:=k2 h h2;omega,k2 h h2⟩
 by_cases hc:4294967296<=q\/(q < 4294967296/\4294967296*r+w < q*(4294967296 - e))
 ·obtain⟨p1,p2⟩:=pos hc
  by_cases hb:4294967296<=r+4294967295
  ·right
   have hF:bQ.L1.F (18446744073709551616 - e,sv,4294967295,4294967296 - e,w,q1,r,u,q)=q - 1:=k4 hb p2
   intro R kn kx
   rw[bQ.L1.step,a1,a2,a4 p1,fW hb,hF]
   rcases hc with h | ⟨h,h2⟩
   ·rw[fW h];rfl
   ·rw[eu (by omega),a3 h,dv h2];rfl
  ·left
   refine⟨(18446744073709551616 - e,sv,4294967295,4294967296 - e,w,q1,r+4294967295,u,q - 1),⟨e,he,rfl,rfl,rfl,hu,Cs,hw,Ik,by omega,by omega,by omega,p2⟩,by simp only[];omega,rfl,λkn kx=> ?_⟩
   rw[bQ.L1.step,a1,a2,a4 p1,eu hb]
   rcases hc with h | ⟨h,h2⟩
   ·rw[fW h];rfl
   ·rw[eu (by omega),a3 h,dv h2];rfl
 ·right
  have h:q < 4294967296:=by omega
  have h2:¬4294967296*r+w < q*(4294967296 - e):=λx=>hc (Or.inr ⟨h,x⟩)
  have hF:bQ.L1.F (18446744073709551616 - e,sv,4294967295,4294967296 - e,w,q1,r,u,q)=q:=k3 h (by omega)
  intro R kn kx
  rw[bQ.L1.step,a2,a3 h,eu (by omega),cZ h2,hF]
  rfl
theorem Mt{y hi lo:Int}(hy:N7 y)(h0:0<=hi)(h1:hi < y)(h2:0<=lo)(h3:lo < 18446744073709551616):∃(s:Nat) (e m:Int),nO.F y=s/\(s=2\/s=3)/\m=2^s/\(e=42260\/e=42264\/e=42272)/\y*m=18446744073709551616 - e/\
  mq .u64 y (s:Int)=18446744073709551616 - e/\
  du .or .u64 (mq .u64 hi (s:Int)) (cg .u64 lo (dn .u64 64 (s:Int)))=(hi*18446744073709551616+lo)*m / 18446744073709551616/\
  mq .u64 lo (s:Int)=(hi*18446744073709551616+lo)*m%18446744073709551616/\
  (hi*18446744073709551616+lo)*m / 18446744073709551616 < 18446744073709551616 - e/\
  (hi*18446744073709551616+lo)*m / (18446744073709551616 - e)=(hi*18446744073709551616+lo) / y/\
  (hi*18446744073709551616+lo)*m%(18446744073709551616 - e) / m=(hi*18446744073709551616+lo)%y:=by
 have e1:dn .u64 64 ((2:Nat):Int)=((62:Nat):Int):=rfl
 have e2:dn .u64 64 ((3:Nat):Int)=((61:Nat):Int):=rfl
 have p2:(2:Int)^2=4:=rfl
 have p3:(2:Int)^3=8:=rfl
 have p61:(2:Int)^61=2305843009213693952:=rfl
 have p62:(2:Int)^62=4611686018427387904:=rfl
 obtain rfl | rfl | rfl:=hy
 ·refine⟨2,42260,4,rfl,Or.inl rfl,rfl,Or.inl rfl,rfl,by rw[mY 2 (by rfl) (by omega),p2];omega,?_,?_,by omega,by omega,by omega⟩
  ·rw[e1,mY 2 (by rfl) (by omega),oJ 62 (by rfl) (by omega),p2,p62,vg 2 4 rfl (by omega) (by omega) (by omega) (by omega) (by omega) (by omega)];omega
  ·rw[mY 2 (by rfl) (by omega),p2];omega
 ·refine⟨3,42264,8,rfl,Or.inr rfl,rfl,Or.inr (Or.inl rfl),rfl,by rw[mY 3 (by rfl) (by omega),p3];omega,?_,?_,by omega,by omega,by omega⟩
  ·rw[e2,mY 3 (by rfl) (by omega),oJ 61 (by rfl) (by omega),p3,p61,vg 3 8 rfl (by omega) (by omega) (by omega) (by omega) (by omega) (by omega)];omega
  ·rw[mY 3 (by rfl) (by omega),p3];omega
 ·refine⟨3,42272,8,rfl,Or.inr rfl,rfl,Or.inr (Or.inr rfl),rfl,by rw[mY 3 (by rfl) (by omega),p3];omega,?_,?_,by omega,by omega,by omega⟩
  ·rw[e2,mY 3 (by rfl) (by omega),oJ 61 (by rfl) (by omega),p3,p61,vg 3 8 rfl (by omega) (by omega) (by omega) (by omega) (by omega) (by omega)];omega
  ·rw[mY 3 (by rfl) (by omega),p3];omega
theorem RE(a b c:Int):(((a%18446744073709551616+b)%18446744073709551616) - c%18446744073709551616)%18446744073709551616=(a+b - c)%18446744073709551616:=by omega
theorem bQ.ok:bQ.Ok:=by
 rintro⟨hi,lo,y⟩ ⟨hy,h0,h1,h2,h3⟩
 have h0:0<=hi:=h0
 have h1:hi < y:=h1
 have h2:0<=lo:=h2
 have h3:lo < 18446744073709551616:=h3
 have yb:0 < y/\y < 18446744073709551616:=by
  rcases hy with hy | hy
  ·obtain rfl | rfl | rfl:=hy <;> omega
  ·exact hy.2
 rw[bQ.eq,iV (by omega),iW (by omega)]
 simp only[au]
 have z:kY y=true:=by simp[kY];omega
 by_cases hz:hi=0
 ·subst hz
  rw[j6 rfl,z,Gz h2 (by omega) h3,sN h2]
  simp only[aj,bQ.F,bU,Int.zero_mul,Int.zero_add]
 ·have hy:N7 y:=hy.resolve_right λe=>hz e.1
  obtain⟨s,e,m,hs,yK,hm,he,TZ,a1,a2,a3,a4,a5,a6⟩:=Mt hy h0 h1 h2 h3
  have c1:dP .u64 (s:Int)=(s:Int):=by rw[wi];omega
  have c2:mf (s:Int)=true:=pO (by omega)
  have c3:mf (dn .u64 64 (s:Int))=true:=by rcases yK with rfl | rfl <;> rfl
  rw[iV hz,nO.run (d:=y) hy]
  simp only[au,ah,bU,hs,c1,c2,c3,aj,a1,a2,a3]
  have hN:0<=(hi*18446744073709551616+lo)*m:=lS (by omega) (by rcases yK with rfl | rfl <;> omega)
  revert a4 a5 a6
  generalize (hi*18446744073709551616+lo)*m=N at hN
  intro a4 a5 a6
  have u0:0<=N / 18446744073709551616:=by omega
  have t0:0<=N%18446744073709551616:=by omega
  have t1:N%18446744073709551616 < 18446744073709551616:=by omega
  have hd:N=(N / 18446744073709551616*4294967296+N%18446744073709551616 / 4294967296)*4294967296+N%18446744073709551616%4294967296:=by omega
  have w10:0<=N%18446744073709551616 / 4294967296:=by omega
  have w11:N%18446744073709551616 / 4294967296 < 4294967296:=by omega
  have w00:0<=N%18446744073709551616%4294967296:=by omega
  have w01:N%18446744073709551616%4294967296 < 4294967296:=by omega
  have p32:(2:Int)^32=4294967296:=rfl
  have b1:cg .u64 (18446744073709551616 - e) 32=4294967295:=by rw[oJ 32 (by rfl) (by omega),p32];rcases he with rfl | rfl | rfl <;> rfl
  have b2:du .and .u64 (18446744073709551616 - e) 4294967295=4294967296 - e:=by rw[CH (by omega) (by omega)];omega
  have b3:cg .u64 (N%18446744073709551616) 32=N%18446744073709551616 / 4294967296:=by rw[oJ 32 (by rfl) (by omega),p32]
  have b4:du .and .u64 (N%18446744073709551616) 4294967295=N%18446744073709551616%4294967296:=CH t0 t1
  have z2:kY 4294967295=true:=rfl
  simp only[b1,b2,b3,b4,z2,aj]
  clear a1 a2 a3 b1 b2 b3 b4
  have kdd:=kd (18446744073709551616 - e) (N / 18446744073709551616) (N%18446744073709551616 / 4294967296) (N%18446744073709551616%4294967296) (by omega) w00 w01
  rw[<-hd,a5]at kdd
  revert a4 kdd
  generalize N / 18446744073709551616=u at u0
  generalize N%18446744073709551616 / 4294967296=w1 at w10 w11
  generalize N%18446744073709551616%4294967296=w0 at w00 w01
  intro a4 kdd
  have g:∀u w:Int,0<=u->u < 18446744073709551616 - e->0<=w->w < 4294967296->
    qb .u64 u 4294967295=u / 4294967295/\dn .u64 u (gz .u64 (u / 4294967295) 4294967295)=u - u / 4294967295*4294967295/\
    dn .u64 (bN .u64 (gz .u64 u 4294967296) w) (gz .u64 ((u*4294967296+w) / (18446744073709551616 - e)) (18446744073709551616 - e))=(u*4294967296+w)%(18446744073709551616 - e):=by
   intro u w k1 k2 k3 k4
   obtain⟨q1,q2,q3,q4,q5,q6,q7,q8⟩:=k0 he k1 k2 k3 k4
   refine⟨Gz k1 (by omega) (by omega),by rw[xQ,ou];omega,?_⟩
   rw[xQ,oq,ou,ou,RE,q4]
   exact Int.emod_eq_of_lt q5 (by omega)
  obtain⟨f1,f2,f3⟩:=g u w1 u0 a4 w10 w11
  obtain⟨q1,q2,q3,q4,q5,q6,q7,q8⟩:=k0 he u0 a4 w10 w11
  have p1:bQ.L0.aY (18446744073709551616 - e,(s:Int),4294967295,4294967296 - e,u,w1,w0,u / 4294967295,u - u / 4294967295*4294967295):=⟨e,he,rfl,rfl,rfl,u0,a4,w10,w11,q2,q3,by omega,q1⟩
  rw[f1,f2,bQ.L0.run p1]
  simp only[ah,bQ.L0.add,bQ.L0.F,z2,aj,f3]
  revert f3 q1 kdd
  generalize (u*4294967296+w1)%(18446744073709551616 - e)=v at q4 q5 q6
  generalize (u*4294967296+w1) / (18446744073709551616 - e)=Q at q4 q7 q8
  intro kdd f3 q1
  obtain⟨g1,g2,g3⟩:=g v w0 q5 q6 w00 w01
  obtain⟨r1,r2,r3,r4,r5,r6,r7,r8⟩:=k0 he q5 q6 w00 w01
  have p2:bQ.L1.aY (18446744073709551616 - e,(s:Int),4294967295,4294967296 - e,w0,Q,v - v / 4294967295*4294967295,v,v / 4294967295):=⟨e,he,rfl,rfl,rfl,q5,q6,w00,w01,r2,r3,by omega,r1⟩
  rw[g1,g2,bQ.L1.run p2]
  simp only[ah,bQ.L1.add,bQ.L1.F,c2,aj,g3]
  rw[<-kdd.2,oJ s (by rfl) (by omega),<-hm,a6,ou,oq]
  have e9:(Q*4294967296%18446744073709551616+(v*4294967296+w0) / (18446744073709551616 - e))%18446744073709551616=(hi*18446744073709551616+lo) / y:=by rw[kdd.1];omega
  rw[e9]
  rfl
theorem bQ.run:bQ.RS:=rE [.d tu,.d tu,.d tu] bQ
def bQ.sg:=bQ.gC bQ.ok 2 ⟨.js bQ.L0.ok,⟨.js bQ.L1.ok,trivial⟩⟩
abbrev fQ.D:=Int×Int×Int
abbrev fQ.Y:=Int
def fQ.aY:fQ.D->Prop:=λ(hi,lo,y)=>N7 y/\0<=hi/\hi < 18446744073709551616/\0<=lo/\lo < 18446744073709551616
def fQ.F:fQ.D->fQ.Y:=λ(hi,lo,y)=>(hi*18446744073709551616+lo)%y
def fQ:Fs Tryz.prog fQ.aY bU fQ.F:=gh 199 Tryz.f199 (λ(hi,lo,yv)=>([.d tu hi,.d tu lo,.d tu yv],[])) (λx=>⟨.d tu x,[],[]⟩) [some tu,some tu,some tu] [bQ.sg]
theorem fQ.eq{R:Type}(hi lo yv)(k:K1 R):fQ.A (hi,lo,yv) k=
 aK (kY yv) (
 aA (bQ.call ((ov hi yv),lo,yv)) λx1=>
 k (fQ.out x1.2)) none:=by kernel_rfl
theorem fQ.ok:fQ.Ok:=by
 rintro⟨hi,lo,y⟩ ⟨hy,h0,h1,h2,h3⟩
 have h0:0<=hi:=h0
 have yb:0 < y:=by obtain rfl | rfl | rfl:=hy <;> omega
 have z:kY y=true:=by simp[kY];omega
 have p:bQ.aY (hi%y,lo,y):=⟨.inl hy,ij _ (by omega),gO _ yb,h2,h3⟩
 rw[fQ.eq,z,sN h0,bQ.run p]
 have e:(hi%y*18446744073709551616+lo)%y=(hi*18446744073709551616+lo)%y:=by
  rw[Int.add_emod,Int.mul_emod,Int.emod_emod_of_dvd _ (Int.dvd_refl y),<-Int.mul_emod,<-Int.add_emod]
 simp only[aj,ah,bU,bQ.F,bU,fQ.F,e]
theorem fQ.run:fQ.RS:=rE [.d tu,.d tu,.d tu] fQ
def fQ.sg:=fQ.gC fQ.ok
abbrev fY.D:=Int×Int
abbrev fY.Y:=Int×Int
def fY.aY:fY.D->Prop:=λ(x,y)=>(0<=x/\x < 18446744073709551616)/\0<=y/\y < 18446744073709551616
def fY.F:fY.D->fY.Y:=λ(x,y)=>(x*y / 18446744073709551616,x*y%18446744073709551616)
def fY:Fs Tryz.prog fY.aY bU fY.F:=gh 236 Tryz.f236 (λ(x,yv)=>([.d tu x,.d tu yv],[])) (λx=>⟨.cons (.d tu x.1) (.cons (.d tu x.2) (.nil)),[],[]⟩) [some tu,some tu]
theorem fY.eq{R:Type}(x yv)(k:K1 R):fY.A (x,yv) k=
 k (fY.out ((bN .u64 (bN .u64 (gz .u64 (cg .u64 x 32) (cg .u64 yv 32)) (cg .u64 (bN .u64 (gz .u64 (cg .u64 x 32) (du .and .u64 yv 4294967295)) (cg .u64 (gz .u64 (du .and .u64 x 4294967295) (du .and .u64 yv 4294967295)) 32)) 32)) (cg .u64 (bN .u64 (du .and .u64 (bN .u64 (gz .u64 (cg .u64 x 32) (du .and .u64 yv 4294967295)) (cg .u64 (gz .u64 (du .and .u64 x 4294967295) (du .and .u64 yv 4294967295)) 32)) 4294967295) (gz .u64 (du .and .u64 x 4294967295) (cg .u64 yv 32))) 32)),(gz .u64 x yv))):=by kernel_rfl
theorem wA{a b m n:Int}(h0:0<=a)(h1:a<=m)(h2:0<=b)(h3:b<=n):0<=a*b/\a*b<=m*n:=
 ⟨lS h0 h2,Int.mul_le_mul h1 h3 h2 (Int.le_trans h0 h1)⟩
theorem fY.ok:fY.Ok:=by
 rintro⟨x,y⟩ ⟨⟨h0,h1⟩,h2,h3⟩
 have h0:0<=x:=h0
 have h1:x < 18446744073709551616:=h1
 have h2:0<=y:=h2
 have h3:y < 18446744073709551616:=h3
 rw[fY.eq]
 have p32:(2:Int)^32=4294967296:=rfl
 have TD:∀x:Int,cg .u64 x 32=x / 4294967296:=λx=>by rw[oJ 32 (by rfl) (by omega),p32]
 simp only[TD,CH h0 h1,CH h2 h3]
 obtain⟨a,b,rfl,a0,a1,b0,b1⟩:∃a b:Int,x=a*4294967296+b/\0<=a/\a<=4294967295/\0<=b/\b<=4294967295:=⟨x / 4294967296,x%4294967296,by omega,by omega,by omega,by omega,by omega⟩
 obtain⟨c,d,rfl,c0,c1,d0,d1⟩:∃a b:Int,y=a*4294967296+b/\0<=a/\a<=4294967295/\0<=b/\b<=4294967295:=⟨y / 4294967296,y%4294967296,by omega,by omega,by omega,by omega,by omega⟩
 have e1:(a*4294967296+b) / 4294967296=a:=by omega
 have e2:(a*4294967296+b)%4294967296=b:=by omega
 have e3:(c*4294967296+d) / 4294967296=c:=by omega
 have e4:(c*4294967296+d)%4294967296=d:=by omega
 have e5:(a*4294967296+b)*(c*4294967296+d)=a*c*18446744073709551616+(a*d+b*c)*4294967296+b*d:=by
  have q:(4294967296:Int)*4294967296=18446744073709551616:=rfl
  rw[Int.add_mul,Int.mul_add,Int.mul_add]
  have q1:a*4294967296*(c*4294967296)=a*c*18446744073709551616:=by rw[<-q];ac_rfl
  have q2:a*4294967296*d=a*d*4294967296:=by ac_rfl
  have q3:b*(c*4294967296)=b*c*4294967296:=by ac_rfl
  rw[q1,q2,q3];omega
 obtain⟨m1,m2⟩:=wA a0 a1 c0 c1
 obtain⟨m3,m4⟩:=wA a0 a1 d0 d1
 obtain⟨m5,m6⟩:=wA b0 b1 c0 c1
 obtain⟨m7,m8⟩:=wA b0 b1 d0 d1
 have n:(4294967295:Int)*4294967295=18446744065119617025:=rfl
 rw[n]at m2 m4 m6 m8
 simp only[e1,e2,e3,e4,bU,fY.F,e5,ou,oq]
 revert m1 m2 m3 m4 m5 m6 m7 m8
 generalize a*c=ac
 generalize a*d=ad
 generalize b*c=bc
 generalize b*d=bd
 intro m1 m2 m3 m4 m5 m6 m7 m8
 have q1:bd%18446744073709551616=bd:=by omega
 have q2:ad%18446744073709551616=ad:=by omega
 have q3:bc%18446744073709551616=bc:=by omega
 have q4:ac%18446744073709551616=ac:=by omega
 rw[q1,q2,q3,q4]
 have q5:(ad+bd / 4294967296)%18446744073709551616=ad+bd / 4294967296:=by omega
 have q6:du .and .u64 (ad+bd / 4294967296) 4294967295=(ad+bd / 4294967296)%4294967296:=CH (by omega) (by omega)
 rw[q5,q6]
 refine congrArg some (congrArg fY.out (Prod.ext ?_ ?_))
 ·show _=(_:Int)
  simp only[]
  omega
 ·rfl
theorem fY.run:fY.RS:=rE [.d tu,.d tu] fY
def fY.sg:=fY.gC fY.ok
def Pn(x:Int):Prop:=0<=x/\x < 4611686018427377339
def kX(x:Int):Prop:=0<=x/\x < 18446744073709551616
theorem Pn.u{x:Int}(h:Pn x):kX x:=⟨h.1,by have:=h.2;omega⟩
def va(a b:Int):Int:=a*b%4611686018427377339
theorem vb(a b:Int):Pn (va a b):=⟨ij _ (by omega),gO _ (by omega)⟩
def Im:Nat->Int->Nat->Int->Int
 | 0,_,_,out=>out
 |f+1,a,n,out=>if n=0 then out else Im f (va a a) (n / 2) (if n%2=1 then va out a else out)
def pw(a:Int)(n:Nat):Int:=Im 64 a n 1
theorem sr(f:Nat)(a out:Int):Im f a 0 out=out:=by cases f <;> rfl
theorem D1:∀(f g:Nat) (a:Int) (n:Nat) (out:Int),n < 2^f->n < 2^g->Im f a n out=Im g a n out
 | 0,g,a,n,out,h,_=>by
  obtain rfl:n=0:=by omega
  rw[sr,sr]
 |f+1,0,a,n,out,_,h=>by
  obtain rfl:n=0:=by omega
  rw[sr,sr]
 |f+1,g+1,a,n,out,h,h'=>by
  have e:(2:Nat)^(f+1)=2^f*2:=Nat.pow_succ 2 f
  have e':(2:Nat)^(g+1)=2^g*2:=Nat.pow_succ 2 g
  unfold Im
  split
  ·rfl
  ·exact D1 f g _ _ _ (by omega) (by omega)
theorem JD:∀(f:Nat) (a:Int) (n:Nat) (out:Int),Pn out->Pn (Im f a n out)
 | 0,_,_,_,h=>h
 |f+1,a,n,out,h=>by
  unfold Im
  split
  ·exact h
  ·refine JD f _ _ _ ?_
   split
   ·exact vb _ _
   ·exact h
theorem PD(a:Int)(n:Nat):Pn (pw a n):=JD _ _ _ _ ⟨by omega,by omega⟩
abbrev fq.D:=Int×Int
abbrev fq.Y:=Int
def fq.aY:fq.D->Prop:=λ(a,b)=>kX a/\kX b
def fq.F:fq.D->fq.Y:=λ(a,b)=>va a b
def fq:Fs Tryz.prog fq.aY bU fq.F:=gh 193 Tryz.f193 (λ(a,b)=>([.d tu a,.d tu b],[])) (λx=>⟨.d tu x,[],[]⟩) [some tu,some tu] [fY.sg,fQ.sg]
theorem fq.eq{R:Type}(a b)(k:K1 R):fq.A (a,b) k=
 aA (fY.call (a,b)) λx1=>
 aA (fQ.call (x1.1,x1.2,4611686018427377339)) λx2=>
 k (fq.out x2):=by kernel_rfl
theorem zM(n:Int):n / 18446744073709551616*18446744073709551616+n%18446744073709551616=n:=by omega
theorem fq.ok:fq.Ok:=by
 rintro⟨a,b⟩ ⟨ha,hb⟩
 have ha:kX a:=ha
 have hb:kX b:=hb
 obtain⟨m1,m2⟩:=wA ha.1 (show a<=18446744073709551615 by have:=ha.2;omega) hb.1 (show b<=18446744073709551615 by have:=hb.2;omega)
 have n:(18446744073709551615:Int)*18446744073709551615=340282366920938463426481119284349108225:=rfl
 rw[n]at m2
 have p:fQ.aY (a*b / 18446744073709551616,a*b%18446744073709551616,4611686018427377339):=⟨Or.inl rfl,by omega,by omega,by omega,by omega⟩
 rw[fq.eq,fY.run (d:=(a,b)) ⟨ha,hb⟩]
 simp only[ah,bU,fY.F]
 rw[fQ.run p]
 simp only[ah,bU,fQ.F,zM]
 rfl
theorem fq.run:fq.RS:=rE [.d tu,.d tu] fq
def fq.sg:=fq.gC fq.ok
abbrev cS.L0.D:=Int×Int×Int
abbrev cS.L0.Y:=Int
abbrev cS.D:=Int×Int
abbrev cS.Y:=Int
def cS.L0.aY:cS.L0.D->Prop:=λ(a,n,o)=>kX a/\kX n/\Pn o
def cS.L0.F:cS.L0.D->cS.L0.Y:=λ(a,n,o)=>Im 64 a n.toNat o
def cS.aY:cS.D->Prop:=λ(a,n)=>kX a/\kX n
def cS.F:cS.D->cS.Y:=λ(a,n)=>pw a n.toNat
def cS.L0:Ls cS.L0.aY bU cS.L0.F:=tq (λ(Lj,Fz,outv)=>⟨([.d tu Lj,.d tu Fz,.undef,.undef,.undef,.d tu outv]++bB 14 []),[],(List.replicate 20 [])⟩) (λx=>(.exit 0,⟨(bB 5 ([.d tu x]++bB 14 [])),[],(List.replicate 20 [])⟩))
def cS:Fs Tryz.prog cS.aY bU cS.F:=gh 130 Tryz.f130 (λ(a,n)=>([.d tu a,.d tu n],[])) (λx=>⟨.d tu x,[],[]⟩) [some tu,some tu] [fq.sg] {loops:=rH [(2,{bI:=[0,1,5]})],outs:=rG [(2,{bI:=[5]},{bI:=[4]})],jP:=sh [(2,cS.L0.E)]}
theorem cS.L0.run:cS.L0.RS:=rL [.d tu,.d tu,.d tu] cS.L0
theorem cS.L0.step{R:Type}(Lj Fz outv)(kn:K2 R)(kx:K3 R):cS.R 0 cS.L0 (Lj,Fz,outv) kn kx=
  aK ((ot Fz 0)) (
   aK ((BX (du .and .u64 Fz 1) 1)) (
    aA (fq.call (outv,Lj)) λx1=>
    aA (fq.call (Lj,Lj)) λx2=>
    kn (cS.L0.st (x2,(cg .u64 Fz 1),x1))) (
    aA (fq.call (Lj,Lj)) λx3=>
    kn (cS.L0.st (x3,(cg .u64 Fz 1),outv)))) (
   cS.L0.go kx outv):=by kernel_rfl
theorem cS.eq{R:Type}(a n)(k:K1 R):cS.A (a,n) k=
 aA (cS.L0.call (a,n,1)) λx4=>
 k (cS.out x4):=by kernel_rfl
theorem RQ{n:Int}(h:kX n):cg .u64 n 1=n / 2:=oJ 1 (by rfl) (by omega)
theorem cS.L0.ok:(cS.mO 0 cS.L0):=by
 refine(cS.oG 0 cS.L0) (λ(a,n,o)=>n.toNat) ?_
 rintro⟨a,n,o⟩ ⟨ha,hn,ho⟩
 have ha:kX a:=ha
 have hn:kX n:=hn
 have ho:Pn o:=ho
 have n0:=hn.1
 have n1:=hn.2
 by_cases h:0 < n
 ·left
  have e:cS.L0.F (a,n,o)=cS.L0.F (va a a,n / 2,if n%2=1 then va o a else o):=by
   show Im 64 a n.toNat o=Im 64 (va a a) (n / 2).toNat _
   rw[D1 64 65 a n.toNat o (by omega) (by omega)]
   have t1:(n / 2).toNat=n.toNat / 2:=by omega
   have t2:(n%2=1)=(n.toNat%2=1):=by apply propext;omega
   rw[t1]
   simp only[t2]
   show(if n.toNat=0 then o else _)=_
   rw[if_neg (by omega)]
  refine⟨(va a a,n / 2,if n%2=1 then va o a else o),⟨(vb a a).u,⟨by omega,by omega⟩,?_⟩,by show(n / 2).toNat < n.toNat;omega,?_,λkn kx=> ?_⟩
  ·show Pn (if n%2=1 then va o a else o)
   split
   ·exact vb _ _
   ·exact ho
  ·exact congrArg _ e.symm
  ·rw[cS.L0.step,dv h,RQ hn,Qo n0 n1,fq.run (d:=(o,a)) ⟨ho.u,ha⟩,fq.run (d:=(a,a)) ⟨ha,ha⟩]
   by_cases h1:n%2=1
   ·rw[j6 h1,if_pos h1];rfl
   ·rw[iV h1,if_neg h1];rfl
 ·right
  intro R kn kx
  obtain rfl:n=0:=by omega
  rw[cS.L0.step,cZ (by omega)]
  simp only[au,bU,cS.L0.F]
  rw[show Im 64 a (Int.toNat 0) o=o from sr _ _ _]
theorem cS.ok:cS.Ok:=by
 rintro⟨a,n⟩ ⟨ha,hn⟩
 rw[cS.eq,cS.L0.run (d:=(a,n,1)) ⟨ha,hn,by omega,by omega⟩]
 rfl
theorem cS.run:cS.RS:=rE [.d tu,.d tu] cS
def cS.sg:=cS.gC cS.ok 1 ⟨.js cS.L0.ok,trivial⟩
def wm(p:Int):Bool:=decide (0 < p/\p < 4611686018427377339) && decide (pw p 2305843009213688669=1)
def tk(p:Int):Int:=if wm p then p else 1
theorem L8(p:Int):Pn (tk p):=by
 unfold tk
 split
 ·rename_i h
  simp only[wm,ag,decide_eq_true_eq]at h
  exact⟨by omega,by omega⟩
 ·exact⟨by omega,by omega⟩
def FP(p k:Int):Int:=pw (tk p) (k%2305843009213688669).toNat
def kI(k:Int):Int:=FP 4 k
def RF(p:Int):Int:=pw (tk p) 2305843009213688668
def Cj(l:List Int):Int:=l.foldl (λo p=>va o (tk p)) 1
theorem K6(l:List Int)(o:Int)(h:Pn o):Pn (l.foldl (λo p=>va o (tk p)) o):=by
 induction l generalizing o with
 |nil=>exact h
 |cons p l ih=>exact ih _ (vb _ _)
theorem K7(l:List Int):Pn (Cj l):=K6 l 1 ⟨by omega,by omega⟩
abbrev ff.D:=Int
abbrev ff.Y:=Bool
def ff.aY:ff.D->Prop:=λp=>kX p
def ff.F:ff.D->ff.Y:=λp=>wm p
def ff:Fs Tryz.prog ff.aY bU ff.F:=gh 151 Tryz.f151 (λp=>([.d tu p],[])) (λx=>⟨.d .bool x,[],[]⟩) [some tu] [cS.sg]
theorem ff.eq{R:Type}(p)(k:K1 R):ff.A p k=
  aK ((ot p 0)) (
   aK ((iI p 4611686018427377339)) (
    aA (cS.call (p,2305843009213688669)) λx1=>
    k (ff.out (BX x1 1))) (
    k (ff.out false))) (
   k (ff.out false)):=by kernel_rfl
theorem ff.ok:ff.Ok:=by
 intro p hp
 have hp:kX p:=hp
 rw[ff.eq,cS.run (d:=(p,2305843009213688669)) ⟨hp,by constructor <;> decide⟩]
 simp only[ah,bU,cS.F,bU,ff.F,wm]
 by_cases h:0 < p
 ·rw[dv h,aj]
  by_cases h2:p < 4611686018427377339
  ·rw[bA h2,aj,aX ⟨h,h2⟩,bX]
   rfl
  ·rw[bl h2,au,cn (λx=>h2 x.2),dQ]
 ·rw[cZ h,au,cn (λx=>h x.1),dQ]
theorem ff.run:ff.RS:=rE [.d tu] ff
def ff.sg:=ff.gC ff.ok
abbrev fg.D:=Int
abbrev fg.Y:=Int
def fg.aY:fg.D->Prop:=λp=>kX p
def fg.F:fg.D->fg.Y:=λp=>tk p
def fg:Fs Tryz.prog fg.aY bU fg.F:=gh 131 Tryz.f131 (λp=>([.d tu p],[])) (λx=>⟨.d tu x,[],[]⟩) [some tu] [ff.sg]
theorem fg.eq{R:Type}(p)(k:K1 R):fg.A p k=
  aA (ff.call p) λx1=>
  aK (x1) (
   k (fg.out p)) (
   k (fg.out 1)):=by kernel_rfl
theorem fg.ok:fg.Ok:=by
 intro p hp
 rw[fg.eq,ff.run (d:=p) hp]
 simp only[ah,bU,ff.F,bU,fg.F,tk]
 cases wm p <;> rfl
theorem fg.run:fg.RS:=rE [.d tu] fg
def fg.sg:=fg.gC fg.ok
abbrev gA.D:=Int×Int
abbrev gA.Y:=Int
def gA.aY:gA.D->Prop:=λ(p,k)=>kX p/\kX k
def gA.F:gA.D->gA.Y:=λ(p,k)=>FP p k
def gA:Fs Tryz.prog gA.aY bU gA.F:=gh 63 Tryz.f63 (λ(p,kv)=>([.d tu p,.d tu kv],[])) (λx=>⟨.d tu x,[],[]⟩) [some tu,some tu] [fg.sg,cS.sg]
theorem gA.eq{R:Type}(p kv)(k:K1 R):gA.A (p,kv) k=
 aA (fg.call p) λx1=>
 aA (cS.call (x1,(ov kv 2305843009213688669))) λx2=>
 k (gA.out x2):=by kernel_rfl
theorem gA.ok:gA.Ok:=by
 rintro⟨p,k⟩ ⟨hp,hk⟩
 have hk:kX k:=hk
 have e:=sN (y:=2305843009213688669) hk.1
 have b:kX (k%2305843009213688669):=⟨by omega,by omega⟩
 rw[gA.eq,fg.run (d:=p) hp,e]
 simp only[ah,bU,fg.F]
 rw[cS.run (d:=(tk p,k%2305843009213688669)) ⟨(L8 p).u,b⟩]
 rfl
theorem gA.run:gA.RS:=rE [.d tu,.d tu] gA
def gA.sg:=gA.gC gA.ok
abbrev gH.D:=Int
abbrev gH.Y:=Int
def gH.aY:gH.D->Prop:=λk=>kX k
def gH.F:gH.D->gH.Y:=λk=>kI k
def gH:Fs Tryz.prog gH.aY bU gH.F:=gh 14 Tryz.f14 (λkv=>([.d tu kv],[])) (λx=>⟨.d tu x,[],[]⟩) [some tu] [gA.sg]
theorem gH.eq{R:Type}(kv)(k:K1 R):gH.A kv k=
 aA (gA.call (4,kv)) λx1=>
 k (gH.out x1):=by kernel_rfl
theorem gH.ok:gH.Ok:=by
 intro k hk
 rw[gH.eq,gA.run (d:=(4,k)) ⟨⟨by omega,by omega⟩,hk⟩]
 rfl
theorem gH.run:gH.RS:=rE [.d tu] gH
def gH.sg:=gH.gC gH.ok
abbrev fK.L0.D:=Int×Bs×Int×Int
abbrev fK.L0.Y:=Int
abbrev fK.D:=Bs
abbrev fK.Y:=Int
def fK.L0.aY:fK.L0.D->Prop:=λ(o,l,n,i)=>Pn o/\(∀x∈l,kX x)/\l.length<=1000000000/\n=l.length/\∃k:Nat,k<=l.length/\i=k
def fK.L0.F:fK.L0.D->fK.L0.Y:=λ(o,l,n,i)=>(l.drop i.toNat).foldl (λo p=>va o (tk p)) o
def fK.aY:fK.D->Prop:=λl=>(∀x∈l,kX x)/\l.length<=1000000000
def fK.F:fK.D->fK.Y:=λl=>Cj l
def fK.L0:Ls fK.L0.aY bU fK.L0.F:=tq (λ(outv,t6,t7,t8)=>⟨([.undef,.undef,.undef,.d tu outv,.undef,.undef,.d tU t6,.d ti t7,.d ti t8]++bB 9 []),[],(List.replicate 18 [])⟩) (λx=>(.exit 0,⟨([.undef,.undef,.undef,.d tu x]++bB 14 []),[],(List.replicate 18 [])⟩))
def fK:Fs Tryz.prog fK.aY bU fK.F:=gh 242 Tryz.f242 (λl=>([.d tU l],[])) (λx=>⟨.d tu x,[],[]⟩) [some tU] [fg.sg,fq.sg] {loops:=rH [(3,{bI:=[3,6,7,8]})],outs:=rG [(3,{bI:=[3]},{bI:=[2]})],jP:=sh [(3,fK.L0.E)]}
theorem fK.L0.run:fK.L0.RS:=rL [.d tu,.d tU,.d ti,.d ti] fK.L0
theorem fK.L0.step{R:Type}(outv t6 t7 t8)(kn:K2 R)(kx:K3 R):fK.R 0 fK.L0 (outv,t6,t7,t8) kn kx=
  aK ((iI t8 t7)) (
   aK (fa t8 (t6.length:Int)) (
   aA (fg.call (nth tu t6 (Int.toNat t8))) λx1=>
   aA (fq.call (outv,x1)) λx2=>
   kn (fK.L0.st (x2,t6,t7,(bN .i64 t8 1)))) none) (
   fK.L0.go kx outv):=by kernel_rfl
theorem fK.eq{R:Type}(l)(k:K1 R):fK.A l k=
 aA (fK.L0.call (1,l,(l.length:Int),0)) λx3=>
 k (fK.out x3):=by kernel_rfl
theorem fK.L0.ok:(fK.mO 0 fK.L0):=by
 refine(fK.oG 0 fK.L0) (λ(o,l,n,i)=>l.length - i.toNat) ?_
 rintro⟨o,l,n,i⟩ ⟨ho,hl,hb,rfl,k,hk,rfl⟩
 have ho:Pn o:=ho
 have hb:l.length<=1000000000:=hb
 have hk:k<=l.length:=hk
 by_cases h:k < l.length
 ·left
  have hx:=hl _ (b5 h)
  have n1:nth (.int .u64) l k=l[k]:=dM (t:= .int .u64) h
  refine⟨(va o (tk l[k]),l,l.length,((k+1:Nat):Int)),⟨vb _ _,hl,hb,rfl,k+1,by omega,rfl⟩,by simp only[aa];omega,?_,λkn kx=> ?_⟩
  ·simp only[bU,fK.L0.F,aa]
   rw[aC h]
   rfl
  ·rw[fK.L0.step]
   simp(disch:=omega) only[↓S1,↓if_pos,↓if_neg,if_pos,if_neg,if_true,if_false,S2,n1]
   rw[fg.run (d:=l[k]) hx]
   simp only[ah,bU,fg.F]
   rw[fq.run (d:=(o,tk l[k])) ⟨ho.u,(L8 _).u⟩]
   rfl
 ·right
  obtain rfl:k=l.length:=by omega
  intro R kn kx
  rw[fK.L0.step]
  simp(disch:=omega) only[↓S1,↓if_pos,↓if_neg,if_pos,if_neg,if_true,if_false,S2,bU,fK.L0.F,bq]
  rfl
theorem fK.ok:fK.Ok:=by
 rintro l ⟨hl,hb⟩
 rw[fK.eq,fK.L0.run (d:=(1,l,l.length,0)) ⟨⟨by omega,by omega⟩,hl,hb,rfl,0,by omega,rfl⟩]
 rfl
theorem fK.run:fK.RS:=rE [.d tU] fK
def fK.sg:=fK.gC fK.ok 1 ⟨.js fK.L0.ok,trivial⟩
abbrev nP.D:=Int×Int
abbrev nP.Y:=Int
def nP.aY:nP.D->Prop:=λ(p,q)=>kX p/\kX q
def nP.F:nP.D->nP.Y:=λ(p,q)=>Cj [p,q]
def nP:Fs Tryz.prog nP.aY bU nP.F:=gh 195 Tryz.f195 (λ(p,q)=>([.d tu p,.d tu q],[])) (λx=>⟨.d tu x,[],[]⟩) [some tu,some tu] [fK.sg]
theorem nP.eq{R:Type}(p q)(k:K1 R):nP.A (p,q) k=
 aA (fK.call [p,q]) λx1=>
 k (nP.out x1):=by kernel_rfl
theorem nP.ok:nP.Ok:=by
 rintro⟨p,q⟩ ⟨hp,hq⟩
 have h:fK.aY [p,q]:=⟨by intro x hx;simp only[cv,gK,or_false]at hx;rcases hx with rfl | rfl <;> assumption,by simp only[aD,ba];omega⟩
 rw[nP.eq,fK.run h]
 rfl
theorem nP.run:nP.RS:=rE [.d tu,.d tu] nP
def nP.sg:=nP.gC nP.ok
def Qn(x:Int):Prop:=0<=x/\x < 2305843009213688669
theorem Qn.u{x:Int}(h:Qn x):kX x:=⟨h.1,by have:=h.2;omega⟩
def J7(a:Int):Int:=a%2305843009213688669
theorem Cb(a:Int):Qn (J7 a):=⟨ij _ (by omega),gO _ (by omega)⟩
def Mg(a b:Int):Int:=(J7 a+J7 b)%2305843009213688669
def KK(a b:Int):Int:=J7 a*J7 b%2305843009213688669
def wY(h:List Int):Int:=h.foldl (λn b=>(n*256+b)%2305843009213688668) 0+1
def Iq.b(n:Int):Prop:=0<=n/\n < 2305843009213688668
theorem C6(h:List Int)(n:Int)(hn:Iq.b n):Iq.b (h.foldl (λn b=>(n*256+b)%2305843009213688668) n):=by
 induction h generalizing n with
 |nil=>exact hn
 |cons p l ih=>exact ih _ ⟨ij _ (by omega),gO _ (by omega)⟩
theorem C7(h:List Int):0 < wY h/\wY h < 2305843009213688669:=by
 have:=C6 h 0 ⟨by omega,by omega⟩
 have h1:=this.1
 have h2:=this.2
 unfold wY
 omega
theorem Kb(a b:Int):Qn (Mg a b):=⟨ij _ (by omega),gO _ (by omega)⟩
theorem KL(a b:Int):Qn (KK a b):=⟨ij _ (by omega),gO _ (by omega)⟩
abbrev eL.D:=Int
abbrev eL.Y:=Bool
def eL.aY:eL.D->Prop:=λ_=>True
def eL.F:eL.D->eL.Y:=λa=>iI a 2305843009213688669
def eL:Fs Tryz.prog eL.aY bU eL.F:=gh 65 Tryz.f65 (λa=>([.d tu a],[])) (λx=>⟨.d .bool x,[],[]⟩) [some tu]
theorem eL.eq{R:Type}(a)(k:K1 R):eL.A a k=
 k (eL.out (iI a 2305843009213688669)):=by kernel_rfl
theorem eL.ok:eL.Ok:=by
 intro a _
 rw[eL.eq]
 rfl
theorem eL.run:eL.RS:=rE [.d tu] eL
def eL.sg:=eL.gC eL.ok
abbrev sX.D:=Int
abbrev sX.Y:=Int
def sX.aY:sX.D->Prop:=λa=>kX a
def sX.F:sX.D->sX.Y:=λa=>J7 a
def sX:Fs Tryz.prog sX.aY bU sX.F:=gh 243 Tryz.f243 (λa=>([.d tu a],[])) (λx=>⟨.d tu x,[],[]⟩) [some tu]
theorem sX.eq{R:Type}(a)(k:K1 R):sX.A a k=
 k (sX.out (ov a 2305843009213688669)):=by kernel_rfl
theorem sX.ok:sX.Ok:=by
 intro a ha
 rw[sX.eq,sN ha.1]
 rfl
theorem sX.run:sX.RS:=rE [.d tu] sX
def sX.sg:=sX.gC sX.ok
abbrev jS.D:=Int×Int
abbrev jS.Y:=Int
def jS.aY:jS.D->Prop:=λ(a,b)=>Qn a/\Qn b
def jS.F:jS.D->jS.Y:=λ(a,b)=>(a+b)%2305843009213688669
def jS:Fs Tryz.prog jS.aY bU jS.F:=gh 244 Tryz.f244 (λ(a,b)=>([.d tu a,.d tu b],[])) (λx=>⟨.d tu x,[],[]⟩) [some tu,some tu]
theorem jS.eq{R:Type}(a b)(k:K1 R):jS.A (a,b) k=
 k (jS.out (ov (bN .u64 a b) 2305843009213688669)):=by kernel_rfl
theorem jS.ok:jS.Ok:=by
 rintro⟨a,b⟩ ⟨ha,hb⟩
 have ha:Qn a:=ha
 have hb:Qn b:=hb
 obtain⟨h1,h2⟩:=ha
 obtain⟨h3,h4⟩:=hb
 have e:bN .u64 a b=a+b:=by rw[oq];omega
 rw[jS.eq,e,sN (by omega)]
 rfl
theorem jS.run:jS.RS:=rE [.d tu,.d tu] jS
def jS.sg:=jS.gC jS.ok
abbrev gw.D:=Int×Int
abbrev gw.Y:=Int
def gw.aY:gw.D->Prop:=λ(a,b)=>Qn a/\Qn b
def gw.F:gw.D->gw.Y:=λ(a,b)=>a*b%2305843009213688669
def gw:Fs Tryz.prog gw.aY bU gw.F:=gh 245 Tryz.f245 (λ(a,b)=>([.d tu a,.d tu b],[])) (λx=>⟨.d tu x,[],[]⟩) [some tu,some tu] [fY.sg,fQ.sg]
theorem gw.eq{R:Type}(a b)(k:K1 R):gw.A (a,b) k=
 aA (fY.call (a,b)) λx1=>
 aA (fQ.call (x1.1,x1.2,2305843009213688669)) λx2=>
 k (gw.out x2):=by kernel_rfl
theorem gw.ok:gw.Ok:=by
 rintro⟨a,b⟩ ⟨ha,hb⟩
 have ha:Qn a:=ha
 have hb:Qn b:=hb
 obtain⟨m1,m2⟩:=wA ha.1 (show a<=18446744073709551615 by have:=ha.2;omega) hb.1 (show b<=18446744073709551615 by have:=hb.2;omega)
 have n:(18446744073709551615:Int)*18446744073709551615=340282366920938463426481119284349108225:=rfl
 rw[n]at m2
 have p:fQ.aY (a*b / 18446744073709551616,a*b%18446744073709551616,2305843009213688669):=⟨Or.inr (Or.inl rfl),by omega,by omega,by omega,by omega⟩
 rw[gw.eq,fY.run (d:=(a,b)) ⟨ha.u,hb.u⟩]
 simp only[ah,bU,fY.F]
 rw[fQ.run p]
 simp only[ah,bU,fQ.F,zM]
 rfl
theorem gw.run:gw.RS:=rE [.d tu,.d tu] gw
def gw.sg:=gw.gC gw.ok
abbrev om.D:=Int×Int
abbrev om.Y:=Int
def om.aY:om.D->Prop:=λ(a,b)=>kX a/\kX b
def om.F:om.D->om.Y:=λ(a,b)=>Mg a b
def om:Fs Tryz.prog om.aY bU om.F:=gh 196 Tryz.f196 (λ(a,b)=>([.d tu a,.d tu b],[])) (λx=>⟨.d tu x,[],[]⟩) [some tu,some tu] [sX.sg,jS.sg]
theorem om.eq{R:Type}(a b)(k:K1 R):om.A (a,b) k=
 aA (sX.call a) λx1=>
 aA (sX.call b) λx2=>
 aA (jS.call (x1,x2)) λx3=>
 k (om.out x3):=by kernel_rfl
theorem om.ok:om.Ok:=by
 rintro⟨a,b⟩ ⟨ha,hb⟩
 rw[om.eq,sX.run (d:=a) ha,sX.run (d:=b) hb]
 simp only[ah,bU,sX.F]
 rw[jS.run (d:=(J7 a,J7 b)) ⟨Cb a,Cb b⟩]
 rfl
theorem om.run:om.RS:=rE [.d tu,.d tu] om
def om.sg:=om.gC om.ok
abbrev nL.D:=Int×Int
abbrev nL.Y:=Int
def nL.aY:nL.D->Prop:=λ(a,b)=>kX a/\kX b
def nL.F:nL.D->nL.Y:=λ(a,b)=>KK a b
def nL:Fs Tryz.prog nL.aY bU nL.F:=gh 197 Tryz.f197 (λ(a,b)=>([.d tu a,.d tu b],[])) (λx=>⟨.d tu x,[],[]⟩) [some tu,some tu] [sX.sg,gw.sg]
theorem nL.eq{R:Type}(a b)(k:K1 R):nL.A (a,b) k=
 aA (sX.call a) λx1=>
 aA (sX.call b) λx2=>
 aA (gw.call (x1,x2)) λx3=>
 k (nL.out x3):=by kernel_rfl
theorem nL.ok:nL.Ok:=by
 rintro⟨a,b⟩ ⟨ha,hb⟩
 rw[nL.eq,sX.run (d:=a) ha,sX.run (d:=b) hb]
 simp only[ah,bU,sX.F]
 rw[gw.run (d:=(J7 a,J7 b)) ⟨Cb a,Cb b⟩]
 rfl
theorem nL.run:nL.RS:=rE [.d tu,.d tu] nL
def nL.sg:=nL.gC nL.ok
abbrev dA.L0.D:=Int×Bs×Int
abbrev dA.L0.Y:=Int
abbrev dA.D:=Bs
abbrev dA.Y:=Int
def dA.L0.aY:dA.L0.D->Prop:=λ(n,h,i)=>Iq.b n/\h.length=32/\Bytes h/\∃k:Nat,k<=32/\i=k
def dA.L0.F:dA.L0.D->dA.L0.Y:=λ(n,h,i)=>(h.drop i.toNat).foldl (λn b=>(n*256+b)%2305843009213688668) n
def dA.aY:dA.D->Prop:=λh=>h.length=32/\Bytes h
def dA.F:dA.D->dA.Y:=λh=>wY h
def dA.L0:Ls dA.L0.aY bU dA.L0.F:=tq (λ(n,t6,t7)=>⟨([.undef,.undef,.undef,.d tu n,.undef,.undef,.d tH t6,.d ti t7]++bB 13 []),[],(List.replicate 21 [])⟩) (λx=>(.exit 0,⟨([.undef,.undef,.undef,.d tu x]++bB 17 []),[],(List.replicate 21 [])⟩))
def dA:Fs Tryz.prog dA.aY bU dA.F:=gh 136 Tryz.f136 (λh=>([.d tH h],[])) (λx=>⟨.d tu x,[],[]⟩) [some tH] [fQ.sg] {loops:=rH [(3,{bI:=[3,6,7]})],outs:=rG [(3,{bI:=[3]},{bI:=[2]})],jP:=sh [(3,dA.L0.E)]}
theorem dA.L0.run:dA.L0.RS:=rL [.d tu,.d tB,.d ti] dA.L0
theorem dA.L0.step{R:Type}(n t6 t7)(kn:K2 R)(kx:K3 R):dA.R 0 dA.L0 (n,t6,t7) kn kx=
  aK ((iI t7 32)) (
   aK (fa t7 32) (
   aA (fQ.call ((cg .u64 n 56),(du .or .u64 (mq .u64 n 8) (dP .u64 (nth tb t6 (Int.toNat t7)))),2305843009213688668)) λx1=>
   kn (dA.L0.st (x1,t6,(bN .i64 t7 1)))) none) (
   dA.L0.go kx n):=by kernel_rfl
theorem dA.eq{R:Type}(h)(k:K1 R):dA.A h k=
 aA (dA.L0.call (0,h,0)) λx2=>
 k (dA.out (bN .u64 x2 1)):=by kernel_rfl
theorem C8{n b:Int}(hn:Iq.b n)(hb:GS b):cg .u64 n 56*18446744073709551616+du .or .u64 (mq .u64 n 8) (dP .u64 b)=n*256+b/\kX (cg .u64 n 56)/\kX (du .or .u64 (mq .u64 n 8) (dP .u64 b)):=by
 obtain⟨h1,h2⟩:=hn
 obtain⟨h3,h4⟩:=hb
 have p56:(2:Int)^56=72057594037927936:=rfl
 have p8:(2:Int)^8=256:=rfl
 have e:dP .u64 b=b:=by rw[wi];omega
 rw[oJ 56 (by rfl) (by omega),mY 8 (by rfl) (by omega),p56,p8,e,vg 8 256 rfl (by omega) (by omega) (by omega) (by omega) (by omega) (by omega)]
 exact⟨by omega,⟨by omega,by omega⟩,by omega,by omega⟩
theorem dA.L0.ok:(dA.mO 0 dA.L0):=by
 refine(dA.oG 0 dA.L0) (λ(n,h,i)=>32 - i.toNat) ?_
 rintro⟨n,h,i⟩ ⟨hn,hl,hb,k,hk,rfl⟩
 have hn:Iq.b n:=hn
 have hl:h.length=32:=hl
 have hb:Bytes h:=hb
 by_cases iC:k < 32
 ·left
  have hx:GS (h[k]'(by omega)):=hb _ (b5 _)
  have n1:nth (.int .u8) h k=h[k]'(by omega):=dM (t:= .int .u8) (by omega)
  obtain⟨d1,d2,d3⟩:=C8 hn hx
  refine⟨((n*256+h[k]'(by omega))%2305843009213688668,h,((k+1:Nat):Int)),⟨⟨by omega,by omega⟩,hl,hb,k+1,by omega,rfl⟩,by simp only[aa];omega,?_,λkn kx=> ?_⟩
  ·simp only[bU,dA.L0.F,aa]
   rw[aC (by omega:k < h.length)]
   rfl
  ·rw[dA.L0.step]
   simp(disch:=omega) only[↓S1,↓if_pos,↓if_neg,if_pos,if_neg,if_true,if_false,S2,n1]
   rw[fQ.run (d:=(_,_,2305843009213688668)) ⟨Or.inr (Or.inr rfl),d2.1,d2.2,d3.1,d3.2⟩]
   simp only[ah,bU,fQ.F,d1]
 ·right
  obtain rfl:k=32:=by omega
  intro R kn kx
  rw[dA.L0.step]
  simp(disch:=omega) only[↓S1,↓if_pos,↓if_neg,if_pos,if_neg,if_true,if_false,S2,bU,dA.L0.F]
  rw[fv (by omega)]
  rfl
theorem dA.ok:dA.Ok:=by
 rintro h ⟨hl,hb⟩
 have e:=C6 h 0 ⟨by omega,by omega⟩
 have h1:=e.1
 have h2:=e.2
 rw[dA.eq,dA.L0.run (d:=(0,h,0)) ⟨⟨by omega,by omega⟩,hl,hb,0,by omega,rfl⟩]
 simp only[ah,bU,dA.L0.F,bU,dA.F,wY,cF,aJ]
 revert h1 h2
 generalize h.foldl (λn b=>(n*256+b)%2305843009213688668) 0=m
 intro h1 h2
 have e:bN .u64 m 1=m+1:=by rw[oq];omega
 rw[e]
theorem dA.run:dA.RS:=rE [.d tB] dA
def dA.sg:=dA.gC dA.ok 1 ⟨.js dA.L0.ok,trivial⟩
theorem CK(n:Int): [dP .u8 (cg .u64 n 56),dP .u8 (cg .u64 n 48),dP .u8 (cg .u64 n 40),dP .u8 (cg .u64 n 32),dP .u8 (cg .u64 n 24),dP .u8 (cg .u64 n 16),dP .u8 (cg .u64 n 8),dP .u8 (cg .u64 n 0)]=pU n:=EM n
theorem iq{α:Type}{l:List α}{n:Nat}(h:l.length=n):cut l 0 n=l:=by subst h;simp[cut]
theorem JU{n:ByteArray}{a b c:List Int}(hn:n.size<=100)(ha:a.length<=1000000)(hb:b.length<=1000000)(hc:c.length<=1000000):eh.aY (n,[a,b,c]):=by
 show(As _ [a,b,c]).length<=_
 rw[As]
 simp only[oM,List.flatMap_cons,List.flatMap_nil,aq,dB,jR,ba]
 omega
theorem JT{n:ByteArray}{a b:List Int}(hn:n.size<=100)(ha:a.length<=1000000)(hb:b.length<=1000000):eh.aY (n,[a,b]):=by
 show(As _ [a,b]).length<=_
 rw[As]
 simp only[oM,List.flatMap_cons,List.flatMap_nil,aq,dB,jR,ba]
 omega
theorem JS{n:ByteArray}{a:List Int}(hn:n.size<=100)(ha:a.length<=1000000):eh.aY (n,[a]):=by
 show(As _ [a]).length<=_
 rw[As]
 simp only[oM,List.flatMap_cons,List.flatMap_nil,aq,dB,jR,ba]
 omega
def Sm(m:List Int):Prop:=m.length=32/\Bytes m
theorem Nz(b:List Int):Sm (Od b):=⟨FQ b,G4 b⟩
theorem FR(n:List Int)(ps:List (List Int)):Sm (tag n ps):=Nz _
def NB(n:ByteArray)(ps:List (List Int)):List Int:=tag (bV n) ps
def Py:ByteArray:=⟨#[115,105,103]⟩
def Nk:ByteArray:=⟨#[110,111,110,99,101]⟩
def wT(r p:Int)(m:List Int):Int:=wY (NB Py [pU r,pU p,m])
theorem IC(r p:Int)(m:List Int):Qn (wT r p m):=by
 have:=C7 (NB Py [pU r,pU p,m])
 exact⟨by unfold wT;omega,by unfold wT;omega⟩
def RZ(s:Sg):Prop:=kX s.1/\kX s.2.1
def Mo(p:Int)(m:List Int)(t:Int)(s:Sg):Bool:=
 if p=1\/wm p=false\/wm t=false\/wm s.1=false\/¬s.2.1 < 2305843009213688669 then false
 else decide (kI s.2.1=Cj [s.1,FP p (wT s.1 p m),RF t])
def Gd(k nonce:Int)(m:List Int)(t:Int):Sg:=
 (Cj [kI nonce,t],Mg nonce (KK (wT (Cj [kI nonce,t]) (kI k) m) k),())
def No(k:Int)(m:List Int):Int:=wY (NB Nk [pU k,m])
def rB(k:Int)(m:List Int):Sg:=if k < 2305843009213688669/\k≠0 then Gd k (No k m) m 1 else(0,0,())
abbrev fe.D:=Int
abbrev fe.Y:=Bs
def fe.aY:fe.D->Prop:=λ_=>True
def fe.F:fe.D->fe.Y:=λn=>pU n
def fe:Fs Tryz.prog fe.aY bU fe.F:=gh 137 Tryz.f137 (λn=>([.d tu n],[])) (λx=>⟨.d tB x,[],[]⟩) [some tu] [] {loops:=rH [(3,{bI:=[0,3,7,8],sites:=[5]})],outs:=rG [(3,{bI:=[3],sites:=[5]},{bI:=[2],sites:=[5]})],res:=[some tB]} 12
theorem fe.eq{R:Type}(n)(k:K1 R):fe.A n k=
 k (fe.out [(dP .u8 (cg .u64 n 56)),(dP .u8 (cg .u64 n 48)),(dP .u8 (cg .u64 n 40)),(dP .u8 (cg .u64 n 32)),(dP .u8 (cg .u64 n 24)),(dP .u8 (cg .u64 n 16)),(dP .u8 (cg .u64 n 8)),(dP .u8 (cg .u64 n 0))]):=by kernel_rfl
theorem fe.ok:fe.Ok:=by
 intro n _
 rw[fe.eq,CK]
 rfl
theorem fe.run:fe.RS:=rE [.d tu] fe
def fe.sg:=fe.gC fe.ok 1 ⟨.none (by kernel_rfl),trivial⟩
abbrev jx.D:=Int×Int×Bs
abbrev jx.Y:=Int
def jx.aY:jx.D->Prop:=λ(r,p,m)=>Sm m
def jx.F:jx.D->jx.Y:=λ(r,p,m)=>wT r p m
def jx:Fs Tryz.prog jx.aY bU jx.F:=gh 198 Tryz.f198 (λ(r,p,m)=>([.d tu r,.d tu p,.d tH m],[])) (λx=>⟨.d tu x,[],[]⟩) [some tu,some tu,some tH] [fe.sg,eh.sg,dA.sg]
theorem jx.eq{R:Type}(r p m)(k:K1 R):jx.A (r,p,m) k=
 aA (fe.call r) λx1=>
 aA (fe.call p) λx2=>
 aA (eh.call ((⟨#[115,105,103]⟩:ByteArray),[x1,x2,(cut m 0 32)])) λx3=>
 aA (dA.call x3) λx4=>
 k (jx.out x4):=by kernel_rfl
theorem jx.ok:jx.Ok:=by
 rintro⟨r,p,m⟩ hm
 have hm:Sm m:=hm
 rw[jx.eq,fe.run (d:=r) trivial,fe.run (d:=p) trivial]
 simp only[ah,bU,fe.F]
 rw[iq hm.1,eh.run (JU (by decide) (by rw[dB];omega) (by rw[dB];omega) (by rw[hm.1];omega))]
 simp only[ah,bU,eh.F]
 rw[dA.run (d:=tag (bV (⟨#[115,105,103]⟩:ByteArray)) [pU r,pU p,m]) (FR _ _)]
 rfl
theorem jx.run:jx.RS:=rE [.d tu,.d tu,.d tB] jx
def jx.sg:=jx.gC jx.ok
abbrev mL.D:=Int
abbrev mL.Y:=Bool
def mL.aY:mL.D->Prop:=λ_=>True
def mL.F:mL.D->mL.Y:=λk=>decide (k < 2305843009213688669/\k≠0)
def mL:Fs Tryz.prog mL.aY bU mL.F:=gh 134 Tryz.f134 (λkv=>([.d tu kv],[])) (λx=>⟨.d .bool x,[],[]⟩) [some tu] [eL.sg]
theorem mL.eq{R:Type}(kv)(k:K1 R):mL.A kv k=
  aA (eL.call kv) λx1=>
  aK (x1) (
   k (mL.out (uD kv 0))) (
   k (mL.out false)):=by kernel_rfl
theorem mL.ok:mL.Ok:=by
 intro k _
 rw[mL.eq,eL.run (d:=k) trivial]
 simp only[ah,bU,eL.F,bU,mL.F]
 by_cases h:k < 2305843009213688669
 ·rw[bA h,aj]
  by_cases h0:k=0
  ·rw[eX h0,cn (λx=>x.2 h0)]
  ·rw[iX h0,aX ⟨h,h0⟩]
 ·rw[bl h,au,cn (λx=>h x.1)]
theorem mL.run:mL.RS:=rE [.d tu] mL
def mL.sg:=mL.gC mL.ok
abbrev fo.D:=Int×Int×Bs×Int
abbrev fo.Y:=Sg
def fo.aY:fo.D->Prop:=λ(k,n,m,t)=>kX k/\kX n/\Sm m/\kX t
def fo.F:fo.D->fo.Y:=λ(k,n,m,t)=>Gd k n m t
def fo:Fs Tryz.prog fo.aY bU fo.F:=gh 135 Tryz.f135 (λ(kv,nonce,m,t)=>([.d tu kv,.d tu nonce,.d tH m,.d tu t],[])) (λx=>⟨.d Io x,[],[]⟩) [some tu,some tu,some tH,some tu] [gH.sg,nP.sg,jx.sg,nL.sg,om.sg]
theorem fo.eq{R:Type}(kv nonce m t)(k:K1 R):fo.A (kv,nonce,m,t) k=
 aA (gH.call nonce) λx1=>
 aA (nP.call (x1,t)) λx2=>
 aA (gH.call kv) λx3=>
 aA (jx.call (x2,x3,m)) λx4=>
 aA (nL.call (x4,kv)) λx5=>
 aA (om.call (nonce,x5)) λx6=>
 k (fo.out (x2,(x6,()))):=by kernel_rfl
theorem fo.ok:fo.Ok:=by
 rintro⟨k,n,m,t⟩ ⟨hk,hn,hm,ht⟩
 have hk:kX k:=hk
 have hn:kX n:=hn
 have hm:Sm m:=hm
 have ht:kX t:=ht
 rw[fo.eq,gH.run (d:=n) hn]
 simp only[ah,bU,gH.F]
 rw[nP.run (d:=(kI n,t)) ⟨(PD _ _).u,ht⟩,gH.run (d:=k) hk]
 simp only[ah,bU,gH.F,bU,nP.F]
 rw[jx.run (d:=(Cj [kI n,t],kI k,m)) hm]
 simp only[ah,bU,jx.F]
 rw[nL.run (d:=(wT (Cj [kI n,t]) (kI k) m,k)) ⟨(IC _ _ _).u,hk⟩]
 simp only[ah,bU,nL.F]
 rw[om.run (d:=(n,KK (wT (Cj [kI n,t]) (kI k) m) k)) ⟨hn,(KL _ _).u⟩]
 rfl
theorem fo.run:fo.RS:=rE [.d tu,.d tu,.d tB,.d tu] fo
def fo.sg:=fo.gC fo.ok
abbrev ja.D:=Int×Bs
abbrev ja.Y:=Sg
def ja.aY:ja.D->Prop:=λ(k,m)=>kX k/\Sm m
def ja.F:ja.D->ja.Y:=λ(k,m)=>rB k m
def ja:Fs Tryz.prog ja.aY bU ja.F:=gh 69 Tryz.f69 (λ(kv,m)=>([.d tu kv,.d tH m],[])) (λx=>⟨.d Io x,[],[]⟩) [some tu,some tH] [mL.sg,fe.sg,eh.sg,dA.sg,fo.sg]
theorem ja.eq{R:Type}(kv m)(k:K1 R):ja.A (kv,m) k=
  aA (mL.call kv) λx1=>
  aK ((!x1)) (
   k (ja.out (0,(0,())))) (
   aA (fe.call kv) λx2=>
   aA (eh.call ((⟨#[110,111,110,99,101]⟩:ByteArray),[x2,(cut m 0 32)])) λx3=>
   aA (dA.call x3) λx4=>
   aA (fo.call (kv,x4,m,1)) λx5=>
   k (ja.out x5)):=by kernel_rfl
theorem ja.ok:ja.Ok:=by
 rintro⟨k,m⟩ ⟨hk,hm⟩
 have hk:kX k:=hk
 have hm:Sm m:=hm
 rw[ja.eq,mL.run (d:=k) trivial]
 simp only[ah,bU,mL.F,bU,ja.F,rB]
 by_cases h:k < 2305843009213688669/\k≠0
 ·rw[aX h,if_pos h,fe.run (d:=k) trivial,iq hm.1]
  simp only[b8,au,ah,bU,fe.F]
  rw[eh.run (JT (by decide) (by rw[dB];omega) (by rw[hm.1];omega))]
  simp only[ah,bU,eh.F]
  rw[dA.run (d:=tag (bV (⟨#[110,111,110,99,101]⟩:ByteArray)) [pU k,m]) (FR _ _)]
  simp only[ah,bU,dA.F]
  have q:=C7 (tag (bV (⟨#[110,111,110,99,101]⟩:ByteArray)) [pU k,m])
  rw[fo.run (d:=(k,wY (tag (bV (⟨#[110,111,110,99,101]⟩:ByteArray)) [pU k,m]),m,1)) ⟨hk,⟨by omega,by omega⟩,hm,by omega,by omega⟩]
  rfl
 ·rw[cn h,if_neg h];rfl
theorem ja.run:ja.RS:=rE [.d tu,.d tB] ja
def ja.sg:=ja.gC ja.ok
def Ay(l:List Int):Prop:=∀x∈l,kX x
def Qg(b:uB):Prop:=Ay b.1/\kX b.2.2.2.1
def Li(l:Lk):Prop:=∀b∈l.1,Qg b
def xB(n:Int):Bool:=decide (0<=n/\n<=1048576)
def tJ(b:uB):Bool:=decide (b.1.length<=12) && (b.1.all wm && (xB b.2.1 && (xB b.2.2.1 && (decide (b.2.2.2.1=0) || wm b.2.2.2.1))))
def pH(l:Lk):Bool:=l.1.all tJ && decide (0 < l.1.length/\l.1.length<=4)
def oc:List Int->Int->Int⊕Unit
 |[],_=> .inr ()
 |p::ps,i=>if wm p then oc ps (i+1) else .inl i
def Gf(l:List Int):Int:=match oc l 0 with | .inl i=>i | .inr _=> -1
theorem wQ:∀(l:List Int) (i:Int),0<=i->(match oc l i with | .inl i=>decide (i>=0) | .inr _=>false)= !(l.all wm)
 |[],_,_=>rfl
 |p::ps,i,h=>by
  rw[oc,eJ]
  cases hp:wm p
  ·simp[h]
  ·simp only[if_true,bX]
   exact wQ ps (i+1) (by omega)
theorem GZ(l:List Int):qP (Gf l) 0= !(l.all wm):=by
 have:=wQ l 0 (by omega)
 unfold Gf qP
 cases h:oc l 0
 ·rw[h]at this;exact this
 ·rw[h]at this;rw[<-this];rfl
abbrev lC.D:=Int
abbrev lC.Y:=Bool
def lC.aY:lC.D->Prop:=λp=>kX p
def lC.F:lC.D->lC.Y:=λp=> !wm p
def lC:Fs Tryz.prog lC.aY bU lC.F:=gh 150 Tryz.f150 (λp=>([.d tu p],[])) (λx=>⟨.d .bool x,[],[]⟩) [some tu] [ff.sg]
theorem lC.eq{R:Type}(p)(k:K1 R):lC.A p k=
 aA (ff.call p) λx1=>
 k (lC.out (!x1)):=by kernel_rfl
theorem lC.ok:lC.Ok:=by
 intro p hp
 rw[lC.eq,ff.run (d:=p) hp]
 rfl
theorem lC.run:lC.RS:=rE [.d tu] lC
def lC.sg:=lC.gC lC.ok
abbrev aZ.L0.D:=Bs×Int×Int
def aZ.L0.st:aZ.L0.D->AS:=λ(nE,t7,t8)=>⟨([.d tU nE,.fn 150 (.nil)]++bB 5 ([.d ti t7,.d ti t8]++bB 10 [])),[],(List.replicate 19 [])⟩
abbrev aZ.L0.Y0:=Int
abbrev aZ.L0.X0:=Int
def aZ.L0.dm:aZ.L0.X0->Exit×AS:=λx=>(.ret,⟨(bB 4 ([.d ti x]++bB 14 [])),[],(List.replicate 19 [])⟩)
abbrev aZ.L0.Y1:=Unit
abbrev aZ.L0.X1:=Unit
def aZ.L0.gL:aZ.L0.X1->Exit×AS:=λx=>(.exit 0,⟨(bB 19 []),[],(List.replicate 19 [])⟩)
abbrev aZ.L0.X:=(aZ.L0.X0)⊕(aZ.L0.X1)
abbrev aZ.L0.Y:=(aZ.L0.Y0)⊕(aZ.L0.Y1)
def aZ.L0.out:aZ.L0.X->Out (Exit×AS):=λx=> .br x.isLeft (.get x.getLeft? λa=> .ok (aZ.L0.dm a)) (.get x.getRight? λb=> .ok (aZ.L0.gL b))
def aZ.L0.add:aZ.L0.D->aZ.L0.Y->aZ.L0.X:=λ(nE,t7,t8) y=>match y with | .inl y=> .inl y | .inr z=> .inr (z)
abbrev aZ.D:=Bs
abbrev aZ.Y:=Int
def aZ.L0.aY:aZ.L0.D->Prop:=λ(l,n,i)=>Ay l/\l.length<=1000000000/\n=l.length/\∃k:Nat,k<=l.length/\i=k
def aZ.L0.F:aZ.L0.D->aZ.L0.Y:=λ(l,n,i)=>oc (l.drop i.toNat) i
def aZ.aY:aZ.D->Prop:=λl=>Ay l/\l.length<=1000000000
def aZ.F:aZ.D->aZ.Y:=λl=>Gf l
def aZ.L0.E:=eE.js aZ.L0.st aZ.L0.aY aZ.L0.add aZ.L0.F aZ.L0.out
def aZ.L0.call:aZ.L0.D->Option aZ.L0.X:=kJ aZ.L0.E aZ.L0.st
def aZ:Fs Tryz.prog aZ.aY bU aZ.F:=gh 205 Tryz.f205 (λsv=>([.d tU sv,.fn 150 (.nil)],[])) (λx=>⟨.d ti x,[],[]⟩) [some tU,none] [lC.sg] {loops:=rH [(2,{bI:=[0,1,7,8]})],outs:=rG [(2,{},{bI:=[4]})],jP:=sh [(2,aZ.L0.E)]}
def aZ.L0.R:= @iA Tryz.prog (mR aZ.G) aZ.an 0 Tryz.f205 0 _ aZ.L0.st
abbrev aZ.L0.Ok:=pE Tryz.prog (mR aZ.G) aZ.an 0 Tryz.f205 0 aZ.L0.st aZ.L0.aY aZ.L0.add aZ.L0.F aZ.L0.out
theorem aZ.L0.run:nI aZ.L0.call aZ.L0.aY aZ.L0.add aZ.L0.F:=qz (qa [.d tU,.d ti,.d ti] λ_=>by kernel_rfl)
theorem aZ.L0.c8:qk @aZ.L0.R aZ.L0.st aZ.L0.aY aZ.L0.add aZ.L0.F aZ.L0.out aZ.L0.Ok:=qI
theorem aZ.L0.step{R:Type}(nE:Bs)(t7:Int)(t8:Int)(kn:AS->Option R)(kx:Exit->AS->Option R):aZ.L0.R (nE,t7,t8) kn kx=
  aK ((iI t8 t7)) (
   aK (fa t8 (((List.length nE):Nat):Int)) (
   aA (lC.call (nth tu nE (Int.toNat t8))) λx1=>
   aK (x1) (
    kx (aZ.L0.dm t8).1 (aZ.L0.dm t8).2) (
    kn (aZ.L0.st (nE,t7,(bN .i64 t8 (1:Int)))))) none) (
   kx (aZ.L0.gL ()).1 (aZ.L0.gL ()).2):=by kernel_rfl
theorem aZ.eq{R:Type}(sv)(k:K1 R):aZ.A sv k=
  aA (aZ.L0.call (sv,(sv.length:Int),0)) λx2=>
  aK (x2.isLeft) (
   aA (x2.getLeft?) λa3=>
   k (aZ.out a3)) (
   aA (x2.getRight?) λb4=>
   k (aZ.out (-1))):=by kernel_rfl
theorem aZ.L0.ok:aZ.L0.Ok:=by
 refine aZ.L0.c8 (λ(l,n,i)=>l.length - i.toNat) ?_
 rintro⟨l,n,i⟩ ⟨hl,hb,rfl,k,hk,rfl⟩
 have hb:l.length<=1000000000:=hb
 have hk:k<=l.length:=hk
 by_cases h:k < l.length
 ·have hx:=hl _ (b5 h)
  have n1:nth (.int .u64) l k=l[k]:=dM (t:= .int .u64) h
  have hd:oc (l.drop k) k=if wm l[k] then oc (l.drop (k+1)) ((k+1:Nat):Int) else .inl (k:Int):=by rw[aC h];rfl
  cases hp:wm l[k]
  ·right
   refine⟨aZ.L0.dm (k:Int),?_,λkn kx=> ?_⟩
   ·simp only[aZ.L0.add,aZ.L0.F,aa,hd,hp,bK,if_false]
    rfl
   ·rw[aZ.L0.step]
    simp(disch:=omega) only[↓S1,↓if_pos,↓if_neg,if_pos,if_neg,if_true,if_false,S2,n1]
    rw[lC.run (d:=l[k]) hx]
    simp only[ah,bU,lC.F,hp,dr,aj]
  ·left
   refine⟨(l,l.length,((k+1:Nat):Int)),⟨hl,hb,rfl,k+1,by omega,rfl⟩,by simp only[aa];omega,?_,λkn kx=> ?_⟩
   ·simp only[aZ.L0.add,aZ.L0.F,aa,hd,hp,if_true]
   ·rw[aZ.L0.step]
    simp(disch:=omega) only[↓S1,↓if_pos,↓if_neg,if_pos,if_neg,if_true,if_false,S2,n1]
    rw[lC.run (d:=l[k]) hx]
    simp only[ah,bU,lC.F,hp,b8,au]
 ·right
  obtain rfl:k=l.length:=by omega
  refine⟨aZ.L0.gL (),?_,λkn kx=> ?_⟩
  ·simp only[aZ.L0.add,aZ.L0.F,aa,bq]
   rfl
  ·rw[aZ.L0.step]
   simp(disch:=omega) only[↓S1,↓if_pos,↓if_neg,if_pos,if_neg,if_true,if_false,S2]
theorem aZ.ok:aZ.Ok:=by
 rintro l ⟨hl,hb⟩
 rw[aZ.eq,aZ.L0.run (d:=(l,l.length,0)) ⟨hl,hb,rfl,0,by omega,rfl⟩]
 simp only[ah,aZ.L0.add,aZ.L0.F,cF,aJ,bU,aZ.F,Gf]
 cases oc l 0 <;> rfl
theorem aZ.run:aZ.RS:=rE [.d tU] aZ
def aZ.sg:=aZ.gC aZ.ok 1 ⟨.js aZ.L0.ok,trivial⟩
abbrev dH.D:=Bs
abbrev dH.Y:=Bool
def dH.aY:dH.D->Prop:=λl=>Ay l/\l.length<=1000000000
def dH.F:dH.D->dH.Y:=λl=> !(l.all wm)
def dH:Fs Tryz.prog dH.aY bU dH.F:=gh 152 Tryz.f152 (λsv=>([.d tU sv,.fn 150 (.nil)],[])) (λx=>⟨.d .bool x,[],[]⟩) [some tU,none] [aZ.sg]
theorem dH.eq{R:Type}(sv)(k:K1 R):dH.A sv k=
 aA (aZ.call sv) λx1=>
 k (dH.out (qP x1 0)):=by kernel_rfl
theorem dH.ok:dH.Ok:=by
 rintro l ⟨hl,hb⟩
 rw[dH.eq,aZ.run (d:=l) ⟨hl,hb⟩]
 simp only[ah,bU,aZ.F,GZ]
 rfl
theorem dH.run:dH.RS:=rE [.d tU] dH
def dH.sg:=dH.gC dH.ok
abbrev eA.D:=Int
abbrev eA.Y:=Bool
def eA.aY:eA.D->Prop:=λ_=>True
def eA.F:eA.D->eA.Y:=λn=>xB n
def eA:Fs Tryz.prog eA.aY bU eA.F:=gh 153 Tryz.f153 (λn=>([.d ti n],[])) (λx=>⟨.d .bool x,[],[]⟩) [some ti]
theorem eA.eq{R:Type}(n)(k:K1 R):eA.A n k=
  aK ((qP n 0)) (
   k (eA.out (Ct n 1048576))) (
   k (eA.out false)):=by kernel_rfl
theorem eA.ok:eA.Ok:=by
 intro n _
 rw[eA.eq]
 simp only[bU,eA.F,xB]
 by_cases h:0<=n
 ·rw[fW h,aj]
  by_cases h2:n<=1048576
  ·rw[kO h2,aX ⟨h,h2⟩]
  ·rw[iW h2,cn (λx=>h2 x.2)]
 ·rw[eu h,au,cn (λx=>h x.1)]
theorem eA.run:eA.RS:=rE [.d ti] eA
def eA.sg:=eA.gC eA.ok
abbrev aM.L0.D:=Lk×(List uB)×Int×Int
def aM.L0.st:aM.L0.D->AS:=λ(oz,t7,t8,t9)=>⟨([.undef,.eO xI oz,.undef,.fn 150 (.nil),.undef,.undef,.undef,.d (.slice pR) t7,.d ti t8,.d ti t9]++bB 47 []),[],(List.replicate 57 [])⟩
abbrev aM.L0.Y0:=Unit
abbrev aM.L0.X0:=Unit
def aM.L0.dm:aM.L0.X0->Exit×AS:=λx=>(.ret,⟨([.undef,.undef,.d .bool false]++bB 54 []),[],(List.replicate 57 [])⟩)
abbrev aM.L0.Y1:=Unit
abbrev aM.L0.X1:=Lk
def aM.L0.gL:aM.L0.X1->Exit×AS:=λx=>(.exit 0,⟨([.undef,.eO xI x]++bB 55 []),[],(List.replicate 57 [])⟩)
abbrev aM.L0.X:=(aM.L0.X0)⊕(aM.L0.X1)
abbrev aM.L0.Y:=(aM.L0.Y0)⊕(aM.L0.Y1)
def aM.L0.out:aM.L0.X->Out (Exit×AS):=λx=> .br x.isLeft (.get x.getLeft? λa=> .ok (aM.L0.dm a)) (.get x.getRight? λb=> .ok (aM.L0.gL b))
def aM.L0.add:aM.L0.D->aM.L0.Y->aM.L0.X:=λ(oz,t7,t8,t9) y=>match y with | .inl y=> .inl y | .inr z=> .inr (oz)
abbrev aM.D:=Lk
abbrev aM.Y:=Bool
def aM.L0.aY:aM.L0.D->Prop:=λ(l,bs,n,i)=>(∀b∈bs,Qg b)/\bs.length<=9223372036854775807/\n=bs.length/\∃k:Nat,k<=bs.length/\i=k
def aM.L0.F:aM.L0.D->aM.L0.Y:=λ(l,bs,n,i)=>if(bs.drop i.toNat).all tJ then .inr () else .inl ()
def aM.aY:aM.D->Prop:=λl=>Li l/\l.1.length<=9223372036854775807
def aM.F:aM.D->aM.Y:=λl=>pH l
def aM.L0.E:=eE.js aM.L0.st aM.L0.aY aM.L0.add aM.L0.F aM.L0.out
def aM.L0.call:aM.L0.D->Option aM.L0.X:=kJ aM.L0.E aM.L0.st
def aM:Fs Tryz.prog aM.aY bU aM.F:=gh 77 Tryz.f77 (λl=>([.d xI l],[])) (λx=>⟨.d .bool x,[],[]⟩) [some xI] [dH.sg,eA.sg,lC.sg] {loops:=rH [(3,{bI:=[1,3,7,8,9]})],outs:=rG [(3,{bI:=[1]},{bI:=[2]})],jP:=sh [(3,aM.L0.E)]}
def aM.L0.R:= @iA Tryz.prog (mR aM.G) aM.an 0 Tryz.f77 0 _ aM.L0.st
abbrev aM.L0.Ok:=pE Tryz.prog (mR aM.G) aM.an 0 Tryz.f77 0 aM.L0.st aM.L0.aY aM.L0.add aM.L0.F aM.L0.out
theorem aM.L0.run:nI aM.L0.call aM.L0.aY aM.L0.add aM.L0.F:=qz (qa [.d xI,.d (.slice pR),.d ti,.d ti] λ_=>by kernel_rfl)
theorem aM.L0.c8:qk @aM.L0.R aM.L0.st aM.L0.aY aM.L0.add aM.L0.F aM.L0.out aM.L0.Ok:=qI
theorem aM.L0.step{R:Type}(oz:Lk)(t7:(List uB))(t8:Int)(t9:Int)(kn:AS->Option R)(kx:Exit->AS->Option R):aM.L0.R (oz,t7,t8,t9) kn kx=
  aK ((iI t9 t8)) (
   aK (fa t9 (((List.length t7):Nat):Int)) (
   aK ((ot (((List.length (nth pR t7 (Int.toNat t9)).1):Nat):Int) (12:Int))) (
    kx (aM.L0.dm ()).1 (aM.L0.dm ()).2) (
    aA (dH.call (nth pR t7 (Int.toNat t9)).1) λx1=>
    aK (x1) (
     kx (aM.L0.dm ()).1 (aM.L0.dm ()).2) (
     aA (eA.call (nth pR t7 (Int.toNat t9)).2.1) λx2=>
     aK ((!x2)) (
      kx (aM.L0.dm ()).1 (aM.L0.dm ()).2) (
      aA (eA.call (nth pR t7 (Int.toNat t9)).2.2.1) λx3=>
      aK ((!x3)) (
       kx (aM.L0.dm ()).1 (aM.L0.dm ()).2) (
       aK ((uD (nth pR t7 (Int.toNat t9)).2.2.2.1 (0:Int))) (
        aA (lC.call (nth pR t7 (Int.toNat t9)).2.2.2.1) λx4=>
        aK (x4) (
         kx (aM.L0.dm ()).1 (aM.L0.dm ()).2) (
         kn (aM.L0.st (oz,t7,t8,(bN .i64 t9 (1:Int)))))) (
        kn (aM.L0.st (oz,t7,t8,(bN .i64 t9 (1:Int)))))))))) none) (
   kx (aM.L0.gL oz).1 (aM.L0.gL oz).2):=by kernel_rfl
theorem aM.eq{R:Type}(l)(k:K1 R):aM.A l k=
  aA (aM.L0.call (l,l.1,(l.1.length:Int),0)) λx5=>
  aK (x5.isLeft) (
   aA (x5.getLeft?) λa6=>
   k (aM.out false)) (
   aA (x5.getRight?) λb7=>
   aK ((ot (b7.1.length:Int) 0)) (
    k (aM.out (Ct (b7.1.length:Int) 4))) (
    k (aM.out false))):=by kernel_rfl
theorem aM.L0.ok:aM.L0.Ok:=by
 refine aM.L0.c8 (λ(l,bs,n,i)=>bs.length - i.toNat) ?_
 rintro⟨l,bs,n,i⟩ ⟨hl,hb,rfl,k,hk,rfl⟩
 have hb:bs.length<=9223372036854775807:=hb
 have hk:k<=bs.length:=hk
 by_cases h:k < bs.length
 ·have hx:Qg bs[k]:=hl _ (b5 h)
  have n1:nth (.pair (.slice (.int .u64)) (.pair (.int .i64) (.pair (.int .i64) (.pair (.int .u64) .unit)))) bs k=bs[k]:=dM (t:=(.pair (.slice (.int .u64)) (.pair (.int .i64) (.pair (.int .i64) (.pair (.int .u64) .unit))))) h
  have hd:(bs.drop k).all tJ=(tJ bs[k] && (bs.drop (k+1)).all tJ):=by rw[aC h,eJ]
  have step:∀ {R:Type} (kn:AS->Option R) (kx:Exit->AS->Option R),aM.L0.R (l,bs,(bs.length:Int),(k:Int)) kn kx=aK (tJ bs[k]) (kn (aM.L0.st (l,bs,(bs.length:Int),((k+1:Nat):Int)))) (kx (aM.L0.dm ()).1 (aM.L0.dm ()).2):=by
   intro R kn kx
   rw[aM.L0.step,bA (by omega),bJ (by omega) (by omega),aa,n1,N.rD (by omega)]
   obtain⟨⟨ks,af,dl,sc,u⟩,QK⟩:∃b,bs[k]=b:=⟨_,rfl⟩
   rw[QK]at hx ⊢
   have h1:Ay ks:=hx.1
   have h2:kX sc:=hx.2
   simp only[aj,tJ]
   by_cases hk:ks.length<=12
   ·rw[cZ (by omega),dH.run (d:=ks) ⟨h1,by omega⟩,eA.run (d:=af) trivial,eA.run (d:=dl) trivial,lC.run (d:=sc) h2,aX hk]
    simp only[au,ah,bU,dH.F,bU,eA.F,bU,lC.F,bX]
    cases ks.all wm
    ·rfl
    cases xB af
    ·rfl
    cases xB dl
    ·rfl
    by_cases hs:sc=0
    ·rw[eX hs,aX hs];rfl
    ·rw[iX hs,cn hs]
     cases wm sc <;> rfl
   ·rw[dv (by omega),cn hk];rfl
  cases hp:tJ bs[k]
  ·right
   refine⟨aM.L0.dm (),?_,λkn kx=> ?_⟩
   ·simp only[aM.L0.add,aM.L0.F,aa,hd,hp,dQ,bK,if_false]
    rfl
   ·rw[step,hp,au]
  ·left
   refine⟨(l,bs,bs.length,((k+1:Nat):Int)),⟨hl,hb,rfl,k+1,by omega,rfl⟩,by simp only[aa];omega,?_,λkn kx=> ?_⟩
   ·simp only[aM.L0.add,aM.L0.F,aa,hd,hp,bX]
   ·rw[step,hp,aj]
 ·right
  obtain rfl:k=bs.length:=by omega
  refine⟨aM.L0.gL l,?_,λkn kx=> ?_⟩
  ·simp only[aM.L0.add,aM.L0.F,aa,bq]
   rfl
  ·rw[aM.L0.step]
   simp(disch:=omega) only[↓S1,↓if_pos,↓if_neg,if_pos,if_neg,if_true,if_false,S2]
theorem aM.ok:aM.Ok:=by
 rintro l ⟨hl,hb⟩
 have hb:l.1.length<=9223372036854775807:=hb
 rw[aM.eq,aM.L0.run (d:=(l,l.1,l.1.length,0)) ⟨hl,hb,rfl,0,by omega,rfl⟩]
 simp only[ah,aM.L0.add,aM.L0.F,cF,aJ,bU,aM.F,pH]
 cases l.1.all tJ
 ·rfl
 ·simp only[if_true,bX]
  show aK (ot _ _) _ _=_
  by_cases h0:0 < l.1.length
  ·rw[dv (by omega)]
   by_cases h4:l.1.length<=4
   ·rw[kO (by omega),aX ⟨h0,h4⟩];rfl
   ·rw[iW (by omega),cn (λx=>h4 x.2)];rfl
  ·rw[cZ (by omega),cn (λx=>h0 x.1)];rfl
theorem aM.run:aM.RS:=rE [.d xI] aM
def aM.sg:=aM.gC aM.ok 1 ⟨.js aM.L0.ok,trivial⟩
def JY(m:List Int):List Int->List Sg->Bool
 |[],_=>true
 |p::ps,ss=>Mo p m 1 (ss.headD (0,0,())) && JY m ps ss.tail
def LW(l:Lk)(w:EJ)(m:List Int)(height age:Int):Int:=
 if pH l=false\/w.1 < 0\/w.1>=l.1.length then 1
 else
  let b:=nth (.pair (.slice (.int .u64)) (.pair (.int .i64) (.pair (.int .i64) (.pair (.int .u64) .unit)))) l.1 w.1.toNat
  if height < b.2.1\/age < b.2.2.1 then 11
  else if b.2.2.2.1≠0/\kI w.2.2.1≠b.2.2.2.1 then 23
  else if w.2.1.length≠b.1.length then 7
  else if JY m b.1 w.2.1 then 0 else 7
def Mf(w:EJ):Prop:=(∀s∈w.2.1,RZ s)/\kX w.2.2.1
abbrev jf.D:=Int
abbrev jf.Y:=Nat×(List Int)
def jf.aY:jf.D->Prop:=λn=>∃k:Nat,n=k/\k<=100000000
def jf.F:jf.D->jf.Y:=λn=>(0,List.replicate n.toNat 0)
def jf:Fs Tryz.prog jf.aY bU jf.F:=gh 249 Tryz.f249 (λn=>([.db,.d ti n],[])) (λx=>⟨.cD (.new 0 0) 0 [] 0 0 x.1,[],[.obj 0 false (.vec 5 tb x.2)]⟩) [none,some ti] [] {owns:=[⟨4,[],22,140⟩]}
theorem jf.eq{R:Type}(n)(k:K1 R):jf.A n k=
  aK ((iI n 0)) (
   none) (
   aK ((ot (dn .i64 n 0) 0)) (
    aK (decide (0 < (dn .i64 n 0)) && dT (Int.toNat (dn .i64 n 0)) 1) (
    aK (inc 0 (((Int.toNat (dn .i64 n 0)):Nat):Int)) (
    k (jf.out (0,(List.replicate (Int.toNat (dn .i64 n 0)) 0)))) none) none) (
    k (jf.out (0,([]:List Int))))):=by kernel_rfl
theorem jf.ok:jf.Ok:=by
 rintro n ⟨k,rfl,hk⟩
 have e:dn .i64 (k:Int) 0=(k:Int):=by rw[dS (by omega) (by omega)];omega
 rw[jf.eq,e,bl (by omega),au]
 by_cases h:0 < k
 ·rw[dv (by omega),aa,aX (by omega),fL (by omega) (by omega),gV (by omega) (by omega)]
  rfl
 ·obtain rfl:k=0:=by omega
  rfl
theorem jf.run:jf.RS:=rE [.d ti] jf
def jf.sg:=jf.gC jf.ok
def ma(l:List (List Int)):Nat:=l.flatten.length
def zZ(n:Nat)(l:List Int):List (List Int)->Nat×List Int
 |[]=>(n,l)
 |s::r=>(n+(s::r).flatten.length,l.take n++(s::r).flatten)
theorem G6(n:Nat)(l s:List Int)(r:List (List Int))(h:n<=l.length):zZ n l (s::r)=zZ (n+s.length) (l.take n++s) r:=by
 have hl:(l.take n++s).length=n+s.length:=by rw[aq,cz];omega
 cases r with
 |nil=>simp[zZ]
 |cons t r=>
  simp only[zZ]
  rw[bz (Nat.le_of_eq hl)]
  simp only[fw,aq,bg,dz]
theorem Kk(n:Nat)(z:List Int)(r:List (List Int)):(zZ 0 z r).1<=(zZ 0 z r).2.length/\cut (zZ 0 z r).2 0 (zZ 0 z r).1=r.flatten:=by
 cases r with
 |nil=>exact⟨bh _,rfl⟩
 |cons s r=>
  simp only[zZ,eY,aS,aN]
  exact⟨ax _,by show List.take _ (List.drop 0 _)=_;rw[aJ,cY]⟩
abbrev aR.L0.D:=(List Bs)×Int×(List Bs)×Int×Int
abbrev aR.L0.Y:=Int
abbrev aR.L0.X:=((List Bs))×(Int)
def aR.L0.add:aR.L0.D->aR.L0.Y->aR.L0.X:=λ(pn,size,t9,t10,t11) y=>(pn,y)
abbrev aR.L1.D:=Nat×(List Bs)×Int×Int×(List Int)
abbrev aR.L1.Y:=Nat×(List Int)
abbrev aR.D:=(List Bs)
abbrev aR.Y:=Bs
def aR.L0.aY:aR.L0.D->Prop:=λ(s,size,t,n,i)=>s.length<=1000000/\t=s/\n=s.length/\∃k z:Nat,k<=s.length/\i=k/\size=z/\z+ma (s.drop k)<=100000000
def aR.L0.F:aR.L0.D->aR.L0.Y:=λ(s,size,t,n,i)=>((size:Int)+((ma (s.drop i.toNat):Nat):Int):Int)
def aR.L1.aY:aR.L1.D->Prop:=λ(n,s,t,i,l)=>s.length<=1000000/\n<=l.length/\t=s.length/\∃k:Nat,k<=s.length/\i=k/\n+ma (s.drop k)<=100000000
def aR.L1.F:aR.L1.D->aR.L1.Y:=λ(n,s,t,i,l)=>zZ n l (s.drop i.toNat)
def aR.aY:aR.D->Prop:=λs=>s.length<=1000000/\ma s<=100000000
def aR.F:aR.D->aR.Y:=λs=>s.flatten
def aR.L0:Ls aR.L0.aY aR.L0.add aR.L0.F:=tq (λ(pn,size,t9,t10,t11)=>⟨([.d (.slice tB) pn,.undef,.undef,.d ti size]++bB 5 ([.d (.slice tB) t9,.d ti t10,.d ti t11]++bB 24 [])),[],(List.replicate 36 [])⟩) (λx=>(.exit 0,⟨([.d (.slice tB) x.1,.undef,.undef,.d ti x.2]++bB 32 []),[],(List.replicate 36 [])⟩))
def aR.L1:Ls aR.L1.aY bU aR.L1.F:=tq (λ(newsliceL,t25,t26,t27,n24)=>⟨(bB 6 ([.cD (.new 24 0) 0 [] 0 0 newsliceL]++bB 18 ([.d (.slice tB) t25,.d ti t26,.d ti t27]++bB 8 []))),[],(cR 24 ([[.obj 0 false (.vec 5 tb n24)]]++cR 11 []))⟩) (λx=>(.exit 2,⟨(bB 6 ([.cD (.new 24 0) 0 [] 0 0 x.1]++bB 29 [])),[],(cR 24 ([[.obj 0 false (.vec 5 tb x.2)]]++cR 11 []))⟩))
def aR:Fs Tryz.prog aR.aY bU aR.F:=gh 203 Tryz.f203 (λslices=>([.d (.slice tB) slices],[])) (λx=>⟨.d tB x,[],[]⟩) [some (.slice tB)] [jf.sg] {loops:=rH [(3,{bI:=[0,3,9,10,11]}),(11,{bI:=[6,25,26,27],sites:=[24],owns:=[⟨6,[],24,140⟩]})],outs:=rG [(3,{bI:=[0,3]},{bI:=[2]}),(11,{bI:=[6],sites:=[24]},{bI:=[2]})],jP:=sh [(3,aR.L0.E),(11,aR.L1.E)],res:=[some tB]}
theorem aR.L0.run:aR.L0.RS:=rL [.d (.slice tB),.d ti,.d (.slice tB),.d ti,.d ti] aR.L0
theorem aR.L0.step{R:Type}(pn size t9 t10 t11)(kn:K2 R)(kx:K3 R):aR.R 0 aR.L0 (pn,size,t9,t10,t11) kn kx=
  aK ((iI t11 t10)) (
   aK (fa t11 (t9.length:Int)) (
   aK ((iI (bN .i64 size (((List.length (nth tB t9 (Int.toNat t11))):Nat):Int)) 0)) (
    none) (
    kn (aR.L0.st (pn,(bN .i64 size (((List.length (nth tB t9 (Int.toNat t11))):Nat):Int)),t9,t10,(bN .i64 t11 1))))) none) (
   aR.L0.go kx (pn,size)):=by kernel_rfl
theorem aR.L1.run:aR.L1.RS:=rL [.n,.d (.slice tB),.d ti,.d ti,.d tB] aR.L1
theorem aR.L1.step{R:Type}(newsliceL t25 t26 t27 n24)(kn:K2 R)(kx:K3 R):aR.R 1 aR.L1 (newsliceL,t25,t26,t27,n24) kn kx=
  aK ((iI t27 t26)) (
   aK (fa t27 (t25.length:Int)) (
   aK (decide (newsliceL<=(List.length n24))) (
   aK (dT (newsliceL+(List.length (nth tB t25 (Int.toNat t27)))) 1) (
   kn (aR.L1.st ((newsliceL+(List.length (nth tB t25 (Int.toNat t27)))),t25,t26,(bN .i64 t27 1),((List.take newsliceL n24)++(nth tB t25 (Int.toNat t27)))))) none) none) none) (
   aR.L1.go kx (newsliceL,n24)):=by kernel_rfl
theorem aR.eq{R:Type}(slices)(k:K1 R):aR.A slices k=
 aA (aR.L0.call (slices,0,slices,(slices.length:Int),0)) λx1=>
 aA (jf.call x1.2) λx2=>
 aA (aR.L1.call (x2.1,x1.1,(x1.1.length:Int),0,x2.2)) λx3=>
 aK (decide (0=0/\(0+x3.1)<=(List.length x3.2))) (
 k (aR.out (cut x3.2 0 x3.1))) none:=by kernel_rfl
theorem GC(s:List (List Int))(k:Nat)(h:k < s.length):ma (s.drop k)=s[k].length+ma (s.drop (k+1)):=by
 unfold ma
 rw[aC h,fw,aq]
theorem aR.L0.ok:(aR.mO 0 aR.L0):=by
 refine(aR.oG 0 aR.L0) (λ(s,size,t,n,i)=>s.length - i.toNat) ?_
 rintro⟨s,size,t,n,i⟩ ⟨hs,rfl,rfl,k,z,hk,rfl,rfl,hz⟩
 have hs:t.length<=1000000:=hs
 have hk:k<=t.length:=hk
 have hz:z+ma (t.drop k)<=100000000:=hz
 by_cases h:k < t.length
 ·left
  have n1:nth (.slice (.int .u8)) t k=t[k]:=dM (t:= .slice (.int .u8)) h
  have hd:=GC t k h
  refine⟨(t,((z+t[k].length:Nat):Int),t,t.length,((k+1:Nat):Int)),⟨hs,rfl,rfl,k+1,z+t[k].length,by omega,rfl,rfl,by omega⟩,by simp only[aa];omega,?_,λkn kx=> ?_⟩
  ·simp only[aR.L0.add,aR.L0.F,aa]
   rw[hd]
   refine congrArg _ ?_
   omega
  ·rw[aR.L0.step]
   simp(disch:=omega) only[↓S1,↓if_pos,↓if_neg,if_pos,if_neg,if_true,if_false,S2,n1]
 ·right
  obtain rfl:k=t.length:=by omega
  intro R kn kx
  rw[aR.L0.step]
  simp(disch:=omega) only[↓S1,↓if_pos,↓if_neg,if_pos,if_neg,if_true,if_false,S2,aR.L0.add,aR.L0.F,bq]
  simp only[ma,iQ,ba,Int.natCast_zero,Int.add_zero]
theorem aR.L1.ok:(aR.mO 1 aR.L1):=by
 refine(aR.oG 1 aR.L1) (λ(n,s,t,i,l)=>s.length - i.toNat) ?_
 rintro⟨n,s,t,i,l⟩ ⟨hs,hn,rfl,k,hk,rfl,hz⟩
 have hs:s.length<=1000000:=hs
 have hn:n<=l.length:=hn
 have hk:k<=s.length:=hk
 have hz:n+ma (s.drop k)<=100000000:=hz
 by_cases h:k < s.length
 ·left
  have n1:nth (.slice (.int .u8)) s k=s[k]:=dM (t:= .slice (.int .u8)) h
  have hd:=GC s k h
  refine⟨(n+s[k].length,s,s.length,((k+1:Nat):Int),l.take n++s[k]),⟨hs,by rw[aq,cz];omega,rfl,k+1,by omega,rfl,by omega⟩,by simp only[aa];omega,?_,λkn kx=> ?_⟩
  ·simp only[bU,aR.L1.F,aa]
   rw[aC h,G6 _ _ _ _ hn]
  ·rw[aR.L1.step]
   simp(disch:=omega) only[↓S1,↓if_pos,↓if_neg,if_pos,if_neg,if_true,if_false,S2,n1]
 ·right
  obtain rfl:k=s.length:=by omega
  intro R kn kx
  rw[aR.L1.step]
  simp(disch:=omega) only[↓S1,↓if_pos,↓if_neg,if_pos,if_neg,if_true,if_false,S2,bU,aR.L1.F,bq]
  rfl
theorem aR.ok:aR.Ok:=by
 rintro s ⟨hs,hz⟩
 have hs:s.length<=1000000:=hs
 have hz:ma s<=100000000:=hz
 have p1:aR.L0.aY (s,0,s,s.length,0):=⟨hs,rfl,rfl,0,0,by omega,rfl,rfl,by rw[aJ];omega⟩
 have p2:aR.L1.aY (0,s,s.length,0,List.replicate (ma s) 0):=⟨hs,by omega,rfl,0,by omega,rfl,by rw[aJ];omega⟩
 rw[aR.eq,aR.L0.run p1]
 simp only[ah,aR.L0.add,aR.L0.F,cF,aJ,Int.zero_add]
 rw[jf.run (d:=((ma s:Nat):Int)) ⟨ma s,rfl,hz⟩]
 simp only[ah,bU,jf.F,aa]
 rw[aR.L1.run p2]
 simp only[ah,bU,aR.L1.F,cF,aJ]
 obtain⟨c1,c2⟩:=Kk 0 (List.replicate (ma s) 0) s
 simp only[aN,c1,and_self,decide_true,aj,c2]
 rfl
theorem aR.run:aR.RS:=rE [.d (.slice tB)] aR
def aR.sg:=aR.gC aR.ok 2 ⟨.js aR.L0.ok,⟨.js aR.L1.ok,trivial⟩⟩
abbrev fO.D:=Bs×Bs
abbrev fO.Y:=Bs
def fO.aY:fO.D->Prop:=λ(a,b)=>a.length+b.length<=100000000
def fO.F:fO.D->fO.Y:=λ(a,b)=>a++b
def fO:Fs Tryz.prog fO.aY bU fO.F:=gh 179 Tryz.f179 (λ(b,more)=>([.d tB b,.d tB more],[])) (λx=>⟨.d tB x,[],[]⟩) [some tB,some tB] [aR.sg]
theorem fO.eq{R:Type}(b more)(k:K1 R):fO.A (b,more) k=
 aA (aR.call [b,more]) λx1=>
 k (fO.out x1):=by kernel_rfl
theorem fO.ok:fO.Ok:=by
 rintro⟨a,b⟩ h
 have h:a.length+b.length<=100000000:=h
 rw[fO.eq,aR.run (d:=[a,b]) ⟨by show [a,b].length<=_;simp,by show ma [a,b]<=_;simp only[ma,fw,iQ,cH,aq];omega⟩]
 simp only[ah,bU,aR.F,bU,fO.F,fw,iQ,cH]
theorem fO.run:fO.RS:=rE [.d tB,.d tB] fO
def fO.sg:=fO.gC fO.ok
def kD:Nat->Int->List Int×Int
 | 0,n=>([],n)
 |f+1,n=>if 128<=n then((n%128+128)::(kD f (n / 128)).1,(kD f (n / 128)).2) else([],n)
def zu(n:Int):List Int:=(kD 10 n).1++ [(kD 10 n).2]
theorem Bj:∀(f g:Nat) (n:Int),n < 128^(f+1)->n < 128^(g+1)->kD f n=kD g n
 | 0,0,n,_,_=>rfl
 | 0,g+1,n,h,_=>by
  have h:n < 128:=h
  rw[kD,kD,if_neg (by omega)]
 |f+1,0,n,_,h=>by
  have h:n < 128:=h
  rw[kD,kD,if_neg (by omega)]
 |f+1,g+1,n,h,h'=>by
  rw[kD,kD]
  split
  ·have e:(128:Int)^(f+1+1)=128^(f+1)*128:=Int.pow_succ 128 (f+1)
   have e':(128:Int)^(g+1+1)=128^(g+1)*128:=Int.pow_succ 128 (g+1)
   rw[Bj f g (n / 128) (by omega) (by omega)]
  ·rfl
theorem zt:∀(f:Nat) (n:Int),(kD f n).1.length<=f
 | 0,_=>ax _
 |f+1,n=>by
  rw[kD]
  split
  ·have:=zt f (n / 128)
   simp only[aD];omega
  ·exact bh _
theorem Bi:∀(f:Nat) (n:Int),0<=n->n < 128^(f+1)->0<=(kD f n).2/\(kD f n).2 < 128
 | 0,n,h,h'=>by have h':n < 128:=h';exact⟨h,h'⟩
 |f+1,n,h,h'=>by
  rw[kD]
  have e:(128:Int)^(f+1+1)=128^(f+1)*128:=Int.pow_succ 128 (f+1)
  split
  ·exact Bi f (n / 128) (by omega) (by omega)
  ·exact⟨h,by omega⟩
theorem HS{n:Int}(h:128<=n)(h2:n<=9223372036854775807):kD 10 n=((n%128+128)::(kD 10 (n / 128)).1,(kD 10 (n / 128)).2):=by
 have e:(128:Int)^(9+1)=1180591620717411303424:=rfl
 have e2:(128:Int)^(10+1)=151115727451828646838272:=rfl
 rw[kD,if_pos h,Bj 9 10 (n / 128) (by rw[e];omega) (by rw[e2];omega)]
theorem vy(n:Int):(zu n).length<=11:=by
 have:=zt 10 n
 unfold zu
 simp only[aq,aD,ba];omega
def ED(n:Int):Prop:=0<=n/\n<=9223372036854775807
abbrev fj.L0.D:=Int×Nat×(List Int)
abbrev fj.L0.Y:=Int×Nat×(List Int)
abbrev fj.D:=Int
abbrev fj.Y:=Bs
def fj.L0.aY:fj.L0.D->Prop:=λ(n,m,l)=>ED n/\m=l.length/\l.length<=1000+0*n.toNat/\l.length+(kD 10 n).1.length<=100
def fj.L0.F:fj.L0.D->fj.L0.Y:=λ(n,m,l)=>((kD 10 n).2,(l++(kD 10 n).1).length,l++(kD 10 n).1)
def fj.aY:fj.D->Prop:=λn=>ED n
def fj.F:fj.D->fj.Y:=λn=>zu n
def fj.L0:Ls fj.L0.aY bU fj.L0.F:=tq (λ(Fz,outL,n14)=>⟨([.d ti Fz,.undef,.undef,.cD (.new 14 0) 0 [] 0 0 outL]++bB 16 []),[],(cR 14 ([[.obj 0 false (.vec 5 tb n14)]]++cR 5 []))⟩) (λx=>(.exit 0,⟨([.d ti x.1,.undef,.undef,.cD (.new 14 0) 0 [] 0 0 x.2.1]++bB 16 []),[],(cR 14 ([[.obj 0 false (.vec 5 tb x.2.2)]]++cR 5 []))⟩))
def fj:Fs Tryz.prog fj.aY bU fj.F:=gh 180 Tryz.f180 (λn=>([.d ti n],[])) (λx=>⟨.d tB x,[],[]⟩) [some ti] [] {loops:=rH [(2,{bI:=[0,3],sites:=[14],owns:=[⟨3,[],14,140⟩]})],outs:=rG [(2,{bI:=[0,3],sites:=[14]},{bI:=[2]})],jP:=sh [(2,fj.L0.E)],res:=[some tB]}
theorem fj.L0.run:fj.L0.RS:=rL [.d ti,.n,.d tB] fj.L0
theorem fj.L0.step{R:Type}(Fz outL n14)(kn:K2 R)(kx:K3 R):fj.R 0 fj.L0 (Fz,outL,n14) kn kx=
  aK ((qP Fz 128)) (
   aK (decide (outL<=(List.length n14))) (
   aK (dT (outL+1) 1) (
   kn (fj.L0.st ((qb .i64 Fz 128),(outL+1),((List.take outL n14)++ [(dP .u8 (bN .i64 (ov Fz 128) 128))])))) none) none) (
   fj.L0.go kx (Fz,outL,n14)):=by kernel_rfl
theorem fj.eq{R:Type}(n)(k:K1 R):fj.A n k=
 aA (fj.L0.call (n,0,([]:List Int))) λx1=>
 aK (decide (x1.2.1<=(List.length x1.2.2))) (
 aK (dT (x1.2.1+1) 1) (
 aK (decide (0=0/\(0+(x1.2.1+1))<=(List.length ((List.take x1.2.1 x1.2.2)++ [(dP .u8 x1.1)])))) (
 k (fj.out (cut ((List.take x1.2.1 x1.2.2)++ [(dP .u8 x1.1)]) 0 (x1.2.1+1)))) none) none) none:=by kernel_rfl
theorem II{n:Int}(h:ED n):dP .u8 (bN .i64 (ov n 128) 128)=n%128+128:=by
 have h1:=h.1
 rw[sN h.1,eH (by omega) (by omega),BW,jH]
 omega
theorem fj.L0.ok:(fj.mO 0 fj.L0):=by
 refine(fj.oG 0 fj.L0) (λ(n,m,l)=>n.toNat) ?_
 rintro⟨n,m,l⟩ ⟨hn,rfl,hl,hz⟩
 have hn:ED n:=hn
 have hz:l.length+(kD 10 n).1.length<=100:=hz
 have h1:=hn.1
 have h2:=hn.2
 by_cases h:128<=n
 ·left
  have e:=HS h h2
  have hq:qb .i64 n 128=n / 128:=by
   rw[qb,gP h1]
   exact o8 (by omega) (by omega)
  have el:((n%128+128)::(kD 10 (n / 128)).1).length=(kD 10 (n / 128)).1.length+1:=aD
  rw[e]at hz
  have hz:l.length+((n%128+128)::(kD 10 (n / 128)).1).length<=100:=hz
  rw[el]at hz
  refine⟨(n / 128,l.length+1,l++ [n%128+128]),⟨⟨by omega,by omega⟩,by rw[aq];rfl,by rw[aq];simp only[aD,ba];omega,by rw[aq];simp only[aD,ba];omega⟩,by simp only[];omega,?_,λkn kx=> ?_⟩
  ·simp only[bU,fj.L0.F,e,bg,ke,aS]
  ·rw[fj.L0.step,fW h,II hn,hq]
   simp(disch:=omega) only[↓S1,↓if_pos,↓if_neg,if_pos,if_neg,if_true,if_false,S2,ax,cY]
 ·right
  have e:kD 10 n=([],n):=by rw[kD,if_neg h]
  intro R kn kx
  rw[fj.L0.step,eu h]
  simp only[au,bU,fj.L0.F,e,cH]
theorem fj.ok:fj.Ok:=by
 intro n hn
 have hn:ED n:=hn
 have hl:=zt 10 n
 have e2:(128:Int)^(10+1)=151115727451828646838272:=rfl
 have hd:=Bi 10 n hn.1 (by have:=hn.2;rw[e2];omega)
 have p:fj.L0.aY (n,0,[]):=⟨hn,rfl,by simp,by simp only[ba];omega⟩
 have hi:dP .u8 (kD 10 n).2=(kD 10 n).2:=by rw[BW,jH];omega
 rw[fj.eq,fj.L0.run p]
 simp only[ah,bU,fj.L0.F,aS,hi,cY,ax,decide_true,aj]
 rw[fL (by omega) (by omega)]
 simp only[aj,aN,aq,aD,ba,ax,and_self,decide_true]
 rw[iq (by rw[aq];rfl)]
 rfl
theorem fj.run:fj.RS:=rE [.d ti] fj
def fj.sg:=fj.gC fj.ok 1 ⟨.js fj.L0.ok,trivial⟩
def fm(b:List Int)(n:Int):List Int:=if n < 0 then b else b++zu n
theorem gl(b:List Int)(n:Int):(fm b n).length<=b.length+11:=by
 unfold fm
 have:=vy n
 split
 ·omega
 ·rw[aq];omega
abbrev gg.D:=Bs×Int
abbrev gg.Y:=Bs
def gg.aY:gg.D->Prop:=λ(b,n)=>b.length<=90000000/\n<=9223372036854775807
def gg.F:gg.D->gg.Y:=λ(b,n)=>fm b n
def gg:Fs Tryz.prog gg.aY bU gg.F:=gh 123 Tryz.f123 (λ(b,n)=>([.d tB b,.d ti n],[])) (λx=>⟨.d tB x,[],[]⟩) [some tB,some ti] [fO.sg,fj.sg]
theorem gg.eq{R:Type}(b n)(k:K1 R):gg.A (b,n) k=
  aK ((iI n 0)) (
   aA (fO.call (b,([]:List Int))) λx1=>
   k (gg.out x1)) (
   aA (fj.call n) λx2=>
   aA (fO.call (b,x2)) λx3=>
   k (gg.out x3)):=by kernel_rfl
theorem gg.ok:gg.Ok:=by
 rintro⟨b,n⟩ ⟨hb,hn⟩
 have hb:b.length<=90000000:=hb
 have hn:n<=9223372036854775807:=hn
 rw[gg.eq]
 simp only[bU,gg.F,fm]
 by_cases h:n < 0
 ·rw[bA h,if_pos h,aj,fO.run (d:=(b,[])) (by show b.length+([]:List Int).length<=_;simp only[ba];omega)]
  simp only[ah,bU,fO.F,cH]
 ·have hl:=vy n
  rw[bl h,if_neg h,au,fj.run (d:=n) ⟨by omega,hn⟩]
  simp only[ah,bU,fj.F]
  rw[fO.run (d:=(b,zu n)) (by show b.length+(zu n).length<=_;omega)]
  rfl
theorem gg.run:gg.RS:=rE [.d tB,.d ti] gg
def gg.sg:=gg.gC gg.ok
abbrev iU.D:=Bs×Int
abbrev iU.Y:=Bs
def iU.aY:iU.D->Prop:=λ(b,n)=>b.length<=90000000
def iU.F:iU.D->iU.Y:=λ(b,n)=>b++pU n
def iU:Fs Tryz.prog iU.aY bU iU.F:=gh 191 Tryz.f191 (λ(b,n)=>([.d tB b,.d tu n],[])) (λx=>⟨.d tB x,[],[]⟩) [some tB,some tu] [fO.sg] {loops:=rH [(3,{bI:=[0,1,5,7],sites:=[5,21]})],outs:=rG [(3,{bI:=[0,5],sites:=[5,21]},{bI:=[4],sites:=[5,21]})]} 12
theorem iU.eq{R:Type}(b n)(k:K1 R):iU.A (b,n) k=
 aA (fO.call (b,[(dP .u8 (cg .u64 n 56)),(dP .u8 (cg .u64 n 48)),(dP .u8 (cg .u64 n 40)),(dP .u8 (cg .u64 n 32)),(dP .u8 (cg .u64 n 24)),(dP .u8 (cg .u64 n 16)),(dP .u8 (cg .u64 n 8)),(dP .u8 (cg .u64 n 0))])) λx1=>
 k (iU.out x1):=by kernel_rfl
theorem iU.ok:iU.Ok:=by
 rintro⟨b,n⟩ hb
 have hb:b.length<=90000000:=hb
 have p:fO.aY (b,pU n):=by show b.length+(pU n).length<=_;rw[dB];omega
 have e:fO.call (b,[dP .u8 (cg .u64 n 56),dP .u8 (cg .u64 n 48),dP .u8 (cg .u64 n 40),dP .u8 (cg .u64 n 32),dP .u8 (cg .u64 n 24),dP .u8 (cg .u64 n 16),dP .u8 (cg .u64 n 8),dP .u8 (cg .u64 n 0)])=some (b++pU n):=by
  rw[CK];exact fO.run p
 rw[iU.eq]
 refine Eq.trans (congrArg (λx=>aA x _) e) ?_
 rfl
theorem iU.run:iU.RS:=rE [.d tB,.d tu] iU
def iU.sg:=iU.gC iU.ok 1 ⟨.none (by kernel_rfl),trivial⟩
def rC(w:EJ):Bool:=decide (0<=w.1/\w.1 < 4) && decide (w.2.1.length<=12)
def yO(x:jd):Bool:=decide (0<=x.1.2.1/\x.1.2.1 < 64) && rC x.2.1
def w5(m:List (iK×Bool))(x:jd):Bool:=(dD fA x.1 m).getD false
def td:List (iK×Bool)->List jd->Bool
 |_,[]=>true
 |m,x::l=>(!(w5 m x) && yO x) && td (gX fA x.1 true m) l
def lZ(a:Int):Bool:=decide (0<=a/\a<=1125899906842624)
def pJ(a b:Int):Bool:=lZ a && (lZ b && decide (a+b<=1125899906842624))
def qX:Int->List mw->Bool
 |_,[]=>true
 |s,o::l=>(pJ s o.1 && pH o.2.1) && qX (s+o.1) l
def zN(t:jI):Bool:=decide (1<=t.1.length/\t.1.length<=64/\t.2.1.length<=64/\0<=t.2.2.1)
def kU(t:jI):Bool:=zN t && (td [] t.1 && qX 0 t.2.1)
def J1(l:Lk):Prop:=Li l/\l.1.length<=9223372036854775807
def R0(t:jI):Prop:=(∀o∈t.2.1,J1 o.2.1)/\t.1.length<=9223372036854775807/\t.2.1.length<=9223372036854775807
abbrev kT.D:=EJ
abbrev kT.Y:=Bool
def kT.aY:kT.D->Prop:=λ_=>True
def kT.F:kT.D->kT.Y:=λw=>rC w
def kT:Fs Tryz.prog kT.aY bU kT.F:=gh 67 Tryz.f67 (λwv=>([.d PH wv],[])) (λx=>⟨.d .bool x,[],[]⟩) [some PH]
theorem kT.eq{R:Type}(wv)(k:K1 R):kT.A wv k=
  aK ((qP wv.1 0)) (
   aK ((iI wv.1 4)) (
    k (kT.out (Ct (wv.2.1.length:Int) 12))) (
    k (kT.out false))) (
   k (kT.out false)):=by kernel_rfl
theorem kT.ok:kT.Ok:=by
 rintro⟨b,ss,sc,u⟩ _
 rw[kT.eq]
 simp only[bU,kT.F,rC]
 by_cases h:0<=b
 ·rw[fW h,aj]
  by_cases h2:b < 4
  ·rw[bA h2,aj,aX ⟨h,h2⟩]
   by_cases h3:ss.length<=12
   ·rw[kO (by omega),aX h3];rfl
   ·rw[iW (by omega),cn h3];rfl
  ·rw[bl h2,au,cn (λx=>h2 x.2)];rfl
 ·rw[eu h,au,cn (λx=>h x.1)];rfl
theorem kT.run:kT.RS:=rE [.d PH] kT
def kT.sg:=kT.gC kT.ok
abbrev eQ.D:=Int
abbrev eQ.Y:=Bool
def eQ.aY:eQ.D->Prop:=λ_=>True
def eQ.F:eQ.D->eQ.Y:=λa=>lZ a
def eQ:Fs Tryz.prog eQ.aY bU eQ.F:=gh 194 Tryz.f194 (λa=>([.d ti a],[])) (λx=>⟨.d .bool x,[],[]⟩) [some ti]
theorem eQ.eq{R:Type}(a)(k:K1 R):eQ.A a k=
  aK ((qP a 0)) (
   k (eQ.out (Ct a 1125899906842624))) (
   k (eQ.out false)):=by kernel_rfl
theorem eQ.ok:eQ.Ok:=by
 intro(a:Int) _
 rw[eQ.eq]
 simp only[bU,eQ.F,lZ]
 by_cases h:0<=a
 ·rw[fW h,aj]
  by_cases h2:a<=1125899906842624
  ·rw[kO h2,aX ⟨h,h2⟩]
  ·rw[iW h2,cn (λx=>h2 x.2)]
 ·rw[eu h,au,cn (λx=>h x.1)]
theorem eQ.run:eQ.RS:=rE [.d ti] eQ
def eQ.sg:=eQ.gC eQ.ok
abbrev jD.D:=Int×Int
abbrev jD.Y:=Int×Bool
def jD.aY:jD.D->Prop:=λ_=>True
def jD.F:jD.D->jD.Y:=λ(a,b)=>(bif pJ a b then a+b else 0,pJ a b)
def jD:Fs Tryz.prog jD.aY bU jD.F:=gh 132 Tryz.f132 (λ(a,b)=>([.d ti a,.d ti b],[])) (λx=>⟨.cons (.d ti x.1) (.cons (.d .bool x.2) (.nil)),[],[]⟩) [some ti,some ti] [eQ.sg]
theorem jD.eq{R:Type}(a b)(k:K1 R):jD.A (a,b) k=
  aA (eQ.call a) λx1=>
  aK ((!x1)) (
   k (jD.out (0,false))) (
   aA (eQ.call b) λx2=>
   aK ((!x2)) (
    k (jD.out (0,false))) (
    aK ((ot a (dn .i64 1125899906842624 b))) (
     k (jD.out (0,false))) (
     k (jD.out ((bN .i64 a b),true))))):=by kernel_rfl
theorem jD.ok:jD.Ok:=by
 rintro⟨a,b⟩ _
 rw[jD.eq,eQ.run (d:=a) trivial,eQ.run (d:=b) trivial]
 simp only[ah,bU,eQ.F,bU,jD.F,pJ]
 cases ha:lZ a
 ·rfl
 ·cases hb:lZ b
  ·rfl
  ·simp only[lZ,decide_eq_true_eq]at ha hb
   simp only[b8,au,bX]
   rw[dS (by omega) (by omega)]
   by_cases h:a+b<=1125899906842624
   ·rw[cZ (by omega),au,aX h,eH (by omega) (by omega)];rfl
   ·rw[dv (by omega),aj,cn h];rfl
theorem jD.run:jD.RS:=rE [.d ti,.d ti] jD
def jD.sg:=jD.gC jD.ok
abbrev az.L0.D:=jI×(List jd)×Int×Int×(List (iK×Bool))
def az.L0.st:az.L0.D->AS:=λ(vP,t33,t34,t35,n31)=>⟨([.undef,.eO oO vP,.undef,.lF (.new 31 0) 0]++bB 29 ([.d (.slice ka) t33,.d ti t34,.d ti t35]++bB 52 [])),[],(cR 31 ([[.obj 0 false (.mp fA .bool n31)]]++cR 56 []))⟩
abbrev az.L0.Y0:=Unit
abbrev az.L0.X0:=Unit
def az.L0.dm:az.L0.X0->Exit×AS:=λx=>(.ret,⟨([.undef,.undef,.d .bool false]++bB 85 []),[],(List.replicate 88 [])⟩)
abbrev az.L0.Y1:=Unit
abbrev az.L0.X1:=jI
def az.L0.gL:az.L0.X1->Exit×AS:=λx=>(.exit 0,⟨([.undef,.eO oO x]++bB 86 []),[],(List.replicate 88 [])⟩)
abbrev az.L0.X:=(az.L0.X0)⊕(az.L0.X1)
abbrev az.L0.Y:=(az.L0.Y0)⊕(az.L0.Y1)
def az.L0.out:az.L0.X->Out (Exit×AS):=λx=> .br x.isLeft (.get x.getLeft? λa=> .ok (az.L0.dm a)) (.get x.getRight? λb=> .ok (az.L0.gL b))
def az.L0.add:az.L0.D->az.L0.Y->az.L0.X:=λ(vP,t33,t34,t35,n31) y=>match y with | .inl y=> .inl y | .inr z=> .inr (vP)
abbrev az.L1.D:=Int×(List mw)×Int×Int
def az.L1.st:az.L1.D->AS:=λ(sum,t66,t67,t68)=>⟨(bB 6 ([.d ti sum]++bB 59 ([.d (.slice mu) t66,.d ti t67,.d ti t68]++bB 19 []))),[],(List.replicate 88 [])⟩
abbrev az.L1.Y0:=Unit
abbrev az.L1.X0:=Unit
def az.L1.dm:az.L1.X0->Exit×AS:=λx=>(.ret,⟨([.undef,.undef,.d .bool false]++bB 85 []),[],(List.replicate 88 [])⟩)
abbrev az.L1.Y1:=Unit
abbrev az.L1.X1:=Unit
def az.L1.gL:az.L1.X1->Exit×AS:=λx=>(.exit 2,⟨(bB 88 []),[],(List.replicate 88 [])⟩)
abbrev az.L1.X:=(az.L1.X0)⊕(az.L1.X1)
abbrev az.L1.Y:=(az.L1.Y0)⊕(az.L1.Y1)
def az.L1.out:az.L1.X->Out (Exit×AS):=λx=> .br x.isLeft (.get x.getLeft? λa=> .ok (az.L1.dm a)) (.get x.getRight? λb=> .ok (az.L1.gL b))
def az.L1.add:az.L1.D->az.L1.Y->az.L1.X:=λ(sum,t66,t67,t68) y=>match y with | .inl y=> .inl y | .inr z=> .inr (z)
abbrev az.D:=jI
abbrev az.Y:=Bool
def az.L0.aY:az.L0.D->Prop:=λ(t,l,n,i,m)=>l.length<=9223372036854775807/\n=l.length/\∃k:Nat,k<=l.length/\i=k
def az.L0.F:az.L0.D->az.L0.Y:=λ(t,l,n,i,m)=>if td m (l.drop i.toNat) then .inr () else .inl ()
def az.L1.aY:az.L1.D->Prop:=λ(s,l,n,i)=>(∀o∈l,J1 o.2.1)/\l.length<=9223372036854775807/\n=l.length/\∃k:Nat,k<=l.length/\i=k
def az.L1.F:az.L1.D->az.L1.Y:=λ(s,l,n,i)=>if qX s (l.drop i.toNat) then .inr () else .inl ()
def az.aY:az.D->Prop:=λt=>R0 t
def az.F:az.D->az.Y:=λt=>kU t
def az.L0.E:=eE.js az.L0.st az.L0.aY az.L0.add az.L0.F az.L0.out
def az.L0.call:az.L0.D->Option az.L0.X:=kJ az.L0.E az.L0.st
def az.L1.E:=eE.js az.L1.st az.L1.aY az.L1.add az.L1.F az.L1.out
def az.L1.call:az.L1.D->Option az.L1.X:=kJ az.L1.E az.L1.st
def az:Fs Tryz.prog az.aY bU az.F:=gh 66 Tryz.f66 (λt=>([.d oO t],[])) (λx=>⟨.d .bool x,[],[]⟩) [some oO] [kT.sg,jD.sg,aM.sg] {loops:=rH [(5,{bI:=[1,3,33,34,35],sites:=[31]}),(13,{bI:=[6,66,67,68]})],outs:=rG [(5,{bI:=[1]},{bI:=[2]}),(13,{},{bI:=[2]})],jP:=sh [(5,az.L0.E),(13,az.L1.E)]}
def az.L0.R:= @iA Tryz.prog (mR az.G) az.an 0 Tryz.f66 0 _ az.L0.st
abbrev az.L0.Ok:=pE Tryz.prog (mR az.G) az.an 0 Tryz.f66 0 az.L0.st az.L0.aY az.L0.add az.L0.F az.L0.out
def az.L1.R:= @iA Tryz.prog (mR az.G) az.an 0 Tryz.f66 1 _ az.L1.st
abbrev az.L1.Ok:=pE Tryz.prog (mR az.G) az.an 0 Tryz.f66 1 az.L1.st az.L1.aY az.L1.add az.L1.F az.L1.out
theorem az.L0.run:nI az.L0.call az.L0.aY az.L0.add az.L0.F:=qz (qa [.d oO,.d (.slice ka),.d ti,.d ti,.d (.slice (.pair fA .bool))] λ_=>by kernel_rfl)
theorem az.L0.c8:qk @az.L0.R az.L0.st az.L0.aY az.L0.add az.L0.F az.L0.out az.L0.Ok:=qI
theorem az.L0.step{R:Type}(vP:jI)(t33:(List jd))(t34:Int)(t35:Int)(n31:(List (iK×Bool)))(kn:AS->Option R)(kx:Exit->AS->Option R):az.L0.R (vP,t33,t34,t35,n31) kn kx=
  aK ((iI t35 t34)) (
   aK (fa t35 (((List.length t33):Nat):Int)) (
   aK (((dD fA (nth ka t33 (Int.toNat t35)).1 n31).getD false)) (
    kx (az.L0.dm ()).1 (az.L0.dm ()).2) (
    aK ((iI (nth ka t33 (Int.toNat t35)).1.2.1 (0:Int))) (
     kx (az.L0.dm ()).1 (az.L0.dm ()).2) (
     aK ((qP (nth ka t33 (Int.toNat t35)).1.2.1 (64:Int))) (
      kx (az.L0.dm ()).1 (az.L0.dm ()).2) (
      aA (kT.call (nth ka t33 (Int.toNat t35)).2.1) λx8=>
      aK ((!x8)) (
       kx (az.L0.dm ()).1 (az.L0.dm ()).2) (
       kn (az.L0.st (vP,t33,t34,(bN .i64 t35 (1:Int)),(gX fA (nth ka t33 (Int.toNat t35)).1 true n31)))))))) none) (
   kx (az.L0.gL vP).1 (az.L0.gL vP).2):=by kernel_rfl
theorem az.L1.run:nI az.L1.call az.L1.aY az.L1.add az.L1.F:=qz (qa [.d ti,.d (.slice mu),.d ti,.d ti] λ_=>by kernel_rfl)
theorem az.L1.c8:qk @az.L1.R az.L1.st az.L1.aY az.L1.add az.L1.F az.L1.out az.L1.Ok:=qI
theorem az.L1.step{R:Type}(sum:Int)(t66:(List mw))(t67:Int)(t68:Int)(kn:AS->Option R)(kx:Exit->AS->Option R):az.L1.R (sum,t66,t67,t68) kn kx=
  aK ((iI t68 t67)) (
   aK (fa t68 (((List.length t66):Nat):Int)) (
   aA (jD.call (sum,(nth mu t66 (Int.toNat t68)).1)) λIp=>
   aK ((!Ip.2)) (
    kx (az.L1.dm ()).1 (az.L1.dm ()).2) (
    aA (aM.call (nth mu t66 (Int.toNat t68)).2.1) λF3=>
    aK ((!F3)) (
     kx (az.L1.dm ()).1 (az.L1.dm ()).2) (
     kn (az.L1.st (Ip.1,t66,t67,(bN .i64 t68 (1:Int))))))) none) (
   kx (az.L1.gL ()).1 (az.L1.gL ()).2):=by kernel_rfl
theorem az.eq{R:Type}(t)(k:K1 R):az.A t k=
  aK ((iI (t.1.length:Int) 1)) (
   k (az.out false)) (
   aK ((ot (t.1.length:Int) 64)) (
    k (az.out false)) (
    aK ((ot (t.2.1.length:Int) 64)) (
     k (az.out false)) (
     aK ((iI t.2.2.1 0)) (
      k (az.out false)) (
      aA (az.L0.call (t,t.1,(t.1.length:Int),0,([]:List (iK×Bool)))) λF3=>
      aK (F3.isLeft) (
       aA (F3.getLeft?) λa13=>
       k (az.out false)) (
       aA (F3.getRight?) λb14=>
       aA (az.L1.call (0,b14.2.1,(b14.2.1.length:Int),0)) λBw=>
       aK (Bw.isLeft) (
        aA (Bw.getLeft?) λa31=>
        k (az.out false)) (
        aA (Bw.getRight?) λb32=>
        k (az.out true))))))):=by kernel_rfl
theorem az.L0.ok:az.L0.Ok:=by
 refine az.L0.c8 (λ(t,l,n,i,m)=>l.length - i.toNat) ?_
 rintro⟨t,l,n,i,m⟩ ⟨hb,rfl,k,hk,rfl⟩
 have hb:l.length<=9223372036854775807:=hb
 have hk:k<=l.length:=hk
 by_cases h:k < l.length
 ·have n1:nth ka l k=l[k]:=dM (t:=ka) h
  have hd:td m (l.drop k)=((!(w5 m l[k]) && yO l[k]) && td (gX fA l[k].1 true m) (l.drop (k+1))):=by rw[aC h];rfl
  have step:∀ {R:Type} (kn:AS->Option R) (kx:Exit->AS->Option R),az.L0.R (t,l,(l.length:Int),(k:Int),m) kn kx=aK (!(w5 m l[k]) && yO l[k]) (kn (az.L0.st (t,l,(l.length:Int),((k+1:Nat):Int),gX fA l[k].1 true m))) (kx (az.L0.dm ()).1 (az.L0.dm ()).2):=by
   intro R kn kx
   rw[az.L0.step,bA (by omega),bJ (by omega) (by omega),aa,n1,N.rD (by omega),kT.run (d:=l[k].2.1) trivial]
   simp only[aj,ah,bU,kT.F]
   have e:(dD fA l[k].1 m).getD false=w5 m l[k]:=rfl
   rw[e]
   cases w5 m l[k]
   ·simp only[dr,bX,au,yO]
    by_cases h1:l[k].1.2.1 < 0
    ·rw[bA h1,aj,cn (λx=>by omega)];rfl
    ·rw[bl h1,au]
     by_cases h2:64<=l[k].1.2.1
     ·rw[fW h2,aj,cn (λx=>by omega)];rfl
     ·rw[eu h2,au,aX ⟨by omega,by omega⟩]
      cases rC l[k].2.1 <;> rfl
   ·rfl
  cases hp:(!(w5 m l[k]) && yO l[k])
  ·right
   refine⟨az.L0.dm (),?_,λkn kx=> ?_⟩
   ·simp only[az.L0.add,az.L0.F,aa,hd,hp,dQ,bK,if_false]
    rfl
   ·rw[step,hp,au]
  ·left
   refine⟨(t,l,l.length,((k+1:Nat):Int),gX fA l[k].1 true m),⟨hb,rfl,k+1,by omega,rfl⟩,by simp only[aa];omega,?_,λkn kx=> ?_⟩
   ·simp only[az.L0.add,az.L0.F,aa,hd,hp,bX]
   ·rw[step,hp,aj]
 ·right
  obtain rfl:k=l.length:=by omega
  refine⟨az.L0.gL t,?_,λkn kx=> ?_⟩
  ·simp only[az.L0.add,az.L0.F,aa,bq]
   rfl
  ·rw[az.L0.step]
   simp(disch:=omega) only[↓S1,↓if_pos,↓if_neg,if_pos,if_neg,if_true,if_false,S2]
theorem az.L1.ok:az.L1.Ok:=by
 refine az.L1.c8 (λ(s,l,n,i)=>l.length - i.toNat) ?_
 rintro⟨s,l,n,i⟩ ⟨hl,hb,rfl,k,hk,rfl⟩
 have hb:l.length<=9223372036854775807:=hb
 have hk:k<=l.length:=hk
 by_cases h:k < l.length
 ·have hx:J1 l[k].2.1:=hl _ (b5 h)
  have n1:nth mu l k=l[k]:=dM (t:=mu) h
  have hd:qX s (l.drop k)=((pJ s l[k].1 && pH l[k].2.1) && qX (s+l[k].1) (l.drop (k+1))):=by rw[aC h];rfl
  have step:∀ {R:Type} (kn:AS->Option R) (kx:Exit->AS->Option R),az.L1.R (s,l,(l.length:Int),(k:Int)) kn kx=aK (pJ s l[k].1 && pH l[k].2.1) (kn (az.L1.st (s+l[k].1,l,(l.length:Int),((k+1:Nat):Int)))) (kx (az.L1.dm ()).1 (az.L1.dm ()).2):=by
   intro R kn kx
   rw[az.L1.step,bA (by omega),bJ (by omega) (by omega),aa,n1,N.rD (by omega),jD.run (d:=(s,l[k].1)) trivial,aM.run (d:=l[k].2.1) hx]
   simp only[aj,ah,bU,jD.F,bU,aM.F]
   cases pJ s l[k].1
   ·rfl
   ·cases pH l[k].2.1 <;> rfl
  cases hp:(pJ s l[k].1 && pH l[k].2.1)
  ·right
   refine⟨az.L1.dm (),?_,λkn kx=> ?_⟩
   ·simp only[az.L1.add,az.L1.F,aa,hd,hp,dQ,bK,if_false]
    rfl
   ·rw[step,hp,au]
  ·left
   refine⟨(s+l[k].1,l,l.length,((k+1:Nat):Int)),⟨hl,hb,rfl,k+1,by omega,rfl⟩,by simp only[aa];omega,?_,λkn kx=> ?_⟩
   ·simp only[az.L1.add,az.L1.F,aa,hd,hp,bX]
   ·rw[step,hp,aj]
 ·right
  obtain rfl:k=l.length:=by omega
  refine⟨az.L1.gL (),?_,λkn kx=> ?_⟩
  ·simp only[az.L1.add,az.L1.F,aa,bq]
   rfl
  ·rw[az.L1.step]
   simp(disch:=omega) only[↓S1,↓if_pos,↓if_neg,if_pos,if_neg,if_true,if_false,S2]
theorem az.ok:az.Ok:=by
 rintro⟨is,os,nt,u⟩ ⟨hl,h1,h2⟩
 have h1:is.length<=9223372036854775807:=h1
 have h2:os.length<=9223372036854775807:=h2
 rw[az.eq,az.L0.run (d:=((is,os,nt,u),is,is.length,0,[])) ⟨h1,rfl,0,by omega,rfl⟩]
 simp only[ah,az.L0.add,az.L0.F,cF,aJ,bU,az.F,kU,zN]
 by_cases a1:is.length < 1
 ·rw[bA (by omega),aj,cn (λx=>by omega)];rfl
 rw[bl (by omega),au]
 by_cases a2:64 < is.length
 ·rw[dv (by omega),aj,cn (λx=>by omega)];rfl
 rw[cZ (by omega),au]
 by_cases a3:64 < os.length
 ·rw[dv (by omega),aj,cn (λx=>by omega)];rfl
 rw[cZ (by omega),au]
 by_cases a4:nt < 0
 ·rw[bA (by omega),aj,cn (λx=>by omega)];rfl
 rw[bl (by omega),au,aX ⟨by omega,by omega,by omega,by omega⟩]
 cases td [] is
 ·rfl
 ·simp only[if_true,bX]
  show aA (az.L1.call (0,os,(os.length:Int),0)) _=_
  rw[az.L1.run (d:=(0,os,os.length,0)) ⟨hl,h2,rfl,0,by omega,rfl⟩]
  simp only[ah,az.L1.add,az.L1.F,cF,aJ]
  cases qX 0 os <;> rfl
theorem az.run:az.RS:=rE [.d oO] az
def az.sg:=az.gC az.ok 2 ⟨.js az.L0.ok,⟨.js az.L1.ok,trivial⟩⟩
abbrev eI.D:=Bs
abbrev eI.Y:=Bs
def eI.aY:eI.D->Prop:=λl=>l.length<=1000000
def eI.F:eI.D->eI.Y:=λl=>l
def eI:Fs Tryz.prog eI.aY bU eI.F:=gh 142 Tryz.f142 (λsv=>([.d tU sv],[])) (λx=>⟨.d tU x,[],[]⟩) [some tU] [] {bo:=[5],res:=[some tU]}
theorem eI.eq{R:Type}(sv)(k:K1 R):eI.A sv k=
  aK (decide (0 < (List.length sv))) (
   aK (dT (0+(List.length sv)) 8) (
   aK (decide (0=0/\(0+(0+(List.length sv)))<=(List.length ((List.take 0 (List.replicate 0 0))++sv)))) (
   k (eI.out (cut ((List.take 0 (List.replicate 0 0))++sv) 0 (0+(List.length sv))))) none) none) (
   nd (
    k (eI.out ([]:List Int))) (
    aK (dT (0+(List.length sv)) 8) (
    aK (decide (0=0/\(0+(0+(List.length sv)))<=(List.length ((List.take 0 (List.replicate 0 0))++sv)))) (
    k (eI.out (cut ((List.take 0 (List.replicate 0 0))++sv) 0 (0+(List.length sv))))) none) none)):=by kernel_rfl
theorem eI.ok:eI.Ok:=by
 intro l hl
 have hl:l.length<=1000000:=hl
 have hr:dT l.length 8=true:=fL (by omega) (by omega)
 have e0:(List.take 0 (List.replicate 0 0):List Int)=[]:=rfl
 rw[eI.eq]
 simp only[aN,hr,aj,e0,aS,ax,and_self,decide_true,iq,bU,eI.F]
 by_cases h:0 < l.length
 ·simp only[aX h,aj]
 ·have:l=[]:=aL (by omega)
  subst this
  simp only[ba,sS,cn (gE 0),au]
theorem eI.run:eI.RS:=rE [.d tU] eI
def eI.sg:=eI.gC eI.ok
def gT(l:List Int):Lk:=([(l,0,0,0,())],())
abbrev oA.D:=Bs
abbrev oA.Y:=Lk
def oA.aY:oA.D->Prop:=λl=>l.length<=1000000
def oA.F:oA.D->oA.Y:=λl=>gT l
def oA:Fs Tryz.prog oA.aY bU oA.F:=gh 71 Tryz.f71 (λl=>([.d tU l],[])) (λx=>⟨.d xI x,[],[]⟩) [some tU] [eI.sg]
theorem oA.eq{R:Type}(l)(k:K1 R):oA.A l k=
 aA (eI.call l) λx1=>
 k (oA.out ([(x1,(0,(0,(0,()))))],())):=by kernel_rfl
theorem oA.ok:oA.Ok:=by
 intro l hl
 rw[oA.eq,eI.run (d:=l) hl]
 rfl
theorem oA.run:oA.RS:=rE [.d tU] oA
def oA.sg:=oA.gC oA.ok
abbrev lD.D:=Int
abbrev lD.Y:=Lk
def lD.aY:lD.D->Prop:=λ_=>True
def lD.F:lD.D->lD.Y:=λp=>gT [p]
def lD:Fs Tryz.prog lD.aY bU lD.F:=gh 17 Tryz.f17 (λp=>([.d tu p],[])) (λx=>⟨.d xI x,[],[]⟩) [some tu] [oA.sg]
theorem lD.eq{R:Type}(p)(k:K1 R):lD.A p k=
 aA (oA.call [p]) λx1=>
 k (lD.out x1):=by kernel_rfl
theorem lD.ok:lD.Ok:=by
 intro p _
 rw[lD.eq,oA.run (d:=[p]) (by show [p].length<=_;simp)]
 rfl
theorem lD.run:lD.RS:=rE [.d tu] lD
def lD.sg:=lD.gC lD.ok
def nW(o:List Int)(ks:List Int):List Int:=ks.foldl (λo p=>o++pU p) o
def Ml(o:List Int)(b:uB):List Int:=fm (fm (nW (fm o b.1.length) b.1) b.2.1) b.2.2.1++pU b.2.2.2.1
def KI(l:Lk):List Int:=if pH l then l.1.foldl Ml (fm [] l.1.length) else []
theorem wq:∀(ks:List Int) (o:List Int),(nW o ks).length=o.length+8*ks.length
 |[],o=>rfl
 |k::ks,o=>by
  show(nW (o++pU k) ks).length=_
  rw[wq ks,aq,dB,aD];omega
theorem Gi(o:List Int)(b:uB)(h:b.1.length<=12):(Ml o b).length<=o.length+200:=by
 unfold Ml
 have h1:=gl o b.1.length
 have h2:=wq b.1 (fm o b.1.length)
 have h3:=gl (nW (fm o b.1.length) b.1) b.2.1
 have h4:=gl (fm (nW (fm o b.1.length) b.1) b.2.1) b.2.2.1
 rw[aq,dB];omega
def J9(n:Int):Prop:=n<=9223372036854775807
def PL(b:uB):Prop:=b.1.length<=12/\J9 b.2.1/\J9 b.2.2.1
theorem Mm{b:uB}(h:tJ b=true):PL b:=by
 unfold tJ xB at h
 simp only[ag,decide_eq_true_eq]at h
 obtain⟨h1,_,h2,h3,_⟩:=h
 exact⟨h1,by unfold J9;omega,by unfold J9;omega⟩
theorem Fo(o:List Int)(ks:List Int)(k:Nat)(h:k < ks.length):nW o (ks.drop k)=nW (o++pU ks[k]) (ks.drop (k+1)):=by rw[aC h];rfl
abbrev bD.L0.D:=Bs×(List uB)×Int×Int
abbrev bD.L0.Y:=Bs
abbrev bD.L1.D:=Bs×(List uB)×Int×Int×Bs×Int×Int×uB
abbrev bD.L1.Y:=Bs
abbrev bD.L1.X:=((List uB)×Int×Int×uB)×(Bs)
def bD.L1.add:bD.L1.D->bD.L1.Y->bD.L1.X:=λ(wC,zG,zH,zI,t28,t29,t30,n5) y=>((zG,zH,zI,n5),y)
abbrev bD.D:=Lk
abbrev bD.Y:=Bs
def bD.L1.aY:bD.L1.D->Prop:=λ(o,bs,n,i,ks,m,j,b)=>ks.length<=12/\o.length+8*ks.length<=80000000+8*j.toNat/\m=ks.length/\∃k:Nat,k<=ks.length/\j=k
def bD.L1.F:bD.L1.D->bD.L1.Y:=λ(o,bs,n,i,ks,m,j,b)=>nW o (ks.drop j.toNat)
def bD.L0.aY:bD.L0.D->Prop:=λ(o,bs,n,i)=>(∀b∈bs,PL b)/\bs.length<=4/\o.length<=1000+200*i.toNat/\n=bs.length/\∃k:Nat,k<=bs.length/\i=k
def bD.L0.F:bD.L0.D->bD.L0.Y:=λ(o,bs,n,i)=>(bs.drop i.toNat).foldl Ml o
def bD.aY:bD.D->Prop:=λl=>Li l/\l.1.length<=9223372036854775807
def bD.F:bD.D->bD.Y:=λl=>KI l
def bD.L0:Ls bD.L0.aY bU bD.L0.F:=tq (λ(outv,t16,t17,t18)=>⟨([.undef,.undef,.undef,.d tB outv]++bB 12 ([.d (.slice pR) t16,.d ti t17,.d ti t18]++bB 31 [])),[],(List.replicate 50 [])⟩) (λx=>(.exit 0,⟨([.undef,.undef,.undef,.d tB x]++bB 46 []),[],(List.replicate 50 [])⟩))
def bD.L1:Ls bD.L1.aY bD.L1.add bD.L1.F:=tq (λ(wC,zG,zH,zI,t28,t29,t30,n5)=>⟨([.undef,.undef,.undef,.d tB wC,.undef,.ptr (.new 5 0) 0 [] 0]++bB 10 ([.d (.slice pR) zG,.d ti zH,.d ti zI]++bB 9 ([.d tU t28,.d ti t29,.d ti t30]++bB 19 []))),[],(cR 5 ([[.obj 0 false (.d pR n5)]]++cR 44 []))⟩) (λx=>(.exit 2,⟨([.undef,.undef,.undef,.d tB x.2,.undef,.ptr (.new 5 0) 0 [] 0]++bB 10 ([.d (.slice pR) x.1.1,.d ti x.1.2.1,.d ti x.1.2.2.1]++bB 31 [])),[],(cR 5 ([[.obj 0 false (.d pR x.1.2.2.2)]]++cR 44 []))⟩))
def bD:Fs Tryz.prog bD.aY bU bD.F:=gh 146 Tryz.f146 (λl=>([.d xI l],[])) (λx=>⟨.d tB x,[],[]⟩) [some xI] [aM.sg,gg.sg,iU.sg] {loops:=rH [(5,{bI:=[3,16,17,18]}),(9,{bI:=[3,5,16,17,18,28,29,30],sites:=[5]})],outs:=rG [(5,{bI:=[3]},{bI:=[2]}),(9,{bI:=[3,5,16,17,18],sites:=[5]},{bI:=[2]})],jP:=sh [(5,bD.L0.E),(9,bD.L1.E)],res:=[some tB]}
theorem bD.L0.run:bD.L0.RS:=rL [.d tB,.d (.slice pR),.d ti,.d ti] bD.L0
theorem bD.L0.step{R:Type}(outv t16 t17 t18)(kn:K2 R)(kx:K3 R):bD.R 0 bD.L0 (outv,t16,t17,t18) kn kx=
  aK ((iI t18 t17)) (
   aK (fa t18 (t16.length:Int)) (
   aA (gg.call (outv,(((List.length (nth pR t16 (Int.toNat t18)).1):Nat):Int))) λx1=>
   aA (bD.L1.call (x1,t16,t17,t18,(nth pR t16 (Int.toNat t18)).1,(((List.length (nth pR t16 (Int.toNat t18)).1):Nat):Int),0,(nth pR t16 (Int.toNat t18)))) λx2=>
   aA (gg.call (x2.2,x2.1.2.2.2.2.1)) λx3=>
   aA (gg.call (x3,x2.1.2.2.2.2.2.1)) λx4=>
   aA (iU.call (x4,x2.1.2.2.2.2.2.2.1)) λx5=>
   kn (bD.L0.st (x5,x2.1.1,x2.1.2.1,(bN .i64 x2.1.2.2.1 1)))) none) (
   bD.L0.go kx outv):=by kernel_rfl
theorem bD.L1.run:bD.L1.RS:=rL [.d tB,.d (.slice pR),.d ti,.d ti,.d tU,.d ti,.d ti,.d pR] bD.L1
theorem bD.L1.step{R:Type}(wC zG zH zI t28 t29 t30 n5)(kn:K2 R)(kx:K3 R):bD.R 1 bD.L1 (wC,zG,zH,zI,t28,t29,t30,n5) kn kx=
  aK ((iI t30 t29)) (
   aK (fa t30 (t28.length:Int)) (
   aA (iU.call (wC,(nth tu t28 (Int.toNat t30)))) λx1=>
   kn (bD.L1.st (x1,zG,zH,zI,t28,t29,(bN .i64 t30 1),n5))) none) (
   bD.L1.go kx ((zG,zH,zI,n5),wC)):=by kernel_rfl
theorem bD.eq{R:Type}(l)(k:K1 R):bD.A l k=
  aA (aM.call l) λx1=>
  aK ((!x1)) (
   k (bD.out ([]:List Int))) (
   aA (gg.call (([]:List Int),(l.1.length:Int))) λx2=>
   aA (bD.L0.call (x2,l.1,(l.1.length:Int),0)) λx9=>
   k (bD.out x9)):=by kernel_rfl
theorem bD.L1.ok:(bD.mO 1 bD.L1):=by
 refine(bD.oG 1 bD.L1) (λ(o,bs,n,i,ks,m,j,b)=>ks.length - j.toNat) ?_
 rintro⟨o,bs,n,i,ks,m,j,b⟩ ⟨MX,hl,rfl,k,hk,rfl⟩
 have MX:ks.length<=12:=MX
 have hk:k<=ks.length:=hk
 have hl:o.length+8*ks.length<=80000000+8*(k:Int).toNat:=hl
 rw[aa]at hl
 by_cases h:k < ks.length
 ·left
  have n1:nth (.int .u64) ks k=ks[k]:=dM (t:= .int .u64) h
  refine⟨(o++pU ks[k],bs,n,i,ks,ks.length,((k+1:Nat):Int),b),⟨MX,by rw[aq,dB,aa];omega,rfl,k+1,by omega,rfl⟩,by simp only[aa];omega,?_,λkn kx=> ?_⟩
  ·simp only[bD.L1.add,bD.L1.F,aa]
   rw[Fo _ _ _ h]
  ·rw[bD.L1.step]
   simp(disch:=omega) only[↓S1,↓if_pos,↓if_neg,if_pos,if_neg,if_true,if_false,S2,n1]
   rw[iU.run (d:=(o,ks[k])) (by show o.length<=90000000;omega)]
   rfl
 ·right
  obtain rfl:k=ks.length:=by omega
  intro R kn kx
  rw[bD.L1.step]
  simp(disch:=omega) only[↓S1,↓if_pos,↓if_neg,if_pos,if_neg,if_true,if_false,S2,bD.L1.add,bD.L1.F,bq]
  rfl
theorem bD.L0.ok:(bD.mO 0 bD.L0):=by
 refine(bD.oG 0 bD.L0) (λ(o,bs,n,i)=>bs.length - i.toNat) ?_
 rintro⟨o,bs,n,i⟩ ⟨hb,h4,hl,rfl,k,hk,rfl⟩
 have h4:bs.length<=4:=h4
 have hk:k<=bs.length:=hk
 have hl:o.length<=1000+200*(k:Int).toNat:=hl
 rw[aa]at hl
 by_cases h:k < bs.length
 ·left
  have hx:=hb _ (b5 h)
  have n1:nth (.pair (.slice (.int .u64)) (.pair (.int .i64) (.pair (.int .i64) (.pair (.int .u64) .unit)))) bs k=bs[k]:=dM (t:=(.pair (.slice (.int .u64)) (.pair (.int .i64) (.pair (.int .i64) (.pair (.int .u64) .unit))))) h
  have e0:=Gi o bs[k] hx.1
  refine⟨(Ml o bs[k],bs,bs.length,((k+1:Nat):Int)),⟨hb,h4,by rw[aa];omega,rfl,k+1,by omega,rfl⟩,by simp only[aa];omega,?_,λkn kx=> ?_⟩
  ·simp only[bU,bD.L0.F,aa]
   rw[aC h]
   rfl
  ·rw[bD.L0.step,bA (by omega),bJ (by omega) (by omega),aa,n1]
   obtain⟨⟨ks,af,dl,sc,u⟩,QK⟩:∃b,bs[k]=b:=⟨_,rfl⟩
   rw[QK]at hx e0 ⊢
   obtain⟨OD,ha,hd⟩:=hx
   have OD:ks.length<=12:=OD
   have ha:af<=9223372036854775807:=ha
   have hd:dl<=9223372036854775807:=hd
   have l1:=gl o ks.length
   have l2:=wq ks (fm o ks.length)
   have l3:=gl (nW (fm o ks.length) ks) af
   have l4:=gl (fm (nW (fm o ks.length) ks) af) dl
   simp only[aj]
   rw[gg.run (d:=(o,(ks.length:Int))) ⟨by show o.length<=90000000;omega,by show(ks.length:Int)<=9223372036854775807;omega⟩]
   simp only[ah,bU,gg.F]
   rw[bD.L1.run (d:=(fm o ks.length,bs,bs.length,k,ks,ks.length,0,(ks,af,dl,sc,u))) ⟨OD,by show(fm o ks.length).length+8*ks.length<=_;omega,rfl,0,by omega,rfl⟩]
   simp only[ah,bD.L1.add,bD.L1.F,cF,aJ]
   rw[gg.run (d:=(nW (fm o ks.length) ks,af)) ⟨by show(nW (fm o ks.length) ks).length<=90000000;omega,ha⟩]
   simp only[ah,bU,gg.F]
   rw[gg.run (d:=(fm (nW (fm o ks.length) ks) af,dl)) ⟨by show(fm (nW (fm o ks.length) ks) af).length<=90000000;omega,hd⟩]
   simp only[ah,bU,gg.F]
   rw[iU.run (d:=(fm (fm (nW (fm o ks.length) ks) af) dl,sc)) (by show(fm (fm (nW (fm o ks.length) ks) af) dl).length<=90000000;omega)]
   simp only[ah,bU,iU.F]
   rw[N.rD (by omega)]
   rfl
 ·right
  obtain rfl:k=bs.length:=by omega
  intro R kn kx
  rw[bD.L0.step]
  simp(disch:=omega) only[↓S1,↓if_pos,↓if_neg,if_pos,if_neg,if_true,if_false,S2,bU,bD.L0.F,bq]
  rfl
theorem Jl{l:Lk}(h:pH l=true):(∀b∈l.1,PL b)/\0 < l.1.length/\l.1.length<=4:=by
 unfold pH at h
 simp only[ag,cM,decide_eq_true_eq]at h
 exact⟨λb hb=>Mm (h.1 b hb),h.2⟩
theorem bD.ok:bD.Ok:=by
 rintro l ⟨hl,hb⟩
 have hl:Li l:=hl
 rw[bD.eq,aM.run (d:=l) ⟨hl,hb⟩]
 simp only[ah,bU,aM.F,bU,bD.F,KI]
 cases oo:pH l
 ·rfl
 ·obtain⟨h1,h2,h3⟩:=Jl oo
  have l1:=gl [] l.1.length
  have l0:([]:List Int).length=0:=rfl
  simp only[b8,au,if_true]
  rw[gg.run (d:=([],(l.1.length:Int))) ⟨by show([]:List Int).length<=90000000;omega,by show(l.1.length:Int)<=9223372036854775807;omega⟩]
  simp only[ah,bU,gg.F]
  rw[bD.L0.run (d:=(fm [] l.1.length,l.1,l.1.length,0)) ⟨h1,h3,by show(fm [] l.1.length).length<=_;omega,rfl,0,by omega,rfl⟩]
  rfl
theorem GD(l:Lk):(KI l).length<=1000:=by
 unfold KI
 split
 ·rename_i h
  obtain⟨h1,h2,h3⟩:=Jl h
  have key:∀(bs:List uB) (o:List Int),(∀b∈bs,PL b)->(bs.foldl Ml o).length<=o.length+200*bs.length:=by
   intro bs
   induction bs with
   |nil=>intro o _;exact ax _
   |cons b bs ih=>
    intro o hb
    have e1:=ih (Ml o b) λx hx=>hb x (aF _ hx)
    have e2:=Gi o b (hb b aG).1
    rw[cU,aD];omega
  have e:=key l.1 (fm [] l.1.length) h1
  have e2:=gl [] l.1.length
  have l0:([]:List Int).length=0:=rfl
  omega
 ·exact bh _
theorem bD.run:bD.RS:=rE [.d xI] bD
def bD.sg:=bD.gC bD.ok 2 ⟨.js bD.L0.ok,⟨.js bD.L1.ok,trivial⟩⟩
abbrev jy.D:=Bs×Bs
abbrev jy.Y:=Bs
def jy.aY:jy.D->Prop:=λ(b,h)=>b.length+h.length<=100000000/\h.length=32
def jy.F:jy.D->jy.Y:=λ(b,h)=>b++h
def jy:Fs Tryz.prog jy.aY bU jy.F:=gh 124 Tryz.f124 (λ(b,h)=>([.d tB b,.d tH h],[])) (λx=>⟨.d tB x,[],[]⟩) [some tB,some tH] [fO.sg]
theorem jy.eq{R:Type}(b h)(k:K1 R):jy.A (b,h) k=
 aA (fO.call (b,(cut h 0 32))) λx1=>
 k (jy.out x1):=by kernel_rfl
theorem jy.ok:jy.Ok:=by
 rintro⟨b,h⟩ ⟨h1,h2⟩
 have h1:b.length+h.length<=100000000:=h1
 have h2:h.length=32:=h2
 rw[jy.eq,iq h2,fO.run (d:=(b,h)) h1]
 rfl
theorem jy.run:jy.RS:=rE [.d tB,.d tB] jy
def jy.sg:=jy.gC jy.ok
abbrev jh.D:=Bs×Bs
abbrev jh.Y:=Bs
def jh.aY:jh.D->Prop:=λ(b,c)=>b.length+c.length<=90000000
def jh.F:jh.D->jh.Y:=λ(b,c)=>b++(zu c.length++c)
def jh:Fs Tryz.prog jh.aY bU jh.F:=gh 145 Tryz.f145 (λ(b,c)=>([.d tB b,.d tB c],[])) (λx=>⟨.d tB x,[],[]⟩) [some tB,some tB] [fj.sg,aR.sg] {res:=[some tB]}
theorem jh.eq{R:Type}(b c)(k:K1 R):jh.A (b,c) k=
 aA (fj.call (c.length:Int)) λx1=>
 aA (aR.call [b,x1,c]) λx2=>
 k (jh.out x2):=by kernel_rfl
theorem jh.ok:jh.Ok:=by
 rintro⟨b,c⟩ h
 have h:b.length+c.length<=90000000:=h
 have hl:=vy c.length
 rw[jh.eq,fj.run (d:=(c.length:Int)) ⟨by omega,by omega⟩]
 simp only[ah,bU,fj.F]
 rw[aR.run (d:=[b,zu c.length,c]) ⟨by show [b,zu c.length,c].length<=_;simp,by show ma [b,zu c.length,c]<=_;simp only[ma,fw,iQ,cH,aq];omega⟩]
 simp only[ah,bU,aR.F,bU,jh.F,fw,iQ,cH]
theorem jh.run:jh.RS:=rE [.d tB,.d tB] jh
def jh.sg:=jh.gC jh.ok
def zW(b:List Int)(x:jd):List Int:=fm (b++x.1.1) x.1.2.1
def Al(b:List Int)(o:mw):List Int:=fm b o.1++(zu (KI o.2.1).length++KI o.2.1)
def sq(t:jI):List Int:=fm (t.2.1.foldl Al (fm (t.1.foldl zW (fm [] t.1.length)) t.2.1.length)) t.2.2.1
def Er(t:jI):List Int:=if kU t then tag (bV (⟨#[116,120]⟩:ByteArray)) [sq t] else List.replicate 32 0
def SC(x:jd):Prop:=Sm x.1.1/\Mf x.2.1/\x.2.1.2.1.length<=9223372036854775807
def Cq(t:jI):Prop:=R0 t/\(∀x∈t.1,SC x)/\t.2.2.1<=9223372036854775807
theorem uU:∀(l:List jd) (m:List (iK×Bool)),td m l=true->∀x∈l,yO x=true
 |[],_,_,x,hx=>by cases hx
 |y::l,m,h,x,hx=>by
  rw[td,ag,ag]at h
  rcases cv.1 hx with rfl | hx
  ·exact h.1.2
  ·exact uU l _ h.2 x hx
theorem uj:∀(l:List mw) (s:Int),qX s l=true->∀o∈l,(0<=o.1/\o.1<=1125899906842624)/\pH o.2.1=true
 |[],_,_,o,ho=>by cases ho
 |y::l,s,h,o,ho=>by
  rw[qX,ag,ag]at h
  rcases cv.1 ho with rfl | ho
  ·have h1:=h.1.1
   unfold pJ lZ at h1
   simp only[ag,decide_eq_true_eq]at h1
   exact⟨h1.2.1,h.1.2⟩
  ·exact uj l _ h.2 o ho
theorem I6{x:jd}(h:yO x=true):0<=x.1.2.1/\x.1.2.1 < 64/\0<=x.2.1.1/\x.2.1.1 < 4/\x.2.1.2.1.length<=12:=by
 unfold yO rC at h
 simp only[ag,decide_eq_true_eq]at h
 exact⟨h.1.1,h.1.2,h.2.1.1,h.2.1.2,h.2.2⟩
theorem wO{t:jI}(h:kU t=true):(1<=t.1.length/\t.1.length<=64/\t.2.1.length<=64/\0<=t.2.2.1)/\td [] t.1=true/\qX 0 t.2.1=true:=by
 unfold kU zN at h
 simp only[ag,decide_eq_true_eq]at h
 exact h
theorem Gx(b:List Int)(x:jd):(zW b x).length<=b.length+x.1.1.length+11:=by
 have:=gl (b++x.1.1) x.1.2.1
 rw[aq]at this
 exact this
theorem DS(b:List Int)(o:mw):(Al b o).length<=b.length+1022:=by
 have h1:=gl b o.1
 have h2:=vy (KI o.2.1).length
 have h3:=GD o.2.1
 unfold Al
 rw[aq,aq]
 omega
abbrev bw.L0.D:=jI×Bs×(List jd)×Int×Int
abbrev bw.L0.Y:=Bs
abbrev bw.L0.X:=(jI)×(Bs)
def bw.L0.add:bw.L0.D->bw.L0.Y->bw.L0.X:=λ(vP,b,t13,t14,t15) y=>(vP,y)
abbrev bw.L1.D:=jI×Bs×(List mw)×Int×Int
abbrev bw.L1.Y:=Bs
abbrev bw.L1.X:=(jI)×(Bs)
def bw.L1.add:bw.L1.D->bw.L1.Y->bw.L1.X:=λ(EB,uH,t35,t36,t37) y=>(EB,y)
abbrev bw.D:=jI
abbrev bw.Y:=Bs
def bw.L0.aY:bw.L0.D->Prop:=λ(t,b,l,n,i)=>(l).length<=1000000000/\∃k:Nat,k<=(l).length/\i=k/\n=(l).length/\(l.length<=64)/\(∀x∈l,x.1.1.length=32/\x.1.2.1<=9223372036854775807)/\(b.length<=100+50*k)
def bw.L0.F:bw.L0.D->bw.L0.Y:=λ(t,b,l,n,i)=>(List.drop (Int.toNat i) l).foldl zW b
def bw.L1.aY:bw.L1.D->Prop:=λ(t,b,l,n,i)=>(l).length<=1000000000/\∃k:Nat,k<=(l).length/\i=k/\n=(l).length/\(l.length<=64)/\(∀o∈l,o.1<=9223372036854775807/\J1 o.2.1)/\(b.length<=4000+1100*k)
def bw.L1.F:bw.L1.D->bw.L1.Y:=λ(t,b,l,n,i)=>(List.drop (Int.toNat i) l).foldl Al b
def bw.aY:bw.D->Prop:=λt=>kU t=true/\Cq t
def bw.F:bw.D->bw.Y:=λt=>sq t
def bw.L0:Ls bw.L0.aY bw.L0.add bw.L0.F:=tq (λ(vP,b,t13,t14,t15)=>⟨([.undef,.eO oO vP,.undef,.d tB b]++bB 9 ([.d (.slice ka) t13,.d ti t14,.d ti t15]++bB 38 [])),[],(List.replicate 54 [])⟩) (λx=>(.exit 0,⟨([.undef,.eO oO x.1,.undef,.d tB x.2]++bB 50 []),[],(List.replicate 54 [])⟩))
def bw.L1:Ls bw.L1.aY bw.L1.add bw.L1.F:=tq (λ(EB,uH,t35,t36,t37)=>⟨([.undef,.eO oO EB,.undef,.d tB uH]++bB 31 ([.d (.slice mu) t35,.d ti t36,.d ti t37]++bB 16 [])),[],(List.replicate 54 [])⟩) (λx=>(.exit 2,⟨([.undef,.eO oO x.1,.undef,.d tB x.2]++bB 50 []),[],(List.replicate 54 [])⟩))
def bw:Fs Tryz.prog bw.aY bU bw.F:=gh 73 Tryz.f73 (λt=>([.d oO t],[])) (λx=>⟨.d tB x,[],[]⟩) [some oO] [gg.sg,jy.sg,bD.sg,jh.sg] {loops:=rH [(3,{bI:=[1,3,13,14,15]}),(9,{bI:=[1,3,35,36,37]})],outs:=rG [(3,{bI:=[1,3]},{bI:=[2]}),(9,{bI:=[1,3]},{bI:=[2]})],jP:=sh [(3,bw.L0.E),(9,bw.L1.E)],res:=[some tB]}
theorem bw.L0.run:bw.L0.RS:=rL [.d oO,.d tB,.d (.slice ka),.d ti,.d ti] bw.L0
theorem bw.L0.step{R:Type}(vP b t13 t14 t15)(kn:K2 R)(kx:K3 R):bw.R 0 bw.L0 (vP,b,t13,t14,t15) kn kx=
  aK ((iI t15 t14)) (
   aK (fa t15 (t13.length:Int)) (
   aA (jy.call (b,(nth ka t13 (Int.toNat t15)).1.1)) λx1=>
   aA (gg.call (x1,(nth ka t13 (Int.toNat t15)).1.2.1)) λx2=>
   kn (bw.L0.st (vP,x2,t13,t14,(bN .i64 t15 1)))) none) (
   bw.L0.go kx (vP,b)):=by kernel_rfl
theorem bw.L1.run:bw.L1.RS:=rL [.d oO,.d tB,.d (.slice mu),.d ti,.d ti] bw.L1
theorem bw.L1.step{R:Type}(EB uH t35 t36 t37)(kn:K2 R)(kx:K3 R):bw.R 1 bw.L1 (EB,uH,t35,t36,t37) kn kx=
  aK ((iI t37 t36)) (
   aK (fa t37 (t35.length:Int)) (
   aA (gg.call (uH,(nth mu t35 (Int.toNat t37)).1)) λx1=>
   aA (bD.call (nth mu t35 (Int.toNat t37)).2.1) λx2=>
   aA (jh.call (x1,x2)) λx3=>
   kn (bw.L1.st (EB,x3,t35,t36,(bN .i64 t37 1)))) none) (
   bw.L1.go kx (EB,uH)):=by kernel_rfl
theorem bw.eq{R:Type}(t)(k:K1 R):bw.A t k=
 aA (gg.call (([]:List Int),(t.1.length:Int))) λx1=>
 aA (bw.L0.call (t,x1,t.1,(t.1.length:Int),0)) λx4=>
 aA (gg.call (x4.2,(x4.1.2.1.length:Int))) λx5=>
 aA (bw.L1.call (x4.1,x5,x4.1.2.1,(x4.1.2.1.length:Int),0)) λx9=>
 aA (gg.call (x9.2,x9.1.2.2.1)) λIp=>
 k (bw.out Ip):=by kernel_rfl
theorem bw.L0.ok:(bw.mO 0 bw.L0):=by
 refine(bw.oG 0 bw.L0) (λ(t,b,l,n,i)=>(l).length - Int.toNat i) ?_
 rintro⟨t,b,l,n,i⟩ ⟨hlen,k,hk,rfl,rfl,MK,hx,hb⟩
 have hlen:(l).length<=1000000000:=hlen
 have hk:k<=(l).length:=hk
 have MK:l.length<=64:=MK
 have hx:∀x∈l,x.1.1.length=32/\x.1.2.1<=9223372036854775807:=hx
 have hb:b.length<=100+50*k:=hb
 by_cases h:k < (l).length
 ·left
  have n1:nth ka l k=l[k]:=dM (t:=ka) h
  have hd:List.drop k l=l[k]::List.drop (k+1) l:=aC h
  refine⟨(t,(zW b l[k]),l,((l).length:Int),((k+1:Nat):Int)),⟨hlen,k+1,by omega,rfl,rfl,MK,hx,by have:=Gx b l[k];have:=(hx _ (b5 h)).1;omega⟩,by simp only[aa];omega,?_,λkn kx=> ?_⟩
  ·simp only[bw.L0.add,bw.L0.F,aa,hd,cU]
  ·rw[bw.L0.step,bA (by omega),bJ (by omega) (by omega),aa,n1]
   simp only[aj]
   have e:=hx _ (b5 h)
   have e2:(b++l[k].1.1).length=b.length+l[k].1.1.length:=aq
   rw[jy.run (d:=(b,l[k].1.1)) ⟨by show b.length+l[k].1.1.length<=_;omega,e.1⟩]
   simp only[ah,bU,jy.F]
   rw[gg.run (d:=(b++l[k].1.1,l[k].1.2.1)) ⟨by show(b++l[k].1.1).length<=_;omega,e.2⟩]
   simp only[ah,bU,gg.F]
   rw[N.rD (by omega)]
   rfl
 ·right
  obtain rfl:k=(l).length:=by omega
  intro R kn kx
  rw[bw.L0.step,bl (by omega),au]
  simp only[bw.L0.add,bw.L0.F,aa,bq,j1]
theorem bw.L1.ok:(bw.mO 1 bw.L1):=by
 refine(bw.oG 1 bw.L1) (λ(t,b,l,n,i)=>(l).length - Int.toNat i) ?_
 rintro⟨t,b,l,n,i⟩ ⟨hlen,k,hk,rfl,rfl,MK,hx,hb⟩
 have hlen:(l).length<=1000000000:=hlen
 have hk:k<=(l).length:=hk
 have MK:l.length<=64:=MK
 have hx:∀o∈l,o.1<=9223372036854775807/\J1 o.2.1:=hx
 have hb:b.length<=4000+1100*k:=hb
 by_cases h:k < (l).length
 ·left
  have n1:nth mu l k=l[k]:=dM (t:=mu) h
  have hd:List.drop k l=l[k]::List.drop (k+1) l:=aC h
  refine⟨(t,(Al b l[k]),l,((l).length:Int),((k+1:Nat):Int)),⟨hlen,k+1,by omega,rfl,rfl,MK,hx,by have:=DS b l[k];omega⟩,by simp only[aa];omega,?_,λkn kx=> ?_⟩
  ·simp only[bw.L1.add,bw.L1.F,aa,hd,cU]
  ·rw[bw.L1.step,bA (by omega),bJ (by omega) (by omega),aa,n1]
   simp only[aj]
   have e:=hx _ (b5 h)
   have e1:=gl b l[k].1
   have e2:=GD l[k].2.1
   rw[gg.run (d:=(b,l[k].1)) ⟨by show b.length<=_;omega,e.1⟩]
   simp only[ah,bU,gg.F]
   rw[bD.run (d:=l[k].2.1) e.2]
   simp only[ah,bU,bD.F]
   rw[jh.run (d:=(fm b l[k].1,KI l[k].2.1)) (by show(fm b l[k].1).length+(KI l[k].2.1).length<=_;omega)]
   simp only[ah,bU,jh.F]
   rw[N.rD (by omega)]
   rfl
 ·right
  obtain rfl:k=(l).length:=by omega
  intro R kn kx
  rw[bw.L1.step,bl (by omega),au]
  simp only[bw.L1.add,bw.L1.F,aa,bq,j1]
theorem BZ:∀(l:List jd) (b:List Int),(∀x∈l,x.1.1.length=32)->(l.foldl zW b).length<=b.length+43*l.length
 |[],b,_=>ax _
 |x::l,b,h=>by
  have h1:=Gx b x
  have h2:=h x aG
  have h3:=BZ l (zW b x) λy hy=>h y (aF _ hy)
  rw[cU,aD]
  omega
theorem zk:∀(l:List mw) (b:List Int),(l.foldl Al b).length<=b.length+1022*l.length
 |[],b=>ax _
 |x::l,b=>by
  have h1:=DS b x
  have h3:=zk l (Al b x)
  rw[cU,aD]
  omega
theorem FG{t:jI}(oo:kU t=true)(hv:Cq t):(sq t).length<=70000:=by
 obtain⟨⟨_,a2,a3,_⟩,_,_⟩:=wO oo
 have h1:=BZ t.1 (fm [] t.1.length) λx hx=>(hv.2.1 x hx).1.1
 have h2:=gl [] t.1.length
 have h3:=gl (t.1.foldl zW (fm [] t.1.length)) t.2.1.length
 have h4:=zk t.2.1 (fm (t.1.foldl zW (fm [] t.1.length)) t.2.1.length)
 have h5:=gl (t.2.1.foldl Al (fm (t.1.foldl zW (fm [] t.1.length)) t.2.1.length)) t.2.2.1
 have h0:([]:List Int).length=0:=rfl
 unfold sq
 omega
theorem bw.ok:bw.Ok:=by
 rintro t ⟨oo,hv⟩
 have hv:Cq t:=hv
 obtain⟨⟨_,a2,a3,_⟩,b1,b2⟩:=wO oo
 have h0:([]:List Int).length=0:=rfl
 have l0:=gl [] t.1.length
 have l1:=BZ t.1 (fm [] t.1.length) λx hx=>(hv.2.1 x hx).1.1
 have l2:=gl (t.1.foldl zW (fm [] t.1.length)) t.2.1.length
 have l3:=zk t.2.1 (fm (t.1.foldl zW (fm [] t.1.length)) t.2.1.length)
 rw[bw.eq,gg.run (d:=([],(t.1.length:Int))) ⟨by show([]:List Int).length<=_;omega,by show(t.1.length:Int)<=_;omega⟩]
 simp only[ah,bU,gg.F]
 rw[bw.L0.run (d:=(t,fm [] t.1.length,t.1,t.1.length,0)) ⟨by show t.1.length<=_;omega,0,bh _,rfl,rfl,a2,λx hx=>⟨(hv.2.1 x hx).1.1,by have:=I6 (uU _ _ b1 x hx);omega⟩,by show(fm [] t.1.length).length<=_;omega⟩]
 simp only[ah,bw.L0.add,bw.L0.F,cF,aJ]
 rw[gg.run (d:=(t.1.foldl zW (fm [] t.1.length),(t.2.1.length:Int))) ⟨by show(t.1.foldl zW (fm [] t.1.length)).length<=_;omega,by show(t.2.1.length:Int)<=_;omega⟩]
 simp only[ah,bU,gg.F]
 rw[bw.L1.run (d:=(t,fm (t.1.foldl zW (fm [] t.1.length)) t.2.1.length,t.2.1,t.2.1.length,0)) ⟨by show t.2.1.length<=_;omega,0,bh _,rfl,rfl,a3,λo ho=>⟨by have:=(uj _ _ b2 o ho).1;omega,hv.1.1 o ho⟩,by show(fm (t.1.foldl zW (fm [] t.1.length)) t.2.1.length).length<=_;omega⟩]
 simp only[ah,bw.L1.add,bw.L1.F,cF,aJ]
 rw[gg.run (d:=(t.2.1.foldl Al (fm (t.1.foldl zW (fm [] t.1.length)) t.2.1.length),t.2.2.1)) ⟨by show(t.2.1.foldl Al (fm (t.1.foldl zW (fm [] t.1.length)) t.2.1.length)).length<=_;omega,hv.2.2⟩]
 rfl
theorem bw.run:bw.RS:=rE [.d oO] bw
def bw.sg:=bw.gC bw.ok 2 ⟨.js bw.L0.ok,⟨.js bw.L1.ok,trivial⟩⟩
def iN(t:jI):List iK:=if kU t then t.1.map (·.1) else []
def Jp(id:List Int)(k n:Nat):List iK:=(List.range' k n).map λi:Nat=>(id,((i:Int),()))
def nX(t:jI):List iK:=if kU t then Jp (Er t) 0 t.2.1.length else []
abbrev tid.D:=jI
abbrev tid.Y:=Bs
def tid.aY:tid.D->Prop:=λt=>Cq t
def tid.F:tid.D->tid.Y:=λt=>Er t
def tid:Fs Tryz.prog tid.aY bU tid.F:=gh 18 Tryz.f18 (λt=>([.d oO t],[])) (λx=>⟨.d tH x,[],[]⟩) [some oO] [az.sg,bw.sg,eh.sg]
theorem tid.eq{R:Type}(t)(k:K1 R):tid.A t k=
  aA (az.call t) λx1=>
  aK ((!x1)) (
   k (tid.out (List.replicate 32 0))) (
   aA (bw.call t) λx2=>
   aA (eh.call ((⟨#[116,120]⟩:ByteArray),[x2])) λx3=>
   k (tid.out x3)):=by kernel_rfl
theorem tid.ok:tid.Ok:=by
 intro t hv
 have hv:Cq t:=hv
 rw[tid.eq,az.run (d:=t) hv.1]
 simp only[ah,bU,az.F,bU,tid.F,Er]
 cases oo:kU t
 ·rfl
 ·have hl:=FG oo hv
  rw[bw.run (d:=t) ⟨oo,hv⟩]
  simp only[b8,au,if_true,ah,bU,bw.F]
  rw[eh.run (d:=((⟨#[116,120]⟩:ByteArray),[sq t])) (JS (by decide) (by omega))]
  rfl
theorem tid.run:tid.RS:=rE [.d oO] tid
def tid.sg:=tid.gC tid.ok
abbrev mo.D:=(List jd)
abbrev mo.Y:=Nat×(List jd)
def mo.aY:mo.D->Prop:=λl=>l.length<=1000000
def mo.F:mo.D->mo.Y:=λl=>(l.length,l)
def mo:Fs Tryz.prog mo.aY bU mo.F:=gh 138 Tryz.f138 (λsv=>([.d (.slice ka) sv],[])) (λx=>⟨.cD (.new 0 0) 0 [] 0 0 x.1,[],[.obj 0 false (.vec 52 ka x.2)]⟩) [some (.slice ka)] [] {bo:=[5],owns:=[⟨2,[],5,38⟩]}
theorem mo.eq{R:Type}(sv)(k:K1 R):mo.A sv k=
  aK (decide (0 < (List.length sv))) (
   aK (dT (0+(List.length sv)) 80) (
   k (mo.out ((0+(List.length sv)),((List.take 0 (List.replicate 0 (((List.replicate 32 0),(0,())),((0,(([]:List Sg),(0,()))),()))))++sv)))) none) (
   nd (
    k (mo.out (0,([]:List jd)))) (
    aK (dT (0+(List.length sv)) 80) (
    k (mo.out ((0+(List.length sv)),((List.take 0 (List.replicate 0 (((List.replicate 32 0),(0,())),((0,(([]:List Sg),(0,()))),()))))++sv)))) none)):=by kernel_rfl
theorem mo.ok:mo.Ok:=by
 intro l hl
 have hl:l.length<=1000000:=hl
 have hr:dT l.length 80=true:=fL (by omega) (by omega)
 rw[mo.eq]
 simp only[aN,hr,aj,eY,aS,bU,mo.F]
 by_cases h:0 < l.length
 ·simp only[aX h,aj]
 ·have:l=[]:=aL (by omega)
  subst this
  simp only[ba,sS,cn (gE 0),au]
theorem mo.run:mo.RS:=rE [.d (.slice ka)] mo
def mo.sg:=mo.gC mo.ok
abbrev iF.D:=(List mw)
abbrev iF.Y:=Nat×(List mw)
def iF.aY:iF.D->Prop:=λl=>l.length<=1000000
def iF.F:iF.D->iF.Y:=λl=>(l.length,l)
def iF:Fs Tryz.prog iF.aY bU iF.F:=gh 139 Tryz.f139 (λsv=>([.d (.slice mu) sv],[])) (λx=>⟨.cD (.new 0 0) 0 [] 0 0 x.1,[],[.obj 0 false (.vec 36 mu x.2)]⟩) [some (.slice mu)] [] {bo:=[5],owns:=[⟨2,[],5,37⟩]}
theorem iF.eq{R:Type}(sv)(k:K1 R):iF.A sv k=
  aK (decide (0 < (List.length sv))) (
   aK (dT (0+(List.length sv)) 32) (
   k (iF.out ((0+(List.length sv)),((List.take 0 (List.replicate 0 (0,((([]:List uB),()),()))))++sv)))) none) (
   nd (
    k (iF.out (0,([]:List mw)))) (
    aK (dT (0+(List.length sv)) 32) (
    k (iF.out ((0+(List.length sv)),((List.take 0 (List.replicate 0 (0,((([]:List uB),()),()))))++sv)))) none)):=by kernel_rfl
theorem iF.ok:iF.Ok:=by
 intro l hl
 have hl:l.length<=1000000:=hl
 have hr:dT l.length 32=true:=fL (by omega) (by omega)
 rw[iF.eq]
 simp only[aN,hr,aj,eY,aS,bU,iF.F]
 by_cases h:0 < l.length
 ·simp only[aX h,aj]
 ·have:l=[]:=aL (by omega)
  subst this
  simp only[ba,sS,cn (gE 0),au]
theorem iF.run:iF.RS:=rE [.d (.slice mu)] iF
def iF.sg:=iF.gC iF.ok
abbrev kK.D:=(List uB)
abbrev kK.Y:=Nat×(List uB)
def kK.aY:kK.D->Prop:=λl=>l.length<=1000000
def kK.F:kK.D->kK.Y:=λl=>(l.length,l)
def kK:Fs Tryz.prog kK.aY bU kK.F:=gh 141 Tryz.f141 (λsv=>([.d (.slice pR) sv],[])) (λx=>⟨.cD (.new 0 0) 0 [] 0 0 x.1,[],[.obj 0 false (.vec 29 pR x.2)]⟩) [some (.slice pR)] [] {bo:=[5],owns:=[⟨2,[],5,32⟩]}
theorem kK.eq{R:Type}(sv)(k:K1 R):kK.A sv k=
  aK (decide (0 < (List.length sv))) (
   aK (dT (0+(List.length sv)) 48) (
   k (kK.out ((0+(List.length sv)),((List.take 0 (List.replicate 0 (([]:List Int),(0,(0,(0,()))))))++sv)))) none) (
   nd (
    k (kK.out (0,([]:List uB)))) (
    aK (dT (0+(List.length sv)) 48) (
    k (kK.out ((0+(List.length sv)),((List.take 0 (List.replicate 0 (([]:List Int),(0,(0,(0,()))))))++sv)))) none)):=by kernel_rfl
theorem kK.ok:kK.Ok:=by
 intro l hl
 have hl:l.length<=1000000:=hl
 have hr:dT l.length 48=true:=fL (by omega) (by omega)
 rw[kK.eq]
 simp only[aN,hr,aj,eY,aS,bU,kK.F]
 by_cases h:0 < l.length
 ·simp only[aX h,aj]
 ·have:l=[]:=aL (by omega)
  subst this
  simp only[ba,sS,cn (gE 0),au]
theorem kK.run:kK.RS:=rE [.d (.slice pR)] kK
def kK.sg:=kK.gC kK.ok
abbrev iG.D:=(List Sg)
abbrev iG.Y:=(List Sg)
def iG.aY:iG.D->Prop:=λl=>l.length<=1000000
def iG.F:iG.D->iG.Y:=λl=>l
def iG:Fs Tryz.prog iG.aY bU iG.F:=gh 140 Tryz.f140 (λsv=>([.d (.slice Io) sv],[])) (λx=>⟨.d (.slice Io) x,[],[]⟩) [some (.slice Io)] [] {bo:=[5],res:=[some (.slice Io)]}
theorem iG.eq{R:Type}(sv)(k:K1 R):iG.A sv k=
  aK (decide (0 < (List.length sv))) (
   aK (dT (0+(List.length sv)) 16) (
   aK (decide (0=0/\(0+(0+(List.length sv)))<=(List.length ((List.take 0 (List.replicate 0 (0,(0,()))))++sv)))) (
   k (iG.out (cut ((List.take 0 (List.replicate 0 (0,(0,()))))++sv) 0 (0+(List.length sv))))) none) none) (
   nd (
    k (iG.out ([]:List Sg))) (
    aK (dT (0+(List.length sv)) 16) (
    aK (decide (0=0/\(0+(0+(List.length sv)))<=(List.length ((List.take 0 (List.replicate 0 (0,(0,()))))++sv)))) (
    k (iG.out (cut ((List.take 0 (List.replicate 0 (0,(0,()))))++sv) 0 (0+(List.length sv))))) none) none)):=by kernel_rfl
theorem iG.ok:iG.Ok:=by
 intro l hl
 have hl:l.length<=1000000:=hl
 have hr:dT l.length 16=true:=fL (by omega) (by omega)
 rw[iG.eq]
 simp only[aN,hr,aj,eY,aS,ax,and_self,decide_true,iq,bU,iG.F]
 by_cases h:0 < l.length
 ·simp only[aX h,aj]
 ·have:l=[]:=aL (by omega)
  subst this
  simp only[ba,sS,cn (gE 0),au]
theorem iG.run:iG.RS:=rE [.d (.slice Io)] iG
def iG.sg:=iG.gC iG.ok
abbrev aI.L0.D:=Int×Int×Nat×Nat×(Int×Unit)×(Int×Unit)×(List jd)×(List mw)
abbrev aI.L0.Y:=(List jd)
abbrev aI.L0.X:=(Nat×Nat×(Int×Unit)×(Int×Unit)×(List mw))×((List jd))
def aI.L0.add:aI.L0.D->aI.L0.Y->aI.L0.X:=λ(t17,t18,Cu,ze,n1,n2,n9,n12) y=>((Cu,ze,n1,n2,n12),y)
abbrev aI.L1.D:=Int×Int×Nat×Nat×(Int×Unit)×(Int×Unit)×(List jd)×(List mw)
abbrev aI.L1.Y:=Nat×Nat×(Int×Unit)×(Int×Unit)×(List jd)×(List mw)
abbrev aI.L2.D:=Int×Nat×Int×Int×Int×Int×Nat×Nat×(Int×Unit)×(Int×Unit)×(List jd)×(List mw)×(List uB)
abbrev aI.L2.Y:=(List uB)×(List uB)
abbrev aI.L2.X:=(Int×Int×Int×Nat×Nat×(Int×Unit)×(Int×Unit)×(List jd)×(List mw))×((List uB)×(List uB))
def aI.L2.add:aI.L2.D->aI.L2.Y->aI.L2.X:=λ(kv,lL,zJ,zK,t51,t52,zf,zg,ug,pd,Fy,zb,n49) y=>((kv,zJ,zK,zf,zg,ug,pd,Fy,zb),y)
abbrev aI.D:=jI
abbrev aI.Y:=Nat×((List mw)×(Int×Unit))×(List jd)
def aI.L0.aY:aI.L0.D->Prop:=λ(m,i,L,L2,u,v,l,os)=>(l.length<=1000/\∀x∈l,x.2.1.2.1.length<=1000000)/\∃k:Nat,k<=l.length/\i=k/\m=l.length/\L=l.length
def aI.L0.F:aI.L0.D->aI.L0.Y:=λ(m,i,L,L2,u,v,l,os)=>l
def aI.L2.aY:aI.L2.D->Prop:=λ(kv,L,m1,i1,m,i,L5,L6,u,v,ls,os,bs)=>(bs.length<=1000/\∀x∈bs,x.1.length<=1000000)/\∃k:Nat,k<=bs.length/\i=k/\m=bs.length/\L=bs.length
def aI.L2.F:aI.L2.D->aI.L2.Y:=λ(kv,L,m1,i1,m,i,L5,L6,u,v,ls,os,bs)=>(bs,bs)
def aI.L1.aY:aI.L1.D->Prop:=λ(m,i,L3,L,u,v,ls,os)=>(os.length<=1000/\∀x∈os,x.2.1.1.length<=1000/\∀b∈x.2.1.1,b.1.length<=1000000)/\∃k:Nat,k<=os.length/\i=k/\m=os.length/\L=os.length
def aI.L1.F:aI.L1.D->aI.L1.Y:=λ(m,i,L3,L,u,v,ls,os)=>(L3,L,u,v,ls,os)
def aI.aY:aI.D->Prop:=λt=>kU t=true
def aI.F:aI.D->aI.Y:=λt=>(t.1.length,(t.2.1,t.2.2),t.1)
def aI.L0:Ls aI.L0.aY aI.L0.add aI.L0.F:=tq (λ(t17,t18,Cu,ze,n1,n2,n9,n12)=>⟨([.undef,.ptr (.new 1 0) 0 [] 0,.ptr (.new 2 0) 0 [] 0]++bB 14 ([.d ti t17,.d ti t18]++bB 56 [])),[],([[],[.obj 0 false (.pr (.cD (.new 9 0) 0 [] 0 0 Cu) (.pr (.cD (.new 12 0) 0 [] 0 0 ze) (.d (.pair ti .unit) n1)))],[.obj 0 false (.pr (.db) (.pr (.db) (.d (.pair ti .unit) n2)))]]++cR 6 ([[.obj 0 false (.vec 52 ka n9)],[],[],[.obj 0 false (.vec 36 mu n12)]]++cR 62 []))⟩) (λx=>(.exit 0,⟨([.undef,.ptr (.new 1 0) 0 [] 0,.ptr (.new 2 0) 0 [] 0]++bB 72 []),[],([[],[.obj 0 false (.pr (.cD (.new 9 0) 0 [] 0 0 x.1.1) (.pr (.cD (.new 12 0) 0 [] 0 0 x.1.2.1) (.d (.pair ti .unit) x.1.2.2.1)))],[.obj 0 false (.pr (.db) (.pr (.db) (.d (.pair ti .unit) x.1.2.2.2.1)))]]++cR 6 ([[.obj 0 false (.vec 52 ka x.2)],[],[],[.obj 0 false (.vec 36 mu x.1.2.2.2.2)]]++cR 62 []))⟩))
def aI.L1:Ls aI.L1.aY bU aI.L1.F:=tq (λ(t38,t39,DL,Bc,wB,qd,Jr,za)=>⟨([.undef,.ptr (.new 1 0) 0 [] 0,.ptr (.new 2 0) 0 [] 0]++bB 35 ([.d ti t38,.d ti t39]++bB 35 [])),[],([[],[.obj 0 false (.pr (.cD (.new 9 0) 0 [] 0 0 DL) (.pr (.cD (.new 12 0) 0 [] 0 0 Bc) (.d (.pair ti .unit) wB)))],[.obj 0 false (.pr (.db) (.pr (.db) (.d (.pair ti .unit) qd)))]]++cR 6 ([[.obj 0 false (.vec 52 ka Jr)],[],[],[.obj 0 false (.vec 36 mu za)]]++cR 62 []))⟩) (λx=>(.exit 2,⟨([.undef,.ptr (.new 1 0) 0 [] 0,.ptr (.new 2 0) 0 [] 0]++bB 72 []),[],([[],[.obj 0 false (.pr (.cD (.new 9 0) 0 [] 0 0 x.1) (.pr (.cD (.new 12 0) 0 [] 0 0 x.2.1) (.d (.pair ti .unit) x.2.2.1)))],[.obj 0 false (.pr (.db) (.pr (.db) (.d (.pair ti .unit) x.2.2.2.1)))]]++cR 6 ([[.obj 0 false (.vec 52 ka x.2.2.2.2.1)],[],[],[.obj 0 false (.vec 36 mu x.2.2.2.2.2)]]++cR 62 []))⟩))
def aI.L2:Ls aI.L2.aY aI.L2.add aI.L2.F:=tq (λ(kv,lL,zJ,zK,t51,t52,zf,zg,ug,pd,Fy,zb,n49)=>⟨([.undef,.ptr (.new 1 0) 0 [] 0,.ptr (.new 2 0) 0 [] 0,.undef,.d ti kv,.cD (.new 49 0) 0 [] 0 0 lL]++bB 32 ([.d ti zJ,.d ti zK]++bB 11 ([.d ti t51,.d ti t52]++bB 22 []))),[],([[],[.obj 0 false (.pr (.cD (.new 9 0) 0 [] 0 0 zf) (.pr (.cD (.new 12 0) 0 [] 0 0 zg) (.d (.pair ti .unit) ug)))],[.obj 0 false (.pr (.db) (.pr (.db) (.d (.pair ti .unit) pd)))]]++cR 6 ([[.obj 0 false (.vec 52 ka Fy)],[],[],[.obj 0 false (.vec 36 mu zb)]]++cR 36 ([[.obj 0 false (.vec 29 pR n49)]]++cR 25 [])))⟩) (λx=>(.exit 4,⟨([.undef,.ptr (.new 1 0) 0 [] 0,.ptr (.new 2 0) 0 [] 0,.undef,.d ti x.1.1,.d (.slice pR) x.2.1]++bB 32 ([.d ti x.1.2.1,.d ti x.1.2.2.1]++bB 35 [])),[],([[],[.obj 0 false (.pr (.cD (.new 9 0) 0 [] 0 0 x.1.2.2.2.1) (.pr (.cD (.new 12 0) 0 [] 0 0 x.1.2.2.2.2.1) (.d (.pair ti .unit) x.1.2.2.2.2.2.1)))],[.obj 0 false (.pr (.db) (.pr (.db) (.d (.pair ti .unit) x.1.2.2.2.2.2.2.1)))]]++cR 6 ([[.obj 0 false (.vec 52 ka x.1.2.2.2.2.2.2.2.1)],[],[],[.obj 0 false (.vec 36 mu x.1.2.2.2.2.2.2.2.2)]]++cR 36 ([[.obj 0 true (.vec 29 pR x.2.2)]]++cR 25 [])))⟩))
def aI:Fs Tryz.prog aI.aY bU aI.F:=gh 70 Tryz.f70 (λt=>([.d oO t],[])) (λx=>⟨.pr (.cD (.new 0 0) 0 [] 0 0 x.1) (.d (.pair (.slice mu) (.pair ti .unit)) x.2.1),[],[.obj 0 false (.vec 52 ka x.2.2)]⟩) [some oO] [mo.sg,iF.sg,iG.sg,kK.sg,eI.sg] {bo:=[1],loops:=rH [(3,{bI:=[1,2,17,18],sites:=[1,2,9,12]}),(8,{bI:=[1,2,38,39],sites:=[1,2,9,12]}),(12,{bI:=[1,2,4,5,38,39,51,52],sites:=[1,2,9,12,49]})],outs:=rG [(3,{bI:=[1,2],sites:=[1,2,9,12]},{bI:=[2]}),(8,{bI:=[1,2],sites:=[1,2,9,12]},{bI:=[2]}),(12,{bI:=[1,2,4,5,38,39],sites:=[1,2,9,12,49],data:=[(5,(.slice pR))]},{bI:=[2]})],jP:=sh [(3,aI.L0.E),(8,aI.L1.E),(12,aI.L2.E)],EZ:=[⟨2,[.snd,.fst],(.slice mu)⟩]}
theorem aI.L0.run:aI.L0.RS:=rL [.d ti,.d ti,.n,.n,.d (.pair ti .unit),.d (.pair ti .unit),.d (.slice ka),.d (.slice mu)] aI.L0
theorem aI.L0.step{R:Type}(t17 t18 Cu ze n1 n2 n9 n12)(kn:K2 R)(kx:K3 R):aI.R 0 aI.L0 (t17,t18,Cu,ze,n1,n2,n9,n12) kn kx=
  aK ((iI t18 t17)) (
   aK (fa t18 ((Cu:Nat):Int)) (
   aK (decide ((0+(Int.toNat t18)) < (List.length n9))) (
   aK (decide ((((0+(Int.toNat t18))*36)+34)=(((0+((Int.toNat t18)*36))+33)+1))) (
   aA (iG.call (nth ka n9 (0+(Int.toNat t18))).2.1.2.1) λx1=>
   aK (fa t18 ((Cu:Nat):Int)) (
   aK (decide ((0+(Int.toNat t18)) < (List.length n9))) (
   aK (decide ((((0+(Int.toNat t18))*36)+34)=(((0+((Int.toNat t18)*36))+33)+1))) (
   aK (decide ((0+(Int.toNat t18)) < (List.length n9))) (
   kn (aI.L0.st (t17,(bN .i64 t18 1),Cu,ze,n1,n2,(List.set n9 (0+(Int.toNat t18)) ((nth ka n9 (0+(Int.toNat t18))).1,(((nth ka n9 (0+(Int.toNat t18))).2.1.1,(x1,(nth ka n9 (0+(Int.toNat t18))).2.1.2.2)),(nth ka n9 (0+(Int.toNat t18))).2.2))),n12))) none) none) none) none) none) none) none) (
   aI.L0.go kx ((Cu,ze,n1,n2,n12),n9)):=by kernel_rfl
theorem aI.L1.run:aI.L1.RS:=rL [.d ti,.d ti,.n,.n,.d (.pair ti .unit),.d (.pair ti .unit),.d (.slice ka),.d (.slice mu)] aI.L1
theorem aI.L1.step{R:Type}(t38 t39 DL Bc wB qd Jr za)(kn:K2 R)(kx:K3 R):aI.R 1 aI.L1 (t38,t39,DL,Bc,wB,qd,Jr,za) kn kx=
  aK ((iI t39 t38)) (
   aK (fa t39 ((Bc:Nat):Int)) (
   aK (decide ((0+(Int.toNat t39)) < (List.length za))) (
   aK (decide ((((0+(Int.toNat t39))*2)+1)=(((0+((Int.toNat t39)*2))+1)+0))) (
   aA (kK.call (nth mu za (0+(Int.toNat t39))).2.1.1) λx1=>
   aA (aI.L2.call (t39,x1.1,t38,t39,((x1.1:Nat):Int),0,DL,Bc,wB,qd,Jr,za,x1.2)) λx2=>
   aK (fa x2.1.1 ((x2.1.2.2.2.2.1:Nat):Int)) (
   aK (decide ((0+(Int.toNat x2.1.1)) < (List.length x2.1.2.2.2.2.2.2.2.2))) (
   aK (decide ((((0+(Int.toNat x2.1.1))*2)+1)=(((0+((Int.toNat x2.1.1)*2))+1)+0))) (
   aK (decide ((0+(Int.toNat x2.1.1)) < (List.length x2.1.2.2.2.2.2.2.2.2))) (
   kn (aI.L1.st (x2.1.2.1,(bN .i64 x2.1.2.2.1 1),x2.1.2.2.2.1,x2.1.2.2.2.2.1,x2.1.2.2.2.2.2.1,x2.1.2.2.2.2.2.2.1,x2.1.2.2.2.2.2.2.2.1,(List.set x2.1.2.2.2.2.2.2.2.2 (0+(Int.toNat x2.1.1)) ((nth mu x2.1.2.2.2.2.2.2.2.2 (0+(Int.toNat x2.1.1))).1,((x2.2.1,(nth mu x2.1.2.2.2.2.2.2.2.2 (0+(Int.toNat x2.1.1))).2.1.2),(nth mu x2.1.2.2.2.2.2.2.2.2 (0+(Int.toNat x2.1.1))).2.2)))))) none) none) none) none) none) none) none) (
   aI.L1.go kx (DL,Bc,wB,qd,Jr,za)):=by kernel_rfl
theorem aI.L2.run:aI.L2.RS:=rL [.d ti,.n,.d ti,.d ti,.d ti,.d ti,.n,.n,.d (.pair ti .unit),.d (.pair ti .unit),.d (.slice ka),.d (.slice mu),.d (.slice pR)] aI.L2
theorem aI.L2.step{R:Type}(kv lL zJ zK t51 t52 zf zg ug pd Fy zb n49)(kn:K2 R)(kx:K3 R):aI.R 2 aI.L2 (kv,lL,zJ,zK,t51,t52,zf,zg,ug,pd,Fy,zb,n49) kn kx=
  aK ((iI t52 t51)) (
   aK (fa t52 ((lL:Nat):Int)) (
   aK (decide ((0+(Int.toNat t52)) < (List.length n49))) (
   aK (decide ((((0+(Int.toNat t52))*4)+0)=((0+((Int.toNat t52)*4))+0))) (
   aA (eI.call (nth pR n49 (0+(Int.toNat t52))).1) λx1=>
   aK (fa t52 ((lL:Nat):Int)) (
   aK (decide ((0+(Int.toNat t52)) < (List.length n49))) (
   aK (decide ((((0+(Int.toNat t52))*4)+0)=((0+((Int.toNat t52)*4))+0))) (
   aK (decide ((0+(Int.toNat t52)) < (List.length n49))) (
   kn (aI.L2.st (kv,lL,zJ,zK,t51,(bN .i64 t52 1),zf,zg,ug,pd,Fy,zb,(List.set n49 (0+(Int.toNat t52)) (x1,(nth pR n49 (0+(Int.toNat t52))).2))))) none) none) none) none) none) none) none) (
   aK (decide (0=0/\(0+lL)<=(List.length n49))) (
   aI.L2.go kx ((kv,zJ,zK,zf,zg,ug,pd,Fy,zb),((cut n49 0 lL),n49))) none):=by kernel_rfl
theorem aI.eq{R:Type}(t)(k:K1 R):aI.A t k=
 aA (mo.call t.1) λx1=>
 aA (iF.call t.2.1) λx2=>
 aA (aI.L0.call (((x1.1:Nat):Int),0,x1.1,x2.1,t.2.2,(0,()),x1.2,x2.2)) λx4=>
 aA (aI.L1.call (((x4.1.2.1:Nat):Int),0,x4.1.1,x4.1.2.1,x4.1.2.2.1,x4.1.2.2.2.1,x4.2,x4.1.2.2.2.2)) λx8=>
 aK (decide (0=0/\(0+x8.2.1)<=(List.length x8.2.2.2.2.2))) (
 k (aI.out (x8.1,((cut x8.2.2.2.2.2 0 x8.2.1),x8.2.2.1),x8.2.2.2.2.1))) none:=by kernel_rfl
theorem aI.L0.ok:(aI.mO 0 aI.L0):=by
 refine(aI.oG 0 aI.L0) (λ(m,i,L,L2,u,v,l,os)=>l.length - Int.toNat i) ?_
 rintro⟨m,i,L,L2,u,v,l,os⟩ ⟨⟨hlen,hx⟩,k,hk,rfl,rfl,rfl⟩
 have hlen:l.length<=1000:=hlen
 have hk:k<=l.length:=hk
 by_cases h:k < l.length
 ·left
  have n1:nth ka l k=l[k]:=dM (t:=ka) h
  have hs:l.set k l[k]=l:=eU h
  have e:=hx _ (b5 h)
  refine⟨((l.length:Int),((k+1:Nat):Int),l.length,L2,u,v,l,os),⟨⟨hlen,hx⟩,k+1,by omega,rfl,rfl,rfl⟩,by simp only[aa];omega,rfl,λkn kx=> ?_⟩
  rw[aI.L0.step,bA (by omega),bJ (by omega) (by omega)]
  simp only[aa,aN,cq,dz,Nat.reduceAdd,aj,aX h,decide_true,n1]
  rw[iG.run (d:=l[k].2.1.2.1) e]
  simp only[ah,bU,iG.F]
  rw[N.rD (by omega)]
  exact congrArg (λz=>kn (aI.L0.st (_,_,_,_,_,_,z,_))) hs
 ·right
  obtain rfl:k=l.length:=by omega
  intro R kn kx
  rw[aI.L0.step,bl (by omega),au]
  rfl
theorem aI.L2.ok:(aI.mO 2 aI.L2):=by
 refine(aI.oG 2 aI.L2) (λ(kv,L,m1,i1,m,i,L5,L6,u,v,ls,os,bs)=>bs.length - Int.toNat i) ?_
 rintro⟨kv,L,m1,i1,m,i,L5,L6,u,v,ls,os,bs⟩ ⟨⟨hlen,hx⟩,k,hk,rfl,rfl,rfl⟩
 have hlen:bs.length<=1000:=hlen
 have hk:k<=bs.length:=hk
 by_cases h:k < bs.length
 ·left
  have n1:nth pR bs k=bs[k]:=dM (t:=pR) h
  have hs:bs.set k bs[k]=bs:=eU h
  have e:=hx _ (b5 h)
  refine⟨(kv,bs.length,m1,i1,(bs.length:Int),((k+1:Nat):Int),L5,L6,u,v,ls,os,bs),⟨⟨hlen,hx⟩,k+1,by omega,rfl,rfl,rfl⟩,by simp only[aa];omega,rfl,λkn kx=> ?_⟩
  rw[aI.L2.step,bA (by omega),bJ (by omega) (by omega)]
  simp only[aa,aN,cq,dz,Nat.reduceAdd,aj,aX h,decide_true,n1]
  rw[eI.run (d:=bs[k].1) e]
  simp only[ah,bU,eI.F]
  rw[N.rD (by omega)]
  exact congrArg (λz=>kn (aI.L2.st (_,_,_,_,_,_,_,_,_,_,_,_,z))) hs
 ·right
  obtain rfl:k=bs.length:=by omega
  intro R kn kx
  rw[aI.L2.step,bl (by omega),au]
  simp only[aN,ax,and_self,decide_true,aj,iq]
  rfl
theorem aI.L1.ok:(aI.mO 1 aI.L1):=by
 refine(aI.oG 1 aI.L1) (λ(m,i,L3,L,u,v,ls,os)=>os.length - Int.toNat i) ?_
 rintro⟨m,i,L3,L,u,v,ls,os⟩ ⟨⟨hlen,hx⟩,k,hk,rfl,rfl,rfl⟩
 have hlen:os.length<=1000:=hlen
 have hk:k<=os.length:=hk
 by_cases h:k < os.length
 ·left
  have n1:nth mu os k=os[k]:=dM (t:=mu) h
  have hs:os.set k os[k]=os:=eU h
  have e:=hx _ (b5 h)
  refine⟨((os.length:Int),((k+1:Nat):Int),L3,os.length,u,v,ls,os),⟨⟨hlen,hx⟩,k+1,by omega,rfl,rfl,rfl⟩,by simp only[aa];omega,rfl,λkn kx=> ?_⟩
  rw[aI.L1.step,bA (by omega),bJ (by omega) (by omega)]
  simp only[aa,aN,cq,dz,Nat.reduceAdd,aj,aX h,decide_true,n1]
  rw[kK.run (d:=os[k].2.1.1) (by show os[k].2.1.1.length<=_;have:=e.1;omega)]
  simp only[ah,bU,kK.F]
  rw[aI.L2.run (d:=((k:Int),os[k].2.1.1.length,(os.length:Int),(k:Int),(os[k].2.1.1.length:Int),0,L3,os.length,u,v,ls,os,os[k].2.1.1)) ⟨e,0,bh _,rfl,rfl,rfl⟩]
  simp only[ah,aI.L2.add,aI.L2.F,aa,n1,aj,aX h,bJ (show(0:Int)<=(k:Int) by omega) (show(k:Int) < (os.length:Int) by omega)]
  rw[N.rD (by omega)]
  exact congrArg (λz=>kn (aI.L1.st (_,_,_,_,_,_,_,z))) hs
 ·right
  obtain rfl:k=os.length:=by omega
  intro R kn kx
  rw[aI.L1.step,bl (by omega),au]
  rfl
theorem Jm{l:Lk}(h:pH l=true):l.1.length<=4/\∀b∈l.1,b.1.length<=12:=by
 unfold pH at h
 simp only[ag,cM,decide_eq_true_eq]at h
 refine⟨h.2.2,λb hb=> ?_⟩
 have:=h.1 b hb
 unfold tJ at this
 simp only[ag,decide_eq_true_eq]at this
 exact this.1
theorem aI.ok:aI.Ok:=by
 rintro⟨is,os,nt,u⟩ oo
 obtain⟨⟨_,a2,a3,_⟩,b1,b2⟩:=wO oo
 have a2:is.length<=64:=a2
 have a3:os.length<=64:=a3
 rw[aI.eq,mo.run (d:=is) (by show is.length<=_;omega),iF.run (d:=os) (by show os.length<=_;omega)]
 simp only[ah,bU,mo.F,bU,iF.F]
 rw[aI.L0.run (d:=(is.length,0,is.length,os.length,(nt,u),(0,()),is,os)) ⟨⟨by show is.length<=_;omega,λx hx=>by have:=(I6 (uU _ _ b1 x hx)).2.2.2.2;omega⟩,0,bh _,rfl,rfl,rfl⟩]
 simp only[ah,aI.L0.add,aI.L0.F]
 rw[aI.L1.run (d:=(os.length,0,is.length,os.length,(nt,u),(0,()),is,os)) ⟨⟨by show os.length<=_;omega,λx hx=>by
  have:=Jm (uj _ _ b2 x hx).2
  exact⟨by omega,λb hb=>by have:=this.2 b hb;omega⟩⟩,0,bh _,rfl,rfl,rfl⟩]
 simp only[ah,bU,aI.L1.F,aN,ax,and_self,decide_true,aj,iq]
 rfl
theorem aI.run:aI.RS:=rE [.d oO] aI
def aI.sg:=aI.gC aI.ok 3 ⟨.js aI.L0.ok,⟨.js aI.L1.ok,⟨.js aI.L2.ok,trivial⟩⟩⟩
def wj{α:Type}(p:α->Bool):List α->Int->Int⊕Unit
 |[],_=> .inr ()
 |x::xs,i=>if p x then .inl i else wj p xs (i+1)
def Ht{α:Type}(p:α->Bool)(l:List α):Int:=match wj p l 0 with | .inl i=>i | .inr _=> -1
theorem Dr{α:Type}(p:α->Bool):∀(l:List α) (i:Int),0<=i->(match wj p l i with | .inl i=>decide (i>=0) | .inr _=>false)=l.any p
 |[],_,_=>rfl
 |x::l,i,h=>by
  rw[wj,List.any_cons]
  cases hp:p x
  ·simp only[bK,if_false,Bool.false_or]
   exact Dr p l (i+1) (by omega)
  ·simp[h]
theorem Dq{α:Type}(p:α->Bool)(l:List α):qP (Ht p l) 0=l.any p:=by
 have:=Dr p l 0 (by omega)
 unfold Ht qP
 cases h:wj p l 0
 ·rw[h]at this;exact this
 ·rw[h]at this;rw[<-this];rfl
def uI(k:Int):Bool:=decide (¬(k < 2305843009213688669/\k≠0))
def pk(t:jI)(i br:Int)(ks:List Int):Bool:=kU t && (decide (0<=i/\i < t.1.length/\0<=br/\br < 4/\ks.length<=12) && !(ks.any uI))
def nY(t:jI)(i br:Int)(ks:List Int)(sc:Int):jI×Int:=
 if pk t i br ks then((t.1.set i.toNat ((nth ka t.1 i.toNat).1,(br,ks.map (λk=>rB k (Er t)),sc,()),()),t.2),0) else(([],[],0,()),1)
theorem NC{t:jI}:Sm (Er t):=by
 unfold Er
 split
 ·exact FR _ _
 ·exact⟨by rw[ck],λx hx=>by obtain rfl:=(List.mem_replicate.1 hx).2;exact⟨by decide,by decide⟩⟩
abbrev jl.D:=Int
abbrev jl.Y:=Bool
def jl.aY:jl.D->Prop:=λ_=>True
def jl.F:jl.D->jl.Y:=λk=>uI k
def jl:Fs Tryz.prog jl.aY bU jl.F:=gh 64 Tryz.f64 (λkv=>([.d tu kv],[])) (λx=>⟨.d .bool x,[],[]⟩) [some tu] [eL.sg]
theorem jl.eq{R:Type}(kv)(k:K1 R):jl.A kv k=
  aK ((BX kv 0)) (
   k (jl.out true)) (
   aA (eL.call kv) λx1=>
   k (jl.out (!x1))):=by kernel_rfl
theorem jl.ok:jl.Ok:=by
 intro(k:Int) _
 rw[jl.eq,eL.run (d:=k) trivial]
 simp only[bU,jl.F,uI,ah,bU,eL.F]
 by_cases h:k=0
 ·rw[j6 h,aj,aX (by omega)]
 ·rw[iV h,au]
  by_cases h2:k < 2305843009213688669
  ·rw[bA h2,cn (by omega)];rfl
  ·rw[bl h2,aX (by omega)];rfl
theorem jl.run:jl.RS:=rE [.d tu] jl
def jl.sg:=jl.gC jl.ok
abbrev aW.L0.D:=Bs×Int×Int
def aW.L0.st:aW.L0.D->AS:=λ(nE,t7,t8)=>⟨([.d tU nE,.fn 64 (.nil)]++bB 5 ([.d ti t7,.d ti t8]++bB 10 [])),[],(List.replicate 19 [])⟩
abbrev aW.L0.Y0:=Int
abbrev aW.L0.X0:=Int
def aW.L0.dm:aW.L0.X0->Exit×AS:=λx=>(.ret,⟨(bB 4 ([.d ti x]++bB 14 [])),[],(List.replicate 19 [])⟩)
abbrev aW.L0.Y1:=Unit
abbrev aW.L0.X1:=Unit
def aW.L0.gL:aW.L0.X1->Exit×AS:=λx=>(.exit 0,⟨(bB 19 []),[],(List.replicate 19 [])⟩)
abbrev aW.L0.X:=(aW.L0.X0)⊕(aW.L0.X1)
abbrev aW.L0.Y:=(aW.L0.Y0)⊕(aW.L0.Y1)
def aW.L0.out:aW.L0.X->Out (Exit×AS):=λx=> .br x.isLeft (.get x.getLeft? λa=> .ok (aW.L0.dm a)) (.get x.getRight? λb=> .ok (aW.L0.gL b))
def aW.L0.add:aW.L0.D->aW.L0.Y->aW.L0.X:=λ(nE,t7,t8) y=>match y with | .inl y=> .inl y | .inr z=> .inr (z)
abbrev aW.D:=Bs
abbrev aW.Y:=Int
def aW.L0.aY:aW.L0.D->Prop:=λ(l,n,i)=>(∀x∈l,True)/\l.length<=1000000000/\n=l.length/\∃k:Nat,k<=l.length/\i=k
def aW.L0.F:aW.L0.D->aW.L0.Y:=λ(l,n,i)=>wj uI (l.drop i.toNat) i
def aW.aY:aW.D->Prop:=λl=>(∀x∈l,True)/\l.length<=1000000000
def aW.F:aW.D->aW.Y:=λl=>Ht uI l
def aW.L0.E:=eE.js aW.L0.st aW.L0.aY aW.L0.add aW.L0.F aW.L0.out
def aW.L0.call:aW.L0.D->Option aW.L0.X:=kJ aW.L0.E aW.L0.st
def aW:Fs Tryz.prog aW.aY bU aW.F:=gh 133 Tryz.f133 (λsv=>([.d tU sv,.fn 64 (.nil)],[])) (λx=>⟨.d ti x,[],[]⟩) [some tU,none] [jl.sg] {loops:=rH [(2,{bI:=[0,1,7,8]})],outs:=rG [(2,{},{bI:=[4]})],jP:=sh [(2,aW.L0.E)]}
def aW.L0.R:= @iA Tryz.prog (mR aW.G) aW.an 0 Tryz.f133 0 _ aW.L0.st
abbrev aW.L0.Ok:=pE Tryz.prog (mR aW.G) aW.an 0 Tryz.f133 0 aW.L0.st aW.L0.aY aW.L0.add aW.L0.F aW.L0.out
theorem aW.L0.run:nI aW.L0.call aW.L0.aY aW.L0.add aW.L0.F:=qz (qa [.d tU,.d ti,.d ti] λ_=>by kernel_rfl)
theorem aW.L0.c8:qk @aW.L0.R aW.L0.st aW.L0.aY aW.L0.add aW.L0.F aW.L0.out aW.L0.Ok:=qI
theorem aW.L0.step{R:Type}(nE:Bs)(t7:Int)(t8:Int)(kn:AS->Option R)(kx:Exit->AS->Option R):aW.L0.R (nE,t7,t8) kn kx=
  aK ((iI t8 t7)) (
   aK (fa t8 (((List.length nE):Nat):Int)) (
   aA (jl.call (nth tu nE (Int.toNat t8))) λx1=>
   aK (x1) (
    kx (aW.L0.dm t8).1 (aW.L0.dm t8).2) (
    kn (aW.L0.st (nE,t7,(bN .i64 t8 (1:Int)))))) none) (
   kx (aW.L0.gL ()).1 (aW.L0.gL ()).2):=by kernel_rfl
theorem aW.eq{R:Type}(sv)(k:K1 R):aW.A sv k=
  aA (aW.L0.call (sv,(sv.length:Int),0)) λx2=>
  aK (x2.isLeft) (
   aA (x2.getLeft?) λa3=>
   k (aW.out a3)) (
   aA (x2.getRight?) λb4=>
   k (aW.out (-1))):=by kernel_rfl
theorem aW.L0.ok:aW.L0.Ok:=by
 refine aW.L0.c8 (λ(l,n,i)=>l.length - i.toNat) ?_
 rintro⟨l,n,i⟩ ⟨hl,hb,rfl,k,hk,rfl⟩
 have hb:l.length<=1000000000:=hb
 have hk:k<=l.length:=hk
 by_cases h:k < l.length
 ·have hx:=hl _ (b5 h)
  have n1:nth tu l k=l[k]:=dM (t:=tu) h
  have hd:wj uI (l.drop k) k=if uI l[k] then .inl (k:Int) else wj uI (l.drop (k+1)) ((k+1:Nat):Int):=by rw[aC h];rfl
  have step:∀ {R:Type} (kn:AS->Option R) (kx:Exit->AS->Option R),aW.L0.R (l,(l.length:Int),(k:Int)) kn kx=aK (uI l[k]) (kx (aW.L0.dm (k:Int)).1 (aW.L0.dm (k:Int)).2) (kn (aW.L0.st (l,(l.length:Int),((k+1:Nat):Int)))):=by
   intro R kn kx
   rw[aW.L0.step,bA (by omega),bJ (by omega) (by omega),aa,n1,jl.run (d:=l[k]) hx,N.rD (by omega)]
   rfl
  cases hp:uI l[k]
  ·left
   refine⟨(l,l.length,((k+1:Nat):Int)),⟨hl,hb,rfl,k+1,by omega,rfl⟩,by simp only[aa];omega,?_,λkn kx=> ?_⟩
   ·simp only[aW.L0.add,aW.L0.F,aa,hd,hp,bK,if_false]
   ·rw[step,hp,au]
  ·right
   refine⟨aW.L0.dm (k:Int),?_,λkn kx=> ?_⟩
   ·simp only[aW.L0.add,aW.L0.F,aa,hd,hp,if_true]
    rfl
   ·rw[step,hp,aj]
 ·right
  obtain rfl:k=l.length:=by omega
  refine⟨aW.L0.gL (),?_,λkn kx=> ?_⟩
  ·simp only[aW.L0.add,aW.L0.F,aa,bq]
   rfl
  ·rw[aW.L0.step,bl (by omega),au]
theorem aW.ok:aW.Ok:=by
 rintro l ⟨hl,hb⟩
 rw[aW.eq,aW.L0.run (d:=(l,l.length,0)) ⟨hl,hb,rfl,0,by omega,rfl⟩]
 simp only[ah,aW.L0.add,aW.L0.F,cF,aJ,bU,aW.F,Ht]
 cases wj uI l 0 <;> rfl
theorem aW.run:aW.RS:=rE [.d tU] aW
def aW.sg:=aW.gC aW.ok 1 ⟨.js aW.L0.ok,trivial⟩
abbrev dI.D:=Bs
abbrev dI.Y:=Bool
def dI.aY:dI.D->Prop:=λl=>(∀x∈l,True)/\l.length<=1000000000
def dI.F:dI.D->dI.Y:=λl=>l.any uI
def dI:Fs Tryz.prog dI.aY bU dI.F:=gh 68 Tryz.f68 (λsv=>([.d tU sv,.fn 64 (.nil)],[])) (λx=>⟨.d .bool x,[],[]⟩) [some tU,none] [aW.sg]
theorem dI.eq{R:Type}(sv)(k:K1 R):dI.A sv k=
 aA (aW.call sv) λx1=>
 k (dI.out (qP x1 0)):=by kernel_rfl
theorem dI.ok:dI.Ok:=by
 rintro l ⟨hl,hb⟩
 rw[dI.eq,aW.run (d:=l) ⟨hl,hb⟩]
 simp only[ah,bU,aW.F,Dq]
 rfl
theorem dI.run:dI.RS:=rE [.d tU] dI
def dI.sg:=dI.gC dI.ok
abbrev da.L0.D:=Int×Bs×Int×Int×jI×(Int×Unit)×Int×Nat×(Int×Unit)×Bs×(List Sg)
abbrev da.L0.Y:=EJ×(List Sg)
abbrev da.L0.X:=(Int×jI×(Int×Unit))×(EJ×(List Sg))
def da.L0.add:da.L0.D->da.L0.Y->da.L0.X:=λ(yS,t52,t53,t54,n5,n10,n13,Ai,Bb,n14,KM) y=>((yS,n5,n10),y)
abbrev da.D:=jI×Int×Int×Bs×Int
abbrev da.Y:=jI×Int
def da.L0.aY:da.L0.D->Prop:=λ(i0,l,n,i,t,e,br,L,sc,id,r)=>l.length<=1000/\(∀x∈l,kX x)/\Sm id/\∃k:Nat,k<=l.length/\i=k/\n=l.length/\L=r.length/\r.length<=1000+k
def da.L0.F:da.L0.D->da.L0.Y:=λ(i0,l,n,i,t,e,br,L,sc,id,r)=>((br,r++(l.drop i.toNat).map (λk=>rB k id),sc),r++(l.drop i.toNat).map (λk=>rB k id))
def da.aY:da.D->Prop:=λ(t,i,br,ks,sc)=>Cq t/\(∀x∈ks,kX x)/\ks.length<=1000000000
def da.F:da.D->da.Y:=λ(t,i,br,ks,sc)=>nY t i br ks sc
def da.L0:Ls da.L0.aY da.L0.add da.L0.F:=tq (λ(yS,t52,t53,t54,n5,n10,n13,Ai,Bb,n14,KM)=>⟨([.undef,.d ti yS,.undef,.undef,.undef,.ptr (.new 5 0) 0 [] 0]++bB 4 ([.ptr (.new 10 0) 0 [] 0,.undef,.undef,.ptr (.new 13 0) 0 [] 0,.ptr (.new 14 0) 0 [] 0]++bB 37 ([.d tU t52,.d ti t53,.d ti t54]++bB 21 []))),[],(cR 5 ([[.obj 0 false (.d oO n5)]]++cR 4 ([[.obj 0 false (.pr (.db) (.pr (.db) (.d (.pair ti .unit) n10)))],[],[],[.obj 0 false (.pr (.d ti n13) (.pr (.cD (.new 64 0) 0 [] 0 0 Ai) (.d (.pair tu .unit) Bb)))],[.obj 0 false (.d tH n14)]]++cR 49 ([[.obj 0 false (.vec 135 Io KM)]]++cR 11 []))))⟩) (λx=>(.exit 0,⟨([.undef,.d ti x.1.1,.undef,.undef,.undef,.ptr (.new 5 0) 0 [] 0]++bB 4 ([.ptr (.new 10 0) 0 [] 0,.undef,.undef,.ptr (.new 13 0) 0 [] 0]++bB 62 [])),[],(cR 5 ([[.obj 0 false (.d oO x.1.2.1)]]++cR 4 ([[.obj 0 false (.pr (.db) (.pr (.db) (.d (.pair ti .unit) x.1.2.2)))],[],[],[.obj 0 false (.d PH x.2.1)]]++cR 50 ([[.obj 0 true (.vec 135 Io x.2.2)]]++cR 11 []))))⟩))
def da:Fs Tryz.prog da.aY bU da.F:=gh 16 Tryz.f16 (λ(t,inv,branch,keys,secret)=>([.d oO t,.d ti inv,.d ti branch,.d tU keys,.d tu secret],[])) (λx=>⟨.cons (.d oO x.1) (.cons (.d ti x.2) (.nil)),[],[]⟩) [some oO,some ti,some ti,some tU,some tu] [az.sg,kT.sg,dI.sg,tid.sg,ja.sg,aI.sg] {bo:=[5],loops:=rH [(7,{bI:=[1,5,10,13,14,52,53,54],sites:=[5,10,13,14,64],owns:=[⟨13,[.snd,.fst],64,48⟩]})],outs:=rG [(7,{bI:=[1,5,10,13],sites:=[5,10,13,64],EZ:=[⟨13,[.snd,.fst],(.slice Io)⟩]},{bI:=[10,11]})],jP:=sh [(7,da.L0.E)],res:=[some oO,none]}
theorem da.L0.run:da.L0.RS:=rL [.d ti,.d tU,.d ti,.d ti,.d oO,.d (.pair ti .unit),.d ti,.n,.d (.pair tu .unit),.d tB,.d (.slice Io)] da.L0
theorem da.L0.step{R:Type}(yS t52 t53 t54 n5 n10 n13 Ai Bb n14 KM)(kn:K2 R)(kx:K3 R):da.R 0 da.L0 (yS,t52,t53,t54,n5,n10,n13,Ai,Bb,n14,KM) kn kx=
  aK ((iI t54 t53)) (
   aK (fa t54 (t52.length:Int)) (
   aA (ja.call ((nth tu t52 (Int.toNat t54)),n14)) λx4=>
   aK (decide (Ai<=(List.length KM))) (
   aK (dT (Ai+1) 16) (
   kn (da.L0.st (yS,t52,t53,(bN .i64 t54 1),n5,n10,n13,(Ai+1),Bb,n14,((List.take Ai KM)++ [x4])))) none) none) none) (
   aK (decide (0=0/\(0+Ai)<=(List.length KM))) (
   da.L0.go kx ((yS,n5,n10),((n13,((cut KM 0 Ai),Bb)),KM))) none):=by kernel_rfl
theorem da.eq{R:Type}(t inv branch keys secret)(k:K1 R):da.A (t,inv,branch,keys,secret) k=
  aA (az.call t) λIp=>
  aK ((!Ip)) (
   k (da.out ((([]:List jd),(([]:List mw),(0,()))),1))) (
   aK ((iI inv 0)) (
    k (da.out ((([]:List jd),(([]:List mw),(0,()))),1))) (
    aK ((qP inv (t.1.length:Int))) (
     k (da.out ((([]:List jd),(([]:List mw),(0,()))),1))) (
     aA (kT.call (branch,(([]:List Sg),(secret,())))) λRW=>
     aK ((!RW)) (
      k (da.out ((([]:List jd),(([]:List mw),(0,()))),1))) (
      aK ((ot (keys.length:Int) 12)) (
       k (da.out ((([]:List jd),(([]:List mw),(0,()))),1))) (
       aA (dI.call keys) λF3=>
       aK (F3) (
        k (da.out ((([]:List jd),(([]:List mw),(0,()))),1))) (
        aA (tid.call t) λNK=>
        aA (da.L0.call (inv,keys,(keys.length:Int),0,t,(0,()),branch,0,(secret,()),NK,([]:List Sg))) λBv=>
        aA (aI.call Bv.1.2.1) λBw=>
        aK (fa Bv.1.1 ((Bw.1:Nat):Int)) (
        aK (decide ((0+(Int.toNat Bv.1.1)) < (List.length Bw.2.2))) (
        aK (decide ((((0+(Int.toNat Bv.1.1))*36)+33)=((0+((Int.toNat Bv.1.1)*36))+33))) (
        aK (decide ((0+(Int.toNat Bv.1.1)) < (List.length Bw.2.2))) (
        aK (decide (0=0/\(0+Bw.1)<=(List.length (List.set Bw.2.2 (0+(Int.toNat Bv.1.1)) ((nth ka Bw.2.2 (0+(Int.toNat Bv.1.1))).1,(Bv.2.1,(nth ka Bw.2.2 (0+(Int.toNat Bv.1.1))).2.2)))))) (
        k (da.out (((cut (List.set Bw.2.2 (0+(Int.toNat Bv.1.1)) ((nth ka Bw.2.2 (0+(Int.toNat Bv.1.1))).1,(Bv.2.1,(nth ka Bw.2.2 (0+(Int.toNat Bv.1.1))).2.2))) 0 Bw.1),Bw.2.1),0))) none) none) none) none) none)))))):=by kernel_rfl
theorem da.L0.ok:(da.mO 0 da.L0):=by
 refine(da.oG 0 da.L0) (λ(i0,l,n,i,t,e,br,L,sc,id,r)=>l.length - i.toNat) ?_
 rintro⟨i0,l,n,i,t,e,br,L,sc,id,r⟩ ⟨hlen,hu,hm,k,hk,rfl,rfl,rfl,hr⟩
 have hlen:l.length<=1000:=hlen
 have hk:k<=l.length:=hk
 have hr:r.length<=1000+k:=hr
 by_cases h:k < l.length
 ·left
  have n1:nth tu l k=l[k]:=dM (t:=tu) h
  have hd:List.drop k l=l[k]::List.drop (k+1) l:=aC h
  refine⟨(i0,l,l.length,((k+1:Nat):Int),t,e,br,r.length+1,sc,id,r++ [rB l[k] id]),⟨hlen,hu,hm,k+1,by omega,rfl,rfl,by rw[aq];rfl,by rw[aq];show r.length+1<=_;omega⟩,by simp only[aa];omega,?_,λkn kx=> ?_⟩
  ·simp only[da.L0.add,da.L0.F,aa,hd,bE,bg,eV]
  ·rw[da.L0.step,bA (by omega),bJ (by omega) (by omega),aa,n1,ja.run (d:=(l[k],id)) ⟨hu _ (b5 h),hm⟩]
   simp only[aj,ah,bU,ja.F]
   rw[aX (ax _),fL (by omega) (by omega),N.rD (by omega),cY]
   rfl
 ·right
  obtain rfl:k=l.length:=by omega
  intro R kn kx
  rw[da.L0.step,bl (by omega),au]
  simp only[da.L0.add,da.L0.F,aa,bq,gr,cH,aN,ax,and_self,decide_true,aj,iq]
theorem da.ok:da.Ok:=by
 rintro⟨⟨is,os,nt,u⟩,i,br,ks,sc⟩ ⟨hv,hu,hl⟩
 have hv:Cq (is,os,nt,u):=hv
 have hl:ks.length<=1000000000:=hl
 rw[da.eq,az.run (d:=(is,os,nt,u)) hv.1]
 simp only[ah,bU,az.F,bU,da.F,nY,pk]
 rcases fR (kU (is,os,nt,u)) with oo | oo
 rotate_left
 ·simp only[oo];rfl
 obtain⟨⟨_,a2,a3,_⟩,b1,b2⟩:=wO oo
 have a2:is.length<=64:=a2
 simp only[oo,b8,au,bX]
 by_cases h1:i < 0
 ·rw[bA h1,aj,cn (by omega)];rfl
 rw[bl h1,au]
 by_cases h2:i>=(is.length:Int)
 ·rw[fW h2,aj,cn (by omega)];rfl
 rw[eu h2,au,kT.run (d:=(br,([],(sc,())))) trivial]
 simp only[ah,bU,kT.F,rC]
 by_cases h3:0<=br/\br < 4
 ·rw[aX h3]
  by_cases h4:ks.length > 12
  ·rw[dv (by omega),cn (p:=0<=i/\i < (is.length:Int)/\0<=br/\br < 4/\ks.length<=12) (by omega)];rfl
  ·rw[cZ (by omega),aX (p:=0<=i/\i < (is.length:Int)/\0<=br/\br < 4/\ks.length<=12) (by omega),dI.run (d:=ks) ⟨λ_ _=>trivial,hl⟩]
   simp only[ah,bU,dI.F]
   rcases fR (ks.any uI) with hb | hb
   rotate_left
   ·simp only[hb]
    obtain⟨k,rfl⟩:∃k:Nat,i=k:=⟨i.toNat,by omega⟩
    have hk:k < is.length:=by omega
    simp only[show(([]:List Sg).length<=12)=True from eq_true (bh _),decide_true,Bool.and_self,b8,dr,au,bX,if_true]
    rw[tid.run (d:=(is,os,nt,u)) hv]
    simp only[ah,bU,tid.F]
    rw[da.L0.run (d:=((k:Int),ks,ks.length,0,(is,os,nt,u),(0,()),br,0,(sc,()),Er (is,os,nt,u),[])) ⟨by show ks.length<=_;omega,hu,NC,0,bh _,rfl,rfl,rfl,bh _⟩]
    simp only[ah,da.L0.add,da.L0.F,cF,aJ,aS]
    rw[aI.run (d:=(is,os,nt,u)) oo]
    simp only[ah,bU,aI.F,aa,aN,cq,bJ (show(0:Int)<=(k:Int) by omega) (show(k:Int) < (is.length:Int) by omega),aj,aX hk,decide_true,jw,ax,and_self]
    rw[iq (by rw[jw])]
   ·simp only[hb];rfl
 ·rw[cn h3,cn (p:=0<=i/\i < (is.length:Int)/\0<=br/\br < 4/\ks.length<=12) (by omega)];rfl
theorem da.run:da.RS:=rE [.d oO,.d ti,.d ti,.d tU,.d tu] da
def da.sg:=da.gC da.ok 1 ⟨.js da.L0.ok,trivial⟩
abbrev zS:=(mw×(Int×Unit))
abbrev lW.D:=Bs×Bs
abbrev lW.Y:=Int
def lW.aY:lW.D->Prop:=λ_=>True
def lW.F:lW.D->lW.Y:=λ(a,b)=>yi a b
def lW:Fs Tryz.prog lW.aY bU lW.F:=gh 82 Tryz.f82 (λ(a,b)=>([.d tB a,.d tB b],[])) (λx=>⟨.d ti x,[],[]⟩) [some tB,some tB] [⟨156,xJ,Gg.E,.of (Gg.of (fn:=Tryz.f156) (by kernel_rfl) (by kernel_rfl) (by kernel_rfl) (by kernel_rfl) (by kernel_rfl)) (by rfl)⟩]
theorem lW.eq{R:Type}(a b)(k:K1 R):lW.A (a,b) k=
 aA (Gg.call (a,b)) λx1=>
 k (lW.out x1):=by kernel_rfl
theorem lW.ok:lW.Ok:=by
 rintro⟨a,b⟩ _
 rw[lW.eq,Gg.run]
 rfl
theorem lW.run:lW.RS:=rE [.d tB,.d tB] lW
def lW.sg:=lW.gC lW.ok
abbrev l9.D:=Int
abbrev l9.Y:=Bool
def l9.aY:l9.D->Prop:=λ_=>True
def l9.F:l9.D->l9.Y:=λ_=>false
def l9:Fs Tryz.prog l9.aY bU l9.F:=gh 157 Tryz.f157 (λx=>([.d ti x],[])) (λx=>⟨.d .bool x,[],[]⟩) [some ti]
theorem l9.eq{R:Type}(x)(k:K1 R):l9.A x k=
 k (l9.out (uD x x)):=by kernel_rfl
theorem l9.ok:l9.Ok:=by
 intro x _
 rw[l9.eq]
 simp only[bU,l9.F,eX rfl]
theorem l9.run:l9.RS:=rE [.d ti] l9
def l9.sg:=l9.gC l9.ok
def rT(x y:Int):Int:=if x < y then -1 else if x > y then 1 else 0
abbrev jq.D:=Int×Int
abbrev jq.Y:=Int
def jq.aY:jq.D->Prop:=λ_=>True
def jq.F:jq.D->jq.Y:=λ(x,y)=>rT x y
def jq:Fs Tryz.prog jq.aY bU jq.F:=gh 83 Tryz.f83 (λ(x,yv)=>([.d ti x,.d ti yv],[])) (λx=>⟨.d ti x,[],[]⟩) [some ti,some ti] [l9.sg]
theorem jq.eq{R:Type}(x yv)(k:K1 R):jq.A (x,yv) k=
  aA (l9.call x) λx1=>
  aA (l9.call yv) λx2=>
  aK (x1) (
   aK (x2) (
    k (jq.out 0)) (
    k (jq.out (-1)))) (
   aK (x2) (
    k (jq.out 1)) (
    aK ((iI x yv)) (
     k (jq.out (-1))) (
     aK ((ot x yv)) (
      k (jq.out 1)) (
      k (jq.out 0))))):=by kernel_rfl
theorem jq.ok:jq.Ok:=by
 rintro⟨x,y⟩ _
 rw[jq.eq,l9.run (d:=x) trivial]
 simp only[ah,bU,l9.F]
 rw[l9.run (d:=y) trivial]
 simp only[ah,bU,l9.F,au,bU,jq.F,rT]
 by_cases h:x < y
 ·rw[bA h,aj,if_pos h]
 ·rw[bl h,au,if_neg h]
  by_cases h2:x > y
  ·rw[dv h2,aj,if_pos h2]
  ·rw[cZ h2,au,if_neg h2]
theorem jq.run:jq.RS:=rE [.d ti,.d ti] jq
def jq.sg:=jq.gC jq.ok
abbrev fh.L0.D:=Int×(List Int)×Int×Int
def fh.L0.st:fh.L0.D->AS:=λ(zero,t6,t7,t8)=>⟨([.undef,.undef,.undef,.d ti zero,.undef,.undef,.d (.slice ti) t6,.d ti t7,.d ti t8]++bB 9 []),[],(List.replicate 18 [])⟩
abbrev fh.L0.Y0:=Int
abbrev fh.L0.X0:=Int
def fh.L0.dm:fh.L0.X0->Exit×AS:=λx=>(.ret,⟨([.undef,.undef,.d ti x]++bB 15 []),[],(List.replicate 18 [])⟩)
abbrev fh.L0.Y1:=Unit
abbrev fh.L0.X1:=Int
def fh.L0.gL:fh.L0.X1->Exit×AS:=λx=>(.exit 0,⟨([.undef,.undef,.undef,.d ti x]++bB 14 []),[],(List.replicate 18 [])⟩)
abbrev fh.L0.X:=(fh.L0.X0)⊕(fh.L0.X1)
abbrev fh.L0.Y:=(fh.L0.Y0)⊕(fh.L0.Y1)
def fh.L0.out:fh.L0.X->Out (Exit×AS):=λx=> .br x.isLeft (.get x.getLeft? λa=> .ok (fh.L0.dm a)) (.get x.getRight? λb=> .ok (fh.L0.gL b))
def fh.L0.add:fh.L0.D->fh.L0.Y->fh.L0.X:=λ(zero,t6,t7,t8) y=>match y with | .inl y=> .inl y | .inr z=> .inr (zero)
abbrev fh.D:=(List Int)
abbrev fh.Y:=Int
def LX:List Int->Int
 |[]=>0
 |x::l=>if x≠0 then x else LX l
def LY:List Int->Int⊕Unit
 |[]=> .inr ()
 |x::l=>if x≠0 then .inl x else LY l
theorem LZ:∀l:List Int,LX l=match LY l with | .inl x=>x | .inr _=>0
 |[]=>rfl
 |x::l=>by
  simp only[LX,LY]
  split
  ·rfl
  ·exact LZ l
def fh.L0.aY:fh.L0.D->Prop:=λ(z,l,n,i)=>z=0/\l.length<=1000000000/\n=l.length/\∃k:Nat,k<=l.length/\i=k
def fh.L0.F:fh.L0.D->fh.L0.Y:=λ(z,l,n,i)=>LY (l.drop i.toNat)
def fh.aY:fh.D->Prop:=λl=>l.length<=1000000000
def fh.F:fh.D->fh.Y:=λl=>LX l
def fh.L0.E:=eE.js fh.L0.st fh.L0.aY fh.L0.add fh.L0.F fh.L0.out
def fh.L0.call:fh.L0.D->Option fh.L0.X:=kJ fh.L0.E fh.L0.st
def fh:Fs Tryz.prog fh.aY bU fh.F:=gh 81 Tryz.f81 (λiE=>([.d (.slice ti) iE],[])) (λx=>⟨.d ti x,[],[]⟩) [some (.slice ti)] [] {loops:=rH [(3,{bI:=[3,6,7,8]})],outs:=rG [(3,{bI:=[3]},{bI:=[2]})],jP:=sh [(3,fh.L0.E)]}
def fh.L0.R:= @iA Tryz.prog (mR fh.G) fh.an 0 Tryz.f81 0 _ fh.L0.st
abbrev fh.L0.Ok:=pE Tryz.prog (mR fh.G) fh.an 0 Tryz.f81 0 fh.L0.st fh.L0.aY fh.L0.add fh.L0.F fh.L0.out
theorem fh.L0.run:nI fh.L0.call fh.L0.aY fh.L0.add fh.L0.F:=qz (qa [.d ti,.d (.slice ti),.d ti,.d ti] λ_=>by kernel_rfl)
theorem fh.L0.c8:qk @fh.L0.R fh.L0.st fh.L0.aY fh.L0.add fh.L0.F fh.L0.out fh.L0.Ok:=qI
theorem fh.L0.step{R:Type}(zero:Int)(t6:(List Int))(t7:Int)(t8:Int)(kn:AS->Option R)(kx:Exit->AS->Option R):fh.L0.R (zero,t6,t7,t8) kn kx=
  aK ((iI t8 t7)) (
   aK (fa t8 (((List.length t6):Nat):Int)) (
   aK ((uD (nth ti t6 (Int.toNat t8)) zero)) (
    kx (fh.L0.dm (nth ti t6 (Int.toNat t8))).1 (fh.L0.dm (nth ti t6 (Int.toNat t8))).2) (
    kn (fh.L0.st (zero,t6,t7,(bN .i64 t8 (1:Int)))))) none) (
   kx (fh.L0.gL zero).1 (fh.L0.gL zero).2):=by kernel_rfl
theorem fh.eq{R:Type}(iE)(k:K1 R):fh.A iE k=
  aA (fh.L0.call (0,iE,(iE.length:Int),0)) λx1=>
  aK (x1.isLeft) (
   aA (x1.getLeft?) λa2=>
   k (fh.out a2)) (
   aA (x1.getRight?) λb3=>
   k (fh.out b3)):=by kernel_rfl
theorem fh.L0.ok:fh.L0.Ok:=by
 refine fh.L0.c8 (λ(z,l,n,i)=>l.length - i.toNat) ?_
 rintro⟨z,l,n,i⟩ ⟨rfl,hl,rfl,k,hk,rfl⟩
 by_cases h:k < l.length
 ·have hd:l.drop k=l[k]::l.drop (k+1):=aC h
  have n1:nth ti l k=l[k]:=dM (t:=ti) h
  by_cases h2:l[k]≠0
  ·right
   refine⟨fh.L0.dm l[k],?_,λkn kx=> ?_⟩
   rotate_left
   ·rw[fh.L0.step,bA (by omega),aj,bJ (by omega) (by omega),aj,aa,n1,iX h2,aj]
   ·simp only[fh.L0.add,fh.L0.F,aa,hd,LY,if_pos h2]
    rfl
  ·left
   refine⟨(0,l,(l.length:Int),((k+1:Nat):Int)),⟨rfl,hl,rfl,k+1,by omega,rfl⟩,by simp only[aa];omega,?_,λkn kx=> ?_⟩
   ·simp only[fh.L0.add,fh.L0.F,aa,hd,LY,if_neg h2]
   ·rw[fh.L0.step,bA (by omega),aj,bJ (by omega) (by omega),aj,aa,n1,eX (by omega),au,N.rD (by omega)]
 ·right
  obtain rfl:k=l.length:=by omega
  refine⟨fh.L0.gL 0,?_,λkn kx=> ?_⟩
  rotate_left
  ·rw[fh.L0.step,bl (by omega),au]
  ·simp only[fh.L0.add,fh.L0.F,aa,bq,LY]
   rfl
theorem fh.ok:fh.Ok:=by
 intro l hl
 rw[fh.eq,fh.L0.run (d:=(0,l,(l.length:Int),0)) ⟨rfl,hl,rfl,0,bh _,rfl⟩]
 simp only[ah,fh.L0.add,fh.L0.F,cF,aJ,bU,fh.F]
 rw[LZ]
 cases LY l <;> rfl
theorem fh.run:fh.RS:=rE [.d (.slice ti)] fh
def fh.sg:=fh.gC fh.ok 1 ⟨.js fh.L0.ok,trivial⟩
end Go.Ab
namespace Go.Ab
open Go.Sort (grow)
structure Lh(P:Program)(t:Ty)(g:FuncId)(Q:t.den->Prop)(cf:t.den->t.den->Int):Prop where
 bG:∃en,ky P g en/\∀x y,Q x->Q y->∃X,en.run [.d t x,.d t y] []=some X/\en.out [.d t x,.d t y] [] X=⟨.d (.int .i64) (cf x y),[],[]⟩
 enters:∀args w,(callFunc g args).run P w= .ok (.enter g args) w
 irrefl:∀x,Q x->¬cf x x < 0
 trans:∀x y z,Q x->Q y->Q z->cf x y < 0->cf y z < 0->cf x z < 0
 ntrans:∀x y z,Q x->Q y->Q z->¬cf x y < 0->¬cf y z < 0->¬cf x z < 0
theorem Kt{w w':World}(LI:w'.os=w.os)(Rt:w'.tape=w.tape)(BT:w'.output=w.output/\w.drawn<=w'.drawn)(l8:w.heap.size<=w'.heap.size)(hb:∀b:Nat,b < w.heap.size->w'.heap[b]? =w.heap[b]?):
  ∃q os,w'=grow (w.drewN q) os:=by
 obtain⟨h1,t1,d1,o1,p1⟩:=w
 obtain⟨h2,t2,d2,o2,p2⟩:=w'
 simp only at*
 obtain⟨BT,hd⟩:=BT
 subst LI Rt BT
 obtain⟨q,rfl⟩:∃q,d2=d1+q:=⟨d2 - d1,by omega⟩
 refine⟨q,h2.extract h1.size h2.size,?_⟩
 have hh:h2=h1++h2.extract h1.size h2.size:=by
  apply la
  intro i
  rw[hJ]
  by_cases hi:i < h1.size
  ·rw[if_pos hi,hb i hi]
  ·rw[if_neg hi,Array.getElem?_extract]
   by_cases h3:i < h2.size
   ·rw[if_pos (by omega)]
    congr 1;omega
   ·rw[if_neg (by omega),Array.getElem?_eq_none (by omega)]
 show({heap:=h2,tape:=_,drawn:=_,os:=_,output:=_}:World)= {heap:=h1++h2.extract h1.size h2.size,tape:=_,drawn:=_,os:=_,output:=_}
 rw[<-hh]
 rfl
section
variable {P:Program} {t:Ty} {g:FuncId} {Q:t.den->Prop} {cf:t.den->t.den->Int}
theorem Lh.OB(h:Lh P t g Q cf)(ha:t.agg=true){W:World}{cx cy:List Value}{x y:t.den}(hx:cG ((eN []).env W (λ_=> .free) (λ_=>none)) t cx x)
  (hy:cG ((eN []).env W (λ_=> .free) (λ_=>none)) t cy y) (qx:Q x) (qy:Q y):
  Calls P g #[.agg cx.toArray,.agg cy.toArray] W λe w'=>e= .returned (.int .i64 (cf x y))/\∃q os,w'=grow (W.drewN q) os:=by
 obtain⟨en,hd,kj⟩:=h.bG
 obtain⟨X,hX1,hX2⟩:=kj x y qx qy
 have one:∀ {c:List Value} {z:t.den},cG ((eN []).env W (λ_=> .free) (λ_=>none)) t c z->VS ((eN []).env W (λ_=> .free) (λ_=>none)) (.d t z) (.agg c.toArray):=λhz=>
  ⟨_,by simpa only[V]using hz,by show eC t.agg _ _;rw[ha];rfl⟩
 have ho:fT ((eN []).env W (λ_=> .free) (λ_=>none)):=λid ver fr c h=>by
  exfalso
  cases id with
  |dd k=>simp[AS.env,AS.bG,eN]at h
  |new i j=>simp[AS.env,AS.bG,eN]at h
 rcases hd W (λ_=> .free) (λ_=>none) [.d t x,.d t y] [] [.agg cx.toArray,.agg cy.toArray] X ⟨one hx,one hy,trivial⟩ ho hX1 with⟨_,hc⟩ | ⟨v,w',hc,_⟩
 ·refine hc.mono λe w' he=> ?_
  obtain⟨v,rfl,g',β',hv,_,ht,_⟩:=he
  rw[hX2]at hv
  obtain⟨cs,k1,k2⟩:=hv
  have k1:cs=[.int .i64 (cf x y)]:=k1
  subst k1
  have k2: [Value.int .i64 (cf x y)]=[v]:=k2
  have hv:v= .int .i64 (cf x y):=by simpa using k2.symm
  exact⟨by rw[hv],Kt ht.os ht.tape ht.output ht.size λb hb=>(ht.vS b hb).2⟩
 ·rw[h.enters]at hc;cases hc
def EF(cf:t.den->t.den->Int)(l l':List t.den):Prop:=l'.Perm l/\l'.Pairwise λx y=>¬cf y x < 0
open Classical in
def tf(cf:t.den->t.den->Int)(l:List t.den):List t.den:=if h:∃l',EF cf l l' then h.choose else l
theorem Cg(h:Lh P t g Q cf){l:List t.den}(hQ:∀x∈l,Q x):EF cf l (tf cf l):=by
 have hx:∃l',EF cf l l':=by
  let le: {x // Q x}-> {x // Q x}->Bool:=λx y=> !decide (cf y.1 x.1 < 0)
  refine⟨((l.attachWith Q hQ).mergeSort le).map (·.1),?_,?_⟩
  ·have h1:=(List.mergeSort_perm (l.attachWith Q hQ) le).map (·.1)
   rwa[List.attachWith_map_subtype_val]at h1
  ·have h2:=List.pairwise_mergeSort (le:=le) (λa b c h1 h2=>by
    simp only[le,bp,decide_eq_false_iff_not]at*
    exact h.ntrans _ _ _ c.2 b.2 a.2 h2 h1) (λa b=>by
    simp only[le,fb,bp,decide_eq_false_iff_not]
    by_cases h1:cf b.1 a.1 < 0
    ·exact .inr λh2=>h.irrefl _ a.2 (h.trans _ _ _ a.2 b.2 a.2 h2 h1)
    ·exact .inl h1) (l.attachWith Q hQ)
   rw[List.pairwise_map]
   exact h2.imp λ {a b} h3=>by simpa[le]using h3
 unfold tf
 rw[dif_pos hx]
 exact hx.choose_spec
theorem uq(h:Lh P t g Q cf){l l':List t.den}(hQ:∀x∈l,Q x)(hT:∀x∈l,∀y∈l,¬cf x y < 0->¬cf y x < 0->x=y)(hs:EF cf l l'):l'=tf cf l:=by
 have h2:=Cg h hQ
 exact List.Perm.eq_of_pairwise (λa b ha hb h3 h4=>hT a (hs.1.mem_iff.1 ha) b (h2.1.mem_iff.1 hb) h4 h3) hs.2 h2.2 (hs.1.trans h2.1.symm)
def vJ(g:FuncId)(e:TypeId)(t:Ty):Nat×List t.den->List av×List de:=λd=>([.cD (.dd 0) 0 [] 0 0 d.1,.fn g .nil],[.obj 0 false (.vec e t d.2)])
def wM(Q:t.den->Prop)(cf:t.den->t.den->Int):Nat×List t.den->Prop:=λd=>d.1=d.2.length/\d.2.length < 4611686018427387904/\(∀x∈d.2,Q x)/\∀x∈d.2,∀y∈d.2,¬cf x y < 0->¬cf y x < 0->x=y
def NA(e:TypeId)(t:Ty):Nat×List t.den->iO:=λx=>⟨.nil,[.obj 0 false (.vec e t x.2)],[]⟩
def JQ(g:FuncId)(e:TypeId)(t:Ty)(Q:t.den->Prop)(cf:t.den->t.den->Int):Entry:=
 Entry.of [none,none] (vJ g e t) (wM Q cf) (λd=>(d.1,tf cf d.2)) (NA e t)
theorem K5{g:FuncId}{e:TypeId}{t:Ty}(d d':Nat×List t.den)(h:vJ g e t d=vJ g e t d'):d=d':=by
 obtain⟨n,l⟩:=d
 obtain⟨n',l'⟩:=d'
 simp only[vJ,cd,dp,av.cD.injEq,de.obj.injEq,true_and,and_true]at h
 obtain⟨rfl,h2⟩:=h
 rw[Lb h2]
def yc(g:FuncId)(e:TypeId)(t:Ty)(Q:t.den->Prop)(cf:t.den->t.den->Int):Nat×List t.den->Option (Nat×List t.den):=λd=>(JQ g e t Q cf).run (vJ g e t d).1 (vJ g e t d).2
theorem Ch{g:FuncId}{e:TypeId}{t:Ty}{Q:t.den->Prop}{cf:t.den->t.den->Int}{d:Nat×List t.den}(h:wM Q cf d):yc g e t Q cf d=some (d.1,tf cf d.2):=Entry.qW K5 h
theorem uK{R:List Value->t.den->Prop}:∀ {cs:List Value} {l:List t.den},aO R cs l->(∀x∈l,Q x)->∃ps:List {p:List Value×t.den // R p.1 p.2/\Q p.2},ps.map (·.1.2)=l/\(ps.map (·.1.1)).flatten=cs
 |cs,[],h,_=>⟨[],rfl,by have h:cs=[]:=h;rw[h];rfl⟩
 |cs,x::l,⟨c,cs',h1,h2,h3⟩,hq=>by
  obtain⟨ps,h4,h5⟩:=uK h3 λy hy=>hq y (aF _ hy)
  exact⟨⟨(c,x),h2,hq x (aG ..)⟩::ps,by simp[h4],by simp[h5,h1]⟩
theorem vi{R R':List Value->t.den->Prop}(hR:∀c x,R c x->R' c x):∀ps:List {p:List Value×t.den // R p.1 p.2/\Q p.2},aO R' (ps.map (·.1.1)).flatten (ps.map (·.1.2))
 |[]=>rfl
 |p::ps=>⟨p.1.1,(ps.map (·.1.1)).flatten,by simp,hR _ _ p.2.1,vi hR ps⟩
theorem C3{α:Type} [Inhabited α] (enc:α->List Value) {k:Nat} (hk:∀x,(enc x).length=k):∀(ps:List α) (j:Nat),j < ps.length*k->((ps.map enc).flatten)[j]? =(enc (ps.toArray[j / k]!))[j%k]?
 |[],j,h=>by simp at h
 |p::ps,j,h=>by
  have k0:0 < k:=by
   rcases jn k with h0 | h0
   ·subst h0;simp at h
   ·exact h0
  simp only[bE,fw]
  by_cases hj:j < k
  ·rw[dY (by rw[hk];exact hj),Nat.div_eq_of_lt hj,Nat.mod_eq_of_lt hj]
   rfl
  ·have e1:j / k=(j - k) / k+1:=by
    rw[Nat.div_eq_sub_div k0 (by omega)]
   have e2:j%k=(j - k)%k:=by rw[Nat.mod_eq_sub_mod (by omega)]
   rw[List.getElem?_append_right (by rw[hk];omega),hk,C3 enc hk ps (j - k) (by simp only[aD,dy,je]at h;omega),e1,e2]
   congr 2
   simp
theorem tX{α:Type} [Inhabited α] (enc:α->List Value) {k:Nat} (hk:∀x,(enc x).length=k) (d:Array α):(Go.Sort.flatK enc k d).toList=(d.toList.map enc).flatten:=by
 have hl:((d.toList.map enc).flatten).length=d.size*k:=by
  rw[List.length_flatten,List.map_map]
  have:(d.toList.map (List.length∘enc))=List.replicate d.size k:=by
   rw[List.eq_replicate_iff]
   exact⟨by simp,λx hx=>by obtain⟨y,_,rfl⟩:=cX.1 hx;exact hk y⟩
  rw[this,List.sum_replicate_nat]
 apply il
 intro j
 by_cases hj:j < d.size*k
 ·rw[C3 enc hk d.toList j (by simpa using hj)]
  have h2:(Go.Sort.flatK enc k d).toList[j]? =some ((Go.Sort.flatK enc k d)[j]!):=by
   rw[fE,getElem!_pos _ j (by rw[Go.Sort.size_flatK];exact hj)]
   simp[hj]
  rw[h2,Go.Sort.get_flatK _ _ _ _ hj]
  have LB:0 < k:=by
   rcases jn k with h0 | h0
   ·subst h0;simp at hj
   ·exact h0
  have hm:j%k < k:=Nat.mod_lt _ LB
  simp only[Array.toArray_toList]
  rw[bS (by rw[hk];exact hm),getElem!_pos _ _ (by rw[hk];exact hm)]
 ·rw[c7 (by simpa using hj),c7 (by rw[hl];omega)]
theorem JB{F cur:Array Value}(h:F.size<=cur.size):(Go.Sort.putCells id 0 F cur).toList=F.toList++cur.toList.drop F.size:=by
 apply il
 intro j
 simp only[Go.Sort.putCells,fE,Array.getElem?_mapIdx,bh,true_and,aN,Nat.sub_zero,id]
 by_cases hj:j < F.size
 ·rw[dY (by simpa using hj),fE,dX hj,dX (by omega),dq,if_pos hj,getElem!_pos F j hj]
 ·rw[List.getElem?_append_right (by simpa using hj),eG,fE,bZ,show F.size+(j - F.size)=j by omega]
  cases cur[j]? with
  |none=>rfl
  |some y=>rw[dq,if_neg hj]
end
section
open Go.Proofs Go.Shelf Go.Lib Go.Sort
variable {P:Program} {ρ:Go.Shelf.Ren} {t:Ty} {g:FuncId} {Q:t.den->Prop} {cf:t.den->t.den->Int}
theorem zF{α:Type} [Inhabited α] (enc:α->List Value) (k:Nat) (w:World) (vS m:Nat) (dk:Array α) (os:Array Obj) {b:Nat} (hb:b < w.heap.size) (ga:b≠vS):(sortWorldK enc k w vS 0 m dk os).heap[b]? =w.heap[b]? :=by
 show((w.heap.modify vS _)++os)[b]? =_
 rw[hJ,if_pos (by simpa using hb),eT,if_neg (λe=>ga e.symm)]
theorem K8{α:Type} [Inhabited α] (enc:α->List Value) (k:Nat) (w:World) (vS m:Nat) (dk:Array α) (os:Array Obj) {cur:Array Value} {e:TypeId} {fr:Nat×Nat} (hb:w.heap[vS]? =some (.cells cur e fr)):
  (sortWorldK enc k w vS 0 m dk os).heap[vS]? =some (.cells (putCells id 0 (flatK enc k dk) cur) e fr):=by
 have iC:vS < w.heap.size:=(bk.1 hb).1
 show((w.heap.modify vS _)++os)[vS]? =_
 rw[hJ,if_pos (by simpa using iC),eT,if_pos rfl,hb]
 rfl
set_option maxHeartbeats 1000000 in
theorem Ei(L:SlLaysF0.n6 P ρ){e:TypeId}(ha:t.agg=true)(aE:∀w,(isAgg (ρ.t 24)).run P w= .ok true w)(zE:∀w,(Go.sizeOf (ρ.t 24)).run P w= .ok t.size w)(hc:Lh P t g Q cf):
  ky P (ρ.f 6) (JQ g e t Q cf):=by
 intro w γ β args bT iE x hv ho hx
 obtain⟨d0,QP,Pc⟩:∃d,vJ g e t d=(args,bT)/\wM Q cf d:=by
  by_cases hh:∃d,vJ g e t d=(args,bT)/\wM Q cf d
  ·exact hh
  ·exfalso
   have hn:(JQ g e t Q cf).run args bT=none:=dif_neg hh
   rw[hn]at hx
   cases hx
 have hr:=Ch (g:=g) (e:=e) Pc
 unfold yc at hr
 rw[QP]at hr
 obtain rfl:x=(d0.1,tf cf d0.2):=aP (hx.symm.trans hr)
 obtain⟨n,l⟩:=d0
 simp only[vJ,cd]at QP
 obtain⟨rfl,rfl⟩:=QP
 obtain⟨hn,l8,hQ,hT⟩:=Pc
 have hn:n=l.length:=hn
 subst hn
 match iE,hv with
 |[y1,y2],⟨Nb,w6,_⟩=>
 obtain⟨vs,rfl,uT⟩:=AO w6
 have uT:vs=[]:=by simpa only[VC]using uT
 subst uT
 have h1:=Nb.single rfl rfl
 simp only[V]at h1
 obtain⟨a,cap,h1,uQ,ku,_,ef⟩:=h1
 have h1:y1= .slice a l.length cap:=by simpa using h1
 subst h1
 have cj:(eN [de.obj 0 false (.vec e t l)]).bG (.dd 0)=some (.obj 0 false (.vec e t l)):=rfl
 obtain⟨hz,hO⟩:On ((eN [de.obj 0 false (.vec e t l)]).env w γ β) (.dd 0) false e t l:=ho (.dd 0) 0 false _ cj
 have ef:=ef ⟨false,_,cj⟩
 refine .inl ⟨L.f6.enters rfl _ _,?_⟩
 have Tf:∀v:Value,v= .tuple #[]->VS ((iO.st ⟨.nil,[.obj 0 false (.vec e t (tf cf l))],[]⟩).env w γ β) .nil v:=λv hv=>by rw[hv];exact rfl
 have hS:=Cg hc hQ
 by_cases hl:l=[]
 ·subst hl
  have hs:tf cf ([]:List t.den)=[]:=aL hS.1.length_eq
  refine(AnyF.slices_SortFunc_none L a cap _ w).mono λe' w' he=> ?_
  obtain⟨rfl,rfl⟩:=he
  refine⟨_,rfl,?_⟩
  show nR _ (⟨.nil,[.obj 0 false (.vec e t (tf cf []))],[]⟩:iO) _ _
  rw[hs]
  exact nR.same rfl ho
 ·have lv:0 < l.length:=List.length_pos_iff.2 hl
  change (match β (.dd 0) with | none=>l=[] | some pl=>∃cur k,w.heap[pl.b]? =some (.cells cur e (0,0))/\cur.size=pl.cap*t.size/\l.length<=pl.cap/\pl.cap<=maxLen/\γ pl.b= .own (.id (.dd 0)) k/\
   k<=l.length*t.size/\(false=false->k=0)/\aO (cG ((eN [de.obj 0 false (.vec e t l)]).env w γ β) t) (cur.toList.take (l.length*t.size)) l) at hO
  change (match β (.dd 0) with | some pl=>(0 < l.length\/True->a=some ⟨pl.b,0,none⟩)/\(True->True->cap=pl.cap) | none=>a=none/\l.length=0/\cap=0) at ef
  cases hβ:β (.dd 0) with
  |none=>rw[hβ]at hO;exact absurd hO hl
  |some pl=>
  rw[hβ]at hO ef
  obtain⟨cur,k0,q1,q2,q3,q4,q5,_,q7,q8⟩:=hO
  obtain rfl:=q7 rfl
  obtain rfl:=ef.1 (.inl lv)
  have hblk:pl.b < w.heap.size:=(bk.1 q1).1
  obtain⟨R,hR⟩:∃R:List Value->t.den->Prop,R=cG ((eN [de.obj 0 false (.vec e t l)]).env w γ β) t:=⟨_,rfl⟩
  have hRm:∀c x,R c x->cG ((eN [de.obj 0 false (.vec e t l)]).env w γ β) t c x:=by rw[hR];exact λ_ _ h=>h
  rw[<-hR]at q8
  obtain⟨ps,p1,p2⟩:=uK (Q:=Q) q8 hQ
  have Pd:ps.length=l.length:=by rw[<-p1,ct]
  let α:= {p:List Value×t.den // R p.1 p.2/\Q p.2}
  have:0 < ps.length:=by omega
  letI:Inhabited α:=⟨ps[0]⟩
  let enc:α->List Value:=λp=>p.1.1
  let cf':α->α->Int:=λp q=>cf p.1.2 q.1.2
  have hk:∀x,(enc x).length=t.size:=λx=>(hRm _ _ x.2.1).size
  have hO:SWO (ltOf cf'):=⟨λx=>by simpa[ltOf,cf']using hc.irrefl _ x.2.2,λx y z h1 h2=>by
   simp only[ltOf,decide_eq_true_eq,cf']at*
   exact hc.trans _ _ _ x.2.2 y.2.2 z.2.2 h1 h2,λx y z h1 h2=>by
   simp only[ltOf,decide_eq_false_iff_not,cf']at*
   exact hc.ntrans _ _ _ x.2.2 y.2.2 z.2.2 h1 h2⟩
  have qt:∀j,j < l.length*t.size->cur[j]? =((ps.map enc).flatten)[j]? :=λj hj=>by
   have:(ps.map enc).flatten=cur.toList.take (l.length*t.size):=p2
   rw[this,cI,if_pos hj,fE]
  have hH:HoldsK enc t.size w pl.b 0 ps.toArray:=λj hj=>by
   rw[size_flatK]at hj
   have hj:j < ps.length*t.size:=by simpa using hj
   have h2:=qt j (by rw[<-Pd];exact hj)
   have h3:((flatK enc t.size ps.toArray).toList)[j]? =((ps.map enc).flatten)[j]? :=by rw[tX enc hk]
   rw[fE,dX (by rw[size_flatK];simpa using hj)]at h3
   refine⟨?_,?_⟩
   ·show(match w.heap[pl.b]? with | some (.cells c _ _)=>if(none:Option _).isSome then none else c[0+j]? | _=>none)=_
    rw[q1]
    simp only[Option.isSome_none,bK,if_false,aN]
    rw[h2,<-h3,getElem!_pos _ j (by rw[size_flatK];simpa using hj)]
    rfl
   ·show(match w.heap[pl.b]? with | some (.cells _ _ (lo,hi))=>decide (lo<=0+j) && decide (0+j < hi) | _=>false)=false
    rw[q1]
    simp
  have pZ:∀(m:Nat) (dk:Array α) (os:Array Obj),lU ((eN [de.obj 0 false (.vec e t l)]).env w γ β) ((eN []).env (sortWorldK enc t.size w pl.b 0 m dk os) (λ_=> .free) (λ_=>none)):=λm dk os=>by
   refine⟨λb off v hh=>⟨?_,trivial⟩,λb ob hf iH=>⟨rfl,?_⟩⟩
   ·obtain⟨h1,h2⟩:=hh
    have hb:b < w.heap.size:=World.block_lt_of_cell? _ _ h1
    have ga:b≠pl.b:=λe=>by
     have h2:mr γ b off:=h2
     unfold mr at h2
     rw[e,q5]at h2
     exact Nat.not_lt_zero _ h2
    have h1:w.cell? ⟨b,off,none⟩=some v:=h1
    show(sortWorldK enc t.size w pl.b 0 m dk os).cell? ⟨b,off,none⟩=some v
    simpa only[World.cell?,zF enc t.size w pl.b m dk os hb ga]using h1
   ·have iH:w.heap[b]? =some ob:=iH
    have hb:b < w.heap.size:=(bk.1 iH).1
    have ga:b≠pl.b:=λe=>by
     have hf:γ b= .free:=hf
     rw[e,q5]at hf;cases hf
    exact(zF enc t.size w pl.b m dk os hb ga).trans iH
  have QN:CmpLays P g #[] enc t.size cf' pl.b 0 ps.toArray.size w:=λm os dk _ p q=>
   hc.OB ha ((hRm _ _ p.2.1).mono (pZ m dk os)) ((hRm _ _ q.2.1).mono (pZ m dk os)) p.2.2 q.2.2
  have OQ:=AnyQ.slices_SortFunc L t.size aE zE enc hk (λp=>(hRm _ _ p.2.1).one) cf' hO g #[] pl.b 0 cap ps.toArray w hc.enters QN hH hblk (by simpa[Pd]using l8)
  rw[show ps.toArray.size=l.length by simpa using Pd]at OQ
  refine OQ.mono λe' w' he=> ?_
  obtain⟨rfl,d',m,os,hp,hs,rfl⟩:=he
  refine⟨_,rfl,?_⟩
  obtain⟨s1,_,s2⟩:=hp
  have hd:d'.size=l.length:=by rw[s1];simpa using Pd
  have Dm:d'.toList.Perm ps:=by
   have e1:(d'.extract 0 l.length)=d':=by rw[<-hd];simp
   have e2:(ps.toArray.extract 0 l.length)=ps.toArray:=by rw[<-Pd];simp
   rw[e1,e2]at s2
   exact s2
  have hl':EF cf l (d'.toList.map (·.1.2)):=by
   refine⟨by rw[<-p1];exact Dm.map _,?_⟩
   rw[List.pairwise_map,List.pairwise_iff_getElem]
   intro i j hi hj QV
   have:=hs i j (bh _) QV (by rw[<-hd];simpa using hj)
   rw[getElem!_pos d' i (by simpa using hi),getElem!_pos d' j (by simpa using hj)]at this
   simpa[ltOf,cf']using this
  have heq:=uq hc hQ hT hl'
  show nR _ (⟨.nil,[.obj 0 false (.vec e t (tf cf l))],[]⟩:iO) _ _
  rw[<-heq]
  have ji:=K8 enc t.size w pl.b m d' os q1
  have hFs:(flatK enc t.size d').size<=cur.size:=by
   rw[size_flatK,hd,q2]
   exact cJ _ q3
  have uS:∀b,b < w.heap.size->b≠pl.b->(sortWorldK enc t.size w pl.b 0 m d' os).heap[b]? =w.heap[b]? :=λb hb ga=>zF enc t.size w pl.b m d' os hb ga
  have I2:w.heap.size<=(sortWorldK enc t.size w pl.b 0 m d' os).heap.size:=size_sortWorldK_c enc t.size w pl.b 0 m d' os
  have hw:(sortWorldK enc t.size w pl.b 0 m d' os).os=w.os/\(sortWorldK enc t.size w pl.b 0 m d' os).tape=w.tape/\((sortWorldK enc t.size w pl.b 0 m d' os).output=w.output/\w.drawn<=(sortWorldK enc t.size w pl.b 0 m d' os).drawn):=⟨rfl,rfl,rfl,Nat.le_add_right _ _⟩
  generalize sortWorldK enc t.size w pl.b 0 m d' os=w' at ji uS I2 hw
  have ht:Trans w w' γ γ:=by
   refine⟨hw.1,hw.2.1,hw.2.2,I2,λb hb=> ?_⟩
   by_cases QI:b=pl.b
   ·subst QI
    rw[q5]
    exact⟨.inr ⟨_,0,rfl,ax _⟩,λ_ _ hh=>by omega⟩
   ·rw[uS b hb QI]
    cases xy:γ b with
    |free=>exact⟨rfl,rfl⟩
    |own o' k=>cases o' with
     |dx=>exact⟨rfl,rfl⟩
     |id i'=>exact⟨.inr ⟨i',k,rfl,ax _⟩,λoff v _ hv=>by simpa only[World.cell?,uS b hb QI]using hv⟩
  have hle:b6 ((eN [de.obj 0 false (.vec e t l)]).env w γ β) ((iO.st ⟨.nil,[.obj 0 false (.vec e t (d'.toList.map (·.1.2)))],[]⟩).env w' γ β):=by
   have e0:∀id,(∃c,(eN [de.obj 0 false (.vec e t l)]).bG id=some (.obj 0 false c)/\id= .dd 0)\/((eN [de.obj 0 false (.vec e t l)]).bG id=none/\(iO.st ⟨.nil,[.obj 0 false (.vec e t (d'.toList.map (·.1.2)))],[]⟩).bG id=none):=λid=>by
    cases id with
    |dd k=>cases k with
     |zero=>exact .inl ⟨_,rfl,rfl⟩
     |succ k=>exact .inr ⟨rfl,rfl⟩
    |new i j=>refine .inr ⟨?_,?_⟩ <;> cases i <;> rfl
   refine⟨Trans.mem (E:=(eN [de.obj 0 false (.vec e t l)]).env w γ β) (E':=(iO.st ⟨.nil,[.obj 0 false (.vec e t (d'.toList.map (·.1.2)))],[]⟩).env w' γ β) ht,λid ver hb=> ?_,λid ver hb SO=> ?_⟩
   ·rcases e0 id with⟨c,_,rfl⟩ | ⟨h1,_⟩
    ·refine⟨by show(some _:Option de)≠none;simp,λv fr c h=> ?_⟩
     have h:some (de.obj 0 false (.vec e t (d'.toList.map (·.1.2))))=some (.obj v fr c):=h
     simp only[ao,de.obj.injEq]at h
     have:=hb.2 0 false _ rfl
     omega
    ·exact absurd h1 hb.1
   ·rcases e0 id with⟨c,_,rfl⟩ | ⟨h1,_⟩
    ·obtain⟨fr,c,h⟩:=SO
     have h:some (de.obj 0 false (.vec e t (d'.toList.map (·.1.2))))=some (.obj ver fr c):=h
     simp only[ao,de.obj.injEq]at h
     obtain⟨rfl,rfl,_⟩:=h
     exact⟨⟨false,_,rfl⟩,rfl⟩
    ·exact absurd h1 hb.1
  refine⟨γ,β,rfl,λid ver fr c h=> ?_,ht,hle⟩
  have cP:id= .dd 0/\ver=0/\fr=false/\c= .vec e t (d'.toList.map (·.1.2)):=by
   cases id with
   |dd k=>cases k with
    |zero=>
     have h:some (de.obj 0 false (.vec e t (d'.toList.map (·.1.2))))=some (.obj ver fr c):=h
     simp only[ao,de.obj.injEq]at h
     obtain⟨rfl,rfl,rfl⟩:=h
     exact⟨rfl,rfl,rfl,rfl⟩
    |succ k=>cases h
   |new i j=>cases i <;> cases h
  obtain⟨rfl,rfl,rfl,rfl⟩:=cP
  refine⟨hz,?_⟩
  show(match β (.dd 0) with | none=>(d'.toList.map (·.1.2))=[] | some pl=>_)
  rw[hβ]
  have hlen:(d'.toList.map (λp:α=>p.1.2)).length=l.length:=by simpa using hd
  refine⟨_,0,ji,?_,by rw[hlen];exact q3,q4,q5,bh _,λ_=>rfl,?_⟩
  ·rw[<-q2];simp[putCells]
  ·have e3:(putCells id 0 (flatK enc t.size d') cur).toList.take ((d'.toList.map (λp:α=>p.1.2)).length*t.size)=(d'.toList.map enc).flatten:=by
    rw[JB hFs,tX enc hk,hlen]
    have e4:((d'.toList.map enc).flatten).length=l.length*t.size:=by
     rw[<-tX enc hk,bZ,size_flatK,hd]
    rw[<-e4,List.take_left]
   rw[e3]
   exact vi (Q:=Q) (λc x h=>(hRm c x h).mono hle.mem) d'.toList
end
end Go.Ab
namespace Go.Ab
open Go.Proofs
def oL(x:jd):Bool:=decide (x.2.1.2.1.length<=14)
def mZ(b:uB):Bool:=decide (b.1.length<=14)
def kS(o:mw):Bool:=decide (o.2.1.1.length<=6) && o.2.1.1.all mZ
def wL(t:jI):Bool:=decide (t.1.length<=66/\t.2.1.length<=66) && (t.1.all oL && t.2.1.all kS)
abbrev ab.L0.D:=jI×Int
def ab.L0.st:ab.L0.D->AS:=λ(vP,i)=>⟨([.undef,.eO oO vP,.undef,.d ti i]++bB 69 []),[],(List.replicate 73 [])⟩
abbrev ab.L0.Y0:=Unit
abbrev ab.L0.X0:=Unit
def ab.L0.dm:ab.L0.X0->Exit×AS:=λx=>(.ret,⟨([.undef,.undef,.d .bool false]++bB 70 []),[],(List.replicate 73 [])⟩)
abbrev ab.L0.Y1:=Unit
abbrev ab.L0.X1:=jI
def ab.L0.gL:ab.L0.X1->Exit×AS:=λx=>(.exit 0,⟨([.undef,.eO oO x]++bB 71 []),[],(List.replicate 73 [])⟩)
abbrev ab.L0.X:=(ab.L0.X0)⊕(ab.L0.X1)
abbrev ab.L0.Y:=(ab.L0.Y0)⊕(ab.L0.Y1)
def ab.L0.out:ab.L0.X->Out (Exit×AS):=λx=> .br x.isLeft (.get x.getLeft? λa=> .ok (ab.L0.dm a)) (.get x.getRight? λb=> .ok (ab.L0.gL b))
def ab.L0.add:ab.L0.D->ab.L0.Y->ab.L0.X:=λ(vP,i) y=>match y with | .inl y=> .inl y | .inr z=> .inr (vP)
abbrev ab.L1.D:=jI×Int
def ab.L1.st:ab.L1.D->AS:=λ(EB,ru)=>⟨([.undef,.eO oO EB,.undef,.undef,.d ti ru]++bB 68 []),[],(List.replicate 73 [])⟩
abbrev ab.L1.Y0:=Unit
abbrev ab.L1.X0:=Unit
def ab.L1.dm:ab.L1.X0->Exit×AS:=λx=>(.ret,⟨([.undef,.undef,.d .bool false]++bB 70 []),[],(List.replicate 73 [])⟩)
abbrev ab.L1.Y1:=Unit
abbrev ab.L1.X1:=Unit
def ab.L1.gL:ab.L1.X1->Exit×AS:=λx=>(.exit 2,⟨(bB 73 []),[],(List.replicate 73 [])⟩)
abbrev ab.L1.X:=(ab.L1.X0)⊕(ab.L1.X1)
abbrev ab.L1.Y:=(ab.L1.Y0)⊕(ab.L1.Y1)
def ab.L1.out:ab.L1.X->Out (Exit×AS):=λx=> .br x.isLeft (.get x.getLeft? λa=> .ok (ab.L1.dm a)) (.get x.getRight? λb=> .ok (ab.L1.gL b))
def ab.L1.add:ab.L1.D->ab.L1.Y->ab.L1.X:=λ(EB,ru) y=>match y with | .inl y=> .inl y | .inr z=> .inr (z)
abbrev ab.L2.D:=jI×Int×Int
def ab.L2.st:ab.L2.D->AS:=λ(H4,r9,kv)=>⟨([.undef,.eO oO H4,.undef,.undef,.d ti r9,.d ti kv]++bB 67 []),[],(List.replicate 73 [])⟩
abbrev ab.L2.Y0:=Unit
abbrev ab.L2.X0:=Unit
def ab.L2.dm:ab.L2.X0->Exit×AS:=λx=>(.ret,⟨([.undef,.undef,.d .bool false]++bB 70 []),[],(List.replicate 73 [])⟩)
abbrev ab.L2.Y1:=Unit
abbrev ab.L2.X1:=jI×Int
def ab.L2.gL:ab.L2.X1->Exit×AS:=λx=>(.exit 4,⟨([.undef,.eO oO x.1,.undef,.undef,.d ti x.2]++bB 68 []),[],(List.replicate 73 [])⟩)
abbrev ab.L2.X:=(ab.L2.X0)⊕(ab.L2.X1)
abbrev ab.L2.Y:=(ab.L2.Y0)⊕(ab.L2.Y1)
def ab.L2.out:ab.L2.X->Out (Exit×AS):=λx=> .br x.isLeft (.get x.getLeft? λa=> .ok (ab.L2.dm a)) (.get x.getRight? λb=> .ok (ab.L2.gL b))
def ab.L2.add:ab.L2.D->ab.L2.Y->ab.L2.X:=λ(H4,r9,kv) y=>match y with | .inl y=> .inl y | .inr z=> .inr ((H4,r9))
abbrev ab.D:=jI
abbrev ab.Y:=Bool
def ab.L0.aY:ab.L0.D->Prop:=λ(t,i)=>t.1.length<=1000000000/\∃k:Nat,k<=t.1.length/\i=k
def ab.L0.F:ab.L0.D->ab.L0.Y:=λ(t,i)=>if(List.drop (Int.toNat i) t.1).all oL then .inr () else .inl ()
def ab.L2.aY:ab.L2.D->Prop:=λ(t,j,i)=>(nth mu t.2.1 (Int.toNat j)).2.1.1.length<=1000000000/\∃k:Nat,k<=(nth mu t.2.1 (Int.toNat j)).2.1.1.length/\i=k/\(0<=j/\j < (t.2.1.length:Int))
def ab.L2.F:ab.L2.D->ab.L2.Y:=λ(t,j,i)=>if(List.drop (Int.toNat i) (nth mu t.2.1 (Int.toNat j)).2.1.1).all mZ then .inr () else .inl ()
def ab.L1.aY:ab.L1.D->Prop:=λ(t,i)=>t.2.1.length<=1000000000/\∃k:Nat,k<=t.2.1.length/\i=k
def ab.L1.F:ab.L1.D->ab.L1.Y:=λ(t,i)=>if(List.drop (Int.toNat i) t.2.1).all kS then .inr () else .inl ()
def ab.aY:ab.D->Prop:=λ_=>True
def ab.F:ab.D->ab.Y:=λt=>wL t
def ab.L0.E:=eE.js ab.L0.st ab.L0.aY ab.L0.add ab.L0.F ab.L0.out
def ab.L0.call:ab.L0.D->Option ab.L0.X:=kJ ab.L0.E ab.L0.st
def ab.L1.E:=eE.js ab.L1.st ab.L1.aY ab.L1.add ab.L1.F ab.L1.out
def ab.L1.call:ab.L1.D->Option ab.L1.X:=kJ ab.L1.E ab.L1.st
def ab.L2.E:=eE.js ab.L2.st ab.L2.aY ab.L2.add ab.L2.F ab.L2.out
def ab.L2.call:ab.L2.D->Option ab.L2.X:=kJ ab.L2.E ab.L2.st
def ab:Fs Tryz.prog ab.aY bU ab.F:=gh 49 Tryz.f49 (λt=>([.d oO t],[])) (λx=>⟨.d .bool x,[],[]⟩) [some oO] [] {loops:=rH [(4,{bI:=[1,3]}),(9,{bI:=[1,4]}),(14,{bI:=[1,4,5]})],outs:=rG [(4,{bI:=[1]},{bI:=[2]}),(9,{},{bI:=[2]}),(14,{bI:=[1,4]},{bI:=[2]})],jP:=sh [(4,ab.L0.E),(9,ab.L1.E),(14,ab.L2.E)]}
def ab.L0.R:= @iA Tryz.prog (mR ab.G) ab.an 0 Tryz.f49 0 _ ab.L0.st
abbrev ab.L0.Ok:=pE Tryz.prog (mR ab.G) ab.an 0 Tryz.f49 0 ab.L0.st ab.L0.aY ab.L0.add ab.L0.F ab.L0.out
def ab.L1.R:= @iA Tryz.prog (mR ab.G) ab.an 0 Tryz.f49 1 _ ab.L1.st
abbrev ab.L1.Ok:=pE Tryz.prog (mR ab.G) ab.an 0 Tryz.f49 1 ab.L1.st ab.L1.aY ab.L1.add ab.L1.F ab.L1.out
def ab.L2.R:= @iA Tryz.prog (mR ab.G) ab.an 0 Tryz.f49 2 _ ab.L2.st
abbrev ab.L2.Ok:=pE Tryz.prog (mR ab.G) ab.an 0 Tryz.f49 2 ab.L2.st ab.L2.aY ab.L2.add ab.L2.F ab.L2.out
theorem ab.L0.run:nI ab.L0.call ab.L0.aY ab.L0.add ab.L0.F:=qz (qa [.d oO,.d ti] λ_=>by kernel_rfl)
theorem ab.L0.c8:qk @ab.L0.R ab.L0.st ab.L0.aY ab.L0.add ab.L0.F ab.L0.out ab.L0.Ok:=qI
theorem ab.L0.step{R:Type}(vP:jI)(i:Int)(kn:AS->Option R)(kx:Exit->AS->Option R):ab.L0.R (vP,i) kn kx=
  aK ((iI i (((List.length vP.1):Nat):Int))) (
   aK (fa i (((List.length vP.1):Nat):Int)) (
   aK ((ot (((List.length (nth ka vP.1 (Int.toNat i)).2.1.2.1):Nat):Int) (14:Int))) (
    kx (ab.L0.dm ()).1 (ab.L0.dm ()).2) (
    kn (ab.L0.st (vP,(bN .i64 i (1:Int)))))) none) (
   kx (ab.L0.gL vP).1 (ab.L0.gL vP).2):=by kernel_rfl
theorem ab.L1.run:nI ab.L1.call ab.L1.aY ab.L1.add ab.L1.F:=qz (qa [.d oO,.d ti] λ_=>by kernel_rfl)
theorem ab.L1.c8:qk @ab.L1.R ab.L1.st ab.L1.aY ab.L1.add ab.L1.F ab.L1.out ab.L1.Ok:=qI
theorem ab.L1.step{R:Type}(EB:jI)(ru:Int)(kn:AS->Option R)(kx:Exit->AS->Option R):ab.L1.R (EB,ru) kn kx=
  aK ((iI ru (((List.length EB.2.1):Nat):Int))) (
   aK (fa ru (((List.length EB.2.1):Nat):Int)) (
   aK ((ot (((List.length (nth mu EB.2.1 (Int.toNat ru)).2.1.1):Nat):Int) (6:Int))) (
    kx (ab.L1.dm ()).1 (ab.L1.dm ()).2) (
    aA (ab.L2.call (EB,ru,(0:Int))) λx1=>
    aK (x1.isLeft) (
     aA (x1.getLeft?) λa2=>
     kx (ab.L1.dm ()).1 (ab.L1.dm ()).2) (
     aA (x1.getRight?) λb3=>
     kn (ab.L1.st (b3.1,(bN .i64 b3.2 (1:Int))))))) none) (
   kx (ab.L1.gL ()).1 (ab.L1.gL ()).2):=by kernel_rfl
theorem ab.L2.run:nI ab.L2.call ab.L2.aY ab.L2.add ab.L2.F:=qz (qa [.d oO,.d ti,.d ti] λ_=>by kernel_rfl)
theorem ab.L2.c8:qk @ab.L2.R ab.L2.st ab.L2.aY ab.L2.add ab.L2.F ab.L2.out ab.L2.Ok:=qI
theorem ab.L2.step{R:Type}(H4:jI)(r9:Int)(kv:Int)(kn:AS->Option R)(kx:Exit->AS->Option R):ab.L2.R (H4,r9,kv) kn kx=
  aK (fa r9 (((List.length H4.2.1):Nat):Int)) (
  aK ((iI kv (((List.length (nth mu H4.2.1 (Int.toNat r9)).2.1.1):Nat):Int))) (
   aK (fa r9 (((List.length H4.2.1):Nat):Int)) (
   aK (fa kv (((List.length (nth mu H4.2.1 (Int.toNat r9)).2.1.1):Nat):Int)) (
   aK ((ot (((List.length (nth pR (nth mu H4.2.1 (Int.toNat r9)).2.1.1 (Int.toNat kv)).1):Nat):Int) (14:Int))) (
    kx (ab.L2.dm ()).1 (ab.L2.dm ()).2) (
    kn (ab.L2.st (H4,r9,(bN .i64 kv (1:Int)))))) none) none) (
   kx (ab.L2.gL (H4,r9)).1 (ab.L2.gL (H4,r9)).2)) none:=by kernel_rfl
theorem ab.eq{R:Type}(t)(k:K1 R):ab.A t k=
  aK ((ot (t.1.length:Int) 66)) (
   k (ab.out false)) (
   aK ((ot (t.2.1.length:Int) 66)) (
    k (ab.out false)) (
    aA (ab.L0.call (t,0)) λx1=>
    aK (x1.isLeft) (
     aA (x1.getLeft?) λa2=>
     k (ab.out false)) (
     aA (x1.getRight?) λb3=>
     aA (ab.L1.call (b3,0)) λx7=>
     aK (x7.isLeft) (
      aA (x7.getLeft?) λa8=>
      k (ab.out false)) (
      aA (x7.getRight?) λb9=>
      k (ab.out true))))):=by kernel_rfl
theorem ab.L0.ok:ab.L0.Ok:=by
 refine ab.L0.c8 (λ(t,i)=>t.1.length - Int.toNat i) ?_
 rintro⟨t,i⟩ ⟨hlen,k,hk,rfl⟩
 have hlen:t.1.length<=1000000000:=hlen
 have hk:k<=t.1.length:=hk
 by_cases h:k < t.1.length
 ·have n1:nth ka t.1 k=t.1[k]:=dM (t:=ka) h
  have hd:(List.drop k t.1).all oL=(oL t.1[k] && (List.drop (k+1) t.1).all oL):=by rw[aC h,eJ]
  have step:∀ {R:Type} (kn:AS->Option R) (kx:Exit->AS->Option R),ab.L0.R (t,(k:Int)) kn kx=aK (oL t.1[k]) (kn (ab.L0.st (t,((k+1:Nat):Int)))) (kx (ab.L0.dm ()).1 (ab.L0.dm ()).2):=by
   intro R kn kx
   rw[ab.L0.step,bA (by omega),bJ (show(0:Int)<=(k:Int) by omega) (by omega),aa,n1]
   simp only[aj]
   rw[N.rD (by omega)]
   unfold oL
   by_cases hs:t.1[k].2.1.2.1.length<=14
   ·rw[cZ (by omega),aX hs];rfl
   ·rw[dv (by omega),cn hs];rfl
  cases hp:oL t.1[k]
  ·right
   refine⟨ab.L0.dm (),?_,λkn kx=> ?_⟩
   ·simp only[ab.L0.add,ab.L0.F,aa,hd,hp,dQ,bK,if_false]
    rfl
   ·rw[step,hp,au]
  ·left
   refine⟨(t,((k+1:Nat):Int)),⟨hlen,k+1,by omega,rfl⟩,by simp only[aa];omega,?_,λkn kx=> ?_⟩
   ·simp only[ab.L0.add,ab.L0.F,aa,hd,hp,bX]
   ·rw[step,hp,aj]
 ·right
  obtain rfl:k=t.1.length:=by omega
  refine⟨ab.L0.gL t,?_,λkn kx=> ?_⟩
  ·simp only[ab.L0.add,ab.L0.F,aa,bq]
   rfl
  ·rw[ab.L0.step,bl (by omega),au]
theorem ab.L2.ok:ab.L2.Ok:=by
 refine ab.L2.c8 (λ(t,j,i)=>(nth mu t.2.1 (Int.toNat j)).2.1.1.length - Int.toNat i) ?_
 rintro⟨t,j,i⟩ ⟨hlen,k,hk,rfl,hj⟩
 have hlen:(nth mu t.2.1 (Int.toNat j)).2.1.1.length<=1000000000:=hlen
 have hk:k<=(nth mu t.2.1 (Int.toNat j)).2.1.1.length:=hk
 have hj:0<=j/\j < (t.2.1.length:Int):=hj
 by_cases h:k < (nth mu t.2.1 (Int.toNat j)).2.1.1.length
 ·have n1:nth pR (nth mu t.2.1 (Int.toNat j)).2.1.1 k=(nth mu t.2.1 (Int.toNat j)).2.1.1[k]:=dM (t:=pR) h
  have hd:(List.drop k (nth mu t.2.1 (Int.toNat j)).2.1.1).all mZ=(mZ (nth mu t.2.1 (Int.toNat j)).2.1.1[k] && (List.drop (k+1) (nth mu t.2.1 (Int.toNat j)).2.1.1).all mZ):=by rw[aC h,eJ]
  have step:∀ {R:Type} (kn:AS->Option R) (kx:Exit->AS->Option R),ab.L2.R (t,j,(k:Int)) kn kx=aK (mZ (nth mu t.2.1 (Int.toNat j)).2.1.1[k]) (kn (ab.L2.st (t,j,((k+1:Nat):Int)))) (kx (ab.L2.dm ()).1 (ab.L2.dm ()).2):=by
   intro R kn kx
   rw[ab.L2.step,bJ hj.1 hj.2,aj,bA (by omega),bJ (show(0:Int)<=(k:Int) by omega) (by omega),aa,n1]
   simp only[aj]
   rw[N.rD (by omega)]
   unfold mZ
   by_cases hs:(nth mu t.2.1 (Int.toNat j)).2.1.1[k].1.length<=14
   ·rw[cZ (by omega),aX hs];rfl
   ·rw[dv (by omega),cn hs];rfl
  cases hp:mZ (nth mu t.2.1 (Int.toNat j)).2.1.1[k]
  ·right
   refine⟨ab.L2.dm (),?_,λkn kx=> ?_⟩
   ·simp only[ab.L2.add,ab.L2.F,aa,hd,hp,dQ,bK,if_false]
    rfl
   ·rw[step,hp,au]
  ·left
   refine⟨(t,j,((k+1:Nat):Int)),⟨hlen,k+1,by omega,rfl,hj⟩,by simp only[aa];omega,?_,λkn kx=> ?_⟩
   ·simp only[ab.L2.add,ab.L2.F,aa,hd,hp,bX]
   ·rw[step,hp,aj]
 ·right
  obtain rfl:k=(nth mu t.2.1 (Int.toNat j)).2.1.1.length:=by omega
  refine⟨ab.L2.gL (t,j),?_,λkn kx=> ?_⟩
  ·simp only[ab.L2.add,ab.L2.F,aa,bq]
   rfl
  ·rw[ab.L2.step,bJ hj.1 hj.2,aj,bl (by omega),au]
theorem ab.L1.ok:ab.L1.Ok:=by
 refine ab.L1.c8 (λ(t,i)=>t.2.1.length - Int.toNat i) ?_
 rintro⟨t,i⟩ ⟨hlen,k,hk,rfl⟩
 have hlen:t.2.1.length<=1000000000:=hlen
 have hk:k<=t.2.1.length:=hk
 by_cases h:k < t.2.1.length
 ·have n1:nth mu t.2.1 k=t.2.1[k]:=dM (t:=mu) h
  have hd:(List.drop k t.2.1).all kS=(kS t.2.1[k] && (List.drop (k+1) t.2.1).all kS):=by rw[aC h,eJ]
  have step:∀ {R:Type} (kn:AS->Option R) (kx:Exit->AS->Option R),ab.L1.R (t,(k:Int)) kn kx=aK (kS t.2.1[k]) (kn (ab.L1.st (t,((k+1:Nat):Int)))) (kx (ab.L1.dm ()).1 (ab.L1.dm ()).2):=by
   intro R kn kx
   rw[ab.L1.step,bA (by omega),bJ (show(0:Int)<=(k:Int) by omega) (by omega),aa,n1]
   simp only[aj]
   unfold kS
   by_cases hs:t.2.1[k].2.1.1.length<=6
   ·rw[cZ (by omega),aX hs,au,ab.L2.run (d:=(t,(k:Int),0)) ⟨by rw[aa,n1];show t.2.1[k].2.1.1.length<=_;omega,0,bh _,rfl,by show(0:Int)<=(k:Int);omega,by show(k:Int) < (t.2.1.length:Int);omega⟩]
    simp only[ah,ab.L2.add,ab.L2.F,aa,n1,cF,aJ,bX]
    cases t.2.1[k].2.1.1.all mZ
    ·rfl
    ·simp only[if_true,j3,im,au,ah,aj]
     rw[N.rD (by omega)]
   ·rw[dv (by omega),cn hs];rfl
  cases hp:kS t.2.1[k]
  ·right
   refine⟨ab.L1.dm (),?_,λkn kx=> ?_⟩
   ·simp only[ab.L1.add,ab.L1.F,aa,hd,hp,dQ,bK,if_false]
    rfl
   ·rw[step,hp,au]
  ·left
   refine⟨(t,((k+1:Nat):Int)),⟨hlen,k+1,by omega,rfl⟩,by simp only[aa];omega,?_,λkn kx=> ?_⟩
   ·simp only[ab.L1.add,ab.L1.F,aa,hd,hp,bX]
   ·rw[step,hp,aj]
 ·right
  obtain rfl:k=t.2.1.length:=by omega
  refine⟨ab.L1.gL (),?_,λkn kx=> ?_⟩
  ·simp only[ab.L1.add,ab.L1.F,aa,bq]
   rfl
  ·rw[ab.L1.step,bl (by omega),au]
theorem ab.ok:ab.Ok:=by
 intro t _
 rw[ab.eq]
 simp only[bU,ab.F,wL]
 by_cases h1:t.1.length<=66
 ·by_cases h2:t.2.1.length<=66
  ·rw[cZ (by omega),cZ (by omega),au,au,aX ⟨h1,h2⟩,ab.L0.run (d:=(t,0)) ⟨by show t.1.length<=_;omega,0,bh _,rfl⟩]
   simp only[ah,ab.L0.add,ab.L0.F,cF,aJ,bX]
   cases t.1.all oL
   ·rfl
   ·simp only[if_true,j3,im,au,ah,bX]
    rw[ab.L1.run (d:=(t,0)) ⟨by show t.2.1.length<=_;omega,0,bh _,rfl⟩]
    simp only[ah,ab.L1.add,ab.L1.F,cF,aJ]
    cases t.2.1.all kS <;> rfl
  ·rw[cZ (by omega),dv (by omega),cn (λx=>h2 x.2)];rfl
 ·rw[dv (by omega),cn (λx=>h1 x.1)];rfl
theorem ab.run:ab.RS:=rE [.d oO] ab
def ab.sg:=ab.gC ab.ok 3 ⟨.js ab.L0.ok,⟨.js ab.L1.ok,⟨.js ab.L2.ok,trivial⟩⟩⟩
abbrev nK.D:=iK×iK
abbrev nK.Y:=Int
def yk(a b:iK):Int:=LX [yi a.1 b.1,rT a.2.1 b.2.1]
def nK.aY:nK.D->Prop:=λ(a,b)=>a.1.length=32/\b.1.length=32
def nK.F:nK.D->nK.Y:=λ(a,b)=>yk a b
def nK:Fs Tryz.prog nK.aY bU nK.F:=gh 80 Tryz.f80 (λ(a,b)=>([.d fA a,.d fA b],[])) (λx=>⟨.d ti x,[],[]⟩) [some fA,some fA] [lW.sg,jq.sg,fh.sg]
theorem nK.eq{R:Type}(a b)(k:K1 R):nK.A (a,b) k=
 aA (lW.call ((cut a.1 0 32),(cut b.1 0 32))) λx1=>
 aA (jq.call (a.2.1,b.2.1)) λx2=>
 aA (fh.call [x1,x2]) λx3=>
 k (nK.out x3):=by kernel_rfl
theorem nK.ok:nK.Ok:=by
 rintro⟨a,b⟩ ⟨ha,hb⟩
 have ha:a.1.length=32:=ha
 have hb:b.1.length=32:=hb
 have c1:cut a.1 0 32=a.1:=iq ha
 have c2:cut b.1 0 32=b.1:=iq hb
 rw[nK.eq,c1,c2,lW.run (d:=(a.1,b.1)) trivial]
 simp only[ah,bU,lW.F]
 rw[jq.run (d:=(a.2.1,b.2.1)) trivial]
 simp only[ah,bU,jq.F]
 rw[fh.run (d:=[yi a.1 b.1,rT a.2.1 b.2.1]) (by show 2<=_;decide)]
 simp only[ah,bU,fh.F,bU,nK.F,yk]
theorem nK.run:nK.RS:=rE [.d fA,.d fA] nK
def nK.sg:=nK.gC nK.ok
def lx:List Int->List Int->Int
 |x::xs,y::ys=>if x≠y then(if x < y then -1 else 1) else lx xs ys
 |_,_=>0
theorem B4:∀a,lx a a=0
 |[]=>rfl
 |x::a=>by simp[lx,B4 a]
theorem Jo:∀ {a b:List Int},a.length=b.length->lx a b=0->a=b
 |[],[],_,_=>rfl
 |[],_::_,h,_=>by simp at h
 |_::_,[],h,_=>by simp at h
 |x::a,y::b,h,h2=>by
  simp only[lx]at h2
  split at h2
  ·split at h2 <;> omega
  ·rename_i e
   have e:x=y:=by omega
   rw[e,Jo (by simpa using h) h2]
theorem qT:∀a b:List Int,lx b a= - lx a b
 |[],[]=>rfl
 |[],_::_=>rfl
 |_::_,[]=>rfl
 |x::a,y::b=>by
  simp only[lx]
  by_cases h:x=y
  ·rw[if_neg (by omega),if_neg (by omega),qT a b]
  ·rw[if_pos (by omega),if_pos h]
   by_cases h2:x < y
   ·rw[if_neg (by omega),if_pos h2];rfl
   ·rw[if_pos (by omega),if_neg h2]
theorem si:∀ {a b c:List Int},a.length=b.length->b.length=c.length->lx a b<=0->lx b c<=0->lx a c<=0/\(lx a c=0->lx a b=0/\lx b c=0)
 |[],[],[],_,_,_,_=>by simp[lx]
 |x::a,y::b,z::c,h1,h2,h3,h4=>by
  have ih:=si (a:=a) (b:=b) (c:=c) (by simpa using h1) (by simpa using h2)
  simp only[lx]at h3 h4 ⊢
  by_cases e1:x=y
  ·by_cases e2:y=z
   ·rw[if_neg (by omega)]at h3 h4
    rw[if_neg (by omega),if_neg (by omega),if_neg (by omega)]
    exact ih h3 h4
   ·rw[if_neg (by omega)]at h3
    rw[if_pos e2]at h4
    rw[if_pos (by omega)]
    by_cases e3:y < z
    ·rw[if_pos (by omega)]
     exact⟨by omega,λh=>by omega⟩
    ·rw[if_neg e3]at h4;omega
  ·rw[if_pos e1]at h3
   by_cases e3:x < y
   ·by_cases e2:y=z
    ·rw[if_pos (by omega),if_pos (by omega)]
     exact⟨by omega,λh=>by omega⟩
    ·rw[if_pos e2]at h4
     by_cases e4:y < z
     ·rw[if_pos (by omega),if_pos (by omega)]
      exact⟨by omega,λh=>by omega⟩
     ·rw[if_neg e4]at h4;omega
   ·rw[if_neg e3]at h3;omega
 |[],_::_,_,h,_,_,_=>by simp at h
 |_::_,[],_,h,_,_,_=>by simp at h
 |_,[],_::_,_,h,_,_=>by simp at h
 |_,_::_,[],_,h,_,_=>by simp at h
def P9(a b:Int):Int:=if a=0 then b else a
theorem xV{p:Int}{a b:List Int}:lx (p::a) (p::b)=lx a b:=by simp[lx]
theorem sQ{p q:Int}{a b:List Int}(h:¬p=q):lx (p::a) (q::b)=if p < q then -1 else 1:=by simp[lx,h]
theorem GG:∀ {a b:List Int} (x y:Int),a.length=b.length->lx (a++ [x]) (b++ [y])=P9 (lx a b) (rT x y)
 |[],[],x,y,_=>by
  show lx [x] [y]=P9 0 (rT x y)
  simp only[P9,if_true]
  unfold rT
  by_cases h:x=y
  ·subst h
   rw[xV,if_neg (by omega),if_neg (by omega)]
   rfl
  ·rw[sQ h]
   by_cases h2:x < y
   ·rw[if_pos h2,if_pos h2]
   ·rw[if_neg h2,if_neg h2,if_pos (by omega)]
 |[],_::_,_,_,h=>by simp at h
 |_::_,[],_,_,h=>by simp at h
 |p::a,q::b,x,y,h=>by
  show lx (p::(a++ [x])) (q::(b++ [y]))=_
  by_cases h2:p=q
  ·subst h2
   rw[xV,xV]
   exact GG x y (by simpa using h)
  ·rw[sQ h2,sQ h2]
   by_cases h3:p < q
   ·rw[if_pos h3];rfl
   ·rw[if_neg h3];rfl
def ID:List UInt8->List UInt8->Int
 |x::xs,y::ys=>if x !=y then(if x < y then -1 else 1) else ID xs ys
 |_,_=>0
theorem CS:∀(xs ys:List UInt8),xs.length=ys.length->(match(List.range xs.length).find? λi=>xs[i]! !=ys[i]! with | some i=>if xs[i]! < ys[i]! then(-1:Int) else 1 | none=>0)=ID xs ys
 |[],[],_=>rfl
 |[],_::_,h=>by simp at h
 |_::_,[],h=>by simp at h
 |x::xs,y::ys,h=>by
  have ih:=CS xs ys (by simpa using h)
  rw[aD,List.range_succ_eq_map,List.find?_cons]
  simp only[List.getElem!_cons_zero,ID]
  cases hb:(x !=y) with
  |true=>simp
  |false=>
   simp only[bK,if_false]
   rw[List.find?_map,<-ih]
   have e:((λi=>(x::xs)[i]! !=(y::ys)[i]!)∘Nat.succ)=λi=>xs[i]! !=ys[i]! :=by
    funext i;simp
   rw[e]
   cases(List.range xs.length).find? λi=>xs[i]! !=ys[i]! <;> simp
theorem Gj:∀ {a b:List Int},(∀x∈a,0<=x/\x < 256)->(∀x∈b,0<=x/\x < 256)->ID (a.map λn=>UInt8.ofNat n.toNat) (b.map λn=>UInt8.ofNat n.toNat)=lx a b
 |[],_,_,_=>by cases ‹List Int› <;> rfl
 |_::_,[],_,_=>rfl
 |x::a,y::b,ha,hb=>by
  have hx:=ha x (aG ..)
  have hy:=hb y (aG ..)
  have ih:=Gj (a:=a) (b:=b) (λz hz=>ha z (aF _ hz)) (λz hz=>hb z (aF _ hz))
  simp only[bE,ID,lx,ih]
  have e1:(UInt8.ofNat x.toNat).toNat=x.toNat:=by simp[UInt8.toNat_ofNat];omega
  have e2:(UInt8.ofNat y.toNat).toNat=y.toNat:=by simp[UInt8.toNat_ofNat];omega
  by_cases h:x=y
  ·subst h;simp
  ·have ga:(UInt8.ofNat x.toNat !=UInt8.ofNat y.toNat)=true:=by
    rw[bne_iff_ne]
    intro e
    have:=congrArg UInt8.toNat e
    rw[e1,e2]at this
    omega
   rw[ga,if_pos rfl,if_pos h]
   have iC:UInt8.ofNat x.toNat < UInt8.ofNat y.toNat↔x < y:=by
    rw[UInt8.lt_iff_toNat_lt,e1,e2];omega
   by_cases h2:x < y
   ·rw[if_pos (iC.2 h2),if_pos h2]
   ·rw[if_neg (λe=>h2 (iC.1 e)),if_neg h2]
theorem Kg{a b:List Int}(hl:a.length=b.length)(ha:∀x∈a,0<=x/\x < 256)(hb:∀x∈b,0<=x/\x < 256):yi a b=lx a b:=by
 rw[<-Gj ha hb,<-CS _ _ (by simpa using hl)]
 unfold yi Extern.BytealgCompare.cmp
 have s1:∀l:List Int,(ed l).size=l.length:=λl=>by simp[ed,ByteArray.size]
 have g1:∀(l:List Int) (i:Nat),(ed l)[i]! =(l.map λn=>UInt8.ofNat n.toNat)[i]! :=λl i=>by
  by_cases h:i < (ed l).size
  ·rw[getElem!_pos _ i h]
   have h2:i < (l.map λn=>UInt8.ofNat n.toNat).length:=by simpa[ed,ByteArray.size]using h
   rw[getElem!_pos _ i h2]
   rfl
  ·rw[getElem!_neg _ i h]
   have h2:¬i < (l.map λn=>UInt8.ofNat n.toNat).length:=by simpa[ed,ByteArray.size]using h
   rw[getElem!_neg _ i h2]
 simp only[s1,g1,hl,Nat.min_self,ct]
 cases(List.range b.length).find? λi=>(a.map λn=>UInt8.ofNat n.toNat)[i]! !=(b.map λn=>UInt8.ofNat n.toNat)[i]! <;> simp
def J2(o:iK):Prop:=o.1.length=32/\∀x∈o.1,0<=x/\x < 256
def oE(o:iK):List Int:=o.1++ [o.2.1]
theorem j8{o:iK}(h:J2 o):(oE o).length=33:=by simp[oE,h.1]
theorem DP{a b:iK}(ha:J2 a)(hb:J2 b)(h:oE a=oE b):a=b:=by
 obtain⟨a1,a2,_⟩:=a
 obtain⟨b1,b2,_⟩:=b
 have h:a1++ [a2]=b1++ [b2]:=h
 have:=List.append_inj' h rfl
 rw[this.1,show a2=b2 by simpa using this.2]
theorem lX{a b:iK}(ha:J2 a)(hb:J2 b):yk a b=lx (oE a) (oE b):=by
 unfold oE yk
 rw[GG _ _ (ha.1.trans hb.1.symm),Kg (ha.1.trans hb.1.symm) ha.2 hb.2]
 simp only[LX,P9]
 by_cases h:lx a.1 b.1=0
 ·rw[if_pos h,if_neg (λe=>e h)]
  split
  ·rfl
  ·omega
 ·rw[if_neg h,if_pos h]
theorem ym:Lh Tryz.prog fA 80 J2 yk:= {
 bG:=⟨nK.E,nK.sg.h.1 (by rfl),λx y hx hy=>⟨_,nK.run (d:=(x,y)) ⟨hx.1,hy.1⟩,rfl⟩⟩
 enters:=enters_of Tryz.func80 (by kernel_rfl) rfl
 irrefl:=λx hx=>by rw[lX hx hx,B4];decide
 trans:=λx y z hx hy hz h1 h2=>by
  rw[lX hx hy]at h1
  rw[lX hy hz]at h2
  rw[lX hx hz]
  have:=si (by rw[j8 hx,j8 hy]) (by rw[j8 hy,j8 hz]) (by omega:lx (oE x) (oE y)<=0) (by omega:lx (oE y) (oE z)<=0)
  have h3:=this.1
  by_cases h4:lx (oE x) (oE z)=0
  ·have:=(this.2 h4).1;omega
  ·omega
 ntrans:=λx y z hx hy hz h1 h2=>by
  rw[lX hx hy]at h1
  rw[lX hy hz]at h2
  rw[lX hx hz]
  have e1:=qT (oE x) (oE y)
  have e2:=qT (oE y) (oE z)
  have e3:=qT (oE x) (oE z)
  have:=(si (by rw[j8 hz,j8 hy]) (by rw[j8 hy,j8 hx]) (by omega:lx (oE z) (oE y)<=0) (by omega:lx (oE y) (oE x)<=0)).1
  omega}
theorem yn{x y:iK}(hx:J2 x)(hy:J2 y)(h1:¬yk x y < 0)(h2:¬yk y x < 0):x=y:=by
 rw[lX hx hy]at h1
 rw[lX hy hx,qT]at h2
 exact DP hx hy (Jo (by rw[j8 hx,j8 hy]) (by omega))
end Go.Ab
namespace Go.Proofs
open Go.Shelf
def Tryz.FT:Go.Shelf.Ren:=⟨λ | 6=>102 | 15=>155 | 14=>166 | 28=>214 | 29=>215 | 20=>226 | 21=>227 | 22=>228 | 23=>229 | 24=>230 | 25=>231 | 26=>232 | 27=>233 | 46=>270 | 47=>256 | 48=>257 | 49=>271 | 50=>272 | 57=>285 | n=>n,λ | 22=>92 | 24=>117 | 25=>179 | 3=>3 | 39=>224 | 0=>0 | 53=>255 | 55=>22 | 4=>4 | 46=>265 | 45=>264 | 50=>66 | 5=>5 | 9=>9 | 66=>298 | 70=>301 | 76=>313 | 77=>314 | n=>n,λ | n=>n⟩
theorem Tryz.JP:Go.Proofs.SlLaysF0.n6 Tryz.prog Tryz.FT:= {
 mixed:=by kernel_rfl
 f6:=⟨Tryz.f102.name,by decide,Tryz.func102.trans (congrArg some (by kernel_rfl))⟩
 f14:=⟨Tryz.f166.name,by decide,Tryz.func166.trans (congrArg some (by kernel_rfl))⟩
 f15:=Tryz.func155.trans (congrArg some (by kernel_rfl))
 f20:=⟨Tryz.f226.name,by decide,Tryz.func226.trans (congrArg some (by kernel_rfl))⟩
 f21:=⟨Tryz.f227.name,by decide,Tryz.func227.trans (congrArg some (by kernel_rfl))⟩
 f22:=⟨Tryz.f228.name,by decide,Tryz.func228.trans (congrArg some (by kernel_rfl))⟩
 f23:=⟨Tryz.f229.name,by decide,Tryz.func229.trans (congrArg some (by kernel_rfl))⟩
 f24:=⟨Tryz.f230.name,by decide,Tryz.func230.trans (congrArg some (by kernel_rfl))⟩
 f25:=⟨Tryz.f231.name,by decide,Tryz.func231.trans (congrArg some (by kernel_rfl))⟩
 f26:=⟨Tryz.f232.name,by decide,Tryz.func232.trans (congrArg some (by kernel_rfl))⟩
 f27:=⟨Tryz.f233.name,by decide,Tryz.func233.trans (congrArg some (by kernel_rfl))⟩
 f28:=Tryz.func214.trans (congrArg some (by kernel_rfl))
 f29:=Tryz.func215.trans (congrArg some (by kernel_rfl))
 f46:=⟨Tryz.f270.name,by decide,Tryz.func270.trans (congrArg some (by kernel_rfl))⟩
 f47:=Tryz.func256.trans (congrArg some (by kernel_rfl))
 f48:=Tryz.func257.trans (congrArg some (by kernel_rfl))
 f49:=⟨Tryz.f271.name,by decide,Tryz.func271.trans (congrArg some (by kernel_rfl))⟩
 f50:=⟨Tryz.f272.name,by decide,Tryz.func272.trans (congrArg some (by kernel_rfl))⟩
 f57:=⟨Tryz.f285.name,by decide,Tryz.func285.trans (congrArg some (by kernel_rfl))⟩
 t0:=Tryz.underlying0
 a0:=Tryz.isAgg0
 z0:=Tryz.sizeOf0
 v0:=Tryz.zeroValue0
 t3:=Tryz.underlying3
 a3:=Tryz.isAgg3
 z3:=Tryz.sizeOf3
 v3:=Tryz.zeroValue3
 t4:=Tryz.underlying4
 a4:=Tryz.isAgg4
 z4:=Tryz.sizeOf4
 v4:=Tryz.zeroValue4
 t5:=Tryz.underlying5
 a5:=Tryz.isAgg5
 z5:=Tryz.sizeOf5
 v5:=Tryz.zeroValue5
 t9:=Tryz.underlying9
 a9:=Tryz.isAgg9
 z9:=Tryz.sizeOf9
 v9:=Tryz.zeroValue9
 t22:=Tryz.underlying92
 a22:=Tryz.isAgg92
 z22:=Tryz.sizeOf92
 v22:=Tryz.zeroValue92
 t25:=Tryz.underlying179
 a25:=Tryz.isAgg179
 z25:=Tryz.sizeOf179
 v25:=Tryz.zeroValue179
 t39:=Tryz.underlying224
 a39:=Tryz.isAgg224
 z39:=Tryz.sizeOf224
 v39:=Tryz.zeroValue224
 t45:=Tryz.underlying264
 a45:=Tryz.isAgg264
 z45:=Tryz.sizeOf264
 v45:=Tryz.zeroValue264
 t46:=Tryz.underlying265
 a46:=Tryz.isAgg265
 z46:=Tryz.sizeOf265
 v46:=Tryz.zeroValue265
 t50:=Tryz.underlying66
 a50:=Tryz.isAgg66
 z50:=Tryz.sizeOf66
 v50:=Tryz.zeroValue66
 t53:=Tryz.underlying255
 a53:=Tryz.isAgg255
 z53:=Tryz.sizeOf255
 v53:=Tryz.zeroValue255
 t55:=Tryz.underlying22
 a55:=Tryz.isAgg22
 z55:=Tryz.sizeOf22
 v55:=Tryz.zeroValue22
 t66:=Tryz.underlying298
 a66:=Tryz.isAgg298
 z66:=Tryz.sizeOf298
 v66:=Tryz.zeroValue298
 t70:=Tryz.underlying301
 a70:=Tryz.isAgg301
 z70:=Tryz.sizeOf301
 v70:=Tryz.zeroValue301
 t76:=Tryz.underlying313
 a76:=Tryz.isAgg313
 z76:=Tryz.sizeOf313
 v76:=Tryz.zeroValue313
 t77:=Tryz.underlying314
 a77:=Tryz.isAgg314
 z77:=Tryz.sizeOf314
 v77:=Tryz.zeroValue314}
end Go.Proofs
namespace Go.Ab
open Go.Proofs
theorem xk{β:Type}{kt:Ty}(hc:kt.comp=true){x:kt.den}{v:β}:∀ {l:List (kt.den×β)},x ∉ l.map (·.1)->gX kt x v l=l++ [(x,v)]
 |[],_=>rfl
 |p::l,h=>by
  rw[uc]
  have h1:¬kt.beq x p.1=true:=λe=>h (by rw[beq_eq kt _ _ hc e];simp)
  rw[if_neg h1,xk hc λe=>h (by simp[e])]
  rfl
theorem jG:fA.comp=true:=rfl
def rF(l:List (iK×zS)):Int:=(l.map λp=>p.2.1.1).sum
theorem mB(p:iK×zS)(l:List (iK×zS)):rF (p::l)=p.2.1.1+rF l:=by simp[rF]
theorem CE(l l':List (iK×zS)):rF (l++l')=rF l+rF l':=by simp[rF]
theorem GW{l l':List (iK×zS)}(h:l.Perm l'):rF l=rF l':=by
 induction h with
 |nil=>rfl
 |cons x _ ih=>rw[mB,mB,ih]
 |swap x y l=>rw[mB,mB,mB,mB];omega
 |trans _ _ h1 h2=>rw[h1,h2]
def PQ(l:Lk):Prop:=l.1.length<=1000/\∀b∈l.1,b.1.length<=1000000
end Go.Ab
end
