/-
  Made short by a program of mine (wip/tools/mini.py).
-/
import Derived.Test.YtlpebgkekjfhaaaGreatS21x3
import Derived.Test.YtlpebgkekjfhaaaGreatProg
set_option linter.unusedVariables false
set_option linter.unusedSimpArgs false
set_option maxRecDepth 100000
set_option synthInstance.maxSize 5000
noncomputable section
namespace Go.Ab
open Go.Proofs
abbrev binary.D:=Bs
abbrev binary.Y:=Int
def binary.aM:binary.D->Prop:=λb=>4<=b.length
def binary.F:binary.D->binary.Y:=λb=>vw (U4 (b.getD 0 0) (b.getD 1 0) (b.getD 2 0) (b.getD 3 0))
def binary:Fs Tryz.prog binary.aM bP binary.F:=gC 277 Tryz.f277 (λb=>([.d tB b],[])) (λx=>⟨.d (.int .u32) x,[],[]⟩) [some tB]
theorem binary.eq{R:Type}(b)(k:K1 R):binary.A b k=
 aP (jn 0 (b.length:Int)) (
 aP (jn 1 (b.length:Int)) (
 aP (jn 2 (b.length:Int)) (
 aP (jn 3 (b.length:Int)) (
 k (binary.out (dY .or .u32 (dY .or .u32 (dY .or .u32 (l5 .u32 (fa .u32 (nth tb b 0)) 24) (l5 .u32 (fa .u32 (nth tb b 1)) 16)) (l5 .u32 (fa .u32 (nth tb b 2)) 8)) (fa .u32 (nth tb b 3))))) none) none) none) none:=by kernel_rfl
theorem binary.ok:binary.Ok:=by
 intro b h
 have h:4<=b.length:=h
 rw[binary.eq,bG (by omega) (by omega),bG (by omega) (by omega),bG (by omega) (by omega),bG (by omega) (by omega)]
 simp only[ag,OY,Gh,vj]
 rfl
theorem binary.run:binary.RS:=rE [.d tB] binary
def binary.sg:=binary.gG binary.ok
abbrev fx.D:=Int×Int
abbrev fx.Y:=Int
def rl(w:W)(k:Nat):W:=w <<< k ||| w >>> (32 - k)
def fx.aM:fx.D->Prop:=λ(x,k)=>0<=x/\x < 4294967296
def fx.F:fx.D->fx.Y:=λ(x,k)=>vw (rl (BitVec.ofInt 32 x) (k%32).toNat)
def fx:Fs Tryz.prog fx.aM bP fx.F:=gC 248 Tryz.f248 (λ(x,kv)=>([.d (.int .u32) x,.d ti kv],[])) (λx=>⟨.d (.int .u32) x,[],[]⟩) [some (.int .u32),some ti]
theorem fx.eq{R:Type}(x kv)(k:K1 R):fx.A (x,kv) k=
 aP (nL (dY .and .u64 (fa .u64 kv) 31)) (
 aP (nL (dJ .u64 32 (dY .and .u64 (fa .u64 kv) 31))) (
 k (fx.out (dY .or .u32 (l5 .u32 x (dY .and .u64 (fa .u64 kv) 31)) (cT .u32 x (dJ .u64 32 (dY .and .u64 (fa .u64 kv) 31)))))) none) none:=by kernel_rfl
theorem Tf(k:Int):dY .and .u64 (fa .u64 k) 31=k%32:=by
 have e:(31:Int)=vw (31:BitVec 64):=rfl
 rw[OZ,e,Kd]
 simp only
 have:(31:BitVec 64)=BitVec.ofNat 64 (2^5 - 1):=rfl
 unfold vw
 rw[BitVec.toNat_and,nr,show(31:BitVec 64).toNat=2^5 - 1 from rfl,Nat.and_two_pow_sub_one_eq_mod]
 omega
theorem fx.ok:fx.Ok:=by
 rintro⟨x,k⟩ ⟨h1,h2⟩
 have e1:dJ .u64 32 (k%32)=32 - k%32:=by
  unfold dJ
  rw[wrap_u64,lD]
  omega
 have hx:x=vw (BitVec.ofInt 32 x):=by rw[lD];omega
 rw[fx.eq,Tf,e1,pM (by omega),pM (by omega)]
 simp only[ag]
 have e2:dY .or .u32 (l5 .u32 x (k%32)) (cT .u32 x (32 - k%32))=vw (rl (BitVec.ofInt 32 x) (k%32).toNat):=by
  conv=>lhs;rw[hx]
  rw[Gh,A7,vj]
  simp only[rl]
  congr 3
  omega
 rw[e2]
 rfl
theorem fx.run:fx.RS:=rE [.d (.int .u32),.d ti] fx
def fx.sg:=fx.gG fx.ok
theorem fx.at(w:W)(k:Int):fx.call (vw w,k)=some (vw (rl w (k%32).toNat)):=by
 have h:fx.aM (vw w,k):=⟨D4 w,by have:=Qs w;simpa using this⟩
 rw[fx.run h]
 show some (vw (rl (BitVec.ofInt 32 (vw w)) (k%32).toNat))=_
 rw[pN]
abbrev table.D:=Unit
abbrev table.Y:=(List Int)
def table.aM:table.D->Prop:=λ_=>True
def table.F:table.D->table.Y:=λ_=>Gj
def table:Fs Tryz.prog table.aM bP table.F:=gC 247 Tryz.f247 (λ_=>([],[])) (λx=>⟨.d (.arr 64 (.int .u32)) x,[],[]⟩) []
theorem table.eq{R:Type}(d)(k:K1 R):table.A d k=
 k (table.out [1116352408,1899447441,3049323471,3921009573,961987163,1508970993,2453635748,2870763221,3624381080,310598401,607225278,1426881987,1925078388,2162078206,2614888103,3248222580,3835390401,4022224774,264347078,604807628,770255983,1249150122,1555081692,1996064986,2554220882,2821834349,2952996808,3210313671,3336571891,3584528711,113926993,338241895,666307205,773529912,1294757372,1396182291,1695183700,1986661051,2177026350,2456956037,2730485921,2820302411,3259730800,3345764771,3516065817,3600352804,4094571909,275423344,430227734,506948616,659060556,883997877,958139571,1322822218,1537002063,1747873779,1955562222,2024104815,2227730452,2361852424,2428436474,2756734187,3204031479,3329325298]):=by kernel_rfl
theorem table.ok:table.Ok:=by
 intro d _
 rw[table.eq]
 rfl
theorem table.run:table.RS:=rE [] table
def table.sg:=table.gG table.ok
abbrev first.D:=Unit
abbrev first.Y:=(List Int)
def first.aM:first.D->Prop:=λ_=>True
def first.F:first.D->first.Y:=λ_=>re.l
def first:Fs Tryz.prog first.aM bP first.F:=gC 201 Tryz.f201 (λ_=>([],[])) (λx=>⟨.d (.arr 8 (.int .u32)) x,[],[]⟩) []
theorem first.eq{R:Type}(d)(k:K1 R):first.A d k=
 k (first.out [1779033703,3144134277,1013904242,2773480762,1359893119,2600822924,528734635,1541459225]):=by kernel_rfl
theorem first.ok:first.Ok:=by
 intro d _
 rw[first.eq]
 rfl
theorem first.run:first.RS:=rE [] first
def first.sg:=first.gG first.ok
abbrev schedule.L0.D:=Bs×Int×(List Int)
abbrev schedule.L0.Y:=(List Int)
abbrev schedule.D:=Bs
abbrev schedule.Y:=(List Int)
def wl(l:List W):List Int:=l.map vw
def uv(l:List W):List Int:=wl l++List.replicate (64 - l.length) 0
def tP(b:List Int)(k:Nat):List W:=if k<=16 then(words b).take k else UK (words b) (k - 16)
def schedule.L0.aM:schedule.L0.D->Prop:=λ(b,t8,n2)=>64<=b.length/\∃k:Nat,k<=64/\t8=k/\n2=uv (tP b k)
def schedule.L0.F:schedule.L0.D->schedule.L0.Y:=λ(b,t8,n2)=>wl (sched b)
def schedule.aM:schedule.D->Prop:=λb=>64<=b.length
def schedule.F:schedule.D->schedule.Y:=λb=>wl (sched b)
def schedule.L0:Ls schedule.L0.aM bP schedule.L0.F:=rY (λ(rM,t8,n2)=>⟨([.d tB rM,.undef,.ptr (.new 2 0) 0 [] 0]++aT 5 ([.d ti t8]++aT 52 [])),[],([[],[],[.obj 0 false (.d (.arr 64 (.int .u32)) n2)]]++ct 58 [])⟩) (λx=>(.exit 0,⟨([.undef,.undef,.ptr (.new 2 0) 0 [] 0]++aT 58 []),[],([[],[],[.obj 0 false (.d (.arr 64 (.int .u32)) x)]]++ct 58 [])⟩))
def schedule:Fs Tryz.prog schedule.aM bP schedule.F:=gC 246 Tryz.f246 (λb=>([.d tB b],[])) (λx=>⟨.d (.arr 64 (.int .u32)) x,[],[]⟩) [some tB] [binary.sg,fx.sg] {loops:=pz [(2,{bo:=[0,2,8],sites:=[2]})],outs:=py [(2,{bo:=[2],sites:=[2]},{bo:=[2]})],iX:=qg [(2,schedule.L0.E)]}
theorem schedule.L0.run:schedule.L0.RS:=rL [.d tB,.d ti,.d (.slice (.int .u32))] schedule.L0
theorem schedule.L0.step{R:Type}(rM t8 n2)(kn:K2 R)(kx:K3 R):schedule.R 0 schedule.L0 (rM,t8,n2) kn kx=
  aP ((jx t8 64)) (
   aP ((jx t8 16)) (
    aP (inc (jj .i64 4 t8) (rM.length:Int)) (
    ah (binary.call (cut rM (Int.toNat (jj .i64 4 t8)) ((List.length rM) - (Int.toNat (jj .i64 4 t8))))) λx1=>
    aP (jn t8 64) (
    aP (decide ((Int.toNat t8) < (List.length n2))) (
    aP (decide ((((Int.toNat t8)*1)+0)=(0+((Int.toNat t8)*1)))) (
    aP (decide ((Int.toNat t8) < (List.length n2))) (
    kn (schedule.L0.st (rM,(cG .i64 t8 1),(List.set n2 (Int.toNat t8) x1)))) none) none) none) none) none) (
    aP (jn (dJ .i64 t8 15) 64) (
    aP (decide ((Int.toNat (dJ .i64 t8 15)) < (List.length n2))) (
    aP (decide ((((Int.toNat (dJ .i64 t8 15))*1)+0)=(0+((Int.toNat (dJ .i64 t8 15))*1)))) (
    aP (jn (dJ .i64 t8 2) 64) (
    aP (decide ((Int.toNat (dJ .i64 t8 2)) < (List.length n2))) (
    aP (decide ((((Int.toNat (dJ .i64 t8 2))*1)+0)=(0+((Int.toNat (dJ .i64 t8 2))*1)))) (
    ah (fx.call ((nth (.int .u32) n2 (Int.toNat (dJ .i64 t8 15))),(-7))) λx2=>
    ah (fx.call ((nth (.int .u32) n2 (Int.toNat (dJ .i64 t8 15))),(-18))) λx3=>
    ah (fx.call ((nth (.int .u32) n2 (Int.toNat (dJ .i64 t8 2))),(-17))) λx4=>
    ah (fx.call ((nth (.int .u32) n2 (Int.toNat (dJ .i64 t8 2))),(-19))) λx5=>
    aP (jn (dJ .i64 t8 16) 64) (
    aP (decide ((Int.toNat (dJ .i64 t8 16)) < (List.length n2))) (
    aP (decide ((((Int.toNat (dJ .i64 t8 16))*1)+0)=(0+((Int.toNat (dJ .i64 t8 16))*1)))) (
    aP (jn (dJ .i64 t8 7) 64) (
    aP (decide ((Int.toNat (dJ .i64 t8 7)) < (List.length n2))) (
    aP (decide ((((Int.toNat (dJ .i64 t8 7))*1)+0)=(0+((Int.toNat (dJ .i64 t8 7))*1)))) (
    aP (jn t8 64) (
    aP (decide ((Int.toNat t8) < (List.length n2))) (
    aP (decide ((((Int.toNat t8)*1)+0)=(0+((Int.toNat t8)*1)))) (
    aP (decide ((Int.toNat t8) < (List.length n2))) (
    kn (schedule.L0.st (rM,(cG .i64 t8 1),(List.set n2 (Int.toNat t8) (cG .u32 (cG .u32 (cG .u32 (nth (.int .u32) n2 (Int.toNat (dJ .i64 t8 16))) (dY .xor .u32 (dY .xor .u32 x2 x3) (cT .u32 (nth (.int .u32) n2 (Int.toNat (dJ .i64 t8 15))) 3))) (nth (.int .u32) n2 (Int.toNat (dJ .i64 t8 7)))) (dY .xor .u32 (dY .xor .u32 x4 x5) (cT .u32 (nth (.int .u32) n2 (Int.toNat (dJ .i64 t8 2))) 10))))))) none) none) none) none) none) none) none) none) none) none) none) none) none) none) none) none)) (
   schedule.L0.go kx n2):=by kernel_rfl
theorem schedule.eq{R:Type}(b)(k:K1 R):schedule.A b k=
 ah (schedule.L0.call (b,0,(List.replicate 64 0))) λx6=>
 k (schedule.out x6):=by kernel_rfl
theorem Hn(b:List Int)(k:Nat)(h:k<=64):(tP b k).length=k:=by
 unfold tP
 split
 ·simp[oM];omega
 ·rw[w6,oM];omega
theorem PG(b:List Int):tP b 64=sched b:=rfl
theorem LB(b:List Int)(k:Nat)(h:k < 16):tP b (k+1)=tP b k++ [be b k]:=by
 unfold tP
 rw[if_pos (by omega),if_pos (by omega),List.take_succ_eq_append_getElem (by rw[oM];exact h)]
 simp[words]
theorem N4(b:List Int)(k:Nat)(h:16<=k):tP b (k+1)=ext (tP b k):=by
 unfold tP
 rw[if_neg (by omega)]
 by_cases VW:k=16
 ·subst VW
  rw[if_pos (by omega),bk (by rw[oM];omega)]
  rfl
 ·rw[if_neg (by omega),show k+1 - 16=(k - 16)+1 by omega]
  rfl
theorem Ef(l:List W)(h:l.length<=64):(uv l).length=64:=by simp[uv,wl];omega
theorem vi(l:List W)(i:Nat)(h:i < l.length):nth (.int .u32) (uv l) i=vw (l.getD i 0):=by
 unfold nth uv wl
 rw[aA,fq (by simpa using h)]
 simp[h]
theorem Da(l:List W)(w:W)(h:l.length < 64):(uv l).set l.length (vw w)=uv (l++ [w]):=by
 unfold uv wl
 rw[List.set_append_right _ _ (by simp)]
 simp only[cK,Nat.sub_self,List.map_append,ae,aB,bn]
 rw[show 64 - l.length=(64 - (l.length+(0+1)))+1 by omega,List.replicate_succ,List.set_cons_zero]
 simp
theorem HF(l:List W)(h:l.length=64):uv l=wl l:=by simp[uv,h]
theorem QE(b:List Int)(k:Nat)(h:4*k+4<=b.length):U4 ((cut b (4*k) (b.length - 4*k)).getD 0 0) ((cut b (4*k) (b.length - 4*k)).getD 1 0) ((cut b (4*k) (b.length - 4*k)).getD 2 0) ((cut b (4*k) (b.length - 4*k)).getD 3 0)=be b k:=by
 have e:∀j,j < 4->(cut b (4*k) (b.length - 4*k)).getD j 0=b.getD (4*k+j) 0:=λj hj=>by
  unfold cut
  rw[aA,aA,List.getElem?_take_of_lt (by omega),fW]
 unfold be
 rw[e 0 (by omega),e 1 (by omega),e 2 (by omega),e 3 (by omega),cF]
theorem schedule.L0.ok:(schedule.mL 0 schedule.L0):=by
 refine(schedule.oH 0 schedule.L0) (λ(b,t8,n2)=>64 - t8.toNat) ?_
 rintro⟨b,t8,n2⟩ ⟨hb,k,hk,rfl,rfl⟩
 have SV:=Hn b k hk
 have ME:=Ef (tP b k) (by omega)
 by_cases h:k < 64
 ·left
  refine⟨(b,((k+1:Nat):Int),uv (tP b (k+1))),⟨hb,k+1,by omega,rfl,rfl⟩,by simp;omega,rfl,λkn kx=> ?_⟩
  have e1:cG .i64 (k:Int) 1=((k+1:Nat):Int):=by rw[fX (by omega) (by omega)];omega
  have e2:Int.toNat (k:Int)=k:=by omega
  rw[schedule.L0.step,bg (by omega)]
  simp only[ag,e1,e2,ME,jA,aI,cF,decide_true]
  by_cases VW:k < 16
  ·have e3:jj .i64 4 (k:Int)=((4*k:Nat):Int):=by rw[xv (by omega) (by omega)];omega
   have e4:Int.toNat ((4*k:Nat):Int)=4*k:=by omega
   rw[bg (by omega),e3,oz (by omega) (by omega),e4,bG (by omega) (by omega),aY h]
   have hp:binary.aM (cut b (4*k) (b.length - 4*k)):=by
    show 4<=_
    rw[tj (by omega)];omega
   simp only[ag,binary.run hp,ab]
   have e5:bP (cut b (4*k) (b.length - 4*k)) (binary.F (cut b (4*k) (b.length - 4*k)))=vw (be b k):=by
    show vw (U4 _ _ _ _)=_
    rw[QE b k (by omega)]
   have e6:=Da (tP b k) (be b k) (by omega)
   rw[SV]at e6
   rw[e5,e6,LB b k VW]
  ·have a15:Int.toNat (dJ .i64 (k:Int) 15)=k - 15:=by rw[fP (by omega) (by omega)];omega
   have a2:Int.toNat (dJ .i64 (k:Int) 2)=k - 2:=by rw[fP (by omega) (by omega)];omega
   have a16:Int.toNat (dJ .i64 (k:Int) 16)=k - 16:=by rw[fP (by omega) (by omega)];omega
   have a7:Int.toNat (dJ .i64 (k:Int) 7)=k - 7:=by rw[fP (by omega) (by omega)];omega
   have i15:jn (dJ .i64 (k:Int) 15) 64=true:=bG (by rw[fP (by omega) (by omega)];omega) (by rw[fP (by omega) (by omega)];omega)
   have i2:jn (dJ .i64 (k:Int) 2) 64=true:=bG (by rw[fP (by omega) (by omega)];omega) (by rw[fP (by omega) (by omega)];omega)
   have i16:jn (dJ .i64 (k:Int) 16) 64=true:=bG (by rw[fP (by omega) (by omega)];omega) (by rw[fP (by omega) (by omega)];omega)
   have i7:jn (dJ .i64 (k:Int) 7) 64=true:=bG (by rw[fP (by omega) (by omega)];omega) (by rw[fP (by omega) (by omega)];omega)
   have i0:jn (k:Int) 64=true:=bG (by omega) (by omega)
   have d15:decide (k - 15 < 64)=true:=aY (by omega)
   have d2:decide (k - 2 < 64)=true:=aY (by omega)
   have d16:decide (k - 16 < 64)=true:=aY (by omega)
   have d7:decide (k - 7 < 64)=true:=aY (by omega)
   have d0:decide (k < 64)=true:=aY h
   rw[aX (by omega)]
   simp only[ag,al,a15,a2,a16,a7,i15,i2,i16,i7,i0,d15,d2,d16,d7,d0,vi (tP b k) (k - 15) (by omega),vi (tP b k) (k - 2) (by omega),vi (tP b k) (k - 16) (by omega),vi (tP b k) (k - 7) (by omega),fx.at,ab,vj,A7,AV]
   have e6:=Da (tP b k) (Qh (tP b k) k) (by omega)
   rw[SV]at e6
   rw[N4 b k (by omega),ext,SV,<-e6]
   rfl
 ·right
  obtain rfl:k=64:=by omega
  intro R kn kx
  rw[schedule.L0.step,aX (by omega),HF _ SV,PG]
  simp only[al,bP,schedule.L0.F]
theorem schedule.ok:schedule.Ok:=by
 intro b hb
 have hp:schedule.L0.aM (b,0,List.replicate 64 0):=⟨hb,0,by omega,rfl,rfl⟩
 rw[schedule.eq,schedule.L0.run hp]
 simp only[ab,bP,schedule.L0.F,bP,schedule.F]
theorem schedule.run:schedule.RS:=rE [.d tB] schedule
def schedule.sg:=schedule.gG schedule.ok 1 ⟨.iR schedule.L0.ok,trivial⟩
abbrev mix.L0.D:=(List Int)×Int×(List Int)×(List Int)×(List Int)×(List Int)
abbrev mix.L0.Y:=(List Int)
abbrev mix.L0.X:=((List Int)×(List Int))×((List Int))
def mix.L0.add:mix.L0.D->mix.L0.Y->mix.L0.X:=λ(Q5,t18,n4,n5,n6,n7) y=>((Q5,n4),y)
abbrev mix.L1.D:=(List Int)×Int×(List Int)×(List Int)
abbrev mix.L1.Y:=(List Int)
abbrev mix.L1.X:=((List Int))×((List Int))
def mix.L1.add:mix.L1.D->mix.L1.Y->mix.L1.X:=λ(SH,t104,rp,CR) y=>(rp,y)
abbrev mix.D:=(List Int)×Bs
abbrev mix.Y:=(List Int)
def Lw(l:List Int):St:=⟨BitVec.ofInt 32 (l.getD 0 0),BitVec.ofInt 32 (l.getD 1 0),BitVec.ofInt 32 (l.getD 2 0),BitVec.ofInt 32 (l.getD 3 0),BitVec.ofInt 32 (l.getD 4 0),BitVec.ofInt 32 (l.getD 5 0),BitVec.ofInt 32 (l.getD 6 0),BitVec.ofInt 32 (l.getD 7 0)⟩
theorem rF(s:St):Lw s.l=s:=by
 obtain⟨a,b,c,d,e,f,g,h⟩:=s
 simp[Lw,St.l,pN]
def Se(l:List Int):List W:=l.map (BitVec.ofInt 32)
theorem J0(l:List W):Se (wl l)=l:=by
 unfold Se wl
 rw[List.map_map]
 have:(BitVec.ofInt 32∘vw)=(id:W->W):=by funext w;exact pN w
 rw[this,List.map_id]
def mix.L0.aM:mix.L0.D->Prop:=λ(h,t,n4,n5,n6,n7)=>∃(s:St) (ws:List W) (k:Nat),h=s.l/\n5=wl ws/\ws.length=64/\k<=64/\t=k/\n6=Gj/\n7=(rounds ws s k).l
def mix.L0.F:mix.L0.D->mix.L0.Y:=λ(h,t,n4,n5,n6,n7)=>(rounds (Se n5) (Lw h) 64).l
def mix.L1.aM:mix.L1.D->Prop:=λ(h,t,n4,n7)=>n7.length=8/\∃k:Nat,k<=8/\t=k
def mix.L1.F:mix.L1.D->mix.L1.Y:=λ(h,t,n4,n7)=>from_ (λi x=>cG .u32 x (nth (.int .u32) h i)) t.toNat n7
def mix.aM:mix.D->Prop:=λ(h,b)=>(∃s:St,h=s.l)/\64<=b.length
def mix.F:mix.D->mix.Y:=λ(h,b)=>(KY (Lw h) b).l
def mix.L0:Ls mix.L0.aM mix.L0.add mix.L0.F:=rY (λ(Q5,t18,n4,n5,n6,n7)=>⟨([.undef,.undef,.eD (.arr 8 (.int .u32)) Q5,.undef,.ptr (.new 4 0) 0 [] 0,.ptr (.new 5 0) 0 [] 0,.ptr (.new 6 0) 0 [] 0,.ptr (.new 7 0) 0 [] 0]++aT 10 ([.d ti t18]++aT 98 [])),[],(ct 4 ([[.obj 0 false (.d (.arr 8 (.int .u32)) n4)],[.obj 0 false (.d (.arr 64 (.int .u32)) n5)],[.obj 0 false (.d (.arr 64 (.int .u32)) n6)],[.obj 0 false (.d (.arr 8 (.int .u32)) n7)]]++ct 109 []))⟩) (λx=>(.exit 0,⟨([.undef,.undef,.eD (.arr 8 (.int .u32)) x.1.1,.undef,.ptr (.new 4 0) 0 [] 0,.undef,.undef,.ptr (.new 7 0) 0 [] 0]++aT 109 []),[],(ct 4 ([[.obj 0 false (.d (.arr 8 (.int .u32)) x.1.2)],[],[],[.obj 0 false (.d (.arr 8 (.int .u32)) x.2)]]++ct 109 []))⟩))
def mix.L1:Ls mix.L1.aM mix.L1.add mix.L1.F:=rY (λ(SH,t104,rp,CR)=>⟨([.undef,.undef,.eD (.arr 8 (.int .u32)) SH,.undef,.ptr (.new 4 0) 0 [] 0,.undef,.undef,.ptr (.new 7 0) 0 [] 0]++aT 96 ([.d ti t104]++aT 12 [])),[],(ct 4 ([[.obj 0 false (.d (.arr 8 (.int .u32)) rp)],[],[],[.obj 0 false (.d (.arr 8 (.int .u32)) CR)]]++ct 109 []))⟩) (λx=>(.exit 2,⟨(aT 4 ([.ptr (.new 4 0) 0 [] 0,.undef,.undef,.ptr (.new 7 0) 0 [] 0]++aT 109 [])),[],(ct 4 ([[.obj 0 false (.d (.arr 8 (.int .u32)) x.1)],[],[],[.obj 0 false (.d (.arr 8 (.int .u32)) x.2)]]++ct 109 []))⟩))
def mix:Fs Tryz.prog mix.aM bP mix.F:=gC 202 Tryz.f202 (λ(h,b)=>([.d (.arr 8 (.int .u32)) h,.d tB b],[])) (λx=>⟨.d (.arr 8 (.int .u32)) x,[],[]⟩) [some (.arr 8 (.int .u32)),some tB] [schedule.sg,table.sg,fx.sg] {loops:=pz [(4,{bo:=[2,4,5,6,7,18],sites:=[4,5,6,7]}),(13,{bo:=[2,4,7,104],sites:=[4,7]})],outs:=py [(4,{bo:=[2,4,7],sites:=[4,7]},{bo:=[4]}),(13,{bo:=[4,7],sites:=[4,7]},{bo:=[4]})],iX:=qg [(4,mix.L0.E),(13,mix.L1.E)]}
theorem mix.L0.run:mix.L0.RS:=rL [.d (.arr 8 (.int .u32)),.d ti,.d (.slice (.int .u32)),.d (.slice (.int .u32)),.d (.slice (.int .u32)),.d (.slice (.int .u32))] mix.L0
theorem mix.L0.step{R:Type}(Q5 t18 n4 n5 n6 n7)(kn:K2 R)(kx:K3 R):mix.R 0 mix.L0 (Q5,t18,n4,n5,n6,n7) kn kx=
  aP ((jx t18 64)) (
   aP (decide (4 < (List.length n7))) (
   ah (fx.call ((nth (.int .u32) n7 4),(-6))) λx1=>
   aP (decide (4 < (List.length n7))) (
   ah (fx.call ((nth (.int .u32) n7 4),(-11))) λx2=>
   aP (decide (4 < (List.length n7))) (
   ah (fx.call ((nth (.int .u32) n7 4),(-25))) λx3=>
   aP (decide (7 < (List.length n7))) (
   aP (decide (6 < (List.length n7))) (
   aP (decide (4 < (List.length n7))) (
   aP (decide (5 < (List.length n7))) (
   aP (decide (6 < (List.length n7))) (
   aP (jn t18 64) (
   aP (decide ((Int.toNat t18) < (List.length n6))) (
   aP (decide ((((Int.toNat t18)*1)+0)=(0+((Int.toNat t18)*1)))) (
   aP (jn t18 64) (
   aP (decide ((Int.toNat t18) < (List.length n5))) (
   aP (decide ((((Int.toNat t18)*1)+0)=(0+((Int.toNat t18)*1)))) (
   aP (decide (0 < (List.length n7))) (
   ah (fx.call ((nth (.int .u32) n7 0),(-2))) λx4=>
   aP (decide (0 < (List.length n7))) (
   ah (fx.call ((nth (.int .u32) n7 0),(-13))) λx5=>
   aP (decide (0 < (List.length n7))) (
   ah (fx.call ((nth (.int .u32) n7 0),(-22))) λx6=>
   aP (decide (0 < (List.length n7))) (
   aP (decide (1 < (List.length n7))) (
   aP (decide (2 < (List.length n7))) (
   aP (decide (0 < (List.length n7))) (
   aP (decide (1 < (List.length n7))) (
   aP (decide (0 < (List.length n7))) (
   aP (decide (1 < (List.length n7))) (
   aP (decide (2 < (List.length n7))) (
   aP (decide (3 < (List.length n7))) (
   aP (decide (4 < (List.length n7))) (
   aP (decide (5 < (List.length n7))) (
   aP (decide (6 < (List.length n7))) (
   kn (mix.L0.st (Q5,(cG .i64 t18 1),n4,n5,n6,[(cG .u32 (cG .u32 (cG .u32 (cG .u32 (cG .u32 (cG .u32 (nth (.int .u32) n7 7) (dY .xor .u32 (dY .xor .u32 x1 x2) x3)) (dY .xor .u32 (nth (.int .u32) n7 6) (dY .and .u32 (nth (.int .u32) n7 4) (dY .xor .u32 (nth (.int .u32) n7 5) (nth (.int .u32) n7 6))))) (nth (.int .u32) n6 (Int.toNat t18))) (nth (.int .u32) n5 (Int.toNat t18))) (dY .xor .u32 (dY .xor .u32 x4 x5) x6)) (dY .or .u32 (dY .and .u32 (nth (.int .u32) n7 0) (nth (.int .u32) n7 1)) (dY .and .u32 (nth (.int .u32) n7 2) (dY .or .u32 (nth (.int .u32) n7 0) (nth (.int .u32) n7 1))))),(nth (.int .u32) n7 0),(nth (.int .u32) n7 1),(nth (.int .u32) n7 2),(cG .u32 (nth (.int .u32) n7 3) (cG .u32 (cG .u32 (cG .u32 (cG .u32 (nth (.int .u32) n7 7) (dY .xor .u32 (dY .xor .u32 x1 x2) x3)) (dY .xor .u32 (nth (.int .u32) n7 6) (dY .and .u32 (nth (.int .u32) n7 4) (dY .xor .u32 (nth (.int .u32) n7 5) (nth (.int .u32) n7 6))))) (nth (.int .u32) n6 (Int.toNat t18))) (nth (.int .u32) n5 (Int.toNat t18)))),(nth (.int .u32) n7 4),(nth (.int .u32) n7 5),(nth (.int .u32) n7 6)]))) none) none) none) none) none) none) none) none) none) none) none) none) none) none) none) none) none) none) none) none) none) none) none) none) none) none) none) none) none) (
   mix.L0.go kx ((Q5,n4),n7)):=by kernel_rfl
theorem mix.L1.run:mix.L1.RS:=rL [.d (.arr 8 (.int .u32)),.d ti,.d (.slice (.int .u32)),.d (.slice (.int .u32))] mix.L1
theorem mix.L1.step{R:Type}(SH t104 rp CR)(kn:K2 R)(kx:K3 R):mix.R 1 mix.L1 (SH,t104,rp,CR) kn kx=
  aP ((jx t104 8)) (
   aP (jn t104 8) (
   aP (decide ((Int.toNat t104) < (List.length CR))) (
   aP (decide ((((Int.toNat t104)*1)+0)=(0+((Int.toNat t104)*1)))) (
   aP (jn t104 8) (
   aP (jn t104 8) (
   aP (decide ((Int.toNat t104) < (List.length CR))) (
   aP (decide ((((Int.toNat t104)*1)+0)=(0+((Int.toNat t104)*1)))) (
   aP (decide ((Int.toNat t104) < (List.length CR))) (
   kn (mix.L1.st (SH,(cG .i64 t104 1),rp,(List.set CR (Int.toNat t104) (cG .u32 (nth (.int .u32) CR (Int.toNat t104)) (nth (.int .u32) SH (Int.toNat t104))))))) none) none) none) none) none) none) none) none) (
   mix.L1.go kx (rp,CR)):=by kernel_rfl
theorem mix.eq{R:Type}(h b)(k:K1 R):mix.A (h,b) k=
 ah (schedule.call b) λx1=>
 ah (table.call ()) λx2=>
 ah (mix.L0.call (h,0,(List.replicate 8 0),x1,x2,h)) λx9=>
 ah (mix.L1.call (x9.1.1,0,x9.1.2,x9.2)) λCB=>
 k (mix.out CB.2):=by kernel_rfl
theorem St.M1(s:St):s.l.length=8:=rfl
theorem Gk:Gj.length=64:=rfl
theorem M0(k:Nat)(h:k < 64):nth (.int .u32) Gj k=vw (kw k):=by
 have hh:∀k:Fin 64,nth (.int .u32) Gj k.val=vw (kw k.val):=by decide+kernel
 exact hh ⟨k,h⟩
theorem Sh(ws:List W)(k:Nat)(h:k < ws.length):nth (.int .u32) (wl ws) k=vw (ws.getD k 0):=by
 unfold nth wl
 simp[h]
theorem Zt(w:W):rl w ((-6:Int)%32).toNat=vP w 6:=rfl
theorem Xc(w:W):rl w ((-11:Int)%32).toNat=vP w 11:=rfl
theorem Xf(w:W):rl w ((-25:Int)%32).toNat=vP w 25:=rfl
theorem Zs(w:W):rl w ((-2:Int)%32).toNat=vP w 2:=rfl
theorem Xd(w:W):rl w ((-13:Int)%32).toNat=vP w 13:=rfl
theorem Xe(w:W):rl w ((-22:Int)%32).toNat=vP w 22:=rfl
theorem n0(s:St):nth (.int .u32) s.l 0=vw s.a:=rfl
theorem n1(s:St):nth (.int .u32) s.l 1=vw s.b:=rfl
theorem n2(s:St):nth (.int .u32) s.l 2=vw s.c:=rfl
theorem n3(s:St):nth (.int .u32) s.l 3=vw s.d:=rfl
theorem n4(s:St):nth (.int .u32) s.l 4=vw s.e:=rfl
theorem n5(s:St):nth (.int .u32) s.l 5=vw s.f:=rfl
theorem n6(s:St):nth (.int .u32) s.l 6=vw s.g:=rfl
theorem n7(s:St):nth (.int .u32) s.l 7=vw s.h:=rfl
theorem mix.L0.ok:(mix.mL 0 mix.L0):=by
 refine(mix.oH 0 mix.L0) (λ(h,t,n4,n5,n6,n7)=>64 - t.toNat) ?_
 rintro⟨h,t,m4,m5,m6,m7⟩ ⟨s,ws,k,rfl,rfl,hw,hk,rfl,rfl,rfl⟩
 by_cases iv:k < 64
 ·left
  refine⟨(s.l,((k+1:Nat):Int),m4,wl ws,Gj,(rounds ws s (k+1)).l),⟨s,ws,k+1,rfl,rfl,hw,by omega,rfl,rfl,rfl⟩,by simp;omega,rfl,λkn kx=> ?_⟩
  have e1:cG .i64 (k:Int) 1=((k+1:Nat):Int):=by rw[fX (by omega) (by omega)];omega
  have e2:Int.toNat (k:Int)=k:=by omega
  have SV:(wl ws).length=64:=by simp[wl,hw]
  have d0:decide (k < 64)=true:=aY iv
  have i0:jn (k:Int) 64=true:=bG (by omega) (by omega)
  rw[mix.L0.step,bg (by omega)]
  generalize hv:rounds ws s k=v
  simp only[e1,e2,jA,aI,cF,decide_true,ag,St.M1,Nat.reduceLT,Gk,SV,d0,i0,n0,n1,n2,n3,n4,n5,n6,n7,fx.at,ab,M0 k iv,Sh ws k (by omega),vj,AV,Zt,Xc,Xf,Zs,Xd,Xe]
  show kn _=kn (mix.L0.st (s.l,((k+1:Nat):Int),m4,wl ws,Gj,(oH (rounds ws s k) (kw k) (ws.getD k 0)).l))
  rw[hv]
  rfl
 ·right
  obtain rfl:k=64:=by omega
  intro R kn kx
  rw[mix.L0.step,aX (by omega)]
  simp only[al,mix.L0.add,mix.L0.F,J0,rF]
theorem mix.L1.ok:(mix.mL 1 mix.L1):=by
 refine(mix.oH 1 mix.L1) (λ(h,t,n4,n7)=>8 - t.toNat) ?_
 rintro⟨h,t,m4,m7⟩ ⟨hl,k,hk,rfl⟩
 have hl:m7.length=8:=hl
 have e2:Int.toNat (k:Int)=k:=by omega
 have e3:Int.toNat ((k+1:Nat):Int)=k+1:=by omega
 by_cases iv:k < 8
 ·left
  have e1:cG .i64 (k:Int) 1=((k+1:Nat):Int):=by rw[fX (by omega) (by omega)];omega
  have hn:nth (.int .u32) m7 k=m7[k]:=dz (t:= .int .u32) (by omega)
  refine⟨(h,((k+1:Nat):Int),m4,m7.set k (cG .u32 m7[k] (nth (.int .u32) h k))),⟨by simpa using hl,k+1,by omega,rfl⟩,by simp;omega,?_,λkn kx=> ?_⟩
  ·simp only[mix.L1.add,mix.L1.F,e2,e3]
   rw[Dp (λi x=>cG .u32 x (nth (.int .u32) h i)) m7 k (by omega)]
  ·have d0:decide (k < 8)=true:=aY iv
   have i0:jn (k:Int) 8=true:=bG (by omega) (by omega)
   rw[mix.L1.step,bg (by omega)]
   simp only[e1,e2,jA,aI,cF,decide_true,ag,hl,d0,i0,hn]
 ·right
  obtain rfl:k=8:=by omega
  intro R kn kx
  rw[mix.L1.step,aX (by omega)]
  simp only[al,mix.L1.add,mix.L1.F,e2]
  rw[F1 _ _ _ (by omega)]
theorem mix.ok:mix.Ok:=by
 rintro⟨h,b⟩ ⟨⟨s,rfl⟩,hb⟩
 have hs:schedule.aM b:=hb
 have LL:(sched b).length=64:=by unfold sched;rw[w6,oM]
 have hp:mix.L0.aM (s.l,0,List.replicate 8 0,wl (sched b),Gj,s.l):=⟨s,sched b,0,rfl,rfl,LL,by omega,rfl,rfl,rfl⟩
 rw[mix.eq,schedule.run hs]
 simp only[ab,table.run (d:=()) trivial,bP,schedule.F,bP,table.F,mix.L0.run hp,mix.L0.add,mix.L0.F,J0,rF]
 have SQ:mix.L1.aM (s.l,0,List.replicate 8 0,(rounds (sched b) s 64).l):=⟨rfl,0,by omega,rfl⟩
 simp only[mix.L1.run SQ,ab,mix.L1.add,mix.L1.F,bP,mix.F,rF]
 unfold KY
 generalize rounds (sched b) s 64=v
 obtain⟨a1,b1,c1,d1,f1,g1,h1,i1⟩:=v
 simp only[St.l,from_,List.mapIdx_cons,List.mapIdx_nil,bN,Nat.not_lt_zero,if_false,aI,Nat.reduceAdd]
 simp only[nth,kz,List.getD_cons_succ,AV]
theorem mix.run:mix.RS:=rE [.d (.slice (.int .u32)),.d tB] mix
def mix.sg:=mix.gG mix.ok 2 ⟨.iR mix.L0.ok,⟨.iR mix.L1.ok,trivial⟩⟩
theorem nT(n:Int)(k:Int)(h0:0<=k)(h1:k<=64):fa .u8 (cT .i64 n k)=n / 2^k.toNat%256:=by
 rw[ED,lD,cT]
 have e:min k.toNat IntKind.i64.bits=k.toNat:=by simp only[IntKind.bits];omega
 rw[e,Int.fdiv_eq_ediv_of_nonneg _ (Int.le_of_lt (Int.pow_pos (by omega)))]
 rfl
theorem sU{n:Nat}(h:n<=140737488355328):dZ n 1=true:=fg (by omega) (by omega)
abbrev fK.D:=Bs
abbrev fK.Y:=Nat×(List Int)
def fK.aM:fK.D->Prop:=λb=>b.length<=140737488355328
def fK.F:fK.D->fK.Y:=λb=>(b.length,b)
def fK:Fs Tryz.prog fK.aM bP fK.F:=gC 200 Tryz.f200 (λsv=>([.d tB sv],[])) (λx=>⟨.aS (.new 0 0) 0 [] 0 0 x.1,[],[.obj 0 false (.vec 5 tb x.2)]⟩) [some tB] [] {bK:=[5],owns:=[⟨2,[],5,140⟩]}
theorem fK.eq{R:Type}(sv)(k:K1 R):fK.A sv k=
  aP (decide (0 < (List.length sv))) (
   aP (dZ (0+(List.length sv)) 1) (
   k (fK.out ((0+(List.length sv)),((List.take 0 (List.replicate 0 0))++sv)))) none) (
   nd (
    k (fK.out (0,([]:List Int)))) (
    aP (dZ (0+(List.length sv)) 1) (
    k (fK.out ((0+(List.length sv)),((List.take 0 (List.replicate 0 0))++sv)))) none)):=by kernel_rfl
theorem fK.ok:fK.Ok:=by
 intro b hb
 have hr:dZ b.length 1=true:=sU hb
 rw[fK.eq]
 have e0:(List.take 0 (List.replicate 0 0):List Int)=[]:=rfl
 simp only[aI,hr,ag,e0,aR,bP,fK.F]
 by_cases h:0 < b.length
 ·simp only[aY h,ag]
 ·have:b=[]:=bF (by omega)
  subst this
  simp only[bn,qN,cH (gE 0),al]
theorem fK.run:fK.RS:=rE [.d tB] fK
def fK.sg:=fK.gG fK.ok
abbrev lv.D:=Int
abbrev lv.Y:=Nat×(List Int)
def lv.aM:lv.D->Prop:=λ_=>True
def lv.F:lv.D->lv.Y:=λn=>(8,kP n)
def lv:Fs Tryz.prog lv.aM bP lv.F:=gC 143 Tryz.f143 (λn=>([.di,.d ti n],[])) (λx=>⟨.aS (.new 0 0) 0 [] 0 0 x.1,[],[.obj 0 false (.vec 5 tb x.2)]⟩) [none,some ti] [] {loops:=pz [(2,{bo:=[0,1,5],sites:=[16]})],outs:=py [(2,{bo:=[0],sites:=[16]},{bo:=[4],sites:=[16]})],owns:=[⟨4,[],16,140⟩]} 12
theorem lv.eq{R:Type}(n)(k:K1 R):lv.A n k=
 k (lv.out (8,[(fa .u8 (cT .i64 n 56)),(fa .u8 (cT .i64 n 48)),(fa .u8 (cT .i64 n 40)),(fa .u8 (cT .i64 n 32)),(fa .u8 (cT .i64 n 24)),(fa .u8 (cT .i64 n 16)),(fa .u8 (cT .i64 n 8)),(fa .u8 (cT .i64 n 0))])):=by kernel_rfl
theorem HG(n:Int): [fa .u8 (cT .i64 n 56),fa .u8 (cT .i64 n 48),fa .u8 (cT .i64 n 40),fa .u8 (cT .i64 n 32),fa .u8 (cT .i64 n 24),fa .u8 (cT .i64 n 16),fa .u8 (cT .i64 n 8),fa .u8 (cT .i64 n 0)]=kP n:=by
 rw[nT n 56 (by omega) (by omega),nT n 48 (by omega) (by omega),nT n 40 (by omega) (by omega),nT n 32 (by omega) (by omega),nT n 24 (by omega) (by omega),nT n 16 (by omega) (by omega),nT n 8 (by omega) (by omega),nT n 0 (by omega) (by omega)]
 simp[kP]
theorem lv.ok:lv.Ok:=by
 intro n _
 rw[lv.eq,HG]
 rfl
theorem lv.run:lv.RS:=rE [.d ti] lv
def lv.sg:=lv.Vw K7 lv.ok 1 ⟨.none (by kernel_rfl),trivial⟩
abbrev jC.D:=Nat×Int×Bs
abbrev jC.Y:=Nat×(List Int)
def jC.aM:jC.D->Prop:=λ(m,n,l)=>m=l.length/\l.length<=140737488355320
def jC.F:jC.D->jC.Y:=λ(m,n,l)=>(l.length+8,l++kP n)
def jC:Fs Tryz.prog jC.aM bP jC.F:=gC 143 Tryz.f143 (λ(bL,n,o0)=>([.aS (.aV 0) 0 [] 0 0 bL,.d ti n],[.obj 0 false (.vec 5 tb o0)])) (λx=>⟨.aS (.aV 0) 8 [] 0 0 x.1,[.obj 8 false (.vec 5 tb x.2)],[]⟩) [none,some ti] [] {loops:=pz [(2,{bo:=[0,1,5],sites:=[16]})],outs:=py [(2,{bo:=[0],sites:=[16]},{bo:=[4],sites:=[16]})]} 12
theorem jC.eq{R:Type}(bL n o0)(k:K1 R):jC.A (bL,n,o0) k=
 aP (decide (bL<=(List.length o0))) (
 aP (dZ (bL+1) 1) (
 aP (decide ((bL+1)<=(List.length ((List.take bL o0)++ [(fa .u8 (cT .i64 n 56))])))) (
 aP (dZ ((bL+1)+1) 1) (
 aP (decide (((bL+1)+1)<=(List.length ((List.take (bL+1) ((List.take bL o0)++ [(fa .u8 (cT .i64 n 56))]))++ [(fa .u8 (cT .i64 n 48))])))) (
 aP (dZ (((bL+1)+1)+1) 1) (
 aP (decide ((((bL+1)+1)+1)<=(List.length ((List.take ((bL+1)+1) ((List.take (bL+1) ((List.take bL o0)++ [(fa .u8 (cT .i64 n 56))]))++ [(fa .u8 (cT .i64 n 48))]))++ [(fa .u8 (cT .i64 n 40))])))) (
 aP (dZ ((((bL+1)+1)+1)+1) 1) (
 aP (decide (((((bL+1)+1)+1)+1)<=(List.length ((List.take (((bL+1)+1)+1) ((List.take ((bL+1)+1) ((List.take (bL+1) ((List.take bL o0)++ [(fa .u8 (cT .i64 n 56))]))++ [(fa .u8 (cT .i64 n 48))]))++ [(fa .u8 (cT .i64 n 40))]))++ [(fa .u8 (cT .i64 n 32))])))) (
 aP (dZ (((((bL+1)+1)+1)+1)+1) 1) (
 aP (decide ((((((bL+1)+1)+1)+1)+1)<=(List.length ((List.take ((((bL+1)+1)+1)+1) ((List.take (((bL+1)+1)+1) ((List.take ((bL+1)+1) ((List.take (bL+1) ((List.take bL o0)++ [(fa .u8 (cT .i64 n 56))]))++ [(fa .u8 (cT .i64 n 48))]))++ [(fa .u8 (cT .i64 n 40))]))++ [(fa .u8 (cT .i64 n 32))]))++ [(fa .u8 (cT .i64 n 24))])))) (
 aP (dZ ((((((bL+1)+1)+1)+1)+1)+1) 1) (
 aP (decide (((((((bL+1)+1)+1)+1)+1)+1)<=(List.length ((List.take (((((bL+1)+1)+1)+1)+1) ((List.take ((((bL+1)+1)+1)+1) ((List.take (((bL+1)+1)+1) ((List.take ((bL+1)+1) ((List.take (bL+1) ((List.take bL o0)++ [(fa .u8 (cT .i64 n 56))]))++ [(fa .u8 (cT .i64 n 48))]))++ [(fa .u8 (cT .i64 n 40))]))++ [(fa .u8 (cT .i64 n 32))]))++ [(fa .u8 (cT .i64 n 24))]))++ [(fa .u8 (cT .i64 n 16))])))) (
 aP (dZ (((((((bL+1)+1)+1)+1)+1)+1)+1) 1) (
 aP (decide ((((((((bL+1)+1)+1)+1)+1)+1)+1)<=(List.length ((List.take ((((((bL+1)+1)+1)+1)+1)+1) ((List.take (((((bL+1)+1)+1)+1)+1) ((List.take ((((bL+1)+1)+1)+1) ((List.take (((bL+1)+1)+1) ((List.take ((bL+1)+1) ((List.take (bL+1) ((List.take bL o0)++ [(fa .u8 (cT .i64 n 56))]))++ [(fa .u8 (cT .i64 n 48))]))++ [(fa .u8 (cT .i64 n 40))]))++ [(fa .u8 (cT .i64 n 32))]))++ [(fa .u8 (cT .i64 n 24))]))++ [(fa .u8 (cT .i64 n 16))]))++ [(fa .u8 (cT .i64 n 8))])))) (
 aP (dZ ((((((((bL+1)+1)+1)+1)+1)+1)+1)+1) 1) (
 k (jC.out (((((((((bL+1)+1)+1)+1)+1)+1)+1)+1),((List.take (((((((bL+1)+1)+1)+1)+1)+1)+1) ((List.take ((((((bL+1)+1)+1)+1)+1)+1) ((List.take (((((bL+1)+1)+1)+1)+1) ((List.take ((((bL+1)+1)+1)+1) ((List.take (((bL+1)+1)+1) ((List.take ((bL+1)+1) ((List.take (bL+1) ((List.take bL o0)++ [(fa .u8 (cT .i64 n 56))]))++ [(fa .u8 (cT .i64 n 48))]))++ [(fa .u8 (cT .i64 n 40))]))++ [(fa .u8 (cT .i64 n 32))]))++ [(fa .u8 (cT .i64 n 24))]))++ [(fa .u8 (cT .i64 n 16))]))++ [(fa .u8 (cT .i64 n 8))]))++ [(fa .u8 (cT .i64 n 0))])))) none) none) none) none) none) none) none) none) none) none) none) none) none) none) none) none:=by kernel_rfl
theorem jC.ok:jC.Ok:=by
 rintro⟨m,n,l⟩ ⟨rfl,hl⟩
 have hl:l.length<=140737488355320:=hl
 rw[jC.eq]
 simp only[aw,decide_true,ag,bk,ae,aB,bn,aI]
 rw[sU (by omega),sU (by omega),sU (by omega),sU (by omega),sU (by omega),sU (by omega),sU (by omega),sU (by omega)]
 simp only[ag,bP,jC.F,<-HG,aD,List.cons_append,aR]
theorem jC.run:jC.RS:=rE [.n,.d ti,.d tB] jC
def jC.sg:=jC.Vw DX jC.ok 1 ⟨.none (by kernel_rfl),trivial⟩
abbrev cg.L0.D:=Bs×Nat×Bs×(List Int)
abbrev cg.L0.Y:=Nat×(List Int)
abbrev cg.L0.X:=(Bs×Bs)×(Nat×(List Int))
def cg.L0.add:cg.L0.D->cg.L0.Y->cg.L0.X:=λ(rM,endL,n2,n14) y=>((rM,n2),y)
abbrev cg.L1.D:=Bs×Nat×Bs×(List Int)×(List Int)
abbrev cg.L1.Y:=(List Int)
abbrev cg.L1.X:=(Nat×Bs×(List Int))×((List Int))
def cg.L1.add:cg.L1.D->cg.L1.Y->cg.L1.X:=λ(Fb,wA,lz,n4,Bm) y=>((wA,lz,Bm),y)
abbrev cg.L2.D:=Bs×Bs×(List Int)
abbrev cg.L2.Y:=(List Int)
abbrev cg.L2.X:=(Bs)×((List Int))
def cg.L2.add:cg.L2.D->cg.L2.Y->cg.L2.X:=λ(endv,nK,rp) y=>(nK,y)
abbrev cg.L3.D:=Int×Bs×(List Int)
abbrev cg.L3.Y:=Bs
abbrev cg.D:=Bs
abbrev cg.Y:=Bs
def zc(n:Nat):Nat:=(120 - n%64)%64
def cg.L0.aM:cg.L0.D->Prop:=λ(b,m,n2,l)=>m=l.length/\l.length+zc l.length<=140737488355328
def cg.L0.F:cg.L0.D->cg.L0.Y:=λ(b,m,n2,l)=>(l.length+zc l.length,l++List.replicate (zc l.length) 0)
def cg.L1.aM:cg.L1.D->Prop:=λ(b,m,n2,h,l)=>∃s:St,h=s.l
def cg.L1.F:cg.L1.D->cg.L1.Y:=λ(b,m,n2,h,l)=>(blocks (Lw h) b).l
def cg.L2.aM:cg.L2.D->Prop:=λ(b,n2,h)=>b.length%64=0/\∃s:St,h=s.l
def cg.L2.F:cg.L2.D->cg.L2.Y:=λ(b,n2,h)=>(blocks (Lw h) b).l
def Dc(h:List Int)(i:Nat)(_:Int):Int:=fa .u8 (cT .u32 (nth (.int .u32) h (i / 4)) ((24 - 8*(i%4):Nat):Int))
def cg.L3.aM:cg.L3.D->Prop:=λ(t,n2,h)=>n2.length=32/\h.length=8/\∃k:Nat,k<=32/\t=k
def cg.L3.F:cg.L3.D->cg.L3.Y:=λ(t,n2,h)=>from_ (Dc h) t.toNat n2
def cg.aM:cg.D->Prop:=λb=>b.length<=140737488350000
def cg.F:cg.D->cg.Y:=λb=>S3 b
def cg.L0:Ls cg.L0.aM cg.L0.add cg.L0.F:=rY (λ(rM,endL,n2,n14)=>⟨([.d tB rM,.undef,.ptr (.new 2 0) 0 [] 0,.aS (.new 14 0) 0 [] 0 0 endL]++aT 61 []),[],([[],[],[.obj 0 false (.d tH n2)]]++ct 11 ([[.obj 0 false (.vec 5 tb n14)]]++ct 50 []))⟩) (λx=>(.exit 0,⟨([.d tB x.1.1,.undef,.ptr (.new 2 0) 0 [] 0,.aS (.new 14 0) 0 [] 0 0 x.2.1]++aT 61 []),[],([[],[],[.obj 0 false (.d tH x.1.2)]]++ct 11 ([[.obj 0 false (.vec 5 tb x.2.2)]]++ct 50 []))⟩))
def cg.L1:Ls cg.L1.aM cg.L1.add cg.L1.F:=rY (λ(Fb,wA,lz,n4,Bm)=>⟨([.d tB Fb,.undef,.ptr (.new 2 0) 0 [] 0,.aS (.new 14 0) 8 [] 0 0 wA,.ptr (.new 4 0) 0 [] 0]++aT 60 []),[],([[],[],[.obj 0 false (.d tH lz)],[],[.obj 0 false (.d (.arr 8 (.int .u32)) n4)]]++ct 9 ([[.obj 8 false (.vec 5 tb Bm)]]++ct 50 []))⟩) (λx=>(.exit 2,⟨([.undef,.undef,.ptr (.new 2 0) 0 [] 0,.aS (.new 14 0) 8 [] 0 0 x.1.1,.ptr (.new 4 0) 0 [] 0]++aT 60 []),[],([[],[],[.obj 0 false (.d tH x.1.2.1)],[],[.obj 0 false (.d (.arr 8 (.int .u32)) x.2)]]++ct 9 ([[.obj 8 false (.vec 5 tb x.1.2.2)]]++ct 50 []))⟩))
def cg.L2:Ls cg.L2.aM cg.L2.add cg.L2.F:=rY (λ(endv,nK,rp)=>⟨([.undef,.undef,.ptr (.new 2 0) 0 [] 0,.d tB endv,.ptr (.new 4 0) 0 [] 0]++aT 60 []),[],([[],[],[.obj 0 false (.d tH nK)],[],[.obj 0 false (.d (.arr 8 (.int .u32)) rp)]]++ct 60 [])⟩) (λx=>(.exit 4,⟨([.undef,.undef,.ptr (.new 2 0) 0 [] 0,.undef,.ptr (.new 4 0) 0 [] 0]++aT 60 []),[],([[],[],[.obj 0 false (.d tH x.1)],[],[.obj 0 false (.d (.arr 8 (.int .u32)) x.2)]]++ct 60 [])⟩))
def cg.L3:Ls cg.L3.aM bP cg.L3.F:=rY (λ(t48,wL,xF)=>⟨([.undef,.undef,.ptr (.new 2 0) 0 [] 0,.undef,.ptr (.new 4 0) 0 [] 0]++aT 43 ([.d ti t48]++aT 16 [])),[],([[],[],[.obj 0 false (.d tH wL)],[],[.obj 0 false (.d (.arr 8 (.int .u32)) xF)]]++ct 60 [])⟩) (λx=>(.exit 6,⟨([.undef,.undef,.ptr (.new 2 0) 0 [] 0]++aT 62 []),[],([[],[],[.obj 0 false (.d tH x)]]++ct 62 [])⟩))
def cg:Fs Tryz.prog cg.aM bP cg.F:=gC 144 Tryz.f144 (λb=>([.d tB b],[])) (λx=>⟨.d tH x,[],[]⟩) [some tB] [fK.sg,jC.sg,first.sg,mix.sg] {loops:=pz [(2,{bo:=[0,2,3],sites:=[2,14],owns:=[⟨3,[],14,140⟩]}),(6,{bo:=[0,2,3,4],sites:=[2,4,14]}),(9,{bo:=[2,3,4],sites:=[2,4],data:=[(3,tB)]}),(13,{bo:=[2,4,48],sites:=[2,4]})],outs:=py [(2,{bo:=[0,2,3],sites:=[2,14]},{bo:=[2]}),(6,{bo:=[2,3,4],sites:=[2,4,14]},{bo:=[2]}),(9,{bo:=[2,4],sites:=[2,4]},{bo:=[2]}),(13,{bo:=[2],sites:=[2]},{bo:=[2]})],iX:=qg [(2,cg.L0.E),(6,cg.L1.E),(9,cg.L2.E),(13,cg.L3.E)]}
theorem cg.L0.run:cg.L0.RS:=rL [.d tB,.n,.d tB,.d tB] cg.L0
theorem cg.L0.step{R:Type}(rM endL n2 n14)(kn:K2 R)(kx:K3 R):cg.R 0 cg.L0 (rM,endL,n2,n14) kn kx=
  aP ((w9 (kQ ((endL:Nat):Int) 64) 56)) (
   aP (decide (endL<=(List.length n14))) (
   aP (dZ (endL+1) 1) (
   kn (cg.L0.st (rM,(endL+1),n2,((List.take endL n14)++ [0])))) none) none) (
   cg.L0.go kx ((rM,n2),(endL,n14))):=by kernel_rfl
theorem cg.L1.run:cg.L1.RS:=rL [.d tB,.n,.d tB,.d (.slice (.int .u32)),.d tB] cg.L1
theorem cg.L1.step{R:Type}(Fb wA lz n4 Bm)(kn:K2 R)(kx:K3 R):cg.R 1 cg.L1 (Fb,wA,lz,n4,Bm) kn kx=
  aP ((tZ (Fb.length:Int) 64)) (
   aP (inc 64 (Fb.length:Int)) (
   ah (mix.call (n4,(cut Fb 0 64))) λx1=>
   aP (inc 64 (Fb.length:Int)) (
   kn (cg.L1.st ((cut Fb 64 ((List.length Fb) - 64)),wA,lz,x1,Bm))) none) none) (
   cg.L1.go kx ((wA,lz,Bm),n4)):=by kernel_rfl
theorem cg.L2.run:cg.L2.RS:=rL [.d tB,.d tB,.d (.slice (.int .u32))] cg.L2
theorem cg.L2.step{R:Type}(endv nK rp)(kn:K2 R)(kx:K3 R):cg.R 2 cg.L2 (endv,nK,rp) kn kx=
  aP ((uL (endv.length:Int) 0)) (
   aP (inc 64 (endv.length:Int)) (
   ah (mix.call (rp,(cut endv 0 64))) λx1=>
   aP (inc 64 (endv.length:Int)) (
   kn (cg.L2.st ((cut endv 64 ((List.length endv) - 64)),nK,x1))) none) none) (
   cg.L2.go kx (nK,rp)):=by kernel_rfl
theorem cg.L3.run:cg.L3.RS:=rL [.d ti,.d tB,.d (.slice (.int .u32))] cg.L3
theorem cg.L3.step{R:Type}(t48 wL xF)(kn:K2 R)(kx:K3 R):cg.R 3 cg.L3 (t48,wL,xF) kn kx=
  aP ((jx t48 32)) (
   aP (jn (sr .i64 t48 4) 8) (
   aP (decide ((Int.toNat (sr .i64 t48 4)) < (List.length xF))) (
   aP (decide ((((Int.toNat (sr .i64 t48 4))*1)+0)=(0+((Int.toNat (sr .i64 t48 4))*1)))) (
   aP (nL (dJ .i64 24 (jj .i64 8 (kQ t48 4)))) (
   aP (jn t48 32) (
   aP (decide ((Int.toNat t48) < (List.length wL))) (
   aP (decide ((((Int.toNat t48)*1)+0)=(0+((Int.toNat t48)*1)))) (
   aP (decide ((Int.toNat t48) < (List.length wL))) (
   kn (cg.L3.st ((cG .i64 t48 1),(List.set wL (Int.toNat t48) (fa .u8 (cT .u32 (nth (.int .u32) xF (Int.toNat (sr .i64 t48 4))) (dJ .i64 24 (jj .i64 8 (kQ t48 4)))))),xF))) none) none) none) none) none) none) none) none) (
   cg.L3.go kx wL):=by kernel_rfl
theorem cg.eq{R:Type}(b)(k:K1 R):cg.A b k=
 aP (inc (dJ .i64 (b.length:Int) (kQ (b.length:Int) 64)) (b.length:Int)) (
 ah (fK.call (cut b (Int.toNat (dJ .i64 (b.length:Int) (kQ (b.length:Int) 64))) ((List.length b) - (Int.toNat (dJ .i64 (b.length:Int) (kQ (b.length:Int) 64)))))) λx1=>
 aP (decide (x1.1<=(List.length x1.2))) (
 aP (dZ (x1.1+1) 1) (
 ah (cg.L0.call (b,(x1.1+1),(List.replicate 32 0),((List.take x1.1 x1.2)++ [128]))) λx2=>
 ah (jC.call (x2.2.1,(jj .i64 8 (x2.1.1.length:Int)),x2.2.2)) λx3=>
 ah (first.call ()) λx4=>
 ah (cg.L1.call (x2.1.1,x3.1,x2.1.2,x4,x3.2)) λx6=>
 aP (decide (0=0/\(0+x6.1.1)<=(List.length x6.1.2.2))) (
 ah (cg.L2.call ((cut x6.1.2.2 0 x6.1.1),x6.1.2.1,x6.2)) λx9=>
 ah (cg.L3.call (0,x9.1,x9.2)) λCB=>
 k (cg.out CB)) none) none) none) none:=by kernel_rfl
theorem cg.L0.ok:(cg.mL 0 cg.L0):=by
 refine(cg.oH 0 cg.L0) (λ(b,m,n2,l)=>zc l.length) ?_
 rintro⟨b,m,n2,l⟩ ⟨rfl,hl⟩
 have hl:l.length+zc l.length<=140737488355328:=hl
 have hr:kQ ((l.length:Nat):Int) 64=((l.length%64:Nat):Int):=by
  unfold kQ
  rw[ig (by omega)]
  omega
 by_cases h:l.length%64=56
 ·right
  intro R kn kx
  have hz:zc l.length=0:=by unfold zc;omega
  rw[cg.L0.step,hr,ff (by omega)]
  simp only[al,cg.L0.add,cg.L0.F,hz,cF,List.replicate_zero,bS]
 ·left
  have hz:zc l.length=zc (l.length+1)+1:=by unfold zc;omega
  refine⟨(b,l.length+1,n2,l++ [0]),⟨by simp,by simp only[ae,aB,bn,aI];omega⟩,by simp only[ae,aB,bn,aI];omega,?_,λkn kx=> ?_⟩
  ·simp only[cg.L0.add,cg.L0.F,ae,aB,bn,aI,hz,aD,List.cons_append,aR,List.replicate_succ]
   rw[show l.length+1+zc (l.length+1)=l.length+(zc (l.length+1)+1) by omega]
  ·rw[cg.L0.step,hr,iH (by omega),sU (by omega)]
   simp only[ag,aw,decide_true,dh]
theorem cg.L1.ok:(cg.mL 1 cg.L1):=by
 refine(cg.oH 1 cg.L1) (λ(b,m,n2,h,l)=>b.length) ?_
 rintro⟨b,m,n2,h,l⟩ ⟨s,rfl⟩
 by_cases hb:64<=b.length
 ·left
  have e1:cut b 64 (b.length - 64)=b.drop 64:=by unfold cut;rw[bk (by simp)]
  have e2:cut b 0 64=b.take 64:=rfl
  have hp:mix.aM (s.l,b.take 64):=⟨⟨s,rfl⟩,by simp;omega⟩
  refine⟨(b.drop 64,m,n2,(KY s (b.take 64)).l,l),⟨_,rfl⟩,by simp;omega,?_,λkn kx=> ?_⟩
  ·simp only[cg.L1.add,cg.L1.F,rF]
   rw[za s b hb]
  ·rw[cg.L1.step,jg (by omega),oz (by omega) (by omega),e1,e2]
   simp only[ag,mix.run hp,ab,bP,mix.F,rF]
 ·right
  intro R kn kx
  rw[cg.L1.step,fI (by omega)]
  simp only[al,cg.L1.add,cg.L1.F,rF]
  rw[wm s b (by omega)]
theorem cg.L2.ok:(cg.mL 2 cg.L2):=by
 refine(cg.oH 2 cg.L2) (λ(b,n2,h)=>b.length) ?_
 rintro⟨b,n2,h⟩ ⟨hm,s,rfl⟩
 have hm:b.length%64=0:=hm
 by_cases hb:0 < b.length
 ·left
  have e1:cut b 64 (b.length - 64)=b.drop 64:=by unfold cut;rw[bk (by simp)]
  have e2:cut b 0 64=b.take 64:=rfl
  have hp:mix.aM (s.l,b.take 64):=⟨⟨s,rfl⟩,by simp;omega⟩
  refine⟨(b.drop 64,n2,(KY s (b.take 64)).l),⟨by simp;omega,_,rfl⟩,by simp;omega,?_,λkn kx=> ?_⟩
  ·simp only[cg.L2.add,cg.L2.F,rF]
   rw[za s b (by omega)]
  ·rw[cg.L2.step,eY (by omega),oz (by omega) (by omega),e1,e2]
   simp only[ag,mix.run hp,ab,bP,mix.F,rF]
 ·right
  intro R kn kx
  rw[cg.L2.step,eC (by omega)]
  simp only[al,cg.L2.add,cg.L2.F,rF]
  rw[wm s b (by omega)]
theorem cg.L3.ok:(cg.mL 3 cg.L3):=by
 refine(cg.oH 3 cg.L3) (λ(t,n2,h)=>32 - t.toNat) ?_
 rintro⟨t,m,h⟩ ⟨hl,h8,k,hk,rfl⟩
 have hl:m.length=32:=hl
 have h8:h.length=8:=h8
 have e2:Int.toNat (k:Int)=k:=by omega
 have e3:Int.toNat ((k+1:Nat):Int)=k+1:=by omega
 by_cases iv:k < 32
 ·left
  have e1:cG .i64 (k:Int) 1=((k+1:Nat):Int):=by rw[fX (by omega) (by omega)];omega
  have q4:sr .i64 (k:Int) 4=((k / 4:Nat):Int):=by
   have:(k:Int).tdiv 4=((k / 4:Nat):Int):=by rw[jL (by omega)];omega
   unfold sr
   rw[this,ov (by omega) (by omega)]
  have r4:kQ (k:Int) 4=((k%4:Nat):Int):=by
   unfold kQ
   rw[ig (by omega)]
   omega
  have s4:dJ .i64 24 (jj .i64 8 ((k%4:Nat):Int))=((24 - 8*(k%4):Nat):Int):=by
   rw[xv (by omega) (by omega),fP (by omega) (by omega)]
   omega
  have e4:Int.toNat ((k / 4:Nat):Int)=k / 4:=by omega
  refine⟨(((k+1:Nat):Int),m.set k (Dc h k m[k]),h),⟨by simpa using hl,h8,k+1,by omega,rfl⟩,by simp;omega,?_,λkn kx=> ?_⟩
  ·simp only[bP,cg.L3.F,e2,e3]
   rw[Dp (Dc h) m k (by omega)]
  ·have d0:decide (k < 32)=true:=aY iv
   have d1:decide (k / 4 < 8)=true:=aY (by omega)
   rw[cg.L3.step,bg (by omega),q4,r4,s4,bG (by omega) (by omega),bG (by omega) (by omega),pM (by omega)]
   simp only[e1,e2,e4,jA,aI,cF,decide_true,ag,hl,h8,d0,d1,Dc]
 ·right
  obtain rfl:k=32:=by omega
  intro R kn kx
  rw[cg.L3.step,aX (by omega)]
  simp only[al,bP,cg.L3.F,e2]
  rw[F1 _ _ _ (by omega)]
theorem Lb(w:W):BitVec.ofInt 8 (vw w)=w.setWidth 8:=by
 apply BitVec.eq_of_toNat_eq
 rw[nr,BitVec.toNat_setWidth]
 unfold vw
 omega
theorem QL(w:W)(k:Int):fa .u8 (cT .u32 (vw w) k)=vw ((w >>> k.toNat).setWidth 8):=by
 rw[A7,ED,Lb]
theorem Pj(s:St):from_ (Dc s.l) 0 (List.replicate 32 0)=Ph s:=by
 rw[AI]
 simp only[List.range_eq_range',List.range',bX,ij,Dc,Nat.reduceAdd,Nat.reduceDiv,Nat.reduceMod,Nat.reduceMul,Nat.reduceSub,n0,n1,n2,n3,n4,n5,n6,n7,QL]
 rfl
theorem cg.ok:cg.Ok:=by
 intro b hb
 have hb:b.length<=140737488350000:=hb
 have hr:kQ ((b.length:Nat):Int) 64=((b.length%64:Nat):Int):=by
  unfold kQ
  rw[ig (by omega)]
  omega
 have hs:dJ .i64 ((b.length:Nat):Int) ((b.length%64:Nat):Int)=((b.length - b.length%64:Nat):Int):=by
  rw[fP (by omega) (by omega)];omega
 have hn:Int.toNat ((b.length - b.length%64:Nat):Int)=b.length - b.length%64:=by omega
 have hm:jj .i64 8 ((b.length:Nat):Int)=8*(b.length:Int):=xv (by omega) (by omega)
 generalize hq:b.length - b.length%64=q at hs hn
 have hc:cut b q (b.length - q)=b.drop q:=by unfold cut;rw[bk (by simp)]
 have LI:(b.drop q).length=b.length%64:=by simp;omega
 have p1:fK.aM (b.drop q):=by show(b.drop q).length<=_;omega
 rw[cg.eq,hr,hs,oz (by omega) (by omega),hn,hc]
 simp only[ag,fK.run p1,ab,bP,fK.F,aw,decide_true,dh]
 have p2:cg.L0.aM (b,(b.drop q).length+1,List.replicate 32 0,b.drop q++ [128]):=by
  refine⟨by simp,?_⟩
  simp only[ae,aB,bn,zc]
  omega
 have hz:zc (b.drop q++ [128]).length=xJ b.length:=by
  simp only[ae,aB,bn,zc,xJ]
  omega
 rw[sU (by omega)]
 simp only[ag,cg.L0.run p2,ab,cg.L0.add,cg.L0.F,hm,hz]
 have hlen:(b.drop q++ [128]).length+xJ b.length=(b.drop q++ [128]++List.replicate (xJ b.length) 0).length:=by rw[@ae _ (b.drop q++ [128]),dg]
 have p3:jC.aM ((b.drop q++ [128]).length+xJ b.length,8*(b.length:Int),b.drop q++ [128]++List.replicate (xJ b.length) 0):=by
  refine⟨hlen,?_⟩
  simp only[ae,aB,bn,dg,xJ]
  omega
 have p4:cg.L1.aM (b,(b.drop q++ [128]++List.replicate (xJ b.length) 0).length+8,List.replicate 32 0,re.l,b.drop q++ [128]++List.replicate (xJ b.length) 0++kP (8*(b.length:Int))):=⟨re,rfl⟩
 simp only[jC.run p3,ab,bP,jC.F,first.run (d:=()) trivial,bP,first.F,cg.L1.run p4,cg.L1.add,cg.L1.F,rF]
 generalize he:b.drop q++ [128]++List.replicate (xJ b.length) 0++kP (8*(b.length:Int))=e
 have vL:(b.drop q++ [128]++List.replicate (xJ b.length) 0).length+8=e.length:=by rw[<-he,@ae _ _ (kP _),dB]
 have SM:e.length%64=0:=by
  rw[<-vL]
  simp only[ae,aB,bn,dg,xJ,LI]
  omega
 have Ra:cut e 0 ((b.drop q++ [128]++List.replicate (xJ b.length) 0).length+8)=e:=by
  rw[vL];unfold cut;rw[aJ,dh]
 rw[Ra,vL,aY ⟨trivial,by omega⟩]
 have p5:cg.L2.aM (e,List.replicate 32 0,(blocks re b).l):=⟨SM,blocks re b,rfl⟩
 have p6:cg.L3.aM (0,List.replicate 32 0,(blocks (blocks re b) e).l):=⟨rfl,rfl,0,by omega,rfl⟩
 simp only[ag,cg.L2.run p5,ab,cg.L2.add,cg.L2.F,rF,cg.L3.run p6,bP,cg.L3.F,bP,cg.F]
 rw[show Int.toNat 0=0 from rfl,Pj]
 have SI:blocks re (pad b)=blocks (blocks re b) e:=by
  have h1:pad b=b.take q++e:=by
   rw[<-he]
   unfold pad
   rw[aD,aD,<-aD (b.take q),dO]
   rfl
  have h2:blocks re b=blocks (blocks re (b.take q)) (b.drop q):=by
   rw[<-vT _ _ _ (by simp;omega),dO]
  rw[h1,vT _ _ _ (by simp;omega),h2,wm _ (b.drop q) (by omega)]
 rw[S3,SI]
theorem cg.run:cg.RS:=rE [.d tB] cg
def cg.sg:=cg.gG cg.ok 4 ⟨.iR cg.L0.ok,⟨.iR cg.L1.ok,⟨.iR cg.L2.ok,⟨.iR cg.L3.ok,trivial⟩⟩⟩⟩
abbrev fm.L0.D:=Nat×(List Bs)×Int×Int×Bs×(List Int)
abbrev fm.L0.Y:=Nat×(List Int)
abbrev fm.L0.X:=(Bs)×(Nat×(List Int))
def fm.L0.add:fm.L0.D->fm.L0.Y->fm.L0.X:=λ(bL,t13,t14,t15,n4,n10) y=>(n4,y)
abbrev fm.D:=ByteArray×(List Bs)
abbrev fm.Y:=Bs
def fm.L0.aM:fm.L0.D->Prop:=λ(m,ps,n,i,n4,l)=>m=l.length/\n=ps.length/\ps.length<=140737488350000/\∃k:Nat,k<=ps.length/\i=k/\l.length+(qS (ps.drop k)).length<=140737488350000
def fm.L0.F:fm.L0.D->fm.L0.Y:=λ(m,ps,n,i,n4,l)=>(l.length+(qS (ps.drop i.toNat)).length,l++qS (ps.drop i.toNat))
def fm.aM:fm.D->Prop:=λ(name,ps)=>(C2 (cD name) ps).length<=140737488350000
def fm.F:fm.D->fm.Y:=λ(name,ps)=>tag (cD name) ps
def fm.L0:Ls fm.L0.aM fm.L0.add fm.L0.F:=rY (λ(bL,t13,t14,t15,n4,n10)=>⟨(aT 4 ([.ptr (.new 4 0) 0 [] 0,.aS (.new 10 0) 0 [] 0 0 bL]++aT 7 ([.d (.slice tB) t13,.d ti t14,.d ti t15]++aT 12 []))),[],(ct 4 ([[.obj 0 false (.d tH n4)]]++ct 5 ([[.obj 0 false (.vec 5 tb n10)]]++ct 17 [])))⟩) (λx=>(.exit 0,⟨(aT 4 ([.ptr (.new 4 0) 0 [] 0,.aS (.new 10 0) 0 [] 0 0 x.2.1]++aT 22 [])),[],(ct 4 ([[.obj 0 false (.d tH x.1)]]++ct 5 ([[.obj 0 false (.vec 5 tb x.2.2)]]++ct 17 [])))⟩))
def fm:Fs Tryz.prog fm.aM bP fm.F:=gC 72 Tryz.f72 (λ(name,parts)=>([.d .str name,.d (.slice tB) parts],[])) (λx=>⟨.d tH x,[],[]⟩) [some .str,some (.slice tB)] [lv.sg,jC.sg,cg.sg] {loops:=pz [(3,{bo:=[4,5,13,14,15],sites:=[4,10],owns:=[⟨5,[],10,140⟩]})],outs:=py [(3,{bo:=[4,5],sites:=[4,10]},{bo:=[4]})],iX:=qg [(3,fm.L0.E)]}
theorem fm.L0.run:fm.L0.RS:=rL [.n,.d (.slice tB),.d ti,.d ti,.d tB,.d tB] fm.L0
theorem fm.L0.step{R:Type}(bL t13 t14 t15 n4 n10)(kn:K2 R)(kx:K3 R):fm.R 0 fm.L0 (bL,t13,t14,t15,n4,n10) kn kx=
  aP ((jx t15 t14)) (
   aP (jn t15 (t13.length:Int)) (
   ah (jC.call (bL,(((List.length (nth tB t13 (Int.toNat t15))):Nat):Int),n10)) λx1=>
   aP (decide (x1.1<=(List.length x1.2))) (
   aP (dZ (x1.1+(List.length (nth tB t13 (Int.toNat t15)))) 1) (
   kn (fm.L0.st ((x1.1+(List.length (nth tB t13 (Int.toNat t15)))),t13,t14,(cG .i64 t15 1),n4,((List.take x1.1 x1.2)++(nth tB t13 (Int.toNat t15)))))) none) none) none) (
   fm.L0.go kx (n4,(bL,n10))):=by kernel_rfl
theorem fm.eq{R:Type}(name parts)(k:K1 R):fm.A (name,parts) k=
 ah (lv.call (((ByteArray.size name):Nat):Int)) λx1=>
 aP (decide (x1.1<=(List.length x1.2))) (
 aP (dZ (x1.1+(List.length (cD name))) 1) (
 ah (fm.L0.call ((x1.1+(List.length (cD name))),parts,(parts.length:Int),0,(List.replicate 32 0),((List.take x1.1 x1.2)++(cD name)))) λx4=>
 aP (decide (0=0/\(0+x4.2.1)<=(List.length x4.2.2))) (
 ah (cg.call (cut x4.2.2 0 x4.2.1)) λx5=>
 k (fm.out x5)) none) none) none:=by kernel_rfl
theorem DY(p:List Int)(ps:List (List Int)):qS (p::ps)=kP p.length++p++qS ps:=by simp[qS]
theorem Lt(ps:List (List Int))(k:Nat)(h:k < ps.length):qS (ps.drop k)=kP ps[k].length++ps[k]++qS (ps.drop (k+1)):=by
 rw[ax h,DY]
theorem fm.L0.ok:(fm.mL 0 fm.L0):=by
 refine(fm.oH 0 fm.L0) (λ(m,ps,n,i,n4,l)=>ps.length - i.toNat) ?_
 rintro⟨m,ps,n,i,n4,l⟩ ⟨rfl,rfl,zO,k,hk,rfl,hl⟩
 have hl:l.length+(qS (ps.drop k)).length<=140737488350000:=hl
 have hk:k<=ps.length:=hk
 have e2:Int.toNat (k:Int)=k:=by omega
 have e3:Int.toNat ((k+1:Nat):Int)=k+1:=by omega
 by_cases h:k < ps.length
 ·left
  have ht:=Lt ps k h
  have hlen:(qS (ps.drop k)).length=8+ps[k].length+(qS (ps.drop (k+1))).length:=by rw[ht];simp only[ae,dB]
  have hn:nth (.slice (.int .u8)) ps k=ps[k]:=dz (t:= .slice (.int .u8)) h
  have zO:ps.length<=140737488350000:=zO
  have e1:cG .i64 (k:Int) 1=((k+1:Nat):Int):=by rw[fX (by omega) (by omega)];omega
  refine⟨((l++kP ps[k].length++ps[k]).length,ps,(ps.length:Int),((k+1:Nat):Int),n4,l++kP ps[k].length++ps[k]),⟨rfl,rfl,zO,k+1,by show k+1<=ps.length;omega,rfl,?_⟩,?_,?_,λkn kx=> ?_⟩
  ·show(l++kP ps[k].length++ps[k]).length+(qS (ps.drop (k+1))).length<=_
   simp only[ae,dB];omega
  ·show ps.length - Int.toNat ((k+1:Nat):Int) < ps.length - Int.toNat (k:Int)
   omega
  ·simp only[fm.L0.add,fm.L0.F,e2,e3,ht,aD]
   simp only[ae,dB,gb]
  ·have p1:jC.aM (l.length,(ps[k].length:Int),l):=⟨rfl,by show l.length<=_;omega⟩
   rw[fm.L0.step,bg (by omega),bG (by omega) (by omega),e1,e2]
   simp only[ag,hn,jC.run p1,ab,bP,jC.F]
   have Rm:(l++kP ps[k].length).length=l.length+8:=by simp[dB]
   rw[Rm,aY (aw _),sU (by omega)]
   simp only[ag]
   rw[bk (by rw[Rm];omega)]
   simp only[ae,dB,gb]
 ·right
  obtain rfl:k=ps.length:=by omega
  intro R kn kx
  rw[fm.L0.step,aX (by omega)]
  simp only[al,fm.L0.add,fm.L0.F,e2,aZ]
  simp[qS]
theorem Hf:∀ps:List (List Int),8*ps.length<=(qS ps).length
 |[]=>by simp[qS]
 |p::ps=>by
  rw[DY]
  have:=Hf ps
  simp only[ae,dB,aB]
  omega
theorem lR(s:ByteArray):(cD s).length=s.size:=by simp only[cD,cK,cO];rfl
theorem fm.ok:fm.Ok:=by
 rintro⟨name,ps⟩ hp
 have hp:(kP (cD name).length++cD name++qS ps).length<=140737488350000:=hp
 have hl:(kP (cD name).length++cD name++qS ps).length=8+(cD name).length+(qS ps).length:=by simp only[ae,dB]
 have zO:=Hf ps
 have ou:((name.size:Nat):Int)=(((cD name).length:Nat):Int):=by rw[lR]
 rw[fm.eq,lv.run (d:=((name.size:Nat):Int)) trivial,ou]
 simp only[ab,bP,lv.F,dB,aw,decide_true,ag]
 rw[sU (by omega),bk (by rw[dB];omega)]
 have p2:fm.L0.aM (8+(cD name).length,ps,(ps.length:Int),0,List.replicate 32 0,kP ((cD name).length:Int)++cD name):=by
  refine⟨by simp only[ae,dB],rfl,by show ps.length<=_;omega,0,aK _,rfl,?_⟩
  rw[aJ]
  simp only[ae,dB]
  omega
 simp only[ag,fm.L0.run p2,ab,fm.L0.add,fm.L0.F,bN,aJ]
 have OP:cut (kP ((cD name).length:Int)++cD name++qS ps) 0 ((kP ((cD name).length:Int)++cD name).length+(qS ps).length)=C2 (cD name) ps:=by
  unfold cut
  rw[aJ,bk (by simp only[ae];omega)]
  rfl
 have p3:cg.aM (C2 (cD name) ps):=hp
 rw[aY ⟨trivial,by simp only[ae];omega⟩,OP]
 simp only[ag,cg.run p3,ab,bP,cg.F,bP,fm.F,tag]
theorem fm.run:fm.RS:=rE [.d .str,.d (.slice tB)] fm
def fm.sg:=fm.gG fm.ok 1 ⟨.iR fm.L0.ok,trivial⟩
theorem yk{n:Int}(h1:0<=n)(h2:n < 18446744073709551616):IntKind.u64.wrap n=n:=by
 rw[wrap_u64,lD];omega
theorem yj(n:Int):IntKind.u64.wrap n=n%18446744073709551616:=by
 rw[wrap_u64,lD];rfl
theorem qI(x y:Int):cG .u64 x y=(x+y)%18446744073709551616:=yj _
theorem Af(x y:Int):dJ .u64 x y=(x - y)%18446744073709551616:=yj _
theorem qJ(x y:Int):jj .u64 x y=(x*y)%18446744073709551616:=yj _
theorem MT(x:Int):fa .u64 x=x%18446744073709551616:=yj _
theorem Fw{x:Int}(h:0<=x)(h2:x < 18446744073709551616):dY .and .u64 x 4294967295=x%4294967296:=by
 obtain⟨n,rfl⟩:∃n:Nat,x=n:=⟨x.toNat,by omega⟩
 have e:(BitVec.ofInt 64 (n:Int) &&& BitVec.ofInt 64 4294967295).toNat=n%4294967296:=by
  rw[BitVec.toNat_and]
  have a:(BitVec.ofInt 64 (n:Int)).toNat=n:=by rw[iY,jJ];omega
  have b:(BitVec.ofInt 64 4294967295).toNat=2^32 - 1:=by decide
  rw[a,b,Nat.and_two_pow_sub_one_eq_mod]
 show IntKind.u64.wrap ((BitVec.ofInt 64 (n:Int) &&& BitVec.ofInt 64 4294967295).toNat:Int)=_
 rw[e,yk (by omega) (by omega)];omega
theorem VM{x:Int}(h:0<=x)(h2:x < 18446744073709551616):dY .and .u64 x 1=x%2:=by
 obtain⟨n,rfl⟩:∃n:Nat,x=n:=⟨x.toNat,by omega⟩
 have e:(BitVec.ofInt 64 (n:Int) &&& BitVec.ofInt 64 1).toNat=n%2:=by
  rw[BitVec.toNat_and]
  have a:(BitVec.ofInt 64 (n:Int)).toNat=n:=by rw[iY,jJ];omega
  have b:(BitVec.ofInt 64 1).toNat=2^1 - 1:=by decide
  rw[a,b,Nat.and_two_pow_sub_one_eq_mod]
 show IntKind.u64.wrap ((BitVec.ofInt 64 (n:Int) &&& BitVec.ofInt 64 1).toNat:Int)=_
 rw[e,yk (by omega) (by omega)];omega
theorem pD{x k:Int}(n:Nat)(hk:k=n)(hn:n<=64):cT .u64 x k=x / 2^n:=by
 subst hk
 rw[cT]
 have e:min (Int.toNat (n:Int)) IntKind.u64.bits=n:=by simp only[IntKind.bits];omega
 rw[e,Int.fdiv_eq_ediv_of_nonneg _ (Int.le_of_lt (Int.pow_pos (by omega)))]
theorem pC{x k:Int}(n:Nat)(hk:k=n)(hn:n<=64):l5 .u64 x k=x*2^n%18446744073709551616:=by
 subst hk
 rw[l5,yj]
 have e:min (Int.toNat (n:Int)) IntKind.u64.bits=n:=by simp only[IntKind.bits];omega
 rw[e]
theorem xI{x y:Int}(k:Nat)(m:Int)(hm:m=2^k)(hx:x%m=0)(h0:0<=x)(h1:x < 18446744073709551616)(hy:0<=y)(SX:y < m)(h2:x+y < 18446744073709551616):dY .or .u64 x y=x+y:=by
 subst hm
 obtain⟨n,rfl⟩:∃n:Nat,x=n:=⟨x.toNat,by omega⟩
 obtain⟨j,rfl⟩:∃j:Nat,y=j:=⟨y.toNat,by omega⟩
 have hx:n%2^k=0:=by
  have:((n%2^k:Nat):Int)=0:=by rw[mu];simpa using hx
  omega
 have hj:j < 2^k:=by
  have:((j:Nat):Int) < ((2^k:Nat):Int):=by simpa using SX
  omega
 obtain⟨q,rfl⟩:∃q,n=2^k*q:=⟨n / 2^k,by have:=Nat.div_add_mod n (2^k);omega⟩
 have e:(BitVec.ofInt 64 ((2^k*q:Nat):Int) ||| BitVec.ofInt 64 (j:Int)).toNat=2^k*q+j:=by
  rw[BitVec.toNat_or]
  have a:(BitVec.ofInt 64 ((2^k*q:Nat):Int)).toNat=2^k*q:=by rw[iY,jJ];exact jG (by omega)
  have b:(BitVec.ofInt 64 (j:Int)).toNat=j:=by rw[iY,jJ];exact jG (by omega)
  rw[a,b,Nat.two_pow_add_eq_or_of_lt hj]
 show IntKind.u64.wrap ((BitVec.ofInt 64 ((2^k*q:Nat):Int) ||| BitVec.ofInt 64 (j:Int)).toNat:Int)=_
 rw[e,yk (by omega) (by omega)];omega
theorem JD{x y:Int}(h:0<=x)(h1:0<=y)(h2:x < 18446744073709551616):sr .u64 x y=x / y:=by
 rw[sr,jL h]
 exact yk (Int.ediv_nonneg h h1) (Int.lt_of_le_of_lt (Int.ediv_le_self _ h) h2)
theorem rW{x y:Int}(h:0<=x):kQ x y=x%y:=by rw[kQ,ig h]
theorem k1{e u w r q:Int}(he:e=42260\/e=42264\/e=42272)(hu:0<=u)(Fe:u < 18446744073709551616 - e)(hw:0<=w)(LN:w < 4294967296)(hr:0<=r)(Ga:r < 4294967296)
  (hq:q*4294967295+r=u) (hQ:(u*4294967296+w) / (18446744073709551616 - e)<=q):
  (4294967296<=q->(u*4294967296+w) / (18446744073709551616 - e)<=q - 1)/\
  (q < 4294967296->4294967296*r+w < q*(4294967296 - e)->(u*4294967296+w) / (18446744073709551616 - e)<=q - 1)/\
  (q < 4294967296->q*(4294967296 - e)<=4294967296*r+w->(u*4294967296+w) / (18446744073709551616 - e)=q)/\
  (4294967296<=r+4294967295->(u*4294967296+w) / (18446744073709551616 - e)<=q - 1->(u*4294967296+w) / (18446744073709551616 - e)=q - 1)/\0<=(u*4294967296+w) / (18446744073709551616 - e)/\q<=4294967297:=by
 rcases he with rfl | rfl | rfl
 ·refine⟨?_,?_,?_,?_,?_,?_⟩ <;> omega
 ·refine⟨?_,?_,?_,?_,?_,?_⟩ <;> omega
 ·refine⟨?_,?_,?_,?_,?_,?_⟩ <;> omega
theorem k0{e u w:Int}(he:e=42260\/e=42264\/e=42272)(hu:0<=u)(Fe:u < 18446744073709551616 - e)(hw:0<=w)(LN:w < 4294967296):
  (u*4294967296+w) / (18446744073709551616 - e)<=u / 4294967295/\0<=u - u / 4294967295*4294967295/\u - u / 4294967295*4294967295 < 4294967296/\
  (u*4294967296+w) - (u*4294967296+w) / (18446744073709551616 - e)*(18446744073709551616 - e)=(u*4294967296+w)%(18446744073709551616 - e)/\
  0<=(u*4294967296+w)%(18446744073709551616 - e)/\(u*4294967296+w)%(18446744073709551616 - e) < 18446744073709551616 - e/\
  0<=(u*4294967296+w) / (18446744073709551616 - e)/\(u*4294967296+w) / (18446744073709551616 - e) < 4294967296:=by
 rcases he with rfl | rfl | rfl
 ·refine⟨?_,?_,?_,?_,?_,?_,?_,?_⟩ <;> omega
 ·refine⟨?_,?_,?_,?_,?_,?_,?_,?_⟩ <;> omega
 ·refine⟨?_,?_,?_,?_,?_,?_,?_,?_⟩ <;> omega
theorem kd(Y u w1 w0:Int)(hY:0 < Y)(h0:0<=w0)(h1:w0 < 4294967296):
  ((u*4294967296+w1)*4294967296+w0) / Y=(u*4294967296+w1) / Y*4294967296+((u*4294967296+w1)%Y*4294967296+w0) / Y/\
  ((u*4294967296+w1)*4294967296+w0)%Y=((u*4294967296+w1)%Y*4294967296+w0)%Y:=by
 generalize u*4294967296+w1=n
 have e:n*4294967296+w0=(n%Y*4294967296+w0)+Y*(n / Y*4294967296):=by
  have:=Int.emod_add_mul_ediv n Y
  have h:Y*(n / Y*4294967296)=(Y*(n / Y))*4294967296:=by rw[Int.mul_assoc]
  rw[h];omega
 rw[e,Int.add_mul_ediv_left _ _ (by omega),Int.add_mul_emod_self_left]
 exact⟨by omega,rfl⟩
abbrev jN.D:=Int
abbrev jN.Y:=Int
def SZ(y:Int):Prop:=y=4611686018427377339\/y=2305843009213688669\/y=2305843009213688668
def jN.aM:jN.D->Prop:=SZ
def jN.F:jN.D->jN.Y:=λy=>if y=4611686018427377339 then 62 else 61
def jN:Fs Tryz.prog jN.aM bP jN.F:=gC 215 Tryz.f215 (λx=>([.d tu x],[])) (λx=>⟨.d ti x,[],[]⟩) [some tu]
theorem jN.eq{R:Type}(x)(k:K1 R):jN.A x k=
  aP ((tZ x 4294967296)) (
   aP ((tZ (cT .u64 x 32) 65536)) (
    aP ((tZ (cT .u64 (cT .u64 x 32) 16) 256)) (
     aP (jn (fa .u8 (cT .u64 (cT .u64 (cT .u64 x 32) 16) 8)) 256) (
     k (jN.out (cG .i64 56 (fa .i64 (G2 (⟨#[0,1,2,2,3,3,3,3,4,4,4,4,4,4,4,4,5,5,5,5,5,5,5,5,5,5,5,5,5,5,5,5,6,6,6,6,6,6,6,6,6,6,6,6,6,6,6,6,6,6,6,6,6,6,6,6,6,6,6,6,6,6,6,6,7,7,7,7,7,7,7,7,7,7,7,7,7,7,7,7,7,7,7,7,7,7,7,7,7,7,7,7,7,7,7,7,7,7,7,7,7,7,7,7,7,7,7,7,7,7,7,7,7,7,7,7,7,7,7,7,7,7,7,7,7,7,7,7,8,8,8,8,8,8,8,8,8,8,8,8,8,8,8,8,8,8,8,8,8,8,8,8,8,8,8,8,8,8,8,8,8,8,8,8,8,8,8,8,8,8,8,8,8,8,8,8,8,8,8,8,8,8,8,8,8,8,8,8,8,8,8,8,8,8,8,8,8,8,8,8,8,8,8,8,8,8,8,8,8,8,8,8,8,8,8,8,8,8,8,8,8,8,8,8,8,8,8,8,8,8,8,8,8,8,8,8,8,8,8,8,8,8,8,8,8,8,8,8,8,8,8,8,8,8,8,8]⟩:ByteArray) (fa .u8 (cT .u64 (cT .u64 (cT .u64 x 32) 16) 8))))))) none) (
     aP (jn (fa .u8 (cT .u64 (cT .u64 x 32) 16)) 256) (
     k (jN.out (cG .i64 48 (fa .i64 (G2 (⟨#[0,1,2,2,3,3,3,3,4,4,4,4,4,4,4,4,5,5,5,5,5,5,5,5,5,5,5,5,5,5,5,5,6,6,6,6,6,6,6,6,6,6,6,6,6,6,6,6,6,6,6,6,6,6,6,6,6,6,6,6,6,6,6,6,7,7,7,7,7,7,7,7,7,7,7,7,7,7,7,7,7,7,7,7,7,7,7,7,7,7,7,7,7,7,7,7,7,7,7,7,7,7,7,7,7,7,7,7,7,7,7,7,7,7,7,7,7,7,7,7,7,7,7,7,7,7,7,7,8,8,8,8,8,8,8,8,8,8,8,8,8,8,8,8,8,8,8,8,8,8,8,8,8,8,8,8,8,8,8,8,8,8,8,8,8,8,8,8,8,8,8,8,8,8,8,8,8,8,8,8,8,8,8,8,8,8,8,8,8,8,8,8,8,8,8,8,8,8,8,8,8,8,8,8,8,8,8,8,8,8,8,8,8,8,8,8,8,8,8,8,8,8,8,8,8,8,8,8,8,8,8,8,8,8,8,8,8,8,8,8,8,8,8,8,8,8,8,8,8,8,8,8,8,8,8,8]⟩:ByteArray) (fa .u8 (cT .u64 (cT .u64 x 32) 16))))))) none)) (
    aP ((tZ (cT .u64 x 32) 256)) (
     aP (jn (fa .u8 (cT .u64 (cT .u64 x 32) 8)) 256) (
     k (jN.out (cG .i64 40 (fa .i64 (G2 (⟨#[0,1,2,2,3,3,3,3,4,4,4,4,4,4,4,4,5,5,5,5,5,5,5,5,5,5,5,5,5,5,5,5,6,6,6,6,6,6,6,6,6,6,6,6,6,6,6,6,6,6,6,6,6,6,6,6,6,6,6,6,6,6,6,6,7,7,7,7,7,7,7,7,7,7,7,7,7,7,7,7,7,7,7,7,7,7,7,7,7,7,7,7,7,7,7,7,7,7,7,7,7,7,7,7,7,7,7,7,7,7,7,7,7,7,7,7,7,7,7,7,7,7,7,7,7,7,7,7,8,8,8,8,8,8,8,8,8,8,8,8,8,8,8,8,8,8,8,8,8,8,8,8,8,8,8,8,8,8,8,8,8,8,8,8,8,8,8,8,8,8,8,8,8,8,8,8,8,8,8,8,8,8,8,8,8,8,8,8,8,8,8,8,8,8,8,8,8,8,8,8,8,8,8,8,8,8,8,8,8,8,8,8,8,8,8,8,8,8,8,8,8,8,8,8,8,8,8,8,8,8,8,8,8,8,8,8,8,8,8,8,8,8,8,8,8,8,8,8,8,8,8,8,8,8,8,8]⟩:ByteArray) (fa .u8 (cT .u64 (cT .u64 x 32) 8))))))) none) (
     aP (jn (fa .u8 (cT .u64 x 32)) 256) (
     k (jN.out (cG .i64 32 (fa .i64 (G2 (⟨#[0,1,2,2,3,3,3,3,4,4,4,4,4,4,4,4,5,5,5,5,5,5,5,5,5,5,5,5,5,5,5,5,6,6,6,6,6,6,6,6,6,6,6,6,6,6,6,6,6,6,6,6,6,6,6,6,6,6,6,6,6,6,6,6,7,7,7,7,7,7,7,7,7,7,7,7,7,7,7,7,7,7,7,7,7,7,7,7,7,7,7,7,7,7,7,7,7,7,7,7,7,7,7,7,7,7,7,7,7,7,7,7,7,7,7,7,7,7,7,7,7,7,7,7,7,7,7,7,8,8,8,8,8,8,8,8,8,8,8,8,8,8,8,8,8,8,8,8,8,8,8,8,8,8,8,8,8,8,8,8,8,8,8,8,8,8,8,8,8,8,8,8,8,8,8,8,8,8,8,8,8,8,8,8,8,8,8,8,8,8,8,8,8,8,8,8,8,8,8,8,8,8,8,8,8,8,8,8,8,8,8,8,8,8,8,8,8,8,8,8,8,8,8,8,8,8,8,8,8,8,8,8,8,8,8,8,8,8,8,8,8,8,8,8,8,8,8,8,8,8,8,8,8,8,8,8]⟩:ByteArray) (fa .u8 (cT .u64 x 32))))))) none))) (
   aP ((tZ x 65536)) (
    aP ((tZ (cT .u64 x 16) 256)) (
     aP (jn (fa .u8 (cT .u64 (cT .u64 x 16) 8)) 256) (
     k (jN.out (cG .i64 24 (fa .i64 (G2 (⟨#[0,1,2,2,3,3,3,3,4,4,4,4,4,4,4,4,5,5,5,5,5,5,5,5,5,5,5,5,5,5,5,5,6,6,6,6,6,6,6,6,6,6,6,6,6,6,6,6,6,6,6,6,6,6,6,6,6,6,6,6,6,6,6,6,7,7,7,7,7,7,7,7,7,7,7,7,7,7,7,7,7,7,7,7,7,7,7,7,7,7,7,7,7,7,7,7,7,7,7,7,7,7,7,7,7,7,7,7,7,7,7,7,7,7,7,7,7,7,7,7,7,7,7,7,7,7,7,7,8,8,8,8,8,8,8,8,8,8,8,8,8,8,8,8,8,8,8,8,8,8,8,8,8,8,8,8,8,8,8,8,8,8,8,8,8,8,8,8,8,8,8,8,8,8,8,8,8,8,8,8,8,8,8,8,8,8,8,8,8,8,8,8,8,8,8,8,8,8,8,8,8,8,8,8,8,8,8,8,8,8,8,8,8,8,8,8,8,8,8,8,8,8,8,8,8,8,8,8,8,8,8,8,8,8,8,8,8,8,8,8,8,8,8,8,8,8,8,8,8,8,8,8,8,8,8,8]⟩:ByteArray) (fa .u8 (cT .u64 (cT .u64 x 16) 8))))))) none) (
     aP (jn (fa .u8 (cT .u64 x 16)) 256) (
     k (jN.out (cG .i64 16 (fa .i64 (G2 (⟨#[0,1,2,2,3,3,3,3,4,4,4,4,4,4,4,4,5,5,5,5,5,5,5,5,5,5,5,5,5,5,5,5,6,6,6,6,6,6,6,6,6,6,6,6,6,6,6,6,6,6,6,6,6,6,6,6,6,6,6,6,6,6,6,6,7,7,7,7,7,7,7,7,7,7,7,7,7,7,7,7,7,7,7,7,7,7,7,7,7,7,7,7,7,7,7,7,7,7,7,7,7,7,7,7,7,7,7,7,7,7,7,7,7,7,7,7,7,7,7,7,7,7,7,7,7,7,7,7,8,8,8,8,8,8,8,8,8,8,8,8,8,8,8,8,8,8,8,8,8,8,8,8,8,8,8,8,8,8,8,8,8,8,8,8,8,8,8,8,8,8,8,8,8,8,8,8,8,8,8,8,8,8,8,8,8,8,8,8,8,8,8,8,8,8,8,8,8,8,8,8,8,8,8,8,8,8,8,8,8,8,8,8,8,8,8,8,8,8,8,8,8,8,8,8,8,8,8,8,8,8,8,8,8,8,8,8,8,8,8,8,8,8,8,8,8,8,8,8,8,8,8,8,8,8,8,8]⟩:ByteArray) (fa .u8 (cT .u64 x 16))))))) none)) (
    aP ((tZ x 256)) (
     aP (jn (fa .u8 (cT .u64 x 8)) 256) (
     k (jN.out (cG .i64 8 (fa .i64 (G2 (⟨#[0,1,2,2,3,3,3,3,4,4,4,4,4,4,4,4,5,5,5,5,5,5,5,5,5,5,5,5,5,5,5,5,6,6,6,6,6,6,6,6,6,6,6,6,6,6,6,6,6,6,6,6,6,6,6,6,6,6,6,6,6,6,6,6,7,7,7,7,7,7,7,7,7,7,7,7,7,7,7,7,7,7,7,7,7,7,7,7,7,7,7,7,7,7,7,7,7,7,7,7,7,7,7,7,7,7,7,7,7,7,7,7,7,7,7,7,7,7,7,7,7,7,7,7,7,7,7,7,8,8,8,8,8,8,8,8,8,8,8,8,8,8,8,8,8,8,8,8,8,8,8,8,8,8,8,8,8,8,8,8,8,8,8,8,8,8,8,8,8,8,8,8,8,8,8,8,8,8,8,8,8,8,8,8,8,8,8,8,8,8,8,8,8,8,8,8,8,8,8,8,8,8,8,8,8,8,8,8,8,8,8,8,8,8,8,8,8,8,8,8,8,8,8,8,8,8,8,8,8,8,8,8,8,8,8,8,8,8,8,8,8,8,8,8,8,8,8,8,8,8,8,8,8,8,8,8]⟩:ByteArray) (fa .u8 (cT .u64 x 8))))))) none) (
     aP (jn (fa .u8 x) 256) (
     k (jN.out (cG .i64 0 (fa .i64 (G2 (⟨#[0,1,2,2,3,3,3,3,4,4,4,4,4,4,4,4,5,5,5,5,5,5,5,5,5,5,5,5,5,5,5,5,6,6,6,6,6,6,6,6,6,6,6,6,6,6,6,6,6,6,6,6,6,6,6,6,6,6,6,6,6,6,6,6,7,7,7,7,7,7,7,7,7,7,7,7,7,7,7,7,7,7,7,7,7,7,7,7,7,7,7,7,7,7,7,7,7,7,7,7,7,7,7,7,7,7,7,7,7,7,7,7,7,7,7,7,7,7,7,7,7,7,7,7,7,7,7,7,8,8,8,8,8,8,8,8,8,8,8,8,8,8,8,8,8,8,8,8,8,8,8,8,8,8,8,8,8,8,8,8,8,8,8,8,8,8,8,8,8,8,8,8,8,8,8,8,8,8,8,8,8,8,8,8,8,8,8,8,8,8,8,8,8,8,8,8,8,8,8,8,8,8,8,8,8,8,8,8,8,8,8,8,8,8,8,8,8,8,8,8,8,8,8,8,8,8,8,8,8,8,8,8,8,8,8,8,8,8,8,8,8,8,8,8,8,8,8,8,8,8,8,8,8,8,8,8]⟩:ByteArray) (fa .u8 x)))))) none))):=by kernel_rfl
theorem jN.ok:jN.Ok:=by
 intro y h
 rw[jN.eq]
 obtain rfl | rfl | rfl:=h <;> kernel_rfl
theorem jN.run:jN.RS:=rE [.d tu] jN
def jN.sg:=jN.gG jN.ok
abbrev qh.D:=Int
abbrev qh.Y:=Int
def qh.aM:qh.D->Prop:=SZ
def qh.F:qh.D->qh.Y:=λy=>if y=4611686018427377339 then 2 else 3
def qh:Fs Tryz.prog qh.aM bP qh.F:=gC 276 Tryz.f276 (λx=>([.d tu x],[])) (λx=>⟨.d ti x,[],[]⟩) [some tu] [jN.sg]
theorem qh.eq{R:Type}(x)(k:K1 R):qh.A x k=
 ah (jN.call x) λx1=>
 k (qh.out (dJ .i64 64 x1)):=by kernel_rfl
theorem qh.ok:qh.Ok:=by
 intro y h
 rw[qh.eq,jN.run (d:=y) h]
 obtain rfl | rfl | rfl:=h <;> rfl
theorem qh.run:qh.RS:=rE [.d tu] qh
def qh.sg:=qh.gG qh.ok
abbrev cw.L0.D:=Int×Int×Int×Int×Int×Int×Int×Int×Int
abbrev cw.L0.Y:=Int
abbrev cw.L0.X:=(Int×Int×Int×Int×Int×Int×Int)×(Int)
def cw.L0.add:cw.L0.D->cw.L0.Y->cw.L0.X:=λ(C5,sv,yn1,yn0,un32,un1,un0,q1,rhat) y=>((C5,sv,yn1,yn0,un32,un1,un0),y)
abbrev cw.L1.D:=Int×Int×Int×Int×Int×Int×Int×Int×Int
abbrev cw.L1.Y:=Int
abbrev cw.L1.X:=(Int×Int×Int×Int×Int)×(Int)
def cw.L1.add:cw.L1.D->cw.L1.Y->cw.L1.X:=λ(C6,ky,wi,Cv,vb,CW,tJ,un21,q0) y=>((C6,ky,vb,CW,un21),y)
abbrev cw.D:=Int×Int×Int
abbrev cw.Y:=Int×Int
def cw.L0.aM:cw.L0.D->Prop:=λ(y,sv,yn1,yn0,u,w,un0,q,r)=>∃e:Int,(e=42260\/e=42264\/e=42272)/\y=18446744073709551616 - e/\yn1=4294967295/\yn0=4294967296 - e/\0<=u/\u < 18446744073709551616 - e/\0<=w/\w < 4294967296/\0<=r/\r < 4294967296/\q*4294967295+r=u/\(u*4294967296+w) / (18446744073709551616 - e)<=q
def cw.L0.F:cw.L0.D->cw.L0.Y:=λ(y,sv,yn1,yn0,u,w,un0,q,r)=>(u*4294967296+w) / y
def cw.L1.aM:cw.L1.D->Prop:=λ(y,sv,yn1,yn0,w,q1,r,u,q)=>∃e:Int,(e=42260\/e=42264\/e=42272)/\y=18446744073709551616 - e/\yn1=4294967295/\yn0=4294967296 - e/\0<=u/\u < 18446744073709551616 - e/\0<=w/\w < 4294967296/\0<=r/\r < 4294967296/\q*4294967295+r=u/\(u*4294967296+w) / (18446744073709551616 - e)<=q
def cw.L1.F:cw.L1.D->cw.L1.Y:=λ(y,sv,yn1,yn0,w,q1,r,u,q)=>(u*4294967296+w) / y
def cw.aM:cw.D->Prop:=λ(hi,lo,y)=>(SZ y\/hi=0/\0 < y/\y < 18446744073709551616)/\0<=hi/\hi < y/\0<=lo/\lo < 18446744073709551616
def cw.F:cw.D->cw.Y:=λ(hi,lo,y)=>((hi*18446744073709551616+lo) / y,(hi*18446744073709551616+lo)%y)
def cw.L0:Ls cw.L0.aM cw.L0.add cw.L0.F:=rY (λ(C5,sv,yn1,yn0,un32,un1,un0,q1,rhat)=>⟨([.undef,.undef,.d tu C5]++aT 5 ([.d tu sv,.d tu yn1,.d tu yn0,.d tu un32,.undef,.d tu un1,.d tu un0,.d tu q1,.d tu rhat]++aT 118 [])),[],(List.replicate 135 [])⟩) (λx=>(.exit 0,⟨([.undef,.undef,.d tu x.1.1]++aT 5 ([.d tu x.1.2.1,.d tu x.1.2.2.1,.d tu x.1.2.2.2.1,.d tu x.1.2.2.2.2.1,.undef,.d tu x.1.2.2.2.2.2.1,.d tu x.1.2.2.2.2.2.2,.d tu x.2]++aT 119 [])),[],(List.replicate 135 [])⟩))
def cw.L1:Ls cw.L1.aM cw.L1.add cw.L1.F:=rY (λ(C6,ky,wi,Cv,vb,CW,tJ,un21,q0)=>⟨([.undef,.undef,.d tu C6]++aT 5 ([.d tu ky,.d tu wi,.d tu Cv,.undef,.undef,.undef,.d tu vb,.d tu CW,.d tu tJ,.d tu un21,.d tu q0]++aT 116 [])),[],(List.replicate 135 [])⟩) (λx=>(.exit 2,⟨([.undef,.undef,.d tu x.1.1]++aT 5 ([.d tu x.1.2.1]++aT 5 ([.d tu x.1.2.2.1,.d tu x.1.2.2.2.1,.undef,.d tu x.1.2.2.2.2,.d tu x.2]++aT 116 []))),[],(List.replicate 135 [])⟩))
def cw:Fs Tryz.prog cw.aM bP cw.F:=gC 237 Tryz.f237 (λ(hi,lo,yv)=>([.d tu hi,.d tu lo,.d tu yv],[])) (λx=>⟨.cons (.d tu x.1) (.cons (.d tu x.2) (.nil)),[],[]⟩) [some tu,some tu,some tu] [qh.sg] {loops:=pz [(17,{bo:=[2,8,9,10,11,13,14,15,16]}),(24,{bo:=[2,8,9,10,14,15,16,17,18]})],outs:=py [(17,{bo:=[2,8,9,10,11,13,14,15]},{bo:=[6,7]}),(24,{bo:=[2,8,14,15,17,18]},{bo:=[6,7]})],iX:=qg [(17,cw.L0.E),(24,cw.L1.E)]}
theorem cw.L0.run:cw.L0.RS:=rL [.d tu,.d tu,.d tu,.d tu,.d tu,.d tu,.d tu,.d tu,.d tu] cw.L0
theorem cw.L0.step{R:Type}(C5 sv yn1 yn0 un32 un1 un0 q1 rhat)(kn:K2 R)(kx:K3 R):cw.R 0 cw.L0 (C5,sv,yn1,yn0,un32,un1,un0,q1,rhat) kn kx=
  aP ((tZ q1 4294967296)) (
   aP ((tZ (cG .u64 rhat yn1) 4294967296)) (
    cw.L0.go kx ((C5,sv,yn1,yn0,un32,un1,un0),(dJ .u64 q1 1))) (
    kn (cw.L0.st (C5,sv,yn1,yn0,un32,un1,un0,(dJ .u64 q1 1),(cG .u64 rhat yn1))))) (
   aP ((uL (jj .u64 q1 yn0) (cG .u64 (jj .u64 4294967296 rhat) un1))) (
    aP ((tZ (cG .u64 rhat yn1) 4294967296)) (
     cw.L0.go kx ((C5,sv,yn1,yn0,un32,un1,un0),(dJ .u64 q1 1))) (
     kn (cw.L0.st (C5,sv,yn1,yn0,un32,un1,un0,(dJ .u64 q1 1),(cG .u64 rhat yn1))))) (
    cw.L0.go kx ((C5,sv,yn1,yn0,un32,un1,un0),q1))):=by kernel_rfl
theorem cw.L1.run:cw.L1.RS:=rL [.d tu,.d tu,.d tu,.d tu,.d tu,.d tu,.d tu,.d tu,.d tu] cw.L1
theorem cw.L1.step{R:Type}(C6 ky wi Cv vb CW tJ un21 q0)(kn:K2 R)(kx:K3 R):cw.R 1 cw.L1 (C6,ky,wi,Cv,vb,CW,tJ,un21,q0) kn kx=
  aP ((tZ q0 4294967296)) (
   aP ((tZ (cG .u64 tJ wi) 4294967296)) (
    cw.L1.go kx ((C6,ky,vb,CW,un21),(dJ .u64 q0 1))) (
    kn (cw.L1.st (C6,ky,wi,Cv,vb,CW,(cG .u64 tJ wi),un21,(dJ .u64 q0 1))))) (
   aP ((uL (jj .u64 q0 Cv) (cG .u64 (jj .u64 4294967296 tJ) vb))) (
    aP ((tZ (cG .u64 tJ wi) 4294967296)) (
     cw.L1.go kx ((C6,ky,vb,CW,un21),(dJ .u64 q0 1))) (
     kn (cw.L1.st (C6,ky,wi,Cv,vb,CW,(cG .u64 tJ wi),un21,(dJ .u64 q0 1))))) (
    cw.L1.go kx ((C6,ky,vb,CW,un21),q0))):=by kernel_rfl
theorem cw.eq{R:Type}(hi lo yv)(k:K1 R):cw.A (hi,lo,yv) k=
  aP ((w8 yv 0)) (
   none) (
   aP ((JA yv hi)) (
    none) (
    aP ((w8 hi 0)) (
     aP (ni yv) (
     aP (ni yv) (
     k (cw.out ((sr .u64 lo yv),(kQ lo yv)))) none) none) (
     ah (qh.call yv) λx1=>
     aP (nL (fa .u64 x1)) (
     aP (nL (fa .u64 x1)) (
     aP (nL (dJ .u64 64 (fa .u64 x1))) (
     aP (nL (fa .u64 x1)) (
     aP (ni (cT .u64 (l5 .u64 yv (fa .u64 x1)) 32)) (
     ah (cw.L0.call ((l5 .u64 yv (fa .u64 x1)),(fa .u64 x1),(cT .u64 (l5 .u64 yv (fa .u64 x1)) 32),(dY .and .u64 (l5 .u64 yv (fa .u64 x1)) 4294967295),(dY .or .u64 (l5 .u64 hi (fa .u64 x1)) (cT .u64 lo (dJ .u64 64 (fa .u64 x1)))),(cT .u64 (l5 .u64 lo (fa .u64 x1)) 32),(dY .and .u64 (l5 .u64 lo (fa .u64 x1)) 4294967295),(sr .u64 (dY .or .u64 (l5 .u64 hi (fa .u64 x1)) (cT .u64 lo (dJ .u64 64 (fa .u64 x1)))) (cT .u64 (l5 .u64 yv (fa .u64 x1)) 32)),(dJ .u64 (dY .or .u64 (l5 .u64 hi (fa .u64 x1)) (cT .u64 lo (dJ .u64 64 (fa .u64 x1)))) (jj .u64 (sr .u64 (dY .or .u64 (l5 .u64 hi (fa .u64 x1)) (cT .u64 lo (dJ .u64 64 (fa .u64 x1)))) (cT .u64 (l5 .u64 yv (fa .u64 x1)) 32)) (cT .u64 (l5 .u64 yv (fa .u64 x1)) 32))))) λx2=>
     aP (ni x2.1.2.2.1) (
     ah (cw.L1.call (x2.1.1,x2.1.2.1,x2.1.2.2.1,x2.1.2.2.2.1,x2.1.2.2.2.2.2.2,x2.2,(dJ .u64 (dJ .u64 (cG .u64 (jj .u64 x2.1.2.2.2.2.1 4294967296) x2.1.2.2.2.2.2.1) (jj .u64 x2.2 x2.1.1)) (jj .u64 (sr .u64 (dJ .u64 (cG .u64 (jj .u64 x2.1.2.2.2.2.1 4294967296) x2.1.2.2.2.2.2.1) (jj .u64 x2.2 x2.1.1)) x2.1.2.2.1) x2.1.2.2.1)),(dJ .u64 (cG .u64 (jj .u64 x2.1.2.2.2.2.1 4294967296) x2.1.2.2.2.2.2.1) (jj .u64 x2.2 x2.1.1)),(sr .u64 (dJ .u64 (cG .u64 (jj .u64 x2.1.2.2.2.2.1 4294967296) x2.1.2.2.2.2.2.1) (jj .u64 x2.2 x2.1.1)) x2.1.2.2.1))) λx3=>
     aP (nL x3.1.2.1) (
     k (cw.out ((cG .u64 (jj .u64 x3.1.2.2.2.1 4294967296) x3.2),(cT .u64 (dJ .u64 (cG .u64 (jj .u64 x3.1.2.2.2.2 4294967296) x3.1.2.2.1) (jj .u64 x3.2 x3.1.1)) x3.1.2.1)))) none) none) none) none) none) none) none))):=by kernel_rfl
theorem cw.L0.ok:(cw.mL 0 cw.L0):=by
 refine(cw.oH 0 cw.L0) (λ(y,sv,yn1,yn0,u,w,un0,q,r)=>q.toNat) ?_
 rintro⟨y,sv,yn1,yn0,u,w,un0,q,r⟩ ⟨e,he,rfl,rfl,rfl,hu,Fe,hw,LN,hr,Ga,hq,hQ⟩
 have hu:0<=u:=hu
 have Fe:u < 18446744073709551616 - e:=Fe
 have hw:0<=w:=hw
 have LN:w < 4294967296:=LN
 have hr:0<=r:=hr
 have Ga:r < 4294967296:=Ga
 have hq:q*4294967295+r=u:=hq
 obtain⟨k1,k2,k3,k4,k5,k6⟩:=k1 he hu Fe hw LN hr Ga hq hQ
 have q0:0<=q:=Int.le_trans k5 hQ
 have a1:cG .u64 r 4294967295=r+4294967295:=by rw[qI];omega
 have a2:cG .u64 (jj .u64 4294967296 r) w=4294967296*r+w:=by rw[qJ,qI];omega
 have a3:q < 4294967296->jj .u64 q (4294967296 - e)=q*(4294967296 - e):=by
  intro h;rw[qJ];rcases he with rfl | rfl | rfl <;> omega
 have a4:0 < q->dJ .u64 q 1=q - 1:=by intro h;rw[Af];omega
 have pos:4294967296<=q\/(q < 4294967296/\4294967296*r+w < q*(4294967296 - e))->0 < q/\(u*4294967296+w) / (18446744073709551616 - e)<=q - 1:=by
  rintro(h | ⟨h,h2⟩)
  ·exact⟨by omega,k1 h⟩
  ·exact⟨by have:=k2 h h2;omega,k2 h h2⟩
 by_cases hc:4294967296<=q\/(q < 4294967296/\4294967296*r+w < q*(4294967296 - e))
 ·obtain⟨p1,p2⟩:=pos hc
  by_cases hb:4294967296<=r+4294967295
  ·right
   have hF:cw.L0.F (18446744073709551616 - e,sv,4294967295,4294967296 - e,u,w,un0,q,r)=q - 1:=k4 hb p2
   intro R kn kx
   rw[cw.L0.step,a1,a2,a4 p1,jg hb,hF]
   rcases hc with h | ⟨h,h2⟩
   ·rw[jg h];rfl
   ·rw[fI (by omega),a3 h,eY h2];rfl
  ·left
   refine⟨(18446744073709551616 - e,sv,4294967295,4294967296 - e,u,w,un0,q - 1,r+4294967295),⟨e,he,rfl,rfl,rfl,hu,Fe,hw,LN,by omega,by omega,by omega,p2⟩,by simp only[];omega,rfl,λkn kx=> ?_⟩
   rw[cw.L0.step,a1,a2,a4 p1,fI hb]
   rcases hc with h | ⟨h,h2⟩
   ·rw[jg h];rfl
   ·rw[fI (by omega),a3 h,eY h2];rfl
 ·right
  have h:q < 4294967296:=by omega
  have h2:¬4294967296*r+w < q*(4294967296 - e):=λx=>hc (Or.inr ⟨h,x⟩)
  have hF:cw.L0.F (18446744073709551616 - e,sv,4294967295,4294967296 - e,u,w,un0,q,r)=q:=k3 h (by omega)
  intro R kn kx
  rw[cw.L0.step,a2,a3 h,fI (by omega),eC h2,hF]
  rfl
theorem cw.L1.ok:(cw.mL 1 cw.L1):=by
 refine(cw.oH 1 cw.L1) (λ(y,sv,yn1,yn0,w,q1,r,u,q)=>q.toNat) ?_
 rintro⟨y,sv,yn1,yn0,w,q1,r,u,q⟩ ⟨e,he,rfl,rfl,rfl,hu,Fe,hw,LN,hr,Ga,hq,hQ⟩
 have hu:0<=u:=hu
 have Fe:u < 18446744073709551616 - e:=Fe
 have hw:0<=w:=hw
 have LN:w < 4294967296:=LN
 have hr:0<=r:=hr
 have Ga:r < 4294967296:=Ga
 have hq:q*4294967295+r=u:=hq
 obtain⟨k1,k2,k3,k4,k5,k6⟩:=k1 he hu Fe hw LN hr Ga hq hQ
 have q0:0<=q:=Int.le_trans k5 hQ
 have a1:cG .u64 r 4294967295=r+4294967295:=by rw[qI];omega
 have a2:cG .u64 (jj .u64 4294967296 r) w=4294967296*r+w:=by rw[qJ,qI];omega
 have a3:q < 4294967296->jj .u64 q (4294967296 - e)=q*(4294967296 - e):=by
  intro h;rw[qJ];rcases he with rfl | rfl | rfl <;> omega
 have a4:0 < q->dJ .u64 q 1=q - 1:=by intro h;rw[Af];omega
 have pos:4294967296<=q\/(q < 4294967296/\4294967296*r+w < q*(4294967296 - e))->0 < q/\(u*4294967296+w) / (18446744073709551616 - e)<=q - 1:=by
  rintro(h | ⟨h,h2⟩)
  ·exact⟨by omega,k1 h⟩
  ·exact⟨by have:=k2 h h2;omega,k2 h h2⟩
 by_cases hc:4294967296<=q\/(q < 4294967296/\4294967296*r+w < q*(4294967296 - e))
 ·obtain⟨p1,p2⟩:=pos hc
  by_cases hb:4294967296<=r+4294967295
  ·right
   have hF:cw.L1.F (18446744073709551616 - e,sv,4294967295,4294967296 - e,w,q1,r,u,q)=q - 1:=k4 hb p2
   intro R kn kx
   rw[cw.L1.step,a1,a2,a4 p1,jg hb,hF]
   rcases hc with h | ⟨h,h2⟩
   ·rw[jg h];rfl
   ·rw[fI (by omega),a3 h,eY h2];rfl
  ·left
   refine⟨(18446744073709551616 - e,sv,4294967295,4294967296 - e,w,q1,r+4294967295,u,q - 1),⟨e,he,rfl,rfl,rfl,hu,Fe,hw,LN,by omega,by omega,by omega,p2⟩,by simp only[];omega,rfl,λkn kx=> ?_⟩
   rw[cw.L1.step,a1,a2,a4 p1,fI hb]
   rcases hc with h | ⟨h,h2⟩
   ·rw[jg h];rfl
   ·rw[fI (by omega),a3 h,eY h2];rfl
 ·right
  have h:q < 4294967296:=by omega
  have h2:¬4294967296*r+w < q*(4294967296 - e):=λx=>hc (Or.inr ⟨h,x⟩)
  have hF:cw.L1.F (18446744073709551616 - e,sv,4294967295,4294967296 - e,w,q1,r,u,q)=q:=k3 h (by omega)
  intro R kn kx
  rw[cw.L1.step,a2,a3 h,fI (by omega),eC h2,hF]
  rfl
theorem QR{y hi lo:Int}(hy:SZ y)(h0:0<=hi)(h1:hi < y)(h2:0<=lo)(h3:lo < 18446744073709551616):∃(s:Nat) (e m:Int),qh.F y=s/\(s=2\/s=3)/\m=2^s/\(e=42260\/e=42264\/e=42272)/\y*m=18446744073709551616 - e/\
  l5 .u64 y (s:Int)=18446744073709551616 - e/\
  dY .or .u64 (l5 .u64 hi (s:Int)) (cT .u64 lo (dJ .u64 64 (s:Int)))=(hi*18446744073709551616+lo)*m / 18446744073709551616/\
  l5 .u64 lo (s:Int)=(hi*18446744073709551616+lo)*m%18446744073709551616/\
  (hi*18446744073709551616+lo)*m / 18446744073709551616 < 18446744073709551616 - e/\
  (hi*18446744073709551616+lo)*m / (18446744073709551616 - e)=(hi*18446744073709551616+lo) / y/\
  (hi*18446744073709551616+lo)*m%(18446744073709551616 - e) / m=(hi*18446744073709551616+lo)%y:=by
 have e1:dJ .u64 64 ((2:Nat):Int)=((62:Nat):Int):=rfl
 have e2:dJ .u64 64 ((3:Nat):Int)=((61:Nat):Int):=rfl
 have p2:(2:Int)^2=4:=rfl
 have p3:(2:Int)^3=8:=rfl
 have p61:(2:Int)^61=2305843009213693952:=rfl
 have p62:(2:Int)^62=4611686018427387904:=rfl
 obtain rfl | rfl | rfl:=hy
 ·refine⟨2,42260,4,rfl,Or.inl rfl,rfl,Or.inl rfl,rfl,by rw[pC 2 (by rfl) (by omega),p2];omega,?_,?_,by omega,by omega,by omega⟩
  ·rw[e1,pC 2 (by rfl) (by omega),pD 62 (by rfl) (by omega),p2,p62,xI 2 4 rfl (by omega) (by omega) (by omega) (by omega) (by omega) (by omega)];omega
  ·rw[pC 2 (by rfl) (by omega),p2];omega
 ·refine⟨3,42264,8,rfl,Or.inr rfl,rfl,Or.inr (Or.inl rfl),rfl,by rw[pC 3 (by rfl) (by omega),p3];omega,?_,?_,by omega,by omega,by omega⟩
  ·rw[e2,pC 3 (by rfl) (by omega),pD 61 (by rfl) (by omega),p3,p61,xI 3 8 rfl (by omega) (by omega) (by omega) (by omega) (by omega) (by omega)];omega
  ·rw[pC 3 (by rfl) (by omega),p3];omega
 ·refine⟨3,42272,8,rfl,Or.inr rfl,rfl,Or.inr (Or.inr rfl),rfl,by rw[pC 3 (by rfl) (by omega),p3];omega,?_,?_,by omega,by omega,by omega⟩
  ·rw[e2,pC 3 (by rfl) (by omega),pD 61 (by rfl) (by omega),p3,p61,xI 3 8 rfl (by omega) (by omega) (by omega) (by omega) (by omega) (by omega)];omega
  ·rw[pC 3 (by rfl) (by omega),p3];omega
theorem WZ(a b c:Int):(((a%18446744073709551616+b)%18446744073709551616) - c%18446744073709551616)%18446744073709551616=(a+b - c)%18446744073709551616:=by omega
theorem cw.ok:cw.Ok:=by
 rintro⟨hi,lo,y⟩ ⟨hy,h0,h1,h2,h3⟩
 have h0:0<=hi:=h0
 have h1:hi < y:=h1
 have h2:0<=lo:=h2
 have h3:lo < 18446744073709551616:=h3
 have yb:0 < y/\y < 18446744073709551616:=by
  rcases hy with hy | hy
  ·obtain rfl | rfl | rfl:=hy <;> omega
  ·exact hy.2
 rw[cw.eq,lH (by omega),nP (by omega)]
 simp only[al]
 have z:ni y=true:=by simp[ni];omega
 by_cases hz:hi=0
 ·subst hz
  rw[jf rfl,z,JD h2 (by omega) h3,rW h2]
  simp only[ag,cw.F,bP,Int.zero_mul,Int.zero_add]
 ·have hy:SZ y:=hy.resolve_right λe=>hz e.1
  obtain⟨s,e,m,hs,AR,hm,he,ZV,a1,a2,a3,a4,a5,a6⟩:=QR hy h0 h1 h2 h3
  have c1:fa .u64 (s:Int)=(s:Int):=by rw[MT];omega
  have c2:nL (s:Int)=true:=pM (by omega)
  have c3:nL (dJ .u64 64 (s:Int))=true:=by rcases AR with rfl | rfl <;> rfl
  rw[lH hz,qh.run (d:=y) hy]
  simp only[al,ab,bP,hs,c1,c2,c3,ag,a1,a2,a3]
  have hN:0<=(hi*18446744073709551616+lo)*m:=Int.mul_nonneg (by omega) (by rcases AR with rfl | rfl <;> omega)
  revert a4 a5 a6
  generalize (hi*18446744073709551616+lo)*m=N at hN
  intro a4 a5 a6
  have u0:0<=N / 18446744073709551616:=by omega
  have t0:0<=N%18446744073709551616:=by omega
  have t1:N%18446744073709551616 < 18446744073709551616:=by omega
  have hd:N=(N / 18446744073709551616*4294967296+N%18446744073709551616 / 4294967296)*4294967296+N%18446744073709551616%4294967296:=by omega
  have w10:0<=N%18446744073709551616 / 4294967296:=by omega
  have w11:N%18446744073709551616 / 4294967296 < 4294967296:=by omega
  have w00:0<=N%18446744073709551616%4294967296:=by omega
  have w01:N%18446744073709551616%4294967296 < 4294967296:=by omega
  have p32:(2:Int)^32=4294967296:=rfl
  have b1:cT .u64 (18446744073709551616 - e) 32=4294967295:=by rw[pD 32 (by rfl) (by omega),p32];rcases he with rfl | rfl | rfl <;> rfl
  have b2:dY .and .u64 (18446744073709551616 - e) 4294967295=4294967296 - e:=by rw[Fw (by omega) (by omega)];omega
  have b3:cT .u64 (N%18446744073709551616) 32=N%18446744073709551616 / 4294967296:=by rw[pD 32 (by rfl) (by omega),p32]
  have b4:dY .and .u64 (N%18446744073709551616) 4294967295=N%18446744073709551616%4294967296:=Fw t0 t1
  have z2:ni 4294967295=true:=rfl
  simp only[b1,b2,b3,b4,z2,ag]
  clear a1 a2 a3 b1 b2 b3 b4
  have kdd:=kd (18446744073709551616 - e) (N / 18446744073709551616) (N%18446744073709551616 / 4294967296) (N%18446744073709551616%4294967296) (by omega) w00 w01
  rw[<-hd,a5]at kdd
  revert a4 kdd
  generalize N / 18446744073709551616=u at u0
  generalize N%18446744073709551616 / 4294967296=w1 at w10 w11
  generalize N%18446744073709551616%4294967296=w0 at w00 w01
  intro a4 kdd
  have g:∀u w:Int,0<=u->u < 18446744073709551616 - e->0<=w->w < 4294967296->
    sr .u64 u 4294967295=u / 4294967295/\dJ .u64 u (jj .u64 (u / 4294967295) 4294967295)=u - u / 4294967295*4294967295/\
    dJ .u64 (cG .u64 (jj .u64 u 4294967296) w) (jj .u64 ((u*4294967296+w) / (18446744073709551616 - e)) (18446744073709551616 - e))=(u*4294967296+w)%(18446744073709551616 - e):=by
   intro u w k1 k2 k3 k4
   obtain⟨q1,q2,q3,q4,q5,q6,q7,q8⟩:=k0 he k1 k2 k3 k4
   refine⟨JD k1 (by omega) (by omega),by rw[Af,qJ];omega,?_⟩
   rw[Af,qI,qJ,qJ,WZ,q4]
   exact fi q5 (by omega)
  obtain⟨f1,f2,f3⟩:=g u w1 u0 a4 w10 w11
  obtain⟨q1,q2,q3,q4,q5,q6,q7,q8⟩:=k0 he u0 a4 w10 w11
  have p1:cw.L0.aM (18446744073709551616 - e,(s:Int),4294967295,4294967296 - e,u,w1,w0,u / 4294967295,u - u / 4294967295*4294967295):=⟨e,he,rfl,rfl,rfl,u0,a4,w10,w11,q2,q3,by omega,q1⟩
  rw[f1,f2,cw.L0.run p1]
  simp only[ab,cw.L0.add,cw.L0.F,z2,ag,f3]
  revert f3 q1 kdd
  generalize (u*4294967296+w1)%(18446744073709551616 - e)=v at q4 q5 q6
  generalize (u*4294967296+w1) / (18446744073709551616 - e)=Q at q4 q7 q8
  intro kdd f3 q1
  obtain⟨g1,g2,g3⟩:=g v w0 q5 q6 w00 w01
  obtain⟨r1,r2,r3,r4,r5,r6,r7,r8⟩:=k0 he q5 q6 w00 w01
  have p2:cw.L1.aM (18446744073709551616 - e,(s:Int),4294967295,4294967296 - e,w0,Q,v - v / 4294967295*4294967295,v,v / 4294967295):=⟨e,he,rfl,rfl,rfl,q5,q6,w00,w01,r2,r3,by omega,r1⟩
  rw[g1,g2,cw.L1.run p2]
  simp only[ab,cw.L1.add,cw.L1.F,c2,ag,g3]
  rw[<-kdd.2,pD s (by rfl) (by omega),<-hm,a6,qJ,qI]
  have e9:(Q*4294967296%18446744073709551616+(v*4294967296+w0) / (18446744073709551616 - e))%18446744073709551616=(hi*18446744073709551616+lo) / y:=by rw[kdd.1];omega
  rw[e9]
  rfl
theorem cw.run:cw.RS:=rE [.d tu,.d tu,.d tu] cw
def cw.sg:=cw.gG cw.ok 2 ⟨.iR cw.L0.ok,⟨.iR cw.L1.ok,trivial⟩⟩
abbrev iU.D:=Int×Int×Int
abbrev iU.Y:=Int
def iU.aM:iU.D->Prop:=λ(hi,lo,y)=>SZ y/\0<=hi/\hi < 18446744073709551616/\0<=lo/\lo < 18446744073709551616
def iU.F:iU.D->iU.Y:=λ(hi,lo,y)=>(hi*18446744073709551616+lo)%y
def iU:Fs Tryz.prog iU.aM bP iU.F:=gC 199 Tryz.f199 (λ(hi,lo,yv)=>([.d tu hi,.d tu lo,.d tu yv],[])) (λx=>⟨.d tu x,[],[]⟩) [some tu,some tu,some tu] [cw.sg]
theorem iU.eq{R:Type}(hi lo yv)(k:K1 R):iU.A (hi,lo,yv) k=
 aP (ni yv) (
 ah (cw.call ((kQ hi yv),lo,yv)) λx1=>
 k (iU.out x1.2)) none:=by kernel_rfl
theorem iU.ok:iU.Ok:=by
 rintro⟨hi,lo,y⟩ ⟨hy,h0,h1,h2,h3⟩
 have h0:0<=hi:=h0
 have yb:0 < y:=by obtain rfl | rfl | rfl:=hy <;> omega
 have z:ni y=true:=by simp[ni];omega
 have p:cw.aM (hi%y,lo,y):=⟨.inl hy,jW _ (by omega),jK _ yb,h2,h3⟩
 rw[iU.eq,z,rW h0,cw.run p]
 have e:(hi%y*18446744073709551616+lo)%y=(hi*18446744073709551616+lo)%y:=by
  rw[Int.add_emod,oc,l7 _ (Int.dvd_refl y),<-oc,<-Int.add_emod]
 simp only[ag,ab,bP,cw.F,bP,iU.F,e]
theorem iU.run:iU.RS:=rE [.d tu,.d tu,.d tu] iU
def iU.sg:=iU.gG iU.ok
abbrev jO.D:=Int×Int
abbrev jO.Y:=Int×Int
def jO.aM:jO.D->Prop:=λ(x,y)=>(0<=x/\x < 18446744073709551616)/\0<=y/\y < 18446744073709551616
def jO.F:jO.D->jO.Y:=λ(x,y)=>(x*y / 18446744073709551616,x*y%18446744073709551616)
def jO:Fs Tryz.prog jO.aM bP jO.F:=gC 236 Tryz.f236 (λ(x,yv)=>([.d tu x,.d tu yv],[])) (λx=>⟨.cons (.d tu x.1) (.cons (.d tu x.2) (.nil)),[],[]⟩) [some tu,some tu]
theorem jO.eq{R:Type}(x yv)(k:K1 R):jO.A (x,yv) k=
 k (jO.out ((cG .u64 (cG .u64 (jj .u64 (cT .u64 x 32) (cT .u64 yv 32)) (cT .u64 (cG .u64 (jj .u64 (cT .u64 x 32) (dY .and .u64 yv 4294967295)) (cT .u64 (jj .u64 (dY .and .u64 x 4294967295) (dY .and .u64 yv 4294967295)) 32)) 32)) (cT .u64 (cG .u64 (dY .and .u64 (cG .u64 (jj .u64 (cT .u64 x 32) (dY .and .u64 yv 4294967295)) (cT .u64 (jj .u64 (dY .and .u64 x 4294967295) (dY .and .u64 yv 4294967295)) 32)) 4294967295) (jj .u64 (dY .and .u64 x 4294967295) (cT .u64 yv 32))) 32)),(jj .u64 x yv))):=by kernel_rfl
theorem yT{a b m n:Int}(h0:0<=a)(h1:a<=m)(h2:0<=b)(h3:b<=n):0<=a*b/\a*b<=m*n:=
 ⟨Int.mul_nonneg h0 h2,Int.mul_le_mul h1 h3 h2 (Int.le_trans h0 h1)⟩
theorem jO.ok:jO.Ok:=by
 rintro⟨x,y⟩ ⟨⟨h0,h1⟩,h2,h3⟩
 have h0:0<=x:=h0
 have h1:x < 18446744073709551616:=h1
 have h2:0<=y:=h2
 have h3:y < 18446744073709551616:=h3
 rw[jO.eq]
 have p32:(2:Int)^32=4294967296:=rfl
 have Zu:∀x:Int,cT .u64 x 32=x / 4294967296:=λx=>by rw[pD 32 (by rfl) (by omega),p32]
 simp only[Zu,Fw h0 h1,Fw h2 h3]
 obtain⟨a,b,rfl,a0,a1,b0,b1⟩:∃a b:Int,x=a*4294967296+b/\0<=a/\a<=4294967295/\0<=b/\b<=4294967295:=⟨x / 4294967296,x%4294967296,by omega,by omega,by omega,by omega,by omega⟩
 obtain⟨c,d,rfl,c0,c1,d0,d1⟩:∃a b:Int,y=a*4294967296+b/\0<=a/\a<=4294967295/\0<=b/\b<=4294967295:=⟨y / 4294967296,y%4294967296,by omega,by omega,by omega,by omega,by omega⟩
 have e1:(a*4294967296+b) / 4294967296=a:=by omega
 have e2:(a*4294967296+b)%4294967296=b:=by omega
 have e3:(c*4294967296+d) / 4294967296=c:=by omega
 have e4:(c*4294967296+d)%4294967296=d:=by omega
 have e5:(a*4294967296+b)*(c*4294967296+d)=a*c*18446744073709551616+(a*d+b*c)*4294967296+b*d:=by
  have q:(4294967296:Int)*4294967296=18446744073709551616:=rfl
  rw[Int.add_mul,Int.mul_add,Int.mul_add]
  have q1:a*4294967296*(c*4294967296)=a*c*18446744073709551616:=by rw[<-q];ac_rfl
  have q2:a*4294967296*d=a*d*4294967296:=by ac_rfl
  have q3:b*(c*4294967296)=b*c*4294967296:=by ac_rfl
  rw[q1,q2,q3];omega
 obtain⟨m1,m2⟩:=yT a0 a1 c0 c1
 obtain⟨m3,m4⟩:=yT a0 a1 d0 d1
 obtain⟨m5,m6⟩:=yT b0 b1 c0 c1
 obtain⟨m7,m8⟩:=yT b0 b1 d0 d1
 have n:(4294967295:Int)*4294967295=18446744065119617025:=rfl
 rw[n]at m2 m4 m6 m8
 simp only[e1,e2,e3,e4,bP,jO.F,e5,qJ,qI]
 revert m1 m2 m3 m4 m5 m6 m7 m8
 generalize a*c=ac
 generalize a*d=ad
 generalize b*c=bc
 generalize b*d=bd
 intro m1 m2 m3 m4 m5 m6 m7 m8
 have q1:bd%18446744073709551616=bd:=by omega
 have q2:ad%18446744073709551616=ad:=by omega
 have q3:bc%18446744073709551616=bc:=by omega
 have q4:ac%18446744073709551616=ac:=by omega
 rw[q1,q2,q3,q4]
 have q5:(ad+bd / 4294967296)%18446744073709551616=ad+bd / 4294967296:=by omega
 have q6:dY .and .u64 (ad+bd / 4294967296) 4294967295=(ad+bd / 4294967296)%4294967296:=Fw (by omega) (by omega)
 rw[q5,q6]
 refine congrArg some (congrArg jO.out (Prod.ext ?_ ?_))
 ·show _=(_:Int)
  simp only[]
  omega
 ·rfl
theorem jO.run:jO.RS:=rE [.d tu,.d tu] jO
def jO.sg:=jO.gG jO.ok
def Pn(x:Int):Prop:=0<=x/\x < 4611686018427377339
def mq(x:Int):Prop:=0<=x/\x < 18446744073709551616
theorem Pn.u{x:Int}(h:Pn x):mq x:=⟨h.1,by have:=h.2;omega⟩
def oS(a b:Int):Int:=a*b%4611686018427377339
theorem r9(a b:Int):Pn (oS a b):=⟨jW _ (by omega),jK _ (by omega)⟩
def JS:Nat->Int->Nat->Int->Int
 | 0,_,_,out=>out
 |f+1,a,n,out=>if n=0 then out else JS f (oS a a) (n / 2) (if n%2=1 then oS out a else out)
def pw(a:Int)(n:Nat):Int:=JS 64 a n 1
theorem sT(f:Nat)(a out:Int):JS f a 0 out=out:=by cases f <;> rfl
theorem GU:∀(f g:Nat) (a:Int) (n:Nat) (out:Int),n < 2^f->n < 2^g->JS f a n out=JS g a n out
 | 0,g,a,n,out,h,_=>by
  obtain rfl:n=0:=by omega
  rw[sT,sT]
 |f+1,0,a,n,out,_,h=>by
  obtain rfl:n=0:=by omega
  rw[sT,sT]
 |f+1,g+1,a,n,out,h,h'=>by
  have e:(2:Nat)^(f+1)=2^f*2:=Nat.pow_succ 2 f
  have e':(2:Nat)^(g+1)=2^g*2:=Nat.pow_succ 2 g
  unfold JS
  split
  ·rfl
  ·exact GU f g _ _ _ (by omega) (by omega)
theorem Nw:∀(f:Nat) (a:Int) (n:Nat) (out:Int),Pn out->Pn (JS f a n out)
 | 0,_,_,_,h=>h
 |f+1,a,n,out,h=>by
  unfold JS
  split
  ·exact h
  ·refine Nw f _ _ _ ?_
   split
   ·exact r9 _ _
   ·exact h
theorem GV(a:Int)(n:Nat):Pn (pw a n):=Nw _ _ _ _ ⟨by omega,by omega⟩
abbrev gX.D:=Int×Int
abbrev gX.Y:=Int
def gX.aM:gX.D->Prop:=λ(a,b)=>mq a/\mq b
def gX.F:gX.D->gX.Y:=λ(a,b)=>oS a b
def gX:Fs Tryz.prog gX.aM bP gX.F:=gC 193 Tryz.f193 (λ(a,b)=>([.d tu a,.d tu b],[])) (λx=>⟨.d tu x,[],[]⟩) [some tu,some tu] [jO.sg,iU.sg]
theorem gX.eq{R:Type}(a b)(k:K1 R):gX.A (a,b) k=
 ah (jO.call (a,b)) λx1=>
 ah (iU.call (x1.1,x1.2,4611686018427377339)) λx2=>
 k (gX.out x2):=by kernel_rfl
theorem Cn(n:Int):n / 18446744073709551616*18446744073709551616+n%18446744073709551616=n:=by omega
theorem gX.ok:gX.Ok:=by
 rintro⟨a,b⟩ ⟨ha,hb⟩
 have ha:mq a:=ha
 have hb:mq b:=hb
 obtain⟨m1,m2⟩:=yT ha.1 (show a<=18446744073709551615 by have:=ha.2;omega) hb.1 (show b<=18446744073709551615 by have:=hb.2;omega)
 have n:(18446744073709551615:Int)*18446744073709551615=340282366920938463426481119284349108225:=rfl
 rw[n]at m2
 have p:iU.aM (a*b / 18446744073709551616,a*b%18446744073709551616,4611686018427377339):=⟨Or.inl rfl,by omega,by omega,by omega,by omega⟩
 rw[gX.eq,jO.run (d:=(a,b)) ⟨ha,hb⟩]
 simp only[ab,bP,jO.F]
 rw[iU.run p]
 simp only[ab,bP,iU.F,Cn]
 rfl
theorem gX.run:gX.RS:=rE [.d tu,.d tu] gX
def gX.sg:=gX.gG gX.ok
abbrev dw.L0.D:=Int×Int×Int
abbrev dw.L0.Y:=Int
abbrev dw.D:=Int×Int
abbrev dw.Y:=Int
def dw.L0.aM:dw.L0.D->Prop:=λ(a,n,o)=>mq a/\mq n/\Pn o
def dw.L0.F:dw.L0.D->dw.L0.Y:=λ(a,n,o)=>JS 64 a n.toNat o
def dw.aM:dw.D->Prop:=λ(a,n)=>mq a/\mq n
def dw.F:dw.D->dw.Y:=λ(a,n)=>pw a n.toNat
def dw.L0:Ls dw.L0.aM bP dw.L0.F:=rY (λ(PJ,s8,outv)=>⟨([.d tu PJ,.d tu s8,.undef,.undef,.undef,.d tu outv]++aT 14 []),[],(List.replicate 20 [])⟩) (λx=>(.exit 0,⟨(aT 5 ([.d tu x]++aT 14 [])),[],(List.replicate 20 [])⟩))
def dw:Fs Tryz.prog dw.aM bP dw.F:=gC 130 Tryz.f130 (λ(a,n)=>([.d tu a,.d tu n],[])) (λx=>⟨.d tu x,[],[]⟩) [some tu,some tu] [gX.sg] {loops:=pz [(2,{bo:=[0,1,5]})],outs:=py [(2,{bo:=[5]},{bo:=[4]})],iX:=qg [(2,dw.L0.E)]}
theorem dw.L0.run:dw.L0.RS:=rL [.d tu,.d tu,.d tu] dw.L0
theorem dw.L0.step{R:Type}(PJ s8 outv)(kn:K2 R)(kx:K3 R):dw.R 0 dw.L0 (PJ,s8,outv) kn kx=
  aP ((uL s8 0)) (
   aP ((w8 (dY .and .u64 s8 1) 1)) (
    ah (gX.call (outv,PJ)) λx1=>
    ah (gX.call (PJ,PJ)) λx2=>
    kn (dw.L0.st (x2,(cT .u64 s8 1),x1))) (
    ah (gX.call (PJ,PJ)) λx3=>
    kn (dw.L0.st (x3,(cT .u64 s8 1),outv)))) (
   dw.L0.go kx outv):=by kernel_rfl
theorem dw.eq{R:Type}(a n)(k:K1 R):dw.A (a,n) k=
 ah (dw.L0.call (a,n,1)) λx4=>
 k (dw.out x4):=by kernel_rfl
theorem Xh{n:Int}(h:mq n):cT .u64 n 1=n / 2:=pD 1 (by rfl) (by omega)
theorem dw.L0.ok:(dw.mL 0 dw.L0):=by
 refine(dw.oH 0 dw.L0) (λ(a,n,o)=>n.toNat) ?_
 rintro⟨a,n,o⟩ ⟨ha,hn,ho⟩
 have ha:mq a:=ha
 have hn:mq n:=hn
 have ho:Pn o:=ho
 have n0:=hn.1
 have n1:=hn.2
 by_cases h:0 < n
 ·left
  have e:dw.L0.F (a,n,o)=dw.L0.F (oS a a,n / 2,if n%2=1 then oS o a else o):=by
   show JS 64 a n.toNat o=JS 64 (oS a a) (n / 2).toNat _
   rw[GU 64 65 a n.toNat o (by omega) (by omega)]
   have t1:(n / 2).toNat=n.toNat / 2:=by omega
   have t2:(n%2=1)=(n.toNat%2=1):=by apply propext;omega
   rw[t1]
   simp only[t2]
   show(if n.toNat=0 then o else _)=_
   rw[if_neg (by omega)]
  refine⟨(oS a a,n / 2,if n%2=1 then oS o a else o),⟨(r9 a a).u,⟨by omega,by omega⟩,?_⟩,by show(n / 2).toNat < n.toNat;omega,?_,λkn kx=> ?_⟩
  ·show Pn (if n%2=1 then oS o a else o)
   split
   ·exact r9 _ _
   ·exact ho
  ·exact congrArg _ e.symm
  ·rw[dw.L0.step,eY h,Xh hn,VM n0 n1,gX.run (d:=(o,a)) ⟨ho.u,ha⟩,gX.run (d:=(a,a)) ⟨ha,ha⟩]
   by_cases h1:n%2=1
   ·rw[jf h1,if_pos h1];rfl
   ·rw[lH h1,if_neg h1];rfl
 ·right
  intro R kn kx
  obtain rfl:n=0:=by omega
  rw[dw.L0.step,eC (by omega)]
  simp only[al,bP,dw.L0.F]
  rw[show JS 64 a (Int.toNat 0) o=o from sT _ _ _]
theorem dw.ok:dw.Ok:=by
 rintro⟨a,n⟩ ⟨ha,hn⟩
 rw[dw.eq,dw.L0.run (d:=(a,n,1)) ⟨ha,hn,by omega,by omega⟩]
 rfl
theorem dw.run:dw.RS:=rE [.d tu,.d tu] dw
def dw.sg:=dw.gG dw.ok 1 ⟨.iR dw.L0.ok,trivial⟩
def sE(p:Int):Bool:=decide (0 < p/\p < 4611686018427377339) && decide (pw p 2305843009213688669=1)
def tk(p:Int):Int:=if sE p then p else 1
theorem NT(p:Int):Pn (tk p):=by
 unfold tk
 split
 ·rename_i h
  simp only[sE,aj,decide_eq_true_eq]at h
  exact⟨by omega,by omega⟩
 ·exact⟨by omega,by omega⟩
def tK(p k:Int):Int:=pw (tk p) (k%2305843009213688669).toNat
def fN(k:Int):Int:=tK 4 k
def Gz(p:Int):Int:=pw (tk p) 2305843009213688668
def zX(l:List Int):Int:=l.foldl (λo p=>oS o (tk p)) 1
theorem Pz(l:List Int)(o:Int)(h:Pn o):Pn (l.foldl (λo p=>oS o (tk p)) o):=by
 induction l generalizing o with
 |nil=>exact h
 |cons p l ih=>exact ih _ (r9 _ _)
theorem PA(l:List Int):Pn (zX l):=Pz l 1 ⟨by omega,by omega⟩
abbrev fw.D:=Int
abbrev fw.Y:=Bool
def fw.aM:fw.D->Prop:=λp=>mq p
def fw.F:fw.D->fw.Y:=λp=>sE p
def fw:Fs Tryz.prog fw.aM bP fw.F:=gC 151 Tryz.f151 (λp=>([.d tu p],[])) (λx=>⟨.d .bool x,[],[]⟩) [some tu] [dw.sg]
theorem fw.eq{R:Type}(p)(k:K1 R):fw.A p k=
  aP ((uL p 0)) (
   aP ((jx p 4611686018427377339)) (
    ah (dw.call (p,2305843009213688669)) λx1=>
    k (fw.out (w8 x1 1))) (
    k (fw.out false))) (
   k (fw.out false)):=by kernel_rfl
theorem fw.ok:fw.Ok:=by
 intro p hp
 have hp:mq p:=hp
 rw[fw.eq,dw.run (d:=(p,2305843009213688669)) ⟨hp,by constructor <;> decide⟩]
 simp only[ab,bP,dw.F,bP,fw.F,sE]
 by_cases h:0 < p
 ·rw[eY h,ag]
  by_cases h2:p < 4611686018427377339
  ·rw[bg h2,ag,aY ⟨h,h2⟩,ez]
   rfl
  ·rw[aX h2,al,cH (λx=>h2 x.2),kB]
 ·rw[eC h,al,cH (λx=>h x.1),kB]
theorem fw.run:fw.RS:=rE [.d tu] fw
def fw.sg:=fw.gG fw.ok
abbrev fZ.D:=Int
abbrev fZ.Y:=Int
def fZ.aM:fZ.D->Prop:=λp=>mq p
def fZ.F:fZ.D->fZ.Y:=λp=>tk p
def fZ:Fs Tryz.prog fZ.aM bP fZ.F:=gC 131 Tryz.f131 (λp=>([.d tu p],[])) (λx=>⟨.d tu x,[],[]⟩) [some tu] [fw.sg]
theorem fZ.eq{R:Type}(p)(k:K1 R):fZ.A p k=
  ah (fw.call p) λx1=>
  aP (x1) (
   k (fZ.out p)) (
   k (fZ.out 1)):=by kernel_rfl
theorem fZ.ok:fZ.Ok:=by
 intro p hp
 rw[fZ.eq,fw.run (d:=p) hp]
 simp only[ab,bP,fw.F,bP,fZ.F,tk]
 cases sE p <;> rfl
theorem fZ.run:fZ.RS:=rE [.d tu] fZ
def fZ.sg:=fZ.gG fZ.ok
abbrev iB.D:=Int×Int
abbrev iB.Y:=Int
def iB.aM:iB.D->Prop:=λ(p,k)=>mq p/\mq k
def iB.F:iB.D->iB.Y:=λ(p,k)=>tK p k
def iB:Fs Tryz.prog iB.aM bP iB.F:=gC 63 Tryz.f63 (λ(p,kv)=>([.d tu p,.d tu kv],[])) (λx=>⟨.d tu x,[],[]⟩) [some tu,some tu] [fZ.sg,dw.sg]
theorem iB.eq{R:Type}(p kv)(k:K1 R):iB.A (p,kv) k=
 ah (fZ.call p) λx1=>
 ah (dw.call (x1,(kQ kv 2305843009213688669))) λx2=>
 k (iB.out x2):=by kernel_rfl
theorem iB.ok:iB.Ok:=by
 rintro⟨p,k⟩ ⟨hp,hk⟩
 have hk:mq k:=hk
 have e:=rW (y:=2305843009213688669) hk.1
 have b:mq (k%2305843009213688669):=⟨by omega,by omega⟩
 rw[iB.eq,fZ.run (d:=p) hp,e]
 simp only[ab,bP,fZ.F]
 rw[dw.run (d:=(tk p,k%2305843009213688669)) ⟨(NT p).u,b⟩]
 rfl
theorem iB.run:iB.RS:=rE [.d tu,.d tu] iB
def iB.sg:=iB.gG iB.ok
abbrev gm.D:=Int
abbrev gm.Y:=Int
def gm.aM:gm.D->Prop:=λk=>mq k
def gm.F:gm.D->gm.Y:=λk=>fN k
def gm:Fs Tryz.prog gm.aM bP gm.F:=gC 14 Tryz.f14 (λkv=>([.d tu kv],[])) (λx=>⟨.d tu x,[],[]⟩) [some tu] [iB.sg]
theorem gm.eq{R:Type}(kv)(k:K1 R):gm.A kv k=
 ah (iB.call (4,kv)) λx1=>
 k (gm.out x1):=by kernel_rfl
theorem gm.ok:gm.Ok:=by
 intro k hk
 rw[gm.eq,iB.run (d:=(4,k)) ⟨⟨by omega,by omega⟩,hk⟩]
 rfl
theorem gm.run:gm.RS:=rE [.d tu] gm
def gm.sg:=gm.gG gm.ok
abbrev qk.D:=Int
abbrev qk.Y:=Int
def qk.aM:qk.D->Prop:=λp=>mq p
def qk.F:qk.D->qk.Y:=λp=>Gz p
def qk:Fs Tryz.prog qk.aM bP qk.F:=gC 260 Tryz.f260 (λp=>([.d tu p],[])) (λx=>⟨.d tu x,[],[]⟩) [some tu] [fZ.sg,dw.sg]
theorem qk.eq{R:Type}(p)(k:K1 R):qk.A p k=
 ah (fZ.call p) λx1=>
 ah (dw.call (x1,2305843009213688668)) λx2=>
 k (qk.out x2):=by kernel_rfl
theorem qk.ok:qk.Ok:=by
 intro p hp
 rw[qk.eq,fZ.run (d:=p) hp]
 simp only[ab,bP,fZ.F]
 rw[dw.run (d:=(tk p,2305843009213688668)) ⟨(NT p).u,by constructor <;> decide⟩]
 rfl
theorem qk.run:qk.RS:=rE [.d tu] qk
def qk.sg:=qk.gG qk.ok
abbrev hJ.L0.D:=Int×Bs×Int×Int
abbrev hJ.L0.Y:=Int
abbrev hJ.D:=Bs
abbrev hJ.Y:=Int
def hJ.L0.aM:hJ.L0.D->Prop:=λ(o,l,n,i)=>Pn o/\(∀x∈l,mq x)/\l.length<=1000000000/\n=l.length/\∃k:Nat,k<=l.length/\i=k
def hJ.L0.F:hJ.L0.D->hJ.L0.Y:=λ(o,l,n,i)=>(l.drop i.toNat).foldl (λo p=>oS o (tk p)) o
def hJ.aM:hJ.D->Prop:=λl=>(∀x∈l,mq x)/\l.length<=1000000000
def hJ.F:hJ.D->hJ.Y:=λl=>zX l
def hJ.L0:Ls hJ.L0.aM bP hJ.L0.F:=rY (λ(outv,t6,t7,t8)=>⟨([.undef,.undef,.undef,.d tu outv,.undef,.undef,.d tU t6,.d ti t7,.d ti t8]++aT 9 []),[],(List.replicate 18 [])⟩) (λx=>(.exit 0,⟨([.undef,.undef,.undef,.d tu x]++aT 14 []),[],(List.replicate 18 [])⟩))
def hJ:Fs Tryz.prog hJ.aM bP hJ.F:=gC 242 Tryz.f242 (λl=>([.d tU l],[])) (λx=>⟨.d tu x,[],[]⟩) [some tU] [fZ.sg,gX.sg] {loops:=pz [(3,{bo:=[3,6,7,8]})],outs:=py [(3,{bo:=[3]},{bo:=[2]})],iX:=qg [(3,hJ.L0.E)]}
theorem hJ.L0.run:hJ.L0.RS:=rL [.d tu,.d tU,.d ti,.d ti] hJ.L0
theorem hJ.L0.step{R:Type}(outv t6 t7 t8)(kn:K2 R)(kx:K3 R):hJ.R 0 hJ.L0 (outv,t6,t7,t8) kn kx=
  aP ((jx t8 t7)) (
   aP (jn t8 (t6.length:Int)) (
   ah (fZ.call (nth tu t6 (Int.toNat t8))) λx1=>
   ah (gX.call (outv,x1)) λx2=>
   kn (hJ.L0.st (x2,t6,t7,(cG .i64 t8 1)))) none) (
   hJ.L0.go kx outv):=by kernel_rfl
theorem hJ.eq{R:Type}(l)(k:K1 R):hJ.A l k=
 ah (hJ.L0.call (1,l,(l.length:Int),0)) λx3=>
 k (hJ.out x3):=by kernel_rfl
theorem hJ.L0.ok:(hJ.mL 0 hJ.L0):=by
 refine(hJ.oH 0 hJ.L0) (λ(o,l,n,i)=>l.length - i.toNat) ?_
 rintro⟨o,l,n,i⟩ ⟨ho,hl,hb,rfl,k,hk,rfl⟩
 have ho:Pn o:=ho
 have hb:l.length<=1000000000:=hb
 have hk:k<=l.length:=hk
 by_cases h:k < l.length
 ·left
  have hx:=hl _ (aL h)
  have n1:nth (.int .u64) l k=l[k]:=dz (t:= .int .u64) h
  refine⟨(oS o (tk l[k]),l,l.length,((k+1:Nat):Int)),⟨r9 _ _,hl,hb,rfl,k+1,by omega,rfl⟩,by simp only[aa];omega,?_,λkn kx=> ?_⟩
  ·simp only[bP,hJ.L0.F,aa]
   rw[ax h]
   rfl
  ·rw[hJ.L0.step]
   simp(disch:=omega) only[↓S1,↓if_pos,↓if_neg,if_pos,if_neg,if_true,if_false,S2,n1]
   rw[fZ.run (d:=l[k]) hx]
   simp only[ab,bP,fZ.F]
   rw[gX.run (d:=(o,tk l[k])) ⟨ho.u,(NT _).u⟩]
   rfl
 ·right
  obtain rfl:k=l.length:=by omega
  intro R kn kx
  rw[hJ.L0.step]
  simp(disch:=omega) only[↓S1,↓if_pos,↓if_neg,if_pos,if_neg,if_true,if_false,S2,bP,hJ.L0.F,aZ]
  rfl
theorem hJ.ok:hJ.Ok:=by
 rintro l ⟨hl,hb⟩
 rw[hJ.eq,hJ.L0.run (d:=(1,l,l.length,0)) ⟨⟨by omega,by omega⟩,hl,hb,rfl,0,by omega,rfl⟩]
 rfl
theorem hJ.run:hJ.RS:=rE [.d tU] hJ
def hJ.sg:=hJ.gG hJ.ok 1 ⟨.iR hJ.L0.ok,trivial⟩
abbrev qi.D:=Int×Int
abbrev qi.Y:=Int
def qi.aM:qi.D->Prop:=λ(p,q)=>mq p/\mq q
def qi.F:qi.D->qi.Y:=λ(p,q)=>zX [p,q]
def qi:Fs Tryz.prog qi.aM bP qi.F:=gC 195 Tryz.f195 (λ(p,q)=>([.d tu p,.d tu q],[])) (λx=>⟨.d tu x,[],[]⟩) [some tu,some tu] [hJ.sg]
theorem qi.eq{R:Type}(p q)(k:K1 R):qi.A (p,q) k=
 ah (hJ.call [p,q]) λx1=>
 k (qi.out x1):=by kernel_rfl
theorem qi.ok:qi.Ok:=by
 rintro⟨p,q⟩ ⟨hp,hq⟩
 have h:hJ.aM [p,q]:=⟨by intro x hx;simp only[cX,List.not_mem_nil,or_false]at hx;rcases hx with rfl | rfl <;> assumption,by simp only[aB,bn];omega⟩
 rw[qi.eq,hJ.run h]
 rfl
theorem qi.run:qi.RS:=rE [.d tu,.d tu] qi
def qi.sg:=qi.gG qi.ok
def Qn(x:Int):Prop:=0<=x/\x < 2305843009213688669
theorem Qn.u{x:Int}(h:Qn x):mq x:=⟨h.1,by have:=h.2;omega⟩
def Nk(a:Int):Int:=a%2305843009213688669
theorem EU(a:Int):Qn (Nk a):=⟨jW _ (by omega),jK _ (by omega)⟩
def HD(a b:Int):Int:=(Nk a+Nk b)%2305843009213688669
def EO(a b:Int):Int:=Nk a*Nk b%2305843009213688669
def xn(h:List Int):Int:=h.foldl (λn b=>(n*256+b)%2305843009213688668) 0+1
def LV.b(n:Int):Prop:=0<=n/\n < 2305843009213688668
theorem F0(h:List Int)(n:Int)(hn:LV.b n):LV.b (h.foldl (λn b=>(n*256+b)%2305843009213688668) n):=by
 induction h generalizing n with
 |nil=>exact hn
 |cons p l ih=>exact ih _ ⟨jW _ (by omega),jK _ (by omega)⟩
theorem AH(h:List Int):0 < xn h/\xn h < 2305843009213688669:=by
 have:=F0 h 0 ⟨by omega,by omega⟩
 have h1:=this.1
 have h2:=this.2
 unfold xn
 omega
theorem Jd(a b:Int):Qn (HD a b):=⟨jW _ (by omega),jK _ (by omega)⟩
theorem O6(a b:Int):Qn (EO a b):=⟨jW _ (by omega),jK _ (by omega)⟩
abbrev gw.D:=Int
abbrev gw.Y:=Bool
def gw.aM:gw.D->Prop:=λ_=>True
def gw.F:gw.D->gw.Y:=λa=>jx a 2305843009213688669
def gw:Fs Tryz.prog gw.aM bP gw.F:=gC 65 Tryz.f65 (λa=>([.d tu a],[])) (λx=>⟨.d .bool x,[],[]⟩) [some tu]
theorem gw.eq{R:Type}(a)(k:K1 R):gw.A a k=
 k (gw.out (jx a 2305843009213688669)):=by kernel_rfl
theorem gw.ok:gw.Ok:=by
 intro a _
 rw[gw.eq]
 rfl
theorem gw.run:gw.RS:=rE [.d tu] gw
def gw.sg:=gw.gG gw.ok
abbrev vJ.D:=Int
abbrev vJ.Y:=Int
def vJ.aM:vJ.D->Prop:=λa=>mq a
def vJ.F:vJ.D->vJ.Y:=λa=>Nk a
def vJ:Fs Tryz.prog vJ.aM bP vJ.F:=gC 243 Tryz.f243 (λa=>([.d tu a],[])) (λx=>⟨.d tu x,[],[]⟩) [some tu]
theorem vJ.eq{R:Type}(a)(k:K1 R):vJ.A a k=
 k (vJ.out (kQ a 2305843009213688669)):=by kernel_rfl
theorem vJ.ok:vJ.Ok:=by
 intro a ha
 rw[vJ.eq,rW ha.1]
 rfl
theorem vJ.run:vJ.RS:=rE [.d tu] vJ
def vJ.sg:=vJ.gG vJ.ok
abbrev lS.D:=Int×Int
abbrev lS.Y:=Int
def lS.aM:lS.D->Prop:=λ(a,b)=>Qn a/\Qn b
def lS.F:lS.D->lS.Y:=λ(a,b)=>(a+b)%2305843009213688669
def lS:Fs Tryz.prog lS.aM bP lS.F:=gC 244 Tryz.f244 (λ(a,b)=>([.d tu a,.d tu b],[])) (λx=>⟨.d tu x,[],[]⟩) [some tu,some tu]
theorem lS.eq{R:Type}(a b)(k:K1 R):lS.A (a,b) k=
 k (lS.out (kQ (cG .u64 a b) 2305843009213688669)):=by kernel_rfl
theorem lS.ok:lS.Ok:=by
 rintro⟨a,b⟩ ⟨ha,hb⟩
 have ha:Qn a:=ha
 have hb:Qn b:=hb
 obtain⟨h1,h2⟩:=ha
 obtain⟨h3,h4⟩:=hb
 have e:cG .u64 a b=a+b:=by rw[qI];omega
 rw[lS.eq,e,rW (by omega)]
 rfl
theorem lS.run:lS.RS:=rE [.d tu,.d tu] lS
def lS.sg:=lS.gG lS.ok
abbrev jw.D:=Int×Int
abbrev jw.Y:=Int
def jw.aM:jw.D->Prop:=λ(a,b)=>Qn a/\Qn b
def jw.F:jw.D->jw.Y:=λ(a,b)=>a*b%2305843009213688669
def jw:Fs Tryz.prog jw.aM bP jw.F:=gC 245 Tryz.f245 (λ(a,b)=>([.d tu a,.d tu b],[])) (λx=>⟨.d tu x,[],[]⟩) [some tu,some tu] [jO.sg,iU.sg]
theorem jw.eq{R:Type}(a b)(k:K1 R):jw.A (a,b) k=
 ah (jO.call (a,b)) λx1=>
 ah (iU.call (x1.1,x1.2,2305843009213688669)) λx2=>
 k (jw.out x2):=by kernel_rfl
theorem jw.ok:jw.Ok:=by
 rintro⟨a,b⟩ ⟨ha,hb⟩
 have ha:Qn a:=ha
 have hb:Qn b:=hb
 obtain⟨m1,m2⟩:=yT ha.1 (show a<=18446744073709551615 by have:=ha.2;omega) hb.1 (show b<=18446744073709551615 by have:=hb.2;omega)
 have n:(18446744073709551615:Int)*18446744073709551615=340282366920938463426481119284349108225:=rfl
 rw[n]at m2
 have p:iU.aM (a*b / 18446744073709551616,a*b%18446744073709551616,2305843009213688669):=⟨Or.inr (Or.inl rfl),by omega,by omega,by omega,by omega⟩
 rw[jw.eq,jO.run (d:=(a,b)) ⟨ha.u,hb.u⟩]
 simp only[ab,bP,jO.F]
 rw[iU.run p]
 simp only[ab,bP,iU.F,Cn]
 rfl
theorem jw.run:jw.RS:=rE [.d tu,.d tu] jw
def jw.sg:=jw.gG jw.ok
abbrev qH.D:=Int×Int
abbrev qH.Y:=Int
def qH.aM:qH.D->Prop:=λ(a,b)=>mq a/\mq b
def qH.F:qH.D->qH.Y:=λ(a,b)=>HD a b
def qH:Fs Tryz.prog qH.aM bP qH.F:=gC 196 Tryz.f196 (λ(a,b)=>([.d tu a,.d tu b],[])) (λx=>⟨.d tu x,[],[]⟩) [some tu,some tu] [vJ.sg,lS.sg]
theorem qH.eq{R:Type}(a b)(k:K1 R):qH.A (a,b) k=
 ah (vJ.call a) λx1=>
 ah (vJ.call b) λx2=>
 ah (lS.call (x1,x2)) λx3=>
 k (qH.out x3):=by kernel_rfl
theorem qH.ok:qH.Ok:=by
 rintro⟨a,b⟩ ⟨ha,hb⟩
 rw[qH.eq,vJ.run (d:=a) ha,vJ.run (d:=b) hb]
 simp only[ab,bP,vJ.F]
 rw[lS.run (d:=(Nk a,Nk b)) ⟨EU a,EU b⟩]
 rfl
theorem qH.run:qH.RS:=rE [.d tu,.d tu] qH
def qH.sg:=qH.gG qH.ok
abbrev qf.D:=Int×Int
abbrev qf.Y:=Int
def qf.aM:qf.D->Prop:=λ(a,b)=>mq a/\mq b
def qf.F:qf.D->qf.Y:=λ(a,b)=>EO a b
def qf:Fs Tryz.prog qf.aM bP qf.F:=gC 197 Tryz.f197 (λ(a,b)=>([.d tu a,.d tu b],[])) (λx=>⟨.d tu x,[],[]⟩) [some tu,some tu] [vJ.sg,jw.sg]
theorem qf.eq{R:Type}(a b)(k:K1 R):qf.A (a,b) k=
 ah (vJ.call a) λx1=>
 ah (vJ.call b) λx2=>
 ah (jw.call (x1,x2)) λx3=>
 k (qf.out x3):=by kernel_rfl
theorem qf.ok:qf.Ok:=by
 rintro⟨a,b⟩ ⟨ha,hb⟩
 rw[qf.eq,vJ.run (d:=a) ha,vJ.run (d:=b) hb]
 simp only[ab,bP,vJ.F]
 rw[jw.run (d:=(Nk a,Nk b)) ⟨EU a,EU b⟩]
 rfl
theorem qf.run:qf.RS:=rE [.d tu,.d tu] qf
def qf.sg:=qf.gG qf.ok
abbrev eP.L0.D:=Int×Bs×Int
abbrev eP.L0.Y:=Int
abbrev eP.D:=Bs
abbrev eP.Y:=Int
def eP.L0.aM:eP.L0.D->Prop:=λ(n,h,i)=>LV.b n/\h.length=32/\Bytes h/\∃k:Nat,k<=32/\i=k
def eP.L0.F:eP.L0.D->eP.L0.Y:=λ(n,h,i)=>(h.drop i.toNat).foldl (λn b=>(n*256+b)%2305843009213688668) n
def eP.aM:eP.D->Prop:=λh=>h.length=32/\Bytes h
def eP.F:eP.D->eP.Y:=λh=>xn h
def eP.L0:Ls eP.L0.aM bP eP.L0.F:=rY (λ(n,t6,t7)=>⟨([.undef,.undef,.undef,.d tu n,.undef,.undef,.d tH t6,.d ti t7]++aT 13 []),[],(List.replicate 21 [])⟩) (λx=>(.exit 0,⟨([.undef,.undef,.undef,.d tu x]++aT 17 []),[],(List.replicate 21 [])⟩))
def eP:Fs Tryz.prog eP.aM bP eP.F:=gC 136 Tryz.f136 (λh=>([.d tH h],[])) (λx=>⟨.d tu x,[],[]⟩) [some tH] [iU.sg] {loops:=pz [(3,{bo:=[3,6,7]})],outs:=py [(3,{bo:=[3]},{bo:=[2]})],iX:=qg [(3,eP.L0.E)]}
theorem eP.L0.run:eP.L0.RS:=rL [.d tu,.d tB,.d ti] eP.L0
theorem eP.L0.step{R:Type}(n t6 t7)(kn:K2 R)(kx:K3 R):eP.R 0 eP.L0 (n,t6,t7) kn kx=
  aP ((jx t7 32)) (
   aP (jn t7 32) (
   ah (iU.call ((cT .u64 n 56),(dY .or .u64 (l5 .u64 n 8) (fa .u64 (nth tb t6 (Int.toNat t7)))),2305843009213688668)) λx1=>
   kn (eP.L0.st (x1,t6,(cG .i64 t7 1)))) none) (
   eP.L0.go kx n):=by kernel_rfl
theorem eP.eq{R:Type}(h)(k:K1 R):eP.A h k=
 ah (eP.L0.call (0,h,0)) λx2=>
 k (eP.out (cG .u64 x2 1)):=by kernel_rfl
theorem ze{n b:Int}(hn:LV.b n)(hb:D7 b):cT .u64 n 56*18446744073709551616+dY .or .u64 (l5 .u64 n 8) (fa .u64 b)=n*256+b/\mq (cT .u64 n 56)/\mq (dY .or .u64 (l5 .u64 n 8) (fa .u64 b)):=by
 obtain⟨h1,h2⟩:=hn
 obtain⟨h3,h4⟩:=hb
 have p56:(2:Int)^56=72057594037927936:=rfl
 have p8:(2:Int)^8=256:=rfl
 have e:fa .u64 b=b:=by rw[MT];omega
 rw[pD 56 (by rfl) (by omega),pC 8 (by rfl) (by omega),p56,p8,e,xI 8 256 rfl (by omega) (by omega) (by omega) (by omega) (by omega) (by omega)]
 exact⟨by omega,⟨by omega,by omega⟩,by omega,by omega⟩
theorem eP.L0.ok:(eP.mL 0 eP.L0):=by
 refine(eP.oH 0 eP.L0) (λ(n,h,i)=>32 - i.toNat) ?_
 rintro⟨n,h,i⟩ ⟨hn,hl,hb,k,hk,rfl⟩
 have hn:LV.b n:=hn
 have hl:h.length=32:=hl
 have hb:Bytes h:=hb
 by_cases iv:k < 32
 ·left
  have hx:D7 (h[k]'(by omega)):=hb _ (aL _)
  have n1:nth (.int .u8) h k=h[k]'(by omega):=dz (t:= .int .u8) (by omega)
  obtain⟨d1,d2,d3⟩:=ze hn hx
  refine⟨((n*256+h[k]'(by omega))%2305843009213688668,h,((k+1:Nat):Int)),⟨⟨by omega,by omega⟩,hl,hb,k+1,by omega,rfl⟩,by simp only[aa];omega,?_,λkn kx=> ?_⟩
  ·simp only[bP,eP.L0.F,aa]
   rw[ax (by omega:k < h.length)]
   rfl
  ·rw[eP.L0.step]
   simp(disch:=omega) only[↓S1,↓if_pos,↓if_neg,if_pos,if_neg,if_true,if_false,S2,n1]
   rw[iU.run (d:=(_,_,2305843009213688668)) ⟨Or.inr (Or.inr rfl),d2.1,d2.2,d3.1,d3.2⟩]
   simp only[ab,bP,iU.F,d1]
 ·right
  obtain rfl:k=32:=by omega
  intro R kn kx
  rw[eP.L0.step]
  simp(disch:=omega) only[↓S1,↓if_pos,↓if_neg,if_pos,if_neg,if_true,if_false,S2,bP,eP.L0.F]
  rw[gh (by omega)]
  rfl
theorem eP.ok:eP.Ok:=by
 rintro h ⟨hl,hb⟩
 have e:=F0 h 0 ⟨by omega,by omega⟩
 have h1:=e.1
 have h2:=e.2
 rw[eP.eq,eP.L0.run (d:=(0,h,0)) ⟨⟨by omega,by omega⟩,hl,hb,0,by omega,rfl⟩]
 simp only[ab,bP,eP.L0.F,bP,eP.F,xn,bN,aJ]
 revert h1 h2
 generalize h.foldl (λn b=>(n*256+b)%2305843009213688668) 0=m
 intro h1 h2
 have e:cG .u64 m 1=m+1:=by rw[qI];omega
 rw[e]
theorem eP.run:eP.RS:=rE [.d tB] eP
def eP.sg:=eP.gG eP.ok 1 ⟨.iR eP.L0.ok,trivial⟩
theorem Fz(n:Int): [fa .u8 (cT .u64 n 56),fa .u8 (cT .u64 n 48),fa .u8 (cT .u64 n 40),fa .u8 (cT .u64 n 32),fa .u8 (cT .u64 n 24),fa .u8 (cT .u64 n 16),fa .u8 (cT .u64 n 8),fa .u8 (cT .u64 n 0)]=kP n:=HG n
theorem gI{α:Type}{l:List α}{n:Nat}(h:l.length=n):cut l 0 n=l:=by subst h;simp[cut]
theorem NS{n:ByteArray}{a b c:List Int}(hn:n.size<=100)(ha:a.length<=1000000)(hb:b.length<=1000000)(hc:c.length<=1000000):fm.aM (n,[a,b,c]):=by
 show(C2 _ [a,b,c]).length<=_
 rw[C2]
 simp only[qS,dx,my,ae,dB,lR,bn]
 omega
theorem NR{n:ByteArray}{a b:List Int}(hn:n.size<=100)(ha:a.length<=1000000)(hb:b.length<=1000000):fm.aM (n,[a,b]):=by
 show(C2 _ [a,b]).length<=_
 rw[C2]
 simp only[qS,dx,my,ae,dB,lR,bn]
 omega
theorem He{n:ByteArray}{a:List Int}(hn:n.size<=100)(ha:a.length<=1000000):fm.aM (n,[a]):=by
 show(C2 _ [a]).length<=_
 rw[C2]
 simp only[qS,dx,my,ae,dB,lR,bn]
 omega
def Sm(m:List Int):Prop:=m.length=32/\Bytes m
theorem R4(b:List Int):Sm (S3 b):=⟨IQ b,Kk b⟩
theorem E1(n:List Int)(ps:List (List Int)):Sm (tag n ps):=R4 _
def NQ(n:ByteArray)(ps:List (List Int)):List Int:=tag (cD n) ps
def Ut:ByteArray:=⟨#[115,105,103]⟩
def Iv:ByteArray:=⟨#[110,111,110,99,101]⟩
def tV(r p:Int)(m:List Int):Int:=xn (NQ Ut [kP r,kP p,m])
theorem Ax(r p:Int)(m:List Int):Qn (tV r p m):=by
 have:=AH (NQ Ut [kP r,kP p,m])
 exact⟨by unfold tV;omega,by unfold tV;omega⟩
def Qx(s:Sg):Prop:=mq s.1/\mq s.2.1
def qZ(p:Int)(m:List Int)(t:Int)(s:Sg):Bool:=
 if p=1\/sE p=false\/sE t=false\/sE s.1=false\/¬s.2.1 < 2305843009213688669 then false
 else decide (fN s.2.1=zX [s.1,tK p (tV s.1 p m),Gz t])
def Ec(k nonce:Int)(m:List Int)(t:Int):Sg:=
 (zX [fN nonce,t],HD nonce (EO (tV (zX [fN nonce,t]) (fN k) m) k),())
def Ni(k:Int)(m:List Int):Int:=xn (NQ Iv [kP k,m])
def kK(k:Int)(m:List Int):Sg:=if k < 2305843009213688669/\k≠0 then Ec k (Ni k m) m 1 else(0,0,())
abbrev gO.D:=Int
abbrev gO.Y:=Bs
def gO.aM:gO.D->Prop:=λ_=>True
def gO.F:gO.D->gO.Y:=λn=>kP n
def gO:Fs Tryz.prog gO.aM bP gO.F:=gC 137 Tryz.f137 (λn=>([.d tu n],[])) (λx=>⟨.d tB x,[],[]⟩) [some tu] [] {loops:=pz [(3,{bo:=[0,3,7,8],sites:=[5]})],outs:=py [(3,{bo:=[3],sites:=[5]},{bo:=[2],sites:=[5]})],res:=[some tB]} 12
theorem gO.eq{R:Type}(n)(k:K1 R):gO.A n k=
 k (gO.out [(fa .u8 (cT .u64 n 56)),(fa .u8 (cT .u64 n 48)),(fa .u8 (cT .u64 n 40)),(fa .u8 (cT .u64 n 32)),(fa .u8 (cT .u64 n 24)),(fa .u8 (cT .u64 n 16)),(fa .u8 (cT .u64 n 8)),(fa .u8 (cT .u64 n 0))]):=by kernel_rfl
theorem gO.ok:gO.Ok:=by
 intro n _
 rw[gO.eq,Fz]
 rfl
theorem gO.run:gO.RS:=rE [.d tu] gO
def gO.sg:=gO.gG gO.ok 1 ⟨.none (by kernel_rfl),trivial⟩
abbrev ka.D:=Int×Int×Bs
abbrev ka.Y:=Int
def ka.aM:ka.D->Prop:=λ(r,p,m)=>Sm m
def ka.F:ka.D->ka.Y:=λ(r,p,m)=>tV r p m
def ka:Fs Tryz.prog ka.aM bP ka.F:=gC 198 Tryz.f198 (λ(r,p,m)=>([.d tu r,.d tu p,.d tH m],[])) (λx=>⟨.d tu x,[],[]⟩) [some tu,some tu,some tH] [gO.sg,fm.sg,eP.sg]
theorem ka.eq{R:Type}(r p m)(k:K1 R):ka.A (r,p,m) k=
 ah (gO.call r) λx1=>
 ah (gO.call p) λx2=>
 ah (fm.call ((⟨#[115,105,103]⟩:ByteArray),[x1,x2,(cut m 0 32)])) λx3=>
 ah (eP.call x3) λx4=>
 k (ka.out x4):=by kernel_rfl
theorem ka.ok:ka.Ok:=by
 rintro⟨r,p,m⟩ hm
 have hm:Sm m:=hm
 rw[ka.eq,gO.run (d:=r) trivial,gO.run (d:=p) trivial]
 simp only[ab,bP,gO.F]
 rw[gI hm.1,fm.run (NS (by decide) (by rw[dB];omega) (by rw[dB];omega) (by rw[hm.1];omega))]
 simp only[ab,bP,fm.F]
 rw[eP.run (d:=tag (cD (⟨#[115,105,103]⟩:ByteArray)) [kP r,kP p,m]) (E1 _ _)]
 rfl
theorem ka.run:ka.RS:=rE [.d tu,.d tu,.d tB] ka
def ka.sg:=ka.gG ka.ok
abbrev fG.D:=Int×Bs×Int×Sg
abbrev fG.Y:=Bool
def fG.aM:fG.D->Prop:=λ(p,m,t,s)=>mq p/\Sm m/\mq t/\Qx s
def fG.F:fG.D->fG.Y:=λ(p,m,t,s)=>qZ p m t s
def fG:Fs Tryz.prog fG.aM bP fG.F:=gC 216 Tryz.f216 (λ(p,m,t,pre)=>([.d tu p,.d tH m,.d tu t,.d yh pre],[])) (λx=>⟨.d .bool x,[],[]⟩) [some tu,some tH,some tu,some yh] [fw.sg,gw.sg,ka.sg,iB.sg,qk.sg,hJ.sg,gm.sg]
theorem fG.eq{R:Type}(p m t pre)(k:K1 R):fG.A (p,m,t,pre) k=
  aP ((w8 p 1)) (
   k (fG.out false)) (
   ah (fw.call p) λx1=>
   aP ((!x1)) (
    k (fG.out false)) (
    ah (fw.call t) λx2=>
    aP ((!x2)) (
     k (fG.out false)) (
     ah (fw.call pre.1) λx3=>
     aP ((!x3)) (
      k (fG.out false)) (
      ah (gw.call pre.2.1) λx4=>
      aP ((!x4)) (
       k (fG.out false)) (
       ah (ka.call (pre.1,p,m)) λx5=>
       ah (iB.call (p,x5)) λx6=>
       ah (qk.call t) λx7=>
       ah (hJ.call [pre.1,x6,x7]) λx8=>
       ah (gm.call pre.2.1) λx9=>
       k (fG.out (w8 x9 x8))))))):=by kernel_rfl
theorem fG.ok:fG.Ok:=by
 rintro⟨p,m,t,s⟩ ⟨hp,hm,ht,hs⟩
 have hp:mq p:=hp
 have ht:mq t:=ht
 have hm:Sm m:=hm
 have hs:Qx s:=hs
 rw[fG.eq,fw.run (d:=p) hp,fw.run (d:=t) ht,fw.run (d:=s.1) hs.1,gw.run (d:=s.2.1) trivial]
 simp only[ab,bP,fw.F,bP,gw.F,bP,fG.F,qZ]
 by_cases h1:p=1
 ·rw[jf h1,ag,if_pos (Or.inl h1)]
 rw[lH h1,al]
 cases h2:sE p
 ·rw[if_pos (Or.inr (Or.inl rfl))];rfl
 cases h3:sE t
 ·rw[if_pos (Or.inr (Or.inr (Or.inl rfl)))];rfl
 cases h4:sE s.1
 ·rw[if_pos (Or.inr (Or.inr (Or.inr (Or.inl rfl))))];rfl
 by_cases h5:s.2.1 < 2305843009213688669
 ·rw[bg h5,if_neg (by simp[h1,h5])]
  have hq:=Ax s.1 p m
  rw[ka.run (d:=(s.1,p,m)) hm]
  simp only[dj,al,ab,bP,ka.F]
  rw[iB.run (d:=(p,tV s.1 p m)) ⟨hp,hq.u⟩,qk.run (d:=t) ht]
  simp only[ab,bP,iB.F,bP,qk.F]
  have q:hJ.aM [s.1,tK p (tV s.1 p m),Gz t]:=⟨by
   intro x hx
   simp only[cX,List.not_mem_nil,or_false]at hx
   rcases hx with rfl | rfl | rfl
   ·exact hs.1
   ·exact(GV _ _).u
   ·exact(GV _ _).u,by simp only[aB,bn];omega⟩
  rw[hJ.run q,gm.run (d:=s.2.1) hs.2]
  rfl
 ·rw[aX h5,if_pos (Or.inr (Or.inr (Or.inr (Or.inr h5))))];rfl
theorem fG.run:fG.RS:=rE [.d tu,.d tB,.d tu,.d yh] fG
def fG.sg:=fG.gG fG.ok
abbrev gK.D:=Int×Bs×Sg
abbrev gK.Y:=Bool
def gK.aM:gK.D->Prop:=λ(p,m,s)=>mq p/\Sm m/\Qx s
def gK.F:gK.D->gK.Y:=λ(p,m,s)=>qZ p m 1 s
def gK:Fs Tryz.prog gK.aM bP gK.F:=gC 158 Tryz.f158 (λ(p,m,sv)=>([.d tu p,.d tH m,.d yh sv],[])) (λx=>⟨.d .bool x,[],[]⟩) [some tu,some tH,some yh] [fG.sg]
theorem gK.eq{R:Type}(p m sv)(k:K1 R):gK.A (p,m,sv) k=
 ah (fG.call (p,m,1,sv)) λx1=>
 k (gK.out x1):=by kernel_rfl
theorem gK.ok:gK.Ok:=by
 rintro⟨p,m,s⟩ ⟨hp,hm,hs⟩
 rw[gK.eq,fG.run (d:=(p,m,1,s)) ⟨hp,hm,⟨by omega,by omega⟩,hs⟩]
 rfl
theorem gK.run:gK.RS:=rE [.d tu,.d tB,.d yh] gK
def gK.sg:=gK.gG gK.ok
abbrev ph.D:=Int
abbrev ph.Y:=Bool
def ph.aM:ph.D->Prop:=λ_=>True
def ph.F:ph.D->ph.Y:=λk=>decide (k < 2305843009213688669/\k≠0)
def ph:Fs Tryz.prog ph.aM bP ph.F:=gC 134 Tryz.f134 (λkv=>([.d tu kv],[])) (λx=>⟨.d .bool x,[],[]⟩) [some tu] [gw.sg]
theorem ph.eq{R:Type}(kv)(k:K1 R):ph.A kv k=
  ah (gw.call kv) λx1=>
  aP (x1) (
   k (ph.out (w9 kv 0))) (
   k (ph.out false)):=by kernel_rfl
theorem ph.ok:ph.Ok:=by
 intro k _
 rw[ph.eq,gw.run (d:=k) trivial]
 simp only[ab,bP,gw.F,bP,ph.F]
 by_cases h:k < 2305843009213688669
 ·rw[bg h,ag]
  by_cases h0:k=0
  ·rw[ff h0,cH (λx=>x.2 h0)]
  ·rw[iH h0,aY ⟨h,h0⟩]
 ·rw[aX h,al,cH (λx=>h x.1)]
theorem ph.run:ph.RS:=rE [.d tu] ph
def ph.sg:=ph.gG ph.ok
abbrev gT.D:=Int×Int×Bs×Int
abbrev gT.Y:=Sg
def gT.aM:gT.D->Prop:=λ(k,n,m,t)=>mq k/\mq n/\Sm m/\mq t
def gT.F:gT.D->gT.Y:=λ(k,n,m,t)=>Ec k n m t
def gT:Fs Tryz.prog gT.aM bP gT.F:=gC 135 Tryz.f135 (λ(kv,nonce,m,t)=>([.d tu kv,.d tu nonce,.d tH m,.d tu t],[])) (λx=>⟨.d yh x,[],[]⟩) [some tu,some tu,some tH,some tu] [gm.sg,qi.sg,ka.sg,qf.sg,qH.sg]
theorem gT.eq{R:Type}(kv nonce m t)(k:K1 R):gT.A (kv,nonce,m,t) k=
 ah (gm.call nonce) λx1=>
 ah (qi.call (x1,t)) λx2=>
 ah (gm.call kv) λx3=>
 ah (ka.call (x2,x3,m)) λx4=>
 ah (qf.call (x4,kv)) λx5=>
 ah (qH.call (nonce,x5)) λx6=>
 k (gT.out (x2,(x6,()))):=by kernel_rfl
theorem gT.ok:gT.Ok:=by
 rintro⟨k,n,m,t⟩ ⟨hk,hn,hm,ht⟩
 have hk:mq k:=hk
 have hn:mq n:=hn
 have hm:Sm m:=hm
 have ht:mq t:=ht
 rw[gT.eq,gm.run (d:=n) hn]
 simp only[ab,bP,gm.F]
 rw[qi.run (d:=(fN n,t)) ⟨(GV _ _).u,ht⟩,gm.run (d:=k) hk]
 simp only[ab,bP,gm.F,bP,qi.F]
 rw[ka.run (d:=(zX [fN n,t],fN k,m)) hm]
 simp only[ab,bP,ka.F]
 rw[qf.run (d:=(tV (zX [fN n,t]) (fN k) m,k)) ⟨(Ax _ _ _).u,hk⟩]
 simp only[ab,bP,qf.F]
 rw[qH.run (d:=(n,EO (tV (zX [fN n,t]) (fN k) m) k)) ⟨hn,(O6 _ _).u⟩]
 rfl
theorem gT.run:gT.RS:=rE [.d tu,.d tu,.d tB,.d tu] gT
def gT.sg:=gT.gG gT.ok
abbrev kL.D:=Int×Bs
abbrev kL.Y:=Sg
def kL.aM:kL.D->Prop:=λ(k,m)=>mq k/\Sm m
def kL.F:kL.D->kL.Y:=λ(k,m)=>kK k m
def kL:Fs Tryz.prog kL.aM bP kL.F:=gC 69 Tryz.f69 (λ(kv,m)=>([.d tu kv,.d tH m],[])) (λx=>⟨.d yh x,[],[]⟩) [some tu,some tH] [ph.sg,gO.sg,fm.sg,eP.sg,gT.sg]
theorem kL.eq{R:Type}(kv m)(k:K1 R):kL.A (kv,m) k=
  ah (ph.call kv) λx1=>
  aP ((!x1)) (
   k (kL.out (0,(0,())))) (
   ah (gO.call kv) λx2=>
   ah (fm.call ((⟨#[110,111,110,99,101]⟩:ByteArray),[x2,(cut m 0 32)])) λx3=>
   ah (eP.call x3) λx4=>
   ah (gT.call (kv,x4,m,1)) λx5=>
   k (kL.out x5)):=by kernel_rfl
theorem kL.ok:kL.Ok:=by
 rintro⟨k,m⟩ ⟨hk,hm⟩
 have hk:mq k:=hk
 have hm:Sm m:=hm
 rw[kL.eq,ph.run (d:=k) trivial]
 simp only[ab,bP,ph.F,bP,kL.F,kK]
 by_cases h:k < 2305843009213688669/\k≠0
 ·rw[aY h,if_pos h,gO.run (d:=k) trivial,gI hm.1]
  simp only[dj,al,ab,bP,gO.F]
  rw[fm.run (NR (by decide) (by rw[dB];omega) (by rw[hm.1];omega))]
  simp only[ab,bP,fm.F]
  rw[eP.run (d:=tag (cD (⟨#[110,111,110,99,101]⟩:ByteArray)) [kP k,m]) (E1 _ _)]
  simp only[ab,bP,eP.F]
  have q:=AH (tag (cD (⟨#[110,111,110,99,101]⟩:ByteArray)) [kP k,m])
  rw[gT.run (d:=(k,xn (tag (cD (⟨#[110,111,110,99,101]⟩:ByteArray)) [kP k,m]),m,1)) ⟨hk,⟨by omega,by omega⟩,hm,by omega,by omega⟩]
  rfl
 ·rw[cH h,if_neg h];rfl
theorem kL.run:kL.RS:=rE [.d tu,.d tB] kL
def kL.sg:=kL.gG kL.ok
def tR(l:List Int):Prop:=∀x∈l,mq x
def PI(b:oV):Prop:=tR b.1/\mq b.2.2.2.1
def J6(l:Lk):Prop:=∀b∈l.1,PI b
def xu(n:Int):Bool:=decide (0<=n/\n<=1048576)
def uk(b:oV):Bool:=decide (b.1.length<=12) && (b.1.all sE && (xu b.2.1 && (xu b.2.2.1 && (decide (b.2.2.2.1=0) || sE b.2.2.2.1))))
def lN(l:Lk):Bool:=l.1.all uk && decide (0 < l.1.length/\l.1.length<=4)
def qB:List Int->Int->Int⊕Unit
 |[],_=> .inr ()
 |p::ps,i=>if sE p then qB ps (i+1) else .inl i
def Jf(l:List Int):Int:=match qB l 0 with | .inl i=>i | .inr _=> -1
theorem y9:∀(l:List Int) (i:Int),0<=i->(match qB l i with | .inl i=>decide (i>=0) | .inr _=>false)= !(l.all sE)
 |[],_,_=>rfl
 |p::ps,i,h=>by
  rw[qB,List.all_cons]
  cases hp:sE p
  ·simp[h]
  ·simp only[if_true,ez]
   exact y9 ps (i+1) (by omega)
theorem Kb(l:List Int):tZ (Jf l) 0= !(l.all sE):=by
 have:=y9 l 0 (by omega)
 unfold Jf tZ
 cases h:qB l 0
 ·rw[h]at this;exact this
 ·rw[h]at this;rw[<-this];rfl
abbrev nI.D:=Int
abbrev nI.Y:=Bool
def nI.aM:nI.D->Prop:=λp=>mq p
def nI.F:nI.D->nI.Y:=λp=> !sE p
def nI:Fs Tryz.prog nI.aM bP nI.F:=gC 150 Tryz.f150 (λp=>([.d tu p],[])) (λx=>⟨.d .bool x,[],[]⟩) [some tu] [fw.sg]
theorem nI.eq{R:Type}(p)(k:K1 R):nI.A p k=
 ah (fw.call p) λx1=>
 k (nI.out (!x1)):=by kernel_rfl
theorem nI.ok:nI.Ok:=by
 intro p hp
 rw[nI.eq,fw.run (d:=p) hp]
 rfl
theorem nI.run:nI.RS:=rE [.d tu] nI
def nI.sg:=nI.gG nI.ok
abbrev bH.L0.D:=Bs×Int×Int
def bH.L0.st:bH.L0.D->AS:=λ(ky,t7,t8)=>⟨([.d tU ky,.fn 150 (.nil)]++aT 5 ([.d ti t7,.d ti t8]++aT 10 [])),[],(List.replicate 19 [])⟩
abbrev bH.L0.Y0:=Int
abbrev bH.L0.X0:=Int
def bH.L0.eG:bH.L0.X0->Exit×AS:=λx=>(.ret,⟨(aT 4 ([.d ti x]++aT 14 [])),[],(List.replicate 19 [])⟩)
abbrev bH.L0.Y1:=Unit
abbrev bH.L0.X1:=Unit
def bH.L0.gZ:bH.L0.X1->Exit×AS:=λx=>(.exit 0,⟨(aT 19 []),[],(List.replicate 19 [])⟩)
abbrev bH.L0.X:=(bH.L0.X0)⊕(bH.L0.X1)
abbrev bH.L0.Y:=(bH.L0.Y0)⊕(bH.L0.Y1)
def bH.L0.out:bH.L0.X->Out (Exit×AS):=λx=> .br x.isLeft (.get x.getLeft? λa=> .ok (bH.L0.eG a)) (.get x.getRight? λb=> .ok (bH.L0.gZ b))
def bH.L0.add:bH.L0.D->bH.L0.Y->bH.L0.X:=λ(ky,t7,t8) y=>match y with | .inl y=> .inl y | .inr z=> .inr (z)
abbrev bH.D:=Bs
abbrev bH.Y:=Int
def bH.L0.aM:bH.L0.D->Prop:=λ(l,n,i)=>tR l/\l.length<=1000000000/\n=l.length/\∃k:Nat,k<=l.length/\i=k
def bH.L0.F:bH.L0.D->bH.L0.Y:=λ(l,n,i)=>qB (l.drop i.toNat) i
def bH.aM:bH.D->Prop:=λl=>tR l/\l.length<=1000000000
def bH.F:bH.D->bH.Y:=λl=>Jf l
def bH.L0.E:=eE.iR bH.L0.st bH.L0.aM bH.L0.add bH.L0.F bH.L0.out
def bH.L0.call:bH.L0.D->Option bH.L0.X:=j9 bH.L0.E bH.L0.st
def bH:Fs Tryz.prog bH.aM bP bH.F:=gC 205 Tryz.f205 (λsv=>([.d tU sv,.fn 150 (.nil)],[])) (λx=>⟨.d ti x,[],[]⟩) [some tU,none] [nI.sg] {loops:=pz [(2,{bo:=[0,1,7,8]})],outs:=py [(2,{},{bo:=[4]})],iX:=qg [(2,bH.L0.E)]}
def bH.L0.R:= @gN Tryz.prog (oo bH.G) bH.an 0 Tryz.f205 0 _ bH.L0.st
abbrev bH.L0.Ok:=mS Tryz.prog (oo bH.G) bH.an 0 Tryz.f205 0 bH.L0.st bH.L0.aM bH.L0.add bH.L0.F bH.L0.out
theorem bH.L0.run:kF bH.L0.call bH.L0.aM bH.L0.add bH.L0.F:=oU (oR [.d tU,.d ti,.d ti] λ_=>by kernel_rfl)
theorem bH.L0.cM:qa @bH.L0.R bH.L0.st bH.L0.aM bH.L0.add bH.L0.F bH.L0.out bH.L0.Ok:=qD
theorem bH.L0.step{R:Type}(ky:Bs)(t7:Int)(t8:Int)(kn:AS->Option R)(kx:Exit->AS->Option R):bH.L0.R (ky,t7,t8) kn kx=
  aP ((jx t8 t7)) (
   aP (jn t8 (((List.length ky):Nat):Int)) (
   ah (nI.call (nth tu ky (Int.toNat t8))) λx1=>
   aP (x1) (
    kx (bH.L0.eG t8).1 (bH.L0.eG t8).2) (
    kn (bH.L0.st (ky,t7,(cG .i64 t8 (1:Int)))))) none) (
   kx (bH.L0.gZ ()).1 (bH.L0.gZ ()).2):=by kernel_rfl
theorem bH.eq{R:Type}(sv)(k:K1 R):bH.A sv k=
  ah (bH.L0.call (sv,(sv.length:Int),0)) λx2=>
  aP (x2.isLeft) (
   ah (x2.getLeft?) λa3=>
   k (bH.out a3)) (
   ah (x2.getRight?) λb4=>
   k (bH.out (-1))):=by kernel_rfl
theorem bH.L0.ok:bH.L0.Ok:=by
 refine bH.L0.cM (λ(l,n,i)=>l.length - i.toNat) ?_
 rintro⟨l,n,i⟩ ⟨hl,hb,rfl,k,hk,rfl⟩
 have hb:l.length<=1000000000:=hb
 have hk:k<=l.length:=hk
 by_cases h:k < l.length
 ·have hx:=hl _ (aL h)
  have n1:nth (.int .u64) l k=l[k]:=dz (t:= .int .u64) h
  have hd:qB (l.drop k) k=if sE l[k] then qB (l.drop (k+1)) ((k+1:Nat):Int) else .inl (k:Int):=by rw[ax h];rfl
  cases hp:sE l[k]
  ·right
   refine⟨bH.L0.eG (k:Int),?_,λkn kx=> ?_⟩
   ·simp only[bH.L0.add,bH.L0.F,aa,hd,hp,cv,if_false]
    rfl
   ·rw[bH.L0.step]
    simp(disch:=omega) only[↓S1,↓if_pos,↓if_neg,if_pos,if_neg,if_true,if_false,S2,n1]
    rw[nI.run (d:=l[k]) hx]
    simp only[ab,bP,nI.F,hp,ia,ag]
  ·left
   refine⟨(l,l.length,((k+1:Nat):Int)),⟨hl,hb,rfl,k+1,by omega,rfl⟩,by simp only[aa];omega,?_,λkn kx=> ?_⟩
   ·simp only[bH.L0.add,bH.L0.F,aa,hd,hp,if_true]
   ·rw[bH.L0.step]
    simp(disch:=omega) only[↓S1,↓if_pos,↓if_neg,if_pos,if_neg,if_true,if_false,S2,n1]
    rw[nI.run (d:=l[k]) hx]
    simp only[ab,bP,nI.F,hp,dj,al]
 ·right
  obtain rfl:k=l.length:=by omega
  refine⟨bH.L0.gZ (),?_,λkn kx=> ?_⟩
  ·simp only[bH.L0.add,bH.L0.F,aa,aZ]
   rfl
  ·rw[bH.L0.step]
   simp(disch:=omega) only[↓S1,↓if_pos,↓if_neg,if_pos,if_neg,if_true,if_false,S2]
theorem bH.ok:bH.Ok:=by
 rintro l ⟨hl,hb⟩
 rw[bH.eq,bH.L0.run (d:=(l,l.length,0)) ⟨hl,hb,rfl,0,by omega,rfl⟩]
 simp only[ab,bH.L0.add,bH.L0.F,bN,aJ,bP,bH.F,Jf]
 cases qB l 0 <;> rfl
theorem bH.run:bH.RS:=rE [.d tU] bH
def bH.sg:=bH.gG bH.ok 1 ⟨.iR bH.L0.ok,trivial⟩
abbrev eU.D:=Bs
abbrev eU.Y:=Bool
def eU.aM:eU.D->Prop:=λl=>tR l/\l.length<=1000000000
def eU.F:eU.D->eU.Y:=λl=> !(l.all sE)
def eU:Fs Tryz.prog eU.aM bP eU.F:=gC 152 Tryz.f152 (λsv=>([.d tU sv,.fn 150 (.nil)],[])) (λx=>⟨.d .bool x,[],[]⟩) [some tU,none] [bH.sg]
theorem eU.eq{R:Type}(sv)(k:K1 R):eU.A sv k=
 ah (bH.call sv) λx1=>
 k (eU.out (tZ x1 0)):=by kernel_rfl
theorem eU.ok:eU.Ok:=by
 rintro l ⟨hl,hb⟩
 rw[eU.eq,bH.run (d:=l) ⟨hl,hb⟩]
 simp only[ab,bP,bH.F,Kb]
 rfl
theorem eU.run:eU.RS:=rE [.d tU] eU
def eU.sg:=eU.gG eU.ok
abbrev fQ.D:=Int
abbrev fQ.Y:=Bool
def fQ.aM:fQ.D->Prop:=λ_=>True
def fQ.F:fQ.D->fQ.Y:=λn=>xu n
def fQ:Fs Tryz.prog fQ.aM bP fQ.F:=gC 153 Tryz.f153 (λn=>([.d ti n],[])) (λx=>⟨.d .bool x,[],[]⟩) [some ti]
theorem fQ.eq{R:Type}(n)(k:K1 R):fQ.A n k=
  aP ((tZ n 0)) (
   k (fQ.out (JA n 1048576))) (
   k (fQ.out false)):=by kernel_rfl
theorem fQ.ok:fQ.Ok:=by
 intro n _
 rw[fQ.eq]
 simp only[bP,fQ.F,xu]
 by_cases h:0<=n
 ·rw[jg h,ag]
  by_cases h2:n<=1048576
  ·rw[rj h2,aY ⟨h,h2⟩]
  ·rw[nP h2,cH (λx=>h2 x.2)]
 ·rw[fI h,al,cH (λx=>h x.1)]
theorem fQ.run:fQ.RS:=rE [.d ti] fQ
def fQ.sg:=fQ.gG fQ.ok
abbrev aW.L0.D:=Lk×(List oV)×Int×Int
def aW.L0.st:aW.L0.D->AS:=λ(yo,t7,t8,t9)=>⟨([.undef,.eD Hd yo,.undef,.fn 150 (.nil),.undef,.undef,.undef,.d (.slice oK) t7,.d ti t8,.d ti t9]++aT 47 []),[],(List.replicate 57 [])⟩
abbrev aW.L0.Y0:=Unit
abbrev aW.L0.X0:=Unit
def aW.L0.eG:aW.L0.X0->Exit×AS:=λx=>(.ret,⟨([.undef,.undef,.d .bool false]++aT 54 []),[],(List.replicate 57 [])⟩)
abbrev aW.L0.Y1:=Unit
abbrev aW.L0.X1:=Lk
def aW.L0.gZ:aW.L0.X1->Exit×AS:=λx=>(.exit 0,⟨([.undef,.eD Hd x]++aT 55 []),[],(List.replicate 57 [])⟩)
abbrev aW.L0.X:=(aW.L0.X0)⊕(aW.L0.X1)
abbrev aW.L0.Y:=(aW.L0.Y0)⊕(aW.L0.Y1)
def aW.L0.out:aW.L0.X->Out (Exit×AS):=λx=> .br x.isLeft (.get x.getLeft? λa=> .ok (aW.L0.eG a)) (.get x.getRight? λb=> .ok (aW.L0.gZ b))
def aW.L0.add:aW.L0.D->aW.L0.Y->aW.L0.X:=λ(yo,t7,t8,t9) y=>match y with | .inl y=> .inl y | .inr z=> .inr (yo)
abbrev aW.D:=Lk
abbrev aW.Y:=Bool
def aW.L0.aM:aW.L0.D->Prop:=λ(l,bs,n,i)=>(∀b∈bs,PI b)/\bs.length<=9223372036854775807/\n=bs.length/\∃k:Nat,k<=bs.length/\i=k
def aW.L0.F:aW.L0.D->aW.L0.Y:=λ(l,bs,n,i)=>if(bs.drop i.toNat).all uk then .inr () else .inl ()
def aW.aM:aW.D->Prop:=λl=>J6 l/\l.1.length<=9223372036854775807
def aW.F:aW.D->aW.Y:=λl=>lN l
def aW.L0.E:=eE.iR aW.L0.st aW.L0.aM aW.L0.add aW.L0.F aW.L0.out
def aW.L0.call:aW.L0.D->Option aW.L0.X:=j9 aW.L0.E aW.L0.st
def aW:Fs Tryz.prog aW.aM bP aW.F:=gC 77 Tryz.f77 (λl=>([.d Hd l],[])) (λx=>⟨.d .bool x,[],[]⟩) [some Hd] [eU.sg,fQ.sg,nI.sg] {loops:=pz [(3,{bo:=[1,3,7,8,9]})],outs:=py [(3,{bo:=[1]},{bo:=[2]})],iX:=qg [(3,aW.L0.E)]}
def aW.L0.R:= @gN Tryz.prog (oo aW.G) aW.an 0 Tryz.f77 0 _ aW.L0.st
abbrev aW.L0.Ok:=mS Tryz.prog (oo aW.G) aW.an 0 Tryz.f77 0 aW.L0.st aW.L0.aM aW.L0.add aW.L0.F aW.L0.out
theorem aW.L0.run:kF aW.L0.call aW.L0.aM aW.L0.add aW.L0.F:=oU (oR [.d Hd,.d (.slice oK),.d ti,.d ti] λ_=>by kernel_rfl)
theorem aW.L0.cM:qa @aW.L0.R aW.L0.st aW.L0.aM aW.L0.add aW.L0.F aW.L0.out aW.L0.Ok:=qD
theorem aW.L0.step{R:Type}(yo:Lk)(t7:(List oV))(t8:Int)(t9:Int)(kn:AS->Option R)(kx:Exit->AS->Option R):aW.L0.R (yo,t7,t8,t9) kn kx=
  aP ((jx t9 t8)) (
   aP (jn t9 (((List.length t7):Nat):Int)) (
   aP ((uL (((List.length (nth oK t7 (Int.toNat t9)).1):Nat):Int) (12:Int))) (
    kx (aW.L0.eG ()).1 (aW.L0.eG ()).2) (
    ah (eU.call (nth oK t7 (Int.toNat t9)).1) λx1=>
    aP (x1) (
     kx (aW.L0.eG ()).1 (aW.L0.eG ()).2) (
     ah (fQ.call (nth oK t7 (Int.toNat t9)).2.1) λx2=>
     aP ((!x2)) (
      kx (aW.L0.eG ()).1 (aW.L0.eG ()).2) (
      ah (fQ.call (nth oK t7 (Int.toNat t9)).2.2.1) λx3=>
      aP ((!x3)) (
       kx (aW.L0.eG ()).1 (aW.L0.eG ()).2) (
       aP ((w9 (nth oK t7 (Int.toNat t9)).2.2.2.1 (0:Int))) (
        ah (nI.call (nth oK t7 (Int.toNat t9)).2.2.2.1) λx4=>
        aP (x4) (
         kx (aW.L0.eG ()).1 (aW.L0.eG ()).2) (
         kn (aW.L0.st (yo,t7,t8,(cG .i64 t9 (1:Int)))))) (
        kn (aW.L0.st (yo,t7,t8,(cG .i64 t9 (1:Int)))))))))) none) (
   kx (aW.L0.gZ yo).1 (aW.L0.gZ yo).2):=by kernel_rfl
theorem aW.eq{R:Type}(l)(k:K1 R):aW.A l k=
  ah (aW.L0.call (l,l.1,(l.1.length:Int),0)) λx5=>
  aP (x5.isLeft) (
   ah (x5.getLeft?) λa6=>
   k (aW.out false)) (
   ah (x5.getRight?) λb7=>
   aP ((uL (b7.1.length:Int) 0)) (
    k (aW.out (JA (b7.1.length:Int) 4))) (
    k (aW.out false))):=by kernel_rfl
theorem aW.L0.ok:aW.L0.Ok:=by
 refine aW.L0.cM (λ(l,bs,n,i)=>bs.length - i.toNat) ?_
 rintro⟨l,bs,n,i⟩ ⟨hl,hb,rfl,k,hk,rfl⟩
 have hb:bs.length<=9223372036854775807:=hb
 have hk:k<=bs.length:=hk
 by_cases h:k < bs.length
 ·have hx:PI bs[k]:=hl _ (aL h)
  have n1:nth (.pair (.slice (.int .u64)) (.pair (.int .i64) (.pair (.int .i64) (.pair (.int .u64) .unit)))) bs k=bs[k]:=dz (t:=(.pair (.slice (.int .u64)) (.pair (.int .i64) (.pair (.int .i64) (.pair (.int .u64) .unit))))) h
  have hd:(bs.drop k).all uk=(uk bs[k] && (bs.drop (k+1)).all uk):=by rw[ax h,List.all_cons]
  have step:∀ {R:Type} (kn:AS->Option R) (kx:Exit->AS->Option R),aW.L0.R (l,bs,(bs.length:Int),(k:Int)) kn kx=aP (uk bs[k]) (kn (aW.L0.st (l,bs,(bs.length:Int),((k+1:Nat):Int)))) (kx (aW.L0.eG ()).1 (aW.L0.eG ()).2):=by
   intro R kn kx
   rw[aW.L0.step,bg (by omega),bG (by omega) (by omega),aa,n1,N.p9 (by omega)]
   obtain⟨⟨ks,af,dl,sc,u⟩,TC⟩:∃b,bs[k]=b:=⟨_,rfl⟩
   rw[TC]at hx ⊢
   have h1:tR ks:=hx.1
   have h2:mq sc:=hx.2
   simp only[ag,uk]
   by_cases hk:ks.length<=12
   ·rw[eC (by omega),eU.run (d:=ks) ⟨h1,by omega⟩,fQ.run (d:=af) trivial,fQ.run (d:=dl) trivial,nI.run (d:=sc) h2,aY hk]
    simp only[al,ab,bP,eU.F,bP,fQ.F,bP,nI.F,ez]
    cases ks.all sE
    ·rfl
    cases xu af
    ·rfl
    cases xu dl
    ·rfl
    by_cases hs:sc=0
    ·rw[ff hs,aY hs];rfl
    ·rw[iH hs,cH hs]
     cases sE sc <;> rfl
   ·rw[eY (by omega),cH hk];rfl
  cases hp:uk bs[k]
  ·right
   refine⟨aW.L0.eG (),?_,λkn kx=> ?_⟩
   ·simp only[aW.L0.add,aW.L0.F,aa,hd,hp,kB,cv,if_false]
    rfl
   ·rw[step,hp,al]
  ·left
   refine⟨(l,bs,bs.length,((k+1:Nat):Int)),⟨hl,hb,rfl,k+1,by omega,rfl⟩,by simp only[aa];omega,?_,λkn kx=> ?_⟩
   ·simp only[aW.L0.add,aW.L0.F,aa,hd,hp,ez]
   ·rw[step,hp,ag]
 ·right
  obtain rfl:k=bs.length:=by omega
  refine⟨aW.L0.gZ l,?_,λkn kx=> ?_⟩
  ·simp only[aW.L0.add,aW.L0.F,aa,aZ]
   rfl
  ·rw[aW.L0.step]
   simp(disch:=omega) only[↓S1,↓if_pos,↓if_neg,if_pos,if_neg,if_true,if_false,S2]
theorem aW.ok:aW.Ok:=by
 rintro l ⟨hl,hb⟩
 have hb:l.1.length<=9223372036854775807:=hb
 rw[aW.eq,aW.L0.run (d:=(l,l.1,l.1.length,0)) ⟨hl,hb,rfl,0,by omega,rfl⟩]
 simp only[ab,aW.L0.add,aW.L0.F,bN,aJ,bP,aW.F,lN]
 cases l.1.all uk
 ·rfl
 ·simp only[if_true,ez]
  show aP (uL _ _) _ _=_
  by_cases h0:0 < l.1.length
  ·rw[eY (by omega)]
   by_cases h4:l.1.length<=4
   ·rw[rj (by omega),aY ⟨h0,h4⟩];rfl
   ·rw[nP (by omega),cH (λx=>h4 x.2)];rfl
  ·rw[eC (by omega),cH (λx=>h0 x.1)];rfl
theorem aW.run:aW.RS:=rE [.d Hd] aW
def aW.sg:=aW.gG aW.ok 1 ⟨.iR aW.L0.ok,trivial⟩
def qo(m:List Int):List Int->List Sg->Bool
 |[],_=>true
 |p::ps,ss=>qZ p m 1 (ss.headD (0,0,())) && qo m ps ss.tail
def qv(l:Lk)(w:CD)(m:List Int)(height age:Int):Int:=
 if lN l=false\/w.1 < 0\/w.1>=l.1.length then 1
 else
  let b:=nth (.pair (.slice (.int .u64)) (.pair (.int .i64) (.pair (.int .i64) (.pair (.int .u64) .unit)))) l.1 w.1.toNat
  if height < b.2.1\/age < b.2.2.1 then 11
  else if b.2.2.2.1≠0/\fN w.2.2.1≠b.2.2.2.1 then 23
  else if w.2.1.length≠b.1.length then 7
  else if qo m b.1 w.2.1 then 0 else 7
theorem LA(m:List Int)(ks:List Int)(ss:List Sg)(h:ss.length=ks.length)(k:Nat)(hk:k < ks.length):qo m (ks.drop k) (ss.drop k)=(qZ ks[k] m 1 (ss[k]'(by omega)) && qo m (ks.drop (k+1)) (ss.drop (k+1))):=by
 rw[ax hk,ax (by omega:k < ss.length)]
 rfl
def CE(w:CD):Prop:=(∀s∈w.2.1,Qx s)/\mq w.2.2.1
abbrev bR.L0.D:=CD×Bs×Bs×Int×Int
def bR.L0.st:bR.L0.D->AS:=λ(I3,JJ,t68,t69,t70)=>⟨(aT 6 ([.eD Of I3,.eD tH JJ]++aT 60 ([.d tU t68,.d ti t69,.d ti t70]++aT 14 []))),[],(List.replicate 85 [])⟩
abbrev bR.L0.Y0:=Unit
abbrev bR.L0.X0:=Unit
def bR.L0.eG:bR.L0.X0->Exit×AS:=λx=>(.ret,⟨(aT 10 ([.d ti (7:Int)]++aT 74 [])),[],(List.replicate 85 [])⟩)
abbrev bR.L0.Y1:=Unit
abbrev bR.L0.X1:=Unit
def bR.L0.gZ:bR.L0.X1->Exit×AS:=λx=>(.exit 1,⟨(aT 85 []),[],(List.replicate 85 [])⟩)
abbrev bR.L0.X:=(bR.L0.X0)⊕(bR.L0.X1)
abbrev bR.L0.Y:=(bR.L0.Y0)⊕(bR.L0.Y1)
def bR.L0.out:bR.L0.X->Out (Exit×AS):=λx=> .br x.isLeft (.get x.getLeft? λa=> .ok (bR.L0.eG a)) (.get x.getRight? λb=> .ok (bR.L0.gZ b))
def bR.L0.add:bR.L0.D->bR.L0.Y->bR.L0.X:=λ(I3,JJ,t68,t69,t70) y=>match y with | .inl y=> .inl y | .inr z=> .inr (z)
abbrev bR.D:=Lk×CD×Bs×Int×Int
abbrev bR.Y:=Int
def bR.L0.aM:bR.L0.D->Prop:=λ(w,m,ks,n,i)=>CE w/\Sm m/\tR ks/\ks.length<=1000000000/\w.2.1.length=ks.length/\n=ks.length/\∃k:Nat,k<=ks.length/\i=k
def bR.L0.F:bR.L0.D->bR.L0.Y:=λ(w,m,ks,n,i)=>if qo m (ks.drop i.toNat) (w.2.1.drop i.toNat) then .inr () else .inl ()
def bR.aM:bR.D->Prop:=λ(l,w,m,h,a)=>J6 l/\l.1.length<=9223372036854775807/\CE w/\Sm m
def bR.F:bR.D->bR.Y:=λ(l,w,m,h,a)=>qv l w m h a
def bR.L0.E:=eE.iR bR.L0.st bR.L0.aM bR.L0.add bR.L0.F bR.L0.out
def bR.L0.call:bR.L0.D->Option bR.L0.X:=j9 bR.L0.E bR.L0.st
def bR:Fs Tryz.prog bR.aM bP bR.F:=gC 84 Tryz.f84 (λ(l,wv,m,height,age)=>([.d Hd l,.d Of wv,.d tH m,.d ti height,.d ti age],[])) (λx=>⟨.d ti x,[],[]⟩) [some Hd,some Of,some tH,some ti,some ti] [aW.sg,gm.sg,gK.sg] {loops:=pz [(11,{bo:=[6,7,68,69,70]})],outs:=py [(11,{},{bo:=[10]})],iX:=qg [(11,bR.L0.E)]}
def bR.L0.R:= @gN Tryz.prog (oo bR.G) bR.an 0 Tryz.f84 0 _ bR.L0.st
abbrev bR.L0.Ok:=mS Tryz.prog (oo bR.G) bR.an 0 Tryz.f84 0 bR.L0.st bR.L0.aM bR.L0.add bR.L0.F bR.L0.out
theorem bR.L0.run:kF bR.L0.call bR.L0.aM bR.L0.add bR.L0.F:=oU (oR [.d Of,.d tH,.d tU,.d ti,.d ti] λ_=>by kernel_rfl)
theorem bR.L0.cM:qa @bR.L0.R bR.L0.st bR.L0.aM bR.L0.add bR.L0.F bR.L0.out bR.L0.Ok:=qD
theorem bR.L0.step{R:Type}(I3:CD)(JJ:Bs)(t68:Bs)(t69:Int)(t70:Int)(kn:AS->Option R)(kx:Exit->AS->Option R):bR.L0.R (I3,JJ,t68,t69,t70) kn kx=
  aP ((jx t70 t69)) (
   aP (jn t70 (((List.length t68):Nat):Int)) (
   aP (jn t70 (((List.length I3.2.1):Nat):Int)) (
   ah (gK.call ((nth tu t68 (Int.toNat t70)),JJ,(nth yh I3.2.1 (Int.toNat t70)))) λx1=>
   aP ((!x1)) (
    kx (bR.L0.eG ()).1 (bR.L0.eG ()).2) (
    kn (bR.L0.st (I3,JJ,t68,t69,(cG .i64 t70 (1:Int)))))) none) none) (
   kx (bR.L0.gZ ()).1 (bR.L0.gZ ()).2):=by kernel_rfl
theorem bR.eq{R:Type}(l wv m height age)(k:K1 R):bR.A (l,wv,m,height,age) k=
  ah (aW.call l) λx1=>
  aP ((!x1)) (
   k (bR.out 1)) (
   aP ((jx wv.1 0)) (
    k (bR.out 1)) (
    aP ((tZ wv.1 (l.1.length:Int))) (
     k (bR.out 1)) (
     aP (jn wv.1 (l.1.length:Int)) (
     aP ((jx height (nth oK l.1 (Int.toNat wv.1)).2.1)) (
      k (bR.out 11)) (
      aP ((jx age (nth oK l.1 (Int.toNat wv.1)).2.2.1)) (
       k (bR.out 11)) (
       aP ((w9 (nth oK l.1 (Int.toNat wv.1)).2.2.2.1 0)) (
        ah (gm.call wv.2.2.1) λx2=>
        aP ((w9 x2 (nth oK l.1 (Int.toNat wv.1)).2.2.2.1)) (
         k (bR.out 23)) (
         aP ((w9 (wv.2.1.length:Int) (((List.length (nth oK l.1 (Int.toNat wv.1)).1):Nat):Int))) (
          k (bR.out 7)) (
          ah (bR.L0.call (wv,m,(nth oK l.1 (Int.toNat wv.1)).1,(((List.length (nth oK l.1 (Int.toNat wv.1)).1):Nat):Int),0)) λx4=>
          aP (x4.isLeft) (
           ah (x4.getLeft?) λa5=>
           k (bR.out 7)) (
           ah (x4.getRight?) λb6=>
           k (bR.out 0))))) (
        aP ((w9 (wv.2.1.length:Int) (((List.length (nth oK l.1 (Int.toNat wv.1)).1):Nat):Int))) (
         k (bR.out 7)) (
         ah (bR.L0.call (wv,m,(nth oK l.1 (Int.toNat wv.1)).1,(((List.length (nth oK l.1 (Int.toNat wv.1)).1):Nat):Int),0)) λx7=>
         aP (x7.isLeft) (
          ah (x7.getLeft?) λa8=>
          k (bR.out 7)) (
          ah (x7.getRight?) λb9=>
          k (bR.out 0))))))) none))):=by kernel_rfl
theorem bR.L0.ok:bR.L0.Ok:=by
 refine bR.L0.cM (λ(w,m,ks,n,i)=>ks.length - i.toNat) ?_
 rintro⟨w,m,ks,n,i⟩ ⟨hw,hm,hl,hb,hs,rfl,k,hk,rfl⟩
 have hb:ks.length<=1000000000:=hb
 have hk:k<=ks.length:=hk
 have hs:w.2.1.length=ks.length:=hs
 by_cases h:k < ks.length
 ·have hx:=hl _ (aL h)
  have hy:=hw.1 _ (aL (by omega:k < w.2.1.length))
  have n1:nth (.int .u64) ks k=ks[k]:=dz (t:= .int .u64) h
  have n2:nth (.pair (.int .u64) (.pair (.int .u64) .unit)) w.2.1 k=w.2.1[k]'(by omega):=dz (t:=(.pair (.int .u64) (.pair (.int .u64) .unit))) (by omega)
  have hd:=LA m ks w.2.1 hs k h
  have step:∀ {R:Type} (kn:AS->Option R) (kx:Exit->AS->Option R),bR.L0.R (w,m,ks,(ks.length:Int),(k:Int)) kn kx=aP (qZ ks[k] m 1 (w.2.1[k]'(by omega))) (kn (bR.L0.st (w,m,ks,(ks.length:Int),((k+1:Nat):Int)))) (kx (bR.L0.eG ()).1 (bR.L0.eG ()).2):=by
   intro R kn kx
   rw[bR.L0.step,bg (by omega),bG (by omega) (by omega),bG (by omega) (by omega),aa,n1,n2,N.p9 (by omega),gK.run (d:=(ks[k],m,w.2.1[k]'(by omega))) ⟨hx,hm,hy⟩]
   simp only[ag,ab,bP,gK.F]
   cases qZ ks[k] m 1 (w.2.1[k]'(by omega)) <;> rfl
  cases hp:qZ ks[k] m 1 (w.2.1[k]'(by omega))
  ·right
   refine⟨bR.L0.eG (),?_,λkn kx=> ?_⟩
   ·simp only[bR.L0.add,bR.L0.F,aa,hd,hp,kB,cv,if_false]
    rfl
   ·rw[step,hp,al]
  ·left
   refine⟨(w,m,ks,ks.length,((k+1:Nat):Int)),⟨hw,hm,hl,hb,hs,rfl,k+1,by omega,rfl⟩,by simp only[aa];omega,?_,λkn kx=> ?_⟩
   ·simp only[bR.L0.add,bR.L0.F,aa,hd,hp,ez]
   ·rw[step,hp,ag]
 ·right
  obtain rfl:k=ks.length:=by omega
  refine⟨bR.L0.gZ (),?_,λkn kx=> ?_⟩
  ·simp only[bR.L0.add,bR.L0.F,aa,aZ]
   rfl
  ·rw[bR.L0.step]
   simp(disch:=omega) only[↓S1,↓if_pos,↓if_neg,if_pos,if_neg,if_true,if_false,S2]
theorem KS{l:Lk}(h:lN l=true){b:oV}(hb:b∈l.1):b.1.length<=12:=by
 unfold lN at h
 rw[aj,dv]at h
 have:=h.1 b hb
 unfold uk at this
 rw[aj]at this
 simpa using this.1
theorem bR.ok:bR.Ok:=by
  rintro⟨l,w,m,h,a⟩ ⟨hl,hb,hw,hm⟩
  have hl:J6 l:=hl
  have hb:l.1.length<=9223372036854775807:=hb
  have hw:CE w:=hw
  have hm:Sm m:=hm
  rw[bR.eq,aW.run (d:=l) ⟨hl,hb⟩]
  simp only[ab,bP,aW.F,bP,bR.F,qv]
  cases jU:lN l
  · rw[if_pos (Or.inl rfl)];rfl
  by_cases h0:w.1 < 0
  · rw[bg h0,if_pos (Or.inr (Or.inl h0))];rfl
  by_cases h1:w.1>=l.1.length
  · rw[aX h0,jg h1,if_pos (Or.inr (Or.inr h1))];rfl
  rw[aX h0,fI h1,bG (by omega) (by omega),if_neg (by simp[h0];omega)]
  have hn:w.1.toNat < l.1.length:=by omega
  have n1:nth (.pair (.slice (.int .u64)) (.pair (.int .i64) (.pair (.int .i64) (.pair (.int .u64) .unit)))) l.1 w.1.toNat=l.1[w.1.toNat]:=dz (t:=(.pair (.slice (.int .u64)) (.pair (.int .i64) (.pair (.int .i64) (.pair (.int .u64) .unit))))) hn
  rw[n1]
  have hx:PI l.1[w.1.toNat]:=hl _ (aL hn)
  have TX:=KS jU (aL hn)
  obtain⟨⟨ks,af,dl,sc,u⟩,TC⟩:∃b,l.1[w.1.toNat]=b:=⟨_,rfl⟩
  rw[TC]at hx TX ⊢
  have Vg:tR ks:=hx.1
  have TX:ks.length<=12:=TX
  simp only[dj,al,ag]
  by_cases e1:h < af
  · rw[bg e1,if_pos (Or.inl e1)];rfl
  by_cases e2:a < dl
  · rw[aX e1,bg e2,if_pos (Or.inr e2)];rfl
  rw[aX e1,aX e2,if_neg (by simp[e1,e2]),gm.run (d:=w.2.2.1) hw.2]
  simp only[al,ab,bP,gm.F]
  have last:aP (w9 ((w.2.1.length:Nat):Int) ((ks.length:Nat):Int)) (some (bR.out (7:Int))) (
          ah (bR.L0.call (w,m,ks,((ks.length:Nat):Int),(0:Int))) λx4=>
          aP (x4.isLeft) (ah (x4.getLeft?) λa5=>some (bR.out (7:Int))) (ah (x4.getRight?) λb6=>some (bR.out (0:Int))))=some (bR.out (if w.2.1.length≠ks.length then 7 else if qo m ks w.2.1 then 0 else 7)):=by
    by_cases e3:w.2.1.length=ks.length
    · rw[ff (by omega),if_neg (by simp[e3]),al,bR.L0.run (d:=(w,m,ks,ks.length,0)) ⟨hw,hm,Vg,by show ks.length<=1000000000;omega,e3,rfl,0,by omega,rfl⟩]
      simp only[ab,bR.L0.add,bR.L0.F,bN,aJ]
      cases qo m ks w.2.1 <;> rfl
    · rw[iH (by omega),if_pos e3];rfl
  by_cases e4:sc=0
  · rw[ff e4,if_neg (by simp[e4]),al]
    exact last
  · rw[iH e4,ag]
    by_cases e5:fN w.2.2.1=sc
    · rw[ff e5,if_neg (by simp[e5]),al]
      exact last
    · rw[iH e5,if_pos ⟨e4,e5⟩];rfl
theorem bR.run:bR.RS:=rE [.d Hd,.d Of,.d tB,.d ti,.d ti] bR
def bR.sg:=bR.gG bR.ok 1 ⟨.iR bR.L0.ok,trivial⟩
abbrev kT.D:=Int
abbrev kT.Y:=Nat×(List Int)
def kT.aM:kT.D->Prop:=λn=>∃k:Nat,n=k/\k<=100000000
def kT.F:kT.D->kT.Y:=λn=>(0,List.replicate n.toNat 0)
def kT:Fs Tryz.prog kT.aM bP kT.F:=gC 249 Tryz.f249 (λn=>([.di,.d ti n],[])) (λx=>⟨.aS (.new 0 0) 0 [] 0 0 x.1,[],[.obj 0 false (.vec 5 tb x.2)]⟩) [none,some ti] [] {owns:=[⟨4,[],22,140⟩]}
theorem kT.eq{R:Type}(n)(k:K1 R):kT.A n k=
  aP ((jx n 0)) (
   none) (
   aP ((uL (dJ .i64 n 0) 0)) (
    aP (decide (0 < (dJ .i64 n 0)) && dZ (Int.toNat (dJ .i64 n 0)) 1) (
    aP (inc 0 (((Int.toNat (dJ .i64 n 0)):Nat):Int)) (
    k (kT.out (0,(List.replicate (Int.toNat (dJ .i64 n 0)) 0)))) none) none) (
    k (kT.out (0,([]:List Int))))):=by kernel_rfl
theorem kT.ok:kT.Ok:=by
 rintro n ⟨k,rfl,hk⟩
 have e:dJ .i64 (k:Int) 0=(k:Int):=by rw[fP (by omega) (by omega)];omega
 rw[kT.eq,e,aX (by omega),al]
 by_cases h:0 < k
 ·rw[eY (by omega),aa,aY (by omega),fg (by omega) (by omega),oz (by omega) (by omega)]
  rfl
 ·obtain rfl:k=0:=by omega
  rfl
theorem kT.run:kT.RS:=rE [.d ti] kT
def kT.sg:=kT.gG kT.ok
def oA(l:List (List Int)):Nat:=l.flatten.length
def CG(n:Nat)(l:List Int):List (List Int)->Nat×List Int
 |[]=>(n,l)
 |s::r=>(n+(s::r).flatten.length,l.take n++(s::r).flatten)
theorem Kn(n:Nat)(l s:List Int)(r:List (List Int))(h:n<=l.length):CG n l (s::r)=CG (n+s.length) (l.take n++s) r:=by
 have hl:(l.take n++s).length=n+s.length:=by rw[ae,bQ];omega
 cases r with
 |nil=>simp[CG]
 |cons t r=>
  simp only[CG]
  rw[bk (Nat.le_of_eq hl)]
  simp only[jm,ae,aD,gb]
theorem OA(n:Nat)(z:List Int)(r:List (List Int)):(CG 0 z r).1<=(CG 0 z r).2.length/\cut (CG 0 z r).2 0 (CG 0 z r).1=r.flatten:=by
 cases r with
 |nil=>exact⟨aK _,rfl⟩
 |cons s r=>
  simp only[CG,eF,aR,aI]
  exact⟨aw _,by show List.take _ (List.drop 0 _)=_;rw[aJ,dh]⟩
abbrev bm.L0.D:=(List Bs)×Int×(List Bs)×Int×Int
abbrev bm.L0.Y:=Int
abbrev bm.L0.X:=((List Bs))×(Int)
def bm.L0.add:bm.L0.D->bm.L0.Y->bm.L0.X:=λ(rC,size,t9,t10,t11) y=>(rC,y)
abbrev bm.L1.D:=Nat×(List Bs)×Int×Int×(List Int)
abbrev bm.L1.Y:=Nat×(List Int)
abbrev bm.D:=(List Bs)
abbrev bm.Y:=Bs
def bm.L0.aM:bm.L0.D->Prop:=λ(s,size,t,n,i)=>s.length<=1000000/\t=s/\n=s.length/\∃k z:Nat,k<=s.length/\i=k/\size=z/\z+oA (s.drop k)<=100000000
def bm.L0.F:bm.L0.D->bm.L0.Y:=λ(s,size,t,n,i)=>((size:Int)+((oA (s.drop i.toNat):Nat):Int):Int)
def bm.L1.aM:bm.L1.D->Prop:=λ(n,s,t,i,l)=>s.length<=1000000/\n<=l.length/\t=s.length/\∃k:Nat,k<=s.length/\i=k/\n+oA (s.drop k)<=100000000
def bm.L1.F:bm.L1.D->bm.L1.Y:=λ(n,s,t,i,l)=>CG n l (s.drop i.toNat)
def bm.aM:bm.D->Prop:=λs=>s.length<=1000000/\oA s<=100000000
def bm.F:bm.D->bm.Y:=λs=>s.flatten
def bm.L0:Ls bm.L0.aM bm.L0.add bm.L0.F:=rY (λ(rC,size,t9,t10,t11)=>⟨([.d (.slice tB) rC,.undef,.undef,.d ti size]++aT 5 ([.d (.slice tB) t9,.d ti t10,.d ti t11]++aT 24 [])),[],(List.replicate 36 [])⟩) (λx=>(.exit 0,⟨([.d (.slice tB) x.1,.undef,.undef,.d ti x.2]++aT 32 []),[],(List.replicate 36 [])⟩))
def bm.L1:Ls bm.L1.aM bP bm.L1.F:=rY (λ(newsliceL,t25,t26,t27,n24)=>⟨(aT 6 ([.aS (.new 24 0) 0 [] 0 0 newsliceL]++aT 18 ([.d (.slice tB) t25,.d ti t26,.d ti t27]++aT 8 []))),[],(ct 24 ([[.obj 0 false (.vec 5 tb n24)]]++ct 11 []))⟩) (λx=>(.exit 2,⟨(aT 6 ([.aS (.new 24 0) 0 [] 0 0 x.1]++aT 29 [])),[],(ct 24 ([[.obj 0 false (.vec 5 tb x.2)]]++ct 11 []))⟩))
def bm:Fs Tryz.prog bm.aM bP bm.F:=gC 203 Tryz.f203 (λslices=>([.d (.slice tB) slices],[])) (λx=>⟨.d tB x,[],[]⟩) [some (.slice tB)] [kT.sg] {loops:=pz [(3,{bo:=[0,3,9,10,11]}),(11,{bo:=[6,25,26,27],sites:=[24],owns:=[⟨6,[],24,140⟩]})],outs:=py [(3,{bo:=[0,3]},{bo:=[2]}),(11,{bo:=[6],sites:=[24]},{bo:=[2]})],iX:=qg [(3,bm.L0.E),(11,bm.L1.E)],res:=[some tB]}
theorem bm.L0.run:bm.L0.RS:=rL [.d (.slice tB),.d ti,.d (.slice tB),.d ti,.d ti] bm.L0
theorem bm.L0.step{R:Type}(rC size t9 t10 t11)(kn:K2 R)(kx:K3 R):bm.R 0 bm.L0 (rC,size,t9,t10,t11) kn kx=
  aP ((jx t11 t10)) (
   aP (jn t11 (t9.length:Int)) (
   aP ((jx (cG .i64 size (((List.length (nth tB t9 (Int.toNat t11))):Nat):Int)) 0)) (
    none) (
    kn (bm.L0.st (rC,(cG .i64 size (((List.length (nth tB t9 (Int.toNat t11))):Nat):Int)),t9,t10,(cG .i64 t11 1))))) none) (
   bm.L0.go kx (rC,size)):=by kernel_rfl
theorem bm.L1.run:bm.L1.RS:=rL [.n,.d (.slice tB),.d ti,.d ti,.d tB] bm.L1
theorem bm.L1.step{R:Type}(newsliceL t25 t26 t27 n24)(kn:K2 R)(kx:K3 R):bm.R 1 bm.L1 (newsliceL,t25,t26,t27,n24) kn kx=
  aP ((jx t27 t26)) (
   aP (jn t27 (t25.length:Int)) (
   aP (decide (newsliceL<=(List.length n24))) (
   aP (dZ (newsliceL+(List.length (nth tB t25 (Int.toNat t27)))) 1) (
   kn (bm.L1.st ((newsliceL+(List.length (nth tB t25 (Int.toNat t27)))),t25,t26,(cG .i64 t27 1),((List.take newsliceL n24)++(nth tB t25 (Int.toNat t27)))))) none) none) none) (
   bm.L1.go kx (newsliceL,n24)):=by kernel_rfl
theorem bm.eq{R:Type}(slices)(k:K1 R):bm.A slices k=
 ah (bm.L0.call (slices,0,slices,(slices.length:Int),0)) λx1=>
 ah (kT.call x1.2) λx2=>
 ah (bm.L1.call (x2.1,x1.1,(x1.1.length:Int),0,x2.2)) λx3=>
 aP (decide (0=0/\(0+x3.1)<=(List.length x3.2))) (
 k (bm.out (cut x3.2 0 x3.1))) none:=by kernel_rfl
theorem JF(s:List (List Int))(k:Nat)(h:k < s.length):oA (s.drop k)=s[k].length+oA (s.drop (k+1)):=by
 unfold oA
 rw[ax h,jm,ae]
theorem bm.L0.ok:(bm.mL 0 bm.L0):=by
 refine(bm.oH 0 bm.L0) (λ(s,size,t,n,i)=>s.length - i.toNat) ?_
 rintro⟨s,size,t,n,i⟩ ⟨hs,rfl,rfl,k,z,hk,rfl,rfl,hz⟩
 have hs:t.length<=1000000:=hs
 have hk:k<=t.length:=hk
 have hz:z+oA (t.drop k)<=100000000:=hz
 by_cases h:k < t.length
 ·left
  have n1:nth (.slice (.int .u8)) t k=t[k]:=dz (t:= .slice (.int .u8)) h
  have hd:=JF t k h
  refine⟨(t,((z+t[k].length:Nat):Int),t,t.length,((k+1:Nat):Int)),⟨hs,rfl,rfl,k+1,z+t[k].length,by omega,rfl,rfl,by omega⟩,by simp only[aa];omega,?_,λkn kx=> ?_⟩
  ·simp only[bm.L0.add,bm.L0.F,aa]
   rw[hd]
   refine congrArg _ ?_
   omega
  ·rw[bm.L0.step]
   simp(disch:=omega) only[↓S1,↓if_pos,↓if_neg,if_pos,if_neg,if_true,if_false,S2,n1]
 ·right
  obtain rfl:k=t.length:=by omega
  intro R kn kx
  rw[bm.L0.step]
  simp(disch:=omega) only[↓S1,↓if_pos,↓if_neg,if_pos,if_neg,if_true,if_false,S2,bm.L0.add,bm.L0.F,aZ]
  simp only[oA,mz,bn,Int.natCast_zero,Int.add_zero]
theorem bm.L1.ok:(bm.mL 1 bm.L1):=by
 refine(bm.oH 1 bm.L1) (λ(n,s,t,i,l)=>s.length - i.toNat) ?_
 rintro⟨n,s,t,i,l⟩ ⟨hs,hn,rfl,k,hk,rfl,hz⟩
 have hs:s.length<=1000000:=hs
 have hn:n<=l.length:=hn
 have hk:k<=s.length:=hk
 have hz:n+oA (s.drop k)<=100000000:=hz
 by_cases h:k < s.length
 ·left
  have n1:nth (.slice (.int .u8)) s k=s[k]:=dz (t:= .slice (.int .u8)) h
  have hd:=JF s k h
  refine⟨(n+s[k].length,s,s.length,((k+1:Nat):Int),l.take n++s[k]),⟨hs,by rw[ae,bQ];omega,rfl,k+1,by omega,rfl,by omega⟩,by simp only[aa];omega,?_,λkn kx=> ?_⟩
  ·simp only[bP,bm.L1.F,aa]
   rw[ax h,Kn _ _ _ _ hn]
  ·rw[bm.L1.step]
   simp(disch:=omega) only[↓S1,↓if_pos,↓if_neg,if_pos,if_neg,if_true,if_false,S2,n1]
 ·right
  obtain rfl:k=s.length:=by omega
  intro R kn kx
  rw[bm.L1.step]
  simp(disch:=omega) only[↓S1,↓if_pos,↓if_neg,if_pos,if_neg,if_true,if_false,S2,bP,bm.L1.F,aZ]
  rfl
theorem bm.ok:bm.Ok:=by
 rintro s ⟨hs,hz⟩
 have hs:s.length<=1000000:=hs
 have hz:oA s<=100000000:=hz
 have p1:bm.L0.aM (s,0,s,s.length,0):=⟨hs,rfl,rfl,0,0,by omega,rfl,rfl,by rw[aJ];omega⟩
 have p2:bm.L1.aM (0,s,s.length,0,List.replicate (oA s) 0):=⟨hs,by omega,rfl,0,by omega,rfl,by rw[aJ];omega⟩
 rw[bm.eq,bm.L0.run p1]
 simp only[ab,bm.L0.add,bm.L0.F,bN,aJ,Int.zero_add]
 rw[kT.run (d:=((oA s:Nat):Int)) ⟨oA s,rfl,hz⟩]
 simp only[ab,bP,kT.F,aa]
 rw[bm.L1.run p2]
 simp only[ab,bP,bm.L1.F,bN,aJ]
 obtain⟨c1,c2⟩:=OA 0 (List.replicate (oA s) 0) s
 simp only[aI,c1,and_self,decide_true,ag,c2]
 rfl
theorem bm.run:bm.RS:=rE [.d (.slice tB)] bm
def bm.sg:=bm.gG bm.ok 2 ⟨.iR bm.L0.ok,⟨.iR bm.L1.ok,trivial⟩⟩
abbrev iP.D:=Bs×Bs
abbrev iP.Y:=Bs
def iP.aM:iP.D->Prop:=λ(a,b)=>a.length+b.length<=100000000
def iP.F:iP.D->iP.Y:=λ(a,b)=>a++b
def iP:Fs Tryz.prog iP.aM bP iP.F:=gC 179 Tryz.f179 (λ(b,more)=>([.d tB b,.d tB more],[])) (λx=>⟨.d tB x,[],[]⟩) [some tB,some tB] [bm.sg]
theorem iP.eq{R:Type}(b more)(k:K1 R):iP.A (b,more) k=
 ah (bm.call [b,more]) λx1=>
 k (iP.out x1):=by kernel_rfl
theorem iP.ok:iP.Ok:=by
 rintro⟨a,b⟩ h
 have h:a.length+b.length<=100000000:=h
 rw[iP.eq,bm.run (d:=[a,b]) ⟨by show [a,b].length<=_;simp,by show oA [a,b]<=_;simp only[oA,jm,mz,bS,ae];omega⟩]
 simp only[ab,bP,bm.F,bP,iP.F,jm,mz,bS]
theorem iP.run:iP.RS:=rE [.d tB,.d tB] iP
def iP.sg:=iP.gG iP.ok
def gJ:Nat->Int->List Int×Int
 | 0,n=>([],n)
 |f+1,n=>if 128<=n then((n%128+128)::(gJ f (n / 128)).1,(gJ f (n / 128)).2) else([],n)
def iC(n:Int):List Int:=(gJ 10 n).1++ [(gJ 10 n).2]
theorem vy:∀(f g:Nat) (n:Int),n < 128^(f+1)->n < 128^(g+1)->gJ f n=gJ g n
 | 0,0,n,_,_=>rfl
 | 0,g+1,n,h,_=>by
  have h:n < 128:=h
  rw[gJ,gJ,if_neg (by omega)]
 |f+1,0,n,_,h=>by
  have h:n < 128:=h
  rw[gJ,gJ,if_neg (by omega)]
 |f+1,g+1,n,h,h'=>by
  rw[gJ,gJ]
  split
  ·have e:(128:Int)^(f+1+1)=128^(f+1)*128:=gg 128 (f+1)
   have e':(128:Int)^(g+1+1)=128^(g+1)*128:=gg 128 (g+1)
   rw[vy f g (n / 128) (by omega) (by omega)]
  ·rfl
theorem B1:∀(f:Nat) (n:Int),(gJ f n).1.length<=f
 | 0,_=>aw _
 |f+1,n=>by
  rw[gJ]
  split
  ·have:=B1 f (n / 128)
   simp only[aB];omega
  ·exact aK _
theorem DS:∀(f:Nat) (n:Int),0<=n->n < 128^(f+1)->0<=(gJ f n).2/\(gJ f n).2 < 128
 | 0,n,h,h'=>by have h':n < 128:=h';exact⟨h,h'⟩
 |f+1,n,h,h'=>by
  rw[gJ]
  have e:(128:Int)^(f+1+1)=128^(f+1)*128:=gg 128 (f+1)
  split
  ·exact DS f (n / 128) (by omega) (by omega)
  ·exact⟨h,by omega⟩
theorem Lj{n:Int}(h:128<=n)(h2:n<=9223372036854775807):gJ 10 n=((n%128+128)::(gJ 10 (n / 128)).1,(gJ 10 (n / 128)).2):=by
 have e:(128:Int)^(9+1)=1180591620717411303424:=rfl
 have e2:(128:Int)^(10+1)=151115727451828646838272:=rfl
 rw[gJ,if_pos h,vy 9 10 (n / 128) (by rw[e];omega) (by rw[e2];omega)]
theorem lB(n:Int):(iC n).length<=11:=by
 have:=B1 10 n
 unfold iC
 simp only[ae,aB,bn];omega
def uj(n:Int):Prop:=0<=n/\n<=9223372036854775807
abbrev gR.L0.D:=Int×Nat×(List Int)
abbrev gR.L0.Y:=Int×Nat×(List Int)
abbrev gR.D:=Int
abbrev gR.Y:=Bs
def gR.L0.aM:gR.L0.D->Prop:=λ(n,m,l)=>uj n/\m=l.length/\l.length<=1000+0*n.toNat/\l.length+(gJ 10 n).1.length<=100
def gR.L0.F:gR.L0.D->gR.L0.Y:=λ(n,m,l)=>((gJ 10 n).2,(l++(gJ 10 n).1).length,l++(gJ 10 n).1)
def gR.aM:gR.D->Prop:=λn=>uj n
def gR.F:gR.D->gR.Y:=λn=>iC n
def gR.L0:Ls gR.L0.aM bP gR.L0.F:=rY (λ(s8,outL,n14)=>⟨([.d ti s8,.undef,.undef,.aS (.new 14 0) 0 [] 0 0 outL]++aT 16 []),[],(ct 14 ([[.obj 0 false (.vec 5 tb n14)]]++ct 5 []))⟩) (λx=>(.exit 0,⟨([.d ti x.1,.undef,.undef,.aS (.new 14 0) 0 [] 0 0 x.2.1]++aT 16 []),[],(ct 14 ([[.obj 0 false (.vec 5 tb x.2.2)]]++ct 5 []))⟩))
def gR:Fs Tryz.prog gR.aM bP gR.F:=gC 180 Tryz.f180 (λn=>([.d ti n],[])) (λx=>⟨.d tB x,[],[]⟩) [some ti] [] {loops:=pz [(2,{bo:=[0,3],sites:=[14],owns:=[⟨3,[],14,140⟩]})],outs:=py [(2,{bo:=[0,3],sites:=[14]},{bo:=[2]})],iX:=qg [(2,gR.L0.E)],res:=[some tB]}
theorem gR.L0.run:gR.L0.RS:=rL [.d ti,.n,.d tB] gR.L0
theorem gR.L0.step{R:Type}(s8 outL n14)(kn:K2 R)(kx:K3 R):gR.R 0 gR.L0 (s8,outL,n14) kn kx=
  aP ((tZ s8 128)) (
   aP (decide (outL<=(List.length n14))) (
   aP (dZ (outL+1) 1) (
   kn (gR.L0.st ((sr .i64 s8 128),(outL+1),((List.take outL n14)++ [(fa .u8 (cG .i64 (kQ s8 128) 128))])))) none) none) (
   gR.L0.go kx (s8,outL,n14)):=by kernel_rfl
theorem gR.eq{R:Type}(n)(k:K1 R):gR.A n k=
 ah (gR.L0.call (n,0,([]:List Int))) λx1=>
 aP (decide (x1.2.1<=(List.length x1.2.2))) (
 aP (dZ (x1.2.1+1) 1) (
 aP (decide (0=0/\(0+(x1.2.1+1))<=(List.length ((List.take x1.2.1 x1.2.2)++ [(fa .u8 x1.1)])))) (
 k (gR.out (cut ((List.take x1.2.1 x1.2.2)++ [(fa .u8 x1.1)]) 0 (x1.2.1+1)))) none) none) none:=by kernel_rfl
theorem Ms{n:Int}(h:uj n):fa .u8 (cG .i64 (kQ n 128) 128)=n%128+128:=by
 have h1:=h.1
 rw[rW h.1,fX (by omega) (by omega),ED,lD]
 omega
theorem gR.L0.ok:(gR.mL 0 gR.L0):=by
 refine(gR.oH 0 gR.L0) (λ(n,m,l)=>n.toNat) ?_
 rintro⟨n,m,l⟩ ⟨hn,rfl,hl,hz⟩
 have hn:uj n:=hn
 have hz:l.length+(gJ 10 n).1.length<=100:=hz
 have h1:=hn.1
 have h2:=hn.2
 by_cases h:128<=n
 ·left
  have e:=Lj h h2
  have hq:sr .i64 n 128=n / 128:=by
   rw[sr,jL h1]
   exact ov (by omega) (by omega)
  have el:((n%128+128)::(gJ 10 (n / 128)).1).length=(gJ 10 (n / 128)).1.length+1:=aB
  rw[e]at hz
  have hz:l.length+((n%128+128)::(gJ 10 (n / 128)).1).length<=100:=hz
  rw[el]at hz
  refine⟨(n / 128,l.length+1,l++ [n%128+128]),⟨⟨by omega,by omega⟩,by rw[ae];rfl,by rw[ae];simp only[aB,bn];omega,by rw[ae];simp only[aB,bn];omega⟩,by simp only[];omega,?_,λkn kx=> ?_⟩
  ·simp only[bP,gR.L0.F,e,aD,List.cons_append,aR]
  ·rw[gR.L0.step,jg h,Ms hn,hq]
   simp(disch:=omega) only[↓S1,↓if_pos,↓if_neg,if_pos,if_neg,if_true,if_false,S2,aw,dh]
 ·right
  have e:gJ 10 n=([],n):=by rw[gJ,if_neg h]
  intro R kn kx
  rw[gR.L0.step,fI h]
  simp only[al,bP,gR.L0.F,e,bS]
theorem gR.ok:gR.Ok:=by
 intro n hn
 have hn:uj n:=hn
 have hl:=B1 10 n
 have e2:(128:Int)^(10+1)=151115727451828646838272:=rfl
 have hd:=DS 10 n hn.1 (by have:=hn.2;rw[e2];omega)
 have p:gR.L0.aM (n,0,[]):=⟨hn,rfl,by simp,by simp only[bn];omega⟩
 have hi:fa .u8 (gJ 10 n).2=(gJ 10 n).2:=by rw[ED,lD];omega
 rw[gR.eq,gR.L0.run p]
 simp only[ab,bP,gR.L0.F,aR,hi,dh,aw,decide_true,ag]
 rw[fg (by omega) (by omega)]
 simp only[ag,aI,ae,aB,bn,aw,and_self,decide_true]
 rw[gI (by rw[ae];rfl)]
 rfl
theorem gR.run:gR.RS:=rE [.d ti] gR
def gR.sg:=gR.gG gR.ok 1 ⟨.iR gR.L0.ok,trivial⟩
def eh(b:List Int)(n:Int):List Int:=if n < 0 then b else b++iC n
theorem fE(b:List Int)(n:Int):(eh b n).length<=b.length+11:=by
 unfold eh
 have:=lB n
 split
 ·omega
 ·rw[ae];omega
abbrev fO.D:=Bs×Int
abbrev fO.Y:=Bs
def fO.aM:fO.D->Prop:=λ(b,n)=>b.length<=90000000/\n<=9223372036854775807
def fO.F:fO.D->fO.Y:=λ(b,n)=>eh b n
def fO:Fs Tryz.prog fO.aM bP fO.F:=gC 123 Tryz.f123 (λ(b,n)=>([.d tB b,.d ti n],[])) (λx=>⟨.d tB x,[],[]⟩) [some tB,some ti] [iP.sg,gR.sg]
theorem fO.eq{R:Type}(b n)(k:K1 R):fO.A (b,n) k=
  aP ((jx n 0)) (
   ah (iP.call (b,([]:List Int))) λx1=>
   k (fO.out x1)) (
   ah (gR.call n) λx2=>
   ah (iP.call (b,x2)) λx3=>
   k (fO.out x3)):=by kernel_rfl
theorem fO.ok:fO.Ok:=by
 rintro⟨b,n⟩ ⟨hb,hn⟩
 have hb:b.length<=90000000:=hb
 have hn:n<=9223372036854775807:=hn
 rw[fO.eq]
 simp only[bP,fO.F,eh]
 by_cases h:n < 0
 ·rw[bg h,if_pos h,ag,iP.run (d:=(b,[])) (by show b.length+([]:List Int).length<=_;simp only[bn];omega)]
  simp only[ab,bP,iP.F,bS]
 ·have hl:=lB n
  rw[aX h,if_neg h,al,gR.run (d:=n) ⟨by omega,hn⟩]
  simp only[ab,bP,gR.F]
  rw[iP.run (d:=(b,iC n)) (by show b.length+(iC n).length<=_;omega)]
  rfl
theorem fO.run:fO.RS:=rE [.d tB,.d ti] fO
def fO.sg:=fO.gG fO.ok
abbrev iG.D:=Bs×Int
abbrev iG.Y:=Bs
def iG.aM:iG.D->Prop:=λ(b,n)=>b.length<=90000000
def iG.F:iG.D->iG.Y:=λ(b,n)=>b++kP n
def iG:Fs Tryz.prog iG.aM bP iG.F:=gC 191 Tryz.f191 (λ(b,n)=>([.d tB b,.d tu n],[])) (λx=>⟨.d tB x,[],[]⟩) [some tB,some tu] [iP.sg] {loops:=pz [(3,{bo:=[0,1,5,7],sites:=[5,21]})],outs:=py [(3,{bo:=[0,5],sites:=[5,21]},{bo:=[4],sites:=[5,21]})]} 12
theorem iG.eq{R:Type}(b n)(k:K1 R):iG.A (b,n) k=
 ah (iP.call (b,[(fa .u8 (cT .u64 n 56)),(fa .u8 (cT .u64 n 48)),(fa .u8 (cT .u64 n 40)),(fa .u8 (cT .u64 n 32)),(fa .u8 (cT .u64 n 24)),(fa .u8 (cT .u64 n 16)),(fa .u8 (cT .u64 n 8)),(fa .u8 (cT .u64 n 0))])) λx1=>
 k (iG.out x1):=by kernel_rfl
theorem iG.ok:iG.Ok:=by
 rintro⟨b,n⟩ hb
 have hb:b.length<=90000000:=hb
 have p:iP.aM (b,kP n):=by show b.length+(kP n).length<=_;rw[dB];omega
 have e:iP.call (b,[fa .u8 (cT .u64 n 56),fa .u8 (cT .u64 n 48),fa .u8 (cT .u64 n 40),fa .u8 (cT .u64 n 32),fa .u8 (cT .u64 n 24),fa .u8 (cT .u64 n 16),fa .u8 (cT .u64 n 8),fa .u8 (cT .u64 n 0)])=some (b++kP n):=by
  rw[Fz];exact iP.run p
 rw[iG.eq]
 refine Eq.trans (congrArg (λx=>ah x _) e) ?_
 rfl
theorem iG.run:iG.RS:=rE [.d tB,.d tu] iG
def iG.sg:=iG.gG iG.ok 1 ⟨.none (by kernel_rfl),trivial⟩
def uh(w:CD):Bool:=decide (0<=w.1/\w.1 < 4) && decide (w.2.1.length<=12)
def AY(x:kC):Bool:=decide (0<=x.1.2.1/\x.1.2.1 < 64) && uh x.2.1
def zg(m:List (cd×Bool))(x:kC):Bool:=(dG b8 x.1 m).getD false
def uo:List (cd×Bool)->List kC->Bool
 |_,[]=>true
 |m,x::l=>(!(zg m x) && AY x) && uo (iT b8 x.1 true m) l
def sm(a:Int):Bool:=decide (0<=a/\a<=1125899906842624)
def xd(a b:Int):Bool:=sm a && (sm b && decide (a+b<=1125899906842624))
def sz:Int->List kO->Bool
 |_,[]=>true
 |s,o::l=>(xd s o.1 && lN o.2.1) && sz (s+o.1) l
def E5(t:eZ):Bool:=decide (1<=t.1.length/\t.1.length<=64/\t.2.1.length<=64/\0<=t.2.2.1)
def jk(t:eZ):Bool:=E5 t && (uo [] t.1 && sz 0 t.2.1)
def Sw(l:Lk):Prop:=J6 l/\l.1.length<=9223372036854775807
def U2(t:eZ):Prop:=(∀o∈t.2.1,Sw o.2.1)/\t.1.length<=9223372036854775807/\t.2.1.length<=9223372036854775807
abbrev nf.D:=CD
abbrev nf.Y:=Bool
def nf.aM:nf.D->Prop:=λ_=>True
def nf.F:nf.D->nf.Y:=λw=>uh w
def nf:Fs Tryz.prog nf.aM bP nf.F:=gC 67 Tryz.f67 (λwv=>([.d Of wv],[])) (λx=>⟨.d .bool x,[],[]⟩) [some Of]
theorem nf.eq{R:Type}(wv)(k:K1 R):nf.A wv k=
  aP ((tZ wv.1 0)) (
   aP ((jx wv.1 4)) (
    k (nf.out (JA (wv.2.1.length:Int) 12))) (
    k (nf.out false))) (
   k (nf.out false)):=by kernel_rfl
theorem nf.ok:nf.Ok:=by
 rintro⟨b,ss,sc,u⟩ _
 rw[nf.eq]
 simp only[bP,nf.F,uh]
 by_cases h:0<=b
 ·rw[jg h,ag]
  by_cases h2:b < 4
  ·rw[bg h2,ag,aY ⟨h,h2⟩]
   by_cases h3:ss.length<=12
   ·rw[rj (by omega),aY h3];rfl
   ·rw[nP (by omega),cH h3];rfl
  ·rw[aX h2,al,cH (λx=>h2 x.2)];rfl
 ·rw[fI h,al,cH (λx=>h x.1)];rfl
theorem nf.run:nf.RS:=rE [.d Of] nf
def nf.sg:=nf.gG nf.ok
abbrev iu.D:=Int
abbrev iu.Y:=Bool
def iu.aM:iu.D->Prop:=λ_=>True
def iu.F:iu.D->iu.Y:=λa=>sm a
def iu:Fs Tryz.prog iu.aM bP iu.F:=gC 194 Tryz.f194 (λa=>([.d ti a],[])) (λx=>⟨.d .bool x,[],[]⟩) [some ti]
theorem iu.eq{R:Type}(a)(k:K1 R):iu.A a k=
  aP ((tZ a 0)) (
   k (iu.out (JA a 1125899906842624))) (
   k (iu.out false)):=by kernel_rfl
theorem iu.ok:iu.Ok:=by
 intro(a:Int) _
 rw[iu.eq]
 simp only[bP,iu.F,sm]
 by_cases h:0<=a
 ·rw[jg h,ag]
  by_cases h2:a<=1125899906842624
  ·rw[rj h2,aY ⟨h,h2⟩]
  ·rw[nP h2,cH (λx=>h2 x.2)]
 ·rw[fI h,al,cH (λx=>h x.1)]
theorem iu.run:iu.RS:=rE [.d ti] iu
def iu.sg:=iu.gG iu.ok
abbrev oD.D:=Int×Int
abbrev oD.Y:=Int×Bool
def oD.aM:oD.D->Prop:=λ_=>True
def oD.F:oD.D->oD.Y:=λ(a,b)=>(bif xd a b then a+b else 0,xd a b)
def oD:Fs Tryz.prog oD.aM bP oD.F:=gC 132 Tryz.f132 (λ(a,b)=>([.d ti a,.d ti b],[])) (λx=>⟨.cons (.d ti x.1) (.cons (.d .bool x.2) (.nil)),[],[]⟩) [some ti,some ti] [iu.sg]
theorem oD.eq{R:Type}(a b)(k:K1 R):oD.A (a,b) k=
  ah (iu.call a) λx1=>
  aP ((!x1)) (
   k (oD.out (0,false))) (
   ah (iu.call b) λx2=>
   aP ((!x2)) (
    k (oD.out (0,false))) (
    aP ((uL a (dJ .i64 1125899906842624 b))) (
     k (oD.out (0,false))) (
     k (oD.out ((cG .i64 a b),true))))):=by kernel_rfl
theorem oD.ok:oD.Ok:=by
 rintro⟨a,b⟩ _
 rw[oD.eq,iu.run (d:=a) trivial,iu.run (d:=b) trivial]
 simp only[ab,bP,iu.F,bP,oD.F,xd]
 cases ha:sm a
 ·rfl
 ·cases hb:sm b
  ·rfl
  ·simp only[sm,decide_eq_true_eq]at ha hb
   simp only[dj,al,ez]
   rw[fP (by omega) (by omega)]
   by_cases h:a+b<=1125899906842624
   ·rw[eC (by omega),al,aY h,fX (by omega) (by omega)];rfl
   ·rw[eY (by omega),ag,cH h];rfl
theorem oD.run:oD.RS:=rE [.d ti,.d ti] oD
def oD.sg:=oD.gG oD.ok
abbrev az.L0.D:=eZ×(List kC)×Int×Int×(List (cd×Bool))
def az.L0.st:az.L0.D->AS:=λ(vC,t33,t34,t35,n31)=>⟨([.undef,.eD gU vC,.undef,.db (.new 31 0) 0]++aT 29 ([.d (.slice jo) t33,.d ti t34,.d ti t35]++aT 52 [])),[],(ct 31 ([[.obj 0 false (.mp b8 .bool n31)]]++ct 56 []))⟩
abbrev az.L0.Y0:=Unit
abbrev az.L0.X0:=Unit
def az.L0.eG:az.L0.X0->Exit×AS:=λx=>(.ret,⟨([.undef,.undef,.d .bool false]++aT 85 []),[],(List.replicate 88 [])⟩)
abbrev az.L0.Y1:=Unit
abbrev az.L0.X1:=eZ
def az.L0.gZ:az.L0.X1->Exit×AS:=λx=>(.exit 0,⟨([.undef,.eD gU x]++aT 86 []),[],(List.replicate 88 [])⟩)
abbrev az.L0.X:=(az.L0.X0)⊕(az.L0.X1)
abbrev az.L0.Y:=(az.L0.Y0)⊕(az.L0.Y1)
def az.L0.out:az.L0.X->Out (Exit×AS):=λx=> .br x.isLeft (.get x.getLeft? λa=> .ok (az.L0.eG a)) (.get x.getRight? λb=> .ok (az.L0.gZ b))
def az.L0.add:az.L0.D->az.L0.Y->az.L0.X:=λ(vC,t33,t34,t35,n31) y=>match y with | .inl y=> .inl y | .inr z=> .inr (vC)
abbrev az.L1.D:=Int×(List kO)×Int×Int
def az.L1.st:az.L1.D->AS:=λ(sum,t66,t67,t68)=>⟨(aT 6 ([.d ti sum]++aT 59 ([.d (.slice lO) t66,.d ti t67,.d ti t68]++aT 19 []))),[],(List.replicate 88 [])⟩
abbrev az.L1.Y0:=Unit
abbrev az.L1.X0:=Unit
def az.L1.eG:az.L1.X0->Exit×AS:=λx=>(.ret,⟨([.undef,.undef,.d .bool false]++aT 85 []),[],(List.replicate 88 [])⟩)
abbrev az.L1.Y1:=Unit
abbrev az.L1.X1:=Unit
def az.L1.gZ:az.L1.X1->Exit×AS:=λx=>(.exit 2,⟨(aT 88 []),[],(List.replicate 88 [])⟩)
abbrev az.L1.X:=(az.L1.X0)⊕(az.L1.X1)
abbrev az.L1.Y:=(az.L1.Y0)⊕(az.L1.Y1)
def az.L1.out:az.L1.X->Out (Exit×AS):=λx=> .br x.isLeft (.get x.getLeft? λa=> .ok (az.L1.eG a)) (.get x.getRight? λb=> .ok (az.L1.gZ b))
def az.L1.add:az.L1.D->az.L1.Y->az.L1.X:=λ(sum,t66,t67,t68) y=>match y with | .inl y=> .inl y | .inr z=> .inr (z)
abbrev az.D:=eZ
abbrev az.Y:=Bool
def az.L0.aM:az.L0.D->Prop:=λ(t,l,n,i,m)=>l.length<=9223372036854775807/\n=l.length/\∃k:Nat,k<=l.length/\i=k
def az.L0.F:az.L0.D->az.L0.Y:=λ(t,l,n,i,m)=>if uo m (l.drop i.toNat) then .inr () else .inl ()
def az.L1.aM:az.L1.D->Prop:=λ(s,l,n,i)=>(∀o∈l,Sw o.2.1)/\l.length<=9223372036854775807/\n=l.length/\∃k:Nat,k<=l.length/\i=k
def az.L1.F:az.L1.D->az.L1.Y:=λ(s,l,n,i)=>if sz s (l.drop i.toNat) then .inr () else .inl ()
def az.aM:az.D->Prop:=λt=>U2 t
def az.F:az.D->az.Y:=λt=>jk t
def az.L0.E:=eE.iR az.L0.st az.L0.aM az.L0.add az.L0.F az.L0.out
def az.L0.call:az.L0.D->Option az.L0.X:=j9 az.L0.E az.L0.st
def az.L1.E:=eE.iR az.L1.st az.L1.aM az.L1.add az.L1.F az.L1.out
def az.L1.call:az.L1.D->Option az.L1.X:=j9 az.L1.E az.L1.st
def az:Fs Tryz.prog az.aM bP az.F:=gC 66 Tryz.f66 (λt=>([.d gU t],[])) (λx=>⟨.d .bool x,[],[]⟩) [some gU] [nf.sg,oD.sg,aW.sg] {loops:=pz [(5,{bo:=[1,3,33,34,35],sites:=[31]}),(13,{bo:=[6,66,67,68]})],outs:=py [(5,{bo:=[1]},{bo:=[2]}),(13,{},{bo:=[2]})],iX:=qg [(5,az.L0.E),(13,az.L1.E)]}
def az.L0.R:= @gN Tryz.prog (oo az.G) az.an 0 Tryz.f66 0 _ az.L0.st
abbrev az.L0.Ok:=mS Tryz.prog (oo az.G) az.an 0 Tryz.f66 0 az.L0.st az.L0.aM az.L0.add az.L0.F az.L0.out
def az.L1.R:= @gN Tryz.prog (oo az.G) az.an 0 Tryz.f66 1 _ az.L1.st
abbrev az.L1.Ok:=mS Tryz.prog (oo az.G) az.an 0 Tryz.f66 1 az.L1.st az.L1.aM az.L1.add az.L1.F az.L1.out
theorem az.L0.run:kF az.L0.call az.L0.aM az.L0.add az.L0.F:=oU (oR [.d gU,.d (.slice jo),.d ti,.d ti,.d (.slice (.pair b8 .bool))] λ_=>by kernel_rfl)
theorem az.L0.cM:qa @az.L0.R az.L0.st az.L0.aM az.L0.add az.L0.F az.L0.out az.L0.Ok:=qD
theorem az.L0.step{R:Type}(vC:eZ)(t33:(List kC))(t34:Int)(t35:Int)(n31:(List (cd×Bool)))(kn:AS->Option R)(kx:Exit->AS->Option R):az.L0.R (vC,t33,t34,t35,n31) kn kx=
  aP ((jx t35 t34)) (
   aP (jn t35 (((List.length t33):Nat):Int)) (
   aP (((dG b8 (nth jo t33 (Int.toNat t35)).1 n31).getD false)) (
    kx (az.L0.eG ()).1 (az.L0.eG ()).2) (
    aP ((jx (nth jo t33 (Int.toNat t35)).1.2.1 (0:Int))) (
     kx (az.L0.eG ()).1 (az.L0.eG ()).2) (
     aP ((tZ (nth jo t33 (Int.toNat t35)).1.2.1 (64:Int))) (
      kx (az.L0.eG ()).1 (az.L0.eG ()).2) (
      ah (nf.call (nth jo t33 (Int.toNat t35)).2.1) λx8=>
      aP ((!x8)) (
       kx (az.L0.eG ()).1 (az.L0.eG ()).2) (
       kn (az.L0.st (vC,t33,t34,(cG .i64 t35 (1:Int)),(iT b8 (nth jo t33 (Int.toNat t35)).1 true n31)))))))) none) (
   kx (az.L0.gZ vC).1 (az.L0.gZ vC).2):=by kernel_rfl
theorem az.L1.run:kF az.L1.call az.L1.aM az.L1.add az.L1.F:=oU (oR [.d ti,.d (.slice lO),.d ti,.d ti] λ_=>by kernel_rfl)
theorem az.L1.cM:qa @az.L1.R az.L1.st az.L1.aM az.L1.add az.L1.F az.L1.out az.L1.Ok:=qD
theorem az.L1.step{R:Type}(sum:Int)(t66:(List kO))(t67:Int)(t68:Int)(kn:AS->Option R)(kx:Exit->AS->Option R):az.L1.R (sum,t66,t67,t68) kn kx=
  aP ((jx t68 t67)) (
   aP (jn t68 (((List.length t66):Nat):Int)) (
   ah (oD.call (sum,(nth lO t66 (Int.toNat t68)).1)) λCB=>
   aP ((!CB.2)) (
    kx (az.L1.eG ()).1 (az.L1.eG ()).2) (
    ah (aW.call (nth lO t66 (Int.toNat t68)).2.1) λHv=>
    aP ((!Hv)) (
     kx (az.L1.eG ()).1 (az.L1.eG ()).2) (
     kn (az.L1.st (CB.1,t66,t67,(cG .i64 t68 (1:Int))))))) none) (
   kx (az.L1.gZ ()).1 (az.L1.gZ ()).2):=by kernel_rfl
theorem az.eq{R:Type}(t)(k:K1 R):az.A t k=
  aP ((jx (t.1.length:Int) 1)) (
   k (az.out false)) (
   aP ((uL (t.1.length:Int) 64)) (
    k (az.out false)) (
    aP ((uL (t.2.1.length:Int) 64)) (
     k (az.out false)) (
     aP ((jx t.2.2.1 0)) (
      k (az.out false)) (
      ah (az.L0.call (t,t.1,(t.1.length:Int),0,([]:List (cd×Bool)))) λHv=>
      aP (Hv.isLeft) (
       ah (Hv.getLeft?) λa13=>
       k (az.out false)) (
       ah (Hv.getRight?) λb14=>
       ah (az.L1.call (0,b14.2.1,(b14.2.1.length:Int),0)) λzJ=>
       aP (zJ.isLeft) (
        ah (zJ.getLeft?) λa31=>
        k (az.out false)) (
        ah (zJ.getRight?) λb32=>
        k (az.out true))))))):=by kernel_rfl
theorem az.L0.ok:az.L0.Ok:=by
 refine az.L0.cM (λ(t,l,n,i,m)=>l.length - i.toNat) ?_
 rintro⟨t,l,n,i,m⟩ ⟨hb,rfl,k,hk,rfl⟩
 have hb:l.length<=9223372036854775807:=hb
 have hk:k<=l.length:=hk
 by_cases h:k < l.length
 ·have n1:nth jo l k=l[k]:=dz (t:=jo) h
  have hd:uo m (l.drop k)=((!(zg m l[k]) && AY l[k]) && uo (iT b8 l[k].1 true m) (l.drop (k+1))):=by rw[ax h];rfl
  have step:∀ {R:Type} (kn:AS->Option R) (kx:Exit->AS->Option R),az.L0.R (t,l,(l.length:Int),(k:Int),m) kn kx=aP (!(zg m l[k]) && AY l[k]) (kn (az.L0.st (t,l,(l.length:Int),((k+1:Nat):Int),iT b8 l[k].1 true m))) (kx (az.L0.eG ()).1 (az.L0.eG ()).2):=by
   intro R kn kx
   rw[az.L0.step,bg (by omega),bG (by omega) (by omega),aa,n1,N.p9 (by omega),nf.run (d:=l[k].2.1) trivial]
   simp only[ag,ab,bP,nf.F]
   have e:(dG b8 l[k].1 m).getD false=zg m l[k]:=rfl
   rw[e]
   cases zg m l[k]
   ·simp only[ia,ez,al,AY]
    by_cases h1:l[k].1.2.1 < 0
    ·rw[bg h1,ag,cH (λx=>by omega)];rfl
    ·rw[aX h1,al]
     by_cases h2:64<=l[k].1.2.1
     ·rw[jg h2,ag,cH (λx=>by omega)];rfl
     ·rw[fI h2,al,aY ⟨by omega,by omega⟩]
      cases uh l[k].2.1 <;> rfl
   ·rfl
  cases hp:(!(zg m l[k]) && AY l[k])
  ·right
   refine⟨az.L0.eG (),?_,λkn kx=> ?_⟩
   ·simp only[az.L0.add,az.L0.F,aa,hd,hp,kB,cv,if_false]
    rfl
   ·rw[step,hp,al]
  ·left
   refine⟨(t,l,l.length,((k+1:Nat):Int),iT b8 l[k].1 true m),⟨hb,rfl,k+1,by omega,rfl⟩,by simp only[aa];omega,?_,λkn kx=> ?_⟩
   ·simp only[az.L0.add,az.L0.F,aa,hd,hp,ez]
   ·rw[step,hp,ag]
 ·right
  obtain rfl:k=l.length:=by omega
  refine⟨az.L0.gZ t,?_,λkn kx=> ?_⟩
  ·simp only[az.L0.add,az.L0.F,aa,aZ]
   rfl
  ·rw[az.L0.step]
   simp(disch:=omega) only[↓S1,↓if_pos,↓if_neg,if_pos,if_neg,if_true,if_false,S2]
theorem az.L1.ok:az.L1.Ok:=by
 refine az.L1.cM (λ(s,l,n,i)=>l.length - i.toNat) ?_
 rintro⟨s,l,n,i⟩ ⟨hl,hb,rfl,k,hk,rfl⟩
 have hb:l.length<=9223372036854775807:=hb
 have hk:k<=l.length:=hk
 by_cases h:k < l.length
 ·have hx:Sw l[k].2.1:=hl _ (aL h)
  have n1:nth lO l k=l[k]:=dz (t:=lO) h
  have hd:sz s (l.drop k)=((xd s l[k].1 && lN l[k].2.1) && sz (s+l[k].1) (l.drop (k+1))):=by rw[ax h];rfl
  have step:∀ {R:Type} (kn:AS->Option R) (kx:Exit->AS->Option R),az.L1.R (s,l,(l.length:Int),(k:Int)) kn kx=aP (xd s l[k].1 && lN l[k].2.1) (kn (az.L1.st (s+l[k].1,l,(l.length:Int),((k+1:Nat):Int)))) (kx (az.L1.eG ()).1 (az.L1.eG ()).2):=by
   intro R kn kx
   rw[az.L1.step,bg (by omega),bG (by omega) (by omega),aa,n1,N.p9 (by omega),oD.run (d:=(s,l[k].1)) trivial,aW.run (d:=l[k].2.1) hx]
   simp only[ag,ab,bP,oD.F,bP,aW.F]
   cases xd s l[k].1
   ·rfl
   ·cases lN l[k].2.1 <;> rfl
  cases hp:(xd s l[k].1 && lN l[k].2.1)
  ·right
   refine⟨az.L1.eG (),?_,λkn kx=> ?_⟩
   ·simp only[az.L1.add,az.L1.F,aa,hd,hp,kB,cv,if_false]
    rfl
   ·rw[step,hp,al]
  ·left
   refine⟨(s+l[k].1,l,l.length,((k+1:Nat):Int)),⟨hl,hb,rfl,k+1,by omega,rfl⟩,by simp only[aa];omega,?_,λkn kx=> ?_⟩
   ·simp only[az.L1.add,az.L1.F,aa,hd,hp,ez]
   ·rw[step,hp,ag]
 ·right
  obtain rfl:k=l.length:=by omega
  refine⟨az.L1.gZ (),?_,λkn kx=> ?_⟩
  ·simp only[az.L1.add,az.L1.F,aa,aZ]
   rfl
  ·rw[az.L1.step]
   simp(disch:=omega) only[↓S1,↓if_pos,↓if_neg,if_pos,if_neg,if_true,if_false,S2]
theorem az.ok:az.Ok:=by
 rintro⟨is,os,nt,u⟩ ⟨hl,h1,h2⟩
 have h1:is.length<=9223372036854775807:=h1
 have h2:os.length<=9223372036854775807:=h2
 rw[az.eq,az.L0.run (d:=((is,os,nt,u),is,is.length,0,[])) ⟨h1,rfl,0,by omega,rfl⟩]
 simp only[ab,az.L0.add,az.L0.F,bN,aJ,bP,az.F,jk,E5]
 by_cases a1:is.length < 1
 ·rw[bg (by omega),ag,cH (λx=>by omega)];rfl
 rw[aX (by omega),al]
 by_cases a2:64 < is.length
 ·rw[eY (by omega),ag,cH (λx=>by omega)];rfl
 rw[eC (by omega),al]
 by_cases a3:64 < os.length
 ·rw[eY (by omega),ag,cH (λx=>by omega)];rfl
 rw[eC (by omega),al]
 by_cases a4:nt < 0
 ·rw[bg (by omega),ag,cH (λx=>by omega)];rfl
 rw[aX (by omega),al,aY ⟨by omega,by omega,by omega,by omega⟩]
 cases uo [] is
 ·rfl
 ·simp only[if_true,ez]
  show ah (az.L1.call (0,os,(os.length:Int),0)) _=_
  rw[az.L1.run (d:=(0,os,os.length,0)) ⟨hl,h2,rfl,0,by omega,rfl⟩]
  simp only[ab,az.L1.add,az.L1.F,bN,aJ]
  cases sz 0 os <;> rfl
theorem az.run:az.RS:=rE [.d gU] az
def az.sg:=az.gG az.ok 2 ⟨.iR az.L0.ok,⟨.iR az.L1.ok,trivial⟩⟩
abbrev fY.D:=Bs
abbrev fY.Y:=Bs
def fY.aM:fY.D->Prop:=λl=>l.length<=1000000
def fY.F:fY.D->fY.Y:=λl=>l
def fY:Fs Tryz.prog fY.aM bP fY.F:=gC 142 Tryz.f142 (λsv=>([.d tU sv],[])) (λx=>⟨.d tU x,[],[]⟩) [some tU] [] {bK:=[5],res:=[some tU]}
theorem fY.eq{R:Type}(sv)(k:K1 R):fY.A sv k=
  aP (decide (0 < (List.length sv))) (
   aP (dZ (0+(List.length sv)) 8) (
   aP (decide (0=0/\(0+(0+(List.length sv)))<=(List.length ((List.take 0 (List.replicate 0 0))++sv)))) (
   k (fY.out (cut ((List.take 0 (List.replicate 0 0))++sv) 0 (0+(List.length sv))))) none) none) (
   nd (
    k (fY.out ([]:List Int))) (
    aP (dZ (0+(List.length sv)) 8) (
    aP (decide (0=0/\(0+(0+(List.length sv)))<=(List.length ((List.take 0 (List.replicate 0 0))++sv)))) (
    k (fY.out (cut ((List.take 0 (List.replicate 0 0))++sv) 0 (0+(List.length sv))))) none) none)):=by kernel_rfl
theorem fY.ok:fY.Ok:=by
 intro l hl
 have hl:l.length<=1000000:=hl
 have hr:dZ l.length 8=true:=fg (by omega) (by omega)
 have e0:(List.take 0 (List.replicate 0 0):List Int)=[]:=rfl
 rw[fY.eq]
 simp only[aI,hr,ag,e0,aR,aw,and_self,decide_true,gI,bP,fY.F]
 by_cases h:0 < l.length
 ·simp only[aY h,ag]
 ·have:l=[]:=bF (by omega)
  subst this
  simp only[bn,qN,cH (gE 0),al]
theorem fY.run:fY.RS:=rE [.d tU] fY
def fY.sg:=fY.gG fY.ok
def QB(l:List Int):Lk:=([(l,0,0,0,())],())
abbrev qL.D:=Bs
abbrev qL.Y:=Lk
def qL.aM:qL.D->Prop:=λl=>l.length<=1000000
def qL.F:qL.D->qL.Y:=λl=>QB l
def qL:Fs Tryz.prog qL.aM bP qL.F:=gC 71 Tryz.f71 (λl=>([.d tU l],[])) (λx=>⟨.d Hd x,[],[]⟩) [some tU] [fY.sg]
theorem qL.eq{R:Type}(l)(k:K1 R):qL.A l k=
 ah (fY.call l) λx1=>
 k (qL.out ([(x1,(0,(0,(0,()))))],())):=by kernel_rfl
theorem qL.ok:qL.Ok:=by
 intro l hl
 rw[qL.eq,fY.run (d:=l) hl]
 rfl
theorem qL.run:qL.RS:=rE [.d tU] qL
def qL.sg:=qL.gG qL.ok
abbrev nY.D:=Int
abbrev nY.Y:=Lk
def nY.aM:nY.D->Prop:=λ_=>True
def nY.F:nY.D->nY.Y:=λp=>QB [p]
def nY:Fs Tryz.prog nY.aM bP nY.F:=gC 17 Tryz.f17 (λp=>([.d tu p],[])) (λx=>⟨.d Hd x,[],[]⟩) [some tu] [qL.sg]
theorem nY.eq{R:Type}(p)(k:K1 R):nY.A p k=
 ah (qL.call [p]) λx1=>
 k (nY.out x1):=by kernel_rfl
theorem nY.ok:nY.Ok:=by
 intro p _
 rw[nY.eq,qL.run (d:=[p]) (by show [p].length<=_;simp)]
 rfl
theorem nY.run:nY.RS:=rE [.d tu] nY
def nY.sg:=nY.gG nY.ok
def oW(o:List Int)(ks:List Int):List Int:=ks.foldl (λo p=>o++kP p) o
def N8(o:List Int)(b:oV):List Int:=eh (eh (oW (eh o b.1.length) b.1) b.2.1) b.2.2.1++kP b.2.2.2.1
def yQ(l:Lk):List Int:=if lN l then l.1.foldl N8 (eh [] l.1.length) else []
theorem yP:∀(ks:List Int) (o:List Int),(oW o ks).length=o.length+8*ks.length
 |[],o=>rfl
 |k::ks,o=>by
  show(oW (o++kP k) ks).length=_
  rw[yP ks,ae,dB,aB];omega
theorem Jk(o:List Int)(b:oV)(h:b.1.length<=12):(N8 o b).length<=o.length+200:=by
 unfold N8
 have h1:=fE o b.1.length
 have h2:=yP b.1 (eh o b.1.length)
 have h3:=fE (oW (eh o b.1.length) b.1) b.2.1
 have h4:=fE (eh (oW (eh o b.1.length) b.1) b.2.1) b.2.2.1
 rw[ae,dB];omega
def Om(n:Int):Prop:=n<=9223372036854775807
def UY(b:oV):Prop:=b.1.length<=12/\Om b.2.1/\Om b.2.2.1
theorem QI{b:oV}(h:uk b=true):UY b:=by
 unfold uk xu at h
 simp only[aj,decide_eq_true_eq]at h
 obtain⟨h1,_,h2,h3,_⟩:=h
 exact⟨h1,by unfold Om;omega,by unfold Om;omega⟩
theorem Ih(o:List Int)(ks:List Int)(k:Nat)(h:k < ks.length):oW o (ks.drop k)=oW (o++kP ks[k]) (ks.drop (k+1)):=by rw[ax h];rfl
abbrev bU.L0.D:=Bs×(List oV)×Int×Int
abbrev bU.L0.Y:=Bs
abbrev bU.L1.D:=Bs×(List oV)×Int×Int×Bs×Int×Int×oV
abbrev bU.L1.Y:=Bs
abbrev bU.L1.X:=((List oV)×Int×Int×oV)×(Bs)
def bU.L1.add:bU.L1.D->bU.L1.Y->bU.L1.X:=λ(yU,rD,Cf,Cg,t28,t29,t30,n5) y=>((rD,Cf,Cg,n5),y)
abbrev bU.D:=Lk
abbrev bU.Y:=Bs
def bU.L1.aM:bU.L1.D->Prop:=λ(o,bs,n,i,ks,m,j,b)=>ks.length<=12/\o.length+8*ks.length<=80000000+8*j.toNat/\m=ks.length/\∃k:Nat,k<=ks.length/\j=k
def bU.L1.F:bU.L1.D->bU.L1.Y:=λ(o,bs,n,i,ks,m,j,b)=>oW o (ks.drop j.toNat)
def bU.L0.aM:bU.L0.D->Prop:=λ(o,bs,n,i)=>(∀b∈bs,UY b)/\bs.length<=4/\o.length<=1000+200*i.toNat/\n=bs.length/\∃k:Nat,k<=bs.length/\i=k
def bU.L0.F:bU.L0.D->bU.L0.Y:=λ(o,bs,n,i)=>(bs.drop i.toNat).foldl N8 o
def bU.aM:bU.D->Prop:=λl=>J6 l/\l.1.length<=9223372036854775807
def bU.F:bU.D->bU.Y:=λl=>yQ l
def bU.L0:Ls bU.L0.aM bP bU.L0.F:=rY (λ(outv,t16,t17,t18)=>⟨([.undef,.undef,.undef,.d tB outv]++aT 12 ([.d (.slice oK) t16,.d ti t17,.d ti t18]++aT 31 [])),[],(List.replicate 50 [])⟩) (λx=>(.exit 0,⟨([.undef,.undef,.undef,.d tB x]++aT 46 []),[],(List.replicate 50 [])⟩))
def bU.L1:Ls bU.L1.aM bU.L1.add bU.L1.F:=rY (λ(yU,rD,Cf,Cg,t28,t29,t30,n5)=>⟨([.undef,.undef,.undef,.d tB yU,.undef,.ptr (.new 5 0) 0 [] 0]++aT 10 ([.d (.slice oK) rD,.d ti Cf,.d ti Cg]++aT 9 ([.d tU t28,.d ti t29,.d ti t30]++aT 19 []))),[],(ct 5 ([[.obj 0 false (.d oK n5)]]++ct 44 []))⟩) (λx=>(.exit 2,⟨([.undef,.undef,.undef,.d tB x.2,.undef,.ptr (.new 5 0) 0 [] 0]++aT 10 ([.d (.slice oK) x.1.1,.d ti x.1.2.1,.d ti x.1.2.2.1]++aT 31 [])),[],(ct 5 ([[.obj 0 false (.d oK x.1.2.2.2)]]++ct 44 []))⟩))
def bU:Fs Tryz.prog bU.aM bP bU.F:=gC 146 Tryz.f146 (λl=>([.d Hd l],[])) (λx=>⟨.d tB x,[],[]⟩) [some Hd] [aW.sg,fO.sg,iG.sg] {loops:=pz [(5,{bo:=[3,16,17,18]}),(9,{bo:=[3,5,16,17,18,28,29,30],sites:=[5]})],outs:=py [(5,{bo:=[3]},{bo:=[2]}),(9,{bo:=[3,5,16,17,18],sites:=[5]},{bo:=[2]})],iX:=qg [(5,bU.L0.E),(9,bU.L1.E)],res:=[some tB]}
theorem bU.L0.run:bU.L0.RS:=rL [.d tB,.d (.slice oK),.d ti,.d ti] bU.L0
theorem bU.L0.step{R:Type}(outv t16 t17 t18)(kn:K2 R)(kx:K3 R):bU.R 0 bU.L0 (outv,t16,t17,t18) kn kx=
  aP ((jx t18 t17)) (
   aP (jn t18 (t16.length:Int)) (
   ah (fO.call (outv,(((List.length (nth oK t16 (Int.toNat t18)).1):Nat):Int))) λx1=>
   ah (bU.L1.call (x1,t16,t17,t18,(nth oK t16 (Int.toNat t18)).1,(((List.length (nth oK t16 (Int.toNat t18)).1):Nat):Int),0,(nth oK t16 (Int.toNat t18)))) λx2=>
   ah (fO.call (x2.2,x2.1.2.2.2.2.1)) λx3=>
   ah (fO.call (x3,x2.1.2.2.2.2.2.1)) λx4=>
   ah (iG.call (x4,x2.1.2.2.2.2.2.2.1)) λx5=>
   kn (bU.L0.st (x5,x2.1.1,x2.1.2.1,(cG .i64 x2.1.2.2.1 1)))) none) (
   bU.L0.go kx outv):=by kernel_rfl
theorem bU.L1.run:bU.L1.RS:=rL [.d tB,.d (.slice oK),.d ti,.d ti,.d tU,.d ti,.d ti,.d oK] bU.L1
theorem bU.L1.step{R:Type}(yU rD Cf Cg t28 t29 t30 n5)(kn:K2 R)(kx:K3 R):bU.R 1 bU.L1 (yU,rD,Cf,Cg,t28,t29,t30,n5) kn kx=
  aP ((jx t30 t29)) (
   aP (jn t30 (t28.length:Int)) (
   ah (iG.call (yU,(nth tu t28 (Int.toNat t30)))) λx1=>
   kn (bU.L1.st (x1,rD,Cf,Cg,t28,t29,(cG .i64 t30 1),n5))) none) (
   bU.L1.go kx ((rD,Cf,Cg,n5),yU)):=by kernel_rfl
theorem bU.eq{R:Type}(l)(k:K1 R):bU.A l k=
  ah (aW.call l) λx1=>
  aP ((!x1)) (
   k (bU.out ([]:List Int))) (
   ah (fO.call (([]:List Int),(l.1.length:Int))) λx2=>
   ah (bU.L0.call (x2,l.1,(l.1.length:Int),0)) λx9=>
   k (bU.out x9)):=by kernel_rfl
theorem bU.L1.ok:(bU.mL 1 bU.L1):=by
 refine(bU.oH 1 bU.L1) (λ(o,bs,n,i,ks,m,j,b)=>ks.length - j.toNat) ?_
 rintro⟨o,bs,n,i,ks,m,j,b⟩ ⟨Rk,hl,rfl,k,hk,rfl⟩
 have Rk:ks.length<=12:=Rk
 have hk:k<=ks.length:=hk
 have hl:o.length+8*ks.length<=80000000+8*(k:Int).toNat:=hl
 rw[aa]at hl
 by_cases h:k < ks.length
 ·left
  have n1:nth (.int .u64) ks k=ks[k]:=dz (t:= .int .u64) h
  refine⟨(o++kP ks[k],bs,n,i,ks,ks.length,((k+1:Nat):Int),b),⟨Rk,by rw[ae,dB,aa];omega,rfl,k+1,by omega,rfl⟩,by simp only[aa];omega,?_,λkn kx=> ?_⟩
  ·simp only[bU.L1.add,bU.L1.F,aa]
   rw[Ih _ _ _ h]
  ·rw[bU.L1.step]
   simp(disch:=omega) only[↓S1,↓if_pos,↓if_neg,if_pos,if_neg,if_true,if_false,S2,n1]
   rw[iG.run (d:=(o,ks[k])) (by show o.length<=90000000;omega)]
   rfl
 ·right
  obtain rfl:k=ks.length:=by omega
  intro R kn kx
  rw[bU.L1.step]
  simp(disch:=omega) only[↓S1,↓if_pos,↓if_neg,if_pos,if_neg,if_true,if_false,S2,bU.L1.add,bU.L1.F,aZ]
  rfl
theorem bU.L0.ok:(bU.mL 0 bU.L0):=by
 refine(bU.oH 0 bU.L0) (λ(o,bs,n,i)=>bs.length - i.toNat) ?_
 rintro⟨o,bs,n,i⟩ ⟨hb,h4,hl,rfl,k,hk,rfl⟩
 have h4:bs.length<=4:=h4
 have hk:k<=bs.length:=hk
 have hl:o.length<=1000+200*(k:Int).toNat:=hl
 rw[aa]at hl
 by_cases h:k < bs.length
 ·left
  have hx:=hb _ (aL h)
  have n1:nth (.pair (.slice (.int .u64)) (.pair (.int .i64) (.pair (.int .i64) (.pair (.int .u64) .unit)))) bs k=bs[k]:=dz (t:=(.pair (.slice (.int .u64)) (.pair (.int .i64) (.pair (.int .i64) (.pair (.int .u64) .unit))))) h
  have e0:=Jk o bs[k] hx.1
  refine⟨(N8 o bs[k],bs,bs.length,((k+1:Nat):Int)),⟨hb,h4,by rw[aa];omega,rfl,k+1,by omega,rfl⟩,by simp only[aa];omega,?_,λkn kx=> ?_⟩
  ·simp only[bP,bU.L0.F,aa]
   rw[ax h]
   rfl
  ·rw[bU.L0.step,bg (by omega),bG (by omega) (by omega),aa,n1]
   obtain⟨⟨ks,af,dl,sc,u⟩,TC⟩:∃b,bs[k]=b:=⟨_,rfl⟩
   rw[TC]at hx e0 ⊢
   obtain⟨LH,ha,hd⟩:=hx
   have LH:ks.length<=12:=LH
   have ha:af<=9223372036854775807:=ha
   have hd:dl<=9223372036854775807:=hd
   have l1:=fE o ks.length
   have l2:=yP ks (eh o ks.length)
   have l3:=fE (oW (eh o ks.length) ks) af
   have l4:=fE (eh (oW (eh o ks.length) ks) af) dl
   simp only[ag]
   rw[fO.run (d:=(o,(ks.length:Int))) ⟨by show o.length<=90000000;omega,by show(ks.length:Int)<=9223372036854775807;omega⟩]
   simp only[ab,bP,fO.F]
   rw[bU.L1.run (d:=(eh o ks.length,bs,bs.length,k,ks,ks.length,0,(ks,af,dl,sc,u))) ⟨LH,by show(eh o ks.length).length+8*ks.length<=_;omega,rfl,0,by omega,rfl⟩]
   simp only[ab,bU.L1.add,bU.L1.F,bN,aJ]
   rw[fO.run (d:=(oW (eh o ks.length) ks,af)) ⟨by show(oW (eh o ks.length) ks).length<=90000000;omega,ha⟩]
   simp only[ab,bP,fO.F]
   rw[fO.run (d:=(eh (oW (eh o ks.length) ks) af,dl)) ⟨by show(eh (oW (eh o ks.length) ks) af).length<=90000000;omega,hd⟩]
   simp only[ab,bP,fO.F]
   rw[iG.run (d:=(eh (eh (oW (eh o ks.length) ks) af) dl,sc)) (by show(eh (eh (oW (eh o ks.length) ks) af) dl).length<=90000000;omega)]
   simp only[ab,bP,iG.F]
   rw[N.p9 (by omega)]
   rfl
 ·right
  obtain rfl:k=bs.length:=by omega
  intro R kn kx
  rw[bU.L0.step]
  simp(disch:=omega) only[↓S1,↓if_pos,↓if_neg,if_pos,if_neg,if_true,if_false,S2,bP,bU.L0.F,aZ]
  rfl
theorem M7{l:Lk}(h:lN l=true):(∀b∈l.1,UY b)/\0 < l.1.length/\l.1.length<=4:=by
 unfold lN at h
 simp only[aj,dv,decide_eq_true_eq]at h
 exact⟨λb hb=>QI (h.1 b hb),h.2⟩
theorem bU.ok:bU.Ok:=by
 rintro l ⟨hl,hb⟩
 have hl:J6 l:=hl
 rw[bU.eq,aW.run (d:=l) ⟨hl,hb⟩]
 simp only[ab,bP,aW.F,bP,bU.F,yQ]
 cases jU:lN l
 ·rfl
 ·obtain⟨h1,h2,h3⟩:=M7 jU
  have l1:=fE [] l.1.length
  have l0:([]:List Int).length=0:=rfl
  simp only[dj,al,if_true]
  rw[fO.run (d:=([],(l.1.length:Int))) ⟨by show([]:List Int).length<=90000000;omega,by show(l.1.length:Int)<=9223372036854775807;omega⟩]
  simp only[ab,bP,fO.F]
  rw[bU.L0.run (d:=(eh [] l.1.length,l.1,l.1.length,0)) ⟨h1,h3,by show(eh [] l.1.length).length<=_;omega,rfl,0,by omega,rfl⟩]
  rfl
theorem xA(l:Lk):(yQ l).length<=1000:=by
 unfold yQ
 split
 ·rename_i h
  obtain⟨h1,h2,h3⟩:=M7 h
  have key:∀(bs:List oV) (o:List Int),(∀b∈bs,UY b)->(bs.foldl N8 o).length<=o.length+200*bs.length:=by
   intro bs
   induction bs with
   |nil=>intro o _;exact aw _
   |cons b bs ih=>
    intro o hb
    have e1:=ih (N8 o b) λx hx=>hb x (aF _ hx)
    have e2:=Jk o b (hb b aH).1
    rw[bT,aB];omega
  have e:=key l.1 (eh [] l.1.length) h1
  have e2:=fE [] l.1.length
  have l0:([]:List Int).length=0:=rfl
  omega
 ·exact aK _
theorem bU.run:bU.RS:=rE [.d Hd] bU
def bU.sg:=bU.gG bU.ok 2 ⟨.iR bU.L0.ok,⟨.iR bU.L1.ok,trivial⟩⟩
abbrev jd.D:=Bs×Bs
abbrev jd.Y:=Bs
def jd.aM:jd.D->Prop:=λ(b,h)=>b.length+h.length<=100000000/\h.length=32
def jd.F:jd.D->jd.Y:=λ(b,h)=>b++h
def jd:Fs Tryz.prog jd.aM bP jd.F:=gC 124 Tryz.f124 (λ(b,h)=>([.d tB b,.d tH h],[])) (λx=>⟨.d tB x,[],[]⟩) [some tB,some tH] [iP.sg]
theorem jd.eq{R:Type}(b h)(k:K1 R):jd.A (b,h) k=
 ah (iP.call (b,(cut h 0 32))) λx1=>
 k (jd.out x1):=by kernel_rfl
theorem jd.ok:jd.Ok:=by
 rintro⟨b,h⟩ ⟨h1,h2⟩
 have h1:b.length+h.length<=100000000:=h1
 have h2:h.length=32:=h2
 rw[jd.eq,gI h2,iP.run (d:=(b,h)) h1]
 rfl
theorem jd.run:jd.RS:=rE [.d tB,.d tB] jd
def jd.sg:=jd.gG jd.ok
abbrev kV.D:=Bs×Bs
abbrev kV.Y:=Bs
def kV.aM:kV.D->Prop:=λ(b,c)=>b.length+c.length<=90000000
def kV.F:kV.D->kV.Y:=λ(b,c)=>b++(iC c.length++c)
def kV:Fs Tryz.prog kV.aM bP kV.F:=gC 145 Tryz.f145 (λ(b,c)=>([.d tB b,.d tB c],[])) (λx=>⟨.d tB x,[],[]⟩) [some tB,some tB] [gR.sg,bm.sg] {res:=[some tB]}
theorem kV.eq{R:Type}(b c)(k:K1 R):kV.A (b,c) k=
 ah (gR.call (c.length:Int)) λx1=>
 ah (bm.call [b,x1,c]) λx2=>
 k (kV.out x2):=by kernel_rfl
theorem kV.ok:kV.Ok:=by
 rintro⟨b,c⟩ h
 have h:b.length+c.length<=90000000:=h
 have hl:=lB c.length
 rw[kV.eq,gR.run (d:=(c.length:Int)) ⟨by omega,by omega⟩]
 simp only[ab,bP,gR.F]
 rw[bm.run (d:=[b,iC c.length,c]) ⟨by show [b,iC c.length,c].length<=_;simp,by show oA [b,iC c.length,c]<=_;simp only[oA,jm,mz,bS,ae];omega⟩]
 simp only[ab,bP,bm.F,bP,kV.F,jm,mz,bS]
theorem kV.run:kV.RS:=rE [.d tB,.d tB] kV
def kV.sg:=kV.gG kV.ok
def Ae(b:List Int)(x:kC):List Int:=eh (b++x.1.1) x.1.2.1
def zS(b:List Int)(o:kO):List Int:=eh b o.1++(iC (yQ o.2.1).length++yQ o.2.1)
def qj(t:eZ):List Int:=eh (t.2.1.foldl zS (eh (t.1.foldl Ae (eh [] t.1.length)) t.2.1.length)) t.2.2.1
def B5(b:List Int)(s:Sg):List Int:=b++kP s.1++kP s.2.1
def I1(b:List Int)(x:kC):List Int:=x.2.1.2.1.foldl B5 (eh (eh b x.2.1.1) x.2.1.2.1.length)++kP x.2.1.2.2.1
def Ly(t:eZ):List Int:=if jk t then t.1.foldl I1 (qj t) else []
def lW(t:eZ):List Int:=if jk t then tag (cD (⟨#[116,120]⟩:ByteArray)) [qj t] else List.replicate 32 0
def XA(x:kC):Prop:=Sm x.1.1/\CE x.2.1/\x.2.1.2.1.length<=9223372036854775807
def rK(t:eZ):Prop:=U2 t/\(∀x∈t.1,XA x)/\t.2.2.1<=9223372036854775807
theorem mg:∀(l:List kC) (m:List (cd×Bool)),uo m l=true->∀x∈l,AY x=true
 |[],_,_,x,hx=>by cases hx
 |y::l,m,h,x,hx=>by
  rw[uo,aj,aj]at h
  rcases cX.1 hx with rfl | hx
  ·exact h.1.2
  ·exact mg l _ h.2 x hx
theorem lk:∀(l:List kO) (s:Int),sz s l=true->∀o∈l,(0<=o.1/\o.1<=1125899906842624)/\lN o.2.1=true
 |[],_,_,o,ho=>by cases ho
 |y::l,s,h,o,ho=>by
  rw[sz,aj,aj]at h
  rcases cX.1 ho with rfl | ho
  ·have h1:=h.1.1
   unfold xd sm at h1
   simp only[aj,decide_eq_true_eq]at h1
   exact⟨h1.2.1,h.1.2⟩
  ·exact lk l _ h.2 o ho
theorem tq{x:kC}(h:AY x=true):0<=x.1.2.1/\x.1.2.1 < 64/\0<=x.2.1.1/\x.2.1.1 < 4/\x.2.1.2.1.length<=12:=by
 unfold AY uh at h
 simp only[aj,decide_eq_true_eq]at h
 exact⟨h.1.1,h.1.2,h.2.1.1,h.2.1.2,h.2.2⟩
theorem kk{t:eZ}(h:jk t=true):(1<=t.1.length/\t.1.length<=64/\t.2.1.length<=64/\0<=t.2.2.1)/\uo [] t.1=true/\sz 0 t.2.1=true:=by
 unfold jk E5 at h
 simp only[aj,decide_eq_true_eq]at h
 exact h
theorem JB(b:List Int)(x:kC):(Ae b x).length<=b.length+x.1.1.length+11:=by
 have:=fE (b++x.1.1) x.1.2.1
 rw[ae]at this
 exact this
theorem GL(b:List Int)(o:kO):(zS b o).length<=b.length+1022:=by
 have h1:=fE b o.1
 have h2:=lB (yQ o.2.1).length
 have h3:=xA o.2.1
 unfold zS
 rw[ae,ae]
 omega
theorem G3(b:List Int)(s:Sg):(B5 b s).length=b.length+16:=by
 unfold B5
 rw[ae,ae,dB,dB]
abbrev bM.L0.D:=eZ×Bs×(List kC)×Int×Int
abbrev bM.L0.Y:=Bs
abbrev bM.L0.X:=(eZ)×(Bs)
def bM.L0.add:bM.L0.D->bM.L0.Y->bM.L0.X:=λ(vC,b,t13,t14,t15) y=>(vC,y)
abbrev bM.L1.D:=eZ×Bs×(List kO)×Int×Int
abbrev bM.L1.Y:=Bs
abbrev bM.L1.X:=(eZ)×(Bs)
def bM.L1.add:bM.L1.D->bM.L1.Y->bM.L1.X:=λ(Ao,rM,t35,t36,t37) y=>(Ao,y)
abbrev bM.D:=eZ
abbrev bM.Y:=Bs
def bM.L0.aM:bM.L0.D->Prop:=λ(t,b,l,n,i)=>(l).length<=1000000000/\∃k:Nat,k<=(l).length/\i=k/\n=(l).length/\(l.length<=64)/\(∀x∈l,x.1.1.length=32/\x.1.2.1<=9223372036854775807)/\(b.length<=100+50*k)
def bM.L0.F:bM.L0.D->bM.L0.Y:=λ(t,b,l,n,i)=>(List.drop (Int.toNat i) l).foldl Ae b
def bM.L1.aM:bM.L1.D->Prop:=λ(t,b,l,n,i)=>(l).length<=1000000000/\∃k:Nat,k<=(l).length/\i=k/\n=(l).length/\(l.length<=64)/\(∀o∈l,o.1<=9223372036854775807/\Sw o.2.1)/\(b.length<=4000+1100*k)
def bM.L1.F:bM.L1.D->bM.L1.Y:=λ(t,b,l,n,i)=>(List.drop (Int.toNat i) l).foldl zS b
def bM.aM:bM.D->Prop:=λt=>jk t=true/\rK t
def bM.F:bM.D->bM.Y:=λt=>qj t
def bM.L0:Ls bM.L0.aM bM.L0.add bM.L0.F:=rY (λ(vC,b,t13,t14,t15)=>⟨([.undef,.eD gU vC,.undef,.d tB b]++aT 9 ([.d (.slice jo) t13,.d ti t14,.d ti t15]++aT 38 [])),[],(List.replicate 54 [])⟩) (λx=>(.exit 0,⟨([.undef,.eD gU x.1,.undef,.d tB x.2]++aT 50 []),[],(List.replicate 54 [])⟩))
def bM.L1:Ls bM.L1.aM bM.L1.add bM.L1.F:=rY (λ(Ao,rM,t35,t36,t37)=>⟨([.undef,.eD gU Ao,.undef,.d tB rM]++aT 31 ([.d (.slice lO) t35,.d ti t36,.d ti t37]++aT 16 [])),[],(List.replicate 54 [])⟩) (λx=>(.exit 2,⟨([.undef,.eD gU x.1,.undef,.d tB x.2]++aT 50 []),[],(List.replicate 54 [])⟩))
def bM:Fs Tryz.prog bM.aM bP bM.F:=gC 73 Tryz.f73 (λt=>([.d gU t],[])) (λx=>⟨.d tB x,[],[]⟩) [some gU] [fO.sg,jd.sg,bU.sg,kV.sg] {loops:=pz [(3,{bo:=[1,3,13,14,15]}),(9,{bo:=[1,3,35,36,37]})],outs:=py [(3,{bo:=[1,3]},{bo:=[2]}),(9,{bo:=[1,3]},{bo:=[2]})],iX:=qg [(3,bM.L0.E),(9,bM.L1.E)],res:=[some tB]}
theorem bM.L0.run:bM.L0.RS:=rL [.d gU,.d tB,.d (.slice jo),.d ti,.d ti] bM.L0
theorem bM.L0.step{R:Type}(vC b t13 t14 t15)(kn:K2 R)(kx:K3 R):bM.R 0 bM.L0 (vC,b,t13,t14,t15) kn kx=
  aP ((jx t15 t14)) (
   aP (jn t15 (t13.length:Int)) (
   ah (jd.call (b,(nth jo t13 (Int.toNat t15)).1.1)) λx1=>
   ah (fO.call (x1,(nth jo t13 (Int.toNat t15)).1.2.1)) λx2=>
   kn (bM.L0.st (vC,x2,t13,t14,(cG .i64 t15 1)))) none) (
   bM.L0.go kx (vC,b)):=by kernel_rfl
theorem bM.L1.run:bM.L1.RS:=rL [.d gU,.d tB,.d (.slice lO),.d ti,.d ti] bM.L1
theorem bM.L1.step{R:Type}(Ao rM t35 t36 t37)(kn:K2 R)(kx:K3 R):bM.R 1 bM.L1 (Ao,rM,t35,t36,t37) kn kx=
  aP ((jx t37 t36)) (
   aP (jn t37 (t35.length:Int)) (
   ah (fO.call (rM,(nth lO t35 (Int.toNat t37)).1)) λx1=>
   ah (bU.call (nth lO t35 (Int.toNat t37)).2.1) λx2=>
   ah (kV.call (x1,x2)) λx3=>
   kn (bM.L1.st (Ao,x3,t35,t36,(cG .i64 t37 1)))) none) (
   bM.L1.go kx (Ao,rM)):=by kernel_rfl
theorem bM.eq{R:Type}(t)(k:K1 R):bM.A t k=
 ah (fO.call (([]:List Int),(t.1.length:Int))) λx1=>
 ah (bM.L0.call (t,x1,t.1,(t.1.length:Int),0)) λx4=>
 ah (fO.call (x4.2,(x4.1.2.1.length:Int))) λx5=>
 ah (bM.L1.call (x4.1,x5,x4.1.2.1,(x4.1.2.1.length:Int),0)) λx9=>
 ah (fO.call (x9.2,x9.1.2.2.1)) λCB=>
 k (bM.out CB):=by kernel_rfl
theorem bM.L0.ok:(bM.mL 0 bM.L0):=by
 refine(bM.oH 0 bM.L0) (λ(t,b,l,n,i)=>(l).length - Int.toNat i) ?_
 rintro⟨t,b,l,n,i⟩ ⟨hlen,k,hk,rfl,rfl,H4,hx,hb⟩
 have hlen:(l).length<=1000000000:=hlen
 have hk:k<=(l).length:=hk
 have H4:l.length<=64:=H4
 have hx:∀x∈l,x.1.1.length=32/\x.1.2.1<=9223372036854775807:=hx
 have hb:b.length<=100+50*k:=hb
 by_cases h:k < (l).length
 ·left
  have n1:nth jo l k=l[k]:=dz (t:=jo) h
  have hd:List.drop k l=l[k]::List.drop (k+1) l:=ax h
  refine⟨(t,(Ae b l[k]),l,((l).length:Int),((k+1:Nat):Int)),⟨hlen,k+1,by omega,rfl,rfl,H4,hx,by have:=JB b l[k];have:=(hx _ (aL h)).1;omega⟩,by simp only[aa];omega,?_,λkn kx=> ?_⟩
  ·simp only[bM.L0.add,bM.L0.F,aa,hd,bT]
  ·rw[bM.L0.step,bg (by omega),bG (by omega) (by omega),aa,n1]
   simp only[ag]
   have e:=hx _ (aL h)
   have e2:(b++l[k].1.1).length=b.length+l[k].1.1.length:=ae
   rw[jd.run (d:=(b,l[k].1.1)) ⟨by show b.length+l[k].1.1.length<=_;omega,e.1⟩]
   simp only[ab,bP,jd.F]
   rw[fO.run (d:=(b++l[k].1.1,l[k].1.2.1)) ⟨by show(b++l[k].1.1).length<=_;omega,e.2⟩]
   simp only[ab,bP,fO.F]
   rw[N.p9 (by omega)]
   rfl
 ·right
  obtain rfl:k=(l).length:=by omega
  intro R kn kx
  rw[bM.L0.step,aX (by omega),al]
  simp only[bM.L0.add,bM.L0.F,aa,aZ,dR]
theorem bM.L1.ok:(bM.mL 1 bM.L1):=by
 refine(bM.oH 1 bM.L1) (λ(t,b,l,n,i)=>(l).length - Int.toNat i) ?_
 rintro⟨t,b,l,n,i⟩ ⟨hlen,k,hk,rfl,rfl,H4,hx,hb⟩
 have hlen:(l).length<=1000000000:=hlen
 have hk:k<=(l).length:=hk
 have H4:l.length<=64:=H4
 have hx:∀o∈l,o.1<=9223372036854775807/\Sw o.2.1:=hx
 have hb:b.length<=4000+1100*k:=hb
 by_cases h:k < (l).length
 ·left
  have n1:nth lO l k=l[k]:=dz (t:=lO) h
  have hd:List.drop k l=l[k]::List.drop (k+1) l:=ax h
  refine⟨(t,(zS b l[k]),l,((l).length:Int),((k+1:Nat):Int)),⟨hlen,k+1,by omega,rfl,rfl,H4,hx,by have:=GL b l[k];omega⟩,by simp only[aa];omega,?_,λkn kx=> ?_⟩
  ·simp only[bM.L1.add,bM.L1.F,aa,hd,bT]
  ·rw[bM.L1.step,bg (by omega),bG (by omega) (by omega),aa,n1]
   simp only[ag]
   have e:=hx _ (aL h)
   have e1:=fE b l[k].1
   have e2:=xA l[k].2.1
   rw[fO.run (d:=(b,l[k].1)) ⟨by show b.length<=_;omega,e.1⟩]
   simp only[ab,bP,fO.F]
   rw[bU.run (d:=l[k].2.1) e.2]
   simp only[ab,bP,bU.F]
   rw[kV.run (d:=(eh b l[k].1,yQ l[k].2.1)) (by show(eh b l[k].1).length+(yQ l[k].2.1).length<=_;omega)]
   simp only[ab,bP,kV.F]
   rw[N.p9 (by omega)]
   rfl
 ·right
  obtain rfl:k=(l).length:=by omega
  intro R kn kx
  rw[bM.L1.step,aX (by omega),al]
  simp only[bM.L1.add,bM.L1.F,aa,aZ,dR]
theorem EH:∀(l:List kC) (b:List Int),(∀x∈l,x.1.1.length=32)->(l.foldl Ae b).length<=b.length+43*l.length
 |[],b,_=>aw _
 |x::l,b,h=>by
  have h1:=JB b x
  have h2:=h x aH
  have h3:=EH l (Ae b x) λy hy=>h y (aF _ hy)
  rw[bT,aB]
  omega
theorem BP:∀(l:List kO) (b:List Int),(l.foldl zS b).length<=b.length+1022*l.length
 |[],b=>aw _
 |x::l,b=>by
  have h1:=GL b x
  have h3:=BP l (zS b x)
  rw[bT,aB]
  omega
theorem BR{t:eZ}(jU:jk t=true)(hv:rK t):(qj t).length<=70000:=by
 obtain⟨⟨_,a2,a3,_⟩,_,_⟩:=kk jU
 have h1:=EH t.1 (eh [] t.1.length) λx hx=>(hv.2.1 x hx).1.1
 have h2:=fE [] t.1.length
 have h3:=fE (t.1.foldl Ae (eh [] t.1.length)) t.2.1.length
 have h4:=BP t.2.1 (eh (t.1.foldl Ae (eh [] t.1.length)) t.2.1.length)
 have h5:=fE (t.2.1.foldl zS (eh (t.1.foldl Ae (eh [] t.1.length)) t.2.1.length)) t.2.2.1
 have h0:([]:List Int).length=0:=rfl
 unfold qj
 omega
theorem bM.ok:bM.Ok:=by
 rintro t ⟨jU,hv⟩
 have hv:rK t:=hv
 obtain⟨⟨_,a2,a3,_⟩,b1,b2⟩:=kk jU
 have h0:([]:List Int).length=0:=rfl
 have l0:=fE [] t.1.length
 have l1:=EH t.1 (eh [] t.1.length) λx hx=>(hv.2.1 x hx).1.1
 have l2:=fE (t.1.foldl Ae (eh [] t.1.length)) t.2.1.length
 have l3:=BP t.2.1 (eh (t.1.foldl Ae (eh [] t.1.length)) t.2.1.length)
 rw[bM.eq,fO.run (d:=([],(t.1.length:Int))) ⟨by show([]:List Int).length<=_;omega,by show(t.1.length:Int)<=_;omega⟩]
 simp only[ab,bP,fO.F]
 rw[bM.L0.run (d:=(t,eh [] t.1.length,t.1,t.1.length,0)) ⟨by show t.1.length<=_;omega,0,aK _,rfl,rfl,a2,λx hx=>⟨(hv.2.1 x hx).1.1,by have:=tq (mg _ _ b1 x hx);omega⟩,by show(eh [] t.1.length).length<=_;omega⟩]
 simp only[ab,bM.L0.add,bM.L0.F,bN,aJ]
 rw[fO.run (d:=(t.1.foldl Ae (eh [] t.1.length),(t.2.1.length:Int))) ⟨by show(t.1.foldl Ae (eh [] t.1.length)).length<=_;omega,by show(t.2.1.length:Int)<=_;omega⟩]
 simp only[ab,bP,fO.F]
 rw[bM.L1.run (d:=(t,eh (t.1.foldl Ae (eh [] t.1.length)) t.2.1.length,t.2.1,t.2.1.length,0)) ⟨by show t.2.1.length<=_;omega,0,aK _,rfl,rfl,a3,λo ho=>⟨by have:=(lk _ _ b2 o ho).1;omega,hv.1.1 o ho⟩,by show(eh (t.1.foldl Ae (eh [] t.1.length)) t.2.1.length).length<=_;omega⟩]
 simp only[ab,bM.L1.add,bM.L1.F,bN,aJ]
 rw[fO.run (d:=(t.2.1.foldl zS (eh (t.1.foldl Ae (eh [] t.1.length)) t.2.1.length),t.2.2.1)) ⟨by show(t.2.1.foldl zS (eh (t.1.foldl Ae (eh [] t.1.length)) t.2.1.length)).length<=_;omega,hv.2.2⟩]
 rfl
theorem bM.run:bM.RS:=rE [.d gU] bM
def bM.sg:=bM.gG bM.ok 2 ⟨.iR bM.L0.ok,⟨.iR bM.L1.ok,trivial⟩⟩
def qp(n:Int)(x:kC):Int:=n+(10+8*x.2.1.2.1.length)+(if x.2.1.2.2.1=0 then 0 else 4)
def tO(t:eZ):Int:=if jk t then t.1.foldl qp (10+8*t.2.1.length) else 0
def dT(t:eZ):List cd:=if jk t then t.1.map (·.1) else []
def ua(id:List Int)(k n:Nat):List cd:=(List.range' k n).map λi:Nat=>(id,((i:Int),()))
def iq(t:eZ):List cd:=if jk t then ua (lW t) 0 t.2.1.length else []
abbrev tid.D:=eZ
abbrev tid.Y:=Bs
def tid.aM:tid.D->Prop:=λt=>rK t
def tid.F:tid.D->tid.Y:=λt=>lW t
def tid:Fs Tryz.prog tid.aM bP tid.F:=gC 18 Tryz.f18 (λt=>([.d gU t],[])) (λx=>⟨.d tH x,[],[]⟩) [some gU] [az.sg,bM.sg,fm.sg]
theorem tid.eq{R:Type}(t)(k:K1 R):tid.A t k=
  ah (az.call t) λx1=>
  aP ((!x1)) (
   k (tid.out (List.replicate 32 0))) (
   ah (bM.call t) λx2=>
   ah (fm.call ((⟨#[116,120]⟩:ByteArray),[x2])) λx3=>
   k (tid.out x3)):=by kernel_rfl
theorem tid.ok:tid.Ok:=by
 intro t hv
 have hv:rK t:=hv
 rw[tid.eq,az.run (d:=t) hv.1]
 simp only[ab,bP,az.F,bP,tid.F,lW]
 cases jU:jk t
 ·rfl
 ·have hl:=BR jU hv
  rw[bM.run (d:=t) ⟨jU,hv⟩]
  simp only[dj,al,if_true,ab,bP,bM.F]
  rw[fm.run (d:=((⟨#[116,120]⟩:ByteArray),[qj t])) (He (by decide) (by omega))]
  rfl
theorem tid.run:tid.RS:=rE [.d gU] tid
def tid.sg:=tid.gG tid.ok
abbrev cZ.L0.D:=Int×(List kC)×Int×Int
abbrev cZ.L0.Y:=Int
abbrev cZ.D:=eZ
abbrev cZ.Y:=Int
def cZ.L0.aM:cZ.L0.D->Prop:=λ(n,l,m,i)=>(l).length<=1000000000/\∃k:Nat,k<=(l).length/\i=k/\m=(l).length/\(l.length<=64)/\(∀x∈l,x.2.1.2.1.length<=12)/\(0<=n)/\(n<=1000+200*(k:Int))
def cZ.L0.F:cZ.L0.D->cZ.L0.Y:=λ(n,l,m,i)=>(List.drop (Int.toNat i) l).foldl qp n
def cZ.aM:cZ.D->Prop:=λt=>rK t
def cZ.F:cZ.D->cZ.Y:=λt=>tO t
def cZ.L0:Ls cZ.L0.aM bP cZ.L0.F:=rY (λ(n,t15,t16,t17)=>⟨([.undef,.undef,.undef,.d ti n]++aT 11 ([.d (.slice jo) t15,.d ti t16,.d ti t17]++aT 19 [])),[],(List.replicate 37 [])⟩) (λx=>(.exit 0,⟨([.undef,.undef,.undef,.d ti x]++aT 33 []),[],(List.replicate 37 [])⟩))
def cZ:Fs Tryz.prog cZ.aM bP cZ.F:=gC 278 Tryz.f278 (λt=>([.d gU t],[])) (λx=>⟨.d ti x,[],[]⟩) [some gU] [az.sg] {loops:=pz [(5,{bo:=[3,15,16,17]})],outs:=py [(5,{bo:=[3]},{bo:=[2]})],iX:=qg [(5,cZ.L0.E)]}
theorem cZ.L0.run:cZ.L0.RS:=rL [.d ti,.d (.slice jo),.d ti,.d ti] cZ.L0
theorem cZ.L0.step{R:Type}(n t15 t16 t17)(kn:K2 R)(kx:K3 R):cZ.R 0 cZ.L0 (n,t15,t16,t17) kn kx=
  aP ((jx t17 t16)) (
   aP (jn t17 (t15.length:Int)) (
   aP ((w9 (nth jo t15 (Int.toNat t17)).2.1.2.2.1 0)) (
    kn (cZ.L0.st ((cG .i64 (cG .i64 n (cG .i64 10 (jj .i64 8 (((List.length (nth jo t15 (Int.toNat t17)).2.1.2.1):Nat):Int)))) 4),t15,t16,(cG .i64 t17 1)))) (
    kn (cZ.L0.st ((cG .i64 n (cG .i64 10 (jj .i64 8 (((List.length (nth jo t15 (Int.toNat t17)).2.1.2.1):Nat):Int)))),t15,t16,(cG .i64 t17 1))))) none) (
   cZ.L0.go kx n):=by kernel_rfl
theorem cZ.eq{R:Type}(t)(k:K1 R):cZ.A t k=
  ah (az.call t) λx1=>
  aP ((!x1)) (
   k (cZ.out 0)) (
   ah (cZ.L0.call ((cG .i64 10 (jj .i64 8 (t.2.1.length:Int))),t.1,(t.1.length:Int),0)) λx2=>
   k (cZ.out x2)):=by kernel_rfl
theorem cZ.L0.ok:(cZ.mL 0 cZ.L0):=by
 refine(cZ.oH 0 cZ.L0) (λ(n,l,m,i)=>(l).length - Int.toNat i) ?_
 rintro⟨n,l,m,i⟩ ⟨hlen,k,hk,rfl,rfl,H4,hx,h0,h1⟩
 have hlen:(l).length<=1000000000:=hlen
 have hk:k<=(l).length:=hk
 have H4:l.length<=64:=H4
 have hx:∀x∈l,x.2.1.2.1.length<=12:=hx
 have h0:0<=n:=h0
 have h1:n<=1000+200*(k:Int):=h1
 by_cases h:k < (l).length
 ·left
  have n1:nth jo l k=l[k]:=dz (t:=jo) h
  have hd:List.drop k l=l[k]::List.drop (k+1) l:=ax h
  refine⟨((qp n l[k]),l,((l).length:Int),((k+1:Nat):Int)),⟨hlen,k+1,by omega,rfl,rfl,H4,hx,by unfold qp;split <;> omega,by have:=hx _ (aL h);unfold qp;split <;> omega⟩,by simp only[aa];omega,?_,λkn kx=> ?_⟩
  ·simp only[bP,cZ.L0.F,aa,hd,bT]
  ·rw[cZ.L0.step,bg (by omega),bG (by omega) (by omega),aa,n1]
   simp only[ag]
   have e:=hx _ (aL h)
   rw[N.Us (by omega)]
   have e2:cG .i64 10 ((8*l[k].2.1.2.1.length:Nat):Int)=10+8*(l[k].2.1.2.1.length:Int):=by rw[fX (by omega) (by omega)];omega
   rw[e2,fX (x:=n) (by omega) (by omega),N.p9 (by omega)]
   unfold qp
   by_cases hs:l[k].2.1.2.2.1=0
   ·rw[ff hs,al,if_pos hs,Int.add_zero]
   ·rw[iH hs,ag,if_neg hs,fX (by omega) (by omega)]
 ·right
  obtain rfl:k=(l).length:=by omega
  intro R kn kx
  rw[cZ.L0.step,aX (by omega),al]
  simp only[bP,cZ.L0.F,aa,aZ,dR]
theorem cZ.ok:cZ.Ok:=by
 intro t hv
 have hv:rK t:=hv
 rw[cZ.eq,az.run (d:=t) hv.1]
 simp only[ab,bP,az.F,bP,cZ.F,tO]
 cases jU:jk t
 ·rfl
 ·obtain⟨⟨_,a2,a3,_⟩,b1,b2⟩:=kk jU
  rw[N.Us (by omega),fX (by omega) (by omega),cZ.L0.run (d:=(10+((8*t.2.1.length:Nat):Int),t.1,t.1.length,0)) ⟨by show t.1.length<=_;omega,0,aK _,rfl,rfl,a2,λx hx=>(tq (mg _ _ b1 x hx)).2.2.2.2,by show(0:Int)<=10+((8*t.2.1.length:Nat):Int);omega,by show 10+((8*t.2.1.length:Nat):Int)<=_;omega⟩]
  simp only[ab,bP,cZ.L0.F,bN,aJ,dj,al,if_true,jX]
  rfl
theorem cZ.run:cZ.RS:=rE [.d gU] cZ
def cZ.sg:=cZ.gG cZ.ok 1 ⟨.iR cZ.L0.ok,trivial⟩
abbrev bV.L0.D:=Bs×(List kC)×Int×Int
abbrev bV.L0.Y:=Bs
abbrev bV.L1.D:=Bs×(List kC)×Int×Int×(List Sg)×Int×Int×kC
abbrev bV.L1.Y:=Bs
abbrev bV.L1.X:=((List kC)×Int×Int×kC)×(Bs)
def bV.L1.add:bV.L1.D->bV.L1.Y->bV.L1.X:=λ(rM,Cd,Ce,rD,t32,t33,t34,n5) y=>((Cd,Ce,rD,n5),y)
abbrev bV.D:=eZ
abbrev bV.Y:=Bs
def bV.L1.aM:bV.L1.D->Prop:=λ(b,l1,Vs,i1,l,n,i,x)=>(l).length<=1000000000/\∃k:Nat,k<=(l).length/\i=k/\n=(l).length/\(l.length<=12)/\(b.length<=80000000+16*k)
def bV.L1.F:bV.L1.D->bV.L1.Y:=λ(b,l1,Vs,i1,l,n,i,x)=>(List.drop (Int.toNat i) l).foldl B5 b
def bV.L0.aM:bV.L0.D->Prop:=λ(b,l,n,i)=>(l).length<=1000000000/\∃k:Nat,k<=(l).length/\i=k/\n=(l).length/\(l.length<=64)/\(∀x∈l,x.2.1.2.1.length<=12/\x.2.1.1<=9223372036854775807)/\(b.length<=100000+1000*k)
def bV.L0.F:bV.L0.D->bV.L0.Y:=λ(b,l,n,i)=>(List.drop (Int.toNat i) l).foldl I1 b
theorem B6:∀(l:List Sg) (b:List Int),(l.foldl B5 b).length=b.length+16*l.length
 |[],b=>rfl
 |x::l,b=>by
  have h1:=G3 b x
  have h3:=B6 l (B5 b x)
  rw[bT,aB]
  omega
theorem N0(b:List Int)(x:kC)(h:x.2.1.2.1.length<=12):(I1 b x).length<=b.length+300:=by
 have e1:=fE b x.2.1.1
 have e2:=fE (eh b x.2.1.1) x.2.1.2.1.length
 have e3:=B6 x.2.1.2.1 (eh (eh b x.2.1.1) x.2.1.2.1.length)
 unfold I1
 rw[ae,dB]
 omega
def bV.aM:bV.D->Prop:=λt=>rK t
def bV.F:bV.D->bV.Y:=λt=>Ly t
def bV.L0:Ls bV.L0.aM bP bV.L0.F:=rY (λ(b,t14,t15,t16)=>⟨([.undef,.undef,.undef,.d tB b]++aT 10 ([.d (.slice jo) t14,.d ti t15,.d ti t16]++aT 36 [])),[],(List.replicate 53 [])⟩) (λx=>(.exit 0,⟨([.undef,.undef,.undef,.d tB x]++aT 49 []),[],(List.replicate 53 [])⟩))
def bV.L1:Ls bV.L1.aM bV.L1.add bV.L1.F:=rY (λ(rM,Cd,Ce,rD,t32,t33,t34,n5)=>⟨([.undef,.undef,.undef,.d tB rM,.undef,.ptr (.new 5 0) 0 [] 0]++aT 8 ([.d (.slice jo) Cd,.d ti Ce,.d ti rD]++aT 15 ([.d (.slice yh) t32,.d ti t33,.d ti t34]++aT 18 []))),[],(ct 5 ([[.obj 0 false (.d jo n5)]]++ct 47 []))⟩) (λx=>(.exit 2,⟨([.undef,.undef,.undef,.d tB x.2,.undef,.ptr (.new 5 0) 0 [] 0]++aT 8 ([.d (.slice jo) x.1.1,.d ti x.1.2.1,.d ti x.1.2.2.1]++aT 36 [])),[],(ct 5 ([[.obj 0 false (.d jo x.1.2.2.2)]]++ct 47 []))⟩))
def bV:Fs Tryz.prog bV.aM bP bV.F:=gC 127 Tryz.f127 (λt=>([.d gU t],[])) (λx=>⟨.d tB x,[],[]⟩) [some gU] [az.sg,bM.sg,fO.sg,iG.sg] {loops:=pz [(5,{bo:=[3,14,15,16]}),(9,{bo:=[3,5,14,15,16,32,33,34],sites:=[5]})],outs:=py [(5,{bo:=[3]},{bo:=[2]}),(9,{bo:=[3,5,14,15,16],sites:=[5]},{bo:=[2]})],iX:=qg [(5,bV.L0.E),(9,bV.L1.E)],res:=[some tB]}
theorem bV.L0.run:bV.L0.RS:=rL [.d tB,.d (.slice jo),.d ti,.d ti] bV.L0
theorem bV.L0.step{R:Type}(b t14 t15 t16)(kn:K2 R)(kx:K3 R):bV.R 0 bV.L0 (b,t14,t15,t16) kn kx=
  aP ((jx t16 t15)) (
   aP (jn t16 (t14.length:Int)) (
   ah (fO.call (b,(nth jo t14 (Int.toNat t16)).2.1.1)) λx1=>
   ah (fO.call (x1,(((List.length (nth jo t14 (Int.toNat t16)).2.1.2.1):Nat):Int))) λx2=>
   ah (bV.L1.call (x2,t14,t15,t16,(nth jo t14 (Int.toNat t16)).2.1.2.1,(((List.length (nth jo t14 (Int.toNat t16)).2.1.2.1):Nat):Int),0,(nth jo t14 (Int.toNat t16)))) λx3=>
   ah (iG.call (x3.2,x3.1.2.2.2.2.1.2.2.1)) λx4=>
   kn (bV.L0.st (x4,x3.1.1,x3.1.2.1,(cG .i64 x3.1.2.2.1 1)))) none) (
   bV.L0.go kx b):=by kernel_rfl
theorem bV.L1.run:bV.L1.RS:=rL [.d tB,.d (.slice jo),.d ti,.d ti,.d (.slice yh),.d ti,.d ti,.d jo] bV.L1
theorem bV.L1.step{R:Type}(rM Cd Ce rD t32 t33 t34 n5)(kn:K2 R)(kx:K3 R):bV.R 1 bV.L1 (rM,Cd,Ce,rD,t32,t33,t34,n5) kn kx=
  aP ((jx t34 t33)) (
   aP (jn t34 (t32.length:Int)) (
   ah (iG.call (rM,(nth yh t32 (Int.toNat t34)).1)) λx1=>
   ah (iG.call (x1,(nth yh t32 (Int.toNat t34)).2.1)) λx2=>
   kn (bV.L1.st (x2,Cd,Ce,rD,t32,t33,(cG .i64 t34 1),n5))) none) (
   bV.L1.go kx ((Cd,Ce,rD,n5),rM)):=by kernel_rfl
theorem bV.eq{R:Type}(t)(k:K1 R):bV.A t k=
  ah (az.call t) λx1=>
  aP ((!x1)) (
   k (bV.out ([]:List Int))) (
   ah (bM.call t) λx2=>
   ah (bV.L0.call (x2,t.1,(t.1.length:Int),0)) λx9=>
   k (bV.out x9)):=by kernel_rfl
theorem bV.L1.ok:(bV.mL 1 bV.L1):=by
 refine(bV.oH 1 bV.L1) (λ(b,l1,Vs,i1,l,n,i,x)=>(l).length - Int.toNat i) ?_
 rintro⟨b,l1,Vs,i1,l,n,i,x⟩ ⟨hlen,k,hk,rfl,rfl,LH,hb⟩
 have hlen:(l).length<=1000000000:=hlen
 have hk:k<=(l).length:=hk
 have LH:l.length<=12:=LH
 have hb:b.length<=80000000+16*k:=hb
 by_cases h:k < (l).length
 ·left
  have n1:nth yh l k=l[k]:=dz (t:=yh) h
  have hd:List.drop k l=l[k]::List.drop (k+1) l:=ax h
  refine⟨((B5 b l[k]),l1,Vs,i1,l,((l).length:Int),((k+1:Nat):Int),x),⟨hlen,k+1,by omega,rfl,rfl,LH,by have:=G3 b l[k];omega⟩,by simp only[aa];omega,?_,λkn kx=> ?_⟩
  ·simp only[bV.L1.add,bV.L1.F,aa,hd,bT]
  ·rw[bV.L1.step,bg (by omega),bG (by omega) (by omega),aa,n1]
   simp only[ag]
   rw[iG.run (d:=(b,l[k].1)) (by show b.length<=_;omega)]
   simp only[ab,bP,iG.F]
   rw[iG.run (d:=(b++kP l[k].1,l[k].2.1)) (by show(b++kP l[k].1).length<=_;rw[ae,dB];omega)]
   simp only[ab,bP,iG.F]
   rw[N.p9 (by omega)]
   rfl
 ·right
  obtain rfl:k=(l).length:=by omega
  intro R kn kx
  rw[bV.L1.step,aX (by omega),al]
  simp only[bV.L1.add,bV.L1.F,aa,aZ,dR]
theorem bV.L0.ok:(bV.mL 0 bV.L0):=by
 refine(bV.oH 0 bV.L0) (λ(b,l,n,i)=>(l).length - Int.toNat i) ?_
 rintro⟨b,l,n,i⟩ ⟨hlen,k,hk,rfl,rfl,H4,hx,hb⟩
 have hlen:(l).length<=1000000000:=hlen
 have hk:k<=(l).length:=hk
 have H4:l.length<=64:=H4
 have hx:∀x∈l,x.2.1.2.1.length<=12/\x.2.1.1<=9223372036854775807:=hx
 have hb:b.length<=100000+1000*k:=hb
 by_cases h:k < (l).length
 ·left
  have n1:nth jo l k=l[k]:=dz (t:=jo) h
  have hd:List.drop k l=l[k]::List.drop (k+1) l:=ax h
  refine⟨((I1 b l[k]),l,((l).length:Int),((k+1:Nat):Int)),⟨hlen,k+1,by omega,rfl,rfl,H4,hx,by have:=N0 b l[k] (hx _ (aL h)).1;omega⟩,by simp only[aa];omega,?_,λkn kx=> ?_⟩
  ·simp only[bP,bV.L0.F,aa,hd,bT]
  ·rw[bV.L0.step,bg (by omega),bG (by omega) (by omega),aa,n1]
   simp only[ag]
   have e:=hx _ (aL h)
   have e1:=fE b l[k].2.1.1
   have e2:=fE (eh b l[k].2.1.1) l[k].2.1.2.1.length
   have e3:=B6 l[k].2.1.2.1 (eh (eh b l[k].2.1.1) l[k].2.1.2.1.length)
   rw[fO.run (d:=(b,l[k].2.1.1)) ⟨by show b.length<=_;omega,e.2⟩]
   simp only[ab,bP,fO.F]
   rw[fO.run (d:=(eh b l[k].2.1.1,(l[k].2.1.2.1.length:Int))) ⟨by show(eh b l[k].2.1.1).length<=_;omega,by show(l[k].2.1.2.1.length:Int)<=_;omega⟩]
   simp only[ab,bP,fO.F]
   rw[bV.L1.run (d:=(eh (eh b l[k].2.1.1) l[k].2.1.2.1.length,l,l.length,k,l[k].2.1.2.1,l[k].2.1.2.1.length,0,l[k])) ⟨by show l[k].2.1.2.1.length<=_;omega,0,aK _,rfl,rfl,e.1,by show(eh (eh b l[k].2.1.1) l[k].2.1.2.1.length).length<=_;omega⟩]
   simp only[ab,bV.L1.add,bV.L1.F,bN,aJ]
   rw[iG.run (d:=(l[k].2.1.2.1.foldl B5 (eh (eh b l[k].2.1.1) l[k].2.1.2.1.length),l[k].2.1.2.2.1)) (by show(l[k].2.1.2.1.foldl B5 (eh (eh b l[k].2.1.1) l[k].2.1.2.1.length)).length<=_;omega)]
   simp only[ab,bP,iG.F]
   rw[N.p9 (by omega)]
   rfl
 ·right
  obtain rfl:k=(l).length:=by omega
  intro R kn kx
  rw[bV.L0.step,aX (by omega),al]
  simp only[bP,bV.L0.F,aa,aZ,dR]
theorem bV.ok:bV.Ok:=by
 intro t hv
 have hv:rK t:=hv
 rw[bV.eq,az.run (d:=t) hv.1]
 simp only[ab,bP,az.F,bP,bV.F,Ly]
 cases jU:jk t
 ·rfl
 ·obtain⟨⟨_,a2,a3,_⟩,b1,b2⟩:=kk jU
  have hl:=BR jU hv
  rw[bM.run (d:=t) ⟨jU,hv⟩]
  simp only[dj,al,if_true,ab,bP,bM.F]
  rw[bV.L0.run (d:=(qj t,t.1,t.1.length,0)) ⟨by show t.1.length<=_;omega,0,aK _,rfl,rfl,a2,λx hx=>by have:=tq (mg _ _ b1 x hx);exact⟨this.2.2.2.2,by omega⟩,by show(qj t).length<=_;omega⟩]
  rfl
theorem bV.run:bV.RS:=rE [.d gU] bV
def bV.sg:=bV.gG bV.ok 2 ⟨.iR bV.L0.ok,⟨.iR bV.L1.ok,trivial⟩⟩
abbrev cQ.L0.D:=Nat×(List kC)×Int×Int×(List cd)
abbrev cQ.L0.Y:=Nat×(List cd)
abbrev cQ.D:=eZ
abbrev cQ.Y:=(List cd)
def cQ.L0.aM:cQ.L0.D->Prop:=λ(L,l,n,i,r)=>(l).length<=1000000/\∃k:Nat,k<=(l).length/\i=k/\n=(l).length/\L=(r).length/\(r).length<=1000000+k
def cQ.L0.F:cQ.L0.D->cQ.L0.Y:=λ(L,l,n,i,r)=>(L+(List.drop (Int.toNat i) l).length,r++(List.drop (Int.toNat i) l).map (λx:kC=>x.1))
def cQ.aM:cQ.D->Prop:=λt=>U2 t
def cQ.F:cQ.D->cQ.Y:=λt=>dT t
def cQ.L0:Ls cQ.L0.aM bP cQ.L0.F:=rY (λ(lL,t9,t10,t11,n19)=>⟨([.undef,.undef,.aS (.new 19 0) 0 [] 0 0 lL]++aT 6 ([.d (.slice jo) t9,.d ti t10,.d ti t11]++aT 10 [])),[],(ct 19 [[.obj 0 false (.vec 47 b8 n19)],[],[]])⟩) (λx=>(.exit 0,⟨([.undef,.undef,.aS (.new 19 0) 0 [] 0 0 x.1]++aT 19 []),[],(ct 19 [[.obj 0 false (.vec 47 b8 x.2)],[],[]])⟩))
def cQ:Fs Tryz.prog cQ.aM bP cQ.F:=gC 32 Tryz.f32 (λt=>([.d gU t],[])) (λx=>⟨.d (.slice b8) x,[],[]⟩) [some gU] [az.sg] {loops:=pz [(4,{bo:=[2,9,10,11],sites:=[19],owns:=[⟨2,[],19,58⟩]})],outs:=py [(4,{bo:=[2],sites:=[19]},{bo:=[2]})],iX:=qg [(4,cQ.L0.E)],res:=[some (.slice b8)]}
theorem cQ.L0.run:cQ.L0.RS:=rL [.n,.d (.slice jo),.d ti,.d ti,.d (.slice b8)] cQ.L0
theorem cQ.L0.step{R:Type}(lL t9 t10 t11 n19)(kn:K2 R)(kx:K3 R):cQ.R 0 cQ.L0 (lL,t9,t10,t11,n19) kn kx=
  aP ((jx t11 t10)) (
   aP (jn t11 (t9.length:Int)) (
   aP (decide (lL<=(List.length n19))) (
   aP (dZ (lL+1) 40) (
   kn (cQ.L0.st ((lL+1),t9,t10,(cG .i64 t11 1),((List.take lL n19)++ [(nth jo t9 (Int.toNat t11)).1])))) none) none) none) (
   cQ.L0.go kx (lL,n19)):=by kernel_rfl
theorem cQ.eq{R:Type}(t)(k:K1 R):cQ.A t k=
  ah (az.call t) λx1=>
  aP ((!x1)) (
   k (cQ.out ([]:List cd))) (
   ah (cQ.L0.call (0,t.1,(t.1.length:Int),0,([]:List cd))) λx2=>
   aP (decide (0=0/\(0+x2.1)<=(List.length x2.2))) (
   k (cQ.out (cut x2.2 0 x2.1))) none):=by kernel_rfl
theorem cQ.L0.ok:(cQ.mL 0 cQ.L0):=by
 refine(cQ.oH 0 cQ.L0) (λ(L,l,n,i,r)=>(l).length - Int.toNat i) ?_
 rintro⟨L,l,n,i,r⟩ ⟨hlen,k,hk,rfl,rfl,rfl,nC⟩
 have hlen:(l).length<=1000000:=hlen
 have hk:k<=(l).length:=hk
 have nC:(r).length<=1000000+k:=nC
 by_cases h:k < (l).length
 ·left
  have n1:nth jo l k=l[k]:=dz (t:=jo) h
  have hd:List.drop k l=l[k]::List.drop (k+1) l:=ax h
  refine⟨((r).length+1,l,((l).length:Int),((k+1:Nat):Int),r++ [(λx:kC=>x.1) l[k]]),⟨hlen,k+1,by omega,rfl,rfl,by rw[ae];rfl,by rw[ae];show(r).length+1<=_;omega⟩,by simp only[aa];omega,?_,λkn kx=> ?_⟩
  ·simp only[bP,cQ.L0.F,aa,hd,bX,aB,aD,dN]
   rw[show ∀a c:Nat,a+1+c=a+(c+1) from λa c=>by omega]
  ·rw[cQ.L0.step,bg (by omega),bG (show(0:Int)<=(k:Int) by omega) (by omega),aa,n1]
   simp only[ag]
   rw[aY (aw _),fg (by omega) (by omega),N.p9 (by omega),dh]
   rfl
 ·right
  obtain rfl:k=(l).length:=by omega
  intro R kn kx
  rw[cQ.L0.step,aX (by omega),al]
  simp only[bP,cQ.L0.F,aa,aZ,ij,bS,bn,cF]
theorem cQ.ok:cQ.Ok:=by
 intro t hv
 have hv:U2 t:=hv
 rw[cQ.eq,az.run (d:=t) hv]
 simp only[ab,bP,az.F,bP,cQ.F,dT]
 cases jU:jk t
 ·rfl
 ·obtain⟨⟨_,a2,a3,_⟩,b1,b2⟩:=kk jU
  rw[cQ.L0.run (d:=(0,t.1,t.1.length,0,[])) ⟨by show t.1.length<=_;omega,0,aK _,rfl,rfl,rfl,aK _⟩]
  simp only[dj,al,if_true,ab,bP,cQ.L0.F,bN,aJ,aR,aI]
  rw[aY ⟨by trivial,by rw[cK];exact aw _⟩,ag,gI (by rw[cK])]
theorem cQ.run:cQ.RS:=rE [.d gU] cQ
def cQ.sg:=cQ.gG cQ.ok 1 ⟨.iR cQ.L0.ok,trivial⟩
abbrev eI.L0.D:=Nat×Int×Int×Bs×(List cd)
abbrev eI.L0.Y:=Nat×(List cd)
abbrev eI.D:=eZ
abbrev eI.Y:=(List cd)
def eI.L0.aM:eI.L0.D->Prop:=λ(L,n,i,id,r)=>∃k m:Nat,k<=m/\i=k/\n=m/\m<=1000/\L=r.length/\L=k
def eI.L0.F:eI.L0.D->eI.L0.Y:=λ(L,n,i,id,r)=>(L+(n - i).toNat,r++ua id i.toNat (n - i).toNat)
def eI.aM:eI.D->Prop:=λt=>rK t
def eI.F:eI.D->eI.Y:=λt=>iq t
def eI.L0:Ls eI.L0.aM bP eI.L0.F:=rY (λ(lL,t12,t13,n3,n21)=>⟨([.undef,.undef,.aS (.new 21 0) 0 [] 0 0 lL,.ptr (.new 3 0) 0 [] 0]++aT 8 ([.d ti t12,.d ti t13]++aT 10 [])),[],([[],[],[],[.obj 0 false (.d tH n3)]]++ct 17 [[.obj 0 false (.vec 47 b8 n21)],[],[]])⟩) (λx=>(.exit 0,⟨([.undef,.undef,.aS (.new 21 0) 0 [] 0 0 x.1]++aT 21 []),[],(ct 21 [[.obj 0 false (.vec 47 b8 x.2)],[],[]])⟩))
def eI:Fs Tryz.prog eI.aM bP eI.F:=gC 33 Tryz.f33 (λt=>([.d gU t],[])) (λx=>⟨.d (.slice b8) x,[],[]⟩) [some gU] [tid.sg,az.sg] {loops:=pz [(5,{bo:=[2,3,12,13],sites:=[3,21],owns:=[⟨2,[],21,58⟩]})],outs:=py [(5,{bo:=[2],sites:=[21]},{bo:=[2]})],iX:=qg [(5,eI.L0.E)],res:=[some (.slice b8)]}
theorem eI.L0.run:eI.L0.RS:=rL [.n,.d ti,.d ti,.d tB,.d (.slice b8)] eI.L0
theorem eI.L0.step{R:Type}(lL t12 t13 n3 n21)(kn:K2 R)(kx:K3 R):eI.R 0 eI.L0 (lL,t12,t13,n3,n21) kn kx=
  aP ((jx t13 t12)) (
   aP (decide (lL<=(List.length n21))) (
   aP (dZ (lL+1) 40) (
   kn (eI.L0.st ((lL+1),t12,(cG .i64 t13 1),n3,((List.take lL n21)++ [(n3,(t13,()))])))) none) none) (
   eI.L0.go kx (lL,n21)):=by kernel_rfl
theorem eI.eq{R:Type}(t)(k:K1 R):eI.A t k=
  ah (tid.call t) λx1=>
  ah (az.call t) λx2=>
  aP ((!x2)) (
   k (eI.out ([]:List cd))) (
   ah (eI.L0.call (0,(t.2.1.length:Int),0,x1,([]:List cd))) λx3=>
   aP (decide (0=0/\(0+x3.1)<=(List.length x3.2))) (
   k (eI.out (cut x3.2 0 x3.1))) none):=by kernel_rfl
theorem KU(id:List Int)(k n:Nat):(ua id k n).length=n:=by simp[ua]
theorem Io(id:List Int)(k n:Nat):ua id k (n+1)=(id,((k:Int),()))::ua id (k+1) n:=by
 unfold ua
 rw[List.range'_succ,bX]
theorem eI.L0.ok:(eI.mL 0 eI.L0):=by
 refine(eI.oH 0 eI.L0) (λ(L,n,i,id,r)=>(n - i).toNat) ?_
 rintro⟨L,n,i,id,r⟩ ⟨k,m,hk,rfl,rfl,hm,rfl,X8⟩
 have X8:r.length=k:=X8
 by_cases h:k < m
 ·left
  have e1:((m:Int) - (k:Int)).toNat=(m - (k+1))+1:=by omega
  have e2:((m:Int) - ((k+1:Nat):Int)).toNat=m - (k+1):=by omega
  refine⟨(r.length+1,(m:Int),((k+1:Nat):Int),id,r++ [(id,((k:Int),()))]),⟨k+1,m,by omega,rfl,rfl,hm,by rw[ae];rfl,by show r.length+1=_;omega⟩,by show((m:Int) - ((k+1:Nat):Int)).toNat < ((m:Int) - (k:Int)).toNat;omega,?_,λkn kx=> ?_⟩
  ·simp only[bP,eI.L0.F,e1,e2,aa,Io,aD,dN]
   rw[show r.length+1+(m - (k+1))=r.length+(m - (k+1)+1) by omega]
  ·rw[eI.L0.step,bg (by omega),aY (aw _),fg (by omega) (by omega),N.p9 (by omega),dh]
   rfl
 ·right
  obtain rfl:k=m:=by omega
  intro R kn kx
  rw[eI.L0.step,aX (by omega),al]
  simp only[bP,eI.L0.F,Int.sub_self,bN,cF]
  rw[show ua id (k:Int).toNat 0=[] from rfl,bS]
theorem eI.ok:eI.Ok:=by
 intro t hv
 have hv:rK t:=hv
 rw[eI.eq,tid.run (d:=t) hv,az.run (d:=t) hv.1]
 simp only[ab,bP,tid.F,bP,az.F,bP,eI.F,iq]
 cases jU:jk t
 ·rfl
 ·obtain⟨⟨_,a2,a3,_⟩,b1,b2⟩:=kk jU
  have hl:=KU (lW t) 0 t.2.1.length
  rw[eI.L0.run (d:=(0,t.2.1.length,0,lW t,[])) ⟨0,t.2.1.length,aK _,rfl,rfl,by omega,rfl,rfl⟩]
  simp only[dj,al,if_true,ab,bP,eI.L0.F,mw,aa,bN,aR,aI]
  rw[aY ⟨by trivial,by rw[hl];exact aw _⟩,ag,gI hl]
theorem eI.run:eI.RS:=rE [.d gU] eI
def eI.sg:=eI.gG eI.ok 1 ⟨.iR eI.L0.ok,trivial⟩
abbrev oP.D:=(List kC)
abbrev oP.Y:=Nat×(List kC)
def oP.aM:oP.D->Prop:=λl=>l.length<=1000000
def oP.F:oP.D->oP.Y:=λl=>(l.length,l)
def oP:Fs Tryz.prog oP.aM bP oP.F:=gC 138 Tryz.f138 (λsv=>([.d (.slice jo) sv],[])) (λx=>⟨.aS (.new 0 0) 0 [] 0 0 x.1,[],[.obj 0 false (.vec 52 jo x.2)]⟩) [some (.slice jo)] [] {bK:=[5],owns:=[⟨2,[],5,38⟩]}
theorem oP.eq{R:Type}(sv)(k:K1 R):oP.A sv k=
  aP (decide (0 < (List.length sv))) (
   aP (dZ (0+(List.length sv)) 80) (
   k (oP.out ((0+(List.length sv)),((List.take 0 (List.replicate 0 (((List.replicate 32 0),(0,())),((0,(([]:List Sg),(0,()))),()))))++sv)))) none) (
   nd (
    k (oP.out (0,([]:List kC)))) (
    aP (dZ (0+(List.length sv)) 80) (
    k (oP.out ((0+(List.length sv)),((List.take 0 (List.replicate 0 (((List.replicate 32 0),(0,())),((0,(([]:List Sg),(0,()))),()))))++sv)))) none)):=by kernel_rfl
theorem oP.ok:oP.Ok:=by
 intro l hl
 have hl:l.length<=1000000:=hl
 have hr:dZ l.length 80=true:=fg (by omega) (by omega)
 rw[oP.eq]
 simp only[aI,hr,ag,eF,aR,bP,oP.F]
 by_cases h:0 < l.length
 ·simp only[aY h,ag]
 ·have:l=[]:=bF (by omega)
  subst this
  simp only[bn,qN,cH (gE 0),al]
theorem oP.run:oP.RS:=rE [.d (.slice jo)] oP
def oP.sg:=oP.gG oP.ok
abbrev ko.D:=(List kO)
abbrev ko.Y:=Nat×(List kO)
def ko.aM:ko.D->Prop:=λl=>l.length<=1000000
def ko.F:ko.D->ko.Y:=λl=>(l.length,l)
def ko:Fs Tryz.prog ko.aM bP ko.F:=gC 139 Tryz.f139 (λsv=>([.d (.slice lO) sv],[])) (λx=>⟨.aS (.new 0 0) 0 [] 0 0 x.1,[],[.obj 0 false (.vec 36 lO x.2)]⟩) [some (.slice lO)] [] {bK:=[5],owns:=[⟨2,[],5,37⟩]}
theorem ko.eq{R:Type}(sv)(k:K1 R):ko.A sv k=
  aP (decide (0 < (List.length sv))) (
   aP (dZ (0+(List.length sv)) 32) (
   k (ko.out ((0+(List.length sv)),((List.take 0 (List.replicate 0 (0,((([]:List oV),()),()))))++sv)))) none) (
   nd (
    k (ko.out (0,([]:List kO)))) (
    aP (dZ (0+(List.length sv)) 32) (
    k (ko.out ((0+(List.length sv)),((List.take 0 (List.replicate 0 (0,((([]:List oV),()),()))))++sv)))) none)):=by kernel_rfl
theorem ko.ok:ko.Ok:=by
 intro l hl
 have hl:l.length<=1000000:=hl
 have hr:dZ l.length 32=true:=fg (by omega) (by omega)
 rw[ko.eq]
 simp only[aI,hr,ag,eF,aR,bP,ko.F]
 by_cases h:0 < l.length
 ·simp only[aY h,ag]
 ·have:l=[]:=bF (by omega)
  subst this
  simp only[bn,qN,cH (gE 0),al]
theorem ko.run:ko.RS:=rE [.d (.slice lO)] ko
def ko.sg:=ko.gG ko.ok
abbrev mX.D:=(List oV)
abbrev mX.Y:=Nat×(List oV)
def mX.aM:mX.D->Prop:=λl=>l.length<=1000000
def mX.F:mX.D->mX.Y:=λl=>(l.length,l)
def mX:Fs Tryz.prog mX.aM bP mX.F:=gC 141 Tryz.f141 (λsv=>([.d (.slice oK) sv],[])) (λx=>⟨.aS (.new 0 0) 0 [] 0 0 x.1,[],[.obj 0 false (.vec 29 oK x.2)]⟩) [some (.slice oK)] [] {bK:=[5],owns:=[⟨2,[],5,32⟩]}
theorem mX.eq{R:Type}(sv)(k:K1 R):mX.A sv k=
  aP (decide (0 < (List.length sv))) (
   aP (dZ (0+(List.length sv)) 48) (
   k (mX.out ((0+(List.length sv)),((List.take 0 (List.replicate 0 (([]:List Int),(0,(0,(0,()))))))++sv)))) none) (
   nd (
    k (mX.out (0,([]:List oV)))) (
    aP (dZ (0+(List.length sv)) 48) (
    k (mX.out ((0+(List.length sv)),((List.take 0 (List.replicate 0 (([]:List Int),(0,(0,(0,()))))))++sv)))) none)):=by kernel_rfl
theorem mX.ok:mX.Ok:=by
 intro l hl
 have hl:l.length<=1000000:=hl
 have hr:dZ l.length 48=true:=fg (by omega) (by omega)
 rw[mX.eq]
 simp only[aI,hr,ag,eF,aR,bP,mX.F]
 by_cases h:0 < l.length
 ·simp only[aY h,ag]
 ·have:l=[]:=bF (by omega)
  subst this
  simp only[bn,qN,cH (gE 0),al]
theorem mX.run:mX.RS:=rE [.d (.slice oK)] mX
def mX.sg:=mX.gG mX.ok
abbrev kq.D:=(List Sg)
abbrev kq.Y:=(List Sg)
def kq.aM:kq.D->Prop:=λl=>l.length<=1000000
def kq.F:kq.D->kq.Y:=λl=>l
def kq:Fs Tryz.prog kq.aM bP kq.F:=gC 140 Tryz.f140 (λsv=>([.d (.slice yh) sv],[])) (λx=>⟨.d (.slice yh) x,[],[]⟩) [some (.slice yh)] [] {bK:=[5],res:=[some (.slice yh)]}
theorem kq.eq{R:Type}(sv)(k:K1 R):kq.A sv k=
  aP (decide (0 < (List.length sv))) (
   aP (dZ (0+(List.length sv)) 16) (
   aP (decide (0=0/\(0+(0+(List.length sv)))<=(List.length ((List.take 0 (List.replicate 0 (0,(0,()))))++sv)))) (
   k (kq.out (cut ((List.take 0 (List.replicate 0 (0,(0,()))))++sv) 0 (0+(List.length sv))))) none) none) (
   nd (
    k (kq.out ([]:List Sg))) (
    aP (dZ (0+(List.length sv)) 16) (
    aP (decide (0=0/\(0+(0+(List.length sv)))<=(List.length ((List.take 0 (List.replicate 0 (0,(0,()))))++sv)))) (
    k (kq.out (cut ((List.take 0 (List.replicate 0 (0,(0,()))))++sv) 0 (0+(List.length sv))))) none) none)):=by kernel_rfl
theorem kq.ok:kq.Ok:=by
 intro l hl
 have hl:l.length<=1000000:=hl
 have hr:dZ l.length 16=true:=fg (by omega) (by omega)
 rw[kq.eq]
 simp only[aI,hr,ag,eF,aR,aw,and_self,decide_true,gI,bP,kq.F]
 by_cases h:0 < l.length
 ·simp only[aY h,ag]
 ·have:l=[]:=bF (by omega)
  subst this
  simp only[bn,qN,cH (gE 0),al]
theorem kq.run:kq.RS:=rE [.d (.slice yh)] kq
def kq.sg:=kq.gG kq.ok
abbrev aQ.L0.D:=Int×Int×Nat×Nat×(Int×Unit)×(Int×Unit)×(List kC)×(List kO)
abbrev aQ.L0.Y:=(List kC)
abbrev aQ.L0.X:=(Nat×Nat×(Int×Unit)×(Int×Unit)×(List kO))×((List kC))
def aQ.L0.add:aQ.L0.D->aQ.L0.Y->aQ.L0.X:=λ(t17,t18,O7,Bp,n1,n2,n9,n12) y=>((O7,Bp,n1,n2,n12),y)
abbrev aQ.L1.D:=Int×Int×Nat×Nat×(Int×Unit)×(Int×Unit)×(List kC)×(List kO)
abbrev aQ.L1.Y:=Nat×Nat×(Int×Unit)×(Int×Unit)×(List kC)×(List kO)
abbrev aQ.L2.D:=Int×Nat×Int×Int×Int×Int×Nat×Nat×(Int×Unit)×(Int×Unit)×(List kC)×(List kO)×(List oV)
abbrev aQ.L2.Y:=(List oV)×(List oV)
abbrev aQ.L2.X:=(Int×Int×Int×Nat×Nat×(Int×Unit)×(Int×Unit)×(List kC)×(List kO))×((List oV)×(List oV))
def aQ.L2.add:aQ.L2.D->aQ.L2.Y->aQ.L2.X:=λ(kv,lL,Ch,Ci,t51,t52,Bq,Br,Ir,nK,Iu,Bl,n49) y=>((kv,Ch,Ci,Bq,Br,Ir,nK,Iu,Bl),y)
abbrev aQ.D:=eZ
abbrev aQ.Y:=Nat×((List kO)×(Int×Unit))×(List kC)
def aQ.L0.aM:aQ.L0.D->Prop:=λ(m,i,L,L2,u,v,l,os)=>(l.length<=1000/\∀x∈l,x.2.1.2.1.length<=1000000)/\∃k:Nat,k<=l.length/\i=k/\m=l.length/\L=l.length
def aQ.L0.F:aQ.L0.D->aQ.L0.Y:=λ(m,i,L,L2,u,v,l,os)=>l
def aQ.L2.aM:aQ.L2.D->Prop:=λ(kv,L,m1,i1,m,i,L5,L6,u,v,ls,os,bs)=>(bs.length<=1000/\∀x∈bs,x.1.length<=1000000)/\∃k:Nat,k<=bs.length/\i=k/\m=bs.length/\L=bs.length
def aQ.L2.F:aQ.L2.D->aQ.L2.Y:=λ(kv,L,m1,i1,m,i,L5,L6,u,v,ls,os,bs)=>(bs,bs)
def aQ.L1.aM:aQ.L1.D->Prop:=λ(m,i,L3,L,u,v,ls,os)=>(os.length<=1000/\∀x∈os,x.2.1.1.length<=1000/\∀b∈x.2.1.1,b.1.length<=1000000)/\∃k:Nat,k<=os.length/\i=k/\m=os.length/\L=os.length
def aQ.L1.F:aQ.L1.D->aQ.L1.Y:=λ(m,i,L3,L,u,v,ls,os)=>(L3,L,u,v,ls,os)
def aQ.aM:aQ.D->Prop:=λt=>jk t=true
def aQ.F:aQ.D->aQ.Y:=λt=>(t.1.length,(t.2.1,t.2.2),t.1)
def aQ.L0:Ls aQ.L0.aM aQ.L0.add aQ.L0.F:=rY (λ(t17,t18,O7,Bp,n1,n2,n9,n12)=>⟨([.undef,.ptr (.new 1 0) 0 [] 0,.ptr (.new 2 0) 0 [] 0]++aT 14 ([.d ti t17,.d ti t18]++aT 56 [])),[],([[],[.obj 0 false (.pr (.aS (.new 9 0) 0 [] 0 0 O7) (.pr (.aS (.new 12 0) 0 [] 0 0 Bp) (.d (.pair ti .unit) n1)))],[.obj 0 false (.pr (.di) (.pr (.di) (.d (.pair ti .unit) n2)))]]++ct 6 ([[.obj 0 false (.vec 52 jo n9)],[],[],[.obj 0 false (.vec 36 lO n12)]]++ct 62 []))⟩) (λx=>(.exit 0,⟨([.undef,.ptr (.new 1 0) 0 [] 0,.ptr (.new 2 0) 0 [] 0]++aT 72 []),[],([[],[.obj 0 false (.pr (.aS (.new 9 0) 0 [] 0 0 x.1.1) (.pr (.aS (.new 12 0) 0 [] 0 0 x.1.2.1) (.d (.pair ti .unit) x.1.2.2.1)))],[.obj 0 false (.pr (.di) (.pr (.di) (.d (.pair ti .unit) x.1.2.2.2.1)))]]++ct 6 ([[.obj 0 false (.vec 52 jo x.2)],[],[],[.obj 0 false (.vec 36 lO x.1.2.2.2.2)]]++ct 62 []))⟩))
def aQ.L1:Ls aQ.L1.aM bP aQ.L1.F:=rY (λ(t38,t39,Gy,DF,Nc,lz,xG,Bk)=>⟨([.undef,.ptr (.new 1 0) 0 [] 0,.ptr (.new 2 0) 0 [] 0]++aT 35 ([.d ti t38,.d ti t39]++aT 35 [])),[],([[],[.obj 0 false (.pr (.aS (.new 9 0) 0 [] 0 0 Gy) (.pr (.aS (.new 12 0) 0 [] 0 0 DF) (.d (.pair ti .unit) Nc)))],[.obj 0 false (.pr (.di) (.pr (.di) (.d (.pair ti .unit) lz)))]]++ct 6 ([[.obj 0 false (.vec 52 jo xG)],[],[],[.obj 0 false (.vec 36 lO Bk)]]++ct 62 []))⟩) (λx=>(.exit 2,⟨([.undef,.ptr (.new 1 0) 0 [] 0,.ptr (.new 2 0) 0 [] 0]++aT 72 []),[],([[],[.obj 0 false (.pr (.aS (.new 9 0) 0 [] 0 0 x.1) (.pr (.aS (.new 12 0) 0 [] 0 0 x.2.1) (.d (.pair ti .unit) x.2.2.1)))],[.obj 0 false (.pr (.di) (.pr (.di) (.d (.pair ti .unit) x.2.2.2.1)))]]++ct 6 ([[.obj 0 false (.vec 52 jo x.2.2.2.2.1)],[],[],[.obj 0 false (.vec 36 lO x.2.2.2.2.2)]]++ct 62 []))⟩))
def aQ.L2:Ls aQ.L2.aM aQ.L2.add aQ.L2.F:=rY (λ(kv,lL,Ch,Ci,t51,t52,Bq,Br,Ir,nK,Iu,Bl,n49)=>⟨([.undef,.ptr (.new 1 0) 0 [] 0,.ptr (.new 2 0) 0 [] 0,.undef,.d ti kv,.aS (.new 49 0) 0 [] 0 0 lL]++aT 32 ([.d ti Ch,.d ti Ci]++aT 11 ([.d ti t51,.d ti t52]++aT 22 []))),[],([[],[.obj 0 false (.pr (.aS (.new 9 0) 0 [] 0 0 Bq) (.pr (.aS (.new 12 0) 0 [] 0 0 Br) (.d (.pair ti .unit) Ir)))],[.obj 0 false (.pr (.di) (.pr (.di) (.d (.pair ti .unit) nK)))]]++ct 6 ([[.obj 0 false (.vec 52 jo Iu)],[],[],[.obj 0 false (.vec 36 lO Bl)]]++ct 36 ([[.obj 0 false (.vec 29 oK n49)]]++ct 25 [])))⟩) (λx=>(.exit 4,⟨([.undef,.ptr (.new 1 0) 0 [] 0,.ptr (.new 2 0) 0 [] 0,.undef,.d ti x.1.1,.d (.slice oK) x.2.1]++aT 32 ([.d ti x.1.2.1,.d ti x.1.2.2.1]++aT 35 [])),[],([[],[.obj 0 false (.pr (.aS (.new 9 0) 0 [] 0 0 x.1.2.2.2.1) (.pr (.aS (.new 12 0) 0 [] 0 0 x.1.2.2.2.2.1) (.d (.pair ti .unit) x.1.2.2.2.2.2.1)))],[.obj 0 false (.pr (.di) (.pr (.di) (.d (.pair ti .unit) x.1.2.2.2.2.2.2.1)))]]++ct 6 ([[.obj 0 false (.vec 52 jo x.1.2.2.2.2.2.2.2.1)],[],[],[.obj 0 false (.vec 36 lO x.1.2.2.2.2.2.2.2.2)]]++ct 36 ([[.obj 0 true (.vec 29 oK x.2.2)]]++ct 25 [])))⟩))
def aQ:Fs Tryz.prog aQ.aM bP aQ.F:=gC 70 Tryz.f70 (λt=>([.d gU t],[])) (λx=>⟨.pr (.aS (.new 0 0) 0 [] 0 0 x.1) (.d (.pair (.slice lO) (.pair ti .unit)) x.2.1),[],[.obj 0 false (.vec 52 jo x.2.2)]⟩) [some gU] [oP.sg,ko.sg,kq.sg,mX.sg,fY.sg] {bK:=[1],loops:=pz [(3,{bo:=[1,2,17,18],sites:=[1,2,9,12]}),(8,{bo:=[1,2,38,39],sites:=[1,2,9,12]}),(12,{bo:=[1,2,4,5,38,39,51,52],sites:=[1,2,9,12,49]})],outs:=py [(3,{bo:=[1,2],sites:=[1,2,9,12]},{bo:=[2]}),(8,{bo:=[1,2],sites:=[1,2,9,12]},{bo:=[2]}),(12,{bo:=[1,2,4,5,38,39],sites:=[1,2,9,12,49],data:=[(5,(.slice oK))]},{bo:=[2]})],iX:=qg [(3,aQ.L0.E),(8,aQ.L1.E),(12,aQ.L2.E)],Az:=[⟨2,[.snd,.fst],(.slice lO)⟩]}
theorem aQ.L0.run:aQ.L0.RS:=rL [.d ti,.d ti,.n,.n,.d (.pair ti .unit),.d (.pair ti .unit),.d (.slice jo),.d (.slice lO)] aQ.L0
theorem aQ.L0.step{R:Type}(t17 t18 O7 Bp n1 n2 n9 n12)(kn:K2 R)(kx:K3 R):aQ.R 0 aQ.L0 (t17,t18,O7,Bp,n1,n2,n9,n12) kn kx=
  aP ((jx t18 t17)) (
   aP (jn t18 ((O7:Nat):Int)) (
   aP (decide ((0+(Int.toNat t18)) < (List.length n9))) (
   aP (decide ((((0+(Int.toNat t18))*36)+34)=(((0+((Int.toNat t18)*36))+33)+1))) (
   ah (kq.call (nth jo n9 (0+(Int.toNat t18))).2.1.2.1) λx1=>
   aP (jn t18 ((O7:Nat):Int)) (
   aP (decide ((0+(Int.toNat t18)) < (List.length n9))) (
   aP (decide ((((0+(Int.toNat t18))*36)+34)=(((0+((Int.toNat t18)*36))+33)+1))) (
   aP (decide ((0+(Int.toNat t18)) < (List.length n9))) (
   kn (aQ.L0.st (t17,(cG .i64 t18 1),O7,Bp,n1,n2,(List.set n9 (0+(Int.toNat t18)) ((nth jo n9 (0+(Int.toNat t18))).1,(((nth jo n9 (0+(Int.toNat t18))).2.1.1,(x1,(nth jo n9 (0+(Int.toNat t18))).2.1.2.2)),(nth jo n9 (0+(Int.toNat t18))).2.2))),n12))) none) none) none) none) none) none) none) (
   aQ.L0.go kx ((O7,Bp,n1,n2,n12),n9)):=by kernel_rfl
theorem aQ.L1.run:aQ.L1.RS:=rL [.d ti,.d ti,.n,.n,.d (.pair ti .unit),.d (.pair ti .unit),.d (.slice jo),.d (.slice lO)] aQ.L1
theorem aQ.L1.step{R:Type}(t38 t39 Gy DF Nc lz xG Bk)(kn:K2 R)(kx:K3 R):aQ.R 1 aQ.L1 (t38,t39,Gy,DF,Nc,lz,xG,Bk) kn kx=
  aP ((jx t39 t38)) (
   aP (jn t39 ((DF:Nat):Int)) (
   aP (decide ((0+(Int.toNat t39)) < (List.length Bk))) (
   aP (decide ((((0+(Int.toNat t39))*2)+1)=(((0+((Int.toNat t39)*2))+1)+0))) (
   ah (mX.call (nth lO Bk (0+(Int.toNat t39))).2.1.1) λx1=>
   ah (aQ.L2.call (t39,x1.1,t38,t39,((x1.1:Nat):Int),0,Gy,DF,Nc,lz,xG,Bk,x1.2)) λx2=>
   aP (jn x2.1.1 ((x2.1.2.2.2.2.1:Nat):Int)) (
   aP (decide ((0+(Int.toNat x2.1.1)) < (List.length x2.1.2.2.2.2.2.2.2.2))) (
   aP (decide ((((0+(Int.toNat x2.1.1))*2)+1)=(((0+((Int.toNat x2.1.1)*2))+1)+0))) (
   aP (decide ((0+(Int.toNat x2.1.1)) < (List.length x2.1.2.2.2.2.2.2.2.2))) (
   kn (aQ.L1.st (x2.1.2.1,(cG .i64 x2.1.2.2.1 1),x2.1.2.2.2.1,x2.1.2.2.2.2.1,x2.1.2.2.2.2.2.1,x2.1.2.2.2.2.2.2.1,x2.1.2.2.2.2.2.2.2.1,(List.set x2.1.2.2.2.2.2.2.2.2 (0+(Int.toNat x2.1.1)) ((nth lO x2.1.2.2.2.2.2.2.2.2 (0+(Int.toNat x2.1.1))).1,((x2.2.1,(nth lO x2.1.2.2.2.2.2.2.2.2 (0+(Int.toNat x2.1.1))).2.1.2),(nth lO x2.1.2.2.2.2.2.2.2.2 (0+(Int.toNat x2.1.1))).2.2)))))) none) none) none) none) none) none) none) (
   aQ.L1.go kx (Gy,DF,Nc,lz,xG,Bk)):=by kernel_rfl
theorem aQ.L2.run:aQ.L2.RS:=rL [.d ti,.n,.d ti,.d ti,.d ti,.d ti,.n,.n,.d (.pair ti .unit),.d (.pair ti .unit),.d (.slice jo),.d (.slice lO),.d (.slice oK)] aQ.L2
theorem aQ.L2.step{R:Type}(kv lL Ch Ci t51 t52 Bq Br Ir nK Iu Bl n49)(kn:K2 R)(kx:K3 R):aQ.R 2 aQ.L2 (kv,lL,Ch,Ci,t51,t52,Bq,Br,Ir,nK,Iu,Bl,n49) kn kx=
  aP ((jx t52 t51)) (
   aP (jn t52 ((lL:Nat):Int)) (
   aP (decide ((0+(Int.toNat t52)) < (List.length n49))) (
   aP (decide ((((0+(Int.toNat t52))*4)+0)=((0+((Int.toNat t52)*4))+0))) (
   ah (fY.call (nth oK n49 (0+(Int.toNat t52))).1) λx1=>
   aP (jn t52 ((lL:Nat):Int)) (
   aP (decide ((0+(Int.toNat t52)) < (List.length n49))) (
   aP (decide ((((0+(Int.toNat t52))*4)+0)=((0+((Int.toNat t52)*4))+0))) (
   aP (decide ((0+(Int.toNat t52)) < (List.length n49))) (
   kn (aQ.L2.st (kv,lL,Ch,Ci,t51,(cG .i64 t52 1),Bq,Br,Ir,nK,Iu,Bl,(List.set n49 (0+(Int.toNat t52)) (x1,(nth oK n49 (0+(Int.toNat t52))).2))))) none) none) none) none) none) none) none) (
   aP (decide (0=0/\(0+lL)<=(List.length n49))) (
   aQ.L2.go kx ((kv,Ch,Ci,Bq,Br,Ir,nK,Iu,Bl),((cut n49 0 lL),n49))) none):=by kernel_rfl
theorem aQ.eq{R:Type}(t)(k:K1 R):aQ.A t k=
 ah (oP.call t.1) λx1=>
 ah (ko.call t.2.1) λx2=>
 ah (aQ.L0.call (((x1.1:Nat):Int),0,x1.1,x2.1,t.2.2,(0,()),x1.2,x2.2)) λx4=>
 ah (aQ.L1.call (((x4.1.2.1:Nat):Int),0,x4.1.1,x4.1.2.1,x4.1.2.2.1,x4.1.2.2.2.1,x4.2,x4.1.2.2.2.2)) λx8=>
 aP (decide (0=0/\(0+x8.2.1)<=(List.length x8.2.2.2.2.2))) (
 k (aQ.out (x8.1,((cut x8.2.2.2.2.2 0 x8.2.1),x8.2.2.1),x8.2.2.2.2.1))) none:=by kernel_rfl
theorem aQ.L0.ok:(aQ.mL 0 aQ.L0):=by
 refine(aQ.oH 0 aQ.L0) (λ(m,i,L,L2,u,v,l,os)=>l.length - Int.toNat i) ?_
 rintro⟨m,i,L,L2,u,v,l,os⟩ ⟨⟨hlen,hx⟩,k,hk,rfl,rfl,rfl⟩
 have hlen:l.length<=1000:=hlen
 have hk:k<=l.length:=hk
 by_cases h:k < l.length
 ·left
  have n1:nth jo l k=l[k]:=dz (t:=jo) h
  have hs:l.set k l[k]=l:=gB h
  have e:=hx _ (aL h)
  refine⟨((l.length:Int),((k+1:Nat):Int),l.length,L2,u,v,l,os),⟨⟨hlen,hx⟩,k+1,by omega,rfl,rfl,rfl⟩,by simp only[aa];omega,rfl,λkn kx=> ?_⟩
  rw[aQ.L0.step,bg (by omega),bG (by omega) (by omega)]
  simp only[aa,aI,cF,gb,Nat.reduceAdd,ag,aY h,decide_true,n1]
  rw[kq.run (d:=l[k].2.1.2.1) e]
  simp only[ab,bP,kq.F]
  rw[N.p9 (by omega)]
  exact congrArg (λz=>kn (aQ.L0.st (_,_,_,_,_,_,z,_))) hs
 ·right
  obtain rfl:k=l.length:=by omega
  intro R kn kx
  rw[aQ.L0.step,aX (by omega),al]
  rfl
theorem aQ.L2.ok:(aQ.mL 2 aQ.L2):=by
 refine(aQ.oH 2 aQ.L2) (λ(kv,L,m1,i1,m,i,L5,L6,u,v,ls,os,bs)=>bs.length - Int.toNat i) ?_
 rintro⟨kv,L,m1,i1,m,i,L5,L6,u,v,ls,os,bs⟩ ⟨⟨hlen,hx⟩,k,hk,rfl,rfl,rfl⟩
 have hlen:bs.length<=1000:=hlen
 have hk:k<=bs.length:=hk
 by_cases h:k < bs.length
 ·left
  have n1:nth oK bs k=bs[k]:=dz (t:=oK) h
  have hs:bs.set k bs[k]=bs:=gB h
  have e:=hx _ (aL h)
  refine⟨(kv,bs.length,m1,i1,(bs.length:Int),((k+1:Nat):Int),L5,L6,u,v,ls,os,bs),⟨⟨hlen,hx⟩,k+1,by omega,rfl,rfl,rfl⟩,by simp only[aa];omega,rfl,λkn kx=> ?_⟩
  rw[aQ.L2.step,bg (by omega),bG (by omega) (by omega)]
  simp only[aa,aI,cF,gb,Nat.reduceAdd,ag,aY h,decide_true,n1]
  rw[fY.run (d:=bs[k].1) e]
  simp only[ab,bP,fY.F]
  rw[N.p9 (by omega)]
  exact congrArg (λz=>kn (aQ.L2.st (_,_,_,_,_,_,_,_,_,_,_,_,z))) hs
 ·right
  obtain rfl:k=bs.length:=by omega
  intro R kn kx
  rw[aQ.L2.step,aX (by omega),al]
  simp only[aI,aw,and_self,decide_true,ag,gI]
  rfl
theorem aQ.L1.ok:(aQ.mL 1 aQ.L1):=by
 refine(aQ.oH 1 aQ.L1) (λ(m,i,L3,L,u,v,ls,os)=>os.length - Int.toNat i) ?_
 rintro⟨m,i,L3,L,u,v,ls,os⟩ ⟨⟨hlen,hx⟩,k,hk,rfl,rfl,rfl⟩
 have hlen:os.length<=1000:=hlen
 have hk:k<=os.length:=hk
 by_cases h:k < os.length
 ·left
  have n1:nth lO os k=os[k]:=dz (t:=lO) h
  have hs:os.set k os[k]=os:=gB h
  have e:=hx _ (aL h)
  refine⟨((os.length:Int),((k+1:Nat):Int),L3,os.length,u,v,ls,os),⟨⟨hlen,hx⟩,k+1,by omega,rfl,rfl,rfl⟩,by simp only[aa];omega,rfl,λkn kx=> ?_⟩
  rw[aQ.L1.step,bg (by omega),bG (by omega) (by omega)]
  simp only[aa,aI,cF,gb,Nat.reduceAdd,ag,aY h,decide_true,n1]
  rw[mX.run (d:=os[k].2.1.1) (by show os[k].2.1.1.length<=_;have:=e.1;omega)]
  simp only[ab,bP,mX.F]
  rw[aQ.L2.run (d:=((k:Int),os[k].2.1.1.length,(os.length:Int),(k:Int),(os[k].2.1.1.length:Int),0,L3,os.length,u,v,ls,os,os[k].2.1.1)) ⟨e,0,aK _,rfl,rfl,rfl⟩]
  simp only[ab,aQ.L2.add,aQ.L2.F,aa,n1,ag,aY h,bG (show(0:Int)<=(k:Int) by omega) (show(k:Int) < (os.length:Int) by omega)]
  rw[N.p9 (by omega)]
  exact congrArg (λz=>kn (aQ.L1.st (_,_,_,_,_,_,_,z))) hs
 ·right
  obtain rfl:k=os.length:=by omega
  intro R kn kx
  rw[aQ.L1.step,aX (by omega),al]
  rfl
theorem Bc{l:Lk}(h:lN l=true):l.1.length<=4/\∀b∈l.1,b.1.length<=12:=by
 unfold lN at h
 simp only[aj,dv,decide_eq_true_eq]at h
 refine⟨h.2.2,λb hb=> ?_⟩
 have:=h.1 b hb
 unfold uk at this
 simp only[aj,decide_eq_true_eq]at this
 exact this.1
theorem aQ.ok:aQ.Ok:=by
 rintro⟨is,os,nt,u⟩ jU
 obtain⟨⟨_,a2,a3,_⟩,b1,b2⟩:=kk jU
 have a2:is.length<=64:=a2
 have a3:os.length<=64:=a3
 rw[aQ.eq,oP.run (d:=is) (by show is.length<=_;omega),ko.run (d:=os) (by show os.length<=_;omega)]
 simp only[ab,bP,oP.F,bP,ko.F]
 rw[aQ.L0.run (d:=(is.length,0,is.length,os.length,(nt,u),(0,()),is,os)) ⟨⟨by show is.length<=_;omega,λx hx=>by have:=(tq (mg _ _ b1 x hx)).2.2.2.2;omega⟩,0,aK _,rfl,rfl,rfl⟩]
 simp only[ab,aQ.L0.add,aQ.L0.F]
 rw[aQ.L1.run (d:=(os.length,0,is.length,os.length,(nt,u),(0,()),is,os)) ⟨⟨by show os.length<=_;omega,λx hx=>by
  have:=Bc (lk _ _ b2 x hx).2
  exact⟨by omega,λb hb=>by have:=this.2 b hb;omega⟩⟩,0,aK _,rfl,rfl,rfl⟩]
 simp only[ab,bP,aQ.L1.F,aI,aw,and_self,decide_true,ag,gI]
 rfl
theorem aQ.run:aQ.RS:=rE [.d gU] aQ
def aQ.sg:=aQ.gG aQ.ok 3 ⟨.iR aQ.L0.ok,⟨.iR aQ.L1.ok,⟨.iR aQ.L2.ok,trivial⟩⟩⟩
theorem xL(x:Int)(m:Int):∀k:Nat,(x%m)^k%m=x^k%m
 | 0=>by rw[j4,j4]
 |k+1=>by rw[gg,gg,oc,xL x m k,l7 _ (Int.dvd_refl m),<-oc]
theorem R7(a:Int)(k:Nat):(a*a)^k=a^(2*k):=by
 rw[Int.pow_mul,gg,gg,j4,Int.one_mul]
theorem Nv:∀(f:Nat) (a:Int) (n:Nat) (out:Int),n < 2^f->Pn out->JS f a n out=out*a^n%4611686018427377339
 | 0,a,n,out,h,ho=>by
  obtain rfl:n=0:=by omega
  rw[sT,j4,Int.mul_one,fi ho.1 ho.2]
 |f+1,a,n,out,h,ho=>by
  have e:(2:Nat)^(f+1)=2^f*2:=Nat.pow_succ 2 f
  rw[JS]
  split
  ·rename_i h0
   subst h0
   rw[j4,Int.mul_one,fi ho.1 ho.2]
  ·have hp:Pn (if n%2=1 then oS out a else out):=by
    split
    ·exact r9 _ _
    ·exact ho
   rw[Nv f _ _ _ (by omega) hp,oc]
   have e1:(oS a a)^(n / 2)%4611686018427377339=a^(2*(n / 2))%4611686018427377339:=by
    unfold oS
    rw[xL,R7]
   have e2:(if n%2=1 then oS out a else out)%4611686018427377339=(out*a^(n%2))%4611686018427377339:=by
    split
    ·rename_i h1
     rw[h1,gg,j4,Int.one_mul]
     exact l7 _ (Int.dvd_refl _)
    ·have h1:n%2=0:=by omega
     rw[h1,j4,Int.mul_one]
   rw[e1,e2,<-oc,Int.mul_assoc,<-Int.pow_add]
   have e3:n%2+2*(n / 2)=n:=by omega
   rw[e3]
theorem BS(a:Int)(n:Nat)(h:n < 18446744073709551616):pw a n=a^n%4611686018427377339:=by
 unfold pw
 rw[Nv 64 a n 1 h ⟨by omega,by omega⟩,Int.one_mul]
theorem one_pow(k:Nat):(1:Int)^k=1:=Int.one_pow
theorem Nx(a:Int)(k q:Nat)(hk:k < 18446744073709551616)(hq:q < 18446744073709551616)(h:pw a q=1):pw (pw a k) q=1:=by
 rw[BS _ _ hq]at h
 rw[BS _ _ hq,BS _ _ hk,xL,<-Int.pow_mul,mD,Int.pow_mul,<-xL,h,one_pow]
 rfl
theorem Dq:pw 4 2305843009213688669=1:=by decide+kernel
theorem Lc:pw 1 2305843009213688669=1:=by decide+kernel
theorem O2:sE 4=true:=by rw[sE,Dq];rfl
theorem xw:sE 1=true:=by rw[sE,Lc];rfl
theorem Pb:Gz 1=1:=by
 have e:pw 1 2305843009213688668=1:=by decide+kernel
 rw[Gz,tk,xw]
 exact e
theorem EX{a:Int}(h:Pn a)(q:Nat)(hq:0 < q)(yL:q < 18446744073709551616)(hp:pw a q=1):0 < a:=by
 rcases Int.lt_or_eq_of_le h.1 with h0 | h0
 ·exact h0
 ·subst h0
  rw[BS _ _ yL,Int.zero_pow (by omega)]at hp
  cases hp
theorem RE{a:Int}(h:Pn a)(hp:pw a 2305843009213688669=1):sE a=true:=by
 have h0:=EX h 2305843009213688669 (by decide) (by decide) hp
 rw[sE,hp,decide_eq_true ⟨h0,h.2⟩];rfl
theorem KM{a:Int}(h:sE a=true):pw a 2305843009213688669=1/\Pn a:=by
 rw[sE,aj,decide_eq_true_eq,decide_eq_true_eq]at h
 exact⟨h.2,by omega,h.1.2⟩
theorem RF{a:Int}(h:sE a=true)(k:Nat)(hk:k < 18446744073709551616):sE (pw a k)=true:=
 RE (GV _ _) (Nx a k _ hk (by decide) (KM h).1)
theorem RG(a:Int):sE (tk a)=true:=by
 unfold tk
 cases h:sE a
 ·exact xw
 ·exact h
theorem KN(p k:Int):sE (tK p k)=true:=RF (RG p) _ (by omega)
theorem Cl{a:Int}(h:sE a=true):tk a=a:=by rw[tk,h];rfl
theorem A6(k:Int):sE (fN k)=true:=KN 4 k
theorem Gw{a:Int}(h:Pn a):oS a 1=a:=by rw[oS,Int.mul_one,fi h.1 h.2]
def pm(m:Nat):Nat->Nat->Nat->Nat->Nat
 | 0,_,_,out=>out%m
 |f+1,a,n,out=>if n=0 then out%m else pm m f (a*a%m) (n / 2) (if n%2=1 then out*a%m else out)
theorem Qo(m:Nat):∀(f a n out:Nat),n < 2^f->pm m f a n out=out*a^n%m
 | 0,a,n,out,h=>by
  obtain rfl:n=0:=by omega
  rw[pm,Nat.pow_zero,jA]
 |f+1,a,n,out,h=>by
  have e:(2:Nat)^(f+1)=2^f*2:=Nat.pow_succ (n:=2) (m:=f)
  rw[pm]
  split
  ·rename_i h0
   subst h0
   rw[Nat.pow_zero,jA]
  ·rw[Qo m f _ _ _ (by omega),j7]
   have e1:(a*a%m)^(n / 2)%m=a^(2*(n / 2))%m:=by
    rw[<-Nat.pow_mod,Nat.pow_mul,Nat.pow_two]
   have e2:(if n%2=1 then out*a%m else out)%m=(out*a^(n%2))%m:=by
    split
    ·rename_i h1
     rw[h1,Nat.pow_one,Nat.mod_mod]
    ·have h1:n%2=0:=by omega
     rw[h1,Nat.pow_zero,jA]
   rw[e1,e2,<-j7,Nat.mul_assoc,<-ma]
   have e3:n%2+2*(n / 2)=n:=by omega
   rw[e3]
theorem ML:∀(r q:Nat) (f:Nat->Nat),(∀i,i < q->f i < r)->(∀i j,i < j->j < q->f i≠f j)->q<=r
 | 0,q,f,h,_=>by
  rcases iK q with h0 | h0
  ·omega
  ·exact absurd (h 0 h0) (Nat.not_lt_zero _)
 |r+1,q,f,h,g=>by
  by_cases hx:∃i,i < q/\f i=r
  ·obtain⟨i,hi,hr⟩:=hx
   have e:=ML r (q - 1) (λj=>if j < i then f j else f (j+1)) (λj hj=>by
    by_cases h1:j < i
    ·have a:=h j (by omega)
     have b:=g j i h1 hi
     simp only[h1,if_true]
     omega
    ·have a:=h (j+1) (by omega)
     have b:=g i (j+1) (by omega) (by omega)
     simp only[h1,if_false]
     omega) (λj k YP hk=>by
    by_cases h1:j < i
    ·by_cases h2:k < i
     ·simp only[h1,h2,if_true]
      exact g j k YP (by omega)
     ·simp only[h1,h2,if_true,if_false]
      exact g j (k+1) (by omega) (by omega)
    ·have h2:¬k < i:=by omega
     simp only[h1,h2,if_false]
     exact g (j+1) (k+1) (by omega) (by omega))
   omega
  ·have e:=ML r q f (λi hi=>by
    have a:=h i hi
    have b:f i≠r:=λx=>hx ⟨i,hi,x⟩
    omega) g
   omega
theorem JQ(a m:Nat)(h1:1%m=1):∀i j:Nat,a^i%m=1->a^j%m=1->a^(Nat.gcd i j)%m=1:=by
 intro i
 induction i using Nat.strongRecOn with
 |ind i ih=>
  intro j hi hj
  rcases iK i with h0 | h0
  ·subst h0;rw[Nat.gcd_zero_left];exact hj
  ·rw[Nat.gcd_rec]
   refine ih (j%i) (Nat.mod_lt _ h0) i ?_ hi
   have e:a^j=(a^i)^(j / i)*a^(j%i):=by rw[<-Nat.pow_mul,<-ma,Nat.div_add_mod]
   rw[e,j7,Nat.pow_mod,hi,Nat.one_pow,h1,iy,Nat.mod_mod]at hj
   exact hj
def LX(n:Nat):Prop:=∀d,d∣n->d=1\/d=n
theorem JR{n k:Nat}(h:LX n)(h0:0 < k)(hk:k < n):Nat.gcd k n=1:=by
 rcases h _ (Nat.gcd_dvd_right k n) with h1 | h1
 ·exact h1
 ·have:=Nat.le_of_dvd h0 (Nat.gcd_dvd_left k n);omega
theorem GC{n:Nat}(hn:1 < n)(h:∀r,1 < r->r*r<=n->¬r∣n):LX n:=by
 intro d hd
 obtain⟨e,he⟩:=hd
 have PT:0 < d:=Nat.pos_of_ne_zero (by intro x;rw[x,lf]at he;omega)
 have Cy:0 < e:=Nat.pos_of_ne_zero (by intro x;rw[x,Nat.mul_zero]at he;omega)
 by_cases h1:d=1
 ·exact .inl h1
 by_cases h2:e=1
 ·right;rw[he,h2,jA]
 exfalso
 rcases Nat.le_total d e with hle | hle
 ·exact h d (by omega) (by rw[he];exact Nat.mul_le_mul_left d hle) ⟨e,he⟩
 ·exact h e (by omega) (by rw[he];exact cY e hle) ⟨d,by rw[he,mD]⟩
theorem RV{n q b:Nat}(hn:1 < n)(hq:LX q)(SS:1 < q)(WB:n < q*q)(hb:b^q%n=1)(hg:Nat.gcd (b - 1) n=1)(U8:0 < b):LX n:=by
 refine GC hn λr hr Zc KH=> ?_
 have XJ:1%r=1:=jG hr
 have XN:b^q%r=1:=by
  have:=Nat.mod_mod_of_dvd (b^q) KH
  rw[<-this,hb,XJ]
 have fL:b%r≠1:=by
  intro hx
  have hd:r∣b - 1:=by have e:=Nat.dvd_sub_mod (n:=r) b;rw[hx]at e;exact e
  have:=Nat.dvd_gcd hd KH
  rw[hg]at this
  have:=Nat.le_of_dvd (by omega) this
  omega
 have key:q<=r:=by
  refine ML r q (λi=>b^i%r) (λi _=>Nat.mod_lt _ (by omega)) λi j Vf hj he=> ?_
  have e1:b^(j - i)%r=1:=by
   have x1:b^(q - i)*b^i%r=b^(q - i)*b^j%r:=by rw[j7,he,<-j7]
   rw[<-ma,<-ma,show q - i+i=q by omega,show q - i+j=q+(j - i) by omega,ma,j7,XN,iy,Nat.mod_mod]at x1
   exact x1.symm
  have e2:=JQ b r XJ (j - i) q e1 XN
  rw[JR hq (by omega) (by omega),Nat.pow_one]at e2
  exact fL e2
 have:q*q<=r*r:=Nat.mul_le_mul key key
 omega
def Nh(n:Nat):Nat->Bool
 | 0=>true
 |k+1=>n%(k+2) !=0 && Nh n k
theorem GB(n:Nat):∀k,Nh n k=true->∀d,1 < d->d<=k+1->¬d∣n
 | 0,_,d,h1,h2=>by omega
 |k+1,h,d,h1,h2=>by
  rw[Nh,aj]at h
  by_cases hd:d=k+2
  ·intro hx
   have:=Nat.mod_eq_zero_of_dvd hx
   rw[hd]at this
   rw[this]at h
   exact absurd h.1 (by decide)
  ·exact GB n k h.2 d h1 (by omega)
theorem W5:LX 7930907:=by
 refine GC (by decide) λr hr Zc=>GB 7930907 2820 (by decide+kernel) r hr ?_
 apply Nat.le_of_not_lt
 intro h
 have:2822*2822<=r*r:=Nat.mul_le_mul (by omega) (by omega)
 omega
theorem xM{n q:Nat}(a e:Nat)(hq:LX q)(SS:1 < q)(hn:1 < n)(WB:n < q*q)(he:e < 2^64)(yL:q < 2^64)(h1:pm n 64 (pm n 64 a e 1) q 1=1)(h2:Nat.gcd (pm n 64 a e 1 - 1) n=1)(h3:0 < pm n 64 a e 1):LX n:=by
 generalize pm n 64 a e 1=b at*
 rw[Qo _ _ _ _ _ yL,iy]at h1
 exact RV hn hq SS WB h1 h2 h3
theorem W4:LX 11864636873:=xM (q:=7930907) 2 1496 W5 (by decide) (by decide) (by decide) (by decide) (by decide) (by decide+kernel) (by decide+kernel) (by decide+kernel)
theorem W3:LX 1732236983459:=xM (q:=11864636873) 2 146 W4 (by decide) (by decide) (by decide) (by decide) (by decide) (by decide+kernel) (by decide+kernel) (by decide+kernel)
theorem W2:LX 249442125618097:=xM (q:=1732236983459) 2 144 W3 (by decide) (by decide) (by decide) (by decide) (by decide) (by decide+kernel) (by decide+kernel) (by decide+kernel)
theorem W6:LX 2305843009213688669:=xM (q:=249442125618097) 2 9244 W2 (by decide) (by decide) (by decide) (by decide) (by decide) (by decide+kernel) (by decide+kernel) (by decide+kernel)
def gP(n:Nat):Int:=((4^n%4611686018427377339:Nat):Int)
theorem CU(a m q:Nat)(h1:1%m=1)(h:a^q%m=1)(n:Nat):a^(n%q)%m=a^n%m:=by
 have e:a^n=(a^q)^(n / q)*a^(n%q):=by rw[<-Nat.pow_mul,<-ma,Nat.div_add_mod]
 rw[e,j7,Nat.pow_mod (a^q),h,Nat.one_pow,h1,iy,Nat.mod_mod]
theorem PO:∀q:Nat,q=2305843009213688669->4^q%4611686018427377339=1:=by
 intro q hq
 have h:=Dq
 rw[BS _ _ (by decide)]at h
 rw[<-hq]at h
 have e:(((4^q%4611686018427377339:Nat)):Int)=1:=by
  rw[mu,jY]
  exact h
 omega
theorem Ev(n:Nat):gP (n%2305843009213688669)=gP n:=by
 unfold gP
 obtain⟨q,hq⟩:∃q:Nat,q=2305843009213688669:=⟨_,rfl⟩
 rw[<-hq,CU 4 4611686018427377339 q (by decide) (PO q hq)]
theorem Tn(n:Nat)(h:n < 18446744073709551616):pw 4 n=gP n:=by
 rw[BS _ _ h]
 unfold gP
 rw[mu,jY]
 rfl
theorem MB(k:Int)(h:0<=k):(k%2305843009213688669).toNat=k.toNat%2305843009213688669:=by omega
theorem zY(k:Int)(h:0<=k):fN k=gP k.toNat:=by
 show pw (tk 4) _=_
 rw[Cl O2,Tn _ (by omega),MB k h,Ev]
theorem OI(n:Nat):gP n=fN n:=by rw[zY _ (by omega),aa]
theorem AJ(n:Nat):sE (gP n)=true:=by rw[OI];exact A6 _
theorem H3(a b:Nat):oS (gP a) (gP b)=gP (a+b):=by
 unfold oS gP
 rw[<-jX,ma]
 have e:(4611686018427377339:Int)=((4611686018427377339:Nat):Int):=rfl
 rw[e,<-mu,<-j7]
theorem MC(a:Nat)(c:Int)(h:0<=c):tK (gP a) c=gP (a*c.toNat):=by
 show pw (tk (gP a)) _=_
 rw[Cl (AJ a),BS _ _ (by omega),MB c h]
 obtain⟨b,hb⟩:∃b:Nat,b=c.toNat:=⟨_,rfl⟩
 rw[<-hb]
 obtain⟨d,hd⟩:∃d:Nat,d=b%2305843009213688669:=⟨_,rfl⟩
 have hx:gP (a*b)=gP (a*d):=by rw[<-Ev (a*b),<-Ev (a*d),j7 a b,j7 a d,hd,Nat.mod_mod]
 rw[hx,<-hd]
 unfold gP
 have e:(4611686018427377339:Int)=((4611686018427377339:Nat):Int):=rfl
 rw[e,<-jY,<-mu,<-Nat.pow_mod,<-Nat.pow_mul]
theorem Jr:gP 0=1:=by decide
theorem Tm{n:Nat}(h:0 < n)(hn:n < 2305843009213688669):gP n≠1:=by
 intro he
 unfold gP at he
 have he:4^n%4611686018427377339=1:=by omega
 obtain⟨q,hq⟩:∃q:Nat,q=2305843009213688669:=⟨_,rfl⟩
 have e:=JQ 4 4611686018427377339 (by decide) n q he (PO q hq)
 rw[JR (by rw[hq];exact W6) h (by omega)]at e
 exact absurd e (by decide)
theorem Pv(k:Int)(m:List Int)(h0:0 < k)(hq:k < 2305843009213688669):qZ (fN k) m 1 (kK k m)=true:=by
 obtain⟨kn,hk⟩:∃kn:Nat,kn=k.toNat:=⟨_,rfl⟩
 have hb:fN k=gP kn:=by rw[hk];exact zY k (by omega)
 have hn:=AH (NQ Iv [kP k,m])
 unfold kK Ni
 rw[if_pos ⟨hq,by omega⟩]
 obtain⟨n,fL⟩:∃n,xn (NQ Iv [kP k,m])=n:=⟨_,rfl⟩
 rw[fL]at hn ⊢
 unfold Ec
 have hr:zX [fN n,1]=gP n.toNat:=by
  show oS (oS 1 (tk (fN n))) (tk 1)=_
  rw[Cl (A6 n),Cl xw,Gw (r9 _ _),zY n (by omega),<-Jr,H3,aI]
 rw[hr,hb]
 have hc:=Ax (gP n.toNat) (gP kn) m
 obtain⟨c,Ra⟩:∃c,tV (gP n.toNat) (gP kn) m=c:=⟨_,rfl⟩
 rw[Ra]at hc ⊢
 have ha:=Jd n (EO c k)
 have h1:=hc.1
 have h2:=ha.1
 have h3:=ha.2
 unfold qZ
 rw[if_neg (by
  intro h
  rcases h with h | h | h | h | h
  ·exact Tm (by omega) (by omega) h
  ·rw[AJ]at h;cases h
  ·rw[xw]at h;cases h
  ·have h:sE (gP n.toNat)=false:=h
   rw[AJ]at h;cases h
  ·exact h h3)]
 have e:fN (HD n (EO c k))=zX [gP n.toNat,tK (gP kn) c,Gz 1]:=by
  show _=oS (oS (oS 1 (tk (gP n.toNat))) (tk (tK (gP kn) c))) (tk (Gz 1))
  rw[Pb,Cl xw,Gw (r9 _ _),Cl (AJ _),MC _ _ h1,Cl (AJ _)]
  rw[show(oS 1 (gP n.toNat))=gP n.toNat by rw[<-Jr,H3,aI]]
  rw[H3,zY _ h2]
  have hx:(HD n (EO c k)).toNat=(n.toNat+kn*c.toNat)%2305843009213688669:=by
   unfold HD EO Nk
   have g1:c%2305843009213688669=c:=fi h1 hc.2
   have g2:k%2305843009213688669=k:=fi (by omega) hq
   have g3:n%2305843009213688669=n:=fi (by omega) hn.2
   rw[g1,g2,g3,l7 _ (Int.dvd_refl _)]
   have g4:((kn*c.toNat:Nat):Int)=c*k:=by
    rw[jX,hk,Int.toNat_of_nonneg (by omega),Int.toNat_of_nonneg h1,Int.mul_comm]
   have g5:0<=c*k:=by rw[<-g4];exact gM _
   obtain⟨z,hz⟩:∃z,c*k=z:=⟨_,rfl⟩
   rw[hz]at g4 g5 ⊢
   obtain⟨zn,Zm⟩:∃zn,kn*c.toNat=zn:=⟨_,rfl⟩
   rw[Zm]at g4 ⊢
   omega
  rw[hx,Ev]
 show decide (fN (HD n (EO c k))=zX [gP n.toNat,tK (gP kn) (tV (gP n.toNat) (gP kn) m),Gz 1])=true
 rw[Ra]
 exact decide_eq_true e
def uK{α:Type}(p:α->Bool):List α->Int->Int⊕Unit
 |[],_=> .inr ()
 |x::xs,i=>if p x then .inl i else uK p xs (i+1)
def Gc{α:Type}(p:α->Bool)(l:List α):Int:=match uK p l 0 with | .inl i=>i | .inr _=> -1
theorem Gd{α:Type}(p:α->Bool):∀(l:List α) (i:Int),0<=i->(match uK p l i with | .inl i=>decide (i>=0) | .inr _=>false)=l.any p
 |[],_,_=>rfl
 |x::l,i,h=>by
  rw[uK,jz]
  cases hp:p x
  ·simp only[cv,if_false,Bool.false_or]
   exact Gd p l (i+1) (by omega)
  ·simp[h]
theorem AX{α:Type}(p:α->Bool)(l:List α):tZ (Gc p l) 0=l.any p:=by
 have:=Gd p l 0 (by omega)
 unfold Gc tZ
 cases h:uK p l 0
 ·rw[h]at this;exact this
 ·rw[h]at this;rw[<-this];rfl
def wk(k:Int):Bool:=decide (¬(k < 2305843009213688669/\k≠0))
def tN(t:eZ)(i br:Int)(ks:List Int):Bool:=jk t && (decide (0<=i/\i < t.1.length/\0<=br/\br < 4/\ks.length<=12) && !(ks.any wk))
def NG(t:eZ)(i br:Int)(ks:List Int)(sc:Int):eZ×Int:=
 if tN t i br ks then((t.1.set i.toNat ((nth jo t.1 i.toNat).1,(br,ks.map (λk=>kK k (lW t)),sc,()),()),t.2),0) else(([],[],0,()),1)
theorem wY{t:eZ}:Sm (lW t):=by
 unfold lW
 split
 ·exact E1 _ _
 ·exact⟨by rw[dg],λx hx=>by obtain rfl:=(List.mem_replicate.1 hx).2;exact⟨by decide,by decide⟩⟩
abbrev kX.D:=Int
abbrev kX.Y:=Bool
def kX.aM:kX.D->Prop:=λ_=>True
def kX.F:kX.D->kX.Y:=λk=>wk k
def kX:Fs Tryz.prog kX.aM bP kX.F:=gC 64 Tryz.f64 (λkv=>([.d tu kv],[])) (λx=>⟨.d .bool x,[],[]⟩) [some tu] [gw.sg]
theorem kX.eq{R:Type}(kv)(k:K1 R):kX.A kv k=
  aP ((w8 kv 0)) (
   k (kX.out true)) (
   ah (gw.call kv) λx1=>
   k (kX.out (!x1))):=by kernel_rfl
theorem kX.ok:kX.Ok:=by
 intro(k:Int) _
 rw[kX.eq,gw.run (d:=k) trivial]
 simp only[bP,kX.F,wk,ab,bP,gw.F]
 by_cases h:k=0
 ·rw[jf h,ag,aY (by omega)]
 ·rw[lH h,al]
  by_cases h2:k < 2305843009213688669
  ·rw[bg h2,cH (by omega)];rfl
  ·rw[aX h2,aY (by omega)];rfl
theorem kX.run:kX.RS:=rE [.d tu] kX
def kX.sg:=kX.gG kX.ok
abbrev bu.L0.D:=Bs×Int×Int
def bu.L0.st:bu.L0.D->AS:=λ(ky,t7,t8)=>⟨([.d tU ky,.fn 64 (.nil)]++aT 5 ([.d ti t7,.d ti t8]++aT 10 [])),[],(List.replicate 19 [])⟩
abbrev bu.L0.Y0:=Int
abbrev bu.L0.X0:=Int
def bu.L0.eG:bu.L0.X0->Exit×AS:=λx=>(.ret,⟨(aT 4 ([.d ti x]++aT 14 [])),[],(List.replicate 19 [])⟩)
abbrev bu.L0.Y1:=Unit
abbrev bu.L0.X1:=Unit
def bu.L0.gZ:bu.L0.X1->Exit×AS:=λx=>(.exit 0,⟨(aT 19 []),[],(List.replicate 19 [])⟩)
abbrev bu.L0.X:=(bu.L0.X0)⊕(bu.L0.X1)
abbrev bu.L0.Y:=(bu.L0.Y0)⊕(bu.L0.Y1)
def bu.L0.out:bu.L0.X->Out (Exit×AS):=λx=> .br x.isLeft (.get x.getLeft? λa=> .ok (bu.L0.eG a)) (.get x.getRight? λb=> .ok (bu.L0.gZ b))
def bu.L0.add:bu.L0.D->bu.L0.Y->bu.L0.X:=λ(ky,t7,t8) y=>match y with | .inl y=> .inl y | .inr z=> .inr (z)
abbrev bu.D:=Bs
abbrev bu.Y:=Int
def bu.L0.aM:bu.L0.D->Prop:=λ(l,n,i)=>(∀x∈l,True)/\l.length<=1000000000/\n=l.length/\∃k:Nat,k<=l.length/\i=k
def bu.L0.F:bu.L0.D->bu.L0.Y:=λ(l,n,i)=>uK wk (l.drop i.toNat) i
def bu.aM:bu.D->Prop:=λl=>(∀x∈l,True)/\l.length<=1000000000
def bu.F:bu.D->bu.Y:=λl=>Gc wk l
def bu.L0.E:=eE.iR bu.L0.st bu.L0.aM bu.L0.add bu.L0.F bu.L0.out
def bu.L0.call:bu.L0.D->Option bu.L0.X:=j9 bu.L0.E bu.L0.st
def bu:Fs Tryz.prog bu.aM bP bu.F:=gC 133 Tryz.f133 (λsv=>([.d tU sv,.fn 64 (.nil)],[])) (λx=>⟨.d ti x,[],[]⟩) [some tU,none] [kX.sg] {loops:=pz [(2,{bo:=[0,1,7,8]})],outs:=py [(2,{},{bo:=[4]})],iX:=qg [(2,bu.L0.E)]}
def bu.L0.R:= @gN Tryz.prog (oo bu.G) bu.an 0 Tryz.f133 0 _ bu.L0.st
abbrev bu.L0.Ok:=mS Tryz.prog (oo bu.G) bu.an 0 Tryz.f133 0 bu.L0.st bu.L0.aM bu.L0.add bu.L0.F bu.L0.out
theorem bu.L0.run:kF bu.L0.call bu.L0.aM bu.L0.add bu.L0.F:=oU (oR [.d tU,.d ti,.d ti] λ_=>by kernel_rfl)
theorem bu.L0.cM:qa @bu.L0.R bu.L0.st bu.L0.aM bu.L0.add bu.L0.F bu.L0.out bu.L0.Ok:=qD
theorem bu.L0.step{R:Type}(ky:Bs)(t7:Int)(t8:Int)(kn:AS->Option R)(kx:Exit->AS->Option R):bu.L0.R (ky,t7,t8) kn kx=
  aP ((jx t8 t7)) (
   aP (jn t8 (((List.length ky):Nat):Int)) (
   ah (kX.call (nth tu ky (Int.toNat t8))) λx1=>
   aP (x1) (
    kx (bu.L0.eG t8).1 (bu.L0.eG t8).2) (
    kn (bu.L0.st (ky,t7,(cG .i64 t8 (1:Int)))))) none) (
   kx (bu.L0.gZ ()).1 (bu.L0.gZ ()).2):=by kernel_rfl
theorem bu.eq{R:Type}(sv)(k:K1 R):bu.A sv k=
  ah (bu.L0.call (sv,(sv.length:Int),0)) λx2=>
  aP (x2.isLeft) (
   ah (x2.getLeft?) λa3=>
   k (bu.out a3)) (
   ah (x2.getRight?) λb4=>
   k (bu.out (-1))):=by kernel_rfl
theorem bu.L0.ok:bu.L0.Ok:=by
 refine bu.L0.cM (λ(l,n,i)=>l.length - i.toNat) ?_
 rintro⟨l,n,i⟩ ⟨hl,hb,rfl,k,hk,rfl⟩
 have hb:l.length<=1000000000:=hb
 have hk:k<=l.length:=hk
 by_cases h:k < l.length
 ·have hx:=hl _ (aL h)
  have n1:nth tu l k=l[k]:=dz (t:=tu) h
  have hd:uK wk (l.drop k) k=if wk l[k] then .inl (k:Int) else uK wk (l.drop (k+1)) ((k+1:Nat):Int):=by rw[ax h];rfl
  have step:∀ {R:Type} (kn:AS->Option R) (kx:Exit->AS->Option R),bu.L0.R (l,(l.length:Int),(k:Int)) kn kx=aP (wk l[k]) (kx (bu.L0.eG (k:Int)).1 (bu.L0.eG (k:Int)).2) (kn (bu.L0.st (l,(l.length:Int),((k+1:Nat):Int)))):=by
   intro R kn kx
   rw[bu.L0.step,bg (by omega),bG (by omega) (by omega),aa,n1,kX.run (d:=l[k]) hx,N.p9 (by omega)]
   rfl
  cases hp:wk l[k]
  ·left
   refine⟨(l,l.length,((k+1:Nat):Int)),⟨hl,hb,rfl,k+1,by omega,rfl⟩,by simp only[aa];omega,?_,λkn kx=> ?_⟩
   ·simp only[bu.L0.add,bu.L0.F,aa,hd,hp,cv,if_false]
   ·rw[step,hp,al]
  ·right
   refine⟨bu.L0.eG (k:Int),?_,λkn kx=> ?_⟩
   ·simp only[bu.L0.add,bu.L0.F,aa,hd,hp,if_true]
    rfl
   ·rw[step,hp,ag]
 ·right
  obtain rfl:k=l.length:=by omega
  refine⟨bu.L0.gZ (),?_,λkn kx=> ?_⟩
  ·simp only[bu.L0.add,bu.L0.F,aa,aZ]
   rfl
  ·rw[bu.L0.step,aX (by omega),al]
theorem bu.ok:bu.Ok:=by
 rintro l ⟨hl,hb⟩
 rw[bu.eq,bu.L0.run (d:=(l,l.length,0)) ⟨hl,hb,rfl,0,by omega,rfl⟩]
 simp only[ab,bu.L0.add,bu.L0.F,bN,aJ,bP,bu.F,Gc]
 cases uK wk l 0 <;> rfl
theorem bu.run:bu.RS:=rE [.d tU] bu
def bu.sg:=bu.gG bu.ok 1 ⟨.iR bu.L0.ok,trivial⟩
abbrev eV.D:=Bs
abbrev eV.Y:=Bool
def eV.aM:eV.D->Prop:=λl=>(∀x∈l,True)/\l.length<=1000000000
def eV.F:eV.D->eV.Y:=λl=>l.any wk
def eV:Fs Tryz.prog eV.aM bP eV.F:=gC 68 Tryz.f68 (λsv=>([.d tU sv,.fn 64 (.nil)],[])) (λx=>⟨.d .bool x,[],[]⟩) [some tU,none] [bu.sg]
theorem eV.eq{R:Type}(sv)(k:K1 R):eV.A sv k=
 ah (bu.call sv) λx1=>
 k (eV.out (tZ x1 0)):=by kernel_rfl
theorem eV.ok:eV.Ok:=by
 rintro l ⟨hl,hb⟩
 rw[eV.eq,bu.run (d:=l) ⟨hl,hb⟩]
 simp only[ab,bP,bu.F,AX]
 rfl
theorem eV.run:eV.RS:=rE [.d tU] eV
def eV.sg:=eV.gG eV.ok
abbrev dK.L0.D:=Int×Bs×Int×Int×eZ×(Int×Unit)×Int×Nat×(Int×Unit)×Bs×(List Sg)
abbrev dK.L0.Y:=CD×(List Sg)
abbrev dK.L0.X:=(Int×eZ×(Int×Unit))×(CD×(List Sg))
def dK.L0.add:dK.L0.D->dK.L0.Y->dK.L0.X:=λ(A5,t52,t53,t54,n5,n10,n13,uq,DD,n14,O9) y=>((A5,n5,n10),y)
abbrev dK.D:=eZ×Int×Int×Bs×Int
abbrev dK.Y:=eZ×Int
def dK.L0.aM:dK.L0.D->Prop:=λ(i0,l,n,i,t,e,br,L,sc,id,r)=>l.length<=1000/\(∀x∈l,mq x)/\Sm id/\∃k:Nat,k<=l.length/\i=k/\n=l.length/\L=r.length/\r.length<=1000+k
def dK.L0.F:dK.L0.D->dK.L0.Y:=λ(i0,l,n,i,t,e,br,L,sc,id,r)=>((br,r++(l.drop i.toNat).map (λk=>kK k id),sc),r++(l.drop i.toNat).map (λk=>kK k id))
def dK.aM:dK.D->Prop:=λ(t,i,br,ks,sc)=>rK t/\(∀x∈ks,mq x)/\ks.length<=1000000000
def dK.F:dK.D->dK.Y:=λ(t,i,br,ks,sc)=>NG t i br ks sc
def dK.L0:Ls dK.L0.aM dK.L0.add dK.L0.F:=rY (λ(A5,t52,t53,t54,n5,n10,n13,uq,DD,n14,O9)=>⟨([.undef,.d ti A5,.undef,.undef,.undef,.ptr (.new 5 0) 0 [] 0]++aT 4 ([.ptr (.new 10 0) 0 [] 0,.undef,.undef,.ptr (.new 13 0) 0 [] 0,.ptr (.new 14 0) 0 [] 0]++aT 37 ([.d tU t52,.d ti t53,.d ti t54]++aT 21 []))),[],(ct 5 ([[.obj 0 false (.d gU n5)]]++ct 4 ([[.obj 0 false (.pr (.di) (.pr (.di) (.d (.pair ti .unit) n10)))],[],[],[.obj 0 false (.pr (.d ti n13) (.pr (.aS (.new 64 0) 0 [] 0 0 uq) (.d (.pair tu .unit) DD)))],[.obj 0 false (.d tH n14)]]++ct 49 ([[.obj 0 false (.vec 135 yh O9)]]++ct 11 []))))⟩) (λx=>(.exit 0,⟨([.undef,.d ti x.1.1,.undef,.undef,.undef,.ptr (.new 5 0) 0 [] 0]++aT 4 ([.ptr (.new 10 0) 0 [] 0,.undef,.undef,.ptr (.new 13 0) 0 [] 0]++aT 62 [])),[],(ct 5 ([[.obj 0 false (.d gU x.1.2.1)]]++ct 4 ([[.obj 0 false (.pr (.di) (.pr (.di) (.d (.pair ti .unit) x.1.2.2)))],[],[],[.obj 0 false (.d Of x.2.1)]]++ct 50 ([[.obj 0 true (.vec 135 yh x.2.2)]]++ct 11 []))))⟩))
def dK:Fs Tryz.prog dK.aM bP dK.F:=gC 16 Tryz.f16 (λ(t,inv,branch,keys,secret)=>([.d gU t,.d ti inv,.d ti branch,.d tU keys,.d tu secret],[])) (λx=>⟨.cons (.d gU x.1) (.cons (.d ti x.2) (.nil)),[],[]⟩) [some gU,some ti,some ti,some tU,some tu] [az.sg,nf.sg,eV.sg,tid.sg,kL.sg,aQ.sg] {bK:=[5],loops:=pz [(7,{bo:=[1,5,10,13,14,52,53,54],sites:=[5,10,13,14,64],owns:=[⟨13,[.snd,.fst],64,48⟩]})],outs:=py [(7,{bo:=[1,5,10,13],sites:=[5,10,13,64],Az:=[⟨13,[.snd,.fst],(.slice yh)⟩]},{bo:=[10,11]})],iX:=qg [(7,dK.L0.E)],res:=[some gU,none]}
theorem dK.L0.run:dK.L0.RS:=rL [.d ti,.d tU,.d ti,.d ti,.d gU,.d (.pair ti .unit),.d ti,.n,.d (.pair tu .unit),.d tB,.d (.slice yh)] dK.L0
theorem dK.L0.step{R:Type}(A5 t52 t53 t54 n5 n10 n13 uq DD n14 O9)(kn:K2 R)(kx:K3 R):dK.R 0 dK.L0 (A5,t52,t53,t54,n5,n10,n13,uq,DD,n14,O9) kn kx=
  aP ((jx t54 t53)) (
   aP (jn t54 (t52.length:Int)) (
   ah (kL.call ((nth tu t52 (Int.toNat t54)),n14)) λx4=>
   aP (decide (uq<=(List.length O9))) (
   aP (dZ (uq+1) 16) (
   kn (dK.L0.st (A5,t52,t53,(cG .i64 t54 1),n5,n10,n13,(uq+1),DD,n14,((List.take uq O9)++ [x4])))) none) none) none) (
   aP (decide (0=0/\(0+uq)<=(List.length O9))) (
   dK.L0.go kx ((A5,n5,n10),((n13,((cut O9 0 uq),DD)),O9))) none):=by kernel_rfl
theorem dK.eq{R:Type}(t inv branch keys secret)(k:K1 R):dK.A (t,inv,branch,keys,secret) k=
  ah (az.call t) λCB=>
  aP ((!CB)) (
   k (dK.out ((([]:List kC),(([]:List kO),(0,()))),1))) (
   aP ((jx inv 0)) (
    k (dK.out ((([]:List kC),(([]:List kO),(0,()))),1))) (
    aP ((tZ inv (t.1.length:Int))) (
     k (dK.out ((([]:List kC),(([]:List kO),(0,()))),1))) (
     ah (nf.call (branch,(([]:List Sg),(secret,())))) λAp=>
     aP ((!Ap)) (
      k (dK.out ((([]:List kC),(([]:List kO),(0,()))),1))) (
      aP ((uL (keys.length:Int) 12)) (
       k (dK.out ((([]:List kC),(([]:List kO),(0,()))),1))) (
       ah (eV.call keys) λHv=>
       aP (Hv) (
        k (dK.out ((([]:List kC),(([]:List kO),(0,()))),1))) (
        ah (tid.call t) λCs=>
        ah (dK.L0.call (inv,keys,(keys.length:Int),0,t,(0,()),branch,0,(secret,()),Cs,([]:List Sg))) λCu=>
        ah (aQ.call Cu.1.2.1) λzJ=>
        aP (jn Cu.1.1 ((zJ.1:Nat):Int)) (
        aP (decide ((0+(Int.toNat Cu.1.1)) < (List.length zJ.2.2))) (
        aP (decide ((((0+(Int.toNat Cu.1.1))*36)+33)=((0+((Int.toNat Cu.1.1)*36))+33))) (
        aP (decide ((0+(Int.toNat Cu.1.1)) < (List.length zJ.2.2))) (
        aP (decide (0=0/\(0+zJ.1)<=(List.length (List.set zJ.2.2 (0+(Int.toNat Cu.1.1)) ((nth jo zJ.2.2 (0+(Int.toNat Cu.1.1))).1,(Cu.2.1,(nth jo zJ.2.2 (0+(Int.toNat Cu.1.1))).2.2)))))) (
        k (dK.out (((cut (List.set zJ.2.2 (0+(Int.toNat Cu.1.1)) ((nth jo zJ.2.2 (0+(Int.toNat Cu.1.1))).1,(Cu.2.1,(nth jo zJ.2.2 (0+(Int.toNat Cu.1.1))).2.2))) 0 zJ.1),zJ.2.1),0))) none) none) none) none) none)))))):=by kernel_rfl
theorem dK.L0.ok:(dK.mL 0 dK.L0):=by
 refine(dK.oH 0 dK.L0) (λ(i0,l,n,i,t,e,br,L,sc,id,r)=>l.length - i.toNat) ?_
 rintro⟨i0,l,n,i,t,e,br,L,sc,id,r⟩ ⟨hlen,hu,hm,k,hk,rfl,rfl,rfl,hr⟩
 have hlen:l.length<=1000:=hlen
 have hk:k<=l.length:=hk
 have hr:r.length<=1000+k:=hr
 by_cases h:k < l.length
 ·left
  have n1:nth tu l k=l[k]:=dz (t:=tu) h
  have hd:List.drop k l=l[k]::List.drop (k+1) l:=ax h
  refine⟨(i0,l,l.length,((k+1:Nat):Int),t,e,br,r.length+1,sc,id,r++ [kK l[k] id]),⟨hlen,hu,hm,k+1,by omega,rfl,rfl,by rw[ae];rfl,by rw[ae];show r.length+1<=_;omega⟩,by simp only[aa];omega,?_,λkn kx=> ?_⟩
  ·simp only[dK.L0.add,dK.L0.F,aa,hd,bX,aD,dN]
  ·rw[dK.L0.step,bg (by omega),bG (by omega) (by omega),aa,n1,kL.run (d:=(l[k],id)) ⟨hu _ (aL h),hm⟩]
   simp only[ag,ab,bP,kL.F]
   rw[aY (aw _),fg (by omega) (by omega),N.p9 (by omega),dh]
   rfl
 ·right
  obtain rfl:k=l.length:=by omega
  intro R kn kx
  rw[dK.L0.step,aX (by omega),al]
  simp only[dK.L0.add,dK.L0.F,aa,aZ,ij,bS,aI,aw,and_self,decide_true,ag,gI]
theorem dK.ok:dK.Ok:=by
 rintro⟨⟨is,os,nt,u⟩,i,br,ks,sc⟩ ⟨hv,hu,hl⟩
 have hv:rK (is,os,nt,u):=hv
 have hl:ks.length<=1000000000:=hl
 rw[dK.eq,az.run (d:=(is,os,nt,u)) hv.1]
 simp only[ab,bP,az.F,bP,dK.F,NG,tN]
 rcases iV (jk (is,os,nt,u)) with jU | jU
 rotate_left
 ·simp only[jU];rfl
 obtain⟨⟨_,a2,a3,_⟩,b1,b2⟩:=kk jU
 have a2:is.length<=64:=a2
 simp only[jU,dj,al,ez]
 by_cases h1:i < 0
 ·rw[bg h1,ag,cH (by omega)];rfl
 rw[aX h1,al]
 by_cases h2:i>=(is.length:Int)
 ·rw[jg h2,ag,cH (by omega)];rfl
 rw[fI h2,al,nf.run (d:=(br,([],(sc,())))) trivial]
 simp only[ab,bP,nf.F,uh]
 by_cases h3:0<=br/\br < 4
 ·rw[aY h3]
  by_cases h4:ks.length > 12
  ·rw[eY (by omega),cH (p:=0<=i/\i < (is.length:Int)/\0<=br/\br < 4/\ks.length<=12) (by omega)];rfl
  ·rw[eC (by omega),aY (p:=0<=i/\i < (is.length:Int)/\0<=br/\br < 4/\ks.length<=12) (by omega),eV.run (d:=ks) ⟨λ_ _=>trivial,hl⟩]
   simp only[ab,bP,eV.F]
   rcases iV (ks.any wk) with hb | hb
   rotate_left
   ·simp only[hb]
    obtain⟨k,rfl⟩:∃k:Nat,i=k:=⟨i.toNat,by omega⟩
    have hk:k < is.length:=by omega
    simp only[show(([]:List Sg).length<=12)=True from eq_true (aK _),decide_true,Bool.and_self,dj,ia,al,ez,if_true]
    rw[tid.run (d:=(is,os,nt,u)) hv]
    simp only[ab,bP,tid.F]
    rw[dK.L0.run (d:=((k:Int),ks,ks.length,0,(is,os,nt,u),(0,()),br,0,(sc,()),lW (is,os,nt,u),[])) ⟨by show ks.length<=_;omega,hu,wY,0,aK _,rfl,rfl,rfl,aK _⟩]
    simp only[ab,dK.L0.add,dK.L0.F,bN,aJ,aR]
    rw[aQ.run (d:=(is,os,nt,u)) jU]
    simp only[ab,bP,aQ.F,aa,aI,cF,bG (show(0:Int)<=(k:Int) by omega) (show(k:Int) < (is.length:Int) by omega),ag,aY hk,decide_true,List.length_set,aw,and_self]
    rw[gI (by rw[List.length_set])]
   ·simp only[hb];rfl
 ·rw[cH h3,cH (p:=0<=i/\i < (is.length:Int)/\0<=br/\br < 4/\ks.length<=12) (by omega)];rfl
theorem dK.run:dK.RS:=rE [.d gU,.d ti,.d ti,.d tU,.d tu] dK
def dK.sg:=dK.gG dK.ok 1 ⟨.iR dK.L0.ok,trivial⟩
abbrev eR:Ty:=(.pair lO (.pair ti .unit))
abbrev dP:=(kO×(Int×Unit))
abbrev Lr:Ty:=(.pair b8 (.pair eR .unit))
abbrev Ja:=(cd×(dP×Unit))
abbrev cE:Ty:=(.pair (.slice Lr) (.pair (.slice b8) .unit))
abbrev cn:=((List Ja)×((List cd)×Unit))
abbrev qc.D:=Bs×Bs
abbrev qc.Y:=Int
def qc.aM:qc.D->Prop:=λ_=>True
def qc.F:qc.D->qc.Y:=λ(a,b)=>CH a b
def qc:Fs Tryz.prog qc.aM bP qc.F:=gC 82 Tryz.f82 (λ(a,b)=>([.d tB a,.d tB b],[])) (λx=>⟨.d ti x,[],[]⟩) [some tB,some tB] [⟨156,om,Jh.E,.of (Jh.of (fn:=Tryz.f156) (by kernel_rfl) (by kernel_rfl) (by kernel_rfl) (by kernel_rfl) (by kernel_rfl)) (by rfl)⟩]
theorem qc.eq{R:Type}(a b)(k:K1 R):qc.A (a,b) k=
 ah (Jh.call (a,b)) λx1=>
 k (qc.out x1):=by kernel_rfl
theorem qc.ok:qc.Ok:=by
 rintro⟨a,b⟩ _
 rw[qc.eq,Jh.run]
 rfl
theorem qc.run:qc.RS:=rE [.d tB,.d tB] qc
def qc.sg:=qc.gG qc.ok
abbrev ow.D:=Int
abbrev ow.Y:=Bool
def ow.aM:ow.D->Prop:=λ_=>True
def ow.F:ow.D->ow.Y:=λ_=>false
def ow:Fs Tryz.prog ow.aM bP ow.F:=gC 157 Tryz.f157 (λx=>([.d ti x],[])) (λx=>⟨.d .bool x,[],[]⟩) [some ti]
theorem ow.eq{R:Type}(x)(k:K1 R):ow.A x k=
 k (ow.out (w9 x x)):=by kernel_rfl
theorem ow.ok:ow.Ok:=by
 intro x _
 rw[ow.eq]
 simp only[bP,ow.F,ff rfl]
theorem ow.run:ow.RS:=rE [.d ti] ow
def ow.sg:=ow.gG ow.ok
def HQ(x y:Int):Int:=if x < y then -1 else if x > y then 1 else 0
abbrev nD.D:=Int×Int
abbrev nD.Y:=Int
def nD.aM:nD.D->Prop:=λ_=>True
def nD.F:nD.D->nD.Y:=λ(x,y)=>HQ x y
def nD:Fs Tryz.prog nD.aM bP nD.F:=gC 83 Tryz.f83 (λ(x,yv)=>([.d ti x,.d ti yv],[])) (λx=>⟨.d ti x,[],[]⟩) [some ti,some ti] [ow.sg]
theorem nD.eq{R:Type}(x yv)(k:K1 R):nD.A (x,yv) k=
  ah (ow.call x) λx1=>
  ah (ow.call yv) λx2=>
  aP (x1) (
   aP (x2) (
    k (nD.out 0)) (
    k (nD.out (-1)))) (
   aP (x2) (
    k (nD.out 1)) (
    aP ((jx x yv)) (
     k (nD.out (-1))) (
     aP ((uL x yv)) (
      k (nD.out 1)) (
      k (nD.out 0))))):=by kernel_rfl
theorem nD.ok:nD.Ok:=by
 rintro⟨x,y⟩ _
 rw[nD.eq,ow.run (d:=x) trivial]
 simp only[ab,bP,ow.F]
 rw[ow.run (d:=y) trivial]
 simp only[ab,bP,ow.F,al,bP,nD.F,HQ]
 by_cases h:x < y
 ·rw[bg h,ag,if_pos h]
 ·rw[aX h,al,if_neg h]
  by_cases h2:x > y
  ·rw[eY h2,ag,if_pos h2]
  ·rw[eC h2,al,if_neg h2]
theorem nD.run:nD.RS:=rE [.d ti,.d ti] nD
def nD.sg:=nD.gG nD.ok
abbrev hZ.L0.D:=Int×(List Int)×Int×Int
def hZ.L0.st:hZ.L0.D->AS:=λ(zero,t6,t7,t8)=>⟨([.undef,.undef,.undef,.d ti zero,.undef,.undef,.d (.slice ti) t6,.d ti t7,.d ti t8]++aT 9 []),[],(List.replicate 18 [])⟩
abbrev hZ.L0.Y0:=Int
abbrev hZ.L0.X0:=Int
def hZ.L0.eG:hZ.L0.X0->Exit×AS:=λx=>(.ret,⟨([.undef,.undef,.d ti x]++aT 15 []),[],(List.replicate 18 [])⟩)
abbrev hZ.L0.Y1:=Unit
abbrev hZ.L0.X1:=Int
def hZ.L0.gZ:hZ.L0.X1->Exit×AS:=λx=>(.exit 0,⟨([.undef,.undef,.undef,.d ti x]++aT 14 []),[],(List.replicate 18 [])⟩)
abbrev hZ.L0.X:=(hZ.L0.X0)⊕(hZ.L0.X1)
abbrev hZ.L0.Y:=(hZ.L0.Y0)⊕(hZ.L0.Y1)
def hZ.L0.out:hZ.L0.X->Out (Exit×AS):=λx=> .br x.isLeft (.get x.getLeft? λa=> .ok (hZ.L0.eG a)) (.get x.getRight? λb=> .ok (hZ.L0.gZ b))
def hZ.L0.add:hZ.L0.D->hZ.L0.Y->hZ.L0.X:=λ(zero,t6,t7,t8) y=>match y with | .inl y=> .inl y | .inr z=> .inr (zero)
abbrev hZ.D:=(List Int)
abbrev hZ.Y:=Int
def S0:List Int->Int
 |[]=>0
 |x::l=>if x≠0 then x else S0 l
def Ql:List Int->Int⊕Unit
 |[]=> .inr ()
 |x::l=>if x≠0 then .inl x else Ql l
theorem Qm:∀l:List Int,S0 l=match Ql l with | .inl x=>x | .inr _=>0
 |[]=>rfl
 |x::l=>by
  simp only[S0,Ql]
  split
  ·rfl
  ·exact Qm l
def hZ.L0.aM:hZ.L0.D->Prop:=λ(z,l,n,i)=>z=0/\l.length<=1000000000/\n=l.length/\∃k:Nat,k<=l.length/\i=k
def hZ.L0.F:hZ.L0.D->hZ.L0.Y:=λ(z,l,n,i)=>Ql (l.drop i.toNat)
def hZ.aM:hZ.D->Prop:=λl=>l.length<=1000000000
def hZ.F:hZ.D->hZ.Y:=λl=>S0 l
def hZ.L0.E:=eE.iR hZ.L0.st hZ.L0.aM hZ.L0.add hZ.L0.F hZ.L0.out
def hZ.L0.call:hZ.L0.D->Option hZ.L0.X:=j9 hZ.L0.E hZ.L0.st
def hZ:Fs Tryz.prog hZ.aM bP hZ.F:=gC 81 Tryz.f81 (λkm=>([.d (.slice ti) km],[])) (λx=>⟨.d ti x,[],[]⟩) [some (.slice ti)] [] {loops:=pz [(3,{bo:=[3,6,7,8]})],outs:=py [(3,{bo:=[3]},{bo:=[2]})],iX:=qg [(3,hZ.L0.E)]}
def hZ.L0.R:= @gN Tryz.prog (oo hZ.G) hZ.an 0 Tryz.f81 0 _ hZ.L0.st
abbrev hZ.L0.Ok:=mS Tryz.prog (oo hZ.G) hZ.an 0 Tryz.f81 0 hZ.L0.st hZ.L0.aM hZ.L0.add hZ.L0.F hZ.L0.out
theorem hZ.L0.run:kF hZ.L0.call hZ.L0.aM hZ.L0.add hZ.L0.F:=oU (oR [.d ti,.d (.slice ti),.d ti,.d ti] λ_=>by kernel_rfl)
theorem hZ.L0.cM:qa @hZ.L0.R hZ.L0.st hZ.L0.aM hZ.L0.add hZ.L0.F hZ.L0.out hZ.L0.Ok:=qD
theorem hZ.L0.step{R:Type}(zero:Int)(t6:(List Int))(t7:Int)(t8:Int)(kn:AS->Option R)(kx:Exit->AS->Option R):hZ.L0.R (zero,t6,t7,t8) kn kx=
  aP ((jx t8 t7)) (
   aP (jn t8 (((List.length t6):Nat):Int)) (
   aP ((w9 (nth ti t6 (Int.toNat t8)) zero)) (
    kx (hZ.L0.eG (nth ti t6 (Int.toNat t8))).1 (hZ.L0.eG (nth ti t6 (Int.toNat t8))).2) (
    kn (hZ.L0.st (zero,t6,t7,(cG .i64 t8 (1:Int)))))) none) (
   kx (hZ.L0.gZ zero).1 (hZ.L0.gZ zero).2):=by kernel_rfl
theorem hZ.eq{R:Type}(km)(k:K1 R):hZ.A km k=
  ah (hZ.L0.call (0,km,(km.length:Int),0)) λx1=>
  aP (x1.isLeft) (
   ah (x1.getLeft?) λa2=>
   k (hZ.out a2)) (
   ah (x1.getRight?) λb3=>
   k (hZ.out b3)):=by kernel_rfl
theorem hZ.L0.ok:hZ.L0.Ok:=by
 refine hZ.L0.cM (λ(z,l,n,i)=>l.length - i.toNat) ?_
 rintro⟨z,l,n,i⟩ ⟨rfl,hl,rfl,k,hk,rfl⟩
 by_cases h:k < l.length
 ·have hd:l.drop k=l[k]::l.drop (k+1):=ax h
  have n1:nth ti l k=l[k]:=dz (t:=ti) h
  by_cases h2:l[k]≠0
  ·right
   refine⟨hZ.L0.eG l[k],?_,λkn kx=> ?_⟩
   rotate_left
   ·rw[hZ.L0.step,bg (by omega),ag,bG (by omega) (by omega),ag,aa,n1,iH h2,ag]
   ·simp only[hZ.L0.add,hZ.L0.F,aa,hd,Ql,if_pos h2]
    rfl
  ·left
   refine⟨(0,l,(l.length:Int),((k+1:Nat):Int)),⟨rfl,hl,rfl,k+1,by omega,rfl⟩,by simp only[aa];omega,?_,λkn kx=> ?_⟩
   ·simp only[hZ.L0.add,hZ.L0.F,aa,hd,Ql,if_neg h2]
   ·rw[hZ.L0.step,bg (by omega),ag,bG (by omega) (by omega),ag,aa,n1,ff (by omega),al,N.p9 (by omega)]
 ·right
  obtain rfl:k=l.length:=by omega
  refine⟨hZ.L0.gZ 0,?_,λkn kx=> ?_⟩
  rotate_left
  ·rw[hZ.L0.step,aX (by omega),al]
  ·simp only[hZ.L0.add,hZ.L0.F,aa,aZ,Ql]
   rfl
theorem hZ.ok:hZ.Ok:=by
 intro l hl
 rw[hZ.eq,hZ.L0.run (d:=(0,l,(l.length:Int),0)) ⟨rfl,hl,rfl,0,aK _,rfl⟩]
 simp only[ab,hZ.L0.add,hZ.L0.F,bN,aJ,bP,hZ.F]
 rw[Qm]
 cases Ql l <;> rfl
theorem hZ.run:hZ.RS:=rE [.d (.slice ti)] hZ
def hZ.sg:=hZ.gG hZ.ok 1 ⟨.iR hZ.L0.ok,trivial⟩
abbrev fh:Ty:=(.pair ti (.pair tH (.pair (.slice gU) (.pair ti (.pair (.slice b8) .unit)))))
abbrev eN:=(Int×(Bs×((List eZ)×(Int×((List cd)×Unit)))))
theorem Mx(x y:List Int):Ty.beq tH x y=decide (x=y):=by
 by_cases h:x=y
 ·rw[h,decide_eq_true rfl];exact beq_refl tH y rfl
 ·rw[decide_eq_false h]
  cases hb:Ty.beq tH x y with
  |false=>rfl
  |true=>exact absurd (beq_eq tH x y rfl hb) h
def xp(id:Bs)(l:List eZ):Bool:=l.any λt=>decide (lW t=id)
def kN(id:Bs):List eN->Int->Option Int
 |[],_=>none
 |b::l,i=>if xp id b.2.2.1 then some (i+1) else kN id l (i+1)
def Oj(o:cd):Prop:=o.1.length=32/\o.2.1<=9223372036854775807
def I8(b:eN):Prop:=(b.2.2.1.length<=1000/\∀t∈b.2.2.1,rK t)/\(b.1<=9223372036854775807/\b.2.1.length=32/\b.2.2.2.1<=9223372036854775807)/\b.2.2.2.2.1.length<=1000/\∀o∈b.2.2.2.2.1,Oj o
def y8(n:Nat)(l:List eN):Prop:=n<=l.length/\n<=1000000/\∀b∈l,I8 b
abbrev iF.D:=Nat×Nat×(List (cd×dP))×(List cn)×(List eN)
abbrev iF.Y:=Unit
abbrev iF.X:=Nat×Nat×(List (cd×dP))×(List cn)×(List eN)
def iF.add:iF.D->iF.Y->iF.X:=λ(o0baL,o1baL,o2,o3,o4) y=>(o0baL,o1baL,o2,o3,o4)
def iF.aM:iF.D->Prop:=λ_=>True
def iF.F:iF.D->iF.Y:=λ_=>()
def iF:Fs Tryz.prog iF.aM iF.add iF.F:=gC 76 Tryz.f76 (λ(o0baL,o1baL,o2,o3,o4)=>([.ptr (.aV 0) 0 [] 0],[.obj 0 false (.pr (.ptr (.aV 1) 0 [] 0) (.pr (.aS (.aV 4) 0 [] 0 0 o0baL) (.d .unit ()))),.obj 0 false (.pr (.db (.aV 2) 0) (.pr (.aS (.aV 3) 0 [] 0 0 o1baL) (.d .unit ()))),.obj 0 false (.mp b8 eR o2),.obj 0 false (.vec 161 cE o3),.obj 0 false (.vec 60 fh o4)])) (λx=>⟨.fn 149 (.cons (.ptr (.new 0 0) 0 [] 0) (.nil)),[.obj 0 false (.pr (.ptr (.aV 1) 0 [] 0) (.pr (.aS (.aV 4) 0 [] 0 0 x.1) (.d .unit ()))),.obj 0 false (.pr (.db (.aV 2) 0) (.pr (.aS (.aV 3) 0 [] 0 0 x.2.1) (.d .unit ()))),.obj 0 false (.mp b8 eR x.2.2.1),.obj 0 false (.vec 161 cE x.2.2.2.1),.obj 0 false (.vec 60 fh x.2.2.2.2)],[.obj 0 false (.ptr (.aV 0) 0 [] 0)]⟩) [none] [] {bK:=[1]}
theorem iF.eq{R:Type}(o0baL o1baL o2 o3 o4)(k:K1 R):iF.A (o0baL,o1baL,o2,o3,o4) k=
 k (iF.out (o0baL,o1baL,o2,o3,o4)):=by kernel_rfl
theorem iF.ok:iF.Ok:=by
 intro d _
 rw[iF.eq]
 rfl
theorem iF.run:iF.RS:=rE [.n,.n,.d (.slice (.pair b8 eR)),.d (.slice cE),.d (.slice fh)] iF
def iF.sg:=iF.gG iF.ok
abbrev dE.D:=Int×eZ×Bs×Bs×Int×Bool
def dE.st:dE.D->SA:=λ(t10,t11,id,idr,o1,o2)=>(([.yl (.aV 0) 0,.d ti t10,.d gU t11,.undef,.undef,.undef,.eD tH id,.ptr (.aV 1) 0 [] 0,.ptr (.aV 2) 0 [] 0]++aT 11 []),[.obj 0 false (.mr (ln Tryz.prog 4294967648) (jr ([.undef,.undef,.undef,.eD tH idr,.ptr (.aV 1) 0 [] 0,.ptr (.aV 2) 0 [] 0]++aT 11 [])) 0),.obj 0 false (.d ti o1),.obj 0 false (.d .bool o2)])
abbrev dE.Y:=(Unit)⊕(Unit)
abbrev dE.X:=(Bs×Int)⊕(Bs×Int×Bool)
def dE.out:dE.X->gV:=λx=>match x with | .inl x=>⟨.d .bool false,[.obj 0 false (.mr (ln Tryz.prog 4294967648) (jr ([.undef,.undef,.undef,.eD tH x.1,.ptr (.aV 1) 0 [] 0,.ptr (.aV 2) 0 [] 0]++aT 11 [])) 2),.obj 0 false (.d ti x.2),.obj 0 false (.d .bool true)],[]⟩ | .inr x=>⟨.d .bool true,[.obj 0 false (.mr (ln Tryz.prog 4294967648) (jr ([.undef,.undef,.undef,.eD tH x.1,.ptr (.aV 1) 0 [] 0,.ptr (.aV 2) 0 [] 0]++aT 11 [])) 0),.obj 0 false (.d ti x.2.1),.obj 0 false (.d .bool x.2.2)],[]⟩
def dE.add:dE.D->dE.Y->dE.X:=λ(t10,t11,id,idr,o1,o2) y=>match y with | .inl y=> .inl (idr,t10) | .inr y=> .inr (idr,o1,o2)
def dE.aM:dE.D->Prop:=λ(_,t,_)=>rK t
def dE.F:dE.D->dE.Y:=λ(_,t,id,_)=>if lW t=id then .inl () else .inr ()
def dE.G:mR:=oo (P:=Tryz.prog) [tid.sg]
def dE.an:rN:= {oH:=some 4294967648}
def dE.A:= @zK Tryz.prog dE.G dE.an 0 (Sr Tryz.prog 4294967648) _ dE.st
abbrev dE.Ok:=CC @dE.A dE.aM dE.add dE.F dE.out
theorem dE.eq{R:Type}(t10:Int)(t11:eZ)(id:Bs)(idr:Bs)(o1:Int)(o2:Bool)(k:gV->Option R):dE.A (t10,t11,id,idr,o1,o2) k=
  ah (tid.call t11) λx1=>
  aP ((Ty.beq tH x1 id)) (
   k (dE.out (.inl (idr,t10)))) (
   k (dE.out (.inr (idr,o1,o2)))):=by kernel_rfl
theorem dE.ok:dE.Ok:=by
 rintro⟨h,t,id,idr,o1,o2⟩ hv
 rw[dE.eq,tid.run (d:=t) hv]
 simp only[ab,bP,tid.F,Mx,dE.F]
 by_cases he:lW t=id
 ·rw[decide_eq_true he,ag,if_pos he];rfl
 ·rw[decide_eq_false he,al,if_neg he];rfl
def dE.E:=Entry.Bi [none,none,none,none,none,none,none,none,none,none,none,none,none,none,none,none,none,none,none,none] dE.st dE.aM dE.add dE.F dE.out
def dE.call:dE.D->Option dE.X:=vU dE.E dE.st
theorem dE.run:kF dE.call dE.aM dE.add dE.F:=zF (EG [.d ti,.d gU,.d tH,.d tH,.d ti,.d .bool] λ_=>by kernel_rfl)
def dE.sg:SG Tryz.prog:=⟨4294967648,om,dE.E,.Ye (tQ.fn 0 (by kernel_rfl) dE.ok trivial (by rfl)).PC (by rfl)⟩
abbrev bC.L0.D:=Nat×Int×Int×Bs×Int×Bool×Nat×Nat×(List (cd×dP))×(List cn)×(List eN)
def bC.L0.st:bC.L0.D->AS:=λ(sV,t11,t12,o0,eQ,eA,o4L,o5L,IA,wS,ur)=>⟨([.yl (.aV 0) 0]++aT 9 ([.aS (.aV 8) 0 [] 0 0 sV,.d ti t11,.d ti t12]++aT 19 [])),[.obj 0 false (.mr (ln Tryz.prog 4294967648) (jr ([.undef,.undef,.undef,.eD tH o0,.ptr (.aV 1) 0 [] 0,.ptr (.aV 2) 0 [] 0]++aT 11 [])) 0),.obj 0 false (.d ti eQ),.obj 0 false (.d .bool eA),.obj 0 false (.ptr (.aV 4) 0 [] 0),.obj 0 false (.pr (.ptr (.aV 5) 0 [] 0) (.pr (.aS (.aV 8) 0 [] 0 0 o4L) (.d .unit ()))),.obj 0 false (.pr (.db (.aV 6) 0) (.pr (.aS (.aV 7) 0 [] 0 0 o5L) (.d .unit ()))),.obj 0 false (.mp b8 eR IA),.obj 0 false (.vec 161 cE wS),.obj 0 false (.vec 60 fh ur)],(List.replicate 32 [])⟩
abbrev bC.L0.Y0:=Bs×Int×Nat×Nat×(List (cd×dP))×(List cn)×(List eN)
abbrev bC.L0.X0:=Bs×Int×Nat×Nat×(List (cd×dP))×(List cn)×(List eN)
def bC.L0.eG:bC.L0.X0->Exit×AS:=λx=>(.ret,⟨(aT 32 []),[.obj 0 false (.mr (ln Tryz.prog 4294967648) (jr ([.undef,.undef,.undef,.eD tH x.1,.ptr (.aV 1) 0 [] 0,.ptr (.aV 2) 0 [] 0]++aT 11 [])) 2),.obj 0 false (.d ti x.2.1),.obj 0 false (.d .bool true),.obj 0 false (.ptr (.aV 4) 0 [] 0),.obj 0 false (.pr (.ptr (.aV 5) 0 [] 0) (.pr (.aS (.aV 8) 0 [] 0 0 x.2.2.1) (.d .unit ()))),.obj 0 false (.pr (.db (.aV 6) 0) (.pr (.aS (.aV 7) 0 [] 0 0 x.2.2.2.1) (.d .unit ()))),.obj 0 false (.mp b8 eR x.2.2.2.2.1),.obj 0 false (.vec 161 cE x.2.2.2.2.2.1),.obj 0 false (.vec 60 fh x.2.2.2.2.2.2)],(List.replicate 32 [])⟩)
abbrev bC.L0.Y1:=Bs×Int×Bool×Nat×Nat×(List (cd×dP))×(List cn)×(List eN)
abbrev bC.L0.X1:=Bs×Int×Bool×Nat×Nat×(List (cd×dP))×(List cn)×(List eN)
def bC.L0.gZ:bC.L0.X1->Exit×AS:=λx=>(.exit 0,⟨(aT 32 []),[.obj 0 false (.mr (ln Tryz.prog 4294967648) (jr ([.undef,.undef,.undef,.eD tH x.1,.ptr (.aV 1) 0 [] 0,.ptr (.aV 2) 0 [] 0]++aT 11 [])) 0),.obj 0 false (.d ti x.2.1),.obj 0 false (.d .bool x.2.2.1),.obj 0 false (.ptr (.aV 4) 0 [] 0),.obj 0 false (.pr (.ptr (.aV 5) 0 [] 0) (.pr (.aS (.aV 8) 0 [] 0 0 x.2.2.2.1) (.d .unit ()))),.obj 0 false (.pr (.db (.aV 6) 0) (.pr (.aS (.aV 7) 0 [] 0 0 x.2.2.2.2.1) (.d .unit ()))),.obj 0 false (.mp b8 eR x.2.2.2.2.2.1),.obj 0 false (.vec 161 cE x.2.2.2.2.2.2.1),.obj 0 false (.vec 60 fh x.2.2.2.2.2.2.2)],(List.replicate 32 [])⟩)
abbrev bC.L0.X:=(bC.L0.X0)⊕(bC.L0.X1)
abbrev bC.L0.Y:=(bC.L0.Y0)⊕(bC.L0.Y1)
def bC.L0.out:bC.L0.X->Out (Exit×AS):=λx=> .br x.isLeft (.get x.getLeft? λa=> .ok (bC.L0.eG a)) (.get x.getRight? λb=> .ok (bC.L0.gZ b))
def bC.L0.add:bC.L0.D->bC.L0.Y->bC.L0.X:=λ(sV,t11,t12,o0,eQ,eA,o4L,o5L,IA,wS,ur) y=>match y with | .inl y=> .inl y | .inr z=> .inr (z)
abbrev bC.L1.D:=Int×Nat×Int×Int×(List eZ)×Int×Int×Bs×Int×Bool×Nat×Nat×(List (cd×dP))×(List cn)×(List eN)
def bC.L1.st:bC.L1.D->AS:=λ(i,mm,pX,pY,t18,t19,t20,nM,mi,iJ,uU,mj,BL,ru,rv)=>⟨([.yl (.aV 0) 0,.undef,.undef,.d ti i]++aT 6 ([.aS (.aV 8) 0 [] 0 0 mm,.d ti pX,.d ti pY]++aT 5 ([.d (.slice gU) t18,.d ti t19,.d ti t20]++aT 11 []))),[.obj 0 false (.mr (ln Tryz.prog 4294967648) (jr ([.undef,.undef,.undef,.eD tH nM,.ptr (.aV 1) 0 [] 0,.ptr (.aV 2) 0 [] 0]++aT 11 [])) 0),.obj 0 false (.d ti mi),.obj 0 false (.d .bool iJ),.obj 0 false (.ptr (.aV 4) 0 [] 0),.obj 0 false (.pr (.ptr (.aV 5) 0 [] 0) (.pr (.aS (.aV 8) 0 [] 0 0 uU) (.d .unit ()))),.obj 0 false (.pr (.db (.aV 6) 0) (.pr (.aS (.aV 7) 0 [] 0 0 mj) (.d .unit ()))),.obj 0 false (.mp b8 eR BL),.obj 0 false (.vec 161 cE ru),.obj 0 false (.vec 60 fh rv)],(List.replicate 32 [])⟩
abbrev bC.L1.Y0:=Bs×Int
abbrev bC.L1.X0:=(Nat×Nat×(List (cd×dP))×(List cn)×(List eN))×(Bs×Int)
def bC.L1.eG:bC.L1.X0->Exit×AS:=λx=>(.ret,⟨(aT 32 []),[.obj 0 false (.mr (ln Tryz.prog 4294967648) (jr ([.undef,.undef,.undef,.eD tH x.2.1,.ptr (.aV 1) 0 [] 0,.ptr (.aV 2) 0 [] 0]++aT 11 [])) 2),.obj 0 false (.d ti x.2.2),.obj 0 false (.d .bool true),.obj 0 false (.ptr (.aV 4) 0 [] 0),.obj 0 false (.pr (.ptr (.aV 5) 0 [] 0) (.pr (.aS (.aV 8) 0 [] 0 0 x.1.1) (.d .unit ()))),.obj 0 false (.pr (.db (.aV 6) 0) (.pr (.aS (.aV 7) 0 [] 0 0 x.1.2.1) (.d .unit ()))),.obj 0 false (.mp b8 eR x.1.2.2.1),.obj 0 false (.vec 161 cE x.1.2.2.2.1),.obj 0 false (.vec 60 fh x.1.2.2.2.2)],(List.replicate 32 [])⟩)
abbrev bC.L1.Y1:=Bs×Int×Bool
abbrev bC.L1.X1:=(Nat×Int×Int×Nat×Nat×(List (cd×dP))×(List cn)×(List eN))×(Bs×Int×Bool)
def bC.L1.gZ:bC.L1.X1->Exit×AS:=λx=>(.exit 2,⟨([.yl (.aV 0) 0]++aT 9 ([.aS (.aV 8) 0 [] 0 0 x.1.1,.d ti x.1.2.1,.d ti x.1.2.2.1]++aT 19 [])),[.obj 0 false (.mr (ln Tryz.prog 4294967648) (jr ([.undef,.undef,.undef,.eD tH x.2.1,.ptr (.aV 1) 0 [] 0,.ptr (.aV 2) 0 [] 0]++aT 11 [])) 0),.obj 0 false (.d ti x.2.2.1),.obj 0 false (.d .bool x.2.2.2),.obj 0 false (.ptr (.aV 4) 0 [] 0),.obj 0 false (.pr (.ptr (.aV 5) 0 [] 0) (.pr (.aS (.aV 8) 0 [] 0 0 x.1.2.2.2.1) (.d .unit ()))),.obj 0 false (.pr (.db (.aV 6) 0) (.pr (.aS (.aV 7) 0 [] 0 0 x.1.2.2.2.2.1) (.d .unit ()))),.obj 0 false (.mp b8 eR x.1.2.2.2.2.2.1),.obj 0 false (.vec 161 cE x.1.2.2.2.2.2.2.1),.obj 0 false (.vec 60 fh x.1.2.2.2.2.2.2.2)],(List.replicate 32 [])⟩)
abbrev bC.L1.X:=(bC.L1.X0)⊕(bC.L1.X1)
abbrev bC.L1.Y:=(bC.L1.Y0)⊕(bC.L1.Y1)
def bC.L1.out:bC.L1.X->Out (Exit×AS):=λx=> .br x.isLeft (.get x.getLeft? λa=> .ok (bC.L1.eG a)) (.get x.getRight? λb=> .ok (bC.L1.gZ b))
def bC.L1.add:bC.L1.D->bC.L1.Y->bC.L1.X:=λ(i,mm,pX,pY,t18,t19,t20,nM,mi,iJ,uU,mj,BL,ru,rv) y=>match y with | .inl y=> .inl ((uU,mj,BL,ru,rv),y) | .inr z=> .inr (((mm,pX,pY,uU,mj,BL,ru,rv),z))
abbrev bC.D:=Bs×Int×Bool×Nat×Nat×(List (cd×dP))×(List cn)×(List eN)
def bC.st:bC.D->SA:=λ(ir,o1,o2,o4baL,o5baL,o6,o7,o8)=>([.yl (.aV 0) 0,.ptr (.aV 3) 0 [] 0],[.obj 0 false (.mr (ln Tryz.prog 4294967648) (jr ([.undef,.undef,.undef,.eD tH ir,.ptr (.aV 1) 0 [] 0,.ptr (.aV 2) 0 [] 0]++aT 11 [])) 0),.obj 0 false (.d ti o1),.obj 0 false (.d .bool o2),.obj 0 false (.ptr (.aV 4) 0 [] 0),.obj 0 false (.pr (.ptr (.aV 5) 0 [] 0) (.pr (.aS (.aV 8) 0 [] 0 0 o4baL) (.d .unit ()))),.obj 0 false (.pr (.db (.aV 6) 0) (.pr (.aS (.aV 7) 0 [] 0 0 o5baL) (.d .unit ()))),.obj 0 false (.mp b8 eR o6),.obj 0 false (.vec 161 cE o7),.obj 0 false (.vec 60 fh o8)])
abbrev bC.Y:=(Bs×Int×Nat×Nat×(List (cd×dP))×(List cn)×(List eN))⊕(Bs×Int×Bool×Nat×Nat×(List (cd×dP))×(List cn)×(List eN))
abbrev bC.X:=(Bs×Int×Nat×Nat×(List (cd×dP))×(List cn)×(List eN))⊕(Bs×Int×Bool×Nat×Nat×(List (cd×dP))×(List cn)×(List eN))
def bC.out:bC.X->gV:=λx=>match x with | .inl x=>⟨.nil,[.obj 0 false (.mr (ln Tryz.prog 4294967648) (jr ([.undef,.undef,.undef,.eD tH x.1,.ptr (.aV 1) 0 [] 0,.ptr (.aV 2) 0 [] 0]++aT 11 [])) 2),.obj 0 false (.d ti x.2.1),.obj 0 false (.d .bool true),.obj 0 false (.ptr (.aV 4) 0 [] 0),.obj 0 false (.pr (.ptr (.aV 5) 0 [] 0) (.pr (.aS (.aV 8) 0 [] 0 0 x.2.2.1) (.d .unit ()))),.obj 0 false (.pr (.db (.aV 6) 0) (.pr (.aS (.aV 7) 0 [] 0 0 x.2.2.2.1) (.d .unit ()))),.obj 0 false (.mp b8 eR x.2.2.2.2.1),.obj 0 false (.vec 161 cE x.2.2.2.2.2.1),.obj 0 false (.vec 60 fh x.2.2.2.2.2.2)],[]⟩ | .inr x=>⟨.nil,[.obj 0 false (.mr (ln Tryz.prog 4294967648) (jr ([.undef,.undef,.undef,.eD tH x.1,.ptr (.aV 1) 0 [] 0,.ptr (.aV 2) 0 [] 0]++aT 11 [])) 0),.obj 0 false (.d ti x.2.1),.obj 0 false (.d .bool x.2.2.1),.obj 0 false (.ptr (.aV 4) 0 [] 0),.obj 0 false (.pr (.ptr (.aV 5) 0 [] 0) (.pr (.aS (.aV 8) 0 [] 0 0 x.2.2.2.1) (.d .unit ()))),.obj 0 false (.pr (.db (.aV 6) 0) (.pr (.aS (.aV 7) 0 [] 0 0 x.2.2.2.2.1) (.d .unit ()))),.obj 0 false (.mp b8 eR x.2.2.2.2.2.1),.obj 0 false (.vec 161 cE x.2.2.2.2.2.2.1),.obj 0 false (.vec 60 fh x.2.2.2.2.2.2.2)],[]⟩
def bC.add:bC.D->bC.Y->bC.X:=λ(ir,o1,o2,o4baL,o5baL,o6,o7,o8) y=>match y with | .inl y=> .inl y | .inr y=> .inr y
def bC.L1.aM:bC.L1.D->Prop:=λ(i,_,_,_,l,n,j,_)=>(0<=i/\i<=1000000)/\l.length<=1000000/\(∀t∈l,rK t)/\n=(l.length:Int)/\∃k:Nat,k<=l.length/\j=k
def bC.L1.F:bC.L1.D->bC.L1.Y:=λ(i,_,_,_,l,_,j,id,o1,o2,_)=>if xp id (l.drop j.toNat) then .inl (id,i+1) else .inr (id,o1,o2)
def bC.L0.aM:bC.L0.D->Prop:=λ(nb,n,i,_,_,_,_,_,_,_,bs)=>y8 nb bs/\n=(nb:Int)/\∃k:Nat,k<=nb/\i=k
def bC.L0.F:bC.L0.D->bC.L0.Y:=λ(nb,_,i,id,o1,o2,o4,o5,m,st,bs)=>match kN id ((bs.take nb).drop i.toNat) i with
 |some h=> .inl (id,h,o4,o5,m,st,bs)
 |none=> .inr (id,o1,o2,o4,o5,m,st,bs)
def bC.aM:bC.D->Prop:=λ(_,_,_,nb,_,_,_,bs)=>y8 nb bs
def bC.F:bC.D->bC.Y:=λ(id,o1,o2,nb,o5,m,st,bs)=>match kN id (bs.take nb) 0 with
 |some h=> .inl (id,h,nb,o5,m,st,bs)
 |none=> .inr (id,o1,o2,nb,o5,m,st,bs)
def bC.G:mR:=oo (P:=Tryz.prog) [dE.sg]
def bC.L0.E:=eE.iR bC.L0.st bC.L0.aM bC.L0.add bC.L0.F bC.L0.out
def bC.L0.call:bC.L0.D->Option bC.L0.X:=j9 bC.L0.E bC.L0.st
def bC.L1.E:=eE.iR bC.L1.st bC.L1.aM bC.L1.add bC.L1.F bC.L1.out
def bC.L1.call:bC.L1.D->Option bC.L1.X:=j9 bC.L1.E bC.L1.st
def bC.an:rN:= {loops:=pz [(1,{bo:=[0,10,11,12]}),(4,{bo:=[0,3,10,11,12,18,19,20]})],outs:=py [(1,{},{}),(4,{bo:=[0,10,11,12]},{})],iX:=qg [(1,bC.L0.E),(4,bC.L1.E)]}
def bC.A:= @zK Tryz.prog bC.G bC.an 0 Tryz.f149 _ bC.st
abbrev bC.Ok:=CC @bC.A bC.aM bC.add bC.F bC.out
def bC.L0.R:= @gN Tryz.prog bC.G bC.an 0 Tryz.f149 0 _ bC.L0.st
abbrev bC.L0.Ok:=mS Tryz.prog bC.G bC.an 0 Tryz.f149 0 bC.L0.st bC.L0.aM bC.L0.add bC.L0.F bC.L0.out
def bC.L1.R:= @gN Tryz.prog bC.G bC.an 0 Tryz.f149 1 _ bC.L1.st
abbrev bC.L1.Ok:=mS Tryz.prog bC.G bC.an 0 Tryz.f149 1 bC.L1.st bC.L1.aM bC.L1.add bC.L1.F bC.L1.out
theorem bC.L0.run:kF bC.L0.call bC.L0.aM bC.L0.add bC.L0.F:=oU (oR [.n,.d ti,.d ti,.d tH,.d ti,.d .bool,.n,.n,.d (.slice (.pair b8 eR)),.d (.slice cE),.d (.slice fh)] λ_=>by kernel_rfl)
theorem bC.L0.cM:qa @bC.L0.R bC.L0.st bC.L0.aM bC.L0.add bC.L0.F bC.L0.out bC.L0.Ok:=qD
theorem bC.L0.step{R:Type}(sV:Nat)(t11:Int)(t12:Int)(o0:Bs)(eQ:Int)(eA:Bool)(o4L:Nat)(o5L:Nat)(IA:(List (cd×dP)))(wS:(List cn))(ur:(List eN))(kn:AS->Option R)(kx:Exit->AS->Option R):bC.L0.R (sV,t11,t12,o0,eQ,eA,o4L,o5L,IA,wS,ur) kn kx=
  aP ((jx t12 t11)) (
   aP (jn t12 ((sV:Nat):Int)) (
   aP (decide ((0+(Int.toNat t12)) < (List.length ur))) (
   aP (decide ((((0+(Int.toNat t12))*36)+0)=(0+((Int.toNat t12)*36)))) (
   ah (bC.L1.call (t12,sV,t11,t12,(nth fh ur (0+(Int.toNat t12))).2.2.1,(((List.length (nth fh ur (0+(Int.toNat t12))).2.2.1):Nat):Int),(0:Int),o0,eQ,eA,o4L,o5L,IA,wS,ur)) λx1=>
   aP (x1.isLeft) (
    ah (x1.getLeft?) λa2=>
    kx (bC.L0.eG (a2.2.1,a2.2.2,a2.1.1,a2.1.2.1,a2.1.2.2.1,a2.1.2.2.2.1,a2.1.2.2.2.2)).1 (bC.L0.eG (a2.2.1,a2.2.2,a2.1.1,a2.1.2.1,a2.1.2.2.1,a2.1.2.2.2.1,a2.1.2.2.2.2)).2) (
    ah (x1.getRight?) λb3=>
    kn (bC.L0.st (b3.1.1,b3.1.2.1,(cG .i64 b3.1.2.2.1 (1:Int)),b3.2.1,b3.2.2.1,b3.2.2.2,b3.1.2.2.2.1,b3.1.2.2.2.2.1,b3.1.2.2.2.2.2.1,b3.1.2.2.2.2.2.2.1,b3.1.2.2.2.2.2.2.2)))) none) none) none) (
   kx (bC.L0.gZ (o0,eQ,eA,o4L,o5L,IA,wS,ur)).1 (bC.L0.gZ (o0,eQ,eA,o4L,o5L,IA,wS,ur)).2):=by kernel_rfl
theorem bC.L1.run:kF bC.L1.call bC.L1.aM bC.L1.add bC.L1.F:=oU (oR [.d ti,.n,.d ti,.d ti,.d (.slice gU),.d ti,.d ti,.d tH,.d ti,.d .bool,.n,.n,.d (.slice (.pair b8 eR)),.d (.slice cE),.d (.slice fh)] λ_=>by kernel_rfl)
theorem bC.L1.cM:qa @bC.L1.R bC.L1.st bC.L1.aM bC.L1.add bC.L1.F bC.L1.out bC.L1.Ok:=qD
theorem bC.L1.step{R:Type}(i:Int)(mm:Nat)(pX:Int)(pY:Int)(t18:(List eZ))(t19:Int)(t20:Int)(nM:Bs)(mi:Int)(iJ:Bool)(uU:Nat)(mj:Nat)(BL:(List (cd×dP)))(ru:(List cn))(rv:(List eN))(kn:AS->Option R)(kx:Exit->AS->Option R):bC.L1.R (i,mm,pX,pY,t18,t19,t20,nM,mi,iJ,uU,mj,BL,ru,rv) kn kx=
  aP ((jx t20 t19)) (
   aP (jn t20 (((List.length t18):Nat):Int)) (
   same (ln Tryz.prog 4294967648) (ln Tryz.prog 4294967648) (
    ah (dE.call ((cG .i64 i (1:Int)),(nth gU t18 (Int.toNat t20)),nM,nM,mi,iJ)) λx1=>
    aP (x1.isLeft) (
     ah (x1.getLeft?) λLQ=>
     kx (bC.L1.eG ((uU,mj,BL,ru,rv),(LQ.1,LQ.2))).1 (bC.L1.eG ((uU,mj,BL,ru,rv),(LQ.1,LQ.2))).2) (
     ah (x1.getRight?) λN6=>
     kn (bC.L1.st (i,mm,pX,pY,t18,t19,(cG .i64 t20 (1:Int)),N6.1,N6.2.1,N6.2.2,uU,mj,BL,ru,rv))))) none) (
   kx (bC.L1.gZ ((mm,pX,pY,uU,mj,BL,ru,rv),(nM,mi,iJ))).1 (bC.L1.gZ ((mm,pX,pY,uU,mj,BL,ru,rv),(nM,mi,iJ))).2):=by kernel_rfl
theorem bC.eq{R:Type}(ir:Bs)(o1:Int)(o2:Bool)(o4baL:Nat)(o5baL:Nat)(o6:(List (cd×dP)))(o7:(List cn))(o8:(List eN))(k:gV->Option R):bC.A (ir,o1,o2,o4baL,o5baL,o6,o7,o8) k=
  ah (bC.L0.call (o4baL,((o4baL:Nat):Int),(0:Int),ir,o1,o2,o4baL,o5baL,o6,o7,o8)) λx5=>
  aP (x5.isLeft) (
   ah (x5.getLeft?) λa6=>
   k (bC.out (.inl (a6.1,a6.2.1,a6.2.2.1,a6.2.2.2.1,a6.2.2.2.2.1,a6.2.2.2.2.2.1,a6.2.2.2.2.2.2)))) (
   ah (x5.getRight?) λb7=>
   k (bC.out (.inr (b7.1,b7.2.1,b7.2.2.1,b7.2.2.2.1,b7.2.2.2.2.1,b7.2.2.2.2.2.1,b7.2.2.2.2.2.2.1,b7.2.2.2.2.2.2.2)))):=by kernel_rfl
theorem bC.L1.ok:bC.L1.Ok:=by
 refine bC.L1.cM (λ(_,_,_,_,l,_,j,_)=>l.length - j.toNat) ?_
 rintro⟨i,nb,n0,i0,l,n,j,id,o1,o2,o4,o5,m,st,bs⟩ ⟨⟨hi,MI⟩,hl,hv,rfl,k,hk,rfl⟩
 have hl:l.length<=1000000:=hl
 have hk:k<=l.length:=hk
 have hi:0<=i:=hi
 have MI:i<=1000000:=MI
 by_cases iv:k < l.length
 ·have n1:nth gU l k=l[k]:=dz (t:=gU) iv
  have hd:l.drop k=l[k]::l.drop (k+1):=ax iv
  have hw:=dE.run (d:=(i+1,l[k],id,id,o1,o2)) (hv _ (aL iv))
  by_cases he:lW l[k]=id
  ·right
   refine⟨bC.L1.eG ((o4,o5,m,st,bs),(id,i+1)),?_,λkn kx=> ?_⟩
   rotate_left
   ·rw[bC.L1.step,bg (by omega),ag,bG (by omega) (by omega),ag,aa,n1,vz,fX (by omega) (by omega),hw]
    simp only[ab,dE.F,if_pos he,dE.add,kH,ag,jH]
   ·simp only[bC.L1.add,bC.L1.F,aa,hd,xp,jz,decide_eq_true he,Bool.true_or,if_true]
    rfl
  ·left
   refine⟨(i,nb,n0,i0,l,(l.length:Int),((k+1:Nat):Int),id,o1,o2,o4,o5,m,st,bs),⟨⟨hi,MI⟩,hl,hv,rfl,k+1,by omega,rfl⟩,by simp only[aa];omega,?_,λkn kx=> ?_⟩
   ·simp only[bC.L1.add,bC.L1.F,aa,hd,xp,jz,decide_eq_false he,Bool.false_or]
    try rfl
   ·rw[bC.L1.step,bg (by omega),ag,bG (by omega) (by omega),ag,aa,n1,vz,fX (by omega) (by omega),hw]
    simp only[ab,dE.F,if_neg he,dE.add,fe,al,dX]
    rw[N.p9 (by omega)]
 ·right
  obtain rfl:k=l.length:=by omega
  refine⟨bC.L1.gZ ((nb,n0,i0,o4,o5,m,st,bs),(id,o1,o2)),?_,λkn kx=> ?_⟩
  rotate_left
  ·rw[bC.L1.step,aX (by omega),al]
  ·simp only[bC.L1.add,bC.L1.F,aa,aZ,xp,List.any_nil,cv,if_false]
   rfl
theorem bC.L0.ok:bC.L0.Ok:=by
 refine bC.L0.cM (λ(nb,_,i,_)=>nb - i.toNat) ?_
 rintro⟨nb,n,i,id,o1,o2,o4,o5,m,st,bs⟩ ⟨⟨h1,h2,h3⟩,rfl,k,hk,rfl⟩
 have h1:nb<=bs.length:=h1
 have h2:nb<=1000000:=h2
 have hk:k<=nb:=hk
 by_cases iv:k < nb
 ·have hb:k < bs.length:=by omega
  have n1:nth fh bs k=bs[k]:=dz (t:=fh) hb
  have hd:(bs.take nb).drop k=bs[k]::(bs.take nb).drop (k+1):=by
   have:=ax (l:=bs.take nb) (i:=k) (by rw[bQ];omega)
   rwa[List.getElem_take]at this
  obtain⟨⟨q1,q2⟩,_⟩:=h3 _ (aL hb)
  have q1:bs[k].2.2.1.length<=1000000:=j6 q1 (by decide)
  have hw:=bC.L1.run (d:=((k:Int),nb,(nb:Int),(k:Int),bs[k].2.2.1,(bs[k].2.2.1.length:Int),0,id,o1,o2,o4,o5,m,st,bs)) ⟨⟨by omega,by omega⟩,q1,q2,rfl,0,aK _,rfl⟩
  have z1:((0:Int)).toNat=0:=rfl
  by_cases he:xp id bs[k].2.2.1=true
  ·right
   refine⟨bC.L0.eG (id,(k:Int)+1,o4,o5,m,st,bs),?_,λkn kx=> ?_⟩
   rotate_left
   ·rw[bC.L0.step,bg (by omega),ag,bG (by omega) (by omega),ag,aa,aI,decide_eq_true hb,ag,decide_eq_true (by omega),ag,n1,hw]
    simp only[ab,bC.L1.F,z1,aJ,if_pos he,bC.L1.add,kH,ag,jH]
   ·simp only[bC.L0.add,bC.L0.F,aa,hd,kN,if_pos he]
    rfl
  ·left
   refine⟨(nb,(nb:Int),((k+1:Nat):Int),id,o1,o2,o4,o5,m,st,bs),⟨⟨h1,h2,h3⟩,rfl,k+1,by omega,rfl⟩,by simp only[aa];omega,?_,λkn kx=> ?_⟩
   ·simp only[bC.L0.add,bC.L0.F,aa,hd,kN,if_neg he]
    rfl
   ·rw[bC.L0.step,bg (by omega),ag,bG (by omega) (by omega),ag,aa,aI,decide_eq_true hb,ag,decide_eq_true (by omega),ag,n1,hw]
    simp only[ab,bC.L1.F,z1,aJ,if_neg he,bC.L1.add,fe,al,dX]
    rw[N.p9 (by omega)]
 ·right
  obtain rfl:k=nb:=by omega
  refine⟨bC.L0.gZ (id,o1,o2,o4,o5,m,st,bs),?_,λkn kx=> ?_⟩
  rotate_left
  ·rw[bC.L0.step,aX (by omega),al]
  ·have hd:(bs.take k).drop k=[]:=List.drop_eq_nil_of_le (by rw[bQ];omega)
   simp only[bC.L0.add,bC.L0.F,aa,hd,kN]
   rfl
theorem bC.ok:bC.Ok:=by
 rintro⟨id,o1,o2,nb,o5,m,st,bs⟩ h
 have h:y8 nb bs:=h
 rw[bC.eq,bC.L0.run (d:=(nb,(nb:Int),0,id,o1,o2,nb,o5,m,st,bs)) ⟨h,rfl,0,aK _,rfl⟩]
 have z1:((0:Int)).toNat=0:=rfl
 simp only[ab,bC.L0.F,z1,aJ,bC.F]
 cases kN id (bs.take nb) 0 with
 |some h=>rfl
 |none=>rfl
def bC.E:=Entry.Bi [none,none] bC.st bC.aM bC.add bC.F bC.out
def bC.call:bC.D->Option bC.X:=vU bC.E bC.st
theorem bC.run:kF bC.call bC.aM bC.add bC.F:=zF (EG [.d tH,.d ti,.d .bool,.n,.n,.d (.slice (.pair b8 eR)),.d (.slice cE),.d (.slice fh)] λ_=>by kernel_rfl)
def bC.sg:SG Tryz.prog:=⟨149,om,bC.E,.of (.PC (.fn 2 (by kernel_rfl) bC.ok (And.intro (.iR bC.L0.ok (by kernel_rfl)) (And.intro (.iR bC.L1.ok (by kernel_rfl)) trivial)))) (by rfl)⟩
abbrev fk.D:=Bs×Nat×Nat×(List (cd×dP))×(List cn)×(List eN)
abbrev fk.Y:=Int×Bool×Nat×Nat×(List (cd×dP))×(List cn)×(List eN)
def fk.aM:fk.D->Prop:=λ(_,nb,_,_,_,bs)=>y8 nb bs
def fk.F:fk.D->fk.Y:=λ(id,nb,n,m,st,bs)=>match kN id (bs.take nb) 0 with
 |some h=>(h,true,nb,n,m,st,bs)
 |none=>(0,false,nb,n,m,st,bs)
def fk:Fs Tryz.prog fk.aM bP fk.F:=gC 22 Tryz.f22 (λ(id,o0baL,o1baL,o2,o3,o4)=>([.ptr (.aV 0) 0 [] 0,.d tH id],[.obj 0 false (.pr (.ptr (.aV 1) 0 [] 0) (.pr (.aS (.aV 4) 0 [] 0 0 o0baL) (.d .unit ()))),.obj 0 false (.pr (.db (.aV 2) 0) (.pr (.aS (.aV 3) 0 [] 0 0 o1baL) (.d .unit ()))),.obj 0 false (.mp b8 eR o2),.obj 0 false (.vec 161 cE o3),.obj 0 false (.vec 60 fh o4)])) (λx=>⟨.cons (.d ti x.1) (.cons (.d .bool x.2.1) (.nil)),[.obj 0 false (.pr (.ptr (.aV 1) 0 [] 0) (.pr (.aS (.aV 4) 0 [] 0 0 x.2.2.1) (.d .unit ()))),.obj 0 false (.pr (.db (.aV 2) 0) (.pr (.aS (.aV 3) 0 [] 0 0 x.2.2.2.1) (.d .unit ()))),.obj 0 false (.mp b8 eR x.2.2.2.2.1),.obj 0 false (.vec 161 cE x.2.2.2.2.2.1),.obj 0 false (.vec 60 fh x.2.2.2.2.2.2)],[]⟩) [none,some tH] [iF.sg,bC.sg] {rf:=qg [(10,(4294967648,[3,4,5]))]}
theorem fk.eq{R:Type}(id o0baL o1baL o2 o3 o4)(k:K1 R):fk.A (id,o0baL,o1baL,o2,o3,o4) k=
  ah (iF.call (o0baL,o1baL,o2,o3,o4)) λx1=>
  ah (bC.call (id,0,false,x1.1,x1.2.1,x1.2.2.1,x1.2.2.2.1,x1.2.2.2.2)) λx2=>
  aP (x2.isLeft) (
   ah (x2.getLeft?) λFg=>
   k (fk.out (Fg.2.1,true,Fg.2.2.1,Fg.2.2.2.1,Fg.2.2.2.2.1,Fg.2.2.2.2.2.1,Fg.2.2.2.2.2.2))) (
   ah (x2.getRight?) λI5=>
   k (fk.out (0,false,I5.2.2.2.1,I5.2.2.2.2.1,I5.2.2.2.2.2.1,I5.2.2.2.2.2.2.1,I5.2.2.2.2.2.2.2))):=by kernel_rfl
theorem fk.ok:fk.Ok:=by
 rintro⟨id,nb,n,m,st,bs⟩ h
 have h:y8 nb bs:=h
 rw[fk.eq,iF.run (d:=(nb,n,m,st,bs)) trivial]
 simp only[ab,iF.add,iF.F]
 rw[bC.run (d:=(id,0,false,nb,n,m,st,bs)) h]
 simp only[ab,bC.F,fk.F]
 cases kN id (bs.take nb) 0 with
 |some h=>rfl
 |none=>rfl
theorem fk.run:fk.RS:=rE [.d tB,.n,.n,.d (.slice (.pair b8 eR)),.d (.slice cE),.d (.slice fh)] fk
def fk.sg:=fk.gG fk.ok
end Go.Ab
end
