/-
  Made short by a program of mine (wip/tools/mini.py).
-/
import Derived.Test.YtlpebgkekjfhaaaGreatS24x3
import Derived.Test.YtlpebgkekjfhaaaGreatProg
import Derived.Shelf.SlSortCmp.NoneTotal
set_option linter.unusedVariables false
set_option linter.unusedSimpArgs false
set_option maxRecDepth 100000
set_option synthInstance.maxSize 5000
noncomputable section
namespace Go.Ab
open Go.Proofs
abbrev binary.D:=Bs
abbrev binary.Y:=Int
def binary.bf:binary.D->Prop:=λb=>4<=b.length
def binary.F:binary.D->binary.Y:=λb=>vw (QI (b.getD 0 0) (b.getD 1 0) (b.getD 2 0) (b.getD 3 0))
def binary:Fs Tryz.prog binary.bf bV binary.F:=gf 277 Tryz.f277 (λb=>([.d tB b],[])) (λx=>⟨.d (.int .u32) x,[],[]⟩) [some tB]
theorem binary.eq{R:Type}(b)(k:K1 R):binary.A b k=
 aN (gw 0 (b.length:Int)) (
 aN (gw 1 (b.length:Int)) (
 aN (gw 2 (b.length:Int)) (
 aN (gw 3 (b.length:Int)) (
 k (binary.out (dF .or .u32 (dF .or .u32 (dF .or .u32 (mX .u32 (eo .u32 (nth tb b 0)) 24) (mX .u32 (eo .u32 (nth tb b 1)) 16)) (mX .u32 (eo .u32 (nth tb b 2)) 8)) (eo .u32 (nth tb b 3))))) none) none) none) none:=by kernel_rfl
theorem binary.ok:binary.Ok:=by
 intro b h
 have h:4<=b.length:=h
 rw[binary.eq,bt (by omega) (by omega),bt (by omega) (by omega),bt (by omega) (by omega),bt (by omega) (by omega)]
 simp only[ag,Lz,D6,tq]
 rfl
theorem binary.run:binary.RS:=rE [.d tB] binary
def binary.sg:=binary.gk binary.ok
abbrev eH.D:=Int×Int
abbrev eH.Y:=Int
def rl(w:W)(k:Nat):W:=w <<< k ||| w >>> (32 - k)
def eH.bf:eH.D->Prop:=λ(x,k)=>0<=x/\x < 4294967296
def eH.F:eH.D->eH.Y:=λ(x,k)=>vw (rl (BitVec.ofInt 32 x) (k%32).toNat)
def eH:Fs Tryz.prog eH.bf bV eH.F:=gf 248 Tryz.f248 (λ(x,kv)=>([.d (.int .u32) x,.d ti kv],[])) (λx=>⟨.d (.int .u32) x,[],[]⟩) [some (.int .u32),some ti]
theorem eH.eq{R:Type}(x kv)(k:K1 R):eH.A (x,kv) k=
 aN (mJ (dF .and .u64 (eo .u64 kv) 31)) (
 aN (mJ (dC .u64 32 (dF .and .u64 (eo .u64 kv) 31))) (
 k (eH.out (dF .or .u32 (mX .u32 x (dF .and .u64 (eo .u64 kv) 31)) (cH .u32 x (dC .u64 32 (dF .and .u64 (eo .u64 kv) 31)))))) none) none:=by kernel_rfl
theorem Pf(k:Int):dF .and .u64 (eo .u64 k) 31=k%32:=by
 have e:(31:Int)=vw (31:BitVec 64):=rfl
 rw[LA,e,Hw]
 simp only
 have:(31:BitVec 64)=BitVec.ofNat 64 (2^5 - 1):=rfl
 unfold vw
 rw[BitVec.toNat_and,lN,show(31:BitVec 64).toNat=2^5 - 1 from rfl,Nat.and_two_pow_sub_one_eq_mod]
 omega
theorem eH.ok:eH.Ok:=by
 rintro⟨x,k⟩ ⟨h1,h2⟩
 have e1:dC .u64 32 (k%32)=32 - k%32:=by
  unfold dC
  rw[wrap_u64,kc]
  omega
 have hx:x=vw (BitVec.ofInt 32 x):=by rw[kc];omega
 rw[eH.eq,Pf,e1,qw (by omega),qw (by omega)]
 simp only[ag]
 have e2:dF .or .u32 (mX .u32 x (k%32)) (cH .u32 x (32 - k%32))=vw (rl (BitVec.ofInt 32 x) (k%32).toNat):=by
  conv=>lhs;rw[hx]
  rw[D6,zA,tq]
  simp only[rl]
  congr 3
  omega
 rw[e2]
 rfl
theorem eH.run:eH.RS:=rE [.d (.int .u32),.d ti] eH
def eH.sg:=eH.gk eH.ok
theorem eH.at(w:W)(k:Int):eH.call (vw w,k)=some (vw (rl w (k%32).toNat)):=by
 have h:eH.bf (vw w,k):=⟨B9 w,by have:=M1 w;simpa using this⟩
 rw[eH.run h]
 show some (vw (rl (BitVec.ofInt 32 (vw w)) (k%32).toNat))=_
 rw[nZ]
abbrev table.D:=Unit
abbrev table.Y:=(List Int)
def table.bf:table.D->Prop:=λ_=>True
def table.F:table.D->table.Y:=λ_=>D7
def table:Fs Tryz.prog table.bf bV table.F:=gf 247 Tryz.f247 (λ_=>([],[])) (λx=>⟨.d (.arr 64 (.int .u32)) x,[],[]⟩) []
theorem table.eq{R:Type}(d)(k:K1 R):table.A d k=
 k (table.out [1116352408,1899447441,3049323471,3921009573,961987163,1508970993,2453635748,2870763221,3624381080,310598401,607225278,1426881987,1925078388,2162078206,2614888103,3248222580,3835390401,4022224774,264347078,604807628,770255983,1249150122,1555081692,1996064986,2554220882,2821834349,2952996808,3210313671,3336571891,3584528711,113926993,338241895,666307205,773529912,1294757372,1396182291,1695183700,1986661051,2177026350,2456956037,2730485921,2820302411,3259730800,3345764771,3516065817,3600352804,4094571909,275423344,430227734,506948616,659060556,883997877,958139571,1322822218,1537002063,1747873779,1955562222,2024104815,2227730452,2361852424,2428436474,2756734187,3204031479,3329325298]):=by kernel_rfl
theorem table.ok:table.Ok:=by
 intro d _
 rw[table.eq]
 rfl
theorem table.run:table.RS:=rE [] table
def table.sg:=table.gk table.ok
abbrev first.D:=Unit
abbrev first.Y:=(List Int)
def first.bf:first.D->Prop:=λ_=>True
def first.F:first.D->first.Y:=λ_=>pK.l
def first:Fs Tryz.prog first.bf bV first.F:=gf 201 Tryz.f201 (λ_=>([],[])) (λx=>⟨.d (.arr 8 (.int .u32)) x,[],[]⟩) []
theorem first.eq{R:Type}(d)(k:K1 R):first.A d k=
 k (first.out [1779033703,3144134277,1013904242,2773480762,1359893119,2600822924,528734635,1541459225]):=by kernel_rfl
theorem first.ok:first.Ok:=by
 intro d _
 rw[first.eq]
 rfl
theorem first.run:first.RS:=rE [] first
def first.sg:=first.gk first.ok
abbrev schedule.L0.D:=Bs×Int×(List Int)
abbrev schedule.L0.Y:=(List Int)
abbrev schedule.D:=Bs
abbrev schedule.Y:=(List Int)
def wl(l:List W):List Int:=l.map vw
def sB(l:List W):List Int:=wl l++List.replicate (64 - l.length) 0
def rY(b:List Int)(k:Nat):List W:=if k<=16 then(words b).take k else QA (words b) (k - 16)
def schedule.L0.bf:schedule.L0.D->Prop:=λ(b,t8,n2)=>64<=b.length/\∃k:Nat,k<=64/\t8=k/\n2=sB (rY b k)
def schedule.L0.F:schedule.L0.D->schedule.L0.Y:=λ(b,t8,n2)=>wl (sched b)
def schedule.bf:schedule.D->Prop:=λb=>64<=b.length
def schedule.F:schedule.D->schedule.Y:=λb=>wl (sched b)
def schedule.L0:Ls schedule.L0.bf bV schedule.L0.F:=ra (λ(kD,t8,n2)=>⟨([.d tB kD,.undef,.ptr (.new 2 0) 0 [] 0]++bm 5 ([.d ti t8]++bm 52 [])),[],([[],[],[.obj 0 false (.d (.arr 64 (.int .u32)) n2)]]++cS 58 [])⟩) (λx=>(.exit 0,⟨([.undef,.undef,.ptr (.new 2 0) 0 [] 0]++bm 58 []),[],([[],[],[.obj 0 false (.d (.arr 64 (.int .u32)) x)]]++cS 58 [])⟩))
def schedule:Fs Tryz.prog schedule.bf bV schedule.F:=gf 246 Tryz.f246 (λb=>([.d tB b],[])) (λx=>⟨.d (.arr 64 (.int .u32)) x,[],[]⟩) [some tB] [binary.sg,eH.sg] {loops:=qu [(2,{bA:=[0,2,8],sites:=[2]})],outs:=qt [(2,{bA:=[2],sites:=[2]},{bA:=[2]})],jl:=qU [(2,schedule.L0.E)]}
theorem schedule.L0.run:schedule.L0.RS:=rL [.d tB,.d ti,.d (.slice (.int .u32))] schedule.L0
theorem schedule.L0.step{R:Type}(kD t8 n2)(kn:K2 R)(kx:K3 R):schedule.R 0 schedule.L0 (kD,t8,n2) kn kx=
  aN ((iX t8 64)) (
   aN ((iX t8 16)) (
    aN (inc (iv .i64 4 t8) (kD.length:Int)) (
    aB (binary.call (cut kD (Int.toNat (iv .i64 4 t8)) ((List.length kD) - (Int.toNat (iv .i64 4 t8))))) λx1=>
    aN (gw t8 64) (
    aN (decide ((Int.toNat t8) < (List.length n2))) (
    aN (decide ((((Int.toNat t8)*1)+0)=(0+((Int.toNat t8)*1)))) (
    aN (decide ((Int.toNat t8) < (List.length n2))) (
    kn (schedule.L0.st (kD,(bQ .i64 t8 1),(List.set n2 (Int.toNat t8) x1)))) none) none) none) none) none) (
    aN (gw (dC .i64 t8 15) 64) (
    aN (decide ((Int.toNat (dC .i64 t8 15)) < (List.length n2))) (
    aN (decide ((((Int.toNat (dC .i64 t8 15))*1)+0)=(0+((Int.toNat (dC .i64 t8 15))*1)))) (
    aN (gw (dC .i64 t8 2) 64) (
    aN (decide ((Int.toNat (dC .i64 t8 2)) < (List.length n2))) (
    aN (decide ((((Int.toNat (dC .i64 t8 2))*1)+0)=(0+((Int.toNat (dC .i64 t8 2))*1)))) (
    aB (eH.call ((nth (.int .u32) n2 (Int.toNat (dC .i64 t8 15))),(-7))) λx2=>
    aB (eH.call ((nth (.int .u32) n2 (Int.toNat (dC .i64 t8 15))),(-18))) λx3=>
    aB (eH.call ((nth (.int .u32) n2 (Int.toNat (dC .i64 t8 2))),(-17))) λx4=>
    aB (eH.call ((nth (.int .u32) n2 (Int.toNat (dC .i64 t8 2))),(-19))) λx5=>
    aN (gw (dC .i64 t8 16) 64) (
    aN (decide ((Int.toNat (dC .i64 t8 16)) < (List.length n2))) (
    aN (decide ((((Int.toNat (dC .i64 t8 16))*1)+0)=(0+((Int.toNat (dC .i64 t8 16))*1)))) (
    aN (gw (dC .i64 t8 7) 64) (
    aN (decide ((Int.toNat (dC .i64 t8 7)) < (List.length n2))) (
    aN (decide ((((Int.toNat (dC .i64 t8 7))*1)+0)=(0+((Int.toNat (dC .i64 t8 7))*1)))) (
    aN (gw t8 64) (
    aN (decide ((Int.toNat t8) < (List.length n2))) (
    aN (decide ((((Int.toNat t8)*1)+0)=(0+((Int.toNat t8)*1)))) (
    aN (decide ((Int.toNat t8) < (List.length n2))) (
    kn (schedule.L0.st (kD,(bQ .i64 t8 1),(List.set n2 (Int.toNat t8) (bQ .u32 (bQ .u32 (bQ .u32 (nth (.int .u32) n2 (Int.toNat (dC .i64 t8 16))) (dF .xor .u32 (dF .xor .u32 x2 x3) (cH .u32 (nth (.int .u32) n2 (Int.toNat (dC .i64 t8 15))) 3))) (nth (.int .u32) n2 (Int.toNat (dC .i64 t8 7)))) (dF .xor .u32 (dF .xor .u32 x4 x5) (cH .u32 (nth (.int .u32) n2 (Int.toNat (dC .i64 t8 2))) 10))))))) none) none) none) none) none) none) none) none) none) none) none) none) none) none) none) none)) (
   schedule.L0.go kx n2):=by kernel_rfl
theorem schedule.eq{R:Type}(b)(k:K1 R):schedule.A b k=
 aB (schedule.L0.call (b,0,(List.replicate 64 0))) λx6=>
 k (schedule.out x6):=by kernel_rfl
theorem E0(b:List Int)(k:Nat)(h:k<=64):(rY b k).length=k:=by
 unfold rY
 split
 ·simp[mQ];omega
 ·rw[vg,mQ];omega
theorem Mg(b:List Int):rY b 64=sched b:=rfl
theorem IT(b:List Int)(k:Nat)(h:k < 16):rY b (k+1)=rY b k++ [be b k]:=by
 unfold rY
 rw[if_pos (by omega),if_pos (by omega),List.take_succ_eq_append_getElem (by rw[mQ];exact h)]
 simp[words]
theorem KM(b:List Int)(k:Nat)(h:16<=k):rY b (k+1)=ext (rY b k):=by
 unfold rY
 rw[if_neg (by omega)]
 by_cases Rq:k=16
 ·subst Rq
  rw[if_pos (by omega),bg (by rw[mQ];omega)]
  rfl
 ·rw[if_neg (by omega),show k+1 - 16=(k - 16)+1 by omega]
  rfl
theorem Ci(l:List W)(h:l.length<=64):(sB l).length=64:=by simp[sB,wl];omega
theorem tp(l:List W)(i:Nat)(h:i < l.length):nth (.int .u32) (sB l) i=vw (l.getD i 0):=by
 unfold nth sB wl
 rw[aC,eE (by simpa using h)]
 simp[h]
theorem Bj(l:List W)(w:W)(h:l.length < 64):(sB l).set l.length (vw w)=sB (l++ [w]):=by
 unfold sB wl
 rw[List.set_append_right _ _ (by simp)]
 simp only[cg,Nat.sub_self,lG,av,aG,aZ]
 rw[show 64 - l.length=(64 - (l.length+(0+1)))+1 by omega,List.replicate_succ,List.set_cons_zero]
 simp
theorem Fi(l:List W)(h:l.length=64):sB l=wl l:=by simp[sB,h]
theorem M9(b:List Int)(k:Nat)(h:4*k+4<=b.length):QI ((cut b (4*k) (b.length - 4*k)).getD 0 0) ((cut b (4*k) (b.length - 4*k)).getD 1 0) ((cut b (4*k) (b.length - 4*k)).getD 2 0) ((cut b (4*k) (b.length - 4*k)).getD 3 0)=be b k:=by
 have e:∀j,j < 4->(cut b (4*k) (b.length - 4*k)).getD j 0=b.getD (4*k+j) 0:=λj hj=>by
  unfold cut
  rw[aC,aC,List.getElem?_take_of_lt (by omega),eZ]
 unfold be
 rw[e 0 (by omega),e 1 (by omega),e 2 (by omega),e 3 (by omega),cn]
theorem schedule.L0.ok:(schedule.lP 0 schedule.L0):=by
 refine(schedule.mS 0 schedule.L0) (λ(b,t8,n2)=>64 - t8.toNat) ?_
 rintro⟨b,t8,n2⟩ ⟨hb,k,hk,rfl,rfl⟩
 have OV:=E0 b k hk
 have HQ:=Ci (rY b k) (by omega)
 by_cases h:k < 64
 ·left
  refine⟨(b,((k+1:Nat):Int),sB (rY b (k+1))),⟨hb,k+1,by omega,rfl,rfl⟩,by simp;omega,rfl,λkn kx=> ?_⟩
  have e1:bQ .i64 (k:Int) 1=((k+1:Nat):Int):=by rw[dL (by omega) (by omega)];omega
  have e2:Int.toNat (k:Int)=k:=by omega
  rw[schedule.L0.step,aU (by omega)]
  simp only[ag,e1,e2,HQ,nN,aR,cn,decide_true]
  by_cases Rq:k < 16
  ·have e3:iv .i64 4 (k:Int)=((4*k:Nat):Int):=by rw[pP (by omega) (by omega)];omega
   have e4:Int.toNat ((4*k:Nat):Int)=4*k:=by omega
   rw[aU (by omega),e3,gO (by omega) (by omega),e4,bt (by omega) (by omega),aX h]
   have hp:binary.bf (cut b (4*k) (b.length - 4*k)):=by
    show 4<=_
    rw[pG (by omega)];omega
   simp only[ag,binary.run hp,ae]
   have e5:bV (cut b (4*k) (b.length - 4*k)) (binary.F (cut b (4*k) (b.length - 4*k)))=vw (be b k):=by
    show vw (QI _ _ _ _)=_
    rw[M9 b k (by omega)]
   have e6:=Bj (rY b k) (be b k) (by omega)
   rw[OV]at e6
   rw[e5,e6,IT b k Rq]
  ·have a15:Int.toNat (dC .i64 (k:Int) 15)=k - 15:=by rw[ee (by omega) (by omega)];omega
   have a2:Int.toNat (dC .i64 (k:Int) 2)=k - 2:=by rw[ee (by omega) (by omega)];omega
   have a16:Int.toNat (dC .i64 (k:Int) 16)=k - 16:=by rw[ee (by omega) (by omega)];omega
   have a7:Int.toNat (dC .i64 (k:Int) 7)=k - 7:=by rw[ee (by omega) (by omega)];omega
   have i15:gw (dC .i64 (k:Int) 15) 64=true:=bt (by rw[ee (by omega) (by omega)];omega) (by rw[ee (by omega) (by omega)];omega)
   have i2:gw (dC .i64 (k:Int) 2) 64=true:=bt (by rw[ee (by omega) (by omega)];omega) (by rw[ee (by omega) (by omega)];omega)
   have i16:gw (dC .i64 (k:Int) 16) 64=true:=bt (by rw[ee (by omega) (by omega)];omega) (by rw[ee (by omega) (by omega)];omega)
   have i7:gw (dC .i64 (k:Int) 7) 64=true:=bt (by rw[ee (by omega) (by omega)];omega) (by rw[ee (by omega) (by omega)];omega)
   have i0:gw (k:Int) 64=true:=bt (by omega) (by omega)
   have d15:decide (k - 15 < 64)=true:=aX (by omega)
   have d2:decide (k - 2 < 64)=true:=aX (by omega)
   have d16:decide (k - 16 < 64)=true:=aX (by omega)
   have d7:decide (k - 7 < 64)=true:=aX (by omega)
   have d0:decide (k < 64)=true:=aX h
   rw[aW (by omega)]
   simp only[ag,ai,a15,a2,a16,a7,i15,i2,i16,i7,i0,d15,d2,d16,d7,d0,tp (rY b k) (k - 15) (by omega),tp (rY b k) (k - 2) (by omega),tp (rY b k) (k - 16) (by omega),tp (rY b k) (k - 7) (by omega),eH.at,ae,tq,zA,zs]
   have e6:=Bj (rY b k) (MS (rY b k) k) (by omega)
   rw[OV]at e6
   rw[KM b k (by omega),ext,OV,<-e6]
   rfl
 ·right
  obtain rfl:k=64:=by omega
  intro R kn kx
  rw[schedule.L0.step,aW (by omega),Fi _ OV,Mg]
  simp only[ai,bV,schedule.L0.F]
theorem schedule.ok:schedule.Ok:=by
 intro b hb
 have hp:schedule.L0.bf (b,0,List.replicate 64 0):=⟨hb,0,by omega,rfl,rfl⟩
 rw[schedule.eq,schedule.L0.run hp]
 simp only[ae,bV,schedule.L0.F,bV,schedule.F]
theorem schedule.run:schedule.RS:=rE [.d tB] schedule
def schedule.sg:=schedule.gk schedule.ok 1 ⟨.iY schedule.L0.ok,trivial⟩
abbrev mix.L0.D:=(List Int)×Int×(List Int)×(List Int)×(List Int)×(List Int)
abbrev mix.L0.Y:=(List Int)
abbrev mix.L0.X:=((List Int)×(List Int))×((List Int))
def mix.L0.add:mix.L0.D->mix.L0.Y->mix.L0.X:=λ(NF,t18,n4,n5,n6,n7) y=>((NF,n4),y)
abbrev mix.L1.D:=(List Int)×Int×(List Int)×(List Int)
abbrev mix.L1.Y:=(List Int)
abbrev mix.L1.X:=((List Int))×((List Int))
def mix.L1.add:mix.L1.D->mix.L1.Y->mix.L1.X:=λ(OJ,t104,vW,AZ) y=>(vW,y)
abbrev mix.D:=(List Int)×Bs
abbrev mix.Y:=(List Int)
def IN(l:List Int):St:=⟨BitVec.ofInt 32 (l.getD 0 0),BitVec.ofInt 32 (l.getD 1 0),BitVec.ofInt 32 (l.getD 2 0),BitVec.ofInt 32 (l.getD 3 0),BitVec.ofInt 32 (l.getD 4 0),BitVec.ofInt 32 (l.getD 5 0),BitVec.ofInt 32 (l.getD 6 0),BitVec.ofInt 32 (l.getD 7 0)⟩
theorem qb(s:St):IN s.l=s:=by
 obtain⟨a,b,c,d,e,f,g,h⟩:=s
 simp[IN,St.l,nZ]
def OA(l:List Int):List W:=l.map (BitVec.ofInt 32)
theorem Hl(l:List W):OA (wl l)=l:=by
 unfold OA wl
 rw[List.map_map]
 have:(BitVec.ofInt 32∘vw)=(id:W->W):=by funext w;exact nZ w
 rw[this,List.map_id]
def mix.L0.bf:mix.L0.D->Prop:=λ(h,t,n4,n5,n6,n7)=>∃(s:St) (ws:List W) (k:Nat),h=s.l/\n5=wl ws/\ws.length=64/\k<=64/\t=k/\n6=D7/\n7=(rounds ws s k).l
def mix.L0.F:mix.L0.D->mix.L0.Y:=λ(h,t,n4,n5,n6,n7)=>(rounds (OA n5) (IN h) 64).l
def mix.L1.bf:mix.L1.D->Prop:=λ(h,t,n4,n7)=>n7.length=8/\∃k:Nat,k<=8/\t=k
def mix.L1.F:mix.L1.D->mix.L1.Y:=λ(h,t,n4,n7)=>from_ (λi x=>bQ .u32 x (nth (.int .u32) h i)) t.toNat n7
def mix.bf:mix.D->Prop:=λ(h,b)=>(∃s:St,h=s.l)/\64<=b.length
def mix.F:mix.D->mix.Y:=λ(h,b)=>(Ic (IN h) b).l
def mix.L0:Ls mix.L0.bf mix.L0.add mix.L0.F:=ra (λ(NF,t18,n4,n5,n6,n7)=>⟨([.undef,.undef,.eS (.arr 8 (.int .u32)) NF,.undef,.ptr (.new 4 0) 0 [] 0,.ptr (.new 5 0) 0 [] 0,.ptr (.new 6 0) 0 [] 0,.ptr (.new 7 0) 0 [] 0]++bm 10 ([.d ti t18]++bm 98 [])),[],(cS 4 ([[.obj 0 false (.d (.arr 8 (.int .u32)) n4)],[.obj 0 false (.d (.arr 64 (.int .u32)) n5)],[.obj 0 false (.d (.arr 64 (.int .u32)) n6)],[.obj 0 false (.d (.arr 8 (.int .u32)) n7)]]++cS 109 []))⟩) (λx=>(.exit 0,⟨([.undef,.undef,.eS (.arr 8 (.int .u32)) x.1.1,.undef,.ptr (.new 4 0) 0 [] 0,.undef,.undef,.ptr (.new 7 0) 0 [] 0]++bm 109 []),[],(cS 4 ([[.obj 0 false (.d (.arr 8 (.int .u32)) x.1.2)],[],[],[.obj 0 false (.d (.arr 8 (.int .u32)) x.2)]]++cS 109 []))⟩))
def mix.L1:Ls mix.L1.bf mix.L1.add mix.L1.F:=ra (λ(OJ,t104,vW,AZ)=>⟨([.undef,.undef,.eS (.arr 8 (.int .u32)) OJ,.undef,.ptr (.new 4 0) 0 [] 0,.undef,.undef,.ptr (.new 7 0) 0 [] 0]++bm 96 ([.d ti t104]++bm 12 [])),[],(cS 4 ([[.obj 0 false (.d (.arr 8 (.int .u32)) vW)],[],[],[.obj 0 false (.d (.arr 8 (.int .u32)) AZ)]]++cS 109 []))⟩) (λx=>(.exit 2,⟨(bm 4 ([.ptr (.new 4 0) 0 [] 0,.undef,.undef,.ptr (.new 7 0) 0 [] 0]++bm 109 [])),[],(cS 4 ([[.obj 0 false (.d (.arr 8 (.int .u32)) x.1)],[],[],[.obj 0 false (.d (.arr 8 (.int .u32)) x.2)]]++cS 109 []))⟩))
def mix:Fs Tryz.prog mix.bf bV mix.F:=gf 202 Tryz.f202 (λ(h,b)=>([.d (.arr 8 (.int .u32)) h,.d tB b],[])) (λx=>⟨.d (.arr 8 (.int .u32)) x,[],[]⟩) [some (.arr 8 (.int .u32)),some tB] [schedule.sg,table.sg,eH.sg] {loops:=qu [(4,{bA:=[2,4,5,6,7,18],sites:=[4,5,6,7]}),(13,{bA:=[2,4,7,104],sites:=[4,7]})],outs:=qt [(4,{bA:=[2,4,7],sites:=[4,7]},{bA:=[4]}),(13,{bA:=[4,7],sites:=[4,7]},{bA:=[4]})],jl:=qU [(4,mix.L0.E),(13,mix.L1.E)]}
theorem mix.L0.run:mix.L0.RS:=rL [.d (.arr 8 (.int .u32)),.d ti,.d (.slice (.int .u32)),.d (.slice (.int .u32)),.d (.slice (.int .u32)),.d (.slice (.int .u32))] mix.L0
theorem mix.L0.step{R:Type}(NF t18 n4 n5 n6 n7)(kn:K2 R)(kx:K3 R):mix.R 0 mix.L0 (NF,t18,n4,n5,n6,n7) kn kx=
  aN ((iX t18 64)) (
   aN (decide (4 < (List.length n7))) (
   aB (eH.call ((nth (.int .u32) n7 4),(-6))) λx1=>
   aN (decide (4 < (List.length n7))) (
   aB (eH.call ((nth (.int .u32) n7 4),(-11))) λx2=>
   aN (decide (4 < (List.length n7))) (
   aB (eH.call ((nth (.int .u32) n7 4),(-25))) λx3=>
   aN (decide (7 < (List.length n7))) (
   aN (decide (6 < (List.length n7))) (
   aN (decide (4 < (List.length n7))) (
   aN (decide (5 < (List.length n7))) (
   aN (decide (6 < (List.length n7))) (
   aN (gw t18 64) (
   aN (decide ((Int.toNat t18) < (List.length n6))) (
   aN (decide ((((Int.toNat t18)*1)+0)=(0+((Int.toNat t18)*1)))) (
   aN (gw t18 64) (
   aN (decide ((Int.toNat t18) < (List.length n5))) (
   aN (decide ((((Int.toNat t18)*1)+0)=(0+((Int.toNat t18)*1)))) (
   aN (decide (0 < (List.length n7))) (
   aB (eH.call ((nth (.int .u32) n7 0),(-2))) λx4=>
   aN (decide (0 < (List.length n7))) (
   aB (eH.call ((nth (.int .u32) n7 0),(-13))) λx5=>
   aN (decide (0 < (List.length n7))) (
   aB (eH.call ((nth (.int .u32) n7 0),(-22))) λx6=>
   aN (decide (0 < (List.length n7))) (
   aN (decide (1 < (List.length n7))) (
   aN (decide (2 < (List.length n7))) (
   aN (decide (0 < (List.length n7))) (
   aN (decide (1 < (List.length n7))) (
   aN (decide (0 < (List.length n7))) (
   aN (decide (1 < (List.length n7))) (
   aN (decide (2 < (List.length n7))) (
   aN (decide (3 < (List.length n7))) (
   aN (decide (4 < (List.length n7))) (
   aN (decide (5 < (List.length n7))) (
   aN (decide (6 < (List.length n7))) (
   kn (mix.L0.st (NF,(bQ .i64 t18 1),n4,n5,n6,[(bQ .u32 (bQ .u32 (bQ .u32 (bQ .u32 (bQ .u32 (bQ .u32 (nth (.int .u32) n7 7) (dF .xor .u32 (dF .xor .u32 x1 x2) x3)) (dF .xor .u32 (nth (.int .u32) n7 6) (dF .and .u32 (nth (.int .u32) n7 4) (dF .xor .u32 (nth (.int .u32) n7 5) (nth (.int .u32) n7 6))))) (nth (.int .u32) n6 (Int.toNat t18))) (nth (.int .u32) n5 (Int.toNat t18))) (dF .xor .u32 (dF .xor .u32 x4 x5) x6)) (dF .or .u32 (dF .and .u32 (nth (.int .u32) n7 0) (nth (.int .u32) n7 1)) (dF .and .u32 (nth (.int .u32) n7 2) (dF .or .u32 (nth (.int .u32) n7 0) (nth (.int .u32) n7 1))))),(nth (.int .u32) n7 0),(nth (.int .u32) n7 1),(nth (.int .u32) n7 2),(bQ .u32 (nth (.int .u32) n7 3) (bQ .u32 (bQ .u32 (bQ .u32 (bQ .u32 (nth (.int .u32) n7 7) (dF .xor .u32 (dF .xor .u32 x1 x2) x3)) (dF .xor .u32 (nth (.int .u32) n7 6) (dF .and .u32 (nth (.int .u32) n7 4) (dF .xor .u32 (nth (.int .u32) n7 5) (nth (.int .u32) n7 6))))) (nth (.int .u32) n6 (Int.toNat t18))) (nth (.int .u32) n5 (Int.toNat t18)))),(nth (.int .u32) n7 4),(nth (.int .u32) n7 5),(nth (.int .u32) n7 6)]))) none) none) none) none) none) none) none) none) none) none) none) none) none) none) none) none) none) none) none) none) none) none) none) none) none) none) none) none) none) (
   mix.L0.go kx ((NF,n4),n7)):=by kernel_rfl
theorem mix.L1.run:mix.L1.RS:=rL [.d (.arr 8 (.int .u32)),.d ti,.d (.slice (.int .u32)),.d (.slice (.int .u32))] mix.L1
theorem mix.L1.step{R:Type}(OJ t104 vW AZ)(kn:K2 R)(kx:K3 R):mix.R 1 mix.L1 (OJ,t104,vW,AZ) kn kx=
  aN ((iX t104 8)) (
   aN (gw t104 8) (
   aN (decide ((Int.toNat t104) < (List.length AZ))) (
   aN (decide ((((Int.toNat t104)*1)+0)=(0+((Int.toNat t104)*1)))) (
   aN (gw t104 8) (
   aN (gw t104 8) (
   aN (decide ((Int.toNat t104) < (List.length AZ))) (
   aN (decide ((((Int.toNat t104)*1)+0)=(0+((Int.toNat t104)*1)))) (
   aN (decide ((Int.toNat t104) < (List.length AZ))) (
   kn (mix.L1.st (OJ,(bQ .i64 t104 1),vW,(List.set AZ (Int.toNat t104) (bQ .u32 (nth (.int .u32) AZ (Int.toNat t104)) (nth (.int .u32) OJ (Int.toNat t104))))))) none) none) none) none) none) none) none) none) (
   mix.L1.go kx (vW,AZ)):=by kernel_rfl
theorem mix.eq{R:Type}(h b)(k:K1 R):mix.A (h,b) k=
 aB (schedule.call b) λx1=>
 aB (table.call ()) λx2=>
 aB (mix.L0.call (h,0,(List.replicate 8 0),x1,x2,h)) λx9=>
 aB (mix.L1.call (x9.1.1,0,x9.1.2,x9.2)) λIU=>
 k (mix.out IU.2):=by kernel_rfl
theorem St.JY(s:St):s.l.length=8:=rfl
theorem D8:D7.length=64:=rfl
theorem JW(k:Nat)(h:k < 64):nth (.int .u32) D7 k=vw (kw k):=by
 have hh:∀k:Fin 64,nth (.int .u32) D7 k.val=vw (kw k.val):=by decide+kernel
 exact hh ⟨k,h⟩
theorem OB(ws:List W)(k:Nat)(h:k < ws.length):nth (.int .u32) (wl ws) k=vw (ws.getD k 0):=by
 unfold nth wl
 simp[h]
theorem Uh(w:W):rl w ((-6:Int)%32).toNat=tR w 6:=rfl
theorem SB(w:W):rl w ((-11:Int)%32).toNat=tR w 11:=rfl
theorem SE(w:W):rl w ((-25:Int)%32).toNat=tR w 25:=rfl
theorem Ug(w:W):rl w ((-2:Int)%32).toNat=tR w 2:=rfl
theorem SC(w:W):rl w ((-13:Int)%32).toNat=tR w 13:=rfl
theorem SD(w:W):rl w ((-22:Int)%32).toNat=tR w 22:=rfl
theorem n0(s:St):nth (.int .u32) s.l 0=vw s.a:=rfl
theorem n1(s:St):nth (.int .u32) s.l 1=vw s.b:=rfl
theorem n2(s:St):nth (.int .u32) s.l 2=vw s.c:=rfl
theorem n3(s:St):nth (.int .u32) s.l 3=vw s.d:=rfl
theorem n4(s:St):nth (.int .u32) s.l 4=vw s.e:=rfl
theorem n5(s:St):nth (.int .u32) s.l 5=vw s.f:=rfl
theorem n6(s:St):nth (.int .u32) s.l 6=vw s.g:=rfl
theorem n7(s:St):nth (.int .u32) s.l 7=vw s.h:=rfl
theorem mix.L0.ok:(mix.lP 0 mix.L0):=by
 refine(mix.mS 0 mix.L0) (λ(h,t,n4,n5,n6,n7)=>64 - t.toNat) ?_
 rintro⟨h,t,m4,m5,m6,m7⟩ ⟨s,ws,k,rfl,rfl,hw,hk,rfl,rfl,rfl⟩
 by_cases gV:k < 64
 ·left
  refine⟨(s.l,((k+1:Nat):Int),m4,wl ws,D7,(rounds ws s (k+1)).l),⟨s,ws,k+1,rfl,rfl,hw,by omega,rfl,rfl,rfl⟩,by simp;omega,rfl,λkn kx=> ?_⟩
  have e1:bQ .i64 (k:Int) 1=((k+1:Nat):Int):=by rw[dL (by omega) (by omega)];omega
  have e2:Int.toNat (k:Int)=k:=by omega
  have OV:(wl ws).length=64:=by simp[wl,hw]
  have d0:decide (k < 64)=true:=aX gV
  have i0:gw (k:Int) 64=true:=bt (by omega) (by omega)
  rw[mix.L0.step,aU (by omega)]
  generalize hv:rounds ws s k=v
  simp only[e1,e2,nN,aR,cn,decide_true,ag,St.JY,Nat.reduceLT,D8,OV,d0,i0,n0,n1,n2,n3,n4,n5,n6,n7,eH.at,ae,JW k gV,OB ws k (by omega),tq,zs,Uh,SB,SE,Ug,SC,SD]
  show kn _=kn (mix.L0.st (s.l,((k+1:Nat):Int),m4,wl ws,D7,(mS (rounds ws s k) (kw k) (ws.getD k 0)).l))
  rw[hv]
  rfl
 ·right
  obtain rfl:k=64:=by omega
  intro R kn kx
  rw[mix.L0.step,aW (by omega)]
  simp only[ai,mix.L0.add,mix.L0.F,Hl,qb]
theorem mix.L1.ok:(mix.lP 1 mix.L1):=by
 refine(mix.mS 1 mix.L1) (λ(h,t,n4,n7)=>8 - t.toNat) ?_
 rintro⟨h,t,m4,m7⟩ ⟨hl,k,hk,rfl⟩
 have hl:m7.length=8:=hl
 have e2:Int.toNat (k:Int)=k:=by omega
 have e3:Int.toNat ((k+1:Nat):Int)=k+1:=by omega
 by_cases gV:k < 8
 ·left
  have e1:bQ .i64 (k:Int) 1=((k+1:Nat):Int):=by rw[dL (by omega) (by omega)];omega
  have hn:nth (.int .u32) m7 k=m7[k]:=dq (t:= .int .u32) (by omega)
  refine⟨(h,((k+1:Nat):Int),m4,m7.set k (bQ .u32 m7[k] (nth (.int .u32) h k))),⟨by simpa using hl,k+1,by omega,rfl⟩,by simp;omega,?_,λkn kx=> ?_⟩
  ·simp only[mix.L1.add,mix.L1.F,e2,e3]
   rw[Bz (λi x=>bQ .u32 x (nth (.int .u32) h i)) m7 k (by omega)]
  ·have d0:decide (k < 8)=true:=aX gV
   have i0:gw (k:Int) 8=true:=bt (by omega) (by omega)
   rw[mix.L1.step,aU (by omega)]
   simp only[e1,e2,nN,aR,cn,decide_true,ag,hl,d0,i0,hn]
 ·right
  obtain rfl:k=8:=by omega
  intro R kn kx
  rw[mix.L1.step,aW (by omega)]
  simp only[ai,mix.L1.add,mix.L1.F,e2]
  rw[DL _ _ _ (by omega)]
theorem mix.ok:mix.Ok:=by
 rintro⟨h,b⟩ ⟨⟨s,rfl⟩,hb⟩
 have hs:schedule.bf b:=hb
 have I2:(sched b).length=64:=by unfold sched;rw[vg,mQ]
 have hp:mix.L0.bf (s.l,0,List.replicate 8 0,wl (sched b),D7,s.l):=⟨s,sched b,0,rfl,rfl,I2,by omega,rfl,rfl,rfl⟩
 rw[mix.eq,schedule.run hs]
 simp only[ae,table.run (d:=()) trivial,bV,schedule.F,bV,table.F,mix.L0.run hp,mix.L0.add,mix.L0.F,Hl,qb]
 have OS:mix.L1.bf (s.l,0,List.replicate 8 0,(rounds (sched b) s 64).l):=⟨rfl,0,by omega,rfl⟩
 simp only[mix.L1.run OS,ae,mix.L1.add,mix.L1.F,bV,mix.F,qb]
 unfold Ic
 generalize rounds (sched b) s 64=v
 obtain⟨a1,b1,c1,d1,f1,g1,h1,i1⟩:=v
 simp only[St.l,from_,List.mapIdx_cons,List.mapIdx_nil,b5,Nat.not_lt_zero,if_false,aR,Nat.reduceAdd]
 simp only[nth,jx,List.getD_cons_succ,zs]
theorem mix.run:mix.RS:=rE [.d (.slice (.int .u32)),.d tB] mix
def mix.sg:=mix.gk mix.ok 2 ⟨.iY mix.L0.ok,⟨.iY mix.L1.ok,trivial⟩⟩
theorem me(n:Int)(k:Int)(h0:0<=k)(h1:k<=64):eo .u8 (cH .i64 n k)=n / 2^k.toNat%256:=by
 rw[CB,kc,cH]
 have e:min k.toNat IntKind.i64.bits=k.toNat:=by simp only[IntKind.bits];omega
 rw[e,Int.fdiv_eq_ediv_of_nonneg _ (Int.le_of_lt (Int.pow_pos (by omega)))]
 rfl
theorem rb{n:Nat}(h:n<=140737488355328):dX n 1=true:=fh (by omega) (by omega)
abbrev fY.D:=Bs
abbrev fY.Y:=Nat×(List Int)
def fY.bf:fY.D->Prop:=λb=>b.length<=140737488355328
def fY.F:fY.D->fY.Y:=λb=>(b.length,b)
def fY:Fs Tryz.prog fY.bf bV fY.F:=gf 200 Tryz.f200 (λsv=>([.d tB sv],[])) (λx=>⟨.cO (.new 0 0) 0 [] 0 0 x.1,[],[.obj 0 false (.vec 5 tb x.2)]⟩) [some tB] [] {bE:=[5],owns:=[⟨2,[],5,140⟩]}
theorem fY.eq{R:Type}(sv)(k:K1 R):fY.A sv k=
  aN (decide (0 < (List.length sv))) (
   aN (dX (0+(List.length sv)) 1) (
   k (fY.out ((0+(List.length sv)),((List.take 0 (List.replicate 0 0))++sv)))) none) (
   nd (
    k (fY.out (0,([]:List Int)))) (
    aN (dX (0+(List.length sv)) 1) (
    k (fY.out ((0+(List.length sv)),((List.take 0 (List.replicate 0 0))++sv)))) none)):=by kernel_rfl
theorem fY.ok:fY.Ok:=by
 intro b hb
 have hr:dX b.length 1=true:=rb hb
 rw[fY.eq]
 have e0:(List.take 0 (List.replicate 0 0):List Int)=[]:=rfl
 simp only[aR,hr,ag,e0,bh,bV,fY.F]
 by_cases h:0 < b.length
 ·simp only[aX h,ag]
 ·have:b=[]:=aQ (by omega)
  subst this
  simp only[aZ,tF,cC (iA 0),ai]
theorem fY.run:fY.RS:=rE [.d tB] fY
def fY.sg:=fY.gk fY.ok
abbrev j7.D:=Int
abbrev j7.Y:=Nat×(List Int)
def j7.bf:j7.D->Prop:=λ_=>True
def j7.F:j7.D->j7.Y:=λn=>(8,qF n)
def j7:Fs Tryz.prog j7.bf bV j7.F:=gf 143 Tryz.f143 (λn=>([.dp,.d ti n],[])) (λx=>⟨.cO (.new 0 0) 0 [] 0 0 x.1,[],[.obj 0 false (.vec 5 tb x.2)]⟩) [none,some ti] [] {loops:=qu [(2,{bA:=[0,1,5],sites:=[16]})],outs:=qt [(2,{bA:=[0],sites:=[16]},{bA:=[4],sites:=[16]})],owns:=[⟨4,[],16,140⟩]} 12
theorem j7.eq{R:Type}(n)(k:K1 R):j7.A n k=
 k (j7.out (8,[(eo .u8 (cH .i64 n 56)),(eo .u8 (cH .i64 n 48)),(eo .u8 (cH .i64 n 40)),(eo .u8 (cH .i64 n 32)),(eo .u8 (cH .i64 n 24)),(eo .u8 (cH .i64 n 16)),(eo .u8 (cH .i64 n 8)),(eo .u8 (cH .i64 n 0))])):=by kernel_rfl
theorem Fj(n:Int): [eo .u8 (cH .i64 n 56),eo .u8 (cH .i64 n 48),eo .u8 (cH .i64 n 40),eo .u8 (cH .i64 n 32),eo .u8 (cH .i64 n 24),eo .u8 (cH .i64 n 16),eo .u8 (cH .i64 n 8),eo .u8 (cH .i64 n 0)]=qF n:=by
 rw[me n 56 (by omega) (by omega),me n 48 (by omega) (by omega),me n 40 (by omega) (by omega),me n 32 (by omega) (by omega),me n 24 (by omega) (by omega),me n 16 (by omega) (by omega),me n 8 (by omega) (by omega),me n 0 (by omega) (by omega)]
 simp[qF]
theorem j7.ok:j7.Ok:=by
 intro n _
 rw[j7.eq,Fj]
 rfl
theorem j7.run:j7.RS:=rE [.d ti] j7
def j7.sg:=j7.SI Ik j7.ok 1 ⟨.none (by kernel_rfl),trivial⟩
abbrev iC.D:=Nat×Int×Bs
abbrev iC.Y:=Nat×(List Int)
def iC.bf:iC.D->Prop:=λ(m,n,l)=>m=l.length/\l.length<=140737488355320
def iC.F:iC.D->iC.Y:=λ(m,n,l)=>(l.length+8,l++qF n)
def iC:Fs Tryz.prog iC.bf bV iC.F:=gf 143 Tryz.f143 (λ(bL,n,o0)=>([.cO (.dw 0) 0 [] 0 0 bL,.d ti n],[.obj 0 false (.vec 5 tb o0)])) (λx=>⟨.cO (.dw 0) 8 [] 0 0 x.1,[.obj 8 false (.vec 5 tb x.2)],[]⟩) [none,some ti] [] {loops:=qu [(2,{bA:=[0,1,5],sites:=[16]})],outs:=qt [(2,{bA:=[0],sites:=[16]},{bA:=[4],sites:=[16]})]} 12
theorem iC.eq{R:Type}(bL n o0)(k:K1 R):iC.A (bL,n,o0) k=
 aN (decide (bL<=(List.length o0))) (
 aN (dX (bL+1) 1) (
 aN (decide ((bL+1)<=(List.length ((List.take bL o0)++ [(eo .u8 (cH .i64 n 56))])))) (
 aN (dX ((bL+1)+1) 1) (
 aN (decide (((bL+1)+1)<=(List.length ((List.take (bL+1) ((List.take bL o0)++ [(eo .u8 (cH .i64 n 56))]))++ [(eo .u8 (cH .i64 n 48))])))) (
 aN (dX (((bL+1)+1)+1) 1) (
 aN (decide ((((bL+1)+1)+1)<=(List.length ((List.take ((bL+1)+1) ((List.take (bL+1) ((List.take bL o0)++ [(eo .u8 (cH .i64 n 56))]))++ [(eo .u8 (cH .i64 n 48))]))++ [(eo .u8 (cH .i64 n 40))])))) (
 aN (dX ((((bL+1)+1)+1)+1) 1) (
 aN (decide (((((bL+1)+1)+1)+1)<=(List.length ((List.take (((bL+1)+1)+1) ((List.take ((bL+1)+1) ((List.take (bL+1) ((List.take bL o0)++ [(eo .u8 (cH .i64 n 56))]))++ [(eo .u8 (cH .i64 n 48))]))++ [(eo .u8 (cH .i64 n 40))]))++ [(eo .u8 (cH .i64 n 32))])))) (
 aN (dX (((((bL+1)+1)+1)+1)+1) 1) (
 aN (decide ((((((bL+1)+1)+1)+1)+1)<=(List.length ((List.take ((((bL+1)+1)+1)+1) ((List.take (((bL+1)+1)+1) ((List.take ((bL+1)+1) ((List.take (bL+1) ((List.take bL o0)++ [(eo .u8 (cH .i64 n 56))]))++ [(eo .u8 (cH .i64 n 48))]))++ [(eo .u8 (cH .i64 n 40))]))++ [(eo .u8 (cH .i64 n 32))]))++ [(eo .u8 (cH .i64 n 24))])))) (
 aN (dX ((((((bL+1)+1)+1)+1)+1)+1) 1) (
 aN (decide (((((((bL+1)+1)+1)+1)+1)+1)<=(List.length ((List.take (((((bL+1)+1)+1)+1)+1) ((List.take ((((bL+1)+1)+1)+1) ((List.take (((bL+1)+1)+1) ((List.take ((bL+1)+1) ((List.take (bL+1) ((List.take bL o0)++ [(eo .u8 (cH .i64 n 56))]))++ [(eo .u8 (cH .i64 n 48))]))++ [(eo .u8 (cH .i64 n 40))]))++ [(eo .u8 (cH .i64 n 32))]))++ [(eo .u8 (cH .i64 n 24))]))++ [(eo .u8 (cH .i64 n 16))])))) (
 aN (dX (((((((bL+1)+1)+1)+1)+1)+1)+1) 1) (
 aN (decide ((((((((bL+1)+1)+1)+1)+1)+1)+1)<=(List.length ((List.take ((((((bL+1)+1)+1)+1)+1)+1) ((List.take (((((bL+1)+1)+1)+1)+1) ((List.take ((((bL+1)+1)+1)+1) ((List.take (((bL+1)+1)+1) ((List.take ((bL+1)+1) ((List.take (bL+1) ((List.take bL o0)++ [(eo .u8 (cH .i64 n 56))]))++ [(eo .u8 (cH .i64 n 48))]))++ [(eo .u8 (cH .i64 n 40))]))++ [(eo .u8 (cH .i64 n 32))]))++ [(eo .u8 (cH .i64 n 24))]))++ [(eo .u8 (cH .i64 n 16))]))++ [(eo .u8 (cH .i64 n 8))])))) (
 aN (dX ((((((((bL+1)+1)+1)+1)+1)+1)+1)+1) 1) (
 k (iC.out (((((((((bL+1)+1)+1)+1)+1)+1)+1)+1),((List.take (((((((bL+1)+1)+1)+1)+1)+1)+1) ((List.take ((((((bL+1)+1)+1)+1)+1)+1) ((List.take (((((bL+1)+1)+1)+1)+1) ((List.take ((((bL+1)+1)+1)+1) ((List.take (((bL+1)+1)+1) ((List.take ((bL+1)+1) ((List.take (bL+1) ((List.take bL o0)++ [(eo .u8 (cH .i64 n 56))]))++ [(eo .u8 (cH .i64 n 48))]))++ [(eo .u8 (cH .i64 n 40))]))++ [(eo .u8 (cH .i64 n 32))]))++ [(eo .u8 (cH .i64 n 24))]))++ [(eo .u8 (cH .i64 n 16))]))++ [(eo .u8 (cH .i64 n 8))]))++ [(eo .u8 (cH .i64 n 0))])))) none) none) none) none) none) none) none) none) none) none) none) none) none) none) none) none:=by kernel_rfl
theorem iC.ok:iC.Ok:=by
 rintro⟨m,n,l⟩ ⟨rfl,hl⟩
 have hl:l.length<=140737488355320:=hl
 rw[iC.eq]
 simp only[az,decide_true,ag,bg,av,aG,aZ,aR]
 rw[rb (by omega),rb (by omega),rb (by omega),rb (by omega),rb (by omega),rb (by omega),rb (by omega),rb (by omega)]
 simp only[ag,bV,iC.F,<-Fj,bw,kO,bh]
theorem iC.run:iC.RS:=rE [.n,.d ti,.d tB] iC
def iC.sg:=iC.SI IH iC.ok 1 ⟨.none (by kernel_rfl),trivial⟩
abbrev bX.L0.D:=Bs×Nat×Bs×(List Int)
abbrev bX.L0.Y:=Nat×(List Int)
abbrev bX.L0.X:=(Bs×Bs)×(Nat×(List Int))
def bX.L0.add:bX.L0.D->bX.L0.Y->bX.L0.X:=λ(kD,endL,n2,n14) y=>((kD,n2),y)
abbrev bX.L1.D:=Bs×Nat×Bs×(List Int)×(List Int)
abbrev bX.L1.Y:=(List Int)
abbrev bX.L1.X:=(Nat×Bs×(List Int))×((List Int))
def bX.L1.add:bX.L1.D->bX.L1.Y->bX.L1.X:=λ(Cj,uE,qM,n4,zP) y=>((uE,qM,zP),y)
abbrev bX.L2.D:=Bs×Bs×(List Int)
abbrev bX.L2.Y:=(List Int)
abbrev bX.L2.X:=(Bs)×((List Int))
def bX.L2.add:bX.L2.D->bX.L2.Y->bX.L2.X:=λ(endv,pT,vW) y=>(pT,y)
abbrev bX.L3.D:=Int×Bs×(List Int)
abbrev bX.L3.Y:=Bs
abbrev bX.D:=Bs
abbrev bX.Y:=Bs
def zc(n:Nat):Nat:=(120 - n%64)%64
def bX.L0.bf:bX.L0.D->Prop:=λ(b,m,n2,l)=>m=l.length/\l.length+zc l.length<=140737488355328
def bX.L0.F:bX.L0.D->bX.L0.Y:=λ(b,m,n2,l)=>(l.length+zc l.length,l++List.replicate (zc l.length) 0)
def bX.L1.bf:bX.L1.D->Prop:=λ(b,m,n2,h,l)=>∃s:St,h=s.l
def bX.L1.F:bX.L1.D->bX.L1.Y:=λ(b,m,n2,h,l)=>(blocks (IN h) b).l
def bX.L2.bf:bX.L2.D->Prop:=λ(b,n2,h)=>b.length%64=0/\∃s:St,h=s.l
def bX.L2.F:bX.L2.D->bX.L2.Y:=λ(b,n2,h)=>(blocks (IN h) b).l
def Bl(h:List Int)(i:Nat)(_:Int):Int:=eo .u8 (cH .u32 (nth (.int .u32) h (i / 4)) ((24 - 8*(i%4):Nat):Int))
def bX.L3.bf:bX.L3.D->Prop:=λ(t,n2,h)=>n2.length=32/\h.length=8/\∃k:Nat,k<=32/\t=k
def bX.L3.F:bX.L3.D->bX.L3.Y:=λ(t,n2,h)=>from_ (Bl h) t.toNat n2
def bX.bf:bX.D->Prop:=λb=>b.length<=140737488350000
def bX.F:bX.D->bX.Y:=λb=>O5 b
def bX.L0:Ls bX.L0.bf bX.L0.add bX.L0.F:=ra (λ(kD,endL,n2,n14)=>⟨([.d tB kD,.undef,.ptr (.new 2 0) 0 [] 0,.cO (.new 14 0) 0 [] 0 0 endL]++bm 61 []),[],([[],[],[.obj 0 false (.d tH n2)]]++cS 11 ([[.obj 0 false (.vec 5 tb n14)]]++cS 50 []))⟩) (λx=>(.exit 0,⟨([.d tB x.1.1,.undef,.ptr (.new 2 0) 0 [] 0,.cO (.new 14 0) 0 [] 0 0 x.2.1]++bm 61 []),[],([[],[],[.obj 0 false (.d tH x.1.2)]]++cS 11 ([[.obj 0 false (.vec 5 tb x.2.2)]]++cS 50 []))⟩))
def bX.L1:Ls bX.L1.bf bX.L1.add bX.L1.F:=ra (λ(Cj,uE,qM,n4,zP)=>⟨([.d tB Cj,.undef,.ptr (.new 2 0) 0 [] 0,.cO (.new 14 0) 8 [] 0 0 uE,.ptr (.new 4 0) 0 [] 0]++bm 60 []),[],([[],[],[.obj 0 false (.d tH qM)],[],[.obj 0 false (.d (.arr 8 (.int .u32)) n4)]]++cS 9 ([[.obj 8 false (.vec 5 tb zP)]]++cS 50 []))⟩) (λx=>(.exit 2,⟨([.undef,.undef,.ptr (.new 2 0) 0 [] 0,.cO (.new 14 0) 8 [] 0 0 x.1.1,.ptr (.new 4 0) 0 [] 0]++bm 60 []),[],([[],[],[.obj 0 false (.d tH x.1.2.1)],[],[.obj 0 false (.d (.arr 8 (.int .u32)) x.2)]]++cS 9 ([[.obj 8 false (.vec 5 tb x.1.2.2)]]++cS 50 []))⟩))
def bX.L2:Ls bX.L2.bf bX.L2.add bX.L2.F:=ra (λ(endv,pT,vW)=>⟨([.undef,.undef,.ptr (.new 2 0) 0 [] 0,.d tB endv,.ptr (.new 4 0) 0 [] 0]++bm 60 []),[],([[],[],[.obj 0 false (.d tH pT)],[],[.obj 0 false (.d (.arr 8 (.int .u32)) vW)]]++cS 60 [])⟩) (λx=>(.exit 4,⟨([.undef,.undef,.ptr (.new 2 0) 0 [] 0,.undef,.ptr (.new 4 0) 0 [] 0]++bm 60 []),[],([[],[],[.obj 0 false (.d tH x.1)],[],[.obj 0 false (.d (.arr 8 (.int .u32)) x.2)]]++cS 60 [])⟩))
def bX.L3:Ls bX.L3.bf bV bX.L3.F:=ra (λ(t48,F8,Ii)=>⟨([.undef,.undef,.ptr (.new 2 0) 0 [] 0,.undef,.ptr (.new 4 0) 0 [] 0]++bm 43 ([.d ti t48]++bm 16 [])),[],([[],[],[.obj 0 false (.d tH F8)],[],[.obj 0 false (.d (.arr 8 (.int .u32)) Ii)]]++cS 60 [])⟩) (λx=>(.exit 6,⟨([.undef,.undef,.ptr (.new 2 0) 0 [] 0]++bm 62 []),[],([[],[],[.obj 0 false (.d tH x)]]++cS 62 [])⟩))
def bX:Fs Tryz.prog bX.bf bV bX.F:=gf 144 Tryz.f144 (λb=>([.d tB b],[])) (λx=>⟨.d tH x,[],[]⟩) [some tB] [fY.sg,iC.sg,first.sg,mix.sg] {loops:=qu [(2,{bA:=[0,2,3],sites:=[2,14],owns:=[⟨3,[],14,140⟩]}),(6,{bA:=[0,2,3,4],sites:=[2,4,14]}),(9,{bA:=[2,3,4],sites:=[2,4],data:=[(3,tB)]}),(13,{bA:=[2,4,48],sites:=[2,4]})],outs:=qt [(2,{bA:=[0,2,3],sites:=[2,14]},{bA:=[2]}),(6,{bA:=[2,3,4],sites:=[2,4,14]},{bA:=[2]}),(9,{bA:=[2,4],sites:=[2,4]},{bA:=[2]}),(13,{bA:=[2],sites:=[2]},{bA:=[2]})],jl:=qU [(2,bX.L0.E),(6,bX.L1.E),(9,bX.L2.E),(13,bX.L3.E)]}
theorem bX.L0.run:bX.L0.RS:=rL [.d tB,.n,.d tB,.d tB] bX.L0
theorem bX.L0.step{R:Type}(kD endL n2 n14)(kn:K2 R)(kx:K3 R):bX.R 0 bX.L0 (kD,endL,n2,n14) kn kx=
  aN ((sx (o9 ((endL:Nat):Int) 64) 56)) (
   aN (decide (endL<=(List.length n14))) (
   aN (dX (endL+1) 1) (
   kn (bX.L0.st (kD,(endL+1),n2,((List.take endL n14)++ [0])))) none) none) (
   bX.L0.go kx ((kD,n2),(endL,n14))):=by kernel_rfl
theorem bX.L1.run:bX.L1.RS:=rL [.d tB,.n,.d tB,.d (.slice (.int .u32)),.d tB] bX.L1
theorem bX.L1.step{R:Type}(Cj uE qM n4 zP)(kn:K2 R)(kx:K3 R):bX.R 1 bX.L1 (Cj,uE,qM,n4,zP) kn kx=
  aN ((qT (Cj.length:Int) 64)) (
   aN (inc 64 (Cj.length:Int)) (
   aB (mix.call (n4,(cut Cj 0 64))) λx1=>
   aN (inc 64 (Cj.length:Int)) (
   kn (bX.L1.st ((cut Cj 64 ((List.length Cj) - 64)),uE,qM,x1,zP))) none) none) (
   bX.L1.go kx ((uE,qM,zP),n4)):=by kernel_rfl
theorem bX.L2.run:bX.L2.RS:=rL [.d tB,.d tB,.d (.slice (.int .u32))] bX.L2
theorem bX.L2.step{R:Type}(endv pT vW)(kn:K2 R)(kx:K3 R):bX.R 2 bX.L2 (endv,pT,vW) kn kx=
  aN ((ri (endv.length:Int) 0)) (
   aN (inc 64 (endv.length:Int)) (
   aB (mix.call (vW,(cut endv 0 64))) λx1=>
   aN (inc 64 (endv.length:Int)) (
   kn (bX.L2.st ((cut endv 64 ((List.length endv) - 64)),pT,x1))) none) none) (
   bX.L2.go kx (pT,vW)):=by kernel_rfl
theorem bX.L3.run:bX.L3.RS:=rL [.d ti,.d tB,.d (.slice (.int .u32))] bX.L3
theorem bX.L3.step{R:Type}(t48 F8 Ii)(kn:K2 R)(kx:K3 R):bX.R 3 bX.L3 (t48,F8,Ii) kn kx=
  aN ((iX t48 32)) (
   aN (gw (qK .i64 t48 4) 8) (
   aN (decide ((Int.toNat (qK .i64 t48 4)) < (List.length Ii))) (
   aN (decide ((((Int.toNat (qK .i64 t48 4))*1)+0)=(0+((Int.toNat (qK .i64 t48 4))*1)))) (
   aN (mJ (dC .i64 24 (iv .i64 8 (o9 t48 4)))) (
   aN (gw t48 32) (
   aN (decide ((Int.toNat t48) < (List.length F8))) (
   aN (decide ((((Int.toNat t48)*1)+0)=(0+((Int.toNat t48)*1)))) (
   aN (decide ((Int.toNat t48) < (List.length F8))) (
   kn (bX.L3.st ((bQ .i64 t48 1),(List.set F8 (Int.toNat t48) (eo .u8 (cH .u32 (nth (.int .u32) Ii (Int.toNat (qK .i64 t48 4))) (dC .i64 24 (iv .i64 8 (o9 t48 4)))))),Ii))) none) none) none) none) none) none) none) none) (
   bX.L3.go kx F8):=by kernel_rfl
theorem bX.eq{R:Type}(b)(k:K1 R):bX.A b k=
 aN (inc (dC .i64 (b.length:Int) (o9 (b.length:Int) 64)) (b.length:Int)) (
 aB (fY.call (cut b (Int.toNat (dC .i64 (b.length:Int) (o9 (b.length:Int) 64))) ((List.length b) - (Int.toNat (dC .i64 (b.length:Int) (o9 (b.length:Int) 64)))))) λx1=>
 aN (decide (x1.1<=(List.length x1.2))) (
 aN (dX (x1.1+1) 1) (
 aB (bX.L0.call (b,(x1.1+1),(List.replicate 32 0),((List.take x1.1 x1.2)++ [128]))) λx2=>
 aB (iC.call (x2.2.1,(iv .i64 8 (x2.1.1.length:Int)),x2.2.2)) λx3=>
 aB (first.call ()) λx4=>
 aB (bX.L1.call (x2.1.1,x3.1,x2.1.2,x4,x3.2)) λx6=>
 aN (decide (0=0/\(0+x6.1.1)<=(List.length x6.1.2.2))) (
 aB (bX.L2.call ((cut x6.1.2.2 0 x6.1.1),x6.1.2.1,x6.2)) λx9=>
 aB (bX.L3.call (0,x9.1,x9.2)) λIU=>
 k (bX.out IU)) none) none) none) none:=by kernel_rfl
theorem bX.L0.ok:(bX.lP 0 bX.L0):=by
 refine(bX.mS 0 bX.L0) (λ(b,m,n2,l)=>zc l.length) ?_
 rintro⟨b,m,n2,l⟩ ⟨rfl,hl⟩
 have hl:l.length+zc l.length<=140737488355328:=hl
 have hr:o9 ((l.length:Nat):Int) 64=((l.length%64:Nat):Int):=by
  unfold o9
  rw[fT (by omega)]
  omega
 by_cases h:l.length%64=56
 ·right
  intro R kn kx
  have hz:zc l.length=0:=by unfold zc;omega
  rw[bX.L0.step,hr,cU (by omega)]
  simp only[ai,bX.L0.add,bX.L0.F,hz,cn,List.replicate_zero,cM]
 ·left
  have hz:zc l.length=zc (l.length+1)+1:=by unfold zc;omega
  refine⟨(b,l.length+1,n2,l++ [0]),⟨by simp,by simp only[av,aG,aZ,aR];omega⟩,by simp only[av,aG,aZ,aR];omega,?_,λkn kx=> ?_⟩
  ·simp only[bX.L0.add,bX.L0.F,av,aG,aZ,aR,hz,bw,kO,bh,List.replicate_succ]
   rw[show l.length+1+zc (l.length+1)=l.length+(zc (l.length+1)+1) by omega]
  ·rw[bX.L0.step,hr,fj (by omega),rb (by omega)]
   simp only[ag,az,decide_true,c9]
theorem bX.L1.ok:(bX.lP 1 bX.L1):=by
 refine(bX.mS 1 bX.L1) (λ(b,m,n2,h,l)=>b.length) ?_
 rintro⟨b,m,n2,h,l⟩ ⟨s,rfl⟩
 by_cases hb:64<=b.length
 ·left
  have e1:cut b 64 (b.length - 64)=b.drop 64:=by unfold cut;rw[bg (by simp)]
  have e2:cut b 0 64=b.take 64:=rfl
  have hp:mix.bf (s.l,b.take 64):=⟨⟨s,rfl⟩,by simp;omega⟩
  refine⟨(b.drop 64,m,n2,(Ic s (b.take 64)).l,l),⟨_,rfl⟩,by simp;omega,?_,λkn kx=> ?_⟩
  ·simp only[bX.L1.add,bX.L1.F,qb]
   rw[xF s b hb]
  ·rw[bX.L1.step,fC (by omega),gO (by omega) (by omega),e1,e2]
   simp only[ag,mix.run hp,ae,bV,mix.F,qb]
 ·right
  intro R kn kx
  rw[bX.L1.step,ea (by omega)]
  simp only[ai,bX.L1.add,bX.L1.F,qb]
  rw[uo s b (by omega)]
theorem bX.L2.ok:(bX.lP 2 bX.L2):=by
 refine(bX.mS 2 bX.L2) (λ(b,n2,h)=>b.length) ?_
 rintro⟨b,n2,h⟩ ⟨hm,s,rfl⟩
 have hm:b.length%64=0:=hm
 by_cases hb:0 < b.length
 ·left
  have e1:cut b 64 (b.length - 64)=b.drop 64:=by unfold cut;rw[bg (by simp)]
  have e2:cut b 0 64=b.take 64:=rfl
  have hp:mix.bf (s.l,b.take 64):=⟨⟨s,rfl⟩,by simp;omega⟩
  refine⟨(b.drop 64,n2,(Ic s (b.take 64)).l),⟨by simp;omega,_,rfl⟩,by simp;omega,?_,λkn kx=> ?_⟩
  ·simp only[bX.L2.add,bX.L2.F,qb]
   rw[xF s b (by omega)]
  ·rw[bX.L2.step,dA (by omega),gO (by omega) (by omega),e1,e2]
   simp only[ag,mix.run hp,ae,bV,mix.F,qb]
 ·right
  intro R kn kx
  rw[bX.L2.step,di (by omega)]
  simp only[ai,bX.L2.add,bX.L2.F,qb]
  rw[uo s b (by omega)]
theorem bX.L3.ok:(bX.lP 3 bX.L3):=by
 refine(bX.mS 3 bX.L3) (λ(t,n2,h)=>32 - t.toNat) ?_
 rintro⟨t,m,h⟩ ⟨hl,h8,k,hk,rfl⟩
 have hl:m.length=32:=hl
 have h8:h.length=8:=h8
 have e2:Int.toNat (k:Int)=k:=by omega
 have e3:Int.toNat ((k+1:Nat):Int)=k+1:=by omega
 by_cases gV:k < 32
 ·left
  have e1:bQ .i64 (k:Int) 1=((k+1:Nat):Int):=by rw[dL (by omega) (by omega)];omega
  have q4:qK .i64 (k:Int) 4=((k / 4:Nat):Int):=by
   have:(k:Int).tdiv 4=((k / 4:Nat):Int):=by rw[iK (by omega)];omega
   unfold qK
   rw[this,pO (by omega) (by omega)]
  have r4:o9 (k:Int) 4=((k%4:Nat):Int):=by
   unfold o9
   rw[fT (by omega)]
   omega
  have s4:dC .i64 24 (iv .i64 8 ((k%4:Nat):Int))=((24 - 8*(k%4):Nat):Int):=by
   rw[pP (by omega) (by omega),ee (by omega) (by omega)]
   omega
  have e4:Int.toNat ((k / 4:Nat):Int)=k / 4:=by omega
  refine⟨(((k+1:Nat):Int),m.set k (Bl h k m[k]),h),⟨by simpa using hl,h8,k+1,by omega,rfl⟩,by simp;omega,?_,λkn kx=> ?_⟩
  ·simp only[bV,bX.L3.F,e2,e3]
   rw[Bz (Bl h) m k (by omega)]
  ·have d0:decide (k < 32)=true:=aX gV
   have d1:decide (k / 4 < 8)=true:=aX (by omega)
   rw[bX.L3.step,aU (by omega),q4,r4,s4,bt (by omega) (by omega),bt (by omega) (by omega),qw (by omega)]
   simp only[e1,e2,e4,nN,aR,cn,decide_true,ag,hl,h8,d0,d1,Bl]
 ·right
  obtain rfl:k=32:=by omega
  intro R kn kx
  rw[bX.L3.step,aW (by omega)]
  simp only[ai,bV,bX.L3.F,e2]
  rw[DL _ _ _ (by omega)]
theorem Iq(w:W):BitVec.ofInt 8 (vw w)=w.setWidth 8:=by
 apply BitVec.eq_of_toNat_eq
 rw[lN,BitVec.toNat_setWidth]
 unfold vw
 omega
theorem Ng(w:W)(k:Int):eo .u8 (cH .u32 (vw w) k)=vw ((w >>> k.toNat).setWidth 8):=by
 rw[zA,CB,Iq]
theorem LP(s:St):from_ (Bl s.l) 0 (List.replicate 32 0)=LO s:=by
 rw[zh]
 simp only[List.range_eq_range',List.range',bJ,fE,Bl,Nat.reduceAdd,Nat.reduceDiv,Nat.reduceMod,Nat.reduceMul,Nat.reduceSub,n0,n1,n2,n3,n4,n5,n6,n7,Ng]
 rfl
theorem bX.ok:bX.Ok:=by
 intro b hb
 have hb:b.length<=140737488350000:=hb
 have hr:o9 ((b.length:Nat):Int) 64=((b.length%64:Nat):Int):=by
  unfold o9
  rw[fT (by omega)]
  omega
 have hs:dC .i64 ((b.length:Nat):Int) ((b.length%64:Nat):Int)=((b.length - b.length%64:Nat):Int):=by
  rw[ee (by omega) (by omega)];omega
 have hn:Int.toNat ((b.length - b.length%64:Nat):Int)=b.length - b.length%64:=by omega
 have hm:iv .i64 8 ((b.length:Nat):Int)=8*(b.length:Int):=pP (by omega) (by omega)
 generalize hq:b.length - b.length%64=q at hs hn
 have hc:cut b q (b.length - q)=b.drop q:=by unfold cut;rw[bg (by simp)]
 have FN:(b.drop q).length=b.length%64:=by simp;omega
 have p1:fY.bf (b.drop q):=by show(b.drop q).length<=_;omega
 rw[bX.eq,hr,hs,gO (by omega) (by omega),hn,hc]
 simp only[ag,fY.run p1,ae,bV,fY.F,az,decide_true,c9]
 have p2:bX.L0.bf (b,(b.drop q).length+1,List.replicate 32 0,b.drop q++ [128]):=by
  refine⟨by simp,?_⟩
  simp only[av,aG,aZ,zc]
  omega
 have hz:zc (b.drop q++ [128]).length=v7 b.length:=by
  simp only[av,aG,aZ,zc,v7]
  omega
 rw[rb (by omega)]
 simp only[ag,bX.L0.run p2,ae,bX.L0.add,bX.L0.F,hm,hz]
 have hlen:(b.drop q++ [128]).length+v7 b.length=(b.drop q++ [128]++List.replicate (v7 b.length) 0).length:=by rw[@av _ (b.drop q++ [128]),cJ]
 have p3:iC.bf ((b.drop q++ [128]).length+v7 b.length,8*(b.length:Int),b.drop q++ [128]++List.replicate (v7 b.length) 0):=by
  refine⟨hlen,?_⟩
  simp only[av,aG,aZ,cJ,v7]
  omega
 have p4:bX.L1.bf (b,(b.drop q++ [128]++List.replicate (v7 b.length) 0).length+8,List.replicate 32 0,pK.l,b.drop q++ [128]++List.replicate (v7 b.length) 0++qF (8*(b.length:Int))):=⟨pK,rfl⟩
 simp only[iC.run p3,ae,bV,iC.F,first.run (d:=()) trivial,bV,first.F,bX.L1.run p4,bX.L1.add,bX.L1.F,qb]
 generalize he:b.drop q++ [128]++List.replicate (v7 b.length) 0++qF (8*(b.length:Int))=e
 have tO:(b.drop q++ [128]++List.replicate (v7 b.length) 0).length+8=e.length:=by rw[<-he,@av _ _ (qF _),dM]
 have ON:e.length%64=0:=by
  rw[<-tO]
  simp only[av,aG,aZ,cJ,v7,FN]
  omega
 have QK:cut e 0 ((b.drop q++ [128]++List.replicate (v7 b.length) 0).length+8)=e:=by
  rw[tO];unfold cut;rw[aI,c9]
 rw[QK,tO,aX ⟨trivial,by omega⟩]
 have p5:bX.L2.bf (e,List.replicate 32 0,(blocks pK b).l):=⟨ON,blocks pK b,rfl⟩
 have p6:bX.L3.bf (0,List.replicate 32 0,(blocks (blocks pK b) e).l):=⟨rfl,rfl,0,by omega,rfl⟩
 simp only[ag,bX.L2.run p5,ae,bX.L2.add,bX.L2.F,qb,bX.L3.run p6,bV,bX.L3.F,bV,bX.F]
 rw[show Int.toNat 0=0 from rfl,LP]
 have OK:blocks pK (pad b)=blocks (blocks pK b) e:=by
  have h1:pad b=b.take q++e:=by
   rw[<-he]
   unfold pad
   rw[bw,bw,<-bw (b.take q),cK]
   rfl
  have h2:blocks pK b=blocks (blocks pK (b.take q)) (b.drop q):=by
   rw[<-tW _ _ _ (by simp;omega),cK]
  rw[h1,tW _ _ _ (by simp;omega),h2,uo _ (b.drop q) (by omega)]
 rw[O5,OK]
theorem bX.run:bX.RS:=rE [.d tB] bX
def bX.sg:=bX.gk bX.ok 4 ⟨.iY bX.L0.ok,⟨.iY bX.L1.ok,⟨.iY bX.L2.ok,⟨.iY bX.L3.ok,trivial⟩⟩⟩⟩
abbrev eL.L0.D:=Nat×(List Bs)×Int×Int×Bs×(List Int)
abbrev eL.L0.Y:=Nat×(List Int)
abbrev eL.L0.X:=(Bs)×(Nat×(List Int))
def eL.L0.add:eL.L0.D->eL.L0.Y->eL.L0.X:=λ(bL,t13,t14,t15,n4,n10) y=>(n4,y)
abbrev eL.D:=ByteArray×(List Bs)
abbrev eL.Y:=Bs
def eL.L0.bf:eL.L0.D->Prop:=λ(m,ps,n,i,n4,l)=>m=l.length/\n=ps.length/\ps.length<=140737488350000/\∃k:Nat,k<=ps.length/\i=k/\l.length+(po (ps.drop k)).length<=140737488350000
def eL.L0.F:eL.L0.D->eL.L0.Y:=λ(m,ps,n,i,n4,l)=>(l.length+(po (ps.drop i.toNat)).length,l++po (ps.drop i.toNat))
def eL.bf:eL.D->Prop:=λ(name,ps)=>(Bb (cr name) ps).length<=140737488350000
def eL.F:eL.D->eL.Y:=λ(name,ps)=>tag (cr name) ps
def eL.L0:Ls eL.L0.bf eL.L0.add eL.L0.F:=ra (λ(bL,t13,t14,t15,n4,n10)=>⟨(bm 4 ([.ptr (.new 4 0) 0 [] 0,.cO (.new 10 0) 0 [] 0 0 bL]++bm 7 ([.d (.slice tB) t13,.d ti t14,.d ti t15]++bm 12 []))),[],(cS 4 ([[.obj 0 false (.d tH n4)]]++cS 5 ([[.obj 0 false (.vec 5 tb n10)]]++cS 17 [])))⟩) (λx=>(.exit 0,⟨(bm 4 ([.ptr (.new 4 0) 0 [] 0,.cO (.new 10 0) 0 [] 0 0 x.2.1]++bm 22 [])),[],(cS 4 ([[.obj 0 false (.d tH x.1)]]++cS 5 ([[.obj 0 false (.vec 5 tb x.2.2)]]++cS 17 [])))⟩))
def eL:Fs Tryz.prog eL.bf bV eL.F:=gf 72 Tryz.f72 (λ(name,parts)=>([.d .str name,.d (.slice tB) parts],[])) (λx=>⟨.d tH x,[],[]⟩) [some .str,some (.slice tB)] [j7.sg,iC.sg,bX.sg] {loops:=qu [(3,{bA:=[4,5,13,14,15],sites:=[4,10],owns:=[⟨5,[],10,140⟩]})],outs:=qt [(3,{bA:=[4,5],sites:=[4,10]},{bA:=[4]})],jl:=qU [(3,eL.L0.E)]}
theorem eL.L0.run:eL.L0.RS:=rL [.n,.d (.slice tB),.d ti,.d ti,.d tB,.d tB] eL.L0
theorem eL.L0.step{R:Type}(bL t13 t14 t15 n4 n10)(kn:K2 R)(kx:K3 R):eL.R 0 eL.L0 (bL,t13,t14,t15,n4,n10) kn kx=
  aN ((iX t15 t14)) (
   aN (gw t15 (t13.length:Int)) (
   aB (iC.call (bL,(((List.length (nth tB t13 (Int.toNat t15))):Nat):Int),n10)) λx1=>
   aN (decide (x1.1<=(List.length x1.2))) (
   aN (dX (x1.1+(List.length (nth tB t13 (Int.toNat t15)))) 1) (
   kn (eL.L0.st ((x1.1+(List.length (nth tB t13 (Int.toNat t15)))),t13,t14,(bQ .i64 t15 1),n4,((List.take x1.1 x1.2)++(nth tB t13 (Int.toNat t15)))))) none) none) none) (
   eL.L0.go kx (n4,(bL,n10))):=by kernel_rfl
theorem eL.eq{R:Type}(name parts)(k:K1 R):eL.A (name,parts) k=
 aB (j7.call (((ByteArray.size name):Nat):Int)) λx1=>
 aN (decide (x1.1<=(List.length x1.2))) (
 aN (dX (x1.1+(List.length (cr name))) 1) (
 aB (eL.L0.call ((x1.1+(List.length (cr name))),parts,(parts.length:Int),0,(List.replicate 32 0),((List.take x1.1 x1.2)++(cr name)))) λx4=>
 aN (decide (0=0/\(0+x4.2.1)<=(List.length x4.2.2))) (
 aB (bX.call (cut x4.2.2 0 x4.2.1)) λx5=>
 k (eL.out x5)) none) none) none:=by kernel_rfl
theorem B5(p:List Int)(ps:List (List Int)):po (p::ps)=qF p.length++p++po ps:=by simp[po]
theorem IL(ps:List (List Int))(k:Nat)(h:k < ps.length):po (ps.drop k)=qF ps[k].length++ps[k]++po (ps.drop (k+1)):=by
 rw[ax h,B5]
theorem eL.L0.ok:(eL.lP 0 eL.L0):=by
 refine(eL.mS 0 eL.L0) (λ(m,ps,n,i,n4,l)=>ps.length - i.toNat) ?_
 rintro⟨m,ps,n,i,n4,l⟩ ⟨rfl,rfl,yw,k,hk,rfl,hl⟩
 have hl:l.length+(po (ps.drop k)).length<=140737488350000:=hl
 have hk:k<=ps.length:=hk
 have e2:Int.toNat (k:Int)=k:=by omega
 have e3:Int.toNat ((k+1:Nat):Int)=k+1:=by omega
 by_cases h:k < ps.length
 ·left
  have ht:=IL ps k h
  have hlen:(po (ps.drop k)).length=8+ps[k].length+(po (ps.drop (k+1))).length:=by rw[ht];simp only[av,dM]
  have hn:nth (.slice (.int .u8)) ps k=ps[k]:=dq (t:= .slice (.int .u8)) h
  have yw:ps.length<=140737488350000:=yw
  have e1:bQ .i64 (k:Int) 1=((k+1:Nat):Int):=by rw[dL (by omega) (by omega)];omega
  refine⟨((l++qF ps[k].length++ps[k]).length,ps,(ps.length:Int),((k+1:Nat):Int),n4,l++qF ps[k].length++ps[k]),⟨rfl,rfl,yw,k+1,by show k+1<=ps.length;omega,rfl,?_⟩,?_,?_,λkn kx=> ?_⟩
  ·show(l++qF ps[k].length++ps[k]).length+(po (ps.drop (k+1))).length<=_
   simp only[av,dM];omega
  ·show ps.length - Int.toNat ((k+1:Nat):Int) < ps.length - Int.toNat (k:Int)
   omega
  ·simp only[eL.L0.add,eL.L0.F,e2,e3,ht,bw]
   simp only[av,dM,dJ]
  ·have p1:iC.bf (l.length,(ps[k].length:Int),l):=⟨rfl,by show l.length<=_;omega⟩
   rw[eL.L0.step,aU (by omega),bt (by omega) (by omega),e1,e2]
   simp only[ag,hn,iC.run p1,ae,bV,iC.F]
   have PV:(l++qF ps[k].length).length=l.length+8:=by simp[dM]
   rw[PV,aX (az _),rb (by omega)]
   simp only[ag]
   rw[bg (by rw[PV];omega)]
   simp only[av,dM,dJ]
 ·right
  obtain rfl:k=ps.length:=by omega
  intro R kn kx
  rw[eL.L0.step,aW (by omega)]
  simp only[ai,eL.L0.add,eL.L0.F,e2,aY]
  simp[po]
theorem ET:∀ps:List (List Int),8*ps.length<=(po ps).length
 |[]=>by simp[po]
 |p::ps=>by
  rw[B5]
  have:=ET ps
  simp only[av,dM,aG]
  omega
theorem ko(s:ByteArray):(cr s).length=s.size:=by simp only[cr,cg,cz];rfl
theorem eL.ok:eL.Ok:=by
 rintro⟨name,ps⟩ hp
 have hp:(qF (cr name).length++cr name++po ps).length<=140737488350000:=hp
 have hl:(qF (cr name).length++cr name++po ps).length=8+(cr name).length+(po ps).length:=by simp only[av,dM]
 have yw:=ET ps
 have mE:((name.size:Nat):Int)=(((cr name).length:Nat):Int):=by rw[ko]
 rw[eL.eq,j7.run (d:=((name.size:Nat):Int)) trivial,mE]
 simp only[ae,bV,j7.F,dM,az,decide_true,ag]
 rw[rb (by omega),bg (by rw[dM];omega)]
 have p2:eL.L0.bf (8+(cr name).length,ps,(ps.length:Int),0,List.replicate 32 0,qF ((cr name).length:Int)++cr name):=by
  refine⟨by simp only[av,dM],rfl,by show ps.length<=_;omega,0,aP _,rfl,?_⟩
  rw[aI]
  simp only[av,dM]
  omega
 simp only[ag,eL.L0.run p2,ae,eL.L0.add,eL.L0.F,b5,aI]
 have Lr:cut (qF ((cr name).length:Int)++cr name++po ps) 0 ((qF ((cr name).length:Int)++cr name).length+(po ps).length)=Bb (cr name) ps:=by
  unfold cut
  rw[aI,bg (by simp only[av];omega)]
  rfl
 have p3:bX.bf (Bb (cr name) ps):=hp
 rw[aX ⟨trivial,by simp only[av];omega⟩,Lr]
 simp only[ag,bX.run p3,ae,bV,bX.F,bV,eL.F,tag]
theorem eL.run:eL.RS:=rE [.d .str,.d (.slice tB)] eL
def eL.sg:=eL.gk eL.ok 1 ⟨.iY eL.L0.ok,trivial⟩
theorem wG{n:Int}(h1:0<=n)(h2:n < 18446744073709551616):IntKind.u64.wrap n=n:=by
 rw[wrap_u64,kc];omega
theorem wF(n:Int):IntKind.u64.wrap n=n%18446744073709551616:=by
 rw[wrap_u64,kc];rfl
theorem o6(x y:Int):bQ .u64 x y=(x+y)%18446744073709551616:=wF _
theorem yN(x y:Int):dC .u64 x y=(x - y)%18446744073709551616:=wF _
theorem o7(x y:Int):iv .u64 x y=(x*y)%18446744073709551616:=wF _
theorem w9(x:Int):eo .u64 x=x%18446744073709551616:=wF _
theorem Df{x:Int}(h:0<=x)(h2:x < 18446744073709551616):dF .and .u64 x 4294967295=x%4294967296:=by
 obtain⟨n,rfl⟩:∃n:Nat,x=n:=⟨x.toNat,by omega⟩
 have e:(BitVec.ofInt 64 (n:Int) &&& BitVec.ofInt 64 4294967295).toNat=n%4294967296:=by
  rw[BitVec.toNat_and]
  have a:(BitVec.ofInt 64 (n:Int)).toNat=n:=by rw[kz,lO];omega
  have b:(BitVec.ofInt 64 4294967295).toNat=2^32 - 1:=by decide
  rw[a,b,Nat.and_two_pow_sub_one_eq_mod]
 show IntKind.u64.wrap ((BitVec.ofInt 64 (n:Int) &&& BitVec.ofInt 64 4294967295).toNat:Int)=_
 rw[e,wG (by omega) (by omega)];omega
theorem Rc{x:Int}(h:0<=x)(h2:x < 18446744073709551616):dF .and .u64 x 1=x%2:=by
 obtain⟨n,rfl⟩:∃n:Nat,x=n:=⟨x.toNat,by omega⟩
 have e:(BitVec.ofInt 64 (n:Int) &&& BitVec.ofInt 64 1).toNat=n%2:=by
  rw[BitVec.toNat_and]
  have a:(BitVec.ofInt 64 (n:Int)).toNat=n:=by rw[kz,lO];omega
  have b:(BitVec.ofInt 64 1).toNat=2^1 - 1:=by decide
  rw[a,b,Nat.and_two_pow_sub_one_eq_mod]
 show IntKind.u64.wrap ((BitVec.ofInt 64 (n:Int) &&& BitVec.ofInt 64 1).toNat:Int)=_
 rw[e,wG (by omega) (by omega)];omega
theorem pj{x k:Int}(n:Nat)(hk:k=n)(hn:n<=64):cH .u64 x k=x / 2^n:=by
 subst hk
 rw[cH]
 have e:min (Int.toNat (n:Int)) IntKind.u64.bits=n:=by simp only[IntKind.bits];omega
 rw[e,Int.fdiv_eq_ediv_of_nonneg _ (Int.le_of_lt (Int.pow_pos (by omega)))]
theorem nL{x k:Int}(n:Nat)(hk:k=n)(hn:n<=64):mX .u64 x k=x*2^n%18446744073709551616:=by
 subst hk
 rw[mX,wF]
 have e:min (Int.toNat (n:Int)) IntKind.u64.bits=n:=by simp only[IntKind.bits];omega
 rw[e]
theorem vZ{x y:Int}(k:Nat)(m:Int)(hm:m=2^k)(hx:x%m=0)(h0:0<=x)(h1:x < 18446744073709551616)(hy:0<=y)(OW:y < m)(h2:x+y < 18446744073709551616):dF .or .u64 x y=x+y:=by
 subst hm
 obtain⟨n,rfl⟩:∃n:Nat,x=n:=⟨x.toNat,by omega⟩
 obtain⟨j,rfl⟩:∃j:Nat,y=j:=⟨y.toNat,by omega⟩
 have hx:n%2^k=0:=by
  have:((n%2^k:Nat):Int)=0:=by rw[Int.natCast_emod];simpa using hx
  omega
 have hj:j < 2^k:=by
  have:((j:Nat):Int) < ((2^k:Nat):Int):=by simpa using OW
  omega
 obtain⟨q,rfl⟩:∃q,n=2^k*q:=⟨n / 2^k,by have:=Nat.div_add_mod n (2^k);omega⟩
 have e:(BitVec.ofInt 64 ((2^k*q:Nat):Int) ||| BitVec.ofInt 64 (j:Int)).toNat=2^k*q+j:=by
  rw[BitVec.toNat_or]
  have a:(BitVec.ofInt 64 ((2^k*q:Nat):Int)).toNat=2^k*q:=by rw[kz,lO];exact Nat.mod_eq_of_lt (by omega)
  have b:(BitVec.ofInt 64 (j:Int)).toNat=j:=by rw[kz,lO];exact Nat.mod_eq_of_lt (by omega)
  rw[a,b,Nat.two_pow_add_eq_or_of_lt hj]
 show IntKind.u64.wrap ((BitVec.ofInt 64 ((2^k*q:Nat):Int) ||| BitVec.ofInt 64 (j:Int)).toNat:Int)=_
 rw[e,wG (by omega) (by omega)];omega
theorem G7{x y:Int}(h:0<=x)(h1:0<=y)(h2:x < 18446744073709551616):qK .u64 x y=x / y:=by
 rw[qK,iK h]
 exact wG (Int.ediv_nonneg h h1) (Int.lt_of_le_of_lt (Int.ediv_le_self _ h) h2)
theorem tx{x y:Int}(h:0<=x):o9 x y=x%y:=by rw[o9,fT h]
theorem k1{e u w r q:Int}(he:e=42260\/e=42264\/e=42272)(hu:0<=u)(C4:u < 18446744073709551616 - e)(hw:0<=w)(I3:w < 4294967296)(hr:0<=r)(FT:r < 4294967296)
  (hq:q*4294967295+r=u) (hQ:(u*4294967296+w) / (18446744073709551616 - e)<=q):
  (4294967296<=q->(u*4294967296+w) / (18446744073709551616 - e)<=q - 1)/\
  (q < 4294967296->4294967296*r+w < q*(4294967296 - e)->(u*4294967296+w) / (18446744073709551616 - e)<=q - 1)/\
  (q < 4294967296->q*(4294967296 - e)<=4294967296*r+w->(u*4294967296+w) / (18446744073709551616 - e)=q)/\
  (4294967296<=r+4294967295->(u*4294967296+w) / (18446744073709551616 - e)<=q - 1->(u*4294967296+w) / (18446744073709551616 - e)=q - 1)/\0<=(u*4294967296+w) / (18446744073709551616 - e)/\q<=4294967297:=by
 rcases he with rfl | rfl | rfl
 ·refine⟨?_,?_,?_,?_,?_,?_⟩ <;> omega
 ·refine⟨?_,?_,?_,?_,?_,?_⟩ <;> omega
 ·refine⟨?_,?_,?_,?_,?_,?_⟩ <;> omega
theorem k0{e u w:Int}(he:e=42260\/e=42264\/e=42272)(hu:0<=u)(C4:u < 18446744073709551616 - e)(hw:0<=w)(I3:w < 4294967296):
  (u*4294967296+w) / (18446744073709551616 - e)<=u / 4294967295/\0<=u - u / 4294967295*4294967295/\u - u / 4294967295*4294967295 < 4294967296/\
  (u*4294967296+w) - (u*4294967296+w) / (18446744073709551616 - e)*(18446744073709551616 - e)=(u*4294967296+w)%(18446744073709551616 - e)/\
  0<=(u*4294967296+w)%(18446744073709551616 - e)/\(u*4294967296+w)%(18446744073709551616 - e) < 18446744073709551616 - e/\
  0<=(u*4294967296+w) / (18446744073709551616 - e)/\(u*4294967296+w) / (18446744073709551616 - e) < 4294967296:=by
 rcases he with rfl | rfl | rfl
 ·refine⟨?_,?_,?_,?_,?_,?_,?_,?_⟩ <;> omega
 ·refine⟨?_,?_,?_,?_,?_,?_,?_,?_⟩ <;> omega
 ·refine⟨?_,?_,?_,?_,?_,?_,?_,?_⟩ <;> omega
theorem kd(Y u w1 w0:Int)(hY:0 < Y)(h0:0<=w0)(h1:w0 < 4294967296):
  ((u*4294967296+w1)*4294967296+w0) / Y=(u*4294967296+w1) / Y*4294967296+((u*4294967296+w1)%Y*4294967296+w0) / Y/\
  ((u*4294967296+w1)*4294967296+w0)%Y=((u*4294967296+w1)%Y*4294967296+w0)%Y:=by
 generalize u*4294967296+w1=n
 have e:n*4294967296+w0=(n%Y*4294967296+w0)+Y*(n / Y*4294967296):=by
  have:=Int.emod_add_mul_ediv n Y
  have h:Y*(n / Y*4294967296)=(Y*(n / Y))*4294967296:=by rw[Int.mul_assoc]
  rw[h];omega
 rw[e,Int.add_mul_ediv_left _ _ (by omega),Int.add_mul_emod_self_left]
 exact⟨by omega,rfl⟩
abbrev iQ.D:=Int
abbrev iQ.Y:=Int
def OY(y:Int):Prop:=y=4611686018427377339\/y=2305843009213688669\/y=2305843009213688668
def iQ.bf:iQ.D->Prop:=OY
def iQ.F:iQ.D->iQ.Y:=λy=>if y=4611686018427377339 then 62 else 61
def iQ:Fs Tryz.prog iQ.bf bV iQ.F:=gf 215 Tryz.f215 (λx=>([.d tu x],[])) (λx=>⟨.d ti x,[],[]⟩) [some tu]
theorem iQ.eq{R:Type}(x)(k:K1 R):iQ.A x k=
  aN ((qT x 4294967296)) (
   aN ((qT (cH .u64 x 32) 65536)) (
    aN ((qT (cH .u64 (cH .u64 x 32) 16) 256)) (
     aN (gw (eo .u8 (cH .u64 (cH .u64 (cH .u64 x 32) 16) 8)) 256) (
     k (iQ.out (bQ .i64 56 (eo .i64 (EF (⟨#[0,1,2,2,3,3,3,3,4,4,4,4,4,4,4,4,5,5,5,5,5,5,5,5,5,5,5,5,5,5,5,5,6,6,6,6,6,6,6,6,6,6,6,6,6,6,6,6,6,6,6,6,6,6,6,6,6,6,6,6,6,6,6,6,7,7,7,7,7,7,7,7,7,7,7,7,7,7,7,7,7,7,7,7,7,7,7,7,7,7,7,7,7,7,7,7,7,7,7,7,7,7,7,7,7,7,7,7,7,7,7,7,7,7,7,7,7,7,7,7,7,7,7,7,7,7,7,7,8,8,8,8,8,8,8,8,8,8,8,8,8,8,8,8,8,8,8,8,8,8,8,8,8,8,8,8,8,8,8,8,8,8,8,8,8,8,8,8,8,8,8,8,8,8,8,8,8,8,8,8,8,8,8,8,8,8,8,8,8,8,8,8,8,8,8,8,8,8,8,8,8,8,8,8,8,8,8,8,8,8,8,8,8,8,8,8,8,8,8,8,8,8,8,8,8,8,8,8,8,8,8,8,8,8,8,8,8,8,8,8,8,8,8,8,8,8,8,8,8,8,8,8,8,8,8,8]⟩:ByteArray) (eo .u8 (cH .u64 (cH .u64 (cH .u64 x 32) 16) 8))))))) none) (
     aN (gw (eo .u8 (cH .u64 (cH .u64 x 32) 16)) 256) (
     k (iQ.out (bQ .i64 48 (eo .i64 (EF (⟨#[0,1,2,2,3,3,3,3,4,4,4,4,4,4,4,4,5,5,5,5,5,5,5,5,5,5,5,5,5,5,5,5,6,6,6,6,6,6,6,6,6,6,6,6,6,6,6,6,6,6,6,6,6,6,6,6,6,6,6,6,6,6,6,6,7,7,7,7,7,7,7,7,7,7,7,7,7,7,7,7,7,7,7,7,7,7,7,7,7,7,7,7,7,7,7,7,7,7,7,7,7,7,7,7,7,7,7,7,7,7,7,7,7,7,7,7,7,7,7,7,7,7,7,7,7,7,7,7,8,8,8,8,8,8,8,8,8,8,8,8,8,8,8,8,8,8,8,8,8,8,8,8,8,8,8,8,8,8,8,8,8,8,8,8,8,8,8,8,8,8,8,8,8,8,8,8,8,8,8,8,8,8,8,8,8,8,8,8,8,8,8,8,8,8,8,8,8,8,8,8,8,8,8,8,8,8,8,8,8,8,8,8,8,8,8,8,8,8,8,8,8,8,8,8,8,8,8,8,8,8,8,8,8,8,8,8,8,8,8,8,8,8,8,8,8,8,8,8,8,8,8,8,8,8,8,8]⟩:ByteArray) (eo .u8 (cH .u64 (cH .u64 x 32) 16))))))) none)) (
    aN ((qT (cH .u64 x 32) 256)) (
     aN (gw (eo .u8 (cH .u64 (cH .u64 x 32) 8)) 256) (
     k (iQ.out (bQ .i64 40 (eo .i64 (EF (⟨#[0,1,2,2,3,3,3,3,4,4,4,4,4,4,4,4,5,5,5,5,5,5,5,5,5,5,5,5,5,5,5,5,6,6,6,6,6,6,6,6,6,6,6,6,6,6,6,6,6,6,6,6,6,6,6,6,6,6,6,6,6,6,6,6,7,7,7,7,7,7,7,7,7,7,7,7,7,7,7,7,7,7,7,7,7,7,7,7,7,7,7,7,7,7,7,7,7,7,7,7,7,7,7,7,7,7,7,7,7,7,7,7,7,7,7,7,7,7,7,7,7,7,7,7,7,7,7,7,8,8,8,8,8,8,8,8,8,8,8,8,8,8,8,8,8,8,8,8,8,8,8,8,8,8,8,8,8,8,8,8,8,8,8,8,8,8,8,8,8,8,8,8,8,8,8,8,8,8,8,8,8,8,8,8,8,8,8,8,8,8,8,8,8,8,8,8,8,8,8,8,8,8,8,8,8,8,8,8,8,8,8,8,8,8,8,8,8,8,8,8,8,8,8,8,8,8,8,8,8,8,8,8,8,8,8,8,8,8,8,8,8,8,8,8,8,8,8,8,8,8,8,8,8,8,8,8]⟩:ByteArray) (eo .u8 (cH .u64 (cH .u64 x 32) 8))))))) none) (
     aN (gw (eo .u8 (cH .u64 x 32)) 256) (
     k (iQ.out (bQ .i64 32 (eo .i64 (EF (⟨#[0,1,2,2,3,3,3,3,4,4,4,4,4,4,4,4,5,5,5,5,5,5,5,5,5,5,5,5,5,5,5,5,6,6,6,6,6,6,6,6,6,6,6,6,6,6,6,6,6,6,6,6,6,6,6,6,6,6,6,6,6,6,6,6,7,7,7,7,7,7,7,7,7,7,7,7,7,7,7,7,7,7,7,7,7,7,7,7,7,7,7,7,7,7,7,7,7,7,7,7,7,7,7,7,7,7,7,7,7,7,7,7,7,7,7,7,7,7,7,7,7,7,7,7,7,7,7,7,8,8,8,8,8,8,8,8,8,8,8,8,8,8,8,8,8,8,8,8,8,8,8,8,8,8,8,8,8,8,8,8,8,8,8,8,8,8,8,8,8,8,8,8,8,8,8,8,8,8,8,8,8,8,8,8,8,8,8,8,8,8,8,8,8,8,8,8,8,8,8,8,8,8,8,8,8,8,8,8,8,8,8,8,8,8,8,8,8,8,8,8,8,8,8,8,8,8,8,8,8,8,8,8,8,8,8,8,8,8,8,8,8,8,8,8,8,8,8,8,8,8,8,8,8,8,8,8]⟩:ByteArray) (eo .u8 (cH .u64 x 32))))))) none))) (
   aN ((qT x 65536)) (
    aN ((qT (cH .u64 x 16) 256)) (
     aN (gw (eo .u8 (cH .u64 (cH .u64 x 16) 8)) 256) (
     k (iQ.out (bQ .i64 24 (eo .i64 (EF (⟨#[0,1,2,2,3,3,3,3,4,4,4,4,4,4,4,4,5,5,5,5,5,5,5,5,5,5,5,5,5,5,5,5,6,6,6,6,6,6,6,6,6,6,6,6,6,6,6,6,6,6,6,6,6,6,6,6,6,6,6,6,6,6,6,6,7,7,7,7,7,7,7,7,7,7,7,7,7,7,7,7,7,7,7,7,7,7,7,7,7,7,7,7,7,7,7,7,7,7,7,7,7,7,7,7,7,7,7,7,7,7,7,7,7,7,7,7,7,7,7,7,7,7,7,7,7,7,7,7,8,8,8,8,8,8,8,8,8,8,8,8,8,8,8,8,8,8,8,8,8,8,8,8,8,8,8,8,8,8,8,8,8,8,8,8,8,8,8,8,8,8,8,8,8,8,8,8,8,8,8,8,8,8,8,8,8,8,8,8,8,8,8,8,8,8,8,8,8,8,8,8,8,8,8,8,8,8,8,8,8,8,8,8,8,8,8,8,8,8,8,8,8,8,8,8,8,8,8,8,8,8,8,8,8,8,8,8,8,8,8,8,8,8,8,8,8,8,8,8,8,8,8,8,8,8,8,8]⟩:ByteArray) (eo .u8 (cH .u64 (cH .u64 x 16) 8))))))) none) (
     aN (gw (eo .u8 (cH .u64 x 16)) 256) (
     k (iQ.out (bQ .i64 16 (eo .i64 (EF (⟨#[0,1,2,2,3,3,3,3,4,4,4,4,4,4,4,4,5,5,5,5,5,5,5,5,5,5,5,5,5,5,5,5,6,6,6,6,6,6,6,6,6,6,6,6,6,6,6,6,6,6,6,6,6,6,6,6,6,6,6,6,6,6,6,6,7,7,7,7,7,7,7,7,7,7,7,7,7,7,7,7,7,7,7,7,7,7,7,7,7,7,7,7,7,7,7,7,7,7,7,7,7,7,7,7,7,7,7,7,7,7,7,7,7,7,7,7,7,7,7,7,7,7,7,7,7,7,7,7,8,8,8,8,8,8,8,8,8,8,8,8,8,8,8,8,8,8,8,8,8,8,8,8,8,8,8,8,8,8,8,8,8,8,8,8,8,8,8,8,8,8,8,8,8,8,8,8,8,8,8,8,8,8,8,8,8,8,8,8,8,8,8,8,8,8,8,8,8,8,8,8,8,8,8,8,8,8,8,8,8,8,8,8,8,8,8,8,8,8,8,8,8,8,8,8,8,8,8,8,8,8,8,8,8,8,8,8,8,8,8,8,8,8,8,8,8,8,8,8,8,8,8,8,8,8,8,8]⟩:ByteArray) (eo .u8 (cH .u64 x 16))))))) none)) (
    aN ((qT x 256)) (
     aN (gw (eo .u8 (cH .u64 x 8)) 256) (
     k (iQ.out (bQ .i64 8 (eo .i64 (EF (⟨#[0,1,2,2,3,3,3,3,4,4,4,4,4,4,4,4,5,5,5,5,5,5,5,5,5,5,5,5,5,5,5,5,6,6,6,6,6,6,6,6,6,6,6,6,6,6,6,6,6,6,6,6,6,6,6,6,6,6,6,6,6,6,6,6,7,7,7,7,7,7,7,7,7,7,7,7,7,7,7,7,7,7,7,7,7,7,7,7,7,7,7,7,7,7,7,7,7,7,7,7,7,7,7,7,7,7,7,7,7,7,7,7,7,7,7,7,7,7,7,7,7,7,7,7,7,7,7,7,8,8,8,8,8,8,8,8,8,8,8,8,8,8,8,8,8,8,8,8,8,8,8,8,8,8,8,8,8,8,8,8,8,8,8,8,8,8,8,8,8,8,8,8,8,8,8,8,8,8,8,8,8,8,8,8,8,8,8,8,8,8,8,8,8,8,8,8,8,8,8,8,8,8,8,8,8,8,8,8,8,8,8,8,8,8,8,8,8,8,8,8,8,8,8,8,8,8,8,8,8,8,8,8,8,8,8,8,8,8,8,8,8,8,8,8,8,8,8,8,8,8,8,8,8,8,8,8]⟩:ByteArray) (eo .u8 (cH .u64 x 8))))))) none) (
     aN (gw (eo .u8 x) 256) (
     k (iQ.out (bQ .i64 0 (eo .i64 (EF (⟨#[0,1,2,2,3,3,3,3,4,4,4,4,4,4,4,4,5,5,5,5,5,5,5,5,5,5,5,5,5,5,5,5,6,6,6,6,6,6,6,6,6,6,6,6,6,6,6,6,6,6,6,6,6,6,6,6,6,6,6,6,6,6,6,6,7,7,7,7,7,7,7,7,7,7,7,7,7,7,7,7,7,7,7,7,7,7,7,7,7,7,7,7,7,7,7,7,7,7,7,7,7,7,7,7,7,7,7,7,7,7,7,7,7,7,7,7,7,7,7,7,7,7,7,7,7,7,7,7,8,8,8,8,8,8,8,8,8,8,8,8,8,8,8,8,8,8,8,8,8,8,8,8,8,8,8,8,8,8,8,8,8,8,8,8,8,8,8,8,8,8,8,8,8,8,8,8,8,8,8,8,8,8,8,8,8,8,8,8,8,8,8,8,8,8,8,8,8,8,8,8,8,8,8,8,8,8,8,8,8,8,8,8,8,8,8,8,8,8,8,8,8,8,8,8,8,8,8,8,8,8,8,8,8,8,8,8,8,8,8,8,8,8,8,8,8,8,8,8,8,8,8,8,8,8,8,8]⟩:ByteArray) (eo .u8 x)))))) none))):=by kernel_rfl
theorem iQ.ok:iQ.Ok:=by
 intro y h
 rw[iQ.eq]
 obtain rfl | rfl | rfl:=h <;> kernel_rfl
theorem iQ.run:iQ.RS:=rE [.d tu] iQ
def iQ.sg:=iQ.gk iQ.ok
abbrev oF.D:=Int
abbrev oF.Y:=Int
def oF.bf:oF.D->Prop:=OY
def oF.F:oF.D->oF.Y:=λy=>if y=4611686018427377339 then 2 else 3
def oF:Fs Tryz.prog oF.bf bV oF.F:=gf 276 Tryz.f276 (λx=>([.d tu x],[])) (λx=>⟨.d ti x,[],[]⟩) [some tu] [iQ.sg]
theorem oF.eq{R:Type}(x)(k:K1 R):oF.A x k=
 aB (iQ.call x) λx1=>
 k (oF.out (dC .i64 64 x1)):=by kernel_rfl
theorem oF.ok:oF.Ok:=by
 intro y h
 rw[oF.eq,iQ.run (d:=y) h]
 obtain rfl | rfl | rfl:=h <;> rfl
theorem oF.run:oF.RS:=rE [.d tu] oF
def oF.sg:=oF.gk oF.ok
abbrev bZ.L0.D:=Int×Int×Int×Int×Int×Int×Int×Int×Int
abbrev bZ.L0.Y:=Int
abbrev bZ.L0.X:=(Int×Int×Int×Int×Int×Int×Int)×(Int)
def bZ.L0.add:bZ.L0.D->bZ.L0.Y->bZ.L0.X:=λ(Be,sv,yn1,yn0,un32,un1,un0,q1,rhat) y=>((Be,sv,yn1,yn0,un32,un1,un0),y)
abbrev bZ.L1.D:=Int×Int×Int×Int×Int×Int×Int×Int×Int
abbrev bZ.L1.Y:=Int
abbrev bZ.L1.X:=(Int×Int×Int×Int×Int)×(Int)
def bZ.L1.add:bZ.L1.D->bZ.L1.Y->bZ.L1.X:=λ(Bf,ot,uj,AB,tg,A5,rW,un21,q0) y=>((Bf,ot,tg,A5,un21),y)
abbrev bZ.D:=Int×Int×Int
abbrev bZ.Y:=Int×Int
def bZ.L0.bf:bZ.L0.D->Prop:=λ(y,sv,yn1,yn0,u,w,un0,q,r)=>∃e:Int,(e=42260\/e=42264\/e=42272)/\y=18446744073709551616 - e/\yn1=4294967295/\yn0=4294967296 - e/\0<=u/\u < 18446744073709551616 - e/\0<=w/\w < 4294967296/\0<=r/\r < 4294967296/\q*4294967295+r=u/\(u*4294967296+w) / (18446744073709551616 - e)<=q
def bZ.L0.F:bZ.L0.D->bZ.L0.Y:=λ(y,sv,yn1,yn0,u,w,un0,q,r)=>(u*4294967296+w) / y
def bZ.L1.bf:bZ.L1.D->Prop:=λ(y,sv,yn1,yn0,w,q1,r,u,q)=>∃e:Int,(e=42260\/e=42264\/e=42272)/\y=18446744073709551616 - e/\yn1=4294967295/\yn0=4294967296 - e/\0<=u/\u < 18446744073709551616 - e/\0<=w/\w < 4294967296/\0<=r/\r < 4294967296/\q*4294967295+r=u/\(u*4294967296+w) / (18446744073709551616 - e)<=q
def bZ.L1.F:bZ.L1.D->bZ.L1.Y:=λ(y,sv,yn1,yn0,w,q1,r,u,q)=>(u*4294967296+w) / y
def bZ.bf:bZ.D->Prop:=λ(hi,lo,y)=>(OY y\/hi=0/\0 < y/\y < 18446744073709551616)/\0<=hi/\hi < y/\0<=lo/\lo < 18446744073709551616
def bZ.F:bZ.D->bZ.Y:=λ(hi,lo,y)=>((hi*18446744073709551616+lo) / y,(hi*18446744073709551616+lo)%y)
def bZ.L0:Ls bZ.L0.bf bZ.L0.add bZ.L0.F:=ra (λ(Be,sv,yn1,yn0,un32,un1,un0,q1,rhat)=>⟨([.undef,.undef,.d tu Be]++bm 5 ([.d tu sv,.d tu yn1,.d tu yn0,.d tu un32,.undef,.d tu un1,.d tu un0,.d tu q1,.d tu rhat]++bm 118 [])),[],(List.replicate 135 [])⟩) (λx=>(.exit 0,⟨([.undef,.undef,.d tu x.1.1]++bm 5 ([.d tu x.1.2.1,.d tu x.1.2.2.1,.d tu x.1.2.2.2.1,.d tu x.1.2.2.2.2.1,.undef,.d tu x.1.2.2.2.2.2.1,.d tu x.1.2.2.2.2.2.2,.d tu x.2]++bm 119 [])),[],(List.replicate 135 [])⟩))
def bZ.L1:Ls bZ.L1.bf bZ.L1.add bZ.L1.F:=ra (λ(Bf,ot,uj,AB,tg,A5,rW,un21,q0)=>⟨([.undef,.undef,.d tu Bf]++bm 5 ([.d tu ot,.d tu uj,.d tu AB,.undef,.undef,.undef,.d tu tg,.d tu A5,.d tu rW,.d tu un21,.d tu q0]++bm 116 [])),[],(List.replicate 135 [])⟩) (λx=>(.exit 2,⟨([.undef,.undef,.d tu x.1.1]++bm 5 ([.d tu x.1.2.1]++bm 5 ([.d tu x.1.2.2.1,.d tu x.1.2.2.2.1,.undef,.d tu x.1.2.2.2.2,.d tu x.2]++bm 116 []))),[],(List.replicate 135 [])⟩))
def bZ:Fs Tryz.prog bZ.bf bV bZ.F:=gf 237 Tryz.f237 (λ(hi,lo,yv)=>([.d tu hi,.d tu lo,.d tu yv],[])) (λx=>⟨.cons (.d tu x.1) (.cons (.d tu x.2) (.nil)),[],[]⟩) [some tu,some tu,some tu] [oF.sg] {loops:=qu [(17,{bA:=[2,8,9,10,11,13,14,15,16]}),(24,{bA:=[2,8,9,10,14,15,16,17,18]})],outs:=qt [(17,{bA:=[2,8,9,10,11,13,14,15]},{bA:=[6,7]}),(24,{bA:=[2,8,14,15,17,18]},{bA:=[6,7]})],jl:=qU [(17,bZ.L0.E),(24,bZ.L1.E)]}
theorem bZ.L0.run:bZ.L0.RS:=rL [.d tu,.d tu,.d tu,.d tu,.d tu,.d tu,.d tu,.d tu,.d tu] bZ.L0
theorem bZ.L0.step{R:Type}(Be sv yn1 yn0 un32 un1 un0 q1 rhat)(kn:K2 R)(kx:K3 R):bZ.R 0 bZ.L0 (Be,sv,yn1,yn0,un32,un1,un0,q1,rhat) kn kx=
  aN ((qT q1 4294967296)) (
   aN ((qT (bQ .u64 rhat yn1) 4294967296)) (
    bZ.L0.go kx ((Be,sv,yn1,yn0,un32,un1,un0),(dC .u64 q1 1))) (
    kn (bZ.L0.st (Be,sv,yn1,yn0,un32,un1,un0,(dC .u64 q1 1),(bQ .u64 rhat yn1))))) (
   aN ((ri (iv .u64 q1 yn0) (bQ .u64 (iv .u64 4294967296 rhat) un1))) (
    aN ((qT (bQ .u64 rhat yn1) 4294967296)) (
     bZ.L0.go kx ((Be,sv,yn1,yn0,un32,un1,un0),(dC .u64 q1 1))) (
     kn (bZ.L0.st (Be,sv,yn1,yn0,un32,un1,un0,(dC .u64 q1 1),(bQ .u64 rhat yn1))))) (
    bZ.L0.go kx ((Be,sv,yn1,yn0,un32,un1,un0),q1))):=by kernel_rfl
theorem bZ.L1.run:bZ.L1.RS:=rL [.d tu,.d tu,.d tu,.d tu,.d tu,.d tu,.d tu,.d tu,.d tu] bZ.L1
theorem bZ.L1.step{R:Type}(Bf ot uj AB tg A5 rW un21 q0)(kn:K2 R)(kx:K3 R):bZ.R 1 bZ.L1 (Bf,ot,uj,AB,tg,A5,rW,un21,q0) kn kx=
  aN ((qT q0 4294967296)) (
   aN ((qT (bQ .u64 rW uj) 4294967296)) (
    bZ.L1.go kx ((Bf,ot,tg,A5,un21),(dC .u64 q0 1))) (
    kn (bZ.L1.st (Bf,ot,uj,AB,tg,A5,(bQ .u64 rW uj),un21,(dC .u64 q0 1))))) (
   aN ((ri (iv .u64 q0 AB) (bQ .u64 (iv .u64 4294967296 rW) tg))) (
    aN ((qT (bQ .u64 rW uj) 4294967296)) (
     bZ.L1.go kx ((Bf,ot,tg,A5,un21),(dC .u64 q0 1))) (
     kn (bZ.L1.st (Bf,ot,uj,AB,tg,A5,(bQ .u64 rW uj),un21,(dC .u64 q0 1))))) (
    bZ.L1.go kx ((Bf,ot,tg,A5,un21),q0))):=by kernel_rfl
theorem bZ.eq{R:Type}(hi lo yv)(k:K1 R):bZ.A (hi,lo,yv) k=
  aN ((xS yv 0)) (
   none) (
   aN ((zt yv hi)) (
    none) (
    aN ((xS hi 0)) (
     aN (lJ yv) (
     aN (lJ yv) (
     k (bZ.out ((qK .u64 lo yv),(o9 lo yv)))) none) none) (
     aB (oF.call yv) λx1=>
     aN (mJ (eo .u64 x1)) (
     aN (mJ (eo .u64 x1)) (
     aN (mJ (dC .u64 64 (eo .u64 x1))) (
     aN (mJ (eo .u64 x1)) (
     aN (lJ (cH .u64 (mX .u64 yv (eo .u64 x1)) 32)) (
     aB (bZ.L0.call ((mX .u64 yv (eo .u64 x1)),(eo .u64 x1),(cH .u64 (mX .u64 yv (eo .u64 x1)) 32),(dF .and .u64 (mX .u64 yv (eo .u64 x1)) 4294967295),(dF .or .u64 (mX .u64 hi (eo .u64 x1)) (cH .u64 lo (dC .u64 64 (eo .u64 x1)))),(cH .u64 (mX .u64 lo (eo .u64 x1)) 32),(dF .and .u64 (mX .u64 lo (eo .u64 x1)) 4294967295),(qK .u64 (dF .or .u64 (mX .u64 hi (eo .u64 x1)) (cH .u64 lo (dC .u64 64 (eo .u64 x1)))) (cH .u64 (mX .u64 yv (eo .u64 x1)) 32)),(dC .u64 (dF .or .u64 (mX .u64 hi (eo .u64 x1)) (cH .u64 lo (dC .u64 64 (eo .u64 x1)))) (iv .u64 (qK .u64 (dF .or .u64 (mX .u64 hi (eo .u64 x1)) (cH .u64 lo (dC .u64 64 (eo .u64 x1)))) (cH .u64 (mX .u64 yv (eo .u64 x1)) 32)) (cH .u64 (mX .u64 yv (eo .u64 x1)) 32))))) λx2=>
     aN (lJ x2.1.2.2.1) (
     aB (bZ.L1.call (x2.1.1,x2.1.2.1,x2.1.2.2.1,x2.1.2.2.2.1,x2.1.2.2.2.2.2.2,x2.2,(dC .u64 (dC .u64 (bQ .u64 (iv .u64 x2.1.2.2.2.2.1 4294967296) x2.1.2.2.2.2.2.1) (iv .u64 x2.2 x2.1.1)) (iv .u64 (qK .u64 (dC .u64 (bQ .u64 (iv .u64 x2.1.2.2.2.2.1 4294967296) x2.1.2.2.2.2.2.1) (iv .u64 x2.2 x2.1.1)) x2.1.2.2.1) x2.1.2.2.1)),(dC .u64 (bQ .u64 (iv .u64 x2.1.2.2.2.2.1 4294967296) x2.1.2.2.2.2.2.1) (iv .u64 x2.2 x2.1.1)),(qK .u64 (dC .u64 (bQ .u64 (iv .u64 x2.1.2.2.2.2.1 4294967296) x2.1.2.2.2.2.2.1) (iv .u64 x2.2 x2.1.1)) x2.1.2.2.1))) λx3=>
     aN (mJ x3.1.2.1) (
     k (bZ.out ((bQ .u64 (iv .u64 x3.1.2.2.2.1 4294967296) x3.2),(cH .u64 (dC .u64 (bQ .u64 (iv .u64 x3.1.2.2.2.2 4294967296) x3.1.2.2.1) (iv .u64 x3.2 x3.1.1)) x3.1.2.1)))) none) none) none) none) none) none) none))):=by kernel_rfl
theorem bZ.L0.ok:(bZ.lP 0 bZ.L0):=by
 refine(bZ.mS 0 bZ.L0) (λ(y,sv,yn1,yn0,u,w,un0,q,r)=>q.toNat) ?_
 rintro⟨y,sv,yn1,yn0,u,w,un0,q,r⟩ ⟨e,he,rfl,rfl,rfl,hu,C4,hw,I3,hr,FT,hq,hQ⟩
 have hu:0<=u:=hu
 have C4:u < 18446744073709551616 - e:=C4
 have hw:0<=w:=hw
 have I3:w < 4294967296:=I3
 have hr:0<=r:=hr
 have FT:r < 4294967296:=FT
 have hq:q*4294967295+r=u:=hq
 obtain⟨k1,k2,k3,k4,k5,k6⟩:=k1 he hu C4 hw I3 hr FT hq hQ
 have q0:0<=q:=Int.le_trans k5 hQ
 have a1:bQ .u64 r 4294967295=r+4294967295:=by rw[o6];omega
 have a2:bQ .u64 (iv .u64 4294967296 r) w=4294967296*r+w:=by rw[o7,o6];omega
 have a3:q < 4294967296->iv .u64 q (4294967296 - e)=q*(4294967296 - e):=by
  intro h;rw[o7];rcases he with rfl | rfl | rfl <;> omega
 have a4:0 < q->dC .u64 q 1=q - 1:=by intro h;rw[yN];omega
 have pos:4294967296<=q\/(q < 4294967296/\4294967296*r+w < q*(4294967296 - e))->0 < q/\(u*4294967296+w) / (18446744073709551616 - e)<=q - 1:=by
  rintro(h | ⟨h,h2⟩)
  ·exact⟨by omega,k1 h⟩
  ·exact⟨by have:=k2 h h2;omega,k2 h h2⟩
 by_cases hc:4294967296<=q\/(q < 4294967296/\4294967296*r+w < q*(4294967296 - e))
 ·obtain⟨p1,p2⟩:=pos hc
  by_cases hb:4294967296<=r+4294967295
  ·right
   have hF:bZ.L0.F (18446744073709551616 - e,sv,4294967295,4294967296 - e,u,w,un0,q,r)=q - 1:=k4 hb p2
   intro R kn kx
   rw[bZ.L0.step,a1,a2,a4 p1,fC hb,hF]
   rcases hc with h | ⟨h,h2⟩
   ·rw[fC h];rfl
   ·rw[ea (by omega),a3 h,dA h2];rfl
  ·left
   refine⟨(18446744073709551616 - e,sv,4294967295,4294967296 - e,u,w,un0,q - 1,r+4294967295),⟨e,he,rfl,rfl,rfl,hu,C4,hw,I3,by omega,by omega,by omega,p2⟩,by simp only[];omega,rfl,λkn kx=> ?_⟩
   rw[bZ.L0.step,a1,a2,a4 p1,ea hb]
   rcases hc with h | ⟨h,h2⟩
   ·rw[fC h];rfl
   ·rw[ea (by omega),a3 h,dA h2];rfl
 ·right
  have h:q < 4294967296:=by omega
  have h2:¬4294967296*r+w < q*(4294967296 - e):=λx=>hc (Or.inr ⟨h,x⟩)
  have hF:bZ.L0.F (18446744073709551616 - e,sv,4294967295,4294967296 - e,u,w,un0,q,r)=q:=k3 h (by omega)
  intro R kn kx
  rw[bZ.L0.step,a2,a3 h,ea (by omega),di h2,hF]
  rfl
theorem bZ.L1.ok:(bZ.lP 1 bZ.L1):=by
 refine(bZ.mS 1 bZ.L1) (λ(y,sv,yn1,yn0,w,q1,r,u,q)=>q.toNat) ?_
 rintro⟨y,sv,yn1,yn0,w,q1,r,u,q⟩ ⟨e,he,rfl,rfl,rfl,hu,C4,hw,I3,hr,FT,hq,hQ⟩
 have hu:0<=u:=hu
 have C4:u < 18446744073709551616 - e:=C4
 have hw:0<=w:=hw
 have I3:w < 4294967296:=I3
 have hr:0<=r:=hr
 have FT:r < 4294967296:=FT
 have hq:q*4294967295+r=u:=hq
 obtain⟨k1,k2,k3,k4,k5,k6⟩:=k1 he hu C4 hw I3 hr FT hq hQ
 have q0:0<=q:=Int.le_trans k5 hQ
 have a1:bQ .u64 r 4294967295=r+4294967295:=by rw[o6];omega
 have a2:bQ .u64 (iv .u64 4294967296 r) w=4294967296*r+w:=by rw[o7,o6];omega
 have a3:q < 4294967296->iv .u64 q (4294967296 - e)=q*(4294967296 - e):=by
  intro h;rw[o7];rcases he with rfl | rfl | rfl <;> omega
 have a4:0 < q->dC .u64 q 1=q - 1:=by intro h;rw[yN];omega
 have pos:4294967296<=q\/(q < 4294967296/\4294967296*r+w < q*(4294967296 - e))->0 < q/\(u*4294967296+w) / (18446744073709551616 - e)<=q - 1:=by
  rintro(h | ⟨h,h2⟩)
  ·exact⟨by omega,k1 h⟩
  ·exact⟨by have:=k2 h h2;omega,k2 h h2⟩
 by_cases hc:4294967296<=q\/(q < 4294967296/\4294967296*r+w < q*(4294967296 - e))
 ·obtain⟨p1,p2⟩:=pos hc
  by_cases hb:4294967296<=r+4294967295
  ·right
   have hF:bZ.L1.F (18446744073709551616 - e,sv,4294967295,4294967296 - e,w,q1,r,u,q)=q - 1:=k4 hb p2
   intro R kn kx
   rw[bZ.L1.step,a1,a2,a4 p1,fC hb,hF]
   rcases hc with h | ⟨h,h2⟩
   ·rw[fC h];rfl
   ·rw[ea (by omega),a3 h,dA h2];rfl
  ·left
   refine⟨(18446744073709551616 - e,sv,4294967295,4294967296 - e,w,q1,r+4294967295,u,q - 1),⟨e,he,rfl,rfl,rfl,hu,C4,hw,I3,by omega,by omega,by omega,p2⟩,by simp only[];omega,rfl,λkn kx=> ?_⟩
   rw[bZ.L1.step,a1,a2,a4 p1,ea hb]
   rcases hc with h | ⟨h,h2⟩
   ·rw[fC h];rfl
   ·rw[ea (by omega),a3 h,dA h2];rfl
 ·right
  have h:q < 4294967296:=by omega
  have h2:¬4294967296*r+w < q*(4294967296 - e):=λx=>hc (Or.inr ⟨h,x⟩)
  have hF:bZ.L1.F (18446744073709551616 - e,sv,4294967295,4294967296 - e,w,q1,r,u,q)=q:=k3 h (by omega)
  intro R kn kx
  rw[bZ.L1.step,a2,a3 h,ea (by omega),di h2,hF]
  rfl
theorem Nn{y hi lo:Int}(hy:OY y)(h0:0<=hi)(h1:hi < y)(h2:0<=lo)(h3:lo < 18446744073709551616):∃(s:Nat) (e m:Int),oF.F y=s/\(s=2\/s=3)/\m=2^s/\(e=42260\/e=42264\/e=42272)/\y*m=18446744073709551616 - e/\
  mX .u64 y (s:Int)=18446744073709551616 - e/\
  dF .or .u64 (mX .u64 hi (s:Int)) (cH .u64 lo (dC .u64 64 (s:Int)))=(hi*18446744073709551616+lo)*m / 18446744073709551616/\
  mX .u64 lo (s:Int)=(hi*18446744073709551616+lo)*m%18446744073709551616/\
  (hi*18446744073709551616+lo)*m / 18446744073709551616 < 18446744073709551616 - e/\
  (hi*18446744073709551616+lo)*m / (18446744073709551616 - e)=(hi*18446744073709551616+lo) / y/\
  (hi*18446744073709551616+lo)*m%(18446744073709551616 - e) / m=(hi*18446744073709551616+lo)%y:=by
 have e1:dC .u64 64 ((2:Nat):Int)=((62:Nat):Int):=rfl
 have e2:dC .u64 64 ((3:Nat):Int)=((61:Nat):Int):=rfl
 have p2:(2:Int)^2=4:=rfl
 have p3:(2:Int)^3=8:=rfl
 have p61:(2:Int)^61=2305843009213693952:=rfl
 have p62:(2:Int)^62=4611686018427387904:=rfl
 obtain rfl | rfl | rfl:=hy
 ·refine⟨2,42260,4,rfl,Or.inl rfl,rfl,Or.inl rfl,rfl,by rw[nL 2 (by rfl) (by omega),p2];omega,?_,?_,by omega,by omega,by omega⟩
  ·rw[e1,nL 2 (by rfl) (by omega),pj 62 (by rfl) (by omega),p2,p62,vZ 2 4 rfl (by omega) (by omega) (by omega) (by omega) (by omega) (by omega)];omega
  ·rw[nL 2 (by rfl) (by omega),p2];omega
 ·refine⟨3,42264,8,rfl,Or.inr rfl,rfl,Or.inr (Or.inl rfl),rfl,by rw[nL 3 (by rfl) (by omega),p3];omega,?_,?_,by omega,by omega,by omega⟩
  ·rw[e2,nL 3 (by rfl) (by omega),pj 61 (by rfl) (by omega),p3,p61,vZ 3 8 rfl (by omega) (by omega) (by omega) (by omega) (by omega) (by omega)];omega
  ·rw[nL 3 (by rfl) (by omega),p3];omega
 ·refine⟨3,42272,8,rfl,Or.inr rfl,rfl,Or.inr (Or.inr rfl),rfl,by rw[nL 3 (by rfl) (by omega),p3];omega,?_,?_,by omega,by omega,by omega⟩
  ·rw[e2,nL 3 (by rfl) (by omega),pj 61 (by rfl) (by omega),p3,p61,vZ 3 8 rfl (by omega) (by omega) (by omega) (by omega) (by omega) (by omega)];omega
  ·rw[nL 3 (by rfl) (by omega),p3];omega
theorem Su(a b c:Int):(((a%18446744073709551616+b)%18446744073709551616) - c%18446744073709551616)%18446744073709551616=(a+b - c)%18446744073709551616:=by omega
theorem bZ.ok:bZ.Ok:=by
 rintro⟨hi,lo,y⟩ ⟨hy,h0,h1,h2,h3⟩
 have h0:0<=hi:=h0
 have h1:hi < y:=h1
 have h2:0<=lo:=h2
 have h3:lo < 18446744073709551616:=h3
 have yb:0 < y/\y < 18446744073709551616:=by
  rcases hy with hy | hy
  ·obtain rfl | rfl | rfl:=hy <;> omega
  ·exact hy.2
 rw[bZ.eq,gB (by omega),fO (by omega)]
 simp only[ai]
 have z:lJ y=true:=by simp[lJ];omega
 by_cases hz:hi=0
 ·subst hz
  rw[gq rfl,z,G7 h2 (by omega) h3,tx h2]
  simp only[ag,bZ.F,bV,Int.zero_mul,mo]
 ·have hy:OY y:=hy.resolve_right λe=>hz e.1
  obtain⟨s,e,m,hs,zp,hm,he,UE,a1,a2,a3,a4,a5,a6⟩:=Nn hy h0 h1 h2 h3
  have c1:eo .u64 (s:Int)=(s:Int):=by rw[w9];omega
  have c2:mJ (s:Int)=true:=qw (by omega)
  have c3:mJ (dC .u64 64 (s:Int))=true:=by rcases zp with rfl | rfl <;> rfl
  rw[gB hz,oF.run (d:=y) hy]
  simp only[ai,ae,bV,hs,c1,c2,c3,ag,a1,a2,a3]
  have hN:0<=(hi*18446744073709551616+lo)*m:=mn (by omega) (by rcases zp with rfl | rfl <;> omega)
  revert a4 a5 a6
  generalize (hi*18446744073709551616+lo)*m=N at hN
  intro a4 a5 a6
  have u0:0<=N / 18446744073709551616:=by omega
  have t0:0<=N%18446744073709551616:=by omega
  have t1:N%18446744073709551616 < 18446744073709551616:=by omega
  have hd:N=(N / 18446744073709551616*4294967296+N%18446744073709551616 / 4294967296)*4294967296+N%18446744073709551616%4294967296:=by omega
  have w10:0<=N%18446744073709551616 / 4294967296:=by omega
  have w11:N%18446744073709551616 / 4294967296 < 4294967296:=by omega
  have w00:0<=N%18446744073709551616%4294967296:=by omega
  have w01:N%18446744073709551616%4294967296 < 4294967296:=by omega
  have p32:(2:Int)^32=4294967296:=rfl
  have b1:cH .u64 (18446744073709551616 - e) 32=4294967295:=by rw[pj 32 (by rfl) (by omega),p32];rcases he with rfl | rfl | rfl <;> rfl
  have b2:dF .and .u64 (18446744073709551616 - e) 4294967295=4294967296 - e:=by rw[Df (by omega) (by omega)];omega
  have b3:cH .u64 (N%18446744073709551616) 32=N%18446744073709551616 / 4294967296:=by rw[pj 32 (by rfl) (by omega),p32]
  have b4:dF .and .u64 (N%18446744073709551616) 4294967295=N%18446744073709551616%4294967296:=Df t0 t1
  have z2:lJ 4294967295=true:=rfl
  simp only[b1,b2,b3,b4,z2,ag]
  clear a1 a2 a3 b1 b2 b3 b4
  have kdd:=kd (18446744073709551616 - e) (N / 18446744073709551616) (N%18446744073709551616 / 4294967296) (N%18446744073709551616%4294967296) (by omega) w00 w01
  rw[<-hd,a5]at kdd
  revert a4 kdd
  generalize N / 18446744073709551616=u at u0
  generalize N%18446744073709551616 / 4294967296=w1 at w10 w11
  generalize N%18446744073709551616%4294967296=w0 at w00 w01
  intro a4 kdd
  have g:∀u w:Int,0<=u->u < 18446744073709551616 - e->0<=w->w < 4294967296->
    qK .u64 u 4294967295=u / 4294967295/\dC .u64 u (iv .u64 (u / 4294967295) 4294967295)=u - u / 4294967295*4294967295/\
    dC .u64 (bQ .u64 (iv .u64 u 4294967296) w) (iv .u64 ((u*4294967296+w) / (18446744073709551616 - e)) (18446744073709551616 - e))=(u*4294967296+w)%(18446744073709551616 - e):=by
   intro u w k1 k2 k3 k4
   obtain⟨q1,q2,q3,q4,q5,q6,q7,q8⟩:=k0 he k1 k2 k3 k4
   refine⟨G7 k1 (by omega) (by omega),by rw[yN,o7];omega,?_⟩
   rw[yN,o6,o7,o7,Su,q4]
   exact Int.emod_eq_of_lt q5 (by omega)
  obtain⟨f1,f2,f3⟩:=g u w1 u0 a4 w10 w11
  obtain⟨q1,q2,q3,q4,q5,q6,q7,q8⟩:=k0 he u0 a4 w10 w11
  have p1:bZ.L0.bf (18446744073709551616 - e,(s:Int),4294967295,4294967296 - e,u,w1,w0,u / 4294967295,u - u / 4294967295*4294967295):=⟨e,he,rfl,rfl,rfl,u0,a4,w10,w11,q2,q3,by omega,q1⟩
  rw[f1,f2,bZ.L0.run p1]
  simp only[ae,bZ.L0.add,bZ.L0.F,z2,ag,f3]
  revert f3 q1 kdd
  generalize (u*4294967296+w1)%(18446744073709551616 - e)=v at q4 q5 q6
  generalize (u*4294967296+w1) / (18446744073709551616 - e)=Q at q4 q7 q8
  intro kdd f3 q1
  obtain⟨g1,g2,g3⟩:=g v w0 q5 q6 w00 w01
  obtain⟨r1,r2,r3,r4,r5,r6,r7,r8⟩:=k0 he q5 q6 w00 w01
  have p2:bZ.L1.bf (18446744073709551616 - e,(s:Int),4294967295,4294967296 - e,w0,Q,v - v / 4294967295*4294967295,v,v / 4294967295):=⟨e,he,rfl,rfl,rfl,q5,q6,w00,w01,r2,r3,by omega,r1⟩
  rw[g1,g2,bZ.L1.run p2]
  simp only[ae,bZ.L1.add,bZ.L1.F,c2,ag,g3]
  rw[<-kdd.2,pj s (by rfl) (by omega),<-hm,a6,o7,o6]
  have e9:(Q*4294967296%18446744073709551616+(v*4294967296+w0) / (18446744073709551616 - e))%18446744073709551616=(hi*18446744073709551616+lo) / y:=by rw[kdd.1];omega
  rw[e9]
  rfl
theorem bZ.run:bZ.RS:=rE [.d tu,.d tu,.d tu] bZ
def bZ.sg:=bZ.gk bZ.ok 2 ⟨.iY bZ.L0.ok,⟨.iY bZ.L1.ok,trivial⟩⟩
abbrev gF.D:=Int×Int×Int
abbrev gF.Y:=Int
def gF.bf:gF.D->Prop:=λ(hi,lo,y)=>OY y/\0<=hi/\hi < 18446744073709551616/\0<=lo/\lo < 18446744073709551616
def gF.F:gF.D->gF.Y:=λ(hi,lo,y)=>(hi*18446744073709551616+lo)%y
def gF:Fs Tryz.prog gF.bf bV gF.F:=gf 199 Tryz.f199 (λ(hi,lo,yv)=>([.d tu hi,.d tu lo,.d tu yv],[])) (λx=>⟨.d tu x,[],[]⟩) [some tu,some tu,some tu] [bZ.sg]
theorem gF.eq{R:Type}(hi lo yv)(k:K1 R):gF.A (hi,lo,yv) k=
 aN (lJ yv) (
 aB (bZ.call ((o9 hi yv),lo,yv)) λx1=>
 k (gF.out x1.2)) none:=by kernel_rfl
theorem gF.ok:gF.Ok:=by
 rintro⟨hi,lo,y⟩ ⟨hy,h0,h1,h2,h3⟩
 have h0:0<=hi:=h0
 have yb:0 < y:=by obtain rfl | rfl | rfl:=hy <;> omega
 have z:lJ y=true:=by simp[lJ];omega
 have p:bZ.bf (hi%y,lo,y):=⟨.inl hy,jb _ (by omega),iJ _ yb,h2,h3⟩
 rw[gF.eq,z,tx h0,bZ.run p]
 have e:(hi%y*18446744073709551616+lo)%y=(hi*18446744073709551616+lo)%y:=by
  rw[Int.add_emod,Int.mul_emod,Int.emod_emod_of_dvd _ (Int.dvd_refl y),<-Int.mul_emod,<-Int.add_emod]
 simp only[ag,ae,bV,bZ.F,bV,gF.F,e]
theorem gF.run:gF.RS:=rE [.d tu,.d tu,.d tu] gF
def gF.sg:=gF.gk gF.ok
abbrev gQ.D:=Int×Int
abbrev gQ.Y:=Int×Int
def gQ.bf:gQ.D->Prop:=λ(x,y)=>(0<=x/\x < 18446744073709551616)/\0<=y/\y < 18446744073709551616
def gQ.F:gQ.D->gQ.Y:=λ(x,y)=>(x*y / 18446744073709551616,x*y%18446744073709551616)
def gQ:Fs Tryz.prog gQ.bf bV gQ.F:=gf 236 Tryz.f236 (λ(x,yv)=>([.d tu x,.d tu yv],[])) (λx=>⟨.cons (.d tu x.1) (.cons (.d tu x.2) (.nil)),[],[]⟩) [some tu,some tu]
theorem gQ.eq{R:Type}(x yv)(k:K1 R):gQ.A (x,yv) k=
 k (gQ.out ((bQ .u64 (bQ .u64 (iv .u64 (cH .u64 x 32) (cH .u64 yv 32)) (cH .u64 (bQ .u64 (iv .u64 (cH .u64 x 32) (dF .and .u64 yv 4294967295)) (cH .u64 (iv .u64 (dF .and .u64 x 4294967295) (dF .and .u64 yv 4294967295)) 32)) 32)) (cH .u64 (bQ .u64 (dF .and .u64 (bQ .u64 (iv .u64 (cH .u64 x 32) (dF .and .u64 yv 4294967295)) (cH .u64 (iv .u64 (dF .and .u64 x 4294967295) (dF .and .u64 yv 4294967295)) 32)) 4294967295) (iv .u64 (dF .and .u64 x 4294967295) (cH .u64 yv 32))) 32)),(iv .u64 x yv))):=by kernel_rfl
theorem xk{a b m n:Int}(h0:0<=a)(h1:a<=m)(h2:0<=b)(h3:b<=n):0<=a*b/\a*b<=m*n:=
 ⟨mn h0 h2,Int.mul_le_mul h1 h3 h2 (Int.le_trans h0 h1)⟩
theorem gQ.ok:gQ.Ok:=by
 rintro⟨x,y⟩ ⟨⟨h0,h1⟩,h2,h3⟩
 have h0:0<=x:=h0
 have h1:x < 18446744073709551616:=h1
 have h2:0<=y:=h2
 have h3:y < 18446744073709551616:=h3
 rw[gQ.eq]
 have p32:(2:Int)^32=4294967296:=rfl
 have Ui:∀x:Int,cH .u64 x 32=x / 4294967296:=λx=>by rw[pj 32 (by rfl) (by omega),p32]
 simp only[Ui,Df h0 h1,Df h2 h3]
 obtain⟨a,b,rfl,a0,a1,b0,b1⟩:∃a b:Int,x=a*4294967296+b/\0<=a/\a<=4294967295/\0<=b/\b<=4294967295:=⟨x / 4294967296,x%4294967296,by omega,by omega,by omega,by omega,by omega⟩
 obtain⟨c,d,rfl,c0,c1,d0,d1⟩:∃a b:Int,y=a*4294967296+b/\0<=a/\a<=4294967295/\0<=b/\b<=4294967295:=⟨y / 4294967296,y%4294967296,by omega,by omega,by omega,by omega,by omega⟩
 have e1:(a*4294967296+b) / 4294967296=a:=by omega
 have e2:(a*4294967296+b)%4294967296=b:=by omega
 have e3:(c*4294967296+d) / 4294967296=c:=by omega
 have e4:(c*4294967296+d)%4294967296=d:=by omega
 have e5:(a*4294967296+b)*(c*4294967296+d)=a*c*18446744073709551616+(a*d+b*c)*4294967296+b*d:=by
  have q:(4294967296:Int)*4294967296=18446744073709551616:=rfl
  rw[Int.add_mul,Int.mul_add,Int.mul_add]
  have q1:a*4294967296*(c*4294967296)=a*c*18446744073709551616:=by rw[<-q];ac_rfl
  have q2:a*4294967296*d=a*d*4294967296:=by ac_rfl
  have q3:b*(c*4294967296)=b*c*4294967296:=by ac_rfl
  rw[q1,q2,q3];omega
 obtain⟨m1,m2⟩:=xk a0 a1 c0 c1
 obtain⟨m3,m4⟩:=xk a0 a1 d0 d1
 obtain⟨m5,m6⟩:=xk b0 b1 c0 c1
 obtain⟨m7,m8⟩:=xk b0 b1 d0 d1
 have n:(4294967295:Int)*4294967295=18446744065119617025:=rfl
 rw[n]at m2 m4 m6 m8
 simp only[e1,e2,e3,e4,bV,gQ.F,e5,o7,o6]
 revert m1 m2 m3 m4 m5 m6 m7 m8
 generalize a*c=ac
 generalize a*d=ad
 generalize b*c=bc
 generalize b*d=bd
 intro m1 m2 m3 m4 m5 m6 m7 m8
 have q1:bd%18446744073709551616=bd:=by omega
 have q2:ad%18446744073709551616=ad:=by omega
 have q3:bc%18446744073709551616=bc:=by omega
 have q4:ac%18446744073709551616=ac:=by omega
 rw[q1,q2,q3,q4]
 have q5:(ad+bd / 4294967296)%18446744073709551616=ad+bd / 4294967296:=by omega
 have q6:dF .and .u64 (ad+bd / 4294967296) 4294967295=(ad+bd / 4294967296)%4294967296:=Df (by omega) (by omega)
 rw[q5,q6]
 refine congrArg some (congrArg gQ.out (Prod.ext ?_ ?_))
 ·show _=(_:Int)
  simp only[]
  omega
 ·rfl
theorem gQ.run:gQ.RS:=rE [.d tu,.d tu] gQ
def gQ.sg:=gQ.gk gQ.ok
def Pn(x:Int):Prop:=0<=x/\x < 4611686018427377339
def lH(x:Int):Prop:=0<=x/\x < 18446744073709551616
theorem Pn.u{x:Int}(h:Pn x):lH x:=⟨h.1,by have:=h.2;omega⟩
def vU(a b:Int):Int:=a*b%4611686018427377339
theorem vV(a b:Int):Pn (vU a b):=⟨jb _ (by omega),iJ _ (by omega)⟩
def I6:Nat->Int->Nat->Int->Int
 | 0,_,_,out=>out
 |f+1,a,n,out=>if n=0 then out else I6 f (vU a a) (n / 2) (if n%2=1 then vU out a else out)
def pw(a:Int)(n:Nat):Int:=I6 64 a n 1
theorem sV(f:Nat)(a out:Int):I6 f a 0 out=out:=by cases f <;> rfl
theorem Ey:∀(f g:Nat) (a:Int) (n:Nat) (out:Int),n < 2^f->n < 2^g->I6 f a n out=I6 g a n out
 | 0,g,a,n,out,h,_=>by
  obtain rfl:n=0:=by omega
  rw[sV,sV]
 |f+1,0,a,n,out,_,h=>by
  obtain rfl:n=0:=by omega
  rw[sV,sV]
 |f+1,g+1,a,n,out,h,h'=>by
  have e:(2:Nat)^(f+1)=2^f*2:=Nat.pow_succ 2 f
  have e':(2:Nat)^(g+1)=2^g*2:=Nat.pow_succ 2 g
  unfold I6
  split
  ·rfl
  ·exact Ey f g _ _ _ (by omega) (by omega)
theorem Ko:∀(f:Nat) (a:Int) (n:Nat) (out:Int),Pn out->Pn (I6 f a n out)
 | 0,_,_,_,h=>h
 |f+1,a,n,out,h=>by
  unfold I6
  split
  ·exact h
  ·refine Ko f _ _ _ ?_
   split
   ·exact vV _ _
   ·exact h
theorem Qu(a:Int)(n:Nat):Pn (pw a n):=Ko _ _ _ _ ⟨by omega,by omega⟩
abbrev fS.D:=Int×Int
abbrev fS.Y:=Int
def fS.bf:fS.D->Prop:=λ(a,b)=>lH a/\lH b
def fS.F:fS.D->fS.Y:=λ(a,b)=>vU a b
def fS:Fs Tryz.prog fS.bf bV fS.F:=gf 193 Tryz.f193 (λ(a,b)=>([.d tu a,.d tu b],[])) (λx=>⟨.d tu x,[],[]⟩) [some tu,some tu] [gQ.sg,gF.sg]
theorem fS.eq{R:Type}(a b)(k:K1 R):fS.A (a,b) k=
 aB (gQ.call (a,b)) λx1=>
 aB (gF.call (x1.1,x1.2,4611686018427377339)) λx2=>
 k (fS.out x2):=by kernel_rfl
theorem Ax(n:Int):n / 18446744073709551616*18446744073709551616+n%18446744073709551616=n:=by omega
theorem fS.ok:fS.Ok:=by
 rintro⟨a,b⟩ ⟨ha,hb⟩
 have ha:lH a:=ha
 have hb:lH b:=hb
 obtain⟨m1,m2⟩:=xk ha.1 (show a<=18446744073709551615 by have:=ha.2;omega) hb.1 (show b<=18446744073709551615 by have:=hb.2;omega)
 have n:(18446744073709551615:Int)*18446744073709551615=340282366920938463426481119284349108225:=rfl
 rw[n]at m2
 have p:gF.bf (a*b / 18446744073709551616,a*b%18446744073709551616,4611686018427377339):=⟨Or.inl rfl,by omega,by omega,by omega,by omega⟩
 rw[fS.eq,gQ.run (d:=(a,b)) ⟨ha,hb⟩]
 simp only[ae,bV,gQ.F]
 rw[gF.run p]
 simp only[ae,bV,gF.F,Ax]
 rfl
theorem fS.run:fS.RS:=rE [.d tu,.d tu] fS
def fS.sg:=fS.gk fS.ok
abbrev de.L0.D:=Int×Int×Int
abbrev de.L0.Y:=Int
abbrev de.D:=Int×Int
abbrev de.Y:=Int
def de.L0.bf:de.L0.D->Prop:=λ(a,n,o)=>lH a/\lH n/\Pn o
def de.L0.F:de.L0.D->de.L0.Y:=λ(a,n,o)=>I6 64 a n.toNat o
def de.bf:de.D->Prop:=λ(a,n)=>lH a/\lH n
def de.F:de.D->de.Y:=λ(a,n)=>pw a n.toNat
def de.L0:Ls de.L0.bf bV de.L0.F:=ra (λ(pq,Ga,outv)=>⟨([.d tu pq,.d tu Ga,.undef,.undef,.undef,.d tu outv]++bm 14 []),[],(List.replicate 20 [])⟩) (λx=>(.exit 0,⟨(bm 5 ([.d tu x]++bm 14 [])),[],(List.replicate 20 [])⟩))
def de:Fs Tryz.prog de.bf bV de.F:=gf 130 Tryz.f130 (λ(a,n)=>([.d tu a,.d tu n],[])) (λx=>⟨.d tu x,[],[]⟩) [some tu,some tu] [fS.sg] {loops:=qu [(2,{bA:=[0,1,5]})],outs:=qt [(2,{bA:=[5]},{bA:=[4]})],jl:=qU [(2,de.L0.E)]}
theorem de.L0.run:de.L0.RS:=rL [.d tu,.d tu,.d tu] de.L0
theorem de.L0.step{R:Type}(pq Ga outv)(kn:K2 R)(kx:K3 R):de.R 0 de.L0 (pq,Ga,outv) kn kx=
  aN ((ri Ga 0)) (
   aN ((xS (dF .and .u64 Ga 1) 1)) (
    aB (fS.call (outv,pq)) λx1=>
    aB (fS.call (pq,pq)) λx2=>
    kn (de.L0.st (x2,(cH .u64 Ga 1),x1))) (
    aB (fS.call (pq,pq)) λx3=>
    kn (de.L0.st (x3,(cH .u64 Ga 1),outv)))) (
   de.L0.go kx outv):=by kernel_rfl
theorem de.eq{R:Type}(a n)(k:K1 R):de.A (a,n) k=
 aB (de.L0.call (a,n,1)) λx4=>
 k (de.out x4):=by kernel_rfl
theorem SJ{n:Int}(h:lH n):cH .u64 n 1=n / 2:=pj 1 (by rfl) (by omega)
theorem de.L0.ok:(de.lP 0 de.L0):=by
 refine(de.mS 0 de.L0) (λ(a,n,o)=>n.toNat) ?_
 rintro⟨a,n,o⟩ ⟨ha,hn,ho⟩
 have ha:lH a:=ha
 have hn:lH n:=hn
 have ho:Pn o:=ho
 have n0:=hn.1
 have n1:=hn.2
 by_cases h:0 < n
 ·left
  have e:de.L0.F (a,n,o)=de.L0.F (vU a a,n / 2,if n%2=1 then vU o a else o):=by
   show I6 64 a n.toNat o=I6 64 (vU a a) (n / 2).toNat _
   rw[Ey 64 65 a n.toNat o (by omega) (by omega)]
   have t1:(n / 2).toNat=n.toNat / 2:=by omega
   have t2:(n%2=1)=(n.toNat%2=1):=by apply propext;omega
   rw[t1]
   simp only[t2]
   show(if n.toNat=0 then o else _)=_
   rw[if_neg (by omega)]
  refine⟨(vU a a,n / 2,if n%2=1 then vU o a else o),⟨(vV a a).u,⟨by omega,by omega⟩,?_⟩,by show(n / 2).toNat < n.toNat;omega,?_,λkn kx=> ?_⟩
  ·show Pn (if n%2=1 then vU o a else o)
   split
   ·exact vV _ _
   ·exact ho
  ·exact congrArg _ e.symm
  ·rw[de.L0.step,dA h,SJ hn,Rc n0 n1,fS.run (d:=(o,a)) ⟨ho.u,ha⟩,fS.run (d:=(a,a)) ⟨ha,ha⟩]
   by_cases h1:n%2=1
   ·rw[gq h1,if_pos h1];rfl
   ·rw[gB h1,if_neg h1];rfl
 ·right
  intro R kn kx
  obtain rfl:n=0:=by omega
  rw[de.L0.step,di (by omega)]
  simp only[ai,bV,de.L0.F]
  rw[show I6 64 a (Int.toNat 0) o=o from sV _ _ _]
theorem de.ok:de.Ok:=by
 rintro⟨a,n⟩ ⟨ha,hn⟩
 rw[de.eq,de.L0.run (d:=(a,n,1)) ⟨ha,hn,by omega,by omega⟩]
 rfl
theorem de.run:de.RS:=rE [.d tu,.d tu] de
def de.sg:=de.gk de.ok 1 ⟨.iY de.L0.ok,trivial⟩
def xe(p:Int):Bool:=decide (0 < p/\p < 4611686018427377339) && decide (pw p 2305843009213688669=1)
def tk(p:Int):Int:=if xe p then p else 1
theorem MZ(p:Int):Pn (tk p):=by
 unfold tk
 split
 ·rename_i h
  simp only[xe,ah,decide_eq_true_eq]at h
  exact⟨by omega,by omega⟩
 ·exact⟨by omega,by omega⟩
def Gq(p k:Int):Int:=pw (tk p) (k%2305843009213688669).toNat
def lu(k:Int):Int:=Gq 4 k
def Sv(p:Int):Int:=pw (tk p) 2305843009213688668
def CV(l:List Int):Int:=l.foldl (λo p=>vU o (tk p)) 1
theorem Ma(l:List Int)(o:Int)(h:Pn o):Pn (l.foldl (λo p=>vU o (tk p)) o):=by
 induction l generalizing o with
 |nil=>exact h
 |cons p l ih=>exact ih _ (vV _ _)
theorem Mb(l:List Int):Pn (CV l):=Ma l 1 ⟨by omega,by omega⟩
abbrev fH.D:=Int
abbrev fH.Y:=Bool
def fH.bf:fH.D->Prop:=λp=>lH p
def fH.F:fH.D->fH.Y:=λp=>xe p
def fH:Fs Tryz.prog fH.bf bV fH.F:=gf 151 Tryz.f151 (λp=>([.d tu p],[])) (λx=>⟨.d .bool x,[],[]⟩) [some tu] [de.sg]
theorem fH.eq{R:Type}(p)(k:K1 R):fH.A p k=
  aN ((ri p 0)) (
   aN ((iX p 4611686018427377339)) (
    aB (de.call (p,2305843009213688669)) λx1=>
    k (fH.out (xS x1 1))) (
    k (fH.out false))) (
   k (fH.out false)):=by kernel_rfl
theorem fH.ok:fH.Ok:=by
 intro p hp
 have hp:lH p:=hp
 rw[fH.eq,de.run (d:=(p,2305843009213688669)) ⟨hp,by constructor <;> decide⟩]
 simp only[ae,bV,de.F,bV,fH.F,xe]
 by_cases h:0 < p
 ·rw[dA h,ag]
  by_cases h2:p < 4611686018427377339
  ·rw[aU h2,ag,aX ⟨h,h2⟩,bW]
   rfl
  ·rw[aW h2,ai,cC (λx=>h2 x.2),eM]
 ·rw[di h,ai,cC (λx=>h x.1),eM]
theorem fH.run:fH.RS:=rE [.d tu] fH
def fH.sg:=fH.gk fH.ok
abbrev fI.D:=Int
abbrev fI.Y:=Int
def fI.bf:fI.D->Prop:=λp=>lH p
def fI.F:fI.D->fI.Y:=λp=>tk p
def fI:Fs Tryz.prog fI.bf bV fI.F:=gf 131 Tryz.f131 (λp=>([.d tu p],[])) (λx=>⟨.d tu x,[],[]⟩) [some tu] [fH.sg]
theorem fI.eq{R:Type}(p)(k:K1 R):fI.A p k=
  aB (fH.call p) λx1=>
  aN (x1) (
   k (fI.out p)) (
   k (fI.out 1)):=by kernel_rfl
theorem fI.ok:fI.Ok:=by
 intro p hp
 rw[fI.eq,fH.run (d:=p) hp]
 simp only[ae,bV,fH.F,bV,fI.F,tk]
 cases xe p <;> rfl
theorem fI.run:fI.RS:=rE [.d tu] fI
def fI.sg:=fI.gk fI.ok
abbrev ix.D:=Int×Int
abbrev ix.Y:=Int
def ix.bf:ix.D->Prop:=λ(p,k)=>lH p/\lH k
def ix.F:ix.D->ix.Y:=λ(p,k)=>Gq p k
def ix:Fs Tryz.prog ix.bf bV ix.F:=gf 63 Tryz.f63 (λ(p,kv)=>([.d tu p,.d tu kv],[])) (λx=>⟨.d tu x,[],[]⟩) [some tu,some tu] [fI.sg,de.sg]
theorem ix.eq{R:Type}(p kv)(k:K1 R):ix.A (p,kv) k=
 aB (fI.call p) λx1=>
 aB (de.call (x1,(o9 kv 2305843009213688669))) λx2=>
 k (ix.out x2):=by kernel_rfl
theorem ix.ok:ix.Ok:=by
 rintro⟨p,k⟩ ⟨hp,hk⟩
 have hk:lH k:=hk
 have e:=tx (y:=2305843009213688669) hk.1
 have b:lH (k%2305843009213688669):=⟨by omega,by omega⟩
 rw[ix.eq,fI.run (d:=p) hp,e]
 simp only[ae,bV,fI.F]
 rw[de.run (d:=(tk p,k%2305843009213688669)) ⟨(MZ p).u,b⟩]
 rfl
theorem ix.run:ix.RS:=rE [.d tu,.d tu] ix
def ix.sg:=ix.gk ix.ok
abbrev iD.D:=Int
abbrev iD.Y:=Int
def iD.bf:iD.D->Prop:=λk=>lH k
def iD.F:iD.D->iD.Y:=λk=>lu k
def iD:Fs Tryz.prog iD.bf bV iD.F:=gf 14 Tryz.f14 (λkv=>([.d tu kv],[])) (λx=>⟨.d tu x,[],[]⟩) [some tu] [ix.sg]
theorem iD.eq{R:Type}(kv)(k:K1 R):iD.A kv k=
 aB (ix.call (4,kv)) λx1=>
 k (iD.out x1):=by kernel_rfl
theorem iD.ok:iD.Ok:=by
 intro k hk
 rw[iD.eq,ix.run (d:=(4,k)) ⟨⟨by omega,by omega⟩,hk⟩]
 rfl
theorem iD.run:iD.RS:=rE [.d tu] iD
def iD.sg:=iD.gk iD.ok
abbrev gu.L0.D:=Int×Bs×Int×Int
abbrev gu.L0.Y:=Int
abbrev gu.D:=Bs
abbrev gu.Y:=Int
def gu.L0.bf:gu.L0.D->Prop:=λ(o,l,n,i)=>Pn o/\(∀x∈l,lH x)/\l.length<=1000000000/\n=l.length/\∃k:Nat,k<=l.length/\i=k
def gu.L0.F:gu.L0.D->gu.L0.Y:=λ(o,l,n,i)=>(l.drop i.toNat).foldl (λo p=>vU o (tk p)) o
def gu.bf:gu.D->Prop:=λl=>(∀x∈l,lH x)/\l.length<=1000000000
def gu.F:gu.D->gu.Y:=λl=>CV l
def gu.L0:Ls gu.L0.bf bV gu.L0.F:=ra (λ(outv,t6,t7,t8)=>⟨([.undef,.undef,.undef,.d tu outv,.undef,.undef,.d tU t6,.d ti t7,.d ti t8]++bm 9 []),[],(List.replicate 18 [])⟩) (λx=>(.exit 0,⟨([.undef,.undef,.undef,.d tu x]++bm 14 []),[],(List.replicate 18 [])⟩))
def gu:Fs Tryz.prog gu.bf bV gu.F:=gf 242 Tryz.f242 (λl=>([.d tU l],[])) (λx=>⟨.d tu x,[],[]⟩) [some tU] [fI.sg,fS.sg] {loops:=qu [(3,{bA:=[3,6,7,8]})],outs:=qt [(3,{bA:=[3]},{bA:=[2]})],jl:=qU [(3,gu.L0.E)]}
theorem gu.L0.run:gu.L0.RS:=rL [.d tu,.d tU,.d ti,.d ti] gu.L0
theorem gu.L0.step{R:Type}(outv t6 t7 t8)(kn:K2 R)(kx:K3 R):gu.R 0 gu.L0 (outv,t6,t7,t8) kn kx=
  aN ((iX t8 t7)) (
   aN (gw t8 (t6.length:Int)) (
   aB (fI.call (nth tu t6 (Int.toNat t8))) λx1=>
   aB (fS.call (outv,x1)) λx2=>
   kn (gu.L0.st (x2,t6,t7,(bQ .i64 t8 1)))) none) (
   gu.L0.go kx outv):=by kernel_rfl
theorem gu.eq{R:Type}(l)(k:K1 R):gu.A l k=
 aB (gu.L0.call (1,l,(l.length:Int),0)) λx3=>
 k (gu.out x3):=by kernel_rfl
theorem gu.L0.ok:(gu.lP 0 gu.L0):=by
 refine(gu.mS 0 gu.L0) (λ(o,l,n,i)=>l.length - i.toNat) ?_
 rintro⟨o,l,n,i⟩ ⟨ho,hl,hb,rfl,k,hk,rfl⟩
 have ho:Pn o:=ho
 have hb:l.length<=1000000000:=hb
 have hk:k<=l.length:=hk
 by_cases h:k < l.length
 ·left
  have hx:=hl _ (bH h)
  have n1:nth (.int .u64) l k=l[k]:=dq (t:= .int .u64) h
  refine⟨(vU o (tk l[k]),l,l.length,((k+1:Nat):Int)),⟨vV _ _,hl,hb,rfl,k+1,by omega,rfl⟩,by simp only[aa];omega,?_,λkn kx=> ?_⟩
  ·simp only[bV,gu.L0.F,aa]
   rw[ax h]
   rfl
  ·rw[gu.L0.step]
   simp(disch:=omega) only[↓S1,↓if_pos,↓if_neg,if_pos,if_neg,if_true,if_false,S2,n1]
   rw[fI.run (d:=l[k]) hx]
   simp only[ae,bV,fI.F]
   rw[fS.run (d:=(o,tk l[k])) ⟨ho.u,(MZ _).u⟩]
   rfl
 ·right
  obtain rfl:k=l.length:=by omega
  intro R kn kx
  rw[gu.L0.step]
  simp(disch:=omega) only[↓S1,↓if_pos,↓if_neg,if_pos,if_neg,if_true,if_false,S2,bV,gu.L0.F,aY]
  rfl
theorem gu.ok:gu.Ok:=by
 rintro l ⟨hl,hb⟩
 rw[gu.eq,gu.L0.run (d:=(1,l,l.length,0)) ⟨⟨by omega,by omega⟩,hl,hb,rfl,0,by omega,rfl⟩]
 rfl
theorem gu.run:gu.RS:=rE [.d tU] gu
def gu.sg:=gu.gk gu.ok 1 ⟨.iY gu.L0.ok,trivial⟩
abbrev oG.D:=Int×Int
abbrev oG.Y:=Int
def oG.bf:oG.D->Prop:=λ(p,q)=>lH p/\lH q
def oG.F:oG.D->oG.Y:=λ(p,q)=>CV [p,q]
def oG:Fs Tryz.prog oG.bf bV oG.F:=gf 195 Tryz.f195 (λ(p,q)=>([.d tu p,.d tu q],[])) (λx=>⟨.d tu x,[],[]⟩) [some tu,some tu] [gu.sg]
theorem oG.eq{R:Type}(p q)(k:K1 R):oG.A (p,q) k=
 aB (gu.call [p,q]) λx1=>
 k (oG.out x1):=by kernel_rfl
theorem oG.ok:oG.Ok:=by
 rintro⟨p,q⟩ ⟨hp,hq⟩
 have h:gu.bf [p,q]:=⟨by intro x hx;simp only[bY,gA,or_false]at hx;rcases hx with rfl | rfl <;> assumption,by simp only[aG,aZ];omega⟩
 rw[oG.eq,gu.run h]
 rfl
theorem oG.run:oG.RS:=rE [.d tu,.d tu] oG
def oG.sg:=oG.gk oG.ok
def Qn(x:Int):Prop:=0<=x/\x < 2305843009213688669
theorem Qn.u{x:Int}(h:Qn x):lH x:=⟨h.1,by have:=h.2;omega⟩
def KY(a:Int):Int:=a%2305843009213688669
theorem CN(a:Int):Qn (KY a):=⟨jb _ (by omega),iJ _ (by omega)⟩
def M8(a b:Int):Int:=(KY a+KY b)%2305843009213688669
def LI(a b:Int):Int:=KY a*KY b%2305843009213688669
def xL(h:List Int):Int:=h.foldl (λn b=>(n*256+b)%2305843009213688668) 0+1
def I8.b(n:Int):Prop:=0<=n/\n < 2305843009213688668
theorem DI(h:List Int)(n:Int)(hn:I8.b n):I8.b (h.foldl (λn b=>(n*256+b)%2305843009213688668) n):=by
 induction h generalizing n with
 |nil=>exact hn
 |cons p l ih=>exact ih _ ⟨jb _ (by omega),iJ _ (by omega)⟩
theorem DJ(h:List Int):0 < xL h/\xL h < 2305843009213688669:=by
 have:=DI h 0 ⟨by omega,by omega⟩
 have h1:=this.1
 have h2:=this.2
 unfold xL
 omega
theorem K6(a b:Int):Qn (M8 a b):=⟨jb _ (by omega),iJ _ (by omega)⟩
theorem LJ(a b:Int):Qn (LI a b):=⟨jb _ (by omega),iJ _ (by omega)⟩
abbrev fc.D:=Int
abbrev fc.Y:=Bool
def fc.bf:fc.D->Prop:=λ_=>True
def fc.F:fc.D->fc.Y:=λa=>iX a 2305843009213688669
def fc:Fs Tryz.prog fc.bf bV fc.F:=gf 65 Tryz.f65 (λa=>([.d tu a],[])) (λx=>⟨.d .bool x,[],[]⟩) [some tu]
theorem fc.eq{R:Type}(a)(k:K1 R):fc.A a k=
 k (fc.out (iX a 2305843009213688669)):=by kernel_rfl
theorem fc.ok:fc.Ok:=by
 intro a _
 rw[fc.eq]
 rfl
theorem fc.run:fc.RS:=rE [.d tu] fc
def fc.sg:=fc.gk fc.ok
abbrev tM.D:=Int
abbrev tM.Y:=Int
def tM.bf:tM.D->Prop:=λa=>lH a
def tM.F:tM.D->tM.Y:=λa=>KY a
def tM:Fs Tryz.prog tM.bf bV tM.F:=gf 243 Tryz.f243 (λa=>([.d tu a],[])) (λx=>⟨.d tu x,[],[]⟩) [some tu]
theorem tM.eq{R:Type}(a)(k:K1 R):tM.A a k=
 k (tM.out (o9 a 2305843009213688669)):=by kernel_rfl
theorem tM.ok:tM.Ok:=by
 intro a ha
 rw[tM.eq,tx ha.1]
 rfl
theorem tM.run:tM.RS:=rE [.d tu] tM
def tM.sg:=tM.gk tM.ok
abbrev kq.D:=Int×Int
abbrev kq.Y:=Int
def kq.bf:kq.D->Prop:=λ(a,b)=>Qn a/\Qn b
def kq.F:kq.D->kq.Y:=λ(a,b)=>(a+b)%2305843009213688669
def kq:Fs Tryz.prog kq.bf bV kq.F:=gf 244 Tryz.f244 (λ(a,b)=>([.d tu a,.d tu b],[])) (λx=>⟨.d tu x,[],[]⟩) [some tu,some tu]
theorem kq.eq{R:Type}(a b)(k:K1 R):kq.A (a,b) k=
 k (kq.out (o9 (bQ .u64 a b) 2305843009213688669)):=by kernel_rfl
theorem kq.ok:kq.Ok:=by
 rintro⟨a,b⟩ ⟨ha,hb⟩
 have ha:Qn a:=ha
 have hb:Qn b:=hb
 obtain⟨h1,h2⟩:=ha
 obtain⟨h3,h4⟩:=hb
 have e:bQ .u64 a b=a+b:=by rw[o6];omega
 rw[kq.eq,e,tx (by omega)]
 rfl
theorem kq.run:kq.RS:=rE [.d tu,.d tu] kq
def kq.sg:=kq.gk kq.ok
abbrev iu.D:=Int×Int
abbrev iu.Y:=Int
def iu.bf:iu.D->Prop:=λ(a,b)=>Qn a/\Qn b
def iu.F:iu.D->iu.Y:=λ(a,b)=>a*b%2305843009213688669
def iu:Fs Tryz.prog iu.bf bV iu.F:=gf 245 Tryz.f245 (λ(a,b)=>([.d tu a,.d tu b],[])) (λx=>⟨.d tu x,[],[]⟩) [some tu,some tu] [gQ.sg,gF.sg]
theorem iu.eq{R:Type}(a b)(k:K1 R):iu.A (a,b) k=
 aB (gQ.call (a,b)) λx1=>
 aB (gF.call (x1.1,x1.2,2305843009213688669)) λx2=>
 k (iu.out x2):=by kernel_rfl
theorem iu.ok:iu.Ok:=by
 rintro⟨a,b⟩ ⟨ha,hb⟩
 have ha:Qn a:=ha
 have hb:Qn b:=hb
 obtain⟨m1,m2⟩:=xk ha.1 (show a<=18446744073709551615 by have:=ha.2;omega) hb.1 (show b<=18446744073709551615 by have:=hb.2;omega)
 have n:(18446744073709551615:Int)*18446744073709551615=340282366920938463426481119284349108225:=rfl
 rw[n]at m2
 have p:gF.bf (a*b / 18446744073709551616,a*b%18446744073709551616,2305843009213688669):=⟨Or.inr (Or.inl rfl),by omega,by omega,by omega,by omega⟩
 rw[iu.eq,gQ.run (d:=(a,b)) ⟨ha.u,hb.u⟩]
 simp only[ae,bV,gQ.F]
 rw[gF.run p]
 simp only[ae,bV,gF.F,Ax]
 rfl
theorem iu.run:iu.RS:=rE [.d tu,.d tu] iu
def iu.sg:=iu.gk iu.ok
abbrev oZ.D:=Int×Int
abbrev oZ.Y:=Int
def oZ.bf:oZ.D->Prop:=λ(a,b)=>lH a/\lH b
def oZ.F:oZ.D->oZ.Y:=λ(a,b)=>M8 a b
def oZ:Fs Tryz.prog oZ.bf bV oZ.F:=gf 196 Tryz.f196 (λ(a,b)=>([.d tu a,.d tu b],[])) (λx=>⟨.d tu x,[],[]⟩) [some tu,some tu] [tM.sg,kq.sg]
theorem oZ.eq{R:Type}(a b)(k:K1 R):oZ.A (a,b) k=
 aB (tM.call a) λx1=>
 aB (tM.call b) λx2=>
 aB (kq.call (x1,x2)) λx3=>
 k (oZ.out x3):=by kernel_rfl
theorem oZ.ok:oZ.Ok:=by
 rintro⟨a,b⟩ ⟨ha,hb⟩
 rw[oZ.eq,tM.run (d:=a) ha,tM.run (d:=b) hb]
 simp only[ae,bV,tM.F]
 rw[kq.run (d:=(KY a,KY b)) ⟨CN a,CN b⟩]
 rfl
theorem oZ.run:oZ.RS:=rE [.d tu,.d tu] oZ
def oZ.sg:=oZ.gk oZ.ok
abbrev oB.D:=Int×Int
abbrev oB.Y:=Int
def oB.bf:oB.D->Prop:=λ(a,b)=>lH a/\lH b
def oB.F:oB.D->oB.Y:=λ(a,b)=>LI a b
def oB:Fs Tryz.prog oB.bf bV oB.F:=gf 197 Tryz.f197 (λ(a,b)=>([.d tu a,.d tu b],[])) (λx=>⟨.d tu x,[],[]⟩) [some tu,some tu] [tM.sg,iu.sg]
theorem oB.eq{R:Type}(a b)(k:K1 R):oB.A (a,b) k=
 aB (tM.call a) λx1=>
 aB (tM.call b) λx2=>
 aB (iu.call (x1,x2)) λx3=>
 k (oB.out x3):=by kernel_rfl
theorem oB.ok:oB.Ok:=by
 rintro⟨a,b⟩ ⟨ha,hb⟩
 rw[oB.eq,tM.run (d:=a) ha,tM.run (d:=b) hb]
 simp only[ae,bV,tM.F]
 rw[iu.run (d:=(KY a,KY b)) ⟨CN a,CN b⟩]
 rfl
theorem oB.run:oB.RS:=rE [.d tu,.d tu] oB
def oB.sg:=oB.gk oB.ok
abbrev dK.L0.D:=Int×Bs×Int
abbrev dK.L0.Y:=Int
abbrev dK.D:=Bs
abbrev dK.Y:=Int
def dK.L0.bf:dK.L0.D->Prop:=λ(n,h,i)=>I8.b n/\h.length=32/\Bytes h/\∃k:Nat,k<=32/\i=k
def dK.L0.F:dK.L0.D->dK.L0.Y:=λ(n,h,i)=>(h.drop i.toNat).foldl (λn b=>(n*256+b)%2305843009213688668) n
def dK.bf:dK.D->Prop:=λh=>h.length=32/\Bytes h
def dK.F:dK.D->dK.Y:=λh=>xL h
def dK.L0:Ls dK.L0.bf bV dK.L0.F:=ra (λ(n,t6,t7)=>⟨([.undef,.undef,.undef,.d tu n,.undef,.undef,.d tH t6,.d ti t7]++bm 13 []),[],(List.replicate 21 [])⟩) (λx=>(.exit 0,⟨([.undef,.undef,.undef,.d tu x]++bm 17 []),[],(List.replicate 21 [])⟩))
def dK:Fs Tryz.prog dK.bf bV dK.F:=gf 136 Tryz.f136 (λh=>([.d tH h],[])) (λx=>⟨.d tu x,[],[]⟩) [some tH] [gF.sg] {loops:=qu [(3,{bA:=[3,6,7]})],outs:=qt [(3,{bA:=[3]},{bA:=[2]})],jl:=qU [(3,dK.L0.E)]}
theorem dK.L0.run:dK.L0.RS:=rL [.d tu,.d tB,.d ti] dK.L0
theorem dK.L0.step{R:Type}(n t6 t7)(kn:K2 R)(kx:K3 R):dK.R 0 dK.L0 (n,t6,t7) kn kx=
  aN ((iX t7 32)) (
   aN (gw t7 32) (
   aB (gF.call ((cH .u64 n 56),(dF .or .u64 (mX .u64 n 8) (eo .u64 (nth tb t6 (Int.toNat t7)))),2305843009213688668)) λx1=>
   kn (dK.L0.st (x1,t6,(bQ .i64 t7 1)))) none) (
   dK.L0.go kx n):=by kernel_rfl
theorem dK.eq{R:Type}(h)(k:K1 R):dK.A h k=
 aB (dK.L0.call (0,h,0)) λx2=>
 k (dK.out (bQ .u64 x2 1)):=by kernel_rfl
theorem DK{n b:Int}(hn:I8.b n)(hb:Ho b):cH .u64 n 56*18446744073709551616+dF .or .u64 (mX .u64 n 8) (eo .u64 b)=n*256+b/\lH (cH .u64 n 56)/\lH (dF .or .u64 (mX .u64 n 8) (eo .u64 b)):=by
 obtain⟨h1,h2⟩:=hn
 obtain⟨h3,h4⟩:=hb
 have p56:(2:Int)^56=72057594037927936:=rfl
 have p8:(2:Int)^8=256:=rfl
 have e:eo .u64 b=b:=by rw[w9];omega
 rw[pj 56 (by rfl) (by omega),nL 8 (by rfl) (by omega),p56,p8,e,vZ 8 256 rfl (by omega) (by omega) (by omega) (by omega) (by omega) (by omega)]
 exact⟨by omega,⟨by omega,by omega⟩,by omega,by omega⟩
theorem dK.L0.ok:(dK.lP 0 dK.L0):=by
 refine(dK.mS 0 dK.L0) (λ(n,h,i)=>32 - i.toNat) ?_
 rintro⟨n,h,i⟩ ⟨hn,hl,hb,k,hk,rfl⟩
 have hn:I8.b n:=hn
 have hl:h.length=32:=hl
 have hb:Bytes h:=hb
 by_cases gV:k < 32
 ·left
  have hx:Ho (h[k]'(by omega)):=hb _ (bH _)
  have n1:nth (.int .u8) h k=h[k]'(by omega):=dq (t:= .int .u8) (by omega)
  obtain⟨d1,d2,d3⟩:=DK hn hx
  refine⟨((n*256+h[k]'(by omega))%2305843009213688668,h,((k+1:Nat):Int)),⟨⟨by omega,by omega⟩,hl,hb,k+1,by omega,rfl⟩,by simp only[aa];omega,?_,λkn kx=> ?_⟩
  ·simp only[bV,dK.L0.F,aa]
   rw[ax (by omega:k < h.length)]
   rfl
  ·rw[dK.L0.step]
   simp(disch:=omega) only[↓S1,↓if_pos,↓if_neg,if_pos,if_neg,if_true,if_false,S2,n1]
   rw[gF.run (d:=(_,_,2305843009213688668)) ⟨Or.inr (Or.inr rfl),d2.1,d2.2,d3.1,d3.2⟩]
   simp only[ae,bV,gF.F,d1]
 ·right
  obtain rfl:k=32:=by omega
  intro R kn kx
  rw[dK.L0.step]
  simp(disch:=omega) only[↓S1,↓if_pos,↓if_neg,if_pos,if_neg,if_true,if_false,S2,bV,dK.L0.F]
  rw[fV (by omega)]
  rfl
theorem dK.ok:dK.Ok:=by
 rintro h ⟨hl,hb⟩
 have e:=DI h 0 ⟨by omega,by omega⟩
 have h1:=e.1
 have h2:=e.2
 rw[dK.eq,dK.L0.run (d:=(0,h,0)) ⟨⟨by omega,by omega⟩,hl,hb,0,by omega,rfl⟩]
 simp only[ae,bV,dK.L0.F,bV,dK.F,xL,b5,aI]
 revert h1 h2
 generalize h.foldl (λn b=>(n*256+b)%2305843009213688668) 0=m
 intro h1 h2
 have e:bQ .u64 m 1=m+1:=by rw[o6];omega
 rw[e]
theorem dK.run:dK.RS:=rE [.d tB] dK
def dK.sg:=dK.gk dK.ok 1 ⟨.iY dK.L0.ok,trivial⟩
theorem Di(n:Int): [eo .u8 (cH .u64 n 56),eo .u8 (cH .u64 n 48),eo .u8 (cH .u64 n 40),eo .u8 (cH .u64 n 32),eo .u8 (cH .u64 n 24),eo .u8 (cH .u64 n 16),eo .u8 (cH .u64 n 8),eo .u8 (cH .u64 n 0)]=qF n:=Fj n
theorem iW{α:Type}{l:List α}{n:Nat}(h:l.length=n):cut l 0 n=l:=by subst h;simp[cut]
theorem KG{n:ByteArray}{a b c:List Int}(hn:n.size<=100)(ha:a.length<=1000000)(hb:b.length<=1000000)(hc:c.length<=1000000):eL.bf (n,[a,b,c]):=by
 show(Bb _ [a,b,c]).length<=_
 rw[Bb]
 simp only[po,List.flatMap_cons,List.flatMap_nil,av,dM,ko,aZ]
 omega
theorem KF{n:ByteArray}{a b:List Int}(hn:n.size<=100)(ha:a.length<=1000000)(hb:b.length<=1000000):eL.bf (n,[a,b]):=by
 show(Bb _ [a,b]).length<=_
 rw[Bb]
 simp only[po,List.flatMap_cons,List.flatMap_nil,av,dM,ko,aZ]
 omega
theorem KE{n:ByteArray}{a:List Int}(hn:n.size<=100)(ha:a.length<=1000000):eL.bf (n,[a]):=by
 show(Bb _ [a]).length<=_
 rw[Bb]
 simp only[po,List.flatMap_cons,List.flatMap_nil,av,dM,ko,aZ]
 omega
def Sm(m:List Int):Prop:=m.length=32/\Bytes m
theorem Ot(b:List Int):Sm (O5 b):=⟨Gr b,HA b⟩
theorem Gs(n:List Int)(ps:List (List Int)):Sm (tag n ps):=Ot _
def Ow(n:ByteArray)(ps:List (List Int)):List Int:=tag (cr n) ps
def Qp:ByteArray:=⟨#[115,105,103]⟩
def Oc:ByteArray:=⟨#[110,111,110,99,101]⟩
def xH(r p:Int)(m:List Int):Int:=xL (Ow Qp [qF r,qF p,m])
theorem Jl(r p:Int)(m:List Int):Qn (xH r p m):=by
 have:=DJ (Ow Qp [qF r,qF p,m])
 exact⟨by unfold xH;omega,by unfold xH;omega⟩
def SQ(s:Sg):Prop:=lH s.1/\lH s.2.1
def Nh(p:Int)(m:List Int)(t:Int)(s:Sg):Bool:=
 if p=1\/xe p=false\/xe t=false\/xe s.1=false\/¬s.2.1 < 2305843009213688669 then false
 else decide (lu s.2.1=CV [s.1,Gq p (xH s.1 p m),Sv t])
def GK(k nonce:Int)(m:List Int)(t:Int):Sg:=
 (CV [lu nonce,t],M8 nonce (LI (xH (CV [lu nonce,t]) (lu k) m) k),())
def Of(k:Int)(m:List Int):Int:=xL (Ow Oc [qF k,m])
def sm(k:Int)(m:List Int):Sg:=if k < 2305843009213688669/\k≠0 then GK k (Of k m) m 1 else(0,0,())
abbrev fG.D:=Int
abbrev fG.Y:=Bs
def fG.bf:fG.D->Prop:=λ_=>True
def fG.F:fG.D->fG.Y:=λn=>qF n
def fG:Fs Tryz.prog fG.bf bV fG.F:=gf 137 Tryz.f137 (λn=>([.d tu n],[])) (λx=>⟨.d tB x,[],[]⟩) [some tu] [] {loops:=qu [(3,{bA:=[0,3,7,8],sites:=[5]})],outs:=qt [(3,{bA:=[3],sites:=[5]},{bA:=[2],sites:=[5]})],res:=[some tB]} 12
theorem fG.eq{R:Type}(n)(k:K1 R):fG.A n k=
 k (fG.out [(eo .u8 (cH .u64 n 56)),(eo .u8 (cH .u64 n 48)),(eo .u8 (cH .u64 n 40)),(eo .u8 (cH .u64 n 32)),(eo .u8 (cH .u64 n 24)),(eo .u8 (cH .u64 n 16)),(eo .u8 (cH .u64 n 8)),(eo .u8 (cH .u64 n 0))]):=by kernel_rfl
theorem fG.ok:fG.Ok:=by
 intro n _
 rw[fG.eq,Di]
 rfl
theorem fG.run:fG.RS:=rE [.d tu] fG
def fG.sg:=fG.gk fG.ok 1 ⟨.none (by kernel_rfl),trivial⟩
abbrev j3.D:=Int×Int×Bs
abbrev j3.Y:=Int
def j3.bf:j3.D->Prop:=λ(r,p,m)=>Sm m
def j3.F:j3.D->j3.Y:=λ(r,p,m)=>xH r p m
def j3:Fs Tryz.prog j3.bf bV j3.F:=gf 198 Tryz.f198 (λ(r,p,m)=>([.d tu r,.d tu p,.d tH m],[])) (λx=>⟨.d tu x,[],[]⟩) [some tu,some tu,some tH] [fG.sg,eL.sg,dK.sg]
theorem j3.eq{R:Type}(r p m)(k:K1 R):j3.A (r,p,m) k=
 aB (fG.call r) λx1=>
 aB (fG.call p) λx2=>
 aB (eL.call ((⟨#[115,105,103]⟩:ByteArray),[x1,x2,(cut m 0 32)])) λx3=>
 aB (dK.call x3) λx4=>
 k (j3.out x4):=by kernel_rfl
theorem j3.ok:j3.Ok:=by
 rintro⟨r,p,m⟩ hm
 have hm:Sm m:=hm
 rw[j3.eq,fG.run (d:=r) trivial,fG.run (d:=p) trivial]
 simp only[ae,bV,fG.F]
 rw[iW hm.1,eL.run (KG (by decide) (by rw[dM];omega) (by rw[dM];omega) (by rw[hm.1];omega))]
 simp only[ae,bV,eL.F]
 rw[dK.run (d:=tag (cr (⟨#[115,105,103]⟩:ByteArray)) [qF r,qF p,m]) (Gs _ _)]
 rfl
theorem j3.run:j3.RS:=rE [.d tu,.d tu,.d tB] j3
def j3.sg:=j3.gk j3.ok
abbrev nB.D:=Int
abbrev nB.Y:=Bool
def nB.bf:nB.D->Prop:=λ_=>True
def nB.F:nB.D->nB.Y:=λk=>decide (k < 2305843009213688669/\k≠0)
def nB:Fs Tryz.prog nB.bf bV nB.F:=gf 134 Tryz.f134 (λkv=>([.d tu kv],[])) (λx=>⟨.d .bool x,[],[]⟩) [some tu] [fc.sg]
theorem nB.eq{R:Type}(kv)(k:K1 R):nB.A kv k=
  aB (fc.call kv) λx1=>
  aN (x1) (
   k (nB.out (sx kv 0))) (
   k (nB.out false)):=by kernel_rfl
theorem nB.ok:nB.Ok:=by
 intro k _
 rw[nB.eq,fc.run (d:=k) trivial]
 simp only[ae,bV,fc.F,bV,nB.F]
 by_cases h:k < 2305843009213688669
 ·rw[aU h,ag]
  by_cases h0:k=0
  ·rw[cU h0,cC (λx=>x.2 h0)]
  ·rw[fj h0,aX ⟨h,h0⟩]
 ·rw[aW h,ai,cC (λx=>h x.1)]
theorem nB.run:nB.RS:=rE [.d tu] nB
def nB.sg:=nB.gk nB.ok
abbrev fQ.D:=Int×Int×Bs×Int
abbrev fQ.Y:=Sg
def fQ.bf:fQ.D->Prop:=λ(k,n,m,t)=>lH k/\lH n/\Sm m/\lH t
def fQ.F:fQ.D->fQ.Y:=λ(k,n,m,t)=>GK k n m t
def fQ:Fs Tryz.prog fQ.bf bV fQ.F:=gf 135 Tryz.f135 (λ(kv,nonce,m,t)=>([.d tu kv,.d tu nonce,.d tH m,.d tu t],[])) (λx=>⟨.d I7 x,[],[]⟩) [some tu,some tu,some tH,some tu] [iD.sg,oG.sg,j3.sg,oB.sg,oZ.sg]
theorem fQ.eq{R:Type}(kv nonce m t)(k:K1 R):fQ.A (kv,nonce,m,t) k=
 aB (iD.call nonce) λx1=>
 aB (oG.call (x1,t)) λx2=>
 aB (iD.call kv) λx3=>
 aB (j3.call (x2,x3,m)) λx4=>
 aB (oB.call (x4,kv)) λx5=>
 aB (oZ.call (nonce,x5)) λx6=>
 k (fQ.out (x2,(x6,()))):=by kernel_rfl
theorem fQ.ok:fQ.Ok:=by
 rintro⟨k,n,m,t⟩ ⟨hk,hn,hm,ht⟩
 have hk:lH k:=hk
 have hn:lH n:=hn
 have hm:Sm m:=hm
 have ht:lH t:=ht
 rw[fQ.eq,iD.run (d:=n) hn]
 simp only[ae,bV,iD.F]
 rw[oG.run (d:=(lu n,t)) ⟨(Qu _ _).u,ht⟩,iD.run (d:=k) hk]
 simp only[ae,bV,iD.F,bV,oG.F]
 rw[j3.run (d:=(CV [lu n,t],lu k,m)) hm]
 simp only[ae,bV,j3.F]
 rw[oB.run (d:=(xH (CV [lu n,t]) (lu k) m,k)) ⟨(Jl _ _ _).u,hk⟩]
 simp only[ae,bV,oB.F]
 rw[oZ.run (d:=(n,LI (xH (CV [lu n,t]) (lu k) m) k)) ⟨hn,(LJ _ _).u⟩]
 rfl
theorem fQ.run:fQ.RS:=rE [.d tu,.d tu,.d tB,.d tu] fQ
def fQ.sg:=fQ.gk fQ.ok
abbrev jK.D:=Int×Bs
abbrev jK.Y:=Sg
def jK.bf:jK.D->Prop:=λ(k,m)=>lH k/\Sm m
def jK.F:jK.D->jK.Y:=λ(k,m)=>sm k m
def jK:Fs Tryz.prog jK.bf bV jK.F:=gf 69 Tryz.f69 (λ(kv,m)=>([.d tu kv,.d tH m],[])) (λx=>⟨.d I7 x,[],[]⟩) [some tu,some tH] [nB.sg,fG.sg,eL.sg,dK.sg,fQ.sg]
theorem jK.eq{R:Type}(kv m)(k:K1 R):jK.A (kv,m) k=
  aB (nB.call kv) λx1=>
  aN ((!x1)) (
   k (jK.out (0,(0,())))) (
   aB (fG.call kv) λx2=>
   aB (eL.call ((⟨#[110,111,110,99,101]⟩:ByteArray),[x2,(cut m 0 32)])) λx3=>
   aB (dK.call x3) λx4=>
   aB (fQ.call (kv,x4,m,1)) λx5=>
   k (jK.out x5)):=by kernel_rfl
theorem jK.ok:jK.Ok:=by
 rintro⟨k,m⟩ ⟨hk,hm⟩
 have hk:lH k:=hk
 have hm:Sm m:=hm
 rw[jK.eq,nB.run (d:=k) trivial]
 simp only[ae,bV,nB.F,bV,jK.F,sm]
 by_cases h:k < 2305843009213688669/\k≠0
 ·rw[aX h,if_pos h,fG.run (d:=k) trivial,iW hm.1]
  simp only[bM,ai,ae,bV,fG.F]
  rw[eL.run (KF (by decide) (by rw[dM];omega) (by rw[hm.1];omega))]
  simp only[ae,bV,eL.F]
  rw[dK.run (d:=tag (cr (⟨#[110,111,110,99,101]⟩:ByteArray)) [qF k,m]) (Gs _ _)]
  simp only[ae,bV,dK.F]
  have q:=DJ (tag (cr (⟨#[110,111,110,99,101]⟩:ByteArray)) [qF k,m])
  rw[fQ.run (d:=(k,xL (tag (cr (⟨#[110,111,110,99,101]⟩:ByteArray)) [qF k,m]),m,1)) ⟨hk,⟨by omega,by omega⟩,hm,by omega,by omega⟩]
  rfl
 ·rw[cC h,if_neg h];rfl
theorem jK.run:jK.RS:=rE [.d tu,.d tB] jK
def jK.sg:=jK.gk jK.ok
def Bg(l:List Int):Prop:=∀x∈l,lH x
def Q5(b:tl):Prop:=Bg b.1/\lH b.2.2.2.1
def Ml(l:Lk):Prop:=∀b∈l.1,Q5 b
def yy(n:Int):Bool:=decide (0<=n/\n<=1048576)
def ur(b:tl):Bool:=decide (b.1.length<=12) && (b.1.all xe && (yy b.2.1 && (yy b.2.2.1 && (decide (b.2.2.2.1=0) || xe b.2.2.2.1))))
def qk(l:Lk):Bool:=l.1.all ur && decide (0 < l.1.length/\l.1.length<=4)
def oU:List Int->Int->Int⊕Unit
 |[],_=> .inr ()
 |p::ps,i=>if xe p then oU ps (i+1) else .inl i
def GM(l:List Int):Int:=match oU l 0 with | .inl i=>i | .inr _=> -1
theorem xE:∀(l:List Int) (i:Int),0<=i->(match oU l i with | .inl i=>decide (i>=0) | .inr _=>false)= !(l.all xe)
 |[],_,_=>rfl
 |p::ps,i,h=>by
  rw[oU,gH]
  cases hp:xe p
  ·simp[h]
  ·simp only[if_true,bW]
   exact xE ps (i+1) (by omega)
theorem Hu(l:List Int):qT (GM l) 0= !(l.all xe):=by
 have:=xE l 0 (by omega)
 unfold GM qT
 cases h:oU l 0
 ·rw[h]at this;exact this
 ·rw[h]at this;rw[<-this];rfl
abbrev l6.D:=Int
abbrev l6.Y:=Bool
def l6.bf:l6.D->Prop:=λp=>lH p
def l6.F:l6.D->l6.Y:=λp=> !xe p
def l6:Fs Tryz.prog l6.bf bV l6.F:=gf 150 Tryz.f150 (λp=>([.d tu p],[])) (λx=>⟨.d .bool x,[],[]⟩) [some tu] [fH.sg]
theorem l6.eq{R:Type}(p)(k:K1 R):l6.A p k=
 aB (fH.call p) λx1=>
 k (l6.out (!x1)):=by kernel_rfl
theorem l6.ok:l6.Ok:=by
 intro p hp
 rw[l6.eq,fH.run (d:=p) hp]
 rfl
theorem l6.run:l6.RS:=rE [.d tu] l6
def l6.sg:=l6.gk l6.ok
abbrev bq.L0.D:=Bs×Int×Int
def bq.L0.st:bq.L0.D->AS:=λ(ot,t7,t8)=>⟨([.d tU ot,.fn 150 (.nil)]++bm 5 ([.d ti t7,.d ti t8]++bm 10 [])),[],(List.replicate 19 [])⟩
abbrev bq.L0.Y0:=Int
abbrev bq.L0.X0:=Int
def bq.L0.dY:bq.L0.X0->Exit×AS:=λx=>(.ret,⟨(bm 4 ([.d ti x]++bm 14 [])),[],(List.replicate 19 [])⟩)
abbrev bq.L0.Y1:=Unit
abbrev bq.L0.X1:=Unit
def bq.L0.gN:bq.L0.X1->Exit×AS:=λx=>(.exit 0,⟨(bm 19 []),[],(List.replicate 19 [])⟩)
abbrev bq.L0.X:=(bq.L0.X0)⊕(bq.L0.X1)
abbrev bq.L0.Y:=(bq.L0.Y0)⊕(bq.L0.Y1)
def bq.L0.out:bq.L0.X->Out (Exit×AS):=λx=> .br x.isLeft (.get x.getLeft? λa=> .ok (bq.L0.dY a)) (.get x.getRight? λb=> .ok (bq.L0.gN b))
def bq.L0.add:bq.L0.D->bq.L0.Y->bq.L0.X:=λ(ot,t7,t8) y=>match y with | .inl y=> .inl y | .inr z=> .inr (z)
abbrev bq.D:=Bs
abbrev bq.Y:=Int
def bq.L0.bf:bq.L0.D->Prop:=λ(l,n,i)=>Bg l/\l.length<=1000000000/\n=l.length/\∃k:Nat,k<=l.length/\i=k
def bq.L0.F:bq.L0.D->bq.L0.Y:=λ(l,n,i)=>oU (l.drop i.toNat) i
def bq.bf:bq.D->Prop:=λl=>Bg l/\l.length<=1000000000
def bq.F:bq.D->bq.Y:=λl=>GM l
def bq.L0.E:=eR.iY bq.L0.st bq.L0.bf bq.L0.add bq.L0.F bq.L0.out
def bq.L0.call:bq.L0.D->Option bq.L0.X:=kE bq.L0.E bq.L0.st
def bq:Fs Tryz.prog bq.bf bV bq.F:=gf 205 Tryz.f205 (λsv=>([.d tU sv,.fn 150 (.nil)],[])) (λx=>⟨.d ti x,[],[]⟩) [some tU,none] [l6.sg] {loops:=qu [(2,{bA:=[0,1,7,8]})],outs:=qt [(2,{},{bA:=[4]})],jl:=qU [(2,bq.L0.E)]}
def bq.L0.R:= @iN Tryz.prog (mR bq.G) bq.an 0 Tryz.f205 0 _ bq.L0.st
abbrev bq.L0.Ok:=oS Tryz.prog (mR bq.G) bq.an 0 Tryz.f205 0 bq.L0.st bq.L0.bf bq.L0.add bq.L0.F bq.L0.out
theorem bq.L0.run:ng bq.L0.call bq.L0.bf bq.L0.add bq.L0.F:=ql (o8 [.d tU,.d ti,.d ti] λ_=>by kernel_rfl)
theorem bq.L0.da:qh @bq.L0.R bq.L0.st bq.L0.bf bq.L0.add bq.L0.F bq.L0.out bq.L0.Ok:=qH
theorem bq.L0.step{R:Type}(ot:Bs)(t7:Int)(t8:Int)(kn:AS->Option R)(kx:Exit->AS->Option R):bq.L0.R (ot,t7,t8) kn kx=
  aN ((iX t8 t7)) (
   aN (gw t8 (((List.length ot):Nat):Int)) (
   aB (l6.call (nth tu ot (Int.toNat t8))) λx1=>
   aN (x1) (
    kx (bq.L0.dY t8).1 (bq.L0.dY t8).2) (
    kn (bq.L0.st (ot,t7,(bQ .i64 t8 (1:Int)))))) none) (
   kx (bq.L0.gN ()).1 (bq.L0.gN ()).2):=by kernel_rfl
theorem bq.eq{R:Type}(sv)(k:K1 R):bq.A sv k=
  aB (bq.L0.call (sv,(sv.length:Int),0)) λx2=>
  aN (x2.isLeft) (
   aB (x2.getLeft?) λa3=>
   k (bq.out a3)) (
   aB (x2.getRight?) λb4=>
   k (bq.out (-1))):=by kernel_rfl
theorem bq.L0.ok:bq.L0.Ok:=by
 refine bq.L0.da (λ(l,n,i)=>l.length - i.toNat) ?_
 rintro⟨l,n,i⟩ ⟨hl,hb,rfl,k,hk,rfl⟩
 have hb:l.length<=1000000000:=hb
 have hk:k<=l.length:=hk
 by_cases h:k < l.length
 ·have hx:=hl _ (bH h)
  have n1:nth (.int .u64) l k=l[k]:=dq (t:= .int .u64) h
  have hd:oU (l.drop k) k=if xe l[k] then oU (l.drop (k+1)) ((k+1:Nat):Int) else .inl (k:Int):=by rw[ax h];rfl
  cases hp:xe l[k]
  ·right
   refine⟨bq.L0.dY (k:Int),?_,λkn kx=> ?_⟩
   ·simp only[bq.L0.add,bq.L0.F,aa,hd,hp,bN,if_false]
    rfl
   ·rw[bq.L0.step]
    simp(disch:=omega) only[↓S1,↓if_pos,↓if_neg,if_pos,if_neg,if_true,if_false,S2,n1]
    rw[l6.run (d:=l[k]) hx]
    simp only[ae,bV,l6.F,hp,dm,ag]
  ·left
   refine⟨(l,l.length,((k+1:Nat):Int)),⟨hl,hb,rfl,k+1,by omega,rfl⟩,by simp only[aa];omega,?_,λkn kx=> ?_⟩
   ·simp only[bq.L0.add,bq.L0.F,aa,hd,hp,if_true]
   ·rw[bq.L0.step]
    simp(disch:=omega) only[↓S1,↓if_pos,↓if_neg,if_pos,if_neg,if_true,if_false,S2,n1]
    rw[l6.run (d:=l[k]) hx]
    simp only[ae,bV,l6.F,hp,bM,ai]
 ·right
  obtain rfl:k=l.length:=by omega
  refine⟨bq.L0.gN (),?_,λkn kx=> ?_⟩
  ·simp only[bq.L0.add,bq.L0.F,aa,aY]
   rfl
  ·rw[bq.L0.step]
   simp(disch:=omega) only[↓S1,↓if_pos,↓if_neg,if_pos,if_neg,if_true,if_false,S2]
theorem bq.ok:bq.Ok:=by
 rintro l ⟨hl,hb⟩
 rw[bq.eq,bq.L0.run (d:=(l,l.length,0)) ⟨hl,hb,rfl,0,by omega,rfl⟩]
 simp only[ae,bq.L0.add,bq.L0.F,b5,aI,bV,bq.F,GM]
 cases oU l 0 <;> rfl
theorem bq.run:bq.RS:=rE [.d tU] bq
def bq.sg:=bq.gk bq.ok 1 ⟨.iY bq.L0.ok,trivial⟩
abbrev dT.D:=Bs
abbrev dT.Y:=Bool
def dT.bf:dT.D->Prop:=λl=>Bg l/\l.length<=1000000000
def dT.F:dT.D->dT.Y:=λl=> !(l.all xe)
def dT:Fs Tryz.prog dT.bf bV dT.F:=gf 152 Tryz.f152 (λsv=>([.d tU sv,.fn 150 (.nil)],[])) (λx=>⟨.d .bool x,[],[]⟩) [some tU,none] [bq.sg]
theorem dT.eq{R:Type}(sv)(k:K1 R):dT.A sv k=
 aB (bq.call sv) λx1=>
 k (dT.out (qT x1 0)):=by kernel_rfl
theorem dT.ok:dT.Ok:=by
 rintro l ⟨hl,hb⟩
 rw[dT.eq,bq.run (d:=l) ⟨hl,hb⟩]
 simp only[ae,bV,bq.F,Hu]
 rfl
theorem dT.run:dT.RS:=rE [.d tU] dT
def dT.sg:=dT.gk dT.ok
abbrev eU.D:=Int
abbrev eU.Y:=Bool
def eU.bf:eU.D->Prop:=λ_=>True
def eU.F:eU.D->eU.Y:=λn=>yy n
def eU:Fs Tryz.prog eU.bf bV eU.F:=gf 153 Tryz.f153 (λn=>([.d ti n],[])) (λx=>⟨.d .bool x,[],[]⟩) [some ti]
theorem eU.eq{R:Type}(n)(k:K1 R):eU.A n k=
  aN ((qT n 0)) (
   k (eU.out (zt n 1048576))) (
   k (eU.out false)):=by kernel_rfl
theorem eU.ok:eU.Ok:=by
 intro n _
 rw[eU.eq]
 simp only[bV,eU.F,yy]
 by_cases h:0<=n
 ·rw[fC h,ag]
  by_cases h2:n<=1048576
  ·rw[hZ h2,aX ⟨h,h2⟩]
  ·rw[fO h2,cC (λx=>h2 x.2)]
 ·rw[ea h,ai,cC (λx=>h x.1)]
theorem eU.run:eU.RS:=rE [.d ti] eU
def eU.sg:=eU.gk eU.ok
abbrev aS.L0.D:=Lk×(List tl)×Int×Int
def aS.L0.st:aS.L0.D->AS:=λ(gd,t7,t8,t9)=>⟨([.undef,.eS re gd,.undef,.fn 150 (.nil),.undef,.undef,.undef,.d (.slice mU) t7,.d ti t8,.d ti t9]++bm 47 []),[],(List.replicate 57 [])⟩
abbrev aS.L0.Y0:=Unit
abbrev aS.L0.X0:=Unit
def aS.L0.dY:aS.L0.X0->Exit×AS:=λx=>(.ret,⟨([.undef,.undef,.d .bool false]++bm 54 []),[],(List.replicate 57 [])⟩)
abbrev aS.L0.Y1:=Unit
abbrev aS.L0.X1:=Lk
def aS.L0.gN:aS.L0.X1->Exit×AS:=λx=>(.exit 0,⟨([.undef,.eS re x]++bm 55 []),[],(List.replicate 57 [])⟩)
abbrev aS.L0.X:=(aS.L0.X0)⊕(aS.L0.X1)
abbrev aS.L0.Y:=(aS.L0.Y0)⊕(aS.L0.Y1)
def aS.L0.out:aS.L0.X->Out (Exit×AS):=λx=> .br x.isLeft (.get x.getLeft? λa=> .ok (aS.L0.dY a)) (.get x.getRight? λb=> .ok (aS.L0.gN b))
def aS.L0.add:aS.L0.D->aS.L0.Y->aS.L0.X:=λ(gd,t7,t8,t9) y=>match y with | .inl y=> .inl y | .inr z=> .inr (gd)
abbrev aS.D:=Lk
abbrev aS.Y:=Bool
def aS.L0.bf:aS.L0.D->Prop:=λ(l,bs,n,i)=>(∀b∈bs,Q5 b)/\bs.length<=9223372036854775807/\n=bs.length/\∃k:Nat,k<=bs.length/\i=k
def aS.L0.F:aS.L0.D->aS.L0.Y:=λ(l,bs,n,i)=>if(bs.drop i.toNat).all ur then .inr () else .inl ()
def aS.bf:aS.D->Prop:=λl=>Ml l/\l.1.length<=9223372036854775807
def aS.F:aS.D->aS.Y:=λl=>qk l
def aS.L0.E:=eR.iY aS.L0.st aS.L0.bf aS.L0.add aS.L0.F aS.L0.out
def aS.L0.call:aS.L0.D->Option aS.L0.X:=kE aS.L0.E aS.L0.st
def aS:Fs Tryz.prog aS.bf bV aS.F:=gf 77 Tryz.f77 (λl=>([.d re l],[])) (λx=>⟨.d .bool x,[],[]⟩) [some re] [dT.sg,eU.sg,l6.sg] {loops:=qu [(3,{bA:=[1,3,7,8,9]})],outs:=qt [(3,{bA:=[1]},{bA:=[2]})],jl:=qU [(3,aS.L0.E)]}
def aS.L0.R:= @iN Tryz.prog (mR aS.G) aS.an 0 Tryz.f77 0 _ aS.L0.st
abbrev aS.L0.Ok:=oS Tryz.prog (mR aS.G) aS.an 0 Tryz.f77 0 aS.L0.st aS.L0.bf aS.L0.add aS.L0.F aS.L0.out
theorem aS.L0.run:ng aS.L0.call aS.L0.bf aS.L0.add aS.L0.F:=ql (o8 [.d re,.d (.slice mU),.d ti,.d ti] λ_=>by kernel_rfl)
theorem aS.L0.da:qh @aS.L0.R aS.L0.st aS.L0.bf aS.L0.add aS.L0.F aS.L0.out aS.L0.Ok:=qH
theorem aS.L0.step{R:Type}(gd:Lk)(t7:(List tl))(t8:Int)(t9:Int)(kn:AS->Option R)(kx:Exit->AS->Option R):aS.L0.R (gd,t7,t8,t9) kn kx=
  aN ((iX t9 t8)) (
   aN (gw t9 (((List.length t7):Nat):Int)) (
   aN ((ri (((List.length (nth mU t7 (Int.toNat t9)).1):Nat):Int) (12:Int))) (
    kx (aS.L0.dY ()).1 (aS.L0.dY ()).2) (
    aB (dT.call (nth mU t7 (Int.toNat t9)).1) λx1=>
    aN (x1) (
     kx (aS.L0.dY ()).1 (aS.L0.dY ()).2) (
     aB (eU.call (nth mU t7 (Int.toNat t9)).2.1) λx2=>
     aN ((!x2)) (
      kx (aS.L0.dY ()).1 (aS.L0.dY ()).2) (
      aB (eU.call (nth mU t7 (Int.toNat t9)).2.2.1) λx3=>
      aN ((!x3)) (
       kx (aS.L0.dY ()).1 (aS.L0.dY ()).2) (
       aN ((sx (nth mU t7 (Int.toNat t9)).2.2.2.1 (0:Int))) (
        aB (l6.call (nth mU t7 (Int.toNat t9)).2.2.2.1) λx4=>
        aN (x4) (
         kx (aS.L0.dY ()).1 (aS.L0.dY ()).2) (
         kn (aS.L0.st (gd,t7,t8,(bQ .i64 t9 (1:Int)))))) (
        kn (aS.L0.st (gd,t7,t8,(bQ .i64 t9 (1:Int)))))))))) none) (
   kx (aS.L0.gN gd).1 (aS.L0.gN gd).2):=by kernel_rfl
theorem aS.eq{R:Type}(l)(k:K1 R):aS.A l k=
  aB (aS.L0.call (l,l.1,(l.1.length:Int),0)) λx5=>
  aN (x5.isLeft) (
   aB (x5.getLeft?) λa6=>
   k (aS.out false)) (
   aB (x5.getRight?) λb7=>
   aN ((ri (b7.1.length:Int) 0)) (
    k (aS.out (zt (b7.1.length:Int) 4))) (
    k (aS.out false))):=by kernel_rfl
theorem aS.L0.ok:aS.L0.Ok:=by
 refine aS.L0.da (λ(l,bs,n,i)=>bs.length - i.toNat) ?_
 rintro⟨l,bs,n,i⟩ ⟨hl,hb,rfl,k,hk,rfl⟩
 have hb:bs.length<=9223372036854775807:=hb
 have hk:k<=bs.length:=hk
 by_cases h:k < bs.length
 ·have hx:Q5 bs[k]:=hl _ (bH h)
  have n1:nth (.pair (.slice (.int .u64)) (.pair (.int .i64) (.pair (.int .i64) (.pair (.int .u64) .unit)))) bs k=bs[k]:=dq (t:=(.pair (.slice (.int .u64)) (.pair (.int .i64) (.pair (.int .i64) (.pair (.int .u64) .unit))))) h
  have hd:(bs.drop k).all ur=(ur bs[k] && (bs.drop (k+1)).all ur):=by rw[ax h,gH]
  have step:∀ {R:Type} (kn:AS->Option R) (kx:Exit->AS->Option R),aS.L0.R (l,bs,(bs.length:Int),(k:Int)) kn kx=aN (ur bs[k]) (kn (aS.L0.st (l,bs,(bs.length:Int),((k+1:Nat):Int)))) (kx (aS.L0.dY ()).1 (aS.L0.dY ()).2):=by
   intro R kn kx
   rw[aS.L0.step,aU (by omega),bt (by omega) (by omega),aa,n1,N.py (by omega)]
   obtain⟨⟨ks,af,dl,sc,u⟩,Ry⟩:∃b,bs[k]=b:=⟨_,rfl⟩
   rw[Ry]at hx ⊢
   have h1:Bg ks:=hx.1
   have h2:lH sc:=hx.2
   simp only[ag,ur]
   by_cases hk:ks.length<=12
   ·rw[di (by omega),dT.run (d:=ks) ⟨h1,by omega⟩,eU.run (d:=af) trivial,eU.run (d:=dl) trivial,l6.run (d:=sc) h2,aX hk]
    simp only[ai,ae,bV,dT.F,bV,eU.F,bV,l6.F,bW]
    cases ks.all xe
    ·rfl
    cases yy af
    ·rfl
    cases yy dl
    ·rfl
    by_cases hs:sc=0
    ·rw[cU hs,aX hs];rfl
    ·rw[fj hs,cC hs]
     cases xe sc <;> rfl
   ·rw[dA (by omega),cC hk];rfl
  cases hp:ur bs[k]
  ·right
   refine⟨aS.L0.dY (),?_,λkn kx=> ?_⟩
   ·simp only[aS.L0.add,aS.L0.F,aa,hd,hp,eM,bN,if_false]
    rfl
   ·rw[step,hp,ai]
  ·left
   refine⟨(l,bs,bs.length,((k+1:Nat):Int)),⟨hl,hb,rfl,k+1,by omega,rfl⟩,by simp only[aa];omega,?_,λkn kx=> ?_⟩
   ·simp only[aS.L0.add,aS.L0.F,aa,hd,hp,bW]
   ·rw[step,hp,ag]
 ·right
  obtain rfl:k=bs.length:=by omega
  refine⟨aS.L0.gN l,?_,λkn kx=> ?_⟩
  ·simp only[aS.L0.add,aS.L0.F,aa,aY]
   rfl
  ·rw[aS.L0.step]
   simp(disch:=omega) only[↓S1,↓if_pos,↓if_neg,if_pos,if_neg,if_true,if_false,S2]
theorem aS.ok:aS.Ok:=by
 rintro l ⟨hl,hb⟩
 have hb:l.1.length<=9223372036854775807:=hb
 rw[aS.eq,aS.L0.run (d:=(l,l.1,l.1.length,0)) ⟨hl,hb,rfl,0,by omega,rfl⟩]
 simp only[ae,aS.L0.add,aS.L0.F,b5,aI,bV,aS.F,qk]
 cases l.1.all ur
 ·rfl
 ·simp only[if_true,bW]
  show aN (ri _ _) _ _=_
  by_cases h0:0 < l.1.length
  ·rw[dA (by omega)]
   by_cases h4:l.1.length<=4
   ·rw[hZ (by omega),aX ⟨h0,h4⟩];rfl
   ·rw[fO (by omega),cC (λx=>h4 x.2)];rfl
  ·rw[di (by omega),cC (λx=>h0 x.1)];rfl
theorem aS.run:aS.RS:=rE [.d re] aS
def aS.sg:=aS.gk aS.ok 1 ⟨.iY aS.L0.ok,trivial⟩
def KL(m:List Int):List Int->List Sg->Bool
 |[],_=>true
 |p::ps,ss=>Nh p m 1 (ss.headD (0,0,())) && KL m ps ss.tail
def MU(l:Lk)(w:Fg)(m:List Int)(height age:Int):Int:=
 if qk l=false\/w.1 < 0\/w.1>=l.1.length then 1
 else
  let b:=nth (.pair (.slice (.int .u64)) (.pair (.int .i64) (.pair (.int .i64) (.pair (.int .u64) .unit)))) l.1 w.1.toNat
  if height < b.2.1\/age < b.2.2.1 then 11
  else if b.2.2.2.1≠0/\lu w.2.2.1≠b.2.2.2.1 then 23
  else if w.2.1.length≠b.1.length then 7
  else if KL m b.1 w.2.1 then 0 else 7
def M7(w:Fg):Prop:=(∀s∈w.2.1,SQ s)/\lH w.2.2.1
abbrev jQ.D:=Int
abbrev jQ.Y:=Nat×(List Int)
def jQ.bf:jQ.D->Prop:=λn=>∃k:Nat,n=k/\k<=100000000
def jQ.F:jQ.D->jQ.Y:=λn=>(0,List.replicate n.toNat 0)
def jQ:Fs Tryz.prog jQ.bf bV jQ.F:=gf 249 Tryz.f249 (λn=>([.dp,.d ti n],[])) (λx=>⟨.cO (.new 0 0) 0 [] 0 0 x.1,[],[.obj 0 false (.vec 5 tb x.2)]⟩) [none,some ti] [] {owns:=[⟨4,[],22,140⟩]}
theorem jQ.eq{R:Type}(n)(k:K1 R):jQ.A n k=
  aN ((iX n 0)) (
   none) (
   aN ((ri (dC .i64 n 0) 0)) (
    aN (decide (0 < (dC .i64 n 0)) && dX (Int.toNat (dC .i64 n 0)) 1) (
    aN (inc 0 (((Int.toNat (dC .i64 n 0)):Nat):Int)) (
    k (jQ.out (0,(List.replicate (Int.toNat (dC .i64 n 0)) 0)))) none) none) (
    k (jQ.out (0,([]:List Int))))):=by kernel_rfl
theorem jQ.ok:jQ.Ok:=by
 rintro n ⟨k,rfl,hk⟩
 have e:dC .i64 (k:Int) 0=(k:Int):=by rw[ee (by omega) (by omega)];omega
 rw[jQ.eq,e,aW (by omega),ai]
 by_cases h:0 < k
 ·rw[dA (by omega),aa,aX (by omega),fh (by omega) (by omega),gO (by omega) (by omega)]
  rfl
 ·obtain rfl:k=0:=by omega
  rfl
theorem jQ.run:jQ.RS:=rE [.d ti] jQ
def jQ.sg:=jQ.gk jQ.ok
def mG(l:List (List Int)):Nat:=l.flatten.length
def AN(n:Nat)(l:List Int):List (List Int)->Nat×List Int
 |[]=>(n,l)
 |s::r=>(n+(s::r).flatten.length,l.take n++(s::r).flatten)
theorem HC(n:Nat)(l s:List Int)(r:List (List Int))(h:n<=l.length):AN n l (s::r)=AN (n+s.length) (l.take n++s) r:=by
 have hl:(l.take n++s).length=n+s.length:=by rw[av,bI];omega
 cases r with
 |nil=>simp[AN]
 |cons t r=>
  simp only[AN]
  rw[bg (Nat.le_of_eq hl)]
  simp only[fW,av,bw,dJ]
theorem Lg(n:Nat)(z:List Int)(r:List (List Int)):(AN 0 z r).1<=(AN 0 z r).2.length/\cut (AN 0 z r).2 0 (AN 0 z r).1=r.flatten:=by
 cases r with
 |nil=>exact⟨aP _,rfl⟩
 |cons s r=>
  simp only[AN,eO,bh,aR]
  exact⟨az _,by show List.take _ (List.drop 0 _)=_;rw[aI,c9]⟩
abbrev bk.L0.D:=(List Bs)×Int×(List Bs)×Int×Int
abbrev bk.L0.Y:=Int
abbrev bk.L0.X:=((List Bs))×(Int)
def bk.L0.add:bk.L0.D->bk.L0.Y->bk.L0.X:=λ(p9,size,t9,t10,t11) y=>(p9,y)
abbrev bk.L1.D:=Nat×(List Bs)×Int×Int×(List Int)
abbrev bk.L1.Y:=Nat×(List Int)
abbrev bk.D:=(List Bs)
abbrev bk.Y:=Bs
def bk.L0.bf:bk.L0.D->Prop:=λ(s,size,t,n,i)=>s.length<=1000000/\t=s/\n=s.length/\∃k z:Nat,k<=s.length/\i=k/\size=z/\z+mG (s.drop k)<=100000000
def bk.L0.F:bk.L0.D->bk.L0.Y:=λ(s,size,t,n,i)=>((size:Int)+((mG (s.drop i.toNat):Nat):Int):Int)
def bk.L1.bf:bk.L1.D->Prop:=λ(n,s,t,i,l)=>s.length<=1000000/\n<=l.length/\t=s.length/\∃k:Nat,k<=s.length/\i=k/\n+mG (s.drop k)<=100000000
def bk.L1.F:bk.L1.D->bk.L1.Y:=λ(n,s,t,i,l)=>AN n l (s.drop i.toNat)
def bk.bf:bk.D->Prop:=λs=>s.length<=1000000/\mG s<=100000000
def bk.F:bk.D->bk.Y:=λs=>s.flatten
def bk.L0:Ls bk.L0.bf bk.L0.add bk.L0.F:=ra (λ(p9,size,t9,t10,t11)=>⟨([.d (.slice tB) p9,.undef,.undef,.d ti size]++bm 5 ([.d (.slice tB) t9,.d ti t10,.d ti t11]++bm 24 [])),[],(List.replicate 36 [])⟩) (λx=>(.exit 0,⟨([.d (.slice tB) x.1,.undef,.undef,.d ti x.2]++bm 32 []),[],(List.replicate 36 [])⟩))
def bk.L1:Ls bk.L1.bf bV bk.L1.F:=ra (λ(newsliceL,t25,t26,t27,n24)=>⟨(bm 6 ([.cO (.new 24 0) 0 [] 0 0 newsliceL]++bm 18 ([.d (.slice tB) t25,.d ti t26,.d ti t27]++bm 8 []))),[],(cS 24 ([[.obj 0 false (.vec 5 tb n24)]]++cS 11 []))⟩) (λx=>(.exit 2,⟨(bm 6 ([.cO (.new 24 0) 0 [] 0 0 x.1]++bm 29 [])),[],(cS 24 ([[.obj 0 false (.vec 5 tb x.2)]]++cS 11 []))⟩))
def bk:Fs Tryz.prog bk.bf bV bk.F:=gf 203 Tryz.f203 (λslices=>([.d (.slice tB) slices],[])) (λx=>⟨.d tB x,[],[]⟩) [some (.slice tB)] [jQ.sg] {loops:=qu [(3,{bA:=[0,3,9,10,11]}),(11,{bA:=[6,25,26,27],sites:=[24],owns:=[⟨6,[],24,140⟩]})],outs:=qt [(3,{bA:=[0,3]},{bA:=[2]}),(11,{bA:=[6],sites:=[24]},{bA:=[2]})],jl:=qU [(3,bk.L0.E),(11,bk.L1.E)],res:=[some tB]}
theorem bk.L0.run:bk.L0.RS:=rL [.d (.slice tB),.d ti,.d (.slice tB),.d ti,.d ti] bk.L0
theorem bk.L0.step{R:Type}(p9 size t9 t10 t11)(kn:K2 R)(kx:K3 R):bk.R 0 bk.L0 (p9,size,t9,t10,t11) kn kx=
  aN ((iX t11 t10)) (
   aN (gw t11 (t9.length:Int)) (
   aN ((iX (bQ .i64 size (((List.length (nth tB t9 (Int.toNat t11))):Nat):Int)) 0)) (
    none) (
    kn (bk.L0.st (p9,(bQ .i64 size (((List.length (nth tB t9 (Int.toNat t11))):Nat):Int)),t9,t10,(bQ .i64 t11 1))))) none) (
   bk.L0.go kx (p9,size)):=by kernel_rfl
theorem bk.L1.run:bk.L1.RS:=rL [.n,.d (.slice tB),.d ti,.d ti,.d tB] bk.L1
theorem bk.L1.step{R:Type}(newsliceL t25 t26 t27 n24)(kn:K2 R)(kx:K3 R):bk.R 1 bk.L1 (newsliceL,t25,t26,t27,n24) kn kx=
  aN ((iX t27 t26)) (
   aN (gw t27 (t25.length:Int)) (
   aN (decide (newsliceL<=(List.length n24))) (
   aN (dX (newsliceL+(List.length (nth tB t25 (Int.toNat t27)))) 1) (
   kn (bk.L1.st ((newsliceL+(List.length (nth tB t25 (Int.toNat t27)))),t25,t26,(bQ .i64 t27 1),((List.take newsliceL n24)++(nth tB t25 (Int.toNat t27)))))) none) none) none) (
   bk.L1.go kx (newsliceL,n24)):=by kernel_rfl
theorem bk.eq{R:Type}(slices)(k:K1 R):bk.A slices k=
 aB (bk.L0.call (slices,0,slices,(slices.length:Int),0)) λx1=>
 aB (jQ.call x1.2) λx2=>
 aB (bk.L1.call (x2.1,x1.1,(x1.1.length:Int),0,x2.2)) λx3=>
 aN (decide (0=0/\(0+x3.1)<=(List.length x3.2))) (
 k (bk.out (cut x3.2 0 x3.1))) none:=by kernel_rfl
theorem Ha(s:List (List Int))(k:Nat)(h:k < s.length):mG (s.drop k)=s[k].length+mG (s.drop (k+1)):=by
 unfold mG
 rw[ax h,fW,av]
theorem bk.L0.ok:(bk.lP 0 bk.L0):=by
 refine(bk.mS 0 bk.L0) (λ(s,size,t,n,i)=>s.length - i.toNat) ?_
 rintro⟨s,size,t,n,i⟩ ⟨hs,rfl,rfl,k,z,hk,rfl,rfl,hz⟩
 have hs:t.length<=1000000:=hs
 have hk:k<=t.length:=hk
 have hz:z+mG (t.drop k)<=100000000:=hz
 by_cases h:k < t.length
 ·left
  have n1:nth (.slice (.int .u8)) t k=t[k]:=dq (t:= .slice (.int .u8)) h
  have hd:=Ha t k h
  refine⟨(t,((z+t[k].length:Nat):Int),t,t.length,((k+1:Nat):Int)),⟨hs,rfl,rfl,k+1,z+t[k].length,by omega,rfl,rfl,by omega⟩,by simp only[aa];omega,?_,λkn kx=> ?_⟩
  ·simp only[bk.L0.add,bk.L0.F,aa]
   rw[hd]
   refine congrArg _ ?_
   omega
  ·rw[bk.L0.step]
   simp(disch:=omega) only[↓S1,↓if_pos,↓if_neg,if_pos,if_neg,if_true,if_false,S2,n1]
 ·right
  obtain rfl:k=t.length:=by omega
  intro R kn kx
  rw[bk.L0.step]
  simp(disch:=omega) only[↓S1,↓if_pos,↓if_neg,if_pos,if_neg,if_true,if_false,S2,bk.L0.add,bk.L0.F,aY]
  simp only[mG,jE,aZ,Int.natCast_zero,Int.add_zero]
theorem bk.L1.ok:(bk.lP 1 bk.L1):=by
 refine(bk.mS 1 bk.L1) (λ(n,s,t,i,l)=>s.length - i.toNat) ?_
 rintro⟨n,s,t,i,l⟩ ⟨hs,hn,rfl,k,hk,rfl,hz⟩
 have hs:s.length<=1000000:=hs
 have hn:n<=l.length:=hn
 have hk:k<=s.length:=hk
 have hz:n+mG (s.drop k)<=100000000:=hz
 by_cases h:k < s.length
 ·left
  have n1:nth (.slice (.int .u8)) s k=s[k]:=dq (t:= .slice (.int .u8)) h
  have hd:=Ha s k h
  refine⟨(n+s[k].length,s,s.length,((k+1:Nat):Int),l.take n++s[k]),⟨hs,by rw[av,bI];omega,rfl,k+1,by omega,rfl,by omega⟩,by simp only[aa];omega,?_,λkn kx=> ?_⟩
  ·simp only[bV,bk.L1.F,aa]
   rw[ax h,HC _ _ _ _ hn]
  ·rw[bk.L1.step]
   simp(disch:=omega) only[↓S1,↓if_pos,↓if_neg,if_pos,if_neg,if_true,if_false,S2,n1]
 ·right
  obtain rfl:k=s.length:=by omega
  intro R kn kx
  rw[bk.L1.step]
  simp(disch:=omega) only[↓S1,↓if_pos,↓if_neg,if_pos,if_neg,if_true,if_false,S2,bV,bk.L1.F,aY]
  rfl
theorem bk.ok:bk.Ok:=by
 rintro s ⟨hs,hz⟩
 have hs:s.length<=1000000:=hs
 have hz:mG s<=100000000:=hz
 have p1:bk.L0.bf (s,0,s,s.length,0):=⟨hs,rfl,rfl,0,0,by omega,rfl,rfl,by rw[aI];omega⟩
 have p2:bk.L1.bf (0,s,s.length,0,List.replicate (mG s) 0):=⟨hs,by omega,rfl,0,by omega,rfl,by rw[aI];omega⟩
 rw[bk.eq,bk.L0.run p1]
 simp only[ae,bk.L0.add,bk.L0.F,b5,aI,mo]
 rw[jQ.run (d:=((mG s:Nat):Int)) ⟨mG s,rfl,hz⟩]
 simp only[ae,bV,jQ.F,aa]
 rw[bk.L1.run p2]
 simp only[ae,bV,bk.L1.F,b5,aI]
 obtain⟨c1,c2⟩:=Lg 0 (List.replicate (mG s) 0) s
 simp only[aR,c1,and_self,decide_true,ag,c2]
 rfl
theorem bk.run:bk.RS:=rE [.d (.slice tB)] bk
def bk.sg:=bk.gk bk.ok 2 ⟨.iY bk.L0.ok,⟨.iY bk.L1.ok,trivial⟩⟩
abbrev gD.D:=Bs×Bs
abbrev gD.Y:=Bs
def gD.bf:gD.D->Prop:=λ(a,b)=>a.length+b.length<=100000000
def gD.F:gD.D->gD.Y:=λ(a,b)=>a++b
def gD:Fs Tryz.prog gD.bf bV gD.F:=gf 179 Tryz.f179 (λ(b,more)=>([.d tB b,.d tB more],[])) (λx=>⟨.d tB x,[],[]⟩) [some tB,some tB] [bk.sg]
theorem gD.eq{R:Type}(b more)(k:K1 R):gD.A (b,more) k=
 aB (bk.call [b,more]) λx1=>
 k (gD.out x1):=by kernel_rfl
theorem gD.ok:gD.Ok:=by
 rintro⟨a,b⟩ h
 have h:a.length+b.length<=100000000:=h
 rw[gD.eq,bk.run (d:=[a,b]) ⟨by show [a,b].length<=_;simp,by show mG [a,b]<=_;simp only[mG,fW,jE,cM,av];omega⟩]
 simp only[ae,bV,bk.F,bV,gD.F,fW,jE,cM]
theorem gD.run:gD.RS:=rE [.d tB,.d tB] gD
def gD.sg:=gD.gk gD.ok
def lk:Nat->Int->List Int×Int
 | 0,n=>([],n)
 |f+1,n=>if 128<=n then((n%128+128)::(lk f (n / 128)).1,(lk f (n / 128)).2) else([],n)
def Ag(n:Int):List Int:=(lk 10 n).1++ [(lk 10 n).2]
theorem BY:∀(f g:Nat) (n:Int),n < 128^(f+1)->n < 128^(g+1)->lk f n=lk g n
 | 0,0,n,_,_=>rfl
 | 0,g+1,n,h,_=>by
  have h:n < 128:=h
  rw[lk,lk,if_neg (by omega)]
 |f+1,0,n,_,h=>by
  have h:n < 128:=h
  rw[lk,lk,if_neg (by omega)]
 |f+1,g+1,n,h,h'=>by
  rw[lk,lk]
  split
  ·have e:(128:Int)^(f+1+1)=128^(f+1)*128:=Int.pow_succ 128 (f+1)
   have e':(128:Int)^(g+1+1)=128^(g+1)*128:=Int.pow_succ 128 (g+1)
   rw[BY f g (n / 128) (by omega) (by omega)]
  ·rfl
theorem Af:∀(f:Nat) (n:Int),(lk f n).1.length<=f
 | 0,_=>az _
 |f+1,n=>by
  rw[lk]
  split
  ·have:=Af f (n / 128)
   simp only[aG];omega
  ·exact aP _
theorem BX:∀(f:Nat) (n:Int),0<=n->n < 128^(f+1)->0<=(lk f n).2/\(lk f n).2 < 128
 | 0,n,h,h'=>by have h':n < 128:=h';exact⟨h,h'⟩
 |f+1,n,h,h'=>by
  rw[lk]
  have e:(128:Int)^(f+1+1)=128^(f+1)*128:=Int.pow_succ 128 (f+1)
  split
  ·exact BX f (n / 128) (by omega) (by omega)
  ·exact⟨h,by omega⟩
theorem Iy{n:Int}(h:128<=n)(h2:n<=9223372036854775807):lk 10 n=((n%128+128)::(lk 10 (n / 128)).1,(lk 10 (n / 128)).2):=by
 have e:(128:Int)^(9+1)=1180591620717411303424:=rfl
 have e2:(128:Int)^(10+1)=151115727451828646838272:=rfl
 rw[lk,if_pos h,BY 9 10 (n / 128) (by rw[e];omega) (by rw[e2];omega)]
theorem wk(n:Int):(Ag n).length<=11:=by
 have:=Af 10 n
 unfold Ag
 simp only[av,aG,aZ];omega
def E9(n:Int):Prop:=0<=n/\n<=9223372036854775807
abbrev fK.L0.D:=Int×Nat×(List Int)
abbrev fK.L0.Y:=Int×Nat×(List Int)
abbrev fK.D:=Int
abbrev fK.Y:=Bs
def fK.L0.bf:fK.L0.D->Prop:=λ(n,m,l)=>E9 n/\m=l.length/\l.length<=1000+0*n.toNat/\l.length+(lk 10 n).1.length<=100
def fK.L0.F:fK.L0.D->fK.L0.Y:=λ(n,m,l)=>((lk 10 n).2,(l++(lk 10 n).1).length,l++(lk 10 n).1)
def fK.bf:fK.D->Prop:=λn=>E9 n
def fK.F:fK.D->fK.Y:=λn=>Ag n
def fK.L0:Ls fK.L0.bf bV fK.L0.F:=ra (λ(Ga,outL,n14)=>⟨([.d ti Ga,.undef,.undef,.cO (.new 14 0) 0 [] 0 0 outL]++bm 16 []),[],(cS 14 ([[.obj 0 false (.vec 5 tb n14)]]++cS 5 []))⟩) (λx=>(.exit 0,⟨([.d ti x.1,.undef,.undef,.cO (.new 14 0) 0 [] 0 0 x.2.1]++bm 16 []),[],(cS 14 ([[.obj 0 false (.vec 5 tb x.2.2)]]++cS 5 []))⟩))
def fK:Fs Tryz.prog fK.bf bV fK.F:=gf 180 Tryz.f180 (λn=>([.d ti n],[])) (λx=>⟨.d tB x,[],[]⟩) [some ti] [] {loops:=qu [(2,{bA:=[0,3],sites:=[14],owns:=[⟨3,[],14,140⟩]})],outs:=qt [(2,{bA:=[0,3],sites:=[14]},{bA:=[2]})],jl:=qU [(2,fK.L0.E)],res:=[some tB]}
theorem fK.L0.run:fK.L0.RS:=rL [.d ti,.n,.d tB] fK.L0
theorem fK.L0.step{R:Type}(Ga outL n14)(kn:K2 R)(kx:K3 R):fK.R 0 fK.L0 (Ga,outL,n14) kn kx=
  aN ((qT Ga 128)) (
   aN (decide (outL<=(List.length n14))) (
   aN (dX (outL+1) 1) (
   kn (fK.L0.st ((qK .i64 Ga 128),(outL+1),((List.take outL n14)++ [(eo .u8 (bQ .i64 (o9 Ga 128) 128))])))) none) none) (
   fK.L0.go kx (Ga,outL,n14)):=by kernel_rfl
theorem fK.eq{R:Type}(n)(k:K1 R):fK.A n k=
 aB (fK.L0.call (n,0,([]:List Int))) λx1=>
 aN (decide (x1.2.1<=(List.length x1.2.2))) (
 aN (dX (x1.2.1+1) 1) (
 aN (decide (0=0/\(0+(x1.2.1+1))<=(List.length ((List.take x1.2.1 x1.2.2)++ [(eo .u8 x1.1)])))) (
 k (fK.out (cut ((List.take x1.2.1 x1.2.2)++ [(eo .u8 x1.1)]) 0 (x1.2.1+1)))) none) none) none:=by kernel_rfl
theorem Jr{n:Int}(h:E9 n):eo .u8 (bQ .i64 (o9 n 128) 128)=n%128+128:=by
 have h1:=h.1
 rw[tx h.1,dL (by omega) (by omega),CB,kc]
 omega
theorem fK.L0.ok:(fK.lP 0 fK.L0):=by
 refine(fK.mS 0 fK.L0) (λ(n,m,l)=>n.toNat) ?_
 rintro⟨n,m,l⟩ ⟨hn,rfl,hl,hz⟩
 have hn:E9 n:=hn
 have hz:l.length+(lk 10 n).1.length<=100:=hz
 have h1:=hn.1
 have h2:=hn.2
 by_cases h:128<=n
 ·left
  have e:=Iy h h2
  have hq:qK .i64 n 128=n / 128:=by
   rw[qK,iK h1]
   exact pO (by omega) (by omega)
  have el:((n%128+128)::(lk 10 (n / 128)).1).length=(lk 10 (n / 128)).1.length+1:=aG
  rw[e]at hz
  have hz:l.length+((n%128+128)::(lk 10 (n / 128)).1).length<=100:=hz
  rw[el]at hz
  refine⟨(n / 128,l.length+1,l++ [n%128+128]),⟨⟨by omega,by omega⟩,by rw[av];rfl,by rw[av];simp only[aG,aZ];omega,by rw[av];simp only[aG,aZ];omega⟩,by simp only[];omega,?_,λkn kx=> ?_⟩
  ·simp only[bV,fK.L0.F,e,bw,kO,bh]
  ·rw[fK.L0.step,fC h,Jr hn,hq]
   simp(disch:=omega) only[↓S1,↓if_pos,↓if_neg,if_pos,if_neg,if_true,if_false,S2,az,c9]
 ·right
  have e:lk 10 n=([],n):=by rw[lk,if_neg h]
  intro R kn kx
  rw[fK.L0.step,ea h]
  simp only[ai,bV,fK.L0.F,e,cM]
theorem fK.ok:fK.Ok:=by
 intro n hn
 have hn:E9 n:=hn
 have hl:=Af 10 n
 have e2:(128:Int)^(10+1)=151115727451828646838272:=rfl
 have hd:=BX 10 n hn.1 (by have:=hn.2;rw[e2];omega)
 have p:fK.L0.bf (n,0,[]):=⟨hn,rfl,by simp,by simp only[aZ];omega⟩
 have hi:eo .u8 (lk 10 n).2=(lk 10 n).2:=by rw[CB,kc];omega
 rw[fK.eq,fK.L0.run p]
 simp only[ae,bV,fK.L0.F,bh,hi,c9,az,decide_true,ag]
 rw[fh (by omega) (by omega)]
 simp only[ag,aR,av,aG,aZ,az,and_self,decide_true]
 rw[iW (by rw[av];rfl)]
 rfl
theorem fK.run:fK.RS:=rE [.d ti] fK
def fK.sg:=fK.gk fK.ok 1 ⟨.iY fK.L0.ok,trivial⟩
def fP(b:List Int)(n:Int):List Int:=if n < 0 then b else b++Ag n
theorem ij(b:List Int)(n:Int):(fP b n).length<=b.length+11:=by
 unfold fP
 have:=wk n
 split
 ·omega
 ·rw[av];omega
abbrev gX.D:=Bs×Int
abbrev gX.Y:=Bs
def gX.bf:gX.D->Prop:=λ(b,n)=>b.length<=90000000/\n<=9223372036854775807
def gX.F:gX.D->gX.Y:=λ(b,n)=>fP b n
def gX:Fs Tryz.prog gX.bf bV gX.F:=gf 123 Tryz.f123 (λ(b,n)=>([.d tB b,.d ti n],[])) (λx=>⟨.d tB x,[],[]⟩) [some tB,some ti] [gD.sg,fK.sg]
theorem gX.eq{R:Type}(b n)(k:K1 R):gX.A (b,n) k=
  aN ((iX n 0)) (
   aB (gD.call (b,([]:List Int))) λx1=>
   k (gX.out x1)) (
   aB (fK.call n) λx2=>
   aB (gD.call (b,x2)) λx3=>
   k (gX.out x3)):=by kernel_rfl
theorem gX.ok:gX.Ok:=by
 rintro⟨b,n⟩ ⟨hb,hn⟩
 have hb:b.length<=90000000:=hb
 have hn:n<=9223372036854775807:=hn
 rw[gX.eq]
 simp only[bV,gX.F,fP]
 by_cases h:n < 0
 ·rw[aU h,if_pos h,ag,gD.run (d:=(b,[])) (by show b.length+([]:List Int).length<=_;simp only[aZ];omega)]
  simp only[ae,bV,gD.F,cM]
 ·have hl:=wk n
  rw[aW h,if_neg h,ai,fK.run (d:=n) ⟨by omega,hn⟩]
  simp only[ae,bV,fK.F]
  rw[gD.run (d:=(b,Ag n)) (by show b.length+(Ag n).length<=_;omega)]
  rfl
theorem gX.run:gX.RS:=rE [.d tB,.d ti] gX
def gX.sg:=gX.gk gX.ok
abbrev jH.D:=Bs×Int
abbrev jH.Y:=Bs
def jH.bf:jH.D->Prop:=λ(b,n)=>b.length<=90000000
def jH.F:jH.D->jH.Y:=λ(b,n)=>b++qF n
def jH:Fs Tryz.prog jH.bf bV jH.F:=gf 191 Tryz.f191 (λ(b,n)=>([.d tB b,.d tu n],[])) (λx=>⟨.d tB x,[],[]⟩) [some tB,some tu] [gD.sg] {loops:=qu [(3,{bA:=[0,1,5,7],sites:=[5,21]})],outs:=qt [(3,{bA:=[0,5],sites:=[5,21]},{bA:=[4],sites:=[5,21]})]} 12
theorem jH.eq{R:Type}(b n)(k:K1 R):jH.A (b,n) k=
 aB (gD.call (b,[(eo .u8 (cH .u64 n 56)),(eo .u8 (cH .u64 n 48)),(eo .u8 (cH .u64 n 40)),(eo .u8 (cH .u64 n 32)),(eo .u8 (cH .u64 n 24)),(eo .u8 (cH .u64 n 16)),(eo .u8 (cH .u64 n 8)),(eo .u8 (cH .u64 n 0))])) λx1=>
 k (jH.out x1):=by kernel_rfl
theorem jH.ok:jH.Ok:=by
 rintro⟨b,n⟩ hb
 have hb:b.length<=90000000:=hb
 have p:gD.bf (b,qF n):=by show b.length+(qF n).length<=_;rw[dM];omega
 have e:gD.call (b,[eo .u8 (cH .u64 n 56),eo .u8 (cH .u64 n 48),eo .u8 (cH .u64 n 40),eo .u8 (cH .u64 n 32),eo .u8 (cH .u64 n 24),eo .u8 (cH .u64 n 16),eo .u8 (cH .u64 n 8),eo .u8 (cH .u64 n 0)])=some (b++qF n):=by
  rw[Di];exact gD.run p
 rw[jH.eq]
 refine Eq.trans (congrArg (λx=>aB x _) e) ?_
 rfl
theorem jH.run:jH.RS:=rE [.d tB,.d tu] jH
def jH.sg:=jH.gk jH.ok 1 ⟨.none (by kernel_rfl),trivial⟩
def so(w:Fg):Bool:=decide (0<=w.1/\w.1 < 4) && decide (w.2.1.length<=12)
def zu(x:jO):Bool:=decide (0<=x.1.2.1/\x.1.2.1 < 64) && so x.2.1
def xN(m:List (jm×Bool))(x:jO):Bool:=(dO gz x.1 m).getD false
def tQ:List (jm×Bool)->List jO->Bool
 |_,[]=>true
 |m,x::l=>(!(xN m x) && zu x) && tQ (iR gz x.1 true m) l
def mB(a:Int):Bool:=decide (0<=a/\a<=1125899906842624)
def qn(a b:Int):Bool:=mB a && (mB b && decide (a+b<=1125899906842624))
def rN:Int->List na->Bool
 |_,[]=>true
 |s,o::l=>(qn s o.1 && qk o.2.1) && rN (s+o.1) l
def Ay(t:ke):Bool:=decide (1<=t.1.length/\t.1.length<=64/\t.2.1.length<=64/\0<=t.2.2.1)
def lE(t:ke):Bool:=Ay t && (tQ [] t.1 && rN 0 t.2.1)
def KS(l:Lk):Prop:=Ml l/\l.1.length<=9223372036854775807
def SR(t:ke):Prop:=(∀o∈t.2.1,KS o.2.1)/\t.1.length<=9223372036854775807/\t.2.1.length<=9223372036854775807
abbrev lD.D:=Fg
abbrev lD.Y:=Bool
def lD.bf:lD.D->Prop:=λ_=>True
def lD.F:lD.D->lD.Y:=λw=>so w
def lD:Fs Tryz.prog lD.bf bV lD.F:=gf 67 Tryz.f67 (λwv=>([.d Qy wv],[])) (λx=>⟨.d .bool x,[],[]⟩) [some Qy]
theorem lD.eq{R:Type}(wv)(k:K1 R):lD.A wv k=
  aN ((qT wv.1 0)) (
   aN ((iX wv.1 4)) (
    k (lD.out (zt (wv.2.1.length:Int) 12))) (
    k (lD.out false))) (
   k (lD.out false)):=by kernel_rfl
theorem lD.ok:lD.Ok:=by
 rintro⟨b,ss,sc,u⟩ _
 rw[lD.eq]
 simp only[bV,lD.F,so]
 by_cases h:0<=b
 ·rw[fC h,ag]
  by_cases h2:b < 4
  ·rw[aU h2,ag,aX ⟨h,h2⟩]
   by_cases h3:ss.length<=12
   ·rw[hZ (by omega),aX h3];rfl
   ·rw[fO (by omega),cC h3];rfl
  ·rw[aW h2,ai,cC (λx=>h2 x.2)];rfl
 ·rw[ea h,ai,cC (λx=>h x.1)];rfl
theorem lD.run:lD.RS:=rE [.d Qy] lD
def lD.sg:=lD.gk lD.ok
abbrev fp.D:=Int
abbrev fp.Y:=Bool
def fp.bf:fp.D->Prop:=λ_=>True
def fp.F:fp.D->fp.Y:=λa=>mB a
def fp:Fs Tryz.prog fp.bf bV fp.F:=gf 194 Tryz.f194 (λa=>([.d ti a],[])) (λx=>⟨.d .bool x,[],[]⟩) [some ti]
theorem fp.eq{R:Type}(a)(k:K1 R):fp.A a k=
  aN ((qT a 0)) (
   k (fp.out (zt a 1125899906842624))) (
   k (fp.out false)):=by kernel_rfl
theorem fp.ok:fp.Ok:=by
 intro(a:Int) _
 rw[fp.eq]
 simp only[bV,fp.F,mB]
 by_cases h:0<=a
 ·rw[fC h,ag]
  by_cases h2:a<=1125899906842624
  ·rw[hZ h2,aX ⟨h,h2⟩]
  ·rw[fO h2,cC (λx=>h2 x.2)]
 ·rw[ea h,ai,cC (λx=>h x.1)]
theorem fp.run:fp.RS:=rE [.d ti] fp
def fp.sg:=fp.gk fp.ok
abbrev j8.D:=Int×Int
abbrev j8.Y:=Int×Bool
def j8.bf:j8.D->Prop:=λ_=>True
def j8.F:j8.D->j8.Y:=λ(a,b)=>(bif qn a b then a+b else 0,qn a b)
def j8:Fs Tryz.prog j8.bf bV j8.F:=gf 132 Tryz.f132 (λ(a,b)=>([.d ti a,.d ti b],[])) (λx=>⟨.cons (.d ti x.1) (.cons (.d .bool x.2) (.nil)),[],[]⟩) [some ti,some ti] [fp.sg]
theorem j8.eq{R:Type}(a b)(k:K1 R):j8.A (a,b) k=
  aB (fp.call a) λx1=>
  aN ((!x1)) (
   k (j8.out (0,false))) (
   aB (fp.call b) λx2=>
   aN ((!x2)) (
    k (j8.out (0,false))) (
    aN ((ri a (dC .i64 1125899906842624 b))) (
     k (j8.out (0,false))) (
     k (j8.out ((bQ .i64 a b),true))))):=by kernel_rfl
theorem j8.ok:j8.Ok:=by
 rintro⟨a,b⟩ _
 rw[j8.eq,fp.run (d:=a) trivial,fp.run (d:=b) trivial]
 simp only[ae,bV,fp.F,bV,j8.F,qn]
 cases ha:mB a
 ·rfl
 ·cases hb:mB b
  ·rfl
  ·simp only[mB,decide_eq_true_eq]at ha hb
   simp only[bM,ai,bW]
   rw[ee (by omega) (by omega)]
   by_cases h:a+b<=1125899906842624
   ·rw[di (by omega),ai,aX h,dL (by omega) (by omega)];rfl
   ·rw[dA (by omega),ag,cC h];rfl
theorem j8.run:j8.RS:=rE [.d ti,.d ti] j8
def j8.sg:=j8.gk j8.ok
abbrev aD.L0.D:=ke×(List jO)×Int×Int×(List (jm×Bool))
def aD.L0.st:aD.L0.D->AS:=λ(wJ,t33,t34,t35,n31)=>⟨([.undef,.eS px wJ,.undef,.l9 (.new 31 0) 0]++bm 29 ([.d (.slice kL) t33,.d ti t34,.d ti t35]++bm 52 [])),[],(cS 31 ([[.obj 0 false (.mp gz .bool n31)]]++cS 56 []))⟩
abbrev aD.L0.Y0:=Unit
abbrev aD.L0.X0:=Unit
def aD.L0.dY:aD.L0.X0->Exit×AS:=λx=>(.ret,⟨([.undef,.undef,.d .bool false]++bm 85 []),[],(List.replicate 88 [])⟩)
abbrev aD.L0.Y1:=Unit
abbrev aD.L0.X1:=ke
def aD.L0.gN:aD.L0.X1->Exit×AS:=λx=>(.exit 0,⟨([.undef,.eS px x]++bm 86 []),[],(List.replicate 88 [])⟩)
abbrev aD.L0.X:=(aD.L0.X0)⊕(aD.L0.X1)
abbrev aD.L0.Y:=(aD.L0.Y0)⊕(aD.L0.Y1)
def aD.L0.out:aD.L0.X->Out (Exit×AS):=λx=> .br x.isLeft (.get x.getLeft? λa=> .ok (aD.L0.dY a)) (.get x.getRight? λb=> .ok (aD.L0.gN b))
def aD.L0.add:aD.L0.D->aD.L0.Y->aD.L0.X:=λ(wJ,t33,t34,t35,n31) y=>match y with | .inl y=> .inl y | .inr z=> .inr (wJ)
abbrev aD.L1.D:=Int×(List na)×Int×Int
def aD.L1.st:aD.L1.D->AS:=λ(sum,t66,t67,t68)=>⟨(bm 6 ([.d ti sum]++bm 59 ([.d (.slice mZ) t66,.d ti t67,.d ti t68]++bm 19 []))),[],(List.replicate 88 [])⟩
abbrev aD.L1.Y0:=Unit
abbrev aD.L1.X0:=Unit
def aD.L1.dY:aD.L1.X0->Exit×AS:=λx=>(.ret,⟨([.undef,.undef,.d .bool false]++bm 85 []),[],(List.replicate 88 [])⟩)
abbrev aD.L1.Y1:=Unit
abbrev aD.L1.X1:=Unit
def aD.L1.gN:aD.L1.X1->Exit×AS:=λx=>(.exit 2,⟨(bm 88 []),[],(List.replicate 88 [])⟩)
abbrev aD.L1.X:=(aD.L1.X0)⊕(aD.L1.X1)
abbrev aD.L1.Y:=(aD.L1.Y0)⊕(aD.L1.Y1)
def aD.L1.out:aD.L1.X->Out (Exit×AS):=λx=> .br x.isLeft (.get x.getLeft? λa=> .ok (aD.L1.dY a)) (.get x.getRight? λb=> .ok (aD.L1.gN b))
def aD.L1.add:aD.L1.D->aD.L1.Y->aD.L1.X:=λ(sum,t66,t67,t68) y=>match y with | .inl y=> .inl y | .inr z=> .inr (z)
abbrev aD.D:=ke
abbrev aD.Y:=Bool
def aD.L0.bf:aD.L0.D->Prop:=λ(t,l,n,i,m)=>l.length<=9223372036854775807/\n=l.length/\∃k:Nat,k<=l.length/\i=k
def aD.L0.F:aD.L0.D->aD.L0.Y:=λ(t,l,n,i,m)=>if tQ m (l.drop i.toNat) then .inr () else .inl ()
def aD.L1.bf:aD.L1.D->Prop:=λ(s,l,n,i)=>(∀o∈l,KS o.2.1)/\l.length<=9223372036854775807/\n=l.length/\∃k:Nat,k<=l.length/\i=k
def aD.L1.F:aD.L1.D->aD.L1.Y:=λ(s,l,n,i)=>if rN s (l.drop i.toNat) then .inr () else .inl ()
def aD.bf:aD.D->Prop:=λt=>SR t
def aD.F:aD.D->aD.Y:=λt=>lE t
def aD.L0.E:=eR.iY aD.L0.st aD.L0.bf aD.L0.add aD.L0.F aD.L0.out
def aD.L0.call:aD.L0.D->Option aD.L0.X:=kE aD.L0.E aD.L0.st
def aD.L1.E:=eR.iY aD.L1.st aD.L1.bf aD.L1.add aD.L1.F aD.L1.out
def aD.L1.call:aD.L1.D->Option aD.L1.X:=kE aD.L1.E aD.L1.st
def aD:Fs Tryz.prog aD.bf bV aD.F:=gf 66 Tryz.f66 (λt=>([.d px t],[])) (λx=>⟨.d .bool x,[],[]⟩) [some px] [lD.sg,j8.sg,aS.sg] {loops:=qu [(5,{bA:=[1,3,33,34,35],sites:=[31]}),(13,{bA:=[6,66,67,68]})],outs:=qt [(5,{bA:=[1]},{bA:=[2]}),(13,{},{bA:=[2]})],jl:=qU [(5,aD.L0.E),(13,aD.L1.E)]}
def aD.L0.R:= @iN Tryz.prog (mR aD.G) aD.an 0 Tryz.f66 0 _ aD.L0.st
abbrev aD.L0.Ok:=oS Tryz.prog (mR aD.G) aD.an 0 Tryz.f66 0 aD.L0.st aD.L0.bf aD.L0.add aD.L0.F aD.L0.out
def aD.L1.R:= @iN Tryz.prog (mR aD.G) aD.an 0 Tryz.f66 1 _ aD.L1.st
abbrev aD.L1.Ok:=oS Tryz.prog (mR aD.G) aD.an 0 Tryz.f66 1 aD.L1.st aD.L1.bf aD.L1.add aD.L1.F aD.L1.out
theorem aD.L0.run:ng aD.L0.call aD.L0.bf aD.L0.add aD.L0.F:=ql (o8 [.d px,.d (.slice kL),.d ti,.d ti,.d (.slice (.pair gz .bool))] λ_=>by kernel_rfl)
theorem aD.L0.da:qh @aD.L0.R aD.L0.st aD.L0.bf aD.L0.add aD.L0.F aD.L0.out aD.L0.Ok:=qH
theorem aD.L0.step{R:Type}(wJ:ke)(t33:(List jO))(t34:Int)(t35:Int)(n31:(List (jm×Bool)))(kn:AS->Option R)(kx:Exit->AS->Option R):aD.L0.R (wJ,t33,t34,t35,n31) kn kx=
  aN ((iX t35 t34)) (
   aN (gw t35 (((List.length t33):Nat):Int)) (
   aN (((dO gz (nth kL t33 (Int.toNat t35)).1 n31).getD false)) (
    kx (aD.L0.dY ()).1 (aD.L0.dY ()).2) (
    aN ((iX (nth kL t33 (Int.toNat t35)).1.2.1 (0:Int))) (
     kx (aD.L0.dY ()).1 (aD.L0.dY ()).2) (
     aN ((qT (nth kL t33 (Int.toNat t35)).1.2.1 (64:Int))) (
      kx (aD.L0.dY ()).1 (aD.L0.dY ()).2) (
      aB (lD.call (nth kL t33 (Int.toNat t35)).2.1) λx8=>
      aN ((!x8)) (
       kx (aD.L0.dY ()).1 (aD.L0.dY ()).2) (
       kn (aD.L0.st (wJ,t33,t34,(bQ .i64 t35 (1:Int)),(iR gz (nth kL t33 (Int.toNat t35)).1 true n31)))))))) none) (
   kx (aD.L0.gN wJ).1 (aD.L0.gN wJ).2):=by kernel_rfl
theorem aD.L1.run:ng aD.L1.call aD.L1.bf aD.L1.add aD.L1.F:=ql (o8 [.d ti,.d (.slice mZ),.d ti,.d ti] λ_=>by kernel_rfl)
theorem aD.L1.da:qh @aD.L1.R aD.L1.st aD.L1.bf aD.L1.add aD.L1.F aD.L1.out aD.L1.Ok:=qH
theorem aD.L1.step{R:Type}(sum:Int)(t66:(List na))(t67:Int)(t68:Int)(kn:AS->Option R)(kx:Exit->AS->Option R):aD.L1.R (sum,t66,t67,t68) kn kx=
  aN ((iX t68 t67)) (
   aN (gw t68 (((List.length t66):Nat):Int)) (
   aB (j8.call (sum,(nth mZ t66 (Int.toNat t68)).1)) λIU=>
   aN ((!IU.2)) (
    kx (aD.L1.dY ()).1 (aD.L1.dY ()).2) (
    aB (aS.call (nth mZ t66 (Int.toNat t68)).2.1) λKN=>
    aN ((!KN)) (
     kx (aD.L1.dY ()).1 (aD.L1.dY ()).2) (
     kn (aD.L1.st (IU.1,t66,t67,(bQ .i64 t68 (1:Int))))))) none) (
   kx (aD.L1.gN ()).1 (aD.L1.gN ()).2):=by kernel_rfl
theorem aD.eq{R:Type}(t)(k:K1 R):aD.A t k=
  aN ((iX (t.1.length:Int) 1)) (
   k (aD.out false)) (
   aN ((ri (t.1.length:Int) 64)) (
    k (aD.out false)) (
    aN ((ri (t.2.1.length:Int) 64)) (
     k (aD.out false)) (
     aN ((iX t.2.2.1 0)) (
      k (aD.out false)) (
      aB (aD.L0.call (t,t.1,(t.1.length:Int),0,([]:List (jm×Bool)))) λKN=>
      aN (KN.isLeft) (
       aB (KN.getLeft?) λa13=>
       k (aD.out false)) (
       aB (KN.getRight?) λb14=>
       aB (aD.L1.call (0,b14.2.1,(b14.2.1.length:Int),0)) λE8=>
       aN (E8.isLeft) (
        aB (E8.getLeft?) λa31=>
        k (aD.out false)) (
        aB (E8.getRight?) λb32=>
        k (aD.out true))))))):=by kernel_rfl
theorem aD.L0.ok:aD.L0.Ok:=by
 refine aD.L0.da (λ(t,l,n,i,m)=>l.length - i.toNat) ?_
 rintro⟨t,l,n,i,m⟩ ⟨hb,rfl,k,hk,rfl⟩
 have hb:l.length<=9223372036854775807:=hb
 have hk:k<=l.length:=hk
 by_cases h:k < l.length
 ·have n1:nth kL l k=l[k]:=dq (t:=kL) h
  have hd:tQ m (l.drop k)=((!(xN m l[k]) && zu l[k]) && tQ (iR gz l[k].1 true m) (l.drop (k+1))):=by rw[ax h];rfl
  have step:∀ {R:Type} (kn:AS->Option R) (kx:Exit->AS->Option R),aD.L0.R (t,l,(l.length:Int),(k:Int),m) kn kx=aN (!(xN m l[k]) && zu l[k]) (kn (aD.L0.st (t,l,(l.length:Int),((k+1:Nat):Int),iR gz l[k].1 true m))) (kx (aD.L0.dY ()).1 (aD.L0.dY ()).2):=by
   intro R kn kx
   rw[aD.L0.step,aU (by omega),bt (by omega) (by omega),aa,n1,N.py (by omega),lD.run (d:=l[k].2.1) trivial]
   simp only[ag,ae,bV,lD.F]
   have e:(dO gz l[k].1 m).getD false=xN m l[k]:=rfl
   rw[e]
   cases xN m l[k]
   ·simp only[dm,bW,ai,zu]
    by_cases h1:l[k].1.2.1 < 0
    ·rw[aU h1,ag,cC (λx=>by omega)];rfl
    ·rw[aW h1,ai]
     by_cases h2:64<=l[k].1.2.1
     ·rw[fC h2,ag,cC (λx=>by omega)];rfl
     ·rw[ea h2,ai,aX ⟨by omega,by omega⟩]
      cases so l[k].2.1 <;> rfl
   ·rfl
  cases hp:(!(xN m l[k]) && zu l[k])
  ·right
   refine⟨aD.L0.dY (),?_,λkn kx=> ?_⟩
   ·simp only[aD.L0.add,aD.L0.F,aa,hd,hp,eM,bN,if_false]
    rfl
   ·rw[step,hp,ai]
  ·left
   refine⟨(t,l,l.length,((k+1:Nat):Int),iR gz l[k].1 true m),⟨hb,rfl,k+1,by omega,rfl⟩,by simp only[aa];omega,?_,λkn kx=> ?_⟩
   ·simp only[aD.L0.add,aD.L0.F,aa,hd,hp,bW]
   ·rw[step,hp,ag]
 ·right
  obtain rfl:k=l.length:=by omega
  refine⟨aD.L0.gN t,?_,λkn kx=> ?_⟩
  ·simp only[aD.L0.add,aD.L0.F,aa,aY]
   rfl
  ·rw[aD.L0.step]
   simp(disch:=omega) only[↓S1,↓if_pos,↓if_neg,if_pos,if_neg,if_true,if_false,S2]
theorem aD.L1.ok:aD.L1.Ok:=by
 refine aD.L1.da (λ(s,l,n,i)=>l.length - i.toNat) ?_
 rintro⟨s,l,n,i⟩ ⟨hl,hb,rfl,k,hk,rfl⟩
 have hb:l.length<=9223372036854775807:=hb
 have hk:k<=l.length:=hk
 by_cases h:k < l.length
 ·have hx:KS l[k].2.1:=hl _ (bH h)
  have n1:nth mZ l k=l[k]:=dq (t:=mZ) h
  have hd:rN s (l.drop k)=((qn s l[k].1 && qk l[k].2.1) && rN (s+l[k].1) (l.drop (k+1))):=by rw[ax h];rfl
  have step:∀ {R:Type} (kn:AS->Option R) (kx:Exit->AS->Option R),aD.L1.R (s,l,(l.length:Int),(k:Int)) kn kx=aN (qn s l[k].1 && qk l[k].2.1) (kn (aD.L1.st (s+l[k].1,l,(l.length:Int),((k+1:Nat):Int)))) (kx (aD.L1.dY ()).1 (aD.L1.dY ()).2):=by
   intro R kn kx
   rw[aD.L1.step,aU (by omega),bt (by omega) (by omega),aa,n1,N.py (by omega),j8.run (d:=(s,l[k].1)) trivial,aS.run (d:=l[k].2.1) hx]
   simp only[ag,ae,bV,j8.F,bV,aS.F]
   cases qn s l[k].1
   ·rfl
   ·cases qk l[k].2.1 <;> rfl
  cases hp:(qn s l[k].1 && qk l[k].2.1)
  ·right
   refine⟨aD.L1.dY (),?_,λkn kx=> ?_⟩
   ·simp only[aD.L1.add,aD.L1.F,aa,hd,hp,eM,bN,if_false]
    rfl
   ·rw[step,hp,ai]
  ·left
   refine⟨(s+l[k].1,l,l.length,((k+1:Nat):Int)),⟨hl,hb,rfl,k+1,by omega,rfl⟩,by simp only[aa];omega,?_,λkn kx=> ?_⟩
   ·simp only[aD.L1.add,aD.L1.F,aa,hd,hp,bW]
   ·rw[step,hp,ag]
 ·right
  obtain rfl:k=l.length:=by omega
  refine⟨aD.L1.gN (),?_,λkn kx=> ?_⟩
  ·simp only[aD.L1.add,aD.L1.F,aa,aY]
   rfl
  ·rw[aD.L1.step]
   simp(disch:=omega) only[↓S1,↓if_pos,↓if_neg,if_pos,if_neg,if_true,if_false,S2]
theorem aD.ok:aD.Ok:=by
 rintro⟨is,os,nt,u⟩ ⟨hl,h1,h2⟩
 have h1:is.length<=9223372036854775807:=h1
 have h2:os.length<=9223372036854775807:=h2
 rw[aD.eq,aD.L0.run (d:=((is,os,nt,u),is,is.length,0,[])) ⟨h1,rfl,0,by omega,rfl⟩]
 simp only[ae,aD.L0.add,aD.L0.F,b5,aI,bV,aD.F,lE,Ay]
 by_cases a1:is.length < 1
 ·rw[aU (by omega),ag,cC (λx=>by omega)];rfl
 rw[aW (by omega),ai]
 by_cases a2:64 < is.length
 ·rw[dA (by omega),ag,cC (λx=>by omega)];rfl
 rw[di (by omega),ai]
 by_cases a3:64 < os.length
 ·rw[dA (by omega),ag,cC (λx=>by omega)];rfl
 rw[di (by omega),ai]
 by_cases a4:nt < 0
 ·rw[aU (by omega),ag,cC (λx=>by omega)];rfl
 rw[aW (by omega),ai,aX ⟨by omega,by omega,by omega,by omega⟩]
 cases tQ [] is
 ·rfl
 ·simp only[if_true,bW]
  show aB (aD.L1.call (0,os,(os.length:Int),0)) _=_
  rw[aD.L1.run (d:=(0,os,os.length,0)) ⟨hl,h2,rfl,0,by omega,rfl⟩]
  simp only[ae,aD.L1.add,aD.L1.F,b5,aI]
  cases rN 0 os <;> rfl
theorem aD.run:aD.RS:=rE [.d px] aD
def aD.sg:=aD.gk aD.ok 2 ⟨.iY aD.L0.ok,⟨.iY aD.L1.ok,trivial⟩⟩
abbrev fa.D:=Bs
abbrev fa.Y:=Bs
def fa.bf:fa.D->Prop:=λl=>l.length<=1000000
def fa.F:fa.D->fa.Y:=λl=>l
def fa:Fs Tryz.prog fa.bf bV fa.F:=gf 142 Tryz.f142 (λsv=>([.d tU sv],[])) (λx=>⟨.d tU x,[],[]⟩) [some tU] [] {bE:=[5],res:=[some tU]}
theorem fa.eq{R:Type}(sv)(k:K1 R):fa.A sv k=
  aN (decide (0 < (List.length sv))) (
   aN (dX (0+(List.length sv)) 8) (
   aN (decide (0=0/\(0+(0+(List.length sv)))<=(List.length ((List.take 0 (List.replicate 0 0))++sv)))) (
   k (fa.out (cut ((List.take 0 (List.replicate 0 0))++sv) 0 (0+(List.length sv))))) none) none) (
   nd (
    k (fa.out ([]:List Int))) (
    aN (dX (0+(List.length sv)) 8) (
    aN (decide (0=0/\(0+(0+(List.length sv)))<=(List.length ((List.take 0 (List.replicate 0 0))++sv)))) (
    k (fa.out (cut ((List.take 0 (List.replicate 0 0))++sv) 0 (0+(List.length sv))))) none) none)):=by kernel_rfl
theorem fa.ok:fa.Ok:=by
 intro l hl
 have hl:l.length<=1000000:=hl
 have hr:dX l.length 8=true:=fh (by omega) (by omega)
 have e0:(List.take 0 (List.replicate 0 0):List Int)=[]:=rfl
 rw[fa.eq]
 simp only[aR,hr,ag,e0,bh,az,and_self,decide_true,iW,bV,fa.F]
 by_cases h:0 < l.length
 ·simp only[aX h,ag]
 ·have:l=[]:=aQ (by omega)
  subst this
  simp only[aZ,tF,cC (iA 0),ai]
theorem fa.run:fa.RS:=rE [.d tU] fa
def fa.sg:=fa.gk fa.ok
def fR(l:List Int):Lk:=([(l,0,0,0,())],())
abbrev pb.D:=Bs
abbrev pb.Y:=Lk
def pb.bf:pb.D->Prop:=λl=>l.length<=1000000
def pb.F:pb.D->pb.Y:=λl=>fR l
def pb:Fs Tryz.prog pb.bf bV pb.F:=gf 71 Tryz.f71 (λl=>([.d tU l],[])) (λx=>⟨.d re x,[],[]⟩) [some tU] [fa.sg]
theorem pb.eq{R:Type}(l)(k:K1 R):pb.A l k=
 aB (fa.call l) λx1=>
 k (pb.out ([(x1,(0,(0,(0,()))))],())):=by kernel_rfl
theorem pb.ok:pb.Ok:=by
 intro l hl
 rw[pb.eq,fa.run (d:=l) hl]
 rfl
theorem pb.run:pb.RS:=rE [.d tU] pb
def pb.sg:=pb.gk pb.ok
abbrev l7.D:=Int
abbrev l7.Y:=Lk
def l7.bf:l7.D->Prop:=λ_=>True
def l7.F:l7.D->l7.Y:=λp=>fR [p]
def l7:Fs Tryz.prog l7.bf bV l7.F:=gf 17 Tryz.f17 (λp=>([.d tu p],[])) (λx=>⟨.d re x,[],[]⟩) [some tu] [pb.sg]
theorem l7.eq{R:Type}(p)(k:K1 R):l7.A p k=
 aB (pb.call [p]) λx1=>
 k (l7.out x1):=by kernel_rfl
theorem l7.ok:l7.Ok:=by
 intro p _
 rw[l7.eq,pb.run (d:=[p]) (by show [p].length<=_;simp)]
 rfl
theorem l7.run:l7.RS:=rE [.d tu] l7
def l7.sg:=l7.gk l7.ok
def oN(o:List Int)(ks:List Int):List Int:=ks.foldl (λo p=>o++qF p) o
def Nd(o:List Int)(b:tl):List Int:=fP (fP (oN (fP o b.1.length) b.1) b.2.1) b.2.2.1++qF b.2.2.2.1
def LG(l:Lk):List Int:=if qk l then l.1.foldl Nd (fP [] l.1.length) else []
theorem xg:∀(ks:List Int) (o:List Int),(oN o ks).length=o.length+8*ks.length
 |[],o=>rfl
 |k::ks,o=>by
  show(oN (o++qF k) ks).length=_
  rw[xg ks,av,dM,aG];omega
theorem GQ(o:List Int)(b:tl)(h:b.1.length<=12):(Nd o b).length<=o.length+200:=by
 unfold Nd
 have h1:=ij o b.1.length
 have h2:=xg b.1 (fP o b.1.length)
 have h3:=ij (oN (fP o b.1.length) b.1) b.2.1
 have h4:=ij (fP (oN (fP o b.1.length) b.1) b.2.1) b.2.2.1
 rw[av,dM];omega
def K4(n:Int):Prop:=n<=9223372036854775807
def QD(b:tl):Prop:=b.1.length<=12/\K4 b.2.1/\K4 b.2.2.1
theorem Nf{b:tl}(h:ur b=true):QD b:=by
 unfold ur yy at h
 simp only[ah,decide_eq_true_eq]at h
 obtain⟨h1,_,h2,h3,_⟩:=h
 exact⟨h1,by unfold K4;omega,by unfold K4;omega⟩
theorem F2(o:List Int)(ks:List Int)(k:Nat)(h:k < ks.length):oN o (ks.drop k)=oN (o++qF ks[k]) (ks.drop (k+1)):=by rw[ax h];rfl
abbrev bR.L0.D:=Bs×(List tl)×Int×Int
abbrev bR.L0.Y:=Bs
abbrev bR.L1.D:=Bs×(List tl)×Int×Int×Bs×Int×Int×tl
abbrev bR.L1.Y:=Bs
abbrev bR.L1.X:=((List tl)×Int×Int×tl)×(Bs)
def bR.L1.add:bR.L1.D->bR.L1.Y->bR.L1.X:=λ(xn,Aq,Ar,As,t28,t29,t30,n5) y=>((Aq,Ar,As,n5),y)
abbrev bR.D:=Lk
abbrev bR.Y:=Bs
def bR.L1.bf:bR.L1.D->Prop:=λ(o,bs,n,i,ks,m,j,b)=>ks.length<=12/\o.length+8*ks.length<=80000000+8*j.toNat/\m=ks.length/\∃k:Nat,k<=ks.length/\j=k
def bR.L1.F:bR.L1.D->bR.L1.Y:=λ(o,bs,n,i,ks,m,j,b)=>oN o (ks.drop j.toNat)
def bR.L0.bf:bR.L0.D->Prop:=λ(o,bs,n,i)=>(∀b∈bs,QD b)/\bs.length<=4/\o.length<=1000+200*i.toNat/\n=bs.length/\∃k:Nat,k<=bs.length/\i=k
def bR.L0.F:bR.L0.D->bR.L0.Y:=λ(o,bs,n,i)=>(bs.drop i.toNat).foldl Nd o
def bR.bf:bR.D->Prop:=λl=>Ml l/\l.1.length<=9223372036854775807
def bR.F:bR.D->bR.Y:=λl=>LG l
def bR.L0:Ls bR.L0.bf bV bR.L0.F:=ra (λ(outv,t16,t17,t18)=>⟨([.undef,.undef,.undef,.d tB outv]++bm 12 ([.d (.slice mU) t16,.d ti t17,.d ti t18]++bm 31 [])),[],(List.replicate 50 [])⟩) (λx=>(.exit 0,⟨([.undef,.undef,.undef,.d tB x]++bm 46 []),[],(List.replicate 50 [])⟩))
def bR.L1:Ls bR.L1.bf bR.L1.add bR.L1.F:=ra (λ(xn,Aq,Ar,As,t28,t29,t30,n5)=>⟨([.undef,.undef,.undef,.d tB xn,.undef,.ptr (.new 5 0) 0 [] 0]++bm 10 ([.d (.slice mU) Aq,.d ti Ar,.d ti As]++bm 9 ([.d tU t28,.d ti t29,.d ti t30]++bm 19 []))),[],(cS 5 ([[.obj 0 false (.d mU n5)]]++cS 44 []))⟩) (λx=>(.exit 2,⟨([.undef,.undef,.undef,.d tB x.2,.undef,.ptr (.new 5 0) 0 [] 0]++bm 10 ([.d (.slice mU) x.1.1,.d ti x.1.2.1,.d ti x.1.2.2.1]++bm 31 [])),[],(cS 5 ([[.obj 0 false (.d mU x.1.2.2.2)]]++cS 44 []))⟩))
def bR:Fs Tryz.prog bR.bf bV bR.F:=gf 146 Tryz.f146 (λl=>([.d re l],[])) (λx=>⟨.d tB x,[],[]⟩) [some re] [aS.sg,gX.sg,jH.sg] {loops:=qu [(5,{bA:=[3,16,17,18]}),(9,{bA:=[3,5,16,17,18,28,29,30],sites:=[5]})],outs:=qt [(5,{bA:=[3]},{bA:=[2]}),(9,{bA:=[3,5,16,17,18],sites:=[5]},{bA:=[2]})],jl:=qU [(5,bR.L0.E),(9,bR.L1.E)],res:=[some tB]}
theorem bR.L0.run:bR.L0.RS:=rL [.d tB,.d (.slice mU),.d ti,.d ti] bR.L0
theorem bR.L0.step{R:Type}(outv t16 t17 t18)(kn:K2 R)(kx:K3 R):bR.R 0 bR.L0 (outv,t16,t17,t18) kn kx=
  aN ((iX t18 t17)) (
   aN (gw t18 (t16.length:Int)) (
   aB (gX.call (outv,(((List.length (nth mU t16 (Int.toNat t18)).1):Nat):Int))) λx1=>
   aB (bR.L1.call (x1,t16,t17,t18,(nth mU t16 (Int.toNat t18)).1,(((List.length (nth mU t16 (Int.toNat t18)).1):Nat):Int),0,(nth mU t16 (Int.toNat t18)))) λx2=>
   aB (gX.call (x2.2,x2.1.2.2.2.2.1)) λx3=>
   aB (gX.call (x3,x2.1.2.2.2.2.2.1)) λx4=>
   aB (jH.call (x4,x2.1.2.2.2.2.2.2.1)) λx5=>
   kn (bR.L0.st (x5,x2.1.1,x2.1.2.1,(bQ .i64 x2.1.2.2.1 1)))) none) (
   bR.L0.go kx outv):=by kernel_rfl
theorem bR.L1.run:bR.L1.RS:=rL [.d tB,.d (.slice mU),.d ti,.d ti,.d tU,.d ti,.d ti,.d mU] bR.L1
theorem bR.L1.step{R:Type}(xn Aq Ar As t28 t29 t30 n5)(kn:K2 R)(kx:K3 R):bR.R 1 bR.L1 (xn,Aq,Ar,As,t28,t29,t30,n5) kn kx=
  aN ((iX t30 t29)) (
   aN (gw t30 (t28.length:Int)) (
   aB (jH.call (xn,(nth tu t28 (Int.toNat t30)))) λx1=>
   kn (bR.L1.st (x1,Aq,Ar,As,t28,t29,(bQ .i64 t30 1),n5))) none) (
   bR.L1.go kx ((Aq,Ar,As,n5),xn)):=by kernel_rfl
theorem bR.eq{R:Type}(l)(k:K1 R):bR.A l k=
  aB (aS.call l) λx1=>
  aN ((!x1)) (
   k (bR.out ([]:List Int))) (
   aB (gX.call (([]:List Int),(l.1.length:Int))) λx2=>
   aB (bR.L0.call (x2,l.1,(l.1.length:Int),0)) λx9=>
   k (bR.out x9)):=by kernel_rfl
theorem bR.L1.ok:(bR.lP 1 bR.L1):=by
 refine(bR.mS 1 bR.L1) (λ(o,bs,n,i,ks,m,j,b)=>ks.length - j.toNat) ?_
 rintro⟨o,bs,n,i,ks,m,j,b⟩ ⟨NQ,hl,rfl,k,hk,rfl⟩
 have NQ:ks.length<=12:=NQ
 have hk:k<=ks.length:=hk
 have hl:o.length+8*ks.length<=80000000+8*(k:Int).toNat:=hl
 rw[aa]at hl
 by_cases h:k < ks.length
 ·left
  have n1:nth (.int .u64) ks k=ks[k]:=dq (t:= .int .u64) h
  refine⟨(o++qF ks[k],bs,n,i,ks,ks.length,((k+1:Nat):Int),b),⟨NQ,by rw[av,dM,aa];omega,rfl,k+1,by omega,rfl⟩,by simp only[aa];omega,?_,λkn kx=> ?_⟩
  ·simp only[bR.L1.add,bR.L1.F,aa]
   rw[F2 _ _ _ h]
  ·rw[bR.L1.step]
   simp(disch:=omega) only[↓S1,↓if_pos,↓if_neg,if_pos,if_neg,if_true,if_false,S2,n1]
   rw[jH.run (d:=(o,ks[k])) (by show o.length<=90000000;omega)]
   rfl
 ·right
  obtain rfl:k=ks.length:=by omega
  intro R kn kx
  rw[bR.L1.step]
  simp(disch:=omega) only[↓S1,↓if_pos,↓if_neg,if_pos,if_neg,if_true,if_false,S2,bR.L1.add,bR.L1.F,aY]
  rfl
theorem bR.L0.ok:(bR.lP 0 bR.L0):=by
 refine(bR.mS 0 bR.L0) (λ(o,bs,n,i)=>bs.length - i.toNat) ?_
 rintro⟨o,bs,n,i⟩ ⟨hb,h4,hl,rfl,k,hk,rfl⟩
 have h4:bs.length<=4:=h4
 have hk:k<=bs.length:=hk
 have hl:o.length<=1000+200*(k:Int).toNat:=hl
 rw[aa]at hl
 by_cases h:k < bs.length
 ·left
  have hx:=hb _ (bH h)
  have n1:nth (.pair (.slice (.int .u64)) (.pair (.int .i64) (.pair (.int .i64) (.pair (.int .u64) .unit)))) bs k=bs[k]:=dq (t:=(.pair (.slice (.int .u64)) (.pair (.int .i64) (.pair (.int .i64) (.pair (.int .u64) .unit))))) h
  have e0:=GQ o bs[k] hx.1
  refine⟨(Nd o bs[k],bs,bs.length,((k+1:Nat):Int)),⟨hb,h4,by rw[aa];omega,rfl,k+1,by omega,rfl⟩,by simp only[aa];omega,?_,λkn kx=> ?_⟩
  ·simp only[bV,bR.L0.F,aa]
   rw[ax h]
   rfl
  ·rw[bR.L0.step,aU (by omega),bt (by omega) (by omega),aa,n1]
   obtain⟨⟨ks,af,dl,sc,u⟩,Ry⟩:∃b,bs[k]=b:=⟨_,rfl⟩
   rw[Ry]at hx e0 ⊢
   obtain⟨Pt,ha,hd⟩:=hx
   have Pt:ks.length<=12:=Pt
   have ha:af<=9223372036854775807:=ha
   have hd:dl<=9223372036854775807:=hd
   have l1:=ij o ks.length
   have l2:=xg ks (fP o ks.length)
   have l3:=ij (oN (fP o ks.length) ks) af
   have l4:=ij (fP (oN (fP o ks.length) ks) af) dl
   simp only[ag]
   rw[gX.run (d:=(o,(ks.length:Int))) ⟨by show o.length<=90000000;omega,by show(ks.length:Int)<=9223372036854775807;omega⟩]
   simp only[ae,bV,gX.F]
   rw[bR.L1.run (d:=(fP o ks.length,bs,bs.length,k,ks,ks.length,0,(ks,af,dl,sc,u))) ⟨Pt,by show(fP o ks.length).length+8*ks.length<=_;omega,rfl,0,by omega,rfl⟩]
   simp only[ae,bR.L1.add,bR.L1.F,b5,aI]
   rw[gX.run (d:=(oN (fP o ks.length) ks,af)) ⟨by show(oN (fP o ks.length) ks).length<=90000000;omega,ha⟩]
   simp only[ae,bV,gX.F]
   rw[gX.run (d:=(fP (oN (fP o ks.length) ks) af,dl)) ⟨by show(fP (oN (fP o ks.length) ks) af).length<=90000000;omega,hd⟩]
   simp only[ae,bV,gX.F]
   rw[jH.run (d:=(fP (fP (oN (fP o ks.length) ks) af) dl,sc)) (by show(fP (fP (oN (fP o ks.length) ks) af) dl).length<=90000000;omega)]
   simp only[ae,bV,jH.F]
   rw[N.py (by omega)]
   rfl
 ·right
  obtain rfl:k=bs.length:=by omega
  intro R kn kx
  rw[bR.L0.step]
  simp(disch:=omega) only[↓S1,↓if_pos,↓if_neg,if_pos,if_neg,if_true,if_false,S2,bV,bR.L0.F,aY]
  rfl
theorem J3{l:Lk}(h:qk l=true):(∀b∈l.1,QD b)/\0 < l.1.length/\l.1.length<=4:=by
 unfold qk at h
 simp only[ah,cY,decide_eq_true_eq]at h
 exact⟨λb hb=>Nf (h.1 b hb),h.2⟩
theorem bR.ok:bR.Ok:=by
 rintro l ⟨hl,hb⟩
 have hl:Ml l:=hl
 rw[bR.eq,aS.run (d:=l) ⟨hl,hb⟩]
 simp only[ae,bV,aS.F,bV,bR.F,LG]
 cases nm:qk l
 ·rfl
 ·obtain⟨h1,h2,h3⟩:=J3 nm
  have l1:=ij [] l.1.length
  have l0:([]:List Int).length=0:=rfl
  simp only[bM,ai,if_true]
  rw[gX.run (d:=([],(l.1.length:Int))) ⟨by show([]:List Int).length<=90000000;omega,by show(l.1.length:Int)<=9223372036854775807;omega⟩]
  simp only[ae,bV,gX.F]
  rw[bR.L0.run (d:=(fP [] l.1.length,l.1,l.1.length,0)) ⟨h1,h3,by show(fP [] l.1.length).length<=_;omega,rfl,0,by omega,rfl⟩]
  rfl
theorem Hb(l:Lk):(LG l).length<=1000:=by
 unfold LG
 split
 ·rename_i h
  obtain⟨h1,h2,h3⟩:=J3 h
  have key:∀(bs:List tl) (o:List Int),(∀b∈bs,QD b)->(bs.foldl Nd o).length<=o.length+200*bs.length:=by
   intro bs
   induction bs with
   |nil=>intro o _;exact az _
   |cons b bs ih=>
    intro o hb
    have e1:=ih (Nd o b) λx hx=>hb x (aH _ hx)
    have e2:=GQ o b (hb b aK).1
    rw[cG,aG];omega
  have e:=key l.1 (fP [] l.1.length) h1
  have e2:=ij [] l.1.length
  have l0:([]:List Int).length=0:=rfl
  omega
 ·exact aP _
theorem bR.run:bR.RS:=rE [.d re] bR
def bR.sg:=bR.gk bR.ok 2 ⟨.iY bR.L0.ok,⟨.iY bR.L1.ok,trivial⟩⟩
abbrev j4.D:=Bs×Bs
abbrev j4.Y:=Bs
def j4.bf:j4.D->Prop:=λ(b,h)=>b.length+h.length<=100000000/\h.length=32
def j4.F:j4.D->j4.Y:=λ(b,h)=>b++h
def j4:Fs Tryz.prog j4.bf bV j4.F:=gf 124 Tryz.f124 (λ(b,h)=>([.d tB b,.d tH h],[])) (λx=>⟨.d tB x,[],[]⟩) [some tB,some tH] [gD.sg]
theorem j4.eq{R:Type}(b h)(k:K1 R):j4.A (b,h) k=
 aB (gD.call (b,(cut h 0 32))) λx1=>
 k (j4.out x1):=by kernel_rfl
theorem j4.ok:j4.Ok:=by
 rintro⟨b,h⟩ ⟨h1,h2⟩
 have h1:b.length+h.length<=100000000:=h1
 have h2:h.length=32:=h2
 rw[j4.eq,iW h2,gD.run (d:=(b,h)) h1]
 rfl
theorem j4.run:j4.RS:=rE [.d tB,.d tB] j4
def j4.sg:=j4.gk j4.ok
abbrev jS.D:=Bs×Bs
abbrev jS.Y:=Bs
def jS.bf:jS.D->Prop:=λ(b,c)=>b.length+c.length<=90000000
def jS.F:jS.D->jS.Y:=λ(b,c)=>b++(Ag c.length++c)
def jS:Fs Tryz.prog jS.bf bV jS.F:=gf 145 Tryz.f145 (λ(b,c)=>([.d tB b,.d tB c],[])) (λx=>⟨.d tB x,[],[]⟩) [some tB,some tB] [fK.sg,bk.sg] {res:=[some tB]}
theorem jS.eq{R:Type}(b c)(k:K1 R):jS.A (b,c) k=
 aB (fK.call (c.length:Int)) λx1=>
 aB (bk.call [b,x1,c]) λx2=>
 k (jS.out x2):=by kernel_rfl
theorem jS.ok:jS.Ok:=by
 rintro⟨b,c⟩ h
 have h:b.length+c.length<=90000000:=h
 have hl:=wk c.length
 rw[jS.eq,fK.run (d:=(c.length:Int)) ⟨by omega,by omega⟩]
 simp only[ae,bV,fK.F]
 rw[bk.run (d:=[b,Ag c.length,c]) ⟨by show [b,Ag c.length,c].length<=_;simp,by show mG [b,Ag c.length,c]<=_;simp only[mG,fW,jE,cM,av];omega⟩]
 simp only[ae,bV,bk.F,bV,jS.F,fW,jE,cM]
theorem jS.run:jS.RS:=rE [.d tB,.d tB] jS
def jS.sg:=jS.gk jS.ok
def AJ(b:List Int)(x:jO):List Int:=fP (b++x.1.1) x.1.2.1
def A1(b:List Int)(o:na):List Int:=fP b o.1++(Ag (LG o.2.1).length++LG o.2.1)
def sU(t:ke):List Int:=fP (t.2.1.foldl A1 (fP (t.1.foldl AJ (fP [] t.1.length)) t.2.1.length)) t.2.2.1
def EY(t:ke):List Int:=if lE t then tag (cr (⟨#[116,120]⟩:ByteArray)) [sU t] else List.replicate 32 0
def Tp(x:jO):Prop:=Sm x.1.1/\M7 x.2.1/\x.2.1.2.1.length<=9223372036854775807
def C2(t:ke):Prop:=SR t/\(∀x∈t.1,Tp x)/\t.2.2.1<=9223372036854775807
theorem vI:∀(l:List jO) (m:List (jm×Bool)),tQ m l=true->∀x∈l,zu x=true
 |[],_,_,x,hx=>by cases hx
 |y::l,m,h,x,hx=>by
  rw[tQ,ah,ah]at h
  rcases bY.1 hx with rfl | hx
  ·exact h.1.2
  ·exact vI l _ h.2 x hx
theorem uX:∀(l:List na) (s:Int),rN s l=true->∀o∈l,(0<=o.1/\o.1<=1125899906842624)/\qk o.2.1=true
 |[],_,_,o,ho=>by cases ho
 |y::l,s,h,o,ho=>by
  rw[rN,ah,ah]at h
  rcases bY.1 ho with rfl | ho
  ·have h1:=h.1.1
   unfold qn mB at h1
   simp only[ah,decide_eq_true_eq]at h1
   exact⟨h1.2.1,h.1.2⟩
  ·exact uX l _ h.2 o ho
theorem JQ{x:jO}(h:zu x=true):0<=x.1.2.1/\x.1.2.1 < 64/\0<=x.2.1.1/\x.2.1.1 < 4/\x.2.1.2.1.length<=12:=by
 unfold zu so at h
 simp only[ah,decide_eq_true_eq]at h
 exact⟨h.1.1,h.1.2,h.2.1.1,h.2.1.2,h.2.2⟩
theorem xA{t:ke}(h:lE t=true):(1<=t.1.length/\t.1.length<=64/\t.2.1.length<=64/\0<=t.2.2.1)/\tQ [] t.1=true/\rN 0 t.2.1=true:=by
 unfold lE Ay at h
 simp only[ah,decide_eq_true_eq]at h
 exact h
theorem G5(b:List Int)(x:jO):(AJ b x).length<=b.length+x.1.1.length+11:=by
 have:=ij (b++x.1.1) x.1.2.1
 rw[av]at this
 exact this
theorem Er(b:List Int)(o:na):(A1 b o).length<=b.length+1022:=by
 have h1:=ij b o.1
 have h2:=wk (LG o.2.1).length
 have h3:=Hb o.2.1
 unfold A1
 rw[av,av]
 omega
abbrev bG.L0.D:=ke×Bs×(List jO)×Int×Int
abbrev bG.L0.Y:=Bs
abbrev bG.L0.X:=(ke)×(Bs)
def bG.L0.add:bG.L0.D->bG.L0.Y->bG.L0.X:=λ(wJ,b,t13,t14,t15) y=>(wJ,y)
abbrev bG.L1.D:=ke×Bs×(List na)×Int×Int
abbrev bG.L1.Y:=Bs
abbrev bG.L1.X:=(ke)×(Bs)
def bG.L1.add:bG.L1.D->bG.L1.Y->bG.L1.X:=λ(E7,kD,t35,t36,t37) y=>(E7,y)
abbrev bG.D:=ke
abbrev bG.Y:=Bs
def bG.L0.bf:bG.L0.D->Prop:=λ(t,b,l,n,i)=>(l).length<=1000000000/\∃k:Nat,k<=(l).length/\i=k/\n=(l).length/\(l.length<=64)/\(∀x∈l,x.1.1.length=32/\x.1.2.1<=9223372036854775807)/\(b.length<=100+50*k)
def bG.L0.F:bG.L0.D->bG.L0.Y:=λ(t,b,l,n,i)=>(List.drop (Int.toNat i) l).foldl AJ b
def bG.L1.bf:bG.L1.D->Prop:=λ(t,b,l,n,i)=>(l).length<=1000000000/\∃k:Nat,k<=(l).length/\i=k/\n=(l).length/\(l.length<=64)/\(∀o∈l,o.1<=9223372036854775807/\KS o.2.1)/\(b.length<=4000+1100*k)
def bG.L1.F:bG.L1.D->bG.L1.Y:=λ(t,b,l,n,i)=>(List.drop (Int.toNat i) l).foldl A1 b
def bG.bf:bG.D->Prop:=λt=>lE t=true/\C2 t
def bG.F:bG.D->bG.Y:=λt=>sU t
def bG.L0:Ls bG.L0.bf bG.L0.add bG.L0.F:=ra (λ(wJ,b,t13,t14,t15)=>⟨([.undef,.eS px wJ,.undef,.d tB b]++bm 9 ([.d (.slice kL) t13,.d ti t14,.d ti t15]++bm 38 [])),[],(List.replicate 54 [])⟩) (λx=>(.exit 0,⟨([.undef,.eS px x.1,.undef,.d tB x.2]++bm 50 []),[],(List.replicate 54 [])⟩))
def bG.L1:Ls bG.L1.bf bG.L1.add bG.L1.F:=ra (λ(E7,kD,t35,t36,t37)=>⟨([.undef,.eS px E7,.undef,.d tB kD]++bm 31 ([.d (.slice mZ) t35,.d ti t36,.d ti t37]++bm 16 [])),[],(List.replicate 54 [])⟩) (λx=>(.exit 2,⟨([.undef,.eS px x.1,.undef,.d tB x.2]++bm 50 []),[],(List.replicate 54 [])⟩))
def bG:Fs Tryz.prog bG.bf bV bG.F:=gf 73 Tryz.f73 (λt=>([.d px t],[])) (λx=>⟨.d tB x,[],[]⟩) [some px] [gX.sg,j4.sg,bR.sg,jS.sg] {loops:=qu [(3,{bA:=[1,3,13,14,15]}),(9,{bA:=[1,3,35,36,37]})],outs:=qt [(3,{bA:=[1,3]},{bA:=[2]}),(9,{bA:=[1,3]},{bA:=[2]})],jl:=qU [(3,bG.L0.E),(9,bG.L1.E)],res:=[some tB]}
theorem bG.L0.run:bG.L0.RS:=rL [.d px,.d tB,.d (.slice kL),.d ti,.d ti] bG.L0
theorem bG.L0.step{R:Type}(wJ b t13 t14 t15)(kn:K2 R)(kx:K3 R):bG.R 0 bG.L0 (wJ,b,t13,t14,t15) kn kx=
  aN ((iX t15 t14)) (
   aN (gw t15 (t13.length:Int)) (
   aB (j4.call (b,(nth kL t13 (Int.toNat t15)).1.1)) λx1=>
   aB (gX.call (x1,(nth kL t13 (Int.toNat t15)).1.2.1)) λx2=>
   kn (bG.L0.st (wJ,x2,t13,t14,(bQ .i64 t15 1)))) none) (
   bG.L0.go kx (wJ,b)):=by kernel_rfl
theorem bG.L1.run:bG.L1.RS:=rL [.d px,.d tB,.d (.slice mZ),.d ti,.d ti] bG.L1
theorem bG.L1.step{R:Type}(E7 kD t35 t36 t37)(kn:K2 R)(kx:K3 R):bG.R 1 bG.L1 (E7,kD,t35,t36,t37) kn kx=
  aN ((iX t37 t36)) (
   aN (gw t37 (t35.length:Int)) (
   aB (gX.call (kD,(nth mZ t35 (Int.toNat t37)).1)) λx1=>
   aB (bR.call (nth mZ t35 (Int.toNat t37)).2.1) λx2=>
   aB (jS.call (x1,x2)) λx3=>
   kn (bG.L1.st (E7,x3,t35,t36,(bQ .i64 t37 1)))) none) (
   bG.L1.go kx (E7,kD)):=by kernel_rfl
theorem bG.eq{R:Type}(t)(k:K1 R):bG.A t k=
 aB (gX.call (([]:List Int),(t.1.length:Int))) λx1=>
 aB (bG.L0.call (t,x1,t.1,(t.1.length:Int),0)) λx4=>
 aB (gX.call (x4.2,(x4.1.2.1.length:Int))) λx5=>
 aB (bG.L1.call (x4.1,x5,x4.1.2.1,(x4.1.2.1.length:Int),0)) λx9=>
 aB (gX.call (x9.2,x9.1.2.2.1)) λIU=>
 k (bG.out IU):=by kernel_rfl
theorem bG.L0.ok:(bG.lP 0 bG.L0):=by
 refine(bG.mS 0 bG.L0) (λ(t,b,l,n,i)=>(l).length - Int.toNat i) ?_
 rintro⟨t,b,l,n,i⟩ ⟨hlen,k,hk,rfl,rfl,ND,hx,hb⟩
 have hlen:(l).length<=1000000000:=hlen
 have hk:k<=(l).length:=hk
 have ND:l.length<=64:=ND
 have hx:∀x∈l,x.1.1.length=32/\x.1.2.1<=9223372036854775807:=hx
 have hb:b.length<=100+50*k:=hb
 by_cases h:k < (l).length
 ·left
  have n1:nth kL l k=l[k]:=dq (t:=kL) h
  have hd:List.drop k l=l[k]::List.drop (k+1) l:=ax h
  refine⟨(t,(AJ b l[k]),l,((l).length:Int),((k+1:Nat):Int)),⟨hlen,k+1,by omega,rfl,rfl,ND,hx,by have:=G5 b l[k];have:=(hx _ (bH h)).1;omega⟩,by simp only[aa];omega,?_,λkn kx=> ?_⟩
  ·simp only[bG.L0.add,bG.L0.F,aa,hd,cG]
  ·rw[bG.L0.step,aU (by omega),bt (by omega) (by omega),aa,n1]
   simp only[ag]
   have e:=hx _ (bH h)
   have e2:(b++l[k].1.1).length=b.length+l[k].1.1.length:=av
   rw[j4.run (d:=(b,l[k].1.1)) ⟨by show b.length+l[k].1.1.length<=_;omega,e.1⟩]
   simp only[ae,bV,j4.F]
   rw[gX.run (d:=(b++l[k].1.1,l[k].1.2.1)) ⟨by show(b++l[k].1.1).length<=_;omega,e.2⟩]
   simp only[ae,bV,gX.F]
   rw[N.py (by omega)]
   rfl
 ·right
  obtain rfl:k=(l).length:=by omega
  intro R kn kx
  rw[bG.L0.step,aW (by omega),ai]
  simp only[bG.L0.add,bG.L0.F,aa,aY,fy]
theorem bG.L1.ok:(bG.lP 1 bG.L1):=by
 refine(bG.mS 1 bG.L1) (λ(t,b,l,n,i)=>(l).length - Int.toNat i) ?_
 rintro⟨t,b,l,n,i⟩ ⟨hlen,k,hk,rfl,rfl,ND,hx,hb⟩
 have hlen:(l).length<=1000000000:=hlen
 have hk:k<=(l).length:=hk
 have ND:l.length<=64:=ND
 have hx:∀o∈l,o.1<=9223372036854775807/\KS o.2.1:=hx
 have hb:b.length<=4000+1100*k:=hb
 by_cases h:k < (l).length
 ·left
  have n1:nth mZ l k=l[k]:=dq (t:=mZ) h
  have hd:List.drop k l=l[k]::List.drop (k+1) l:=ax h
  refine⟨(t,(A1 b l[k]),l,((l).length:Int),((k+1:Nat):Int)),⟨hlen,k+1,by omega,rfl,rfl,ND,hx,by have:=Er b l[k];omega⟩,by simp only[aa];omega,?_,λkn kx=> ?_⟩
  ·simp only[bG.L1.add,bG.L1.F,aa,hd,cG]
  ·rw[bG.L1.step,aU (by omega),bt (by omega) (by omega),aa,n1]
   simp only[ag]
   have e:=hx _ (bH h)
   have e1:=ij b l[k].1
   have e2:=Hb l[k].2.1
   rw[gX.run (d:=(b,l[k].1)) ⟨by show b.length<=_;omega,e.1⟩]
   simp only[ae,bV,gX.F]
   rw[bR.run (d:=l[k].2.1) e.2]
   simp only[ae,bV,bR.F]
   rw[jS.run (d:=(fP b l[k].1,LG l[k].2.1)) (by show(fP b l[k].1).length+(LG l[k].2.1).length<=_;omega)]
   simp only[ae,bV,jS.F]
   rw[N.py (by omega)]
   rfl
 ·right
  obtain rfl:k=(l).length:=by omega
  intro R kn kx
  rw[bG.L1.step,aW (by omega),ai]
  simp only[bG.L1.add,bG.L1.F,aa,aY,fy]
theorem CD:∀(l:List jO) (b:List Int),(∀x∈l,x.1.1.length=32)->(l.foldl AJ b).length<=b.length+43*l.length
 |[],b,_=>az _
 |x::l,b,h=>by
  have h1:=G5 b x
  have h2:=h x aK
  have h3:=CD l (AJ b x) λy hy=>h y (aH _ hy)
  rw[cG,aG]
  omega
theorem zZ:∀(l:List na) (b:List Int),(l.foldl A1 b).length<=b.length+1022*l.length
 |[],b=>az _
 |x::l,b=>by
  have h1:=Er b x
  have h3:=zZ l (A1 b x)
  rw[cG,aG]
  omega
theorem Gh{t:ke}(nm:lE t=true)(hv:C2 t):(sU t).length<=70000:=by
 obtain⟨⟨_,a2,a3,_⟩,_,_⟩:=xA nm
 have h1:=CD t.1 (fP [] t.1.length) λx hx=>(hv.2.1 x hx).1.1
 have h2:=ij [] t.1.length
 have h3:=ij (t.1.foldl AJ (fP [] t.1.length)) t.2.1.length
 have h4:=zZ t.2.1 (fP (t.1.foldl AJ (fP [] t.1.length)) t.2.1.length)
 have h5:=ij (t.2.1.foldl A1 (fP (t.1.foldl AJ (fP [] t.1.length)) t.2.1.length)) t.2.2.1
 have h0:([]:List Int).length=0:=rfl
 unfold sU
 omega
theorem bG.ok:bG.Ok:=by
 rintro t ⟨nm,hv⟩
 have hv:C2 t:=hv
 obtain⟨⟨_,a2,a3,_⟩,b1,b2⟩:=xA nm
 have h0:([]:List Int).length=0:=rfl
 have l0:=ij [] t.1.length
 have l1:=CD t.1 (fP [] t.1.length) λx hx=>(hv.2.1 x hx).1.1
 have l2:=ij (t.1.foldl AJ (fP [] t.1.length)) t.2.1.length
 have l3:=zZ t.2.1 (fP (t.1.foldl AJ (fP [] t.1.length)) t.2.1.length)
 rw[bG.eq,gX.run (d:=([],(t.1.length:Int))) ⟨by show([]:List Int).length<=_;omega,by show(t.1.length:Int)<=_;omega⟩]
 simp only[ae,bV,gX.F]
 rw[bG.L0.run (d:=(t,fP [] t.1.length,t.1,t.1.length,0)) ⟨by show t.1.length<=_;omega,0,aP _,rfl,rfl,a2,λx hx=>⟨(hv.2.1 x hx).1.1,by have:=JQ (vI _ _ b1 x hx);omega⟩,by show(fP [] t.1.length).length<=_;omega⟩]
 simp only[ae,bG.L0.add,bG.L0.F,b5,aI]
 rw[gX.run (d:=(t.1.foldl AJ (fP [] t.1.length),(t.2.1.length:Int))) ⟨by show(t.1.foldl AJ (fP [] t.1.length)).length<=_;omega,by show(t.2.1.length:Int)<=_;omega⟩]
 simp only[ae,bV,gX.F]
 rw[bG.L1.run (d:=(t,fP (t.1.foldl AJ (fP [] t.1.length)) t.2.1.length,t.2.1,t.2.1.length,0)) ⟨by show t.2.1.length<=_;omega,0,aP _,rfl,rfl,a3,λo ho=>⟨by have:=(uX _ _ b2 o ho).1;omega,hv.1.1 o ho⟩,by show(fP (t.1.foldl AJ (fP [] t.1.length)) t.2.1.length).length<=_;omega⟩]
 simp only[ae,bG.L1.add,bG.L1.F,b5,aI]
 rw[gX.run (d:=(t.2.1.foldl A1 (fP (t.1.foldl AJ (fP [] t.1.length)) t.2.1.length),t.2.2.1)) ⟨by show(t.2.1.foldl A1 (fP (t.1.foldl AJ (fP [] t.1.length)) t.2.1.length)).length<=_;omega,hv.2.2⟩]
 rfl
theorem bG.run:bG.RS:=rE [.d px] bG
def bG.sg:=bG.gk bG.ok 2 ⟨.iY bG.L0.ok,⟨.iY bG.L1.ok,trivial⟩⟩
def jz(t:ke):List jm:=if lE t then t.1.map (·.1) else []
def J8(id:List Int)(k n:Nat):List jm:=(List.range' k n).map λi:Nat=>(id,((i:Int),()))
def oO(t:ke):List jm:=if lE t then J8 (EY t) 0 t.2.1.length else []
abbrev tid.D:=ke
abbrev tid.Y:=Bs
def tid.bf:tid.D->Prop:=λt=>C2 t
def tid.F:tid.D->tid.Y:=λt=>EY t
def tid:Fs Tryz.prog tid.bf bV tid.F:=gf 18 Tryz.f18 (λt=>([.d px t],[])) (λx=>⟨.d tH x,[],[]⟩) [some px] [aD.sg,bG.sg,eL.sg]
theorem tid.eq{R:Type}(t)(k:K1 R):tid.A t k=
  aB (aD.call t) λx1=>
  aN ((!x1)) (
   k (tid.out (List.replicate 32 0))) (
   aB (bG.call t) λx2=>
   aB (eL.call ((⟨#[116,120]⟩:ByteArray),[x2])) λx3=>
   k (tid.out x3)):=by kernel_rfl
theorem tid.ok:tid.Ok:=by
 intro t hv
 have hv:C2 t:=hv
 rw[tid.eq,aD.run (d:=t) hv.1]
 simp only[ae,bV,aD.F,bV,tid.F,EY]
 cases nm:lE t
 ·rfl
 ·have hl:=Gh nm hv
  rw[bG.run (d:=t) ⟨nm,hv⟩]
  simp only[bM,ai,if_true,ae,bV,bG.F]
  rw[eL.run (d:=((⟨#[116,120]⟩:ByteArray),[sU t])) (KE (by decide) (by omega))]
  rfl
theorem tid.run:tid.RS:=rE [.d px] tid
def tid.sg:=tid.gk tid.ok
abbrev mW.D:=(List jO)
abbrev mW.Y:=Nat×(List jO)
def mW.bf:mW.D->Prop:=λl=>l.length<=1000000
def mW.F:mW.D->mW.Y:=λl=>(l.length,l)
def mW:Fs Tryz.prog mW.bf bV mW.F:=gf 138 Tryz.f138 (λsv=>([.d (.slice kL) sv],[])) (λx=>⟨.cO (.new 0 0) 0 [] 0 0 x.1,[],[.obj 0 false (.vec 52 kL x.2)]⟩) [some (.slice kL)] [] {bE:=[5],owns:=[⟨2,[],5,38⟩]}
theorem mW.eq{R:Type}(sv)(k:K1 R):mW.A sv k=
  aN (decide (0 < (List.length sv))) (
   aN (dX (0+(List.length sv)) 80) (
   k (mW.out ((0+(List.length sv)),((List.take 0 (List.replicate 0 (((List.replicate 32 0),(0,())),((0,(([]:List Sg),(0,()))),()))))++sv)))) none) (
   nd (
    k (mW.out (0,([]:List jO)))) (
    aN (dX (0+(List.length sv)) 80) (
    k (mW.out ((0+(List.length sv)),((List.take 0 (List.replicate 0 (((List.replicate 32 0),(0,())),((0,(([]:List Sg),(0,()))),()))))++sv)))) none)):=by kernel_rfl
theorem mW.ok:mW.Ok:=by
 intro l hl
 have hl:l.length<=1000000:=hl
 have hr:dX l.length 80=true:=fh (by omega) (by omega)
 rw[mW.eq]
 simp only[aR,hr,ag,eO,bh,bV,mW.F]
 by_cases h:0 < l.length
 ·simp only[aX h,ag]
 ·have:l=[]:=aQ (by omega)
  subst this
  simp only[aZ,tF,cC (iA 0),ai]
theorem mW.run:mW.RS:=rE [.d (.slice kL)] mW
def mW.sg:=mW.gk mW.ok
abbrev js.D:=(List na)
abbrev js.Y:=Nat×(List na)
def js.bf:js.D->Prop:=λl=>l.length<=1000000
def js.F:js.D->js.Y:=λl=>(l.length,l)
def js:Fs Tryz.prog js.bf bV js.F:=gf 139 Tryz.f139 (λsv=>([.d (.slice mZ) sv],[])) (λx=>⟨.cO (.new 0 0) 0 [] 0 0 x.1,[],[.obj 0 false (.vec 36 mZ x.2)]⟩) [some (.slice mZ)] [] {bE:=[5],owns:=[⟨2,[],5,37⟩]}
theorem js.eq{R:Type}(sv)(k:K1 R):js.A sv k=
  aN (decide (0 < (List.length sv))) (
   aN (dX (0+(List.length sv)) 32) (
   k (js.out ((0+(List.length sv)),((List.take 0 (List.replicate 0 (0,((([]:List tl),()),()))))++sv)))) none) (
   nd (
    k (js.out (0,([]:List na)))) (
    aN (dX (0+(List.length sv)) 32) (
    k (js.out ((0+(List.length sv)),((List.take 0 (List.replicate 0 (0,((([]:List tl),()),()))))++sv)))) none)):=by kernel_rfl
theorem js.ok:js.Ok:=by
 intro l hl
 have hl:l.length<=1000000:=hl
 have hr:dX l.length 32=true:=fh (by omega) (by omega)
 rw[js.eq]
 simp only[aR,hr,ag,eO,bh,bV,js.F]
 by_cases h:0 < l.length
 ·simp only[aX h,ag]
 ·have:l=[]:=aQ (by omega)
  subst this
  simp only[aZ,tF,cC (iA 0),ai]
theorem js.run:js.RS:=rE [.d (.slice mZ)] js
def js.sg:=js.gk js.ok
abbrev lv.D:=(List tl)
abbrev lv.Y:=Nat×(List tl)
def lv.bf:lv.D->Prop:=λl=>l.length<=1000000
def lv.F:lv.D->lv.Y:=λl=>(l.length,l)
def lv:Fs Tryz.prog lv.bf bV lv.F:=gf 141 Tryz.f141 (λsv=>([.d (.slice mU) sv],[])) (λx=>⟨.cO (.new 0 0) 0 [] 0 0 x.1,[],[.obj 0 false (.vec 29 mU x.2)]⟩) [some (.slice mU)] [] {bE:=[5],owns:=[⟨2,[],5,32⟩]}
theorem lv.eq{R:Type}(sv)(k:K1 R):lv.A sv k=
  aN (decide (0 < (List.length sv))) (
   aN (dX (0+(List.length sv)) 48) (
   k (lv.out ((0+(List.length sv)),((List.take 0 (List.replicate 0 (([]:List Int),(0,(0,(0,()))))))++sv)))) none) (
   nd (
    k (lv.out (0,([]:List tl)))) (
    aN (dX (0+(List.length sv)) 48) (
    k (lv.out ((0+(List.length sv)),((List.take 0 (List.replicate 0 (([]:List Int),(0,(0,(0,()))))))++sv)))) none)):=by kernel_rfl
theorem lv.ok:lv.Ok:=by
 intro l hl
 have hl:l.length<=1000000:=hl
 have hr:dX l.length 48=true:=fh (by omega) (by omega)
 rw[lv.eq]
 simp only[aR,hr,ag,eO,bh,bV,lv.F]
 by_cases h:0 < l.length
 ·simp only[aX h,ag]
 ·have:l=[]:=aQ (by omega)
  subst this
  simp only[aZ,tF,cC (iA 0),ai]
theorem lv.run:lv.RS:=rE [.d (.slice mU)] lv
def lv.sg:=lv.gk lv.ok
abbrev jt.D:=(List Sg)
abbrev jt.Y:=(List Sg)
def jt.bf:jt.D->Prop:=λl=>l.length<=1000000
def jt.F:jt.D->jt.Y:=λl=>l
def jt:Fs Tryz.prog jt.bf bV jt.F:=gf 140 Tryz.f140 (λsv=>([.d (.slice I7) sv],[])) (λx=>⟨.d (.slice I7) x,[],[]⟩) [some (.slice I7)] [] {bE:=[5],res:=[some (.slice I7)]}
theorem jt.eq{R:Type}(sv)(k:K1 R):jt.A sv k=
  aN (decide (0 < (List.length sv))) (
   aN (dX (0+(List.length sv)) 16) (
   aN (decide (0=0/\(0+(0+(List.length sv)))<=(List.length ((List.take 0 (List.replicate 0 (0,(0,()))))++sv)))) (
   k (jt.out (cut ((List.take 0 (List.replicate 0 (0,(0,()))))++sv) 0 (0+(List.length sv))))) none) none) (
   nd (
    k (jt.out ([]:List Sg))) (
    aN (dX (0+(List.length sv)) 16) (
    aN (decide (0=0/\(0+(0+(List.length sv)))<=(List.length ((List.take 0 (List.replicate 0 (0,(0,()))))++sv)))) (
    k (jt.out (cut ((List.take 0 (List.replicate 0 (0,(0,()))))++sv) 0 (0+(List.length sv))))) none) none)):=by kernel_rfl
theorem jt.ok:jt.Ok:=by
 intro l hl
 have hl:l.length<=1000000:=hl
 have hr:dX l.length 16=true:=fh (by omega) (by omega)
 rw[jt.eq]
 simp only[aR,hr,ag,eO,bh,az,and_self,decide_true,iW,bV,jt.F]
 by_cases h:0 < l.length
 ·simp only[aX h,ag]
 ·have:l=[]:=aQ (by omega)
  subst this
  simp only[aZ,tF,cC (iA 0),ai]
theorem jt.run:jt.RS:=rE [.d (.slice I7)] jt
def jt.sg:=jt.gk jt.ok
abbrev aM.L0.D:=Int×Int×Nat×Nat×(Int×Unit)×(Int×Unit)×(List jO)×(List na)
abbrev aM.L0.Y:=(List jO)
abbrev aM.L0.X:=(Nat×Nat×(Int×Unit)×(Int×Unit)×(List na))×((List jO))
def aM.L0.add:aM.L0.D->aM.L0.Y->aM.L0.X:=λ(t17,t18,C5,zQ,n1,n2,n9,n12) y=>((C5,zQ,n1,n2,n12),y)
abbrev aM.L1.D:=Int×Int×Nat×Nat×(Int×Unit)×(Int×Unit)×(List jO)×(List na)
abbrev aM.L1.Y:=Nat×Nat×(Int×Unit)×(Int×Unit)×(List jO)×(List na)
abbrev aM.L2.D:=Int×Nat×Int×Int×Int×Int×Nat×Nat×(Int×Unit)×(Int×Unit)×(List jO)×(List na)×(List tl)
abbrev aM.L2.Y:=(List tl)×(List tl)
abbrev aM.L2.X:=(Int×Int×Int×Nat×Nat×(Int×Unit)×(Int×Unit)×(List jO)×(List na))×((List tl)×(List tl))
def aM.L2.add:aM.L2.D->aM.L2.Y->aM.L2.X:=λ(kv,lL,Au,Av,t51,t52,zR,zS,uU,pT,F9,zO,n49) y=>((kv,Au,Av,zR,zS,uU,pT,F9,zO),y)
abbrev aM.D:=ke
abbrev aM.Y:=Nat×((List na)×(Int×Unit))×(List jO)
def aM.L0.bf:aM.L0.D->Prop:=λ(m,i,L,L2,u,v,l,os)=>(l.length<=1000/\∀x∈l,x.2.1.2.1.length<=1000000)/\∃k:Nat,k<=l.length/\i=k/\m=l.length/\L=l.length
def aM.L0.F:aM.L0.D->aM.L0.Y:=λ(m,i,L,L2,u,v,l,os)=>l
def aM.L2.bf:aM.L2.D->Prop:=λ(kv,L,m1,i1,m,i,L5,L6,u,v,ls,os,bs)=>(bs.length<=1000/\∀x∈bs,x.1.length<=1000000)/\∃k:Nat,k<=bs.length/\i=k/\m=bs.length/\L=bs.length
def aM.L2.F:aM.L2.D->aM.L2.Y:=λ(kv,L,m1,i1,m,i,L5,L6,u,v,ls,os,bs)=>(bs,bs)
def aM.L1.bf:aM.L1.D->Prop:=λ(m,i,L3,L,u,v,ls,os)=>(os.length<=1000/\∀x∈os,x.2.1.1.length<=1000/\∀b∈x.2.1.1,b.1.length<=1000000)/\∃k:Nat,k<=os.length/\i=k/\m=os.length/\L=os.length
def aM.L1.F:aM.L1.D->aM.L1.Y:=λ(m,i,L3,L,u,v,ls,os)=>(L3,L,u,v,ls,os)
def aM.bf:aM.D->Prop:=λt=>lE t=true
def aM.F:aM.D->aM.Y:=λt=>(t.1.length,(t.2.1,t.2.2),t.1)
def aM.L0:Ls aM.L0.bf aM.L0.add aM.L0.F:=ra (λ(t17,t18,C5,zQ,n1,n2,n9,n12)=>⟨([.undef,.ptr (.new 1 0) 0 [] 0,.ptr (.new 2 0) 0 [] 0]++bm 14 ([.d ti t17,.d ti t18]++bm 56 [])),[],([[],[.obj 0 false (.pr (.cO (.new 9 0) 0 [] 0 0 C5) (.pr (.cO (.new 12 0) 0 [] 0 0 zQ) (.d (.pair ti .unit) n1)))],[.obj 0 false (.pr (.dp) (.pr (.dp) (.d (.pair ti .unit) n2)))]]++cS 6 ([[.obj 0 false (.vec 52 kL n9)],[],[],[.obj 0 false (.vec 36 mZ n12)]]++cS 62 []))⟩) (λx=>(.exit 0,⟨([.undef,.ptr (.new 1 0) 0 [] 0,.ptr (.new 2 0) 0 [] 0]++bm 72 []),[],([[],[.obj 0 false (.pr (.cO (.new 9 0) 0 [] 0 0 x.1.1) (.pr (.cO (.new 12 0) 0 [] 0 0 x.1.2.1) (.d (.pair ti .unit) x.1.2.2.1)))],[.obj 0 false (.pr (.dp) (.pr (.dp) (.d (.pair ti .unit) x.1.2.2.2.1)))]]++cS 6 ([[.obj 0 false (.vec 52 kL x.2)],[],[],[.obj 0 false (.vec 36 mZ x.1.2.2.2.2)]]++cS 62 []))⟩))
def aM.L1:Ls aM.L1.bf bV aM.L1.F:=ra (λ(t38,t39,Ej,BR,xl,qM,Kb,zN)=>⟨([.undef,.ptr (.new 1 0) 0 [] 0,.ptr (.new 2 0) 0 [] 0]++bm 35 ([.d ti t38,.d ti t39]++bm 35 [])),[],([[],[.obj 0 false (.pr (.cO (.new 9 0) 0 [] 0 0 Ej) (.pr (.cO (.new 12 0) 0 [] 0 0 BR) (.d (.pair ti .unit) xl)))],[.obj 0 false (.pr (.dp) (.pr (.dp) (.d (.pair ti .unit) qM)))]]++cS 6 ([[.obj 0 false (.vec 52 kL Kb)],[],[],[.obj 0 false (.vec 36 mZ zN)]]++cS 62 []))⟩) (λx=>(.exit 2,⟨([.undef,.ptr (.new 1 0) 0 [] 0,.ptr (.new 2 0) 0 [] 0]++bm 72 []),[],([[],[.obj 0 false (.pr (.cO (.new 9 0) 0 [] 0 0 x.1) (.pr (.cO (.new 12 0) 0 [] 0 0 x.2.1) (.d (.pair ti .unit) x.2.2.1)))],[.obj 0 false (.pr (.dp) (.pr (.dp) (.d (.pair ti .unit) x.2.2.2.1)))]]++cS 6 ([[.obj 0 false (.vec 52 kL x.2.2.2.2.1)],[],[],[.obj 0 false (.vec 36 mZ x.2.2.2.2.2)]]++cS 62 []))⟩))
def aM.L2:Ls aM.L2.bf aM.L2.add aM.L2.F:=ra (λ(kv,lL,Au,Av,t51,t52,zR,zS,uU,pT,F9,zO,n49)=>⟨([.undef,.ptr (.new 1 0) 0 [] 0,.ptr (.new 2 0) 0 [] 0,.undef,.d ti kv,.cO (.new 49 0) 0 [] 0 0 lL]++bm 32 ([.d ti Au,.d ti Av]++bm 11 ([.d ti t51,.d ti t52]++bm 22 []))),[],([[],[.obj 0 false (.pr (.cO (.new 9 0) 0 [] 0 0 zR) (.pr (.cO (.new 12 0) 0 [] 0 0 zS) (.d (.pair ti .unit) uU)))],[.obj 0 false (.pr (.dp) (.pr (.dp) (.d (.pair ti .unit) pT)))]]++cS 6 ([[.obj 0 false (.vec 52 kL F9)],[],[],[.obj 0 false (.vec 36 mZ zO)]]++cS 36 ([[.obj 0 false (.vec 29 mU n49)]]++cS 25 [])))⟩) (λx=>(.exit 4,⟨([.undef,.ptr (.new 1 0) 0 [] 0,.ptr (.new 2 0) 0 [] 0,.undef,.d ti x.1.1,.d (.slice mU) x.2.1]++bm 32 ([.d ti x.1.2.1,.d ti x.1.2.2.1]++bm 35 [])),[],([[],[.obj 0 false (.pr (.cO (.new 9 0) 0 [] 0 0 x.1.2.2.2.1) (.pr (.cO (.new 12 0) 0 [] 0 0 x.1.2.2.2.2.1) (.d (.pair ti .unit) x.1.2.2.2.2.2.1)))],[.obj 0 false (.pr (.dp) (.pr (.dp) (.d (.pair ti .unit) x.1.2.2.2.2.2.2.1)))]]++cS 6 ([[.obj 0 false (.vec 52 kL x.1.2.2.2.2.2.2.2.1)],[],[],[.obj 0 false (.vec 36 mZ x.1.2.2.2.2.2.2.2.2)]]++cS 36 ([[.obj 0 true (.vec 29 mU x.2.2)]]++cS 25 [])))⟩))
def aM:Fs Tryz.prog aM.bf bV aM.F:=gf 70 Tryz.f70 (λt=>([.d px t],[])) (λx=>⟨.pr (.cO (.new 0 0) 0 [] 0 0 x.1) (.d (.pair (.slice mZ) (.pair ti .unit)) x.2.1),[],[.obj 0 false (.vec 52 kL x.2.2)]⟩) [some px] [mW.sg,js.sg,jt.sg,lv.sg,fa.sg] {bE:=[1],loops:=qu [(3,{bA:=[1,2,17,18],sites:=[1,2,9,12]}),(8,{bA:=[1,2,38,39],sites:=[1,2,9,12]}),(12,{bA:=[1,2,4,5,38,39,51,52],sites:=[1,2,9,12,49]})],outs:=qt [(3,{bA:=[1,2],sites:=[1,2,9,12]},{bA:=[2]}),(8,{bA:=[1,2],sites:=[1,2,9,12]},{bA:=[2]}),(12,{bA:=[1,2,4,5,38,39],sites:=[1,2,9,12,49],data:=[(5,(.slice mU))]},{bA:=[2]})],jl:=qU [(3,aM.L0.E),(8,aM.L1.E),(12,aM.L2.E)],Fz:=[⟨2,[.snd,.fst],(.slice mZ)⟩]}
theorem aM.L0.run:aM.L0.RS:=rL [.d ti,.d ti,.n,.n,.d (.pair ti .unit),.d (.pair ti .unit),.d (.slice kL),.d (.slice mZ)] aM.L0
theorem aM.L0.step{R:Type}(t17 t18 C5 zQ n1 n2 n9 n12)(kn:K2 R)(kx:K3 R):aM.R 0 aM.L0 (t17,t18,C5,zQ,n1,n2,n9,n12) kn kx=
  aN ((iX t18 t17)) (
   aN (gw t18 ((C5:Nat):Int)) (
   aN (decide ((0+(Int.toNat t18)) < (List.length n9))) (
   aN (decide ((((0+(Int.toNat t18))*36)+34)=(((0+((Int.toNat t18)*36))+33)+1))) (
   aB (jt.call (nth kL n9 (0+(Int.toNat t18))).2.1.2.1) λx1=>
   aN (gw t18 ((C5:Nat):Int)) (
   aN (decide ((0+(Int.toNat t18)) < (List.length n9))) (
   aN (decide ((((0+(Int.toNat t18))*36)+34)=(((0+((Int.toNat t18)*36))+33)+1))) (
   aN (decide ((0+(Int.toNat t18)) < (List.length n9))) (
   kn (aM.L0.st (t17,(bQ .i64 t18 1),C5,zQ,n1,n2,(List.set n9 (0+(Int.toNat t18)) ((nth kL n9 (0+(Int.toNat t18))).1,(((nth kL n9 (0+(Int.toNat t18))).2.1.1,(x1,(nth kL n9 (0+(Int.toNat t18))).2.1.2.2)),(nth kL n9 (0+(Int.toNat t18))).2.2))),n12))) none) none) none) none) none) none) none) (
   aM.L0.go kx ((C5,zQ,n1,n2,n12),n9)):=by kernel_rfl
theorem aM.L1.run:aM.L1.RS:=rL [.d ti,.d ti,.n,.n,.d (.pair ti .unit),.d (.pair ti .unit),.d (.slice kL),.d (.slice mZ)] aM.L1
theorem aM.L1.step{R:Type}(t38 t39 Ej BR xl qM Kb zN)(kn:K2 R)(kx:K3 R):aM.R 1 aM.L1 (t38,t39,Ej,BR,xl,qM,Kb,zN) kn kx=
  aN ((iX t39 t38)) (
   aN (gw t39 ((BR:Nat):Int)) (
   aN (decide ((0+(Int.toNat t39)) < (List.length zN))) (
   aN (decide ((((0+(Int.toNat t39))*2)+1)=(((0+((Int.toNat t39)*2))+1)+0))) (
   aB (lv.call (nth mZ zN (0+(Int.toNat t39))).2.1.1) λx1=>
   aB (aM.L2.call (t39,x1.1,t38,t39,((x1.1:Nat):Int),0,Ej,BR,xl,qM,Kb,zN,x1.2)) λx2=>
   aN (gw x2.1.1 ((x2.1.2.2.2.2.1:Nat):Int)) (
   aN (decide ((0+(Int.toNat x2.1.1)) < (List.length x2.1.2.2.2.2.2.2.2.2))) (
   aN (decide ((((0+(Int.toNat x2.1.1))*2)+1)=(((0+((Int.toNat x2.1.1)*2))+1)+0))) (
   aN (decide ((0+(Int.toNat x2.1.1)) < (List.length x2.1.2.2.2.2.2.2.2.2))) (
   kn (aM.L1.st (x2.1.2.1,(bQ .i64 x2.1.2.2.1 1),x2.1.2.2.2.1,x2.1.2.2.2.2.1,x2.1.2.2.2.2.2.1,x2.1.2.2.2.2.2.2.1,x2.1.2.2.2.2.2.2.2.1,(List.set x2.1.2.2.2.2.2.2.2.2 (0+(Int.toNat x2.1.1)) ((nth mZ x2.1.2.2.2.2.2.2.2.2 (0+(Int.toNat x2.1.1))).1,((x2.2.1,(nth mZ x2.1.2.2.2.2.2.2.2.2 (0+(Int.toNat x2.1.1))).2.1.2),(nth mZ x2.1.2.2.2.2.2.2.2.2 (0+(Int.toNat x2.1.1))).2.2)))))) none) none) none) none) none) none) none) (
   aM.L1.go kx (Ej,BR,xl,qM,Kb,zN)):=by kernel_rfl
theorem aM.L2.run:aM.L2.RS:=rL [.d ti,.n,.d ti,.d ti,.d ti,.d ti,.n,.n,.d (.pair ti .unit),.d (.pair ti .unit),.d (.slice kL),.d (.slice mZ),.d (.slice mU)] aM.L2
theorem aM.L2.step{R:Type}(kv lL Au Av t51 t52 zR zS uU pT F9 zO n49)(kn:K2 R)(kx:K3 R):aM.R 2 aM.L2 (kv,lL,Au,Av,t51,t52,zR,zS,uU,pT,F9,zO,n49) kn kx=
  aN ((iX t52 t51)) (
   aN (gw t52 ((lL:Nat):Int)) (
   aN (decide ((0+(Int.toNat t52)) < (List.length n49))) (
   aN (decide ((((0+(Int.toNat t52))*4)+0)=((0+((Int.toNat t52)*4))+0))) (
   aB (fa.call (nth mU n49 (0+(Int.toNat t52))).1) λx1=>
   aN (gw t52 ((lL:Nat):Int)) (
   aN (decide ((0+(Int.toNat t52)) < (List.length n49))) (
   aN (decide ((((0+(Int.toNat t52))*4)+0)=((0+((Int.toNat t52)*4))+0))) (
   aN (decide ((0+(Int.toNat t52)) < (List.length n49))) (
   kn (aM.L2.st (kv,lL,Au,Av,t51,(bQ .i64 t52 1),zR,zS,uU,pT,F9,zO,(List.set n49 (0+(Int.toNat t52)) (x1,(nth mU n49 (0+(Int.toNat t52))).2))))) none) none) none) none) none) none) none) (
   aN (decide (0=0/\(0+lL)<=(List.length n49))) (
   aM.L2.go kx ((kv,Au,Av,zR,zS,uU,pT,F9,zO),((cut n49 0 lL),n49))) none):=by kernel_rfl
theorem aM.eq{R:Type}(t)(k:K1 R):aM.A t k=
 aB (mW.call t.1) λx1=>
 aB (js.call t.2.1) λx2=>
 aB (aM.L0.call (((x1.1:Nat):Int),0,x1.1,x2.1,t.2.2,(0,()),x1.2,x2.2)) λx4=>
 aB (aM.L1.call (((x4.1.2.1:Nat):Int),0,x4.1.1,x4.1.2.1,x4.1.2.2.1,x4.1.2.2.2.1,x4.2,x4.1.2.2.2.2)) λx8=>
 aN (decide (0=0/\(0+x8.2.1)<=(List.length x8.2.2.2.2.2))) (
 k (aM.out (x8.1,((cut x8.2.2.2.2.2 0 x8.2.1),x8.2.2.1),x8.2.2.2.2.1))) none:=by kernel_rfl
theorem aM.L0.ok:(aM.lP 0 aM.L0):=by
 refine(aM.mS 0 aM.L0) (λ(m,i,L,L2,u,v,l,os)=>l.length - Int.toNat i) ?_
 rintro⟨m,i,L,L2,u,v,l,os⟩ ⟨⟨hlen,hx⟩,k,hk,rfl,rfl,rfl⟩
 have hlen:l.length<=1000:=hlen
 have hk:k<=l.length:=hk
 by_cases h:k < l.length
 ·left
  have n1:nth kL l k=l[k]:=dq (t:=kL) h
  have hs:l.set k l[k]=l:=fw h
  have e:=hx _ (bH h)
  refine⟨((l.length:Int),((k+1:Nat):Int),l.length,L2,u,v,l,os),⟨⟨hlen,hx⟩,k+1,by omega,rfl,rfl,rfl⟩,by simp only[aa];omega,rfl,λkn kx=> ?_⟩
  rw[aM.L0.step,aU (by omega),bt (by omega) (by omega)]
  simp only[aa,aR,cn,dJ,Nat.reduceAdd,ag,aX h,decide_true,n1]
  rw[jt.run (d:=l[k].2.1.2.1) e]
  simp only[ae,bV,jt.F]
  rw[N.py (by omega)]
  exact congrArg (λz=>kn (aM.L0.st (_,_,_,_,_,_,z,_))) hs
 ·right
  obtain rfl:k=l.length:=by omega
  intro R kn kx
  rw[aM.L0.step,aW (by omega),ai]
  rfl
theorem aM.L2.ok:(aM.lP 2 aM.L2):=by
 refine(aM.mS 2 aM.L2) (λ(kv,L,m1,i1,m,i,L5,L6,u,v,ls,os,bs)=>bs.length - Int.toNat i) ?_
 rintro⟨kv,L,m1,i1,m,i,L5,L6,u,v,ls,os,bs⟩ ⟨⟨hlen,hx⟩,k,hk,rfl,rfl,rfl⟩
 have hlen:bs.length<=1000:=hlen
 have hk:k<=bs.length:=hk
 by_cases h:k < bs.length
 ·left
  have n1:nth mU bs k=bs[k]:=dq (t:=mU) h
  have hs:bs.set k bs[k]=bs:=fw h
  have e:=hx _ (bH h)
  refine⟨(kv,bs.length,m1,i1,(bs.length:Int),((k+1:Nat):Int),L5,L6,u,v,ls,os,bs),⟨⟨hlen,hx⟩,k+1,by omega,rfl,rfl,rfl⟩,by simp only[aa];omega,rfl,λkn kx=> ?_⟩
  rw[aM.L2.step,aU (by omega),bt (by omega) (by omega)]
  simp only[aa,aR,cn,dJ,Nat.reduceAdd,ag,aX h,decide_true,n1]
  rw[fa.run (d:=bs[k].1) e]
  simp only[ae,bV,fa.F]
  rw[N.py (by omega)]
  exact congrArg (λz=>kn (aM.L2.st (_,_,_,_,_,_,_,_,_,_,_,_,z))) hs
 ·right
  obtain rfl:k=bs.length:=by omega
  intro R kn kx
  rw[aM.L2.step,aW (by omega),ai]
  simp only[aR,az,and_self,decide_true,ag,iW]
  rfl
theorem aM.L1.ok:(aM.lP 1 aM.L1):=by
 refine(aM.mS 1 aM.L1) (λ(m,i,L3,L,u,v,ls,os)=>os.length - Int.toNat i) ?_
 rintro⟨m,i,L3,L,u,v,ls,os⟩ ⟨⟨hlen,hx⟩,k,hk,rfl,rfl,rfl⟩
 have hlen:os.length<=1000:=hlen
 have hk:k<=os.length:=hk
 by_cases h:k < os.length
 ·left
  have n1:nth mZ os k=os[k]:=dq (t:=mZ) h
  have hs:os.set k os[k]=os:=fw h
  have e:=hx _ (bH h)
  refine⟨((os.length:Int),((k+1:Nat):Int),L3,os.length,u,v,ls,os),⟨⟨hlen,hx⟩,k+1,by omega,rfl,rfl,rfl⟩,by simp only[aa];omega,rfl,λkn kx=> ?_⟩
  rw[aM.L1.step,aU (by omega),bt (by omega) (by omega)]
  simp only[aa,aR,cn,dJ,Nat.reduceAdd,ag,aX h,decide_true,n1]
  rw[lv.run (d:=os[k].2.1.1) (by show os[k].2.1.1.length<=_;have:=e.1;omega)]
  simp only[ae,bV,lv.F]
  rw[aM.L2.run (d:=((k:Int),os[k].2.1.1.length,(os.length:Int),(k:Int),(os[k].2.1.1.length:Int),0,L3,os.length,u,v,ls,os,os[k].2.1.1)) ⟨e,0,aP _,rfl,rfl,rfl⟩]
  simp only[ae,aM.L2.add,aM.L2.F,aa,n1,ag,aX h,bt (show(0:Int)<=(k:Int) by omega) (show(k:Int) < (os.length:Int) by omega)]
  rw[N.py (by omega)]
  exact congrArg (λz=>kn (aM.L1.st (_,_,_,_,_,_,_,z))) hs
 ·right
  obtain rfl:k=os.length:=by omega
  intro R kn kx
  rw[aM.L1.step,aW (by omega),ai]
  rfl
theorem J4{l:Lk}(h:qk l=true):l.1.length<=4/\∀b∈l.1,b.1.length<=12:=by
 unfold qk at h
 simp only[ah,cY,decide_eq_true_eq]at h
 refine⟨h.2.2,λb hb=> ?_⟩
 have:=h.1 b hb
 unfold ur at this
 simp only[ah,decide_eq_true_eq]at this
 exact this.1
theorem aM.ok:aM.Ok:=by
 rintro⟨is,os,nt,u⟩ nm
 obtain⟨⟨_,a2,a3,_⟩,b1,b2⟩:=xA nm
 have a2:is.length<=64:=a2
 have a3:os.length<=64:=a3
 rw[aM.eq,mW.run (d:=is) (by show is.length<=_;omega),js.run (d:=os) (by show os.length<=_;omega)]
 simp only[ae,bV,mW.F,bV,js.F]
 rw[aM.L0.run (d:=(is.length,0,is.length,os.length,(nt,u),(0,()),is,os)) ⟨⟨by show is.length<=_;omega,λx hx=>by have:=(JQ (vI _ _ b1 x hx)).2.2.2.2;omega⟩,0,aP _,rfl,rfl,rfl⟩]
 simp only[ae,aM.L0.add,aM.L0.F]
 rw[aM.L1.run (d:=(os.length,0,is.length,os.length,(nt,u),(0,()),is,os)) ⟨⟨by show os.length<=_;omega,λx hx=>by
  have:=J4 (uX _ _ b2 x hx).2
  exact⟨by omega,λb hb=>by have:=this.2 b hb;omega⟩⟩,0,aP _,rfl,rfl,rfl⟩]
 simp only[ae,bV,aM.L1.F,aR,az,and_self,decide_true,ag,iW]
 rfl
theorem aM.run:aM.RS:=rE [.d px] aM
def aM.sg:=aM.gk aM.ok 3 ⟨.iY aM.L0.ok,⟨.iY aM.L1.ok,⟨.iY aM.L2.ok,trivial⟩⟩⟩
def xc{α:Type}(p:α->Bool):List α->Int->Int⊕Unit
 |[],_=> .inr ()
 |x::xs,i=>if p x then .inl i else xc p xs (i+1)
def H2{α:Type}(p:α->Bool)(l:List α):Int:=match xc p l 0 with | .inl i=>i | .inr _=> -1
theorem D1{α:Type}(p:α->Bool):∀(l:List α) (i:Int),0<=i->(match xc p l i with | .inl i=>decide (i>=0) | .inr _=>false)=l.any p
 |[],_,_=>rfl
 |x::l,i,h=>by
  rw[xc,List.any_cons]
  cases hp:p x
  ·simp only[bN,if_false,Bool.false_or]
   exact D1 p l (i+1) (by omega)
  ·simp[h]
theorem D0{α:Type}(p:α->Bool)(l:List α):qT (H2 p l) 0=l.any p:=by
 have:=D1 p l 0 (by omega)
 unfold H2 qT
 cases h:xc p l 0
 ·rw[h]at this;exact this
 ·rw[h]at this;rw[<-this];rfl
def vn(k:Int):Bool:=decide (¬(k < 2305843009213688669/\k≠0))
def pZ(t:ke)(i br:Int)(ks:List Int):Bool:=lE t && (decide (0<=i/\i < t.1.length/\0<=br/\br < 4/\ks.length<=12) && !(ks.any vn))
def oP(t:ke)(i br:Int)(ks:List Int)(sc:Int):ke×Int:=
 if pZ t i br ks then((t.1.set i.toNat ((nth kL t.1 i.toNat).1,(br,ks.map (λk=>sm k (EY t)),sc,()),()),t.2),0) else(([],[],0,()),1)
theorem Ox{t:ke}:Sm (EY t):=by
 unfold EY
 split
 ·exact Gs _ _
 ·exact⟨by rw[cJ],λx hx=>by obtain rfl:=(List.mem_replicate.1 hx).2;exact⟨by decide,by decide⟩⟩
abbrev jV.D:=Int
abbrev jV.Y:=Bool
def jV.bf:jV.D->Prop:=λ_=>True
def jV.F:jV.D->jV.Y:=λk=>vn k
def jV:Fs Tryz.prog jV.bf bV jV.F:=gf 64 Tryz.f64 (λkv=>([.d tu kv],[])) (λx=>⟨.d .bool x,[],[]⟩) [some tu] [fc.sg]
theorem jV.eq{R:Type}(kv)(k:K1 R):jV.A kv k=
  aN ((xS kv 0)) (
   k (jV.out true)) (
   aB (fc.call kv) λx1=>
   k (jV.out (!x1))):=by kernel_rfl
theorem jV.ok:jV.Ok:=by
 intro(k:Int) _
 rw[jV.eq,fc.run (d:=k) trivial]
 simp only[bV,jV.F,vn,ae,bV,fc.F]
 by_cases h:k=0
 ·rw[gq h,ag,aX (by omega)]
 ·rw[gB h,ai]
  by_cases h2:k < 2305843009213688669
  ·rw[aU h2,cC (by omega)];rfl
  ·rw[aW h2,aX (by omega)];rfl
theorem jV.run:jV.RS:=rE [.d tu] jV
def jV.sg:=jV.gk jV.ok
abbrev bo.L0.D:=Bs×Int×Int
def bo.L0.st:bo.L0.D->AS:=λ(ot,t7,t8)=>⟨([.d tU ot,.fn 64 (.nil)]++bm 5 ([.d ti t7,.d ti t8]++bm 10 [])),[],(List.replicate 19 [])⟩
abbrev bo.L0.Y0:=Int
abbrev bo.L0.X0:=Int
def bo.L0.dY:bo.L0.X0->Exit×AS:=λx=>(.ret,⟨(bm 4 ([.d ti x]++bm 14 [])),[],(List.replicate 19 [])⟩)
abbrev bo.L0.Y1:=Unit
abbrev bo.L0.X1:=Unit
def bo.L0.gN:bo.L0.X1->Exit×AS:=λx=>(.exit 0,⟨(bm 19 []),[],(List.replicate 19 [])⟩)
abbrev bo.L0.X:=(bo.L0.X0)⊕(bo.L0.X1)
abbrev bo.L0.Y:=(bo.L0.Y0)⊕(bo.L0.Y1)
def bo.L0.out:bo.L0.X->Out (Exit×AS):=λx=> .br x.isLeft (.get x.getLeft? λa=> .ok (bo.L0.dY a)) (.get x.getRight? λb=> .ok (bo.L0.gN b))
def bo.L0.add:bo.L0.D->bo.L0.Y->bo.L0.X:=λ(ot,t7,t8) y=>match y with | .inl y=> .inl y | .inr z=> .inr (z)
abbrev bo.D:=Bs
abbrev bo.Y:=Int
def bo.L0.bf:bo.L0.D->Prop:=λ(l,n,i)=>(∀x∈l,True)/\l.length<=1000000000/\n=l.length/\∃k:Nat,k<=l.length/\i=k
def bo.L0.F:bo.L0.D->bo.L0.Y:=λ(l,n,i)=>xc vn (l.drop i.toNat) i
def bo.bf:bo.D->Prop:=λl=>(∀x∈l,True)/\l.length<=1000000000
def bo.F:bo.D->bo.Y:=λl=>H2 vn l
def bo.L0.E:=eR.iY bo.L0.st bo.L0.bf bo.L0.add bo.L0.F bo.L0.out
def bo.L0.call:bo.L0.D->Option bo.L0.X:=kE bo.L0.E bo.L0.st
def bo:Fs Tryz.prog bo.bf bV bo.F:=gf 133 Tryz.f133 (λsv=>([.d tU sv,.fn 64 (.nil)],[])) (λx=>⟨.d ti x,[],[]⟩) [some tU,none] [jV.sg] {loops:=qu [(2,{bA:=[0,1,7,8]})],outs:=qt [(2,{},{bA:=[4]})],jl:=qU [(2,bo.L0.E)]}
def bo.L0.R:= @iN Tryz.prog (mR bo.G) bo.an 0 Tryz.f133 0 _ bo.L0.st
abbrev bo.L0.Ok:=oS Tryz.prog (mR bo.G) bo.an 0 Tryz.f133 0 bo.L0.st bo.L0.bf bo.L0.add bo.L0.F bo.L0.out
theorem bo.L0.run:ng bo.L0.call bo.L0.bf bo.L0.add bo.L0.F:=ql (o8 [.d tU,.d ti,.d ti] λ_=>by kernel_rfl)
theorem bo.L0.da:qh @bo.L0.R bo.L0.st bo.L0.bf bo.L0.add bo.L0.F bo.L0.out bo.L0.Ok:=qH
theorem bo.L0.step{R:Type}(ot:Bs)(t7:Int)(t8:Int)(kn:AS->Option R)(kx:Exit->AS->Option R):bo.L0.R (ot,t7,t8) kn kx=
  aN ((iX t8 t7)) (
   aN (gw t8 (((List.length ot):Nat):Int)) (
   aB (jV.call (nth tu ot (Int.toNat t8))) λx1=>
   aN (x1) (
    kx (bo.L0.dY t8).1 (bo.L0.dY t8).2) (
    kn (bo.L0.st (ot,t7,(bQ .i64 t8 (1:Int)))))) none) (
   kx (bo.L0.gN ()).1 (bo.L0.gN ()).2):=by kernel_rfl
theorem bo.eq{R:Type}(sv)(k:K1 R):bo.A sv k=
  aB (bo.L0.call (sv,(sv.length:Int),0)) λx2=>
  aN (x2.isLeft) (
   aB (x2.getLeft?) λa3=>
   k (bo.out a3)) (
   aB (x2.getRight?) λb4=>
   k (bo.out (-1))):=by kernel_rfl
theorem bo.L0.ok:bo.L0.Ok:=by
 refine bo.L0.da (λ(l,n,i)=>l.length - i.toNat) ?_
 rintro⟨l,n,i⟩ ⟨hl,hb,rfl,k,hk,rfl⟩
 have hb:l.length<=1000000000:=hb
 have hk:k<=l.length:=hk
 by_cases h:k < l.length
 ·have hx:=hl _ (bH h)
  have n1:nth tu l k=l[k]:=dq (t:=tu) h
  have hd:xc vn (l.drop k) k=if vn l[k] then .inl (k:Int) else xc vn (l.drop (k+1)) ((k+1:Nat):Int):=by rw[ax h];rfl
  have step:∀ {R:Type} (kn:AS->Option R) (kx:Exit->AS->Option R),bo.L0.R (l,(l.length:Int),(k:Int)) kn kx=aN (vn l[k]) (kx (bo.L0.dY (k:Int)).1 (bo.L0.dY (k:Int)).2) (kn (bo.L0.st (l,(l.length:Int),((k+1:Nat):Int)))):=by
   intro R kn kx
   rw[bo.L0.step,aU (by omega),bt (by omega) (by omega),aa,n1,jV.run (d:=l[k]) hx,N.py (by omega)]
   rfl
  cases hp:vn l[k]
  ·left
   refine⟨(l,l.length,((k+1:Nat):Int)),⟨hl,hb,rfl,k+1,by omega,rfl⟩,by simp only[aa];omega,?_,λkn kx=> ?_⟩
   ·simp only[bo.L0.add,bo.L0.F,aa,hd,hp,bN,if_false]
   ·rw[step,hp,ai]
  ·right
   refine⟨bo.L0.dY (k:Int),?_,λkn kx=> ?_⟩
   ·simp only[bo.L0.add,bo.L0.F,aa,hd,hp,if_true]
    rfl
   ·rw[step,hp,ag]
 ·right
  obtain rfl:k=l.length:=by omega
  refine⟨bo.L0.gN (),?_,λkn kx=> ?_⟩
  ·simp only[bo.L0.add,bo.L0.F,aa,aY]
   rfl
  ·rw[bo.L0.step,aW (by omega),ai]
theorem bo.ok:bo.Ok:=by
 rintro l ⟨hl,hb⟩
 rw[bo.eq,bo.L0.run (d:=(l,l.length,0)) ⟨hl,hb,rfl,0,by omega,rfl⟩]
 simp only[ae,bo.L0.add,bo.L0.F,b5,aI,bV,bo.F,H2]
 cases xc vn l 0 <;> rfl
theorem bo.run:bo.RS:=rE [.d tU] bo
def bo.sg:=bo.gk bo.ok 1 ⟨.iY bo.L0.ok,trivial⟩
abbrev dU.D:=Bs
abbrev dU.Y:=Bool
def dU.bf:dU.D->Prop:=λl=>(∀x∈l,True)/\l.length<=1000000000
def dU.F:dU.D->dU.Y:=λl=>l.any vn
def dU:Fs Tryz.prog dU.bf bV dU.F:=gf 68 Tryz.f68 (λsv=>([.d tU sv,.fn 64 (.nil)],[])) (λx=>⟨.d .bool x,[],[]⟩) [some tU,none] [bo.sg]
theorem dU.eq{R:Type}(sv)(k:K1 R):dU.A sv k=
 aB (bo.call sv) λx1=>
 k (dU.out (qT x1 0)):=by kernel_rfl
theorem dU.ok:dU.Ok:=by
 rintro l ⟨hl,hb⟩
 rw[dU.eq,bo.run (d:=l) ⟨hl,hb⟩]
 simp only[ae,bV,bo.F,D0]
 rfl
theorem dU.run:dU.RS:=rE [.d tU] dU
def dU.sg:=dU.gk dU.ok
abbrev dr.L0.D:=Int×Bs×Int×Int×ke×(Int×Unit)×Int×Nat×(Int×Unit)×Bs×(List Sg)
abbrev dr.L0.Y:=Fg×(List Sg)
abbrev dr.L0.X:=(Int×ke×(Int×Unit))×(Fg×(List Sg))
def dr.L0.add:dr.L0.D->dr.L0.Y->dr.L0.X:=λ(zz,t52,t53,t54,n5,n10,n13,AY,BQ,n14,LK) y=>((zz,n5,n10),y)
abbrev dr.D:=ke×Int×Int×Bs×Int
abbrev dr.Y:=ke×Int
def dr.L0.bf:dr.L0.D->Prop:=λ(i0,l,n,i,t,e,br,L,sc,id,r)=>l.length<=1000/\(∀x∈l,lH x)/\Sm id/\∃k:Nat,k<=l.length/\i=k/\n=l.length/\L=r.length/\r.length<=1000+k
def dr.L0.F:dr.L0.D->dr.L0.Y:=λ(i0,l,n,i,t,e,br,L,sc,id,r)=>((br,r++(l.drop i.toNat).map (λk=>sm k id),sc),r++(l.drop i.toNat).map (λk=>sm k id))
def dr.bf:dr.D->Prop:=λ(t,i,br,ks,sc)=>C2 t/\(∀x∈ks,lH x)/\ks.length<=1000000000
def dr.F:dr.D->dr.Y:=λ(t,i,br,ks,sc)=>oP t i br ks sc
def dr.L0:Ls dr.L0.bf dr.L0.add dr.L0.F:=ra (λ(zz,t52,t53,t54,n5,n10,n13,AY,BQ,n14,LK)=>⟨([.undef,.d ti zz,.undef,.undef,.undef,.ptr (.new 5 0) 0 [] 0]++bm 4 ([.ptr (.new 10 0) 0 [] 0,.undef,.undef,.ptr (.new 13 0) 0 [] 0,.ptr (.new 14 0) 0 [] 0]++bm 37 ([.d tU t52,.d ti t53,.d ti t54]++bm 21 []))),[],(cS 5 ([[.obj 0 false (.d px n5)]]++cS 4 ([[.obj 0 false (.pr (.dp) (.pr (.dp) (.d (.pair ti .unit) n10)))],[],[],[.obj 0 false (.pr (.d ti n13) (.pr (.cO (.new 64 0) 0 [] 0 0 AY) (.d (.pair tu .unit) BQ)))],[.obj 0 false (.d tH n14)]]++cS 49 ([[.obj 0 false (.vec 135 I7 LK)]]++cS 11 []))))⟩) (λx=>(.exit 0,⟨([.undef,.d ti x.1.1,.undef,.undef,.undef,.ptr (.new 5 0) 0 [] 0]++bm 4 ([.ptr (.new 10 0) 0 [] 0,.undef,.undef,.ptr (.new 13 0) 0 [] 0]++bm 62 [])),[],(cS 5 ([[.obj 0 false (.d px x.1.2.1)]]++cS 4 ([[.obj 0 false (.pr (.dp) (.pr (.dp) (.d (.pair ti .unit) x.1.2.2)))],[],[],[.obj 0 false (.d Qy x.2.1)]]++cS 50 ([[.obj 0 true (.vec 135 I7 x.2.2)]]++cS 11 []))))⟩))
def dr:Fs Tryz.prog dr.bf bV dr.F:=gf 16 Tryz.f16 (λ(t,inv,branch,keys,secret)=>([.d px t,.d ti inv,.d ti branch,.d tU keys,.d tu secret],[])) (λx=>⟨.cons (.d px x.1) (.cons (.d ti x.2) (.nil)),[],[]⟩) [some px,some ti,some ti,some tU,some tu] [aD.sg,lD.sg,dU.sg,tid.sg,jK.sg,aM.sg] {bE:=[5],loops:=qu [(7,{bA:=[1,5,10,13,14,52,53,54],sites:=[5,10,13,14,64],owns:=[⟨13,[.snd,.fst],64,48⟩]})],outs:=qt [(7,{bA:=[1,5,10,13],sites:=[5,10,13,64],Fz:=[⟨13,[.snd,.fst],(.slice I7)⟩]},{bA:=[10,11]})],jl:=qU [(7,dr.L0.E)],res:=[some px,none]}
theorem dr.L0.run:dr.L0.RS:=rL [.d ti,.d tU,.d ti,.d ti,.d px,.d (.pair ti .unit),.d ti,.n,.d (.pair tu .unit),.d tB,.d (.slice I7)] dr.L0
theorem dr.L0.step{R:Type}(zz t52 t53 t54 n5 n10 n13 AY BQ n14 LK)(kn:K2 R)(kx:K3 R):dr.R 0 dr.L0 (zz,t52,t53,t54,n5,n10,n13,AY,BQ,n14,LK) kn kx=
  aN ((iX t54 t53)) (
   aN (gw t54 (t52.length:Int)) (
   aB (jK.call ((nth tu t52 (Int.toNat t54)),n14)) λx4=>
   aN (decide (AY<=(List.length LK))) (
   aN (dX (AY+1) 16) (
   kn (dr.L0.st (zz,t52,t53,(bQ .i64 t54 1),n5,n10,n13,(AY+1),BQ,n14,((List.take AY LK)++ [x4])))) none) none) none) (
   aN (decide (0=0/\(0+AY)<=(List.length LK))) (
   dr.L0.go kx ((zz,n5,n10),((n13,((cut LK 0 AY),BQ)),LK))) none):=by kernel_rfl
theorem dr.eq{R:Type}(t inv branch keys secret)(k:K1 R):dr.A (t,inv,branch,keys,secret) k=
  aB (aD.call t) λIU=>
  aN ((!IU)) (
   k (dr.out ((([]:List jO),(([]:List na),(0,()))),1))) (
   aN ((iX inv 0)) (
    k (dr.out ((([]:List jO),(([]:List na),(0,()))),1))) (
    aN ((qT inv (t.1.length:Int))) (
     k (dr.out ((([]:List jO),(([]:List na),(0,()))),1))) (
     aB (lD.call (branch,(([]:List Sg),(secret,())))) λUo=>
     aN ((!Uo)) (
      k (dr.out ((([]:List jO),(([]:List na),(0,()))),1))) (
      aN ((ri (keys.length:Int) 12)) (
       k (dr.out ((([]:List jO),(([]:List na),(0,()))),1))) (
       aB (dU.call keys) λKN=>
       aN (KN) (
        k (dr.out ((([]:List jO),(([]:List na),(0,()))),1))) (
        aB (tid.call t) λKO=>
        aB (dr.L0.call (inv,keys,(keys.length:Int),0,t,(0,()),branch,0,(secret,()),KO,([]:List Sg))) λAK=>
        aB (aM.call AK.1.2.1) λE8=>
        aN (gw AK.1.1 ((E8.1:Nat):Int)) (
        aN (decide ((0+(Int.toNat AK.1.1)) < (List.length E8.2.2))) (
        aN (decide ((((0+(Int.toNat AK.1.1))*36)+33)=((0+((Int.toNat AK.1.1)*36))+33))) (
        aN (decide ((0+(Int.toNat AK.1.1)) < (List.length E8.2.2))) (
        aN (decide (0=0/\(0+E8.1)<=(List.length (List.set E8.2.2 (0+(Int.toNat AK.1.1)) ((nth kL E8.2.2 (0+(Int.toNat AK.1.1))).1,(AK.2.1,(nth kL E8.2.2 (0+(Int.toNat AK.1.1))).2.2)))))) (
        k (dr.out (((cut (List.set E8.2.2 (0+(Int.toNat AK.1.1)) ((nth kL E8.2.2 (0+(Int.toNat AK.1.1))).1,(AK.2.1,(nth kL E8.2.2 (0+(Int.toNat AK.1.1))).2.2))) 0 E8.1),E8.2.1),0))) none) none) none) none) none)))))):=by kernel_rfl
theorem dr.L0.ok:(dr.lP 0 dr.L0):=by
 refine(dr.mS 0 dr.L0) (λ(i0,l,n,i,t,e,br,L,sc,id,r)=>l.length - i.toNat) ?_
 rintro⟨i0,l,n,i,t,e,br,L,sc,id,r⟩ ⟨hlen,hu,hm,k,hk,rfl,rfl,rfl,hr⟩
 have hlen:l.length<=1000:=hlen
 have hk:k<=l.length:=hk
 have hr:r.length<=1000+k:=hr
 by_cases h:k < l.length
 ·left
  have n1:nth tu l k=l[k]:=dq (t:=tu) h
  have hd:List.drop k l=l[k]::List.drop (k+1) l:=ax h
  refine⟨(i0,l,l.length,((k+1:Nat):Int),t,e,br,r.length+1,sc,id,r++ [sm l[k] id]),⟨hlen,hu,hm,k+1,by omega,rfl,rfl,by rw[av];rfl,by rw[av];show r.length+1<=_;omega⟩,by simp only[aa];omega,?_,λkn kx=> ?_⟩
  ·simp only[dr.L0.add,dr.L0.F,aa,hd,bJ,bw,eh]
  ·rw[dr.L0.step,aU (by omega),bt (by omega) (by omega),aa,n1,jK.run (d:=(l[k],id)) ⟨hu _ (bH h),hm⟩]
   simp only[ag,ae,bV,jK.F]
   rw[aX (az _),fh (by omega) (by omega),N.py (by omega),c9]
   rfl
 ·right
  obtain rfl:k=l.length:=by omega
  intro R kn kx
  rw[dr.L0.step,aW (by omega),ai]
  simp only[dr.L0.add,dr.L0.F,aa,aY,fE,cM,aR,az,and_self,decide_true,ag,iW]
theorem dr.ok:dr.Ok:=by
 rintro⟨⟨is,os,nt,u⟩,i,br,ks,sc⟩ ⟨hv,hu,hl⟩
 have hv:C2 (is,os,nt,u):=hv
 have hl:ks.length<=1000000000:=hl
 rw[dr.eq,aD.run (d:=(is,os,nt,u)) hv.1]
 simp only[ae,bV,aD.F,bV,dr.F,oP,pZ]
 rcases gG (lE (is,os,nt,u)) with nm | nm
 rotate_left
 ·simp only[nm];rfl
 obtain⟨⟨_,a2,a3,_⟩,b1,b2⟩:=xA nm
 have a2:is.length<=64:=a2
 simp only[nm,bM,ai,bW]
 by_cases h1:i < 0
 ·rw[aU h1,ag,cC (by omega)];rfl
 rw[aW h1,ai]
 by_cases h2:i>=(is.length:Int)
 ·rw[fC h2,ag,cC (by omega)];rfl
 rw[ea h2,ai,lD.run (d:=(br,([],(sc,())))) trivial]
 simp only[ae,bV,lD.F,so]
 by_cases h3:0<=br/\br < 4
 ·rw[aX h3]
  by_cases h4:ks.length > 12
  ·rw[dA (by omega),cC (p:=0<=i/\i < (is.length:Int)/\0<=br/\br < 4/\ks.length<=12) (by omega)];rfl
  ·rw[di (by omega),aX (p:=0<=i/\i < (is.length:Int)/\0<=br/\br < 4/\ks.length<=12) (by omega),dU.run (d:=ks) ⟨λ_ _=>trivial,hl⟩]
   simp only[ae,bV,dU.F]
   rcases gG (ks.any vn) with hb | hb
   rotate_left
   ·simp only[hb]
    obtain⟨k,rfl⟩:∃k:Nat,i=k:=⟨i.toNat,by omega⟩
    have hk:k < is.length:=by omega
    simp only[show(([]:List Sg).length<=12)=True from eq_true (aP _),decide_true,Bool.and_self,bM,dm,ai,bW,if_true]
    rw[tid.run (d:=(is,os,nt,u)) hv]
    simp only[ae,bV,tid.F]
    rw[dr.L0.run (d:=((k:Int),ks,ks.length,0,(is,os,nt,u),(0,()),br,0,(sc,()),EY (is,os,nt,u),[])) ⟨by show ks.length<=_;omega,hu,Ox,0,aP _,rfl,rfl,rfl,aP _⟩]
    simp only[ae,dr.L0.add,dr.L0.F,b5,aI,bh]
    rw[aM.run (d:=(is,os,nt,u)) nm]
    simp only[ae,bV,aM.F,aa,aR,cn,bt (show(0:Int)<=(k:Int) by omega) (show(k:Int) < (is.length:Int) by omega),ag,aX hk,decide_true,gW,az,and_self]
    rw[iW (by rw[gW])]
   ·simp only[hb];rfl
 ·rw[cC h3,cC (p:=0<=i/\i < (is.length:Int)/\0<=br/\br < 4/\ks.length<=12) (by omega)];rfl
theorem dr.run:dr.RS:=rE [.d px,.d ti,.d ti,.d tU,.d tu] dr
def dr.sg:=dr.gk dr.ok 1 ⟨.iY dr.L0.ok,trivial⟩
abbrev AF:=(na×(Int×Unit))
abbrev my.D:=Bs×Bs
abbrev my.Y:=Int
def my.bf:my.D->Prop:=λ_=>True
def my.F:my.D->my.Y:=λ(a,b)=>y7 a b
def my:Fs Tryz.prog my.bf bV my.F:=gf 82 Tryz.f82 (λ(a,b)=>([.d tB a,.d tB b],[])) (λx=>⟨.d ti x,[],[]⟩) [some tB,some tB] [⟨156,yG,GN.E,.of (GN.of (fn:=Tryz.f156) (by kernel_rfl) (by kernel_rfl) (by kernel_rfl) (by kernel_rfl) (by kernel_rfl)) (by rfl)⟩]
theorem my.eq{R:Type}(a b)(k:K1 R):my.A (a,b) k=
 aB (GN.call (a,b)) λx1=>
 k (my.out x1):=by kernel_rfl
theorem my.ok:my.Ok:=by
 rintro⟨a,b⟩ _
 rw[my.eq,GN.run]
 rfl
theorem my.run:my.RS:=rE [.d tB,.d tB] my
def my.sg:=my.gk my.ok
abbrev mF.D:=Int
abbrev mF.Y:=Bool
def mF.bf:mF.D->Prop:=λ_=>True
def mF.F:mF.D->mF.Y:=λ_=>false
def mF:Fs Tryz.prog mF.bf bV mF.F:=gf 157 Tryz.f157 (λx=>([.d ti x],[])) (λx=>⟨.d .bool x,[],[]⟩) [some ti]
theorem mF.eq{R:Type}(x)(k:K1 R):mF.A x k=
 k (mF.out (sx x x)):=by kernel_rfl
theorem mF.ok:mF.Ok:=by
 intro x _
 rw[mF.eq]
 simp only[bV,mF.F,cU rfl]
theorem mF.run:mF.RS:=rE [.d ti] mF
def mF.sg:=mF.gk mF.ok
def qW(x y:Int):Int:=if x < y then -1 else if x > y then 1 else 0
abbrev jZ.D:=Int×Int
abbrev jZ.Y:=Int
def jZ.bf:jZ.D->Prop:=λ_=>True
def jZ.F:jZ.D->jZ.Y:=λ(x,y)=>qW x y
def jZ:Fs Tryz.prog jZ.bf bV jZ.F:=gf 83 Tryz.f83 (λ(x,yv)=>([.d ti x,.d ti yv],[])) (λx=>⟨.d ti x,[],[]⟩) [some ti,some ti] [mF.sg]
theorem jZ.eq{R:Type}(x yv)(k:K1 R):jZ.A (x,yv) k=
  aB (mF.call x) λx1=>
  aB (mF.call yv) λx2=>
  aN (x1) (
   aN (x2) (
    k (jZ.out 0)) (
    k (jZ.out (-1)))) (
   aN (x2) (
    k (jZ.out 1)) (
    aN ((iX x yv)) (
     k (jZ.out (-1))) (
     aN ((ri x yv)) (
      k (jZ.out 1)) (
      k (jZ.out 0))))):=by kernel_rfl
theorem jZ.ok:jZ.Ok:=by
 rintro⟨x,y⟩ _
 rw[jZ.eq,mF.run (d:=x) trivial]
 simp only[ae,bV,mF.F]
 rw[mF.run (d:=y) trivial]
 simp only[ae,bV,mF.F,ai,bV,jZ.F,qW]
 by_cases h:x < y
 ·rw[aU h,ag,if_pos h]
 ·rw[aW h,ai,if_neg h]
  by_cases h2:x > y
  ·rw[dA h2,ag,if_pos h2]
  ·rw[di h2,ai,if_neg h2]
theorem jZ.run:jZ.RS:=rE [.d ti,.d ti] jZ
def jZ.sg:=jZ.gk jZ.ok
abbrev fJ.L0.D:=Int×(List Int)×Int×Int
def fJ.L0.st:fJ.L0.D->AS:=λ(zero,t6,t7,t8)=>⟨([.undef,.undef,.undef,.d ti zero,.undef,.undef,.d (.slice ti) t6,.d ti t7,.d ti t8]++bm 9 []),[],(List.replicate 18 [])⟩
abbrev fJ.L0.Y0:=Int
abbrev fJ.L0.X0:=Int
def fJ.L0.dY:fJ.L0.X0->Exit×AS:=λx=>(.ret,⟨([.undef,.undef,.d ti x]++bm 15 []),[],(List.replicate 18 [])⟩)
abbrev fJ.L0.Y1:=Unit
abbrev fJ.L0.X1:=Int
def fJ.L0.gN:fJ.L0.X1->Exit×AS:=λx=>(.exit 0,⟨([.undef,.undef,.undef,.d ti x]++bm 14 []),[],(List.replicate 18 [])⟩)
abbrev fJ.L0.X:=(fJ.L0.X0)⊕(fJ.L0.X1)
abbrev fJ.L0.Y:=(fJ.L0.Y0)⊕(fJ.L0.Y1)
def fJ.L0.out:fJ.L0.X->Out (Exit×AS):=λx=> .br x.isLeft (.get x.getLeft? λa=> .ok (fJ.L0.dY a)) (.get x.getRight? λb=> .ok (fJ.L0.gN b))
def fJ.L0.add:fJ.L0.D->fJ.L0.Y->fJ.L0.X:=λ(zero,t6,t7,t8) y=>match y with | .inl y=> .inl y | .inr z=> .inr (zero)
abbrev fJ.D:=(List Int)
abbrev fJ.Y:=Int
def LN:List Int->Int
 |[]=>0
 |x::l=>if x≠0 then x else LN l
def MV:List Int->Int⊕Unit
 |[]=> .inr ()
 |x::l=>if x≠0 then .inl x else MV l
theorem MW:∀l:List Int,LN l=match MV l with | .inl x=>x | .inr _=>0
 |[]=>rfl
 |x::l=>by
  simp only[LN,MV]
  split
  ·rfl
  ·exact MW l
def fJ.L0.bf:fJ.L0.D->Prop:=λ(z,l,n,i)=>z=0/\l.length<=1000000000/\n=l.length/\∃k:Nat,k<=l.length/\i=k
def fJ.L0.F:fJ.L0.D->fJ.L0.Y:=λ(z,l,n,i)=>MV (l.drop i.toNat)
def fJ.bf:fJ.D->Prop:=λl=>l.length<=1000000000
def fJ.F:fJ.D->fJ.Y:=λl=>LN l
def fJ.L0.E:=eR.iY fJ.L0.st fJ.L0.bf fJ.L0.add fJ.L0.F fJ.L0.out
def fJ.L0.call:fJ.L0.D->Option fJ.L0.X:=kE fJ.L0.E fJ.L0.st
def fJ:Fs Tryz.prog fJ.bf bV fJ.F:=gf 81 Tryz.f81 (λjr=>([.d (.slice ti) jr],[])) (λx=>⟨.d ti x,[],[]⟩) [some (.slice ti)] [] {loops:=qu [(3,{bA:=[3,6,7,8]})],outs:=qt [(3,{bA:=[3]},{bA:=[2]})],jl:=qU [(3,fJ.L0.E)]}
def fJ.L0.R:= @iN Tryz.prog (mR fJ.G) fJ.an 0 Tryz.f81 0 _ fJ.L0.st
abbrev fJ.L0.Ok:=oS Tryz.prog (mR fJ.G) fJ.an 0 Tryz.f81 0 fJ.L0.st fJ.L0.bf fJ.L0.add fJ.L0.F fJ.L0.out
theorem fJ.L0.run:ng fJ.L0.call fJ.L0.bf fJ.L0.add fJ.L0.F:=ql (o8 [.d ti,.d (.slice ti),.d ti,.d ti] λ_=>by kernel_rfl)
theorem fJ.L0.da:qh @fJ.L0.R fJ.L0.st fJ.L0.bf fJ.L0.add fJ.L0.F fJ.L0.out fJ.L0.Ok:=qH
theorem fJ.L0.step{R:Type}(zero:Int)(t6:(List Int))(t7:Int)(t8:Int)(kn:AS->Option R)(kx:Exit->AS->Option R):fJ.L0.R (zero,t6,t7,t8) kn kx=
  aN ((iX t8 t7)) (
   aN (gw t8 (((List.length t6):Nat):Int)) (
   aN ((sx (nth ti t6 (Int.toNat t8)) zero)) (
    kx (fJ.L0.dY (nth ti t6 (Int.toNat t8))).1 (fJ.L0.dY (nth ti t6 (Int.toNat t8))).2) (
    kn (fJ.L0.st (zero,t6,t7,(bQ .i64 t8 (1:Int)))))) none) (
   kx (fJ.L0.gN zero).1 (fJ.L0.gN zero).2):=by kernel_rfl
theorem fJ.eq{R:Type}(jr)(k:K1 R):fJ.A jr k=
  aB (fJ.L0.call (0,jr,(jr.length:Int),0)) λx1=>
  aN (x1.isLeft) (
   aB (x1.getLeft?) λa2=>
   k (fJ.out a2)) (
   aB (x1.getRight?) λb3=>
   k (fJ.out b3)):=by kernel_rfl
theorem fJ.L0.ok:fJ.L0.Ok:=by
 refine fJ.L0.da (λ(z,l,n,i)=>l.length - i.toNat) ?_
 rintro⟨z,l,n,i⟩ ⟨rfl,hl,rfl,k,hk,rfl⟩
 by_cases h:k < l.length
 ·have hd:l.drop k=l[k]::l.drop (k+1):=ax h
  have n1:nth ti l k=l[k]:=dq (t:=ti) h
  by_cases h2:l[k]≠0
  ·right
   refine⟨fJ.L0.dY l[k],?_,λkn kx=> ?_⟩
   rotate_left
   ·rw[fJ.L0.step,aU (by omega),ag,bt (by omega) (by omega),ag,aa,n1,fj h2,ag]
   ·simp only[fJ.L0.add,fJ.L0.F,aa,hd,MV,if_pos h2]
    rfl
  ·left
   refine⟨(0,l,(l.length:Int),((k+1:Nat):Int)),⟨rfl,hl,rfl,k+1,by omega,rfl⟩,by simp only[aa];omega,?_,λkn kx=> ?_⟩
   ·simp only[fJ.L0.add,fJ.L0.F,aa,hd,MV,if_neg h2]
   ·rw[fJ.L0.step,aU (by omega),ag,bt (by omega) (by omega),ag,aa,n1,cU (by omega),ai,N.py (by omega)]
 ·right
  obtain rfl:k=l.length:=by omega
  refine⟨fJ.L0.gN 0,?_,λkn kx=> ?_⟩
  rotate_left
  ·rw[fJ.L0.step,aW (by omega),ai]
  ·simp only[fJ.L0.add,fJ.L0.F,aa,aY,MV]
   rfl
theorem fJ.ok:fJ.Ok:=by
 intro l hl
 rw[fJ.eq,fJ.L0.run (d:=(0,l,(l.length:Int),0)) ⟨rfl,hl,rfl,0,aP _,rfl⟩]
 simp only[ae,fJ.L0.add,fJ.L0.F,b5,aI,bV,fJ.F]
 rw[MW]
 cases MV l <;> rfl
theorem fJ.run:fJ.RS:=rE [.d (.slice ti)] fJ
def fJ.sg:=fJ.gk fJ.ok 1 ⟨.iY fJ.L0.ok,trivial⟩
end Go.Ab
namespace Go.Ab
open Go.Sort (grow)
structure Mj(P:Program)(t:Ty)(g:FuncId)(Q:t.den->Prop)(cf:t.den->t.den->Int):Prop where
 bT:∃en,lb P g en/\∀x y,Q x->Q y->∃X,en.run [.d t x,.d t y] []=some X/\en.out [.d t x,.d t y] [] X=⟨.d (.int .i64) (cf x y),[],[]⟩
 enters:∀args w,(callFunc g args).run P w= .ok (.enter g args) w
 irrefl:∀x,Q x->¬cf x x < 0
 trans:∀x y z,Q x->Q y->Q z->cf x y < 0->cf y z < 0->cf x z < 0
 ntrans:∀x y z,Q x->Q y->Q z->¬cf x y < 0->¬cf y z < 0->¬cf x z < 0
theorem Lq{w w':World}(MG:w'.os=w.os)(Si:w'.tape=w.tape)(Cy:w'.output=w.output/\w.drawn<=w'.drawn)(mE:w.heap.size<=w'.heap.size)(hb:∀b:Nat,b < w.heap.size->w'.heap[b]? =w.heap[b]?):
  ∃q os,w'=grow (w.drewN q) os:=by
 obtain⟨h1,t1,d1,o1,p1⟩:=w
 obtain⟨h2,t2,d2,o2,p2⟩:=w'
 simp only at*
 obtain⟨Cy,hd⟩:=Cy
 subst MG Si Cy
 obtain⟨q,rfl⟩:∃q,d2=d1+q:=⟨d2 - d1,by omega⟩
 refine⟨q,h2.extract h1.size h2.size,?_⟩
 have hh:h2=h1++h2.extract h1.size h2.size:=by
  apply lM
  intro i
  rw[iT]
  by_cases hi:i < h1.size
  ·rw[if_pos hi,hb i hi]
  ·rw[if_neg hi,Array.getElem?_extract]
   by_cases h3:i < h2.size
   ·rw[if_pos (by omega)]
    congr 1;omega
   ·rw[if_neg (by omega),Array.getElem?_eq_none (by omega)]
 show({heap:=h2,tape:=_,drawn:=_,os:=_,output:=_}:World)= {heap:=h1++h2.extract h1.size h2.size,tape:=_,drawn:=_,os:=_,output:=_}
 rw[<-hh]
 rfl
section
variable {P:Program} {t:Ty} {g:FuncId} {Q:t.den->Prop} {cf:t.den->t.den->Int}
theorem Mj.Pr(h:Mj P t g Q cf)(ha:t.agg=true){W:World}{cx cy:List Value}{x y:t.den}(hx:cT ((fm []).env W (λ_=> .free) (λ_=>none)) t cx x)
  (hy:cT ((fm []).env W (λ_=> .free) (λ_=>none)) t cy y) (qx:Q x) (qy:Q y):
  Calls P g #[.agg cx.toArray,.agg cy.toArray] W λe w'=>e= .returned (.int .i64 (cf x y))/\∃q os,w'=grow (W.drewN q) os:=by
 obtain⟨en,hd,kU⟩:=h.bT
 obtain⟨X,hX1,hX2⟩:=kU x y qx qy
 have one:∀ {c:List Value} {z:t.den},cT ((fm []).env W (λ_=> .free) (λ_=>none)) t c z->VS ((fm []).env W (λ_=> .free) (λ_=>none)) (.d t z) (.agg c.toArray):=λhz=>
  ⟨_,by simpa only[V]using hz,by show eW t.agg _ _;rw[ha];rfl⟩
 have ho:gK ((fm []).env W (λ_=> .free) (λ_=>none)):=λid ver fr c h=>by
  exfalso
  cases id with
  |dw k=>simp[AS.env,AS.bT,fm]at h
  |new i j=>simp[AS.env,AS.bT,fm]at h
 rcases hd W (λ_=> .free) (λ_=>none) [.d t x,.d t y] [] [.agg cx.toArray,.agg cy.toArray] X ⟨one hx,one hy,trivial⟩ ho hX1 with⟨_,hc⟩ | ⟨v,w',hc,_⟩
 ·refine hc.mono λe w' he=> ?_
  obtain⟨v,rfl,g',β',hv,_,ht,_⟩:=he
  rw[hX2]at hv
  obtain⟨cs,k1,k2⟩:=hv
  have k1:cs=[.int .i64 (cf x y)]:=k1
  subst k1
  have k2: [Value.int .i64 (cf x y)]=[v]:=k2
  have hv:v= .int .i64 (cf x y):=by simpa using k2.symm
  exact⟨by rw[hv],Lq ht.os ht.tape ht.output ht.size λb hb=>(ht.wN b hb).2⟩
 ·rw[h.enters]at hc;cases hc
def Fb(cf:t.den->t.den->Int)(l l':List t.den):Prop:=l'.Perm l/\l'.Pairwise λx y=>¬cf y x < 0
open Classical in
def tS(cf:t.den->t.den->Int)(l:List t.den):List t.den:=if h:∃l',Fb cf l l' then h.choose else l
theorem CS(h:Mj P t g Q cf){l:List t.den}(hQ:∀x∈l,Q x):Fb cf l (tS cf l):=by
 have hx:∃l',Fb cf l l':=by
  let le: {x // Q x}-> {x // Q x}->Bool:=λx y=> !decide (cf y.1 x.1 < 0)
  refine⟨((l.attachWith Q hQ).mergeSort le).map (·.1),?_,?_⟩
  ·have h1:=(List.mergeSort_perm (l.attachWith Q hQ) le).map (·.1)
   rwa[List.attachWith_map_subtype_val]at h1
  ·have h2:=List.pairwise_mergeSort (le:=le) (λa b c h1 h2=>by
    simp only[le,bC,decide_eq_false_iff_not]at*
    exact h.ntrans _ _ _ c.2 b.2 a.2 h2 h1) (λa b=>by
    simp only[le,fD,bC,decide_eq_false_iff_not]
    by_cases h1:cf b.1 a.1 < 0
    ·exact .inr λh2=>h.irrefl _ a.2 (h.trans _ _ _ a.2 b.2 a.2 h2 h1)
    ·exact .inl h1) (l.attachWith Q hQ)
   rw[List.pairwise_map]
   exact h2.imp λ {a b} h3=>by simpa[le]using h3
 unfold tS
 rw[dif_pos hx]
 exact hx.choose_spec
theorem qa(h:Mj P t g Q cf){l l':List t.den}(hQ:∀x∈l,Q x)(hT:∀x∈l,∀y∈l,¬cf x y < 0->¬cf y x < 0->x=y)(hs:Fb cf l l'):l'=tS cf l:=by
 have h2:=CS h hQ
 exact List.Perm.eq_of_pairwise (λa b ha hb h3 h4=>hT a (hs.1.mem_iff.1 ha) b (h2.1.mem_iff.1 hb) h4 h3) hs.2 h2.2 (hs.1.trans h2.1.symm)
def wD(g:FuncId)(e:TypeId)(t:Ty):Nat×List t.den->List aw×List dv:=λd=>([.cO (.dw 0) 0 [] 0 0 d.1,.fn g .nil],[.obj 0 false (.vec e t d.2)])
def xy(Q:t.den->Prop)(cf:t.den->t.den->Int):Nat×List t.den->Prop:=λd=>d.1=d.2.length/\d.2.length < 4611686018427387904/\(∀x∈d.2,Q x)/\∀x∈d.2,∀y∈d.2,¬cf x y < 0->¬cf y x < 0->x=y
def Ou(e:TypeId)(t:Ty):Nat×List t.den->jA:=λx=>⟨.nil,[.obj 0 false (.vec e t x.2)],[]⟩
def KB(g:FuncId)(e:TypeId)(t:Ty)(Q:t.den->Prop)(cf:t.den->t.den->Int):Entry:=
 Entry.of [none,none] (wD g e t) (xy Q cf) (λd=>(d.1,tS cf d.2)) (Ou e t)
theorem L9{g:FuncId}{e:TypeId}{t:Ty}(d d':Nat×List t.den)(h:wD g e t d=wD g e t d'):d=d':=by
 obtain⟨n,l⟩:=d
 obtain⟨n',l'⟩:=d'
 simp only[wD,cE,du,aw.cO.injEq,dv.obj.injEq,true_and,and_true]at h
 obtain⟨rfl,h2⟩:=h
 rw[Me h2]
def yX(g:FuncId)(e:TypeId)(t:Ty)(Q:t.den->Prop)(cf:t.den->t.den->Int):Nat×List t.den->Option (Nat×List t.den):=λd=>(KB g e t Q cf).run (wD g e t d).1 (wD g e t d).2
theorem CT{g:FuncId}{e:TypeId}{t:Ty}{Q:t.den->Prop}{cf:t.den->t.den->Int}{d:Nat×List t.den}(h:xy Q cf d):yX g e t Q cf d=some (d.1,tS cf d.2):=Entry.rK L9 h
theorem vu{R:List Value->t.den->Prop}:∀ {cs:List Value} {l:List t.den},aV R cs l->(∀x∈l,Q x)->∃ps:List {p:List Value×t.den // R p.1 p.2/\Q p.2},ps.map (·.1.2)=l/\(ps.map (·.1.1)).flatten=cs
 |cs,[],h,_=>⟨[],rfl,by have h:cs=[]:=h;rw[h];rfl⟩
 |cs,x::l,⟨c,cs',h1,h2,h3⟩,hq=>by
  obtain⟨ps,h4,h5⟩:=vu h3 λy hy=>hq y (aH _ hy)
  exact⟨⟨(c,x),h2,hq x (aK ..)⟩::ps,by simp[h4],by simp[h5,h1]⟩
theorem v8{R R':List Value->t.den->Prop}(hR:∀c x,R c x->R' c x):∀ps:List {p:List Value×t.den // R p.1 p.2/\Q p.2},aV R' (ps.map (·.1.1)).flatten (ps.map (·.1.2))
 |[]=>rfl
 |p::ps=>⟨p.1.1,(ps.map (·.1.1)).flatten,by simp,hR _ _ p.2.1,v8 hR ps⟩
theorem DF{α:Type} [Inhabited α] (enc:α->List Value) {k:Nat} (hk:∀x,(enc x).length=k):∀(ps:List α) (j:Nat),j < ps.length*k->((ps.map enc).flatten)[j]? =(enc (ps.toArray[j / k]!))[j%k]?
 |[],j,h=>by simp at h
 |p::ps,j,h=>by
  have k0:0 < k:=by
   rcases jX k with h0 | h0
   ·subst h0;simp at h
   ·exact h0
  simp only[bJ,fW]
  by_cases hj:j < k
  ·rw[eE (by rw[hk];exact hj),Nat.div_eq_of_lt hj,Nat.mod_eq_of_lt hj]
   rfl
  ·have e1:j / k=(j - k) / k+1:=by
    rw[Nat.div_eq_sub_div k0 (by omega)]
   have e2:j%k=(j - k)%k:=by rw[Nat.mod_eq_sub_mod (by omega)]
   rw[List.getElem?_append_right (by rw[hk];omega),hk,DF enc hk ps (j - k) (by simp only[aG,dI,jP]at h;omega),e1,e2]
   congr 2
   simp
theorem uL{α:Type} [Inhabited α] (enc:α->List Value) {k:Nat} (hk:∀x,(enc x).length=k) (d:Array α):(Go.Sort.flatK enc k d).toList=(d.toList.map enc).flatten:=by
 have hl:((d.toList.map enc).flatten).length=d.size*k:=by
  rw[List.length_flatten,List.map_map]
  have:(d.toList.map (List.length∘enc))=List.replicate d.size k:=by
   rw[List.eq_replicate_iff]
   exact⟨by simp,λx hx=>by obtain⟨y,_,rfl⟩:=c7.1 hx;exact hk y⟩
  rw[this,List.sum_replicate_nat]
 apply jd
 intro j
 by_cases hj:j < d.size*k
 ·rw[DF enc hk d.toList j (by simpa using hj)]
  have h2:(Go.Sort.flatK enc k d).toList[j]? =some ((Go.Sort.flatK enc k d)[j]!):=by
   rw[gl,getElem!_pos _ j (by rw[Go.Sort.size_flatK];exact hj)]
   simp[hj]
  rw[h2,Go.Sort.get_flatK _ _ _ _ hj]
  have MB:0 < k:=by
   rcases jX k with h0 | h0
   ·subst h0;simp at hj
   ·exact h0
  have hm:j%k < k:=Nat.mod_lt _ MB
  simp only[Array.toArray_toList]
  rw[cd (by rw[hk];exact hm),getElem!_pos _ _ (by rw[hk];exact hm)]
 ·rw[dn (by simpa using hj),dn (by rw[hl];omega)]
theorem Km{F cur:Array Value}(h:F.size<=cur.size):(Go.Sort.putCells id 0 F cur).toList=F.toList++cur.toList.drop F.size:=by
 apply jd
 intro j
 simp only[Go.Sort.putCells,gl,Array.getElem?_mapIdx,aP,true_and,aR,Nat.sub_zero,id]
 by_cases hj:j < F.size
 ·rw[eE (by simpa using hj),gl,eC hj,eC (by omega),dE,if_pos hj,getElem!_pos F j hj]
 ·rw[List.getElem?_append_right (by simpa using hj),eZ,gl,cz,show F.size+(j - F.size)=j by omega]
  cases cur[j]? with
  |none=>rfl
  |some y=>rw[dE,if_neg hj]
end
section
open Go.Proofs Go.Shelf Go.Lib Go.Sort
variable {P:Program} {ρ:Go.Shelf.Ren} {t:Ty} {g:FuncId} {Q:t.den->Prop} {cf:t.den->t.den->Int}
theorem Ap{α:Type} [Inhabited α] (enc:α->List Value) (k:Nat) (w:World) (wN m:Nat) (dk:Array α) (os:Array Obj) {b:Nat} (hb:b < w.heap.size) (gS:b≠wN):(sortWorldK enc k w wN 0 m dk os).heap[b]? =w.heap[b]? :=by
 show((w.heap.modify wN _)++os)[b]? =_
 rw[iT,if_pos (by simpa using hb),fu,if_neg (λe=>gS e.symm)]
theorem Mc{α:Type} [Inhabited α] (enc:α->List Value) (k:Nat) (w:World) (wN m:Nat) (dk:Array α) (os:Array Obj) {cur:Array Value} {e:TypeId} {fr:Nat×Nat} (hb:w.heap[wN]? =some (.cells cur e fr)):
  (sortWorldK enc k w wN 0 m dk os).heap[wN]? =some (.cells (putCells id 0 (flatK enc k dk) cur) e fr):=by
 have gV:wN < w.heap.size:=(bB.1 hb).1
 show((w.heap.modify wN _)++os)[wN]? =_
 rw[iT,if_pos (by simpa using gV),fu,if_pos rfl,hb]
 rfl
set_option maxHeartbeats 1000000 in
theorem EP(L:SlLaysF0.n6 P ρ){e:TypeId}(ha:t.agg=true)(aE:∀w,(isAgg (ρ.t 24)).run P w= .ok true w)(zE:∀w,(Go.sizeOf (ρ.t 24)).run P w= .ok t.size w)(hc:Mj P t g Q cf):
  lb P (ρ.f 6) (KB g e t Q cf):=by
 intro w γ β args cj jr x hv ho hx
 obtain⟨d0,RD,P4⟩:∃d,wD g e t d=(args,cj)/\xy Q cf d:=by
  by_cases hh:∃d,wD g e t d=(args,cj)/\xy Q cf d
  ·exact hh
  ·exfalso
   have hn:(KB g e t Q cf).run args cj=none:=dif_neg hh
   rw[hn]at hx
   cases hx
 have hr:=CT (g:=g) (e:=e) P4
 unfold yX at hr
 rw[RD]at hr
 obtain rfl:x=(d0.1,tS cf d0.2):=ba (hx.symm.trans hr)
 obtain⟨n,l⟩:=d0
 simp only[wD,cE]at RD
 obtain⟨rfl,rfl⟩:=RD
 obtain⟨hn,mE,hQ,hT⟩:=P4
 have hn:n=l.length:=hn
 subst hn
 match jr,hv with
 |[y1,y2],⟨N2,xO,_⟩=>
 obtain⟨vs,rfl,vH⟩:=Bx xO
 have vH:vs=[]:=by simpa only[VC]using vH
 subst vH
 have h1:=N2.single rfl rfl
 simp only[V]at h1
 obtain⟨a,cap,h1,vE,la,_,eK⟩:=h1
 have h1:y1= .slice a l.length cap:=by simpa using h1
 subst h1
 have cI:(fm [dv.obj 0 false (.vec e t l)]).bT (.dw 0)=some (.obj 0 false (.vec e t l)):=rfl
 obtain⟨hz,hO⟩:Pe ((fm [dv.obj 0 false (.vec e t l)]).env w γ β) (.dw 0) false e t l:=ho (.dw 0) 0 false _ cI
 have eK:=eK ⟨false,_,cI⟩
 refine .inl ⟨L.f6.enters rfl _ _,?_⟩
 have TV:∀v:Value,v= .tuple #[]->VS ((jA.st ⟨.nil,[.obj 0 false (.vec e t (tS cf l))],[]⟩).env w γ β) .nil v:=λv hv=>by rw[hv];exact rfl
 have hS:=CS hc hQ
 by_cases hl:l=[]
 ·subst hl
  have hs:tS cf ([]:List t.den)=[]:=aQ hS.1.length_eq
  refine(AnyF.slices_SortFunc_none L a cap _ w).mono λe' w' he=> ?_
  obtain⟨rfl,rfl⟩:=he
  refine⟨_,rfl,?_⟩
  show oI _ (⟨.nil,[.obj 0 false (.vec e t (tS cf []))],[]⟩:jA) _ _
  rw[hs]
  exact oI.same rfl ho
 ·have lX:0 < l.length:=List.length_pos_iff.2 hl
  change (match β (.dw 0) with | none=>l=[] | some pl=>∃cur k,w.heap[pl.b]? =some (.cells cur e (0,0))/\cur.size=pl.cap*t.size/\l.length<=pl.cap/\pl.cap<=maxLen/\γ pl.b= .own (.id (.dw 0)) k/\
   k<=l.length*t.size/\(false=false->k=0)/\aV (cT ((fm [dv.obj 0 false (.vec e t l)]).env w γ β) t) (cur.toList.take (l.length*t.size)) l) at hO
  change (match β (.dw 0) with | some pl=>(0 < l.length\/True->a=some ⟨pl.b,0,none⟩)/\(True->True->cap=pl.cap) | none=>a=none/\l.length=0/\cap=0) at eK
  cases hβ:β (.dw 0) with
  |none=>rw[hβ]at hO;exact absurd hO hl
  |some pl=>
  rw[hβ]at hO eK
  obtain⟨cur,k0,q1,q2,q3,q4,q5,_,q7,q8⟩:=hO
  obtain rfl:=q7 rfl
  obtain rfl:=eK.1 (.inl lX)
  have hblk:pl.b < w.heap.size:=(bB.1 q1).1
  obtain⟨R,hR⟩:∃R:List Value->t.den->Prop,R=cT ((fm [dv.obj 0 false (.vec e t l)]).env w γ β) t:=⟨_,rfl⟩
  have hRm:∀c x,R c x->cT ((fm [dv.obj 0 false (.vec e t l)]).env w γ β) t c x:=by rw[hR];exact λ_ _ h=>h
  rw[<-hR]at q8
  obtain⟨ps,p1,p2⟩:=vu (Q:=Q) q8 hQ
  have P5:ps.length=l.length:=by rw[<-p1,cg]
  let α:= {p:List Value×t.den // R p.1 p.2/\Q p.2}
  have:0 < ps.length:=by omega
  letI:Inhabited α:=⟨ps[0]⟩
  let enc:α->List Value:=λp=>p.1.1
  let cf':α->α->Int:=λp q=>cf p.1.2 q.1.2
  have hk:∀x,(enc x).length=t.size:=λx=>(hRm _ _ x.2.1).size
  have hO:SWO (ltOf cf'):=⟨λx=>by simpa[ltOf,cf']using hc.irrefl _ x.2.2,λx y z h1 h2=>by
   simp only[ltOf,decide_eq_true_eq,cf']at*
   exact hc.trans _ _ _ x.2.2 y.2.2 z.2.2 h1 h2,λx y z h1 h2=>by
   simp only[ltOf,decide_eq_false_iff_not,cf']at*
   exact hc.ntrans _ _ _ x.2.2 y.2.2 z.2.2 h1 h2⟩
  have qY:∀j,j < l.length*t.size->cur[j]? =((ps.map enc).flatten)[j]? :=λj hj=>by
   have:(ps.map enc).flatten=cur.toList.take (l.length*t.size):=p2
   rw[this,cV,if_pos hj,gl]
  have hH:HoldsK enc t.size w pl.b 0 ps.toArray:=λj hj=>by
   rw[size_flatK]at hj
   have hj:j < ps.length*t.size:=by simpa using hj
   have h2:=qY j (by rw[<-P5];exact hj)
   have h3:((flatK enc t.size ps.toArray).toList)[j]? =((ps.map enc).flatten)[j]? :=by rw[uL enc hk]
   rw[gl,eC (by rw[size_flatK];simpa using hj)]at h3
   refine⟨?_,?_⟩
   ·show(match w.heap[pl.b]? with | some (.cells c _ _)=>if(none:Option _).isSome then none else c[0+j]? | _=>none)=_
    rw[q1]
    simp only[Option.isSome_none,bN,if_false,aR]
    rw[h2,<-h3,getElem!_pos _ j (by rw[size_flatK];simpa using hj)]
    rfl
   ·show(match w.heap[pl.b]? with | some (.cells _ _ (lo,hi))=>decide (lo<=0+j) && decide (0+j < hi) | _=>false)=false
    rw[q1]
    simp
  have qJ:∀(m:Nat) (dk:Array α) (os:Array Obj),mr ((fm [dv.obj 0 false (.vec e t l)]).env w γ β) ((fm []).env (sortWorldK enc t.size w pl.b 0 m dk os) (λ_=> .free) (λ_=>none)):=λm dk os=>by
   refine⟨λb off v hh=>⟨?_,trivial⟩,λb ob hf ju=>⟨rfl,?_⟩⟩
   ·obtain⟨h1,h2⟩:=hh
    have hb:b < w.heap.size:=World.block_lt_of_cell? _ _ h1
    have gS:b≠pl.b:=λe=>by
     have h2:mY γ b off:=h2
     unfold mY at h2
     rw[e,q5]at h2
     exact Nat.not_lt_zero _ h2
    have h1:w.cell? ⟨b,off,none⟩=some v:=h1
    show(sortWorldK enc t.size w pl.b 0 m dk os).cell? ⟨b,off,none⟩=some v
    simpa only[World.cell?,Ap enc t.size w pl.b m dk os hb gS]using h1
   ·have ju:w.heap[b]? =some ob:=ju
    have hb:b < w.heap.size:=(bB.1 ju).1
    have gS:b≠pl.b:=λe=>by
     have hf:γ b= .free:=hf
     rw[e,q5]at hf;cases hf
    exact(Ap enc t.size w pl.b m dk os hb gS).trans ju
  have RB:CmpLays P g #[] enc t.size cf' pl.b 0 ps.toArray.size w:=λm os dk _ p q=>
   hc.Pr ha ((hRm _ _ p.2.1).mono (qJ m dk os)) ((hRm _ _ q.2.1).mono (qJ m dk os)) p.2.2 q.2.2
  have PG:=AnyQ.slices_SortFunc L t.size aE zE enc hk (λp=>(hRm _ _ p.2.1).one) cf' hO g #[] pl.b 0 cap ps.toArray w hc.enters RB hH hblk (by simpa[P5]using mE)
  rw[show ps.toArray.size=l.length by simpa using P5]at PG
  refine PG.mono λe' w' he=> ?_
  obtain⟨rfl,d',m,os,hp,hs,rfl⟩:=he
  refine⟨_,rfl,?_⟩
  obtain⟨s1,_,s2⟩:=hp
  have hd:d'.size=l.length:=by rw[s1];simpa using P5
  have DY:d'.toList.Perm ps:=by
   have e1:(d'.extract 0 l.length)=d':=by rw[<-hd];simp
   have e2:(ps.toArray.extract 0 l.length)=ps.toArray:=by rw[<-P5];simp
   rw[e1,e2]at s2
   exact s2
  have hl':Fb cf l (d'.toList.map (·.1.2)):=by
   refine⟨by rw[<-p1];exact DY.map _,?_⟩
   rw[List.pairwise_map,List.pairwise_iff_getElem]
   intro i j hi hj RK
   have:=hs i j (aP _) RK (by rw[<-hd];simpa using hj)
   rw[getElem!_pos d' i (by simpa using hi),getElem!_pos d' j (by simpa using hj)]at this
   simpa[ltOf,cf']using this
  have heq:=qa hc hQ hT hl'
  show oI _ (⟨.nil,[.obj 0 false (.vec e t (tS cf l))],[]⟩:jA) _ _
  rw[<-heq]
  have jT:=Mc enc t.size w pl.b m d' os q1
  have hFs:(flatK enc t.size d').size<=cur.size:=by
   rw[size_flatK,hd,q2]
   exact cW _ q3
  have vG:∀b,b < w.heap.size->b≠pl.b->(sortWorldK enc t.size w pl.b 0 m d' os).heap[b]? =w.heap[b]? :=λb hb gS=>Ap enc t.size w pl.b m d' os hb gS
  have JL:w.heap.size<=(sortWorldK enc t.size w pl.b 0 m d' os).heap.size:=size_sortWorldK_c enc t.size w pl.b 0 m d' os
  have hw:(sortWorldK enc t.size w pl.b 0 m d' os).os=w.os/\(sortWorldK enc t.size w pl.b 0 m d' os).tape=w.tape/\((sortWorldK enc t.size w pl.b 0 m d' os).output=w.output/\w.drawn<=(sortWorldK enc t.size w pl.b 0 m d' os).drawn):=⟨rfl,rfl,rfl,Nat.le_add_right _ _⟩
  generalize sortWorldK enc t.size w pl.b 0 m d' os=w' at jT vG JL hw
  have ht:Trans w w' γ γ:=by
   refine⟨hw.1,hw.2.1,hw.2.2,JL,λb hb=> ?_⟩
   by_cases Rw:b=pl.b
   ·subst Rw
    rw[q5]
    exact⟨.inr ⟨_,0,rfl,az _⟩,λ_ _ hh=>by omega⟩
   ·rw[vG b hb Rw]
    cases yu:γ b with
    |free=>exact⟨rfl,rfl⟩
    |own o' k=>cases o' with
     |dH=>exact⟨rfl,rfl⟩
     |id i'=>exact⟨.inr ⟨i',k,rfl,az _⟩,λoff v _ hv=>by simpa only[World.cell?,vG b hb Rw]using hv⟩
  have hle:cD ((fm [dv.obj 0 false (.vec e t l)]).env w γ β) ((jA.st ⟨.nil,[.obj 0 false (.vec e t (d'.toList.map (·.1.2)))],[]⟩).env w' γ β):=by
   have e0:∀id,(∃c,(fm [dv.obj 0 false (.vec e t l)]).bT id=some (.obj 0 false c)/\id= .dw 0)\/((fm [dv.obj 0 false (.vec e t l)]).bT id=none/\(jA.st ⟨.nil,[.obj 0 false (.vec e t (d'.toList.map (·.1.2)))],[]⟩).bT id=none):=λid=>by
    cases id with
    |dw k=>cases k with
     |zero=>exact .inl ⟨_,rfl,rfl⟩
     |succ k=>exact .inr ⟨rfl,rfl⟩
    |new i j=>refine .inr ⟨?_,?_⟩ <;> cases i <;> rfl
   refine⟨Trans.mem (E:=(fm [dv.obj 0 false (.vec e t l)]).env w γ β) (E':=(jA.st ⟨.nil,[.obj 0 false (.vec e t (d'.toList.map (·.1.2)))],[]⟩).env w' γ β) ht,λid ver hb=> ?_,λid ver hb TC=> ?_⟩
   ·rcases e0 id with⟨c,_,rfl⟩ | ⟨h1,_⟩
    ·refine⟨by show(some _:Option dv)≠none;simp,λv fr c h=> ?_⟩
     have h:some (dv.obj 0 false (.vec e t (d'.toList.map (·.1.2))))=some (.obj v fr c):=h
     simp only[au,dv.obj.injEq]at h
     have:=hb.2 0 false _ rfl
     omega
    ·exact absurd h1 hb.1
   ·rcases e0 id with⟨c,_,rfl⟩ | ⟨h1,_⟩
    ·obtain⟨fr,c,h⟩:=TC
     have h:some (dv.obj 0 false (.vec e t (d'.toList.map (·.1.2))))=some (.obj ver fr c):=h
     simp only[au,dv.obj.injEq]at h
     obtain⟨rfl,rfl,_⟩:=h
     exact⟨⟨false,_,rfl⟩,rfl⟩
    ·exact absurd h1 hb.1
  refine⟨γ,β,rfl,λid ver fr c h=> ?_,ht,hle⟩
  have cZ:id= .dw 0/\ver=0/\fr=false/\c= .vec e t (d'.toList.map (·.1.2)):=by
   cases id with
   |dw k=>cases k with
    |zero=>
     have h:some (dv.obj 0 false (.vec e t (d'.toList.map (·.1.2))))=some (.obj ver fr c):=h
     simp only[au,dv.obj.injEq]at h
     obtain⟨rfl,rfl,rfl⟩:=h
     exact⟨rfl,rfl,rfl,rfl⟩
    |succ k=>cases h
   |new i j=>cases i <;> cases h
  obtain⟨rfl,rfl,rfl,rfl⟩:=cZ
  refine⟨hz,?_⟩
  show(match β (.dw 0) with | none=>(d'.toList.map (·.1.2))=[] | some pl=>_)
  rw[hβ]
  have hlen:(d'.toList.map (λp:α=>p.1.2)).length=l.length:=by simpa using hd
  refine⟨_,0,jT,?_,by rw[hlen];exact q3,q4,q5,aP _,λ_=>rfl,?_⟩
  ·rw[<-q2];simp[putCells]
  ·have e3:(putCells id 0 (flatK enc t.size d') cur).toList.take ((d'.toList.map (λp:α=>p.1.2)).length*t.size)=(d'.toList.map enc).flatten:=by
    rw[Km hFs,uL enc hk,hlen]
    have e4:((d'.toList.map enc).flatten).length=l.length*t.size:=by
     rw[<-uL enc hk,cz,size_flatK,hd]
    rw[<-e4,List.take_left]
   rw[e3]
   exact v8 (Q:=Q) (λc x h=>(hRm c x h).mono hle.mem) d'.toList
end
end Go.Ab
namespace Go.Ab
open Go.Proofs
def Cc(l:Lk):Prop:=l.1.length<=1000000000/\∀b∈l.1,b.1.length<=1000000000
def pn(x:jO):Bool:=decide (x.2.1.2.1.length<=14)
def nM(b:tl):Bool:=decide (b.1.length<=14)
def lC(o:na):Bool:=decide (o.2.1.1.length<=6) && o.2.1.1.all nM
def xx(t:ke):Bool:=decide (t.1.length<=66/\t.2.1.length<=66) && (t.1.all pn && t.2.1.all lC)
abbrev ab.L0.D:=ke×Int
def ab.L0.st:ab.L0.D->AS:=λ(wJ,i)=>⟨([.undef,.eS px wJ,.undef,.d ti i]++bm 69 []),[],(List.replicate 73 [])⟩
abbrev ab.L0.Y0:=Unit
abbrev ab.L0.X0:=Unit
def ab.L0.dY:ab.L0.X0->Exit×AS:=λx=>(.ret,⟨([.undef,.undef,.d .bool false]++bm 70 []),[],(List.replicate 73 [])⟩)
abbrev ab.L0.Y1:=Unit
abbrev ab.L0.X1:=ke
def ab.L0.gN:ab.L0.X1->Exit×AS:=λx=>(.exit 0,⟨([.undef,.eS px x]++bm 71 []),[],(List.replicate 73 [])⟩)
abbrev ab.L0.X:=(ab.L0.X0)⊕(ab.L0.X1)
abbrev ab.L0.Y:=(ab.L0.Y0)⊕(ab.L0.Y1)
def ab.L0.out:ab.L0.X->Out (Exit×AS):=λx=> .br x.isLeft (.get x.getLeft? λa=> .ok (ab.L0.dY a)) (.get x.getRight? λb=> .ok (ab.L0.gN b))
def ab.L0.add:ab.L0.D->ab.L0.Y->ab.L0.X:=λ(wJ,i) y=>match y with | .inl y=> .inl y | .inr z=> .inr (wJ)
abbrev ab.L1.D:=ke×Int
def ab.L1.st:ab.L1.D->AS:=λ(E7,qS)=>⟨([.undef,.eS px E7,.undef,.undef,.d ti qS]++bm 68 []),[],(List.replicate 73 [])⟩
abbrev ab.L1.Y0:=Unit
abbrev ab.L1.X0:=Unit
def ab.L1.dY:ab.L1.X0->Exit×AS:=λx=>(.ret,⟨([.undef,.undef,.d .bool false]++bm 70 []),[],(List.replicate 73 [])⟩)
abbrev ab.L1.Y1:=Unit
abbrev ab.L1.X1:=Unit
def ab.L1.gN:ab.L1.X1->Exit×AS:=λx=>(.exit 2,⟨(bm 73 []),[],(List.replicate 73 [])⟩)
abbrev ab.L1.X:=(ab.L1.X0)⊕(ab.L1.X1)
abbrev ab.L1.Y:=(ab.L1.Y0)⊕(ab.L1.Y1)
def ab.L1.out:ab.L1.X->Out (Exit×AS):=λx=> .br x.isLeft (.get x.getLeft? λa=> .ok (ab.L1.dY a)) (.get x.getRight? λb=> .ok (ab.L1.gN b))
def ab.L1.add:ab.L1.D->ab.L1.Y->ab.L1.X:=λ(E7,qS) y=>match y with | .inl y=> .inl y | .inr z=> .inr (z)
abbrev ab.L2.D:=ke×Int×Int
def ab.L2.st:ab.L2.D->AS:=λ(IK,xR,kv)=>⟨([.undef,.eS px IK,.undef,.undef,.d ti xR,.d ti kv]++bm 67 []),[],(List.replicate 73 [])⟩
abbrev ab.L2.Y0:=Unit
abbrev ab.L2.X0:=Unit
def ab.L2.dY:ab.L2.X0->Exit×AS:=λx=>(.ret,⟨([.undef,.undef,.d .bool false]++bm 70 []),[],(List.replicate 73 [])⟩)
abbrev ab.L2.Y1:=Unit
abbrev ab.L2.X1:=ke×Int
def ab.L2.gN:ab.L2.X1->Exit×AS:=λx=>(.exit 4,⟨([.undef,.eS px x.1,.undef,.undef,.d ti x.2]++bm 68 []),[],(List.replicate 73 [])⟩)
abbrev ab.L2.X:=(ab.L2.X0)⊕(ab.L2.X1)
abbrev ab.L2.Y:=(ab.L2.Y0)⊕(ab.L2.Y1)
def ab.L2.out:ab.L2.X->Out (Exit×AS):=λx=> .br x.isLeft (.get x.getLeft? λa=> .ok (ab.L2.dY a)) (.get x.getRight? λb=> .ok (ab.L2.gN b))
def ab.L2.add:ab.L2.D->ab.L2.Y->ab.L2.X:=λ(IK,xR,kv) y=>match y with | .inl y=> .inl y | .inr z=> .inr ((IK,xR))
abbrev ab.D:=ke
abbrev ab.Y:=Bool
def ab.L0.bf:ab.L0.D->Prop:=λ(t,i)=>t.1.length<=1000000000/\∃k:Nat,k<=t.1.length/\i=k
def ab.L0.F:ab.L0.D->ab.L0.Y:=λ(t,i)=>if(List.drop (Int.toNat i) t.1).all pn then .inr () else .inl ()
def ab.L2.bf:ab.L2.D->Prop:=λ(t,j,i)=>(nth mZ t.2.1 (Int.toNat j)).2.1.1.length<=1000000000/\∃k:Nat,k<=(nth mZ t.2.1 (Int.toNat j)).2.1.1.length/\i=k/\(0<=j/\j < (t.2.1.length:Int))
def ab.L2.F:ab.L2.D->ab.L2.Y:=λ(t,j,i)=>if(List.drop (Int.toNat i) (nth mZ t.2.1 (Int.toNat j)).2.1.1).all nM then .inr () else .inl ()
def ab.L1.bf:ab.L1.D->Prop:=λ(t,i)=>t.2.1.length<=1000000000/\∃k:Nat,k<=t.2.1.length/\i=k
def ab.L1.F:ab.L1.D->ab.L1.Y:=λ(t,i)=>if(List.drop (Int.toNat i) t.2.1).all lC then .inr () else .inl ()
def ab.bf:ab.D->Prop:=λ_=>True
def ab.F:ab.D->ab.Y:=λt=>xx t
def ab.L0.E:=eR.iY ab.L0.st ab.L0.bf ab.L0.add ab.L0.F ab.L0.out
def ab.L0.call:ab.L0.D->Option ab.L0.X:=kE ab.L0.E ab.L0.st
def ab.L1.E:=eR.iY ab.L1.st ab.L1.bf ab.L1.add ab.L1.F ab.L1.out
def ab.L1.call:ab.L1.D->Option ab.L1.X:=kE ab.L1.E ab.L1.st
def ab.L2.E:=eR.iY ab.L2.st ab.L2.bf ab.L2.add ab.L2.F ab.L2.out
def ab.L2.call:ab.L2.D->Option ab.L2.X:=kE ab.L2.E ab.L2.st
def ab:Fs Tryz.prog ab.bf bV ab.F:=gf 49 Tryz.f49 (λt=>([.d px t],[])) (λx=>⟨.d .bool x,[],[]⟩) [some px] [] {loops:=qu [(4,{bA:=[1,3]}),(9,{bA:=[1,4]}),(14,{bA:=[1,4,5]})],outs:=qt [(4,{bA:=[1]},{bA:=[2]}),(9,{},{bA:=[2]}),(14,{bA:=[1,4]},{bA:=[2]})],jl:=qU [(4,ab.L0.E),(9,ab.L1.E),(14,ab.L2.E)]}
def ab.L0.R:= @iN Tryz.prog (mR ab.G) ab.an 0 Tryz.f49 0 _ ab.L0.st
abbrev ab.L0.Ok:=oS Tryz.prog (mR ab.G) ab.an 0 Tryz.f49 0 ab.L0.st ab.L0.bf ab.L0.add ab.L0.F ab.L0.out
def ab.L1.R:= @iN Tryz.prog (mR ab.G) ab.an 0 Tryz.f49 1 _ ab.L1.st
abbrev ab.L1.Ok:=oS Tryz.prog (mR ab.G) ab.an 0 Tryz.f49 1 ab.L1.st ab.L1.bf ab.L1.add ab.L1.F ab.L1.out
def ab.L2.R:= @iN Tryz.prog (mR ab.G) ab.an 0 Tryz.f49 2 _ ab.L2.st
abbrev ab.L2.Ok:=oS Tryz.prog (mR ab.G) ab.an 0 Tryz.f49 2 ab.L2.st ab.L2.bf ab.L2.add ab.L2.F ab.L2.out
theorem ab.L0.run:ng ab.L0.call ab.L0.bf ab.L0.add ab.L0.F:=ql (o8 [.d px,.d ti] λ_=>by kernel_rfl)
theorem ab.L0.da:qh @ab.L0.R ab.L0.st ab.L0.bf ab.L0.add ab.L0.F ab.L0.out ab.L0.Ok:=qH
theorem ab.L0.step{R:Type}(wJ:ke)(i:Int)(kn:AS->Option R)(kx:Exit->AS->Option R):ab.L0.R (wJ,i) kn kx=
  aN ((iX i (((List.length wJ.1):Nat):Int))) (
   aN (gw i (((List.length wJ.1):Nat):Int)) (
   aN ((ri (((List.length (nth kL wJ.1 (Int.toNat i)).2.1.2.1):Nat):Int) (14:Int))) (
    kx (ab.L0.dY ()).1 (ab.L0.dY ()).2) (
    kn (ab.L0.st (wJ,(bQ .i64 i (1:Int)))))) none) (
   kx (ab.L0.gN wJ).1 (ab.L0.gN wJ).2):=by kernel_rfl
theorem ab.L1.run:ng ab.L1.call ab.L1.bf ab.L1.add ab.L1.F:=ql (o8 [.d px,.d ti] λ_=>by kernel_rfl)
theorem ab.L1.da:qh @ab.L1.R ab.L1.st ab.L1.bf ab.L1.add ab.L1.F ab.L1.out ab.L1.Ok:=qH
theorem ab.L1.step{R:Type}(E7:ke)(qS:Int)(kn:AS->Option R)(kx:Exit->AS->Option R):ab.L1.R (E7,qS) kn kx=
  aN ((iX qS (((List.length E7.2.1):Nat):Int))) (
   aN (gw qS (((List.length E7.2.1):Nat):Int)) (
   aN ((ri (((List.length (nth mZ E7.2.1 (Int.toNat qS)).2.1.1):Nat):Int) (6:Int))) (
    kx (ab.L1.dY ()).1 (ab.L1.dY ()).2) (
    aB (ab.L2.call (E7,qS,(0:Int))) λx1=>
    aN (x1.isLeft) (
     aB (x1.getLeft?) λa2=>
     kx (ab.L1.dY ()).1 (ab.L1.dY ()).2) (
     aB (x1.getRight?) λb3=>
     kn (ab.L1.st (b3.1,(bQ .i64 b3.2 (1:Int))))))) none) (
   kx (ab.L1.gN ()).1 (ab.L1.gN ()).2):=by kernel_rfl
theorem ab.L2.run:ng ab.L2.call ab.L2.bf ab.L2.add ab.L2.F:=ql (o8 [.d px,.d ti,.d ti] λ_=>by kernel_rfl)
theorem ab.L2.da:qh @ab.L2.R ab.L2.st ab.L2.bf ab.L2.add ab.L2.F ab.L2.out ab.L2.Ok:=qH
theorem ab.L2.step{R:Type}(IK:ke)(xR:Int)(kv:Int)(kn:AS->Option R)(kx:Exit->AS->Option R):ab.L2.R (IK,xR,kv) kn kx=
  aN (gw xR (((List.length IK.2.1):Nat):Int)) (
  aN ((iX kv (((List.length (nth mZ IK.2.1 (Int.toNat xR)).2.1.1):Nat):Int))) (
   aN (gw xR (((List.length IK.2.1):Nat):Int)) (
   aN (gw kv (((List.length (nth mZ IK.2.1 (Int.toNat xR)).2.1.1):Nat):Int)) (
   aN ((ri (((List.length (nth mU (nth mZ IK.2.1 (Int.toNat xR)).2.1.1 (Int.toNat kv)).1):Nat):Int) (14:Int))) (
    kx (ab.L2.dY ()).1 (ab.L2.dY ()).2) (
    kn (ab.L2.st (IK,xR,(bQ .i64 kv (1:Int)))))) none) none) (
   kx (ab.L2.gN (IK,xR)).1 (ab.L2.gN (IK,xR)).2)) none:=by kernel_rfl
theorem ab.eq{R:Type}(t)(k:K1 R):ab.A t k=
  aN ((ri (t.1.length:Int) 66)) (
   k (ab.out false)) (
   aN ((ri (t.2.1.length:Int) 66)) (
    k (ab.out false)) (
    aB (ab.L0.call (t,0)) λx1=>
    aN (x1.isLeft) (
     aB (x1.getLeft?) λa2=>
     k (ab.out false)) (
     aB (x1.getRight?) λb3=>
     aB (ab.L1.call (b3,0)) λx7=>
     aN (x7.isLeft) (
      aB (x7.getLeft?) λa8=>
      k (ab.out false)) (
      aB (x7.getRight?) λb9=>
      k (ab.out true))))):=by kernel_rfl
theorem ab.L0.ok:ab.L0.Ok:=by
 refine ab.L0.da (λ(t,i)=>t.1.length - Int.toNat i) ?_
 rintro⟨t,i⟩ ⟨hlen,k,hk,rfl⟩
 have hlen:t.1.length<=1000000000:=hlen
 have hk:k<=t.1.length:=hk
 by_cases h:k < t.1.length
 ·have n1:nth kL t.1 k=t.1[k]:=dq (t:=kL) h
  have hd:(List.drop k t.1).all pn=(pn t.1[k] && (List.drop (k+1) t.1).all pn):=by rw[ax h,gH]
  have step:∀ {R:Type} (kn:AS->Option R) (kx:Exit->AS->Option R),ab.L0.R (t,(k:Int)) kn kx=aN (pn t.1[k]) (kn (ab.L0.st (t,((k+1:Nat):Int)))) (kx (ab.L0.dY ()).1 (ab.L0.dY ()).2):=by
   intro R kn kx
   rw[ab.L0.step,aU (by omega),bt (show(0:Int)<=(k:Int) by omega) (by omega),aa,n1]
   simp only[ag]
   rw[N.py (by omega)]
   unfold pn
   by_cases hs:t.1[k].2.1.2.1.length<=14
   ·rw[di (by omega),aX hs];rfl
   ·rw[dA (by omega),cC hs];rfl
  cases hp:pn t.1[k]
  ·right
   refine⟨ab.L0.dY (),?_,λkn kx=> ?_⟩
   ·simp only[ab.L0.add,ab.L0.F,aa,hd,hp,eM,bN,if_false]
    rfl
   ·rw[step,hp,ai]
  ·left
   refine⟨(t,((k+1:Nat):Int)),⟨hlen,k+1,by omega,rfl⟩,by simp only[aa];omega,?_,λkn kx=> ?_⟩
   ·simp only[ab.L0.add,ab.L0.F,aa,hd,hp,bW]
   ·rw[step,hp,ag]
 ·right
  obtain rfl:k=t.1.length:=by omega
  refine⟨ab.L0.gN t,?_,λkn kx=> ?_⟩
  ·simp only[ab.L0.add,ab.L0.F,aa,aY]
   rfl
  ·rw[ab.L0.step,aW (by omega),ai]
theorem ab.L2.ok:ab.L2.Ok:=by
 refine ab.L2.da (λ(t,j,i)=>(nth mZ t.2.1 (Int.toNat j)).2.1.1.length - Int.toNat i) ?_
 rintro⟨t,j,i⟩ ⟨hlen,k,hk,rfl,hj⟩
 have hlen:(nth mZ t.2.1 (Int.toNat j)).2.1.1.length<=1000000000:=hlen
 have hk:k<=(nth mZ t.2.1 (Int.toNat j)).2.1.1.length:=hk
 have hj:0<=j/\j < (t.2.1.length:Int):=hj
 by_cases h:k < (nth mZ t.2.1 (Int.toNat j)).2.1.1.length
 ·have n1:nth mU (nth mZ t.2.1 (Int.toNat j)).2.1.1 k=(nth mZ t.2.1 (Int.toNat j)).2.1.1[k]:=dq (t:=mU) h
  have hd:(List.drop k (nth mZ t.2.1 (Int.toNat j)).2.1.1).all nM=(nM (nth mZ t.2.1 (Int.toNat j)).2.1.1[k] && (List.drop (k+1) (nth mZ t.2.1 (Int.toNat j)).2.1.1).all nM):=by rw[ax h,gH]
  have step:∀ {R:Type} (kn:AS->Option R) (kx:Exit->AS->Option R),ab.L2.R (t,j,(k:Int)) kn kx=aN (nM (nth mZ t.2.1 (Int.toNat j)).2.1.1[k]) (kn (ab.L2.st (t,j,((k+1:Nat):Int)))) (kx (ab.L2.dY ()).1 (ab.L2.dY ()).2):=by
   intro R kn kx
   rw[ab.L2.step,bt hj.1 hj.2,ag,aU (by omega),bt (show(0:Int)<=(k:Int) by omega) (by omega),aa,n1]
   simp only[ag]
   rw[N.py (by omega)]
   unfold nM
   by_cases hs:(nth mZ t.2.1 (Int.toNat j)).2.1.1[k].1.length<=14
   ·rw[di (by omega),aX hs];rfl
   ·rw[dA (by omega),cC hs];rfl
  cases hp:nM (nth mZ t.2.1 (Int.toNat j)).2.1.1[k]
  ·right
   refine⟨ab.L2.dY (),?_,λkn kx=> ?_⟩
   ·simp only[ab.L2.add,ab.L2.F,aa,hd,hp,eM,bN,if_false]
    rfl
   ·rw[step,hp,ai]
  ·left
   refine⟨(t,j,((k+1:Nat):Int)),⟨hlen,k+1,by omega,rfl,hj⟩,by simp only[aa];omega,?_,λkn kx=> ?_⟩
   ·simp only[ab.L2.add,ab.L2.F,aa,hd,hp,bW]
   ·rw[step,hp,ag]
 ·right
  obtain rfl:k=(nth mZ t.2.1 (Int.toNat j)).2.1.1.length:=by omega
  refine⟨ab.L2.gN (t,j),?_,λkn kx=> ?_⟩
  ·simp only[ab.L2.add,ab.L2.F,aa,aY]
   rfl
  ·rw[ab.L2.step,bt hj.1 hj.2,ag,aW (by omega),ai]
theorem ab.L1.ok:ab.L1.Ok:=by
 refine ab.L1.da (λ(t,i)=>t.2.1.length - Int.toNat i) ?_
 rintro⟨t,i⟩ ⟨hlen,k,hk,rfl⟩
 have hlen:t.2.1.length<=1000000000:=hlen
 have hk:k<=t.2.1.length:=hk
 by_cases h:k < t.2.1.length
 ·have n1:nth mZ t.2.1 k=t.2.1[k]:=dq (t:=mZ) h
  have hd:(List.drop k t.2.1).all lC=(lC t.2.1[k] && (List.drop (k+1) t.2.1).all lC):=by rw[ax h,gH]
  have step:∀ {R:Type} (kn:AS->Option R) (kx:Exit->AS->Option R),ab.L1.R (t,(k:Int)) kn kx=aN (lC t.2.1[k]) (kn (ab.L1.st (t,((k+1:Nat):Int)))) (kx (ab.L1.dY ()).1 (ab.L1.dY ()).2):=by
   intro R kn kx
   rw[ab.L1.step,aU (by omega),bt (show(0:Int)<=(k:Int) by omega) (by omega),aa,n1]
   simp only[ag]
   unfold lC
   by_cases hs:t.2.1[k].2.1.1.length<=6
   ·rw[di (by omega),aX hs,ai,ab.L2.run (d:=(t,(k:Int),0)) ⟨by rw[aa,n1];show t.2.1[k].2.1.1.length<=_;omega,0,aP _,rfl,by show(0:Int)<=(k:Int);omega,by show(k:Int) < (t.2.1.length:Int);omega⟩]
    simp only[ae,ab.L2.add,ab.L2.F,aa,n1,b5,aI,bW]
    cases t.2.1[k].2.1.1.all nM
    ·rfl
    ·simp only[if_true,kC,je,ai,ae,ag]
     rw[N.py (by omega)]
   ·rw[dA (by omega),cC hs];rfl
  cases hp:lC t.2.1[k]
  ·right
   refine⟨ab.L1.dY (),?_,λkn kx=> ?_⟩
   ·simp only[ab.L1.add,ab.L1.F,aa,hd,hp,eM,bN,if_false]
    rfl
   ·rw[step,hp,ai]
  ·left
   refine⟨(t,((k+1:Nat):Int)),⟨hlen,k+1,by omega,rfl⟩,by simp only[aa];omega,?_,λkn kx=> ?_⟩
   ·simp only[ab.L1.add,ab.L1.F,aa,hd,hp,bW]
   ·rw[step,hp,ag]
 ·right
  obtain rfl:k=t.2.1.length:=by omega
  refine⟨ab.L1.gN (),?_,λkn kx=> ?_⟩
  ·simp only[ab.L1.add,ab.L1.F,aa,aY]
   rfl
  ·rw[ab.L1.step,aW (by omega),ai]
theorem ab.ok:ab.Ok:=by
 intro t _
 rw[ab.eq]
 simp only[bV,ab.F,xx]
 by_cases h1:t.1.length<=66
 ·by_cases h2:t.2.1.length<=66
  ·rw[di (by omega),di (by omega),ai,ai,aX ⟨h1,h2⟩,ab.L0.run (d:=(t,0)) ⟨by show t.1.length<=_;omega,0,aP _,rfl⟩]
   simp only[ae,ab.L0.add,ab.L0.F,b5,aI,bW]
   cases t.1.all pn
   ·rfl
   ·simp only[if_true,kC,je,ai,ae,bW]
    rw[ab.L1.run (d:=(t,0)) ⟨by show t.2.1.length<=_;omega,0,aP _,rfl⟩]
    simp only[ae,ab.L1.add,ab.L1.F,b5,aI]
    cases t.2.1.all lC <;> rfl
  ·rw[di (by omega),dA (by omega),cC (λx=>h2 x.2)];rfl
 ·rw[dA (by omega),cC (λx=>h1 x.1)];rfl
theorem ab.run:ab.RS:=rE [.d px] ab
def ab.sg:=ab.gk ab.ok 3 ⟨.iY ab.L0.ok,⟨.iY ab.L1.ok,⟨.iY ab.L2.ok,trivial⟩⟩⟩
abbrev oA.D:=jm×jm
abbrev oA.Y:=Int
def tK(a b:jm):Int:=LN [y7 a.1 b.1,qW a.2.1 b.2.1]
def oA.bf:oA.D->Prop:=λ(a,b)=>a.1.length=32/\b.1.length=32
def oA.F:oA.D->oA.Y:=λ(a,b)=>tK a b
def oA:Fs Tryz.prog oA.bf bV oA.F:=gf 80 Tryz.f80 (λ(a,b)=>([.d gz a,.d gz b],[])) (λx=>⟨.d ti x,[],[]⟩) [some gz,some gz] [my.sg,jZ.sg,fJ.sg]
theorem oA.eq{R:Type}(a b)(k:K1 R):oA.A (a,b) k=
 aB (my.call ((cut a.1 0 32),(cut b.1 0 32))) λx1=>
 aB (jZ.call (a.2.1,b.2.1)) λx2=>
 aB (fJ.call [x1,x2]) λx3=>
 k (oA.out x3):=by kernel_rfl
theorem oA.ok:oA.Ok:=by
 rintro⟨a,b⟩ ⟨ha,hb⟩
 have ha:a.1.length=32:=ha
 have hb:b.1.length=32:=hb
 have c1:cut a.1 0 32=a.1:=iW ha
 have c2:cut b.1 0 32=b.1:=iW hb
 rw[oA.eq,c1,c2,my.run (d:=(a.1,b.1)) trivial]
 simp only[ae,bV,my.F]
 rw[jZ.run (d:=(a.2.1,b.2.1)) trivial]
 simp only[ae,bV,jZ.F]
 rw[fJ.run (d:=[y7 a.1 b.1,qW a.2.1 b.2.1]) (by show 2<=_;decide)]
 simp only[ae,bV,fJ.F,bV,oA.F,tK]
theorem oA.run:oA.RS:=rE [.d gz,.d gz] oA
def oA.sg:=oA.gk oA.ok
def lx:List Int->List Int->Int
 |x::xs,y::ys=>if x≠y then(if x < y then -1 else 1) else lx xs ys
 |_,_=>0
theorem CH:∀a,lx a a=0
 |[]=>rfl
 |x::a=>by simp[lx,CH a]
theorem J7:∀ {a b:List Int},a.length=b.length->lx a b=0->a=b
 |[],[],_,_=>rfl
 |[],_::_,h,_=>by simp at h
 |_::_,[],h,_=>by simp at h
 |x::a,y::b,h,h2=>by
  simp only[lx]at h2
  split at h2
  ·split at h2 <;> omega
  ·rename_i e
   have e:x=y:=by omega
   rw[e,J7 (by simpa using h) h2]
theorem rH:∀a b:List Int,lx b a= - lx a b
 |[],[]=>rfl
 |[],_::_=>rfl
 |_::_,[]=>rfl
 |x::a,y::b=>by
  simp only[lx]
  by_cases h:x=y
  ·rw[if_neg (by omega),if_neg (by omega),rH a b]
  ·rw[if_pos (by omega),if_pos h]
   by_cases h2:x < y
   ·rw[if_neg (by omega),if_pos h2];rfl
   ·rw[if_pos (by omega),if_neg h2]
theorem sP:∀ {a b c:List Int},a.length=b.length->b.length=c.length->lx a b<=0->lx b c<=0->lx a c<=0/\(lx a c=0->lx a b=0/\lx b c=0)
 |[],[],[],_,_,_,_=>by simp[lx]
 |x::a,y::b,z::c,h1,h2,h3,h4=>by
  have ih:=sP (a:=a) (b:=b) (c:=c) (by simpa using h1) (by simpa using h2)
  simp only[lx]at h3 h4 ⊢
  by_cases e1:x=y
  ·by_cases e2:y=z
   ·rw[if_neg (by omega)]at h3 h4
    rw[if_neg (by omega),if_neg (by omega),if_neg (by omega)]
    exact ih h3 h4
   ·rw[if_neg (by omega)]at h3
    rw[if_pos e2]at h4
    rw[if_pos (by omega)]
    by_cases e3:y < z
    ·rw[if_pos (by omega)]
     exact⟨by omega,λh=>by omega⟩
    ·rw[if_neg e3]at h4;omega
  ·rw[if_pos e1]at h3
   by_cases e3:x < y
   ·by_cases e2:y=z
    ·rw[if_pos (by omega),if_pos (by omega)]
     exact⟨by omega,λh=>by omega⟩
    ·rw[if_pos e2]at h4
     by_cases e4:y < z
     ·rw[if_pos (by omega),if_pos (by omega)]
      exact⟨by omega,λh=>by omega⟩
     ·rw[if_neg e4]at h4;omega
   ·rw[if_neg e3]at h3;omega
 |[],_::_,_,h,_,_,_=>by simp at h
 |_::_,[],_,h,_,_,_=>by simp at h
 |_,[],_::_,_,h,_,_=>by simp at h
 |_,_::_,[],_,h,_,_=>by simp at h
def O1(a b:Int):Int:=if a=0 then b else a
theorem vP{p:Int}{a b:List Int}:lx (p::a) (p::b)=lx a b:=by simp[lx]
theorem q9{p q:Int}{a b:List Int}(h:¬p=q):lx (p::a) (q::b)=if p < q then -1 else 1:=by simp[lx,h]
theorem CG:∀ {a b:List Int} (x y:Int),a.length=b.length->lx (a++ [x]) (b++ [y])=O1 (lx a b) (qW x y)
 |[],[],x,y,_=>by
  show lx [x] [y]=O1 0 (qW x y)
  simp only[O1,if_true]
  unfold qW
  by_cases h:x=y
  ·subst h
   rw[vP,if_neg (by omega),if_neg (by omega)]
   rfl
  ·rw[q9 h]
   by_cases h2:x < y
   ·rw[if_pos h2,if_pos h2]
   ·rw[if_neg h2,if_neg h2,if_pos (by omega)]
 |[],_::_,_,_,h=>by simp at h
 |_::_,[],_,_,h=>by simp at h
 |p::a,q::b,x,y,h=>by
  show lx (p::(a++ [x])) (q::(b++ [y]))=_
  by_cases h2:p=q
  ·subst h2
   rw[vP,vP]
   exact CG x y (by simpa using h)
  ·rw[q9 h2,q9 h2]
   by_cases h3:p < q
   ·rw[if_pos h3];rfl
   ·rw[if_neg h3];rfl
def Jm:List UInt8->List UInt8->Int
 |x::xs,y::ys=>if x !=y then(if x < y then -1 else 1) else Jm xs ys
 |_,_=>0
theorem Dt:∀(xs ys:List UInt8),xs.length=ys.length->(match(List.range xs.length).find? λi=>xs[i]! !=ys[i]! with | some i=>if xs[i]! < ys[i]! then(-1:Int) else 1 | none=>0)=Jm xs ys
 |[],[],_=>rfl
 |[],_::_,h=>by simp at h
 |_::_,[],h=>by simp at h
 |x::xs,y::ys,h=>by
  have ih:=Dt xs ys (by simpa using h)
  rw[aG,List.range_succ_eq_map,List.find?_cons]
  simp only[List.getElem!_cons_zero,Jm]
  cases hb:(x !=y) with
  |true=>simp
  |false=>
   simp only[bN,if_false]
   rw[List.find?_map,<-ih]
   have e:((λi=>(x::xs)[i]! !=(y::ys)[i]!)∘Nat.succ)=λi=>xs[i]! !=ys[i]! :=by
    funext i;simp
   rw[e]
   cases(List.range xs.length).find? λi=>xs[i]! !=ys[i]! <;> simp
theorem GR:∀ {a b:List Int},(∀x∈a,0<=x/\x < 256)->(∀x∈b,0<=x/\x < 256)->Jm (a.map λn=>UInt8.ofNat n.toNat) (b.map λn=>UInt8.ofNat n.toNat)=lx a b
 |[],_,_,_=>by cases ‹List Int› <;> rfl
 |_::_,[],_,_=>rfl
 |x::a,y::b,ha,hb=>by
  have hx:=ha x (aK ..)
  have hy:=hb y (aK ..)
  have ih:=GR (a:=a) (b:=b) (λz hz=>ha z (aH _ hz)) (λz hz=>hb z (aH _ hz))
  simp only[bJ,Jm,lx,ih]
  have e1:(UInt8.ofNat x.toNat).toNat=x.toNat:=by simp[UInt8.toNat_ofNat];omega
  have e2:(UInt8.ofNat y.toNat).toNat=y.toNat:=by simp[UInt8.toNat_ofNat];omega
  by_cases h:x=y
  ·subst h;simp
  ·have gS:(UInt8.ofNat x.toNat !=UInt8.ofNat y.toNat)=true:=by
    rw[bne_iff_ne]
    intro e
    have:=congrArg UInt8.toNat e
    rw[e1,e2]at this
    omega
   rw[gS,if_pos rfl,if_pos h]
   have gV:UInt8.ofNat x.toNat < UInt8.ofNat y.toNat↔x < y:=by
    rw[UInt8.lt_iff_toNat_lt,e1,e2];omega
   by_cases h2:x < y
   ·rw[if_pos (gV.2 h2),if_pos h2]
   ·rw[if_neg (λe=>h2 (gV.1 e)),if_neg h2]
theorem Lb{a b:List Int}(hl:a.length=b.length)(ha:∀x∈a,0<=x/\x < 256)(hb:∀x∈b,0<=x/\x < 256):y7 a b=lx a b:=by
 rw[<-GR ha hb,<-Dt _ _ (by simpa using hl)]
 unfold y7 Extern.BytealgCompare.cmp
 have s1:∀l:List Int,(eI l).size=l.length:=λl=>by simp[eI,ByteArray.size]
 have g1:∀(l:List Int) (i:Nat),(eI l)[i]! =(l.map λn=>UInt8.ofNat n.toNat)[i]! :=λl i=>by
  by_cases h:i < (eI l).size
  ·rw[getElem!_pos _ i h]
   have h2:i < (l.map λn=>UInt8.ofNat n.toNat).length:=by simpa[eI,ByteArray.size]using h
   rw[getElem!_pos _ i h2]
   rfl
  ·rw[getElem!_neg _ i h]
   have h2:¬i < (l.map λn=>UInt8.ofNat n.toNat).length:=by simpa[eI,ByteArray.size]using h
   rw[getElem!_neg _ i h2]
 simp only[s1,g1,hl,Nat.min_self,cg]
 cases(List.range b.length).find? λi=>(a.map λn=>UInt8.ofNat n.toNat)[i]! !=(b.map λn=>UInt8.ofNat n.toNat)[i]! <;> simp
def IY(o:jm):Prop:=o.1.length=32/\∀x∈o.1,0<=x/\x < 256
def pd(o:jm):List Int:=o.1++ [o.2.1]
theorem kJ{o:jm}(h:IY o):(pd o).length=33:=by simp[pd,h.1]
theorem Eo{a b:jm}(ha:IY a)(hb:IY b)(h:pd a=pd b):a=b:=by
 obtain⟨a1,a2,_⟩:=a
 obtain⟨b1,b2,_⟩:=b
 have h:a1++ [a2]=b1++ [b2]:=h
 have:=List.append_inj' h rfl
 rw[this.1,show a2=b2 by simpa using this.2]
theorem lI{a b:jm}(ha:IY a)(hb:IY b):tK a b=lx (pd a) (pd b):=by
 unfold pd tK
 rw[CG _ _ (ha.1.trans hb.1.symm),Lb (ha.1.trans hb.1.symm) ha.2 hb.2]
 simp only[LN,O1]
 by_cases h:lx a.1 b.1=0
 ·rw[if_pos h,if_neg (λe=>e h)]
  split
  ·rfl
  ·omega
 ·rw[if_neg h,if_pos h]
theorem y8:Mj Tryz.prog gz 80 IY tK:= {
 bT:=⟨oA.E,oA.sg.h.1 (by rfl),λx y hx hy=>⟨_,oA.run (d:=(x,y)) ⟨hx.1,hy.1⟩,rfl⟩⟩
 enters:=enters_of Tryz.func80 (by kernel_rfl) rfl
 irrefl:=λx hx=>by rw[lI hx hx,CH];decide
 trans:=λx y z hx hy hz h1 h2=>by
  rw[lI hx hy]at h1
  rw[lI hy hz]at h2
  rw[lI hx hz]
  have:=sP (by rw[kJ hx,kJ hy]) (by rw[kJ hy,kJ hz]) (by omega:lx (pd x) (pd y)<=0) (by omega:lx (pd y) (pd z)<=0)
  have h3:=this.1
  by_cases h4:lx (pd x) (pd z)=0
  ·have:=(this.2 h4).1;omega
  ·omega
 ntrans:=λx y z hx hy hz h1 h2=>by
  rw[lI hx hy]at h1
  rw[lI hy hz]at h2
  rw[lI hx hz]
  have e1:=rH (pd x) (pd y)
  have e2:=rH (pd y) (pd z)
  have e3:=rH (pd x) (pd z)
  have:=(sP (by rw[kJ hz,kJ hy]) (by rw[kJ hy,kJ hx]) (by omega:lx (pd z) (pd y)<=0) (by omega:lx (pd y) (pd x)<=0)).1
  omega}
theorem uz{x y:jm}(hx:IY x)(hy:IY y)(h1:¬tK x y < 0)(h2:¬tK y x < 0):x=y:=by
 rw[lI hx hy]at h1
 rw[lI hy hx,rH]at h2
 exact Eo hx hy (J7 (by rw[kJ hx,kJ hy]) (by omega))
end Go.Ab
namespace Go.Proofs
open Go.Shelf
def Tryz.Gt:Go.Shelf.Ren:=⟨λ | 6=>102 | 15=>155 | 14=>166 | 28=>214 | 29=>215 | 20=>226 | 21=>227 | 22=>228 | 23=>229 | 24=>230 | 25=>231 | 26=>232 | 27=>233 | 46=>270 | 47=>256 | 48=>257 | 49=>271 | 50=>272 | 57=>285 | n=>n,λ | 22=>92 | 24=>117 | 25=>179 | 3=>3 | 39=>224 | 0=>0 | 53=>255 | 55=>22 | 4=>4 | 46=>265 | 45=>264 | 50=>66 | 5=>5 | 9=>9 | 66=>298 | 70=>301 | 76=>313 | 77=>314 | n=>n,λ | n=>n⟩
theorem Tryz.KA:Go.Proofs.SlLaysF0.n6 Tryz.prog Tryz.Gt:= {
 mixed:=by kernel_rfl
 f6:=⟨Tryz.f102.name,by decide,Tryz.func102.trans (congrArg some (by kernel_rfl))⟩
 f14:=⟨Tryz.f166.name,by decide,Tryz.func166.trans (congrArg some (by kernel_rfl))⟩
 f15:=Tryz.func155.trans (congrArg some (by kernel_rfl))
 f20:=⟨Tryz.f226.name,by decide,Tryz.func226.trans (congrArg some (by kernel_rfl))⟩
 f21:=⟨Tryz.f227.name,by decide,Tryz.func227.trans (congrArg some (by kernel_rfl))⟩
 f22:=⟨Tryz.f228.name,by decide,Tryz.func228.trans (congrArg some (by kernel_rfl))⟩
 f23:=⟨Tryz.f229.name,by decide,Tryz.func229.trans (congrArg some (by kernel_rfl))⟩
 f24:=⟨Tryz.f230.name,by decide,Tryz.func230.trans (congrArg some (by kernel_rfl))⟩
 f25:=⟨Tryz.f231.name,by decide,Tryz.func231.trans (congrArg some (by kernel_rfl))⟩
 f26:=⟨Tryz.f232.name,by decide,Tryz.func232.trans (congrArg some (by kernel_rfl))⟩
 f27:=⟨Tryz.f233.name,by decide,Tryz.func233.trans (congrArg some (by kernel_rfl))⟩
 f28:=Tryz.func214.trans (congrArg some (by kernel_rfl))
 f29:=Tryz.func215.trans (congrArg some (by kernel_rfl))
 f46:=⟨Tryz.f270.name,by decide,Tryz.func270.trans (congrArg some (by kernel_rfl))⟩
 f47:=Tryz.func256.trans (congrArg some (by kernel_rfl))
 f48:=Tryz.func257.trans (congrArg some (by kernel_rfl))
 f49:=⟨Tryz.f271.name,by decide,Tryz.func271.trans (congrArg some (by kernel_rfl))⟩
 f50:=⟨Tryz.f272.name,by decide,Tryz.func272.trans (congrArg some (by kernel_rfl))⟩
 f57:=⟨Tryz.f285.name,by decide,Tryz.func285.trans (congrArg some (by kernel_rfl))⟩
 t0:=Tryz.underlying0
 a0:=Tryz.isAgg0
 z0:=Tryz.sizeOf0
 v0:=Tryz.zeroValue0
 t3:=Tryz.underlying3
 a3:=Tryz.isAgg3
 z3:=Tryz.sizeOf3
 v3:=Tryz.zeroValue3
 t4:=Tryz.underlying4
 a4:=Tryz.isAgg4
 z4:=Tryz.sizeOf4
 v4:=Tryz.zeroValue4
 t5:=Tryz.underlying5
 a5:=Tryz.isAgg5
 z5:=Tryz.sizeOf5
 v5:=Tryz.zeroValue5
 t9:=Tryz.underlying9
 a9:=Tryz.isAgg9
 z9:=Tryz.sizeOf9
 v9:=Tryz.zeroValue9
 t22:=Tryz.underlying92
 a22:=Tryz.isAgg92
 z22:=Tryz.sizeOf92
 v22:=Tryz.zeroValue92
 t25:=Tryz.underlying179
 a25:=Tryz.isAgg179
 z25:=Tryz.sizeOf179
 v25:=Tryz.zeroValue179
 t39:=Tryz.underlying224
 a39:=Tryz.isAgg224
 z39:=Tryz.sizeOf224
 v39:=Tryz.zeroValue224
 t45:=Tryz.underlying264
 a45:=Tryz.isAgg264
 z45:=Tryz.sizeOf264
 v45:=Tryz.zeroValue264
 t46:=Tryz.underlying265
 a46:=Tryz.isAgg265
 z46:=Tryz.sizeOf265
 v46:=Tryz.zeroValue265
 t50:=Tryz.underlying66
 a50:=Tryz.isAgg66
 z50:=Tryz.sizeOf66
 v50:=Tryz.zeroValue66
 t53:=Tryz.underlying255
 a53:=Tryz.isAgg255
 z53:=Tryz.sizeOf255
 v53:=Tryz.zeroValue255
 t55:=Tryz.underlying22
 a55:=Tryz.isAgg22
 z55:=Tryz.sizeOf22
 v55:=Tryz.zeroValue22
 t66:=Tryz.underlying298
 a66:=Tryz.isAgg298
 z66:=Tryz.sizeOf298
 v66:=Tryz.zeroValue298
 t70:=Tryz.underlying301
 a70:=Tryz.isAgg301
 z70:=Tryz.sizeOf301
 v70:=Tryz.zeroValue301
 t76:=Tryz.underlying313
 a76:=Tryz.isAgg313
 z76:=Tryz.sizeOf313
 v76:=Tryz.zeroValue313
 t77:=Tryz.underlying314
 a77:=Tryz.isAgg314
 z77:=Tryz.sizeOf314
 v77:=Tryz.zeroValue314}
end Go.Proofs
namespace Go.Ab
open Go.Proofs
theorem ye{β:Type}{kt:Ty}(hc:kt.comp=true){x:kt.den}{v:β}:∀ {l:List (kt.den×β)},x ∉ l.map (·.1)->iR kt x v l=l++ [(x,v)]
 |[],_=>rfl
 |p::l,h=>by
  rw[uS]
  have h1:¬kt.beq x p.1=true:=λe=>h (by rw[beq_eq kt _ _ hc e];simp)
  rw[if_neg h1,ye hc λe=>h (by simp[e])]
  rfl
theorem kb:gz.comp=true:=rfl
def sw(l:List (jm×AF)):Int:=(l.map λp=>p.2.1.1).sum
theorem nh(p:jm×AF)(l:List (jm×AF)):sw (p::l)=p.2.1.1+sw l:=by simp[sw]
theorem Dc(l l':List (jm×AF)):sw (l++l')=sw l+sw l':=by simp[sw]
theorem Hr{l l':List (jm×AF)}(h:l.Perm l'):sw l=sw l':=by
 induction h with
 |nil=>rfl
 |cons x _ ih=>rw[nh,nh,ih]
 |swap x y l=>rw[nh,nh,nh,nh];omega
 |trans _ _ h1 h2=>rw[h1,h2]
def KR(l:Lk):Prop:=l.1.length<=1000/\∀b∈l.1,b.1.length<=1000000
end Go.Ab
end
