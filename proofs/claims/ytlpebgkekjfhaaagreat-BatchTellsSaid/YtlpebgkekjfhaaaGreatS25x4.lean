/-
  Made short by a program of mine (wip/tools/mini.py).
-/
import Derived.Test.YtlpebgkekjfhaaaGreatS25x3
import Derived.Test.YtlpebgkekjfhaaaGreatProg
import Derived.Shelf.SlSortCmp.NoneTotal
set_option linter.unusedVariables false
set_option linter.unusedSimpArgs false
set_option maxRecDepth 100000
set_option synthInstance.maxSize 5000
noncomputable section
namespace Go.Ab
open Go.Proofs
abbrev binary.D:=Bs
abbrev binary.Y:=Int
def binary.aU:binary.D->Prop:=λb=>4<=b.length
def binary.F:binary.D->binary.Y:=λb=>vw (Rb (b.getD 0 0) (b.getD 1 0) (b.getD 2 0) (b.getD 3 0))
def binary:Fs Tryz.prog binary.aU bE binary.F:=fK 277 Tryz.f277 (λb=>([.d tB b],[])) (λx=>⟨.d (.int .u32) x,[],[]⟩) [some tB]
theorem binary.eq{R:Type}(b)(k:K1 R):binary.A b k=
 aJ (eY 0 (b.length:Int)) (
 aJ (eY 1 (b.length:Int)) (
 aJ (eY 2 (b.length:Int)) (
 aJ (eY 3 (b.length:Int)) (
 k (binary.out (cW .or .u32 (cW .or .u32 (cW .or .u32 (nk .u32 (dP .u32 (nth tb b 0)) 24) (nk .u32 (dP .u32 (nth tb b 1)) 16)) (nk .u32 (dP .u32 (nth tb b 2)) 8)) (dP .u32 (nth tb b 3))))) none) none) none) none:=by kernel_rfl
theorem binary.ok:binary.Ok:=by
 intro b h
 have h:4<=b.length:=h
 rw[binary.eq,bp (by omega) (by omega),bp (by omega) (by omega),bp (by omega) (by omega),bp (by omega) (by omega)]
 simp only[ae,Je,xO,mR]
 rfl
theorem binary.run:binary.RS:=rE [.d tB] binary
def binary.sg:=binary.fS binary.ok
abbrev fC.D:=Int×Int
abbrev fC.Y:=Int
def rl(w:W)(k:Nat):W:=w <<< k ||| w >>> (32 - k)
def fC.aU:fC.D->Prop:=λ(x,k)=>0<=x/\x < 4294967296
def fC.F:fC.D->fC.Y:=λ(x,k)=>vw (rl (BitVec.ofInt 32 x) (k%32).toNat)
def fC:Fs Tryz.prog fC.aU bE fC.F:=fK 248 Tryz.f248 (λ(x,kv)=>([.d (.int .u32) x,.d ti kv],[])) (λx=>⟨.d (.int .u32) x,[],[]⟩) [some (.int .u32),some ti]
theorem fC.eq{R:Type}(x kv)(k:K1 R):fC.A (x,kv) k=
 aJ (kA (cW .and .u64 (dP .u64 kv) 31)) (
 aJ (kA (dp .u64 32 (cW .and .u64 (dP .u64 kv) 31))) (
 k (fC.out (cW .or .u32 (nk .u32 x (cW .and .u64 (dP .u64 kv) 31)) (cr .u32 x (dp .u64 32 (cW .and .u64 (dP .u64 kv) 31)))))) none) none:=by kernel_rfl
theorem Ra(k:Int):cW .and .u64 (dP .u64 k) 31=k%32:=by
 have e:(31:Int)=vw (31:BitVec 64):=rfl
 rw[AI,e,JJ]
 simp only
 have:(31:BitVec 64)=BitVec.ofNat 64 (2^5 - 1):=rfl
 unfold vw
 rw[BitVec.toNat_and,nL,show(31:BitVec 64).toNat=2^5 - 1 from rfl,iT]
 omega
theorem fC.ok:fC.Ok:=by
 rintro⟨x,k⟩ ⟨h1,h2⟩
 have e1:dp .u64 32 (k%32)=32 - k%32:=by
  unfold dp
  rw[wrap_u64,hM]
  omega
 have hx:x=vw (BitVec.ofInt 32 x):=by rw[hM];omega
 rw[fC.eq,Ra,e1,oB (by omega),oB (by omega)]
 simp only[ae]
 have e2:cW .or .u32 (nk .u32 x (k%32)) (cr .u32 x (32 - k%32))=vw (rl (BitVec.ofInt 32 x) (k%32).toNat):=by
  conv=>lhs;rw[hx]
  rw[xO,u7,mR]
  simp only[rl]
  congr 3
  omega
 rw[e2]
 rfl
theorem fC.run:fC.RS:=rE [.d (.int .u32),.d ti] fC
def fC.sg:=fC.fS fC.ok
theorem fC.at(w:W)(k:Int):fC.call (vw w,k)=some (vw (rl w (k%32).toNat)):=by
 have h:fC.aU (vw w,k):=⟨zB w,by have:=MX w;simpa using this⟩
 rw[fC.run h]
 show some (vw (rl (BitVec.ofInt 32 (vw w)) (k%32).toNat))=_
 rw[o7]
abbrev table.D:=Unit
abbrev table.Y:=(List Int)
def table.aU:table.D->Prop:=λ_=>True
def table.F:table.D->table.Y:=λ_=>ze
def table:Fs Tryz.prog table.aU bE table.F:=fK 247 Tryz.f247 (λ_=>([],[])) (λx=>⟨.d (.arr 64 (.int .u32)) x,[],[]⟩) []
theorem table.eq{R:Type}(d)(k:K1 R):table.A d k=
 k (table.out [1116352408,1899447441,3049323471,3921009573,961987163,1508970993,2453635748,2870763221,3624381080,310598401,607225278,1426881987,1925078388,2162078206,2614888103,3248222580,3835390401,4022224774,264347078,604807628,770255983,1249150122,1555081692,1996064986,2554220882,2821834349,2952996808,3210313671,3336571891,3584528711,113926993,338241895,666307205,773529912,1294757372,1396182291,1695183700,1986661051,2177026350,2456956037,2730485921,2820302411,3259730800,3345764771,3516065817,3600352804,4094571909,275423344,430227734,506948616,659060556,883997877,958139571,1322822218,1537002063,1747873779,1955562222,2024104815,2227730452,2361852424,2428436474,2756734187,3204031479,3329325298]):=by kernel_rfl
theorem table.ok:table.Ok:=by
 intro d _
 rw[table.eq]
 rfl
theorem table.run:table.RS:=rE [] table
def table.sg:=table.fS table.ok
abbrev first.D:=Unit
abbrev first.Y:=(List Int)
def first.aU:first.D->Prop:=λ_=>True
def first.F:first.D->first.Y:=λ_=>nT.l
def first:Fs Tryz.prog first.aU bE first.F:=fK 201 Tryz.f201 (λ_=>([],[])) (λx=>⟨.d (.arr 8 (.int .u32)) x,[],[]⟩) []
theorem first.eq{R:Type}(d)(k:K1 R):first.A d k=
 k (first.out [1779033703,3144134277,1013904242,2773480762,1359893119,2600822924,528734635,1541459225]):=by kernel_rfl
theorem first.ok:first.Ok:=by
 intro d _
 rw[first.eq]
 rfl
theorem first.run:first.RS:=rE [] first
def first.sg:=first.fS first.ok
abbrev schedule.L0.D:=Bs×Int×(List Int)
abbrev schedule.L0.Y:=(List Int)
abbrev schedule.D:=Bs
abbrev schedule.Y:=(List Int)
def wl(l:List W):List Int:=l.map vw
def uL(l:List W):List Int:=wl l++List.replicate (64 - l.length) 0
def uu(b:List Int)(k:Nat):List W:=if k<=16 then(words b).take k else M9 (words b) (k - 16)
def schedule.L0.aU:schedule.L0.D->Prop:=λ(b,t8,n2)=>64<=b.length/\∃k:Nat,k<=64/\t8=k/\n2=uL (uu b k)
def schedule.L0.F:schedule.L0.D->schedule.L0.Y:=λ(b,t8,n2)=>wl (sched b)
def schedule.aU:schedule.D->Prop:=λb=>64<=b.length
def schedule.F:schedule.D->schedule.Y:=λb=>wl (sched b)
def schedule.L0:Ls schedule.L0.aU bE schedule.L0.F:=pG (λ(iI,t8,n2)=>⟨([.d tB iI,.undef,.ptr (.new 2 0) 0 [] 0]++bj 5 ([.d ti t8]++bj 52 [])),[],([[],[],[.obj 0 false (.d (.arr 64 (.int .u32)) n2)]]++cg 58 [])⟩) (λx=>(.exit 0,⟨([.undef,.undef,.ptr (.new 2 0) 0 [] 0]++bj 58 []),[],([[],[],[.obj 0 false (.d (.arr 64 (.int .u32)) x)]]++cg 58 [])⟩))
def schedule:Fs Tryz.prog schedule.aU bE schedule.F:=fK 246 Tryz.f246 (λb=>([.d tB b],[])) (λx=>⟨.d (.arr 64 (.int .u32)) x,[],[]⟩) [some tB] [binary.sg,fC.sg] {loops:=oM [(2,{bm:=[0,2,8],sites:=[2]})],outs:=oL [(2,{bm:=[2],sites:=[2]},{bm:=[2]})],iA:=pq [(2,schedule.L0.E)]}
theorem schedule.L0.run:schedule.L0.RS:=rL [.d tB,.d ti,.d (.slice (.int .u32))] schedule.L0
theorem schedule.L0.step{R:Type}(iI t8 n2)(kn:K2 R)(kx:K3 R):schedule.R 0 schedule.L0 (iI,t8,n2) kn kx=
  aJ ((ik t8 64)) (
   aJ ((ik t8 16)) (
    aJ (inc (eR .i64 4 t8) (iI.length:Int)) (
    av (binary.call (cut iI (Int.toNat (eR .i64 4 t8)) ((List.length iI) - (Int.toNat (eR .i64 4 t8))))) λx1=>
    aJ (eY t8 64) (
    aJ (decide ((Int.toNat t8) < (List.length n2))) (
    aJ (decide ((((Int.toNat t8)*1)+0)=(0+((Int.toNat t8)*1)))) (
    aJ (decide ((Int.toNat t8) < (List.length n2))) (
    kn (schedule.L0.st (iI,(bt .i64 t8 1),(List.set n2 (Int.toNat t8) x1)))) none) none) none) none) none) (
    aJ (eY (dp .i64 t8 15) 64) (
    aJ (decide ((Int.toNat (dp .i64 t8 15)) < (List.length n2))) (
    aJ (decide ((((Int.toNat (dp .i64 t8 15))*1)+0)=(0+((Int.toNat (dp .i64 t8 15))*1)))) (
    aJ (eY (dp .i64 t8 2) 64) (
    aJ (decide ((Int.toNat (dp .i64 t8 2)) < (List.length n2))) (
    aJ (decide ((((Int.toNat (dp .i64 t8 2))*1)+0)=(0+((Int.toNat (dp .i64 t8 2))*1)))) (
    av (fC.call ((nth (.int .u32) n2 (Int.toNat (dp .i64 t8 15))),(-7))) λx2=>
    av (fC.call ((nth (.int .u32) n2 (Int.toNat (dp .i64 t8 15))),(-18))) λx3=>
    av (fC.call ((nth (.int .u32) n2 (Int.toNat (dp .i64 t8 2))),(-17))) λx4=>
    av (fC.call ((nth (.int .u32) n2 (Int.toNat (dp .i64 t8 2))),(-19))) λx5=>
    aJ (eY (dp .i64 t8 16) 64) (
    aJ (decide ((Int.toNat (dp .i64 t8 16)) < (List.length n2))) (
    aJ (decide ((((Int.toNat (dp .i64 t8 16))*1)+0)=(0+((Int.toNat (dp .i64 t8 16))*1)))) (
    aJ (eY (dp .i64 t8 7) 64) (
    aJ (decide ((Int.toNat (dp .i64 t8 7)) < (List.length n2))) (
    aJ (decide ((((Int.toNat (dp .i64 t8 7))*1)+0)=(0+((Int.toNat (dp .i64 t8 7))*1)))) (
    aJ (eY t8 64) (
    aJ (decide ((Int.toNat t8) < (List.length n2))) (
    aJ (decide ((((Int.toNat t8)*1)+0)=(0+((Int.toNat t8)*1)))) (
    aJ (decide ((Int.toNat t8) < (List.length n2))) (
    kn (schedule.L0.st (iI,(bt .i64 t8 1),(List.set n2 (Int.toNat t8) (bt .u32 (bt .u32 (bt .u32 (nth (.int .u32) n2 (Int.toNat (dp .i64 t8 16))) (cW .xor .u32 (cW .xor .u32 x2 x3) (cr .u32 (nth (.int .u32) n2 (Int.toNat (dp .i64 t8 15))) 3))) (nth (.int .u32) n2 (Int.toNat (dp .i64 t8 7)))) (cW .xor .u32 (cW .xor .u32 x4 x5) (cr .u32 (nth (.int .u32) n2 (Int.toNat (dp .i64 t8 2))) 10))))))) none) none) none) none) none) none) none) none) none) none) none) none) none) none) none) none)) (
   schedule.L0.go kx n2):=by kernel_rfl
theorem schedule.eq{R:Type}(b)(k:K1 R):schedule.A b k=
 av (schedule.L0.call (b,0,(List.replicate 64 0))) λx6=>
 k (schedule.out x6):=by kernel_rfl
theorem Hf(b:List Int)(k:Nat)(h:k<=64):(uu b k).length=k:=by
 unfold uu
 split
 ·simp[fo];omega
 ·rw[sK,fo];omega
theorem Oc(b:List Int):uu b 64=sched b:=rfl
theorem KU(b:List Int)(k:Nat)(h:k < 16):uu b (k+1)=uu b k++ [be b k]:=by
 unfold uu
 rw[if_pos (by omega),if_pos (by omega),List.take_succ_eq_append_getElem (by rw[fo];exact h)]
 simp[words]
theorem MY(b:List Int)(k:Nat)(h:16<=k):uu b (k+1)=ext (uu b k):=by
 unfold uu
 rw[if_neg (by omega)]
 by_cases Tq:k=16
 ·subst Tq
  rw[if_pos (by omega),bz (by rw[fo];omega)]
  rfl
 ·rw[if_neg (by omega),show k+1 - 16=(k - 16)+1 by omega]
  rfl
theorem Eg(l:List W)(h:l.length<=64):(uL l).length=64:=by simp[uL,wl];omega
theorem vI(l:List W)(i:Nat)(h:i < l.length):nth (.int .u32) (uL l) i=vw (l.getD i 0):=by
 unfold nth uL wl
 rw[aF,fy (by simpa using h)]
 simp[h]
theorem De(l:List W)(w:W)(h:l.length < 64):(uL l).set l.length (vw w)=uL (l++ [w]):=by
 unfold uL wl
 rw[List.set_append_right _ _ (by simp)]
 simp only[cR,Nat.sub_self,iD,aj,aD,aZ]
 rw[show 64 - l.length=(64 - (l.length+(0+1)))+1 by omega,List.replicate_succ,List.set_cons_zero]
 simp
theorem Hw(l:List W)(h:l.length=64):uL l=wl l:=by simp[uL,h]
theorem O5(b:List Int)(k:Nat)(h:4*k+4<=b.length):Rb ((cut b (4*k) (b.length - 4*k)).getD 0 0) ((cut b (4*k) (b.length - 4*k)).getD 1 0) ((cut b (4*k) (b.length - 4*k)).getD 2 0) ((cut b (4*k) (b.length - 4*k)).getD 3 0)=be b k:=by
 have e:∀j,j < 4->(cut b (4*k) (b.length - 4*k)).getD j 0=b.getD (4*k+j) 0:=λj hj=>by
  unfold cut
  rw[aF,aF,List.getElem?_take_of_lt (by omega),gf]
 unfold be
 rw[e 0 (by omega),e 1 (by omega),e 2 (by omega),e 3 (by omega),cK]
theorem schedule.L0.ok:(schedule.lE 0 schedule.L0):=by
 refine(schedule.mr 0 schedule.L0) (λ(b,t8,n2)=>64 - t8.toNat) ?_
 rintro⟨b,t8,n2⟩ ⟨hb,k,hk,rfl,rfl⟩
 have QR:=Hf b k hk
 have LI:=Eg (uu b k) (by omega)
 by_cases h:k < 64
 ·left
  refine⟨(b,((k+1:Nat):Int),uL (uu b (k+1))),⟨hb,k+1,by omega,rfl,rfl⟩,by simp;omega,rfl,λkn kx=> ?_⟩
  have e1:bt .i64 (k:Int) 1=((k+1:Nat):Int):=by rw[eC (by omega) (by omega)];omega
  have e2:Int.toNat (k:Int)=k:=by omega
  rw[schedule.L0.step,bh (by omega)]
  simp only[ae,e1,e2,LI,lh,aO,cK,decide_true]
  by_cases Tq:k < 16
  ·have e3:eR .i64 4 (k:Int)=((4*k:Nat):Int):=by rw[qo (by omega) (by omega)];omega
   have e4:Int.toNat ((4*k:Nat):Int)=4*k:=by omega
   rw[bh (by omega),e3,mD (by omega) (by omega),e4,bp (by omega) (by omega),aP h]
   have hp:binary.aU (cut b (4*k) (b.length - 4*k)):=by
    show 4<=_
    rw[rV (by omega)];omega
   simp only[ae,binary.run hp,ab]
   have e5:bE (cut b (4*k) (b.length - 4*k)) (binary.F (cut b (4*k) (b.length - 4*k)))=vw (be b k):=by
    show vw (Rb _ _ _ _)=_
    rw[O5 b k (by omega)]
   have e6:=De (uu b k) (be b k) (by omega)
   rw[QR]at e6
   rw[e5,e6,KU b k Tq]
  ·have a15:Int.toNat (dp .i64 (k:Int) 15)=k - 15:=by rw[eE (by omega) (by omega)];omega
   have a2:Int.toNat (dp .i64 (k:Int) 2)=k - 2:=by rw[eE (by omega) (by omega)];omega
   have a16:Int.toNat (dp .i64 (k:Int) 16)=k - 16:=by rw[eE (by omega) (by omega)];omega
   have a7:Int.toNat (dp .i64 (k:Int) 7)=k - 7:=by rw[eE (by omega) (by omega)];omega
   have i15:eY (dp .i64 (k:Int) 15) 64=true:=bp (by rw[eE (by omega) (by omega)];omega) (by rw[eE (by omega) (by omega)];omega)
   have i2:eY (dp .i64 (k:Int) 2) 64=true:=bp (by rw[eE (by omega) (by omega)];omega) (by rw[eE (by omega) (by omega)];omega)
   have i16:eY (dp .i64 (k:Int) 16) 64=true:=bp (by rw[eE (by omega) (by omega)];omega) (by rw[eE (by omega) (by omega)];omega)
   have i7:eY (dp .i64 (k:Int) 7) 64=true:=bp (by rw[eE (by omega) (by omega)];omega) (by rw[eE (by omega) (by omega)];omega)
   have i0:eY (k:Int) 64=true:=bp (by omega) (by omega)
   have d15:decide (k - 15 < 64)=true:=aP (by omega)
   have d2:decide (k - 2 < 64)=true:=aP (by omega)
   have d16:decide (k - 16 < 64)=true:=aP (by omega)
   have d7:decide (k - 7 < 64)=true:=aP (by omega)
   have d0:decide (k < 64)=true:=aP h
   rw[aR (by omega)]
   simp only[ae,ah,a15,a2,a16,a7,i15,i2,i16,i7,i0,d15,d2,d16,d7,d0,vI (uu b k) (k - 15) (by omega),vI (uu b k) (k - 2) (by omega),vI (uu b k) (k - 16) (by omega),vI (uu b k) (k - 7) (by omega),fC.at,ab,mR,u7,tF]
   have e6:=De (uu b k) (OR (uu b k) k) (by omega)
   rw[QR]at e6
   rw[MY b k (by omega),ext,QR,<-e6]
   rfl
 ·right
  obtain rfl:k=64:=by omega
  intro R kn kx
  rw[schedule.L0.step,aR (by omega),Hw _ QR,Oc]
  simp only[ah,bE,schedule.L0.F]
theorem schedule.ok:schedule.Ok:=by
 intro b hb
 have hp:schedule.L0.aU (b,0,List.replicate 64 0):=⟨hb,0,by omega,rfl,rfl⟩
 rw[schedule.eq,schedule.L0.run hp]
 simp only[ab,bE,schedule.L0.F,bE,schedule.F]
theorem schedule.run:schedule.RS:=rE [.d tB] schedule
def schedule.sg:=schedule.fS schedule.ok 1 ⟨.hZ schedule.L0.ok,trivial⟩
abbrev mix.L0.D:=(List Int)×Int×(List Int)×(List Int)×(List Int)×(List Int)
abbrev mix.L0.Y:=(List Int)
abbrev mix.L0.X:=((List Int)×(List Int))×((List Int))
def mix.L0.add:mix.L0.D->mix.L0.Y->mix.L0.X:=λ(tv,t18,n4,n5,n6,n7) y=>((tv,n4),y)
abbrev mix.L1.D:=(List Int)×Int×(List Int)×(List Int)
abbrev mix.L1.Y:=(List Int)
abbrev mix.L1.X:=((List Int))×((List Int))
def mix.L1.add:mix.L1.D->mix.L1.Y->mix.L1.X:=λ(I6,t104,xX,CX) y=>(xX,y)
abbrev mix.D:=(List Int)×Bs
abbrev mix.Y:=(List Int)
def E0(l:List Int):St:=⟨BitVec.ofInt 32 (l.getD 0 0),BitVec.ofInt 32 (l.getD 1 0),BitVec.ofInt 32 (l.getD 2 0),BitVec.ofInt 32 (l.getD 3 0),BitVec.ofInt 32 (l.getD 4 0),BitVec.ofInt 32 (l.getD 5 0),BitVec.ofInt 32 (l.getD 6 0),BitVec.ofInt 32 (l.getD 7 0)⟩
theorem mg(s:St):E0 s.l=s:=by
 obtain⟨a,b,c,d,e,f,g,h⟩:=s
 simp[E0,St.l,o7]
def MU(l:List Int):List W:=l.map (BitVec.ofInt 32)
theorem ur(l:List W):MU (wl l)=l:=by
 unfold MU wl
 rw[List.map_map]
 have:(BitVec.ofInt 32∘vw)=(id:W->W):=by funext w;exact o7 w
 rw[this,List.map_id]
def mix.L0.aU:mix.L0.D->Prop:=λ(h,t,n4,n5,n6,n7)=>∃(s:St) (ws:List W) (k:Nat),h=s.l/\n5=wl ws/\ws.length=64/\k<=64/\t=k/\n6=ze/\n7=(rounds ws s k).l
def mix.L0.F:mix.L0.D->mix.L0.Y:=λ(h,t,n4,n5,n6,n7)=>(rounds (MU n5) (E0 h) 64).l
def mix.L1.aU:mix.L1.D->Prop:=λ(h,t,n4,n7)=>n7.length=8/\∃k:Nat,k<=8/\t=k
def mix.L1.F:mix.L1.D->mix.L1.Y:=λ(h,t,n4,n7)=>from_ (λi x=>bt .u32 x (nth (.int .u32) h i)) t.toNat n7
def mix.aU:mix.D->Prop:=λ(h,b)=>(∃s:St,h=s.l)/\64<=b.length
def mix.F:mix.D->mix.Y:=λ(h,b)=>(zh (E0 h) b).l
def mix.L0:Ls mix.L0.aU mix.L0.add mix.L0.F:=pG (λ(tv,t18,n4,n5,n6,n7)=>⟨([.undef,.undef,.ed (.arr 8 (.int .u32)) tv,.undef,.ptr (.new 4 0) 0 [] 0,.ptr (.new 5 0) 0 [] 0,.ptr (.new 6 0) 0 [] 0,.ptr (.new 7 0) 0 [] 0]++bj 10 ([.d ti t18]++bj 98 [])),[],(cg 4 ([[.obj 0 false (.d (.arr 8 (.int .u32)) n4)],[.obj 0 false (.d (.arr 64 (.int .u32)) n5)],[.obj 0 false (.d (.arr 64 (.int .u32)) n6)],[.obj 0 false (.d (.arr 8 (.int .u32)) n7)]]++cg 109 []))⟩) (λx=>(.exit 0,⟨([.undef,.undef,.ed (.arr 8 (.int .u32)) x.1.1,.undef,.ptr (.new 4 0) 0 [] 0,.undef,.undef,.ptr (.new 7 0) 0 [] 0]++bj 109 []),[],(cg 4 ([[.obj 0 false (.d (.arr 8 (.int .u32)) x.1.2)],[],[],[.obj 0 false (.d (.arr 8 (.int .u32)) x.2)]]++cg 109 []))⟩))
def mix.L1:Ls mix.L1.aU mix.L1.add mix.L1.F:=pG (λ(I6,t104,xX,CX)=>⟨([.undef,.undef,.ed (.arr 8 (.int .u32)) I6,.undef,.ptr (.new 4 0) 0 [] 0,.undef,.undef,.ptr (.new 7 0) 0 [] 0]++bj 96 ([.d ti t104]++bj 12 [])),[],(cg 4 ([[.obj 0 false (.d (.arr 8 (.int .u32)) xX)],[],[],[.obj 0 false (.d (.arr 8 (.int .u32)) CX)]]++cg 109 []))⟩) (λx=>(.exit 2,⟨(bj 4 ([.ptr (.new 4 0) 0 [] 0,.undef,.undef,.ptr (.new 7 0) 0 [] 0]++bj 109 [])),[],(cg 4 ([[.obj 0 false (.d (.arr 8 (.int .u32)) x.1)],[],[],[.obj 0 false (.d (.arr 8 (.int .u32)) x.2)]]++cg 109 []))⟩))
def mix:Fs Tryz.prog mix.aU bE mix.F:=fK 202 Tryz.f202 (λ(h,b)=>([.d (.arr 8 (.int .u32)) h,.d tB b],[])) (λx=>⟨.d (.arr 8 (.int .u32)) x,[],[]⟩) [some (.arr 8 (.int .u32)),some tB] [schedule.sg,table.sg,fC.sg] {loops:=oM [(4,{bm:=[2,4,5,6,7,18],sites:=[4,5,6,7]}),(13,{bm:=[2,4,7,104],sites:=[4,7]})],outs:=oL [(4,{bm:=[2,4,7],sites:=[4,7]},{bm:=[4]}),(13,{bm:=[4,7],sites:=[4,7]},{bm:=[4]})],iA:=pq [(4,mix.L0.E),(13,mix.L1.E)]}
theorem mix.L0.run:mix.L0.RS:=rL [.d (.arr 8 (.int .u32)),.d ti,.d (.slice (.int .u32)),.d (.slice (.int .u32)),.d (.slice (.int .u32)),.d (.slice (.int .u32))] mix.L0
theorem mix.L0.step{R:Type}(tv t18 n4 n5 n6 n7)(kn:K2 R)(kx:K3 R):mix.R 0 mix.L0 (tv,t18,n4,n5,n6,n7) kn kx=
  aJ ((ik t18 64)) (
   aJ (decide (4 < (List.length n7))) (
   av (fC.call ((nth (.int .u32) n7 4),(-6))) λx1=>
   aJ (decide (4 < (List.length n7))) (
   av (fC.call ((nth (.int .u32) n7 4),(-11))) λx2=>
   aJ (decide (4 < (List.length n7))) (
   av (fC.call ((nth (.int .u32) n7 4),(-25))) λx3=>
   aJ (decide (7 < (List.length n7))) (
   aJ (decide (6 < (List.length n7))) (
   aJ (decide (4 < (List.length n7))) (
   aJ (decide (5 < (List.length n7))) (
   aJ (decide (6 < (List.length n7))) (
   aJ (eY t18 64) (
   aJ (decide ((Int.toNat t18) < (List.length n6))) (
   aJ (decide ((((Int.toNat t18)*1)+0)=(0+((Int.toNat t18)*1)))) (
   aJ (eY t18 64) (
   aJ (decide ((Int.toNat t18) < (List.length n5))) (
   aJ (decide ((((Int.toNat t18)*1)+0)=(0+((Int.toNat t18)*1)))) (
   aJ (decide (0 < (List.length n7))) (
   av (fC.call ((nth (.int .u32) n7 0),(-2))) λx4=>
   aJ (decide (0 < (List.length n7))) (
   av (fC.call ((nth (.int .u32) n7 0),(-13))) λx5=>
   aJ (decide (0 < (List.length n7))) (
   av (fC.call ((nth (.int .u32) n7 0),(-22))) λx6=>
   aJ (decide (0 < (List.length n7))) (
   aJ (decide (1 < (List.length n7))) (
   aJ (decide (2 < (List.length n7))) (
   aJ (decide (0 < (List.length n7))) (
   aJ (decide (1 < (List.length n7))) (
   aJ (decide (0 < (List.length n7))) (
   aJ (decide (1 < (List.length n7))) (
   aJ (decide (2 < (List.length n7))) (
   aJ (decide (3 < (List.length n7))) (
   aJ (decide (4 < (List.length n7))) (
   aJ (decide (5 < (List.length n7))) (
   aJ (decide (6 < (List.length n7))) (
   kn (mix.L0.st (tv,(bt .i64 t18 1),n4,n5,n6,[(bt .u32 (bt .u32 (bt .u32 (bt .u32 (bt .u32 (bt .u32 (nth (.int .u32) n7 7) (cW .xor .u32 (cW .xor .u32 x1 x2) x3)) (cW .xor .u32 (nth (.int .u32) n7 6) (cW .and .u32 (nth (.int .u32) n7 4) (cW .xor .u32 (nth (.int .u32) n7 5) (nth (.int .u32) n7 6))))) (nth (.int .u32) n6 (Int.toNat t18))) (nth (.int .u32) n5 (Int.toNat t18))) (cW .xor .u32 (cW .xor .u32 x4 x5) x6)) (cW .or .u32 (cW .and .u32 (nth (.int .u32) n7 0) (nth (.int .u32) n7 1)) (cW .and .u32 (nth (.int .u32) n7 2) (cW .or .u32 (nth (.int .u32) n7 0) (nth (.int .u32) n7 1))))),(nth (.int .u32) n7 0),(nth (.int .u32) n7 1),(nth (.int .u32) n7 2),(bt .u32 (nth (.int .u32) n7 3) (bt .u32 (bt .u32 (bt .u32 (bt .u32 (nth (.int .u32) n7 7) (cW .xor .u32 (cW .xor .u32 x1 x2) x3)) (cW .xor .u32 (nth (.int .u32) n7 6) (cW .and .u32 (nth (.int .u32) n7 4) (cW .xor .u32 (nth (.int .u32) n7 5) (nth (.int .u32) n7 6))))) (nth (.int .u32) n6 (Int.toNat t18))) (nth (.int .u32) n5 (Int.toNat t18)))),(nth (.int .u32) n7 4),(nth (.int .u32) n7 5),(nth (.int .u32) n7 6)]))) none) none) none) none) none) none) none) none) none) none) none) none) none) none) none) none) none) none) none) none) none) none) none) none) none) none) none) none) none) (
   mix.L0.go kx ((tv,n4),n7)):=by kernel_rfl
theorem mix.L1.run:mix.L1.RS:=rL [.d (.arr 8 (.int .u32)),.d ti,.d (.slice (.int .u32)),.d (.slice (.int .u32))] mix.L1
theorem mix.L1.step{R:Type}(I6 t104 xX CX)(kn:K2 R)(kx:K3 R):mix.R 1 mix.L1 (I6,t104,xX,CX) kn kx=
  aJ ((ik t104 8)) (
   aJ (eY t104 8) (
   aJ (decide ((Int.toNat t104) < (List.length CX))) (
   aJ (decide ((((Int.toNat t104)*1)+0)=(0+((Int.toNat t104)*1)))) (
   aJ (eY t104 8) (
   aJ (eY t104 8) (
   aJ (decide ((Int.toNat t104) < (List.length CX))) (
   aJ (decide ((((Int.toNat t104)*1)+0)=(0+((Int.toNat t104)*1)))) (
   aJ (decide ((Int.toNat t104) < (List.length CX))) (
   kn (mix.L1.st (I6,(bt .i64 t104 1),xX,(List.set CX (Int.toNat t104) (bt .u32 (nth (.int .u32) CX (Int.toNat t104)) (nth (.int .u32) I6 (Int.toNat t104))))))) none) none) none) none) none) none) none) none) (
   mix.L1.go kx (xX,CX)):=by kernel_rfl
theorem mix.eq{R:Type}(h b)(k:K1 R):mix.A (h,b) k=
 av (schedule.call b) λx1=>
 av (table.call ()) λx2=>
 av (mix.L0.call (h,0,(List.replicate 8 0),x1,x2,h)) λx9=>
 av (mix.L1.call (x9.1.1,0,x9.1.2,x9.2)) λC8=>
 k (mix.out C8.2):=by kernel_rfl
theorem St.Gh(s:St):s.l.length=8:=rfl
theorem zT:ze.length=64:=rfl
theorem Gg(k:Nat)(h:k < 64):nth (.int .u32) ze k=vw (kw k):=by
 have hh:∀k:Fin 64,nth (.int .u32) ze k.val=vw (kw k.val):=by decide+kernel
 exact hh ⟨k,h⟩
theorem zD(ws:List W)(k:Nat)(h:k < ws.length):nth (.int .u32) (wl ws) k=vw (ws.getD k 0):=by
 unfold nth wl
 simp[h]
theorem Wg(w:W):rl w ((-6:Int)%32).toNat=pL w 6:=rfl
theorem Uw(w:W):rl w ((-11:Int)%32).toNat=pL w 11:=rfl
theorem Uz(w:W):rl w ((-25:Int)%32).toNat=pL w 25:=rfl
theorem Wf(w:W):rl w ((-2:Int)%32).toNat=pL w 2:=rfl
theorem Ux(w:W):rl w ((-13:Int)%32).toNat=pL w 13:=rfl
theorem Uy(w:W):rl w ((-22:Int)%32).toNat=pL w 22:=rfl
theorem n0(s:St):nth (.int .u32) s.l 0=vw s.a:=rfl
theorem n1(s:St):nth (.int .u32) s.l 1=vw s.b:=rfl
theorem n2(s:St):nth (.int .u32) s.l 2=vw s.c:=rfl
theorem n3(s:St):nth (.int .u32) s.l 3=vw s.d:=rfl
theorem n4(s:St):nth (.int .u32) s.l 4=vw s.e:=rfl
theorem n5(s:St):nth (.int .u32) s.l 5=vw s.f:=rfl
theorem n6(s:St):nth (.int .u32) s.l 6=vw s.g:=rfl
theorem n7(s:St):nth (.int .u32) s.l 7=vw s.h:=rfl
theorem mix.L0.ok:(mix.lE 0 mix.L0):=by
 refine(mix.mr 0 mix.L0) (λ(h,t,n4,n5,n6,n7)=>64 - t.toNat) ?_
 rintro⟨h,t,m4,m5,m6,m7⟩ ⟨s,ws,k,rfl,rfl,hw,hk,rfl,rfl,rfl⟩
 by_cases jt:k < 64
 ·left
  refine⟨(s.l,((k+1:Nat):Int),m4,wl ws,ze,(rounds ws s (k+1)).l),⟨s,ws,k+1,rfl,rfl,hw,by omega,rfl,rfl,rfl⟩,by simp;omega,rfl,λkn kx=> ?_⟩
  have e1:bt .i64 (k:Int) 1=((k+1:Nat):Int):=by rw[eC (by omega) (by omega)];omega
  have e2:Int.toNat (k:Int)=k:=by omega
  have QR:(wl ws).length=64:=by simp[wl,hw]
  have d0:decide (k < 64)=true:=aP jt
  have i0:eY (k:Int) 64=true:=bp (by omega) (by omega)
  rw[mix.L0.step,bh (by omega)]
  generalize hv:rounds ws s k=v
  simp only[e1,e2,lh,aO,cK,decide_true,ae,St.Gh,Nat.reduceLT,zT,QR,d0,i0,n0,n1,n2,n3,n4,n5,n6,n7,fC.at,ab,Gg k jt,zD ws k (by omega),mR,tF,Wg,Uw,Uz,Wf,Ux,Uy]
  show kn _=kn (mix.L0.st (s.l,((k+1:Nat):Int),m4,wl ws,ze,(mr (rounds ws s k) (kw k) (ws.getD k 0)).l))
  rw[hv]
  rfl
 ·right
  obtain rfl:k=64:=by omega
  intro R kn kx
  rw[mix.L0.step,aR (by omega)]
  simp only[ah,mix.L0.add,mix.L0.F,ur,mg]
theorem mix.L1.ok:(mix.lE 1 mix.L1):=by
 refine(mix.mr 1 mix.L1) (λ(h,t,n4,n7)=>8 - t.toNat) ?_
 rintro⟨h,t,m4,m7⟩ ⟨hl,k,hk,rfl⟩
 have hl:m7.length=8:=hl
 have e2:Int.toNat (k:Int)=k:=by omega
 have e3:Int.toNat ((k+1:Nat):Int)=k+1:=by omega
 by_cases jt:k < 8
 ·left
  have e1:bt .i64 (k:Int) 1=((k+1:Nat):Int):=by rw[eC (by omega) (by omega)];omega
  have hn:nth (.int .u32) m7 k=m7[k]:=dg (t:= .int .u32) (by omega)
  refine⟨(h,((k+1:Nat):Int),m4,m7.set k (bt .u32 m7[k] (nth (.int .u32) h k))),⟨by simpa using hl,k+1,by omega,rfl⟩,by simp;omega,?_,λkn kx=> ?_⟩
  ·simp only[mix.L1.add,mix.L1.F,e2,e3]
   rw[vK (λi x=>bt .u32 x (nth (.int .u32) h i)) m7 k (by omega)]
  ·have d0:decide (k < 8)=true:=aP jt
   have i0:eY (k:Int) 8=true:=bp (by omega) (by omega)
   rw[mix.L1.step,bh (by omega)]
   simp only[e1,e2,lh,aO,cK,decide_true,ae,hl,d0,i0,hn]
 ·right
  obtain rfl:k=8:=by omega
  intro R kn kx
  rw[mix.L1.step,aR (by omega)]
  simp only[ah,mix.L1.add,mix.L1.F,e2]
  rw[xH _ _ _ (by omega)]
theorem mix.ok:mix.Ok:=by
 rintro⟨h,b⟩ ⟨⟨s,rfl⟩,hb⟩
 have hs:schedule.aU b:=hb
 have Jd:(sched b).length=64:=by unfold sched;rw[sK,fo]
 have hp:mix.L0.aU (s.l,0,List.replicate 8 0,wl (sched b),ze,s.l):=⟨s,sched b,0,rfl,rfl,Jd,by omega,rfl,rfl,rfl⟩
 rw[mix.eq,schedule.run hs]
 simp only[ab,table.run (d:=()) trivial,bE,schedule.F,bE,table.F,mix.L0.run hp,mix.L0.add,mix.L0.F,ur,mg]
 have QO:mix.L1.aU (s.l,0,List.replicate 8 0,(rounds (sched b) s 64).l):=⟨rfl,0,by omega,rfl⟩
 simp only[mix.L1.run QO,ab,mix.L1.add,mix.L1.F,bE,mix.F,mg]
 unfold zh
 generalize rounds (sched b) s 64=v
 obtain⟨a1,b1,c1,d1,f1,g1,h1,i1⟩:=v
 simp only[St.l,from_,List.mapIdx_cons,List.mapIdx_nil,bH,Nat.not_lt_zero,if_false,aO,Nat.reduceAdd]
 simp only[nth,jv,nf,tF]
theorem mix.run:mix.RS:=rE [.d (.slice (.int .u32)),.d tB] mix
def mix.sg:=mix.fS mix.ok 2 ⟨.hZ mix.L0.ok,⟨.hZ mix.L1.ok,trivial⟩⟩
theorem oz(n:Int)(k:Int)(h0:0<=k)(h1:k<=64):dP .u8 (cr .i64 n k)=n / 2^k.toNat%256:=by
 rw[y9,hM,cr]
 have e:min k.toNat IntKind.i64.bits=k.toNat:=by simp only[IntKind.bits];omega
 rw[e,il _ (lB (qe (by omega)))]
 rfl
theorem tJ{n:Nat}(h:n<=140737488355328):dG n 1=true:=dU (by omega) (by omega)
abbrev iu.D:=Bs
abbrev iu.Y:=Nat×(List Int)
def iu.aU:iu.D->Prop:=λb=>b.length<=140737488355328
def iu.F:iu.D->iu.Y:=λb=>(b.length,b)
def iu:Fs Tryz.prog iu.aU bE iu.F:=fK 200 Tryz.f200 (λsv=>([.d tB sv],[])) (λx=>⟨.cP (.new 0 0) 0 [] 0 0 x.1,[],[.obj 0 false (.vec 5 tb x.2)]⟩) [some tB] [] {bU:=[5],owns:=[⟨2,[],5,140⟩]}
theorem iu.eq{R:Type}(sv)(k:K1 R):iu.A sv k=
  aJ (decide (0 < (List.length sv))) (
   aJ (dG (0+(List.length sv)) 1) (
   k (iu.out ((0+(List.length sv)),((List.take 0 (List.replicate 0 0))++sv)))) none) (
   nd (
    k (iu.out (0,([]:List Int)))) (
    aJ (dG (0+(List.length sv)) 1) (
    k (iu.out ((0+(List.length sv)),((List.take 0 (List.replicate 0 0))++sv)))) none)):=by kernel_rfl
theorem iu.ok:iu.Ok:=by
 intro b hb
 have hr:dG b.length 1=true:=tJ hb
 rw[iu.eq]
 have e0:(List.take 0 (List.replicate 0 0):List Int)=[]:=rfl
 simp only[aO,hr,ae,e0,aS,bE,iu.F]
 by_cases h:0 < b.length
 ·simp only[aP h,ae]
 ·have:b=[]:=bo (by omega)
  subst this
  simp only[aZ,vW,bf (jG 0),ah]
theorem iu.run:iu.RS:=rE [.d tB] iu
def iu.sg:=iu.fS iu.ok
abbrev lV.D:=Int
abbrev lV.Y:=Nat×(List Int)
def lV.aU:lV.D->Prop:=λ_=>True
def lV.F:lV.D->lV.Y:=λn=>(8,lO n)
def lV:Fs Tryz.prog lV.aU bE lV.F:=fK 143 Tryz.f143 (λn=>([.df,.d ti n],[])) (λx=>⟨.cP (.new 0 0) 0 [] 0 0 x.1,[],[.obj 0 false (.vec 5 tb x.2)]⟩) [none,some ti] [] {loops:=oM [(2,{bm:=[0,1,5],sites:=[16]})],outs:=oL [(2,{bm:=[0],sites:=[16]},{bm:=[4],sites:=[16]})],owns:=[⟨4,[],16,140⟩]} 12
theorem lV.eq{R:Type}(n)(k:K1 R):lV.A n k=
 k (lV.out (8,[(dP .u8 (cr .i64 n 56)),(dP .u8 (cr .i64 n 48)),(dP .u8 (cr .i64 n 40)),(dP .u8 (cr .i64 n 32)),(dP .u8 (cr .i64 n 24)),(dP .u8 (cr .i64 n 16)),(dP .u8 (cr .i64 n 8)),(dP .u8 (cr .i64 n 0))])):=by kernel_rfl
theorem Hx(n:Int): [dP .u8 (cr .i64 n 56),dP .u8 (cr .i64 n 48),dP .u8 (cr .i64 n 40),dP .u8 (cr .i64 n 32),dP .u8 (cr .i64 n 24),dP .u8 (cr .i64 n 16),dP .u8 (cr .i64 n 8),dP .u8 (cr .i64 n 0)]=lO n:=by
 rw[oz n 56 (by omega) (by omega),oz n 48 (by omega) (by omega),oz n 40 (by omega) (by omega),oz n 32 (by omega) (by omega),oz n 24 (by omega) (by omega),oz n 16 (by omega) (by omega),oz n 8 (by omega) (by omega),oz n 0 (by omega) (by omega)]
 simp[lO]
theorem lV.ok:lV.Ok:=by
 intro n _
 rw[lV.eq,Hx]
 rfl
theorem lV.run:lV.RS:=rE [.d ti] lV
def lV.sg:=lV.UD Ks lV.ok 1 ⟨.none (by kernel_rfl),trivial⟩
abbrev jJ.D:=Nat×Int×Bs
abbrev jJ.Y:=Nat×(List Int)
def jJ.aU:jJ.D->Prop:=λ(m,n,l)=>m=l.length/\l.length<=140737488355320
def jJ.F:jJ.D->jJ.Y:=λ(m,n,l)=>(l.length+8,l++lO n)
def jJ:Fs Tryz.prog jJ.aU bE jJ.F:=fK 143 Tryz.f143 (λ(bL,n,o0)=>([.cP (.dB 0) 0 [] 0 0 bL,.d ti n],[.obj 0 false (.vec 5 tb o0)])) (λx=>⟨.cP (.dB 0) 8 [] 0 0 x.1,[.obj 8 false (.vec 5 tb x.2)],[]⟩) [none,some ti] [] {loops:=oM [(2,{bm:=[0,1,5],sites:=[16]})],outs:=oL [(2,{bm:=[0],sites:=[16]},{bm:=[4],sites:=[16]})]} 12
theorem jJ.eq{R:Type}(bL n o0)(k:K1 R):jJ.A (bL,n,o0) k=
 aJ (decide (bL<=(List.length o0))) (
 aJ (dG (bL+1) 1) (
 aJ (decide ((bL+1)<=(List.length ((List.take bL o0)++ [(dP .u8 (cr .i64 n 56))])))) (
 aJ (dG ((bL+1)+1) 1) (
 aJ (decide (((bL+1)+1)<=(List.length ((List.take (bL+1) ((List.take bL o0)++ [(dP .u8 (cr .i64 n 56))]))++ [(dP .u8 (cr .i64 n 48))])))) (
 aJ (dG (((bL+1)+1)+1) 1) (
 aJ (decide ((((bL+1)+1)+1)<=(List.length ((List.take ((bL+1)+1) ((List.take (bL+1) ((List.take bL o0)++ [(dP .u8 (cr .i64 n 56))]))++ [(dP .u8 (cr .i64 n 48))]))++ [(dP .u8 (cr .i64 n 40))])))) (
 aJ (dG ((((bL+1)+1)+1)+1) 1) (
 aJ (decide (((((bL+1)+1)+1)+1)<=(List.length ((List.take (((bL+1)+1)+1) ((List.take ((bL+1)+1) ((List.take (bL+1) ((List.take bL o0)++ [(dP .u8 (cr .i64 n 56))]))++ [(dP .u8 (cr .i64 n 48))]))++ [(dP .u8 (cr .i64 n 40))]))++ [(dP .u8 (cr .i64 n 32))])))) (
 aJ (dG (((((bL+1)+1)+1)+1)+1) 1) (
 aJ (decide ((((((bL+1)+1)+1)+1)+1)<=(List.length ((List.take ((((bL+1)+1)+1)+1) ((List.take (((bL+1)+1)+1) ((List.take ((bL+1)+1) ((List.take (bL+1) ((List.take bL o0)++ [(dP .u8 (cr .i64 n 56))]))++ [(dP .u8 (cr .i64 n 48))]))++ [(dP .u8 (cr .i64 n 40))]))++ [(dP .u8 (cr .i64 n 32))]))++ [(dP .u8 (cr .i64 n 24))])))) (
 aJ (dG ((((((bL+1)+1)+1)+1)+1)+1) 1) (
 aJ (decide (((((((bL+1)+1)+1)+1)+1)+1)<=(List.length ((List.take (((((bL+1)+1)+1)+1)+1) ((List.take ((((bL+1)+1)+1)+1) ((List.take (((bL+1)+1)+1) ((List.take ((bL+1)+1) ((List.take (bL+1) ((List.take bL o0)++ [(dP .u8 (cr .i64 n 56))]))++ [(dP .u8 (cr .i64 n 48))]))++ [(dP .u8 (cr .i64 n 40))]))++ [(dP .u8 (cr .i64 n 32))]))++ [(dP .u8 (cr .i64 n 24))]))++ [(dP .u8 (cr .i64 n 16))])))) (
 aJ (dG (((((((bL+1)+1)+1)+1)+1)+1)+1) 1) (
 aJ (decide ((((((((bL+1)+1)+1)+1)+1)+1)+1)<=(List.length ((List.take ((((((bL+1)+1)+1)+1)+1)+1) ((List.take (((((bL+1)+1)+1)+1)+1) ((List.take ((((bL+1)+1)+1)+1) ((List.take (((bL+1)+1)+1) ((List.take ((bL+1)+1) ((List.take (bL+1) ((List.take bL o0)++ [(dP .u8 (cr .i64 n 56))]))++ [(dP .u8 (cr .i64 n 48))]))++ [(dP .u8 (cr .i64 n 40))]))++ [(dP .u8 (cr .i64 n 32))]))++ [(dP .u8 (cr .i64 n 24))]))++ [(dP .u8 (cr .i64 n 16))]))++ [(dP .u8 (cr .i64 n 8))])))) (
 aJ (dG ((((((((bL+1)+1)+1)+1)+1)+1)+1)+1) 1) (
 k (jJ.out (((((((((bL+1)+1)+1)+1)+1)+1)+1)+1),((List.take (((((((bL+1)+1)+1)+1)+1)+1)+1) ((List.take ((((((bL+1)+1)+1)+1)+1)+1) ((List.take (((((bL+1)+1)+1)+1)+1) ((List.take ((((bL+1)+1)+1)+1) ((List.take (((bL+1)+1)+1) ((List.take ((bL+1)+1) ((List.take (bL+1) ((List.take bL o0)++ [(dP .u8 (cr .i64 n 56))]))++ [(dP .u8 (cr .i64 n 48))]))++ [(dP .u8 (cr .i64 n 40))]))++ [(dP .u8 (cr .i64 n 32))]))++ [(dP .u8 (cr .i64 n 24))]))++ [(dP .u8 (cr .i64 n 16))]))++ [(dP .u8 (cr .i64 n 8))]))++ [(dP .u8 (cr .i64 n 0))])))) none) none) none) none) none) none) none) none) none) none) none) none) none) none) none) none:=by kernel_rfl
theorem jJ.ok:jJ.Ok:=by
 rintro⟨m,n,l⟩ ⟨rfl,hl⟩
 have hl:l.length<=140737488355320:=hl
 rw[jJ.eq]
 simp only[ay,decide_true,ae,bz,aj,aD,aZ,aO]
 rw[tJ (by omega),tJ (by omega),tJ (by omega),tJ (by omega),tJ (by omega),tJ (by omega),tJ (by omega),tJ (by omega)]
 simp only[ae,bE,jJ.F,<-Hx,bk,iS,aS]
theorem jJ.run:jJ.RS:=rE [.n,.d ti,.d tB] jJ
def jJ.sg:=jJ.UD KN jJ.ok 1 ⟨.none (by kernel_rfl),trivial⟩
abbrev cE.L0.D:=Bs×Nat×Bs×(List Int)
abbrev cE.L0.Y:=Nat×(List Int)
abbrev cE.L0.X:=(Bs×Bs)×(Nat×(List Int))
def cE.L0.add:cE.L0.D->cE.L0.Y->cE.L0.X:=λ(iI,endL,n2,n14) y=>((iI,n2),y)
abbrev cE.L1.D:=Bs×Nat×Bs×(List Int)×(List Int)
abbrev cE.L1.Y:=(List Int)
abbrev cE.L1.X:=(Nat×Bs×(List Int))×((List Int))
def cE.L1.add:cE.L1.D->cE.L1.Y->cE.L1.X:=λ(xB,wT,mE,n4,BO) y=>((wT,mE,BO),y)
abbrev cE.L2.D:=Bs×Bs×(List Int)
abbrev cE.L2.Y:=(List Int)
abbrev cE.L2.X:=(Bs)×((List Int))
def cE.L2.add:cE.L2.D->cE.L2.Y->cE.L2.X:=λ(endv,om,xX) y=>(om,y)
abbrev cE.L3.D:=Int×Bs×(List Int)
abbrev cE.L3.Y:=Bs
abbrev cE.D:=Bs
abbrev cE.Y:=Bs
def zc(n:Nat):Nat:=(120 - n%64)%64
def cE.L0.aU:cE.L0.D->Prop:=λ(b,m,n2,l)=>m=l.length/\l.length+zc l.length<=140737488355328
def cE.L0.F:cE.L0.D->cE.L0.Y:=λ(b,m,n2,l)=>(l.length+zc l.length,l++List.replicate (zc l.length) 0)
def cE.L1.aU:cE.L1.D->Prop:=λ(b,m,n2,h,l)=>∃s:St,h=s.l
def cE.L1.F:cE.L1.D->cE.L1.Y:=λ(b,m,n2,h,l)=>(blocks (E0 h) b).l
def cE.L2.aU:cE.L2.D->Prop:=λ(b,n2,h)=>b.length%64=0/\∃s:St,h=s.l
def cE.L2.F:cE.L2.D->cE.L2.Y:=λ(b,n2,h)=>(blocks (E0 h) b).l
def wk(h:List Int)(i:Nat)(_:Int):Int:=dP .u8 (cr .u32 (nth (.int .u32) h (i / 4)) ((24 - 8*(i%4):Nat):Int))
def cE.L3.aU:cE.L3.D->Prop:=λ(t,n2,h)=>n2.length=32/\h.length=8/\∃k:Nat,k<=32/\t=k
def cE.L3.F:cE.L3.D->cE.L3.Y:=λ(t,n2,h)=>from_ (wk h) t.toNat n2
def cE.aU:cE.D->Prop:=λb=>b.length<=140737488350000
def cE.F:cE.D->cE.Y:=λb=>Qo b
def cE.L0:Ls cE.L0.aU cE.L0.add cE.L0.F:=pG (λ(iI,endL,n2,n14)=>⟨([.d tB iI,.undef,.ptr (.new 2 0) 0 [] 0,.cP (.new 14 0) 0 [] 0 0 endL]++bj 61 []),[],([[],[],[.obj 0 false (.d tH n2)]]++cg 11 ([[.obj 0 false (.vec 5 tb n14)]]++cg 50 []))⟩) (λx=>(.exit 0,⟨([.d tB x.1.1,.undef,.ptr (.new 2 0) 0 [] 0,.cP (.new 14 0) 0 [] 0 0 x.2.1]++bj 61 []),[],([[],[],[.obj 0 false (.d tH x.1.2)]]++cg 11 ([[.obj 0 false (.vec 5 tb x.2.2)]]++cg 50 []))⟩))
def cE.L1:Ls cE.L1.aU cE.L1.add cE.L1.F:=pG (λ(xB,wT,mE,n4,BO)=>⟨([.d tB xB,.undef,.ptr (.new 2 0) 0 [] 0,.cP (.new 14 0) 8 [] 0 0 wT,.ptr (.new 4 0) 0 [] 0]++bj 60 []),[],([[],[],[.obj 0 false (.d tH mE)],[],[.obj 0 false (.d (.arr 8 (.int .u32)) n4)]]++cg 9 ([[.obj 8 false (.vec 5 tb BO)]]++cg 50 []))⟩) (λx=>(.exit 2,⟨([.undef,.undef,.ptr (.new 2 0) 0 [] 0,.cP (.new 14 0) 8 [] 0 0 x.1.1,.ptr (.new 4 0) 0 [] 0]++bj 60 []),[],([[],[],[.obj 0 false (.d tH x.1.2.1)],[],[.obj 0 false (.d (.arr 8 (.int .u32)) x.2)]]++cg 9 ([[.obj 8 false (.vec 5 tb x.1.2.2)]]++cg 50 []))⟩))
def cE.L2:Ls cE.L2.aU cE.L2.add cE.L2.F:=pG (λ(endv,om,xX)=>⟨([.undef,.undef,.ptr (.new 2 0) 0 [] 0,.d tB endv,.ptr (.new 4 0) 0 [] 0]++bj 60 []),[],([[],[],[.obj 0 false (.d tH om)],[],[.obj 0 false (.d (.arr 8 (.int .u32)) xX)]]++cg 60 [])⟩) (λx=>(.exit 4,⟨([.undef,.undef,.ptr (.new 2 0) 0 [] 0,.undef,.ptr (.new 4 0) 0 [] 0]++bj 60 []),[],([[],[],[.obj 0 false (.d tH x.1)],[],[.obj 0 false (.d (.arr 8 (.int .u32)) x.2)]]++cg 60 [])⟩))
def cE.L3:Ls cE.L3.aU bE cE.L3.F:=pG (λ(t48,Ih,Kp)=>⟨([.undef,.undef,.ptr (.new 2 0) 0 [] 0,.undef,.ptr (.new 4 0) 0 [] 0]++bj 43 ([.d ti t48]++bj 16 [])),[],([[],[],[.obj 0 false (.d tH Ih)],[],[.obj 0 false (.d (.arr 8 (.int .u32)) Kp)]]++cg 60 [])⟩) (λx=>(.exit 6,⟨([.undef,.undef,.ptr (.new 2 0) 0 [] 0]++bj 62 []),[],([[],[],[.obj 0 false (.d tH x)]]++cg 62 [])⟩))
def cE:Fs Tryz.prog cE.aU bE cE.F:=fK 144 Tryz.f144 (λb=>([.d tB b],[])) (λx=>⟨.d tH x,[],[]⟩) [some tB] [iu.sg,jJ.sg,first.sg,mix.sg] {loops:=oM [(2,{bm:=[0,2,3],sites:=[2,14],owns:=[⟨3,[],14,140⟩]}),(6,{bm:=[0,2,3,4],sites:=[2,4,14]}),(9,{bm:=[2,3,4],sites:=[2,4],data:=[(3,tB)]}),(13,{bm:=[2,4,48],sites:=[2,4]})],outs:=oL [(2,{bm:=[0,2,3],sites:=[2,14]},{bm:=[2]}),(6,{bm:=[2,3,4],sites:=[2,4,14]},{bm:=[2]}),(9,{bm:=[2,4],sites:=[2,4]},{bm:=[2]}),(13,{bm:=[2],sites:=[2]},{bm:=[2]})],iA:=pq [(2,cE.L0.E),(6,cE.L1.E),(9,cE.L2.E),(13,cE.L3.E)]}
theorem cE.L0.run:cE.L0.RS:=rL [.d tB,.n,.d tB,.d tB] cE.L0
theorem cE.L0.step{R:Type}(iI endL n2 n14)(kn:K2 R)(kx:K3 R):cE.R 0 cE.L0 (iI,endL,n2,n14) kn kx=
  aJ ((sR (gv ((endL:Nat):Int) 64) 56)) (
   aJ (decide (endL<=(List.length n14))) (
   aJ (dG (endL+1) 1) (
   kn (cE.L0.st (iI,(endL+1),n2,((List.take endL n14)++ [0])))) none) none) (
   cE.L0.go kx ((iI,n2),(endL,n14))):=by kernel_rfl
theorem cE.L1.run:cE.L1.RS:=rL [.d tB,.n,.d tB,.d (.slice (.int .u32)),.d tB] cE.L1
theorem cE.L1.step{R:Type}(xB wT mE n4 BO)(kn:K2 R)(kx:K3 R):cE.R 1 cE.L1 (xB,wT,mE,n4,BO) kn kx=
  aJ ((qQ (xB.length:Int) 64)) (
   aJ (inc 64 (xB.length:Int)) (
   av (mix.call (n4,(cut xB 0 64))) λx1=>
   aJ (inc 64 (xB.length:Int)) (
   kn (cE.L1.st ((cut xB 64 ((List.length xB) - 64)),wT,mE,x1,BO))) none) none) (
   cE.L1.go kx ((wT,mE,BO),n4)):=by kernel_rfl
theorem cE.L2.run:cE.L2.RS:=rL [.d tB,.d tB,.d (.slice (.int .u32))] cE.L2
theorem cE.L2.step{R:Type}(endv om xX)(kn:K2 R)(kx:K3 R):cE.R 2 cE.L2 (endv,om,xX) kn kx=
  aJ ((nc (endv.length:Int) 0)) (
   aJ (inc 64 (endv.length:Int)) (
   av (mix.call (xX,(cut endv 0 64))) λx1=>
   aJ (inc 64 (endv.length:Int)) (
   kn (cE.L2.st ((cut endv 64 ((List.length endv) - 64)),om,x1))) none) none) (
   cE.L2.go kx (om,xX)):=by kernel_rfl
theorem cE.L3.run:cE.L3.RS:=rL [.d ti,.d tB,.d (.slice (.int .u32))] cE.L3
theorem cE.L3.step{R:Type}(t48 Ih Kp)(kn:K2 R)(kx:K3 R):cE.R 3 cE.L3 (t48,Ih,Kp) kn kx=
  aJ ((ik t48 32)) (
   aJ (eY (jX .i64 t48 4) 8) (
   aJ (decide ((Int.toNat (jX .i64 t48 4)) < (List.length Kp))) (
   aJ (decide ((((Int.toNat (jX .i64 t48 4))*1)+0)=(0+((Int.toNat (jX .i64 t48 4))*1)))) (
   aJ (kA (dp .i64 24 (eR .i64 8 (gv t48 4)))) (
   aJ (eY t48 32) (
   aJ (decide ((Int.toNat t48) < (List.length Ih))) (
   aJ (decide ((((Int.toNat t48)*1)+0)=(0+((Int.toNat t48)*1)))) (
   aJ (decide ((Int.toNat t48) < (List.length Ih))) (
   kn (cE.L3.st ((bt .i64 t48 1),(List.set Ih (Int.toNat t48) (dP .u8 (cr .u32 (nth (.int .u32) Kp (Int.toNat (jX .i64 t48 4))) (dp .i64 24 (eR .i64 8 (gv t48 4)))))),Kp))) none) none) none) none) none) none) none) none) (
   cE.L3.go kx Ih):=by kernel_rfl
theorem cE.eq{R:Type}(b)(k:K1 R):cE.A b k=
 aJ (inc (dp .i64 (b.length:Int) (gv (b.length:Int) 64)) (b.length:Int)) (
 av (iu.call (cut b (Int.toNat (dp .i64 (b.length:Int) (gv (b.length:Int) 64))) ((List.length b) - (Int.toNat (dp .i64 (b.length:Int) (gv (b.length:Int) 64)))))) λx1=>
 aJ (decide (x1.1<=(List.length x1.2))) (
 aJ (dG (x1.1+1) 1) (
 av (cE.L0.call (b,(x1.1+1),(List.replicate 32 0),((List.take x1.1 x1.2)++ [128]))) λx2=>
 av (jJ.call (x2.2.1,(eR .i64 8 (x2.1.1.length:Int)),x2.2.2)) λx3=>
 av (first.call ()) λx4=>
 av (cE.L1.call (x2.1.1,x3.1,x2.1.2,x4,x3.2)) λx6=>
 aJ (decide (0=0/\(0+x6.1.1)<=(List.length x6.1.2.2))) (
 av (cE.L2.call ((cut x6.1.2.2 0 x6.1.1),x6.1.2.1,x6.2)) λx9=>
 av (cE.L3.call (0,x9.1,x9.2)) λC8=>
 k (cE.out C8)) none) none) none) none:=by kernel_rfl
theorem cE.L0.ok:(cE.lE 0 cE.L0):=by
 refine(cE.mr 0 cE.L0) (λ(b,m,n2,l)=>zc l.length) ?_
 rintro⟨b,m,n2,l⟩ ⟨rfl,hl⟩
 have hl:l.length+zc l.length<=140737488355328:=hl
 have hr:gv ((l.length:Nat):Int) 64=((l.length%64:Nat):Int):=by
  unfold gv
  rw[im (by omega)]
  omega
 by_cases h:l.length%64=56
 ·right
  intro R kn kx
  have hz:zc l.length=0:=by unfold zc;omega
  rw[cE.L0.step,hr,cS (by omega)]
  simp only[ah,cE.L0.add,cE.L0.F,hz,cK,List.replicate_zero,cH]
 ·left
  have hz:zc l.length=zc (l.length+1)+1:=by unfold zc;omega
  refine⟨(b,l.length+1,n2,l++ [0]),⟨by simp,by simp only[aj,aD,aZ,aO];omega⟩,by simp only[aj,aD,aZ,aO];omega,?_,λkn kx=> ?_⟩
  ·simp only[cE.L0.add,cE.L0.F,aj,aD,aZ,aO,hz,bk,iS,aS,List.replicate_succ]
   rw[show l.length+1+zc (l.length+1)=l.length+(zc (l.length+1)+1) by omega]
  ·rw[cE.L0.step,hr,eI (by omega),tJ (by omega)]
   simp only[ae,ay,decide_true,bY]
theorem cE.L1.ok:(cE.lE 1 cE.L1):=by
 refine(cE.mr 1 cE.L1) (λ(b,m,n2,h,l)=>b.length) ?_
 rintro⟨b,m,n2,h,l⟩ ⟨s,rfl⟩
 by_cases hb:64<=b.length
 ·left
  have e1:cut b 64 (b.length - 64)=b.drop 64:=by unfold cut;rw[bz (by simp)]
  have e2:cut b 0 64=b.take 64:=rfl
  have hp:mix.aU (s.l,b.take 64):=⟨⟨s,rfl⟩,by simp;omega⟩
  refine⟨(b.drop 64,m,n2,(zh s (b.take 64)).l,l),⟨_,rfl⟩,by simp;omega,?_,λkn kx=> ?_⟩
  ·simp only[cE.L1.add,cE.L1.F,mg]
   rw[uP s b hb]
  ·rw[cE.L1.step,eQ (by omega),mD (by omega) (by omega),e1,e2]
   simp only[ae,mix.run hp,ab,bE,mix.F,mg]
 ·right
  intro R kn kx
  rw[cE.L1.step,dQ (by omega)]
  simp only[ah,cE.L1.add,cE.L1.F,mg]
  rw[tO s b (by omega)]
theorem cE.L2.ok:(cE.lE 2 cE.L2):=by
 refine(cE.mr 2 cE.L2) (λ(b,n2,h)=>b.length) ?_
 rintro⟨b,n2,h⟩ ⟨hm,s,rfl⟩
 have hm:b.length%64=0:=hm
 by_cases hb:0 < b.length
 ·left
  have e1:cut b 64 (b.length - 64)=b.drop 64:=by unfold cut;rw[bz (by simp)]
  have e2:cut b 0 64=b.take 64:=rfl
  have hp:mix.aU (s.l,b.take 64):=⟨⟨s,rfl⟩,by simp;omega⟩
  refine⟨(b.drop 64,n2,(zh s (b.take 64)).l),⟨by simp;omega,_,rfl⟩,by simp;omega,?_,λkn kx=> ?_⟩
  ·simp only[cE.L2.add,cE.L2.F,mg]
   rw[uP s b (by omega)]
  ·rw[cE.L2.step,cX (by omega),mD (by omega) (by omega),e1,e2]
   simp only[ae,mix.run hp,ab,bE,mix.F,mg]
 ·right
  intro R kn kx
  rw[cE.L2.step,cj (by omega)]
  simp only[ah,cE.L2.add,cE.L2.F,mg]
  rw[tO s b (by omega)]
theorem cE.L3.ok:(cE.lE 3 cE.L3):=by
 refine(cE.mr 3 cE.L3) (λ(t,n2,h)=>32 - t.toNat) ?_
 rintro⟨t,m,h⟩ ⟨hl,h8,k,hk,rfl⟩
 have hl:m.length=32:=hl
 have h8:h.length=8:=h8
 have e2:Int.toNat (k:Int)=k:=by omega
 have e3:Int.toNat ((k+1:Nat):Int)=k+1:=by omega
 by_cases jt:k < 32
 ·left
  have e1:bt .i64 (k:Int) 1=((k+1:Nat):Int):=by rw[eC (by omega) (by omega)];omega
  have q4:jX .i64 (k:Int) 4=((k / 4:Nat):Int):=by
   have:(k:Int).tdiv 4=((k / 4:Nat):Int):=by rw[jR (by omega)];omega
   unfold jX
   rw[this,qn (by omega) (by omega)]
  have r4:gv (k:Int) 4=((k%4:Nat):Int):=by
   unfold gv
   rw[im (by omega)]
   omega
  have s4:dp .i64 24 (eR .i64 8 ((k%4:Nat):Int))=((24 - 8*(k%4):Nat):Int):=by
   rw[qo (by omega) (by omega),eE (by omega) (by omega)]
   omega
  have e4:Int.toNat ((k / 4:Nat):Int)=k / 4:=by omega
  refine⟨(((k+1:Nat):Int),m.set k (wk h k m[k]),h),⟨by simpa using hl,h8,k+1,by omega,rfl⟩,by simp;omega,?_,λkn kx=> ?_⟩
  ·simp only[bE,cE.L3.F,e2,e3]
   rw[vK (wk h) m k (by omega)]
  ·have d0:decide (k < 32)=true:=aP jt
   have d1:decide (k / 4 < 8)=true:=aP (by omega)
   rw[cE.L3.step,bh (by omega),q4,r4,s4,bp (by omega) (by omega),bp (by omega) (by omega),oB (by omega)]
   simp only[e1,e2,e4,lh,aO,cK,decide_true,ae,hl,h8,d0,d1,wk]
 ·right
  obtain rfl:k=32:=by omega
  intro R kn kx
  rw[cE.L3.step,aR (by omega)]
  simp only[ah,bE,cE.L3.F,e2]
  rw[xH _ _ _ (by omega)]
theorem Kx(w:W):BitVec.ofInt 8 (vw w)=w.setWidth 8:=by
 apply BitVec.eq_of_toNat_eq
 rw[nL,BitVec.toNat_setWidth]
 unfold vw
 omega
theorem Pd(w:W)(k:Int):dP .u8 (cr .u32 (vw w) k)=vw ((w >>> k.toNat).setWidth 8):=by
 rw[u7,y9,Kx]
theorem Jp(s:St):from_ (wk s.l) 0 (List.replicate 32 0)=NV s:=by
 rw[Bh]
 simp only[List.range_eq_range',List.range',bR,fT,wk,Nat.reduceAdd,Nat.reduceDiv,Nat.reduceMod,Nat.reduceMul,Nat.reduceSub,n0,n1,n2,n3,n4,n5,n6,n7,Pd]
 rfl
theorem cE.ok:cE.Ok:=by
 intro b hb
 have hb:b.length<=140737488350000:=hb
 have hr:gv ((b.length:Nat):Int) 64=((b.length%64:Nat):Int):=by
  unfold gv
  rw[im (by omega)]
  omega
 have hs:dp .i64 ((b.length:Nat):Int) ((b.length%64:Nat):Int)=((b.length - b.length%64:Nat):Int):=by
  rw[eE (by omega) (by omega)];omega
 have hn:Int.toNat ((b.length - b.length%64:Nat):Int)=b.length - b.length%64:=by omega
 have hm:eR .i64 8 ((b.length:Nat):Int)=8*(b.length:Int):=qo (by omega) (by omega)
 generalize hq:b.length - b.length%64=q at hs hn
 have hc:cut b q (b.length - q)=b.drop q:=by unfold cut;rw[bz (by simp)]
 have HX:(b.drop q).length=b.length%64:=by simp;omega
 have p1:iu.aU (b.drop q):=by show(b.drop q).length<=_;omega
 rw[cE.eq,hr,hs,mD (by omega) (by omega),hn,hc]
 simp only[ae,iu.run p1,ab,bE,iu.F,ay,decide_true,bY]
 have p2:cE.L0.aU (b,(b.drop q).length+1,List.replicate 32 0,b.drop q++ [128]):=by
  refine⟨by simp,?_⟩
  simp only[aj,aD,aZ,zc]
  omega
 have hz:zc (b.drop q++ [128]).length=sx b.length:=by
  simp only[aj,aD,aZ,zc,sx]
  omega
 rw[tJ (by omega)]
 simp only[ae,cE.L0.run p2,ab,cE.L0.add,cE.L0.F,hm,hz]
 have hlen:(b.drop q++ [128]).length+sx b.length=(b.drop q++ [128]++List.replicate (sx b.length) 0).length:=by rw[@aj _ (b.drop q++ [128]),cJ]
 have p3:jJ.aU ((b.drop q++ [128]).length+sx b.length,8*(b.length:Int),b.drop q++ [128]++List.replicate (sx b.length) 0):=by
  refine⟨hlen,?_⟩
  simp only[aj,aD,aZ,cJ,sx]
  omega
 have p4:cE.L1.aU (b,(b.drop q++ [128]++List.replicate (sx b.length) 0).length+8,List.replicate 32 0,nT.l,b.drop q++ [128]++List.replicate (sx b.length) 0++lO (8*(b.length:Int))):=⟨nT,rfl⟩
 simp only[jJ.run p3,ab,bE,jJ.F,first.run (d:=()) trivial,bE,first.F,cE.L1.run p4,cE.L1.add,cE.L1.F,mg]
 generalize he:b.drop q++ [128]++List.replicate (sx b.length) 0++lO (8*(b.length:Int))=e
 have wc:(b.drop q++ [128]++List.replicate (sx b.length) 0).length+8=e.length:=by rw[<-he,@aj _ _ (lO _),cF]
 have QJ:e.length%64=0:=by
  rw[<-wc]
  simp only[aj,aD,aZ,cJ,sx,HX]
  omega
 have SI:cut e 0 ((b.drop q++ [128]++List.replicate (sx b.length) 0).length+8)=e:=by
  rw[wc];unfold cut;rw[aI,bY]
 rw[SI,wc,aP ⟨trivial,by omega⟩]
 have p5:cE.L2.aU (e,List.replicate 32 0,(blocks nT b).l):=⟨QJ,blocks nT b,rfl⟩
 have p6:cE.L3.aU (0,List.replicate 32 0,(blocks (blocks nT b) e).l):=⟨rfl,rfl,0,by omega,rfl⟩
 simp only[ae,cE.L2.run p5,ab,cE.L2.add,cE.L2.F,mg,cE.L3.run p6,bE,cE.L3.F,bE,cE.F]
 rw[show Int.toNat 0=0 from rfl,Jp]
 have QG:blocks nT (pad b)=blocks (blocks nT b) e:=by
  have h1:pad b=b.take q++e:=by
   rw[<-he]
   unfold pad
   rw[bk,bk,<-bk (b.take q),dL]
   rfl
  have h2:blocks nT b=blocks (blocks nT (b.take q)) (b.drop q):=by
   rw[<-wj _ _ _ (by simp;omega),dL]
  rw[h1,wj _ _ _ (by simp;omega),h2,tO _ (b.drop q) (by omega)]
 rw[Qo,QG]
theorem cE.run:cE.RS:=rE [.d tB] cE
def cE.sg:=cE.fS cE.ok 4 ⟨.hZ cE.L0.ok,⟨.hZ cE.L1.ok,⟨.hZ cE.L2.ok,⟨.hZ cE.L3.ok,trivial⟩⟩⟩⟩
abbrev fG.L0.D:=Nat×(List Bs)×Int×Int×Bs×(List Int)
abbrev fG.L0.Y:=Nat×(List Int)
abbrev fG.L0.X:=(Bs)×(Nat×(List Int))
def fG.L0.add:fG.L0.D->fG.L0.Y->fG.L0.X:=λ(bL,t13,t14,t15,n4,n10) y=>(n4,y)
abbrev fG.D:=ByteArray×(List Bs)
abbrev fG.Y:=Bs
def fG.L0.aU:fG.L0.D->Prop:=λ(m,ps,n,i,n4,l)=>m=l.length/\n=ps.length/\ps.length<=140737488350000/\∃k:Nat,k<=ps.length/\i=k/\l.length+(mu (ps.drop k)).length<=140737488350000
def fG.L0.F:fG.L0.D->fG.L0.Y:=λ(m,ps,n,i,n4,l)=>(l.length+(mu (ps.drop i.toNat)).length,l++mu (ps.drop i.toNat))
def fG.aU:fG.D->Prop:=λ(name,ps)=>(zz (bC name) ps).length<=140737488350000
def fG.F:fG.D->fG.Y:=λ(name,ps)=>tag (bC name) ps
def fG.L0:Ls fG.L0.aU fG.L0.add fG.L0.F:=pG (λ(bL,t13,t14,t15,n4,n10)=>⟨(bj 4 ([.ptr (.new 4 0) 0 [] 0,.cP (.new 10 0) 0 [] 0 0 bL]++bj 7 ([.d (.slice tB) t13,.d ti t14,.d ti t15]++bj 12 []))),[],(cg 4 ([[.obj 0 false (.d tH n4)]]++cg 5 ([[.obj 0 false (.vec 5 tb n10)]]++cg 17 [])))⟩) (λx=>(.exit 0,⟨(bj 4 ([.ptr (.new 4 0) 0 [] 0,.cP (.new 10 0) 0 [] 0 0 x.2.1]++bj 22 [])),[],(cg 4 ([[.obj 0 false (.d tH x.1)]]++cg 5 ([[.obj 0 false (.vec 5 tb x.2.2)]]++cg 17 [])))⟩))
def fG:Fs Tryz.prog fG.aU bE fG.F:=fK 72 Tryz.f72 (λ(name,parts)=>([.d .str name,.d (.slice tB) parts],[])) (λx=>⟨.d tH x,[],[]⟩) [some .str,some (.slice tB)] [lV.sg,jJ.sg,cE.sg] {loops:=oM [(3,{bm:=[4,5,13,14,15],sites:=[4,10],owns:=[⟨5,[],10,140⟩]})],outs:=oL [(3,{bm:=[4,5],sites:=[4,10]},{bm:=[4]})],iA:=pq [(3,fG.L0.E)]}
theorem fG.L0.run:fG.L0.RS:=rL [.n,.d (.slice tB),.d ti,.d ti,.d tB,.d tB] fG.L0
theorem fG.L0.step{R:Type}(bL t13 t14 t15 n4 n10)(kn:K2 R)(kx:K3 R):fG.R 0 fG.L0 (bL,t13,t14,t15,n4,n10) kn kx=
  aJ ((ik t15 t14)) (
   aJ (eY t15 (t13.length:Int)) (
   av (jJ.call (bL,(((List.length (nth tB t13 (Int.toNat t15))):Nat):Int),n10)) λx1=>
   aJ (decide (x1.1<=(List.length x1.2))) (
   aJ (dG (x1.1+(List.length (nth tB t13 (Int.toNat t15)))) 1) (
   kn (fG.L0.st ((x1.1+(List.length (nth tB t13 (Int.toNat t15)))),t13,t14,(bt .i64 t15 1),n4,((List.take x1.1 x1.2)++(nth tB t13 (Int.toNat t15)))))) none) none) none) (
   fG.L0.go kx (n4,(bL,n10))):=by kernel_rfl
theorem fG.eq{R:Type}(name parts)(k:K1 R):fG.A (name,parts) k=
 av (lV.call (((ByteArray.size name):Nat):Int)) λx1=>
 aJ (decide (x1.1<=(List.length x1.2))) (
 aJ (dG (x1.1+(List.length (bC name))) 1) (
 av (fG.L0.call ((x1.1+(List.length (bC name))),parts,(parts.length:Int),0,(List.replicate 32 0),((List.take x1.1 x1.2)++(bC name)))) λx4=>
 aJ (decide (0=0/\(0+x4.2.1)<=(List.length x4.2.2))) (
 av (cE.call (cut x4.2.2 0 x4.2.1)) λx5=>
 k (fG.out x5)) none) none) none:=by kernel_rfl
theorem DZ(p:List Int)(ps:List (List Int)):mu (p::ps)=lO p.length++p++mu ps:=by simp[mu]
theorem D0(ps:List (List Int))(k:Nat)(h:k < ps.length):mu (ps.drop k)=lO ps[k].length++ps[k]++mu (ps.drop (k+1)):=by
 rw[aq h,DZ]
theorem fG.L0.ok:(fG.lE 0 fG.L0):=by
 refine(fG.mr 0 fG.L0) (λ(m,ps,n,i,n4,l)=>ps.length - i.toNat) ?_
 rintro⟨m,ps,n,i,n4,l⟩ ⟨rfl,rfl,xw,k,hk,rfl,hl⟩
 have hl:l.length+(mu (ps.drop k)).length<=140737488350000:=hl
 have hk:k<=ps.length:=hk
 have e2:Int.toNat (k:Int)=k:=by omega
 have e3:Int.toNat ((k+1:Nat):Int)=k+1:=by omega
 by_cases h:k < ps.length
 ·left
  have ht:=D0 ps k h
  have hlen:(mu (ps.drop k)).length=8+ps[k].length+(mu (ps.drop (k+1))).length:=by rw[ht];simp only[aj,cF]
  have hn:nth (.slice (.int .u8)) ps k=ps[k]:=dg (t:= .slice (.int .u8)) h
  have xw:ps.length<=140737488350000:=xw
  have e1:bt .i64 (k:Int) 1=((k+1:Nat):Int):=by rw[eC (by omega) (by omega)];omega
  refine⟨((l++lO ps[k].length++ps[k]).length,ps,(ps.length:Int),((k+1:Nat):Int),n4,l++lO ps[k].length++ps[k]),⟨rfl,rfl,xw,k+1,by show k+1<=ps.length;omega,rfl,?_⟩,?_,?_,λkn kx=> ?_⟩
  ·show(l++lO ps[k].length++ps[k]).length+(mu (ps.drop (k+1))).length<=_
   simp only[aj,cF];omega
  ·show ps.length - Int.toNat ((k+1:Nat):Int) < ps.length - Int.toNat (k:Int)
   omega
  ·simp only[fG.L0.add,fG.L0.F,e2,e3,ht,bk]
   simp only[aj,cF,ew]
  ·have p1:jJ.aU (l.length,(ps[k].length:Int),l):=⟨rfl,by show l.length<=_;omega⟩
   rw[fG.L0.step,bh (by omega),bp (by omega) (by omega),e1,e2]
   simp only[ae,hn,jJ.run p1,ab,bE,jJ.F]
   have OB:(l++lO ps[k].length).length=l.length+8:=by simp[cF]
   rw[OB,aP (ay _),tJ (by omega)]
   simp only[ae]
   rw[bz (by rw[OB];omega)]
   simp only[aj,cF,ew]
 ·right
  obtain rfl:k=ps.length:=by omega
  intro R kn kx
  rw[fG.L0.step,aR (by omega)]
  simp only[ah,fG.L0.add,fG.L0.F,e2,aQ]
  simp[mu]
theorem Cv:∀ps:List (List Int),8*ps.length<=(mu ps).length
 |[]=>by simp[mu]
 |p::ps=>by
  rw[DZ]
  have:=Cv ps
  simp only[aj,cF,aD]
  omega
theorem kh(s:ByteArray):(bC s).length=s.size:=by simp only[bC,cR,c6];rfl
theorem fG.ok:fG.Ok:=by
 rintro⟨name,ps⟩ hp
 have hp:(lO (bC name).length++bC name++mu ps).length<=140737488350000:=hp
 have hl:(lO (bC name).length++bC name++mu ps).length=8+(bC name).length+(mu ps).length:=by simp only[aj,cF]
 have xw:=Cv ps
 have oG:((name.size:Nat):Int)=(((bC name).length:Nat):Int):=by rw[kh]
 rw[fG.eq,lV.run (d:=((name.size:Nat):Int)) trivial,oG]
 simp only[ab,bE,lV.F,cF,ay,decide_true,ae]
 rw[tJ (by omega),bz (by rw[cF];omega)]
 have p2:fG.L0.aU (8+(bC name).length,ps,(ps.length:Int),0,List.replicate 32 0,lO ((bC name).length:Int)++bC name):=by
  refine⟨by simp only[aj,cF],rfl,by show ps.length<=_;omega,0,aV _,rfl,?_⟩
  rw[aI]
  simp only[aj,cF]
  omega
 simp only[ae,fG.L0.run p2,ab,fG.L0.add,fG.L0.F,bH,aI]
 have J7:cut (lO ((bC name).length:Int)++bC name++mu ps) 0 ((lO ((bC name).length:Int)++bC name).length+(mu ps).length)=zz (bC name) ps:=by
  unfold cut
  rw[aI,bz (by simp only[aj];omega)]
  rfl
 have p3:cE.aU (zz (bC name) ps):=hp
 rw[aP ⟨trivial,by simp only[aj];omega⟩,J7]
 simp only[ae,cE.run p3,ab,bE,cE.F,bE,fG.F,tag]
theorem fG.run:fG.RS:=rE [.d .str,.d (.slice tB)] fG
def fG.sg:=fG.fS fG.ok 1 ⟨.hZ fG.L0.ok,trivial⟩
abbrev fR.D:=Int×Int
abbrev fR.Y:=Int
def fR.aU:fR.D->Prop:=λ(x,n)=>0<=x/\x < 4294967296/\0<=n/\n<=32
def fR.F:fR.D->fR.Y:=λ(x,n)=>vw (pL (BitVec.ofInt 32 x) n.toNat)
def fR:Fs Tryz.prog fR.aU bE fR.F:=fK 283 Tryz.f283 (λ(x,n)=>([.d (.int .u32) x,.d ti n],[])) (λx=>⟨.d (.int .u32) x,[],[]⟩) [some (.int .u32),some ti]
theorem fR.eq{R:Type}(x n)(k:K1 R):fR.A (x,n) k=
 aJ (kA n) (
 aJ (kA (dp .i64 32 n)) (
 k (fR.out (cW .or .u32 (cr .u32 x n) (nk .u32 x (dp .i64 32 n))))) none) none:=by kernel_rfl
theorem fR.ok:fR.Ok:=by
 rintro⟨x,n⟩ ⟨h1,h2,h3,h4⟩
 obtain⟨n,rfl⟩:=Int.eq_ofNat_of_zero_le h3
 have hx:x=vw (BitVec.ofInt 32 x):=by rw[hM];have h1:0<=x:=h1;have h2:x < 4294967296:=h2;omega
 have h4:(n:Int)<=32:=h4
 rw[fR.eq]
 simp(disch:=omega) only[↓S1,↓if_pos,↓if_neg,if_pos,if_neg,if_true,if_false,S2]
 have e2:cW .or .u32 (cr .u32 x (n:Int)) (nk .u32 x ((32 - n:Nat):Int))=vw (pL (BitVec.ofInt 32 x) n):=by
  conv=>lhs;rw[hx]
  rw[xO,u7,mR]
  simp only[pL,aa]
  rw[BitVec.or_comm]
 rw[e2]
 rfl
theorem fR.run:fR.RS:=rE [.d (.int .u32),.d ti] fR
def fR.sg:=fR.fS fR.ok
theorem fR.at(w:W){k:Int}(h:0<=k/\k<=32):fR.call (vw w,k)=some (vw (pL w k.toNat)):=by
 have h:fR.aU (vw w,k):=⟨zB w,by have:=MX w;simpa using this,h.1,h.2⟩
 rw[fR.run h]
 show some (vw (pL (BitVec.ofInt 32 (vw w)) k.toNat))=_
 rw[o7]
abbrev gR.D:=Unit
abbrev gR.Y:=(List Int)
def gR.aU:gR.D->Prop:=λ_=>True
def gR.F:gR.D->gR.Y:=λ_=>nT.l
def gR:Fs Tryz.prog gR.aU bE gR.F:=fK 263 Tryz.f263 (λ_=>([],[])) (λx=>⟨.d (.slice (.int .u32)) x,[],[]⟩) [] [] {bU:=[1],res:=[some (.slice (.int .u32))]}
theorem gR.eq{R:Type}(d)(k:K1 R):gR.A d k=
 k (gR.out [1779033703,3144134277,1013904242,2773480762,1359893119,2600822924,528734635,1541459225]):=by kernel_rfl
theorem gR.ok:gR.Ok:=by
 intro d _
 rw[gR.eq]
 rfl
theorem gR.run:gR.RS:=rE [] gR
def gR.sg:=gR.fS gR.ok
abbrev lZ.D:=Unit
abbrev lZ.Y:=(List Int)
def lZ.aU:lZ.D->Prop:=λ_=>True
def lZ.F:lZ.D->lZ.Y:=λ_=>ze
def lZ:Fs Tryz.prog lZ.aU bE lZ.F:=fK 282 Tryz.f282 (λ_=>([],[])) (λx=>⟨.d (.slice (.int .u32)) x,[],[]⟩) [] [] {bU:=[1],res:=[some (.slice (.int .u32))]}
theorem lZ.eq{R:Type}(d)(k:K1 R):lZ.A d k=
 k (lZ.out [1116352408,1899447441,3049323471,3921009573,961987163,1508970993,2453635748,2870763221,3624381080,310598401,607225278,1426881987,1925078388,2162078206,2614888103,3248222580,3835390401,4022224774,264347078,604807628,770255983,1249150122,1555081692,1996064986,2554220882,2821834349,2952996808,3210313671,3336571891,3584528711,113926993,338241895,666307205,773529912,1294757372,1396182291,1695183700,1986661051,2177026350,2456956037,2730485921,2820302411,3259730800,3345764771,3516065817,3600352804,4094571909,275423344,430227734,506948616,659060556,883997877,958139571,1322822218,1537002063,1747873779,1955562222,2024104815,2227730452,2361852424,2428436474,2756734187,3204031479,3329325298]):=by kernel_rfl
theorem lZ.ok:lZ.Ok:=by
 intro d _
 rw[lZ.eq]
 rfl
theorem lZ.run:lZ.RS:=rE [] lZ
def lZ.sg:=lZ.fS lZ.ok
abbrev bI.L0.D:=Bs×Nat×(List Int)
abbrev bI.L0.Y:=Nat×(List Int)
abbrev bI.L0.X:=(Bs)×(Nat×(List Int))
def bI.L0.add:bI.L0.D->bI.L0.Y->bI.L0.X:=λ(iI,outL,n6) y=>(iI,y)
abbrev bI.L1.D:=Nat×Int×Int×(List Int)
abbrev bI.L1.Y:=Nat×(List Int)
abbrev bI.D:=Bs
abbrev bI.Y:=Bs
def bI.L0.aU:bI.L0.D->Prop:=λ(b,m,l)=>m=l.length/\l.length+zc l.length<=140737488355328
def bI.L0.F:bI.L0.D->bI.L0.Y:=λ(b,m,l)=>(l.length+zc l.length,l++List.replicate (zc l.length) 0)
def bI.L1.aU:bI.L1.D->Prop:=λ(m,n,kv,l)=>0<=n/\n < 18446744073709551616/\∃j:Nat,j<=8/\kv=56 - 8*(j:Int)/\m=l.length/\l.length<=140737488355320+j
def bI.L1.F:bI.L1.D->bI.L1.Y:=λ(m,n,kv,l)=>(l.length+(lO n).length - (7 - (kv / 8)).toNat,l++(lO n).drop (7 - (kv / 8)).toNat)
def bI.aU:bI.D->Prop:=λb=>b.length<=140737488350000
def bI.F:bI.D->bI.Y:=λb=>pad b
def bI.L0:Ls bI.L0.aU bI.L0.add bI.L0.F:=pG (λ(iI,outL,n6)=>⟨([.d tB iI,.undef,.undef,.cP (.new 6 0) 0 [] 0 0 outL]++bj 31 []),[],(cg 6 ([[.obj 0 false (.vec 5 tb n6)]]++cg 28 []))⟩) (λx=>(.exit 0,⟨([.d tB x.1,.undef,.undef,.cP (.new 6 0) 0 [] 0 0 x.2.1]++bj 31 []),[],(cg 6 ([[.obj 0 false (.vec 5 tb x.2.2)]]++cg 28 []))⟩))
def bI.L1:Ls bI.L1.aU bE bI.L1.F:=pG (λ(vl,n,kv,Kq)=>⟨([.undef,.undef,.undef,.cP (.new 6 0) 0 [] 0 0 vl,.d tu n,.d ti kv]++bj 29 []),[],(cg 6 ([[.obj 0 false (.vec 5 tb Kq)]]++cg 28 []))⟩) (λx=>(.exit 2,⟨([.undef,.undef,.undef,.cP (.new 6 0) 0 [] 0 0 x.1]++bj 31 []),[],(cg 6 ([[.obj 0 false (.vec 5 tb x.2)]]++cg 28 []))⟩))
def bI:Fs Tryz.prog bI.aU bE bI.F:=fK 262 Tryz.f262 (λb=>([.d tB b],[])) (λx=>⟨.d tB x,[],[]⟩) [some tB] [] {bU:=[6],loops:=oM [(3,{bm:=[0,3],sites:=[6],owns:=[⟨3,[],6,140⟩]}),(7,{bm:=[3,4,5],sites:=[6],owns:=[⟨3,[],6,140⟩]})],outs:=oL [(3,{bm:=[0,3],sites:=[6]},{bm:=[2]}),(7,{bm:=[3],sites:=[6]},{bm:=[2]})],iA:=pq [(3,bI.L0.E),(7,bI.L1.E)],res:=[some tB]}
theorem bI.L0.run:bI.L0.RS:=rL [.d tB,.n,.d tB] bI.L0
theorem bI.L0.step{R:Type}(iI outL n6)(kn:K2 R)(kx:K3 R):bI.R 0 bI.L0 (iI,outL,n6) kn kx=
  aJ ((sR (gv ((outL:Nat):Int) 64) 56)) (
   aJ (decide (outL<=(List.length n6))) (
   aJ (dG (outL+1) 1) (
   kn (bI.L0.st (iI,(outL+1),((List.take outL n6)++ [0])))) none) none) (
   bI.L0.go kx (iI,(outL,n6))):=by kernel_rfl
theorem bI.L1.run:bI.L1.RS:=rL [.n,.d tu,.d ti,.d tB] bI.L1
theorem bI.L1.step{R:Type}(vl n kv Kq)(kn:K2 R)(kx:K3 R):bI.R 1 bI.L1 (vl,n,kv,Kq) kn kx=
  aJ ((qQ kv 0)) (
   aJ (kA kv) (
   aJ (decide (vl<=(List.length Kq))) (
   aJ (dG (vl+1) 1) (
   kn (bI.L1.st ((vl+1),n,(dp .i64 kv 8),((List.take vl Kq)++ [(dP .u8 (cr .u64 n kv))])))) none) none) none) (
   bI.L1.go kx (vl,Kq)):=by kernel_rfl
theorem bI.eq{R:Type}(b)(k:K1 R):bI.A b k=
 aJ (dG (0+(List.length b)) 1) (
 aJ (decide ((0+(List.length b))<=(List.length ((List.take 0 (List.replicate 0 0))++b)))) (
 aJ (dG ((0+(List.length b))+1) 1) (
 av (bI.L0.call (b,((0+(List.length b))+1),((List.take (0+(List.length b)) ((List.take 0 (List.replicate 0 0))++b))++ [128]))) λx1=>
 av (bI.L1.call (x1.2.1,(eR .u64 8 (dP .u64 (x1.1.length:Int))),56,x1.2.2)) λx2=>
 aJ (decide (0=0/\(0+x2.1)<=(List.length x2.2))) (
 k (bI.out (cut x2.2 0 x2.1))) none) none) none) none:=by kernel_rfl
theorem bI.L0.ok:(bI.lE 0 bI.L0):=by
 refine(bI.mr 0 bI.L0) (λ(b,m,l)=>zc l.length) ?_
 rintro⟨b,m,l⟩ ⟨rfl,hl⟩
 have hl:l.length+zc l.length<=140737488355328:=hl
 by_cases h:l.length%64=56
 ·right
  intro R kn kx
  have hz:zc l.length=0:=by unfold zc;omega
  rw[bI.L0.step]
  simp(disch:=omega) only[↓S1,↓if_pos,↓if_neg,if_pos,if_neg,if_true,if_false,S2,bI.L0.add,bI.L0.F,hz,cK,List.replicate_zero,cH]
 ·left
  have hz:zc l.length=zc (l.length+1)+1:=by unfold zc;omega
  refine⟨(b,l.length+1,l++ [0]),⟨by simp,by simp only[aj,aD,aZ,aO];omega⟩,by simp only[aj,aD,aZ,aO];omega,?_,λkn kx=> ?_⟩
  ·simp only[bI.L0.add,bI.L0.F,aj,aD,aZ,aO,hz,bk,iS,aS,List.replicate_succ]
   rw[show l.length+1+zc (l.length+1)=l.length+(zc (l.length+1)+1) by omega]
  ·rw[bI.L0.step]
   simp(disch:=omega) only[↓S1,↓if_pos,↓if_neg,if_pos,if_neg,if_true,if_false,S2,bY]
theorem Fy(n:Int)(j:Nat)(h:j < 8):(lO n).drop j=n / 2^(56 - 8*j)%256::(lO n).drop (j+1):=by
 rcases(by omega:j=0\/j=1\/j=2\/j=3\/j=4\/j=5\/j=6\/j=7) with rfl | rfl | rfl | rfl | rfl | rfl | rfl | rfl <;> simp[lO]
theorem Cz(n:Int)(k:Nat)(h1:k<=64):dP .u8 (cr .u64 n (k:Int))=n / 2^k%256:=by
 rw[y9,hM,cr]
 have e:min (k:Int).toNat IntKind.u64.bits=k:=by simp only[IntKind.bits];omega
 rw[e,il _ (lB (qe (by omega)))]
 rfl
theorem bI.L1.ok:(bI.lE 1 bI.L1):=by
 refine(bI.mr 1 bI.L1) (λ(m,n,kv,l)=>(kv+8).toNat) ?_
 rintro⟨m,n,kv,l⟩ ⟨h1,h2,j,hj,rfl,rfl,hl⟩
 have hl:l.length<=140737488355320+j:=hl
 have e1:(7 - ((56 - 8*(j:Int)) / 8)).toNat=j:=by omega
 by_cases h:j < 8
 ·left
  have e2:dp .i64 (56 - 8*(j:Int)) 8=56 - 8*((j+1:Nat):Int):=by rw[eE (by omega) (by omega)];omega
  have e3:(7 - ((56 - 8*((j+1:Nat):Int)) / 8)).toNat=j+1:=by omega
  have e4:(56 - 8*(j:Int))=((56 - 8*j:Nat):Int):=by omega
  refine⟨(l.length+1,n,56 - 8*((j+1:Nat):Int),l++ [n / 2^(56 - 8*j)%256]),⟨h1,h2,j+1,by omega,rfl,by simp,by simp only[aj,aD,aZ];omega⟩,by simp only;omega,?_,λkn kx=> ?_⟩
  ·simp only[bE,bI.L1.F,e1,e3,Fy n j h,aj,aD,aZ,bk,iS,aS,cF]
   rw[show l.length+(0+1)+8 - (j+1)=l.length+8 - j by omega]
  ·rw[bI.L1.step,e2,e4,Cz n _ (by omega)]
   simp(disch:=omega) only[↓S1,↓if_pos,↓if_neg,if_pos,if_neg,if_true,if_false,S2,bY]
 ·right
  obtain rfl:j=8:=by omega
  intro R kn kx
  rw[bI.L1.step]
  simp(disch:=omega) only[↓S1,↓if_pos,↓if_neg,if_pos,if_neg,if_true,if_false,S2,bE,bI.L1.F,e1]
  simp[lO]
theorem bI.ok:bI.Ok:=by
 intro b hb
 have hb:b.length<=140737488350000:=hb
 have hz:zc (b++ [128]).length=sx b.length:=by
  simp only[aj,aD,aZ,zc,sx]
  omega
 have WB:sx b.length < 64:=by unfold sx;omega
 have p1:bI.L0.aU (b,b.length+1,b++ [128]):=⟨by simp,by rw[hz];simp only[aj,aD,aZ] <;> omega⟩
 have e1:dP .u64 ((b.length:Nat):Int)=((b.length:Nat):Int):=by rw[AI,hM];omega
 have e2:eR .u64 8 ((b.length:Nat):Int)=8*(b.length:Int):=by
  unfold eR;rw[wrap_u64,hM];omega
 have e3:List.take b.length b=b:=bY
 rw[bI.eq]
 simp only[List.replicate_zero,List.take_nil,aS,aO,e1,e2,e3]
 simp(disch:=omega) only[↓S1,↓if_pos,↓if_neg,if_pos,if_neg,if_true,if_false,S2,bI.L0.run p1,bI.L0.add,bI.L0.F,hz]
 have p2:bI.L1.aU ((b++ [128]).length+sx b.length,8*(b.length:Int),56,b++ [128]++List.replicate (sx b.length) 0):=by
  refine⟨by omega,by omega,0,by omega,rfl,by simp only[aj,aD,aZ,cJ] <;> omega,?_⟩
  simp only[aj,aD,aZ,cJ]
  omega
 simp(disch:=omega) only[↓S1,↓if_pos,↓if_neg,if_pos,if_neg,if_true,if_false,S2,e1,e2,bI.L1.run p2,bE,bI.L1.F]
 have e5:(7 - ((56:Int) / 8)).toNat=0:=by decide
 rw[e5,aI]
 have e6:(b++ [128]++List.replicate (sx b.length) 0).length+(lO (8*(b.length:Int))).length - 0=(b++ [128]++List.replicate (sx b.length) 0++lO (8*(b.length:Int))).length:=by rw[@aj _ _ (lO _)];omega
 rw[e6,if_pos (ay _)]
 unfold cut
 rw[aI,bY]
 simp only[bE,bI.F,pad,bk,iS,aS]
theorem bI.run:bI.RS:=rE [.d tB] bI
def bI.sg:=bI.fS bI.ok 2 ⟨.hZ bI.L0.ok,⟨.hZ bI.L1.ok,trivial⟩⟩
abbrev cG.L0.D:=Bs×Nat×Int×(List Int)
abbrev cG.L0.Y:=Nat×(List Int)
abbrev cG.L1.D:=Nat×Int×(List Int)
abbrev cG.L1.Y:=Nat×(List Int)
abbrev cG.D:=Bs
abbrev cG.Y:=(List Int)
def cG.L0.aU:cG.L0.D->Prop:=λ(b,m,i,l)=>64<=b.length/\∃k:Nat,k<=16/\i=k/\k=m/\l=wl ((words b).take k)
def cG.L0.F:cG.L0.D->cG.L0.Y:=λ(b,m,i,l)=>(16,wl (words b))
def cG.L1.aU:cG.L1.D->Prop:=λ(m,i,l)=>∃ws:List W,16<=ws.length/\ws.length<=64/\l=wl ws/\m=ws.length/\i=(ws.length:Nat)
def cG.L1.F:cG.L1.D->cG.L1.Y:=λ(m,i,l)=>(64,wl (M9 (MU l) (64 - l.length)))
def cG.aU:cG.D->Prop:=λb=>64<=b.length
def cG.F:cG.D->cG.Y:=λb=>wl (sched b)
def cG.L0:Ls cG.L0.aU bE cG.L0.F:=pG (λ(iI,wL,i,n49)=>⟨([.d tB iI,.undef,.undef,.cP (.new 49 0) 0 [] 0 0 wL,.d ti i]++bj 94 []),[],(cg 49 ([[.obj 0 false (.vec 255 (.int .u32) n49)]]++cg 49 []))⟩) (λx=>(.exit 0,⟨([.undef,.undef,.undef,.cP (.new 49 0) 0 [] 0 0 x.1]++bj 95 []),[],(cg 49 ([[.obj 0 false (.vec 255 (.int .u32) x.2)]]++cg 49 []))⟩))
def cG.L1:Ls cG.L1.aU bE cG.L1.F:=pG (λ(Ay,fY,pt)=>⟨([.undef,.undef,.undef,.cP (.new 49 0) 0 [] 0 0 Ay,.undef,.d ti fY]++bj 93 []),[],(cg 49 ([[.obj 0 false (.vec 255 (.int .u32) pt)]]++cg 49 []))⟩) (λx=>(.exit 2,⟨([.undef,.undef,.undef,.cP (.new 49 0) 0 [] 0 0 x.1]++bj 95 []),[],(cg 49 ([[.obj 0 false (.vec 255 (.int .u32) x.2)]]++cg 49 []))⟩))
def cG:Fs Tryz.prog cG.aU bE cG.F:=fK 281 Tryz.f281 (λb=>([.d tB b],[])) (λx=>⟨.d (.slice (.int .u32)) x,[],[]⟩) [some tB] [fR.sg] {loops:=oM [(3,{bm:=[0,3,4],sites:=[49],owns:=[⟨3,[],49,304⟩]}),(7,{bm:=[3,5],sites:=[49],owns:=[⟨3,[],49,304⟩]})],outs:=oL [(3,{bm:=[3],sites:=[49]},{bm:=[2]}),(7,{bm:=[3],sites:=[49]},{bm:=[2]})],iA:=pq [(3,cG.L0.E),(7,cG.L1.E)],res:=[some (.slice (.int .u32))]}
theorem cG.L0.run:cG.L0.RS:=rL [.d tB,.n,.d ti,.d (.slice (.int .u32))] cG.L0
theorem cG.L0.step{R:Type}(iI wL i n49)(kn:K2 R)(kx:K3 R):cG.R 0 cG.L0 (iI,wL,i,n49) kn kx=
  aJ ((ik i 16)) (
   aJ (eY (eR .i64 4 i) (iI.length:Int)) (
   aJ (eY (bt .i64 (eR .i64 4 i) 1) (iI.length:Int)) (
   aJ (eY (bt .i64 (eR .i64 4 i) 2) (iI.length:Int)) (
   aJ (eY (bt .i64 (eR .i64 4 i) 3) (iI.length:Int)) (
   aJ (decide (wL<=(List.length n49))) (
   aJ (dG (wL+1) 4) (
   kn (cG.L0.st (iI,(wL+1),(bt .i64 i 1),((List.take wL n49)++ [(cW .or .u32 (cW .or .u32 (cW .or .u32 (nk .u32 (dP .u32 (nth tb iI (Int.toNat (eR .i64 4 i)))) 24) (nk .u32 (dP .u32 (nth tb iI (Int.toNat (bt .i64 (eR .i64 4 i) 1)))) 16)) (nk .u32 (dP .u32 (nth tb iI (Int.toNat (bt .i64 (eR .i64 4 i) 2)))) 8)) (dP .u32 (nth tb iI (Int.toNat (bt .i64 (eR .i64 4 i) 3)))))])))) none) none) none) none) none) none) (
   cG.L0.go kx (wL,n49)):=by kernel_rfl
theorem cG.L1.run:cG.L1.RS:=rL [.n,.d ti,.d (.slice (.int .u32))] cG.L1
theorem cG.L1.step{R:Type}(Ay fY pt)(kn:K2 R)(kx:K3 R):cG.R 1 cG.L1 (Ay,fY,pt) kn kx=
  aJ ((ik fY 64)) (
   aJ (eY (dp .i64 fY 15) ((Ay:Nat):Int)) (
   aJ (decide ((0+(Int.toNat (dp .i64 fY 15))) < (List.length pt))) (
   aJ (decide ((((0+(Int.toNat (dp .i64 fY 15)))*1)+0)=(0+((Int.toNat (dp .i64 fY 15))*1)))) (
   aJ (eY (dp .i64 fY 2) ((Ay:Nat):Int)) (
   aJ (decide ((0+(Int.toNat (dp .i64 fY 2))) < (List.length pt))) (
   aJ (decide ((((0+(Int.toNat (dp .i64 fY 2)))*1)+0)=(0+((Int.toNat (dp .i64 fY 2))*1)))) (
   av (fR.call ((nth (.int .u32) pt (0+(Int.toNat (dp .i64 fY 15)))),7)) λx1=>
   av (fR.call ((nth (.int .u32) pt (0+(Int.toNat (dp .i64 fY 15)))),18)) λx2=>
   av (fR.call ((nth (.int .u32) pt (0+(Int.toNat (dp .i64 fY 2)))),17)) λx3=>
   av (fR.call ((nth (.int .u32) pt (0+(Int.toNat (dp .i64 fY 2)))),19)) λx4=>
   aJ (eY (dp .i64 fY 16) ((Ay:Nat):Int)) (
   aJ (decide ((0+(Int.toNat (dp .i64 fY 16))) < (List.length pt))) (
   aJ (decide ((((0+(Int.toNat (dp .i64 fY 16)))*1)+0)=(0+((Int.toNat (dp .i64 fY 16))*1)))) (
   aJ (eY (dp .i64 fY 7) ((Ay:Nat):Int)) (
   aJ (decide ((0+(Int.toNat (dp .i64 fY 7))) < (List.length pt))) (
   aJ (decide ((((0+(Int.toNat (dp .i64 fY 7)))*1)+0)=(0+((Int.toNat (dp .i64 fY 7))*1)))) (
   aJ (decide (Ay<=(List.length pt))) (
   aJ (dG (Ay+1) 4) (
   kn (cG.L1.st ((Ay+1),(bt .i64 fY 1),((List.take Ay pt)++ [(bt .u32 (bt .u32 (bt .u32 (nth (.int .u32) pt (0+(Int.toNat (dp .i64 fY 16)))) (cW .xor .u32 (cW .xor .u32 x1 x2) (cr .u32 (nth (.int .u32) pt (0+(Int.toNat (dp .i64 fY 15)))) 3))) (nth (.int .u32) pt (0+(Int.toNat (dp .i64 fY 7))))) (cW .xor .u32 (cW .xor .u32 x3 x4) (cr .u32 (nth (.int .u32) pt (0+(Int.toNat (dp .i64 fY 2)))) 10)))])))) none) none) none) none) none) none) none) none) none) none) none) none) none) none) (
   cG.L1.go kx (Ay,pt)):=by kernel_rfl
theorem cG.eq{R:Type}(b)(k:K1 R):cG.A b k=
 av (cG.L0.call (b,0,0,([]:List Int))) λx1=>
 av (cG.L1.call (x1.1,16,x1.2)) λC8=>
 aJ (decide (0=0/\(0+C8.1)<=(List.length C8.2))) (
 k (cG.out (cut C8.2 0 C8.1))) none:=by kernel_rfl
theorem rO(ws:List W):(wl ws).length=ws.length:=by simp[wl]
theorem JA(m:List W):∀n,M9 (ext m) n=M9 m (n+1)
 | 0=>rfl
 |n+1=>by rw[M9,JA m n];rfl
theorem O6(b:List Int)(k:Nat)(h:4*k+3 < b.length):be b k=Rb (nth (.int .u8) b (4*k)) (nth (.int .u8) b (4*k+1)) (nth (.int .u8) b (4*k+2)) (nth (.int .u8) b (4*k+3)):=rfl
theorem cG.L0.ok:(cG.lE 0 cG.L0):=by
 refine(cG.mr 0 cG.L0) (λ(b,m,i,l)=>16 - m) ?_
 rintro⟨b,m,i,l⟩ ⟨hb,k,hk,rfl,rfl,rfl⟩
 have hb:64<=b.length:=hb
 have hl:(wl ((words b).take k)).length=k:=by rw[rO,cU,fo];omega
 by_cases h:k < 16
 ·left
  refine⟨(b,k+1,((k+1:Nat):Int),wl ((words b).take (k+1))),⟨hb,k+1,by omega,rfl,rfl,rfl⟩,by simp only;omega,rfl,λkn kx=> ?_⟩
  rw[cG.L0.step]
  simp(disch:=omega) only[↓S1,↓if_pos,↓if_neg,if_pos,if_neg,if_true,if_false,S2,hl,bz (Nat.le_of_eq hl)]
  rw[List.take_succ_eq_append_getElem (by rw[fo];exact h)]
  simp only[Je,xO,mR,wl,iD,bR,fT]
  have e:(words b)[k]'(by rw[fo];exact h)=be b k:=by simp[words]
  rw[e,O6 b k (by omega)]
  rfl
 ·right
  obtain rfl:k=16:=by omega
  intro R kn kx
  rw[cG.L0.step]
  simp(disch:=omega) only[↓S1,↓if_pos,↓if_neg,if_pos,if_neg,if_true,if_false,S2,bE,cG.L0.F]
  rw[bz (by rw[fo];omega)]
theorem cG.L1.ok:(cG.lE 1 cG.L1):=by
 refine(cG.mr 1 cG.L1) (λ(m,i,l)=>64 - m) ?_
 rintro⟨m,i,l⟩ ⟨ws,h1,h2,rfl,rfl,rfl⟩
 have hl:=rO ws
 by_cases h:ws.length < 64
 ·left
  refine⟨(ws.length+1,((ws.length+1:Nat):Int),wl (ext ws)),⟨ext ws,by rw[pz];omega,by rw[pz];omega,rfl,by rw[pz],by rw[pz]⟩,by simp only;omega,?_,λkn kx=> ?_⟩
  ·simp only[bE,cG.L1.F,ur,rO,pz]
   rw[JA,show 64 - (ws.length+1)+1=64 - ws.length by omega]
  ·rw[cG.L1.step]
   simp(disch:=omega) only[↓S1,↓if_pos,↓if_neg,if_pos,if_neg,if_true,if_false,S2,hl,aO,lh,cK,zD ws _ (by omega:ws.length - 15 < ws.length),zD ws _ (by omega:ws.length - 2 < ws.length),zD ws _ (by omega:ws.length - 16 < ws.length),zD ws _ (by omega:ws.length - 7 < ws.length),fR.at,mR,u7,tF,bz (Nat.le_of_eq hl)]
   unfold ext wl
   rw[iD]
   rfl
 ·right
  have w6:ws.length=64:=by omega
  intro R kn kx
  rw[cG.L1.step]
  simp(disch:=omega) only[↓S1,↓if_pos,↓if_neg,if_pos,if_neg,if_true,if_false,S2,bE,cG.L1.F,hl,w6,ur,Nat.sub_self]
  rfl
theorem cG.ok:cG.Ok:=by
 intro b hb
 have p1:cG.L0.aU (b,0,0,[]):=⟨hb,0,by omega,rfl,rfl,rfl⟩
 have p2:cG.L1.aU (16,16,wl (words b)):=⟨words b,by rw[fo];omega,by rw[fo];omega,rfl,by rw[fo],by rw[fo];rfl⟩
 have hs:(sched b).length=64:=by unfold sched;rw[sK,fo]
 rw[cG.eq]
 simp(disch:=omega) only[↓S1,↓if_pos,↓if_neg,if_pos,if_neg,if_true,if_false,S2,cG.L0.run p1,bE,cG.L0.F,cG.L1.run p2,bE,cG.L1.F,ur,rO,fo,aO,Nat.reduceSub]
 have e:M9 (words b) 48=sched b:=rfl
 rw[e,hs,if_pos (ay _)]
 unfold cut
 rw[aI,bz (by rw[rO];omega)]
 simp only[bE,cG.F]
theorem cG.run:cG.RS:=rE [.d tB] cG
def cG.sg:=cG.fS cG.ok 2 ⟨.hZ cG.L0.ok,⟨.hZ cG.L1.ok,trivial⟩⟩
abbrev bW.L0.D:=(List Int)×(List Int)×(List Int)×Nat×Int×(List Int)
abbrev bW.L0.Y:=Nat×(List Int)
abbrev bW.L0.X:=((List Int))×(Nat×(List Int))
def bW.L0.add:bW.L0.D->bW.L0.Y->bW.L0.X:=λ(tv,wv,kv,vL,i,n18) y=>(tv,y)
abbrev bW.L1.D:=(List Int)×Nat×Int×(List Int)
abbrev bW.L1.Y:=(List Int)
abbrev bW.L1.X:=(Nat)×((List Int))
def bW.L1.add:bW.L1.D->bW.L1.Y->bW.L1.X:=λ(I6,E5,fY,wB) y=>(E5,y)
abbrev bW.D:=(List Int)×Bs
abbrev bW.Y:=(List Int)
def bW.L0.aU:bW.L0.D->Prop:=λ(h,wv,kv,m,i,l)=>∃(s:St) (ws:List W) (k:Nat),h=s.l/\wv=wl ws/\ws.length=64/\k<=64/\i=k/\kv=ze/\m=8/\l=(rounds ws s k).l
def bW.L0.F:bW.L0.D->bW.L0.Y:=λ(h,wv,kv,m,i,l)=>(8,(rounds (MU wv) (E0 h) 64).l)
def bW.L1.aU:bW.L1.D->Prop:=λ(h,m,i,l)=>h.length=8/\l.length=8/\m=8/\∃k:Nat,k<=8/\i=k
def bW.L1.F:bW.L1.D->bW.L1.Y:=λ(h,m,i,l)=>from_ (λi x=>bt .u32 x (nth (.int .u32) h i)) i.toNat l
def bW.aU:bW.D->Prop:=λ(h,b)=>(∃s:St,h=s.l)/\64<=b.length
def bW.F:bW.D->bW.Y:=λ(h,b)=>(zh (E0 h) b).l
def bW.L0:Ls bW.L0.aU bW.L0.add bW.L0.F:=pG (λ(tv,wv,kv,vL,i,n18)=>⟨([.d (.slice (.int .u32)) tv]++bj 4 ([.d (.slice (.int .u32)) wv,.d (.slice (.int .u32)) kv,.cP (.new 18 0) 0 [] 0 0 vL,.d ti i]++bj 146 [])),[],(cg 18 ([[.obj 0 false (.vec 255 (.int .u32) n18)]]++cg 136 []))⟩) (λx=>(.exit 0,⟨([.d (.slice (.int .u32)) x.1]++bj 6 ([.cP (.new 18 0) 0 [] 0 0 x.2.1]++bj 147 [])),[],(cg 18 ([[.obj 0 false (.vec 255 (.int .u32) x.2.2)]]++cg 136 []))⟩))
def bW.L1:Ls bW.L1.aU bW.L1.add bW.L1.F:=pG (λ(I6,E5,fY,wB)=>⟨([.d (.slice (.int .u32)) I6]++bj 6 ([.cP (.new 18 0) 0 [] 0 0 E5]++bj 6 ([.d ti fY]++bj 140 []))),[],(cg 18 ([[.obj 0 false (.vec 255 (.int .u32) wB)]]++cg 136 []))⟩) (λx=>(.exit 2,⟨(bj 7 ([.cP (.new 18 0) 0 [] 0 0 x.1]++bj 147 [])),[],(cg 18 ([[.obj 0 false (.vec 255 (.int .u32) x.2)]]++cg 136 []))⟩))
def bW:Fs Tryz.prog bW.aU bE bW.F:=fK 264 Tryz.f264 (λ(h,b)=>([.d (.slice (.int .u32)) h,.d tB b],[])) (λx=>⟨.d (.slice (.int .u32)) x,[],[]⟩) [some (.slice (.int .u32)),some tB] [cG.sg,lZ.sg,fR.sg] {bU:=[18,137],loops:=oM [(5,{bm:=[0,5,6,7,8],sites:=[18,137],owns:=[⟨7,[],18,0⟩]}),(14,{bm:=[0,7,14],sites:=[18]})],outs:=oL [(5,{bm:=[0,7],sites:=[18]},{bm:=[4]}),(14,{bm:=[7],sites:=[18]},{bm:=[4]})],iA:=pq [(5,bW.L0.E),(14,bW.L1.E)],res:=[some (.slice (.int .u32))]}
theorem bW.L0.run:bW.L0.RS:=rL [.d (.slice (.int .u32)),.d (.slice (.int .u32)),.d (.slice (.int .u32)),.n,.d ti,.d (.slice (.int .u32))] bW.L0
theorem bW.L0.step{R:Type}(tv wv kv vL i n18)(kn:K2 R)(kx:K3 R):bW.R 0 bW.L0 (tv,wv,kv,vL,i,n18) kn kx=
  aJ ((ik i 64)) (
   aJ (eY 4 ((vL:Nat):Int)) (
   aJ (decide (4 < (List.length n18))) (
   av (fR.call ((nth (.int .u32) n18 4),6)) λx1=>
   aJ (eY 4 ((vL:Nat):Int)) (
   aJ (decide (4 < (List.length n18))) (
   av (fR.call ((nth (.int .u32) n18 4),11)) λx2=>
   aJ (eY 4 ((vL:Nat):Int)) (
   aJ (decide (4 < (List.length n18))) (
   av (fR.call ((nth (.int .u32) n18 4),25)) λx3=>
   aJ (eY 4 ((vL:Nat):Int)) (
   aJ (decide (4 < (List.length n18))) (
   aJ (eY 5 ((vL:Nat):Int)) (
   aJ (decide (5 < (List.length n18))) (
   aJ (eY 4 ((vL:Nat):Int)) (
   aJ (decide (4 < (List.length n18))) (
   aJ (eY 6 ((vL:Nat):Int)) (
   aJ (decide (6 < (List.length n18))) (
   aJ (eY 7 ((vL:Nat):Int)) (
   aJ (decide (7 < (List.length n18))) (
   aJ (eY i (kv.length:Int)) (
   aJ (eY i (wv.length:Int)) (
   aJ (eY 0 ((vL:Nat):Int)) (
   aJ (decide (0 < (List.length n18))) (
   av (fR.call ((nth (.int .u32) n18 0),2)) λx4=>
   aJ (eY 0 ((vL:Nat):Int)) (
   aJ (decide (0 < (List.length n18))) (
   av (fR.call ((nth (.int .u32) n18 0),13)) λx5=>
   aJ (eY 0 ((vL:Nat):Int)) (
   aJ (decide (0 < (List.length n18))) (
   av (fR.call ((nth (.int .u32) n18 0),22)) λx6=>
   aJ (eY 0 ((vL:Nat):Int)) (
   aJ (decide (0 < (List.length n18))) (
   aJ (eY 1 ((vL:Nat):Int)) (
   aJ (decide (1 < (List.length n18))) (
   aJ (eY 0 ((vL:Nat):Int)) (
   aJ (decide (0 < (List.length n18))) (
   aJ (eY 2 ((vL:Nat):Int)) (
   aJ (decide (2 < (List.length n18))) (
   aJ (eY 1 ((vL:Nat):Int)) (
   aJ (decide (1 < (List.length n18))) (
   aJ (eY 2 ((vL:Nat):Int)) (
   aJ (decide (2 < (List.length n18))) (
   aJ (eY 0 ((vL:Nat):Int)) (
   aJ (decide (0 < (List.length n18))) (
   aJ (eY 1 ((vL:Nat):Int)) (
   aJ (decide (1 < (List.length n18))) (
   aJ (eY 2 ((vL:Nat):Int)) (
   aJ (decide (2 < (List.length n18))) (
   aJ (eY 3 ((vL:Nat):Int)) (
   aJ (decide (3 < (List.length n18))) (
   aJ (eY 4 ((vL:Nat):Int)) (
   aJ (decide (4 < (List.length n18))) (
   aJ (eY 5 ((vL:Nat):Int)) (
   aJ (decide (5 < (List.length n18))) (
   aJ (eY 6 ((vL:Nat):Int)) (
   aJ (decide (6 < (List.length n18))) (
   kn (bW.L0.st (tv,wv,kv,8,(bt .i64 i 1),[(bt .u32 (bt .u32 (bt .u32 (bt .u32 (bt .u32 (bt .u32 (nth (.int .u32) n18 7) (cW .xor .u32 (cW .xor .u32 x1 x2) x3)) (cW .xor .u32 (cW .and .u32 (nth (.int .u32) n18 4) (nth (.int .u32) n18 5)) (cW .and .u32 (NL .u32 (nth (.int .u32) n18 4)) (nth (.int .u32) n18 6)))) (nth (.int .u32) kv (Int.toNat i))) (nth (.int .u32) wv (Int.toNat i))) (cW .xor .u32 (cW .xor .u32 x4 x5) x6)) (cW .xor .u32 (cW .xor .u32 (cW .and .u32 (nth (.int .u32) n18 0) (nth (.int .u32) n18 1)) (cW .and .u32 (nth (.int .u32) n18 0) (nth (.int .u32) n18 2))) (cW .and .u32 (nth (.int .u32) n18 1) (nth (.int .u32) n18 2)))),(nth (.int .u32) n18 0),(nth (.int .u32) n18 1),(nth (.int .u32) n18 2),(bt .u32 (nth (.int .u32) n18 3) (bt .u32 (bt .u32 (bt .u32 (bt .u32 (nth (.int .u32) n18 7) (cW .xor .u32 (cW .xor .u32 x1 x2) x3)) (cW .xor .u32 (cW .and .u32 (nth (.int .u32) n18 4) (nth (.int .u32) n18 5)) (cW .and .u32 (NL .u32 (nth (.int .u32) n18 4)) (nth (.int .u32) n18 6)))) (nth (.int .u32) kv (Int.toNat i))) (nth (.int .u32) wv (Int.toNat i)))),(nth (.int .u32) n18 4),(nth (.int .u32) n18 5),(nth (.int .u32) n18 6)]))) none) none) none) none) none) none) none) none) none) none) none) none) none) none) none) none) none) none) none) none) none) none) none) none) none) none) none) none) none) none) none) none) none) none) none) none) none) none) none) none) none) none) none) none) none) none) none) none) none) none) (
   bW.L0.go kx (tv,(vL,n18))):=by kernel_rfl
theorem bW.L1.run:bW.L1.RS:=rL [.d (.slice (.int .u32)),.n,.d ti,.d (.slice (.int .u32))] bW.L1
theorem bW.L1.step{R:Type}(I6 E5 fY wB)(kn:K2 R)(kx:K3 R):bW.R 1 bW.L1 (I6,E5,fY,wB) kn kx=
  aJ ((ik fY 8)) (
   aJ (eY fY ((E5:Nat):Int)) (
   aJ (decide ((0+(Int.toNat fY)) < (List.length wB))) (
   aJ (decide ((((0+(Int.toNat fY))*1)+0)=(0+((Int.toNat fY)*1)))) (
   aJ (eY fY (I6.length:Int)) (
   aJ (eY fY ((E5:Nat):Int)) (
   aJ (decide ((0+(Int.toNat fY)) < (List.length wB))) (
   aJ (decide ((((0+(Int.toNat fY))*1)+0)=(0+((Int.toNat fY)*1)))) (
   aJ (decide ((0+(Int.toNat fY)) < (List.length wB))) (
   kn (bW.L1.st (I6,E5,(bt .i64 fY 1),(List.set wB (0+(Int.toNat fY)) (bt .u32 (nth (.int .u32) wB (0+(Int.toNat fY))) (nth (.int .u32) I6 (Int.toNat fY))))))) none) none) none) none) none) none) none) none) (
   bW.L1.go kx (E5,wB)):=by kernel_rfl
theorem bW.eq{R:Type}(h b)(k:K1 R):bW.A (h,b) k=
 av (cG.call b) λx1=>
 av (lZ.call ()) λx2=>
 aJ (dG (0+(List.length h)) 4) (
 av (bW.L0.call (h,x1,x2,(0+(List.length h)),0,((List.take 0 (List.replicate 0 0))++h))) λQy=>
 av (bW.L1.call (Qy.1,Qy.2.1,0,Qy.2.2)) λHn=>
 aJ (decide (0=0/\(0+Hn.1)<=(List.length Hn.2))) (
 k (bW.out (cut Hn.2 0 Hn.1))) none) none:=by kernel_rfl
theorem LV(w:W):NL .u32 (vw w)=vw (~~~w):=by
 have e:(if IntKind.u32.signed then -1 else IntKind.u32.max:Int)=vw (BitVec.allOnes 32):=rfl
 unfold NL
 rw[e,mR]
 simp only[BitVec.allOnes_xor]
theorem Rf(e f g:W):(e &&& f)^^^(~~~e &&& g)=g^^^(e &&& (f^^^g)):=by
 ext i hi
 simp only[BitVec.getElem_xor,BitVec.getElem_and,BitVec.getElem_not]
 cases e[i] <;> cases f[i] <;> cases g[i] <;> rfl
theorem Qa(a b c:W):(a &&& b)^^^(a &&& c)^^^(b &&& c)=(a &&& b) ||| (c &&& (a ||| b)):=by
 ext i hi
 simp only[BitVec.getElem_xor,BitVec.getElem_and,BitVec.getElem_or]
 cases a[i] <;> cases b[i] <;> cases c[i] <;> rfl
theorem bW.L0.ok:(bW.lE 0 bW.L0):=by
 refine(bW.mr 0 bW.L0) (λ(h,wv,kv,m,i,l)=>64 - i.toNat) ?_
 rintro⟨h,wv,kv,m,i,l⟩ ⟨s,ws,k,rfl,rfl,hw,hk,rfl,rfl,rfl,rfl⟩
 by_cases jt:k < 64
 ·left
  refine⟨(s.l,wl ws,ze,8,((k+1:Nat):Int),(rounds ws s (k+1)).l),⟨s,ws,k+1,rfl,rfl,hw,by omega,rfl,rfl,rfl,rfl⟩,by simp only;omega,rfl,λkn kx=> ?_⟩
  rw[bW.L0.step]
  generalize hv:rounds ws s k=v
  have t1:∀w:W,fR.call (vw w,6)=some (vw (pL w 6)):=λw=>fR.at w (by omega)
  have t2:∀w:W,fR.call (vw w,11)=some (vw (pL w 11)):=λw=>fR.at w (by omega)
  have t3:∀w:W,fR.call (vw w,25)=some (vw (pL w 25)):=λw=>fR.at w (by omega)
  have t4:∀w:W,fR.call (vw w,2)=some (vw (pL w 2)):=λw=>fR.at w (by omega)
  have t5:∀w:W,fR.call (vw w,13)=some (vw (pL w 13)):=λw=>fR.at w (by omega)
  have t6:∀w:W,fR.call (vw w,22)=some (vw (pL w 22)):=λw=>fR.at w (by omega)
  rw[n0,n1,n2,n3,n4,n5,n6,n7,t1,ab,t2,ab,t3,ab,t4,ab,t5,ab,t6,ab]
  simp(disch:=omega) only[↓S1,↓if_pos,↓if_neg,if_pos,if_neg,if_true,if_false,S2,St.Gh,zT,rO,hw,Gg k jt,zD ws k (by omega),mR,tF,LV,Rf,Qa]
  show kn _=kn (bW.L0.st (s.l,wl ws,ze,8,((k+1:Nat):Int),(mr (rounds ws s k) (kw k) (ws.getD k 0)).l))
  rw[hv]
  rfl
 ·right
  obtain rfl:k=64:=by omega
  intro R kn kx
  rw[bW.L0.step]
  simp(disch:=omega) only[↓S1,↓if_pos,↓if_neg,if_pos,if_neg,if_true,if_false,S2,bW.L0.add,bW.L0.F,ur,mg]
theorem bW.L1.ok:(bW.lE 1 bW.L1):=by
 refine(bW.mr 1 bW.L1) (λ(h,m,i,l)=>8 - i.toNat) ?_
 rintro⟨h,m,i,l⟩ ⟨hh,hl,rfl,k,hk,rfl⟩
 have hl:l.length=8:=hl
 have hh:h.length=8:=hh
 by_cases jt:k < 8
 ·left
  have hn:nth (.int .u32) l k=l[k]:=dg (t:= .int .u32) (by omega)
  refine⟨(h,8,((k+1:Nat):Int),l.set k (bt .u32 l[k] (nth (.int .u32) h k))),⟨hh,by simpa using hl,rfl,k+1,by omega,rfl⟩,by simp only;omega,?_,λkn kx=> ?_⟩
  ·simp only[bW.L1.add,bW.L1.F,aa]
   rw[vK (λi x=>bt .u32 x (nth (.int .u32) h i)) l k (by omega)]
  ·rw[bW.L1.step]
   simp(disch:=omega) only[↓S1,↓if_pos,↓if_neg,if_pos,if_neg,if_true,if_false,S2,hl,hh,aO,lh,cK,hn]
 ·right
  obtain rfl:k=8:=by omega
  intro R kn kx
  rw[bW.L1.step]
  simp(disch:=omega) only[↓S1,↓if_pos,↓if_neg,if_pos,if_neg,if_true,if_false,S2,bW.L1.add,bW.L1.F]
  rw[xH _ _ _ (by omega)]
theorem Qb(s:St)(b:List Int):from_ (λi x=>bt .u32 x (nth (.int .u32) s.l i)) 0 (rounds (sched b) s 64).l=(zh s b).l:=by
 unfold zh
 generalize rounds (sched b) s 64=v
 obtain⟨a1,b1,c1,d1,f1,g1,h1,i1⟩:=v
 simp only[St.l,from_,List.mapIdx_cons,List.mapIdx_nil,Nat.not_lt_zero,if_false,aO,Nat.reduceAdd]
 simp only[nth,jv,nf,tF]
theorem bW.ok:bW.Ok:=by
 rintro⟨h,b⟩ ⟨⟨s,rfl⟩,hb⟩
 have p0:cG.aU b:=hb
 have Jd:(sched b).length=64:=by unfold sched;rw[sK,fo]
 have p1:bW.L0.aU (s.l,wl (sched b),ze,8,0,s.l):=⟨s,sched b,0,rfl,rfl,Jd,by omega,rfl,rfl,rfl,rfl⟩
 have p2:bW.L1.aU (s.l,8,0,(rounds (sched b) s 64).l):=⟨rfl,rfl,rfl,0,by omega,rfl⟩
 have e0:0+s.l.length=8:=rfl
 have e1:List.take 0 (List.replicate 0 (0:Int))++s.l=s.l:=rfl
 rw[bW.eq]
 simp(disch:=omega) only[↓S1,↓if_pos,↓if_neg,if_pos,if_neg,if_true,if_false,S2,cG.run p0,bE,cG.F,lZ.run (d:=()) trivial,bE,lZ.F,e0,e1,bW.L0.run p1,bW.L0.add,bW.L0.F,ur,mg,bW.L1.run p2,bW.L1.add,bW.L1.F,bH,Qb]
 have e2:(zh s b).l.length=8:=rfl
 have e3:cut (zh s b).l 0 8=(zh s b).l:=rfl
 simp only[e2,aO,ay,if_true,e3,bE,bW.F,mg]
theorem bW.run:bW.RS:=rE [.d (.slice (.int .u32)),.d tB] bW
def bW.sg:=bW.fS bW.ok 2 ⟨.hZ bW.L0.ok,⟨.hZ bW.L1.ok,trivial⟩⟩
abbrev dW.L0.D:=Bs×(List Int)×Int×Bs
abbrev dW.L0.Y:=(List Int)
abbrev dW.L0.X:=(Bs)×((List Int))
def dW.L0.add:dW.L0.D->dW.L0.Y->dW.L0.X:=λ(p,h,i,n2) y=>(n2,y)
abbrev dW.L1.D:=(List Int)×Int×Bs×Bs
abbrev dW.L1.Y:=Bs
abbrev dW.L1.X:=(Bs)×(Bs)
def dW.L1.add:dW.L1.D->dW.L1.Y->dW.L1.X:=λ(tv,fY,mE,n6) y=>(mE,y)
abbrev dW.D:=Bs
abbrev dW.Y:=Bs
def dW.L0.aU:dW.L0.D->Prop:=λ(p,h,i,n2)=>p.length%64=0/\p.length<=140737488355328/\∃(s:St) (k:Nat),h=s.l/\i=((64*k:Nat):Int)/\64*k<=p.length
def dW.L0.F:dW.L0.D->dW.L0.Y:=λ(p,h,i,n2)=>(blocks (E0 h) (p.drop i.toNat)).l
def dW.L1.aU:dW.L1.D->Prop:=λ(h,i,n2,l)=>h.length=8/\l.length=32/\∃k:Nat,k<=32/\i=k
def dW.L1.F:dW.L1.D->dW.L1.Y:=λ(h,i,n2,l)=>from_ (wk h) i.toNat l
def dW.aU:dW.D->Prop:=λb=>b.length<=140737488350000
def dW.F:dW.D->dW.Y:=λb=>Qo b
def dW.L0:Ls dW.L0.aU dW.L0.add dW.L0.F:=pG (λ(p,h,i,n2)=>⟨([.undef,.undef,.ptr (.new 2 0) 0 [] 0,.d tB p,.d (.slice (.int .u32)) h,.d ti i]++bj 36 []),[],([[],[],[.obj 0 false (.d tH n2)]]++cg 39 [])⟩) (λx=>(.exit 0,⟨([.undef,.undef,.ptr (.new 2 0) 0 [] 0,.undef,.d (.slice (.int .u32)) x.2]++bj 37 []),[],([[],[],[.obj 0 false (.d tH x.1)]]++cg 39 [])⟩))
def dW.L1:Ls dW.L1.aU dW.L1.add dW.L1.F:=pG (λ(tv,fY,mE,n6)=>⟨([.undef,.undef,.ptr (.new 2 0) 0 [] 0,.undef,.d (.slice (.int .u32)) tv,.undef,.ptr (.new 6 0) 0 [] 0,.d ti fY]++bj 34 []),[],([[],[],[.obj 0 false (.d tH mE)],[],[],[],[.obj 0 false (.d tH n6)]]++cg 35 [])⟩) (λx=>(.exit 2,⟨([.undef,.undef,.ptr (.new 2 0) 0 [] 0,.undef,.undef,.undef,.ptr (.new 6 0) 0 [] 0]++bj 35 []),[],([[],[],[.obj 0 false (.d tH x.1)],[],[],[],[.obj 0 false (.d tH x.2)]]++cg 35 [])⟩))
def dW:Fs Tryz.prog dW.aU bE dW.F:=fK 219 Tryz.f219 (λb=>([.d tB b],[])) (λx=>⟨.d tH x,[],[]⟩) [some tB] [bI.sg,gR.sg,bW.sg] {loops:=oM [(4,{bm:=[2,3,4,5],sites:=[2]}),(9,{bm:=[2,4,6,7],sites:=[2,6]})],outs:=oL [(4,{bm:=[2,4],sites:=[2]},{bm:=[2]}),(9,{bm:=[2,6],sites:=[2,6]},{bm:=[2]})],iA:=pq [(4,dW.L0.E),(9,dW.L1.E)]}
theorem dW.L0.run:dW.L0.RS:=rL [.d tB,.d (.slice (.int .u32)),.d ti,.d tB] dW.L0
theorem dW.L0.step{R:Type}(p h i n2)(kn:K2 R)(kx:K3 R):dW.R 0 dW.L0 (p,h,i,n2) kn kx=
  aJ ((ik i (p.length:Int))) (
   aJ (inc (bt .i64 i 64) (p.length:Int)) (
   aJ (inc i (((Int.toNat (bt .i64 i 64)):Nat):Int)) (
   av (bW.call (h,(cut p (Int.toNat i) ((Int.toNat (bt .i64 i 64)) - (Int.toNat i))))) λx1=>
   kn (dW.L0.st (p,x1,(bt .i64 i 64),n2))) none) none) (
   dW.L0.go kx (n2,h)):=by kernel_rfl
theorem dW.L1.run:dW.L1.RS:=rL [.d (.slice (.int .u32)),.d ti,.d tB,.d tB] dW.L1
theorem dW.L1.step{R:Type}(tv fY mE n6)(kn:K2 R)(kx:K3 R):dW.R 1 dW.L1 (tv,fY,mE,n6) kn kx=
  aJ ((ik fY 32)) (
   aJ (eY (jX .i64 fY 4) (tv.length:Int)) (
   aJ (kA (dp .i64 24 (eR .i64 8 (gv fY 4)))) (
   aJ (eY fY 32) (
   aJ (decide ((Int.toNat fY) < (List.length n6))) (
   aJ (decide ((((Int.toNat fY)*1)+0)=(0+((Int.toNat fY)*1)))) (
   aJ (decide ((Int.toNat fY) < (List.length n6))) (
   kn (dW.L1.st (tv,(bt .i64 fY 1),mE,(List.set n6 (Int.toNat fY) (dP .u8 (cr .u32 (nth (.int .u32) tv (Int.toNat (jX .i64 fY 4))) (dp .i64 24 (eR .i64 8 (gv fY 4))))))))) none) none) none) none) none) none) (
   dW.L1.go kx (mE,n6)):=by kernel_rfl
theorem dW.eq{R:Type}(b)(k:K1 R):dW.A b k=
 av (bI.call b) λx1=>
 av (gR.call ()) λx2=>
 av (dW.L0.call (x1,x2,0,(List.replicate 32 0))) λx4=>
 av (dW.L1.call (x4.2,0,x4.1,(List.replicate 32 0))) λx5=>
 k (dW.out x5.2):=by kernel_rfl
theorem dW.L0.ok:(dW.lE 0 dW.L0):=by
 refine(dW.mr 0 dW.L0) (λ(p,h,i,n2)=>p.length - i.toNat) ?_
 rintro⟨p,h,i,n2⟩ ⟨hm,hb,s,k,rfl,rfl,hk⟩
 have hm:p.length%64=0:=hm
 have hb:p.length<=140737488355328:=hb
 have hk:64*k<=p.length:=hk
 by_cases jt:64*k < p.length
 ·left
  have e1:cut p (64*k) (64*k+64 - 64*k)=(p.drop (64*k)).take 64:=by unfold cut;rw[show 64*k+64 - 64*k=64 by omega]
  have e2:(p.drop (64*k)).drop 64=p.drop (64*(k+1)):=by rw[fI];congr 1
  have e3:(64*(k+1):Nat)=64*k+64:=by omega
  have p1:bW.aU (s.l,(p.drop (64*k)).take 64):=⟨⟨s,rfl⟩,by simp;omega⟩
  refine⟨(p,(zh s ((p.drop (64*k)).take 64)).l,((64*(k+1):Nat):Int),n2),⟨hm,hb,_,k+1,rfl,rfl,by omega⟩,by simp only[aa];omega,?_,λkn kx=> ?_⟩
  ·simp only[dW.L0.add,dW.L0.F,mg,aa]
   rw[uP s (p.drop (64*k)) (by simp;omega),e2]
  ·rw[dW.L0.step]
   simp(disch:=omega) only[↓S1,↓if_pos,↓if_neg,if_pos,if_neg,if_true,if_false,S2,e1,bW.run p1,bE,bW.F,mg,e3]
 ·right
  intro R kn kx
  rw[dW.L0.step]
  simp(disch:=omega) only[↓S1,↓if_pos,↓if_neg,if_pos,if_neg,if_true,if_false,S2,dW.L0.add,dW.L0.F,mg]
  rw[tO s _ (by simp;omega)]
theorem dW.L1.ok:(dW.lE 1 dW.L1):=by
 refine(dW.mr 1 dW.L1) (λ(h,i,n2,l)=>32 - i.toNat) ?_
 rintro⟨h,i,n2,l⟩ ⟨h8,hl,k,hk,rfl⟩
 have hl:l.length=32:=hl
 have h8:h.length=8:=h8
 by_cases jt:k < 32
 ·left
  refine⟨(h,((k+1:Nat):Int),n2,l.set k (wk h k l[k])),⟨h8,by simpa using hl,k+1,by omega,rfl⟩,by simp only[aa];omega,?_,λkn kx=> ?_⟩
  ·simp only[dW.L1.add,dW.L1.F,aa]
   rw[vK (wk h) l k (by omega)]
  ·rw[dW.L1.step]
   simp(disch:=omega) only[↓S1,↓if_pos,↓if_neg,if_pos,if_neg,if_true,if_false,S2,hl,h8,lh,cK,aO,wk]
 ·right
  obtain rfl:k=32:=by omega
  intro R kn kx
  rw[dW.L1.step]
  simp(disch:=omega) only[↓S1,↓if_pos,↓if_neg,if_pos,if_neg,if_true,if_false,S2,dW.L1.add,dW.L1.F]
  rw[xH _ _ _ (by omega)]
theorem Im(b:List Int):(pad b).length%64=0/\(pad b).length<=b.length+73:=by
 unfold pad
 simp only[aj,aD,cJ,cF,sx]
 omega
theorem dW.ok:dW.Ok:=by
 intro b hb
 have hb:b.length<=140737488350000:=hb
 have p1:bI.aU b:=hb
 obtain⟨h1,h2⟩:=Im b
 have p2:dW.L0.aU (pad b,nT.l,0,List.replicate 32 0):=⟨h1,by omega,nT,0,rfl,rfl,by omega⟩
 have p3:dW.L1.aU ((blocks nT (pad b)).l,0,List.replicate 32 0,List.replicate 32 0):=⟨rfl,rfl,0,by omega,rfl⟩
 rw[dW.eq]
 simp(disch:=omega) only[↓S1,↓if_pos,↓if_neg,if_pos,if_neg,if_true,if_false,S2,bI.run p1,bE,bI.F,gR.run (d:=()) trivial,bE,gR.F,dW.L0.run p2,dW.L0.add,dW.L0.F,mg,bH,aI,dW.L1.run p3,dW.L1.add,dW.L1.F,Jp]
 rfl
theorem dW.run:dW.RS:=rE [.d tB] dW
def dW.sg:=dW.fS dW.ok 2 ⟨.hZ dW.L0.ok,⟨.hZ dW.L1.ok,trivial⟩⟩
abbrev iQ.D:=Int
abbrev iQ.Y:=Nat×(List Int)
def iQ.aU:iQ.D->Prop:=λn=>0<=n/\n < 18446744073709551616
def iQ.F:iQ.D->iQ.Y:=λn=>(8,lO n)
def iQ:Fs Tryz.prog iQ.aU bE iQ.F:=fK 218 Tryz.f218 (λn=>([.d tu n],[])) (λx=>⟨.cP (.new 0 0) 0 [] 0 0 x.1,[],[.obj 0 false (.vec 5 tb x.2)]⟩) [some tu] [] {loops:=oM [(3,{bm:=[0,3,4],sites:=[15]})],outs:=oL [(3,{bm:=[3],sites:=[15]},{bm:=[2],sites:=[15]})],owns:=[⟨2,[],15,140⟩]} 10
theorem iQ.eq{R:Type}(n)(k:K1 R):iQ.A n k=
 k (iQ.out (8,[(dP .u8 (cr .u64 n 56)),(dP .u8 (cr .u64 n 48)),(dP .u8 (cr .u64 n 40)),(dP .u8 (cr .u64 n 32)),(dP .u8 (cr .u64 n 24)),(dP .u8 (cr .u64 n 16)),(dP .u8 (cr .u64 n 8)),(dP .u8 (cr .u64 n 0))])):=by kernel_rfl
theorem iQ.ok:iQ.Ok:=by
 intro n _
 have e:∀k:Nat,k<=64->dP .u8 (cr .u64 n (k:Int))=n / 2^k%256:=λk hk=>Cz n k hk
 rw[iQ.eq]
 have e56:dP .u8 (cr .u64 n 56)=n / 2^56%256:=e 56 (by omega)
 have e48:dP .u8 (cr .u64 n 48)=n / 2^48%256:=e 48 (by omega)
 have e40:dP .u8 (cr .u64 n 40)=n / 2^40%256:=e 40 (by omega)
 have e32:dP .u8 (cr .u64 n 32)=n / 2^32%256:=e 32 (by omega)
 have e24:dP .u8 (cr .u64 n 24)=n / 2^24%256:=e 24 (by omega)
 have e16:dP .u8 (cr .u64 n 16)=n / 2^16%256:=e 16 (by omega)
 have e8:dP .u8 (cr .u64 n 8)=n / 2^8%256:=e 8 (by omega)
 have e0:=e 0 (by omega)
 rw[e56,e48,e40,e32,e24,e16,e8]
 have e0:dP .u8 (cr .u64 n 0)=n%256:=by rw[show(0:Int)=((0:Nat):Int) from rfl,e0];simp
 rw[e0]
 rfl
theorem iQ.run:iQ.RS:=rE [.d tu] iQ
def iQ.sg:=iQ.fS iQ.ok 1 ⟨.none (by kernel_rfl),trivial⟩
abbrev fO.L0.D:=(List Bs)×Nat×Int×Bs×(List Int)
abbrev fO.L0.Y:=Nat×(List Int)
abbrev fO.L0.X:=(Bs)×(Nat×(List Int))
def fO.L0.add:fO.L0.D->fO.L0.Y->fO.L0.X:=λ(nI,bL,i,n4,n11) y=>(n4,y)
abbrev fO.D:=ByteArray×(List Bs)
abbrev fO.Y:=Bs
def fO.L0.aU:fO.L0.D->Prop:=λ(ps,m,i,n4,l)=>m=l.length/\∃k:Nat,k<=ps.length/\ps.length<=140737488350000/\i=k/\l.length+(mu (ps.drop k)).length<=140737488350000
def fO.L0.F:fO.L0.D->fO.L0.Y:=λ(ps,m,i,n4,l)=>(l.length+(mu (ps.drop i.toNat)).length,l++mu (ps.drop i.toNat))
def fO.aU:fO.D->Prop:=λ(name,ps)=>(zz (bC name) ps).length<=140737488350000
def fO.F:fO.D->fO.Y:=λ(name,ps)=>tag (bC name) ps
def fO.L0:Ls fO.L0.aU fO.L0.add fO.L0.F:=pG (λ(nI,bL,i,n4,n11)=>⟨([.undef,.d (.slice tB) nI,.undef,.undef,.ptr (.new 4 0) 0 [] 0,.cP (.new 11 0) 0 [] 0 0 bL,.d ti i]++bj 32 []),[],(cg 4 ([[.obj 0 false (.d tH n4)]]++cg 6 ([[.obj 0 false (.vec 5 tb n11)]]++cg 27 [])))⟩) (λx=>(.exit 0,⟨(bj 4 ([.ptr (.new 4 0) 0 [] 0,.cP (.new 11 0) 0 [] 0 0 x.2.1]++bj 33 [])),[],(cg 4 ([[.obj 0 false (.d tH x.1)]]++cg 6 ([[.obj 0 false (.vec 5 tb x.2.2)]]++cg 27 [])))⟩))
def fO:Fs Tryz.prog fO.aU bE fO.F:=fK 161 Tryz.f161 (λ(name,parts)=>([.d .str name,.d (.slice tB) parts],[])) (λx=>⟨.d tH x,[],[]⟩) [some .str,some (.slice tB)] [iQ.sg,dW.sg] {loops:=oM [(3,{bm:=[1,4,5,6],sites:=[4,11],owns:=[⟨5,[],11,140⟩]})],outs:=oL [(3,{bm:=[4,5],sites:=[4,11]},{bm:=[4]})],iA:=pq [(3,fO.L0.E)]}
theorem fO.L0.run:fO.L0.RS:=rL [.d (.slice tB),.n,.d ti,.d tB,.d tB] fO.L0
theorem fO.L0.step{R:Type}(nI bL i n4 n11)(kn:K2 R)(kx:K3 R):fO.R 0 fO.L0 (nI,bL,i,n4,n11) kn kx=
  aJ ((ik i (nI.length:Int))) (
   aJ (eY i (nI.length:Int)) (
   av (iQ.call (dP .u64 (((List.length (nth tB nI (Int.toNat i))):Nat):Int))) λx1=>
   aJ (decide (0=0/\(0+x1.1)<=(List.length x1.2))) (
   aJ (decide (bL<=(List.length n11))) (
   aJ (dG (bL+(List.length (cut x1.2 0 x1.1))) 1) (
   aJ (eY i (nI.length:Int)) (
   aJ (decide ((bL+(List.length (cut x1.2 0 x1.1)))<=(List.length ((List.take bL n11)++(cut x1.2 0 x1.1))))) (
   aJ (dG ((bL+(List.length (cut x1.2 0 x1.1)))+(List.length (nth tB nI (Int.toNat i)))) 1) (
   kn (fO.L0.st (nI,((bL+(List.length (cut x1.2 0 x1.1)))+(List.length (nth tB nI (Int.toNat i)))),(bt .i64 i 1),n4,((List.take (bL+(List.length (cut x1.2 0 x1.1))) ((List.take bL n11)++(cut x1.2 0 x1.1)))++(nth tB nI (Int.toNat i)))))) none) none) none) none) none) none) none) (
   fO.L0.go kx (n4,(bL,n11))):=by kernel_rfl
theorem fO.eq{R:Type}(name parts)(k:K1 R):fO.A (name,parts) k=
 av (iQ.call (dP .u64 (((ByteArray.size name):Nat):Int))) λx1=>
 aJ (decide (x1.1<=(List.length x1.2))) (
 aJ (dG (x1.1+(List.length (bC name))) 1) (
 av (fO.L0.call (parts,(x1.1+(List.length (bC name))),0,(List.replicate 32 0),((List.take x1.1 x1.2)++(bC name)))) λx4=>
 aJ (decide (0=0/\(0+x4.2.1)<=(List.length x4.2.2))) (
 av (dW.call (cut x4.2.2 0 x4.2.1)) λx5=>
 k (fO.out x5)) none) none) none:=by kernel_rfl
theorem Jx{n:Nat}(h:n < 18446744073709551616):dP .u64 ((n:Nat):Int)=n:=by rw[AI,hM];omega
theorem iQ.at{n:Nat}(h:n < 18446744073709551616):iQ.call (n:Int)=some (8,lO (n:Int)):=iQ.run (d:=(n:Int)) (show 0<=(n:Int)/\(n:Int) < 18446744073709551616 from⟨by omega,by omega⟩)
theorem Rg{l:List Int}{n:Nat}(h:l.length=n):cut l 0 n=l:=by unfold cut;rw[aI,bz (by omega)]
theorem fO.L0.ok:(fO.lE 0 fO.L0):=by
 refine(fO.mr 0 fO.L0) (λ(ps,m,i,n4,l)=>ps.length - i.toNat) ?_
 rintro⟨ps,m,i,n4,l⟩ ⟨rfl,k,hk,xw,rfl,hl⟩
 have hk:k<=ps.length:=hk
 have xw:ps.length<=140737488350000:=xw
 have hl:l.length+(mu (ps.drop k)).length<=140737488350000:=hl
 by_cases h:k < ps.length
 ·left
  have ht:=D0 ps k h
  have hlen:(mu (ps.drop k)).length=8+ps[k].length+(mu (ps.drop (k+1))).length:=by rw[ht];simp only[aj,cF]
  have hn:nth (.slice (.int .u8)) ps k=ps[k]:=dg (t:= .slice (.int .u8)) h
  have OB:(l++lO (ps[k].length:Int)).length=l.length+8:=by simp[cF]
  refine⟨(ps,(l++lO ps[k].length++ps[k]).length,((k+1:Nat):Int),n4,l++lO ps[k].length++ps[k]),⟨rfl,k+1,by omega,xw,rfl,?_⟩,by simp only[aa];omega,?_,λkn kx=> ?_⟩
  ·simp only[aj,cF];omega
  ·simp only[fO.L0.add,fO.L0.F,aa,ht,bk]
   simp only[aj,cF,ew]
  ·have c8:cut (lO (ps[k].length:Int)) 0 8=lO (ps[k].length:Int):=Rg (cF _)
   have w6:ps[k].length < 18446744073709551616:=by omega
   rw[fO.L0.step]
   simp(disch:=omega) only[↓S1,↓if_pos,↓if_neg,if_pos,if_neg,if_true,if_false,S2,hn,Jx w6,iQ.at w6,cF,c8,bY,OB,aO,ay,and_self,if_true]
   rw[bz (by rw[OB];omega)]
   simp only[aj,cF,ew]
 ·right
  obtain rfl:k=ps.length:=by omega
  intro R kn kx
  rw[fO.L0.step]
  simp(disch:=omega) only[↓S1,↓if_pos,↓if_neg,if_pos,if_neg,if_true,if_false,S2,fO.L0.add,fO.L0.F,aQ]
  simp[mu]
theorem fO.ok:fO.Ok:=by
 rintro⟨name,ps⟩ hp
 have hp:(lO (bC name).length++bC name++mu ps).length<=140737488350000:=hp
 have hl:(lO (bC name).length++bC name++mu ps).length=8+(bC name).length+(mu ps).length:=by simp only[aj,cF]
 have xw:=Cv ps
 have oG:name.size=(bC name).length:=by rw[kh]
 have w6:(bC name).length < 18446744073709551616:=by omega
 have p2:fO.L0.aU (ps,8+(bC name).length,0,List.replicate 32 0,lO ((bC name).length:Int)++bC name):=by
  refine⟨by simp only[aj,cF],0,aV _,by omega,rfl,?_⟩
  rw[aI]
  simp only[aj,cF]
  omega
 rw[fO.eq,oG]
 simp(disch:=omega) only[↓S1,↓if_pos,↓if_neg,if_pos,if_neg,if_true,if_false,S2,Jx w6,iQ.at w6,cF,bz (Nat.le_of_eq (cF _)),fO.L0.run p2,fO.L0.add,fO.L0.F,bH,aI,aO]
 have J7:cut (lO ((bC name).length:Int)++bC name++mu ps) 0 ((lO ((bC name).length:Int)++bC name).length+(mu ps).length)=zz (bC name) ps:=Rg (by simp only[aj])
 have p3:dW.aU (zz (bC name) ps):=hp
 rw[if_pos (by simp only[aj];omega),J7,dW.run p3]
 rfl
theorem fO.run:fO.RS:=rE [.d .str,.d (.slice tB)] fO
def fO.sg:=fO.fS fO.ok 1 ⟨.hZ fO.L0.ok,trivial⟩
theorem yG{n:Int}(h1:0<=n)(h2:n < 18446744073709551616):IntKind.u64.wrap n=n:=by
 rw[wrap_u64,hM];omega
theorem yF(n:Int):IntKind.u64.wrap n=n%18446744073709551616:=by
 rw[wrap_u64,hM];rfl
theorem iJ(x y:Int):bt .u64 x y=(x+y)%18446744073709551616:=yF _
theorem AK(x y:Int):dp .u64 x y=(x - y)%18446744073709551616:=yF _
theorem nH(x y:Int):eR .u64 x y=(x*y)%18446744073709551616:=yF _
theorem tg(x:Int):dP .u64 x=x%18446744073709551616:=yF _
theorem Fv{x:Int}(h:0<=x)(h2:x < 18446744073709551616):cW .and .u64 x 4294967295=x%4294967296:=by
 obtain⟨n,rfl⟩:∃n:Nat,x=n:=⟨x.toNat,by omega⟩
 have e:(BitVec.ofInt 64 (n:Int) &&& BitVec.ofInt 64 4294967295).toNat=n%4294967296:=by
  rw[BitVec.toNat_and]
  have a:(BitVec.ofInt 64 (n:Int)).toNat=n:=by rw[j9,lA];omega
  have b:(BitVec.ofInt 64 4294967295).toNat=2^32 - 1:=by decide
  rw[a,b,iT]
 show IntKind.u64.wrap ((BitVec.ofInt 64 (n:Int) &&& BitVec.ofInt 64 4294967295).toNat:Int)=_
 rw[e,yG (by omega) (by omega)];omega
theorem Q8{x:Int}(h:0<=x)(h2:x < 18446744073709551616):cW .and .u64 x 1=x%2:=by
 obtain⟨n,rfl⟩:∃n:Nat,x=n:=⟨x.toNat,by omega⟩
 have e:(BitVec.ofInt 64 (n:Int) &&& BitVec.ofInt 64 1).toNat=n%2:=by
  rw[BitVec.toNat_and]
  have a:(BitVec.ofInt 64 (n:Int)).toNat=n:=by rw[j9,lA];omega
  have b:(BitVec.ofInt 64 1).toNat=2^1 - 1:=by decide
  rw[a,b,iT]
 show IntKind.u64.wrap ((BitVec.ofInt 64 (n:Int) &&& BitVec.ofInt 64 1).toNat:Int)=_
 rw[e,yG (by omega) (by omega)];omega
theorem pY{x k:Int}(n:Nat)(hk:k=n)(hn:n<=64):cr .u64 x k=x / 2^n:=by
 subst hk
 rw[cr]
 have e:min (Int.toNat (n:Int)) IntKind.u64.bits=n:=by simp only[IntKind.bits];omega
 rw[e,il _ (lB (qe (by omega)))]
theorem pX{x k:Int}(n:Nat)(hk:k=n)(hn:n<=64):nk .u64 x k=x*2^n%18446744073709551616:=by
 subst hk
 rw[nk,yF]
 have e:min (Int.toNat (n:Int)) IntKind.u64.bits=n:=by simp only[IntKind.bits];omega
 rw[e]
theorem yd{x y:Int}(k:Nat)(m:Int)(hm:m=2^k)(hx:x%m=0)(h0:0<=x)(h1:x < 18446744073709551616)(hy:0<=y)(QS:y < m)(h2:x+y < 18446744073709551616):cW .or .u64 x y=x+y:=by
 subst hm
 obtain⟨n,rfl⟩:∃n:Nat,x=n:=⟨x.toNat,by omega⟩
 obtain⟨j,rfl⟩:∃j:Nat,y=j:=⟨y.toNat,by omega⟩
 have hx:n%2^k=0:=by
  have:((n%2^k:Nat):Int)=0:=by rw[Int.natCast_emod];simpa using hx
  omega
 have hj:j < 2^k:=by
  have:((j:Nat):Int) < ((2^k:Nat):Int):=by simpa using QS
  omega
 obtain⟨q,rfl⟩:∃q,n=2^k*q:=⟨n / 2^k,by have:=Nat.div_add_mod n (2^k);omega⟩
 have e:(BitVec.ofInt 64 ((2^k*q:Nat):Int) ||| BitVec.ofInt 64 (j:Int)).toNat=2^k*q+j:=by
  rw[BitVec.toNat_or]
  have a:(BitVec.ofInt 64 ((2^k*q:Nat):Int)).toNat=2^k*q:=by rw[j9,lA];exact Nat.mod_eq_of_lt (by omega)
  have b:(BitVec.ofInt 64 (j:Int)).toNat=j:=by rw[j9,lA];exact Nat.mod_eq_of_lt (by omega)
  rw[a,b,Nat.two_pow_add_eq_or_of_lt hj]
 show IntKind.u64.wrap ((BitVec.ofInt 64 ((2^k*q:Nat):Int) ||| BitVec.ofInt 64 (j:Int)).toNat:Int)=_
 rw[e,yG (by omega) (by omega)];omega
theorem sW{x y:Int}(h:0<=x)(h1:0<=y)(h2:x < 18446744073709551616):jX .u64 x y=x / y:=by
 rw[jX,jR h]
 exact yG (fH h h1) (Int.lt_of_le_of_lt (Int.ediv_le_self _ h) h2)
theorem iy{x y:Int}(h:0<=x):gv x y=x%y:=by rw[gv,im h]
theorem k1{e u w r q:Int}(he:e=42260\/e=42264\/e=42272)(hu:0<=u)(Fb:u < 18446744073709551616 - e)(hw:0<=w)(K6:w < 4294967296)(hr:0<=r)(H2:r < 4294967296)
  (hq:q*4294967295+r=u) (hQ:(u*4294967296+w) / (18446744073709551616 - e)<=q):
  (4294967296<=q->(u*4294967296+w) / (18446744073709551616 - e)<=q - 1)/\
  (q < 4294967296->4294967296*r+w < q*(4294967296 - e)->(u*4294967296+w) / (18446744073709551616 - e)<=q - 1)/\
  (q < 4294967296->q*(4294967296 - e)<=4294967296*r+w->(u*4294967296+w) / (18446744073709551616 - e)=q)/\
  (4294967296<=r+4294967295->(u*4294967296+w) / (18446744073709551616 - e)<=q - 1->(u*4294967296+w) / (18446744073709551616 - e)=q - 1)/\0<=(u*4294967296+w) / (18446744073709551616 - e)/\q<=4294967297:=by
 rcases he with rfl | rfl | rfl
 ·refine⟨?_,?_,?_,?_,?_,?_⟩ <;> omega
 ·refine⟨?_,?_,?_,?_,?_,?_⟩ <;> omega
 ·refine⟨?_,?_,?_,?_,?_,?_⟩ <;> omega
theorem k0{e u w:Int}(he:e=42260\/e=42264\/e=42272)(hu:0<=u)(Fb:u < 18446744073709551616 - e)(hw:0<=w)(K6:w < 4294967296):
  (u*4294967296+w) / (18446744073709551616 - e)<=u / 4294967295/\0<=u - u / 4294967295*4294967295/\u - u / 4294967295*4294967295 < 4294967296/\
  (u*4294967296+w) - (u*4294967296+w) / (18446744073709551616 - e)*(18446744073709551616 - e)=(u*4294967296+w)%(18446744073709551616 - e)/\
  0<=(u*4294967296+w)%(18446744073709551616 - e)/\(u*4294967296+w)%(18446744073709551616 - e) < 18446744073709551616 - e/\
  0<=(u*4294967296+w) / (18446744073709551616 - e)/\(u*4294967296+w) / (18446744073709551616 - e) < 4294967296:=by
 rcases he with rfl | rfl | rfl
 ·refine⟨?_,?_,?_,?_,?_,?_,?_,?_⟩ <;> omega
 ·refine⟨?_,?_,?_,?_,?_,?_,?_,?_⟩ <;> omega
 ·refine⟨?_,?_,?_,?_,?_,?_,?_,?_⟩ <;> omega
theorem kd(Y u w1 w0:Int)(hY:0 < Y)(h0:0<=w0)(h1:w0 < 4294967296):
  ((u*4294967296+w1)*4294967296+w0) / Y=(u*4294967296+w1) / Y*4294967296+((u*4294967296+w1)%Y*4294967296+w0) / Y/\
  ((u*4294967296+w1)*4294967296+w0)%Y=((u*4294967296+w1)%Y*4294967296+w0)%Y:=by
 generalize u*4294967296+w1=n
 have e:n*4294967296+w0=(n%Y*4294967296+w0)+Y*(n / Y*4294967296):=by
  have:=Int.emod_add_mul_ediv n Y
  have h:Y*(n / Y*4294967296)=(Y*(n / Y))*4294967296:=by rw[ku]
  rw[h];omega
 rw[e,Int.add_mul_ediv_left _ _ (by omega),Int.add_mul_emod_self_left]
 exact⟨by omega,rfl⟩
abbrev jY.D:=Int
abbrev jY.Y:=Int
def QU(y:Int):Prop:=y=4611686018427377339\/y=2305843009213688669\/y=2305843009213688668
def jY.aU:jY.D->Prop:=QU
def jY.F:jY.D->jY.Y:=λy=>if y=4611686018427377339 then 62 else 61
def jY:Fs Tryz.prog jY.aU bE jY.F:=fK 215 Tryz.f215 (λx=>([.d tu x],[])) (λx=>⟨.d ti x,[],[]⟩) [some tu]
theorem jY.eq{R:Type}(x)(k:K1 R):jY.A x k=
  aJ ((qQ x 4294967296)) (
   aJ ((qQ (cr .u64 x 32) 65536)) (
    aJ ((qQ (cr .u64 (cr .u64 x 32) 16) 256)) (
     aJ (eY (dP .u8 (cr .u64 (cr .u64 (cr .u64 x 32) 16) 8)) 256) (
     k (jY.out (bt .i64 56 (dP .i64 (GR (⟨#[0,1,2,2,3,3,3,3,4,4,4,4,4,4,4,4,5,5,5,5,5,5,5,5,5,5,5,5,5,5,5,5,6,6,6,6,6,6,6,6,6,6,6,6,6,6,6,6,6,6,6,6,6,6,6,6,6,6,6,6,6,6,6,6,7,7,7,7,7,7,7,7,7,7,7,7,7,7,7,7,7,7,7,7,7,7,7,7,7,7,7,7,7,7,7,7,7,7,7,7,7,7,7,7,7,7,7,7,7,7,7,7,7,7,7,7,7,7,7,7,7,7,7,7,7,7,7,7,8,8,8,8,8,8,8,8,8,8,8,8,8,8,8,8,8,8,8,8,8,8,8,8,8,8,8,8,8,8,8,8,8,8,8,8,8,8,8,8,8,8,8,8,8,8,8,8,8,8,8,8,8,8,8,8,8,8,8,8,8,8,8,8,8,8,8,8,8,8,8,8,8,8,8,8,8,8,8,8,8,8,8,8,8,8,8,8,8,8,8,8,8,8,8,8,8,8,8,8,8,8,8,8,8,8,8,8,8,8,8,8,8,8,8,8,8,8,8,8,8,8,8,8,8,8,8,8]⟩:ByteArray) (dP .u8 (cr .u64 (cr .u64 (cr .u64 x 32) 16) 8))))))) none) (
     aJ (eY (dP .u8 (cr .u64 (cr .u64 x 32) 16)) 256) (
     k (jY.out (bt .i64 48 (dP .i64 (GR (⟨#[0,1,2,2,3,3,3,3,4,4,4,4,4,4,4,4,5,5,5,5,5,5,5,5,5,5,5,5,5,5,5,5,6,6,6,6,6,6,6,6,6,6,6,6,6,6,6,6,6,6,6,6,6,6,6,6,6,6,6,6,6,6,6,6,7,7,7,7,7,7,7,7,7,7,7,7,7,7,7,7,7,7,7,7,7,7,7,7,7,7,7,7,7,7,7,7,7,7,7,7,7,7,7,7,7,7,7,7,7,7,7,7,7,7,7,7,7,7,7,7,7,7,7,7,7,7,7,7,8,8,8,8,8,8,8,8,8,8,8,8,8,8,8,8,8,8,8,8,8,8,8,8,8,8,8,8,8,8,8,8,8,8,8,8,8,8,8,8,8,8,8,8,8,8,8,8,8,8,8,8,8,8,8,8,8,8,8,8,8,8,8,8,8,8,8,8,8,8,8,8,8,8,8,8,8,8,8,8,8,8,8,8,8,8,8,8,8,8,8,8,8,8,8,8,8,8,8,8,8,8,8,8,8,8,8,8,8,8,8,8,8,8,8,8,8,8,8,8,8,8,8,8,8,8,8,8]⟩:ByteArray) (dP .u8 (cr .u64 (cr .u64 x 32) 16))))))) none)) (
    aJ ((qQ (cr .u64 x 32) 256)) (
     aJ (eY (dP .u8 (cr .u64 (cr .u64 x 32) 8)) 256) (
     k (jY.out (bt .i64 40 (dP .i64 (GR (⟨#[0,1,2,2,3,3,3,3,4,4,4,4,4,4,4,4,5,5,5,5,5,5,5,5,5,5,5,5,5,5,5,5,6,6,6,6,6,6,6,6,6,6,6,6,6,6,6,6,6,6,6,6,6,6,6,6,6,6,6,6,6,6,6,6,7,7,7,7,7,7,7,7,7,7,7,7,7,7,7,7,7,7,7,7,7,7,7,7,7,7,7,7,7,7,7,7,7,7,7,7,7,7,7,7,7,7,7,7,7,7,7,7,7,7,7,7,7,7,7,7,7,7,7,7,7,7,7,7,8,8,8,8,8,8,8,8,8,8,8,8,8,8,8,8,8,8,8,8,8,8,8,8,8,8,8,8,8,8,8,8,8,8,8,8,8,8,8,8,8,8,8,8,8,8,8,8,8,8,8,8,8,8,8,8,8,8,8,8,8,8,8,8,8,8,8,8,8,8,8,8,8,8,8,8,8,8,8,8,8,8,8,8,8,8,8,8,8,8,8,8,8,8,8,8,8,8,8,8,8,8,8,8,8,8,8,8,8,8,8,8,8,8,8,8,8,8,8,8,8,8,8,8,8,8,8,8]⟩:ByteArray) (dP .u8 (cr .u64 (cr .u64 x 32) 8))))))) none) (
     aJ (eY (dP .u8 (cr .u64 x 32)) 256) (
     k (jY.out (bt .i64 32 (dP .i64 (GR (⟨#[0,1,2,2,3,3,3,3,4,4,4,4,4,4,4,4,5,5,5,5,5,5,5,5,5,5,5,5,5,5,5,5,6,6,6,6,6,6,6,6,6,6,6,6,6,6,6,6,6,6,6,6,6,6,6,6,6,6,6,6,6,6,6,6,7,7,7,7,7,7,7,7,7,7,7,7,7,7,7,7,7,7,7,7,7,7,7,7,7,7,7,7,7,7,7,7,7,7,7,7,7,7,7,7,7,7,7,7,7,7,7,7,7,7,7,7,7,7,7,7,7,7,7,7,7,7,7,7,8,8,8,8,8,8,8,8,8,8,8,8,8,8,8,8,8,8,8,8,8,8,8,8,8,8,8,8,8,8,8,8,8,8,8,8,8,8,8,8,8,8,8,8,8,8,8,8,8,8,8,8,8,8,8,8,8,8,8,8,8,8,8,8,8,8,8,8,8,8,8,8,8,8,8,8,8,8,8,8,8,8,8,8,8,8,8,8,8,8,8,8,8,8,8,8,8,8,8,8,8,8,8,8,8,8,8,8,8,8,8,8,8,8,8,8,8,8,8,8,8,8,8,8,8,8,8,8]⟩:ByteArray) (dP .u8 (cr .u64 x 32))))))) none))) (
   aJ ((qQ x 65536)) (
    aJ ((qQ (cr .u64 x 16) 256)) (
     aJ (eY (dP .u8 (cr .u64 (cr .u64 x 16) 8)) 256) (
     k (jY.out (bt .i64 24 (dP .i64 (GR (⟨#[0,1,2,2,3,3,3,3,4,4,4,4,4,4,4,4,5,5,5,5,5,5,5,5,5,5,5,5,5,5,5,5,6,6,6,6,6,6,6,6,6,6,6,6,6,6,6,6,6,6,6,6,6,6,6,6,6,6,6,6,6,6,6,6,7,7,7,7,7,7,7,7,7,7,7,7,7,7,7,7,7,7,7,7,7,7,7,7,7,7,7,7,7,7,7,7,7,7,7,7,7,7,7,7,7,7,7,7,7,7,7,7,7,7,7,7,7,7,7,7,7,7,7,7,7,7,7,7,8,8,8,8,8,8,8,8,8,8,8,8,8,8,8,8,8,8,8,8,8,8,8,8,8,8,8,8,8,8,8,8,8,8,8,8,8,8,8,8,8,8,8,8,8,8,8,8,8,8,8,8,8,8,8,8,8,8,8,8,8,8,8,8,8,8,8,8,8,8,8,8,8,8,8,8,8,8,8,8,8,8,8,8,8,8,8,8,8,8,8,8,8,8,8,8,8,8,8,8,8,8,8,8,8,8,8,8,8,8,8,8,8,8,8,8,8,8,8,8,8,8,8,8,8,8,8,8]⟩:ByteArray) (dP .u8 (cr .u64 (cr .u64 x 16) 8))))))) none) (
     aJ (eY (dP .u8 (cr .u64 x 16)) 256) (
     k (jY.out (bt .i64 16 (dP .i64 (GR (⟨#[0,1,2,2,3,3,3,3,4,4,4,4,4,4,4,4,5,5,5,5,5,5,5,5,5,5,5,5,5,5,5,5,6,6,6,6,6,6,6,6,6,6,6,6,6,6,6,6,6,6,6,6,6,6,6,6,6,6,6,6,6,6,6,6,7,7,7,7,7,7,7,7,7,7,7,7,7,7,7,7,7,7,7,7,7,7,7,7,7,7,7,7,7,7,7,7,7,7,7,7,7,7,7,7,7,7,7,7,7,7,7,7,7,7,7,7,7,7,7,7,7,7,7,7,7,7,7,7,8,8,8,8,8,8,8,8,8,8,8,8,8,8,8,8,8,8,8,8,8,8,8,8,8,8,8,8,8,8,8,8,8,8,8,8,8,8,8,8,8,8,8,8,8,8,8,8,8,8,8,8,8,8,8,8,8,8,8,8,8,8,8,8,8,8,8,8,8,8,8,8,8,8,8,8,8,8,8,8,8,8,8,8,8,8,8,8,8,8,8,8,8,8,8,8,8,8,8,8,8,8,8,8,8,8,8,8,8,8,8,8,8,8,8,8,8,8,8,8,8,8,8,8,8,8,8,8]⟩:ByteArray) (dP .u8 (cr .u64 x 16))))))) none)) (
    aJ ((qQ x 256)) (
     aJ (eY (dP .u8 (cr .u64 x 8)) 256) (
     k (jY.out (bt .i64 8 (dP .i64 (GR (⟨#[0,1,2,2,3,3,3,3,4,4,4,4,4,4,4,4,5,5,5,5,5,5,5,5,5,5,5,5,5,5,5,5,6,6,6,6,6,6,6,6,6,6,6,6,6,6,6,6,6,6,6,6,6,6,6,6,6,6,6,6,6,6,6,6,7,7,7,7,7,7,7,7,7,7,7,7,7,7,7,7,7,7,7,7,7,7,7,7,7,7,7,7,7,7,7,7,7,7,7,7,7,7,7,7,7,7,7,7,7,7,7,7,7,7,7,7,7,7,7,7,7,7,7,7,7,7,7,7,8,8,8,8,8,8,8,8,8,8,8,8,8,8,8,8,8,8,8,8,8,8,8,8,8,8,8,8,8,8,8,8,8,8,8,8,8,8,8,8,8,8,8,8,8,8,8,8,8,8,8,8,8,8,8,8,8,8,8,8,8,8,8,8,8,8,8,8,8,8,8,8,8,8,8,8,8,8,8,8,8,8,8,8,8,8,8,8,8,8,8,8,8,8,8,8,8,8,8,8,8,8,8,8,8,8,8,8,8,8,8,8,8,8,8,8,8,8,8,8,8,8,8,8,8,8,8,8]⟩:ByteArray) (dP .u8 (cr .u64 x 8))))))) none) (
     aJ (eY (dP .u8 x) 256) (
     k (jY.out (bt .i64 0 (dP .i64 (GR (⟨#[0,1,2,2,3,3,3,3,4,4,4,4,4,4,4,4,5,5,5,5,5,5,5,5,5,5,5,5,5,5,5,5,6,6,6,6,6,6,6,6,6,6,6,6,6,6,6,6,6,6,6,6,6,6,6,6,6,6,6,6,6,6,6,6,7,7,7,7,7,7,7,7,7,7,7,7,7,7,7,7,7,7,7,7,7,7,7,7,7,7,7,7,7,7,7,7,7,7,7,7,7,7,7,7,7,7,7,7,7,7,7,7,7,7,7,7,7,7,7,7,7,7,7,7,7,7,7,7,8,8,8,8,8,8,8,8,8,8,8,8,8,8,8,8,8,8,8,8,8,8,8,8,8,8,8,8,8,8,8,8,8,8,8,8,8,8,8,8,8,8,8,8,8,8,8,8,8,8,8,8,8,8,8,8,8,8,8,8,8,8,8,8,8,8,8,8,8,8,8,8,8,8,8,8,8,8,8,8,8,8,8,8,8,8,8,8,8,8,8,8,8,8,8,8,8,8,8,8,8,8,8,8,8,8,8,8,8,8,8,8,8,8,8,8,8,8,8,8,8,8,8,8,8,8,8,8]⟩:ByteArray) (dP .u8 x)))))) none))):=by kernel_rfl
theorem jY.ok:jY.Ok:=by
 intro y h
 rw[jY.eq]
 obtain rfl | rfl | rfl:=h <;> kernel_rfl
theorem jY.run:jY.RS:=rE [.d tu] jY
def jY.sg:=jY.fS jY.ok
abbrev qR.D:=Int
abbrev qR.Y:=Int
def qR.aU:qR.D->Prop:=QU
def qR.F:qR.D->qR.Y:=λy=>if y=4611686018427377339 then 2 else 3
def qR:Fs Tryz.prog qR.aU bE qR.F:=fK 276 Tryz.f276 (λx=>([.d tu x],[])) (λx=>⟨.d ti x,[],[]⟩) [some tu] [jY.sg]
theorem qR.eq{R:Type}(x)(k:K1 R):qR.A x k=
 av (jY.call x) λx1=>
 k (qR.out (dp .i64 64 x1)):=by kernel_rfl
theorem qR.ok:qR.Ok:=by
 intro y h
 rw[qR.eq,jY.run (d:=y) h]
 obtain rfl | rfl | rfl:=h <;> rfl
theorem qR.run:qR.RS:=rE [.d tu] qR
def qR.sg:=qR.fS qR.ok
abbrev cI.L0.D:=Int×Int×Int×Int×Int×Int×Int×Int×Int
abbrev cI.L0.Y:=Int
abbrev cI.L0.X:=(Int×Int×Int×Int×Int×Int×Int)×(Int)
def cI.L0.add:cI.L0.D->cI.L0.Y->cI.L0.X:=λ(C9,sv,yn1,yn0,un32,un1,un0,q1,rhat) y=>((C9,sv,yn1,yn0,un32,un1,un0),y)
abbrev cI.L1.D:=Int×Int×Int×Int×Int×Int×Int×Int×Int
abbrev cI.L1.Y:=Int
abbrev cI.L1.X:=(Int×Int×Int×Int×Int)×(Int)
def cI.L1.add:cI.L1.D->cI.L1.Y->cI.L1.X:=λ(Da,qI,wI,CB,vD,C0,uo,un21,q0) y=>((Da,qI,vD,C0,un21),y)
abbrev cI.D:=Int×Int×Int
abbrev cI.Y:=Int×Int
def cI.L0.aU:cI.L0.D->Prop:=λ(y,sv,yn1,yn0,u,w,un0,q,r)=>∃e:Int,(e=42260\/e=42264\/e=42272)/\y=18446744073709551616 - e/\yn1=4294967295/\yn0=4294967296 - e/\0<=u/\u < 18446744073709551616 - e/\0<=w/\w < 4294967296/\0<=r/\r < 4294967296/\q*4294967295+r=u/\(u*4294967296+w) / (18446744073709551616 - e)<=q
def cI.L0.F:cI.L0.D->cI.L0.Y:=λ(y,sv,yn1,yn0,u,w,un0,q,r)=>(u*4294967296+w) / y
def cI.L1.aU:cI.L1.D->Prop:=λ(y,sv,yn1,yn0,w,q1,r,u,q)=>∃e:Int,(e=42260\/e=42264\/e=42272)/\y=18446744073709551616 - e/\yn1=4294967295/\yn0=4294967296 - e/\0<=u/\u < 18446744073709551616 - e/\0<=w/\w < 4294967296/\0<=r/\r < 4294967296/\q*4294967295+r=u/\(u*4294967296+w) / (18446744073709551616 - e)<=q
def cI.L1.F:cI.L1.D->cI.L1.Y:=λ(y,sv,yn1,yn0,w,q1,r,u,q)=>(u*4294967296+w) / y
def cI.aU:cI.D->Prop:=λ(hi,lo,y)=>(QU y\/hi=0/\0 < y/\y < 18446744073709551616)/\0<=hi/\hi < y/\0<=lo/\lo < 18446744073709551616
def cI.F:cI.D->cI.Y:=λ(hi,lo,y)=>((hi*18446744073709551616+lo) / y,(hi*18446744073709551616+lo)%y)
def cI.L0:Ls cI.L0.aU cI.L0.add cI.L0.F:=pG (λ(C9,sv,yn1,yn0,un32,un1,un0,q1,rhat)=>⟨([.undef,.undef,.d tu C9]++bj 5 ([.d tu sv,.d tu yn1,.d tu yn0,.d tu un32,.undef,.d tu un1,.d tu un0,.d tu q1,.d tu rhat]++bj 118 [])),[],(List.replicate 135 [])⟩) (λx=>(.exit 0,⟨([.undef,.undef,.d tu x.1.1]++bj 5 ([.d tu x.1.2.1,.d tu x.1.2.2.1,.d tu x.1.2.2.2.1,.d tu x.1.2.2.2.2.1,.undef,.d tu x.1.2.2.2.2.2.1,.d tu x.1.2.2.2.2.2.2,.d tu x.2]++bj 119 [])),[],(List.replicate 135 [])⟩))
def cI.L1:Ls cI.L1.aU cI.L1.add cI.L1.F:=pG (λ(Da,qI,wI,CB,vD,C0,uo,un21,q0)=>⟨([.undef,.undef,.d tu Da]++bj 5 ([.d tu qI,.d tu wI,.d tu CB,.undef,.undef,.undef,.d tu vD,.d tu C0,.d tu uo,.d tu un21,.d tu q0]++bj 116 [])),[],(List.replicate 135 [])⟩) (λx=>(.exit 2,⟨([.undef,.undef,.d tu x.1.1]++bj 5 ([.d tu x.1.2.1]++bj 5 ([.d tu x.1.2.2.1,.d tu x.1.2.2.2.1,.undef,.d tu x.1.2.2.2.2,.d tu x.2]++bj 116 []))),[],(List.replicate 135 [])⟩))
def cI:Fs Tryz.prog cI.aU bE cI.F:=fK 237 Tryz.f237 (λ(hi,lo,yv)=>([.d tu hi,.d tu lo,.d tu yv],[])) (λx=>⟨.cons (.d tu x.1) (.cons (.d tu x.2) (.nil)),[],[]⟩) [some tu,some tu,some tu] [qR.sg] {loops:=oM [(17,{bm:=[2,8,9,10,11,13,14,15,16]}),(24,{bm:=[2,8,9,10,14,15,16,17,18]})],outs:=oL [(17,{bm:=[2,8,9,10,11,13,14,15]},{bm:=[6,7]}),(24,{bm:=[2,8,14,15,17,18]},{bm:=[6,7]})],iA:=pq [(17,cI.L0.E),(24,cI.L1.E)]}
theorem cI.L0.run:cI.L0.RS:=rL [.d tu,.d tu,.d tu,.d tu,.d tu,.d tu,.d tu,.d tu,.d tu] cI.L0
theorem cI.L0.step{R:Type}(C9 sv yn1 yn0 un32 un1 un0 q1 rhat)(kn:K2 R)(kx:K3 R):cI.R 0 cI.L0 (C9,sv,yn1,yn0,un32,un1,un0,q1,rhat) kn kx=
  aJ ((qQ q1 4294967296)) (
   aJ ((qQ (bt .u64 rhat yn1) 4294967296)) (
    cI.L0.go kx ((C9,sv,yn1,yn0,un32,un1,un0),(dp .u64 q1 1))) (
    kn (cI.L0.st (C9,sv,yn1,yn0,un32,un1,un0,(dp .u64 q1 1),(bt .u64 rhat yn1))))) (
   aJ ((nc (eR .u64 q1 yn0) (bt .u64 (eR .u64 4294967296 rhat) un1))) (
    aJ ((qQ (bt .u64 rhat yn1) 4294967296)) (
     cI.L0.go kx ((C9,sv,yn1,yn0,un32,un1,un0),(dp .u64 q1 1))) (
     kn (cI.L0.st (C9,sv,yn1,yn0,un32,un1,un0,(dp .u64 q1 1),(bt .u64 rhat yn1))))) (
    cI.L0.go kx ((C9,sv,yn1,yn0,un32,un1,un0),q1))):=by kernel_rfl
theorem cI.L1.run:cI.L1.RS:=rL [.d tu,.d tu,.d tu,.d tu,.d tu,.d tu,.d tu,.d tu,.d tu] cI.L1
theorem cI.L1.step{R:Type}(Da qI wI CB vD C0 uo un21 q0)(kn:K2 R)(kx:K3 R):cI.R 1 cI.L1 (Da,qI,wI,CB,vD,C0,uo,un21,q0) kn kx=
  aJ ((qQ q0 4294967296)) (
   aJ ((qQ (bt .u64 uo wI) 4294967296)) (
    cI.L1.go kx ((Da,qI,vD,C0,un21),(dp .u64 q0 1))) (
    kn (cI.L1.st (Da,qI,wI,CB,vD,C0,(bt .u64 uo wI),un21,(dp .u64 q0 1))))) (
   aJ ((nc (eR .u64 q0 CB) (bt .u64 (eR .u64 4294967296 uo) vD))) (
    aJ ((qQ (bt .u64 uo wI) 4294967296)) (
     cI.L1.go kx ((Da,qI,vD,C0,un21),(dp .u64 q0 1))) (
     kn (cI.L1.st (Da,qI,wI,CB,vD,C0,(bt .u64 uo wI),un21,(dp .u64 q0 1))))) (
    cI.L1.go kx ((Da,qI,vD,C0,un21),q0))):=by kernel_rfl
theorem cI.eq{R:Type}(hi lo yv)(k:K1 R):cI.A (hi,lo,yv) k=
  aJ ((wy yv 0)) (
   none) (
   aJ ((zS yv hi)) (
    none) (
    aJ ((wy hi 0)) (
     aJ (iK yv) (
     aJ (iK yv) (
     k (cI.out ((jX .u64 lo yv),(gv lo yv)))) none) none) (
     av (qR.call yv) λx1=>
     aJ (kA (dP .u64 x1)) (
     aJ (kA (dP .u64 x1)) (
     aJ (kA (dp .u64 64 (dP .u64 x1))) (
     aJ (kA (dP .u64 x1)) (
     aJ (iK (cr .u64 (nk .u64 yv (dP .u64 x1)) 32)) (
     av (cI.L0.call ((nk .u64 yv (dP .u64 x1)),(dP .u64 x1),(cr .u64 (nk .u64 yv (dP .u64 x1)) 32),(cW .and .u64 (nk .u64 yv (dP .u64 x1)) 4294967295),(cW .or .u64 (nk .u64 hi (dP .u64 x1)) (cr .u64 lo (dp .u64 64 (dP .u64 x1)))),(cr .u64 (nk .u64 lo (dP .u64 x1)) 32),(cW .and .u64 (nk .u64 lo (dP .u64 x1)) 4294967295),(jX .u64 (cW .or .u64 (nk .u64 hi (dP .u64 x1)) (cr .u64 lo (dp .u64 64 (dP .u64 x1)))) (cr .u64 (nk .u64 yv (dP .u64 x1)) 32)),(dp .u64 (cW .or .u64 (nk .u64 hi (dP .u64 x1)) (cr .u64 lo (dp .u64 64 (dP .u64 x1)))) (eR .u64 (jX .u64 (cW .or .u64 (nk .u64 hi (dP .u64 x1)) (cr .u64 lo (dp .u64 64 (dP .u64 x1)))) (cr .u64 (nk .u64 yv (dP .u64 x1)) 32)) (cr .u64 (nk .u64 yv (dP .u64 x1)) 32))))) λx2=>
     aJ (iK x2.1.2.2.1) (
     av (cI.L1.call (x2.1.1,x2.1.2.1,x2.1.2.2.1,x2.1.2.2.2.1,x2.1.2.2.2.2.2.2,x2.2,(dp .u64 (dp .u64 (bt .u64 (eR .u64 x2.1.2.2.2.2.1 4294967296) x2.1.2.2.2.2.2.1) (eR .u64 x2.2 x2.1.1)) (eR .u64 (jX .u64 (dp .u64 (bt .u64 (eR .u64 x2.1.2.2.2.2.1 4294967296) x2.1.2.2.2.2.2.1) (eR .u64 x2.2 x2.1.1)) x2.1.2.2.1) x2.1.2.2.1)),(dp .u64 (bt .u64 (eR .u64 x2.1.2.2.2.2.1 4294967296) x2.1.2.2.2.2.2.1) (eR .u64 x2.2 x2.1.1)),(jX .u64 (dp .u64 (bt .u64 (eR .u64 x2.1.2.2.2.2.1 4294967296) x2.1.2.2.2.2.2.1) (eR .u64 x2.2 x2.1.1)) x2.1.2.2.1))) λx3=>
     aJ (kA x3.1.2.1) (
     k (cI.out ((bt .u64 (eR .u64 x3.1.2.2.2.1 4294967296) x3.2),(cr .u64 (dp .u64 (bt .u64 (eR .u64 x3.1.2.2.2.2 4294967296) x3.1.2.2.1) (eR .u64 x3.2 x3.1.1)) x3.1.2.1)))) none) none) none) none) none) none) none))):=by kernel_rfl
theorem cI.L0.ok:(cI.lE 0 cI.L0):=by
 refine(cI.mr 0 cI.L0) (λ(y,sv,yn1,yn0,u,w,un0,q,r)=>q.toNat) ?_
 rintro⟨y,sv,yn1,yn0,u,w,un0,q,r⟩ ⟨e,he,rfl,rfl,rfl,hu,Fb,hw,K6,hr,H2,hq,hQ⟩
 have hu:0<=u:=hu
 have Fb:u < 18446744073709551616 - e:=Fb
 have hw:0<=w:=hw
 have K6:w < 4294967296:=K6
 have hr:0<=r:=hr
 have H2:r < 4294967296:=H2
 have hq:q*4294967295+r=u:=hq
 obtain⟨k1,k2,k3,k4,k5,k6⟩:=k1 he hu Fb hw K6 hr H2 hq hQ
 have q0:0<=q:=Int.le_trans k5 hQ
 have a1:bt .u64 r 4294967295=r+4294967295:=by rw[iJ];omega
 have a2:bt .u64 (eR .u64 4294967296 r) w=4294967296*r+w:=by rw[nH,iJ];omega
 have a3:q < 4294967296->eR .u64 q (4294967296 - e)=q*(4294967296 - e):=by
  intro h;rw[nH];rcases he with rfl | rfl | rfl <;> omega
 have a4:0 < q->dp .u64 q 1=q - 1:=by intro h;rw[AK];omega
 have pos:4294967296<=q\/(q < 4294967296/\4294967296*r+w < q*(4294967296 - e))->0 < q/\(u*4294967296+w) / (18446744073709551616 - e)<=q - 1:=by
  rintro(h | ⟨h,h2⟩)
  ·exact⟨by omega,k1 h⟩
  ·exact⟨by have:=k2 h h2;omega,k2 h h2⟩
 by_cases hc:4294967296<=q\/(q < 4294967296/\4294967296*r+w < q*(4294967296 - e))
 ·obtain⟨p1,p2⟩:=pos hc
  by_cases hb:4294967296<=r+4294967295
  ·right
   have hF:cI.L0.F (18446744073709551616 - e,sv,4294967295,4294967296 - e,u,w,un0,q,r)=q - 1:=k4 hb p2
   intro R kn kx
   rw[cI.L0.step,a1,a2,a4 p1,eQ hb,hF]
   rcases hc with h | ⟨h,h2⟩
   ·rw[eQ h];rfl
   ·rw[dQ (by omega),a3 h,cX h2];rfl
  ·left
   refine⟨(18446744073709551616 - e,sv,4294967295,4294967296 - e,u,w,un0,q - 1,r+4294967295),⟨e,he,rfl,rfl,rfl,hu,Fb,hw,K6,by omega,by omega,by omega,p2⟩,by simp only[];omega,rfl,λkn kx=> ?_⟩
   rw[cI.L0.step,a1,a2,a4 p1,dQ hb]
   rcases hc with h | ⟨h,h2⟩
   ·rw[eQ h];rfl
   ·rw[dQ (by omega),a3 h,cX h2];rfl
 ·right
  have h:q < 4294967296:=by omega
  have h2:¬4294967296*r+w < q*(4294967296 - e):=λx=>hc (Or.inr ⟨h,x⟩)
  have hF:cI.L0.F (18446744073709551616 - e,sv,4294967295,4294967296 - e,u,w,un0,q,r)=q:=k3 h (by omega)
  intro R kn kx
  rw[cI.L0.step,a2,a3 h,dQ (by omega),cj h2,hF]
  rfl
theorem cI.L1.ok:(cI.lE 1 cI.L1):=by
 refine(cI.mr 1 cI.L1) (λ(y,sv,yn1,yn0,w,q1,r,u,q)=>q.toNat) ?_
 rintro⟨y,sv,yn1,yn0,w,q1,r,u,q⟩ ⟨e,he,rfl,rfl,rfl,hu,Fb,hw,K6,hr,H2,hq,hQ⟩
 have hu:0<=u:=hu
 have Fb:u < 18446744073709551616 - e:=Fb
 have hw:0<=w:=hw
 have K6:w < 4294967296:=K6
 have hr:0<=r:=hr
 have H2:r < 4294967296:=H2
 have hq:q*4294967295+r=u:=hq
 obtain⟨k1,k2,k3,k4,k5,k6⟩:=k1 he hu Fb hw K6 hr H2 hq hQ
 have q0:0<=q:=Int.le_trans k5 hQ
 have a1:bt .u64 r 4294967295=r+4294967295:=by rw[iJ];omega
 have a2:bt .u64 (eR .u64 4294967296 r) w=4294967296*r+w:=by rw[nH,iJ];omega
 have a3:q < 4294967296->eR .u64 q (4294967296 - e)=q*(4294967296 - e):=by
  intro h;rw[nH];rcases he with rfl | rfl | rfl <;> omega
 have a4:0 < q->dp .u64 q 1=q - 1:=by intro h;rw[AK];omega
 have pos:4294967296<=q\/(q < 4294967296/\4294967296*r+w < q*(4294967296 - e))->0 < q/\(u*4294967296+w) / (18446744073709551616 - e)<=q - 1:=by
  rintro(h | ⟨h,h2⟩)
  ·exact⟨by omega,k1 h⟩
  ·exact⟨by have:=k2 h h2;omega,k2 h h2⟩
 by_cases hc:4294967296<=q\/(q < 4294967296/\4294967296*r+w < q*(4294967296 - e))
 ·obtain⟨p1,p2⟩:=pos hc
  by_cases hb:4294967296<=r+4294967295
  ·right
   have hF:cI.L1.F (18446744073709551616 - e,sv,4294967295,4294967296 - e,w,q1,r,u,q)=q - 1:=k4 hb p2
   intro R kn kx
   rw[cI.L1.step,a1,a2,a4 p1,eQ hb,hF]
   rcases hc with h | ⟨h,h2⟩
   ·rw[eQ h];rfl
   ·rw[dQ (by omega),a3 h,cX h2];rfl
  ·left
   refine⟨(18446744073709551616 - e,sv,4294967295,4294967296 - e,w,q1,r+4294967295,u,q - 1),⟨e,he,rfl,rfl,rfl,hu,Fb,hw,K6,by omega,by omega,by omega,p2⟩,by simp only[];omega,rfl,λkn kx=> ?_⟩
   rw[cI.L1.step,a1,a2,a4 p1,dQ hb]
   rcases hc with h | ⟨h,h2⟩
   ·rw[eQ h];rfl
   ·rw[dQ (by omega),a3 h,cX h2];rfl
 ·right
  have h:q < 4294967296:=by omega
  have h2:¬4294967296*r+w < q*(4294967296 - e):=λx=>hc (Or.inr ⟨h,x⟩)
  have hF:cI.L1.F (18446744073709551616 - e,sv,4294967295,4294967296 - e,w,q1,r,u,q)=q:=k3 h (by omega)
  intro R kn kx
  rw[cI.L1.step,a2,a3 h,dQ (by omega),cj h2,hF]
  rfl
theorem Pk{y hi lo:Int}(hy:QU y)(h0:0<=hi)(h1:hi < y)(h2:0<=lo)(h3:lo < 18446744073709551616):∃(s:Nat) (e m:Int),qR.F y=s/\(s=2\/s=3)/\m=2^s/\(e=42260\/e=42264\/e=42272)/\y*m=18446744073709551616 - e/\
  nk .u64 y (s:Int)=18446744073709551616 - e/\
  cW .or .u64 (nk .u64 hi (s:Int)) (cr .u64 lo (dp .u64 64 (s:Int)))=(hi*18446744073709551616+lo)*m / 18446744073709551616/\
  nk .u64 lo (s:Int)=(hi*18446744073709551616+lo)*m%18446744073709551616/\
  (hi*18446744073709551616+lo)*m / 18446744073709551616 < 18446744073709551616 - e/\
  (hi*18446744073709551616+lo)*m / (18446744073709551616 - e)=(hi*18446744073709551616+lo) / y/\
  (hi*18446744073709551616+lo)*m%(18446744073709551616 - e) / m=(hi*18446744073709551616+lo)%y:=by
 have e1:dp .u64 64 ((2:Nat):Int)=((62:Nat):Int):=rfl
 have e2:dp .u64 64 ((3:Nat):Int)=((61:Nat):Int):=rfl
 have p2:(2:Int)^2=4:=rfl
 have p3:(2:Int)^3=8:=rfl
 have p61:(2:Int)^61=2305843009213693952:=rfl
 have p62:(2:Int)^62=4611686018427387904:=rfl
 obtain rfl | rfl | rfl:=hy
 ·refine⟨2,42260,4,rfl,Or.inl rfl,rfl,Or.inl rfl,rfl,by rw[pX 2 (by rfl) (by omega),p2];omega,?_,?_,by omega,by omega,by omega⟩
  ·rw[e1,pX 2 (by rfl) (by omega),pY 62 (by rfl) (by omega),p2,p62,yd 2 4 rfl (by omega) (by omega) (by omega) (by omega) (by omega) (by omega)];omega
  ·rw[pX 2 (by rfl) (by omega),p2];omega
 ·refine⟨3,42264,8,rfl,Or.inr rfl,rfl,Or.inr (Or.inl rfl),rfl,by rw[pX 3 (by rfl) (by omega),p3];omega,?_,?_,by omega,by omega,by omega⟩
  ·rw[e2,pX 3 (by rfl) (by omega),pY 61 (by rfl) (by omega),p3,p61,yd 3 8 rfl (by omega) (by omega) (by omega) (by omega) (by omega) (by omega)];omega
  ·rw[pX 3 (by rfl) (by omega),p3];omega
 ·refine⟨3,42272,8,rfl,Or.inr rfl,rfl,Or.inr (Or.inr rfl),rfl,by rw[pX 3 (by rfl) (by omega),p3];omega,?_,?_,by omega,by omega,by omega⟩
  ·rw[e2,pX 3 (by rfl) (by omega),pY 61 (by rfl) (by omega),p3,p61,yd 3 8 rfl (by omega) (by omega) (by omega) (by omega) (by omega) (by omega)];omega
  ·rw[pX 3 (by rfl) (by omega),p3];omega
theorem Uo(a b c:Int):(((a%18446744073709551616+b)%18446744073709551616) - c%18446744073709551616)%18446744073709551616=(a+b - c)%18446744073709551616:=by omega
theorem cI.ok:cI.Ok:=by
 rintro⟨hi,lo,y⟩ ⟨hy,h0,h1,h2,h3⟩
 have h0:0<=hi:=h0
 have h1:hi < y:=h1
 have h2:0<=lo:=h2
 have h3:lo < 18446744073709551616:=h3
 have yb:0 < y/\y < 18446744073709551616:=by
  rcases hy with hy | hy
  ·obtain rfl | rfl | rfl:=hy <;> omega
  ·exact hy.2
 rw[cI.eq,gl (by omega),ga (by omega)]
 simp only[ah]
 have z:iK y=true:=by simp[iK];omega
 by_cases hz:hi=0
 ·subst hz
  rw[iw rfl,z,sW h2 (by omega) h3,iy h2]
  simp only[ae,cI.F,bE,Int.zero_mul,lD]
 ·have hy:QU y:=hy.resolve_right λe=>hz e.1
  obtain⟨s,e,m,hs,Br,hm,he,WA,a1,a2,a3,a4,a5,a6⟩:=Pk hy h0 h1 h2 h3
  have c1:dP .u64 (s:Int)=(s:Int):=by rw[tg];omega
  have c2:kA (s:Int)=true:=oB (by omega)
  have c3:kA (dp .u64 64 (s:Int))=true:=by rcases Br with rfl | rfl <;> rfl
  rw[gl hz,qR.run (d:=y) hy]
  simp only[ah,ab,bE,hs,c1,c2,c3,ae,a1,a2,a3]
  have hN:0<=(hi*18446744073709551616+lo)*m:=jQ (by omega) (by rcases Br with rfl | rfl <;> omega)
  revert a4 a5 a6
  generalize (hi*18446744073709551616+lo)*m=N at hN
  intro a4 a5 a6
  have u0:0<=N / 18446744073709551616:=by omega
  have t0:0<=N%18446744073709551616:=by omega
  have t1:N%18446744073709551616 < 18446744073709551616:=by omega
  have hd:N=(N / 18446744073709551616*4294967296+N%18446744073709551616 / 4294967296)*4294967296+N%18446744073709551616%4294967296:=by omega
  have w10:0<=N%18446744073709551616 / 4294967296:=by omega
  have w11:N%18446744073709551616 / 4294967296 < 4294967296:=by omega
  have w00:0<=N%18446744073709551616%4294967296:=by omega
  have w01:N%18446744073709551616%4294967296 < 4294967296:=by omega
  have p32:(2:Int)^32=4294967296:=rfl
  have b1:cr .u64 (18446744073709551616 - e) 32=4294967295:=by rw[pY 32 (by rfl) (by omega),p32];rcases he with rfl | rfl | rfl <;> rfl
  have b2:cW .and .u64 (18446744073709551616 - e) 4294967295=4294967296 - e:=by rw[Fv (by omega) (by omega)];omega
  have b3:cr .u64 (N%18446744073709551616) 32=N%18446744073709551616 / 4294967296:=by rw[pY 32 (by rfl) (by omega),p32]
  have b4:cW .and .u64 (N%18446744073709551616) 4294967295=N%18446744073709551616%4294967296:=Fv t0 t1
  have z2:iK 4294967295=true:=rfl
  simp only[b1,b2,b3,b4,z2,ae]
  clear a1 a2 a3 b1 b2 b3 b4
  have kdd:=kd (18446744073709551616 - e) (N / 18446744073709551616) (N%18446744073709551616 / 4294967296) (N%18446744073709551616%4294967296) (by omega) w00 w01
  rw[<-hd,a5]at kdd
  revert a4 kdd
  generalize N / 18446744073709551616=u at u0
  generalize N%18446744073709551616 / 4294967296=w1 at w10 w11
  generalize N%18446744073709551616%4294967296=w0 at w00 w01
  intro a4 kdd
  have g:∀u w:Int,0<=u->u < 18446744073709551616 - e->0<=w->w < 4294967296->
    jX .u64 u 4294967295=u / 4294967295/\dp .u64 u (eR .u64 (u / 4294967295) 4294967295)=u - u / 4294967295*4294967295/\
    dp .u64 (bt .u64 (eR .u64 u 4294967296) w) (eR .u64 ((u*4294967296+w) / (18446744073709551616 - e)) (18446744073709551616 - e))=(u*4294967296+w)%(18446744073709551616 - e):=by
   intro u w k1 k2 k3 k4
   obtain⟨q1,q2,q3,q4,q5,q6,q7,q8⟩:=k0 he k1 k2 k3 k4
   refine⟨sW k1 (by omega) (by omega),by rw[AK,nH];omega,?_⟩
   rw[AK,iJ,nH,nH,Uo,q4]
   exact ke q5 (by omega)
  obtain⟨f1,f2,f3⟩:=g u w1 u0 a4 w10 w11
  obtain⟨q1,q2,q3,q4,q5,q6,q7,q8⟩:=k0 he u0 a4 w10 w11
  have p1:cI.L0.aU (18446744073709551616 - e,(s:Int),4294967295,4294967296 - e,u,w1,w0,u / 4294967295,u - u / 4294967295*4294967295):=⟨e,he,rfl,rfl,rfl,u0,a4,w10,w11,q2,q3,by omega,q1⟩
  rw[f1,f2,cI.L0.run p1]
  simp only[ab,cI.L0.add,cI.L0.F,z2,ae,f3]
  revert f3 q1 kdd
  generalize (u*4294967296+w1)%(18446744073709551616 - e)=v at q4 q5 q6
  generalize (u*4294967296+w1) / (18446744073709551616 - e)=Q at q4 q7 q8
  intro kdd f3 q1
  obtain⟨g1,g2,g3⟩:=g v w0 q5 q6 w00 w01
  obtain⟨r1,r2,r3,r4,r5,r6,r7,r8⟩:=k0 he q5 q6 w00 w01
  have p2:cI.L1.aU (18446744073709551616 - e,(s:Int),4294967295,4294967296 - e,w0,Q,v - v / 4294967295*4294967295,v,v / 4294967295):=⟨e,he,rfl,rfl,rfl,q5,q6,w00,w01,r2,r3,by omega,r1⟩
  rw[g1,g2,cI.L1.run p2]
  simp only[ab,cI.L1.add,cI.L1.F,c2,ae,g3]
  rw[<-kdd.2,pY s (by rfl) (by omega),<-hm,a6,nH,iJ]
  have e9:(Q*4294967296%18446744073709551616+(v*4294967296+w0) / (18446744073709551616 - e))%18446744073709551616=(hi*18446744073709551616+lo) / y:=by rw[kdd.1];omega
  rw[e9]
  rfl
theorem cI.run:cI.RS:=rE [.d tu,.d tu,.d tu] cI
def cI.sg:=cI.fS cI.ok 2 ⟨.hZ cI.L0.ok,⟨.hZ cI.L1.ok,trivial⟩⟩
abbrev iZ.D:=Int×Int×Int
abbrev iZ.Y:=Int
def iZ.aU:iZ.D->Prop:=λ(hi,lo,y)=>QU y/\0<=hi/\hi < 18446744073709551616/\0<=lo/\lo < 18446744073709551616
def iZ.F:iZ.D->iZ.Y:=λ(hi,lo,y)=>(hi*18446744073709551616+lo)%y
def iZ:Fs Tryz.prog iZ.aU bE iZ.F:=fK 199 Tryz.f199 (λ(hi,lo,yv)=>([.d tu hi,.d tu lo,.d tu yv],[])) (λx=>⟨.d tu x,[],[]⟩) [some tu,some tu,some tu] [cI.sg]
theorem iZ.eq{R:Type}(hi lo yv)(k:K1 R):iZ.A (hi,lo,yv) k=
 aJ (iK yv) (
 av (cI.call ((gv hi yv),lo,yv)) λx1=>
 k (iZ.out x1.2)) none:=by kernel_rfl
theorem iZ.ok:iZ.Ok:=by
 rintro⟨hi,lo,y⟩ ⟨hy,h0,h1,h2,h3⟩
 have h0:0<=hi:=h0
 have yb:0 < y:=by obtain rfl | rfl | rfl:=hy <;> omega
 have z:iK y=true:=by simp[iK];omega
 have p:cI.aU (hi%y,lo,y):=⟨.inl hy,iC _ (by omega),gS _ yb,h2,h3⟩
 rw[iZ.eq,z,iy h0,cI.run p]
 have e:(hi%y*18446744073709551616+lo)%y=(hi*18446744073709551616+lo)%y:=by
  rw[ka,kf,kc _ (Int.dvd_refl y),<-kf,<-ka]
 simp only[ae,ab,bE,cI.F,bE,iZ.F,e]
theorem iZ.run:iZ.RS:=rE [.d tu,.d tu,.d tu] iZ
def iZ.sg:=iZ.fS iZ.ok
abbrev jh.D:=Int×Int
abbrev jh.Y:=Int×Int
def jh.aU:jh.D->Prop:=λ(x,y)=>(0<=x/\x < 18446744073709551616)/\0<=y/\y < 18446744073709551616
def jh.F:jh.D->jh.Y:=λ(x,y)=>(x*y / 18446744073709551616,x*y%18446744073709551616)
def jh:Fs Tryz.prog jh.aU bE jh.F:=fK 236 Tryz.f236 (λ(x,yv)=>([.d tu x,.d tu yv],[])) (λx=>⟨.cons (.d tu x.1) (.cons (.d tu x.2) (.nil)),[],[]⟩) [some tu,some tu]
theorem jh.eq{R:Type}(x yv)(k:K1 R):jh.A (x,yv) k=
 k (jh.out ((bt .u64 (bt .u64 (eR .u64 (cr .u64 x 32) (cr .u64 yv 32)) (cr .u64 (bt .u64 (eR .u64 (cr .u64 x 32) (cW .and .u64 yv 4294967295)) (cr .u64 (eR .u64 (cW .and .u64 x 4294967295) (cW .and .u64 yv 4294967295)) 32)) 32)) (cr .u64 (bt .u64 (cW .and .u64 (bt .u64 (eR .u64 (cr .u64 x 32) (cW .and .u64 yv 4294967295)) (cr .u64 (eR .u64 (cW .and .u64 x 4294967295) (cW .and .u64 yv 4294967295)) 32)) 4294967295) (eR .u64 (cW .and .u64 x 4294967295) (cr .u64 yv 32))) 32)),(eR .u64 x yv))):=by kernel_rfl
theorem zj{a b m n:Int}(h0:0<=a)(h1:a<=m)(h2:0<=b)(h3:b<=n):0<=a*b/\a*b<=m*n:=
 ⟨jQ h0 h2,Int.mul_le_mul h1 h3 h2 (Int.le_trans h0 h1)⟩
theorem jh.ok:jh.Ok:=by
 rintro⟨x,y⟩ ⟨⟨h0,h1⟩,h2,h3⟩
 have h0:0<=x:=h0
 have h1:x < 18446744073709551616:=h1
 have h2:0<=y:=h2
 have h3:y < 18446744073709551616:=h3
 rw[jh.eq]
 have p32:(2:Int)^32=4294967296:=rfl
 have Wh:∀x:Int,cr .u64 x 32=x / 4294967296:=λx=>by rw[pY 32 (by rfl) (by omega),p32]
 simp only[Wh,Fv h0 h1,Fv h2 h3]
 obtain⟨a,b,rfl,a0,a1,b0,b1⟩:∃a b:Int,x=a*4294967296+b/\0<=a/\a<=4294967295/\0<=b/\b<=4294967295:=⟨x / 4294967296,x%4294967296,by omega,by omega,by omega,by omega,by omega⟩
 obtain⟨c,d,rfl,c0,c1,d0,d1⟩:∃a b:Int,y=a*4294967296+b/\0<=a/\a<=4294967295/\0<=b/\b<=4294967295:=⟨y / 4294967296,y%4294967296,by omega,by omega,by omega,by omega,by omega⟩
 have e1:(a*4294967296+b) / 4294967296=a:=by omega
 have e2:(a*4294967296+b)%4294967296=b:=by omega
 have e3:(c*4294967296+d) / 4294967296=c:=by omega
 have e4:(c*4294967296+d)%4294967296=d:=by omega
 have e5:(a*4294967296+b)*(c*4294967296+d)=a*c*18446744073709551616+(a*d+b*c)*4294967296+b*d:=by
  have q:(4294967296:Int)*4294967296=18446744073709551616:=rfl
  rw[ou,Int.mul_add,Int.mul_add]
  have q1:a*4294967296*(c*4294967296)=a*c*18446744073709551616:=by rw[<-q];ac_rfl
  have q2:a*4294967296*d=a*d*4294967296:=by ac_rfl
  have q3:b*(c*4294967296)=b*c*4294967296:=by ac_rfl
  rw[q1,q2,q3];omega
 obtain⟨m1,m2⟩:=zj a0 a1 c0 c1
 obtain⟨m3,m4⟩:=zj a0 a1 d0 d1
 obtain⟨m5,m6⟩:=zj b0 b1 c0 c1
 obtain⟨m7,m8⟩:=zj b0 b1 d0 d1
 have n:(4294967295:Int)*4294967295=18446744065119617025:=rfl
 rw[n]at m2 m4 m6 m8
 simp only[e1,e2,e3,e4,bE,jh.F,e5,nH,iJ]
 revert m1 m2 m3 m4 m5 m6 m7 m8
 generalize a*c=ac
 generalize a*d=ad
 generalize b*c=bc
 generalize b*d=bd
 intro m1 m2 m3 m4 m5 m6 m7 m8
 have q1:bd%18446744073709551616=bd:=by omega
 have q2:ad%18446744073709551616=ad:=by omega
 have q3:bc%18446744073709551616=bc:=by omega
 have q4:ac%18446744073709551616=ac:=by omega
 rw[q1,q2,q3,q4]
 have q5:(ad+bd / 4294967296)%18446744073709551616=ad+bd / 4294967296:=by omega
 have q6:cW .and .u64 (ad+bd / 4294967296) 4294967295=(ad+bd / 4294967296)%4294967296:=Fv (by omega) (by omega)
 rw[q5,q6]
 refine congrArg some (congrArg jh.out (Prod.ext ?_ ?_))
 ·show _=(_:Int)
  simp only[]
  omega
 ·rfl
theorem jh.run:jh.RS:=rE [.d tu,.d tu] jh
def jh.sg:=jh.fS jh.ok
def Pn(x:Int):Prop:=0<=x/\x < 4611686018427377339
def je(x:Int):Prop:=0<=x/\x < 18446744073709551616
theorem Pn.u{x:Int}(h:Pn x):je x:=⟨h.1,by have:=h.2;omega⟩
def qs(a b:Int):Int:=a*b%4611686018427377339
theorem ud(a b:Int):Pn (qs a b):=⟨iC _ (by omega),gS _ (by omega)⟩
def Hm:Nat->Int->Nat->Int->Int
 | 0,_,_,out=>out
 |f+1,a,n,out=>if n=0 then out else Hm f (qs a a) (n / 2) (if n%2=1 then qs out a else out)
def pw(a:Int)(n:Nat):Int:=Hm 64 a n 1
theorem tI(f:Nat)(a out:Int):Hm f a 0 out=out:=by cases f <;> rfl
theorem B8:∀(f g:Nat) (a:Int) (n:Nat) (out:Int),n < 2^f->n < 2^g->Hm f a n out=Hm g a n out
 | 0,g,a,n,out,h,_=>by
  obtain rfl:n=0:=by omega
  rw[tI,tI]
 |f+1,0,a,n,out,_,h=>by
  obtain rfl:n=0:=by omega
  rw[tI,tI]
 |f+1,g+1,a,n,out,h,h'=>by
  have e:(2:Nat)^(f+1)=2^f*2:=Nat.pow_succ 2 f
  have e':(2:Nat)^(g+1)=2^g*2:=Nat.pow_succ 2 g
  unfold Hm
  split
  ·rfl
  ·exact B8 f g _ _ _ (by omega) (by omega)
theorem MA:∀(f:Nat) (a:Int) (n:Nat) (out:Int),Pn out->Pn (Hm f a n out)
 | 0,_,_,_,h=>h
 |f+1,a,n,out,h=>by
  unfold Hm
  split
  ·exact h
  ·refine MA f _ _ _ ?_
   split
   ·exact ud _ _
   ·exact h
theorem MB(a:Int)(n:Nat):Pn (pw a n):=MA _ _ _ _ ⟨by omega,by omega⟩
abbrev ij.D:=Int×Int
abbrev ij.Y:=Int
def ij.aU:ij.D->Prop:=λ(a,b)=>je a/\je b
def ij.F:ij.D->ij.Y:=λ(a,b)=>qs a b
def ij:Fs Tryz.prog ij.aU bE ij.F:=fK 193 Tryz.f193 (λ(a,b)=>([.d tu a,.d tu b],[])) (λx=>⟨.d tu x,[],[]⟩) [some tu,some tu] [jh.sg,iZ.sg]
theorem ij.eq{R:Type}(a b)(k:K1 R):ij.A (a,b) k=
 av (jh.call (a,b)) λx1=>
 av (iZ.call (x1.1,x1.2,4611686018427377339)) λx2=>
 k (ij.out x2):=by kernel_rfl
theorem Cx(n:Int):n / 18446744073709551616*18446744073709551616+n%18446744073709551616=n:=by omega
theorem ij.ok:ij.Ok:=by
 rintro⟨a,b⟩ ⟨ha,hb⟩
 have ha:je a:=ha
 have hb:je b:=hb
 obtain⟨m1,m2⟩:=zj ha.1 (show a<=18446744073709551615 by have:=ha.2;omega) hb.1 (show b<=18446744073709551615 by have:=hb.2;omega)
 have n:(18446744073709551615:Int)*18446744073709551615=340282366920938463426481119284349108225:=rfl
 rw[n]at m2
 have p:iZ.aU (a*b / 18446744073709551616,a*b%18446744073709551616,4611686018427377339):=⟨Or.inl rfl,by omega,by omega,by omega,by omega⟩
 rw[ij.eq,jh.run (d:=(a,b)) ⟨ha,hb⟩]
 simp only[ab,bE,jh.F]
 rw[iZ.run p]
 simp only[ab,bE,iZ.F,Cx]
 rfl
theorem ij.run:ij.RS:=rE [.d tu,.d tu] ij
def ij.sg:=ij.fS ij.ok
abbrev dH.L0.D:=Int×Int×Int
abbrev dH.L0.Y:=Int
abbrev dH.D:=Int×Int
abbrev dH.Y:=Int
def dH.L0.aU:dH.L0.D->Prop:=λ(a,n,o)=>je a/\je n/\Pn o
def dH.L0.F:dH.L0.D->dH.L0.Y:=λ(a,n,o)=>Hm 64 a n.toNat o
def dH.aU:dH.D->Prop:=λ(a,n)=>je a/\je n
def dH.F:dH.D->dH.Y:=λ(a,n)=>pw a n.toNat
def dH.L0:Ls dH.L0.aU bE dH.L0.F:=pG (λ(mM,xZ,outv)=>⟨([.d tu mM,.d tu xZ,.undef,.undef,.undef,.d tu outv]++bj 14 []),[],(List.replicate 20 [])⟩) (λx=>(.exit 0,⟨(bj 5 ([.d tu x]++bj 14 [])),[],(List.replicate 20 [])⟩))
def dH:Fs Tryz.prog dH.aU bE dH.F:=fK 130 Tryz.f130 (λ(a,n)=>([.d tu a,.d tu n],[])) (λx=>⟨.d tu x,[],[]⟩) [some tu,some tu] [ij.sg] {loops:=oM [(2,{bm:=[0,1,5]})],outs:=oL [(2,{bm:=[5]},{bm:=[4]})],iA:=pq [(2,dH.L0.E)]}
theorem dH.L0.run:dH.L0.RS:=rL [.d tu,.d tu,.d tu] dH.L0
theorem dH.L0.step{R:Type}(mM xZ outv)(kn:K2 R)(kx:K3 R):dH.R 0 dH.L0 (mM,xZ,outv) kn kx=
  aJ ((nc xZ 0)) (
   aJ ((wy (cW .and .u64 xZ 1) 1)) (
    av (ij.call (outv,mM)) λx1=>
    av (ij.call (mM,mM)) λx2=>
    kn (dH.L0.st (x2,(cr .u64 xZ 1),x1))) (
    av (ij.call (mM,mM)) λx3=>
    kn (dH.L0.st (x3,(cr .u64 xZ 1),outv)))) (
   dH.L0.go kx outv):=by kernel_rfl
theorem dH.eq{R:Type}(a n)(k:K1 R):dH.A (a,n) k=
 av (dH.L0.call (a,n,1)) λx4=>
 k (dH.out x4):=by kernel_rfl
theorem UE{n:Int}(h:je n):cr .u64 n 1=n / 2:=pY 1 (by rfl) (by omega)
theorem dH.L0.ok:(dH.lE 0 dH.L0):=by
 refine(dH.mr 0 dH.L0) (λ(a,n,o)=>n.toNat) ?_
 rintro⟨a,n,o⟩ ⟨ha,hn,ho⟩
 have ha:je a:=ha
 have hn:je n:=hn
 have ho:Pn o:=ho
 have n0:=hn.1
 have n1:=hn.2
 by_cases h:0 < n
 ·left
  have e:dH.L0.F (a,n,o)=dH.L0.F (qs a a,n / 2,if n%2=1 then qs o a else o):=by
   show Hm 64 a n.toNat o=Hm 64 (qs a a) (n / 2).toNat _
   rw[B8 64 65 a n.toNat o (by omega) (by omega)]
   have t1:(n / 2).toNat=n.toNat / 2:=by omega
   have t2:(n%2=1)=(n.toNat%2=1):=by apply propext;omega
   rw[t1]
   simp only[t2]
   show(if n.toNat=0 then o else _)=_
   rw[if_neg (by omega)]
  refine⟨(qs a a,n / 2,if n%2=1 then qs o a else o),⟨(ud a a).u,⟨by omega,by omega⟩,?_⟩,by show(n / 2).toNat < n.toNat;omega,?_,λkn kx=> ?_⟩
  ·show Pn (if n%2=1 then qs o a else o)
   split
   ·exact ud _ _
   ·exact ho
  ·exact congrArg _ e.symm
  ·rw[dH.L0.step,cX h,UE hn,Q8 n0 n1,ij.run (d:=(o,a)) ⟨ho.u,ha⟩,ij.run (d:=(a,a)) ⟨ha,ha⟩]
   by_cases h1:n%2=1
   ·rw[iw h1,if_pos h1];rfl
   ·rw[gl h1,if_neg h1];rfl
 ·right
  intro R kn kx
  obtain rfl:n=0:=by omega
  rw[dH.L0.step,cj (by omega)]
  simp only[ah,bE,dH.L0.F]
  rw[show Hm 64 a (Int.toNat 0) o=o from tI _ _ _]
theorem dH.ok:dH.Ok:=by
 rintro⟨a,n⟩ ⟨ha,hn⟩
 rw[dH.eq,dH.L0.run (d:=(a,n,1)) ⟨ha,hn,by omega,by omega⟩]
 rfl
theorem dH.run:dH.RS:=rE [.d tu,.d tu] dH
def dH.sg:=dH.fS dH.ok 1 ⟨.hZ dH.L0.ok,trivial⟩
def tw(p:Int):Bool:=decide (0 < p/\p < 4611686018427377339) && decide (pw p 2305843009213688669=1)
def tk(p:Int):Int:=if tw p then p else 1
theorem D1(p:Int):Pn (tk p):=by
 unfold tk
 split
 ·rename_i h
  simp only[tw,ak,decide_eq_true_eq]at h
  exact⟨by omega,by omega⟩
 ·exact⟨by omega,by omega⟩
def ES(p k:Int):Int:=pw (tk p) (k%2305843009213688669).toNat
def jw(k:Int):Int:=ES 4 k
def Up(p:Int):Int:=pw (tk p) 2305843009213688668
def wh(l:List Int):Int:=l.foldl (λo p=>qs o (tk p)) 1
theorem N6(l:List Int)(o:Int)(h:Pn o):Pn (l.foldl (λo p=>qs o (tk p)) o):=by
 induction l generalizing o with
 |nil=>exact h
 |cons p l ih=>exact ih _ (ud _ _)
theorem Jv(l:List Int):Pn (wh l):=N6 l 1 ⟨by omega,by omega⟩
abbrev gV.D:=Int
abbrev gV.Y:=Bool
def gV.aU:gV.D->Prop:=λp=>je p
def gV.F:gV.D->gV.Y:=λp=>tw p
def gV:Fs Tryz.prog gV.aU bE gV.F:=fK 151 Tryz.f151 (λp=>([.d tu p],[])) (λx=>⟨.d .bool x,[],[]⟩) [some tu] [dH.sg]
theorem gV.eq{R:Type}(p)(k:K1 R):gV.A p k=
  aJ ((nc p 0)) (
   aJ ((ik p 4611686018427377339)) (
    av (dH.call (p,2305843009213688669)) λx1=>
    k (gV.out (wy x1 1))) (
    k (gV.out false))) (
   k (gV.out false)):=by kernel_rfl
theorem gV.ok:gV.Ok:=by
 intro p hp
 have hp:je p:=hp
 rw[gV.eq,dH.run (d:=(p,2305843009213688669)) ⟨hp,by constructor <;> decide⟩]
 simp only[ab,bE,dH.F,bE,gV.F,tw]
 by_cases h:0 < p
 ·rw[cX h,ae]
  by_cases h2:p < 4611686018427377339
  ·rw[bh h2,ae,aP ⟨h,h2⟩,bO]
   rfl
  ·rw[aR h2,ah,bf (λx=>h2 x.2),dF]
 ·rw[cj h,ah,bf (λx=>h x.1),dF]
theorem gV.run:gV.RS:=rE [.d tu] gV
def gV.sg:=gV.fS gV.ok
abbrev gW.D:=Int
abbrev gW.Y:=Int
def gW.aU:gW.D->Prop:=λp=>je p
def gW.F:gW.D->gW.Y:=λp=>tk p
def gW:Fs Tryz.prog gW.aU bE gW.F:=fK 131 Tryz.f131 (λp=>([.d tu p],[])) (λx=>⟨.d tu x,[],[]⟩) [some tu] [gV.sg]
theorem gW.eq{R:Type}(p)(k:K1 R):gW.A p k=
  av (gV.call p) λx1=>
  aJ (x1) (
   k (gW.out p)) (
   k (gW.out 1)):=by kernel_rfl
theorem gW.ok:gW.Ok:=by
 intro p hp
 rw[gW.eq,gV.run (d:=p) hp]
 simp only[ab,bE,gV.F,bE,gW.F,tk]
 cases tw p <;> rfl
theorem gW.run:gW.RS:=rE [.d tu] gW
def gW.sg:=gW.fS gW.ok
abbrev jD.D:=Int×Int
abbrev jD.Y:=Int
def jD.aU:jD.D->Prop:=λ(p,k)=>je p/\je k
def jD.F:jD.D->jD.Y:=λ(p,k)=>ES p k
def jD:Fs Tryz.prog jD.aU bE jD.F:=fK 63 Tryz.f63 (λ(p,kv)=>([.d tu p,.d tu kv],[])) (λx=>⟨.d tu x,[],[]⟩) [some tu,some tu] [gW.sg,dH.sg]
theorem jD.eq{R:Type}(p kv)(k:K1 R):jD.A (p,kv) k=
 av (gW.call p) λx1=>
 av (dH.call (x1,(gv kv 2305843009213688669))) λx2=>
 k (jD.out x2):=by kernel_rfl
theorem jD.ok:jD.Ok:=by
 rintro⟨p,k⟩ ⟨hp,hk⟩
 have hk:je k:=hk
 have e:=iy (y:=2305843009213688669) hk.1
 have b:je (k%2305843009213688669):=⟨by omega,by omega⟩
 rw[jD.eq,gW.run (d:=p) hp,e]
 simp only[ab,bE,gW.F]
 rw[dH.run (d:=(tk p,k%2305843009213688669)) ⟨(D1 p).u,b⟩]
 rfl
theorem jD.run:jD.RS:=rE [.d tu,.d tu] jD
def jD.sg:=jD.fS jD.ok
abbrev jL.D:=Int
abbrev jL.Y:=Int
def jL.aU:jL.D->Prop:=λk=>je k
def jL.F:jL.D->jL.Y:=λk=>jw k
def jL:Fs Tryz.prog jL.aU bE jL.F:=fK 14 Tryz.f14 (λkv=>([.d tu kv],[])) (λx=>⟨.d tu x,[],[]⟩) [some tu] [jD.sg]
theorem jL.eq{R:Type}(kv)(k:K1 R):jL.A kv k=
 av (jD.call (4,kv)) λx1=>
 k (jL.out x1):=by kernel_rfl
theorem jL.ok:jL.Ok:=by
 intro k hk
 rw[jL.eq,jD.run (d:=(4,k)) ⟨⟨by omega,by omega⟩,hk⟩]
 rfl
theorem jL.run:jL.RS:=rE [.d tu] jL
def jL.sg:=jL.fS jL.ok
abbrev iP.L0.D:=Int×Bs×Int×Int
abbrev iP.L0.Y:=Int
abbrev iP.D:=Bs
abbrev iP.Y:=Int
def iP.L0.aU:iP.L0.D->Prop:=λ(o,l,n,i)=>Pn o/\(∀x∈l,je x)/\l.length<=1000000000/\n=l.length/\∃k:Nat,k<=l.length/\i=k
def iP.L0.F:iP.L0.D->iP.L0.Y:=λ(o,l,n,i)=>(l.drop i.toNat).foldl (λo p=>qs o (tk p)) o
def iP.aU:iP.D->Prop:=λl=>(∀x∈l,je x)/\l.length<=1000000000
def iP.F:iP.D->iP.Y:=λl=>wh l
def iP.L0:Ls iP.L0.aU bE iP.L0.F:=pG (λ(outv,t6,t7,t8)=>⟨([.undef,.undef,.undef,.d tu outv,.undef,.undef,.d tU t6,.d ti t7,.d ti t8]++bj 9 []),[],(List.replicate 18 [])⟩) (λx=>(.exit 0,⟨([.undef,.undef,.undef,.d tu x]++bj 14 []),[],(List.replicate 18 [])⟩))
def iP:Fs Tryz.prog iP.aU bE iP.F:=fK 242 Tryz.f242 (λl=>([.d tU l],[])) (λx=>⟨.d tu x,[],[]⟩) [some tU] [gW.sg,ij.sg] {loops:=oM [(3,{bm:=[3,6,7,8]})],outs:=oL [(3,{bm:=[3]},{bm:=[2]})],iA:=pq [(3,iP.L0.E)]}
theorem iP.L0.run:iP.L0.RS:=rL [.d tu,.d tU,.d ti,.d ti] iP.L0
theorem iP.L0.step{R:Type}(outv t6 t7 t8)(kn:K2 R)(kx:K3 R):iP.R 0 iP.L0 (outv,t6,t7,t8) kn kx=
  aJ ((ik t8 t7)) (
   aJ (eY t8 (t6.length:Int)) (
   av (gW.call (nth tu t6 (Int.toNat t8))) λx1=>
   av (ij.call (outv,x1)) λx2=>
   kn (iP.L0.st (x2,t6,t7,(bt .i64 t8 1)))) none) (
   iP.L0.go kx outv):=by kernel_rfl
theorem iP.eq{R:Type}(l)(k:K1 R):iP.A l k=
 av (iP.L0.call (1,l,(l.length:Int),0)) λx3=>
 k (iP.out x3):=by kernel_rfl
theorem iP.L0.ok:(iP.lE 0 iP.L0):=by
 refine(iP.mr 0 iP.L0) (λ(o,l,n,i)=>l.length - i.toNat) ?_
 rintro⟨o,l,n,i⟩ ⟨ho,hl,hb,rfl,k,hk,rfl⟩
 have ho:Pn o:=ho
 have hb:l.length<=1000000000:=hb
 have hk:k<=l.length:=hk
 by_cases h:k < l.length
 ·left
  have hx:=hl _ (bw h)
  have n1:nth (.int .u64) l k=l[k]:=dg (t:= .int .u64) h
  refine⟨(qs o (tk l[k]),l,l.length,((k+1:Nat):Int)),⟨ud _ _,hl,hb,rfl,k+1,by omega,rfl⟩,by simp only[aa];omega,?_,λkn kx=> ?_⟩
  ·simp only[bE,iP.L0.F,aa]
   rw[aq h]
   rfl
  ·rw[iP.L0.step]
   simp(disch:=omega) only[↓S1,↓if_pos,↓if_neg,if_pos,if_neg,if_true,if_false,S2,n1]
   rw[gW.run (d:=l[k]) hx]
   simp only[ab,bE,gW.F]
   rw[ij.run (d:=(o,tk l[k])) ⟨ho.u,(D1 _).u⟩]
   rfl
 ·right
  obtain rfl:k=l.length:=by omega
  intro R kn kx
  rw[iP.L0.step]
  simp(disch:=omega) only[↓S1,↓if_pos,↓if_neg,if_pos,if_neg,if_true,if_false,S2,bE,iP.L0.F,aQ]
  rfl
theorem iP.ok:iP.Ok:=by
 rintro l ⟨hl,hb⟩
 rw[iP.eq,iP.L0.run (d:=(1,l,l.length,0)) ⟨⟨by omega,by omega⟩,hl,hb,rfl,0,by omega,rfl⟩]
 rfl
theorem iP.run:iP.RS:=rE [.d tU] iP
def iP.sg:=iP.fS iP.ok 1 ⟨.hZ iP.L0.ok,trivial⟩
abbrev qS.D:=Int×Int
abbrev qS.Y:=Int
def qS.aU:qS.D->Prop:=λ(p,q)=>je p/\je q
def qS.F:qS.D->qS.Y:=λ(p,q)=>wh [p,q]
def qS:Fs Tryz.prog qS.aU bE qS.F:=fK 195 Tryz.f195 (λ(p,q)=>([.d tu p,.d tu q],[])) (λx=>⟨.d tu x,[],[]⟩) [some tu,some tu] [iP.sg]
theorem qS.eq{R:Type}(p q)(k:K1 R):qS.A (p,q) k=
 av (iP.call [p,q]) λx1=>
 k (qS.out x1):=by kernel_rfl
theorem qS.ok:qS.Ok:=by
 rintro⟨p,q⟩ ⟨hp,hq⟩
 have h:iP.aU [p,q]:=⟨by intro x hx;simp only[dd,jO,or_false]at hx;rcases hx with rfl | rfl <;> assumption,by simp only[aD,aZ];omega⟩
 rw[qS.eq,iP.run h]
 rfl
theorem qS.run:qS.RS:=rE [.d tu,.d tu] qS
def qS.sg:=qS.fS qS.ok
def Qn(x:Int):Prop:=0<=x/\x < 2305843009213688669
theorem Qn.u{x:Int}(h:Qn x):je x:=⟨h.1,by have:=h.2;omega⟩
def CH(a:Int):Int:=a%2305843009213688669
theorem EO(a:Int):Qn (CH a):=⟨iC _ (by omega),gS _ (by omega)⟩
def Ld(a b:Int):Int:=(CH a+CH b)%2305843009213688669
def CV(a b:Int):Int:=CH a*CH b%2305843009213688669
def uZ(h:List Int):Int:=h.foldl (λn b=>(n*256+b)%2305843009213688668) 0+1
def D7.b(n:Int):Prop:=0<=n/\n < 2305843009213688668
theorem Bf(h:List Int)(n:Int)(hn:D7.b n):D7.b (h.foldl (λn b=>(n*256+b)%2305843009213688668) n):=by
 induction h generalizing n with
 |nil=>exact hn
 |cons p l ih=>exact ih _ ⟨iC _ (by omega),gS _ (by omega)⟩
theorem Bg(h:List Int):0 < uZ h/\uZ h < 2305843009213688669:=by
 have:=Bf h 0 ⟨by omega,by omega⟩
 have h1:=this.1
 have h2:=this.2
 unfold uZ
 omega
theorem Nf(a b:Int):Qn (Ld a b):=⟨iC _ (by omega),gS _ (by omega)⟩
theorem Jl(a b:Int):Qn (CV a b):=⟨iC _ (by omega),gS _ (by omega)⟩
abbrev gk.D:=Int
abbrev gk.Y:=Bool
def gk.aU:gk.D->Prop:=λ_=>True
def gk.F:gk.D->gk.Y:=λa=>ik a 2305843009213688669
def gk:Fs Tryz.prog gk.aU bE gk.F:=fK 65 Tryz.f65 (λa=>([.d tu a],[])) (λx=>⟨.d .bool x,[],[]⟩) [some tu]
theorem gk.eq{R:Type}(a)(k:K1 R):gk.A a k=
 k (gk.out (ik a 2305843009213688669)):=by kernel_rfl
theorem gk.ok:gk.Ok:=by
 intro a _
 rw[gk.eq]
 rfl
theorem gk.run:gk.RS:=rE [.d tu] gk
def gk.sg:=gk.fS gk.ok
abbrev wa.D:=Int
abbrev wa.Y:=Int
def wa.aU:wa.D->Prop:=λa=>je a
def wa.F:wa.D->wa.Y:=λa=>CH a
def wa:Fs Tryz.prog wa.aU bE wa.F:=fK 243 Tryz.f243 (λa=>([.d tu a],[])) (λx=>⟨.d tu x,[],[]⟩) [some tu]
theorem wa.eq{R:Type}(a)(k:K1 R):wa.A a k=
 k (wa.out (gv a 2305843009213688669)):=by kernel_rfl
theorem wa.ok:wa.Ok:=by
 intro a ha
 rw[wa.eq,iy ha.1]
 rfl
theorem wa.run:wa.RS:=rE [.d tu] wa
def wa.sg:=wa.fS wa.ok
abbrev mi.D:=Int×Int
abbrev mi.Y:=Int
def mi.aU:mi.D->Prop:=λ(a,b)=>Qn a/\Qn b
def mi.F:mi.D->mi.Y:=λ(a,b)=>(a+b)%2305843009213688669
def mi:Fs Tryz.prog mi.aU bE mi.F:=fK 244 Tryz.f244 (λ(a,b)=>([.d tu a,.d tu b],[])) (λx=>⟨.d tu x,[],[]⟩) [some tu,some tu]
theorem mi.eq{R:Type}(a b)(k:K1 R):mi.A (a,b) k=
 k (mi.out (gv (bt .u64 a b) 2305843009213688669)):=by kernel_rfl
theorem mi.ok:mi.Ok:=by
 rintro⟨a,b⟩ ⟨ha,hb⟩
 have ha:Qn a:=ha
 have hb:Qn b:=hb
 obtain⟨h1,h2⟩:=ha
 obtain⟨h3,h4⟩:=hb
 have e:bt .u64 a b=a+b:=by rw[iJ];omega
 rw[mi.eq,e,iy (by omega)]
 rfl
theorem mi.run:mi.RS:=rE [.d tu,.d tu] mi
def mi.sg:=mi.fS mi.ok
abbrev jC.D:=Int×Int
abbrev jC.Y:=Int
def jC.aU:jC.D->Prop:=λ(a,b)=>Qn a/\Qn b
def jC.F:jC.D->jC.Y:=λ(a,b)=>a*b%2305843009213688669
def jC:Fs Tryz.prog jC.aU bE jC.F:=fK 245 Tryz.f245 (λ(a,b)=>([.d tu a,.d tu b],[])) (λx=>⟨.d tu x,[],[]⟩) [some tu,some tu] [jh.sg,iZ.sg]
theorem jC.eq{R:Type}(a b)(k:K1 R):jC.A (a,b) k=
 av (jh.call (a,b)) λx1=>
 av (iZ.call (x1.1,x1.2,2305843009213688669)) λx2=>
 k (jC.out x2):=by kernel_rfl
theorem jC.ok:jC.Ok:=by
 rintro⟨a,b⟩ ⟨ha,hb⟩
 have ha:Qn a:=ha
 have hb:Qn b:=hb
 obtain⟨m1,m2⟩:=zj ha.1 (show a<=18446744073709551615 by have:=ha.2;omega) hb.1 (show b<=18446744073709551615 by have:=hb.2;omega)
 have n:(18446744073709551615:Int)*18446744073709551615=340282366920938463426481119284349108225:=rfl
 rw[n]at m2
 have p:iZ.aU (a*b / 18446744073709551616,a*b%18446744073709551616,2305843009213688669):=⟨Or.inr (Or.inl rfl),by omega,by omega,by omega,by omega⟩
 rw[jC.eq,jh.run (d:=(a,b)) ⟨ha.u,hb.u⟩]
 simp only[ab,bE,jh.F]
 rw[iZ.run p]
 simp only[ab,bE,iZ.F,Cx]
 rfl
theorem jC.run:jC.RS:=rE [.d tu,.d tu] jC
def jC.sg:=jC.fS jC.ok
abbrev rv.D:=Int×Int
abbrev rv.Y:=Int
def rv.aU:rv.D->Prop:=λ(a,b)=>je a/\je b
def rv.F:rv.D->rv.Y:=λ(a,b)=>Ld a b
def rv:Fs Tryz.prog rv.aU bE rv.F:=fK 196 Tryz.f196 (λ(a,b)=>([.d tu a,.d tu b],[])) (λx=>⟨.d tu x,[],[]⟩) [some tu,some tu] [wa.sg,mi.sg]
theorem rv.eq{R:Type}(a b)(k:K1 R):rv.A (a,b) k=
 av (wa.call a) λx1=>
 av (wa.call b) λx2=>
 av (mi.call (x1,x2)) λx3=>
 k (rv.out x3):=by kernel_rfl
theorem rv.ok:rv.Ok:=by
 rintro⟨a,b⟩ ⟨ha,hb⟩
 rw[rv.eq,wa.run (d:=a) ha,wa.run (d:=b) hb]
 simp only[ab,bE,wa.F]
 rw[mi.run (d:=(CH a,CH b)) ⟨EO a,EO b⟩]
 rfl
theorem rv.run:rv.RS:=rE [.d tu,.d tu] rv
def rv.sg:=rv.fS rv.ok
abbrev qP.D:=Int×Int
abbrev qP.Y:=Int
def qP.aU:qP.D->Prop:=λ(a,b)=>je a/\je b
def qP.F:qP.D->qP.Y:=λ(a,b)=>CV a b
def qP:Fs Tryz.prog qP.aU bE qP.F:=fK 197 Tryz.f197 (λ(a,b)=>([.d tu a,.d tu b],[])) (λx=>⟨.d tu x,[],[]⟩) [some tu,some tu] [wa.sg,jC.sg]
theorem qP.eq{R:Type}(a b)(k:K1 R):qP.A (a,b) k=
 av (wa.call a) λx1=>
 av (wa.call b) λx2=>
 av (jC.call (x1,x2)) λx3=>
 k (qP.out x3):=by kernel_rfl
theorem qP.ok:qP.Ok:=by
 rintro⟨a,b⟩ ⟨ha,hb⟩
 rw[qP.eq,wa.run (d:=a) ha,wa.run (d:=b) hb]
 simp only[ab,bE,wa.F]
 rw[jC.run (d:=(CH a,CH b)) ⟨EO a,EO b⟩]
 rfl
theorem qP.run:qP.RS:=rE [.d tu,.d tu] qP
def qP.sg:=qP.fS qP.ok
abbrev eP.L0.D:=Int×Bs×Int
abbrev eP.L0.Y:=Int
abbrev eP.D:=Bs
abbrev eP.Y:=Int
def eP.L0.aU:eP.L0.D->Prop:=λ(n,h,i)=>D7.b n/\h.length=32/\Bytes h/\∃k:Nat,k<=32/\i=k
def eP.L0.F:eP.L0.D->eP.L0.Y:=λ(n,h,i)=>(h.drop i.toNat).foldl (λn b=>(n*256+b)%2305843009213688668) n
def eP.aU:eP.D->Prop:=λh=>h.length=32/\Bytes h
def eP.F:eP.D->eP.Y:=λh=>uZ h
def eP.L0:Ls eP.L0.aU bE eP.L0.F:=pG (λ(n,t6,t7)=>⟨([.undef,.undef,.undef,.d tu n,.undef,.undef,.d tH t6,.d ti t7]++bj 13 []),[],(List.replicate 21 [])⟩) (λx=>(.exit 0,⟨([.undef,.undef,.undef,.d tu x]++bj 17 []),[],(List.replicate 21 [])⟩))
def eP:Fs Tryz.prog eP.aU bE eP.F:=fK 136 Tryz.f136 (λh=>([.d tH h],[])) (λx=>⟨.d tu x,[],[]⟩) [some tH] [iZ.sg] {loops:=oM [(3,{bm:=[3,6,7]})],outs:=oL [(3,{bm:=[3]},{bm:=[2]})],iA:=pq [(3,eP.L0.E)]}
theorem eP.L0.run:eP.L0.RS:=rL [.d tu,.d tB,.d ti] eP.L0
theorem eP.L0.step{R:Type}(n t6 t7)(kn:K2 R)(kx:K3 R):eP.R 0 eP.L0 (n,t6,t7) kn kx=
  aJ ((ik t7 32)) (
   aJ (eY t7 32) (
   av (iZ.call ((cr .u64 n 56),(cW .or .u64 (nk .u64 n 8) (dP .u64 (nth tb t6 (Int.toNat t7)))),2305843009213688668)) λx1=>
   kn (eP.L0.st (x1,t6,(bt .i64 t7 1)))) none) (
   eP.L0.go kx n):=by kernel_rfl
theorem eP.eq{R:Type}(h)(k:K1 R):eP.A h k=
 av (eP.L0.call (0,h,0)) λx2=>
 k (eP.out (bt .u64 x2 1)):=by kernel_rfl
theorem FX{n b:Int}(hn:D7.b n)(hb:CJ b):cr .u64 n 56*18446744073709551616+cW .or .u64 (nk .u64 n 8) (dP .u64 b)=n*256+b/\je (cr .u64 n 56)/\je (cW .or .u64 (nk .u64 n 8) (dP .u64 b)):=by
 obtain⟨h1,h2⟩:=hn
 obtain⟨h3,h4⟩:=hb
 have p56:(2:Int)^56=72057594037927936:=rfl
 have p8:(2:Int)^8=256:=rfl
 have e:dP .u64 b=b:=by rw[tg];omega
 rw[pY 56 (by rfl) (by omega),pX 8 (by rfl) (by omega),p56,p8,e,yd 8 256 rfl (by omega) (by omega) (by omega) (by omega) (by omega) (by omega)]
 exact⟨by omega,⟨by omega,by omega⟩,by omega,by omega⟩
theorem eP.L0.ok:(eP.lE 0 eP.L0):=by
 refine(eP.mr 0 eP.L0) (λ(n,h,i)=>32 - i.toNat) ?_
 rintro⟨n,h,i⟩ ⟨hn,hl,hb,k,hk,rfl⟩
 have hn:D7.b n:=hn
 have hl:h.length=32:=hl
 have hb:Bytes h:=hb
 by_cases jt:k < 32
 ·left
  have hx:CJ (h[k]'(by omega)):=hb _ (bw _)
  have n1:nth (.int .u8) h k=h[k]'(by omega):=dg (t:= .int .u8) (by omega)
  obtain⟨d1,d2,d3⟩:=FX hn hx
  refine⟨((n*256+h[k]'(by omega))%2305843009213688668,h,((k+1:Nat):Int)),⟨⟨by omega,by omega⟩,hl,hb,k+1,by omega,rfl⟩,by simp only[aa];omega,?_,λkn kx=> ?_⟩
  ·simp only[bE,eP.L0.F,aa]
   rw[aq (by omega:k < h.length)]
   rfl
  ·rw[eP.L0.step]
   simp(disch:=omega) only[↓S1,↓if_pos,↓if_neg,if_pos,if_neg,if_true,if_false,S2,n1]
   rw[iZ.run (d:=(_,_,2305843009213688668)) ⟨Or.inr (Or.inr rfl),d2.1,d2.2,d3.1,d3.2⟩]
   simp only[ab,bE,iZ.F,d1]
 ·right
  obtain rfl:k=32:=by omega
  intro R kn kx
  rw[eP.L0.step]
  simp(disch:=omega) only[↓S1,↓if_pos,↓if_neg,if_pos,if_neg,if_true,if_false,S2,bE,eP.L0.F]
  rw[eu (by omega)]
  rfl
theorem eP.ok:eP.Ok:=by
 rintro h ⟨hl,hb⟩
 have e:=Bf h 0 ⟨by omega,by omega⟩
 have h1:=e.1
 have h2:=e.2
 rw[eP.eq,eP.L0.run (d:=(0,h,0)) ⟨⟨by omega,by omega⟩,hl,hb,0,by omega,rfl⟩]
 simp only[ab,bE,eP.L0.F,bE,eP.F,uZ,bH,aI]
 revert h1 h2
 generalize h.foldl (λn b=>(n*256+b)%2305843009213688668) 0=m
 intro h1 h2
 have e:bt .u64 m 1=m+1:=by rw[iJ];omega
 rw[e]
theorem eP.run:eP.RS:=rE [.d tB] eP
def eP.sg:=eP.fS eP.ok 1 ⟨.hZ eP.L0.ok,trivial⟩
theorem Fz(n:Int): [dP .u8 (cr .u64 n 56),dP .u8 (cr .u64 n 48),dP .u8 (cr .u64 n 40),dP .u8 (cr .u64 n 32),dP .u8 (cr .u64 n 24),dP .u8 (cr .u64 n 16),dP .u8 (cr .u64 n 8),dP .u8 (cr .u64 n 0)]=lO n:=Hx n
theorem fi{α:Type}{l:List α}{n:Nat}(h:l.length=n):cut l 0 n=l:=by subst h;simp[cut]
theorem G8{n:ByteArray}{a b c:List Int}(hn:n.size<=100)(ha:a.length<=1000000)(hb:b.length<=1000000)(hc:c.length<=1000000):fG.aU (n,[a,b,c]):=by
 show(zz _ [a,b,c]).length<=_
 rw[zz]
 simp only[mu,List.flatMap_cons,List.flatMap_nil,aj,cF,kh,aZ]
 omega
theorem G7{n:ByteArray}{a b:List Int}(hn:n.size<=100)(ha:a.length<=1000000)(hb:b.length<=1000000):fG.aU (n,[a,b]):=by
 show(zz _ [a,b]).length<=_
 rw[zz]
 simp only[mu,List.flatMap_cons,List.flatMap_nil,aj,cF,kh,aZ]
 omega
theorem G6{n:ByteArray}{a:List Int}(hn:n.size<=100)(ha:a.length<=1000000):fG.aU (n,[a]):=by
 show(zz _ [a]).length<=_
 rw[zz]
 simp only[mu,List.flatMap_cons,List.flatMap_nil,aj,cF,kh,aZ]
 omega
def Sm(m:List Int):Prop:=m.length=32/\Bytes m
theorem Qt(b:List Int):Sm (Qo b):=⟨Iz b,JO b⟩
theorem Cm(n:List Int)(ps:List (List Int)):Sm (tag n ps):=Qt _
def Qv(n:ByteArray)(ps:List (List Int)):List Int:=tag (bC n) ps
def Sn:ByteArray:=⟨#[115,105,103]⟩
def Qe:ByteArray:=⟨#[110,111,110,99,101]⟩
def tz(r p:Int)(m:List Int):Int:=uZ (Qv Sn [lO r,lO p,m])
theorem FH(r p:Int)(m:List Int):Qn (tz r p m):=by
 have:=Bg (Qv Sn [lO r,lO p,m])
 exact⟨by unfold tz;omega,by unfold tz;omega⟩
def UO(s:Sg):Prop:=je s.1/\je s.2.1
def Pe(p:Int)(m:List Int)(t:Int)(s:Sg):Bool:=
 if p=1\/tw p=false\/tw t=false\/tw s.1=false\/¬s.2.1 < 2305843009213688669 then false
 else decide (jw s.2.1=wh [s.1,ES p (tz s.1 p m),Up t])
def Ee(k nonce:Int)(m:List Int)(t:Int):Sg:=
 (wh [jw nonce,t],Ld nonce (CV (tz (wh [jw nonce,t]) (jw k) m) k),())
def Qh(k:Int)(m:List Int):Int:=uZ (Qv Qe [lO k,m])
def pa(k:Int)(m:List Int):Sg:=if k < 2305843009213688669/\k≠0 then Ee k (Qh k m) m 1 else(0,0,())
abbrev gU.D:=Int
abbrev gU.Y:=Bs
def gU.aU:gU.D->Prop:=λ_=>True
def gU.F:gU.D->gU.Y:=λn=>lO n
def gU:Fs Tryz.prog gU.aU bE gU.F:=fK 137 Tryz.f137 (λn=>([.d tu n],[])) (λx=>⟨.d tB x,[],[]⟩) [some tu] [] {loops:=oM [(3,{bm:=[0,3,7,8],sites:=[5]})],outs:=oL [(3,{bm:=[3],sites:=[5]},{bm:=[2],sites:=[5]})],res:=[some tB]} 12
theorem gU.eq{R:Type}(n)(k:K1 R):gU.A n k=
 k (gU.out [(dP .u8 (cr .u64 n 56)),(dP .u8 (cr .u64 n 48)),(dP .u8 (cr .u64 n 40)),(dP .u8 (cr .u64 n 32)),(dP .u8 (cr .u64 n 24)),(dP .u8 (cr .u64 n 16)),(dP .u8 (cr .u64 n 8)),(dP .u8 (cr .u64 n 0))]):=by kernel_rfl
theorem gU.ok:gU.Ok:=by
 intro n _
 rw[gU.eq,Fz]
 rfl
theorem gU.run:gU.RS:=rE [.d tu] gU
def gU.sg:=gU.fS gU.ok 1 ⟨.none (by kernel_rfl),trivial⟩
abbrev lP.D:=Int×Int×Bs
abbrev lP.Y:=Int
def lP.aU:lP.D->Prop:=λ(r,p,m)=>Sm m
def lP.F:lP.D->lP.Y:=λ(r,p,m)=>tz r p m
def lP:Fs Tryz.prog lP.aU bE lP.F:=fK 198 Tryz.f198 (λ(r,p,m)=>([.d tu r,.d tu p,.d tH m],[])) (λx=>⟨.d tu x,[],[]⟩) [some tu,some tu,some tH] [gU.sg,fG.sg,eP.sg]
theorem lP.eq{R:Type}(r p m)(k:K1 R):lP.A (r,p,m) k=
 av (gU.call r) λx1=>
 av (gU.call p) λx2=>
 av (fG.call ((⟨#[115,105,103]⟩:ByteArray),[x1,x2,(cut m 0 32)])) λx3=>
 av (eP.call x3) λx4=>
 k (lP.out x4):=by kernel_rfl
theorem lP.ok:lP.Ok:=by
 rintro⟨r,p,m⟩ hm
 have hm:Sm m:=hm
 rw[lP.eq,gU.run (d:=r) trivial,gU.run (d:=p) trivial]
 simp only[ab,bE,gU.F]
 rw[fi hm.1,fG.run (G8 (by decide) (by rw[cF];omega) (by rw[cF];omega) (by rw[hm.1];omega))]
 simp only[ab,bE,fG.F]
 rw[eP.run (d:=tag (bC (⟨#[115,105,103]⟩:ByteArray)) [lO r,lO p,m]) (Cm _ _)]
 rfl
theorem lP.run:lP.RS:=rE [.d tu,.d tu,.d tB] lP
def lP.sg:=lP.fS lP.ok
abbrev pN.D:=Int
abbrev pN.Y:=Bool
def pN.aU:pN.D->Prop:=λ_=>True
def pN.F:pN.D->pN.Y:=λk=>decide (k < 2305843009213688669/\k≠0)
def pN:Fs Tryz.prog pN.aU bE pN.F:=fK 134 Tryz.f134 (λkv=>([.d tu kv],[])) (λx=>⟨.d .bool x,[],[]⟩) [some tu] [gk.sg]
theorem pN.eq{R:Type}(kv)(k:K1 R):pN.A kv k=
  av (gk.call kv) λx1=>
  aJ (x1) (
   k (pN.out (sR kv 0))) (
   k (pN.out false)):=by kernel_rfl
theorem pN.ok:pN.Ok:=by
 intro k _
 rw[pN.eq,gk.run (d:=k) trivial]
 simp only[ab,bE,gk.F,bE,pN.F]
 by_cases h:k < 2305843009213688669
 ·rw[bh h,ae]
  by_cases h0:k=0
  ·rw[cS h0,bf (λx=>x.2 h0)]
  ·rw[eI h0,aP ⟨h,h0⟩]
 ·rw[aR h,ah,bf (λx=>h x.1)]
theorem pN.run:pN.RS:=rE [.d tu] pN
def pN.sg:=pN.fS pN.ok
abbrev ig.D:=Int×Int×Bs×Int
abbrev ig.Y:=Sg
def ig.aU:ig.D->Prop:=λ(k,n,m,t)=>je k/\je n/\Sm m/\je t
def ig.F:ig.D->ig.Y:=λ(k,n,m,t)=>Ee k n m t
def ig:Fs Tryz.prog ig.aU bE ig.F:=fK 135 Tryz.f135 (λ(kv,nonce,m,t)=>([.d tu kv,.d tu nonce,.d tH m,.d tu t],[])) (λx=>⟨.d zy x,[],[]⟩) [some tu,some tu,some tH,some tu] [jL.sg,qS.sg,lP.sg,qP.sg,rv.sg]
theorem ig.eq{R:Type}(kv nonce m t)(k:K1 R):ig.A (kv,nonce,m,t) k=
 av (jL.call nonce) λx1=>
 av (qS.call (x1,t)) λx2=>
 av (jL.call kv) λx3=>
 av (lP.call (x2,x3,m)) λx4=>
 av (qP.call (x4,kv)) λx5=>
 av (rv.call (nonce,x5)) λx6=>
 k (ig.out (x2,(x6,()))):=by kernel_rfl
theorem ig.ok:ig.Ok:=by
 rintro⟨k,n,m,t⟩ ⟨hk,hn,hm,ht⟩
 have hk:je k:=hk
 have hn:je n:=hn
 have hm:Sm m:=hm
 have ht:je t:=ht
 rw[ig.eq,jL.run (d:=n) hn]
 simp only[ab,bE,jL.F]
 rw[qS.run (d:=(jw n,t)) ⟨(MB _ _).u,ht⟩,jL.run (d:=k) hk]
 simp only[ab,bE,jL.F,bE,qS.F]
 rw[lP.run (d:=(wh [jw n,t],jw k,m)) hm]
 simp only[ab,bE,lP.F]
 rw[qP.run (d:=(tz (wh [jw n,t]) (jw k) m,k)) ⟨(FH _ _ _).u,hk⟩]
 simp only[ab,bE,qP.F]
 rw[rv.run (d:=(n,CV (tz (wh [jw n,t]) (jw k) m) k)) ⟨hn,(Jl _ _).u⟩]
 rfl
theorem ig.run:ig.RS:=rE [.d tu,.d tu,.d tB,.d tu] ig
def ig.sg:=ig.fS ig.ok
abbrev kZ.D:=Int×Bs
abbrev kZ.Y:=Sg
def kZ.aU:kZ.D->Prop:=λ(k,m)=>je k/\Sm m
def kZ.F:kZ.D->kZ.Y:=λ(k,m)=>pa k m
def kZ:Fs Tryz.prog kZ.aU bE kZ.F:=fK 69 Tryz.f69 (λ(kv,m)=>([.d tu kv,.d tH m],[])) (λx=>⟨.d zy x,[],[]⟩) [some tu,some tH] [pN.sg,gU.sg,fG.sg,eP.sg,ig.sg]
theorem kZ.eq{R:Type}(kv m)(k:K1 R):kZ.A (kv,m) k=
  av (pN.call kv) λx1=>
  aJ ((!x1)) (
   k (kZ.out (0,(0,())))) (
   av (gU.call kv) λx2=>
   av (fG.call ((⟨#[110,111,110,99,101]⟩:ByteArray),[x2,(cut m 0 32)])) λx3=>
   av (eP.call x3) λx4=>
   av (ig.call (kv,x4,m,1)) λx5=>
   k (kZ.out x5)):=by kernel_rfl
theorem kZ.ok:kZ.Ok:=by
 rintro⟨k,m⟩ ⟨hk,hm⟩
 have hk:je k:=hk
 have hm:Sm m:=hm
 rw[kZ.eq,pN.run (d:=k) trivial]
 simp only[ab,bE,pN.F,bE,kZ.F,pa]
 by_cases h:k < 2305843009213688669/\k≠0
 ·rw[aP h,if_pos h,gU.run (d:=k) trivial,fi hm.1]
  simp only[cq,ah,ab,bE,gU.F]
  rw[fG.run (G7 (by decide) (by rw[cF];omega) (by rw[hm.1];omega))]
  simp only[ab,bE,fG.F]
  rw[eP.run (d:=tag (bC (⟨#[110,111,110,99,101]⟩:ByteArray)) [lO k,m]) (Cm _ _)]
  simp only[ab,bE,eP.F]
  have q:=Bg (tag (bC (⟨#[110,111,110,99,101]⟩:ByteArray)) [lO k,m])
  rw[ig.run (d:=(k,uZ (tag (bC (⟨#[110,111,110,99,101]⟩:ByteArray)) [lO k,m]),m,1)) ⟨hk,⟨by omega,by omega⟩,hm,by omega,by omega⟩]
  rfl
 ·rw[bf h,if_neg h];rfl
theorem kZ.run:kZ.RS:=rE [.d tu,.d tB] kZ
def kZ.sg:=kZ.fS kZ.ok
def Db(l:List Int):Prop:=∀x∈l,je x
def Qz(b:sN):Prop:=Db b.1/\je b.2.2.2.1
def Hh(l:Lk):Prop:=∀b∈l.1,Qz b
def y7(n:Int):Bool:=decide (0<=n/\n<=1048576)
def qM(b:sN):Bool:=decide (b.1.length<=12) && (b.1.all tw && (y7 b.2.1 && (y7 b.2.2.1 && (decide (b.2.2.2.1=0) || tw b.2.2.2.1))))
def nC(l:Lk):Bool:=l.1.all qM && decide (0 < l.1.length/\l.1.length<=4)
def rn:List Int->Int->Int⊕Unit
 |[],_=> .inr ()
 |p::ps,i=>if tw p then rn ps (i+1) else .inl i
def IU(l:List Int):Int:=match rn l 0 with | .inl i=>i | .inr _=> -1
theorem zG:∀(l:List Int) (i:Int),0<=i->(match rn l i with | .inl i=>decide (i>=0) | .inr _=>false)= !(l.all tw)
 |[],_,_=>rfl
 |p::ps,i,h=>by
  rw[rn,ff]
  cases hp:tw p
  ·simp[h]
  ·simp only[if_true,bO]
   exact zG ps (i+1) (by omega)
theorem JI(l:List Int):qQ (IU l) 0= !(l.all tw):=by
 have:=zG l 0 (by omega)
 unfold IU qQ
 cases h:rn l 0
 ·rw[h]at this;exact this
 ·rw[h]at this;rw[<-this];rfl
abbrev od.D:=Int
abbrev od.Y:=Bool
def od.aU:od.D->Prop:=λp=>je p
def od.F:od.D->od.Y:=λp=> !tw p
def od:Fs Tryz.prog od.aU bE od.F:=fK 150 Tryz.f150 (λp=>([.d tu p],[])) (λx=>⟨.d .bool x,[],[]⟩) [some tu] [gV.sg]
theorem od.eq{R:Type}(p)(k:K1 R):od.A p k=
 av (gV.call p) λx1=>
 k (od.out (!x1)):=by kernel_rfl
theorem od.ok:od.Ok:=by
 intro p hp
 rw[od.eq,gV.run (d:=p) hp]
 rfl
theorem od.run:od.RS:=rE [.d tu] od
def od.sg:=od.fS od.ok
abbrev bQ.L0.D:=Bs×Int×Int
def bQ.L0.st:bQ.L0.D->AS:=λ(qI,t7,t8)=>⟨([.d tU qI,.fn 150 (.nil)]++bj 5 ([.d ti t7,.d ti t8]++bj 10 [])),[],(List.replicate 19 [])⟩
abbrev bQ.L0.Y0:=Int
abbrev bQ.L0.X0:=Int
def bQ.L0.dE:bQ.L0.X0->Exit×AS:=λx=>(.ret,⟨(bj 4 ([.d ti x]++bj 14 [])),[],(List.replicate 19 [])⟩)
abbrev bQ.L0.Y1:=Unit
abbrev bQ.L0.X1:=Unit
def bQ.L0.fQ:bQ.L0.X1->Exit×AS:=λx=>(.exit 0,⟨(bj 19 []),[],(List.replicate 19 [])⟩)
abbrev bQ.L0.X:=(bQ.L0.X0)⊕(bQ.L0.X1)
abbrev bQ.L0.Y:=(bQ.L0.Y0)⊕(bQ.L0.Y1)
def bQ.L0.out:bQ.L0.X->Out (Exit×AS):=λx=> .br x.isLeft (.get x.getLeft? λa=> .ok (bQ.L0.dE a)) (.get x.getRight? λb=> .ok (bQ.L0.fQ b))
def bQ.L0.add:bQ.L0.D->bQ.L0.Y->bQ.L0.X:=λ(qI,t7,t8) y=>match y with | .inl y=> .inl y | .inr z=> .inr (z)
abbrev bQ.D:=Bs
abbrev bQ.Y:=Int
def bQ.L0.aU:bQ.L0.D->Prop:=λ(l,n,i)=>Db l/\l.length<=1000000000/\n=l.length/\∃k:Nat,k<=l.length/\i=k
def bQ.L0.F:bQ.L0.D->bQ.L0.Y:=λ(l,n,i)=>rn (l.drop i.toNat) i
def bQ.aU:bQ.D->Prop:=λl=>Db l/\l.length<=1000000000
def bQ.F:bQ.D->bQ.Y:=λl=>IU l
def bQ.L0.E:=eO.hZ bQ.L0.st bQ.L0.aU bQ.L0.add bQ.L0.F bQ.L0.out
def bQ.L0.call:bQ.L0.D->Option bQ.L0.X:=jH bQ.L0.E bQ.L0.st
def bQ:Fs Tryz.prog bQ.aU bE bQ.F:=fK 205 Tryz.f205 (λsv=>([.d tU sv,.fn 150 (.nil)],[])) (λx=>⟨.d ti x,[],[]⟩) [some tU,none] [od.sg] {loops:=oM [(2,{bm:=[0,1,7,8]})],outs:=oL [(2,{},{bm:=[4]})],iA:=pq [(2,bQ.L0.E)]}
def bQ.L0.R:= @gL Tryz.prog (lN bQ.G) bQ.an 0 Tryz.f205 0 _ bQ.L0.st
abbrev bQ.L0.Ok:=nh Tryz.prog (lN bQ.G) bQ.an 0 Tryz.f205 0 bQ.L0.st bQ.L0.aU bQ.L0.add bQ.L0.F bQ.L0.out
theorem bQ.L0.run:mq bQ.L0.call bQ.L0.aU bQ.L0.add bQ.L0.F:=oo (oa [.d tU,.d ti,.d ti] λ_=>by kernel_rfl)
theorem bQ.L0.cM:nM @bQ.L0.R bQ.L0.st bQ.L0.aU bQ.L0.add bQ.L0.F bQ.L0.out bQ.L0.Ok:=oF
theorem bQ.L0.step{R:Type}(qI:Bs)(t7:Int)(t8:Int)(kn:AS->Option R)(kx:Exit->AS->Option R):bQ.L0.R (qI,t7,t8) kn kx=
  aJ ((ik t8 t7)) (
   aJ (eY t8 (((List.length qI):Nat):Int)) (
   av (od.call (nth tu qI (Int.toNat t8))) λx1=>
   aJ (x1) (
    kx (bQ.L0.dE t8).1 (bQ.L0.dE t8).2) (
    kn (bQ.L0.st (qI,t7,(bt .i64 t8 (1:Int)))))) none) (
   kx (bQ.L0.fQ ()).1 (bQ.L0.fQ ()).2):=by kernel_rfl
theorem bQ.eq{R:Type}(sv)(k:K1 R):bQ.A sv k=
  av (bQ.L0.call (sv,(sv.length:Int),0)) λx2=>
  aJ (x2.isLeft) (
   av (x2.getLeft?) λa3=>
   k (bQ.out a3)) (
   av (x2.getRight?) λb4=>
   k (bQ.out (-1))):=by kernel_rfl
theorem bQ.L0.ok:bQ.L0.Ok:=by
 refine bQ.L0.cM (λ(l,n,i)=>l.length - i.toNat) ?_
 rintro⟨l,n,i⟩ ⟨hl,hb,rfl,k,hk,rfl⟩
 have hb:l.length<=1000000000:=hb
 have hk:k<=l.length:=hk
 by_cases h:k < l.length
 ·have hx:=hl _ (bw h)
  have n1:nth (.int .u64) l k=l[k]:=dg (t:= .int .u64) h
  have hd:rn (l.drop k) k=if tw l[k] then rn (l.drop (k+1)) ((k+1:Nat):Int) else .inl (k:Int):=by rw[aq h];rfl
  cases hp:tw l[k]
  ·right
   refine⟨bQ.L0.dE (k:Int),?_,λkn kx=> ?_⟩
   ·simp only[bQ.L0.add,bQ.L0.F,aa,hd,hp,bJ,if_false]
    rfl
   ·rw[bQ.L0.step]
    simp(disch:=omega) only[↓S1,↓if_pos,↓if_neg,if_pos,if_neg,if_true,if_false,S2,n1]
    rw[od.run (d:=l[k]) hx]
    simp only[ab,bE,od.F,hp,dX,ae]
  ·left
   refine⟨(l,l.length,((k+1:Nat):Int)),⟨hl,hb,rfl,k+1,by omega,rfl⟩,by simp only[aa];omega,?_,λkn kx=> ?_⟩
   ·simp only[bQ.L0.add,bQ.L0.F,aa,hd,hp,if_true]
   ·rw[bQ.L0.step]
    simp(disch:=omega) only[↓S1,↓if_pos,↓if_neg,if_pos,if_neg,if_true,if_false,S2,n1]
    rw[od.run (d:=l[k]) hx]
    simp only[ab,bE,od.F,hp,cq,ah]
 ·right
  obtain rfl:k=l.length:=by omega
  refine⟨bQ.L0.fQ (),?_,λkn kx=> ?_⟩
  ·simp only[bQ.L0.add,bQ.L0.F,aa,aQ]
   rfl
  ·rw[bQ.L0.step]
   simp(disch:=omega) only[↓S1,↓if_pos,↓if_neg,if_pos,if_neg,if_true,if_false,S2]
theorem bQ.ok:bQ.Ok:=by
 rintro l ⟨hl,hb⟩
 rw[bQ.eq,bQ.L0.run (d:=(l,l.length,0)) ⟨hl,hb,rfl,0,by omega,rfl⟩]
 simp only[ab,bQ.L0.add,bQ.L0.F,bH,aI,bE,bQ.F,IU]
 cases rn l 0 <;> rfl
theorem bQ.run:bQ.RS:=rE [.d tU] bQ
def bQ.sg:=bQ.fS bQ.ok 1 ⟨.hZ bQ.L0.ok,trivial⟩
abbrev fa.D:=Bs
abbrev fa.Y:=Bool
def fa.aU:fa.D->Prop:=λl=>Db l/\l.length<=1000000000
def fa.F:fa.D->fa.Y:=λl=> !(l.all tw)
def fa:Fs Tryz.prog fa.aU bE fa.F:=fK 152 Tryz.f152 (λsv=>([.d tU sv,.fn 150 (.nil)],[])) (λx=>⟨.d .bool x,[],[]⟩) [some tU,none] [bQ.sg]
theorem fa.eq{R:Type}(sv)(k:K1 R):fa.A sv k=
 av (bQ.call sv) λx1=>
 k (fa.out (qQ x1 0)):=by kernel_rfl
theorem fa.ok:fa.Ok:=by
 rintro l ⟨hl,hb⟩
 rw[fa.eq,bQ.run (d:=l) ⟨hl,hb⟩]
 simp only[ab,bE,bQ.F,JI]
 rfl
theorem fa.run:fa.RS:=rE [.d tU] fa
def fa.sg:=fa.fS fa.ok
abbrev fV.D:=Int
abbrev fV.Y:=Bool
def fV.aU:fV.D->Prop:=λ_=>True
def fV.F:fV.D->fV.Y:=λn=>y7 n
def fV:Fs Tryz.prog fV.aU bE fV.F:=fK 153 Tryz.f153 (λn=>([.d ti n],[])) (λx=>⟨.d .bool x,[],[]⟩) [some ti]
theorem fV.eq{R:Type}(n)(k:K1 R):fV.A n k=
  aJ ((qQ n 0)) (
   k (fV.out (zS n 1048576))) (
   k (fV.out false)):=by kernel_rfl
theorem fV.ok:fV.Ok:=by
 intro n _
 rw[fV.eq]
 simp only[bE,fV.F,y7]
 by_cases h:0<=n
 ·rw[eQ h,ae]
  by_cases h2:n<=1048576
  ·rw[ix h2,aP ⟨h,h2⟩]
  ·rw[ga h2,bf (λx=>h2 x.2)]
 ·rw[dQ h,ah,bf (λx=>h x.1)]
theorem fV.run:fV.RS:=rE [.d ti] fV
def fV.sg:=fV.fS fV.ok
abbrev bq.L0.D:=Lk×(List sN)×Int×Int
def bq.L0.st:bq.L0.D->AS:=λ(mw,t7,t8,t9)=>⟨([.undef,.ed mK mw,.undef,.fn 150 (.nil),.undef,.undef,.undef,.d (.slice kK) t7,.d ti t8,.d ti t9]++bj 47 []),[],(List.replicate 57 [])⟩
abbrev bq.L0.Y0:=Unit
abbrev bq.L0.X0:=Unit
def bq.L0.dE:bq.L0.X0->Exit×AS:=λx=>(.ret,⟨([.undef,.undef,.d .bool false]++bj 54 []),[],(List.replicate 57 [])⟩)
abbrev bq.L0.Y1:=Unit
abbrev bq.L0.X1:=Lk
def bq.L0.fQ:bq.L0.X1->Exit×AS:=λx=>(.exit 0,⟨([.undef,.ed mK x]++bj 55 []),[],(List.replicate 57 [])⟩)
abbrev bq.L0.X:=(bq.L0.X0)⊕(bq.L0.X1)
abbrev bq.L0.Y:=(bq.L0.Y0)⊕(bq.L0.Y1)
def bq.L0.out:bq.L0.X->Out (Exit×AS):=λx=> .br x.isLeft (.get x.getLeft? λa=> .ok (bq.L0.dE a)) (.get x.getRight? λb=> .ok (bq.L0.fQ b))
def bq.L0.add:bq.L0.D->bq.L0.Y->bq.L0.X:=λ(mw,t7,t8,t9) y=>match y with | .inl y=> .inl y | .inr z=> .inr (mw)
abbrev bq.D:=Lk
abbrev bq.Y:=Bool
def bq.L0.aU:bq.L0.D->Prop:=λ(l,bs,n,i)=>(∀b∈bs,Qz b)/\bs.length<=9223372036854775807/\n=bs.length/\∃k:Nat,k<=bs.length/\i=k
def bq.L0.F:bq.L0.D->bq.L0.Y:=λ(l,bs,n,i)=>if(bs.drop i.toNat).all qM then .inr () else .inl ()
def bq.aU:bq.D->Prop:=λl=>Hh l/\l.1.length<=9223372036854775807
def bq.F:bq.D->bq.Y:=λl=>nC l
def bq.L0.E:=eO.hZ bq.L0.st bq.L0.aU bq.L0.add bq.L0.F bq.L0.out
def bq.L0.call:bq.L0.D->Option bq.L0.X:=jH bq.L0.E bq.L0.st
def bq:Fs Tryz.prog bq.aU bE bq.F:=fK 77 Tryz.f77 (λl=>([.d mK l],[])) (λx=>⟨.d .bool x,[],[]⟩) [some mK] [fa.sg,fV.sg,od.sg] {loops:=oM [(3,{bm:=[1,3,7,8,9]})],outs:=oL [(3,{bm:=[1]},{bm:=[2]})],iA:=pq [(3,bq.L0.E)]}
def bq.L0.R:= @gL Tryz.prog (lN bq.G) bq.an 0 Tryz.f77 0 _ bq.L0.st
abbrev bq.L0.Ok:=nh Tryz.prog (lN bq.G) bq.an 0 Tryz.f77 0 bq.L0.st bq.L0.aU bq.L0.add bq.L0.F bq.L0.out
theorem bq.L0.run:mq bq.L0.call bq.L0.aU bq.L0.add bq.L0.F:=oo (oa [.d mK,.d (.slice kK),.d ti,.d ti] λ_=>by kernel_rfl)
theorem bq.L0.cM:nM @bq.L0.R bq.L0.st bq.L0.aU bq.L0.add bq.L0.F bq.L0.out bq.L0.Ok:=oF
theorem bq.L0.step{R:Type}(mw:Lk)(t7:(List sN))(t8:Int)(t9:Int)(kn:AS->Option R)(kx:Exit->AS->Option R):bq.L0.R (mw,t7,t8,t9) kn kx=
  aJ ((ik t9 t8)) (
   aJ (eY t9 (((List.length t7):Nat):Int)) (
   aJ ((nc (((List.length (nth kK t7 (Int.toNat t9)).1):Nat):Int) (12:Int))) (
    kx (bq.L0.dE ()).1 (bq.L0.dE ()).2) (
    av (fa.call (nth kK t7 (Int.toNat t9)).1) λx1=>
    aJ (x1) (
     kx (bq.L0.dE ()).1 (bq.L0.dE ()).2) (
     av (fV.call (nth kK t7 (Int.toNat t9)).2.1) λx2=>
     aJ ((!x2)) (
      kx (bq.L0.dE ()).1 (bq.L0.dE ()).2) (
      av (fV.call (nth kK t7 (Int.toNat t9)).2.2.1) λx3=>
      aJ ((!x3)) (
       kx (bq.L0.dE ()).1 (bq.L0.dE ()).2) (
       aJ ((sR (nth kK t7 (Int.toNat t9)).2.2.2.1 (0:Int))) (
        av (od.call (nth kK t7 (Int.toNat t9)).2.2.2.1) λx4=>
        aJ (x4) (
         kx (bq.L0.dE ()).1 (bq.L0.dE ()).2) (
         kn (bq.L0.st (mw,t7,t8,(bt .i64 t9 (1:Int)))))) (
        kn (bq.L0.st (mw,t7,t8,(bt .i64 t9 (1:Int)))))))))) none) (
   kx (bq.L0.fQ mw).1 (bq.L0.fQ mw).2):=by kernel_rfl
theorem bq.eq{R:Type}(l)(k:K1 R):bq.A l k=
  av (bq.L0.call (l,l.1,(l.1.length:Int),0)) λx5=>
  aJ (x5.isLeft) (
   av (x5.getLeft?) λa6=>
   k (bq.out false)) (
   av (x5.getRight?) λb7=>
   aJ ((nc (b7.1.length:Int) 0)) (
    k (bq.out (zS (b7.1.length:Int) 4))) (
    k (bq.out false))):=by kernel_rfl
theorem bq.L0.ok:bq.L0.Ok:=by
 refine bq.L0.cM (λ(l,bs,n,i)=>bs.length - i.toNat) ?_
 rintro⟨l,bs,n,i⟩ ⟨hl,hb,rfl,k,hk,rfl⟩
 have hb:bs.length<=9223372036854775807:=hb
 have hk:k<=bs.length:=hk
 by_cases h:k < bs.length
 ·have hx:Qz bs[k]:=hl _ (bw h)
  have n1:nth (.pair (.slice (.int .u64)) (.pair (.int .i64) (.pair (.int .i64) (.pair (.int .u64) .unit)))) bs k=bs[k]:=dg (t:=(.pair (.slice (.int .u64)) (.pair (.int .i64) (.pair (.int .i64) (.pair (.int .u64) .unit))))) h
  have hd:(bs.drop k).all qM=(qM bs[k] && (bs.drop (k+1)).all qM):=by rw[aq h,ff]
  have step:∀ {R:Type} (kn:AS->Option R) (kx:Exit->AS->Option R),bq.L0.R (l,bs,(bs.length:Int),(k:Int)) kn kx=aJ (qM bs[k]) (kn (bq.L0.st (l,bs,(bs.length:Int),((k+1:Nat):Int)))) (kx (bq.L0.dE ()).1 (bq.L0.dE ()).2):=by
   intro R kn kx
   rw[bq.L0.step,bh (by omega),bp (by omega) (by omega),aa,n1,N.pk (by omega)]
   obtain⟨⟨ks,af,dl,sc,u⟩,Rw⟩:∃b,bs[k]=b:=⟨_,rfl⟩
   rw[Rw]at hx ⊢
   have h1:Db ks:=hx.1
   have h2:je sc:=hx.2
   simp only[ae,qM]
   by_cases hk:ks.length<=12
   ·rw[cj (by omega),fa.run (d:=ks) ⟨h1,by omega⟩,fV.run (d:=af) trivial,fV.run (d:=dl) trivial,od.run (d:=sc) h2,aP hk]
    simp only[ah,ab,bE,fa.F,bE,fV.F,bE,od.F,bO]
    cases ks.all tw
    ·rfl
    cases y7 af
    ·rfl
    cases y7 dl
    ·rfl
    by_cases hs:sc=0
    ·rw[cS hs,aP hs];rfl
    ·rw[eI hs,bf hs]
     cases tw sc <;> rfl
   ·rw[cX (by omega),bf hk];rfl
  cases hp:qM bs[k]
  ·right
   refine⟨bq.L0.dE (),?_,λkn kx=> ?_⟩
   ·simp only[bq.L0.add,bq.L0.F,aa,hd,hp,dF,bJ,if_false]
    rfl
   ·rw[step,hp,ah]
  ·left
   refine⟨(l,bs,bs.length,((k+1:Nat):Int)),⟨hl,hb,rfl,k+1,by omega,rfl⟩,by simp only[aa];omega,?_,λkn kx=> ?_⟩
   ·simp only[bq.L0.add,bq.L0.F,aa,hd,hp,bO]
   ·rw[step,hp,ae]
 ·right
  obtain rfl:k=bs.length:=by omega
  refine⟨bq.L0.fQ l,?_,λkn kx=> ?_⟩
  ·simp only[bq.L0.add,bq.L0.F,aa,aQ]
   rfl
  ·rw[bq.L0.step]
   simp(disch:=omega) only[↓S1,↓if_pos,↓if_neg,if_pos,if_neg,if_true,if_false,S2]
theorem bq.ok:bq.Ok:=by
 rintro l ⟨hl,hb⟩
 have hb:l.1.length<=9223372036854775807:=hb
 rw[bq.eq,bq.L0.run (d:=(l,l.1,l.1.length,0)) ⟨hl,hb,rfl,0,by omega,rfl⟩]
 simp only[ab,bq.L0.add,bq.L0.F,bH,aI,bE,bq.F,nC]
 cases l.1.all qM
 ·rfl
 ·simp only[if_true,bO]
  show aJ (nc _ _) _ _=_
  by_cases h0:0 < l.1.length
  ·rw[cX (by omega)]
   by_cases h4:l.1.length<=4
   ·rw[ix (by omega),aP ⟨h0,h4⟩];rfl
   ·rw[ga (by omega),bf (λx=>h4 x.2)];rfl
  ·rw[cj (by omega),bf (λx=>h0 x.1)];rfl
theorem bq.run:bq.RS:=rE [.d mK] bq
def bq.sg:=bq.fS bq.ok 1 ⟨.hZ bq.L0.ok,trivial⟩
def MW(m:List Int):List Int->List Sg->Bool
 |[],_=>true
 |p::ps,ss=>Pe p m 1 (ss.headD (0,0,())) && MW m ps ss.tail
def OT(l:Lk)(w:Az)(m:List Int)(height age:Int):Int:=
 if nC l=false\/w.1 < 0\/w.1>=l.1.length then 1
 else
  let b:=nth (.pair (.slice (.int .u64)) (.pair (.int .i64) (.pair (.int .i64) (.pair (.int .u64) .unit)))) l.1 w.1.toNat
  if height < b.2.1\/age < b.2.2.1 then 11
  else if b.2.2.2.1≠0/\jw w.2.2.1≠b.2.2.2.1 then 23
  else if w.2.1.length≠b.1.length then 7
  else if MW m b.1 w.2.1 then 0 else 7
def O4(w:Az):Prop:=(∀s∈w.2.1,UO s)/\je w.2.2.1
abbrev lk.D:=Int
abbrev lk.Y:=Nat×(List Int)
def lk.aU:lk.D->Prop:=λn=>∃k:Nat,n=k/\k<=100000000
def lk.F:lk.D->lk.Y:=λn=>(0,List.replicate n.toNat 0)
def lk:Fs Tryz.prog lk.aU bE lk.F:=fK 249 Tryz.f249 (λn=>([.df,.d ti n],[])) (λx=>⟨.cP (.new 0 0) 0 [] 0 0 x.1,[],[.obj 0 false (.vec 5 tb x.2)]⟩) [none,some ti] [] {owns:=[⟨4,[],22,140⟩]}
theorem lk.eq{R:Type}(n)(k:K1 R):lk.A n k=
  aJ ((ik n 0)) (
   none) (
   aJ ((nc (dp .i64 n 0) 0)) (
    aJ (decide (0 < (dp .i64 n 0)) && dG (Int.toNat (dp .i64 n 0)) 1) (
    aJ (inc 0 (((Int.toNat (dp .i64 n 0)):Nat):Int)) (
    k (lk.out (0,(List.replicate (Int.toNat (dp .i64 n 0)) 0)))) none) none) (
    k (lk.out (0,([]:List Int))))):=by kernel_rfl
theorem lk.ok:lk.Ok:=by
 rintro n ⟨k,rfl,hk⟩
 have e:dp .i64 (k:Int) 0=(k:Int):=by rw[eE (by omega) (by omega)];omega
 rw[lk.eq,e,aR (by omega),ah]
 by_cases h:0 < k
 ·rw[cX (by omega),aa,aP (by omega),dU (by omega) (by omega),mD (by omega) (by omega)]
  rfl
 ·obtain rfl:k=0:=by omega
  rfl
theorem lk.run:lk.RS:=rE [.d ti] lk
def lk.sg:=lk.fS lk.ok
def oY(l:List (List Int)):Nat:=l.flatten.length
def CL(n:Nat)(l:List Int):List (List Int)->Nat×List Int
 |[]=>(n,l)
 |s::r=>(n+(s::r).flatten.length,l.take n++(s::r).flatten)
theorem JQ(n:Nat)(l s:List Int)(r:List (List Int))(h:n<=l.length):CL n l (s::r)=CL (n+s.length) (l.take n++s) r:=by
 have hl:(l.take n++s).length=n+s.length:=by rw[aj,cU];omega
 cases r with
 |nil=>simp[CL]
 |cons t r=>
  simp only[CL]
  rw[bz (Nat.le_of_eq hl)]
  simp only[iq,aj,bk,ew]
theorem Nq(n:Nat)(z:List Int)(r:List (List Int)):(CL 0 z r).1<=(CL 0 z r).2.length/\cut (CL 0 z r).2 0 (CL 0 z r).1=r.flatten:=by
 cases r with
 |nil=>exact⟨aV _,rfl⟩
 |cons s r=>
  simp only[CL,eH,aS,aO]
  exact⟨ay _,by show List.take _ (List.drop 0 _)=_;rw[aI,bY]⟩
abbrev bF.L0.D:=(List Bs)×Int×(List Bs)×Int×Int
abbrev bF.L0.Y:=Int
abbrev bF.L0.X:=((List Bs))×(Int)
def bF.L0.add:bF.L0.D->bF.L0.Y->bF.L0.X:=λ(sD,size,t9,t10,t11) y=>(sD,y)
abbrev bF.L1.D:=Nat×(List Bs)×Int×Int×(List Int)
abbrev bF.L1.Y:=Nat×(List Int)
abbrev bF.D:=(List Bs)
abbrev bF.Y:=Bs
def bF.L0.aU:bF.L0.D->Prop:=λ(s,size,t,n,i)=>s.length<=1000000/\t=s/\n=s.length/\∃k z:Nat,k<=s.length/\i=k/\size=z/\z+oY (s.drop k)<=100000000
def bF.L0.F:bF.L0.D->bF.L0.Y:=λ(s,size,t,n,i)=>((size:Int)+((oY (s.drop i.toNat):Nat):Int):Int)
def bF.L1.aU:bF.L1.D->Prop:=λ(n,s,t,i,l)=>s.length<=1000000/\n<=l.length/\t=s.length/\∃k:Nat,k<=s.length/\i=k/\n+oY (s.drop k)<=100000000
def bF.L1.F:bF.L1.D->bF.L1.Y:=λ(n,s,t,i,l)=>CL n l (s.drop i.toNat)
def bF.aU:bF.D->Prop:=λs=>s.length<=1000000/\oY s<=100000000
def bF.F:bF.D->bF.Y:=λs=>s.flatten
def bF.L0:Ls bF.L0.aU bF.L0.add bF.L0.F:=pG (λ(sD,size,t9,t10,t11)=>⟨([.d (.slice tB) sD,.undef,.undef,.d ti size]++bj 5 ([.d (.slice tB) t9,.d ti t10,.d ti t11]++bj 24 [])),[],(List.replicate 36 [])⟩) (λx=>(.exit 0,⟨([.d (.slice tB) x.1,.undef,.undef,.d ti x.2]++bj 32 []),[],(List.replicate 36 [])⟩))
def bF.L1:Ls bF.L1.aU bE bF.L1.F:=pG (λ(newsliceL,t25,t26,t27,n24)=>⟨(bj 6 ([.cP (.new 24 0) 0 [] 0 0 newsliceL]++bj 18 ([.d (.slice tB) t25,.d ti t26,.d ti t27]++bj 8 []))),[],(cg 24 ([[.obj 0 false (.vec 5 tb n24)]]++cg 11 []))⟩) (λx=>(.exit 2,⟨(bj 6 ([.cP (.new 24 0) 0 [] 0 0 x.1]++bj 29 [])),[],(cg 24 ([[.obj 0 false (.vec 5 tb x.2)]]++cg 11 []))⟩))
def bF:Fs Tryz.prog bF.aU bE bF.F:=fK 203 Tryz.f203 (λslices=>([.d (.slice tB) slices],[])) (λx=>⟨.d tB x,[],[]⟩) [some (.slice tB)] [lk.sg] {loops:=oM [(3,{bm:=[0,3,9,10,11]}),(11,{bm:=[6,25,26,27],sites:=[24],owns:=[⟨6,[],24,140⟩]})],outs:=oL [(3,{bm:=[0,3]},{bm:=[2]}),(11,{bm:=[6],sites:=[24]},{bm:=[2]})],iA:=pq [(3,bF.L0.E),(11,bF.L1.E)],res:=[some tB]}
theorem bF.L0.run:bF.L0.RS:=rL [.d (.slice tB),.d ti,.d (.slice tB),.d ti,.d ti] bF.L0
theorem bF.L0.step{R:Type}(sD size t9 t10 t11)(kn:K2 R)(kx:K3 R):bF.R 0 bF.L0 (sD,size,t9,t10,t11) kn kx=
  aJ ((ik t11 t10)) (
   aJ (eY t11 (t9.length:Int)) (
   aJ ((ik (bt .i64 size (((List.length (nth tB t9 (Int.toNat t11))):Nat):Int)) 0)) (
    none) (
    kn (bF.L0.st (sD,(bt .i64 size (((List.length (nth tB t9 (Int.toNat t11))):Nat):Int)),t9,t10,(bt .i64 t11 1))))) none) (
   bF.L0.go kx (sD,size)):=by kernel_rfl
theorem bF.L1.run:bF.L1.RS:=rL [.n,.d (.slice tB),.d ti,.d ti,.d tB] bF.L1
theorem bF.L1.step{R:Type}(newsliceL t25 t26 t27 n24)(kn:K2 R)(kx:K3 R):bF.R 1 bF.L1 (newsliceL,t25,t26,t27,n24) kn kx=
  aJ ((ik t27 t26)) (
   aJ (eY t27 (t25.length:Int)) (
   aJ (decide (newsliceL<=(List.length n24))) (
   aJ (dG (newsliceL+(List.length (nth tB t25 (Int.toNat t27)))) 1) (
   kn (bF.L1.st ((newsliceL+(List.length (nth tB t25 (Int.toNat t27)))),t25,t26,(bt .i64 t27 1),((List.take newsliceL n24)++(nth tB t25 (Int.toNat t27)))))) none) none) none) (
   bF.L1.go kx (newsliceL,n24)):=by kernel_rfl
theorem bF.eq{R:Type}(slices)(k:K1 R):bF.A slices k=
 av (bF.L0.call (slices,0,slices,(slices.length:Int),0)) λx1=>
 av (lk.call x1.2) λx2=>
 av (bF.L1.call (x2.1,x1.1,(x1.1.length:Int),0,x2.2)) λx3=>
 aJ (decide (0=0/\(0+x3.1)<=(List.length x3.2))) (
 k (bF.out (cut x3.2 0 x3.1))) none:=by kernel_rfl
theorem Jh(s:List (List Int))(k:Nat)(h:k < s.length):oY (s.drop k)=s[k].length+oY (s.drop (k+1)):=by
 unfold oY
 rw[aq h,iq,aj]
theorem bF.L0.ok:(bF.lE 0 bF.L0):=by
 refine(bF.mr 0 bF.L0) (λ(s,size,t,n,i)=>s.length - i.toNat) ?_
 rintro⟨s,size,t,n,i⟩ ⟨hs,rfl,rfl,k,z,hk,rfl,rfl,hz⟩
 have hs:t.length<=1000000:=hs
 have hk:k<=t.length:=hk
 have hz:z+oY (t.drop k)<=100000000:=hz
 by_cases h:k < t.length
 ·left
  have n1:nth (.slice (.int .u8)) t k=t[k]:=dg (t:= .slice (.int .u8)) h
  have hd:=Jh t k h
  refine⟨(t,((z+t[k].length:Nat):Int),t,t.length,((k+1:Nat):Int)),⟨hs,rfl,rfl,k+1,z+t[k].length,by omega,rfl,rfl,by omega⟩,by simp only[aa];omega,?_,λkn kx=> ?_⟩
  ·simp only[bF.L0.add,bF.L0.F,aa]
   rw[hd]
   refine congrArg _ ?_
   omega
  ·rw[bF.L0.step]
   simp(disch:=omega) only[↓S1,↓if_pos,↓if_neg,if_pos,if_neg,if_true,if_false,S2,n1]
 ·right
  obtain rfl:k=t.length:=by omega
  intro R kn kx
  rw[bF.L0.step]
  simp(disch:=omega) only[↓S1,↓if_pos,↓if_neg,if_pos,if_neg,if_true,if_false,S2,bF.L0.add,bF.L0.F,aQ]
  simp only[oY,kP,aZ,Int.natCast_zero,kb]
theorem bF.L1.ok:(bF.lE 1 bF.L1):=by
 refine(bF.mr 1 bF.L1) (λ(n,s,t,i,l)=>s.length - i.toNat) ?_
 rintro⟨n,s,t,i,l⟩ ⟨hs,hn,rfl,k,hk,rfl,hz⟩
 have hs:s.length<=1000000:=hs
 have hn:n<=l.length:=hn
 have hk:k<=s.length:=hk
 have hz:n+oY (s.drop k)<=100000000:=hz
 by_cases h:k < s.length
 ·left
  have n1:nth (.slice (.int .u8)) s k=s[k]:=dg (t:= .slice (.int .u8)) h
  have hd:=Jh s k h
  refine⟨(n+s[k].length,s,s.length,((k+1:Nat):Int),l.take n++s[k]),⟨hs,by rw[aj,cU];omega,rfl,k+1,by omega,rfl,by omega⟩,by simp only[aa];omega,?_,λkn kx=> ?_⟩
  ·simp only[bE,bF.L1.F,aa]
   rw[aq h,JQ _ _ _ _ hn]
  ·rw[bF.L1.step]
   simp(disch:=omega) only[↓S1,↓if_pos,↓if_neg,if_pos,if_neg,if_true,if_false,S2,n1]
 ·right
  obtain rfl:k=s.length:=by omega
  intro R kn kx
  rw[bF.L1.step]
  simp(disch:=omega) only[↓S1,↓if_pos,↓if_neg,if_pos,if_neg,if_true,if_false,S2,bE,bF.L1.F,aQ]
  rfl
theorem bF.ok:bF.Ok:=by
 rintro s ⟨hs,hz⟩
 have hs:s.length<=1000000:=hs
 have hz:oY s<=100000000:=hz
 have p1:bF.L0.aU (s,0,s,s.length,0):=⟨hs,rfl,rfl,0,0,by omega,rfl,rfl,by rw[aI];omega⟩
 have p2:bF.L1.aU (0,s,s.length,0,List.replicate (oY s) 0):=⟨hs,by omega,rfl,0,by omega,rfl,by rw[aI];omega⟩
 rw[bF.eq,bF.L0.run p1]
 simp only[ab,bF.L0.add,bF.L0.F,bH,aI,lD]
 rw[lk.run (d:=((oY s:Nat):Int)) ⟨oY s,rfl,hz⟩]
 simp only[ab,bE,lk.F,aa]
 rw[bF.L1.run p2]
 simp only[ab,bE,bF.L1.F,bH,aI]
 obtain⟨c1,c2⟩:=Nq 0 (List.replicate (oY s) 0) s
 simp only[aO,c1,and_self,decide_true,ae,c2]
 rfl
theorem bF.run:bF.RS:=rE [.d (.slice tB)] bF
def bF.sg:=bF.fS bF.ok 2 ⟨.hZ bF.L0.ok,⟨.hZ bF.L1.ok,trivial⟩⟩
abbrev iX.D:=Bs×Bs
abbrev iX.Y:=Bs
def iX.aU:iX.D->Prop:=λ(a,b)=>a.length+b.length<=100000000
def iX.F:iX.D->iX.Y:=λ(a,b)=>a++b
def iX:Fs Tryz.prog iX.aU bE iX.F:=fK 179 Tryz.f179 (λ(b,more)=>([.d tB b,.d tB more],[])) (λx=>⟨.d tB x,[],[]⟩) [some tB,some tB] [bF.sg]
theorem iX.eq{R:Type}(b more)(k:K1 R):iX.A (b,more) k=
 av (bF.call [b,more]) λx1=>
 k (iX.out x1):=by kernel_rfl
theorem iX.ok:iX.Ok:=by
 rintro⟨a,b⟩ h
 have h:a.length+b.length<=100000000:=h
 rw[iX.eq,bF.run (d:=[a,b]) ⟨by show [a,b].length<=_;simp,by show oY [a,b]<=_;simp only[oY,iq,kP,cH,aj];omega⟩]
 simp only[ab,bE,bF.F,bE,iX.F,iq,kP,cH]
theorem iX.run:iX.RS:=rE [.d tB,.d tB] iX
def iX.sg:=iX.fS iX.ok
def mY:Nat->Int->List Int×Int
 | 0,n=>([],n)
 |f+1,n=>if 128<=n then((n%128+128)::(mY f (n / 128)).1,(mY f (n / 128)).2) else([],n)
def sz(n:Int):List Int:=(mY 10 n).1++ [(mY 10 n).2]
theorem DS:∀(f g:Nat) (n:Int),n < 128^(f+1)->n < 128^(g+1)->mY f n=mY g n
 | 0,0,n,_,_=>rfl
 | 0,g+1,n,h,_=>by
  have h:n < 128:=h
  rw[mY,mY,if_neg (by omega)]
 |f+1,0,n,_,h=>by
  have h:n < 128:=h
  rw[mY,mY,if_neg (by omega)]
 |f+1,g+1,n,h,h'=>by
  rw[mY,mY]
  split
  ·have e:(128:Int)^(f+1+1)=128^(f+1)*128:=Int.pow_succ 128 (f+1)
   have e':(128:Int)^(g+1+1)=128^(g+1)*128:=Int.pow_succ 128 (g+1)
   rw[DS f g (n / 128) (by omega) (by omega)]
  ·rfl
theorem Cf:∀(f:Nat) (n:Int),(mY f n).1.length<=f
 | 0,_=>ay _
 |f+1,n=>by
  rw[mY]
  split
  ·have:=Cf f (n / 128)
   simp only[aD];omega
  ·exact aV _
theorem DR:∀(f:Nat) (n:Int),0<=n->n < 128^(f+1)->0<=(mY f n).2/\(mY f n).2 < 128
 | 0,n,h,h'=>by have h':n < 128:=h';exact⟨h,h'⟩
 |f+1,n,h,h'=>by
  rw[mY]
  have e:(128:Int)^(f+1+1)=128^(f+1)*128:=Int.pow_succ 128 (f+1)
  split
  ·exact DR f (n / 128) (by omega) (by omega)
  ·exact⟨h,by omega⟩
theorem DT{n:Int}(h:128<=n)(h2:n<=9223372036854775807):mY 10 n=((n%128+128)::(mY 10 (n / 128)).1,(mY 10 (n / 128)).2):=by
 have e:(128:Int)^(9+1)=1180591620717411303424:=rfl
 have e2:(128:Int)^(10+1)=151115727451828646838272:=rfl
 rw[mY,if_pos h,DS 9 10 (n / 128) (by rw[e];omega) (by rw[e2];omega)]
theorem sA(n:Int):(sz n).length<=11:=by
 have:=Cf 10 n
 unfold sz
 simp only[aj,aD,aZ];omega
def Hp(n:Int):Prop:=0<=n/\n<=9223372036854775807
abbrev gZ.L0.D:=Int×Nat×(List Int)
abbrev gZ.L0.Y:=Int×Nat×(List Int)
abbrev gZ.D:=Int
abbrev gZ.Y:=Bs
def gZ.L0.aU:gZ.L0.D->Prop:=λ(n,m,l)=>Hp n/\m=l.length/\l.length<=1000+0*n.toNat/\l.length+(mY 10 n).1.length<=100
def gZ.L0.F:gZ.L0.D->gZ.L0.Y:=λ(n,m,l)=>((mY 10 n).2,(l++(mY 10 n).1).length,l++(mY 10 n).1)
def gZ.aU:gZ.D->Prop:=λn=>Hp n
def gZ.F:gZ.D->gZ.Y:=λn=>sz n
def gZ.L0:Ls gZ.L0.aU bE gZ.L0.F:=pG (λ(xZ,outL,n14)=>⟨([.d ti xZ,.undef,.undef,.cP (.new 14 0) 0 [] 0 0 outL]++bj 16 []),[],(cg 14 ([[.obj 0 false (.vec 5 tb n14)]]++cg 5 []))⟩) (λx=>(.exit 0,⟨([.d ti x.1,.undef,.undef,.cP (.new 14 0) 0 [] 0 0 x.2.1]++bj 16 []),[],(cg 14 ([[.obj 0 false (.vec 5 tb x.2.2)]]++cg 5 []))⟩))
def gZ:Fs Tryz.prog gZ.aU bE gZ.F:=fK 180 Tryz.f180 (λn=>([.d ti n],[])) (λx=>⟨.d tB x,[],[]⟩) [some ti] [] {loops:=oM [(2,{bm:=[0,3],sites:=[14],owns:=[⟨3,[],14,140⟩]})],outs:=oL [(2,{bm:=[0,3],sites:=[14]},{bm:=[2]})],iA:=pq [(2,gZ.L0.E)],res:=[some tB]}
theorem gZ.L0.run:gZ.L0.RS:=rL [.d ti,.n,.d tB] gZ.L0
theorem gZ.L0.step{R:Type}(xZ outL n14)(kn:K2 R)(kx:K3 R):gZ.R 0 gZ.L0 (xZ,outL,n14) kn kx=
  aJ ((qQ xZ 128)) (
   aJ (decide (outL<=(List.length n14))) (
   aJ (dG (outL+1) 1) (
   kn (gZ.L0.st ((jX .i64 xZ 128),(outL+1),((List.take outL n14)++ [(dP .u8 (bt .i64 (gv xZ 128) 128))])))) none) none) (
   gZ.L0.go kx (xZ,outL,n14)):=by kernel_rfl
theorem gZ.eq{R:Type}(n)(k:K1 R):gZ.A n k=
 av (gZ.L0.call (n,0,([]:List Int))) λx1=>
 aJ (decide (x1.2.1<=(List.length x1.2.2))) (
 aJ (dG (x1.2.1+1) 1) (
 aJ (decide (0=0/\(0+(x1.2.1+1))<=(List.length ((List.take x1.2.1 x1.2.2)++ [(dP .u8 x1.1)])))) (
 k (gZ.out (cut ((List.take x1.2.1 x1.2.2)++ [(dP .u8 x1.1)]) 0 (x1.2.1+1)))) none) none) none:=by kernel_rfl
theorem Lz{n:Int}(h:Hp n):dP .u8 (bt .i64 (gv n 128) 128)=n%128+128:=by
 have h1:=h.1
 rw[iy h.1,eC (by omega) (by omega),y9,hM]
 omega
theorem gZ.L0.ok:(gZ.lE 0 gZ.L0):=by
 refine(gZ.mr 0 gZ.L0) (λ(n,m,l)=>n.toNat) ?_
 rintro⟨n,m,l⟩ ⟨hn,rfl,hl,hz⟩
 have hn:Hp n:=hn
 have hz:l.length+(mY 10 n).1.length<=100:=hz
 have h1:=hn.1
 have h2:=hn.2
 by_cases h:128<=n
 ·left
  have e:=DT h h2
  have hq:jX .i64 n 128=n / 128:=by
   rw[jX,jR h1]
   exact qn (by omega) (by omega)
  have el:((n%128+128)::(mY 10 (n / 128)).1).length=(mY 10 (n / 128)).1.length+1:=aD
  rw[e]at hz
  have hz:l.length+((n%128+128)::(mY 10 (n / 128)).1).length<=100:=hz
  rw[el]at hz
  refine⟨(n / 128,l.length+1,l++ [n%128+128]),⟨⟨by omega,by omega⟩,by rw[aj];rfl,by rw[aj];simp only[aD,aZ];omega,by rw[aj];simp only[aD,aZ];omega⟩,by simp only[];omega,?_,λkn kx=> ?_⟩
  ·simp only[bE,gZ.L0.F,e,bk,iS,aS]
  ·rw[gZ.L0.step,eQ h,Lz hn,hq]
   simp(disch:=omega) only[↓S1,↓if_pos,↓if_neg,if_pos,if_neg,if_true,if_false,S2,ay,bY]
 ·right
  have e:mY 10 n=([],n):=by rw[mY,if_neg h]
  intro R kn kx
  rw[gZ.L0.step,dQ h]
  simp only[ah,bE,gZ.L0.F,e,cH]
theorem gZ.ok:gZ.Ok:=by
 intro n hn
 have hn:Hp n:=hn
 have hl:=Cf 10 n
 have e2:(128:Int)^(10+1)=151115727451828646838272:=rfl
 have hd:=DR 10 n hn.1 (by have:=hn.2;rw[e2];omega)
 have p:gZ.L0.aU (n,0,[]):=⟨hn,rfl,by simp,by simp only[aZ];omega⟩
 have hi:dP .u8 (mY 10 n).2=(mY 10 n).2:=by rw[y9,hM];omega
 rw[gZ.eq,gZ.L0.run p]
 simp only[ab,bE,gZ.L0.F,aS,hi,bY,ay,decide_true,ae]
 rw[dU (by omega) (by omega)]
 simp only[ae,aO,aj,aD,aZ,ay,and_self,decide_true]
 rw[fi (by rw[aj];rfl)]
 rfl
theorem gZ.run:gZ.RS:=rE [.d ti] gZ
def gZ.sg:=gZ.fS gZ.ok 1 ⟨.hZ gZ.L0.ok,trivial⟩
def dY(b:List Int)(n:Int):List Int:=if n < 0 then b else b++sz n
theorem fW(b:List Int)(n:Int):(dY b n).length<=b.length+11:=by
 unfold dY
 have:=sA n
 split
 ·omega
 ·rw[aj];omega
abbrev js.D:=Bs×Int
abbrev js.Y:=Bs
def js.aU:js.D->Prop:=λ(b,n)=>b.length<=90000000/\n<=9223372036854775807
def js.F:js.D->js.Y:=λ(b,n)=>dY b n
def js:Fs Tryz.prog js.aU bE js.F:=fK 123 Tryz.f123 (λ(b,n)=>([.d tB b,.d ti n],[])) (λx=>⟨.d tB x,[],[]⟩) [some tB,some ti] [iX.sg,gZ.sg]
theorem js.eq{R:Type}(b n)(k:K1 R):js.A (b,n) k=
  aJ ((ik n 0)) (
   av (iX.call (b,([]:List Int))) λx1=>
   k (js.out x1)) (
   av (gZ.call n) λx2=>
   av (iX.call (b,x2)) λx3=>
   k (js.out x3)):=by kernel_rfl
theorem js.ok:js.Ok:=by
 rintro⟨b,n⟩ ⟨hb,hn⟩
 have hb:b.length<=90000000:=hb
 have hn:n<=9223372036854775807:=hn
 rw[js.eq]
 simp only[bE,js.F,dY]
 by_cases h:n < 0
 ·rw[bh h,if_pos h,ae,iX.run (d:=(b,[])) (by show b.length+([]:List Int).length<=_;simp only[aZ];omega)]
  simp only[ab,bE,iX.F,cH]
 ·have hl:=sA n
  rw[aR h,if_neg h,ah,gZ.run (d:=n) ⟨by omega,hn⟩]
  simp only[ab,bE,gZ.F]
  rw[iX.run (d:=(b,sz n)) (by show b.length+(sz n).length<=_;omega)]
  rfl
theorem js.run:js.RS:=rE [.d tB,.d ti] js
def js.sg:=js.fS js.ok
abbrev kU.D:=Bs×Int
abbrev kU.Y:=Bs
def kU.aU:kU.D->Prop:=λ(b,n)=>b.length<=90000000
def kU.F:kU.D->kU.Y:=λ(b,n)=>b++lO n
def kU:Fs Tryz.prog kU.aU bE kU.F:=fK 191 Tryz.f191 (λ(b,n)=>([.d tB b,.d tu n],[])) (λx=>⟨.d tB x,[],[]⟩) [some tB,some tu] [iX.sg] {loops:=oM [(3,{bm:=[0,1,5,7],sites:=[5,21]})],outs:=oL [(3,{bm:=[0,5],sites:=[5,21]},{bm:=[4],sites:=[5,21]})]} 12
theorem kU.eq{R:Type}(b n)(k:K1 R):kU.A (b,n) k=
 av (iX.call (b,[(dP .u8 (cr .u64 n 56)),(dP .u8 (cr .u64 n 48)),(dP .u8 (cr .u64 n 40)),(dP .u8 (cr .u64 n 32)),(dP .u8 (cr .u64 n 24)),(dP .u8 (cr .u64 n 16)),(dP .u8 (cr .u64 n 8)),(dP .u8 (cr .u64 n 0))])) λx1=>
 k (kU.out x1):=by kernel_rfl
theorem kU.ok:kU.Ok:=by
 rintro⟨b,n⟩ hb
 have hb:b.length<=90000000:=hb
 have p:iX.aU (b,lO n):=by show b.length+(lO n).length<=_;rw[cF];omega
 have e:iX.call (b,[dP .u8 (cr .u64 n 56),dP .u8 (cr .u64 n 48),dP .u8 (cr .u64 n 40),dP .u8 (cr .u64 n 32),dP .u8 (cr .u64 n 24),dP .u8 (cr .u64 n 16),dP .u8 (cr .u64 n 8),dP .u8 (cr .u64 n 0)])=some (b++lO n):=by
  rw[Fz];exact iX.run p
 rw[kU.eq]
 refine Eq.trans (congrArg (λx=>av x _) e) ?_
 rfl
theorem kU.run:kU.RS:=rE [.d tB,.d tu] kU
def kU.sg:=kU.fS kU.ok 1 ⟨.none (by kernel_rfl),trivial⟩
def sJ(w:Az):Bool:=decide (0<=w.1/\w.1 < 4) && decide (w.2.1.length<=12)
def u6(x:gz):Bool:=decide (0<=x.1.2.1/\x.1.2.1 < 64) && sJ x.2.1
def xJ(m:List (lF×Bool))(x:gz):Bool:=(eS jk x.1 m).getD false
def uG:List (lF×Bool)->List gz->Bool
 |_,[]=>true
 |m,x::l=>(!(xJ m x) && u6 x) && uG (jK jk x.1 true m) l
def jr(a:Int):Bool:=decide (0<=a/\a<=1125899906842624)
def qh(a b:Int):Bool:=jr a && (jr b && decide (a+b<=1125899906842624))
def sw:Int->List j7->Bool
 |_,[]=>true
 |s,o::l=>(qh s o.1 && nC o.2.1) && sw (s+o.1) l
def zA(t:gT):Bool:=decide (1<=t.1.length/\t.1.length<=64/\t.2.1.length<=64/\0<=t.2.2.1)
def lf(t:gT):Bool:=zA t && (uG [] t.1 && sw 0 t.2.1)
def Fh(l:Lk):Prop:=Hh l/\l.1.length<=9223372036854775807
def SE(t:gT):Prop:=(∀o∈t.2.1,Fh o.2.1)/\t.1.length<=9223372036854775807/\t.2.1.length<=9223372036854775807
abbrev nF.D:=Az
abbrev nF.Y:=Bool
def nF.aU:nF.D->Prop:=λ_=>True
def nF.F:nF.D->nF.Y:=λw=>sJ w
def nF:Fs Tryz.prog nF.aU bE nF.F:=fK 67 Tryz.f67 (λwv=>([.d EZ wv],[])) (λx=>⟨.d .bool x,[],[]⟩) [some EZ]
theorem nF.eq{R:Type}(wv)(k:K1 R):nF.A wv k=
  aJ ((qQ wv.1 0)) (
   aJ ((ik wv.1 4)) (
    k (nF.out (zS (wv.2.1.length:Int) 12))) (
    k (nF.out false))) (
   k (nF.out false)):=by kernel_rfl
theorem nF.ok:nF.Ok:=by
 rintro⟨b,ss,sc,u⟩ _
 rw[nF.eq]
 simp only[bE,nF.F,sJ]
 by_cases h:0<=b
 ·rw[eQ h,ae]
  by_cases h2:b < 4
  ·rw[bh h2,ae,aP ⟨h,h2⟩]
   by_cases h3:ss.length<=12
   ·rw[ix (by omega),aP h3];rfl
   ·rw[ga (by omega),bf h3];rfl
  ·rw[aR h2,ah,bf (λx=>h2 x.2)];rfl
 ·rw[dQ h,ah,bf (λx=>h x.1)];rfl
theorem nF.run:nF.RS:=rE [.d EZ] nF
def nF.sg:=nF.fS nF.ok
abbrev gD.D:=Int
abbrev gD.Y:=Bool
def gD.aU:gD.D->Prop:=λ_=>True
def gD.F:gD.D->gD.Y:=λa=>jr a
def gD:Fs Tryz.prog gD.aU bE gD.F:=fK 194 Tryz.f194 (λa=>([.d ti a],[])) (λx=>⟨.d .bool x,[],[]⟩) [some ti]
theorem gD.eq{R:Type}(a)(k:K1 R):gD.A a k=
  aJ ((qQ a 0)) (
   k (gD.out (zS a 1125899906842624))) (
   k (gD.out false)):=by kernel_rfl
theorem gD.ok:gD.Ok:=by
 intro(a:Int) _
 rw[gD.eq]
 simp only[bE,gD.F,jr]
 by_cases h:0<=a
 ·rw[eQ h,ae]
  by_cases h2:a<=1125899906842624
  ·rw[ix h2,aP ⟨h,h2⟩]
  ·rw[ga h2,bf (λx=>h2 x.2)]
 ·rw[dQ h,ah,bf (λx=>h x.1)]
theorem gD.run:gD.RS:=rE [.d ti] gD
def gD.sg:=gD.fS gD.ok
abbrev lW.D:=Int×Int
abbrev lW.Y:=Int×Bool
def lW.aU:lW.D->Prop:=λ_=>True
def lW.F:lW.D->lW.Y:=λ(a,b)=>(bif qh a b then a+b else 0,qh a b)
def lW:Fs Tryz.prog lW.aU bE lW.F:=fK 132 Tryz.f132 (λ(a,b)=>([.d ti a,.d ti b],[])) (λx=>⟨.cons (.d ti x.1) (.cons (.d .bool x.2) (.nil)),[],[]⟩) [some ti,some ti] [gD.sg]
theorem lW.eq{R:Type}(a b)(k:K1 R):lW.A (a,b) k=
  av (gD.call a) λx1=>
  aJ ((!x1)) (
   k (lW.out (0,false))) (
   av (gD.call b) λx2=>
   aJ ((!x2)) (
    k (lW.out (0,false))) (
    aJ ((nc a (dp .i64 1125899906842624 b))) (
     k (lW.out (0,false))) (
     k (lW.out ((bt .i64 a b),true))))):=by kernel_rfl
theorem lW.ok:lW.Ok:=by
 rintro⟨a,b⟩ _
 rw[lW.eq,gD.run (d:=a) trivial,gD.run (d:=b) trivial]
 simp only[ab,bE,gD.F,bE,lW.F,qh]
 cases ha:jr a
 ·rfl
 ·cases hb:jr b
  ·rfl
  ·simp only[jr,decide_eq_true_eq]at ha hb
   simp only[cq,ah,bO]
   rw[eE (by omega) (by omega)]
   by_cases h:a+b<=1125899906842624
   ·rw[cj (by omega),ah,aP h,eC (by omega) (by omega)];rfl
   ·rw[cX (by omega),ae,bf h];rfl
theorem lW.run:lW.RS:=rE [.d ti,.d ti] lW
def lW.sg:=lW.fS lW.ok
abbrev aG.L0.D:=gT×(List gz)×Int×Int×(List (lF×Bool))
def aG.L0.st:aG.L0.D->AS:=λ(lb,t33,t34,t35,n31)=>⟨([.undef,.ed iL lb,.undef,.oh (.new 31 0) 0]++bj 29 ([.d (.slice gX) t33,.d ti t34,.d ti t35]++bj 52 [])),[],(cg 31 ([[.obj 0 false (.mp jk .bool n31)]]++cg 56 []))⟩
abbrev aG.L0.Y0:=Unit
abbrev aG.L0.X0:=Unit
def aG.L0.dE:aG.L0.X0->Exit×AS:=λx=>(.ret,⟨([.undef,.undef,.d .bool false]++bj 85 []),[],(List.replicate 88 [])⟩)
abbrev aG.L0.Y1:=Unit
abbrev aG.L0.X1:=gT
def aG.L0.fQ:aG.L0.X1->Exit×AS:=λx=>(.exit 0,⟨([.undef,.ed iL x]++bj 86 []),[],(List.replicate 88 [])⟩)
abbrev aG.L0.X:=(aG.L0.X0)⊕(aG.L0.X1)
abbrev aG.L0.Y:=(aG.L0.Y0)⊕(aG.L0.Y1)
def aG.L0.out:aG.L0.X->Out (Exit×AS):=λx=> .br x.isLeft (.get x.getLeft? λa=> .ok (aG.L0.dE a)) (.get x.getRight? λb=> .ok (aG.L0.fQ b))
def aG.L0.add:aG.L0.D->aG.L0.Y->aG.L0.X:=λ(lb,t33,t34,t35,n31) y=>match y with | .inl y=> .inl y | .inr z=> .inr (lb)
abbrev aG.L1.D:=Int×(List j7)×Int×Int
def aG.L1.st:aG.L1.D->AS:=λ(sum,t66,t67,t68)=>⟨(bj 6 ([.d ti sum]++bj 59 ([.d (.slice iR) t66,.d ti t67,.d ti t68]++bj 19 []))),[],(List.replicate 88 [])⟩
abbrev aG.L1.Y0:=Unit
abbrev aG.L1.X0:=Unit
def aG.L1.dE:aG.L1.X0->Exit×AS:=λx=>(.ret,⟨([.undef,.undef,.d .bool false]++bj 85 []),[],(List.replicate 88 [])⟩)
abbrev aG.L1.Y1:=Unit
abbrev aG.L1.X1:=Unit
def aG.L1.fQ:aG.L1.X1->Exit×AS:=λx=>(.exit 2,⟨(bj 88 []),[],(List.replicate 88 [])⟩)
abbrev aG.L1.X:=(aG.L1.X0)⊕(aG.L1.X1)
abbrev aG.L1.Y:=(aG.L1.Y0)⊕(aG.L1.Y1)
def aG.L1.out:aG.L1.X->Out (Exit×AS):=λx=> .br x.isLeft (.get x.getLeft? λa=> .ok (aG.L1.dE a)) (.get x.getRight? λb=> .ok (aG.L1.fQ b))
def aG.L1.add:aG.L1.D->aG.L1.Y->aG.L1.X:=λ(sum,t66,t67,t68) y=>match y with | .inl y=> .inl y | .inr z=> .inr (z)
abbrev aG.D:=gT
abbrev aG.Y:=Bool
def aG.L0.aU:aG.L0.D->Prop:=λ(t,l,n,i,m)=>l.length<=9223372036854775807/\n=l.length/\∃k:Nat,k<=l.length/\i=k
def aG.L0.F:aG.L0.D->aG.L0.Y:=λ(t,l,n,i,m)=>if uG m (l.drop i.toNat) then .inr () else .inl ()
def aG.L1.aU:aG.L1.D->Prop:=λ(s,l,n,i)=>(∀o∈l,Fh o.2.1)/\l.length<=9223372036854775807/\n=l.length/\∃k:Nat,k<=l.length/\i=k
def aG.L1.F:aG.L1.D->aG.L1.Y:=λ(s,l,n,i)=>if sw s (l.drop i.toNat) then .inr () else .inl ()
def aG.aU:aG.D->Prop:=λt=>SE t
def aG.F:aG.D->aG.Y:=λt=>lf t
def aG.L0.E:=eO.hZ aG.L0.st aG.L0.aU aG.L0.add aG.L0.F aG.L0.out
def aG.L0.call:aG.L0.D->Option aG.L0.X:=jH aG.L0.E aG.L0.st
def aG.L1.E:=eO.hZ aG.L1.st aG.L1.aU aG.L1.add aG.L1.F aG.L1.out
def aG.L1.call:aG.L1.D->Option aG.L1.X:=jH aG.L1.E aG.L1.st
def aG:Fs Tryz.prog aG.aU bE aG.F:=fK 66 Tryz.f66 (λt=>([.d iL t],[])) (λx=>⟨.d .bool x,[],[]⟩) [some iL] [nF.sg,lW.sg,bq.sg] {loops:=oM [(5,{bm:=[1,3,33,34,35],sites:=[31]}),(13,{bm:=[6,66,67,68]})],outs:=oL [(5,{bm:=[1]},{bm:=[2]}),(13,{},{bm:=[2]})],iA:=pq [(5,aG.L0.E),(13,aG.L1.E)]}
def aG.L0.R:= @gL Tryz.prog (lN aG.G) aG.an 0 Tryz.f66 0 _ aG.L0.st
abbrev aG.L0.Ok:=nh Tryz.prog (lN aG.G) aG.an 0 Tryz.f66 0 aG.L0.st aG.L0.aU aG.L0.add aG.L0.F aG.L0.out
def aG.L1.R:= @gL Tryz.prog (lN aG.G) aG.an 0 Tryz.f66 1 _ aG.L1.st
abbrev aG.L1.Ok:=nh Tryz.prog (lN aG.G) aG.an 0 Tryz.f66 1 aG.L1.st aG.L1.aU aG.L1.add aG.L1.F aG.L1.out
theorem aG.L0.run:mq aG.L0.call aG.L0.aU aG.L0.add aG.L0.F:=oo (oa [.d iL,.d (.slice gX),.d ti,.d ti,.d (.slice (.pair jk .bool))] λ_=>by kernel_rfl)
theorem aG.L0.cM:nM @aG.L0.R aG.L0.st aG.L0.aU aG.L0.add aG.L0.F aG.L0.out aG.L0.Ok:=oF
theorem aG.L0.step{R:Type}(lb:gT)(t33:(List gz))(t34:Int)(t35:Int)(n31:(List (lF×Bool)))(kn:AS->Option R)(kx:Exit->AS->Option R):aG.L0.R (lb,t33,t34,t35,n31) kn kx=
  aJ ((ik t35 t34)) (
   aJ (eY t35 (((List.length t33):Nat):Int)) (
   aJ (((eS jk (nth gX t33 (Int.toNat t35)).1 n31).getD false)) (
    kx (aG.L0.dE ()).1 (aG.L0.dE ()).2) (
    aJ ((ik (nth gX t33 (Int.toNat t35)).1.2.1 (0:Int))) (
     kx (aG.L0.dE ()).1 (aG.L0.dE ()).2) (
     aJ ((qQ (nth gX t33 (Int.toNat t35)).1.2.1 (64:Int))) (
      kx (aG.L0.dE ()).1 (aG.L0.dE ()).2) (
      av (nF.call (nth gX t33 (Int.toNat t35)).2.1) λx8=>
      aJ ((!x8)) (
       kx (aG.L0.dE ()).1 (aG.L0.dE ()).2) (
       kn (aG.L0.st (lb,t33,t34,(bt .i64 t35 (1:Int)),(jK jk (nth gX t33 (Int.toNat t35)).1 true n31)))))))) none) (
   kx (aG.L0.fQ lb).1 (aG.L0.fQ lb).2):=by kernel_rfl
theorem aG.L1.run:mq aG.L1.call aG.L1.aU aG.L1.add aG.L1.F:=oo (oa [.d ti,.d (.slice iR),.d ti,.d ti] λ_=>by kernel_rfl)
theorem aG.L1.cM:nM @aG.L1.R aG.L1.st aG.L1.aU aG.L1.add aG.L1.F aG.L1.out aG.L1.Ok:=oF
theorem aG.L1.step{R:Type}(sum:Int)(t66:(List j7))(t67:Int)(t68:Int)(kn:AS->Option R)(kx:Exit->AS->Option R):aG.L1.R (sum,t66,t67,t68) kn kx=
  aJ ((ik t68 t67)) (
   aJ (eY t68 (((List.length t66):Nat):Int)) (
   av (lW.call (sum,(nth iR t66 (Int.toNat t68)).1)) λC8=>
   aJ ((!C8.2)) (
    kx (aG.L1.dE ()).1 (aG.L1.dE ()).2) (
    av (bq.call (nth iR t66 (Int.toNat t68)).2.1) λOd=>
    aJ ((!Od)) (
     kx (aG.L1.dE ()).1 (aG.L1.dE ()).2) (
     kn (aG.L1.st (C8.1,t66,t67,(bt .i64 t68 (1:Int))))))) none) (
   kx (aG.L1.fQ ()).1 (aG.L1.fQ ()).2):=by kernel_rfl
theorem aG.eq{R:Type}(t)(k:K1 R):aG.A t k=
  aJ ((ik (t.1.length:Int) 1)) (
   k (aG.out false)) (
   aJ ((nc (t.1.length:Int) 64)) (
    k (aG.out false)) (
    aJ ((nc (t.2.1.length:Int) 64)) (
     k (aG.out false)) (
     aJ ((ik t.2.2.1 0)) (
      k (aG.out false)) (
      av (aG.L0.call (t,t.1,(t.1.length:Int),0,([]:List (lF×Bool)))) λOd=>
      aJ (Od.isLeft) (
       av (Od.getLeft?) λa13=>
       k (aG.out false)) (
       av (Od.getRight?) λb14=>
       av (aG.L1.call (0,b14.2.1,(b14.2.1.length:Int),0)) λHo=>
       aJ (Ho.isLeft) (
        av (Ho.getLeft?) λa31=>
        k (aG.out false)) (
        av (Ho.getRight?) λb32=>
        k (aG.out true))))))):=by kernel_rfl
theorem aG.L0.ok:aG.L0.Ok:=by
 refine aG.L0.cM (λ(t,l,n,i,m)=>l.length - i.toNat) ?_
 rintro⟨t,l,n,i,m⟩ ⟨hb,rfl,k,hk,rfl⟩
 have hb:l.length<=9223372036854775807:=hb
 have hk:k<=l.length:=hk
 by_cases h:k < l.length
 ·have n1:nth gX l k=l[k]:=dg (t:=gX) h
  have hd:uG m (l.drop k)=((!(xJ m l[k]) && u6 l[k]) && uG (jK jk l[k].1 true m) (l.drop (k+1))):=by rw[aq h];rfl
  have step:∀ {R:Type} (kn:AS->Option R) (kx:Exit->AS->Option R),aG.L0.R (t,l,(l.length:Int),(k:Int),m) kn kx=aJ (!(xJ m l[k]) && u6 l[k]) (kn (aG.L0.st (t,l,(l.length:Int),((k+1:Nat):Int),jK jk l[k].1 true m))) (kx (aG.L0.dE ()).1 (aG.L0.dE ()).2):=by
   intro R kn kx
   rw[aG.L0.step,bh (by omega),bp (by omega) (by omega),aa,n1,N.pk (by omega),nF.run (d:=l[k].2.1) trivial]
   simp only[ae,ab,bE,nF.F]
   have e:(eS jk l[k].1 m).getD false=xJ m l[k]:=rfl
   rw[e]
   cases xJ m l[k]
   ·simp only[dX,bO,ah,u6]
    by_cases h1:l[k].1.2.1 < 0
    ·rw[bh h1,ae,bf (λx=>by omega)];rfl
    ·rw[aR h1,ah]
     by_cases h2:64<=l[k].1.2.1
     ·rw[eQ h2,ae,bf (λx=>by omega)];rfl
     ·rw[dQ h2,ah,aP ⟨by omega,by omega⟩]
      cases sJ l[k].2.1 <;> rfl
   ·rfl
  cases hp:(!(xJ m l[k]) && u6 l[k])
  ·right
   refine⟨aG.L0.dE (),?_,λkn kx=> ?_⟩
   ·simp only[aG.L0.add,aG.L0.F,aa,hd,hp,dF,bJ,if_false]
    rfl
   ·rw[step,hp,ah]
  ·left
   refine⟨(t,l,l.length,((k+1:Nat):Int),jK jk l[k].1 true m),⟨hb,rfl,k+1,by omega,rfl⟩,by simp only[aa];omega,?_,λkn kx=> ?_⟩
   ·simp only[aG.L0.add,aG.L0.F,aa,hd,hp,bO]
   ·rw[step,hp,ae]
 ·right
  obtain rfl:k=l.length:=by omega
  refine⟨aG.L0.fQ t,?_,λkn kx=> ?_⟩
  ·simp only[aG.L0.add,aG.L0.F,aa,aQ]
   rfl
  ·rw[aG.L0.step]
   simp(disch:=omega) only[↓S1,↓if_pos,↓if_neg,if_pos,if_neg,if_true,if_false,S2]
theorem aG.L1.ok:aG.L1.Ok:=by
 refine aG.L1.cM (λ(s,l,n,i)=>l.length - i.toNat) ?_
 rintro⟨s,l,n,i⟩ ⟨hl,hb,rfl,k,hk,rfl⟩
 have hb:l.length<=9223372036854775807:=hb
 have hk:k<=l.length:=hk
 by_cases h:k < l.length
 ·have hx:Fh l[k].2.1:=hl _ (bw h)
  have n1:nth iR l k=l[k]:=dg (t:=iR) h
  have hd:sw s (l.drop k)=((qh s l[k].1 && nC l[k].2.1) && sw (s+l[k].1) (l.drop (k+1))):=by rw[aq h];rfl
  have step:∀ {R:Type} (kn:AS->Option R) (kx:Exit->AS->Option R),aG.L1.R (s,l,(l.length:Int),(k:Int)) kn kx=aJ (qh s l[k].1 && nC l[k].2.1) (kn (aG.L1.st (s+l[k].1,l,(l.length:Int),((k+1:Nat):Int)))) (kx (aG.L1.dE ()).1 (aG.L1.dE ()).2):=by
   intro R kn kx
   rw[aG.L1.step,bh (by omega),bp (by omega) (by omega),aa,n1,N.pk (by omega),lW.run (d:=(s,l[k].1)) trivial,bq.run (d:=l[k].2.1) hx]
   simp only[ae,ab,bE,lW.F,bE,bq.F]
   cases qh s l[k].1
   ·rfl
   ·cases nC l[k].2.1 <;> rfl
  cases hp:(qh s l[k].1 && nC l[k].2.1)
  ·right
   refine⟨aG.L1.dE (),?_,λkn kx=> ?_⟩
   ·simp only[aG.L1.add,aG.L1.F,aa,hd,hp,dF,bJ,if_false]
    rfl
   ·rw[step,hp,ah]
  ·left
   refine⟨(s+l[k].1,l,l.length,((k+1:Nat):Int)),⟨hl,hb,rfl,k+1,by omega,rfl⟩,by simp only[aa];omega,?_,λkn kx=> ?_⟩
   ·simp only[aG.L1.add,aG.L1.F,aa,hd,hp,bO]
   ·rw[step,hp,ae]
 ·right
  obtain rfl:k=l.length:=by omega
  refine⟨aG.L1.fQ (),?_,λkn kx=> ?_⟩
  ·simp only[aG.L1.add,aG.L1.F,aa,aQ]
   rfl
  ·rw[aG.L1.step]
   simp(disch:=omega) only[↓S1,↓if_pos,↓if_neg,if_pos,if_neg,if_true,if_false,S2]
theorem aG.ok:aG.Ok:=by
 rintro⟨is,os,nt,u⟩ ⟨hl,h1,h2⟩
 have h1:is.length<=9223372036854775807:=h1
 have h2:os.length<=9223372036854775807:=h2
 rw[aG.eq,aG.L0.run (d:=((is,os,nt,u),is,is.length,0,[])) ⟨h1,rfl,0,by omega,rfl⟩]
 simp only[ab,aG.L0.add,aG.L0.F,bH,aI,bE,aG.F,lf,zA]
 by_cases a1:is.length < 1
 ·rw[bh (by omega),ae,bf (λx=>by omega)];rfl
 rw[aR (by omega),ah]
 by_cases a2:64 < is.length
 ·rw[cX (by omega),ae,bf (λx=>by omega)];rfl
 rw[cj (by omega),ah]
 by_cases a3:64 < os.length
 ·rw[cX (by omega),ae,bf (λx=>by omega)];rfl
 rw[cj (by omega),ah]
 by_cases a4:nt < 0
 ·rw[bh (by omega),ae,bf (λx=>by omega)];rfl
 rw[aR (by omega),ah,aP ⟨by omega,by omega,by omega,by omega⟩]
 cases uG [] is
 ·rfl
 ·simp only[if_true,bO]
  show av (aG.L1.call (0,os,(os.length:Int),0)) _=_
  rw[aG.L1.run (d:=(0,os,os.length,0)) ⟨hl,h2,rfl,0,by omega,rfl⟩]
  simp only[ab,aG.L1.add,aG.L1.F,bH,aI]
  cases sw 0 os <;> rfl
theorem aG.run:aG.RS:=rE [.d iL] aG
def aG.sg:=aG.fS aG.ok 2 ⟨.hZ aG.L0.ok,⟨.hZ aG.L1.ok,trivial⟩⟩
abbrev gh.D:=Bs
abbrev gh.Y:=Bs
def gh.aU:gh.D->Prop:=λl=>l.length<=1000000
def gh.F:gh.D->gh.Y:=λl=>l
def gh:Fs Tryz.prog gh.aU bE gh.F:=fK 142 Tryz.f142 (λsv=>([.d tU sv],[])) (λx=>⟨.d tU x,[],[]⟩) [some tU] [] {bU:=[5],res:=[some tU]}
theorem gh.eq{R:Type}(sv)(k:K1 R):gh.A sv k=
  aJ (decide (0 < (List.length sv))) (
   aJ (dG (0+(List.length sv)) 8) (
   aJ (decide (0=0/\(0+(0+(List.length sv)))<=(List.length ((List.take 0 (List.replicate 0 0))++sv)))) (
   k (gh.out (cut ((List.take 0 (List.replicate 0 0))++sv) 0 (0+(List.length sv))))) none) none) (
   nd (
    k (gh.out ([]:List Int))) (
    aJ (dG (0+(List.length sv)) 8) (
    aJ (decide (0=0/\(0+(0+(List.length sv)))<=(List.length ((List.take 0 (List.replicate 0 0))++sv)))) (
    k (gh.out (cut ((List.take 0 (List.replicate 0 0))++sv) 0 (0+(List.length sv))))) none) none)):=by kernel_rfl
theorem gh.ok:gh.Ok:=by
 intro l hl
 have hl:l.length<=1000000:=hl
 have hr:dG l.length 8=true:=dU (by omega) (by omega)
 have e0:(List.take 0 (List.replicate 0 0):List Int)=[]:=rfl
 rw[gh.eq]
 simp only[aO,hr,ae,e0,aS,ay,and_self,decide_true,fi,bE,gh.F]
 by_cases h:0 < l.length
 ·simp only[aP h,ae]
 ·have:l=[]:=bo (by omega)
  subst this
  simp only[aZ,vW,bf (jG 0),ah]
theorem gh.run:gh.RS:=rE [.d tU] gh
def gh.sg:=gh.fS gh.ok
def jV(l:List Int):Lk:=([(l,0,0,0,())],())
abbrev rA.D:=Bs
abbrev rA.Y:=Lk
def rA.aU:rA.D->Prop:=λl=>l.length<=1000000
def rA.F:rA.D->rA.Y:=λl=>jV l
def rA:Fs Tryz.prog rA.aU bE rA.F:=fK 71 Tryz.f71 (λl=>([.d tU l],[])) (λx=>⟨.d mK x,[],[]⟩) [some tU] [gh.sg]
theorem rA.eq{R:Type}(l)(k:K1 R):rA.A l k=
 av (gh.call l) λx1=>
 k (rA.out ([(x1,(0,(0,(0,()))))],())):=by kernel_rfl
theorem rA.ok:rA.Ok:=by
 intro l hl
 rw[rA.eq,gh.run (d:=l) hl]
 rfl
theorem rA.run:rA.RS:=rE [.d tU] rA
def rA.sg:=rA.fS rA.ok
abbrev oe.D:=Int
abbrev oe.Y:=Lk
def oe.aU:oe.D->Prop:=λ_=>True
def oe.F:oe.D->oe.Y:=λp=>jV [p]
def oe:Fs Tryz.prog oe.aU bE oe.F:=fK 17 Tryz.f17 (λp=>([.d tu p],[])) (λx=>⟨.d mK x,[],[]⟩) [some tu] [rA.sg]
theorem oe.eq{R:Type}(p)(k:K1 R):oe.A p k=
 av (rA.call [p]) λx1=>
 k (oe.out x1):=by kernel_rfl
theorem oe.ok:oe.Ok:=by
 intro p _
 rw[oe.eq,rA.run (d:=[p]) (by show [p].length<=_;simp)]
 rfl
theorem oe.run:oe.RS:=rE [.d tu] oe
def oe.sg:=oe.fS oe.ok
def lU(o:List Int)(ks:List Int):List Int:=ks.foldl (λo p=>o++lO p) o
def Nh(o:List Int)(b:sN):List Int:=dY (dY (lU (dY o b.1.length) b.1) b.2.1) b.2.2.1++lO b.2.2.2.1
def Kj(l:Lk):List Int:=if nC l then l.1.foldl Nh (dY [] l.1.length) else []
theorem vS:∀(ks:List Int) (o:List Int),(lU o ks).length=o.length+8*ks.length
 |[],o=>rfl
 |k::ks,o=>by
  show(lU (o++lO k) ks).length=_
  rw[vS ks,aj,cF,aD];omega
theorem Ei(o:List Int)(b:sN)(h:b.1.length<=12):(Nh o b).length<=o.length+200:=by
 unfold Nh
 have h1:=fW o b.1.length
 have h2:=vS b.1 (dY o b.1.length)
 have h3:=fW (lU (dY o b.1.length) b.1) b.2.1
 have h4:=fW (dY (lU (dY o b.1.length) b.1) b.2.1) b.2.2.1
 rw[aj,cF];omega
def Nc(n:Int):Prop:=n<=9223372036854775807
def Q2(b:sN):Prop:=b.1.length<=12/\Nc b.2.1/\Nc b.2.2.1
theorem Pc{b:sN}(h:qM b=true):Q2 b:=by
 unfold qM y7 at h
 simp only[ak,decide_eq_true_eq]at h
 obtain⟨h1,_,h2,h3,_⟩:=h
 exact⟨h1,by unfold Nc;omega,by unfold Nc;omega⟩
theorem BB(o:List Int)(ks:List Int)(k:Nat)(h:k < ks.length):lU o (ks.drop k)=lU (o++lO ks[k]) (ks.drop (k+1)):=by rw[aq h];rfl
abbrev ct.L0.D:=Bs×(List sN)×Int×Int
abbrev ct.L0.Y:=Bs
abbrev ct.L1.D:=Bs×(List sN)×Int×Int×Bs×Int×Int×sN
abbrev ct.L1.Y:=Bs
abbrev ct.L1.X:=((List sN)×Int×Int×sN)×(Bs)
def ct.L1.add:ct.L1.D->ct.L1.Y->ct.L1.X:=λ(pI,Cq,Cr,Cs,t28,t29,t30,n5) y=>((Cq,Cr,Cs,n5),y)
abbrev ct.D:=Lk
abbrev ct.Y:=Bs
def ct.L1.aU:ct.L1.D->Prop:=λ(o,bs,n,i,ks,m,j,b)=>ks.length<=12/\o.length+8*ks.length<=80000000+8*j.toNat/\m=ks.length/\∃k:Nat,k<=ks.length/\j=k
def ct.L1.F:ct.L1.D->ct.L1.Y:=λ(o,bs,n,i,ks,m,j,b)=>lU o (ks.drop j.toNat)
def ct.L0.aU:ct.L0.D->Prop:=λ(o,bs,n,i)=>(∀b∈bs,Q2 b)/\bs.length<=4/\o.length<=1000+200*i.toNat/\n=bs.length/\∃k:Nat,k<=bs.length/\i=k
def ct.L0.F:ct.L0.D->ct.L0.Y:=λ(o,bs,n,i)=>(bs.drop i.toNat).foldl Nh o
def ct.aU:ct.D->Prop:=λl=>Hh l/\l.1.length<=9223372036854775807
def ct.F:ct.D->ct.Y:=λl=>Kj l
def ct.L0:Ls ct.L0.aU bE ct.L0.F:=pG (λ(outv,t16,t17,t18)=>⟨([.undef,.undef,.undef,.d tB outv]++bj 12 ([.d (.slice kK) t16,.d ti t17,.d ti t18]++bj 31 [])),[],(List.replicate 50 [])⟩) (λx=>(.exit 0,⟨([.undef,.undef,.undef,.d tB x]++bj 46 []),[],(List.replicate 50 [])⟩))
def ct.L1:Ls ct.L1.aU ct.L1.add ct.L1.F:=pG (λ(pI,Cq,Cr,Cs,t28,t29,t30,n5)=>⟨([.undef,.undef,.undef,.d tB pI,.undef,.ptr (.new 5 0) 0 [] 0]++bj 10 ([.d (.slice kK) Cq,.d ti Cr,.d ti Cs]++bj 9 ([.d tU t28,.d ti t29,.d ti t30]++bj 19 []))),[],(cg 5 ([[.obj 0 false (.d kK n5)]]++cg 44 []))⟩) (λx=>(.exit 2,⟨([.undef,.undef,.undef,.d tB x.2,.undef,.ptr (.new 5 0) 0 [] 0]++bj 10 ([.d (.slice kK) x.1.1,.d ti x.1.2.1,.d ti x.1.2.2.1]++bj 31 [])),[],(cg 5 ([[.obj 0 false (.d kK x.1.2.2.2)]]++cg 44 []))⟩))
def ct:Fs Tryz.prog ct.aU bE ct.F:=fK 146 Tryz.f146 (λl=>([.d mK l],[])) (λx=>⟨.d tB x,[],[]⟩) [some mK] [bq.sg,js.sg,kU.sg] {loops:=oM [(5,{bm:=[3,16,17,18]}),(9,{bm:=[3,5,16,17,18,28,29,30],sites:=[5]})],outs:=oL [(5,{bm:=[3]},{bm:=[2]}),(9,{bm:=[3,5,16,17,18],sites:=[5]},{bm:=[2]})],iA:=pq [(5,ct.L0.E),(9,ct.L1.E)],res:=[some tB]}
theorem ct.L0.run:ct.L0.RS:=rL [.d tB,.d (.slice kK),.d ti,.d ti] ct.L0
theorem ct.L0.step{R:Type}(outv t16 t17 t18)(kn:K2 R)(kx:K3 R):ct.R 0 ct.L0 (outv,t16,t17,t18) kn kx=
  aJ ((ik t18 t17)) (
   aJ (eY t18 (t16.length:Int)) (
   av (js.call (outv,(((List.length (nth kK t16 (Int.toNat t18)).1):Nat):Int))) λx1=>
   av (ct.L1.call (x1,t16,t17,t18,(nth kK t16 (Int.toNat t18)).1,(((List.length (nth kK t16 (Int.toNat t18)).1):Nat):Int),0,(nth kK t16 (Int.toNat t18)))) λx2=>
   av (js.call (x2.2,x2.1.2.2.2.2.1)) λx3=>
   av (js.call (x3,x2.1.2.2.2.2.2.1)) λx4=>
   av (kU.call (x4,x2.1.2.2.2.2.2.2.1)) λx5=>
   kn (ct.L0.st (x5,x2.1.1,x2.1.2.1,(bt .i64 x2.1.2.2.1 1)))) none) (
   ct.L0.go kx outv):=by kernel_rfl
theorem ct.L1.run:ct.L1.RS:=rL [.d tB,.d (.slice kK),.d ti,.d ti,.d tU,.d ti,.d ti,.d kK] ct.L1
theorem ct.L1.step{R:Type}(pI Cq Cr Cs t28 t29 t30 n5)(kn:K2 R)(kx:K3 R):ct.R 1 ct.L1 (pI,Cq,Cr,Cs,t28,t29,t30,n5) kn kx=
  aJ ((ik t30 t29)) (
   aJ (eY t30 (t28.length:Int)) (
   av (kU.call (pI,(nth tu t28 (Int.toNat t30)))) λx1=>
   kn (ct.L1.st (x1,Cq,Cr,Cs,t28,t29,(bt .i64 t30 1),n5))) none) (
   ct.L1.go kx ((Cq,Cr,Cs,n5),pI)):=by kernel_rfl
theorem ct.eq{R:Type}(l)(k:K1 R):ct.A l k=
  av (bq.call l) λx1=>
  aJ ((!x1)) (
   k (ct.out ([]:List Int))) (
   av (js.call (([]:List Int),(l.1.length:Int))) λx2=>
   av (ct.L0.call (x2,l.1,(l.1.length:Int),0)) λx9=>
   k (ct.out x9)):=by kernel_rfl
theorem ct.L1.ok:(ct.lE 1 ct.L1):=by
 refine(ct.mr 1 ct.L1) (λ(o,bs,n,i,ks,m,j,b)=>ks.length - j.toNat) ?_
 rintro⟨o,bs,n,i,ks,m,j,b⟩ ⟨PR,hl,rfl,k,hk,rfl⟩
 have PR:ks.length<=12:=PR
 have hk:k<=ks.length:=hk
 have hl:o.length+8*ks.length<=80000000+8*(k:Int).toNat:=hl
 rw[aa]at hl
 by_cases h:k < ks.length
 ·left
  have n1:nth (.int .u64) ks k=ks[k]:=dg (t:= .int .u64) h
  refine⟨(o++lO ks[k],bs,n,i,ks,ks.length,((k+1:Nat):Int),b),⟨PR,by rw[aj,cF,aa];omega,rfl,k+1,by omega,rfl⟩,by simp only[aa];omega,?_,λkn kx=> ?_⟩
  ·simp only[ct.L1.add,ct.L1.F,aa]
   rw[BB _ _ _ h]
  ·rw[ct.L1.step]
   simp(disch:=omega) only[↓S1,↓if_pos,↓if_neg,if_pos,if_neg,if_true,if_false,S2,n1]
   rw[kU.run (d:=(o,ks[k])) (by show o.length<=90000000;omega)]
   rfl
 ·right
  obtain rfl:k=ks.length:=by omega
  intro R kn kx
  rw[ct.L1.step]
  simp(disch:=omega) only[↓S1,↓if_pos,↓if_neg,if_pos,if_neg,if_true,if_false,S2,ct.L1.add,ct.L1.F,aQ]
  rfl
theorem ct.L0.ok:(ct.lE 0 ct.L0):=by
 refine(ct.mr 0 ct.L0) (λ(o,bs,n,i)=>bs.length - i.toNat) ?_
 rintro⟨o,bs,n,i⟩ ⟨hb,h4,hl,rfl,k,hk,rfl⟩
 have h4:bs.length<=4:=h4
 have hk:k<=bs.length:=hk
 have hl:o.length<=1000+200*(k:Int).toNat:=hl
 rw[aa]at hl
 by_cases h:k < bs.length
 ·left
  have hx:=hb _ (bw h)
  have n1:nth (.pair (.slice (.int .u64)) (.pair (.int .i64) (.pair (.int .i64) (.pair (.int .u64) .unit)))) bs k=bs[k]:=dg (t:=(.pair (.slice (.int .u64)) (.pair (.int .i64) (.pair (.int .i64) (.pair (.int .u64) .unit))))) h
  have e0:=Ei o bs[k] hx.1
  refine⟨(Nh o bs[k],bs,bs.length,((k+1:Nat):Int)),⟨hb,h4,by rw[aa];omega,rfl,k+1,by omega,rfl⟩,by simp only[aa];omega,?_,λkn kx=> ?_⟩
  ·simp only[bE,ct.L0.F,aa]
   rw[aq h]
   rfl
  ·rw[ct.L0.step,bh (by omega),bp (by omega) (by omega),aa,n1]
   obtain⟨⟨ks,af,dl,sc,u⟩,Rw⟩:∃b,bs[k]=b:=⟨_,rfl⟩
   rw[Rw]at hx e0 ⊢
   obtain⟨J1,ha,hd⟩:=hx
   have J1:ks.length<=12:=J1
   have ha:af<=9223372036854775807:=ha
   have hd:dl<=9223372036854775807:=hd
   have l1:=fW o ks.length
   have l2:=vS ks (dY o ks.length)
   have l3:=fW (lU (dY o ks.length) ks) af
   have l4:=fW (dY (lU (dY o ks.length) ks) af) dl
   simp only[ae]
   rw[js.run (d:=(o,(ks.length:Int))) ⟨by show o.length<=90000000;omega,by show(ks.length:Int)<=9223372036854775807;omega⟩]
   simp only[ab,bE,js.F]
   rw[ct.L1.run (d:=(dY o ks.length,bs,bs.length,k,ks,ks.length,0,(ks,af,dl,sc,u))) ⟨J1,by show(dY o ks.length).length+8*ks.length<=_;omega,rfl,0,by omega,rfl⟩]
   simp only[ab,ct.L1.add,ct.L1.F,bH,aI]
   rw[js.run (d:=(lU (dY o ks.length) ks,af)) ⟨by show(lU (dY o ks.length) ks).length<=90000000;omega,ha⟩]
   simp only[ab,bE,js.F]
   rw[js.run (d:=(dY (lU (dY o ks.length) ks) af,dl)) ⟨by show(dY (lU (dY o ks.length) ks) af).length<=90000000;omega,hd⟩]
   simp only[ab,bE,js.F]
   rw[kU.run (d:=(dY (dY (lU (dY o ks.length) ks) af) dl,sc)) (by show(dY (dY (lU (dY o ks.length) ks) af) dl).length<=90000000;omega)]
   simp only[ab,bE,kU.F]
   rw[N.pk (by omega)]
   rfl
 ·right
  obtain rfl:k=bs.length:=by omega
  intro R kn kx
  rw[ct.L0.step]
  simp(disch:=omega) only[↓S1,↓if_pos,↓if_neg,if_pos,if_neg,if_true,if_false,S2,bE,ct.L0.F,aQ]
  rfl
theorem Ib{l:Lk}(h:nC l=true):(∀b∈l.1,Q2 b)/\0 < l.1.length/\l.1.length<=4:=by
 unfold nC at h
 simp only[ak,dw,decide_eq_true_eq]at h
 exact⟨λb hb=>Pc (h.1 b hb),h.2⟩
theorem ct.ok:ct.Ok:=by
 rintro l ⟨hl,hb⟩
 have hl:Hh l:=hl
 rw[ct.eq,bq.run (d:=l) ⟨hl,hb⟩]
 simp only[ab,bE,bq.F,bE,ct.F,Kj]
 cases nj:nC l
 ·rfl
 ·obtain⟨h1,h2,h3⟩:=Ib nj
  have l1:=fW [] l.1.length
  have l0:([]:List Int).length=0:=rfl
  simp only[cq,ah,if_true]
  rw[js.run (d:=([],(l.1.length:Int))) ⟨by show([]:List Int).length<=90000000;omega,by show(l.1.length:Int)<=9223372036854775807;omega⟩]
  simp only[ab,bE,js.F]
  rw[ct.L0.run (d:=(dY [] l.1.length,l.1,l.1.length,0)) ⟨h1,h3,by show(dY [] l.1.length).length<=_;omega,rfl,0,by omega,rfl⟩]
  rfl
theorem EE(l:Lk):(Kj l).length<=1000:=by
 unfold Kj
 split
 ·rename_i h
  obtain⟨h1,h2,h3⟩:=Ib h
  have key:∀(bs:List sN) (o:List Int),(∀b∈bs,Q2 b)->(bs.foldl Nh o).length<=o.length+200*bs.length:=by
   intro bs
   induction bs with
   |nil=>intro o _;exact ay _
   |cons b bs ih=>
    intro o hb
    have e1:=ih (Nh o b) λx hx=>hb x (aL _ hx)
    have e2:=Ei o b (hb b aN).1
    rw[cZ,aD];omega
  have e:=key l.1 (dY [] l.1.length) h1
  have e2:=fW [] l.1.length
  have l0:([]:List Int).length=0:=rfl
  omega
 ·exact aV _
theorem ct.run:ct.RS:=rE [.d mK] ct
def ct.sg:=ct.fS ct.ok 2 ⟨.hZ ct.L0.ok,⟨.hZ ct.L1.ok,trivial⟩⟩
abbrev lQ.D:=Bs×Bs
abbrev lQ.Y:=Bs
def lQ.aU:lQ.D->Prop:=λ(b,h)=>b.length+h.length<=100000000/\h.length=32
def lQ.F:lQ.D->lQ.Y:=λ(b,h)=>b++h
def lQ:Fs Tryz.prog lQ.aU bE lQ.F:=fK 124 Tryz.f124 (λ(b,h)=>([.d tB b,.d tH h],[])) (λx=>⟨.d tB x,[],[]⟩) [some tB,some tH] [iX.sg]
theorem lQ.eq{R:Type}(b h)(k:K1 R):lQ.A (b,h) k=
 av (iX.call (b,(cut h 0 32))) λx1=>
 k (lQ.out x1):=by kernel_rfl
theorem lQ.ok:lQ.Ok:=by
 rintro⟨b,h⟩ ⟨h1,h2⟩
 have h1:b.length+h.length<=100000000:=h1
 have h2:h.length=32:=h2
 rw[lQ.eq,fi h2,iX.run (d:=(b,h)) h1]
 rfl
theorem lQ.run:lQ.RS:=rE [.d tB,.d tB] lQ
def lQ.sg:=lQ.fS lQ.ok
abbrev lq.D:=Bs×Bs
abbrev lq.Y:=Bs
def lq.aU:lq.D->Prop:=λ(b,c)=>b.length+c.length<=90000000
def lq.F:lq.D->lq.Y:=λ(b,c)=>b++(sz c.length++c)
def lq:Fs Tryz.prog lq.aU bE lq.F:=fK 145 Tryz.f145 (λ(b,c)=>([.d tB b,.d tB c],[])) (λx=>⟨.d tB x,[],[]⟩) [some tB,some tB] [gZ.sg,bF.sg] {res:=[some tB]}
theorem lq.eq{R:Type}(b c)(k:K1 R):lq.A (b,c) k=
 av (gZ.call (c.length:Int)) λx1=>
 av (bF.call [b,x1,c]) λx2=>
 k (lq.out x2):=by kernel_rfl
theorem lq.ok:lq.Ok:=by
 rintro⟨b,c⟩ h
 have h:b.length+c.length<=90000000:=h
 have hl:=sA c.length
 rw[lq.eq,gZ.run (d:=(c.length:Int)) ⟨by omega,by omega⟩]
 simp only[ab,bE,gZ.F]
 rw[bF.run (d:=[b,sz c.length,c]) ⟨by show [b,sz c.length,c].length<=_;simp,by show oY [b,sz c.length,c]<=_;simp only[oY,iq,kP,cH,aj];omega⟩]
 simp only[ab,bE,bF.F,bE,lq.F,iq,kP,cH]
theorem lq.run:lq.RS:=rE [.d tB,.d tB] lq
def lq.sg:=lq.fS lq.ok
def wz(b:List Int)(x:gz):List Int:=dY (b++x.1.1) x.1.2.1
def ye(b:List Int)(o:j7):List Int:=dY b o.1++(sz (Kj o.2.1).length++Kj o.2.1)
def tm(t:gT):List Int:=dY (t.2.1.foldl ye (dY (t.1.foldl wz (dY [] t.1.length)) t.2.1.length)) t.2.2.1
def C5(t:gT):List Int:=if lf t then tag (bC (⟨#[116,120]⟩:ByteArray)) [tm t] else List.replicate 32 0
def Vl(x:gz):Prop:=Sm x.1.1/\O4 x.2.1/\x.2.1.2.1.length<=9223372036854775807
def yL(t:gT):Prop:=SE t/\(∀x∈t.1,Vl x)/\t.2.2.1<=9223372036854775807
theorem sa:∀(l:List gz) (m:List (lF×Bool)),uG m l=true->∀x∈l,u6 x=true
 |[],_,_,x,hx=>by cases hx
 |y::l,m,h,x,hx=>by
  rw[uG,ak,ak]at h
  rcases dd.1 hx with rfl | hx
  ·exact h.1.2
  ·exact sa l _ h.2 x hx
theorem pH:∀(l:List j7) (s:Int),sw s l=true->∀o∈l,(0<=o.1/\o.1<=1125899906842624)/\nC o.2.1=true
 |[],_,_,o,ho=>by cases ho
 |y::l,s,h,o,ho=>by
  rw[sw,ak,ak]at h
  rcases dd.1 ho with rfl | ho
  ·have h1:=h.1.1
   unfold qh jr at h1
   simp only[ak,decide_eq_true_eq]at h1
   exact⟨h1.2.1,h.1.2⟩
  ·exact pH l _ h.2 o ho
theorem Bv{x:gz}(h:u6 x=true):0<=x.1.2.1/\x.1.2.1 < 64/\0<=x.2.1.1/\x.2.1.1 < 4/\x.2.1.2.1.length<=12:=by
 unfold u6 sJ at h
 simp only[ak,decide_eq_true_eq]at h
 exact⟨h.1.1,h.1.2,h.2.1.1,h.2.1.2,h.2.2⟩
theorem tt{t:gT}(h:lf t=true):(1<=t.1.length/\t.1.length<=64/\t.2.1.length<=64/\0<=t.2.2.1)/\uG [] t.1=true/\sw 0 t.2.1=true:=by
 unfold lf zA at h
 simp only[ak,decide_eq_true_eq]at h
 exact h
theorem EB(b:List Int)(x:gz):(wz b x).length<=b.length+x.1.1.length+11:=by
 have:=fW (b++x.1.1) x.1.2.1
 rw[aj]at this
 exact this
theorem B1(b:List Int)(o:j7):(ye b o).length<=b.length+1022:=by
 have h1:=fW b o.1
 have h2:=sA (Kj o.2.1).length
 have h3:=EE o.2.1
 unfold ye
 rw[aj,aj]
 omega
abbrev cd.L0.D:=gT×Bs×(List gz)×Int×Int
abbrev cd.L0.Y:=Bs
abbrev cd.L0.X:=(gT)×(Bs)
def cd.L0.add:cd.L0.D->cd.L0.Y->cd.L0.X:=λ(lb,b,t13,t14,t15) y=>(lb,y)
abbrev cd.L1.D:=gT×Bs×(List j7)×Int×Int
abbrev cd.L1.Y:=Bs
abbrev cd.L1.X:=(gT)×(Bs)
def cd.L1.add:cd.L1.D->cd.L1.Y->cd.L1.X:=λ(rN,iI,t35,t36,t37) y=>(rN,y)
abbrev cd.D:=gT
abbrev cd.Y:=Bs
def cd.L0.aU:cd.L0.D->Prop:=λ(t,b,l,n,i)=>(l).length<=1000000000/\∃k:Nat,k<=(l).length/\i=k/\n=(l).length/\(l.length<=64)/\(∀x∈l,x.1.1.length=32/\x.1.2.1<=9223372036854775807)/\(b.length<=100+50*k)
def cd.L0.F:cd.L0.D->cd.L0.Y:=λ(t,b,l,n,i)=>(List.drop (Int.toNat i) l).foldl wz b
def cd.L1.aU:cd.L1.D->Prop:=λ(t,b,l,n,i)=>(l).length<=1000000000/\∃k:Nat,k<=(l).length/\i=k/\n=(l).length/\(l.length<=64)/\(∀o∈l,o.1<=9223372036854775807/\Fh o.2.1)/\(b.length<=4000+1100*k)
def cd.L1.F:cd.L1.D->cd.L1.Y:=λ(t,b,l,n,i)=>(List.drop (Int.toNat i) l).foldl ye b
def cd.aU:cd.D->Prop:=λt=>lf t=true/\yL t
def cd.F:cd.D->cd.Y:=λt=>tm t
def cd.L0:Ls cd.L0.aU cd.L0.add cd.L0.F:=pG (λ(lb,b,t13,t14,t15)=>⟨([.undef,.ed iL lb,.undef,.d tB b]++bj 9 ([.d (.slice gX) t13,.d ti t14,.d ti t15]++bj 38 [])),[],(List.replicate 54 [])⟩) (λx=>(.exit 0,⟨([.undef,.ed iL x.1,.undef,.d tB x.2]++bj 50 []),[],(List.replicate 54 [])⟩))
def cd.L1:Ls cd.L1.aU cd.L1.add cd.L1.F:=pG (λ(rN,iI,t35,t36,t37)=>⟨([.undef,.ed iL rN,.undef,.d tB iI]++bj 31 ([.d (.slice iR) t35,.d ti t36,.d ti t37]++bj 16 [])),[],(List.replicate 54 [])⟩) (λx=>(.exit 2,⟨([.undef,.ed iL x.1,.undef,.d tB x.2]++bj 50 []),[],(List.replicate 54 [])⟩))
def cd:Fs Tryz.prog cd.aU bE cd.F:=fK 73 Tryz.f73 (λt=>([.d iL t],[])) (λx=>⟨.d tB x,[],[]⟩) [some iL] [js.sg,lQ.sg,ct.sg,lq.sg] {loops:=oM [(3,{bm:=[1,3,13,14,15]}),(9,{bm:=[1,3,35,36,37]})],outs:=oL [(3,{bm:=[1,3]},{bm:=[2]}),(9,{bm:=[1,3]},{bm:=[2]})],iA:=pq [(3,cd.L0.E),(9,cd.L1.E)],res:=[some tB]}
theorem cd.L0.run:cd.L0.RS:=rL [.d iL,.d tB,.d (.slice gX),.d ti,.d ti] cd.L0
theorem cd.L0.step{R:Type}(lb b t13 t14 t15)(kn:K2 R)(kx:K3 R):cd.R 0 cd.L0 (lb,b,t13,t14,t15) kn kx=
  aJ ((ik t15 t14)) (
   aJ (eY t15 (t13.length:Int)) (
   av (lQ.call (b,(nth gX t13 (Int.toNat t15)).1.1)) λx1=>
   av (js.call (x1,(nth gX t13 (Int.toNat t15)).1.2.1)) λx2=>
   kn (cd.L0.st (lb,x2,t13,t14,(bt .i64 t15 1)))) none) (
   cd.L0.go kx (lb,b)):=by kernel_rfl
theorem cd.L1.run:cd.L1.RS:=rL [.d iL,.d tB,.d (.slice iR),.d ti,.d ti] cd.L1
theorem cd.L1.step{R:Type}(rN iI t35 t36 t37)(kn:K2 R)(kx:K3 R):cd.R 1 cd.L1 (rN,iI,t35,t36,t37) kn kx=
  aJ ((ik t37 t36)) (
   aJ (eY t37 (t35.length:Int)) (
   av (js.call (iI,(nth iR t35 (Int.toNat t37)).1)) λx1=>
   av (ct.call (nth iR t35 (Int.toNat t37)).2.1) λx2=>
   av (lq.call (x1,x2)) λx3=>
   kn (cd.L1.st (rN,x3,t35,t36,(bt .i64 t37 1)))) none) (
   cd.L1.go kx (rN,iI)):=by kernel_rfl
theorem cd.eq{R:Type}(t)(k:K1 R):cd.A t k=
 av (js.call (([]:List Int),(t.1.length:Int))) λx1=>
 av (cd.L0.call (t,x1,t.1,(t.1.length:Int),0)) λx4=>
 av (js.call (x4.2,(x4.1.2.1.length:Int))) λx5=>
 av (cd.L1.call (x4.1,x5,x4.1.2.1,(x4.1.2.1.length:Int),0)) λx9=>
 av (js.call (x9.2,x9.1.2.2.1)) λC8=>
 k (cd.out C8):=by kernel_rfl
theorem cd.L0.ok:(cd.lE 0 cd.L0):=by
 refine(cd.mr 0 cd.L0) (λ(t,b,l,n,i)=>(l).length - Int.toNat i) ?_
 rintro⟨t,b,l,n,i⟩ ⟨hlen,k,hk,rfl,rfl,w6,hx,hb⟩
 have hlen:(l).length<=1000000000:=hlen
 have hk:k<=(l).length:=hk
 have w6:l.length<=64:=w6
 have hx:∀x∈l,x.1.1.length=32/\x.1.2.1<=9223372036854775807:=hx
 have hb:b.length<=100+50*k:=hb
 by_cases h:k < (l).length
 ·left
  have n1:nth gX l k=l[k]:=dg (t:=gX) h
  have hd:List.drop k l=l[k]::List.drop (k+1) l:=aq h
  refine⟨(t,(wz b l[k]),l,((l).length:Int),((k+1:Nat):Int)),⟨hlen,k+1,by omega,rfl,rfl,w6,hx,by have:=EB b l[k];have:=(hx _ (bw h)).1;omega⟩,by simp only[aa];omega,?_,λkn kx=> ?_⟩
  ·simp only[cd.L0.add,cd.L0.F,aa,hd,cZ]
  ·rw[cd.L0.step,bh (by omega),bp (by omega) (by omega),aa,n1]
   simp only[ae]
   have e:=hx _ (bw h)
   have e2:(b++l[k].1.1).length=b.length+l[k].1.1.length:=aj
   rw[lQ.run (d:=(b,l[k].1.1)) ⟨by show b.length+l[k].1.1.length<=_;omega,e.1⟩]
   simp only[ab,bE,lQ.F]
   rw[js.run (d:=(b++l[k].1.1,l[k].1.2.1)) ⟨by show(b++l[k].1.1).length<=_;omega,e.2⟩]
   simp only[ab,bE,js.F]
   rw[N.pk (by omega)]
   rfl
 ·right
  obtain rfl:k=(l).length:=by omega
  intro R kn kx
  rw[cd.L0.step,aR (by omega),ah]
  simp only[cd.L0.add,cd.L0.F,aa,aQ,gK]
theorem cd.L1.ok:(cd.lE 1 cd.L1):=by
 refine(cd.mr 1 cd.L1) (λ(t,b,l,n,i)=>(l).length - Int.toNat i) ?_
 rintro⟨t,b,l,n,i⟩ ⟨hlen,k,hk,rfl,rfl,w6,hx,hb⟩
 have hlen:(l).length<=1000000000:=hlen
 have hk:k<=(l).length:=hk
 have w6:l.length<=64:=w6
 have hx:∀o∈l,o.1<=9223372036854775807/\Fh o.2.1:=hx
 have hb:b.length<=4000+1100*k:=hb
 by_cases h:k < (l).length
 ·left
  have n1:nth iR l k=l[k]:=dg (t:=iR) h
  have hd:List.drop k l=l[k]::List.drop (k+1) l:=aq h
  refine⟨(t,(ye b l[k]),l,((l).length:Int),((k+1:Nat):Int)),⟨hlen,k+1,by omega,rfl,rfl,w6,hx,by have:=B1 b l[k];omega⟩,by simp only[aa];omega,?_,λkn kx=> ?_⟩
  ·simp only[cd.L1.add,cd.L1.F,aa,hd,cZ]
  ·rw[cd.L1.step,bh (by omega),bp (by omega) (by omega),aa,n1]
   simp only[ae]
   have e:=hx _ (bw h)
   have e1:=fW b l[k].1
   have e2:=EE l[k].2.1
   rw[js.run (d:=(b,l[k].1)) ⟨by show b.length<=_;omega,e.1⟩]
   simp only[ab,bE,js.F]
   rw[ct.run (d:=l[k].2.1) e.2]
   simp only[ab,bE,ct.F]
   rw[lq.run (d:=(dY b l[k].1,Kj l[k].2.1)) (by show(dY b l[k].1).length+(Kj l[k].2.1).length<=_;omega)]
   simp only[ab,bE,lq.F]
   rw[N.pk (by omega)]
   rfl
 ·right
  obtain rfl:k=(l).length:=by omega
  intro R kn kx
  rw[cd.L1.step,aR (by omega),ah]
  simp only[cd.L1.add,cd.L1.F,aa,aQ,gK]
theorem AJ:∀(l:List gz) (b:List Int),(∀x∈l,x.1.1.length=32)->(l.foldl wz b).length<=b.length+43*l.length
 |[],b,_=>ay _
 |x::l,b,h=>by
  have h1:=EB b x
  have h2:=h x aN
  have h3:=AJ l (wz b x) λy hy=>h y (aL _ hy)
  rw[cZ,aD]
  omega
theorem yf:∀(l:List j7) (b:List Int),(l.foldl ye b).length<=b.length+1022*l.length
 |[],b=>ay _
 |x::l,b=>by
  have h1:=B1 b x
  have h3:=yf l (ye b x)
  rw[cZ,aD]
  omega
theorem B5{t:gT}(nj:lf t=true)(hv:yL t):(tm t).length<=70000:=by
 obtain⟨⟨_,a2,a3,_⟩,_,_⟩:=tt nj
 have h1:=AJ t.1 (dY [] t.1.length) λx hx=>(hv.2.1 x hx).1.1
 have h2:=fW [] t.1.length
 have h3:=fW (t.1.foldl wz (dY [] t.1.length)) t.2.1.length
 have h4:=yf t.2.1 (dY (t.1.foldl wz (dY [] t.1.length)) t.2.1.length)
 have h5:=fW (t.2.1.foldl ye (dY (t.1.foldl wz (dY [] t.1.length)) t.2.1.length)) t.2.2.1
 have h0:([]:List Int).length=0:=rfl
 unfold tm
 omega
theorem cd.ok:cd.Ok:=by
 rintro t ⟨nj,hv⟩
 have hv:yL t:=hv
 obtain⟨⟨_,a2,a3,_⟩,b1,b2⟩:=tt nj
 have h0:([]:List Int).length=0:=rfl
 have l0:=fW [] t.1.length
 have l1:=AJ t.1 (dY [] t.1.length) λx hx=>(hv.2.1 x hx).1.1
 have l2:=fW (t.1.foldl wz (dY [] t.1.length)) t.2.1.length
 have l3:=yf t.2.1 (dY (t.1.foldl wz (dY [] t.1.length)) t.2.1.length)
 rw[cd.eq,js.run (d:=([],(t.1.length:Int))) ⟨by show([]:List Int).length<=_;omega,by show(t.1.length:Int)<=_;omega⟩]
 simp only[ab,bE,js.F]
 rw[cd.L0.run (d:=(t,dY [] t.1.length,t.1,t.1.length,0)) ⟨by show t.1.length<=_;omega,0,aV _,rfl,rfl,a2,λx hx=>⟨(hv.2.1 x hx).1.1,by have:=Bv (sa _ _ b1 x hx);omega⟩,by show(dY [] t.1.length).length<=_;omega⟩]
 simp only[ab,cd.L0.add,cd.L0.F,bH,aI]
 rw[js.run (d:=(t.1.foldl wz (dY [] t.1.length),(t.2.1.length:Int))) ⟨by show(t.1.foldl wz (dY [] t.1.length)).length<=_;omega,by show(t.2.1.length:Int)<=_;omega⟩]
 simp only[ab,bE,js.F]
 rw[cd.L1.run (d:=(t,dY (t.1.foldl wz (dY [] t.1.length)) t.2.1.length,t.2.1,t.2.1.length,0)) ⟨by show t.2.1.length<=_;omega,0,aV _,rfl,rfl,a3,λo ho=>⟨by have:=(pH _ _ b2 o ho).1;omega,hv.1.1 o ho⟩,by show(dY (t.1.foldl wz (dY [] t.1.length)) t.2.1.length).length<=_;omega⟩]
 simp only[ab,cd.L1.add,cd.L1.F,bH,aI]
 rw[js.run (d:=(t.2.1.foldl ye (dY (t.1.foldl wz (dY [] t.1.length)) t.2.1.length),t.2.2.1)) ⟨by show(t.2.1.foldl ye (dY (t.1.foldl wz (dY [] t.1.length)) t.2.1.length)).length<=_;omega,hv.2.2⟩]
 rfl
theorem cd.run:cd.RS:=rE [.d iL] cd
def cd.sg:=cd.fS cd.ok 2 ⟨.hZ cd.L0.ok,⟨.hZ cd.L1.ok,trivial⟩⟩
def uK(t:gT):Prop:=(t.1.length<=1000000000/\∀x∈t.1,x.2.1.2.1.length<=1000000000)/\t.2.1.length<=1000000000/\∀x∈t.2.1,x.2.1.1.length<=1000000000/\∀b∈x.2.1.1,b.1.length<=1000000000
def kN(t:gT):List lF:=if lf t then t.1.map (·.1) else []
def Mj(id:List Int)(k n:Nat):List lF:=(List.range' k n).map λi:Nat=>(id,((i:Int),()))
def rb(t:gT):List lF:=if lf t then Mj (C5 t) 0 t.2.1.length else []
abbrev tid.D:=gT
abbrev tid.Y:=Bs
def tid.aU:tid.D->Prop:=λt=>yL t
def tid.F:tid.D->tid.Y:=λt=>C5 t
def tid:Fs Tryz.prog tid.aU bE tid.F:=fK 18 Tryz.f18 (λt=>([.d iL t],[])) (λx=>⟨.d tH x,[],[]⟩) [some iL] [aG.sg,cd.sg,fG.sg]
theorem tid.eq{R:Type}(t)(k:K1 R):tid.A t k=
  av (aG.call t) λx1=>
  aJ ((!x1)) (
   k (tid.out (List.replicate 32 0))) (
   av (cd.call t) λx2=>
   av (fG.call ((⟨#[116,120]⟩:ByteArray),[x2])) λx3=>
   k (tid.out x3)):=by kernel_rfl
theorem tid.ok:tid.Ok:=by
 intro t hv
 have hv:yL t:=hv
 rw[tid.eq,aG.run (d:=t) hv.1]
 simp only[ab,bE,aG.F,bE,tid.F,C5]
 cases nj:lf t
 ·rfl
 ·have hl:=B5 nj hv
  rw[cd.run (d:=t) ⟨nj,hv⟩]
  simp only[cq,ah,if_true,ab,bE,cd.F]
  rw[fG.run (d:=((⟨#[116,120]⟩:ByteArray),[tm t])) (G6 (by decide) (by omega))]
  rfl
theorem tid.run:tid.RS:=rE [.d iL] tid
def tid.sg:=tid.fS tid.ok
abbrev pg.D:=(List gz)
abbrev pg.Y:=Nat×(List gz)
def pg.aU:pg.D->Prop:=λl=>l.length<=1000000
def pg.F:pg.D->pg.Y:=λl=>(l.length,l)
def pg:Fs Tryz.prog pg.aU bE pg.F:=fK 138 Tryz.f138 (λsv=>([.d (.slice gX) sv],[])) (λx=>⟨.cP (.new 0 0) 0 [] 0 0 x.1,[],[.obj 0 false (.vec 52 gX x.2)]⟩) [some (.slice gX)] [] {bU:=[5],owns:=[⟨2,[],5,38⟩]}
theorem pg.eq{R:Type}(sv)(k:K1 R):pg.A sv k=
  aJ (decide (0 < (List.length sv))) (
   aJ (dG (0+(List.length sv)) 80) (
   k (pg.out ((0+(List.length sv)),((List.take 0 (List.replicate 0 (((List.replicate 32 0),(0,())),((0,(([]:List Sg),(0,()))),()))))++sv)))) none) (
   nd (
    k (pg.out (0,([]:List gz)))) (
    aJ (dG (0+(List.length sv)) 80) (
    k (pg.out ((0+(List.length sv)),((List.take 0 (List.replicate 0 (((List.replicate 32 0),(0,())),((0,(([]:List Sg),(0,()))),()))))++sv)))) none)):=by kernel_rfl
theorem pg.ok:pg.Ok:=by
 intro l hl
 have hl:l.length<=1000000:=hl
 have hr:dG l.length 80=true:=dU (by omega) (by omega)
 rw[pg.eq]
 simp only[aO,hr,ae,eH,aS,bE,pg.F]
 by_cases h:0 < l.length
 ·simp only[aP h,ae]
 ·have:l=[]:=bo (by omega)
  subst this
  simp only[aZ,vW,bf (jG 0),ah]
theorem pg.run:pg.RS:=rE [.d (.slice gX)] pg
def pg.sg:=pg.fS pg.ok
abbrev kD.D:=(List j7)
abbrev kD.Y:=Nat×(List j7)
def kD.aU:kD.D->Prop:=λl=>l.length<=1000000
def kD.F:kD.D->kD.Y:=λl=>(l.length,l)
def kD:Fs Tryz.prog kD.aU bE kD.F:=fK 139 Tryz.f139 (λsv=>([.d (.slice iR) sv],[])) (λx=>⟨.cP (.new 0 0) 0 [] 0 0 x.1,[],[.obj 0 false (.vec 36 iR x.2)]⟩) [some (.slice iR)] [] {bU:=[5],owns:=[⟨2,[],5,37⟩]}
theorem kD.eq{R:Type}(sv)(k:K1 R):kD.A sv k=
  aJ (decide (0 < (List.length sv))) (
   aJ (dG (0+(List.length sv)) 32) (
   k (kD.out ((0+(List.length sv)),((List.take 0 (List.replicate 0 (0,((([]:List sN),()),()))))++sv)))) none) (
   nd (
    k (kD.out (0,([]:List j7)))) (
    aJ (dG (0+(List.length sv)) 32) (
    k (kD.out ((0+(List.length sv)),((List.take 0 (List.replicate 0 (0,((([]:List sN),()),()))))++sv)))) none)):=by kernel_rfl
theorem kD.ok:kD.Ok:=by
 intro l hl
 have hl:l.length<=1000000:=hl
 have hr:dG l.length 32=true:=dU (by omega) (by omega)
 rw[kD.eq]
 simp only[aO,hr,ae,eH,aS,bE,kD.F]
 by_cases h:0 < l.length
 ·simp only[aP h,ae]
 ·have:l=[]:=bo (by omega)
  subst this
  simp only[aZ,vW,bf (jG 0),ah]
theorem kD.run:kD.RS:=rE [.d (.slice iR)] kD
def kD.sg:=kD.fS kD.ok
abbrev nu.D:=(List sN)
abbrev nu.Y:=Nat×(List sN)
def nu.aU:nu.D->Prop:=λl=>l.length<=1000000
def nu.F:nu.D->nu.Y:=λl=>(l.length,l)
def nu:Fs Tryz.prog nu.aU bE nu.F:=fK 141 Tryz.f141 (λsv=>([.d (.slice kK) sv],[])) (λx=>⟨.cP (.new 0 0) 0 [] 0 0 x.1,[],[.obj 0 false (.vec 29 kK x.2)]⟩) [some (.slice kK)] [] {bU:=[5],owns:=[⟨2,[],5,32⟩]}
theorem nu.eq{R:Type}(sv)(k:K1 R):nu.A sv k=
  aJ (decide (0 < (List.length sv))) (
   aJ (dG (0+(List.length sv)) 48) (
   k (nu.out ((0+(List.length sv)),((List.take 0 (List.replicate 0 (([]:List Int),(0,(0,(0,()))))))++sv)))) none) (
   nd (
    k (nu.out (0,([]:List sN)))) (
    aJ (dG (0+(List.length sv)) 48) (
    k (nu.out ((0+(List.length sv)),((List.take 0 (List.replicate 0 (([]:List Int),(0,(0,(0,()))))))++sv)))) none)):=by kernel_rfl
theorem nu.ok:nu.Ok:=by
 intro l hl
 have hl:l.length<=1000000:=hl
 have hr:dG l.length 48=true:=dU (by omega) (by omega)
 rw[nu.eq]
 simp only[aO,hr,ae,eH,aS,bE,nu.F]
 by_cases h:0 < l.length
 ·simp only[aP h,ae]
 ·have:l=[]:=bo (by omega)
  subst this
  simp only[aZ,vW,bf (jG 0),ah]
theorem nu.run:nu.RS:=rE [.d (.slice kK)] nu
def nu.sg:=nu.fS nu.ok
abbrev kE.D:=(List Sg)
abbrev kE.Y:=(List Sg)
def kE.aU:kE.D->Prop:=λl=>l.length<=1000000
def kE.F:kE.D->kE.Y:=λl=>l
def kE:Fs Tryz.prog kE.aU bE kE.F:=fK 140 Tryz.f140 (λsv=>([.d (.slice zy) sv],[])) (λx=>⟨.d (.slice zy) x,[],[]⟩) [some (.slice zy)] [] {bU:=[5],res:=[some (.slice zy)]}
theorem kE.eq{R:Type}(sv)(k:K1 R):kE.A sv k=
  aJ (decide (0 < (List.length sv))) (
   aJ (dG (0+(List.length sv)) 16) (
   aJ (decide (0=0/\(0+(0+(List.length sv)))<=(List.length ((List.take 0 (List.replicate 0 (0,(0,()))))++sv)))) (
   k (kE.out (cut ((List.take 0 (List.replicate 0 (0,(0,()))))++sv) 0 (0+(List.length sv))))) none) none) (
   nd (
    k (kE.out ([]:List Sg))) (
    aJ (dG (0+(List.length sv)) 16) (
    aJ (decide (0=0/\(0+(0+(List.length sv)))<=(List.length ((List.take 0 (List.replicate 0 (0,(0,()))))++sv)))) (
    k (kE.out (cut ((List.take 0 (List.replicate 0 (0,(0,()))))++sv) 0 (0+(List.length sv))))) none) none)):=by kernel_rfl
theorem kE.ok:kE.Ok:=by
 intro l hl
 have hl:l.length<=1000000:=hl
 have hr:dG l.length 16=true:=dU (by omega) (by omega)
 rw[kE.eq]
 simp only[aO,hr,ae,eH,aS,ay,and_self,decide_true,fi,bE,kE.F]
 by_cases h:0 < l.length
 ·simp only[aP h,ae]
 ·have:l=[]:=bo (by omega)
  subst this
  simp only[aZ,vW,bf (jG 0),ah]
theorem kE.run:kE.RS:=rE [.d (.slice zy)] kE
def kE.sg:=kE.fS kE.ok
abbrev aY.L0.D:=Int×Int×Nat×Nat×(Int×Unit)×(Int×Unit)×(List gz)×(List j7)
abbrev aY.L0.Y:=(List gz)
abbrev aY.L0.X:=(Nat×Nat×(Int×Unit)×(Int×Unit)×(List j7))×((List gz))
def aY.L0.add:aY.L0.D->aY.L0.Y->aY.L0.X:=λ(t17,t18,Fc,BP,n1,n2,n9,n12) y=>((Fc,BP,n1,n2,n12),y)
abbrev aY.L1.D:=Int×Int×Nat×Nat×(Int×Unit)×(Int×Unit)×(List gz)×(List j7)
abbrev aY.L1.Y:=Nat×Nat×(Int×Unit)×(Int×Unit)×(List gz)×(List j7)
abbrev aY.L2.D:=Int×Nat×Int×Int×Int×Int×Nat×Nat×(Int×Unit)×(Int×Unit)×(List gz)×(List j7)×(List sN)
abbrev aY.L2.Y:=(List sN)×(List sN)
abbrev aY.L2.X:=(Int×Int×Int×Nat×Nat×(Int×Unit)×(Int×Unit)×(List gz)×(List j7))×((List sN)×(List sN))
def aY.L2.add:aY.L2.D->aY.L2.Y->aY.L2.X:=λ(kv,lL,Ct,Cu,t51,t52,BQ,BR,xg,om,Ij,BN,n49) y=>((kv,Ct,Cu,BQ,BR,xg,om,Ij,BN),y)
abbrev aY.D:=gT
abbrev aY.Y:=Nat×((List j7)×(Int×Unit))×(List gz)
def aY.L0.aU:aY.L0.D->Prop:=λ(m,i,L,L2,u,v,l,os)=>(l.length<=1000/\∀x∈l,x.2.1.2.1.length<=1000000)/\∃k:Nat,k<=l.length/\i=k/\m=l.length/\L=l.length
def aY.L0.F:aY.L0.D->aY.L0.Y:=λ(m,i,L,L2,u,v,l,os)=>l
def aY.L2.aU:aY.L2.D->Prop:=λ(kv,L,m1,i1,m,i,L5,L6,u,v,ls,os,bs)=>(bs.length<=1000/\∀x∈bs,x.1.length<=1000000)/\∃k:Nat,k<=bs.length/\i=k/\m=bs.length/\L=bs.length
def aY.L2.F:aY.L2.D->aY.L2.Y:=λ(kv,L,m1,i1,m,i,L5,L6,u,v,ls,os,bs)=>(bs,bs)
def aY.L1.aU:aY.L1.D->Prop:=λ(m,i,L3,L,u,v,ls,os)=>(os.length<=1000/\∀x∈os,x.2.1.1.length<=1000/\∀b∈x.2.1.1,b.1.length<=1000000)/\∃k:Nat,k<=os.length/\i=k/\m=os.length/\L=os.length
def aY.L1.F:aY.L1.D->aY.L1.Y:=λ(m,i,L3,L,u,v,ls,os)=>(L3,L,u,v,ls,os)
def aY.aU:aY.D->Prop:=λt=>lf t=true
def aY.F:aY.D->aY.Y:=λt=>(t.1.length,(t.2.1,t.2.2),t.1)
def aY.L0:Ls aY.L0.aU aY.L0.add aY.L0.F:=pG (λ(t17,t18,Fc,BP,n1,n2,n9,n12)=>⟨([.undef,.ptr (.new 1 0) 0 [] 0,.ptr (.new 2 0) 0 [] 0]++bj 14 ([.d ti t17,.d ti t18]++bj 56 [])),[],([[],[.obj 0 false (.pr (.cP (.new 9 0) 0 [] 0 0 Fc) (.pr (.cP (.new 12 0) 0 [] 0 0 BP) (.d (.pair ti .unit) n1)))],[.obj 0 false (.pr (.df) (.pr (.df) (.d (.pair ti .unit) n2)))]]++cg 6 ([[.obj 0 false (.vec 52 gX n9)],[],[],[.obj 0 false (.vec 36 iR n12)]]++cg 62 []))⟩) (λx=>(.exit 0,⟨([.undef,.ptr (.new 1 0) 0 [] 0,.ptr (.new 2 0) 0 [] 0]++bj 72 []),[],([[],[.obj 0 false (.pr (.cP (.new 9 0) 0 [] 0 0 x.1.1) (.pr (.cP (.new 12 0) 0 [] 0 0 x.1.2.1) (.d (.pair ti .unit) x.1.2.2.1)))],[.obj 0 false (.pr (.df) (.pr (.df) (.d (.pair ti .unit) x.1.2.2.2.1)))]]++cg 6 ([[.obj 0 false (.vec 52 gX x.2)],[],[],[.obj 0 false (.vec 36 iR x.1.2.2.2.2)]]++cg 62 []))⟩))
def aY.L1:Ls aY.L1.aU bE aY.L1.F:=pG (λ(t38,t39,Gv,DK,zk,mE,Mn,sm)=>⟨([.undef,.ptr (.new 1 0) 0 [] 0,.ptr (.new 2 0) 0 [] 0]++bj 35 ([.d ti t38,.d ti t39]++bj 35 [])),[],([[],[.obj 0 false (.pr (.cP (.new 9 0) 0 [] 0 0 Gv) (.pr (.cP (.new 12 0) 0 [] 0 0 DK) (.d (.pair ti .unit) zk)))],[.obj 0 false (.pr (.df) (.pr (.df) (.d (.pair ti .unit) mE)))]]++cg 6 ([[.obj 0 false (.vec 52 gX Mn)],[],[],[.obj 0 false (.vec 36 iR sm)]]++cg 62 []))⟩) (λx=>(.exit 2,⟨([.undef,.ptr (.new 1 0) 0 [] 0,.ptr (.new 2 0) 0 [] 0]++bj 72 []),[],([[],[.obj 0 false (.pr (.cP (.new 9 0) 0 [] 0 0 x.1) (.pr (.cP (.new 12 0) 0 [] 0 0 x.2.1) (.d (.pair ti .unit) x.2.2.1)))],[.obj 0 false (.pr (.df) (.pr (.df) (.d (.pair ti .unit) x.2.2.2.1)))]]++cg 6 ([[.obj 0 false (.vec 52 gX x.2.2.2.2.1)],[],[],[.obj 0 false (.vec 36 iR x.2.2.2.2.2)]]++cg 62 []))⟩))
def aY.L2:Ls aY.L2.aU aY.L2.add aY.L2.F:=pG (λ(kv,lL,Ct,Cu,t51,t52,BQ,BR,xg,om,Ij,BN,n49)=>⟨([.undef,.ptr (.new 1 0) 0 [] 0,.ptr (.new 2 0) 0 [] 0,.undef,.d ti kv,.cP (.new 49 0) 0 [] 0 0 lL]++bj 32 ([.d ti Ct,.d ti Cu]++bj 11 ([.d ti t51,.d ti t52]++bj 22 []))),[],([[],[.obj 0 false (.pr (.cP (.new 9 0) 0 [] 0 0 BQ) (.pr (.cP (.new 12 0) 0 [] 0 0 BR) (.d (.pair ti .unit) xg)))],[.obj 0 false (.pr (.df) (.pr (.df) (.d (.pair ti .unit) om)))]]++cg 6 ([[.obj 0 false (.vec 52 gX Ij)],[],[],[.obj 0 false (.vec 36 iR BN)]]++cg 36 ([[.obj 0 false (.vec 29 kK n49)]]++cg 25 [])))⟩) (λx=>(.exit 4,⟨([.undef,.ptr (.new 1 0) 0 [] 0,.ptr (.new 2 0) 0 [] 0,.undef,.d ti x.1.1,.d (.slice kK) x.2.1]++bj 32 ([.d ti x.1.2.1,.d ti x.1.2.2.1]++bj 35 [])),[],([[],[.obj 0 false (.pr (.cP (.new 9 0) 0 [] 0 0 x.1.2.2.2.1) (.pr (.cP (.new 12 0) 0 [] 0 0 x.1.2.2.2.2.1) (.d (.pair ti .unit) x.1.2.2.2.2.2.1)))],[.obj 0 false (.pr (.df) (.pr (.df) (.d (.pair ti .unit) x.1.2.2.2.2.2.2.1)))]]++cg 6 ([[.obj 0 false (.vec 52 gX x.1.2.2.2.2.2.2.2.1)],[],[],[.obj 0 false (.vec 36 iR x.1.2.2.2.2.2.2.2.2)]]++cg 36 ([[.obj 0 true (.vec 29 kK x.2.2)]]++cg 25 [])))⟩))
def aY:Fs Tryz.prog aY.aU bE aY.F:=fK 70 Tryz.f70 (λt=>([.d iL t],[])) (λx=>⟨.pr (.cP (.new 0 0) 0 [] 0 0 x.1) (.d (.pair (.slice iR) (.pair ti .unit)) x.2.1),[],[.obj 0 false (.vec 52 gX x.2.2)]⟩) [some iL] [pg.sg,kD.sg,kE.sg,nu.sg,gh.sg] {bU:=[1],loops:=oM [(3,{bm:=[1,2,17,18],sites:=[1,2,9,12]}),(8,{bm:=[1,2,38,39],sites:=[1,2,9,12]}),(12,{bm:=[1,2,4,5,38,39,51,52],sites:=[1,2,9,12,49]})],outs:=oL [(3,{bm:=[1,2],sites:=[1,2,9,12]},{bm:=[2]}),(8,{bm:=[1,2],sites:=[1,2,9,12]},{bm:=[2]}),(12,{bm:=[1,2,4,5,38,39],sites:=[1,2,9,12,49],data:=[(5,(.slice kK))]},{bm:=[2]})],iA:=pq [(3,aY.L0.E),(8,aY.L1.E),(12,aY.L2.E)],Ek:=[⟨2,[.snd,.fst],(.slice iR)⟩]}
theorem aY.L0.run:aY.L0.RS:=rL [.d ti,.d ti,.n,.n,.d (.pair ti .unit),.d (.pair ti .unit),.d (.slice gX),.d (.slice iR)] aY.L0
theorem aY.L0.step{R:Type}(t17 t18 Fc BP n1 n2 n9 n12)(kn:K2 R)(kx:K3 R):aY.R 0 aY.L0 (t17,t18,Fc,BP,n1,n2,n9,n12) kn kx=
  aJ ((ik t18 t17)) (
   aJ (eY t18 ((Fc:Nat):Int)) (
   aJ (decide ((0+(Int.toNat t18)) < (List.length n9))) (
   aJ (decide ((((0+(Int.toNat t18))*36)+34)=(((0+((Int.toNat t18)*36))+33)+1))) (
   av (kE.call (nth gX n9 (0+(Int.toNat t18))).2.1.2.1) λx1=>
   aJ (eY t18 ((Fc:Nat):Int)) (
   aJ (decide ((0+(Int.toNat t18)) < (List.length n9))) (
   aJ (decide ((((0+(Int.toNat t18))*36)+34)=(((0+((Int.toNat t18)*36))+33)+1))) (
   aJ (decide ((0+(Int.toNat t18)) < (List.length n9))) (
   kn (aY.L0.st (t17,(bt .i64 t18 1),Fc,BP,n1,n2,(List.set n9 (0+(Int.toNat t18)) ((nth gX n9 (0+(Int.toNat t18))).1,(((nth gX n9 (0+(Int.toNat t18))).2.1.1,(x1,(nth gX n9 (0+(Int.toNat t18))).2.1.2.2)),(nth gX n9 (0+(Int.toNat t18))).2.2))),n12))) none) none) none) none) none) none) none) (
   aY.L0.go kx ((Fc,BP,n1,n2,n12),n9)):=by kernel_rfl
theorem aY.L1.run:aY.L1.RS:=rL [.d ti,.d ti,.n,.n,.d (.pair ti .unit),.d (.pair ti .unit),.d (.slice gX),.d (.slice iR)] aY.L1
theorem aY.L1.step{R:Type}(t38 t39 Gv DK zk mE Mn sm)(kn:K2 R)(kx:K3 R):aY.R 1 aY.L1 (t38,t39,Gv,DK,zk,mE,Mn,sm) kn kx=
  aJ ((ik t39 t38)) (
   aJ (eY t39 ((DK:Nat):Int)) (
   aJ (decide ((0+(Int.toNat t39)) < (List.length sm))) (
   aJ (decide ((((0+(Int.toNat t39))*2)+1)=(((0+((Int.toNat t39)*2))+1)+0))) (
   av (nu.call (nth iR sm (0+(Int.toNat t39))).2.1.1) λx1=>
   av (aY.L2.call (t39,x1.1,t38,t39,((x1.1:Nat):Int),0,Gv,DK,zk,mE,Mn,sm,x1.2)) λx2=>
   aJ (eY x2.1.1 ((x2.1.2.2.2.2.1:Nat):Int)) (
   aJ (decide ((0+(Int.toNat x2.1.1)) < (List.length x2.1.2.2.2.2.2.2.2.2))) (
   aJ (decide ((((0+(Int.toNat x2.1.1))*2)+1)=(((0+((Int.toNat x2.1.1)*2))+1)+0))) (
   aJ (decide ((0+(Int.toNat x2.1.1)) < (List.length x2.1.2.2.2.2.2.2.2.2))) (
   kn (aY.L1.st (x2.1.2.1,(bt .i64 x2.1.2.2.1 1),x2.1.2.2.2.1,x2.1.2.2.2.2.1,x2.1.2.2.2.2.2.1,x2.1.2.2.2.2.2.2.1,x2.1.2.2.2.2.2.2.2.1,(List.set x2.1.2.2.2.2.2.2.2.2 (0+(Int.toNat x2.1.1)) ((nth iR x2.1.2.2.2.2.2.2.2.2 (0+(Int.toNat x2.1.1))).1,((x2.2.1,(nth iR x2.1.2.2.2.2.2.2.2.2 (0+(Int.toNat x2.1.1))).2.1.2),(nth iR x2.1.2.2.2.2.2.2.2.2 (0+(Int.toNat x2.1.1))).2.2)))))) none) none) none) none) none) none) none) (
   aY.L1.go kx (Gv,DK,zk,mE,Mn,sm)):=by kernel_rfl
theorem aY.L2.run:aY.L2.RS:=rL [.d ti,.n,.d ti,.d ti,.d ti,.d ti,.n,.n,.d (.pair ti .unit),.d (.pair ti .unit),.d (.slice gX),.d (.slice iR),.d (.slice kK)] aY.L2
theorem aY.L2.step{R:Type}(kv lL Ct Cu t51 t52 BQ BR xg om Ij BN n49)(kn:K2 R)(kx:K3 R):aY.R 2 aY.L2 (kv,lL,Ct,Cu,t51,t52,BQ,BR,xg,om,Ij,BN,n49) kn kx=
  aJ ((ik t52 t51)) (
   aJ (eY t52 ((lL:Nat):Int)) (
   aJ (decide ((0+(Int.toNat t52)) < (List.length n49))) (
   aJ (decide ((((0+(Int.toNat t52))*4)+0)=((0+((Int.toNat t52)*4))+0))) (
   av (gh.call (nth kK n49 (0+(Int.toNat t52))).1) λx1=>
   aJ (eY t52 ((lL:Nat):Int)) (
   aJ (decide ((0+(Int.toNat t52)) < (List.length n49))) (
   aJ (decide ((((0+(Int.toNat t52))*4)+0)=((0+((Int.toNat t52)*4))+0))) (
   aJ (decide ((0+(Int.toNat t52)) < (List.length n49))) (
   kn (aY.L2.st (kv,lL,Ct,Cu,t51,(bt .i64 t52 1),BQ,BR,xg,om,Ij,BN,(List.set n49 (0+(Int.toNat t52)) (x1,(nth kK n49 (0+(Int.toNat t52))).2))))) none) none) none) none) none) none) none) (
   aJ (decide (0=0/\(0+lL)<=(List.length n49))) (
   aY.L2.go kx ((kv,Ct,Cu,BQ,BR,xg,om,Ij,BN),((cut n49 0 lL),n49))) none):=by kernel_rfl
theorem aY.eq{R:Type}(t)(k:K1 R):aY.A t k=
 av (pg.call t.1) λx1=>
 av (kD.call t.2.1) λx2=>
 av (aY.L0.call (((x1.1:Nat):Int),0,x1.1,x2.1,t.2.2,(0,()),x1.2,x2.2)) λx4=>
 av (aY.L1.call (((x4.1.2.1:Nat):Int),0,x4.1.1,x4.1.2.1,x4.1.2.2.1,x4.1.2.2.2.1,x4.2,x4.1.2.2.2.2)) λx8=>
 aJ (decide (0=0/\(0+x8.2.1)<=(List.length x8.2.2.2.2.2))) (
 k (aY.out (x8.1,((cut x8.2.2.2.2.2 0 x8.2.1),x8.2.2.1),x8.2.2.2.2.1))) none:=by kernel_rfl
theorem aY.L0.ok:(aY.lE 0 aY.L0):=by
 refine(aY.mr 0 aY.L0) (λ(m,i,L,L2,u,v,l,os)=>l.length - Int.toNat i) ?_
 rintro⟨m,i,L,L2,u,v,l,os⟩ ⟨⟨hlen,hx⟩,k,hk,rfl,rfl,rfl⟩
 have hlen:l.length<=1000:=hlen
 have hk:k<=l.length:=hk
 by_cases h:k < l.length
 ·left
  have n1:nth gX l k=l[k]:=dg (t:=gX) h
  have hs:l.set k l[k]=l:=gI h
  have e:=hx _ (bw h)
  refine⟨((l.length:Int),((k+1:Nat):Int),l.length,L2,u,v,l,os),⟨⟨hlen,hx⟩,k+1,by omega,rfl,rfl,rfl⟩,by simp only[aa];omega,rfl,λkn kx=> ?_⟩
  rw[aY.L0.step,bh (by omega),bp (by omega) (by omega)]
  simp only[aa,aO,cK,ew,Nat.reduceAdd,ae,aP h,decide_true,n1]
  rw[kE.run (d:=l[k].2.1.2.1) e]
  simp only[ab,bE,kE.F]
  rw[N.pk (by omega)]
  exact congrArg (λz=>kn (aY.L0.st (_,_,_,_,_,_,z,_))) hs
 ·right
  obtain rfl:k=l.length:=by omega
  intro R kn kx
  rw[aY.L0.step,aR (by omega),ah]
  rfl
theorem aY.L2.ok:(aY.lE 2 aY.L2):=by
 refine(aY.mr 2 aY.L2) (λ(kv,L,m1,i1,m,i,L5,L6,u,v,ls,os,bs)=>bs.length - Int.toNat i) ?_
 rintro⟨kv,L,m1,i1,m,i,L5,L6,u,v,ls,os,bs⟩ ⟨⟨hlen,hx⟩,k,hk,rfl,rfl,rfl⟩
 have hlen:bs.length<=1000:=hlen
 have hk:k<=bs.length:=hk
 by_cases h:k < bs.length
 ·left
  have n1:nth kK bs k=bs[k]:=dg (t:=kK) h
  have hs:bs.set k bs[k]=bs:=gI h
  have e:=hx _ (bw h)
  refine⟨(kv,bs.length,m1,i1,(bs.length:Int),((k+1:Nat):Int),L5,L6,u,v,ls,os,bs),⟨⟨hlen,hx⟩,k+1,by omega,rfl,rfl,rfl⟩,by simp only[aa];omega,rfl,λkn kx=> ?_⟩
  rw[aY.L2.step,bh (by omega),bp (by omega) (by omega)]
  simp only[aa,aO,cK,ew,Nat.reduceAdd,ae,aP h,decide_true,n1]
  rw[gh.run (d:=bs[k].1) e]
  simp only[ab,bE,gh.F]
  rw[N.pk (by omega)]
  exact congrArg (λz=>kn (aY.L2.st (_,_,_,_,_,_,_,_,_,_,_,_,z))) hs
 ·right
  obtain rfl:k=bs.length:=by omega
  intro R kn kx
  rw[aY.L2.step,aR (by omega),ah]
  simp only[aO,ay,and_self,decide_true,ae,fi]
  rfl
theorem aY.L1.ok:(aY.lE 1 aY.L1):=by
 refine(aY.mr 1 aY.L1) (λ(m,i,L3,L,u,v,ls,os)=>os.length - Int.toNat i) ?_
 rintro⟨m,i,L3,L,u,v,ls,os⟩ ⟨⟨hlen,hx⟩,k,hk,rfl,rfl,rfl⟩
 have hlen:os.length<=1000:=hlen
 have hk:k<=os.length:=hk
 by_cases h:k < os.length
 ·left
  have n1:nth iR os k=os[k]:=dg (t:=iR) h
  have hs:os.set k os[k]=os:=gI h
  have e:=hx _ (bw h)
  refine⟨((os.length:Int),((k+1:Nat):Int),L3,os.length,u,v,ls,os),⟨⟨hlen,hx⟩,k+1,by omega,rfl,rfl,rfl⟩,by simp only[aa];omega,rfl,λkn kx=> ?_⟩
  rw[aY.L1.step,bh (by omega),bp (by omega) (by omega)]
  simp only[aa,aO,cK,ew,Nat.reduceAdd,ae,aP h,decide_true,n1]
  rw[nu.run (d:=os[k].2.1.1) (by show os[k].2.1.1.length<=_;have:=e.1;omega)]
  simp only[ab,bE,nu.F]
  rw[aY.L2.run (d:=((k:Int),os[k].2.1.1.length,(os.length:Int),(k:Int),(os[k].2.1.1.length:Int),0,L3,os.length,u,v,ls,os,os[k].2.1.1)) ⟨e,0,aV _,rfl,rfl,rfl⟩]
  simp only[ab,aY.L2.add,aY.L2.F,aa,n1,ae,aP h,bp (show(0:Int)<=(k:Int) by omega) (show(k:Int) < (os.length:Int) by omega)]
  rw[N.pk (by omega)]
  exact congrArg (λz=>kn (aY.L1.st (_,_,_,_,_,_,_,z))) hs
 ·right
  obtain rfl:k=os.length:=by omega
  intro R kn kx
  rw[aY.L1.step,aR (by omega),ah]
  rfl
theorem EF{l:Lk}(h:nC l=true):l.1.length<=4/\∀b∈l.1,b.1.length<=12:=by
 unfold nC at h
 simp only[ak,dw,decide_eq_true_eq]at h
 refine⟨h.2.2,λb hb=> ?_⟩
 have:=h.1 b hb
 unfold qM at this
 simp only[ak,decide_eq_true_eq]at this
 exact this.1
theorem aY.ok:aY.Ok:=by
 rintro⟨is,os,nt,u⟩ nj
 obtain⟨⟨_,a2,a3,_⟩,b1,b2⟩:=tt nj
 have a2:is.length<=64:=a2
 have a3:os.length<=64:=a3
 rw[aY.eq,pg.run (d:=is) (by show is.length<=_;omega),kD.run (d:=os) (by show os.length<=_;omega)]
 simp only[ab,bE,pg.F,bE,kD.F]
 rw[aY.L0.run (d:=(is.length,0,is.length,os.length,(nt,u),(0,()),is,os)) ⟨⟨by show is.length<=_;omega,λx hx=>by have:=(Bv (sa _ _ b1 x hx)).2.2.2.2;omega⟩,0,aV _,rfl,rfl,rfl⟩]
 simp only[ab,aY.L0.add,aY.L0.F]
 rw[aY.L1.run (d:=(os.length,0,is.length,os.length,(nt,u),(0,()),is,os)) ⟨⟨by show os.length<=_;omega,λx hx=>by
  have:=EF (pH _ _ b2 x hx).2
  exact⟨by omega,λb hb=>by have:=this.2 b hb;omega⟩⟩,0,aV _,rfl,rfl,rfl⟩]
 simp only[ab,bE,aY.L1.F,aO,ay,and_self,decide_true,ae,fi]
 rfl
theorem aY.run:aY.RS:=rE [.d iL] aY
def aY.sg:=aY.fS aY.ok 3 ⟨.hZ aY.L0.ok,⟨.hZ aY.L1.ok,⟨.hZ aY.L2.ok,trivial⟩⟩⟩
def za{α:Type}(p:α->Bool):List α->Int->Int⊕Unit
 |[],_=> .inr ()
 |x::xs,i=>if p x then .inl i else za p xs (i+1)
def Kf{α:Type}(p:α->Bool)(l:List α):Int:=match za p l 0 with | .inl i=>i | .inr _=> -1
theorem Ga{α:Type}(p:α->Bool):∀(l:List α) (i:Int),0<=i->(match za p l i with | .inl i=>decide (i>=0) | .inr _=>false)=l.any p
 |[],_,_=>rfl
 |x::l,i,h=>by
  rw[za,l7]
  cases hp:p x
  ·simp only[bJ,if_false,pQ]
   exact Ga p l (i+1) (by omega)
  ·simp[h]
theorem F9{α:Type}(p:α->Bool)(l:List α):qQ (Kf p l) 0=l.any p:=by
 have:=Ga p l 0 (by omega)
 unfold Kf qQ
 cases h:za p l 0
 ·rw[h]at this;exact this
 ·rw[h]at this;rw[<-this];rfl
def lI(k:Int):Bool:=decide (¬(k < 2305843009213688669/\k≠0))
def qU(t:gT)(i br:Int)(ks:List Int):Bool:=lf t && (decide (0<=i/\i < t.1.length/\0<=br/\br < 4/\ks.length<=12) && !(ks.any lI))
def mn(t:gT)(i br:Int)(ks:List Int)(sc:Int):gT×Int:=
 if qU t i br ks then((t.1.set i.toNat ((nth gX t.1 i.toNat).1,(br,ks.map (λk=>pa k (C5 t)),sc,()),()),t.2),0) else(([],[],0,()),1)
theorem MQ{t:gT}:Sm (C5 t):=by
 unfold C5
 split
 ·exact Cm _ _
 ·exact⟨by rw[cJ],λx hx=>by obtain rfl:=(List.mem_replicate.1 hx).2;exact⟨by decide,by decide⟩⟩
abbrev lz.D:=Int
abbrev lz.Y:=Bool
def lz.aU:lz.D->Prop:=λ_=>True
def lz.F:lz.D->lz.Y:=λk=>lI k
def lz:Fs Tryz.prog lz.aU bE lz.F:=fK 64 Tryz.f64 (λkv=>([.d tu kv],[])) (λx=>⟨.d .bool x,[],[]⟩) [some tu] [gk.sg]
theorem lz.eq{R:Type}(kv)(k:K1 R):lz.A kv k=
  aJ ((wy kv 0)) (
   k (lz.out true)) (
   av (gk.call kv) λx1=>
   k (lz.out (!x1))):=by kernel_rfl
theorem lz.ok:lz.Ok:=by
 intro(k:Int) _
 rw[lz.eq,gk.run (d:=k) trivial]
 simp only[bE,lz.F,lI,ab,bE,gk.F]
 by_cases h:k=0
 ·rw[iw h,ae,aP (by omega)]
 ·rw[gl h,ah]
  by_cases h2:k < 2305843009213688669
  ·rw[bh h2,bf (by omega)];rfl
  ·rw[aR h2,aP (by omega)];rfl
theorem lz.run:lz.RS:=rE [.d tu] lz
def lz.sg:=lz.fS lz.ok
abbrev bN.L0.D:=Bs×Int×Int
def bN.L0.st:bN.L0.D->AS:=λ(qI,t7,t8)=>⟨([.d tU qI,.fn 64 (.nil)]++bj 5 ([.d ti t7,.d ti t8]++bj 10 [])),[],(List.replicate 19 [])⟩
abbrev bN.L0.Y0:=Int
abbrev bN.L0.X0:=Int
def bN.L0.dE:bN.L0.X0->Exit×AS:=λx=>(.ret,⟨(bj 4 ([.d ti x]++bj 14 [])),[],(List.replicate 19 [])⟩)
abbrev bN.L0.Y1:=Unit
abbrev bN.L0.X1:=Unit
def bN.L0.fQ:bN.L0.X1->Exit×AS:=λx=>(.exit 0,⟨(bj 19 []),[],(List.replicate 19 [])⟩)
abbrev bN.L0.X:=(bN.L0.X0)⊕(bN.L0.X1)
abbrev bN.L0.Y:=(bN.L0.Y0)⊕(bN.L0.Y1)
def bN.L0.out:bN.L0.X->Out (Exit×AS):=λx=> .br x.isLeft (.get x.getLeft? λa=> .ok (bN.L0.dE a)) (.get x.getRight? λb=> .ok (bN.L0.fQ b))
def bN.L0.add:bN.L0.D->bN.L0.Y->bN.L0.X:=λ(qI,t7,t8) y=>match y with | .inl y=> .inl y | .inr z=> .inr (z)
abbrev bN.D:=Bs
abbrev bN.Y:=Int
def bN.L0.aU:bN.L0.D->Prop:=λ(l,n,i)=>(∀x∈l,True)/\l.length<=1000000000/\n=l.length/\∃k:Nat,k<=l.length/\i=k
def bN.L0.F:bN.L0.D->bN.L0.Y:=λ(l,n,i)=>za lI (l.drop i.toNat) i
def bN.aU:bN.D->Prop:=λl=>(∀x∈l,True)/\l.length<=1000000000
def bN.F:bN.D->bN.Y:=λl=>Kf lI l
def bN.L0.E:=eO.hZ bN.L0.st bN.L0.aU bN.L0.add bN.L0.F bN.L0.out
def bN.L0.call:bN.L0.D->Option bN.L0.X:=jH bN.L0.E bN.L0.st
def bN:Fs Tryz.prog bN.aU bE bN.F:=fK 133 Tryz.f133 (λsv=>([.d tU sv,.fn 64 (.nil)],[])) (λx=>⟨.d ti x,[],[]⟩) [some tU,none] [lz.sg] {loops:=oM [(2,{bm:=[0,1,7,8]})],outs:=oL [(2,{},{bm:=[4]})],iA:=pq [(2,bN.L0.E)]}
def bN.L0.R:= @gL Tryz.prog (lN bN.G) bN.an 0 Tryz.f133 0 _ bN.L0.st
abbrev bN.L0.Ok:=nh Tryz.prog (lN bN.G) bN.an 0 Tryz.f133 0 bN.L0.st bN.L0.aU bN.L0.add bN.L0.F bN.L0.out
theorem bN.L0.run:mq bN.L0.call bN.L0.aU bN.L0.add bN.L0.F:=oo (oa [.d tU,.d ti,.d ti] λ_=>by kernel_rfl)
theorem bN.L0.cM:nM @bN.L0.R bN.L0.st bN.L0.aU bN.L0.add bN.L0.F bN.L0.out bN.L0.Ok:=oF
theorem bN.L0.step{R:Type}(qI:Bs)(t7:Int)(t8:Int)(kn:AS->Option R)(kx:Exit->AS->Option R):bN.L0.R (qI,t7,t8) kn kx=
  aJ ((ik t8 t7)) (
   aJ (eY t8 (((List.length qI):Nat):Int)) (
   av (lz.call (nth tu qI (Int.toNat t8))) λx1=>
   aJ (x1) (
    kx (bN.L0.dE t8).1 (bN.L0.dE t8).2) (
    kn (bN.L0.st (qI,t7,(bt .i64 t8 (1:Int)))))) none) (
   kx (bN.L0.fQ ()).1 (bN.L0.fQ ()).2):=by kernel_rfl
theorem bN.eq{R:Type}(sv)(k:K1 R):bN.A sv k=
  av (bN.L0.call (sv,(sv.length:Int),0)) λx2=>
  aJ (x2.isLeft) (
   av (x2.getLeft?) λa3=>
   k (bN.out a3)) (
   av (x2.getRight?) λb4=>
   k (bN.out (-1))):=by kernel_rfl
theorem bN.L0.ok:bN.L0.Ok:=by
 refine bN.L0.cM (λ(l,n,i)=>l.length - i.toNat) ?_
 rintro⟨l,n,i⟩ ⟨hl,hb,rfl,k,hk,rfl⟩
 have hb:l.length<=1000000000:=hb
 have hk:k<=l.length:=hk
 by_cases h:k < l.length
 ·have hx:=hl _ (bw h)
  have n1:nth tu l k=l[k]:=dg (t:=tu) h
  have hd:za lI (l.drop k) k=if lI l[k] then .inl (k:Int) else za lI (l.drop (k+1)) ((k+1:Nat):Int):=by rw[aq h];rfl
  have step:∀ {R:Type} (kn:AS->Option R) (kx:Exit->AS->Option R),bN.L0.R (l,(l.length:Int),(k:Int)) kn kx=aJ (lI l[k]) (kx (bN.L0.dE (k:Int)).1 (bN.L0.dE (k:Int)).2) (kn (bN.L0.st (l,(l.length:Int),((k+1:Nat):Int)))):=by
   intro R kn kx
   rw[bN.L0.step,bh (by omega),bp (by omega) (by omega),aa,n1,lz.run (d:=l[k]) hx,N.pk (by omega)]
   rfl
  cases hp:lI l[k]
  ·left
   refine⟨(l,l.length,((k+1:Nat):Int)),⟨hl,hb,rfl,k+1,by omega,rfl⟩,by simp only[aa];omega,?_,λkn kx=> ?_⟩
   ·simp only[bN.L0.add,bN.L0.F,aa,hd,hp,bJ,if_false]
   ·rw[step,hp,ah]
  ·right
   refine⟨bN.L0.dE (k:Int),?_,λkn kx=> ?_⟩
   ·simp only[bN.L0.add,bN.L0.F,aa,hd,hp,if_true]
    rfl
   ·rw[step,hp,ae]
 ·right
  obtain rfl:k=l.length:=by omega
  refine⟨bN.L0.fQ (),?_,λkn kx=> ?_⟩
  ·simp only[bN.L0.add,bN.L0.F,aa,aQ]
   rfl
  ·rw[bN.L0.step,aR (by omega),ah]
theorem bN.ok:bN.Ok:=by
 rintro l ⟨hl,hb⟩
 rw[bN.eq,bN.L0.run (d:=(l,l.length,0)) ⟨hl,hb,rfl,0,by omega,rfl⟩]
 simp only[ab,bN.L0.add,bN.L0.F,bH,aI,bE,bN.F,Kf]
 cases za lI l 0 <;> rfl
theorem bN.run:bN.RS:=rE [.d tU] bN
def bN.sg:=bN.fS bN.ok 1 ⟨.hZ bN.L0.ok,trivial⟩
abbrev fb.D:=Bs
abbrev fb.Y:=Bool
def fb.aU:fb.D->Prop:=λl=>(∀x∈l,True)/\l.length<=1000000000
def fb.F:fb.D->fb.Y:=λl=>l.any lI
def fb:Fs Tryz.prog fb.aU bE fb.F:=fK 68 Tryz.f68 (λsv=>([.d tU sv,.fn 64 (.nil)],[])) (λx=>⟨.d .bool x,[],[]⟩) [some tU,none] [bN.sg]
theorem fb.eq{R:Type}(sv)(k:K1 R):fb.A sv k=
 av (bN.call sv) λx1=>
 k (fb.out (qQ x1 0)):=by kernel_rfl
theorem fb.ok:fb.Ok:=by
 rintro l ⟨hl,hb⟩
 rw[fb.eq,bN.run (d:=l) ⟨hl,hb⟩]
 simp only[ab,bE,bN.F,F9]
 rfl
theorem fb.run:fb.RS:=rE [.d tU] fb
def fb.sg:=fb.fS fb.ok
abbrev dV.L0.D:=Int×Bs×Int×Int×gT×(Int×Unit)×Int×Nat×(Int×Unit)×Bs×(List Sg)
abbrev dV.L0.Y:=Az×(List Sg)
abbrev dV.L0.X:=(Int×gT×(Int×Unit))×(Az×(List Sg))
def dV.L0.add:dV.L0.D->dV.L0.Y->dV.L0.X:=λ(q9,t52,t53,t54,n5,n10,n13,CW,DJ,n14,NR) y=>((q9,n5,n10),y)
abbrev dV.D:=gT×Int×Int×Bs×Int
abbrev dV.Y:=gT×Int
def dV.L0.aU:dV.L0.D->Prop:=λ(i0,l,n,i,t,e,br,L,sc,id,r)=>l.length<=1000/\(∀x∈l,je x)/\Sm id/\∃k:Nat,k<=l.length/\i=k/\n=l.length/\L=r.length/\r.length<=1000+k
def dV.L0.F:dV.L0.D->dV.L0.Y:=λ(i0,l,n,i,t,e,br,L,sc,id,r)=>((br,r++(l.drop i.toNat).map (λk=>pa k id),sc),r++(l.drop i.toNat).map (λk=>pa k id))
def dV.aU:dV.D->Prop:=λ(t,i,br,ks,sc)=>yL t/\(∀x∈ks,je x)/\ks.length<=1000000000
def dV.F:dV.D->dV.Y:=λ(t,i,br,ks,sc)=>mn t i br ks sc
def dV.L0:Ls dV.L0.aU dV.L0.add dV.L0.F:=pG (λ(q9,t52,t53,t54,n5,n10,n13,CW,DJ,n14,NR)=>⟨([.undef,.d ti q9,.undef,.undef,.undef,.ptr (.new 5 0) 0 [] 0]++bj 4 ([.ptr (.new 10 0) 0 [] 0,.undef,.undef,.ptr (.new 13 0) 0 [] 0,.ptr (.new 14 0) 0 [] 0]++bj 37 ([.d tU t52,.d ti t53,.d ti t54]++bj 21 []))),[],(cg 5 ([[.obj 0 false (.d iL n5)]]++cg 4 ([[.obj 0 false (.pr (.df) (.pr (.df) (.d (.pair ti .unit) n10)))],[],[],[.obj 0 false (.pr (.d ti n13) (.pr (.cP (.new 64 0) 0 [] 0 0 CW) (.d (.pair tu .unit) DJ)))],[.obj 0 false (.d tH n14)]]++cg 49 ([[.obj 0 false (.vec 135 zy NR)]]++cg 11 []))))⟩) (λx=>(.exit 0,⟨([.undef,.d ti x.1.1,.undef,.undef,.undef,.ptr (.new 5 0) 0 [] 0]++bj 4 ([.ptr (.new 10 0) 0 [] 0,.undef,.undef,.ptr (.new 13 0) 0 [] 0]++bj 62 [])),[],(cg 5 ([[.obj 0 false (.d iL x.1.2.1)]]++cg 4 ([[.obj 0 false (.pr (.df) (.pr (.df) (.d (.pair ti .unit) x.1.2.2)))],[],[],[.obj 0 false (.d EZ x.2.1)]]++cg 50 ([[.obj 0 true (.vec 135 zy x.2.2)]]++cg 11 []))))⟩))
def dV:Fs Tryz.prog dV.aU bE dV.F:=fK 16 Tryz.f16 (λ(t,inv,branch,keys,secret)=>([.d iL t,.d ti inv,.d ti branch,.d tU keys,.d tu secret],[])) (λx=>⟨.cons (.d iL x.1) (.cons (.d ti x.2) (.nil)),[],[]⟩) [some iL,some ti,some ti,some tU,some tu] [aG.sg,nF.sg,fb.sg,tid.sg,kZ.sg,aY.sg] {bU:=[5],loops:=oM [(7,{bm:=[1,5,10,13,14,52,53,54],sites:=[5,10,13,14,64],owns:=[⟨13,[.snd,.fst],64,48⟩]})],outs:=oL [(7,{bm:=[1,5,10,13],sites:=[5,10,13,64],Ek:=[⟨13,[.snd,.fst],(.slice zy)⟩]},{bm:=[10,11]})],iA:=pq [(7,dV.L0.E)],res:=[some iL,none]}
theorem dV.L0.run:dV.L0.RS:=rL [.d ti,.d tU,.d ti,.d ti,.d iL,.d (.pair ti .unit),.d ti,.n,.d (.pair tu .unit),.d tB,.d (.slice zy)] dV.L0
theorem dV.L0.step{R:Type}(q9 t52 t53 t54 n5 n10 n13 CW DJ n14 NR)(kn:K2 R)(kx:K3 R):dV.R 0 dV.L0 (q9,t52,t53,t54,n5,n10,n13,CW,DJ,n14,NR) kn kx=
  aJ ((ik t54 t53)) (
   aJ (eY t54 (t52.length:Int)) (
   av (kZ.call ((nth tu t52 (Int.toNat t54)),n14)) λx4=>
   aJ (decide (CW<=(List.length NR))) (
   aJ (dG (CW+1) 16) (
   kn (dV.L0.st (q9,t52,t53,(bt .i64 t54 1),n5,n10,n13,(CW+1),DJ,n14,((List.take CW NR)++ [x4])))) none) none) none) (
   aJ (decide (0=0/\(0+CW)<=(List.length NR))) (
   dV.L0.go kx ((q9,n5,n10),((n13,((cut NR 0 CW),DJ)),NR))) none):=by kernel_rfl
theorem dV.eq{R:Type}(t inv branch keys secret)(k:K1 R):dV.A (t,inv,branch,keys,secret) k=
  av (aG.call t) λC8=>
  aJ ((!C8)) (
   k (dV.out ((([]:List gz),(([]:List j7),(0,()))),1))) (
   aJ ((ik inv 0)) (
    k (dV.out ((([]:List gz),(([]:List j7),(0,()))),1))) (
    aJ ((qQ inv (t.1.length:Int))) (
     k (dV.out ((([]:List gz),(([]:List j7),(0,()))),1))) (
     av (nF.call (branch,(([]:List Sg),(secret,())))) λUJ=>
     aJ ((!UJ)) (
      k (dV.out ((([]:List gz),(([]:List j7),(0,()))),1))) (
      aJ ((nc (keys.length:Int) 12)) (
       k (dV.out ((([]:List gz),(([]:List j7),(0,()))),1))) (
       av (fb.call keys) λOd=>
       aJ (Od) (
        k (dV.out ((([]:List gz),(([]:List j7),(0,()))),1))) (
        av (tid.call t) λHn=>
        av (dV.L0.call (inv,keys,(keys.length:Int),0,t,(0,()),branch,0,(secret,()),Hn,([]:List Sg))) λCI=>
        av (aY.call CI.1.2.1) λHo=>
        aJ (eY CI.1.1 ((Ho.1:Nat):Int)) (
        aJ (decide ((0+(Int.toNat CI.1.1)) < (List.length Ho.2.2))) (
        aJ (decide ((((0+(Int.toNat CI.1.1))*36)+33)=((0+((Int.toNat CI.1.1)*36))+33))) (
        aJ (decide ((0+(Int.toNat CI.1.1)) < (List.length Ho.2.2))) (
        aJ (decide (0=0/\(0+Ho.1)<=(List.length (List.set Ho.2.2 (0+(Int.toNat CI.1.1)) ((nth gX Ho.2.2 (0+(Int.toNat CI.1.1))).1,(CI.2.1,(nth gX Ho.2.2 (0+(Int.toNat CI.1.1))).2.2)))))) (
        k (dV.out (((cut (List.set Ho.2.2 (0+(Int.toNat CI.1.1)) ((nth gX Ho.2.2 (0+(Int.toNat CI.1.1))).1,(CI.2.1,(nth gX Ho.2.2 (0+(Int.toNat CI.1.1))).2.2))) 0 Ho.1),Ho.2.1),0))) none) none) none) none) none)))))):=by kernel_rfl
theorem dV.L0.ok:(dV.lE 0 dV.L0):=by
 refine(dV.mr 0 dV.L0) (λ(i0,l,n,i,t,e,br,L,sc,id,r)=>l.length - i.toNat) ?_
 rintro⟨i0,l,n,i,t,e,br,L,sc,id,r⟩ ⟨hlen,hu,hm,k,hk,rfl,rfl,rfl,hr⟩
 have hlen:l.length<=1000:=hlen
 have hk:k<=l.length:=hk
 have hr:r.length<=1000+k:=hr
 by_cases h:k < l.length
 ·left
  have n1:nth tu l k=l[k]:=dg (t:=tu) h
  have hd:List.drop k l=l[k]::List.drop (k+1) l:=aq h
  refine⟨(i0,l,l.length,((k+1:Nat):Int),t,e,br,r.length+1,sc,id,r++ [pa l[k] id]),⟨hlen,hu,hm,k+1,by omega,rfl,rfl,by rw[aj];rfl,by rw[aj];show r.length+1<=_;omega⟩,by simp only[aa];omega,?_,λkn kx=> ?_⟩
  ·simp only[dV.L0.add,dV.L0.F,aa,hd,bR,bk,dy]
  ·rw[dV.L0.step,bh (by omega),bp (by omega) (by omega),aa,n1,kZ.run (d:=(l[k],id)) ⟨hu _ (bw h),hm⟩]
   simp only[ae,ab,bE,kZ.F]
   rw[aP (ay _),dU (by omega) (by omega),N.pk (by omega),bY]
   rfl
 ·right
  obtain rfl:k=l.length:=by omega
  intro R kn kx
  rw[dV.L0.step,aR (by omega),ah]
  simp only[dV.L0.add,dV.L0.F,aa,aQ,fT,cH,aO,ay,and_self,decide_true,ae,fi]
theorem dV.ok:dV.Ok:=by
 rintro⟨⟨is,os,nt,u⟩,i,br,ks,sc⟩ ⟨hv,hu,hl⟩
 have hv:yL (is,os,nt,u):=hv
 have hl:ks.length<=1000000000:=hl
 rw[dV.eq,aG.run (d:=(is,os,nt,u)) hv.1]
 simp only[ab,bE,aG.F,bE,dV.F,mn,qU]
 rcases fL (lf (is,os,nt,u)) with nj | nj
 rotate_left
 ·simp only[nj];rfl
 obtain⟨⟨_,a2,a3,_⟩,b1,b2⟩:=tt nj
 have a2:is.length<=64:=a2
 simp only[nj,cq,ah,bO]
 by_cases h1:i < 0
 ·rw[bh h1,ae,bf (by omega)];rfl
 rw[aR h1,ah]
 by_cases h2:i>=(is.length:Int)
 ·rw[eQ h2,ae,bf (by omega)];rfl
 rw[dQ h2,ah,nF.run (d:=(br,([],(sc,())))) trivial]
 simp only[ab,bE,nF.F,sJ]
 by_cases h3:0<=br/\br < 4
 ·rw[aP h3]
  by_cases h4:ks.length > 12
  ·rw[cX (by omega),bf (p:=0<=i/\i < (is.length:Int)/\0<=br/\br < 4/\ks.length<=12) (by omega)];rfl
  ·rw[cj (by omega),aP (p:=0<=i/\i < (is.length:Int)/\0<=br/\br < 4/\ks.length<=12) (by omega),fb.run (d:=ks) ⟨λ_ _=>trivial,hl⟩]
   simp only[ab,bE,fb.F]
   rcases fL (ks.any lI) with hb | hb
   rotate_left
   ·simp only[hb]
    obtain⟨k,rfl⟩:∃k:Nat,i=k:=⟨i.toNat,by omega⟩
    have hk:k < is.length:=by omega
    simp only[show(([]:List Sg).length<=12)=True from eq_true (aV _),decide_true,Bool.and_self,cq,dX,ah,bO,if_true]
    rw[tid.run (d:=(is,os,nt,u)) hv]
    simp only[ab,bE,tid.F]
    rw[dV.L0.run (d:=((k:Int),ks,ks.length,0,(is,os,nt,u),(0,()),br,0,(sc,()),C5 (is,os,nt,u),[])) ⟨by show ks.length<=_;omega,hu,MQ,0,aV _,rfl,rfl,rfl,aV _⟩]
    simp only[ab,dV.L0.add,dV.L0.F,bH,aI,aS]
    rw[aY.run (d:=(is,os,nt,u)) nj]
    simp only[ab,bE,aY.F,aa,aO,cK,bp (show(0:Int)<=(k:Int) by omega) (show(k:Int) < (is.length:Int) by omega),ae,aP hk,decide_true,j8,ay,and_self]
    rw[fi (by rw[j8])]
   ·simp only[hb];rfl
 ·rw[bf h3,bf (p:=0<=i/\i < (is.length:Int)/\0<=br/\br < 4/\ks.length<=12) (by omega)];rfl
theorem dV.run:dV.RS:=rE [.d iL,.d ti,.d ti,.d tU,.d tu] dV
def dV.sg:=dV.fS dV.ok 1 ⟨.hZ dV.L0.ok,trivial⟩
abbrev CD:=(j7×(Int×Unit))
abbrev oQ.D:=Bs×Bs
abbrev oQ.Y:=Int
def oQ.aU:oQ.D->Prop:=λ_=>True
def oQ.F:oQ.D->oQ.Y:=λ(a,b)=>A0 a b
def oQ:Fs Tryz.prog oQ.aU bE oQ.F:=fK 82 Tryz.f82 (λ(a,b)=>([.d tB a,.d tB b],[])) (λx=>⟨.d ti x,[],[]⟩) [some tB,some tB] [⟨156,vH,IV.E,.of (IV.of (fn:=Tryz.f156) (by kernel_rfl) (by kernel_rfl) (by kernel_rfl) (by kernel_rfl) (by kernel_rfl)) (by rfl)⟩]
theorem oQ.eq{R:Type}(a b)(k:K1 R):oQ.A (a,b) k=
 av (IV.call (a,b)) λx1=>
 k (oQ.out x1):=by kernel_rfl
theorem oQ.ok:oQ.Ok:=by
 rintro⟨a,b⟩ _
 rw[oQ.eq,IV.run]
 rfl
theorem oQ.run:oQ.RS:=rE [.d tB,.d tB] oQ
def oQ.sg:=oQ.fS oQ.ok
abbrev oX.D:=Int
abbrev oX.Y:=Bool
def oX.aU:oX.D->Prop:=λ_=>True
def oX.F:oX.D->oX.Y:=λ_=>false
def oX:Fs Tryz.prog oX.aU bE oX.F:=fK 157 Tryz.f157 (λx=>([.d ti x],[])) (λx=>⟨.d .bool x,[],[]⟩) [some ti]
theorem oX.eq{R:Type}(x)(k:K1 R):oX.A x k=
 k (oX.out (sR x x)):=by kernel_rfl
theorem oX.ok:oX.Ok:=by
 intro x _
 rw[oX.eq]
 simp only[bE,oX.F,cS rfl]
theorem oX.run:oX.RS:=rE [.d ti] oX
def oX.sg:=oX.fS oX.ok
def uT(x y:Int):Int:=if x < y then -1 else if x > y then 1 else 0
abbrev lK.D:=Int×Int
abbrev lK.Y:=Int
def lK.aU:lK.D->Prop:=λ_=>True
def lK.F:lK.D->lK.Y:=λ(x,y)=>uT x y
def lK:Fs Tryz.prog lK.aU bE lK.F:=fK 83 Tryz.f83 (λ(x,yv)=>([.d ti x,.d ti yv],[])) (λx=>⟨.d ti x,[],[]⟩) [some ti,some ti] [oX.sg]
theorem lK.eq{R:Type}(x yv)(k:K1 R):lK.A (x,yv) k=
  av (oX.call x) λx1=>
  av (oX.call yv) λx2=>
  aJ (x1) (
   aJ (x2) (
    k (lK.out 0)) (
    k (lK.out (-1)))) (
   aJ (x2) (
    k (lK.out 1)) (
    aJ ((ik x yv)) (
     k (lK.out (-1))) (
     aJ ((nc x yv)) (
      k (lK.out 1)) (
      k (lK.out 0))))):=by kernel_rfl
theorem lK.ok:lK.Ok:=by
 rintro⟨x,y⟩ _
 rw[lK.eq,oX.run (d:=x) trivial]
 simp only[ab,bE,oX.F]
 rw[oX.run (d:=y) trivial]
 simp only[ab,bE,oX.F,ah,bE,lK.F,uT]
 by_cases h:x < y
 ·rw[bh h,ae,if_pos h]
 ·rw[aR h,ah,if_neg h]
  by_cases h2:x > y
  ·rw[cX h2,ae,if_pos h2]
  ·rw[cj h2,ah,if_neg h2]
theorem lK.run:lK.RS:=rE [.d ti,.d ti] lK
def lK.sg:=lK.fS lK.ok
abbrev gY.L0.D:=Int×(List Int)×Int×Int
def gY.L0.st:gY.L0.D->AS:=λ(zero,t6,t7,t8)=>⟨([.undef,.undef,.undef,.d ti zero,.undef,.undef,.d (.slice ti) t6,.d ti t7,.d ti t8]++bj 9 []),[],(List.replicate 18 [])⟩
abbrev gY.L0.Y0:=Int
abbrev gY.L0.X0:=Int
def gY.L0.dE:gY.L0.X0->Exit×AS:=λx=>(.ret,⟨([.undef,.undef,.d ti x]++bj 15 []),[],(List.replicate 18 [])⟩)
abbrev gY.L0.Y1:=Unit
abbrev gY.L0.X1:=Int
def gY.L0.fQ:gY.L0.X1->Exit×AS:=λx=>(.exit 0,⟨([.undef,.undef,.undef,.d ti x]++bj 14 []),[],(List.replicate 18 [])⟩)
abbrev gY.L0.X:=(gY.L0.X0)⊕(gY.L0.X1)
abbrev gY.L0.Y:=(gY.L0.Y0)⊕(gY.L0.Y1)
def gY.L0.out:gY.L0.X->Out (Exit×AS):=λx=> .br x.isLeft (.get x.getLeft? λa=> .ok (gY.L0.dE a)) (.get x.getRight? λb=> .ok (gY.L0.fQ b))
def gY.L0.add:gY.L0.D->gY.L0.Y->gY.L0.X:=λ(zero,t6,t7,t8) y=>match y with | .inl y=> .inl y | .inr z=> .inr (zero)
abbrev gY.D:=(List Int)
abbrev gY.Y:=Int
def OU:List Int->Int
 |[]=>0
 |x::l=>if x≠0 then x else OU l
def OV:List Int->Int⊕Unit
 |[]=> .inr ()
 |x::l=>if x≠0 then .inl x else OV l
theorem OW:∀l:List Int,OU l=match OV l with | .inl x=>x | .inr _=>0
 |[]=>rfl
 |x::l=>by
  simp only[OU,OV]
  split
  ·rfl
  ·exact OW l
def gY.L0.aU:gY.L0.D->Prop:=λ(z,l,n,i)=>z=0/\l.length<=1000000000/\n=l.length/\∃k:Nat,k<=l.length/\i=k
def gY.L0.F:gY.L0.D->gY.L0.Y:=λ(z,l,n,i)=>OV (l.drop i.toNat)
def gY.aU:gY.D->Prop:=λl=>l.length<=1000000000
def gY.F:gY.D->gY.Y:=λl=>OU l
def gY.L0.E:=eO.hZ gY.L0.st gY.L0.aU gY.L0.add gY.L0.F gY.L0.out
def gY.L0.call:gY.L0.D->Option gY.L0.X:=jH gY.L0.E gY.L0.st
def gY:Fs Tryz.prog gY.aU bE gY.F:=fK 81 Tryz.f81 (λkC=>([.d (.slice ti) kC],[])) (λx=>⟨.d ti x,[],[]⟩) [some (.slice ti)] [] {loops:=oM [(3,{bm:=[3,6,7,8]})],outs:=oL [(3,{bm:=[3]},{bm:=[2]})],iA:=pq [(3,gY.L0.E)]}
def gY.L0.R:= @gL Tryz.prog (lN gY.G) gY.an 0 Tryz.f81 0 _ gY.L0.st
abbrev gY.L0.Ok:=nh Tryz.prog (lN gY.G) gY.an 0 Tryz.f81 0 gY.L0.st gY.L0.aU gY.L0.add gY.L0.F gY.L0.out
theorem gY.L0.run:mq gY.L0.call gY.L0.aU gY.L0.add gY.L0.F:=oo (oa [.d ti,.d (.slice ti),.d ti,.d ti] λ_=>by kernel_rfl)
theorem gY.L0.cM:nM @gY.L0.R gY.L0.st gY.L0.aU gY.L0.add gY.L0.F gY.L0.out gY.L0.Ok:=oF
theorem gY.L0.step{R:Type}(zero:Int)(t6:(List Int))(t7:Int)(t8:Int)(kn:AS->Option R)(kx:Exit->AS->Option R):gY.L0.R (zero,t6,t7,t8) kn kx=
  aJ ((ik t8 t7)) (
   aJ (eY t8 (((List.length t6):Nat):Int)) (
   aJ ((sR (nth ti t6 (Int.toNat t8)) zero)) (
    kx (gY.L0.dE (nth ti t6 (Int.toNat t8))).1 (gY.L0.dE (nth ti t6 (Int.toNat t8))).2) (
    kn (gY.L0.st (zero,t6,t7,(bt .i64 t8 (1:Int)))))) none) (
   kx (gY.L0.fQ zero).1 (gY.L0.fQ zero).2):=by kernel_rfl
theorem gY.eq{R:Type}(kC)(k:K1 R):gY.A kC k=
  av (gY.L0.call (0,kC,(kC.length:Int),0)) λx1=>
  aJ (x1.isLeft) (
   av (x1.getLeft?) λa2=>
   k (gY.out a2)) (
   av (x1.getRight?) λb3=>
   k (gY.out b3)):=by kernel_rfl
theorem gY.L0.ok:gY.L0.Ok:=by
 refine gY.L0.cM (λ(z,l,n,i)=>l.length - i.toNat) ?_
 rintro⟨z,l,n,i⟩ ⟨rfl,hl,rfl,k,hk,rfl⟩
 by_cases h:k < l.length
 ·have hd:l.drop k=l[k]::l.drop (k+1):=aq h
  have n1:nth ti l k=l[k]:=dg (t:=ti) h
  by_cases h2:l[k]≠0
  ·right
   refine⟨gY.L0.dE l[k],?_,λkn kx=> ?_⟩
   rotate_left
   ·rw[gY.L0.step,bh (by omega),ae,bp (by omega) (by omega),ae,aa,n1,eI h2,ae]
   ·simp only[gY.L0.add,gY.L0.F,aa,hd,OV,if_pos h2]
    rfl
  ·left
   refine⟨(0,l,(l.length:Int),((k+1:Nat):Int)),⟨rfl,hl,rfl,k+1,by omega,rfl⟩,by simp only[aa];omega,?_,λkn kx=> ?_⟩
   ·simp only[gY.L0.add,gY.L0.F,aa,hd,OV,if_neg h2]
   ·rw[gY.L0.step,bh (by omega),ae,bp (by omega) (by omega),ae,aa,n1,cS (by omega),ah,N.pk (by omega)]
 ·right
  obtain rfl:k=l.length:=by omega
  refine⟨gY.L0.fQ 0,?_,λkn kx=> ?_⟩
  rotate_left
  ·rw[gY.L0.step,aR (by omega),ah]
  ·simp only[gY.L0.add,gY.L0.F,aa,aQ,OV]
   rfl
theorem gY.ok:gY.Ok:=by
 intro l hl
 rw[gY.eq,gY.L0.run (d:=(0,l,(l.length:Int),0)) ⟨rfl,hl,rfl,0,aV _,rfl⟩]
 simp only[ab,gY.L0.add,gY.L0.F,bH,aI,bE,gY.F]
 rw[OW]
 cases OV l <;> rfl
theorem gY.run:gY.RS:=rE [.d (.slice ti)] gY
def gY.sg:=gY.fS gY.ok 1 ⟨.hZ gY.L0.ok,trivial⟩
end Go.Ab
namespace Go.Ab
open Go.Sort (grow)
structure Of(P:Program)(t:Ty)(g:FuncId)(Q:t.den->Prop)(cf:t.den->t.den->Int):Prop where
 cz:∃en,mo P g en/\∀x y,Q x->Q y->∃X,en.run [.d t x,.d t y] []=some X/\en.out [.d t x,.d t y] [] X=⟨.d (.int .i64) (cf x y),[],[]⟩
 enters:∀args w,(callFunc g args).run P w= .ok (.enter g args) w
 irrefl:∀x,Q x->¬cf x x < 0
 trans:∀x y z,Q x->Q y->Q z->cf x y < 0->cf y z < 0->cf x z < 0
 ntrans:∀x y z,Q x->Q y->Q z->¬cf x y < 0->¬cf y z < 0->¬cf x z < 0
theorem Nz{w w':World}(OG:w'.os=w.os)(Ue:w'.tape=w.tape)(Ey:w'.output=w.output/\w.drawn<=w'.drawn)(oG:w.heap.size<=w'.heap.size)(hb:∀b:Nat,b < w.heap.size->w'.heap[b]? =w.heap[b]?):
  ∃q os,w'=grow (w.drewN q) os:=by
 obtain⟨h1,t1,d1,o1,p1⟩:=w
 obtain⟨h2,t2,d2,o2,p2⟩:=w'
 simp only at*
 obtain⟨Ey,hd⟩:=Ey
 subst OG Ue Ey
 obtain⟨q,rfl⟩:∃q,d2=d1+q:=⟨d2 - d1,by omega⟩
 refine⟨q,h2.extract h1.size h2.size,?_⟩
 have hh:h2=h1++h2.extract h1.size h2.size:=by
  apply nK
  intro i
  rw[j1]
  by_cases hi:i < h1.size
  ·rw[if_pos hi,hb i hi]
  ·rw[if_neg hi,Array.getElem?_extract]
   by_cases h3:i < h2.size
   ·rw[if_pos (by omega)]
    congr 1;omega
   ·rw[if_neg (by omega),Array.getElem?_eq_none (by omega)]
 show({heap:=h2,tape:=_,drawn:=_,os:=_,output:=_}:World)= {heap:=h1++h2.extract h1.size h2.size,tape:=_,drawn:=_,os:=_,output:=_}
 rw[<-hh]
 rfl
section
variable {P:Program} {t:Ty} {g:FuncId} {Q:t.den->Prop} {cf:t.den->t.den->Int}
theorem Of.Ro(h:Of P t g Q cf)(ha:t.agg=true){W:World}{cx cy:List Value}{x y:t.den}(hx:dn ((gw []).env W (λ_=> .free) (λ_=>none)) t cx x)
  (hy:dn ((gw []).env W (λ_=> .free) (λ_=>none)) t cy y) (qx:Q x) (qy:Q y):
  Calls P g #[.agg cx.toArray,.agg cy.toArray] W λe w'=>e= .returned (.int .i64 (cf x y))/\∃q os,w'=grow (W.drewN q) os:=by
 obtain⟨en,hd,mU⟩:=h.cz
 obtain⟨X,hX1,hX2⟩:=mU x y qx qy
 have one:∀ {c:List Value} {z:t.den},dn ((gw []).env W (λ_=> .free) (λ_=>none)) t c z->VS ((gw []).env W (λ_=> .free) (λ_=>none)) (.d t z) (.agg c.toArray):=λhz=>
  ⟨_,by simpa only[V]using hz,by show gd t.agg _ _;rw[ha];rfl⟩
 have ho:jd ((gw []).env W (λ_=> .free) (λ_=>none)):=λid ver fr c h=>by
  exfalso
  cases id with
  |dB k=>simp[AS.env,AS.cz,gw]at h
  |new i j=>simp[AS.env,AS.cz,gw]at h
 rcases hd W (λ_=> .free) (λ_=>none) [.d t x,.d t y] [] [.agg cx.toArray,.agg cy.toArray] X ⟨one hx,one hy,trivial⟩ ho hX1 with⟨_,hc⟩ | ⟨v,w',hc,_⟩
 ·refine hc.mono λe w' he=> ?_
  obtain⟨v,rfl,g',β',hv,_,ht,_⟩:=he
  rw[hX2]at hv
  obtain⟨cs,k1,k2⟩:=hv
  have k1:cs=[.int .i64 (cf x y)]:=k1
  subst k1
  have k2: [Value.int .i64 (cf x y)]=[v]:=k2
  have hv:v= .int .i64 (cf x y):=by simpa using k2.symm
  exact⟨by rw[hv],Nz ht.os ht.tape ht.output ht.size λb hb=>(ht.yO b hb).2⟩
 ·rw[h.enters]at hc;cases hc
def Hr(cf:t.den->t.den->Int)(l l':List t.den):Prop:=l'.Perm l/\l'.Pairwise λx y=>¬cf y x < 0
open Classical in
def wg(cf:t.den->t.den->Int)(l:List t.den):List t.den:=if h:∃l',Hr cf l l' then h.choose else l
theorem EW(h:Of P t g Q cf){l:List t.den}(hQ:∀x∈l,Q x):Hr cf l (wg cf l):=by
 have hx:∃l',Hr cf l l':=by
  let le: {x // Q x}-> {x // Q x}->Bool:=λx y=> !decide (cf y.1 x.1 < 0)
  refine⟨((l.attachWith Q hQ).mergeSort le).map (·.1),?_,?_⟩
  ·have h1:=(List.mergeSort_perm (l.attachWith Q hQ) le).map (·.1)
   rwa[List.attachWith_map_subtype_val]at h1
  ·have h2:=List.pairwise_mergeSort (le:=le) (λa b c h1 h2=>by
    simp only[le,bX,decide_eq_false_iff_not]at*
    exact h.ntrans _ _ _ c.2 b.2 a.2 h2 h1) (λa b=>by
    simp only[le,gP,bX,decide_eq_false_iff_not]
    by_cases h1:cf b.1 a.1 < 0
    ·exact .inr λh2=>h.irrefl _ a.2 (h.trans _ _ _ a.2 b.2 a.2 h2 h1)
    ·exact .inl h1) (l.attachWith Q hQ)
   rw[List.pairwise_map]
   exact h2.imp λ {a b} h3=>by simpa[le]using h3
 unfold wg
 rw[dif_pos hx]
 exact hx.choose_spec
theorem xn(h:Of P t g Q cf){l l':List t.den}(hQ:∀x∈l,Q x)(hT:∀x∈l,∀y∈l,¬cf x y < 0->¬cf y x < 0->x=y)(hs:Hr cf l l'):l'=wg cf l:=by
 have h2:=EW h hQ
 exact List.Perm.eq_of_pairwise (λa b ha hb h3 h4=>hT a (hs.1.mem_iff.1 ha) b (h2.1.mem_iff.1 hb) h4 h3) hs.2 h2.2 (hs.1.trans h2.1.symm)
def yD(g:FuncId)(e:TypeId)(t:Ty):Nat×List t.den->List az×List ea:=λd=>([.cP (.dB 0) 0 [] 0 0 d.1,.fn g .nil],[.obj 0 false (.vec e t d.2)])
def zw(Q:t.den->Prop)(cf:t.den->t.den->Int):Nat×List t.den->Prop:=λd=>d.1=d.2.length/\d.2.length < 4611686018427387904/\(∀x∈d.2,Q x)/\∀x∈d.2,∀y∈d.2,¬cf x y < 0->¬cf y x < 0->x=y
def Qu(e:TypeId)(t:Ty):Nat×List t.den->kr:=λx=>⟨.nil,[.obj 0 false (.vec e t x.2)],[]⟩
def MO(g:FuncId)(e:TypeId)(t:Ty)(Q:t.den->Prop)(cf:t.den->t.den->Int):Entry:=
 Entry.of [none,none] (yD g e t) (zw Q cf) (λd=>(d.1,wg cf d.2)) (Qu e t)
theorem N5{g:FuncId}{e:TypeId}{t:Ty}(d d':Nat×List t.den)(h:yD g e t d=yD g e t d'):d=d':=by
 obtain⟨n,l⟩:=d
 obtain⟨n',l'⟩:=d'
 simp only[yD,da,dC,az.cP.injEq,ea.obj.injEq,true_and,and_true]at h
 obtain⟨rfl,h2⟩:=h
 rw[Oa h2]
def AV(g:FuncId)(e:TypeId)(t:Ty)(Q:t.den->Prop)(cf:t.den->t.den->Int):Nat×List t.den->Option (Nat×List t.den):=λd=>(MO g e t Q cf).run (yD g e t d).1 (yD g e t d).2
theorem EX{g:FuncId}{e:TypeId}{t:Ty}{Q:t.den->Prop}{cf:t.den->t.den->Int}{d:Nat×List t.den}(h:zw Q cf d):AV g e t Q cf d=some (d.1,wg cf d.2):=Entry.sq N5 h
theorem xE{R:List Value->t.den->Prop}:∀ {cs:List Value} {l:List t.den},bA R cs l->(∀x∈l,Q x)->∃ps:List {p:List Value×t.den // R p.1 p.2/\Q p.2},ps.map (·.1.2)=l/\(ps.map (·.1.1)).flatten=cs
 |cs,[],h,_=>⟨[],rfl,by have h:cs=[]:=h;rw[h];rfl⟩
 |cs,x::l,⟨c,cs',h1,h2,h3⟩,hq=>by
  obtain⟨ps,h4,h5⟩:=xE h3 λy hy=>hq y (aL _ hy)
  exact⟨⟨(c,x),h2,hq x (aN ..)⟩::ps,by simp[h4],by simp[h5,h1]⟩
theorem yg{R R':List Value->t.den->Prop}(hR:∀c x,R c x->R' c x):∀ps:List {p:List Value×t.den // R p.1 p.2/\Q p.2},bA R' (ps.map (·.1.1)).flatten (ps.map (·.1.2))
 |[]=>rfl
 |p::ps=>⟨p.1.1,(ps.map (·.1.1)).flatten,by simp,hR _ _ p.2.1,yg hR ps⟩
theorem FU{α:Type} [Inhabited α] (enc:α->List Value) {k:Nat} (hk:∀x,(enc x).length=k):∀(ps:List α) (j:Nat),j < ps.length*k->((ps.map enc).flatten)[j]? =(enc (ps.toArray[j / k]!))[j%k]?
 |[],j,h=>by simp at h
 |p::ps,j,h=>by
  have k0:0 < k:=by
   rcases lH k with h0 | h0
   ·subst h0;simp at h
   ·exact h0
  simp only[bR,iq]
  by_cases hj:j < k
  ·rw[fy (by rw[hk];exact hj),Nat.div_eq_of_lt hj,Nat.mod_eq_of_lt hj]
   rfl
  ·have e1:j / k=(j - k) / k+1:=by
    rw[Nat.div_eq_sub_div k0 (by omega)]
   have e2:j%k=(j - k)%k:=by rw[Nat.mod_eq_sub_mod (by omega)]
   rw[List.getElem?_append_right (by rw[hk];omega),hk,FU enc hk ps (j - k) (by simp only[aD,eM,lj]at h;omega),e1,e2]
   congr 2
   simp
theorem wZ{α:Type} [Inhabited α] (enc:α->List Value) {k:Nat} (hk:∀x,(enc x).length=k) (d:Array α):(Go.Sort.flatK enc k d).toList=(d.toList.map enc).flatten:=by
 have hl:((d.toList.map enc).flatten).length=d.size*k:=by
  rw[List.length_flatten,List.map_map]
  have:(d.toList.map (List.length∘enc))=List.replicate d.size k:=by
   rw[List.eq_replicate_iff]
   exact⟨by simp,λx hx=>by obtain⟨y,_,rfl⟩:=dD.1 hx;exact hk y⟩
  rw[this,List.sum_replicate_nat]
 apply kg
 intro j
 by_cases hj:j < d.size*k
 ·rw[FU enc hk d.toList j (by simpa using hj)]
  have h2:(Go.Sort.flatK enc k d).toList[j]? =some ((Go.Sort.flatK enc k d)[j]!):=by
   rw[iM,getElem!_pos _ j (by rw[Go.Sort.size_flatK];exact hj)]
   simp[hj]
  rw[h2,Go.Sort.get_flatK _ _ _ _ hj]
  have Oz:0 < k:=by
   rcases lH k with h0 | h0
   ·subst h0;simp at hj
   ·exact h0
  have hm:j%k < k:=Nat.mod_lt _ Oz
  simp only[Array.toArray_toList]
  rw[cQ (by rw[hk];exact hm),getElem!_pos _ _ (by rw[hk];exact hm)]
 ·rw[dS (by simpa using hj),dS (by rw[hl];omega)]
theorem My{F cur:Array Value}(h:F.size<=cur.size):(Go.Sort.putCells id 0 F cur).toList=F.toList++cur.toList.drop F.size:=by
 apply kg
 intro j
 simp only[Go.Sort.putCells,iM,Array.getElem?_mapIdx,aV,true_and,aO,Nat.sub_zero,id]
 by_cases hj:j < F.size
 ·rw[fy (by simpa using hj),iM,fx hj,fx (by omega),eF,if_pos hj,getElem!_pos F j hj]
 ·rw[List.getElem?_append_right (by simpa using hj),gf,iM,c6,show F.size+(j - F.size)=j by omega]
  cases cur[j]? with
  |none=>rfl
  |some y=>rw[eF,if_neg hj]
end
section
open Go.Proofs Go.Shelf Go.Lib Go.Sort
variable {P:Program} {ρ:Go.Shelf.Ren} {t:Ty} {g:FuncId} {Q:t.den->Prop} {cf:t.den->t.den->Int}
theorem Cp{α:Type} [Inhabited α] (enc:α->List Value) (k:Nat) (w:World) (yO m:Nat) (dk:Array α) (os:Array Obj) {b:Nat} (hb:b < w.heap.size) (jb:b≠yO):(sortWorldK enc k w yO 0 m dk os).heap[b]? =w.heap[b]? :=by
 show((w.heap.modify yO _)++os)[b]? =_
 rw[j1,if_pos (by simpa using hb),gH,if_neg (λe=>jb e.symm)]
theorem N8{α:Type} [Inhabited α] (enc:α->List Value) (k:Nat) (w:World) (yO m:Nat) (dk:Array α) (os:Array Obj) {cur:Array Value} {e:TypeId} {fr:Nat×Nat} (hb:w.heap[yO]? =some (.cells cur e fr)):
  (sortWorldK enc k w yO 0 m dk os).heap[yO]? =some (.cells (putCells id 0 (flatK enc k dk) cur) e fr):=by
 have jt:yO < w.heap.size:=(bT.1 hb).1
 show((w.heap.modify yO _)++os)[yO]? =_
 rw[j1,if_pos (by simpa using jt),gH,if_pos rfl,hb]
 rfl
set_option maxHeartbeats 1000000 in
theorem G3(L:SlLaysF0.n6 P ρ){e:TypeId}(ha:t.agg=true)(aE:∀w,(isAgg (ρ.t 24)).run P w= .ok true w)(zE:∀w,(Go.sizeOf (ρ.t 24)).run P w= .ok t.size w)(hc:Of P t g Q cf):
  mo P (ρ.f 6) (MO g e t Q cf):=by
 intro w γ β args cT kC x hv ho hx
 obtain⟨d0,I7,R0⟩:∃d,yD g e t d=(args,cT)/\zw Q cf d:=by
  by_cases hh:∃d,yD g e t d=(args,cT)/\zw Q cf d
  ·exact hh
  ·exfalso
   have hn:(MO g e t Q cf).run args cT=none:=dif_neg hh
   rw[hn]at hx
   cases hx
 have hr:=EX (g:=g) (e:=e) R0
 unfold AV at hr
 rw[I7]at hr
 obtain rfl:x=(d0.1,wg cf d0.2):=bB (hx.symm.trans hr)
 obtain⟨n,l⟩:=d0
 simp only[yD,da]at I7
 obtain⟨rfl,rfl⟩:=I7
 obtain⟨hn,oG,hQ,hT⟩:=R0
 have hn:n=l.length:=hn
 subst hn
 match kC,hv with
 |[y1,y2],⟨P3,zP,_⟩=>
 obtain⟨vs,rfl,wx⟩:=Dr zP
 have wx:vs=[]:=by simpa only[VC]using wx
 subst wx
 have h1:=P3.single rfl rfl
 simp only[V]at h1
 obtain⟨a,cap,h1,xK,nb,_,fF⟩:=h1
 have h1:y1= .slice a l.length cap:=by simpa using h1
 subst h1
 have db:(gw [ea.obj 0 false (.vec e t l)]).cz (.dB 0)=some (.obj 0 false (.vec e t l)):=rfl
 obtain⟨hz,hO⟩:Q7 ((gw [ea.obj 0 false (.vec e t l)]).env w γ β) (.dB 0) false e t l:=ho (.dB 0) 0 false _ db
 have fF:=fF ⟨false,_,db⟩
 refine .inl ⟨L.f6.enters rfl _ _,?_⟩
 have VV:∀v:Value,v= .tuple #[]->VS ((kr.st ⟨.nil,[.obj 0 false (.vec e t (wg cf l))],[]⟩).env w γ β) .nil v:=λv hv=>by rw[hv];exact rfl
 have hS:=EW hc hQ
 by_cases hl:l=[]
 ·subst hl
  have hs:wg cf ([]:List t.den)=[]:=bo hS.1.length_eq
  refine(AnyF.slices_SortFunc_none L a cap _ w).mono λe' w' he=> ?_
  obtain⟨rfl,rfl⟩:=he
  refine⟨_,rfl,?_⟩
  show qV _ (⟨.nil,[.obj 0 false (.vec e t (wg cf []))],[]⟩:kr) _ _
  rw[hs]
  exact qV.same rfl ho
 ·have nW:0 < l.length:=List.length_pos_iff.2 hl
  change (match β (.dB 0) with | none=>l=[] | some pl=>∃cur k,w.heap[pl.b]? =some (.cells cur e (0,0))/\cur.size=pl.cap*t.size/\l.length<=pl.cap/\pl.cap<=maxLen/\γ pl.b= .own (.id (.dB 0)) k/\
   k<=l.length*t.size/\(false=false->k=0)/\bA (dn ((gw [ea.obj 0 false (.vec e t l)]).env w γ β) t) (cur.toList.take (l.length*t.size)) l) at hO
  change (match β (.dB 0) with | some pl=>(0 < l.length\/True->a=some ⟨pl.b,0,none⟩)/\(True->True->cap=pl.cap) | none=>a=none/\l.length=0/\cap=0) at fF
  cases hβ:β (.dB 0) with
  |none=>rw[hβ]at hO;exact absurd hO hl
  |some pl=>
  rw[hβ]at hO fF
  obtain⟨cur,k0,q1,q2,q3,q4,q5,_,q7,q8⟩:=hO
  obtain rfl:=q7 rfl
  obtain rfl:=fF.1 (.inl nW)
  have hblk:pl.b < w.heap.size:=(bT.1 q1).1
  obtain⟨R,hR⟩:∃R:List Value->t.den->Prop,R=dn ((gw [ea.obj 0 false (.vec e t l)]).env w γ β) t:=⟨_,rfl⟩
  have hRm:∀c x,R c x->dn ((gw [ea.obj 0 false (.vec e t l)]).env w γ β) t c x:=by rw[hR];exact λ_ _ h=>h
  rw[<-hR]at q8
  obtain⟨ps,p1,p2⟩:=xE (Q:=Q) q8 hQ
  have R1:ps.length=l.length:=by rw[<-p1,cR]
  let α:= {p:List Value×t.den // R p.1 p.2/\Q p.2}
  have:0 < ps.length:=by omega
  letI:Inhabited α:=⟨ps[0]⟩
  let enc:α->List Value:=λp=>p.1.1
  let cf':α->α->Int:=λp q=>cf p.1.2 q.1.2
  have hk:∀x,(enc x).length=t.size:=λx=>(hRm _ _ x.2.1).size
  have hO:SWO (ltOf cf'):=⟨λx=>by simpa[ltOf,cf']using hc.irrefl _ x.2.2,λx y z h1 h2=>by
   simp only[ltOf,decide_eq_true_eq,cf']at*
   exact hc.trans _ _ _ x.2.2 y.2.2 z.2.2 h1 h2,λx y z h1 h2=>by
   simp only[ltOf,decide_eq_false_iff_not,cf']at*
   exact hc.ntrans _ _ _ x.2.2 y.2.2 z.2.2 h1 h2⟩
  have tE:∀j,j < l.length*t.size->cur[j]? =((ps.map enc).flatten)[j]? :=λj hj=>by
   have:(ps.map enc).flatten=cur.toList.take (l.length*t.size):=p2
   rw[this,dq,if_pos hj,iM]
  have hH:HoldsK enc t.size w pl.b 0 ps.toArray:=λj hj=>by
   rw[size_flatK]at hj
   have hj:j < ps.length*t.size:=by simpa using hj
   have h2:=tE j (by rw[<-R1];exact hj)
   have h3:((flatK enc t.size ps.toArray).toList)[j]? =((ps.map enc).flatten)[j]? :=by rw[wZ enc hk]
   rw[iM,fx (by rw[size_flatK];simpa using hj)]at h3
   refine⟨?_,?_⟩
   ·show(match w.heap[pl.b]? with | some (.cells c _ _)=>if(none:Option _).isSome then none else c[0+j]? | _=>none)=_
    rw[q1]
    simp only[Option.isSome_none,bJ,if_false,aO]
    rw[h2,<-h3,getElem!_pos _ j (by rw[size_flatK];simpa using hj)]
    rfl
   ·show(match w.heap[pl.b]? with | some (.cells _ _ (lo,hi))=>decide (lo<=0+j) && decide (0+j < hi) | _=>false)=false
    rw[q1]
    simp
  have tf:∀(m:Nat) (dk:Array α) (os:Array Obj),oO ((gw [ea.obj 0 false (.vec e t l)]).env w γ β) ((gw []).env (sortWorldK enc t.size w pl.b 0 m dk os) (λ_=> .free) (λ_=>none)):=λm dk os=>by
   refine⟨λb off v hh=>⟨?_,trivial⟩,λb ob hf kG=>⟨rfl,?_⟩⟩
   ·obtain⟨h1,h2⟩:=hh
    have hb:b < w.heap.size:=World.block_lt_of_cell? _ _ h1
    have jb:b≠pl.b:=λe=>by
     have h2:pj γ b off:=h2
     unfold pj at h2
     rw[e,q5]at h2
     exact Nat.not_lt_zero _ h2
    have h1:w.cell? ⟨b,off,none⟩=some v:=h1
    show(sortWorldK enc t.size w pl.b 0 m dk os).cell? ⟨b,off,none⟩=some v
    simpa only[World.cell?,Cp enc t.size w pl.b m dk os hb jb]using h1
   ·have kG:w.heap[b]? =some ob:=kG
    have hb:b < w.heap.size:=(bT.1 kG).1
    have jb:b≠pl.b:=λe=>by
     have hf:γ b= .free:=hf
     rw[e,q5]at hf;cases hf
    exact(Cp enc t.size w pl.b m dk os hb jb).trans kG
  have TB:CmpLays P g #[] enc t.size cf' pl.b 0 ps.toArray.size w:=λm os dk _ p q=>
   hc.Ro ha ((hRm _ _ p.2.1).mono (tf m dk os)) ((hRm _ _ q.2.1).mono (tf m dk os)) p.2.2 q.2.2
  have RD:=AnyQ.slices_SortFunc L t.size aE zE enc hk (λp=>(hRm _ _ p.2.1).one) cf' hO g #[] pl.b 0 cap ps.toArray w hc.enters TB hH hblk (by simpa[R1]using oG)
  rw[show ps.toArray.size=l.length by simpa using R1]at RD
  refine RD.mono λe' w' he=> ?_
  obtain⟨rfl,d',m,os,hp,hs,rfl⟩:=he
  refine⟨_,rfl,?_⟩
  obtain⟨s1,_,s2⟩:=hp
  have hd:d'.size=l.length:=by rw[s1];simpa using R1
  have F7:d'.toList.Perm ps:=by
   have e1:(d'.extract 0 l.length)=d':=by rw[<-hd];simp
   have e2:(ps.toArray.extract 0 l.length)=ps.toArray:=by rw[<-R1];simp
   rw[e1,e2]at s2
   exact s2
  have hl':Hr cf l (d'.toList.map (·.1.2)):=by
   refine⟨by rw[<-p1];exact F7.map _,?_⟩
   rw[List.pairwise_map,List.pairwise_iff_getElem]
   intro i j hi hj TI
   have:=hs i j (aV _) TI (by rw[<-hd];simpa using hj)
   rw[getElem!_pos d' i (by simpa using hi),getElem!_pos d' j (by simpa using hj)]at this
   simpa[ltOf,cf']using this
  have heq:=xn hc hQ hT hl'
  show qV _ (⟨.nil,[.obj 0 false (.vec e t (wg cf l))],[]⟩:kr) _ _
  rw[<-heq]
  have lr:=N8 enc t.size w pl.b m d' os q1
  have hFs:(flatK enc t.size d').size<=cur.size:=by
   rw[size_flatK,hd,q2]
   exact dr _ q3
  have xM:∀b,b < w.heap.size->b≠pl.b->(sortWorldK enc t.size w pl.b 0 m d' os).heap[b]? =w.heap[b]? :=λb hb jb=>Cp enc t.size w pl.b m d' os hb jb
  have LP:w.heap.size<=(sortWorldK enc t.size w pl.b 0 m d' os).heap.size:=size_sortWorldK_c enc t.size w pl.b 0 m d' os
  have hw:(sortWorldK enc t.size w pl.b 0 m d' os).os=w.os/\(sortWorldK enc t.size w pl.b 0 m d' os).tape=w.tape/\((sortWorldK enc t.size w pl.b 0 m d' os).output=w.output/\w.drawn<=(sortWorldK enc t.size w pl.b 0 m d' os).drawn):=⟨rfl,rfl,rfl,Nat.le_add_right _ _⟩
  generalize sortWorldK enc t.size w pl.b 0 m d' os=w' at lr xM LP hw
  have ht:Trans w w' γ γ:=by
   refine⟨hw.1,hw.2.1,hw.2.2,LP,λb hb=> ?_⟩
   by_cases Tw:b=pl.b
   ·subst Tw
    rw[q5]
    exact⟨.inr ⟨_,0,rfl,ay _⟩,λ_ _ hh=>by omega⟩
   ·rw[xM b hb Tw]
    cases Aq:γ b with
    |free=>exact⟨rfl,rfl⟩
    |own o' k=>cases o' with
     |eL=>exact⟨rfl,rfl⟩
     |id i'=>exact⟨.inr ⟨i',k,rfl,ay _⟩,λoff v _ hv=>by simpa only[World.cell?,xM b hb Tw]using hv⟩
  have hle:c7 ((gw [ea.obj 0 false (.vec e t l)]).env w γ β) ((kr.st ⟨.nil,[.obj 0 false (.vec e t (d'.toList.map (·.1.2)))],[]⟩).env w' γ β):=by
   have e0:∀id,(∃c,(gw [ea.obj 0 false (.vec e t l)]).cz id=some (.obj 0 false c)/\id= .dB 0)\/((gw [ea.obj 0 false (.vec e t l)]).cz id=none/\(kr.st ⟨.nil,[.obj 0 false (.vec e t (d'.toList.map (·.1.2)))],[]⟩).cz id=none):=λid=>by
    cases id with
    |dB k=>cases k with
     |zero=>exact .inl ⟨_,rfl,rfl⟩
     |succ k=>exact .inr ⟨rfl,rfl⟩
    |new i j=>refine .inr ⟨?_,?_⟩ <;> cases i <;> rfl
   refine⟨Trans.mem (E:=(gw [ea.obj 0 false (.vec e t l)]).env w γ β) (E':=(kr.st ⟨.nil,[.obj 0 false (.vec e t (d'.toList.map (·.1.2)))],[]⟩).env w' γ β) ht,λid ver hb=> ?_,λid ver hb Vw=> ?_⟩
   ·rcases e0 id with⟨c,_,rfl⟩ | ⟨h1,_⟩
    ·refine⟨by show(some _:Option ea)≠none;simp,λv fr c h=> ?_⟩
     have h:some (ea.obj 0 false (.vec e t (d'.toList.map (·.1.2))))=some (.obj v fr c):=h
     simp only[ax,ea.obj.injEq]at h
     have:=hb.2 0 false _ rfl
     omega
    ·exact absurd h1 hb.1
   ·rcases e0 id with⟨c,_,rfl⟩ | ⟨h1,_⟩
    ·obtain⟨fr,c,h⟩:=Vw
     have h:some (ea.obj 0 false (.vec e t (d'.toList.map (·.1.2))))=some (.obj ver fr c):=h
     simp only[ax,ea.obj.injEq]at h
     obtain⟨rfl,rfl,_⟩:=h
     exact⟨⟨false,_,rfl⟩,rfl⟩
    ·exact absurd h1 hb.1
  refine⟨γ,β,rfl,λid ver fr c h=> ?_,ht,hle⟩
  have dz:id= .dB 0/\ver=0/\fr=false/\c= .vec e t (d'.toList.map (·.1.2)):=by
   cases id with
   |dB k=>cases k with
    |zero=>
     have h:some (ea.obj 0 false (.vec e t (d'.toList.map (·.1.2))))=some (.obj ver fr c):=h
     simp only[ax,ea.obj.injEq]at h
     obtain⟨rfl,rfl,rfl⟩:=h
     exact⟨rfl,rfl,rfl,rfl⟩
    |succ k=>cases h
   |new i j=>cases i <;> cases h
  obtain⟨rfl,rfl,rfl,rfl⟩:=dz
  refine⟨hz,?_⟩
  show(match β (.dB 0) with | none=>(d'.toList.map (·.1.2))=[] | some pl=>_)
  rw[hβ]
  have hlen:(d'.toList.map (λp:α=>p.1.2)).length=l.length:=by simpa using hd
  refine⟨_,0,lr,?_,by rw[hlen];exact q3,q4,q5,aV _,λ_=>rfl,?_⟩
  ·rw[<-q2];simp[putCells]
  ·have e3:(putCells id 0 (flatK enc t.size d') cur).toList.take ((d'.toList.map (λp:α=>p.1.2)).length*t.size)=(d'.toList.map enc).flatten:=by
    rw[My hFs,wZ enc hk,hlen]
    have e4:((d'.toList.map enc).flatten).length=l.length*t.size:=by
     rw[<-wZ enc hk,c6,size_flatK,hd]
    rw[<-e4,List.take_left]
   rw[e3]
   exact yg (Q:=Q) (λc x h=>(hRm c x h).mono hle.mem) d'.toList
end
end Go.Ab
namespace Go.Ab
open Go.Proofs
theorem xS{α:Type}{f:α->α->Bool}(hf:∀x,f x x=true):∀l:List α,kL f l l=true
 |[]=>rfl
 |x::l=>by rw[vb,hf,xS hf l];rfl
theorem xC:∀(t:Ty) (x:t.den),t.comp=true->t.beq x x=true
 | .int _,x,_=>by simp[Ty.beq]
 | .bool,x,_=>by simp[Ty.beq]
 | .str,x,_=>by simp[Ty.beq]
 | .unit,_,_=>rfl
 | .pair a b,x,h=>by
  simp only[Ty.comp,ak]at h
  simp only[Ty.beq,xC a x.1 h.1,xC b x.2 h.2,Bool.and_self]
 | .arr _ t,l,h=>xS (λx=>xC t x h) l
 | .slice _,_,h=>by cases h
 | .iv _,_,h=>by cases h
theorem IW(t:Ty)(hc:t.comp=true)(x y:t.den) [Decidable (x=y)]:t.beq x y=decide (x=y):=by
 by_cases h:x=y
 ·subst h;rw[aP rfl,xC t x hc]
 ·rw[bf h]
  cases hb:t.beq x y
  ·rfl
  ·exact absurd (beq_eq t x y hc hb) h
theorem O8(x y:Sg):Ty.beq zy x y=decide (x=y):= @IW zy rfl x y (inferInstanceAs (Decidable (x=y)))
theorem O7(x y:lF):Ty.beq jk x y=decide (x=y):= @IW jk rfl x y (inferInstanceAs (Decidable (x=y)))
end Go.Ab
end
