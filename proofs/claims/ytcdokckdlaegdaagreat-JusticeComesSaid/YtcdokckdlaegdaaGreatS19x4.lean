/-
  Made short by a program of mine (wip/tools/mini.py).
-/
import Derived.Test.YtcdokckdlaegdaaGreatS19x3
import Derived.Test.YtcdokckdlaegdaaGreatProg
set_option linter.unusedVariables false
set_option linter.unusedSimpArgs false
set_option maxRecDepth 100000
set_option synthInstance.maxSize 5000
noncomputable section
namespace Go.Ab
open Go.Proofs
abbrev binary.D:=Bs
def binary.st:binary.D->SA:=λb=>([.d tB b],[])
abbrev binary.Y:=Int
abbrev binary.X:=Int
def binary.out:binary.X->aX:=λx=>⟨.d (.int .u32) x,[],[]⟩
def binary.add:binary.D->binary.Y->binary.X:=λb y=>y
def binary.az:binary.D->Prop:=λb=>4<=b.length
def binary.F:binary.D->binary.Y:=λb=>vw (SV (b.getD 0 0) (b.getD 1 0) (b.getD 2 0) (b.getD 3 0))
def binary.G:fD:=gr (P:=Tryz.prog) []
def binary.an:fR:= {}
def binary.A:= @dm Tryz.prog binary.G binary.an 0 Tryz.f184 _ binary.st
abbrev binary.Ok:=dn @binary.A binary.az binary.add binary.F binary.out
theorem binary.eq{R:Type}(b:Bs)(k:aX->Option R):binary.A b k=
 aJ (fB (0:Int) (((List.length b):Nat):Int)) (
 aJ (fB (1:Int) (((List.length b):Nat):Int)) (
 aJ (fB (2:Int) (((List.length b):Nat):Int)) (
 aJ (fB (3:Int) (((List.length b):Nat):Int)) (
 k (binary.out (dD .or .u32 (dD .or .u32 (dD .or .u32 (oC .u32 (fa .u32 (nth tb b 0)) (24:Int)) (oC .u32 (fa .u32 (nth tb b 1)) (16:Int))) (oC .u32 (fa .u32 (nth tb b 2)) (8:Int))) (fa .u32 (nth tb b 3))))) none) none) none) none:=by kernel_rfl
theorem binary.ok:binary.Ok:=by
 intro b h
 have h:4<=b.length:=h
 rw[binary.eq,bF (by omega) (by omega),bF (by omega) (by omega),bF (by omega) (by omega),bF (by omega) (by omega)]
 simp only[ae,JW,yC,oe]
 rfl
def binary.E:=Entry.dp [some tB] binary.st binary.az binary.add binary.F binary.out
def binary.call:binary.D->Option binary.X:=bX binary.E binary.st
theorem binary.run:b8 binary.call binary.az binary.add binary.F:=dv (du [.d tB] λ_=>by kernel_rfl)
def binary.sg:SG Tryz.prog:=⟨184,aP,binary.E,.fn 0 (by kernel_rfl) binary.ok trivial⟩
abbrev eC.D:=Int×Int
def eC.st:eC.D->SA:=λ(x,kv)=>([.d (.int .u32) x,.d ti kv],[])
abbrev eC.Y:=Int
abbrev eC.X:=Int
def eC.out:eC.X->aX:=λx=>⟨.d (.int .u32) x,[],[]⟩
def eC.add:eC.D->eC.Y->eC.X:=λ(x,kv) y=>y
def rl(w:W)(k:Nat):W:=w <<< k ||| w >>> (32 - k)
def eC.az:eC.D->Prop:=λ(x,k)=>0<=x/\x < 4294967296
def eC.F:eC.D->eC.Y:=λ(x,k)=>vw (rl (BitVec.ofInt 32 x) (k%32).toNat)
def eC.G:fD:=gr (P:=Tryz.prog) []
def eC.an:fR:= {}
def eC.A:= @dm Tryz.prog eC.G eC.an 0 Tryz.f175 _ eC.st
abbrev eC.Ok:=dn @eC.A eC.az eC.add eC.F eC.out
theorem eC.eq{R:Type}(x:Int)(kv:Int)(k:aX->Option R):eC.A (x,kv) k=
 aJ (nr (dD .and .u64 (fa .u64 kv) (31:Int))) (
 aJ (nr (cY .u64 (32:Int) (dD .and .u64 (fa .u64 kv) (31:Int)))) (
 k (eC.out (dD .or .u32 (oC .u32 x (dD .and .u64 (fa .u64 kv) (31:Int))) (cX .u32 x (cY .u64 (32:Int) (dD .and .u64 (fa .u64 kv) (31:Int))))))) none) none:=by kernel_rfl
theorem SU(k:Int):dD .and .u64 (fa .u64 k) 31=k%32:=by
 have e:(31:Int)=vw (31:BitVec 64):=rfl
 rw[Fo,e,KJ]
 simp only
 have:(31:BitVec 64)=BitVec.ofNat 64 (2^5 - 1):=rfl
 unfold vw
 rw[BitVec.toNat_and,pe,show(31:BitVec 64).toNat=2^5 - 1 from rfl,Nat.and_two_pow_sub_one_eq_mod]
 omega
theorem eC.ok:eC.Ok:=by
 rintro⟨x,k⟩ ⟨h1,h2⟩
 have e1:cY .u64 32 (k%32)=32 - k%32:=by
  unfold cY
  rw[wrap_u64,kP]
  omega
 have hx:x=vw (BitVec.ofInt 32 x):=by rw[kP];omega
 rw[eC.eq,SU,e1,tj (by omega),tj (by omega)]
 simp only[ae]
 have e2:dD .or .u32 (oC .u32 x (k%32)) (cX .u32 x (32 - k%32))=vw (rl (BitVec.ofInt 32 x) (k%32).toNat):=by
  conv=>lhs;rw[hx]
  rw[yC,vV,oe]
  simp only[rl]
  congr 3
  omega
 rw[e2]
 rfl
def eC.E:=Entry.dp [some (.int .u32),some ti] eC.st eC.az eC.add eC.F eC.out
def eC.call:eC.D->Option eC.X:=bX eC.E eC.st
theorem eC.run:b8 eC.call eC.az eC.add eC.F:=dv (du [.d (.int .u32),.d ti] λ_=>by kernel_rfl)
def eC.sg:SG Tryz.prog:=⟨175,aP,eC.E,.fn 0 (by kernel_rfl) eC.ok trivial⟩
theorem eC.at(w:W)(k:Int):eC.call (vw w,k)=some (vw (rl w (k%32).toNat)):=by
 have h:eC.az (vw w,k):=⟨Am w,by have:=On w;simpa using this⟩
 rw[eC.run h]
 show some (vw (rl (BitVec.ofInt 32 (vw w)) (k%32).toNat))=_
 rw[qg]
abbrev table.D:=Unit
def table.st:table.D->SA:=λ_=>([],[])
abbrev table.Y:=(List Int)
abbrev table.X:=(List Int)
def table.out:table.X->aX:=λx=>⟨.d (.arr 64 (.int .u32)) x,[],[]⟩
def table.add:table.D->table.Y->table.X:=λ_ y=>y
def table.az:table.D->Prop:=λ_=>True
def table.F:table.D->table.Y:=λ_=>zQ
def table.G:fD:=gr (P:=Tryz.prog) []
def table.an:fR:= {}
def table.A:= @dm Tryz.prog table.G table.an 0 Tryz.f174 _ table.st
abbrev table.Ok:=dn @table.A table.az table.add table.F table.out
theorem table.eq{R:Type}(k:aX->Option R):table.A () k=
 k (table.out [(1116352408:Int),(1899447441:Int),(3049323471:Int),(3921009573:Int),(961987163:Int),(1508970993:Int),(2453635748:Int),(2870763221:Int),(3624381080:Int),(310598401:Int),(607225278:Int),(1426881987:Int),(1925078388:Int),(2162078206:Int),(2614888103:Int),(3248222580:Int),(3835390401:Int),(4022224774:Int),(264347078:Int),(604807628:Int),(770255983:Int),(1249150122:Int),(1555081692:Int),(1996064986:Int),(2554220882:Int),(2821834349:Int),(2952996808:Int),(3210313671:Int),(3336571891:Int),(3584528711:Int),(113926993:Int),(338241895:Int),(666307205:Int),(773529912:Int),(1294757372:Int),(1396182291:Int),(1695183700:Int),(1986661051:Int),(2177026350:Int),(2456956037:Int),(2730485921:Int),(2820302411:Int),(3259730800:Int),(3345764771:Int),(3516065817:Int),(3600352804:Int),(4094571909:Int),(275423344:Int),(430227734:Int),(506948616:Int),(659060556:Int),(883997877:Int),(958139571:Int),(1322822218:Int),(1537002063:Int),(1747873779:Int),(1955562222:Int),(2024104815:Int),(2227730452:Int),(2361852424:Int),(2428436474:Int),(2756734187:Int),(3204031479:Int),(3329325298:Int)]):=by kernel_rfl
theorem table.ok:table.Ok:=by
 intro d _
 rw[table.eq]
 rfl
def table.E:=Entry.dp [] table.st table.az table.add table.F table.out
def table.call:table.D->Option table.X:=bX table.E table.st
theorem table.run:b8 table.call table.az table.add table.F:=dv (du [] λ_=>by kernel_rfl)
def table.sg:SG Tryz.prog:=⟨174,aP,table.E,.fn 0 (by kernel_rfl) table.ok trivial⟩
abbrev first.D:=Unit
def first.st:first.D->SA:=λ_=>([],[])
abbrev first.Y:=(List Int)
abbrev first.X:=(List Int)
def first.out:first.X->aX:=λx=>⟨.d (.arr 8 (.int .u32)) x,[],[]⟩
def first.add:first.D->first.Y->first.X:=λ_ y=>y
def first.az:first.D->Prop:=λ_=>True
def first.F:first.D->first.Y:=λ_=>po.l
def first.G:fD:=gr (P:=Tryz.prog) []
def first.an:fR:= {}
def first.A:= @dm Tryz.prog first.G first.an 0 Tryz.f147 _ first.st
abbrev first.Ok:=dn @first.A first.az first.add first.F first.out
theorem first.eq{R:Type}(k:aX->Option R):first.A () k=
 k (first.out [(1779033703:Int),(3144134277:Int),(1013904242:Int),(2773480762:Int),(1359893119:Int),(2600822924:Int),(528734635:Int),(1541459225:Int)]):=by kernel_rfl
theorem first.ok:first.Ok:=by
 intro d _
 rw[first.eq]
 rfl
def first.E:=Entry.dp [] first.st first.az first.add first.F first.out
def first.call:first.D->Option first.X:=bX first.E first.st
theorem first.run:b8 first.call first.az first.add first.F:=dv (du [] λ_=>by kernel_rfl)
def first.sg:SG Tryz.prog:=⟨147,aP,first.E,.fn 0 (by kernel_rfl) first.ok trivial⟩
abbrev schedule.L0.D:=Bs×Int×(List Int)
def schedule.L0.st:schedule.L0.D->AS:=λ(ow,t8,n2)=>⟨([.d tB ow,.undef,.ptr (.new 2 0) 0 [] 0]++bG 5 ([.d ti t8]++bG 52 [])),[],([[],[],[.obj 0 false (.d (.arr 64 (.int .u32)) n2)]]++dh 58 [])⟩
abbrev schedule.L0.Y0:=(List Int)
abbrev schedule.L0.X0:=(List Int)
def schedule.L0.bY:schedule.L0.X0->Exit×AS:=λx=>(.exit 0,⟨([.undef,.undef,.ptr (.new 2 0) 0 [] 0]++bG 58 []),[],([[],[],[.obj 0 false (.d (.arr 64 (.int .u32)) x)]]++dh 58 [])⟩)
abbrev schedule.L0.X:=schedule.L0.X0
abbrev schedule.L0.Y:=schedule.L0.Y0
def schedule.L0.out:schedule.L0.X->Out (Exit×AS):=λx=> .ok (schedule.L0.bY x)
def schedule.L0.add:schedule.L0.D->schedule.L0.Y->schedule.L0.X:=λ(ow,t8,n2) y=>y
abbrev schedule.D:=Bs
def schedule.st:schedule.D->SA:=λb=>([.d tB b],[])
abbrev schedule.Y:=(List Int)
abbrev schedule.X:=(List Int)
def schedule.out:schedule.X->aX:=λx=>⟨.d (.arr 64 (.int .u32)) x,[],[]⟩
def schedule.add:schedule.D->schedule.Y->schedule.X:=λb y=>y
def wl(l:List W):List Int:=l.map vw
def vA(l:List W):List Int:=wl l++List.replicate (64 - l.length) 0
def u6(b:List Int)(k:Nat):List W:=if k<=16 then(words b).take k else OD (words b) (k - 16)
def schedule.L0.az:schedule.L0.D->Prop:=λ(b,t8,n2)=>64<=b.length/\∃k:Nat,k<=64/\t8=k/\n2=vA (u6 b k)
def schedule.L0.F:schedule.L0.D->schedule.L0.Y:=λ(b,t8,n2)=>wl (sched b)
def schedule.az:schedule.D->Prop:=λb=>64<=b.length
def schedule.F:schedule.D->schedule.Y:=λb=>wl (sched b)
def schedule.G:fD:=gr (P:=Tryz.prog) [binary.sg,eC.sg]
def schedule.L0.E:=cU.dp schedule.L0.st schedule.L0.az schedule.L0.add schedule.L0.F schedule.L0.out
def schedule.L0.call:schedule.L0.D->Option schedule.L0.X:=eI schedule.L0.E schedule.L0.st
def schedule.an:fR:= {loops:=om [(2,{bO:=[0,2,8],sites:=[2]})],outs:=oh [(2,{bO:=[2],sites:=[2]},{bO:=[2]})],jo:=pb [(2,schedule.L0.E)]}
def schedule.A:= @dm Tryz.prog schedule.G schedule.an 0 Tryz.f173 _ schedule.st
abbrev schedule.Ok:=dn @schedule.A schedule.az schedule.add schedule.F schedule.out
def schedule.L0.R:= @dr Tryz.prog schedule.G schedule.an 0 Tryz.f173 0 _ schedule.L0.st
abbrev schedule.L0.Ok:=gz Tryz.prog schedule.G schedule.an 0 Tryz.f173 0 schedule.L0.st schedule.L0.az schedule.L0.add schedule.L0.F schedule.L0.out
theorem schedule.L0.run:b8 schedule.L0.call schedule.L0.az schedule.L0.add schedule.L0.F:=gR (gJ [.d tB,.d ti,.d (.slice (.int .u32))] λ_=>by kernel_rfl)
theorem schedule.L0.aI:jl @schedule.L0.R schedule.L0.st schedule.L0.az schedule.L0.add schedule.L0.F schedule.L0.bY schedule.L0.Ok:=js
theorem schedule.L0.step{R:Type}(ow:Bs)(t8:Int)(n2:(List Int))(kn:AS->Option R)(kx:Exit->AS->Option R):schedule.L0.R (ow,t8,n2) kn kx=
  aJ ((jM t8 (64:Int))) (
   aJ ((jM t8 (16:Int))) (
    aJ (inc (gY .i64 (4:Int) t8) (((List.length ow):Nat):Int)) (
    ah (binary.call (cut ow (Int.toNat (gY .i64 (4:Int) t8)) ((List.length ow) - (Int.toNat (gY .i64 (4:Int) t8))))) λx1=>
    aJ (fB t8 (64:Int)) (
    aJ (decide ((Int.toNat t8) < (List.length n2))) (
    aJ (decide ((((Int.toNat t8)*1)+0)=(0+((Int.toNat t8)*1)))) (
    aJ (decide ((Int.toNat t8) < (List.length n2))) (
    kn (schedule.L0.st (ow,(bV .i64 t8 (1:Int)),(List.set n2 (Int.toNat t8) x1)))) none) none) none) none) none) (
    aJ (fB (cY .i64 t8 (15:Int)) (64:Int)) (
    aJ (decide ((Int.toNat (cY .i64 t8 (15:Int))) < (List.length n2))) (
    aJ (decide ((((Int.toNat (cY .i64 t8 (15:Int)))*1)+0)=(0+((Int.toNat (cY .i64 t8 (15:Int)))*1)))) (
    aJ (fB (cY .i64 t8 (2:Int)) (64:Int)) (
    aJ (decide ((Int.toNat (cY .i64 t8 (2:Int))) < (List.length n2))) (
    aJ (decide ((((Int.toNat (cY .i64 t8 (2:Int)))*1)+0)=(0+((Int.toNat (cY .i64 t8 (2:Int)))*1)))) (
    ah (eC.call ((nth (.int .u32) n2 (Int.toNat (cY .i64 t8 (15:Int)))),(-7:Int))) λx2=>
    ah (eC.call ((nth (.int .u32) n2 (Int.toNat (cY .i64 t8 (15:Int)))),(-18:Int))) λx3=>
    ah (eC.call ((nth (.int .u32) n2 (Int.toNat (cY .i64 t8 (2:Int)))),(-17:Int))) λx4=>
    ah (eC.call ((nth (.int .u32) n2 (Int.toNat (cY .i64 t8 (2:Int)))),(-19:Int))) λx5=>
    aJ (fB (cY .i64 t8 (16:Int)) (64:Int)) (
    aJ (decide ((Int.toNat (cY .i64 t8 (16:Int))) < (List.length n2))) (
    aJ (decide ((((Int.toNat (cY .i64 t8 (16:Int)))*1)+0)=(0+((Int.toNat (cY .i64 t8 (16:Int)))*1)))) (
    aJ (fB (cY .i64 t8 (7:Int)) (64:Int)) (
    aJ (decide ((Int.toNat (cY .i64 t8 (7:Int))) < (List.length n2))) (
    aJ (decide ((((Int.toNat (cY .i64 t8 (7:Int)))*1)+0)=(0+((Int.toNat (cY .i64 t8 (7:Int)))*1)))) (
    aJ (fB t8 (64:Int)) (
    aJ (decide ((Int.toNat t8) < (List.length n2))) (
    aJ (decide ((((Int.toNat t8)*1)+0)=(0+((Int.toNat t8)*1)))) (
    aJ (decide ((Int.toNat t8) < (List.length n2))) (
    kn (schedule.L0.st (ow,(bV .i64 t8 (1:Int)),(List.set n2 (Int.toNat t8) (bV .u32 (bV .u32 (bV .u32 (nth (.int .u32) n2 (Int.toNat (cY .i64 t8 (16:Int)))) (dD .xor .u32 (dD .xor .u32 x2 x3) (cX .u32 (nth (.int .u32) n2 (Int.toNat (cY .i64 t8 (15:Int)))) (3:Int)))) (nth (.int .u32) n2 (Int.toNat (cY .i64 t8 (7:Int))))) (dD .xor .u32 (dD .xor .u32 x4 x5) (cX .u32 (nth (.int .u32) n2 (Int.toNat (cY .i64 t8 (2:Int)))) (10:Int)))))))) none) none) none) none) none) none) none) none) none) none) none) none) none) none) none) none)) (
   kx (schedule.L0.bY n2).1 (schedule.L0.bY n2).2):=by kernel_rfl
theorem schedule.eq{R:Type}(b:Bs)(k:aX->Option R):schedule.A b k=
 ah (schedule.L0.call (b,(0:Int),(List.replicate 64 (0:Int)))) λx6=>
 k (schedule.out x6):=by kernel_rfl
theorem H2(b:List Int)(k:Nat)(h:k<=64):(u6 b k).length=k:=by
 unfold u6
 split
 ·simp[iu];omega
 ·rw[sU,iu];omega
theorem PR(b:List Int):u6 b 64=sched b:=rfl
theorem LU(b:List Int)(k:Nat)(h:k < 16):u6 b (k+1)=u6 b k++ [be b k]:=by
 unfold u6
 rw[if_pos (by omega),if_pos (by omega),List.take_succ_eq_append_getElem (by rw[iu];exact h)]
 simp[words]
theorem Ou(b:List Int)(k:Nat)(h:16<=k):u6 b (k+1)=ext (u6 b k):=by
 unfold u6
 rw[if_neg (by omega)]
 by_cases Re:k=16
 ·subst Re
  rw[if_pos (by omega),cj (by rw[iu];omega)]
  rfl
 ·rw[if_neg (by omega),show k+1 - 16=(k - 16)+1 by omega]
  rfl
theorem E2(l:List W)(h:l.length<=64):(vA l).length=64:=by simp[vA,wl];omega
theorem wE(l:List W)(i:Nat)(h:i < l.length):nth (.int .u32) (vA l) i=vw (l.getD i 0):=by
 unfold nth vA wl
 rw[aY,kk (by simpa using h)]
 simp[h]
theorem D8(l:List W)(w:W)(h:l.length < 64):(vA l).set l.length (vw w)=vA (l++ [w]):=by
 unfold vA wl
 rw[List.set_append_right _ _ (by simp)]
 simp only[cM,Nat.sub_self,o7,aj,aO,bM]
 rw[show 64 - l.length=(64 - (l.length+(0+1)))+1 by omega,List.replicate_succ,List.set_cons_zero]
 simp
theorem Il(l:List W)(h:l.length=64):vA l=wl l:=by simp[vA,h]
theorem QN(b:List Int)(k:Nat)(h:4*k+4<=b.length):SV ((cut b (4*k) (b.length - 4*k)).getD 0 0) ((cut b (4*k) (b.length - 4*k)).getD 1 0) ((cut b (4*k) (b.length - 4*k)).getD 2 0) ((cut b (4*k) (b.length - 4*k)).getD 3 0)=be b k:=by
 have e:∀j,j < 4->(cut b (4*k) (b.length - 4*k)).getD j 0=b.getD (4*k+j) 0:=λj hj=>by
  unfold cut
  rw[aY,aY,List.getElem?_take_of_lt (by omega),kE]
 unfold be
 rw[e 0 (by omega),e 1 (by omega),e 2 (by omega),e 3 (by omega),dR]
theorem schedule.L0.ok:schedule.L0.Ok:=by
 refine schedule.L0.aI (λ(b,t8,n2)=>64 - t8.toNat) ?_
 rintro⟨b,t8,n2⟩ ⟨hb,k,hk,rfl,rfl⟩
 have SH:=H2 b k hk
 have O5:=E2 (u6 b k) (by omega)
 by_cases h:k < 64
 ·left
  refine⟨(b,((k+1:Nat):Int),vA (u6 b (k+1))),⟨hb,k+1,by omega,rfl,rfl⟩,by simp;omega,rfl,λkn kx=> ?_⟩
  have e1:bV .i64 (k:Int) 1=((k+1:Nat):Int):=by rw[ff (by omega) (by omega)];omega
  have e2:Int.toNat (k:Int)=k:=by omega
  rw[schedule.L0.step,bI (by omega)]
  simp only[ae,e1,e2,O5,kc,bl,dR,decide_true]
  by_cases Re:k < 16
  ·have e3:gY .i64 4 (k:Int)=((4*k:Nat):Int):=by rw[na (by omega) (by omega)];omega
   have e4:Int.toNat ((4*k:Nat):Int)=4*k:=by omega
   rw[bI (by omega),e3,pZ (by omega) (by omega),e4,bF (by omega) (by omega),aM h]
   have hp:binary.az (cut b (4*k) (b.length - 4*k)):=by
    show 4<=_
    rw[uD (by omega)];omega
   simp only[ae,binary.run hp,ab]
   have e5:binary.add (cut b (4*k) (b.length - 4*k)) (binary.F (cut b (4*k) (b.length - 4*k)))=vw (be b k):=by
    show vw (SV _ _ _ _)=_
    rw[QN b k (by omega)]
   have e6:=D8 (u6 b k) (be b k) (by omega)
   rw[SH]at e6
   rw[e5,e6,LU b k Re]
  ·have a15:Int.toNat (cY .i64 (k:Int) 15)=k - 15:=by rw[gQ (by omega) (by omega)];omega
   have a2:Int.toNat (cY .i64 (k:Int) 2)=k - 2:=by rw[gQ (by omega) (by omega)];omega
   have a16:Int.toNat (cY .i64 (k:Int) 16)=k - 16:=by rw[gQ (by omega) (by omega)];omega
   have a7:Int.toNat (cY .i64 (k:Int) 7)=k - 7:=by rw[gQ (by omega) (by omega)];omega
   have i15:fB (cY .i64 (k:Int) 15) 64=true:=bF (by rw[gQ (by omega) (by omega)];omega) (by rw[gQ (by omega) (by omega)];omega)
   have i2:fB (cY .i64 (k:Int) 2) 64=true:=bF (by rw[gQ (by omega) (by omega)];omega) (by rw[gQ (by omega) (by omega)];omega)
   have i16:fB (cY .i64 (k:Int) 16) 64=true:=bF (by rw[gQ (by omega) (by omega)];omega) (by rw[gQ (by omega) (by omega)];omega)
   have i7:fB (cY .i64 (k:Int) 7) 64=true:=bF (by rw[gQ (by omega) (by omega)];omega) (by rw[gQ (by omega) (by omega)];omega)
   have i0:fB (k:Int) 64=true:=bF (by omega) (by omega)
   have d15:decide (k - 15 < 64)=true:=aM (by omega)
   have d2:decide (k - 2 < 64)=true:=aM (by omega)
   have d16:decide (k - 16 < 64)=true:=aM (by omega)
   have d7:decide (k - 7 < 64)=true:=aM (by omega)
   have d0:decide (k < 64)=true:=aM h
   rw[bp (by omega)]
   simp only[ae,ai,a15,a2,a16,a7,i15,i2,i16,i7,i0,d15,d2,d16,d7,d0,wE (u6 b k) (k - 15) (by omega),wE (u6 b k) (k - 2) (by omega),wE (u6 b k) (k - 16) (by omega),wE (u6 b k) (k - 7) (by omega),eC.at,ab,oe,vV,ua]
   have e6:=D8 (u6 b k) (Qv (u6 b k) k) (by omega)
   rw[SH]at e6
   rw[Ou b k (by omega),ext,SH,<-e6]
   rfl
 ·right
  obtain rfl:k=64:=by omega
  intro R kn kx
  rw[schedule.L0.step,bp (by omega),Il _ SH,PR]
  simp only[ai,schedule.L0.add,schedule.L0.F]
theorem schedule.ok:schedule.Ok:=by
 intro b hb
 have hp:schedule.L0.az (b,0,List.replicate 64 0):=⟨hb,0,by omega,rfl,rfl⟩
 rw[schedule.eq,schedule.L0.run hp]
 simp only[ab,schedule.L0.add,schedule.L0.F,schedule.add,schedule.F]
def schedule.E:=Entry.dp [some tB] schedule.st schedule.az schedule.add schedule.F schedule.out
def schedule.call:schedule.D->Option schedule.X:=bX schedule.E schedule.st
theorem schedule.run:b8 schedule.call schedule.az schedule.add schedule.F:=dv (du [.d tB] λ_=>by kernel_rfl)
def schedule.sg:SG Tryz.prog:=⟨173,aP,schedule.E,.fn 1 (by kernel_rfl) schedule.ok (And.intro (.dp schedule.L0.ok (by kernel_rfl)) trivial)⟩
abbrev mix.L0.D:=(List Int)×Int×(List Int)×(List Int)×(List Int)×(List Int)
def mix.L0.st:mix.L0.D->AS:=λ(sW,t18,n4,n5,n6,n7)=>⟨([.undef,.undef,.gE (.arr 8 (.int .u32)) sW,.undef,.ptr (.new 4 0) 0 [] 0,.ptr (.new 5 0) 0 [] 0,.ptr (.new 6 0) 0 [] 0,.ptr (.new 7 0) 0 [] 0]++bG 10 ([.d ti t18]++bG 98 [])),[],(dh 4 ([[.obj 0 false (.d (.arr 8 (.int .u32)) n4)],[.obj 0 false (.d (.arr 64 (.int .u32)) n5)],[.obj 0 false (.d (.arr 64 (.int .u32)) n6)],[.obj 0 false (.d (.arr 8 (.int .u32)) n7)]]++dh 109 []))⟩
abbrev mix.L0.Y0:=(List Int)
abbrev mix.L0.X0:=((List Int)×(List Int))×((List Int))
def mix.L0.bY:mix.L0.X0->Exit×AS:=λx=>(.exit 0,⟨([.undef,.undef,.gE (.arr 8 (.int .u32)) x.1.1,.undef,.ptr (.new 4 0) 0 [] 0,.undef,.undef,.ptr (.new 7 0) 0 [] 0]++bG 109 []),[],(dh 4 ([[.obj 0 false (.d (.arr 8 (.int .u32)) x.1.2)],[],[],[.obj 0 false (.d (.arr 8 (.int .u32)) x.2)]]++dh 109 []))⟩)
abbrev mix.L0.X:=mix.L0.X0
abbrev mix.L0.Y:=mix.L0.Y0
def mix.L0.out:mix.L0.X->Out (Exit×AS):=λx=> .ok (mix.L0.bY x)
def mix.L0.add:mix.L0.D->mix.L0.Y->mix.L0.X:=λ(sW,t18,n4,n5,n6,n7) y=>((sW,n4),y)
abbrev mix.L1.D:=(List Int)×Int×(List Int)×(List Int)
def mix.L1.st:mix.L1.D->AS:=λ(JR,t104,nB,CL)=>⟨([.undef,.undef,.gE (.arr 8 (.int .u32)) JR,.undef,.ptr (.new 4 0) 0 [] 0,.undef,.undef,.ptr (.new 7 0) 0 [] 0]++bG 96 ([.d ti t104]++bG 12 [])),[],(dh 4 ([[.obj 0 false (.d (.arr 8 (.int .u32)) nB)],[],[],[.obj 0 false (.d (.arr 8 (.int .u32)) CL)]]++dh 109 []))⟩
abbrev mix.L1.Y0:=(List Int)
abbrev mix.L1.X0:=((List Int))×((List Int))
def mix.L1.bY:mix.L1.X0->Exit×AS:=λx=>(.exit 2,⟨(bG 4 ([.ptr (.new 4 0) 0 [] 0,.undef,.undef,.ptr (.new 7 0) 0 [] 0]++bG 109 [])),[],(dh 4 ([[.obj 0 false (.d (.arr 8 (.int .u32)) x.1)],[],[],[.obj 0 false (.d (.arr 8 (.int .u32)) x.2)]]++dh 109 []))⟩)
abbrev mix.L1.X:=mix.L1.X0
abbrev mix.L1.Y:=mix.L1.Y0
def mix.L1.out:mix.L1.X->Out (Exit×AS):=λx=> .ok (mix.L1.bY x)
def mix.L1.add:mix.L1.D->mix.L1.Y->mix.L1.X:=λ(JR,t104,nB,CL) y=>(nB,y)
abbrev mix.D:=(List Int)×Bs
def mix.st:mix.D->SA:=λ(h,b)=>([.d (.arr 8 (.int .u32)) h,.d tB b],[])
abbrev mix.Y:=(List Int)
abbrev mix.X:=(List Int)
def mix.out:mix.X->aX:=λx=>⟨.d (.arr 8 (.int .u32)) x,[],[]⟩
def mix.add:mix.D->mix.Y->mix.X:=λ(h,b) y=>y
def FW(l:List Int):St:=⟨BitVec.ofInt 32 (l.getD 0 0),BitVec.ofInt 32 (l.getD 1 0),BitVec.ofInt 32 (l.getD 2 0),BitVec.ofInt 32 (l.getD 3 0),BitVec.ofInt 32 (l.getD 4 0),BitVec.ofInt 32 (l.getD 5 0),BitVec.ofInt 32 (l.getD 6 0),BitVec.ofInt 32 (l.getD 7 0)⟩
theorem ns(s:St):FW s.l=s:=by
 obtain⟨a,b,c,d,e,f,g,h⟩:=s
 simp[FW,St.l,qg]
def Ol(l:List Int):List W:=l.map (BitVec.ofInt 32)
theorem u5(l:List W):Ol (wl l)=l:=by
 unfold Ol wl
 rw[List.map_map]
 have:(BitVec.ofInt 32∘vw)=(id:W->W):=by funext w;exact qg w
 rw[this,List.map_id]
def mix.L0.az:mix.L0.D->Prop:=λ(h,t,n4,n5,n6,n7)=>∃(s:St) (ws:List W) (k:Nat),h=s.l/\n5=wl ws/\ws.length=64/\k<=64/\t=k/\n6=zQ/\n7=(rounds ws s k).l
def mix.L0.F:mix.L0.D->mix.L0.Y:=λ(h,t,n4,n5,n6,n7)=>(rounds (Ol n5) (FW h) 64).l
def mix.L1.az:mix.L1.D->Prop:=λ(h,t,n4,n7)=>n7.length=8/\∃k:Nat,k<=8/\t=k
def mix.L1.F:mix.L1.D->mix.L1.Y:=λ(h,t,n4,n7)=>from_ (λi x=>bV .u32 x (nth (.int .u32) h i)) t.toNat n7
def mix.az:mix.D->Prop:=λ(h,b)=>(∃s:St,h=s.l)/\64<=b.length
def mix.F:mix.D->mix.Y:=λ(h,b)=>(zV (FW h) b).l
def mix.G:fD:=gr (P:=Tryz.prog) [schedule.sg,table.sg,eC.sg]
def mix.L0.E:=cU.dp mix.L0.st mix.L0.az mix.L0.add mix.L0.F mix.L0.out
def mix.L0.call:mix.L0.D->Option mix.L0.X:=eI mix.L0.E mix.L0.st
def mix.L1.E:=cU.dp mix.L1.st mix.L1.az mix.L1.add mix.L1.F mix.L1.out
def mix.L1.call:mix.L1.D->Option mix.L1.X:=eI mix.L1.E mix.L1.st
def mix.an:fR:= {loops:=om [(4,{bO:=[2,4,5,6,7,18],sites:=[4,5,6,7]}),(13,{bO:=[2,4,7,104],sites:=[4,7]})],outs:=oh [(4,{bO:=[2,4,7],sites:=[4,7]},{bO:=[4]}),(13,{bO:=[4,7],sites:=[4,7]},{bO:=[4]})],jo:=pb [(4,mix.L0.E),(13,mix.L1.E)]}
def mix.A:= @dm Tryz.prog mix.G mix.an 0 Tryz.f148 _ mix.st
abbrev mix.Ok:=dn @mix.A mix.az mix.add mix.F mix.out
def mix.L0.R:= @dr Tryz.prog mix.G mix.an 0 Tryz.f148 0 _ mix.L0.st
abbrev mix.L0.Ok:=gz Tryz.prog mix.G mix.an 0 Tryz.f148 0 mix.L0.st mix.L0.az mix.L0.add mix.L0.F mix.L0.out
def mix.L1.R:= @dr Tryz.prog mix.G mix.an 0 Tryz.f148 1 _ mix.L1.st
abbrev mix.L1.Ok:=gz Tryz.prog mix.G mix.an 0 Tryz.f148 1 mix.L1.st mix.L1.az mix.L1.add mix.L1.F mix.L1.out
theorem mix.L0.run:b8 mix.L0.call mix.L0.az mix.L0.add mix.L0.F:=gR (gJ [.d (.arr 8 (.int .u32)),.d ti,.d (.slice (.int .u32)),.d (.slice (.int .u32)),.d (.slice (.int .u32)),.d (.slice (.int .u32))] λ_=>by kernel_rfl)
theorem mix.L0.aI:jl @mix.L0.R mix.L0.st mix.L0.az mix.L0.add mix.L0.F mix.L0.bY mix.L0.Ok:=js
theorem mix.L0.step{R:Type}(sW:(List Int))(t18:Int)(n4:(List Int))(n5:(List Int))(n6:(List Int))(n7:(List Int))(kn:AS->Option R)(kx:Exit->AS->Option R):mix.L0.R (sW,t18,n4,n5,n6,n7) kn kx=
  aJ ((jM t18 (64:Int))) (
   aJ (decide (4 < (List.length n7))) (
   ah (eC.call ((nth (.int .u32) n7 4),(-6:Int))) λx1=>
   aJ (decide (4 < (List.length n7))) (
   ah (eC.call ((nth (.int .u32) n7 4),(-11:Int))) λx2=>
   aJ (decide (4 < (List.length n7))) (
   ah (eC.call ((nth (.int .u32) n7 4),(-25:Int))) λx3=>
   aJ (decide (7 < (List.length n7))) (
   aJ (decide (6 < (List.length n7))) (
   aJ (decide (4 < (List.length n7))) (
   aJ (decide (5 < (List.length n7))) (
   aJ (decide (6 < (List.length n7))) (
   aJ (fB t18 (64:Int)) (
   aJ (decide ((Int.toNat t18) < (List.length n6))) (
   aJ (decide ((((Int.toNat t18)*1)+0)=(0+((Int.toNat t18)*1)))) (
   aJ (fB t18 (64:Int)) (
   aJ (decide ((Int.toNat t18) < (List.length n5))) (
   aJ (decide ((((Int.toNat t18)*1)+0)=(0+((Int.toNat t18)*1)))) (
   aJ (decide (0 < (List.length n7))) (
   ah (eC.call ((nth (.int .u32) n7 0),(-2:Int))) λx4=>
   aJ (decide (0 < (List.length n7))) (
   ah (eC.call ((nth (.int .u32) n7 0),(-13:Int))) λx5=>
   aJ (decide (0 < (List.length n7))) (
   ah (eC.call ((nth (.int .u32) n7 0),(-22:Int))) λx6=>
   aJ (decide (0 < (List.length n7))) (
   aJ (decide (1 < (List.length n7))) (
   aJ (decide (2 < (List.length n7))) (
   aJ (decide (0 < (List.length n7))) (
   aJ (decide (1 < (List.length n7))) (
   aJ (decide (0 < (List.length n7))) (
   aJ (decide (1 < (List.length n7))) (
   aJ (decide (2 < (List.length n7))) (
   aJ (decide (3 < (List.length n7))) (
   aJ (decide (4 < (List.length n7))) (
   aJ (decide (5 < (List.length n7))) (
   aJ (decide (6 < (List.length n7))) (
   kn (mix.L0.st (sW,(bV .i64 t18 (1:Int)),n4,n5,n6,[(bV .u32 (bV .u32 (bV .u32 (bV .u32 (bV .u32 (bV .u32 (nth (.int .u32) n7 7) (dD .xor .u32 (dD .xor .u32 x1 x2) x3)) (dD .xor .u32 (nth (.int .u32) n7 6) (dD .and .u32 (nth (.int .u32) n7 4) (dD .xor .u32 (nth (.int .u32) n7 5) (nth (.int .u32) n7 6))))) (nth (.int .u32) n6 (Int.toNat t18))) (nth (.int .u32) n5 (Int.toNat t18))) (dD .xor .u32 (dD .xor .u32 x4 x5) x6)) (dD .or .u32 (dD .and .u32 (nth (.int .u32) n7 0) (nth (.int .u32) n7 1)) (dD .and .u32 (nth (.int .u32) n7 2) (dD .or .u32 (nth (.int .u32) n7 0) (nth (.int .u32) n7 1))))),(nth (.int .u32) n7 0),(nth (.int .u32) n7 1),(nth (.int .u32) n7 2),(bV .u32 (nth (.int .u32) n7 3) (bV .u32 (bV .u32 (bV .u32 (bV .u32 (nth (.int .u32) n7 7) (dD .xor .u32 (dD .xor .u32 x1 x2) x3)) (dD .xor .u32 (nth (.int .u32) n7 6) (dD .and .u32 (nth (.int .u32) n7 4) (dD .xor .u32 (nth (.int .u32) n7 5) (nth (.int .u32) n7 6))))) (nth (.int .u32) n6 (Int.toNat t18))) (nth (.int .u32) n5 (Int.toNat t18)))),(nth (.int .u32) n7 4),(nth (.int .u32) n7 5),(nth (.int .u32) n7 6)]))) none) none) none) none) none) none) none) none) none) none) none) none) none) none) none) none) none) none) none) none) none) none) none) none) none) none) none) none) none) (
   kx (mix.L0.bY ((sW,n4),n7)).1 (mix.L0.bY ((sW,n4),n7)).2):=by kernel_rfl
theorem mix.L1.run:b8 mix.L1.call mix.L1.az mix.L1.add mix.L1.F:=gR (gJ [.d (.arr 8 (.int .u32)),.d ti,.d (.slice (.int .u32)),.d (.slice (.int .u32))] λ_=>by kernel_rfl)
theorem mix.L1.aI:jl @mix.L1.R mix.L1.st mix.L1.az mix.L1.add mix.L1.F mix.L1.bY mix.L1.Ok:=js
theorem mix.L1.step{R:Type}(JR:(List Int))(t104:Int)(nB:(List Int))(CL:(List Int))(kn:AS->Option R)(kx:Exit->AS->Option R):mix.L1.R (JR,t104,nB,CL) kn kx=
  aJ ((jM t104 (8:Int))) (
   aJ (fB t104 (8:Int)) (
   aJ (decide ((Int.toNat t104) < (List.length CL))) (
   aJ (decide ((((Int.toNat t104)*1)+0)=(0+((Int.toNat t104)*1)))) (
   aJ (fB t104 (8:Int)) (
   aJ (fB t104 (8:Int)) (
   aJ (decide ((Int.toNat t104) < (List.length CL))) (
   aJ (decide ((((Int.toNat t104)*1)+0)=(0+((Int.toNat t104)*1)))) (
   aJ (decide ((Int.toNat t104) < (List.length CL))) (
   kn (mix.L1.st (JR,(bV .i64 t104 (1:Int)),nB,(List.set CL (Int.toNat t104) (bV .u32 (nth (.int .u32) CL (Int.toNat t104)) (nth (.int .u32) JR (Int.toNat t104))))))) none) none) none) none) none) none) none) none) (
   kx (mix.L1.bY (nB,CL)).1 (mix.L1.bY (nB,CL)).2):=by kernel_rfl
theorem mix.eq{R:Type}(h:(List Int))(b:Bs)(k:aX->Option R):mix.A (h,b) k=
 ah (schedule.call b) λx1=>
 ah (table.call ()) λx2=>
 ah (mix.L0.call (h,(0:Int),(List.replicate 8 (0:Int)),x1,x2,h)) λx9=>
 ah (mix.L1.call (x9.1.1,(0:Int),x9.1.2,x9.2)) λBi=>
 k (mix.out Bi.2):=by kernel_rfl
theorem St.GV(s:St):s.l.length=8:=rfl
theorem Ay:zQ.length=64:=rfl
theorem GU(k:Nat)(h:k < 64):nth (.int .u32) zQ k=vw (kw k):=by
 have hh:∀k:Fin 64,nth (.int .u32) zQ k.val=vw (kw k.val):=by decide+kernel
 exact hh ⟨k,h⟩
theorem An(ws:List W)(k:Nat)(h:k < ws.length):nth (.int .u32) (wl ws) k=vw (ws.getD k 0):=by
 unfold nth wl
 simp[h]
theorem Yz(w:W):rl w ((-6:Int)%32).toNat=qH w 6:=rfl
theorem Wm(w:W):rl w ((-11:Int)%32).toNat=qH w 11:=rfl
theorem Wp(w:W):rl w ((-25:Int)%32).toNat=qH w 25:=rfl
theorem Yy(w:W):rl w ((-2:Int)%32).toNat=qH w 2:=rfl
theorem Wn(w:W):rl w ((-13:Int)%32).toNat=qH w 13:=rfl
theorem Wo(w:W):rl w ((-22:Int)%32).toNat=qH w 22:=rfl
theorem n0(s:St):nth (.int .u32) s.l 0=vw s.a:=rfl
theorem n1(s:St):nth (.int .u32) s.l 1=vw s.b:=rfl
theorem n2(s:St):nth (.int .u32) s.l 2=vw s.c:=rfl
theorem n3(s:St):nth (.int .u32) s.l 3=vw s.d:=rfl
theorem n4(s:St):nth (.int .u32) s.l 4=vw s.e:=rfl
theorem n5(s:St):nth (.int .u32) s.l 5=vw s.f:=rfl
theorem n6(s:St):nth (.int .u32) s.l 6=vw s.g:=rfl
theorem n7(s:St):nth (.int .u32) s.l 7=vw s.h:=rfl
theorem mix.L0.ok:mix.L0.Ok:=by
 refine mix.L0.aI (λ(h,t,n4,n5,n6,n7)=>64 - t.toNat) ?_
 rintro⟨h,t,m4,m5,m6,m7⟩ ⟨s,ws,k,rfl,rfl,hw,hk,rfl,rfl,rfl⟩
 by_cases mw:k < 64
 ·left
  refine⟨(s.l,((k+1:Nat):Int),m4,wl ws,zQ,(rounds ws s (k+1)).l),⟨s,ws,k+1,rfl,rfl,hw,by omega,rfl,rfl,rfl⟩,by simp;omega,rfl,λkn kx=> ?_⟩
  have e1:bV .i64 (k:Int) 1=((k+1:Nat):Int):=by rw[ff (by omega) (by omega)];omega
  have e2:Int.toNat (k:Int)=k:=by omega
  have SH:(wl ws).length=64:=by simp[wl,hw]
  have d0:decide (k < 64)=true:=aM mw
  have i0:fB (k:Int) 64=true:=bF (by omega) (by omega)
  rw[mix.L0.step,bI (by omega)]
  generalize hv:rounds ws s k=v
  simp only[e1,e2,kc,bl,dR,decide_true,ae,St.GV,Nat.reduceLT,Ay,SH,d0,i0,n0,n1,n2,n3,n4,n5,n6,n7,eC.at,ab,GU k mw,An ws k (by omega),oe,ua,Yz,Wm,Wp,Yy,Wn,Wo]
  show kn _=kn (mix.L0.st (s.l,((k+1:Nat):Int),m4,wl ws,zQ,(Wq (rounds ws s k) (kw k) (ws.getD k 0)).l))
  rw[hv]
  rfl
 ·right
  obtain rfl:k=64:=by omega
  intro R kn kx
  rw[mix.L0.step,bp (by omega)]
  simp only[ai,mix.L0.add,mix.L0.F,u5,ns]
theorem mix.L1.ok:mix.L1.Ok:=by
 refine mix.L1.aI (λ(h,t,n4,n7)=>8 - t.toNat) ?_
 rintro⟨h,t,m4,m7⟩ ⟨hl,k,hk,rfl⟩
 have hl:m7.length=8:=hl
 have e2:Int.toNat (k:Int)=k:=by omega
 have e3:Int.toNat ((k+1:Nat):Int)=k+1:=by omega
 by_cases mw:k < 8
 ·left
  have e1:bV .i64 (k:Int) 1=((k+1:Nat):Int):=by rw[ff (by omega) (by omega)];omega
  have hn:nth (.int .u32) m7 k=m7[k]:=dQ (t:= .int .u32) (by omega)
  refine⟨(h,((k+1:Nat):Int),m4,m7.set k (bV .u32 m7[k] (nth (.int .u32) h k))),⟨by simpa using hl,k+1,by omega,rfl⟩,by simp;omega,?_,λkn kx=> ?_⟩
  ·simp only[mix.L1.add,mix.L1.F,e2,e3]
   rw[wH (λi x=>bV .u32 x (nth (.int .u32) h i)) m7 k (by omega)]
  ·have d0:decide (k < 8)=true:=aM mw
   have i0:fB (k:Int) 8=true:=bF (by omega) (by omega)
   rw[mix.L1.step,bI (by omega)]
   simp only[e1,e2,kc,bl,dR,decide_true,ae,hl,d0,i0,hn]
 ·right
  obtain rfl:k=8:=by omega
  intro R kn kx
  rw[mix.L1.step,bp (by omega)]
  simp only[ai,mix.L1.add,mix.L1.F,e2]
  rw[yu _ _ _ (by omega)]
theorem mix.ok:mix.Ok:=by
 rintro⟨h,b⟩ ⟨⟨s,rfl⟩,hb⟩
 have hs:schedule.az b:=hb
 have JU:(sched b).length=64:=by unfold sched;rw[sU,iu]
 have hp:mix.L0.az (s.l,0,List.replicate 8 0,wl (sched b),zQ,s.l):=⟨s,sched b,0,rfl,rfl,JU,by omega,rfl,rfl,rfl⟩
 rw[mix.eq,schedule.run hs]
 simp only[ab,table.run (d:=()) trivial,schedule.add,schedule.F,table.add,table.F,mix.L0.run hp,mix.L0.add,mix.L0.F,u5,ns]
 have X3:mix.L1.az (s.l,0,List.replicate 8 0,(rounds (sched b) s 64).l):=⟨rfl,0,by omega,rfl⟩
 simp only[mix.L1.run X3,ab,mix.L1.add,mix.L1.F,mix.add,mix.F,ns]
 unfold zV
 generalize rounds (sched b) s 64=v
 obtain⟨a1,b1,c1,d1,f1,g1,h1,i1⟩:=v
 simp only[St.l,from_,List.mapIdx_cons,List.mapIdx_nil,bH,Nat.not_lt_zero,if_false,bl,Nat.reduceAdd]
 simp only[nth,mf,oB,ua]
def mix.E:=Entry.dp [some (.arr 8 (.int .u32)),some tB] mix.st mix.az mix.add mix.F mix.out
def mix.call:mix.D->Option mix.X:=bX mix.E mix.st
theorem mix.run:b8 mix.call mix.az mix.add mix.F:=dv (du [.d (.slice (.int .u32)),.d tB] λ_=>by kernel_rfl)
def mix.sg:SG Tryz.prog:=⟨148,aP,mix.E,.fn 2 (by kernel_rfl) mix.ok (And.intro (.dp mix.L0.ok (by kernel_rfl)) (And.intro (.dp mix.L1.ok (by kernel_rfl)) trivial))⟩
theorem pI(n:Int)(k:Int)(h0:0<=k)(h1:k<=64):fa .u8 (cX .i64 n k)=n / 2^k.toNat%256:=by
 rw[Cj,kP,cX]
 have e:min k.toNat IntKind.i64.bits=k.toNat:=by simp only[IntKind.bits];omega
 rw[e,lD _ (nU (Int.pow_pos (by omega)))]
 rfl
theorem uj{n:Nat}(h:n<=140737488355328):fq n 1=true:=gk (by omega) (by omega)
abbrev fc.D:=Bs
def fc.st:fc.D->SA:=λsv=>([.d tB sv],[])
abbrev fc.Y:=Nat×(List Int)
abbrev fc.X:=Nat×(List Int)
def fc.out:fc.X->aX:=λx=>⟨.di (.new 0 0) 0 [] 0 0 x.1,[],[.obj 0 false (.vec 5 tb x.2)]⟩
def fc.add:fc.D->fc.Y->fc.X:=λsv y=>y
def fc.az:fc.D->Prop:=λb=>b.length<=140737488355328
def fc.F:fc.D->fc.Y:=λb=>(b.length,b)
def fc.G:fD:=gr (P:=Tryz.prog) []
def fc.an:fR:= {cZ:=[5],nR:=[⟨2,[],5,135⟩]}
def fc.A:= @dm Tryz.prog fc.G fc.an 0 Tryz.f146 _ fc.st
abbrev fc.Ok:=dn @fc.A fc.az fc.add fc.F fc.out
theorem fc.eq{R:Type}(sv:Bs)(k:aX->Option R):fc.A sv k=
  aJ (decide (0 < (List.length sv))) (
   aJ (fq (0+(List.length sv)) 1) (
   k (fc.out ((0+(List.length sv)),((List.take 0 (List.replicate 0 (0:Int)))++sv)))) none) (
   nd (
    k (fc.out (0,([]:List Int)))) (
    aJ (fq (0+(List.length sv)) 1) (
    k (fc.out ((0+(List.length sv)),((List.take 0 (List.replicate 0 (0:Int)))++sv)))) none)):=by kernel_rfl
theorem fc.ok:fc.Ok:=by
 intro b hb
 have hr:fq b.length 1=true:=uj hb
 rw[fc.eq]
 have e0:(List.take 0 (List.replicate 0 0):List Int)=[]:=rfl
 simp only[bl,hr,ae,e0,bt,fc.add,fc.F]
 by_cases h:0 < b.length
 ·simp only[aM h,ae]
 ·have:b=[]:=dd (by omega)
  subst this
  simp only[bM,wR,cq (nf 0),ai]
def fc.E:=Entry.dp [some tB] fc.st fc.az fc.add fc.F fc.out
def fc.call:fc.D->Option fc.X:=bX fc.E fc.st
theorem fc.run:b8 fc.call fc.az fc.add fc.F:=dv (du [.d tB] λ_=>by kernel_rfl)
def fc.sg:SG Tryz.prog:=⟨146,aP,fc.E,.fn 0 (by kernel_rfl) fc.ok trivial⟩
abbrev ia.D:=Int
def ia.st:ia.D->SA:=λn=>([.eU,.d ti n],[])
abbrev ia.Y:=Nat×(List Int)
abbrev ia.X:=Nat×(List Int)
def ia.out:ia.X->aX:=λx=>⟨.di (.new 0 0) 0 [] 0 0 x.1,[],[.obj 0 false (.vec 5 tb x.2)]⟩
def ia.add:ia.D->ia.Y->ia.X:=λn y=>y
def ia.az:ia.D->Prop:=λ_=>True
def ia.F:ia.D->ia.Y:=λn=>(8,mn n)
def ia.G:fD:=gr (P:=Tryz.prog) []
def ia.an:fR:= {loops:=om [(2,{bO:=[0,1,5],sites:=[16]})],outs:=oh [(2,{bO:=[0],sites:=[16]},{bO:=[4],sites:=[16]})],nR:=[⟨4,[],16,135⟩]}
def ia.A:= @dm Tryz.prog ia.G ia.an 12 Tryz.f105 _ ia.st
abbrev ia.Ok:=dn @ia.A ia.az ia.add ia.F ia.out
theorem ia.eq{R:Type}(n:Int)(k:aX->Option R):ia.A n k=
 k (ia.out (8,[(fa .u8 (cX .i64 n (56:Int))),(fa .u8 (cX .i64 n (48:Int))),(fa .u8 (cX .i64 n (40:Int))),(fa .u8 (cX .i64 n (32:Int))),(fa .u8 (cX .i64 n (24:Int))),(fa .u8 (cX .i64 n (16:Int))),(fa .u8 (cX .i64 n (8:Int))),(fa .u8 (cX .i64 n (0:Int)))])):=by kernel_rfl
theorem Im(n:Int): [fa .u8 (cX .i64 n 56),fa .u8 (cX .i64 n 48),fa .u8 (cX .i64 n 40),fa .u8 (cX .i64 n 32),fa .u8 (cX .i64 n 24),fa .u8 (cX .i64 n 16),fa .u8 (cX .i64 n 8),fa .u8 (cX .i64 n 0)]=mn n:=by
 rw[pI n 56 (by omega) (by omega),pI n 48 (by omega) (by omega),pI n 40 (by omega) (by omega),pI n 32 (by omega) (by omega),pI n 24 (by omega) (by omega),pI n 16 (by omega) (by omega),pI n 8 (by omega) (by omega),pI n 0 (by omega) (by omega)]
 simp[mn]
theorem ia.ok:ia.Ok:=by
 intro n _
 rw[ia.eq,Im]
 rfl
def ia.E:=Entry.dp [none,some ti] ia.st ia.az ia.add ia.F ia.out
def ia.call:ia.D->Option ia.X:=bX ia.E ia.st
theorem ia.run:b8 ia.call ia.az ia.add ia.F:=dv (du [.d ti] λ_=>by kernel_rfl)
def ia.sg:SG Tryz.prog:=⟨105,Lu,ia.E,.fn 1 (by kernel_rfl) ia.ok (And.intro (.none (by kernel_rfl)) trivial)⟩
abbrev fZ.D:=Nat×Int×Bs
def fZ.st:fZ.D->SA:=λ(bL,n,o0)=>([.di (.ew 0) 0 [] 0 0 bL,.d ti n],[.obj 0 false (.vec 5 tb o0)])
abbrev fZ.Y:=Nat×(List Int)
abbrev fZ.X:=Nat×(List Int)
def fZ.out:fZ.X->aX:=λx=>⟨.di (.ew 0) 8 [] 0 0 x.1,[.obj 8 false (.vec 5 tb x.2)],[]⟩
def fZ.add:fZ.D->fZ.Y->fZ.X:=λ(bL,n,o0) y=>y
def fZ.az:fZ.D->Prop:=λ(m,n,l)=>m=l.length/\l.length<=140737488355320
def fZ.F:fZ.D->fZ.Y:=λ(m,n,l)=>(l.length+8,l++mn n)
def fZ.G:fD:=gr (P:=Tryz.prog) []
def fZ.an:fR:= {loops:=om [(2,{bO:=[0,1,5],sites:=[16]})],outs:=oh [(2,{bO:=[0],sites:=[16]},{bO:=[4],sites:=[16]})]}
def fZ.A:= @dm Tryz.prog fZ.G fZ.an 12 Tryz.f105 _ fZ.st
abbrev fZ.Ok:=dn @fZ.A fZ.az fZ.add fZ.F fZ.out
theorem fZ.eq{R:Type}(bL:Nat)(n:Int)(o0:Bs)(k:aX->Option R):fZ.A (bL,n,o0) k=
 aJ (decide (bL<=(List.length o0))) (
 aJ (fq (bL+1) 1) (
 aJ (decide ((bL+1)<=(List.length ((List.take bL o0)++ [(fa .u8 (cX .i64 n (56:Int)))])))) (
 aJ (fq ((bL+1)+1) 1) (
 aJ (decide (((bL+1)+1)<=(List.length ((List.take (bL+1) ((List.take bL o0)++ [(fa .u8 (cX .i64 n (56:Int)))]))++ [(fa .u8 (cX .i64 n (48:Int)))])))) (
 aJ (fq (((bL+1)+1)+1) 1) (
 aJ (decide ((((bL+1)+1)+1)<=(List.length ((List.take ((bL+1)+1) ((List.take (bL+1) ((List.take bL o0)++ [(fa .u8 (cX .i64 n (56:Int)))]))++ [(fa .u8 (cX .i64 n (48:Int)))]))++ [(fa .u8 (cX .i64 n (40:Int)))])))) (
 aJ (fq ((((bL+1)+1)+1)+1) 1) (
 aJ (decide (((((bL+1)+1)+1)+1)<=(List.length ((List.take (((bL+1)+1)+1) ((List.take ((bL+1)+1) ((List.take (bL+1) ((List.take bL o0)++ [(fa .u8 (cX .i64 n (56:Int)))]))++ [(fa .u8 (cX .i64 n (48:Int)))]))++ [(fa .u8 (cX .i64 n (40:Int)))]))++ [(fa .u8 (cX .i64 n (32:Int)))])))) (
 aJ (fq (((((bL+1)+1)+1)+1)+1) 1) (
 aJ (decide ((((((bL+1)+1)+1)+1)+1)<=(List.length ((List.take ((((bL+1)+1)+1)+1) ((List.take (((bL+1)+1)+1) ((List.take ((bL+1)+1) ((List.take (bL+1) ((List.take bL o0)++ [(fa .u8 (cX .i64 n (56:Int)))]))++ [(fa .u8 (cX .i64 n (48:Int)))]))++ [(fa .u8 (cX .i64 n (40:Int)))]))++ [(fa .u8 (cX .i64 n (32:Int)))]))++ [(fa .u8 (cX .i64 n (24:Int)))])))) (
 aJ (fq ((((((bL+1)+1)+1)+1)+1)+1) 1) (
 aJ (decide (((((((bL+1)+1)+1)+1)+1)+1)<=(List.length ((List.take (((((bL+1)+1)+1)+1)+1) ((List.take ((((bL+1)+1)+1)+1) ((List.take (((bL+1)+1)+1) ((List.take ((bL+1)+1) ((List.take (bL+1) ((List.take bL o0)++ [(fa .u8 (cX .i64 n (56:Int)))]))++ [(fa .u8 (cX .i64 n (48:Int)))]))++ [(fa .u8 (cX .i64 n (40:Int)))]))++ [(fa .u8 (cX .i64 n (32:Int)))]))++ [(fa .u8 (cX .i64 n (24:Int)))]))++ [(fa .u8 (cX .i64 n (16:Int)))])))) (
 aJ (fq (((((((bL+1)+1)+1)+1)+1)+1)+1) 1) (
 aJ (decide ((((((((bL+1)+1)+1)+1)+1)+1)+1)<=(List.length ((List.take ((((((bL+1)+1)+1)+1)+1)+1) ((List.take (((((bL+1)+1)+1)+1)+1) ((List.take ((((bL+1)+1)+1)+1) ((List.take (((bL+1)+1)+1) ((List.take ((bL+1)+1) ((List.take (bL+1) ((List.take bL o0)++ [(fa .u8 (cX .i64 n (56:Int)))]))++ [(fa .u8 (cX .i64 n (48:Int)))]))++ [(fa .u8 (cX .i64 n (40:Int)))]))++ [(fa .u8 (cX .i64 n (32:Int)))]))++ [(fa .u8 (cX .i64 n (24:Int)))]))++ [(fa .u8 (cX .i64 n (16:Int)))]))++ [(fa .u8 (cX .i64 n (8:Int)))])))) (
 aJ (fq ((((((((bL+1)+1)+1)+1)+1)+1)+1)+1) 1) (
 k (fZ.out (((((((((bL+1)+1)+1)+1)+1)+1)+1)+1),((List.take (((((((bL+1)+1)+1)+1)+1)+1)+1) ((List.take ((((((bL+1)+1)+1)+1)+1)+1) ((List.take (((((bL+1)+1)+1)+1)+1) ((List.take ((((bL+1)+1)+1)+1) ((List.take (((bL+1)+1)+1) ((List.take ((bL+1)+1) ((List.take (bL+1) ((List.take bL o0)++ [(fa .u8 (cX .i64 n (56:Int)))]))++ [(fa .u8 (cX .i64 n (48:Int)))]))++ [(fa .u8 (cX .i64 n (40:Int)))]))++ [(fa .u8 (cX .i64 n (32:Int)))]))++ [(fa .u8 (cX .i64 n (24:Int)))]))++ [(fa .u8 (cX .i64 n (16:Int)))]))++ [(fa .u8 (cX .i64 n (8:Int)))]))++ [(fa .u8 (cX .i64 n (0:Int)))])))) none) none) none) none) none) none) none) none) none) none) none) none) none) none) none) none:=by kernel_rfl
theorem fZ.ok:fZ.Ok:=by
 rintro⟨m,n,l⟩ ⟨rfl,hl⟩
 have hl:l.length<=140737488355320:=hl
 rw[fZ.eq]
 simp only[aE,decide_true,ae,cj,aj,aO,bM,bl]
 rw[uj (by omega),uj (by omega),uj (by omega),uj (by omega),uj (by omega),uj (by omega),uj (by omega),uj (by omega)]
 simp only[ae,fZ.add,fZ.F,<-Im,bR,kC,bt]
def fZ.E:=Entry.dp [none,some ti] fZ.st fZ.az fZ.add fZ.F fZ.out
def fZ.call:fZ.D->Option fZ.X:=bX fZ.E fZ.st
theorem fZ.run:b8 fZ.call fZ.az fZ.add fZ.F:=dv (du [.n,.d ti,.d tB] λ_=>by kernel_rfl)
def fZ.sg:SG Tryz.prog:=⟨105,LM,fZ.E,.fn 1 (by kernel_rfl) fZ.ok (And.intro (.none (by kernel_rfl)) trivial)⟩
abbrev bg.L0.D:=Bs×Nat×Bs×(List Int)
def bg.L0.st:bg.L0.D->AS:=λ(ow,endL,n2,Bv)=>⟨([.d tB ow,.undef,.ptr (.new 2 0) 0 [] 0,.di (.new 14 0) 0 [] 0 0 endL]++bG 61 []),[],([[],[],[.obj 0 false (.d tH n2)]]++dh 11 ([[.obj 0 false (.vec 5 tb Bv)]]++dh 50 []))⟩
abbrev bg.L0.Y0:=Nat×(List Int)
abbrev bg.L0.X0:=(Bs×Bs)×(Nat×(List Int))
def bg.L0.bY:bg.L0.X0->Exit×AS:=λx=>(.exit 0,⟨([.d tB x.1.1,.undef,.ptr (.new 2 0) 0 [] 0,.di (.new 14 0) 0 [] 0 0 x.2.1]++bG 61 []),[],([[],[],[.obj 0 false (.d tH x.1.2)]]++dh 11 ([[.obj 0 false (.vec 5 tb x.2.2)]]++dh 50 []))⟩)
abbrev bg.L0.X:=bg.L0.X0
abbrev bg.L0.Y:=bg.L0.Y0
def bg.L0.out:bg.L0.X->Out (Exit×AS):=λx=> .ok (bg.L0.bY x)
def bg.L0.add:bg.L0.D->bg.L0.Y->bg.L0.X:=λ(ow,endL,n2,Bv) y=>((ow,n2),y)
abbrev bg.L1.D:=Bs×Nat×Bs×(List Int)×(List Int)
def bg.L1.st:bg.L1.D->AS:=λ(Dw,vJ,lR,n4,AJ)=>⟨([.d tB Dw,.undef,.ptr (.new 2 0) 0 [] 0,.di (.new 14 0) 8 [] 0 0 vJ,.ptr (.new 4 0) 0 [] 0]++bG 60 []),[],([[],[],[.obj 0 false (.d tH lR)],[],[.obj 0 false (.d (.arr 8 (.int .u32)) n4)]]++dh 9 ([[.obj 8 false (.vec 5 tb AJ)]]++dh 50 []))⟩
abbrev bg.L1.Y0:=(List Int)
abbrev bg.L1.X0:=(Nat×Bs×(List Int))×((List Int))
def bg.L1.bY:bg.L1.X0->Exit×AS:=λx=>(.exit 2,⟨([.undef,.undef,.ptr (.new 2 0) 0 [] 0,.di (.new 14 0) 8 [] 0 0 x.1.1,.ptr (.new 4 0) 0 [] 0]++bG 60 []),[],([[],[],[.obj 0 false (.d tH x.1.2.1)],[],[.obj 0 false (.d (.arr 8 (.int .u32)) x.2)]]++dh 9 ([[.obj 8 false (.vec 5 tb x.1.2.2)]]++dh 50 []))⟩)
abbrev bg.L1.X:=bg.L1.X0
abbrev bg.L1.Y:=bg.L1.Y0
def bg.L1.out:bg.L1.X->Out (Exit×AS):=λx=> .ok (bg.L1.bY x)
def bg.L1.add:bg.L1.D->bg.L1.Y->bg.L1.X:=λ(Dw,vJ,lR,n4,AJ) y=>((vJ,lR,AJ),y)
abbrev bg.L2.D:=Bs×Bs×(List Int)
def bg.L2.st:bg.L2.D->AS:=λ(endv,rf,nB)=>⟨([.undef,.undef,.ptr (.new 2 0) 0 [] 0,.d tB endv,.ptr (.new 4 0) 0 [] 0]++bG 60 []),[],([[],[],[.obj 0 false (.d tH rf)],[],[.obj 0 false (.d (.arr 8 (.int .u32)) nB)]]++dh 60 [])⟩
abbrev bg.L2.Y0:=(List Int)
abbrev bg.L2.X0:=(Bs)×((List Int))
def bg.L2.bY:bg.L2.X0->Exit×AS:=λx=>(.exit 4,⟨([.undef,.undef,.ptr (.new 2 0) 0 [] 0,.undef,.ptr (.new 4 0) 0 [] 0]++bG 60 []),[],([[],[],[.obj 0 false (.d tH x.1)],[],[.obj 0 false (.d (.arr 8 (.int .u32)) x.2)]]++dh 60 [])⟩)
abbrev bg.L2.X:=bg.L2.X0
abbrev bg.L2.Y:=bg.L2.Y0
def bg.L2.out:bg.L2.X->Out (Exit×AS):=λx=> .ok (bg.L2.bY x)
def bg.L2.add:bg.L2.D->bg.L2.Y->bg.L2.X:=λ(endv,rf,nB) y=>(rf,y)
abbrev bg.L3.D:=Int×Bs×(List Int)
def bg.L3.st:bg.L3.D->AS:=λ(t48,FB,qE)=>⟨([.undef,.undef,.ptr (.new 2 0) 0 [] 0,.undef,.ptr (.new 4 0) 0 [] 0]++bG 43 ([.d ti t48]++bG 16 [])),[],([[],[],[.obj 0 false (.d tH FB)],[],[.obj 0 false (.d (.arr 8 (.int .u32)) qE)]]++dh 60 [])⟩
abbrev bg.L3.Y0:=Bs
abbrev bg.L3.X0:=Bs
def bg.L3.bY:bg.L3.X0->Exit×AS:=λx=>(.exit 6,⟨([.undef,.undef,.ptr (.new 2 0) 0 [] 0]++bG 62 []),[],([[],[],[.obj 0 false (.d tH x)]]++dh 62 [])⟩)
abbrev bg.L3.X:=bg.L3.X0
abbrev bg.L3.Y:=bg.L3.Y0
def bg.L3.out:bg.L3.X->Out (Exit×AS):=λx=> .ok (bg.L3.bY x)
def bg.L3.add:bg.L3.D->bg.L3.Y->bg.L3.X:=λ(t48,FB,qE) y=>y
abbrev bg.D:=Bs
def bg.st:bg.D->SA:=λb=>([.d tB b],[])
abbrev bg.Y:=Bs
abbrev bg.X:=Bs
def bg.out:bg.X->aX:=λx=>⟨.d tH x,[],[]⟩
def bg.add:bg.D->bg.Y->bg.X:=λb y=>y
def zc(n:Nat):Nat:=(120 - n%64)%64
def bg.L0.az:bg.L0.D->Prop:=λ(b,m,n2,l)=>m=l.length/\l.length+zc l.length<=140737488355328
def bg.L0.F:bg.L0.D->bg.L0.Y:=λ(b,m,n2,l)=>(l.length+zc l.length,l++List.replicate (zc l.length) 0)
def bg.L1.az:bg.L1.D->Prop:=λ(b,m,n2,h,l)=>∃s:St,h=s.l
def bg.L1.F:bg.L1.D->bg.L1.Y:=λ(b,m,n2,h,l)=>(blocks (FW h) b).l
def bg.L2.az:bg.L2.D->Prop:=λ(b,n2,h)=>b.length%64=0/\∃s:St,h=s.l
def bg.L2.F:bg.L2.D->bg.L2.Y:=λ(b,n2,h)=>(blocks (FW h) b).l
def xg(h:List Int)(i:Nat)(_:Int):Int:=fa .u8 (cX .u32 (nth (.int .u32) h (i / 4)) ((24 - 8*(i%4):Nat):Int))
def bg.L3.az:bg.L3.D->Prop:=λ(t,n2,h)=>n2.length=32/\h.length=8/\∃k:Nat,k<=32/\t=k
def bg.L3.F:bg.L3.D->bg.L3.Y:=λ(t,n2,h)=>from_ (xg h) t.toNat n2
def bg.az:bg.D->Prop:=λb=>b.length<=140737488350000
def bg.F:bg.D->bg.Y:=λb=>R3 b
def bg.G:fD:=gr (P:=Tryz.prog) [fc.sg,fZ.sg,first.sg,mix.sg]
def bg.L0.E:=cU.dp bg.L0.st bg.L0.az bg.L0.add bg.L0.F bg.L0.out
def bg.L0.call:bg.L0.D->Option bg.L0.X:=eI bg.L0.E bg.L0.st
def bg.L1.E:=cU.dp bg.L1.st bg.L1.az bg.L1.add bg.L1.F bg.L1.out
def bg.L1.call:bg.L1.D->Option bg.L1.X:=eI bg.L1.E bg.L1.st
def bg.L2.E:=cU.dp bg.L2.st bg.L2.az bg.L2.add bg.L2.F bg.L2.out
def bg.L2.call:bg.L2.D->Option bg.L2.X:=eI bg.L2.E bg.L2.st
def bg.L3.E:=cU.dp bg.L3.st bg.L3.az bg.L3.add bg.L3.F bg.L3.out
def bg.L3.call:bg.L3.D->Option bg.L3.X:=eI bg.L3.E bg.L3.st
def bg.an:fR:= {loops:=om [(2,{bO:=[0,2,3],sites:=[2,14],nR:=[⟨3,[],14,135⟩]}),(6,{bO:=[0,2,3,4],sites:=[2,4,14]}),(9,{bO:=[2,3,4],sites:=[2,4],data:=[(3,tB)]}),(13,{bO:=[2,4,48],sites:=[2,4]})],outs:=oh [(2,{bO:=[0,2,3],sites:=[2,14]},{bO:=[2]}),(6,{bO:=[2,3,4],sites:=[2,4,14]},{bO:=[2]}),(9,{bO:=[2,4],sites:=[2,4]},{bO:=[2]}),(13,{bO:=[2],sites:=[2]},{bO:=[2]})],jo:=pb [(2,bg.L0.E),(6,bg.L1.E),(9,bg.L2.E),(13,bg.L3.E)]}
def bg.A:= @dm Tryz.prog bg.G bg.an 0 Tryz.f106 _ bg.st
abbrev bg.Ok:=dn @bg.A bg.az bg.add bg.F bg.out
def bg.L0.R:= @dr Tryz.prog bg.G bg.an 0 Tryz.f106 0 _ bg.L0.st
abbrev bg.L0.Ok:=gz Tryz.prog bg.G bg.an 0 Tryz.f106 0 bg.L0.st bg.L0.az bg.L0.add bg.L0.F bg.L0.out
def bg.L1.R:= @dr Tryz.prog bg.G bg.an 0 Tryz.f106 1 _ bg.L1.st
abbrev bg.L1.Ok:=gz Tryz.prog bg.G bg.an 0 Tryz.f106 1 bg.L1.st bg.L1.az bg.L1.add bg.L1.F bg.L1.out
def bg.L2.R:= @dr Tryz.prog bg.G bg.an 0 Tryz.f106 2 _ bg.L2.st
abbrev bg.L2.Ok:=gz Tryz.prog bg.G bg.an 0 Tryz.f106 2 bg.L2.st bg.L2.az bg.L2.add bg.L2.F bg.L2.out
def bg.L3.R:= @dr Tryz.prog bg.G bg.an 0 Tryz.f106 3 _ bg.L3.st
abbrev bg.L3.Ok:=gz Tryz.prog bg.G bg.an 0 Tryz.f106 3 bg.L3.st bg.L3.az bg.L3.add bg.L3.F bg.L3.out
theorem bg.L0.run:b8 bg.L0.call bg.L0.az bg.L0.add bg.L0.F:=gR (gJ [.d tB,.n,.d tB,.d tB] λ_=>by kernel_rfl)
theorem bg.L0.aI:jl @bg.L0.R bg.L0.st bg.L0.az bg.L0.add bg.L0.F bg.L0.bY bg.L0.Ok:=js
theorem bg.L0.step{R:Type}(ow:Bs)(endL:Nat)(n2:Bs)(Bv:(List Int))(kn:AS->Option R)(kx:Exit->AS->Option R):bg.L0.R (ow,endL,n2,Bv) kn kx=
  aJ ((tc (iN ((endL:Nat):Int) (64:Int)) (56:Int))) (
   aJ (decide (endL<=(List.length Bv))) (
   aJ (fq (endL+1) 1) (
   kn (bg.L0.st (ow,(endL+1),n2,((List.take endL Bv)++ [(0:Int)])))) none) none) (
   kx (bg.L0.bY ((ow,n2),(endL,Bv))).1 (bg.L0.bY ((ow,n2),(endL,Bv))).2):=by kernel_rfl
theorem bg.L1.run:b8 bg.L1.call bg.L1.az bg.L1.add bg.L1.F:=gR (gJ [.d tB,.n,.d tB,.d (.slice (.int .u32)),.d tB] λ_=>by kernel_rfl)
theorem bg.L1.aI:jl @bg.L1.R bg.L1.st bg.L1.az bg.L1.add bg.L1.F bg.L1.bY bg.L1.Ok:=js
theorem bg.L1.step{R:Type}(Dw:Bs)(vJ:Nat)(lR:Bs)(n4:(List Int))(AJ:(List Int))(kn:AS->Option R)(kx:Exit->AS->Option R):bg.L1.R (Dw,vJ,lR,n4,AJ) kn kx=
  aJ ((qu (((List.length Dw):Nat):Int) (64:Int))) (
   aJ (inc (64:Int) (((List.length Dw):Nat):Int)) (
   ah (mix.call (n4,(cut Dw 0 64))) λx1=>
   aJ (inc (64:Int) (((List.length Dw):Nat):Int)) (
   kn (bg.L1.st ((cut Dw 64 ((List.length Dw) - 64)),vJ,lR,x1,AJ))) none) none) (
   kx (bg.L1.bY ((vJ,lR,AJ),n4)).1 (bg.L1.bY ((vJ,lR,AJ),n4)).2):=by kernel_rfl
theorem bg.L2.run:b8 bg.L2.call bg.L2.az bg.L2.add bg.L2.F:=gR (gJ [.d tB,.d tB,.d (.slice (.int .u32))] λ_=>by kernel_rfl)
theorem bg.L2.aI:jl @bg.L2.R bg.L2.st bg.L2.az bg.L2.add bg.L2.F bg.L2.bY bg.L2.Ok:=js
theorem bg.L2.step{R:Type}(endv:Bs)(rf:Bs)(nB:(List Int))(kn:AS->Option R)(kx:Exit->AS->Option R):bg.L2.R (endv,rf,nB) kn kx=
  aJ ((sh (((List.length endv):Nat):Int) (0:Int))) (
   aJ (inc (64:Int) (((List.length endv):Nat):Int)) (
   ah (mix.call (nB,(cut endv 0 64))) λx1=>
   aJ (inc (64:Int) (((List.length endv):Nat):Int)) (
   kn (bg.L2.st ((cut endv 64 ((List.length endv) - 64)),rf,x1))) none) none) (
   kx (bg.L2.bY (rf,nB)).1 (bg.L2.bY (rf,nB)).2):=by kernel_rfl
theorem bg.L3.run:b8 bg.L3.call bg.L3.az bg.L3.add bg.L3.F:=gR (gJ [.d ti,.d tB,.d (.slice (.int .u32))] λ_=>by kernel_rfl)
theorem bg.L3.aI:jl @bg.L3.R bg.L3.st bg.L3.az bg.L3.add bg.L3.F bg.L3.bY bg.L3.Ok:=js
theorem bg.L3.step{R:Type}(t48:Int)(FB:Bs)(qE:(List Int))(kn:AS->Option R)(kx:Exit->AS->Option R):bg.L3.R (t48,FB,qE) kn kx=
  aJ ((jM t48 (32:Int))) (
   aJ (fB (qs .i64 t48 (4:Int)) (8:Int)) (
   aJ (decide ((Int.toNat (qs .i64 t48 (4:Int))) < (List.length qE))) (
   aJ (decide ((((Int.toNat (qs .i64 t48 (4:Int)))*1)+0)=(0+((Int.toNat (qs .i64 t48 (4:Int)))*1)))) (
   aJ (nr (cY .i64 (24:Int) (gY .i64 (8:Int) (iN t48 (4:Int))))) (
   aJ (fB t48 (32:Int)) (
   aJ (decide ((Int.toNat t48) < (List.length FB))) (
   aJ (decide ((((Int.toNat t48)*1)+0)=(0+((Int.toNat t48)*1)))) (
   aJ (decide ((Int.toNat t48) < (List.length FB))) (
   kn (bg.L3.st ((bV .i64 t48 (1:Int)),(List.set FB (Int.toNat t48) (fa .u8 (cX .u32 (nth (.int .u32) qE (Int.toNat (qs .i64 t48 (4:Int)))) (cY .i64 (24:Int) (gY .i64 (8:Int) (iN t48 (4:Int))))))),qE))) none) none) none) none) none) none) none) none) (
   kx (bg.L3.bY FB).1 (bg.L3.bY FB).2):=by kernel_rfl
theorem bg.eq{R:Type}(b:Bs)(k:aX->Option R):bg.A b k=
 aJ (inc (cY .i64 (((List.length b):Nat):Int) (iN (((List.length b):Nat):Int) (64:Int))) (((List.length b):Nat):Int)) (
 ah (fc.call (cut b (Int.toNat (cY .i64 (((List.length b):Nat):Int) (iN (((List.length b):Nat):Int) (64:Int)))) ((List.length b) - (Int.toNat (cY .i64 (((List.length b):Nat):Int) (iN (((List.length b):Nat):Int) (64:Int))))))) λx1=>
 aJ (decide (x1.1<=(List.length x1.2))) (
 aJ (fq (x1.1+1) 1) (
 ah (bg.L0.call (b,(x1.1+1),(List.replicate 32 (0:Int)),((List.take x1.1 x1.2)++ [(128:Int)]))) λx2=>
 ah (fZ.call (x2.2.1,(gY .i64 (8:Int) (((List.length x2.1.1):Nat):Int)),x2.2.2)) λx3=>
 ah (first.call ()) λx4=>
 ah (bg.L1.call (x2.1.1,x3.1,x2.1.2,x4,x3.2)) λx6=>
 aJ (decide (0=0/\(0+x6.1.1)<=(List.length x6.1.2.2))) (
 ah (bg.L2.call ((cut x6.1.2.2 0 x6.1.1),x6.1.2.1,x6.2)) λx9=>
 ah (bg.L3.call ((0:Int),x9.1,x9.2)) λBi=>
 k (bg.out Bi)) none) none) none) none:=by kernel_rfl
theorem bg.L0.ok:bg.L0.Ok:=by
 refine bg.L0.aI (λ(b,m,n2,l)=>zc l.length) ?_
 rintro⟨b,m,n2,l⟩ ⟨rfl,hl⟩
 have hl:l.length+zc l.length<=140737488355328:=hl
 have hr:iN ((l.length:Nat):Int) 64=((l.length%64:Nat):Int):=by
  unfold iN
  rw[jX (by omega)]
  omega
 by_cases h:l.length%64=56
 ·right
  intro R kn kx
  have hz:zc l.length=0:=by unfold zc;omega
  rw[bg.L0.step,hr,gZ (by omega)]
  simp only[ai,bg.L0.add,bg.L0.F,hz,dR,List.replicate_zero,dg]
 ·left
  have hz:zc l.length=zc (l.length+1)+1:=by unfold zc;omega
  refine⟨(b,l.length+1,n2,l++ [0]),⟨by simp,by simp only[aj,aO,bM,bl];omega⟩,by simp only[aj,aO,bM,bl];omega,?_,λkn kx=> ?_⟩
  ·simp only[bg.L0.add,bg.L0.F,aj,aO,bM,bl,hz,bR,kC,bt,List.replicate_succ]
   rw[show l.length+1+zc (l.length+1)=l.length+(zc (l.length+1)+1) by omega]
  ·rw[bg.L0.step,hr,jE (by omega),uj (by omega)]
   simp only[ae,aE,decide_true,cQ]
theorem bg.L1.ok:bg.L1.Ok:=by
 refine bg.L1.aI (λ(b,m,n2,h,l)=>b.length) ?_
 rintro⟨b,m,n2,h,l⟩ ⟨s,rfl⟩
 by_cases hb:64<=b.length
 ·left
  have e1:cut b 64 (b.length - 64)=b.drop 64:=by unfold cut;rw[cj (by simp)]
  have e2:cut b 0 64=b.take 64:=rfl
  have hp:mix.az (s.l,b.take 64):=⟨⟨s,rfl⟩,by simp;omega⟩
  refine⟨(b.drop 64,m,n2,(zV s (b.take 64)).l,l),⟨_,rfl⟩,by simp;omega,?_,λkn kx=> ?_⟩
  ·simp only[bg.L1.add,bg.L1.F,ns]
   rw[vE s b hb]
  ·rw[bg.L1.step,la (by omega),pZ (by omega) (by omega),e1,e2]
   simp only[ae,mix.run hp,ab,mix.add,mix.F,ns]
 ·right
  intro R kn kx
  rw[bg.L1.step,jg (by omega)]
  simp only[ai,bg.L1.add,bg.L1.F,ns]
  rw[uA s b (by omega)]
theorem bg.L2.ok:bg.L2.Ok:=by
 refine bg.L2.aI (λ(b,n2,h)=>b.length) ?_
 rintro⟨b,n2,h⟩ ⟨hm,s,rfl⟩
 have hm:b.length%64=0:=hm
 by_cases hb:0 < b.length
 ·left
  have e1:cut b 64 (b.length - 64)=b.drop 64:=by unfold cut;rw[cj (by simp)]
  have e2:cut b 0 64=b.take 64:=rfl
  have hp:mix.az (s.l,b.take 64):=⟨⟨s,rfl⟩,by simp;omega⟩
  refine⟨(b.drop 64,n2,(zV s (b.take 64)).l),⟨by simp;omega,_,rfl⟩,by simp;omega,?_,λkn kx=> ?_⟩
  ·simp only[bg.L2.add,bg.L2.F,ns]
   rw[vE s b (by omega)]
  ·rw[bg.L2.step,fE (by omega),pZ (by omega) (by omega),e1,e2]
   simp only[ae,mix.run hp,ab,mix.add,mix.F,ns]
 ·right
  intro R kn kx
  rw[bg.L2.step,dY (by omega)]
  simp only[ai,bg.L2.add,bg.L2.F,ns]
  rw[uA s b (by omega)]
theorem bg.L3.ok:bg.L3.Ok:=by
 refine bg.L3.aI (λ(t,n2,h)=>32 - t.toNat) ?_
 rintro⟨t,m,h⟩ ⟨hl,h8,k,hk,rfl⟩
 have hl:m.length=32:=hl
 have h8:h.length=8:=h8
 have e2:Int.toNat (k:Int)=k:=by omega
 have e3:Int.toNat ((k+1:Nat):Int)=k+1:=by omega
 by_cases mw:k < 32
 ·left
  have e1:bV .i64 (k:Int) 1=((k+1:Nat):Int):=by rw[ff (by omega) (by omega)];omega
  have q4:qs .i64 (k:Int) 4=((k / 4:Nat):Int):=by
   have:(k:Int).tdiv 4=((k / 4:Nat):Int):=by rw[lE (by omega)];omega
   unfold qs
   rw[this,qW (by omega) (by omega)]
  have r4:iN (k:Int) 4=((k%4:Nat):Int):=by
   unfold iN
   rw[jX (by omega)]
   omega
  have s4:cY .i64 24 (gY .i64 8 ((k%4:Nat):Int))=((24 - 8*(k%4):Nat):Int):=by
   rw[na (by omega) (by omega),gQ (by omega) (by omega)]
   omega
  have e4:Int.toNat ((k / 4:Nat):Int)=k / 4:=by omega
  refine⟨(((k+1:Nat):Int),m.set k (xg h k m[k]),h),⟨by simpa using hl,h8,k+1,by omega,rfl⟩,by simp;omega,?_,λkn kx=> ?_⟩
  ·simp only[bg.L3.add,bg.L3.F,e2,e3]
   rw[wH (xg h) m k (by omega)]
  ·have d0:decide (k < 32)=true:=aM mw
   have d1:decide (k / 4 < 8)=true:=aM (by omega)
   rw[bg.L3.step,bI (by omega),q4,r4,s4,bF (by omega) (by omega),bF (by omega) (by omega),tj (by omega)]
   simp only[e1,e2,e4,kc,bl,dR,decide_true,ae,hl,h8,d0,d1,xg]
 ·right
  obtain rfl:k=32:=by omega
  intro R kn kx
  rw[bg.L3.step,bp (by omega)]
  simp only[ai,bg.L3.add,bg.L3.F,e2]
  rw[yu _ _ _ (by omega)]
theorem Lx(w:W):BitVec.ofInt 8 (vw w)=w.setWidth 8:=by
 apply BitVec.eq_of_toNat_eq
 rw[pe,BitVec.toNat_setWidth]
 unfold vw
 omega
theorem QS(w:W)(k:Int):fa .u8 (cX .u32 (vw w) k)=vw ((w >>> k.toNat).setWidth 8):=by
 rw[vV,Cj,Lx]
theorem Kb(s:St):from_ (xg s.l) 0 (List.replicate 32 0)=PF s:=by
 rw[B5]
 simp only[List.range_eq_range',List.range',cO,jH,xg,Nat.reduceAdd,Nat.reduceDiv,Nat.reduceMod,Nat.reduceMul,Nat.reduceSub,n0,n1,n2,n3,n4,n5,n6,n7,QS]
 rfl
theorem bg.ok:bg.Ok:=by
 intro b hb
 have hb:b.length<=140737488350000:=hb
 have hr:iN ((b.length:Nat):Int) 64=((b.length%64:Nat):Int):=by
  unfold iN
  rw[jX (by omega)]
  omega
 have hs:cY .i64 ((b.length:Nat):Int) ((b.length%64:Nat):Int)=((b.length - b.length%64:Nat):Int):=by
  rw[gQ (by omega) (by omega)];omega
 have hn:Int.toNat ((b.length - b.length%64:Nat):Int)=b.length - b.length%64:=by omega
 have hm:gY .i64 8 ((b.length:Nat):Int)=8*(b.length:Int):=na (by omega) (by omega)
 generalize hq:b.length - b.length%64=q at hs hn
 have hc:cut b q (b.length - q)=b.drop q:=by unfold cut;rw[cj (by simp)]
 have LZ:(b.drop q).length=b.length%64:=by simp;omega
 have p1:fc.az (b.drop q):=by show(b.drop q).length<=_;omega
 rw[bg.eq,hr,hs,pZ (by omega) (by omega),hn,hc]
 simp only[ae,fc.run p1,ab,fc.add,fc.F,aE,decide_true,cQ]
 have p2:bg.L0.az (b,(b.drop q).length+1,List.replicate 32 0,b.drop q++ [128]):=by
  refine⟨by simp,?_⟩
  simp only[aj,aO,bM,zc]
  omega
 have hz:zc (b.drop q++ [128]).length=sK b.length:=by
  simp only[aj,aO,bM,zc,sK]
  omega
 rw[uj (by omega)]
 simp only[ae,bg.L0.run p2,ab,bg.L0.add,bg.L0.F,hm,hz]
 have hlen:(b.drop q++ [128]).length+sK b.length=(b.drop q++ [128]++List.replicate (sK b.length) 0).length:=by rw[@aj _ (b.drop q++ [128]),eo]
 have p3:fZ.az ((b.drop q++ [128]).length+sK b.length,8*(b.length:Int),b.drop q++ [128]++List.replicate (sK b.length) 0):=by
  refine⟨hlen,?_⟩
  simp only[aj,aO,bM,eo,sK]
  omega
 have p4:bg.L1.az (b,(b.drop q++ [128]++List.replicate (sK b.length) 0).length+8,List.replicate 32 0,po.l,b.drop q++ [128]++List.replicate (sK b.length) 0++mn (8*(b.length:Int))):=⟨po,rfl⟩
 simp only[fZ.run p3,ab,fZ.add,fZ.F,first.run (d:=()) trivial,first.add,first.F,bg.L1.run p4,bg.L1.add,bg.L1.F,ns]
 generalize he:b.drop q++ [128]++List.replicate (sK b.length) 0++mn (8*(b.length:Int))=e
 have w9:(b.drop q++ [128]++List.replicate (sK b.length) 0).length+8=e.length:=by rw[<-he,@aj _ _ (mn _),dO]
 have Sy:e.length%64=0:=by
  rw[<-w9]
  simp only[aj,aO,bM,eo,sK,LZ]
  omega
 have Ri:cut e 0 ((b.drop q++ [128]++List.replicate (sK b.length) 0).length+8)=e:=by
  rw[w9];unfold cut;rw[aW,cQ]
 rw[Ri,w9,aM ⟨trivial,by omega⟩]
 have p5:bg.L2.az (e,List.replicate 32 0,(blocks po b).l):=⟨Sy,blocks po b,rfl⟩
 have p6:bg.L3.az (0,List.replicate 32 0,(blocks (blocks po b) e).l):=⟨rfl,rfl,0,by omega,rfl⟩
 simp only[ae,bg.L2.run p5,ab,bg.L2.add,bg.L2.F,ns,bg.L3.run p6,bg.L3.add,bg.L3.F,bg.add,bg.F]
 rw[show Int.toNat 0=0 from rfl,Kb]
 have Sv:blocks po (pad b)=blocks (blocks po b) e:=by
  have h1:pad b=b.take q++e:=by
   rw[<-he]
   unfold pad
   rw[bR,bR,<-bR (b.take q),fU]
   rfl
  have h2:blocks po b=blocks (blocks po (b.take q)) (b.drop q):=by
   rw[<-xf _ _ _ (by simp;omega),fU]
  rw[h1,xf _ _ _ (by simp;omega),h2,uA _ (b.drop q) (by omega)]
 rw[R3,Sv]
def bg.E:=Entry.dp [some tB] bg.st bg.az bg.add bg.F bg.out
def bg.call:bg.D->Option bg.X:=bX bg.E bg.st
theorem bg.run:b8 bg.call bg.az bg.add bg.F:=dv (du [.d tB] λ_=>by kernel_rfl)
def bg.sg:SG Tryz.prog:=⟨106,aP,bg.E,.fn 4 (by kernel_rfl) bg.ok (And.intro (.dp bg.L0.ok (by kernel_rfl)) (And.intro (.dp bg.L1.ok (by kernel_rfl)) (And.intro (.dp bg.L2.ok (by kernel_rfl)) (And.intro (.dp bg.L3.ok (by kernel_rfl)) trivial))))⟩
abbrev dH.L0.D:=Nat×(List Bs)×Int×Int×Bs×(List Int)
def dH.L0.st:dH.L0.D->AS:=λ(bL,t13,t14,t15,n4,Bu)=>⟨(bG 4 ([.ptr (.new 4 0) 0 [] 0,.di (.new 10 0) 0 [] 0 0 bL]++bG 7 ([.d (.slice tB) t13,.d ti t14,.d ti t15]++bG 12 []))),[],(dh 4 ([[.obj 0 false (.d tH n4)]]++dh 5 ([[.obj 0 false (.vec 5 tb Bu)]]++dh 17 [])))⟩
abbrev dH.L0.Y0:=Nat×(List Int)
abbrev dH.L0.X0:=(Bs)×(Nat×(List Int))
def dH.L0.bY:dH.L0.X0->Exit×AS:=λx=>(.exit 0,⟨(bG 4 ([.ptr (.new 4 0) 0 [] 0,.di (.new 10 0) 0 [] 0 0 x.2.1]++bG 22 [])),[],(dh 4 ([[.obj 0 false (.d tH x.1)]]++dh 5 ([[.obj 0 false (.vec 5 tb x.2.2)]]++dh 17 [])))⟩)
abbrev dH.L0.X:=dH.L0.X0
abbrev dH.L0.Y:=dH.L0.Y0
def dH.L0.out:dH.L0.X->Out (Exit×AS):=λx=> .ok (dH.L0.bY x)
def dH.L0.add:dH.L0.D->dH.L0.Y->dH.L0.X:=λ(bL,t13,t14,t15,n4,Bu) y=>(n4,y)
abbrev dH.D:=ByteArray×(List Bs)
def dH.st:dH.D->SA:=λ(name,parts)=>([.d .str name,.d (.slice tB) parts],[])
abbrev dH.Y:=Bs
abbrev dH.X:=Bs
def dH.out:dH.X->aX:=λx=>⟨.d tH x,[],[]⟩
def dH.add:dH.D->dH.Y->dH.X:=λ(name,parts) y=>y
def dH.L0.az:dH.L0.D->Prop:=λ(m,ps,n,i,n4,l)=>m=l.length/\n=ps.length/\ps.length<=140737488350000/\∃k:Nat,k<=ps.length/\i=k/\l.length+(nC (ps.drop k)).length<=140737488350000
def dH.L0.F:dH.L0.D->dH.L0.Y:=λ(m,ps,n,i,n4,l)=>(l.length+(nC (ps.drop i.toNat)).length,l++nC (ps.drop i.toNat))
def dH.az:dH.D->Prop:=λ(name,ps)=>(Al (cm name) ps).length<=140737488350000
def dH.F:dH.D->dH.Y:=λ(name,ps)=>tag (cm name) ps
def dH.G:fD:=gr (P:=Tryz.prog) [ia.sg,fZ.sg,bg.sg]
def dH.L0.E:=cU.dp dH.L0.st dH.L0.az dH.L0.add dH.L0.F dH.L0.out
def dH.L0.call:dH.L0.D->Option dH.L0.X:=eI dH.L0.E dH.L0.st
def dH.an:fR:= {loops:=om [(3,{bO:=[4,5,13,14,15],sites:=[4,10],nR:=[⟨5,[],10,135⟩]})],outs:=oh [(3,{bO:=[4,5],sites:=[4,10]},{bO:=[4]})],jo:=pb [(3,dH.L0.E)]}
def dH.A:= @dm Tryz.prog dH.G dH.an 0 Tryz.f51 _ dH.st
abbrev dH.Ok:=dn @dH.A dH.az dH.add dH.F dH.out
def dH.L0.R:= @dr Tryz.prog dH.G dH.an 0 Tryz.f51 0 _ dH.L0.st
abbrev dH.L0.Ok:=gz Tryz.prog dH.G dH.an 0 Tryz.f51 0 dH.L0.st dH.L0.az dH.L0.add dH.L0.F dH.L0.out
theorem dH.L0.run:b8 dH.L0.call dH.L0.az dH.L0.add dH.L0.F:=gR (gJ [.n,.d (.slice tB),.d ti,.d ti,.d tB,.d tB] λ_=>by kernel_rfl)
theorem dH.L0.aI:jl @dH.L0.R dH.L0.st dH.L0.az dH.L0.add dH.L0.F dH.L0.bY dH.L0.Ok:=js
theorem dH.L0.step{R:Type}(bL:Nat)(t13:(List Bs))(t14:Int)(t15:Int)(n4:Bs)(Bu:(List Int))(kn:AS->Option R)(kx:Exit->AS->Option R):dH.L0.R (bL,t13,t14,t15,n4,Bu) kn kx=
  aJ ((jM t15 t14)) (
   aJ (fB t15 (((List.length t13):Nat):Int)) (
   ah (fZ.call (bL,(((List.length (nth tB t13 (Int.toNat t15))):Nat):Int),Bu)) λx1=>
   aJ (decide (x1.1<=(List.length x1.2))) (
   aJ (fq (x1.1+(List.length (nth tB t13 (Int.toNat t15)))) 1) (
   kn (dH.L0.st ((x1.1+(List.length (nth tB t13 (Int.toNat t15)))),t13,t14,(bV .i64 t15 (1:Int)),n4,((List.take x1.1 x1.2)++(nth tB t13 (Int.toNat t15)))))) none) none) none) (
   kx (dH.L0.bY (n4,(bL,Bu))).1 (dH.L0.bY (n4,(bL,Bu))).2):=by kernel_rfl
theorem dH.eq{R:Type}(name:ByteArray)(parts:(List Bs))(k:aX->Option R):dH.A (name,parts) k=
 ah (ia.call (((ByteArray.size name):Nat):Int)) λx1=>
 aJ (decide (x1.1<=(List.length x1.2))) (
 aJ (fq (x1.1+(List.length (cm name))) 1) (
 ah (dH.L0.call ((x1.1+(List.length (cm name))),parts,(((List.length parts):Nat):Int),(0:Int),(List.replicate 32 (0:Int)),((List.take x1.1 x1.2)++(cm name)))) λx4=>
 aJ (decide (0=0/\(0+x4.2.1)<=(List.length x4.2.2))) (
 ah (bg.call (cut x4.2.2 0 x4.2.1)) λx5=>
 k (dH.out x5)) none) none) none:=by kernel_rfl
theorem EM(p:List Int)(ps:List (List Int)):nC (p::ps)=mn p.length++p++nC ps:=by simp[nC]
theorem EN(ps:List (List Int))(k:Nat)(h:k < ps.length):nC (ps.drop k)=mn ps[k].length++ps[k]++nC (ps.drop (k+1)):=by
 rw[av h,EM]
theorem dH.L0.ok:dH.L0.Ok:=by
 refine dH.L0.aI (λ(m,ps,n,i,n4,l)=>ps.length - i.toNat) ?_
 rintro⟨m,ps,n,i,n4,l⟩ ⟨rfl,rfl,wJ,k,hk,rfl,hl⟩
 have hl:l.length+(nC (ps.drop k)).length<=140737488350000:=hl
 have hk:k<=ps.length:=hk
 have e2:Int.toNat (k:Int)=k:=by omega
 have e3:Int.toNat ((k+1:Nat):Int)=k+1:=by omega
 by_cases h:k < ps.length
 ·left
  have ht:=EN ps k h
  have hlen:(nC (ps.drop k)).length=8+ps[k].length+(nC (ps.drop (k+1))).length:=by rw[ht];simp only[aj,dO]
  have hn:nth (.slice (.int .u8)) ps k=ps[k]:=dQ (t:= .slice (.int .u8)) h
  have wJ:ps.length<=140737488350000:=wJ
  have e1:bV .i64 (k:Int) 1=((k+1:Nat):Int):=by rw[ff (by omega) (by omega)];omega
  refine⟨((l++mn ps[k].length++ps[k]).length,ps,(ps.length:Int),((k+1:Nat):Int),n4,l++mn ps[k].length++ps[k]),⟨rfl,rfl,wJ,k+1,by show k+1<=ps.length;omega,rfl,?_⟩,?_,?_,λkn kx=> ?_⟩
  ·show(l++mn ps[k].length++ps[k]).length+(nC (ps.drop (k+1))).length<=_
   simp only[aj,dO];omega
  ·show ps.length - Int.toNat ((k+1:Nat):Int) < ps.length - Int.toNat (k:Int)
   omega
  ·simp only[dH.L0.add,dH.L0.F,e2,e3,ht,bR]
   simp only[aj,dO,gX]
  ·have p1:fZ.az (l.length,(ps[k].length:Int),l):=⟨rfl,by show l.length<=_;omega⟩
   rw[dH.L0.step,bI (by omega),bF (by omega) (by omega),e1,e2]
   simp only[ae,hn,fZ.run p1,ab,fZ.add,fZ.F]
   have Pc:(l++mn ps[k].length).length=l.length+8:=by simp[dO]
   rw[Pc,aM (aE _),uj (by omega)]
   simp only[ae]
   rw[cj (by rw[Pc];omega)]
   simp only[aj,dO,gX]
 ·right
  obtain rfl:k=ps.length:=by omega
  intro R kn kx
  rw[dH.L0.step,bp (by omega)]
  simp only[ai,dH.L0.add,dH.L0.F,e2,bB]
  simp[nC]
theorem Db:∀ps:List (List Int),8*ps.length<=(nC ps).length
 |[]=>by simp[nC]
 |p::ps=>by
  rw[EM]
  have:=Db ps
  simp only[aj,dO,aO]
  omega
theorem lV(s:ByteArray):(cm s).length=s.size:=by simp only[cm,cM,eh];rfl
theorem dH.ok:dH.Ok:=by
 rintro⟨name,ps⟩ hp
 have hp:(mn (cm name).length++cm name++nC ps).length<=140737488350000:=hp
 have hl:(mn (cm name).length++cm name++nC ps).length=8+(cm name).length+(nC ps).length:=by simp only[aj,dO]
 have wJ:=Db ps
 have rI:((name.size:Nat):Int)=(((cm name).length:Nat):Int):=by rw[lV]
 rw[dH.eq,ia.run (d:=((name.size:Nat):Int)) trivial,rI]
 simp only[ab,ia.add,ia.F,dO,aE,decide_true,ae]
 rw[uj (by omega),cj (by rw[dO];omega)]
 have p2:dH.L0.az (8+(cm name).length,ps,(ps.length:Int),0,List.replicate 32 0,mn ((cm name).length:Int)++cm name):=by
  refine⟨by simp only[aj,dO],rfl,by show ps.length<=_;omega,0,bm _,rfl,?_⟩
  rw[aW]
  simp only[aj,dO]
  omega
 simp only[ae,dH.L0.run p2,ab,dH.L0.add,dH.L0.F,bH,aW]
 have K8:cut (mn ((cm name).length:Int)++cm name++nC ps) 0 ((mn ((cm name).length:Int)++cm name).length+(nC ps).length)=Al (cm name) ps:=by
  unfold cut
  rw[aW,cj (by simp only[aj];omega)]
  rfl
 have p3:bg.az (Al (cm name) ps):=hp
 rw[aM ⟨trivial,by simp only[aj];omega⟩,K8]
 simp only[ae,bg.run p3,ab,bg.add,bg.F,dH.add,dH.F,tag]
def dH.E:=Entry.dp [some .str,some (.slice tB)] dH.st dH.az dH.add dH.F dH.out
def dH.call:dH.D->Option dH.X:=bX dH.E dH.st
theorem dH.run:b8 dH.call dH.az dH.add dH.F:=dv (du [.d .str,.d (.slice tB)] λ_=>by kernel_rfl)
def dH.sg:SG Tryz.prog:=⟨51,aP,dH.E,.fn 1 (by kernel_rfl) dH.ok (And.intro (.dp dH.L0.ok (by kernel_rfl)) trivial)⟩
abbrev fu.D:=Int×Int
def fu.st:fu.D->SA:=λ(x,n)=>([.d (.int .u32) x,.d ti n],[])
abbrev fu.Y:=Int
abbrev fu.X:=Int
def fu.out:fu.X->aX:=λx=>⟨.d (.int .u32) x,[],[]⟩
def fu.add:fu.D->fu.Y->fu.X:=λ(x,n) y=>y
def fu.az:fu.D->Prop:=λ(x,n)=>0<=x/\x < 4294967296/\0<=n/\n<=32
def fu.F:fu.D->fu.Y:=λ(x,n)=>vw (qH (BitVec.ofInt 32 x) n.toNat)
def fu.G:fD:=gr (P:=Tryz.prog) []
def fu.an:fR:= {}
def fu.A:= @dm Tryz.prog fu.G fu.an 0 Tryz.f187 _ fu.st
abbrev fu.Ok:=dn @fu.A fu.az fu.add fu.F fu.out
theorem fu.eq{R:Type}(x:Int)(n:Int)(k:aX->Option R):fu.A (x,n) k=
 aJ (nr n) (
 aJ (nr (cY .i64 (32:Int) n)) (
 k (fu.out (dD .or .u32 (cX .u32 x n) (oC .u32 x (cY .i64 (32:Int) n))))) none) none:=by kernel_rfl
theorem fu.ok:fu.Ok:=by
 rintro⟨x,n⟩ ⟨h1,h2,h3,h4⟩
 obtain⟨n,rfl⟩:=kS h3
 have hx:x=vw (BitVec.ofInt 32 x):=by rw[kP];have h1:0<=x:=h1;have h2:x < 4294967296:=h2;omega
 have h4:(n:Int)<=32:=h4
 rw[fu.eq]
 simp(disch:=omega) only[↓S1,↓if_pos,↓if_neg,if_pos,if_neg,if_true,if_false,S2]
 have e2:dD .or .u32 (cX .u32 x (n:Int)) (oC .u32 x ((32 - n:Nat):Int))=vw (qH (BitVec.ofInt 32 x) n):=by
  conv=>lhs;rw[hx]
  rw[yC,vV,oe]
  simp only[qH,aa]
  rw[BitVec.or_comm]
 rw[e2]
 rfl
def fu.E:=Entry.dp [some (.int .u32),some ti] fu.st fu.az fu.add fu.F fu.out
def fu.call:fu.D->Option fu.X:=bX fu.E fu.st
theorem fu.run:b8 fu.call fu.az fu.add fu.F:=dv (du [.d (.int .u32),.d ti] λ_=>by kernel_rfl)
def fu.sg:SG Tryz.prog:=⟨187,aP,fu.E,.fn 0 (by kernel_rfl) fu.ok trivial⟩
theorem fu.at(w:W){k:Int}(h:0<=k/\k<=32):fu.call (vw w,k)=some (vw (qH w k.toNat)):=by
 have h:fu.az (vw w,k):=⟨Am w,by have:=On w;simpa using this,h.1,h.2⟩
 rw[fu.run h]
 show some (vw (qH (BitVec.ofInt 32 (vw w)) k.toNat))=_
 rw[qg]
abbrev ee.D:=Unit
def ee.st:ee.D->SA:=λ_=>([],[])
abbrev ee.Y:=(List Int)
abbrev ee.X:=(List Int)
def ee.out:ee.X->aX:=λx=>⟨.d (.slice (.int .u32)) x,[],[]⟩
def ee.add:ee.D->ee.Y->ee.X:=λ_ y=>y
def ee.az:ee.D->Prop:=λ_=>True
def ee.F:ee.D->ee.Y:=λ_=>po.l
def ee.G:fD:=gr (P:=Tryz.prog) []
def ee.an:fR:= {cZ:=[1],res:=[some (.slice (.int .u32))]}
def ee.A:= @dm Tryz.prog ee.G ee.an 0 Tryz.f179 _ ee.st
abbrev ee.Ok:=dn @ee.A ee.az ee.add ee.F ee.out
theorem ee.eq{R:Type}(k:aX->Option R):ee.A () k=
 k (ee.out [(1779033703:Int),(3144134277:Int),(1013904242:Int),(2773480762:Int),(1359893119:Int),(2600822924:Int),(528734635:Int),(1541459225:Int)]):=by kernel_rfl
theorem ee.ok:ee.Ok:=by
 intro d _
 rw[ee.eq]
 rfl
def ee.E:=Entry.dp [] ee.st ee.az ee.add ee.F ee.out
def ee.call:ee.D->Option ee.X:=bX ee.E ee.st
theorem ee.run:b8 ee.call ee.az ee.add ee.F:=dv (du [] λ_=>by kernel_rfl)
def ee.sg:SG Tryz.prog:=⟨179,aP,ee.E,.fn 0 (by kernel_rfl) ee.ok trivial⟩
abbrev ig.D:=Unit
def ig.st:ig.D->SA:=λ_=>([],[])
abbrev ig.Y:=(List Int)
abbrev ig.X:=(List Int)
def ig.out:ig.X->aX:=λx=>⟨.d (.slice (.int .u32)) x,[],[]⟩
def ig.add:ig.D->ig.Y->ig.X:=λ_ y=>y
def ig.az:ig.D->Prop:=λ_=>True
def ig.F:ig.D->ig.Y:=λ_=>zQ
def ig.G:fD:=gr (P:=Tryz.prog) []
def ig.an:fR:= {cZ:=[1],res:=[some (.slice (.int .u32))]}
def ig.A:= @dm Tryz.prog ig.G ig.an 0 Tryz.f186 _ ig.st
abbrev ig.Ok:=dn @ig.A ig.az ig.add ig.F ig.out
theorem ig.eq{R:Type}(k:aX->Option R):ig.A () k=
 k (ig.out [(1116352408:Int),(1899447441:Int),(3049323471:Int),(3921009573:Int),(961987163:Int),(1508970993:Int),(2453635748:Int),(2870763221:Int),(3624381080:Int),(310598401:Int),(607225278:Int),(1426881987:Int),(1925078388:Int),(2162078206:Int),(2614888103:Int),(3248222580:Int),(3835390401:Int),(4022224774:Int),(264347078:Int),(604807628:Int),(770255983:Int),(1249150122:Int),(1555081692:Int),(1996064986:Int),(2554220882:Int),(2821834349:Int),(2952996808:Int),(3210313671:Int),(3336571891:Int),(3584528711:Int),(113926993:Int),(338241895:Int),(666307205:Int),(773529912:Int),(1294757372:Int),(1396182291:Int),(1695183700:Int),(1986661051:Int),(2177026350:Int),(2456956037:Int),(2730485921:Int),(2820302411:Int),(3259730800:Int),(3345764771:Int),(3516065817:Int),(3600352804:Int),(4094571909:Int),(275423344:Int),(430227734:Int),(506948616:Int),(659060556:Int),(883997877:Int),(958139571:Int),(1322822218:Int),(1537002063:Int),(1747873779:Int),(1955562222:Int),(2024104815:Int),(2227730452:Int),(2361852424:Int),(2428436474:Int),(2756734187:Int),(3204031479:Int),(3329325298:Int)]):=by kernel_rfl
theorem ig.ok:ig.Ok:=by
 intro d _
 rw[ig.eq]
 rfl
def ig.E:=Entry.dp [] ig.st ig.az ig.add ig.F ig.out
def ig.call:ig.D->Option ig.X:=bX ig.E ig.st
theorem ig.run:b8 ig.call ig.az ig.add ig.F:=dv (du [] λ_=>by kernel_rfl)
def ig.sg:SG Tryz.prog:=⟨186,aP,ig.E,.fn 0 (by kernel_rfl) ig.ok trivial⟩
abbrev aG.L0.D:=Bs×Nat×(List Int)
def aG.L0.st:aG.L0.D->AS:=λ(ow,outL,n6)=>⟨([.d tB ow,.undef,.undef,.di (.new 6 0) 0 [] 0 0 outL]++bG 31 []),[],(dh 6 ([[.obj 0 false (.vec 5 tb n6)]]++dh 28 []))⟩
abbrev aG.L0.Y0:=Nat×(List Int)
abbrev aG.L0.X0:=(Bs)×(Nat×(List Int))
def aG.L0.bY:aG.L0.X0->Exit×AS:=λx=>(.exit 0,⟨([.d tB x.1,.undef,.undef,.di (.new 6 0) 0 [] 0 0 x.2.1]++bG 31 []),[],(dh 6 ([[.obj 0 false (.vec 5 tb x.2.2)]]++dh 28 []))⟩)
abbrev aG.L0.X:=aG.L0.X0
abbrev aG.L0.Y:=aG.L0.Y0
def aG.L0.out:aG.L0.X->Out (Exit×AS):=λx=> .ok (aG.L0.bY x)
def aG.L0.add:aG.L0.D->aG.L0.Y->aG.L0.X:=λ(ow,outL,n6) y=>(ow,y)
abbrev aG.L1.D:=Nat×Int×Int×(List Int)
def aG.L1.st:aG.L1.D->AS:=λ(tK,n,kv,pQ)=>⟨([.undef,.undef,.undef,.di (.new 6 0) 0 [] 0 0 tK,.d tu n,.d ti kv]++bG 29 []),[],(dh 6 ([[.obj 0 false (.vec 5 tb pQ)]]++dh 28 []))⟩
abbrev aG.L1.Y0:=Nat×(List Int)
abbrev aG.L1.X0:=Nat×(List Int)
def aG.L1.bY:aG.L1.X0->Exit×AS:=λx=>(.exit 2,⟨([.undef,.undef,.undef,.di (.new 6 0) 0 [] 0 0 x.1]++bG 31 []),[],(dh 6 ([[.obj 0 false (.vec 5 tb x.2)]]++dh 28 []))⟩)
abbrev aG.L1.X:=aG.L1.X0
abbrev aG.L1.Y:=aG.L1.Y0
def aG.L1.out:aG.L1.X->Out (Exit×AS):=λx=> .ok (aG.L1.bY x)
def aG.L1.add:aG.L1.D->aG.L1.Y->aG.L1.X:=λ(tK,n,kv,pQ) y=>y
abbrev aG.D:=Bs
def aG.st:aG.D->SA:=λb=>([.d tB b],[])
abbrev aG.Y:=Bs
abbrev aG.X:=Bs
def aG.out:aG.X->aX:=λx=>⟨.d tB x,[],[]⟩
def aG.add:aG.D->aG.Y->aG.X:=λb y=>y
def aG.L0.az:aG.L0.D->Prop:=λ(b,m,l)=>m=l.length/\l.length+zc l.length<=140737488355328
def aG.L0.F:aG.L0.D->aG.L0.Y:=λ(b,m,l)=>(l.length+zc l.length,l++List.replicate (zc l.length) 0)
def aG.L1.az:aG.L1.D->Prop:=λ(m,n,kv,l)=>0<=n/\n < 18446744073709551616/\∃j:Nat,j<=8/\kv=56 - 8*(j:Int)/\m=l.length/\l.length<=140737488355320+j
def aG.L1.F:aG.L1.D->aG.L1.Y:=λ(m,n,kv,l)=>(l.length+(mn n).length - (7 - (kv / 8)).toNat,l++(mn n).drop (7 - (kv / 8)).toNat)
def aG.az:aG.D->Prop:=λb=>b.length<=140737488350000
def aG.F:aG.D->aG.Y:=λb=>pad b
def aG.G:fD:=gr (P:=Tryz.prog) []
def aG.L0.E:=cU.dp aG.L0.st aG.L0.az aG.L0.add aG.L0.F aG.L0.out
def aG.L0.call:aG.L0.D->Option aG.L0.X:=eI aG.L0.E aG.L0.st
def aG.L1.E:=cU.dp aG.L1.st aG.L1.az aG.L1.add aG.L1.F aG.L1.out
def aG.L1.call:aG.L1.D->Option aG.L1.X:=eI aG.L1.E aG.L1.st
def aG.an:fR:= {cZ:=[6],loops:=om [(3,{bO:=[0,3],sites:=[6],nR:=[⟨3,[],6,135⟩]}),(7,{bO:=[3,4,5],sites:=[6],nR:=[⟨3,[],6,135⟩]})],outs:=oh [(3,{bO:=[0,3],sites:=[6]},{bO:=[2]}),(7,{bO:=[3],sites:=[6]},{bO:=[2]})],jo:=pb [(3,aG.L0.E),(7,aG.L1.E)],res:=[some tB]}
def aG.A:= @dm Tryz.prog aG.G aG.an 0 Tryz.f178 _ aG.st
abbrev aG.Ok:=dn @aG.A aG.az aG.add aG.F aG.out
def aG.L0.R:= @dr Tryz.prog aG.G aG.an 0 Tryz.f178 0 _ aG.L0.st
abbrev aG.L0.Ok:=gz Tryz.prog aG.G aG.an 0 Tryz.f178 0 aG.L0.st aG.L0.az aG.L0.add aG.L0.F aG.L0.out
def aG.L1.R:= @dr Tryz.prog aG.G aG.an 0 Tryz.f178 1 _ aG.L1.st
abbrev aG.L1.Ok:=gz Tryz.prog aG.G aG.an 0 Tryz.f178 1 aG.L1.st aG.L1.az aG.L1.add aG.L1.F aG.L1.out
theorem aG.L0.run:b8 aG.L0.call aG.L0.az aG.L0.add aG.L0.F:=gR (gJ [.d tB,.n,.d tB] λ_=>by kernel_rfl)
theorem aG.L0.aI:jl @aG.L0.R aG.L0.st aG.L0.az aG.L0.add aG.L0.F aG.L0.bY aG.L0.Ok:=js
theorem aG.L0.step{R:Type}(ow:Bs)(outL:Nat)(n6:(List Int))(kn:AS->Option R)(kx:Exit->AS->Option R):aG.L0.R (ow,outL,n6) kn kx=
  aJ ((tc (iN ((outL:Nat):Int) (64:Int)) (56:Int))) (
   aJ (decide (outL<=(List.length n6))) (
   aJ (fq (outL+1) 1) (
   kn (aG.L0.st (ow,(outL+1),((List.take outL n6)++ [(0:Int)])))) none) none) (
   kx (aG.L0.bY (ow,(outL,n6))).1 (aG.L0.bY (ow,(outL,n6))).2):=by kernel_rfl
theorem aG.L1.run:b8 aG.L1.call aG.L1.az aG.L1.add aG.L1.F:=gR (gJ [.n,.d tu,.d ti,.d tB] λ_=>by kernel_rfl)
theorem aG.L1.aI:jl @aG.L1.R aG.L1.st aG.L1.az aG.L1.add aG.L1.F aG.L1.bY aG.L1.Ok:=js
theorem aG.L1.step{R:Type}(tK:Nat)(n:Int)(kv:Int)(pQ:(List Int))(kn:AS->Option R)(kx:Exit->AS->Option R):aG.L1.R (tK,n,kv,pQ) kn kx=
  aJ ((qu kv (0:Int))) (
   aJ (nr kv) (
   aJ (decide (tK<=(List.length pQ))) (
   aJ (fq (tK+1) 1) (
   kn (aG.L1.st ((tK+1),n,(cY .i64 kv (8:Int)),((List.take tK pQ)++ [(fa .u8 (cX .u64 n kv))])))) none) none) none) (
   kx (aG.L1.bY (tK,pQ)).1 (aG.L1.bY (tK,pQ)).2):=by kernel_rfl
theorem aG.eq{R:Type}(b:Bs)(k:aX->Option R):aG.A b k=
 aJ (fq (0+(List.length b)) 1) (
 aJ (decide ((0+(List.length b))<=(List.length ((List.take 0 (List.replicate 0 (0:Int)))++b)))) (
 aJ (fq ((0+(List.length b))+1) 1) (
 ah (aG.L0.call (b,((0+(List.length b))+1),((List.take (0+(List.length b)) ((List.take 0 (List.replicate 0 (0:Int)))++b))++ [(128:Int)]))) λx1=>
 ah (aG.L1.call (x1.2.1,(gY .u64 (8:Int) (fa .u64 (((List.length x1.1):Nat):Int))),(56:Int),x1.2.2)) λx2=>
 aJ (decide (0=0/\(0+x2.1)<=(List.length x2.2))) (
 k (aG.out (cut x2.2 0 x2.1))) none) none) none) none:=by kernel_rfl
theorem aG.L0.ok:aG.L0.Ok:=by
 refine aG.L0.aI (λ(b,m,l)=>zc l.length) ?_
 rintro⟨b,m,l⟩ ⟨rfl,hl⟩
 have hl:l.length+zc l.length<=140737488355328:=hl
 by_cases h:l.length%64=56
 ·right
  intro R kn kx
  have hz:zc l.length=0:=by unfold zc;omega
  rw[aG.L0.step]
  simp(disch:=omega) only[↓S1,↓if_pos,↓if_neg,if_pos,if_neg,if_true,if_false,S2,aG.L0.add,aG.L0.F,hz,dR,List.replicate_zero,dg]
 ·left
  have hz:zc l.length=zc (l.length+1)+1:=by unfold zc;omega
  refine⟨(b,l.length+1,l++ [0]),⟨by simp,by simp only[aj,aO,bM,bl];omega⟩,by simp only[aj,aO,bM,bl];omega,?_,λkn kx=> ?_⟩
  ·simp only[aG.L0.add,aG.L0.F,aj,aO,bM,bl,hz,bR,kC,bt,List.replicate_succ]
   rw[show l.length+1+zc (l.length+1)=l.length+(zc (l.length+1)+1) by omega]
  ·rw[aG.L0.step]
   simp(disch:=omega) only[↓S1,↓if_pos,↓if_neg,if_pos,if_neg,if_true,if_false,S2,cQ]
theorem Mr(n:Int)(j:Nat)(h:j < 8):(mn n).drop j=n / 2^(56 - 8*j)%256::(mn n).drop (j+1):=by
 rcases(by omega:j=0\/j=1\/j=2\/j=3\/j=4\/j=5\/j=6\/j=7) with rfl | rfl | rfl | rfl | rfl | rfl | rfl | rfl <;> simp[mn]
theorem HX(n:Int)(k:Nat)(h1:k<=64):fa .u8 (cX .u64 n (k:Int))=n / 2^k%256:=by
 rw[Cj,kP,cX]
 have e:min (k:Int).toNat IntKind.u64.bits=k:=by simp only[IntKind.bits];omega
 rw[e,lD _ (nU (Int.pow_pos (by omega)))]
 rfl
theorem aG.L1.ok:aG.L1.Ok:=by
 refine aG.L1.aI (λ(m,n,kv,l)=>(kv+8).toNat) ?_
 rintro⟨m,n,kv,l⟩ ⟨h1,h2,j,hj,rfl,rfl,hl⟩
 have hl:l.length<=140737488355320+j:=hl
 have e1:(7 - ((56 - 8*(j:Int)) / 8)).toNat=j:=by omega
 by_cases h:j < 8
 ·left
  have e2:cY .i64 (56 - 8*(j:Int)) 8=56 - 8*((j+1:Nat):Int):=by rw[gQ (by omega) (by omega)];omega
  have e3:(7 - ((56 - 8*((j+1:Nat):Int)) / 8)).toNat=j+1:=by omega
  have e4:(56 - 8*(j:Int))=((56 - 8*j:Nat):Int):=by omega
  refine⟨(l.length+1,n,56 - 8*((j+1:Nat):Int),l++ [n / 2^(56 - 8*j)%256]),⟨h1,h2,j+1,by omega,rfl,by simp,by simp only[aj,aO,bM];omega⟩,by simp only;omega,?_,λkn kx=> ?_⟩
  ·simp only[aG.L1.add,aG.L1.F,e1,e3,Mr n j h,aj,aO,bM,bR,kC,bt,dO]
   rw[show l.length+(0+1)+8 - (j+1)=l.length+8 - j by omega]
  ·rw[aG.L1.step,e2,e4,HX n _ (by omega)]
   simp(disch:=omega) only[↓S1,↓if_pos,↓if_neg,if_pos,if_neg,if_true,if_false,S2,cQ]
 ·right
  obtain rfl:j=8:=by omega
  intro R kn kx
  rw[aG.L1.step]
  simp(disch:=omega) only[↓S1,↓if_pos,↓if_neg,if_pos,if_neg,if_true,if_false,S2,aG.L1.add,aG.L1.F,e1]
  simp[mn]
theorem aG.ok:aG.Ok:=by
 intro b hb
 have hb:b.length<=140737488350000:=hb
 have hz:zc (b++ [128]).length=sK b.length:=by
  simp only[aj,aO,bM,zc,sK]
  omega
 have Y6:sK b.length < 64:=by unfold sK;omega
 have p1:aG.L0.az (b,b.length+1,b++ [128]):=⟨by simp,by rw[hz];simp only[aj,aO,bM] <;> omega⟩
 have e1:fa .u64 ((b.length:Nat):Int)=((b.length:Nat):Int):=by rw[Fo,kP];omega
 have e2:gY .u64 8 ((b.length:Nat):Int)=8*(b.length:Int):=by
  unfold gY;rw[wrap_u64,kP];omega
 have e3:List.take b.length b=b:=cQ
 rw[aG.eq]
 simp only[List.replicate_zero,List.take_nil,bt,bl,e1,e2,e3]
 simp(disch:=omega) only[↓S1,↓if_pos,↓if_neg,if_pos,if_neg,if_true,if_false,S2,aG.L0.run p1,aG.L0.add,aG.L0.F,hz]
 have p2:aG.L1.az ((b++ [128]).length+sK b.length,8*(b.length:Int),56,b++ [128]++List.replicate (sK b.length) 0):=by
  refine⟨by omega,by omega,0,by omega,rfl,by simp only[aj,aO,bM,eo] <;> omega,?_⟩
  simp only[aj,aO,bM,eo]
  omega
 simp(disch:=omega) only[↓S1,↓if_pos,↓if_neg,if_pos,if_neg,if_true,if_false,S2,e1,e2,aG.L1.run p2,aG.L1.add,aG.L1.F]
 have e5:(7 - ((56:Int) / 8)).toNat=0:=by decide
 rw[e5,aW]
 have e6:(b++ [128]++List.replicate (sK b.length) 0).length+(mn (8*(b.length:Int))).length - 0=(b++ [128]++List.replicate (sK b.length) 0++mn (8*(b.length:Int))).length:=by rw[@aj _ _ (mn _)];omega
 rw[e6,if_pos (aE _)]
 unfold cut
 rw[aW,cQ]
 simp only[aG.add,aG.F,pad,bR,kC,bt]
def aG.E:=Entry.dp [some tB] aG.st aG.az aG.add aG.F aG.out
def aG.call:aG.D->Option aG.X:=bX aG.E aG.st
theorem aG.run:b8 aG.call aG.az aG.add aG.F:=dv (du [.d tB] λ_=>by kernel_rfl)
def aG.sg:SG Tryz.prog:=⟨178,aP,aG.E,.fn 2 (by kernel_rfl) aG.ok (And.intro (.dp aG.L0.ok (by kernel_rfl)) (And.intro (.dp aG.L1.ok (by kernel_rfl)) trivial))⟩
abbrev aT.L0.D:=Bs×Nat×Int×(List Int)
def aT.L0.st:aT.L0.D->AS:=λ(ow,wL,i,um)=>⟨([.d tB ow,.undef,.undef,.di (.new 49 0) 0 [] 0 0 wL,.d ti i]++bG 94 []),[],(dh 49 ([[.obj 0 false (.vec 25 (.int .u32) um)]]++dh 49 []))⟩
abbrev aT.L0.Y0:=Nat×(List Int)
abbrev aT.L0.X0:=Nat×(List Int)
def aT.L0.bY:aT.L0.X0->Exit×AS:=λx=>(.exit 0,⟨([.undef,.undef,.undef,.di (.new 49 0) 0 [] 0 0 x.1]++bG 95 []),[],(dh 49 ([[.obj 0 false (.vec 25 (.int .u32) x.2)]]++dh 49 []))⟩)
abbrev aT.L0.X:=aT.L0.X0
abbrev aT.L0.Y:=aT.L0.Y0
def aT.L0.out:aT.L0.X->Out (Exit×AS):=λx=> .ok (aT.L0.bY x)
def aT.L0.add:aT.L0.D->aT.L0.Y->aT.L0.X:=λ(ow,wL,i,um) y=>y
abbrev aT.L1.D:=Nat×Int×(List Int)
def aT.L1.st:aT.L1.D->AS:=λ(zi,kQ,pK)=>⟨([.undef,.undef,.undef,.di (.new 49 0) 0 [] 0 0 zi,.undef,.d ti kQ]++bG 93 []),[],(dh 49 ([[.obj 0 false (.vec 25 (.int .u32) pK)]]++dh 49 []))⟩
abbrev aT.L1.Y0:=Nat×(List Int)
abbrev aT.L1.X0:=Nat×(List Int)
def aT.L1.bY:aT.L1.X0->Exit×AS:=λx=>(.exit 2,⟨([.undef,.undef,.undef,.di (.new 49 0) 0 [] 0 0 x.1]++bG 95 []),[],(dh 49 ([[.obj 0 false (.vec 25 (.int .u32) x.2)]]++dh 49 []))⟩)
abbrev aT.L1.X:=aT.L1.X0
abbrev aT.L1.Y:=aT.L1.Y0
def aT.L1.out:aT.L1.X->Out (Exit×AS):=λx=> .ok (aT.L1.bY x)
def aT.L1.add:aT.L1.D->aT.L1.Y->aT.L1.X:=λ(zi,kQ,pK) y=>y
abbrev aT.D:=Bs
def aT.st:aT.D->SA:=λb=>([.d tB b],[])
abbrev aT.Y:=(List Int)
abbrev aT.X:=(List Int)
def aT.out:aT.X->aX:=λx=>⟨.d (.slice (.int .u32)) x,[],[]⟩
def aT.add:aT.D->aT.Y->aT.X:=λb y=>y
def aT.L0.az:aT.L0.D->Prop:=λ(b,m,i,l)=>64<=b.length/\∃k:Nat,k<=16/\i=k/\k=m/\l=wl ((words b).take k)
def aT.L0.F:aT.L0.D->aT.L0.Y:=λ(b,m,i,l)=>(16,wl (words b))
def aT.L1.az:aT.L1.D->Prop:=λ(m,i,l)=>∃ws:List W,16<=ws.length/\ws.length<=64/\l=wl ws/\m=ws.length/\i=(ws.length:Nat)
def aT.L1.F:aT.L1.D->aT.L1.Y:=λ(m,i,l)=>(64,wl (OD (Ol l) (64 - l.length)))
def aT.az:aT.D->Prop:=λb=>64<=b.length
def aT.F:aT.D->aT.Y:=λb=>wl (sched b)
def aT.G:fD:=gr (P:=Tryz.prog) [fu.sg]
def aT.L0.E:=cU.dp aT.L0.st aT.L0.az aT.L0.add aT.L0.F aT.L0.out
def aT.L0.call:aT.L0.D->Option aT.L0.X:=eI aT.L0.E aT.L0.st
def aT.L1.E:=cU.dp aT.L1.st aT.L1.az aT.L1.add aT.L1.F aT.L1.out
def aT.L1.call:aT.L1.D->Option aT.L1.X:=eI aT.L1.E aT.L1.st
def aT.an:fR:= {loops:=om [(3,{bO:=[0,3,4],sites:=[49],nR:=[⟨3,[],49,253⟩]}),(7,{bO:=[3,5],sites:=[49],nR:=[⟨3,[],49,253⟩]})],outs:=oh [(3,{bO:=[3],sites:=[49]},{bO:=[2]}),(7,{bO:=[3],sites:=[49]},{bO:=[2]})],jo:=pb [(3,aT.L0.E),(7,aT.L1.E)],res:=[some (.slice (.int .u32))]}
def aT.A:= @dm Tryz.prog aT.G aT.an 0 Tryz.f185 _ aT.st
abbrev aT.Ok:=dn @aT.A aT.az aT.add aT.F aT.out
def aT.L0.R:= @dr Tryz.prog aT.G aT.an 0 Tryz.f185 0 _ aT.L0.st
abbrev aT.L0.Ok:=gz Tryz.prog aT.G aT.an 0 Tryz.f185 0 aT.L0.st aT.L0.az aT.L0.add aT.L0.F aT.L0.out
def aT.L1.R:= @dr Tryz.prog aT.G aT.an 0 Tryz.f185 1 _ aT.L1.st
abbrev aT.L1.Ok:=gz Tryz.prog aT.G aT.an 0 Tryz.f185 1 aT.L1.st aT.L1.az aT.L1.add aT.L1.F aT.L1.out
theorem aT.L0.run:b8 aT.L0.call aT.L0.az aT.L0.add aT.L0.F:=gR (gJ [.d tB,.n,.d ti,.d (.slice (.int .u32))] λ_=>by kernel_rfl)
theorem aT.L0.aI:jl @aT.L0.R aT.L0.st aT.L0.az aT.L0.add aT.L0.F aT.L0.bY aT.L0.Ok:=js
theorem aT.L0.step{R:Type}(ow:Bs)(wL:Nat)(i:Int)(um:(List Int))(kn:AS->Option R)(kx:Exit->AS->Option R):aT.L0.R (ow,wL,i,um) kn kx=
  aJ ((jM i (16:Int))) (
   aJ (fB (gY .i64 (4:Int) i) (((List.length ow):Nat):Int)) (
   aJ (fB (bV .i64 (gY .i64 (4:Int) i) (1:Int)) (((List.length ow):Nat):Int)) (
   aJ (fB (bV .i64 (gY .i64 (4:Int) i) (2:Int)) (((List.length ow):Nat):Int)) (
   aJ (fB (bV .i64 (gY .i64 (4:Int) i) (3:Int)) (((List.length ow):Nat):Int)) (
   aJ (decide (wL<=(List.length um))) (
   aJ (fq (wL+1) 4) (
   kn (aT.L0.st (ow,(wL+1),(bV .i64 i (1:Int)),((List.take wL um)++ [(dD .or .u32 (dD .or .u32 (dD .or .u32 (oC .u32 (fa .u32 (nth tb ow (Int.toNat (gY .i64 (4:Int) i)))) (24:Int)) (oC .u32 (fa .u32 (nth tb ow (Int.toNat (bV .i64 (gY .i64 (4:Int) i) (1:Int))))) (16:Int))) (oC .u32 (fa .u32 (nth tb ow (Int.toNat (bV .i64 (gY .i64 (4:Int) i) (2:Int))))) (8:Int))) (fa .u32 (nth tb ow (Int.toNat (bV .i64 (gY .i64 (4:Int) i) (3:Int))))))])))) none) none) none) none) none) none) (
   kx (aT.L0.bY (wL,um)).1 (aT.L0.bY (wL,um)).2):=by kernel_rfl
theorem aT.L1.run:b8 aT.L1.call aT.L1.az aT.L1.add aT.L1.F:=gR (gJ [.n,.d ti,.d (.slice (.int .u32))] λ_=>by kernel_rfl)
theorem aT.L1.aI:jl @aT.L1.R aT.L1.st aT.L1.az aT.L1.add aT.L1.F aT.L1.bY aT.L1.Ok:=js
theorem aT.L1.step{R:Type}(zi:Nat)(kQ:Int)(pK:(List Int))(kn:AS->Option R)(kx:Exit->AS->Option R):aT.L1.R (zi,kQ,pK) kn kx=
  aJ ((jM kQ (64:Int))) (
   aJ (fB (cY .i64 kQ (15:Int)) ((zi:Nat):Int)) (
   aJ (decide ((0+(Int.toNat (cY .i64 kQ (15:Int)))) < (List.length pK))) (
   aJ (decide ((((0+(Int.toNat (cY .i64 kQ (15:Int))))*1)+0)=(0+((Int.toNat (cY .i64 kQ (15:Int)))*1)))) (
   aJ (fB (cY .i64 kQ (2:Int)) ((zi:Nat):Int)) (
   aJ (decide ((0+(Int.toNat (cY .i64 kQ (2:Int)))) < (List.length pK))) (
   aJ (decide ((((0+(Int.toNat (cY .i64 kQ (2:Int))))*1)+0)=(0+((Int.toNat (cY .i64 kQ (2:Int)))*1)))) (
   ah (fu.call ((nth (.int .u32) pK (0+(Int.toNat (cY .i64 kQ (15:Int))))),(7:Int))) λx1=>
   ah (fu.call ((nth (.int .u32) pK (0+(Int.toNat (cY .i64 kQ (15:Int))))),(18:Int))) λx2=>
   ah (fu.call ((nth (.int .u32) pK (0+(Int.toNat (cY .i64 kQ (2:Int))))),(17:Int))) λx3=>
   ah (fu.call ((nth (.int .u32) pK (0+(Int.toNat (cY .i64 kQ (2:Int))))),(19:Int))) λx4=>
   aJ (fB (cY .i64 kQ (16:Int)) ((zi:Nat):Int)) (
   aJ (decide ((0+(Int.toNat (cY .i64 kQ (16:Int)))) < (List.length pK))) (
   aJ (decide ((((0+(Int.toNat (cY .i64 kQ (16:Int))))*1)+0)=(0+((Int.toNat (cY .i64 kQ (16:Int)))*1)))) (
   aJ (fB (cY .i64 kQ (7:Int)) ((zi:Nat):Int)) (
   aJ (decide ((0+(Int.toNat (cY .i64 kQ (7:Int)))) < (List.length pK))) (
   aJ (decide ((((0+(Int.toNat (cY .i64 kQ (7:Int))))*1)+0)=(0+((Int.toNat (cY .i64 kQ (7:Int)))*1)))) (
   aJ (decide (zi<=(List.length pK))) (
   aJ (fq (zi+1) 4) (
   kn (aT.L1.st ((zi+1),(bV .i64 kQ (1:Int)),((List.take zi pK)++ [(bV .u32 (bV .u32 (bV .u32 (nth (.int .u32) pK (0+(Int.toNat (cY .i64 kQ (16:Int))))) (dD .xor .u32 (dD .xor .u32 x1 x2) (cX .u32 (nth (.int .u32) pK (0+(Int.toNat (cY .i64 kQ (15:Int))))) (3:Int)))) (nth (.int .u32) pK (0+(Int.toNat (cY .i64 kQ (7:Int)))))) (dD .xor .u32 (dD .xor .u32 x3 x4) (cX .u32 (nth (.int .u32) pK (0+(Int.toNat (cY .i64 kQ (2:Int))))) (10:Int))))])))) none) none) none) none) none) none) none) none) none) none) none) none) none) none) (
   kx (aT.L1.bY (zi,pK)).1 (aT.L1.bY (zi,pK)).2):=by kernel_rfl
theorem aT.eq{R:Type}(b:Bs)(k:aX->Option R):aT.A b k=
 ah (aT.L0.call (b,0,(0:Int),([]:List Int))) λx1=>
 ah (aT.L1.call (x1.1,(16:Int),x1.2)) λBi=>
 aJ (decide (0=0/\(0+Bi.1)<=(List.length Bi.2))) (
 k (aT.out (cut Bi.2 0 Bi.1))) none:=by kernel_rfl
theorem sw(ws:List W):(wl ws).length=ws.length:=by simp[wl]
theorem Kw(m:List W):∀n,OD (ext m) n=OD m (n+1)
 | 0=>rfl
 |n+1=>by rw[OD,Kw m n];rfl
theorem QO(b:List Int)(k:Nat)(h:4*k+3 < b.length):be b k=SV (nth (.int .u8) b (4*k)) (nth (.int .u8) b (4*k+1)) (nth (.int .u8) b (4*k+2)) (nth (.int .u8) b (4*k+3)):=rfl
theorem aT.L0.ok:aT.L0.Ok:=by
 refine aT.L0.aI (λ(b,m,i,l)=>16 - m) ?_
 rintro⟨b,m,i,l⟩ ⟨hb,k,hk,rfl,rfl,rfl⟩
 have hb:64<=b.length:=hb
 have hl:(wl ((words b).take k)).length=k:=by rw[sw,fS,iu];omega
 by_cases h:k < 16
 ·left
  refine⟨(b,k+1,((k+1:Nat):Int),wl ((words b).take (k+1))),⟨hb,k+1,by omega,rfl,rfl,rfl⟩,by simp only;omega,rfl,λkn kx=> ?_⟩
  rw[aT.L0.step]
  simp(disch:=omega) only[↓S1,↓if_pos,↓if_neg,if_pos,if_neg,if_true,if_false,S2,hl,cj (Nat.le_of_eq hl)]
  rw[List.take_succ_eq_append_getElem (by rw[iu];exact h)]
  simp only[JW,yC,oe,wl,o7,cO,jH]
  have e:(words b)[k]'(by rw[iu];exact h)=be b k:=by simp[words]
  rw[e,QO b k (by omega)]
  rfl
 ·right
  obtain rfl:k=16:=by omega
  intro R kn kx
  rw[aT.L0.step]
  simp(disch:=omega) only[↓S1,↓if_pos,↓if_neg,if_pos,if_neg,if_true,if_false,S2,aT.L0.add,aT.L0.F]
  rw[cj (by rw[iu];omega)]
theorem aT.L1.ok:aT.L1.Ok:=by
 refine aT.L1.aI (λ(m,i,l)=>64 - m) ?_
 rintro⟨m,i,l⟩ ⟨ws,h1,h2,rfl,rfl,rfl⟩
 have hl:=sw ws
 by_cases h:ws.length < 64
 ·left
  refine⟨(ws.length+1,((ws.length+1:Nat):Int),wl (ext ws)),⟨ext ws,by rw[qB];omega,by rw[qB];omega,rfl,by rw[qB],by rw[qB]⟩,by simp only;omega,?_,λkn kx=> ?_⟩
  ·simp only[aT.L1.add,aT.L1.F,u5,sw,qB]
   rw[Kw,show 64 - (ws.length+1)+1=64 - ws.length by omega]
  ·rw[aT.L1.step]
   simp(disch:=omega) only[↓S1,↓if_pos,↓if_neg,if_pos,if_neg,if_true,if_false,S2,hl,bl,kc,dR,An ws _ (by omega:ws.length - 15 < ws.length),An ws _ (by omega:ws.length - 2 < ws.length),An ws _ (by omega:ws.length - 16 < ws.length),An ws _ (by omega:ws.length - 7 < ws.length),fu.at,oe,vV,ua,cj (Nat.le_of_eq hl)]
   unfold ext wl
   rw[o7]
   rfl
 ·right
  have Fj:ws.length=64:=by omega
  intro R kn kx
  rw[aT.L1.step]
  simp(disch:=omega) only[↓S1,↓if_pos,↓if_neg,if_pos,if_neg,if_true,if_false,S2,aT.L1.add,aT.L1.F,hl,Fj,u5,Nat.sub_self]
  rfl
theorem aT.ok:aT.Ok:=by
 intro b hb
 have p1:aT.L0.az (b,0,0,[]):=⟨hb,0,by omega,rfl,rfl,rfl⟩
 have p2:aT.L1.az (16,16,wl (words b)):=⟨words b,by rw[iu];omega,by rw[iu];omega,rfl,by rw[iu],by rw[iu];rfl⟩
 have hs:(sched b).length=64:=by unfold sched;rw[sU,iu]
 rw[aT.eq]
 simp(disch:=omega) only[↓S1,↓if_pos,↓if_neg,if_pos,if_neg,if_true,if_false,S2,aT.L0.run p1,aT.L0.add,aT.L0.F,aT.L1.run p2,aT.L1.add,aT.L1.F,u5,sw,iu,bl,Nat.reduceSub]
 have e:OD (words b) 48=sched b:=rfl
 rw[e,hs,if_pos (aE _)]
 unfold cut
 rw[aW,cj (by rw[sw];omega)]
 simp only[aT.add,aT.F]
def aT.E:=Entry.dp [some tB] aT.st aT.az aT.add aT.F aT.out
def aT.call:aT.D->Option aT.X:=bX aT.E aT.st
theorem aT.run:b8 aT.call aT.az aT.add aT.F:=dv (du [.d tB] λ_=>by kernel_rfl)
def aT.sg:SG Tryz.prog:=⟨185,aP,aT.E,.fn 2 (by kernel_rfl) aT.ok (And.intro (.dp aT.L0.ok (by kernel_rfl)) (And.intro (.dp aT.L1.ok (by kernel_rfl)) trivial))⟩
abbrev aS.L0.D:=(List Int)×(List Int)×(List Int)×Nat×Int×(List Int)
def aS.L0.st:aS.L0.D->AS:=λ(sW,wv,kv,vL,i,oA)=>⟨([.d (.slice (.int .u32)) sW]++bG 4 ([.d (.slice (.int .u32)) wv,.d (.slice (.int .u32)) kv,.di (.new 18 0) 0 [] 0 0 vL,.d ti i]++bG 146 [])),[],(dh 18 ([[.obj 0 false (.vec 25 (.int .u32) oA)]]++dh 136 []))⟩
abbrev aS.L0.Y0:=Nat×(List Int)
abbrev aS.L0.X0:=((List Int))×(Nat×(List Int))
def aS.L0.bY:aS.L0.X0->Exit×AS:=λx=>(.exit 0,⟨([.d (.slice (.int .u32)) x.1]++bG 6 ([.di (.new 18 0) 0 [] 0 0 x.2.1]++bG 147 [])),[],(dh 18 ([[.obj 0 false (.vec 25 (.int .u32) x.2.2)]]++dh 136 []))⟩)
abbrev aS.L0.X:=aS.L0.X0
abbrev aS.L0.Y:=aS.L0.Y0
def aS.L0.out:aS.L0.X->Out (Exit×AS):=λx=> .ok (aS.L0.bY x)
def aS.L0.add:aS.L0.D->aS.L0.Y->aS.L0.X:=λ(sW,wv,kv,vL,i,oA) y=>(sW,y)
abbrev aS.L1.D:=(List Int)×Nat×Int×(List Int)
def aS.L1.st:aS.L1.D->AS:=λ(JR,DZ,kQ,v8)=>⟨([.d (.slice (.int .u32)) JR]++bG 6 ([.di (.new 18 0) 0 [] 0 0 DZ]++bG 6 ([.d ti kQ]++bG 140 []))),[],(dh 18 ([[.obj 0 false (.vec 25 (.int .u32) v8)]]++dh 136 []))⟩
abbrev aS.L1.Y0:=(List Int)
abbrev aS.L1.X0:=(Nat)×((List Int))
def aS.L1.bY:aS.L1.X0->Exit×AS:=λx=>(.exit 2,⟨(bG 7 ([.di (.new 18 0) 0 [] 0 0 x.1]++bG 147 [])),[],(dh 18 ([[.obj 0 false (.vec 25 (.int .u32) x.2)]]++dh 136 []))⟩)
abbrev aS.L1.X:=aS.L1.X0
abbrev aS.L1.Y:=aS.L1.Y0
def aS.L1.out:aS.L1.X->Out (Exit×AS):=λx=> .ok (aS.L1.bY x)
def aS.L1.add:aS.L1.D->aS.L1.Y->aS.L1.X:=λ(JR,DZ,kQ,v8) y=>(DZ,y)
abbrev aS.D:=(List Int)×Bs
def aS.st:aS.D->SA:=λ(h,b)=>([.d (.slice (.int .u32)) h,.d tB b],[])
abbrev aS.Y:=(List Int)
abbrev aS.X:=(List Int)
def aS.out:aS.X->aX:=λx=>⟨.d (.slice (.int .u32)) x,[],[]⟩
def aS.add:aS.D->aS.Y->aS.X:=λ(h,b) y=>y
def aS.L0.az:aS.L0.D->Prop:=λ(h,wv,kv,m,i,l)=>∃(s:St) (ws:List W) (k:Nat),h=s.l/\wv=wl ws/\ws.length=64/\k<=64/\i=k/\kv=zQ/\m=8/\l=(rounds ws s k).l
def aS.L0.F:aS.L0.D->aS.L0.Y:=λ(h,wv,kv,m,i,l)=>(8,(rounds (Ol wv) (FW h) 64).l)
def aS.L1.az:aS.L1.D->Prop:=λ(h,m,i,l)=>h.length=8/\l.length=8/\m=8/\∃k:Nat,k<=8/\i=k
def aS.L1.F:aS.L1.D->aS.L1.Y:=λ(h,m,i,l)=>from_ (λi x=>bV .u32 x (nth (.int .u32) h i)) i.toNat l
def aS.az:aS.D->Prop:=λ(h,b)=>(∃s:St,h=s.l)/\64<=b.length
def aS.F:aS.D->aS.Y:=λ(h,b)=>(zV (FW h) b).l
def aS.G:fD:=gr (P:=Tryz.prog) [aT.sg,ig.sg,fu.sg]
def aS.L0.E:=cU.dp aS.L0.st aS.L0.az aS.L0.add aS.L0.F aS.L0.out
def aS.L0.call:aS.L0.D->Option aS.L0.X:=eI aS.L0.E aS.L0.st
def aS.L1.E:=cU.dp aS.L1.st aS.L1.az aS.L1.add aS.L1.F aS.L1.out
def aS.L1.call:aS.L1.D->Option aS.L1.X:=eI aS.L1.E aS.L1.st
def aS.an:fR:= {cZ:=[18,137],loops:=om [(5,{bO:=[0,5,6,7,8],sites:=[18,137],nR:=[⟨7,[],18,0⟩]}),(14,{bO:=[0,7,14],sites:=[18]})],outs:=oh [(5,{bO:=[0,7],sites:=[18]},{bO:=[4]}),(14,{bO:=[7],sites:=[18]},{bO:=[4]})],jo:=pb [(5,aS.L0.E),(14,aS.L1.E)],res:=[some (.slice (.int .u32))]}
def aS.A:= @dm Tryz.prog aS.G aS.an 0 Tryz.f180 _ aS.st
abbrev aS.Ok:=dn @aS.A aS.az aS.add aS.F aS.out
def aS.L0.R:= @dr Tryz.prog aS.G aS.an 0 Tryz.f180 0 _ aS.L0.st
abbrev aS.L0.Ok:=gz Tryz.prog aS.G aS.an 0 Tryz.f180 0 aS.L0.st aS.L0.az aS.L0.add aS.L0.F aS.L0.out
def aS.L1.R:= @dr Tryz.prog aS.G aS.an 0 Tryz.f180 1 _ aS.L1.st
abbrev aS.L1.Ok:=gz Tryz.prog aS.G aS.an 0 Tryz.f180 1 aS.L1.st aS.L1.az aS.L1.add aS.L1.F aS.L1.out
theorem aS.L0.run:b8 aS.L0.call aS.L0.az aS.L0.add aS.L0.F:=gR (gJ [.d (.slice (.int .u32)),.d (.slice (.int .u32)),.d (.slice (.int .u32)),.n,.d ti,.d (.slice (.int .u32))] λ_=>by kernel_rfl)
theorem aS.L0.aI:jl @aS.L0.R aS.L0.st aS.L0.az aS.L0.add aS.L0.F aS.L0.bY aS.L0.Ok:=js
theorem aS.L0.step{R:Type}(sW:(List Int))(wv:(List Int))(kv:(List Int))(vL:Nat)(i:Int)(oA:(List Int))(kn:AS->Option R)(kx:Exit->AS->Option R):aS.L0.R (sW,wv,kv,vL,i,oA) kn kx=
  aJ ((jM i (64:Int))) (
   aJ (fB (4:Int) ((vL:Nat):Int)) (
   aJ (decide (4 < (List.length oA))) (
   ah (fu.call ((nth (.int .u32) oA 4),(6:Int))) λx1=>
   aJ (fB (4:Int) ((vL:Nat):Int)) (
   aJ (decide (4 < (List.length oA))) (
   ah (fu.call ((nth (.int .u32) oA 4),(11:Int))) λx2=>
   aJ (fB (4:Int) ((vL:Nat):Int)) (
   aJ (decide (4 < (List.length oA))) (
   ah (fu.call ((nth (.int .u32) oA 4),(25:Int))) λx3=>
   aJ (fB (4:Int) ((vL:Nat):Int)) (
   aJ (decide (4 < (List.length oA))) (
   aJ (fB (5:Int) ((vL:Nat):Int)) (
   aJ (decide (5 < (List.length oA))) (
   aJ (fB (4:Int) ((vL:Nat):Int)) (
   aJ (decide (4 < (List.length oA))) (
   aJ (fB (6:Int) ((vL:Nat):Int)) (
   aJ (decide (6 < (List.length oA))) (
   aJ (fB (7:Int) ((vL:Nat):Int)) (
   aJ (decide (7 < (List.length oA))) (
   aJ (fB i (((List.length kv):Nat):Int)) (
   aJ (fB i (((List.length wv):Nat):Int)) (
   aJ (fB (0:Int) ((vL:Nat):Int)) (
   aJ (decide (0 < (List.length oA))) (
   ah (fu.call ((nth (.int .u32) oA 0),(2:Int))) λx4=>
   aJ (fB (0:Int) ((vL:Nat):Int)) (
   aJ (decide (0 < (List.length oA))) (
   ah (fu.call ((nth (.int .u32) oA 0),(13:Int))) λx5=>
   aJ (fB (0:Int) ((vL:Nat):Int)) (
   aJ (decide (0 < (List.length oA))) (
   ah (fu.call ((nth (.int .u32) oA 0),(22:Int))) λx6=>
   aJ (fB (0:Int) ((vL:Nat):Int)) (
   aJ (decide (0 < (List.length oA))) (
   aJ (fB (1:Int) ((vL:Nat):Int)) (
   aJ (decide (1 < (List.length oA))) (
   aJ (fB (0:Int) ((vL:Nat):Int)) (
   aJ (decide (0 < (List.length oA))) (
   aJ (fB (2:Int) ((vL:Nat):Int)) (
   aJ (decide (2 < (List.length oA))) (
   aJ (fB (1:Int) ((vL:Nat):Int)) (
   aJ (decide (1 < (List.length oA))) (
   aJ (fB (2:Int) ((vL:Nat):Int)) (
   aJ (decide (2 < (List.length oA))) (
   aJ (fB (0:Int) ((vL:Nat):Int)) (
   aJ (decide (0 < (List.length oA))) (
   aJ (fB (1:Int) ((vL:Nat):Int)) (
   aJ (decide (1 < (List.length oA))) (
   aJ (fB (2:Int) ((vL:Nat):Int)) (
   aJ (decide (2 < (List.length oA))) (
   aJ (fB (3:Int) ((vL:Nat):Int)) (
   aJ (decide (3 < (List.length oA))) (
   aJ (fB (4:Int) ((vL:Nat):Int)) (
   aJ (decide (4 < (List.length oA))) (
   aJ (fB (5:Int) ((vL:Nat):Int)) (
   aJ (decide (5 < (List.length oA))) (
   aJ (fB (6:Int) ((vL:Nat):Int)) (
   aJ (decide (6 < (List.length oA))) (
   kn (aS.L0.st (sW,wv,kv,8,(bV .i64 i (1:Int)),[(bV .u32 (bV .u32 (bV .u32 (bV .u32 (bV .u32 (bV .u32 (nth (.int .u32) oA 7) (dD .xor .u32 (dD .xor .u32 x1 x2) x3)) (dD .xor .u32 (dD .and .u32 (nth (.int .u32) oA 4) (nth (.int .u32) oA 5)) (dD .and .u32 (Pp .u32 (nth (.int .u32) oA 4)) (nth (.int .u32) oA 6)))) (nth (.int .u32) kv (Int.toNat i))) (nth (.int .u32) wv (Int.toNat i))) (dD .xor .u32 (dD .xor .u32 x4 x5) x6)) (dD .xor .u32 (dD .xor .u32 (dD .and .u32 (nth (.int .u32) oA 0) (nth (.int .u32) oA 1)) (dD .and .u32 (nth (.int .u32) oA 0) (nth (.int .u32) oA 2))) (dD .and .u32 (nth (.int .u32) oA 1) (nth (.int .u32) oA 2)))),(nth (.int .u32) oA 0),(nth (.int .u32) oA 1),(nth (.int .u32) oA 2),(bV .u32 (nth (.int .u32) oA 3) (bV .u32 (bV .u32 (bV .u32 (bV .u32 (nth (.int .u32) oA 7) (dD .xor .u32 (dD .xor .u32 x1 x2) x3)) (dD .xor .u32 (dD .and .u32 (nth (.int .u32) oA 4) (nth (.int .u32) oA 5)) (dD .and .u32 (Pp .u32 (nth (.int .u32) oA 4)) (nth (.int .u32) oA 6)))) (nth (.int .u32) kv (Int.toNat i))) (nth (.int .u32) wv (Int.toNat i)))),(nth (.int .u32) oA 4),(nth (.int .u32) oA 5),(nth (.int .u32) oA 6)]))) none) none) none) none) none) none) none) none) none) none) none) none) none) none) none) none) none) none) none) none) none) none) none) none) none) none) none) none) none) none) none) none) none) none) none) none) none) none) none) none) none) none) none) none) none) none) none) none) none) none) (
   kx (aS.L0.bY (sW,(vL,oA))).1 (aS.L0.bY (sW,(vL,oA))).2):=by kernel_rfl
theorem aS.L1.run:b8 aS.L1.call aS.L1.az aS.L1.add aS.L1.F:=gR (gJ [.d (.slice (.int .u32)),.n,.d ti,.d (.slice (.int .u32))] λ_=>by kernel_rfl)
theorem aS.L1.aI:jl @aS.L1.R aS.L1.st aS.L1.az aS.L1.add aS.L1.F aS.L1.bY aS.L1.Ok:=js
theorem aS.L1.step{R:Type}(JR:(List Int))(DZ:Nat)(kQ:Int)(v8:(List Int))(kn:AS->Option R)(kx:Exit->AS->Option R):aS.L1.R (JR,DZ,kQ,v8) kn kx=
  aJ ((jM kQ (8:Int))) (
   aJ (fB kQ ((DZ:Nat):Int)) (
   aJ (decide ((0+(Int.toNat kQ)) < (List.length v8))) (
   aJ (decide ((((0+(Int.toNat kQ))*1)+0)=(0+((Int.toNat kQ)*1)))) (
   aJ (fB kQ (((List.length JR):Nat):Int)) (
   aJ (fB kQ ((DZ:Nat):Int)) (
   aJ (decide ((0+(Int.toNat kQ)) < (List.length v8))) (
   aJ (decide ((((0+(Int.toNat kQ))*1)+0)=(0+((Int.toNat kQ)*1)))) (
   aJ (decide ((0+(Int.toNat kQ)) < (List.length v8))) (
   kn (aS.L1.st (JR,DZ,(bV .i64 kQ (1:Int)),(List.set v8 (0+(Int.toNat kQ)) (bV .u32 (nth (.int .u32) v8 (0+(Int.toNat kQ))) (nth (.int .u32) JR (Int.toNat kQ))))))) none) none) none) none) none) none) none) none) (
   kx (aS.L1.bY (DZ,v8)).1 (aS.L1.bY (DZ,v8)).2):=by kernel_rfl
theorem aS.eq{R:Type}(h:(List Int))(b:Bs)(k:aX->Option R):aS.A (h,b) k=
 ah (aT.call b) λx1=>
 ah (ig.call ()) λx2=>
 aJ (fq (0+(List.length h)) 4) (
 ah (aS.L0.call (h,x1,x2,(0+(List.length h)),(0:Int),((List.take 0 (List.replicate 0 (0:Int)))++h))) λQF=>
 ah (aS.L1.call (QF.1,QF.2.1,(0:Int),QF.2.2)) λKx=>
 aJ (decide (0=0/\(0+Kx.1)<=(List.length Kx.2))) (
 k (aS.out (cut Kx.2 0 Kx.1))) none) none:=by kernel_rfl
theorem M7(w:W):Pp .u32 (vw w)=vw (~~~w):=by
 have e:(if IntKind.u32.signed then -1 else IntKind.u32.max:Int)=vw (BitVec.allOnes 32):=rfl
 unfold Pp
 rw[e,oe]
 simp only[BitVec.allOnes_xor]
theorem SY(e f g:W):(e &&& f)^^^(~~~e &&& g)=g^^^(e &&& (f^^^g)):=by
 ext i hi
 simp only[BitVec.getElem_xor,BitVec.getElem_and,BitVec.getElem_not]
 cases e[i] <;> cases f[i] <;> cases g[i] <;> rfl
theorem RN(a b c:W):(a &&& b)^^^(a &&& c)^^^(b &&& c)=(a &&& b) ||| (c &&& (a ||| b)):=by
 ext i hi
 simp only[BitVec.getElem_xor,BitVec.getElem_and,BitVec.getElem_or]
 cases a[i] <;> cases b[i] <;> cases c[i] <;> rfl
theorem aS.L0.ok:aS.L0.Ok:=by
 refine aS.L0.aI (λ(h,wv,kv,m,i,l)=>64 - i.toNat) ?_
 rintro⟨h,wv,kv,m,i,l⟩ ⟨s,ws,k,rfl,rfl,hw,hk,rfl,rfl,rfl,rfl⟩
 by_cases mw:k < 64
 ·left
  refine⟨(s.l,wl ws,zQ,8,((k+1:Nat):Int),(rounds ws s (k+1)).l),⟨s,ws,k+1,rfl,rfl,hw,by omega,rfl,rfl,rfl,rfl⟩,by simp only;omega,rfl,λkn kx=> ?_⟩
  rw[aS.L0.step]
  generalize hv:rounds ws s k=v
  have t1:∀w:W,fu.call (vw w,6)=some (vw (qH w 6)):=λw=>fu.at w (by omega)
  have t2:∀w:W,fu.call (vw w,11)=some (vw (qH w 11)):=λw=>fu.at w (by omega)
  have t3:∀w:W,fu.call (vw w,25)=some (vw (qH w 25)):=λw=>fu.at w (by omega)
  have t4:∀w:W,fu.call (vw w,2)=some (vw (qH w 2)):=λw=>fu.at w (by omega)
  have t5:∀w:W,fu.call (vw w,13)=some (vw (qH w 13)):=λw=>fu.at w (by omega)
  have t6:∀w:W,fu.call (vw w,22)=some (vw (qH w 22)):=λw=>fu.at w (by omega)
  rw[n0,n1,n2,n3,n4,n5,n6,n7,t1,ab,t2,ab,t3,ab,t4,ab,t5,ab,t6,ab]
  simp(disch:=omega) only[↓S1,↓if_pos,↓if_neg,if_pos,if_neg,if_true,if_false,S2,St.GV,Ay,sw,hw,GU k mw,An ws k (by omega),oe,ua,M7,SY,RN]
  show kn _=kn (aS.L0.st (s.l,wl ws,zQ,8,((k+1:Nat):Int),(Wq (rounds ws s k) (kw k) (ws.getD k 0)).l))
  rw[hv]
  rfl
 ·right
  obtain rfl:k=64:=by omega
  intro R kn kx
  rw[aS.L0.step]
  simp(disch:=omega) only[↓S1,↓if_pos,↓if_neg,if_pos,if_neg,if_true,if_false,S2,aS.L0.add,aS.L0.F,u5,ns]
theorem aS.L1.ok:aS.L1.Ok:=by
 refine aS.L1.aI (λ(h,m,i,l)=>8 - i.toNat) ?_
 rintro⟨h,m,i,l⟩ ⟨hh,hl,rfl,k,hk,rfl⟩
 have hl:l.length=8:=hl
 have hh:h.length=8:=hh
 by_cases mw:k < 8
 ·left
  have hn:nth (.int .u32) l k=l[k]:=dQ (t:= .int .u32) (by omega)
  refine⟨(h,8,((k+1:Nat):Int),l.set k (bV .u32 l[k] (nth (.int .u32) h k))),⟨hh,by simpa using hl,rfl,k+1,by omega,rfl⟩,by simp only;omega,?_,λkn kx=> ?_⟩
  ·simp only[aS.L1.add,aS.L1.F,aa]
   rw[wH (λi x=>bV .u32 x (nth (.int .u32) h i)) l k (by omega)]
  ·rw[aS.L1.step]
   simp(disch:=omega) only[↓S1,↓if_pos,↓if_neg,if_pos,if_neg,if_true,if_false,S2,hl,hh,bl,kc,dR,hn]
 ·right
  obtain rfl:k=8:=by omega
  intro R kn kx
  rw[aS.L1.step]
  simp(disch:=omega) only[↓S1,↓if_pos,↓if_neg,if_pos,if_neg,if_true,if_false,S2,aS.L1.add,aS.L1.F]
  rw[yu _ _ _ (by omega)]
theorem RO(s:St)(b:List Int):from_ (λi x=>bV .u32 x (nth (.int .u32) s.l i)) 0 (rounds (sched b) s 64).l=(zV s b).l:=by
 unfold zV
 generalize rounds (sched b) s 64=v
 obtain⟨a1,b1,c1,d1,f1,g1,h1,i1⟩:=v
 simp only[St.l,from_,List.mapIdx_cons,List.mapIdx_nil,Nat.not_lt_zero,if_false,bl,Nat.reduceAdd]
 simp only[nth,mf,oB,ua]
theorem aS.ok:aS.Ok:=by
 rintro⟨h,b⟩ ⟨⟨s,rfl⟩,hb⟩
 have p0:aT.az b:=hb
 have JU:(sched b).length=64:=by unfold sched;rw[sU,iu]
 have p1:aS.L0.az (s.l,wl (sched b),zQ,8,0,s.l):=⟨s,sched b,0,rfl,rfl,JU,by omega,rfl,rfl,rfl,rfl⟩
 have p2:aS.L1.az (s.l,8,0,(rounds (sched b) s 64).l):=⟨rfl,rfl,rfl,0,by omega,rfl⟩
 have e0:0+s.l.length=8:=rfl
 have e1:List.take 0 (List.replicate 0 (0:Int))++s.l=s.l:=rfl
 rw[aS.eq]
 simp(disch:=omega) only[↓S1,↓if_pos,↓if_neg,if_pos,if_neg,if_true,if_false,S2,aT.run p0,aT.add,aT.F,ig.run (d:=()) trivial,ig.add,ig.F,e0,e1,aS.L0.run p1,aS.L0.add,aS.L0.F,u5,ns,aS.L1.run p2,aS.L1.add,aS.L1.F,bH,RO]
 have e2:(zV s b).l.length=8:=rfl
 have e3:cut (zV s b).l 0 8=(zV s b).l:=rfl
 simp only[e2,bl,aE,if_true,e3,aS.add,aS.F,ns]
def aS.E:=Entry.dp [some (.slice (.int .u32)),some tB] aS.st aS.az aS.add aS.F aS.out
def aS.call:aS.D->Option aS.X:=bX aS.E aS.st
theorem aS.run:b8 aS.call aS.az aS.add aS.F:=dv (du [.d (.slice (.int .u32)),.d tB] λ_=>by kernel_rfl)
def aS.sg:SG Tryz.prog:=⟨180,aP,aS.E,.fn 2 (by kernel_rfl) aS.ok (And.intro (.dp aS.L0.ok (by kernel_rfl)) (And.intro (.dp aS.L1.ok (by kernel_rfl)) trivial))⟩
abbrev cR.L0.D:=Bs×(List Int)×Int×Bs
def cR.L0.st:cR.L0.D->AS:=λ(p,h,i,n2)=>⟨([.undef,.undef,.ptr (.new 2 0) 0 [] 0,.d tB p,.d (.slice (.int .u32)) h,.d ti i]++bG 36 []),[],([[],[],[.obj 0 false (.d tH n2)]]++dh 39 [])⟩
abbrev cR.L0.Y0:=(List Int)
abbrev cR.L0.X0:=(Bs)×((List Int))
def cR.L0.bY:cR.L0.X0->Exit×AS:=λx=>(.exit 0,⟨([.undef,.undef,.ptr (.new 2 0) 0 [] 0,.undef,.d (.slice (.int .u32)) x.2]++bG 37 []),[],([[],[],[.obj 0 false (.d tH x.1)]]++dh 39 [])⟩)
abbrev cR.L0.X:=cR.L0.X0
abbrev cR.L0.Y:=cR.L0.Y0
def cR.L0.out:cR.L0.X->Out (Exit×AS):=λx=> .ok (cR.L0.bY x)
def cR.L0.add:cR.L0.D->cR.L0.Y->cR.L0.X:=λ(p,h,i,n2) y=>(n2,y)
abbrev cR.L1.D:=(List Int)×Int×Bs×Bs
def cR.L1.st:cR.L1.D->AS:=λ(sW,kQ,lR,n6)=>⟨([.undef,.undef,.ptr (.new 2 0) 0 [] 0,.undef,.d (.slice (.int .u32)) sW,.undef,.ptr (.new 6 0) 0 [] 0,.d ti kQ]++bG 34 []),[],([[],[],[.obj 0 false (.d tH lR)],[],[],[],[.obj 0 false (.d tH n6)]]++dh 35 [])⟩
abbrev cR.L1.Y0:=Bs
abbrev cR.L1.X0:=(Bs)×(Bs)
def cR.L1.bY:cR.L1.X0->Exit×AS:=λx=>(.exit 2,⟨([.undef,.undef,.ptr (.new 2 0) 0 [] 0,.undef,.undef,.undef,.ptr (.new 6 0) 0 [] 0]++bG 35 []),[],([[],[],[.obj 0 false (.d tH x.1)],[],[],[],[.obj 0 false (.d tH x.2)]]++dh 35 [])⟩)
abbrev cR.L1.X:=cR.L1.X0
abbrev cR.L1.Y:=cR.L1.Y0
def cR.L1.out:cR.L1.X->Out (Exit×AS):=λx=> .ok (cR.L1.bY x)
def cR.L1.add:cR.L1.D->cR.L1.Y->cR.L1.X:=λ(sW,kQ,lR,n6) y=>(lR,y)
abbrev cR.D:=Bs
def cR.st:cR.D->SA:=λb=>([.d tB b],[])
abbrev cR.Y:=Bs
abbrev cR.X:=Bs
def cR.out:cR.X->aX:=λx=>⟨.d tH x,[],[]⟩
def cR.add:cR.D->cR.Y->cR.X:=λb y=>y
def cR.L0.az:cR.L0.D->Prop:=λ(p,h,i,n2)=>p.length%64=0/\p.length<=140737488355328/\∃(s:St) (k:Nat),h=s.l/\i=((64*k:Nat):Int)/\64*k<=p.length
def cR.L0.F:cR.L0.D->cR.L0.Y:=λ(p,h,i,n2)=>(blocks (FW h) (p.drop i.toNat)).l
def cR.L1.az:cR.L1.D->Prop:=λ(h,i,n2,l)=>h.length=8/\l.length=32/\∃k:Nat,k<=32/\i=k
def cR.L1.F:cR.L1.D->cR.L1.Y:=λ(h,i,n2,l)=>from_ (xg h) i.toNat l
def cR.az:cR.D->Prop:=λb=>b.length<=140737488350000
def cR.F:cR.D->cR.Y:=λb=>R3 b
def cR.G:fD:=gr (P:=Tryz.prog) [aG.sg,ee.sg,aS.sg]
def cR.L0.E:=cU.dp cR.L0.st cR.L0.az cR.L0.add cR.L0.F cR.L0.out
def cR.L0.call:cR.L0.D->Option cR.L0.X:=eI cR.L0.E cR.L0.st
def cR.L1.E:=cU.dp cR.L1.st cR.L1.az cR.L1.add cR.L1.F cR.L1.out
def cR.L1.call:cR.L1.D->Option cR.L1.X:=eI cR.L1.E cR.L1.st
def cR.an:fR:= {loops:=om [(4,{bO:=[2,3,4,5],sites:=[2]}),(9,{bO:=[2,4,6,7],sites:=[2,6]})],outs:=oh [(4,{bO:=[2,4],sites:=[2]},{bO:=[2]}),(9,{bO:=[2,6],sites:=[2,6]},{bO:=[2]})],jo:=pb [(4,cR.L0.E),(9,cR.L1.E)]}
def cR.A:= @dm Tryz.prog cR.G cR.an 0 Tryz.f155 _ cR.st
abbrev cR.Ok:=dn @cR.A cR.az cR.add cR.F cR.out
def cR.L0.R:= @dr Tryz.prog cR.G cR.an 0 Tryz.f155 0 _ cR.L0.st
abbrev cR.L0.Ok:=gz Tryz.prog cR.G cR.an 0 Tryz.f155 0 cR.L0.st cR.L0.az cR.L0.add cR.L0.F cR.L0.out
def cR.L1.R:= @dr Tryz.prog cR.G cR.an 0 Tryz.f155 1 _ cR.L1.st
abbrev cR.L1.Ok:=gz Tryz.prog cR.G cR.an 0 Tryz.f155 1 cR.L1.st cR.L1.az cR.L1.add cR.L1.F cR.L1.out
theorem cR.L0.run:b8 cR.L0.call cR.L0.az cR.L0.add cR.L0.F:=gR (gJ [.d tB,.d (.slice (.int .u32)),.d ti,.d tB] λ_=>by kernel_rfl)
theorem cR.L0.aI:jl @cR.L0.R cR.L0.st cR.L0.az cR.L0.add cR.L0.F cR.L0.bY cR.L0.Ok:=js
theorem cR.L0.step{R:Type}(p:Bs)(h:(List Int))(i:Int)(n2:Bs)(kn:AS->Option R)(kx:Exit->AS->Option R):cR.L0.R (p,h,i,n2) kn kx=
  aJ ((jM i (((List.length p):Nat):Int))) (
   aJ (inc (bV .i64 i (64:Int)) (((List.length p):Nat):Int)) (
   aJ (inc i (((Int.toNat (bV .i64 i (64:Int))):Nat):Int)) (
   ah (aS.call (h,(cut p (Int.toNat i) ((Int.toNat (bV .i64 i (64:Int))) - (Int.toNat i))))) λx1=>
   kn (cR.L0.st (p,x1,(bV .i64 i (64:Int)),n2))) none) none) (
   kx (cR.L0.bY (n2,h)).1 (cR.L0.bY (n2,h)).2):=by kernel_rfl
theorem cR.L1.run:b8 cR.L1.call cR.L1.az cR.L1.add cR.L1.F:=gR (gJ [.d (.slice (.int .u32)),.d ti,.d tB,.d tB] λ_=>by kernel_rfl)
theorem cR.L1.aI:jl @cR.L1.R cR.L1.st cR.L1.az cR.L1.add cR.L1.F cR.L1.bY cR.L1.Ok:=js
theorem cR.L1.step{R:Type}(sW:(List Int))(kQ:Int)(lR:Bs)(n6:Bs)(kn:AS->Option R)(kx:Exit->AS->Option R):cR.L1.R (sW,kQ,lR,n6) kn kx=
  aJ ((jM kQ (32:Int))) (
   aJ (fB (qs .i64 kQ (4:Int)) (((List.length sW):Nat):Int)) (
   aJ (nr (cY .i64 (24:Int) (gY .i64 (8:Int) (iN kQ (4:Int))))) (
   aJ (fB kQ (32:Int)) (
   aJ (decide ((Int.toNat kQ) < (List.length n6))) (
   aJ (decide ((((Int.toNat kQ)*1)+0)=(0+((Int.toNat kQ)*1)))) (
   aJ (decide ((Int.toNat kQ) < (List.length n6))) (
   kn (cR.L1.st (sW,(bV .i64 kQ (1:Int)),lR,(List.set n6 (Int.toNat kQ) (fa .u8 (cX .u32 (nth (.int .u32) sW (Int.toNat (qs .i64 kQ (4:Int)))) (cY .i64 (24:Int) (gY .i64 (8:Int) (iN kQ (4:Int)))))))))) none) none) none) none) none) none) (
   kx (cR.L1.bY (lR,n6)).1 (cR.L1.bY (lR,n6)).2):=by kernel_rfl
theorem cR.eq{R:Type}(b:Bs)(k:aX->Option R):cR.A b k=
 ah (aG.call b) λx1=>
 ah (ee.call ()) λx2=>
 ah (cR.L0.call (x1,x2,(0:Int),(List.replicate 32 (0:Int)))) λx4=>
 ah (cR.L1.call (x4.2,(0:Int),x4.1,(List.replicate 32 (0:Int)))) λx5=>
 k (cR.out x5.2):=by kernel_rfl
theorem cR.L0.ok:cR.L0.Ok:=by
 refine cR.L0.aI (λ(p,h,i,n2)=>p.length - i.toNat) ?_
 rintro⟨p,h,i,n2⟩ ⟨hm,hb,s,k,rfl,rfl,hk⟩
 have hm:p.length%64=0:=hm
 have hb:p.length<=140737488355328:=hb
 have hk:64*k<=p.length:=hk
 by_cases mw:64*k < p.length
 ·left
  have e1:cut p (64*k) (64*k+64 - 64*k)=(p.drop (64*k)).take 64:=by unfold cut;rw[show 64*k+64 - 64*k=64 by omega]
  have e2:(p.drop (64*k)).drop 64=p.drop (64*(k+1)):=by rw[iW];congr 1
  have e3:(64*(k+1):Nat)=64*k+64:=by omega
  have p1:aS.az (s.l,(p.drop (64*k)).take 64):=⟨⟨s,rfl⟩,by simp;omega⟩
  refine⟨(p,(zV s ((p.drop (64*k)).take 64)).l,((64*(k+1):Nat):Int),n2),⟨hm,hb,_,k+1,rfl,rfl,by omega⟩,by simp only[aa];omega,?_,λkn kx=> ?_⟩
  ·simp only[cR.L0.add,cR.L0.F,ns,aa]
   rw[vE s (p.drop (64*k)) (by simp;omega),e2]
  ·rw[cR.L0.step]
   simp(disch:=omega) only[↓S1,↓if_pos,↓if_neg,if_pos,if_neg,if_true,if_false,S2,e1,aS.run p1,aS.add,aS.F,ns,e3]
 ·right
  intro R kn kx
  rw[cR.L0.step]
  simp(disch:=omega) only[↓S1,↓if_pos,↓if_neg,if_pos,if_neg,if_true,if_false,S2,cR.L0.add,cR.L0.F,ns]
  rw[uA s _ (by simp;omega)]
theorem cR.L1.ok:cR.L1.Ok:=by
 refine cR.L1.aI (λ(h,i,n2,l)=>32 - i.toNat) ?_
 rintro⟨h,i,n2,l⟩ ⟨h8,hl,k,hk,rfl⟩
 have hl:l.length=32:=hl
 have h8:h.length=8:=h8
 by_cases mw:k < 32
 ·left
  refine⟨(h,((k+1:Nat):Int),n2,l.set k (xg h k l[k])),⟨h8,by simpa using hl,k+1,by omega,rfl⟩,by simp only[aa];omega,?_,λkn kx=> ?_⟩
  ·simp only[cR.L1.add,cR.L1.F,aa]
   rw[wH (xg h) l k (by omega)]
  ·rw[cR.L1.step]
   simp(disch:=omega) only[↓S1,↓if_pos,↓if_neg,if_pos,if_neg,if_true,if_false,S2,hl,h8,kc,dR,bl,xg]
 ·right
  obtain rfl:k=32:=by omega
  intro R kn kx
  rw[cR.L1.step]
  simp(disch:=omega) only[↓S1,↓if_pos,↓if_neg,if_pos,if_neg,if_true,if_false,S2,cR.L1.add,cR.L1.F]
  rw[yu _ _ _ (by omega)]
theorem I4(b:List Int):(pad b).length%64=0/\(pad b).length<=b.length+73:=by
 unfold pad
 simp only[aj,aO,eo,dO,sK]
 omega
theorem cR.ok:cR.Ok:=by
 intro b hb
 have hb:b.length<=140737488350000:=hb
 have p1:aG.az b:=hb
 obtain⟨h1,h2⟩:=I4 b
 have p2:cR.L0.az (pad b,po.l,0,List.replicate 32 0):=⟨h1,by omega,po,0,rfl,rfl,by omega⟩
 have p3:cR.L1.az ((blocks po (pad b)).l,0,List.replicate 32 0,List.replicate 32 0):=⟨rfl,rfl,0,by omega,rfl⟩
 rw[cR.eq]
 simp(disch:=omega) only[↓S1,↓if_pos,↓if_neg,if_pos,if_neg,if_true,if_false,S2,aG.run p1,aG.add,aG.F,ee.run (d:=()) trivial,ee.add,ee.F,cR.L0.run p2,cR.L0.add,cR.L0.F,ns,bH,aW,cR.L1.run p3,cR.L1.add,cR.L1.F,Kb]
 rfl
def cR.E:=Entry.dp [some tB] cR.st cR.az cR.add cR.F cR.out
def cR.call:cR.D->Option cR.X:=bX cR.E cR.st
theorem cR.run:b8 cR.call cR.az cR.add cR.F:=dv (du [.d tB] λ_=>by kernel_rfl)
def cR.sg:SG Tryz.prog:=⟨155,aP,cR.E,.fn 2 (by kernel_rfl) cR.ok (And.intro (.dp cR.L0.ok (by kernel_rfl)) (And.intro (.dp cR.L1.ok (by kernel_rfl)) trivial))⟩
abbrev gH.D:=Int
def gH.st:gH.D->SA:=λn=>([.d tu n],[])
abbrev gH.Y:=Nat×(List Int)
abbrev gH.X:=Nat×(List Int)
def gH.out:gH.X->aX:=λx=>⟨.di (.new 0 0) 0 [] 0 0 x.1,[],[.obj 0 false (.vec 5 tb x.2)]⟩
def gH.add:gH.D->gH.Y->gH.X:=λn y=>y
def gH.az:gH.D->Prop:=λn=>0<=n/\n < 18446744073709551616
def gH.F:gH.D->gH.Y:=λn=>(8,mn n)
def gH.G:fD:=gr (P:=Tryz.prog) []
def gH.an:fR:= {loops:=om [(3,{bO:=[0,3,4],sites:=[15]})],outs:=oh [(3,{bO:=[3],sites:=[15]},{bO:=[2],sites:=[15]})],nR:=[⟨2,[],15,135⟩]}
def gH.A:= @dm Tryz.prog gH.G gH.an 10 Tryz.f154 _ gH.st
abbrev gH.Ok:=dn @gH.A gH.az gH.add gH.F gH.out
theorem gH.eq{R:Type}(n:Int)(k:aX->Option R):gH.A n k=
 k (gH.out (8,[(fa .u8 (cX .u64 n (56:Int))),(fa .u8 (cX .u64 n (48:Int))),(fa .u8 (cX .u64 n (40:Int))),(fa .u8 (cX .u64 n (32:Int))),(fa .u8 (cX .u64 n (24:Int))),(fa .u8 (cX .u64 n (16:Int))),(fa .u8 (cX .u64 n (8:Int))),(fa .u8 (cX .u64 n (0:Int)))])):=by kernel_rfl
theorem gH.ok:gH.Ok:=by
 intro n _
 have e:∀k:Nat,k<=64->fa .u8 (cX .u64 n (k:Int))=n / 2^k%256:=λk hk=>HX n k hk
 rw[gH.eq]
 have e56:fa .u8 (cX .u64 n 56)=n / 2^56%256:=e 56 (by omega)
 have e48:fa .u8 (cX .u64 n 48)=n / 2^48%256:=e 48 (by omega)
 have e40:fa .u8 (cX .u64 n 40)=n / 2^40%256:=e 40 (by omega)
 have e32:fa .u8 (cX .u64 n 32)=n / 2^32%256:=e 32 (by omega)
 have e24:fa .u8 (cX .u64 n 24)=n / 2^24%256:=e 24 (by omega)
 have e16:fa .u8 (cX .u64 n 16)=n / 2^16%256:=e 16 (by omega)
 have e8:fa .u8 (cX .u64 n 8)=n / 2^8%256:=e 8 (by omega)
 have e0:=e 0 (by omega)
 rw[e56,e48,e40,e32,e24,e16,e8]
 have e0:fa .u8 (cX .u64 n 0)=n%256:=by rw[show(0:Int)=((0:Nat):Int) from rfl,e0];simp
 rw[e0]
 rfl
def gH.E:=Entry.dp [some tu] gH.st gH.az gH.add gH.F gH.out
def gH.call:gH.D->Option gH.X:=bX gH.E gH.st
theorem gH.run:b8 gH.call gH.az gH.add gH.F:=dv (du [.d tu] λ_=>by kernel_rfl)
def gH.sg:SG Tryz.prog:=⟨154,aP,gH.E,.fn 1 (by kernel_rfl) gH.ok (And.intro (.none (by kernel_rfl)) trivial)⟩
abbrev eM.L0.D:=(List Bs)×Nat×Int×Bs×(List Int)
def eM.L0.st:eM.L0.D->AS:=λ(pc,bL,i,n4,Pv)=>⟨([.undef,.d (.slice tB) pc,.undef,.undef,.ptr (.new 4 0) 0 [] 0,.di (.new 11 0) 0 [] 0 0 bL,.d ti i]++bG 32 []),[],(dh 4 ([[.obj 0 false (.d tH n4)]]++dh 6 ([[.obj 0 false (.vec 5 tb Pv)]]++dh 27 [])))⟩
abbrev eM.L0.Y0:=Nat×(List Int)
abbrev eM.L0.X0:=(Bs)×(Nat×(List Int))
def eM.L0.bY:eM.L0.X0->Exit×AS:=λx=>(.exit 0,⟨(bG 4 ([.ptr (.new 4 0) 0 [] 0,.di (.new 11 0) 0 [] 0 0 x.2.1]++bG 33 [])),[],(dh 4 ([[.obj 0 false (.d tH x.1)]]++dh 6 ([[.obj 0 false (.vec 5 tb x.2.2)]]++dh 27 [])))⟩)
abbrev eM.L0.X:=eM.L0.X0
abbrev eM.L0.Y:=eM.L0.Y0
def eM.L0.out:eM.L0.X->Out (Exit×AS):=λx=> .ok (eM.L0.bY x)
def eM.L0.add:eM.L0.D->eM.L0.Y->eM.L0.X:=λ(pc,bL,i,n4,Pv) y=>(n4,y)
abbrev eM.D:=ByteArray×(List Bs)
def eM.st:eM.D->SA:=λ(name,parts)=>([.d .str name,.d (.slice tB) parts],[])
abbrev eM.Y:=Bs
abbrev eM.X:=Bs
def eM.out:eM.X->aX:=λx=>⟨.d tH x,[],[]⟩
def eM.add:eM.D->eM.Y->eM.X:=λ(name,parts) y=>y
def eM.L0.az:eM.L0.D->Prop:=λ(ps,m,i,n4,l)=>m=l.length/\∃k:Nat,k<=ps.length/\ps.length<=140737488350000/\i=k/\l.length+(nC (ps.drop k)).length<=140737488350000
def eM.L0.F:eM.L0.D->eM.L0.Y:=λ(ps,m,i,n4,l)=>(l.length+(nC (ps.drop i.toNat)).length,l++nC (ps.drop i.toNat))
def eM.az:eM.D->Prop:=λ(name,ps)=>(Al (cm name) ps).length<=140737488350000
def eM.F:eM.D->eM.Y:=λ(name,ps)=>tag (cm name) ps
def eM.G:fD:=gr (P:=Tryz.prog) [gH.sg,cR.sg]
def eM.L0.E:=cU.dp eM.L0.st eM.L0.az eM.L0.add eM.L0.F eM.L0.out
def eM.L0.call:eM.L0.D->Option eM.L0.X:=eI eM.L0.E eM.L0.st
def eM.an:fR:= {loops:=om [(3,{bO:=[1,4,5,6],sites:=[4,11],nR:=[⟨5,[],11,135⟩]})],outs:=oh [(3,{bO:=[4,5],sites:=[4,11]},{bO:=[4]})],jo:=pb [(3,eM.L0.E)]}
def eM.A:= @dm Tryz.prog eM.G eM.an 0 Tryz.f113 _ eM.st
abbrev eM.Ok:=dn @eM.A eM.az eM.add eM.F eM.out
def eM.L0.R:= @dr Tryz.prog eM.G eM.an 0 Tryz.f113 0 _ eM.L0.st
abbrev eM.L0.Ok:=gz Tryz.prog eM.G eM.an 0 Tryz.f113 0 eM.L0.st eM.L0.az eM.L0.add eM.L0.F eM.L0.out
theorem eM.L0.run:b8 eM.L0.call eM.L0.az eM.L0.add eM.L0.F:=gR (gJ [.d (.slice tB),.n,.d ti,.d tB,.d tB] λ_=>by kernel_rfl)
theorem eM.L0.aI:jl @eM.L0.R eM.L0.st eM.L0.az eM.L0.add eM.L0.F eM.L0.bY eM.L0.Ok:=js
theorem eM.L0.step{R:Type}(pc:(List Bs))(bL:Nat)(i:Int)(n4:Bs)(Pv:(List Int))(kn:AS->Option R)(kx:Exit->AS->Option R):eM.L0.R (pc,bL,i,n4,Pv) kn kx=
  aJ ((jM i (((List.length pc):Nat):Int))) (
   aJ (fB i (((List.length pc):Nat):Int)) (
   ah (gH.call (fa .u64 (((List.length (nth tB pc (Int.toNat i))):Nat):Int))) λx1=>
   aJ (decide (0=0/\(0+x1.1)<=(List.length x1.2))) (
   aJ (decide (bL<=(List.length Pv))) (
   aJ (fq (bL+(List.length (cut x1.2 0 x1.1))) 1) (
   aJ (fB i (((List.length pc):Nat):Int)) (
   aJ (decide ((bL+(List.length (cut x1.2 0 x1.1)))<=(List.length ((List.take bL Pv)++(cut x1.2 0 x1.1))))) (
   aJ (fq ((bL+(List.length (cut x1.2 0 x1.1)))+(List.length (nth tB pc (Int.toNat i)))) 1) (
   kn (eM.L0.st (pc,((bL+(List.length (cut x1.2 0 x1.1)))+(List.length (nth tB pc (Int.toNat i)))),(bV .i64 i (1:Int)),n4,((List.take (bL+(List.length (cut x1.2 0 x1.1))) ((List.take bL Pv)++(cut x1.2 0 x1.1)))++(nth tB pc (Int.toNat i)))))) none) none) none) none) none) none) none) (
   kx (eM.L0.bY (n4,(bL,Pv))).1 (eM.L0.bY (n4,(bL,Pv))).2):=by kernel_rfl
theorem eM.eq{R:Type}(name:ByteArray)(parts:(List Bs))(k:aX->Option R):eM.A (name,parts) k=
 ah (gH.call (fa .u64 (((ByteArray.size name):Nat):Int))) λx1=>
 aJ (decide (x1.1<=(List.length x1.2))) (
 aJ (fq (x1.1+(List.length (cm name))) 1) (
 ah (eM.L0.call (parts,(x1.1+(List.length (cm name))),(0:Int),(List.replicate 32 (0:Int)),((List.take x1.1 x1.2)++(cm name)))) λx4=>
 aJ (decide (0=0/\(0+x4.2.1)<=(List.length x4.2.2))) (
 ah (cR.call (cut x4.2.2 0 x4.2.1)) λx5=>
 k (eM.out x5)) none) none) none:=by kernel_rfl
theorem Kv{n:Nat}(h:n < 18446744073709551616):fa .u64 ((n:Nat):Int)=n:=by rw[Fo,kP];omega
theorem gH.at{n:Nat}(h:n < 18446744073709551616):gH.call (n:Int)=some (8,mn (n:Int)):=gH.run (d:=(n:Int)) (show 0<=(n:Int)/\(n:Int) < 18446744073709551616 from⟨by omega,by omega⟩)
theorem SZ{l:List Int}{n:Nat}(h:l.length=n):cut l 0 n=l:=by unfold cut;rw[aW,cj (by omega)]
theorem eM.L0.ok:eM.L0.Ok:=by
 refine eM.L0.aI (λ(ps,m,i,n4,l)=>ps.length - i.toNat) ?_
 rintro⟨ps,m,i,n4,l⟩ ⟨rfl,k,hk,wJ,rfl,hl⟩
 have hk:k<=ps.length:=hk
 have wJ:ps.length<=140737488350000:=wJ
 have hl:l.length+(nC (ps.drop k)).length<=140737488350000:=hl
 by_cases h:k < ps.length
 ·left
  have ht:=EN ps k h
  have hlen:(nC (ps.drop k)).length=8+ps[k].length+(nC (ps.drop (k+1))).length:=by rw[ht];simp only[aj,dO]
  have hn:nth (.slice (.int .u8)) ps k=ps[k]:=dQ (t:= .slice (.int .u8)) h
  have Pc:(l++mn (ps[k].length:Int)).length=l.length+8:=by simp[dO]
  refine⟨(ps,(l++mn ps[k].length++ps[k]).length,((k+1:Nat):Int),n4,l++mn ps[k].length++ps[k]),⟨rfl,k+1,by omega,wJ,rfl,?_⟩,by simp only[aa];omega,?_,λkn kx=> ?_⟩
  ·simp only[aj,dO];omega
  ·simp only[eM.L0.add,eM.L0.F,aa,ht,bR]
   simp only[aj,dO,gX]
  ·have c8:cut (mn (ps[k].length:Int)) 0 8=mn (ps[k].length:Int):=SZ (dO _)
   have Fj:ps[k].length < 18446744073709551616:=by omega
   rw[eM.L0.step]
   simp(disch:=omega) only[↓S1,↓if_pos,↓if_neg,if_pos,if_neg,if_true,if_false,S2,hn,Kv Fj,gH.at Fj,dO,c8,cQ,Pc,bl,aE,and_self,if_true]
   rw[cj (by rw[Pc];omega)]
   simp only[aj,dO,gX]
 ·right
  obtain rfl:k=ps.length:=by omega
  intro R kn kx
  rw[eM.L0.step]
  simp(disch:=omega) only[↓S1,↓if_pos,↓if_neg,if_pos,if_neg,if_true,if_false,S2,eM.L0.add,eM.L0.F,bB]
  simp[nC]
theorem eM.ok:eM.Ok:=by
 rintro⟨name,ps⟩ hp
 have hp:(mn (cm name).length++cm name++nC ps).length<=140737488350000:=hp
 have hl:(mn (cm name).length++cm name++nC ps).length=8+(cm name).length+(nC ps).length:=by simp only[aj,dO]
 have wJ:=Db ps
 have rI:name.size=(cm name).length:=by rw[lV]
 have Fj:(cm name).length < 18446744073709551616:=by omega
 have p2:eM.L0.az (ps,8+(cm name).length,0,List.replicate 32 0,mn ((cm name).length:Int)++cm name):=by
  refine⟨by simp only[aj,dO],0,bm _,by omega,rfl,?_⟩
  rw[aW]
  simp only[aj,dO]
  omega
 rw[eM.eq,rI]
 simp(disch:=omega) only[↓S1,↓if_pos,↓if_neg,if_pos,if_neg,if_true,if_false,S2,Kv Fj,gH.at Fj,dO,cj (Nat.le_of_eq (dO _)),eM.L0.run p2,eM.L0.add,eM.L0.F,bH,aW,bl]
 have K8:cut (mn ((cm name).length:Int)++cm name++nC ps) 0 ((mn ((cm name).length:Int)++cm name).length+(nC ps).length)=Al (cm name) ps:=SZ (by simp only[aj])
 have p3:cR.az (Al (cm name) ps):=hp
 rw[if_pos (by simp only[aj];omega),K8,cR.run p3]
 rfl
def eM.E:=Entry.dp [some .str,some (.slice tB)] eM.st eM.az eM.add eM.F eM.out
def eM.call:eM.D->Option eM.X:=bX eM.E eM.st
theorem eM.run:b8 eM.call eM.az eM.add eM.F:=dv (du [.d .str,.d (.slice tB)] λ_=>by kernel_rfl)
def eM.sg:SG Tryz.prog:=⟨113,aP,eM.E,.fn 1 (by kernel_rfl) eM.ok (And.intro (.dp eM.L0.ok (by kernel_rfl)) trivial)⟩
theorem zh{n:Int}(h1:0<=n)(h2:n < 18446744073709551616):IntKind.u64.wrap n=n:=by
 rw[wrap_u64,kP];omega
theorem zg(n:Int):IntKind.u64.wrap n=n%18446744073709551616:=by
 rw[wrap_u64,kP];rfl
theorem nv(x y:Int):bV .u64 x y=(x+y)%18446744073709551616:=zg _
theorem Bo(x y:Int):cY .u64 x y=(x - y)%18446744073709551616:=zg _
theorem qN(x y:Int):gY .u64 x y=(x*y)%18446744073709551616:=zg _
theorem IN(x:Int):fa .u64 x=x%18446744073709551616:=zg _
theorem Gi{x:Int}(h:0<=x)(h2:x < 18446744073709551616):dD .and .u64 x 4294967295=x%4294967296:=by
 obtain⟨n,rfl⟩:∃n:Nat,x=n:=⟨x.toNat,by omega⟩
 have e:(BitVec.ofInt 64 (n:Int) &&& BitVec.ofInt 64 4294967295).toNat=n%4294967296:=by
  rw[BitVec.toNat_and]
  have a:(BitVec.ofInt 64 (n:Int)).toNat=n:=by rw[nD,pf];omega
  have b:(BitVec.ofInt 64 4294967295).toNat=2^32 - 1:=by decide
  rw[a,b,Nat.and_two_pow_sub_one_eq_mod]
 show IntKind.u64.wrap ((BitVec.ofInt 64 (n:Int) &&& BitVec.ofInt 64 4294967295).toNat:Int)=_
 rw[e,zh (by omega) (by omega)];omega
theorem SS{x:Int}(h:0<=x)(h2:x < 18446744073709551616):dD .and .u64 x 1=x%2:=by
 obtain⟨n,rfl⟩:∃n:Nat,x=n:=⟨x.toNat,by omega⟩
 have e:(BitVec.ofInt 64 (n:Int) &&& BitVec.ofInt 64 1).toNat=n%2:=by
  rw[BitVec.toNat_and]
  have a:(BitVec.ofInt 64 (n:Int)).toNat=n:=by rw[nD,pf];omega
  have b:(BitVec.ofInt 64 1).toNat=2^1 - 1:=by decide
  rw[a,b,Nat.and_two_pow_sub_one_eq_mod]
 show IntKind.u64.wrap ((BitVec.ofInt 64 (n:Int) &&& BitVec.ofInt 64 1).toNat:Int)=_
 rw[e,zh (by omega) (by omega)];omega
theorem qR{x k:Int}(n:Nat)(hk:k=n)(hn:n<=64):cX .u64 x k=x / 2^n:=by
 subst hk
 rw[cX]
 have e:min (Int.toNat (n:Int)) IntKind.u64.bits=n:=by simp only[IntKind.bits];omega
 rw[e,lD _ (nU (Int.pow_pos (by omega)))]
theorem qQ{x k:Int}(n:Nat)(hk:k=n)(hn:n<=64):oC .u64 x k=x*2^n%18446744073709551616:=by
 subst hk
 rw[oC,zg]
 have e:min (Int.toNat (n:Int)) IntKind.u64.bits=n:=by simp only[IntKind.bits];omega
 rw[e]
theorem yP{x y:Int}(k:Nat)(m:Int)(hm:m=2^k)(hx:x%m=0)(h0:0<=x)(h1:x < 18446744073709551616)(hy:0<=y)(UG:y < m)(h2:x+y < 18446744073709551616):dD .or .u64 x y=x+y:=by
 subst hm
 obtain⟨n,rfl⟩:∃n:Nat,x=n:=⟨x.toNat,by omega⟩
 obtain⟨j,rfl⟩:∃j:Nat,y=j:=⟨y.toNat,by omega⟩
 have hx:n%2^k=0:=by
  have:((n%2^k:Nat):Int)=0:=by rw[nV];simpa using hx
  omega
 have hj:j < 2^k:=by
  have:((j:Nat):Int) < ((2^k:Nat):Int):=by simpa using UG
  omega
 obtain⟨q,rfl⟩:∃q,n=2^k*q:=⟨n / 2^k,by have:=Nat.div_add_mod n (2^k);omega⟩
 have e:(BitVec.ofInt 64 ((2^k*q:Nat):Int) ||| BitVec.ofInt 64 (j:Int)).toNat=2^k*q+j:=by
  rw[BitVec.toNat_or]
  have a:(BitVec.ofInt 64 ((2^k*q:Nat):Int)).toNat=2^k*q:=by rw[nD,pf];exact Nat.mod_eq_of_lt (by omega)
  have b:(BitVec.ofInt 64 (j:Int)).toNat=j:=by rw[nD,pf];exact Nat.mod_eq_of_lt (by omega)
  rw[a,b,Nat.two_pow_add_eq_or_of_lt hj]
 show IntKind.u64.wrap ((BitVec.ofInt 64 ((2^k*q:Nat):Int) ||| BitVec.ofInt 64 (j:Int)).toNat:Int)=_
 rw[e,zh (by omega) (by omega)];omega
theorem Ft{x y:Int}(h:0<=x)(h1:0<=y)(h2:x < 18446744073709551616):qs .u64 x y=x / y:=by
 rw[qs,lE h]
 exact zh (Int.ediv_nonneg h h1) (Int.lt_of_le_of_lt (Int.ediv_le_self _ h) h2)
theorem lh{x y:Int}(h:0<=x):iN x y=x%y:=by rw[iN,jX h]
theorem k1{e u w r q:Int}(he:e=42260\/e=42264\/e=42272)(hu:0<=u)(F5:u < 18446744073709551616 - e)(hw:0<=w)(M6:w < 4294967296)(hr:0<=r)(L8:r < 4294967296)
  (hq:q*4294967295+r=u) (hQ:(u*4294967296+w) / (18446744073709551616 - e)<=q):
  (4294967296<=q->(u*4294967296+w) / (18446744073709551616 - e)<=q - 1)/\
  (q < 4294967296->4294967296*r+w < q*(4294967296 - e)->(u*4294967296+w) / (18446744073709551616 - e)<=q - 1)/\
  (q < 4294967296->q*(4294967296 - e)<=4294967296*r+w->(u*4294967296+w) / (18446744073709551616 - e)=q)/\
  (4294967296<=r+4294967295->(u*4294967296+w) / (18446744073709551616 - e)<=q - 1->(u*4294967296+w) / (18446744073709551616 - e)=q - 1)/\0<=(u*4294967296+w) / (18446744073709551616 - e)/\q<=4294967297:=by
 rcases he with rfl | rfl | rfl
 ·refine⟨?_,?_,?_,?_,?_,?_⟩ <;> omega
 ·refine⟨?_,?_,?_,?_,?_,?_⟩ <;> omega
 ·refine⟨?_,?_,?_,?_,?_,?_⟩ <;> omega
theorem k0{e u w:Int}(he:e=42260\/e=42264\/e=42272)(hu:0<=u)(F5:u < 18446744073709551616 - e)(hw:0<=w)(M6:w < 4294967296):
  (u*4294967296+w) / (18446744073709551616 - e)<=u / 4294967295/\0<=u - u / 4294967295*4294967295/\u - u / 4294967295*4294967295 < 4294967296/\
  (u*4294967296+w) - (u*4294967296+w) / (18446744073709551616 - e)*(18446744073709551616 - e)=(u*4294967296+w)%(18446744073709551616 - e)/\
  0<=(u*4294967296+w)%(18446744073709551616 - e)/\(u*4294967296+w)%(18446744073709551616 - e) < 18446744073709551616 - e/\
  0<=(u*4294967296+w) / (18446744073709551616 - e)/\(u*4294967296+w) / (18446744073709551616 - e) < 4294967296:=by
 rcases he with rfl | rfl | rfl
 ·refine⟨?_,?_,?_,?_,?_,?_,?_,?_⟩ <;> omega
 ·refine⟨?_,?_,?_,?_,?_,?_,?_,?_⟩ <;> omega
 ·refine⟨?_,?_,?_,?_,?_,?_,?_,?_⟩ <;> omega
theorem kd(Y u w1 w0:Int)(hY:0 < Y)(h0:0<=w0)(h1:w0 < 4294967296):
  ((u*4294967296+w1)*4294967296+w0) / Y=(u*4294967296+w1) / Y*4294967296+((u*4294967296+w1)%Y*4294967296+w0) / Y/\
  ((u*4294967296+w1)*4294967296+w0)%Y=((u*4294967296+w1)%Y*4294967296+w0)%Y:=by
 generalize u*4294967296+w1=n
 have e:n*4294967296+w0=(n%Y*4294967296+w0)+Y*(n / Y*4294967296):=by
  have:=Int.emod_add_mul_ediv n Y
  have h:Y*(n / Y*4294967296)=(Y*(n / Y))*4294967296:=by rw[Int.mul_assoc]
  rw[h];omega
 rw[e,Int.add_mul_ediv_left _ _ (by omega),Int.add_mul_emod_self_left]
 exact⟨by omega,rfl⟩
abbrev gw.D:=Int
def gw.st:gw.D->SA:=λx=>([.d tu x],[])
abbrev gw.Y:=Int
abbrev gw.X:=Int
def gw.out:gw.X->aX:=λx=>⟨.d ti x,[],[]⟩
def gw.add:gw.D->gw.Y->gw.X:=λx y=>y
def T0(y:Int):Prop:=y=4611686018427377339\/y=2305843009213688669\/y=2305843009213688668
def gw.az:gw.D->Prop:=T0
def gw.F:gw.D->gw.Y:=λy=>if y=4611686018427377339 then 62 else 61
def gw.G:fD:=gr (P:=Tryz.prog) []
def gw.an:fR:= {}
def gw.A:= @dm Tryz.prog gw.G gw.an 0 Tryz.f189 _ gw.st
abbrev gw.Ok:=dn @gw.A gw.az gw.add gw.F gw.out
theorem gw.eq{R:Type}(x:Int)(k:aX->Option R):gw.A x k=
  aJ ((qu x (4294967296:Int))) (
   aJ ((qu (cX .u64 x (32:Int)) (65536:Int))) (
    aJ ((qu (cX .u64 (cX .u64 x (32:Int)) (16:Int)) (256:Int))) (
     aJ (fB (fa .u8 (cX .u64 (cX .u64 (cX .u64 x (32:Int)) (16:Int)) (8:Int))) (256:Int)) (
     k (gw.out (bV .i64 (56:Int) (fa .i64 (HH (⟨#[0,1,2,2,3,3,3,3,4,4,4,4,4,4,4,4,5,5,5,5,5,5,5,5,5,5,5,5,5,5,5,5,6,6,6,6,6,6,6,6,6,6,6,6,6,6,6,6,6,6,6,6,6,6,6,6,6,6,6,6,6,6,6,6,7,7,7,7,7,7,7,7,7,7,7,7,7,7,7,7,7,7,7,7,7,7,7,7,7,7,7,7,7,7,7,7,7,7,7,7,7,7,7,7,7,7,7,7,7,7,7,7,7,7,7,7,7,7,7,7,7,7,7,7,7,7,7,7,8,8,8,8,8,8,8,8,8,8,8,8,8,8,8,8,8,8,8,8,8,8,8,8,8,8,8,8,8,8,8,8,8,8,8,8,8,8,8,8,8,8,8,8,8,8,8,8,8,8,8,8,8,8,8,8,8,8,8,8,8,8,8,8,8,8,8,8,8,8,8,8,8,8,8,8,8,8,8,8,8,8,8,8,8,8,8,8,8,8,8,8,8,8,8,8,8,8,8,8,8,8,8,8,8,8,8,8,8,8,8,8,8,8,8,8,8,8,8,8,8,8,8,8,8,8,8,8]⟩:ByteArray) (fa .u8 (cX .u64 (cX .u64 (cX .u64 x (32:Int)) (16:Int)) (8:Int)))))))) none) (
     aJ (fB (fa .u8 (cX .u64 (cX .u64 x (32:Int)) (16:Int))) (256:Int)) (
     k (gw.out (bV .i64 (48:Int) (fa .i64 (HH (⟨#[0,1,2,2,3,3,3,3,4,4,4,4,4,4,4,4,5,5,5,5,5,5,5,5,5,5,5,5,5,5,5,5,6,6,6,6,6,6,6,6,6,6,6,6,6,6,6,6,6,6,6,6,6,6,6,6,6,6,6,6,6,6,6,6,7,7,7,7,7,7,7,7,7,7,7,7,7,7,7,7,7,7,7,7,7,7,7,7,7,7,7,7,7,7,7,7,7,7,7,7,7,7,7,7,7,7,7,7,7,7,7,7,7,7,7,7,7,7,7,7,7,7,7,7,7,7,7,7,8,8,8,8,8,8,8,8,8,8,8,8,8,8,8,8,8,8,8,8,8,8,8,8,8,8,8,8,8,8,8,8,8,8,8,8,8,8,8,8,8,8,8,8,8,8,8,8,8,8,8,8,8,8,8,8,8,8,8,8,8,8,8,8,8,8,8,8,8,8,8,8,8,8,8,8,8,8,8,8,8,8,8,8,8,8,8,8,8,8,8,8,8,8,8,8,8,8,8,8,8,8,8,8,8,8,8,8,8,8,8,8,8,8,8,8,8,8,8,8,8,8,8,8,8,8,8,8]⟩:ByteArray) (fa .u8 (cX .u64 (cX .u64 x (32:Int)) (16:Int)))))))) none)) (
    aJ ((qu (cX .u64 x (32:Int)) (256:Int))) (
     aJ (fB (fa .u8 (cX .u64 (cX .u64 x (32:Int)) (8:Int))) (256:Int)) (
     k (gw.out (bV .i64 (40:Int) (fa .i64 (HH (⟨#[0,1,2,2,3,3,3,3,4,4,4,4,4,4,4,4,5,5,5,5,5,5,5,5,5,5,5,5,5,5,5,5,6,6,6,6,6,6,6,6,6,6,6,6,6,6,6,6,6,6,6,6,6,6,6,6,6,6,6,6,6,6,6,6,7,7,7,7,7,7,7,7,7,7,7,7,7,7,7,7,7,7,7,7,7,7,7,7,7,7,7,7,7,7,7,7,7,7,7,7,7,7,7,7,7,7,7,7,7,7,7,7,7,7,7,7,7,7,7,7,7,7,7,7,7,7,7,7,8,8,8,8,8,8,8,8,8,8,8,8,8,8,8,8,8,8,8,8,8,8,8,8,8,8,8,8,8,8,8,8,8,8,8,8,8,8,8,8,8,8,8,8,8,8,8,8,8,8,8,8,8,8,8,8,8,8,8,8,8,8,8,8,8,8,8,8,8,8,8,8,8,8,8,8,8,8,8,8,8,8,8,8,8,8,8,8,8,8,8,8,8,8,8,8,8,8,8,8,8,8,8,8,8,8,8,8,8,8,8,8,8,8,8,8,8,8,8,8,8,8,8,8,8,8,8,8]⟩:ByteArray) (fa .u8 (cX .u64 (cX .u64 x (32:Int)) (8:Int)))))))) none) (
     aJ (fB (fa .u8 (cX .u64 x (32:Int))) (256:Int)) (
     k (gw.out (bV .i64 (32:Int) (fa .i64 (HH (⟨#[0,1,2,2,3,3,3,3,4,4,4,4,4,4,4,4,5,5,5,5,5,5,5,5,5,5,5,5,5,5,5,5,6,6,6,6,6,6,6,6,6,6,6,6,6,6,6,6,6,6,6,6,6,6,6,6,6,6,6,6,6,6,6,6,7,7,7,7,7,7,7,7,7,7,7,7,7,7,7,7,7,7,7,7,7,7,7,7,7,7,7,7,7,7,7,7,7,7,7,7,7,7,7,7,7,7,7,7,7,7,7,7,7,7,7,7,7,7,7,7,7,7,7,7,7,7,7,7,8,8,8,8,8,8,8,8,8,8,8,8,8,8,8,8,8,8,8,8,8,8,8,8,8,8,8,8,8,8,8,8,8,8,8,8,8,8,8,8,8,8,8,8,8,8,8,8,8,8,8,8,8,8,8,8,8,8,8,8,8,8,8,8,8,8,8,8,8,8,8,8,8,8,8,8,8,8,8,8,8,8,8,8,8,8,8,8,8,8,8,8,8,8,8,8,8,8,8,8,8,8,8,8,8,8,8,8,8,8,8,8,8,8,8,8,8,8,8,8,8,8,8,8,8,8,8,8]⟩:ByteArray) (fa .u8 (cX .u64 x (32:Int)))))))) none))) (
   aJ ((qu x (65536:Int))) (
    aJ ((qu (cX .u64 x (16:Int)) (256:Int))) (
     aJ (fB (fa .u8 (cX .u64 (cX .u64 x (16:Int)) (8:Int))) (256:Int)) (
     k (gw.out (bV .i64 (24:Int) (fa .i64 (HH (⟨#[0,1,2,2,3,3,3,3,4,4,4,4,4,4,4,4,5,5,5,5,5,5,5,5,5,5,5,5,5,5,5,5,6,6,6,6,6,6,6,6,6,6,6,6,6,6,6,6,6,6,6,6,6,6,6,6,6,6,6,6,6,6,6,6,7,7,7,7,7,7,7,7,7,7,7,7,7,7,7,7,7,7,7,7,7,7,7,7,7,7,7,7,7,7,7,7,7,7,7,7,7,7,7,7,7,7,7,7,7,7,7,7,7,7,7,7,7,7,7,7,7,7,7,7,7,7,7,7,8,8,8,8,8,8,8,8,8,8,8,8,8,8,8,8,8,8,8,8,8,8,8,8,8,8,8,8,8,8,8,8,8,8,8,8,8,8,8,8,8,8,8,8,8,8,8,8,8,8,8,8,8,8,8,8,8,8,8,8,8,8,8,8,8,8,8,8,8,8,8,8,8,8,8,8,8,8,8,8,8,8,8,8,8,8,8,8,8,8,8,8,8,8,8,8,8,8,8,8,8,8,8,8,8,8,8,8,8,8,8,8,8,8,8,8,8,8,8,8,8,8,8,8,8,8,8,8]⟩:ByteArray) (fa .u8 (cX .u64 (cX .u64 x (16:Int)) (8:Int)))))))) none) (
     aJ (fB (fa .u8 (cX .u64 x (16:Int))) (256:Int)) (
     k (gw.out (bV .i64 (16:Int) (fa .i64 (HH (⟨#[0,1,2,2,3,3,3,3,4,4,4,4,4,4,4,4,5,5,5,5,5,5,5,5,5,5,5,5,5,5,5,5,6,6,6,6,6,6,6,6,6,6,6,6,6,6,6,6,6,6,6,6,6,6,6,6,6,6,6,6,6,6,6,6,7,7,7,7,7,7,7,7,7,7,7,7,7,7,7,7,7,7,7,7,7,7,7,7,7,7,7,7,7,7,7,7,7,7,7,7,7,7,7,7,7,7,7,7,7,7,7,7,7,7,7,7,7,7,7,7,7,7,7,7,7,7,7,7,8,8,8,8,8,8,8,8,8,8,8,8,8,8,8,8,8,8,8,8,8,8,8,8,8,8,8,8,8,8,8,8,8,8,8,8,8,8,8,8,8,8,8,8,8,8,8,8,8,8,8,8,8,8,8,8,8,8,8,8,8,8,8,8,8,8,8,8,8,8,8,8,8,8,8,8,8,8,8,8,8,8,8,8,8,8,8,8,8,8,8,8,8,8,8,8,8,8,8,8,8,8,8,8,8,8,8,8,8,8,8,8,8,8,8,8,8,8,8,8,8,8,8,8,8,8,8,8]⟩:ByteArray) (fa .u8 (cX .u64 x (16:Int)))))))) none)) (
    aJ ((qu x (256:Int))) (
     aJ (fB (fa .u8 (cX .u64 x (8:Int))) (256:Int)) (
     k (gw.out (bV .i64 (8:Int) (fa .i64 (HH (⟨#[0,1,2,2,3,3,3,3,4,4,4,4,4,4,4,4,5,5,5,5,5,5,5,5,5,5,5,5,5,5,5,5,6,6,6,6,6,6,6,6,6,6,6,6,6,6,6,6,6,6,6,6,6,6,6,6,6,6,6,6,6,6,6,6,7,7,7,7,7,7,7,7,7,7,7,7,7,7,7,7,7,7,7,7,7,7,7,7,7,7,7,7,7,7,7,7,7,7,7,7,7,7,7,7,7,7,7,7,7,7,7,7,7,7,7,7,7,7,7,7,7,7,7,7,7,7,7,7,8,8,8,8,8,8,8,8,8,8,8,8,8,8,8,8,8,8,8,8,8,8,8,8,8,8,8,8,8,8,8,8,8,8,8,8,8,8,8,8,8,8,8,8,8,8,8,8,8,8,8,8,8,8,8,8,8,8,8,8,8,8,8,8,8,8,8,8,8,8,8,8,8,8,8,8,8,8,8,8,8,8,8,8,8,8,8,8,8,8,8,8,8,8,8,8,8,8,8,8,8,8,8,8,8,8,8,8,8,8,8,8,8,8,8,8,8,8,8,8,8,8,8,8,8,8,8,8]⟩:ByteArray) (fa .u8 (cX .u64 x (8:Int)))))))) none) (
     aJ (fB (fa .u8 x) (256:Int)) (
     k (gw.out (bV .i64 (0:Int) (fa .i64 (HH (⟨#[0,1,2,2,3,3,3,3,4,4,4,4,4,4,4,4,5,5,5,5,5,5,5,5,5,5,5,5,5,5,5,5,6,6,6,6,6,6,6,6,6,6,6,6,6,6,6,6,6,6,6,6,6,6,6,6,6,6,6,6,6,6,6,6,7,7,7,7,7,7,7,7,7,7,7,7,7,7,7,7,7,7,7,7,7,7,7,7,7,7,7,7,7,7,7,7,7,7,7,7,7,7,7,7,7,7,7,7,7,7,7,7,7,7,7,7,7,7,7,7,7,7,7,7,7,7,7,7,8,8,8,8,8,8,8,8,8,8,8,8,8,8,8,8,8,8,8,8,8,8,8,8,8,8,8,8,8,8,8,8,8,8,8,8,8,8,8,8,8,8,8,8,8,8,8,8,8,8,8,8,8,8,8,8,8,8,8,8,8,8,8,8,8,8,8,8,8,8,8,8,8,8,8,8,8,8,8,8,8,8,8,8,8,8,8,8,8,8,8,8,8,8,8,8,8,8,8,8,8,8,8,8,8,8,8,8,8,8,8,8,8,8,8,8,8,8,8,8,8,8,8,8,8,8,8,8]⟩:ByteArray) (fa .u8 x)))))) none))):=by kernel_rfl
theorem gw.ok:gw.Ok:=by
 intro y h
 rw[gw.eq]
 obtain rfl | rfl | rfl:=h <;> kernel_rfl
def gw.E:=Entry.dp [some tu] gw.st gw.az gw.add gw.F gw.out
def gw.call:gw.D->Option gw.X:=bX gw.E gw.st
theorem gw.run:b8 gw.call gw.az gw.add gw.F:=dv (du [.d tu] λ_=>by kernel_rfl)
def gw.sg:SG Tryz.prog:=⟨189,aP,gw.E,.fn 0 (by kernel_rfl) gw.ok trivial⟩
abbrev ki.D:=Int
def ki.st:ki.D->SA:=λx=>([.d tu x],[])
abbrev ki.Y:=Int
abbrev ki.X:=Int
def ki.out:ki.X->aX:=λx=>⟨.d ti x,[],[]⟩
def ki.add:ki.D->ki.Y->ki.X:=λx y=>y
def ki.az:ki.D->Prop:=T0
def ki.F:ki.D->ki.Y:=λy=>if y=4611686018427377339 then 2 else 3
def ki.G:fD:=gr (P:=Tryz.prog) [gw.sg]
def ki.an:fR:= {}
def ki.A:= @dm Tryz.prog ki.G ki.an 0 Tryz.f183 _ ki.st
abbrev ki.Ok:=dn @ki.A ki.az ki.add ki.F ki.out
theorem ki.eq{R:Type}(x:Int)(k:aX->Option R):ki.A x k=
 ah (gw.call x) λx1=>
 k (ki.out (cY .i64 (64:Int) x1)):=by kernel_rfl
theorem ki.ok:ki.Ok:=by
 intro y h
 rw[ki.eq,gw.run (d:=y) h]
 obtain rfl | rfl | rfl:=h <;> rfl
def ki.E:=Entry.dp [some tu] ki.st ki.az ki.add ki.F ki.out
def ki.call:ki.D->Option ki.X:=bX ki.E ki.st
theorem ki.run:b8 ki.call ki.az ki.add ki.F:=dv (du [.d tu] λ_=>by kernel_rfl)
def ki.sg:SG Tryz.prog:=⟨183,aP,ki.E,.fn 0 (by kernel_rfl) ki.ok trivial⟩
abbrev bA.L0.D:=Int×Int×Int×Int×Int×Int×Int×Int×Int
def bA.L0.st:bA.L0.D->AS:=λ(Ao,sv,yn1,yn0,un32,un1,un0,q1,rhat)=>⟨([.undef,.undef,.d tu Ao]++bG 5 ([.d tu sv,.d tu yn1,.d tu yn0,.d tu un32,.undef,.d tu un1,.d tu un0,.d tu q1,.d tu rhat]++bG 118 [])),[],(List.replicate 135 [])⟩
abbrev bA.L0.Y0:=Int
abbrev bA.L0.X0:=(Int×Int×Int×Int×Int×Int×Int)×(Int)
def bA.L0.bY:bA.L0.X0->Exit×AS:=λx=>(.exit 0,⟨([.undef,.undef,.d tu x.1.1]++bG 5 ([.d tu x.1.2.1,.d tu x.1.2.2.1,.d tu x.1.2.2.2.1,.d tu x.1.2.2.2.2.1,.undef,.d tu x.1.2.2.2.2.2.1,.d tu x.1.2.2.2.2.2.2,.d tu x.2]++bG 119 [])),[],(List.replicate 135 [])⟩)
abbrev bA.L0.X:=bA.L0.X0
abbrev bA.L0.Y:=bA.L0.Y0
def bA.L0.out:bA.L0.X->Out (Exit×AS):=λx=> .ok (bA.L0.bY x)
def bA.L0.add:bA.L0.D->bA.L0.Y->bA.L0.X:=λ(Ao,sv,yn1,yn0,un32,un1,un0,q1,rhat) y=>((Ao,sv,yn1,yn0,un32,un1,un0),y)
abbrev bA.L1.D:=Int×Int×Int×Int×Int×Int×Int×Int×Int
def bA.L1.st:bA.L1.D->AS:=λ(Ap,ef,xq,Dl,tq,z8,uV,un21,q0)=>⟨([.undef,.undef,.d tu Ap]++bG 5 ([.d tu ef,.d tu xq,.d tu Dl,.undef,.undef,.undef,.d tu tq,.d tu z8,.d tu uV,.d tu un21,.d tu q0]++bG 116 [])),[],(List.replicate 135 [])⟩
abbrev bA.L1.Y0:=Int
abbrev bA.L1.X0:=(Int×Int×Int×Int×Int)×(Int)
def bA.L1.bY:bA.L1.X0->Exit×AS:=λx=>(.exit 2,⟨([.undef,.undef,.d tu x.1.1]++bG 5 ([.d tu x.1.2.1]++bG 5 ([.d tu x.1.2.2.1,.d tu x.1.2.2.2.1,.undef,.d tu x.1.2.2.2.2,.d tu x.2]++bG 116 []))),[],(List.replicate 135 [])⟩)
abbrev bA.L1.X:=bA.L1.X0
abbrev bA.L1.Y:=bA.L1.Y0
def bA.L1.out:bA.L1.X->Out (Exit×AS):=λx=> .ok (bA.L1.bY x)
def bA.L1.add:bA.L1.D->bA.L1.Y->bA.L1.X:=λ(Ap,ef,xq,Dl,tq,z8,uV,un21,q0) y=>((Ap,ef,tq,z8,un21),y)
abbrev bA.D:=Int×Int×Int
def bA.st:bA.D->SA:=λ(hi,lo,yv)=>([.d tu hi,.d tu lo,.d tu yv],[])
abbrev bA.Y:=Int×Int
abbrev bA.X:=Int×Int
def bA.out:bA.X->aX:=λx=>⟨.cons (.d tu x.1) (.cons (.d tu x.2) (.nil)),[],[]⟩
def bA.add:bA.D->bA.Y->bA.X:=λ(hi,lo,yv) y=>y
def bA.L0.az:bA.L0.D->Prop:=λ(y,sv,yn1,yn0,u,w,un0,q,r)=>∃e:Int,(e=42260\/e=42264\/e=42272)/\y=18446744073709551616 - e/\yn1=4294967295/\yn0=4294967296 - e/\0<=u/\u < 18446744073709551616 - e/\0<=w/\w < 4294967296/\0<=r/\r < 4294967296/\q*4294967295+r=u/\(u*4294967296+w) / (18446744073709551616 - e)<=q
def bA.L0.F:bA.L0.D->bA.L0.Y:=λ(y,sv,yn1,yn0,u,w,un0,q,r)=>(u*4294967296+w) / y
def bA.L1.az:bA.L1.D->Prop:=λ(y,sv,yn1,yn0,w,q1,r,u,q)=>∃e:Int,(e=42260\/e=42264\/e=42272)/\y=18446744073709551616 - e/\yn1=4294967295/\yn0=4294967296 - e/\0<=u/\u < 18446744073709551616 - e/\0<=w/\w < 4294967296/\0<=r/\r < 4294967296/\q*4294967295+r=u/\(u*4294967296+w) / (18446744073709551616 - e)<=q
def bA.L1.F:bA.L1.D->bA.L1.Y:=λ(y,sv,yn1,yn0,w,q1,r,u,q)=>(u*4294967296+w) / y
def bA.az:bA.D->Prop:=λ(hi,lo,y)=>T0 y/\0<=hi/\hi < y/\0<=lo/\lo < 18446744073709551616
def bA.F:bA.D->bA.Y:=λ(hi,lo,y)=>((hi*18446744073709551616+lo) / y,(hi*18446744073709551616+lo)%y)
def bA.G:fD:=gr (P:=Tryz.prog) [ki.sg]
def bA.L0.E:=cU.dp bA.L0.st bA.L0.az bA.L0.add bA.L0.F bA.L0.out
def bA.L0.call:bA.L0.D->Option bA.L0.X:=eI bA.L0.E bA.L0.st
def bA.L1.E:=cU.dp bA.L1.st bA.L1.az bA.L1.add bA.L1.F bA.L1.out
def bA.L1.call:bA.L1.D->Option bA.L1.X:=eI bA.L1.E bA.L1.st
def bA.an:fR:= {loops:=om [(17,{bO:=[2,8,9,10,11,13,14,15,16]}),(24,{bO:=[2,8,9,10,14,15,16,17,18]})],outs:=oh [(17,{bO:=[2,8,9,10,11,13,14,15]},{bO:=[6,7]}),(24,{bO:=[2,8,14,15,17,18]},{bO:=[6,7]})],jo:=pb [(17,bA.L0.E),(24,bA.L1.E)]}
def bA.A:= @dm Tryz.prog bA.G bA.an 0 Tryz.f171 _ bA.st
abbrev bA.Ok:=dn @bA.A bA.az bA.add bA.F bA.out
def bA.L0.R:= @dr Tryz.prog bA.G bA.an 0 Tryz.f171 0 _ bA.L0.st
abbrev bA.L0.Ok:=gz Tryz.prog bA.G bA.an 0 Tryz.f171 0 bA.L0.st bA.L0.az bA.L0.add bA.L0.F bA.L0.out
def bA.L1.R:= @dr Tryz.prog bA.G bA.an 0 Tryz.f171 1 _ bA.L1.st
abbrev bA.L1.Ok:=gz Tryz.prog bA.G bA.an 0 Tryz.f171 1 bA.L1.st bA.L1.az bA.L1.add bA.L1.F bA.L1.out
theorem bA.L0.run:b8 bA.L0.call bA.L0.az bA.L0.add bA.L0.F:=gR (gJ [.d tu,.d tu,.d tu,.d tu,.d tu,.d tu,.d tu,.d tu,.d tu] λ_=>by kernel_rfl)
theorem bA.L0.aI:jl @bA.L0.R bA.L0.st bA.L0.az bA.L0.add bA.L0.F bA.L0.bY bA.L0.Ok:=js
theorem bA.L0.step{R:Type}(Ao:Int)(sv:Int)(yn1:Int)(yn0:Int)(un32:Int)(un1:Int)(un0:Int)(q1:Int)(rhat:Int)(kn:AS->Option R)(kx:Exit->AS->Option R):bA.L0.R (Ao,sv,yn1,yn0,un32,un1,un0,q1,rhat) kn kx=
  aJ ((qu q1 (4294967296:Int))) (
   aJ ((qu (bV .u64 rhat yn1) (4294967296:Int))) (
    kx (bA.L0.bY ((Ao,sv,yn1,yn0,un32,un1,un0),(cY .u64 q1 (1:Int)))).1 (bA.L0.bY ((Ao,sv,yn1,yn0,un32,un1,un0),(cY .u64 q1 (1:Int)))).2) (
    kn (bA.L0.st (Ao,sv,yn1,yn0,un32,un1,un0,(cY .u64 q1 (1:Int)),(bV .u64 rhat yn1))))) (
   aJ ((sh (gY .u64 q1 yn0) (bV .u64 (gY .u64 (4294967296:Int) rhat) un1))) (
    aJ ((qu (bV .u64 rhat yn1) (4294967296:Int))) (
     kx (bA.L0.bY ((Ao,sv,yn1,yn0,un32,un1,un0),(cY .u64 q1 (1:Int)))).1 (bA.L0.bY ((Ao,sv,yn1,yn0,un32,un1,un0),(cY .u64 q1 (1:Int)))).2) (
     kn (bA.L0.st (Ao,sv,yn1,yn0,un32,un1,un0,(cY .u64 q1 (1:Int)),(bV .u64 rhat yn1))))) (
    kx (bA.L0.bY ((Ao,sv,yn1,yn0,un32,un1,un0),q1)).1 (bA.L0.bY ((Ao,sv,yn1,yn0,un32,un1,un0),q1)).2)):=by kernel_rfl
theorem bA.L1.run:b8 bA.L1.call bA.L1.az bA.L1.add bA.L1.F:=gR (gJ [.d tu,.d tu,.d tu,.d tu,.d tu,.d tu,.d tu,.d tu,.d tu] λ_=>by kernel_rfl)
theorem bA.L1.aI:jl @bA.L1.R bA.L1.st bA.L1.az bA.L1.add bA.L1.F bA.L1.bY bA.L1.Ok:=js
theorem bA.L1.step{R:Type}(Ap:Int)(ef:Int)(xq:Int)(Dl:Int)(tq:Int)(z8:Int)(uV:Int)(un21:Int)(q0:Int)(kn:AS->Option R)(kx:Exit->AS->Option R):bA.L1.R (Ap,ef,xq,Dl,tq,z8,uV,un21,q0) kn kx=
  aJ ((qu q0 (4294967296:Int))) (
   aJ ((qu (bV .u64 uV xq) (4294967296:Int))) (
    kx (bA.L1.bY ((Ap,ef,tq,z8,un21),(cY .u64 q0 (1:Int)))).1 (bA.L1.bY ((Ap,ef,tq,z8,un21),(cY .u64 q0 (1:Int)))).2) (
    kn (bA.L1.st (Ap,ef,xq,Dl,tq,z8,(bV .u64 uV xq),un21,(cY .u64 q0 (1:Int)))))) (
   aJ ((sh (gY .u64 q0 Dl) (bV .u64 (gY .u64 (4294967296:Int) uV) tq))) (
    aJ ((qu (bV .u64 uV xq) (4294967296:Int))) (
     kx (bA.L1.bY ((Ap,ef,tq,z8,un21),(cY .u64 q0 (1:Int)))).1 (bA.L1.bY ((Ap,ef,tq,z8,un21),(cY .u64 q0 (1:Int)))).2) (
     kn (bA.L1.st (Ap,ef,xq,Dl,tq,z8,(bV .u64 uV xq),un21,(cY .u64 q0 (1:Int)))))) (
    kx (bA.L1.bY ((Ap,ef,tq,z8,un21),q0)).1 (bA.L1.bY ((Ap,ef,tq,z8,un21),q0)).2)):=by kernel_rfl
theorem bA.eq{R:Type}(hi:Int)(lo:Int)(yv:Int)(k:aX->Option R):bA.A (hi,lo,yv) k=
  aJ ((mV yv (0:Int))) (
   none) (
   aJ ((F6 yv hi)) (
    none) (
    aJ ((mV hi (0:Int))) (
     aJ (mQ yv) (
     aJ (mQ yv) (
     k (bA.out ((qs .u64 lo yv),(iN lo yv)))) none) none) (
     ah (ki.call yv) λx1=>
     aJ (nr (fa .u64 x1)) (
     aJ (nr (fa .u64 x1)) (
     aJ (nr (cY .u64 (64:Int) (fa .u64 x1))) (
     aJ (nr (fa .u64 x1)) (
     aJ (mQ (cX .u64 (oC .u64 yv (fa .u64 x1)) (32:Int))) (
     ah (bA.L0.call ((oC .u64 yv (fa .u64 x1)),(fa .u64 x1),(cX .u64 (oC .u64 yv (fa .u64 x1)) (32:Int)),(dD .and .u64 (oC .u64 yv (fa .u64 x1)) (4294967295:Int)),(dD .or .u64 (oC .u64 hi (fa .u64 x1)) (cX .u64 lo (cY .u64 (64:Int) (fa .u64 x1)))),(cX .u64 (oC .u64 lo (fa .u64 x1)) (32:Int)),(dD .and .u64 (oC .u64 lo (fa .u64 x1)) (4294967295:Int)),(qs .u64 (dD .or .u64 (oC .u64 hi (fa .u64 x1)) (cX .u64 lo (cY .u64 (64:Int) (fa .u64 x1)))) (cX .u64 (oC .u64 yv (fa .u64 x1)) (32:Int))),(cY .u64 (dD .or .u64 (oC .u64 hi (fa .u64 x1)) (cX .u64 lo (cY .u64 (64:Int) (fa .u64 x1)))) (gY .u64 (qs .u64 (dD .or .u64 (oC .u64 hi (fa .u64 x1)) (cX .u64 lo (cY .u64 (64:Int) (fa .u64 x1)))) (cX .u64 (oC .u64 yv (fa .u64 x1)) (32:Int))) (cX .u64 (oC .u64 yv (fa .u64 x1)) (32:Int)))))) λx2=>
     aJ (mQ x2.1.2.2.1) (
     ah (bA.L1.call (x2.1.1,x2.1.2.1,x2.1.2.2.1,x2.1.2.2.2.1,x2.1.2.2.2.2.2.2,x2.2,(cY .u64 (cY .u64 (bV .u64 (gY .u64 x2.1.2.2.2.2.1 (4294967296:Int)) x2.1.2.2.2.2.2.1) (gY .u64 x2.2 x2.1.1)) (gY .u64 (qs .u64 (cY .u64 (bV .u64 (gY .u64 x2.1.2.2.2.2.1 (4294967296:Int)) x2.1.2.2.2.2.2.1) (gY .u64 x2.2 x2.1.1)) x2.1.2.2.1) x2.1.2.2.1)),(cY .u64 (bV .u64 (gY .u64 x2.1.2.2.2.2.1 (4294967296:Int)) x2.1.2.2.2.2.2.1) (gY .u64 x2.2 x2.1.1)),(qs .u64 (cY .u64 (bV .u64 (gY .u64 x2.1.2.2.2.2.1 (4294967296:Int)) x2.1.2.2.2.2.2.1) (gY .u64 x2.2 x2.1.1)) x2.1.2.2.1))) λx3=>
     aJ (nr x3.1.2.1) (
     k (bA.out ((bV .u64 (gY .u64 x3.1.2.2.2.1 (4294967296:Int)) x3.2),(cX .u64 (cY .u64 (bV .u64 (gY .u64 x3.1.2.2.2.2 (4294967296:Int)) x3.1.2.2.1) (gY .u64 x3.2 x3.1.1)) x3.1.2.1)))) none) none) none) none) none) none) none))):=by kernel_rfl
theorem bA.L0.ok:bA.L0.Ok:=by
 refine bA.L0.aI (λ(y,sv,yn1,yn0,u,w,un0,q,r)=>q.toNat) ?_
 rintro⟨y,sv,yn1,yn0,u,w,un0,q,r⟩ ⟨e,he,rfl,rfl,rfl,hu,F5,hw,M6,hr,L8,hq,hQ⟩
 have hu:0<=u:=hu
 have F5:u < 18446744073709551616 - e:=F5
 have hw:0<=w:=hw
 have M6:w < 4294967296:=M6
 have hr:0<=r:=hr
 have L8:r < 4294967296:=L8
 have hq:q*4294967295+r=u:=hq
 obtain⟨k1,k2,k3,k4,k5,k6⟩:=k1 he hu F5 hw M6 hr L8 hq hQ
 have q0:0<=q:=Int.le_trans k5 hQ
 have a1:bV .u64 r 4294967295=r+4294967295:=by rw[nv];omega
 have a2:bV .u64 (gY .u64 4294967296 r) w=4294967296*r+w:=by rw[qN,nv];omega
 have a3:q < 4294967296->gY .u64 q (4294967296 - e)=q*(4294967296 - e):=by
  intro h;rw[qN];rcases he with rfl | rfl | rfl <;> omega
 have a4:0 < q->cY .u64 q 1=q - 1:=by intro h;rw[Bo];omega
 have pos:4294967296<=q\/(q < 4294967296/\4294967296*r+w < q*(4294967296 - e))->0 < q/\(u*4294967296+w) / (18446744073709551616 - e)<=q - 1:=by
  rintro(h | ⟨h,h2⟩)
  ·exact⟨by omega,k1 h⟩
  ·exact⟨by have:=k2 h h2;omega,k2 h h2⟩
 by_cases hc:4294967296<=q\/(q < 4294967296/\4294967296*r+w < q*(4294967296 - e))
 ·obtain⟨p1,p2⟩:=pos hc
  by_cases hb:4294967296<=r+4294967295
  ·right
   have hF:bA.L0.F (18446744073709551616 - e,sv,4294967295,4294967296 - e,u,w,un0,q,r)=q - 1:=k4 hb p2
   intro R kn kx
   rw[bA.L0.step,a1,a2,a4 p1,la hb,hF]
   rcases hc with h | ⟨h,h2⟩
   ·rw[la h];rfl
   ·rw[jg (by omega),a3 h,fE h2];rfl
  ·left
   refine⟨(18446744073709551616 - e,sv,4294967295,4294967296 - e,u,w,un0,q - 1,r+4294967295),⟨e,he,rfl,rfl,rfl,hu,F5,hw,M6,by omega,by omega,by omega,p2⟩,by simp only[];omega,rfl,λkn kx=> ?_⟩
   rw[bA.L0.step,a1,a2,a4 p1,jg hb]
   rcases hc with h | ⟨h,h2⟩
   ·rw[la h];rfl
   ·rw[jg (by omega),a3 h,fE h2];rfl
 ·right
  have h:q < 4294967296:=by omega
  have h2:¬4294967296*r+w < q*(4294967296 - e):=λx=>hc (Or.inr ⟨h,x⟩)
  have hF:bA.L0.F (18446744073709551616 - e,sv,4294967295,4294967296 - e,u,w,un0,q,r)=q:=k3 h (by omega)
  intro R kn kx
  rw[bA.L0.step,a2,a3 h,jg (by omega),dY h2,hF]
  rfl
theorem bA.L1.ok:bA.L1.Ok:=by
 refine bA.L1.aI (λ(y,sv,yn1,yn0,w,q1,r,u,q)=>q.toNat) ?_
 rintro⟨y,sv,yn1,yn0,w,q1,r,u,q⟩ ⟨e,he,rfl,rfl,rfl,hu,F5,hw,M6,hr,L8,hq,hQ⟩
 have hu:0<=u:=hu
 have F5:u < 18446744073709551616 - e:=F5
 have hw:0<=w:=hw
 have M6:w < 4294967296:=M6
 have hr:0<=r:=hr
 have L8:r < 4294967296:=L8
 have hq:q*4294967295+r=u:=hq
 obtain⟨k1,k2,k3,k4,k5,k6⟩:=k1 he hu F5 hw M6 hr L8 hq hQ
 have q0:0<=q:=Int.le_trans k5 hQ
 have a1:bV .u64 r 4294967295=r+4294967295:=by rw[nv];omega
 have a2:bV .u64 (gY .u64 4294967296 r) w=4294967296*r+w:=by rw[qN,nv];omega
 have a3:q < 4294967296->gY .u64 q (4294967296 - e)=q*(4294967296 - e):=by
  intro h;rw[qN];rcases he with rfl | rfl | rfl <;> omega
 have a4:0 < q->cY .u64 q 1=q - 1:=by intro h;rw[Bo];omega
 have pos:4294967296<=q\/(q < 4294967296/\4294967296*r+w < q*(4294967296 - e))->0 < q/\(u*4294967296+w) / (18446744073709551616 - e)<=q - 1:=by
  rintro(h | ⟨h,h2⟩)
  ·exact⟨by omega,k1 h⟩
  ·exact⟨by have:=k2 h h2;omega,k2 h h2⟩
 by_cases hc:4294967296<=q\/(q < 4294967296/\4294967296*r+w < q*(4294967296 - e))
 ·obtain⟨p1,p2⟩:=pos hc
  by_cases hb:4294967296<=r+4294967295
  ·right
   have hF:bA.L1.F (18446744073709551616 - e,sv,4294967295,4294967296 - e,w,q1,r,u,q)=q - 1:=k4 hb p2
   intro R kn kx
   rw[bA.L1.step,a1,a2,a4 p1,la hb,hF]
   rcases hc with h | ⟨h,h2⟩
   ·rw[la h];rfl
   ·rw[jg (by omega),a3 h,fE h2];rfl
  ·left
   refine⟨(18446744073709551616 - e,sv,4294967295,4294967296 - e,w,q1,r+4294967295,u,q - 1),⟨e,he,rfl,rfl,rfl,hu,F5,hw,M6,by omega,by omega,by omega,p2⟩,by simp only[];omega,rfl,λkn kx=> ?_⟩
   rw[bA.L1.step,a1,a2,a4 p1,jg hb]
   rcases hc with h | ⟨h,h2⟩
   ·rw[la h];rfl
   ·rw[jg (by omega),a3 h,fE h2];rfl
 ·right
  have h:q < 4294967296:=by omega
  have h2:¬4294967296*r+w < q*(4294967296 - e):=λx=>hc (Or.inr ⟨h,x⟩)
  have hF:bA.L1.F (18446744073709551616 - e,sv,4294967295,4294967296 - e,w,q1,r,u,q)=q:=k3 h (by omega)
  intro R kn kx
  rw[bA.L1.step,a2,a3 h,jg (by omega),dY h2,hF]
  rfl
theorem QV{y hi lo:Int}(hy:T0 y)(h0:0<=hi)(h1:hi < y)(h2:0<=lo)(h3:lo < 18446744073709551616):∃(s:Nat) (e m:Int),ki.F y=s/\(s=2\/s=3)/\m=2^s/\(e=42260\/e=42264\/e=42272)/\y*m=18446744073709551616 - e/\
  oC .u64 y (s:Int)=18446744073709551616 - e/\
  dD .or .u64 (oC .u64 hi (s:Int)) (cX .u64 lo (cY .u64 64 (s:Int)))=(hi*18446744073709551616+lo)*m / 18446744073709551616/\
  oC .u64 lo (s:Int)=(hi*18446744073709551616+lo)*m%18446744073709551616/\
  (hi*18446744073709551616+lo)*m / 18446744073709551616 < 18446744073709551616 - e/\
  (hi*18446744073709551616+lo)*m / (18446744073709551616 - e)=(hi*18446744073709551616+lo) / y/\
  (hi*18446744073709551616+lo)*m%(18446744073709551616 - e) / m=(hi*18446744073709551616+lo)%y:=by
 have e1:cY .u64 64 ((2:Nat):Int)=((62:Nat):Int):=rfl
 have e2:cY .u64 64 ((3:Nat):Int)=((61:Nat):Int):=rfl
 have p2:(2:Int)^2=4:=rfl
 have p3:(2:Int)^3=8:=rfl
 have p61:(2:Int)^61=2305843009213693952:=rfl
 have p62:(2:Int)^62=4611686018427387904:=rfl
 obtain rfl | rfl | rfl:=hy
 ·refine⟨2,42260,4,rfl,Or.inl rfl,rfl,Or.inl rfl,rfl,by rw[qQ 2 (by rfl) (by omega),p2];omega,?_,?_,by omega,by omega,by omega⟩
  ·rw[e1,qQ 2 (by rfl) (by omega),qR 62 (by rfl) (by omega),p2,p62,yP 2 4 rfl (by omega) (by omega) (by omega) (by omega) (by omega) (by omega)];omega
  ·rw[qQ 2 (by rfl) (by omega),p2];omega
 ·refine⟨3,42264,8,rfl,Or.inr rfl,rfl,Or.inr (Or.inl rfl),rfl,by rw[qQ 3 (by rfl) (by omega),p3];omega,?_,?_,by omega,by omega,by omega⟩
  ·rw[e2,qQ 3 (by rfl) (by omega),qR 61 (by rfl) (by omega),p3,p61,yP 3 8 rfl (by omega) (by omega) (by omega) (by omega) (by omega) (by omega)];omega
  ·rw[qQ 3 (by rfl) (by omega),p3];omega
 ·refine⟨3,42272,8,rfl,Or.inr rfl,rfl,Or.inr (Or.inr rfl),rfl,by rw[qQ 3 (by rfl) (by omega),p3];omega,?_,?_,by omega,by omega,by omega⟩
  ·rw[e2,qQ 3 (by rfl) (by omega),qR 61 (by rfl) (by omega),p3,p61,yP 3 8 rfl (by omega) (by omega) (by omega) (by omega) (by omega) (by omega)];omega
  ·rw[qQ 3 (by rfl) (by omega),p3];omega
theorem Wb(a b c:Int):(((a%18446744073709551616+b)%18446744073709551616) - c%18446744073709551616)%18446744073709551616=(a+b - c)%18446744073709551616:=by omega
theorem bA.ok:bA.Ok:=by
 rintro⟨hi,lo,y⟩ ⟨hy,h0,h1,h2,h3⟩
 have h0:0<=hi:=h0
 have h1:hi < y:=h1
 have h2:0<=lo:=h2
 have h3:lo < 18446744073709551616:=h3
 have yb:0 < y/\y < 18446744073709551616:=by obtain rfl | rfl | rfl:=hy <;> omega
 rw[bA.eq,fJ (by omega),qC (by omega)]
 simp only[ai]
 have z:mQ y=true:=by simp[mQ];omega
 by_cases hz:hi=0
 ·subst hz
  rw[fA rfl,z,Ft h2 (by omega) h3,lh h2]
  simp only[ae,bA.F,bA.add,Int.zero_mul,pT]
 ·obtain⟨s,e,m,hs,DE,hm,he,Y5,a1,a2,a3,a4,a5,a6⟩:=QV hy h0 h1 h2 h3
  have c1:fa .u64 (s:Int)=(s:Int):=by rw[IN];omega
  have c2:nr (s:Int)=true:=tj (by omega)
  have c3:nr (cY .u64 64 (s:Int))=true:=by rcases DE with rfl | rfl <;> rfl
  rw[fJ hz,ki.run (d:=y) hy]
  simp only[ai,ab,ki.add,hs,c1,c2,c3,ae,a1,a2,a3]
  have hN:0<=(hi*18446744073709551616+lo)*m:=pS (by omega) (by rcases DE with rfl | rfl <;> omega)
  revert a4 a5 a6
  generalize (hi*18446744073709551616+lo)*m=N at hN
  intro a4 a5 a6
  have u0:0<=N / 18446744073709551616:=by omega
  have t0:0<=N%18446744073709551616:=by omega
  have t1:N%18446744073709551616 < 18446744073709551616:=by omega
  have hd:N=(N / 18446744073709551616*4294967296+N%18446744073709551616 / 4294967296)*4294967296+N%18446744073709551616%4294967296:=by omega
  have w10:0<=N%18446744073709551616 / 4294967296:=by omega
  have w11:N%18446744073709551616 / 4294967296 < 4294967296:=by omega
  have w00:0<=N%18446744073709551616%4294967296:=by omega
  have w01:N%18446744073709551616%4294967296 < 4294967296:=by omega
  have p32:(2:Int)^32=4294967296:=rfl
  have b1:cX .u64 (18446744073709551616 - e) 32=4294967295:=by rw[qR 32 (by rfl) (by omega),p32];rcases he with rfl | rfl | rfl <;> rfl
  have b2:dD .and .u64 (18446744073709551616 - e) 4294967295=4294967296 - e:=by rw[Gi (by omega) (by omega)];omega
  have b3:cX .u64 (N%18446744073709551616) 32=N%18446744073709551616 / 4294967296:=by rw[qR 32 (by rfl) (by omega),p32]
  have b4:dD .and .u64 (N%18446744073709551616) 4294967295=N%18446744073709551616%4294967296:=Gi t0 t1
  have z2:mQ 4294967295=true:=rfl
  simp only[b1,b2,b3,b4,z2,ae]
  clear a1 a2 a3 b1 b2 b3 b4
  have kdd:=kd (18446744073709551616 - e) (N / 18446744073709551616) (N%18446744073709551616 / 4294967296) (N%18446744073709551616%4294967296) (by omega) w00 w01
  rw[<-hd,a5]at kdd
  revert a4 kdd
  generalize N / 18446744073709551616=u at u0
  generalize N%18446744073709551616 / 4294967296=w1 at w10 w11
  generalize N%18446744073709551616%4294967296=w0 at w00 w01
  intro a4 kdd
  have g:∀u w:Int,0<=u->u < 18446744073709551616 - e->0<=w->w < 4294967296->
    qs .u64 u 4294967295=u / 4294967295/\cY .u64 u (gY .u64 (u / 4294967295) 4294967295)=u - u / 4294967295*4294967295/\
    cY .u64 (bV .u64 (gY .u64 u 4294967296) w) (gY .u64 ((u*4294967296+w) / (18446744073709551616 - e)) (18446744073709551616 - e))=(u*4294967296+w)%(18446744073709551616 - e):=by
   intro u w k1 k2 k3 k4
   obtain⟨q1,q2,q3,q4,q5,q6,q7,q8⟩:=k0 he k1 k2 k3 k4
   refine⟨Ft k1 (by omega) (by omega),by rw[Bo,qN];omega,?_⟩
   rw[Bo,nv,qN,qN,Wb,q4]
   exact jq q5 (by omega)
  obtain⟨f1,f2,f3⟩:=g u w1 u0 a4 w10 w11
  obtain⟨q1,q2,q3,q4,q5,q6,q7,q8⟩:=k0 he u0 a4 w10 w11
  have p1:bA.L0.az (18446744073709551616 - e,(s:Int),4294967295,4294967296 - e,u,w1,w0,u / 4294967295,u - u / 4294967295*4294967295):=⟨e,he,rfl,rfl,rfl,u0,a4,w10,w11,q2,q3,by omega,q1⟩
  rw[f1,f2,bA.L0.run p1]
  simp only[ab,bA.L0.add,bA.L0.F,z2,ae,f3]
  revert f3 q1 kdd
  generalize (u*4294967296+w1)%(18446744073709551616 - e)=v at q4 q5 q6
  generalize (u*4294967296+w1) / (18446744073709551616 - e)=Q at q4 q7 q8
  intro kdd f3 q1
  obtain⟨g1,g2,g3⟩:=g v w0 q5 q6 w00 w01
  obtain⟨r1,r2,r3,r4,r5,r6,r7,r8⟩:=k0 he q5 q6 w00 w01
  have p2:bA.L1.az (18446744073709551616 - e,(s:Int),4294967295,4294967296 - e,w0,Q,v - v / 4294967295*4294967295,v,v / 4294967295):=⟨e,he,rfl,rfl,rfl,q5,q6,w00,w01,r2,r3,by omega,r1⟩
  rw[g1,g2,bA.L1.run p2]
  simp only[ab,bA.L1.add,bA.L1.F,c2,ae,g3]
  rw[<-kdd.2,qR s (by rfl) (by omega),<-hm,a6,qN,nv]
  have e9:(Q*4294967296%18446744073709551616+(v*4294967296+w0) / (18446744073709551616 - e))%18446744073709551616=(hi*18446744073709551616+lo) / y:=by rw[kdd.1];omega
  rw[e9]
  rfl
def bA.E:=Entry.dp [some tu,some tu,some tu] bA.st bA.az bA.add bA.F bA.out
def bA.call:bA.D->Option bA.X:=bX bA.E bA.st
theorem bA.run:b8 bA.call bA.az bA.add bA.F:=dv (du [.d tu,.d tu,.d tu] λ_=>by kernel_rfl)
def bA.sg:SG Tryz.prog:=⟨171,aP,bA.E,.fn 2 (by kernel_rfl) bA.ok (And.intro (.dp bA.L0.ok (by kernel_rfl)) (And.intro (.dp bA.L1.ok (by kernel_rfl)) trivial))⟩
abbrev fQ.D:=Int×Int×Int
def fQ.st:fQ.D->SA:=λ(hi,lo,yv)=>([.d tu hi,.d tu lo,.d tu yv],[])
abbrev fQ.Y:=Int
abbrev fQ.X:=Int
def fQ.out:fQ.X->aX:=λx=>⟨.d tu x,[],[]⟩
def fQ.add:fQ.D->fQ.Y->fQ.X:=λ(hi,lo,yv) y=>y
def fQ.az:fQ.D->Prop:=λ(hi,lo,y)=>T0 y/\0<=hi/\hi < 18446744073709551616/\0<=lo/\lo < 18446744073709551616
def fQ.F:fQ.D->fQ.Y:=λ(hi,lo,y)=>(hi*18446744073709551616+lo)%y
def fQ.G:fD:=gr (P:=Tryz.prog) [bA.sg]
def fQ.an:fR:= {}
def fQ.A:= @dm Tryz.prog fQ.G fQ.an 0 Tryz.f138 _ fQ.st
abbrev fQ.Ok:=dn @fQ.A fQ.az fQ.add fQ.F fQ.out
theorem fQ.eq{R:Type}(hi:Int)(lo:Int)(yv:Int)(k:aX->Option R):fQ.A (hi,lo,yv) k=
 aJ (mQ yv) (
 ah (bA.call ((iN hi yv),lo,yv)) λx1=>
 k (fQ.out x1.2)) none:=by kernel_rfl
theorem fQ.ok:fQ.Ok:=by
 rintro⟨hi,lo,y⟩ ⟨hy,h0,h1,h2,h3⟩
 have h0:0<=hi:=h0
 have yb:0 < y:=by obtain rfl | rfl | rfl:=hy <;> omega
 have z:mQ y=true:=by simp[mQ];omega
 have p:bA.az (hi%y,lo,y):=⟨hy,kU _ (by omega),kB _ yb,h2,h3⟩
 rw[fQ.eq,z,lh h0,bA.run p]
 have e:(hi%y*18446744073709551616+lo)%y=(hi*18446744073709551616+lo)%y:=by
  rw[mD,iR,iV _ (mF y),<-iR,<-mD]
 simp only[ae,ab,bA.add,bA.F,fQ.add,fQ.F,e]
def fQ.E:=Entry.dp [some tu,some tu,some tu] fQ.st fQ.az fQ.add fQ.F fQ.out
def fQ.call:fQ.D->Option fQ.X:=bX fQ.E fQ.st
theorem fQ.run:b8 fQ.call fQ.az fQ.add fQ.F:=dv (du [.d tu,.d tu,.d tu] λ_=>by kernel_rfl)
def fQ.sg:SG Tryz.prog:=⟨138,aP,fQ.E,.fn 0 (by kernel_rfl) fQ.ok trivial⟩
abbrev gg.D:=Int×Int
def gg.st:gg.D->SA:=λ(x,yv)=>([.d tu x,.d tu yv],[])
abbrev gg.Y:=Int×Int
abbrev gg.X:=Int×Int
def gg.out:gg.X->aX:=λx=>⟨.cons (.d tu x.1) (.cons (.d tu x.2) (.nil)),[],[]⟩
def gg.add:gg.D->gg.Y->gg.X:=λ(x,yv) y=>y
def gg.az:gg.D->Prop:=λ(x,y)=>(0<=x/\x < 18446744073709551616)/\0<=y/\y < 18446744073709551616
def gg.F:gg.D->gg.Y:=λ(x,y)=>(x*y / 18446744073709551616,x*y%18446744073709551616)
def gg.G:fD:=gr (P:=Tryz.prog) []
def gg.an:fR:= {}
def gg.A:= @dm Tryz.prog gg.G gg.an 0 Tryz.f164 _ gg.st
abbrev gg.Ok:=dn @gg.A gg.az gg.add gg.F gg.out
theorem gg.eq{R:Type}(x:Int)(yv:Int)(k:aX->Option R):gg.A (x,yv) k=
 k (gg.out ((bV .u64 (bV .u64 (gY .u64 (cX .u64 x (32:Int)) (cX .u64 yv (32:Int))) (cX .u64 (bV .u64 (gY .u64 (cX .u64 x (32:Int)) (dD .and .u64 yv (4294967295:Int))) (cX .u64 (gY .u64 (dD .and .u64 x (4294967295:Int)) (dD .and .u64 yv (4294967295:Int))) (32:Int))) (32:Int))) (cX .u64 (bV .u64 (dD .and .u64 (bV .u64 (gY .u64 (cX .u64 x (32:Int)) (dD .and .u64 yv (4294967295:Int))) (cX .u64 (gY .u64 (dD .and .u64 x (4294967295:Int)) (dD .and .u64 yv (4294967295:Int))) (32:Int))) (4294967295:Int)) (gY .u64 (dD .and .u64 x (4294967295:Int)) (cX .u64 yv (32:Int)))) (32:Int))),(gY .u64 x yv))):=by kernel_rfl
theorem zW{a b m n:Int}(h0:0<=a)(h1:a<=m)(h2:0<=b)(h3:b<=n):0<=a*b/\a*b<=m*n:=
 ⟨pS h0 h2,Int.mul_le_mul h1 h3 h2 (Int.le_trans h0 h1)⟩
theorem gg.ok:gg.Ok:=by
 rintro⟨x,y⟩ ⟨⟨h0,h1⟩,h2,h3⟩
 have h0:0<=x:=h0
 have h1:x < 18446744073709551616:=h1
 have h2:0<=y:=h2
 have h3:y < 18446744073709551616:=h3
 rw[gg.eq]
 have p32:(2:Int)^32=4294967296:=rfl
 have YA:∀x:Int,cX .u64 x 32=x / 4294967296:=λx=>by rw[qR 32 (by rfl) (by omega),p32]
 simp only[YA,Gi h0 h1,Gi h2 h3]
 obtain⟨a,b,rfl,a0,a1,b0,b1⟩:∃a b:Int,x=a*4294967296+b/\0<=a/\a<=4294967295/\0<=b/\b<=4294967295:=⟨x / 4294967296,x%4294967296,by omega,by omega,by omega,by omega,by omega⟩
 obtain⟨c,d,rfl,c0,c1,d0,d1⟩:∃a b:Int,y=a*4294967296+b/\0<=a/\a<=4294967295/\0<=b/\b<=4294967295:=⟨y / 4294967296,y%4294967296,by omega,by omega,by omega,by omega,by omega⟩
 have e1:(a*4294967296+b) / 4294967296=a:=by omega
 have e2:(a*4294967296+b)%4294967296=b:=by omega
 have e3:(c*4294967296+d) / 4294967296=c:=by omega
 have e4:(c*4294967296+d)%4294967296=d:=by omega
 have e5:(a*4294967296+b)*(c*4294967296+d)=a*c*18446744073709551616+(a*d+b*c)*4294967296+b*d:=by
  have q:(4294967296:Int)*4294967296=18446744073709551616:=rfl
  rw[Int.add_mul,Int.mul_add,Int.mul_add]
  have q1:a*4294967296*(c*4294967296)=a*c*18446744073709551616:=by rw[<-q];ac_rfl
  have q2:a*4294967296*d=a*d*4294967296:=by ac_rfl
  have q3:b*(c*4294967296)=b*c*4294967296:=by ac_rfl
  rw[q1,q2,q3];omega
 obtain⟨m1,m2⟩:=zW a0 a1 c0 c1
 obtain⟨m3,m4⟩:=zW a0 a1 d0 d1
 obtain⟨m5,m6⟩:=zW b0 b1 c0 c1
 obtain⟨m7,m8⟩:=zW b0 b1 d0 d1
 have n:(4294967295:Int)*4294967295=18446744065119617025:=rfl
 rw[n]at m2 m4 m6 m8
 simp only[e1,e2,e3,e4,gg.add,gg.F,e5,qN,nv]
 revert m1 m2 m3 m4 m5 m6 m7 m8
 generalize a*c=ac
 generalize a*d=ad
 generalize b*c=bc
 generalize b*d=bd
 intro m1 m2 m3 m4 m5 m6 m7 m8
 have q1:bd%18446744073709551616=bd:=by omega
 have q2:ad%18446744073709551616=ad:=by omega
 have q3:bc%18446744073709551616=bc:=by omega
 have q4:ac%18446744073709551616=ac:=by omega
 rw[q1,q2,q3,q4]
 have q5:(ad+bd / 4294967296)%18446744073709551616=ad+bd / 4294967296:=by omega
 have q6:dD .and .u64 (ad+bd / 4294967296) 4294967295=(ad+bd / 4294967296)%4294967296:=Gi (by omega) (by omega)
 rw[q5,q6]
 refine congrArg some (congrArg gg.out (Prod.ext ?_ ?_))
 ·show _=(_:Int)
  simp only[]
  omega
 ·rfl
def gg.E:=Entry.dp [some tu,some tu] gg.st gg.az gg.add gg.F gg.out
def gg.call:gg.D->Option gg.X:=bX gg.E gg.st
theorem gg.run:b8 gg.call gg.az gg.add gg.F:=dv (du [.d tu,.d tu] λ_=>by kernel_rfl)
def gg.sg:SG Tryz.prog:=⟨164,aP,gg.E,.fn 0 (by kernel_rfl) gg.ok trivial⟩
def Pn(x:Int):Prop:=0<=x/\x < 4611686018427377339
def iy(x:Int):Prop:=0<=x/\x < 18446744073709551616
theorem Pn.u{x:Int}(h:Pn x):iy x:=⟨h.1,by have:=h.2;omega⟩
def mz(a b:Int):Int:=a*b%4611686018427377339
theorem qd(a b:Int):Pn (mz a b):=⟨kU _ (by omega),kB _ (by omega)⟩
def F8:Nat->Int->Nat->Int->Int
 | 0,_,_,out=>out
 |f+1,a,n,out=>if n=0 then out else F8 f (mz a a) (n / 2) (if n%2=1 then mz out a else out)
def pw(a:Int)(n:Nat):Int:=F8 64 a n 1
theorem sL(f:Nat)(a out:Int):F8 f a 0 out=out:=by cases f <;> rfl
theorem CR:∀(f g:Nat) (a:Int) (n:Nat) (out:Int),n < 2^f->n < 2^g->F8 f a n out=F8 g a n out
 | 0,g,a,n,out,h,_=>by
  obtain rfl:n=0:=by omega
  rw[sL,sL]
 |f+1,0,a,n,out,_,h=>by
  obtain rfl:n=0:=by omega
  rw[sL,sL]
 |f+1,g+1,a,n,out,h,h'=>by
  have e:(2:Nat)^(f+1)=2^f*2:=Nat.pow_succ 2 f
  have e':(2:Nat)^(g+1)=2^g*2:=Nat.pow_succ 2 g
  unfold F8
  split
  ·rfl
  ·exact CR f g _ _ _ (by omega) (by omega)
theorem NP:∀(f:Nat) (a:Int) (n:Nat) (out:Int),Pn out->Pn (F8 f a n out)
 | 0,_,_,_,h=>h
 |f+1,a,n,out,h=>by
  unfold F8
  split
  ·exact h
  ·refine NP f _ _ _ ?_
   split
   ·exact qd _ _
   ·exact h
theorem EB(a:Int)(n:Nat):Pn (pw a n):=NP _ _ _ _ ⟨by omega,by omega⟩
abbrev fm.D:=Int×Int
def fm.st:fm.D->SA:=λ(a,b)=>([.d tu a,.d tu b],[])
abbrev fm.Y:=Int
abbrev fm.X:=Int
def fm.out:fm.X->aX:=λx=>⟨.d tu x,[],[]⟩
def fm.add:fm.D->fm.Y->fm.X:=λ(a,b) y=>y
def fm.az:fm.D->Prop:=λ(a,b)=>iy a/\iy b
def fm.F:fm.D->fm.Y:=λ(a,b)=>mz a b
def fm.G:fD:=gr (P:=Tryz.prog) [gg.sg,fQ.sg]
def fm.an:fR:= {}
def fm.A:= @dm Tryz.prog fm.G fm.an 0 Tryz.f129 _ fm.st
abbrev fm.Ok:=dn @fm.A fm.az fm.add fm.F fm.out
theorem fm.eq{R:Type}(a:Int)(b:Int)(k:aX->Option R):fm.A (a,b) k=
 ah (gg.call (a,b)) λx1=>
 ah (fQ.call (x1.1,x1.2,(4611686018427377339:Int))) λx2=>
 k (fm.out x2):=by kernel_rfl
theorem Df(n:Int):n / 18446744073709551616*18446744073709551616+n%18446744073709551616=n:=by omega
theorem fm.ok:fm.Ok:=by
 rintro⟨a,b⟩ ⟨ha,hb⟩
 have ha:iy a:=ha
 have hb:iy b:=hb
 obtain⟨m1,m2⟩:=zW ha.1 (show a<=18446744073709551615 by have:=ha.2;omega) hb.1 (show b<=18446744073709551615 by have:=hb.2;omega)
 have n:(18446744073709551615:Int)*18446744073709551615=340282366920938463426481119284349108225:=rfl
 rw[n]at m2
 have p:fQ.az (a*b / 18446744073709551616,a*b%18446744073709551616,4611686018427377339):=⟨Or.inl rfl,by omega,by omega,by omega,by omega⟩
 rw[fm.eq,gg.run (d:=(a,b)) ⟨ha,hb⟩]
 simp only[ab,gg.add,gg.F]
 rw[fQ.run p]
 simp only[ab,fQ.add,fQ.F,Df]
 rfl
def fm.E:=Entry.dp [some tu,some tu] fm.st fm.az fm.add fm.F fm.out
def fm.call:fm.D->Option fm.X:=bX fm.E fm.st
theorem fm.run:b8 fm.call fm.az fm.add fm.F:=dv (du [.d tu,.d tu] λ_=>by kernel_rfl)
def fm.sg:SG Tryz.prog:=⟨129,aP,fm.E,.fn 0 (by kernel_rfl) fm.ok trivial⟩
abbrev bT.L0.D:=Int×Int×Int
def bT.L0.st:bT.L0.D->AS:=λ(uu,vn,outv)=>⟨([.d tu uu,.d tu vn,.undef,.undef,.undef,.d tu outv]++bG 14 []),[],(List.replicate 20 [])⟩
abbrev bT.L0.Y0:=Int
abbrev bT.L0.X0:=Int
def bT.L0.bY:bT.L0.X0->Exit×AS:=λx=>(.exit 0,⟨(bG 5 ([.d tu x]++bG 14 [])),[],(List.replicate 20 [])⟩)
abbrev bT.L0.X:=bT.L0.X0
abbrev bT.L0.Y:=bT.L0.Y0
def bT.L0.out:bT.L0.X->Out (Exit×AS):=λx=> .ok (bT.L0.bY x)
def bT.L0.add:bT.L0.D->bT.L0.Y->bT.L0.X:=λ(uu,vn,outv) y=>y
abbrev bT.D:=Int×Int
def bT.st:bT.D->SA:=λ(a,n)=>([.d tu a,.d tu n],[])
abbrev bT.Y:=Int
abbrev bT.X:=Int
def bT.out:bT.X->aX:=λx=>⟨.d tu x,[],[]⟩
def bT.add:bT.D->bT.Y->bT.X:=λ(a,n) y=>y
def bT.L0.az:bT.L0.D->Prop:=λ(a,n,o)=>iy a/\iy n/\Pn o
def bT.L0.F:bT.L0.D->bT.L0.Y:=λ(a,n,o)=>F8 64 a n.toNat o
def bT.az:bT.D->Prop:=λ(a,n)=>iy a/\iy n
def bT.F:bT.D->bT.Y:=λ(a,n)=>pw a n.toNat
def bT.G:fD:=gr (P:=Tryz.prog) [fm.sg]
def bT.L0.E:=cU.dp bT.L0.st bT.L0.az bT.L0.add bT.L0.F bT.L0.out
def bT.L0.call:bT.L0.D->Option bT.L0.X:=eI bT.L0.E bT.L0.st
def bT.an:fR:= {loops:=om [(2,{bO:=[0,1,5]})],outs:=oh [(2,{bO:=[5]},{bO:=[4]})],jo:=pb [(2,bT.L0.E)]}
def bT.A:= @dm Tryz.prog bT.G bT.an 0 Tryz.f76 _ bT.st
abbrev bT.Ok:=dn @bT.A bT.az bT.add bT.F bT.out
def bT.L0.R:= @dr Tryz.prog bT.G bT.an 0 Tryz.f76 0 _ bT.L0.st
abbrev bT.L0.Ok:=gz Tryz.prog bT.G bT.an 0 Tryz.f76 0 bT.L0.st bT.L0.az bT.L0.add bT.L0.F bT.L0.out
theorem bT.L0.run:b8 bT.L0.call bT.L0.az bT.L0.add bT.L0.F:=gR (gJ [.d tu,.d tu,.d tu] λ_=>by kernel_rfl)
theorem bT.L0.aI:jl @bT.L0.R bT.L0.st bT.L0.az bT.L0.add bT.L0.F bT.L0.bY bT.L0.Ok:=js
theorem bT.L0.step{R:Type}(uu:Int)(vn:Int)(outv:Int)(kn:AS->Option R)(kx:Exit->AS->Option R):bT.L0.R (uu,vn,outv) kn kx=
  aJ ((sh vn (0:Int))) (
   aJ ((mV (dD .and .u64 vn (1:Int)) (1:Int))) (
    ah (fm.call (outv,uu)) λx1=>
    ah (fm.call (uu,uu)) λx2=>
    kn (bT.L0.st (x2,(cX .u64 vn (1:Int)),x1))) (
    ah (fm.call (uu,uu)) λx3=>
    kn (bT.L0.st (x3,(cX .u64 vn (1:Int)),outv)))) (
   kx (bT.L0.bY outv).1 (bT.L0.bY outv).2):=by kernel_rfl
theorem bT.eq{R:Type}(a:Int)(n:Int)(k:aX->Option R):bT.A (a,n) k=
 ah (bT.L0.call (a,n,(1:Int))) λx4=>
 k (bT.out x4):=by kernel_rfl
theorem Ws{n:Int}(h:iy n):cX .u64 n 1=n / 2:=qR 1 (by rfl) (by omega)
theorem bT.L0.ok:bT.L0.Ok:=by
 refine bT.L0.aI (λ(a,n,o)=>n.toNat) ?_
 rintro⟨a,n,o⟩ ⟨ha,hn,ho⟩
 have ha:iy a:=ha
 have hn:iy n:=hn
 have ho:Pn o:=ho
 have n0:=hn.1
 have n1:=hn.2
 by_cases h:0 < n
 ·left
  have e:bT.L0.F (a,n,o)=bT.L0.F (mz a a,n / 2,if n%2=1 then mz o a else o):=by
   show F8 64 a n.toNat o=F8 64 (mz a a) (n / 2).toNat _
   rw[CR 64 65 a n.toNat o (by omega) (by omega)]
   have t1:(n / 2).toNat=n.toNat / 2:=by omega
   have t2:(n%2=1)=(n.toNat%2=1):=by apply propext;omega
   rw[t1]
   simp only[t2]
   show(if n.toNat=0 then o else _)=_
   rw[if_neg (by omega)]
  refine⟨(mz a a,n / 2,if n%2=1 then mz o a else o),⟨(qd a a).u,⟨by omega,by omega⟩,?_⟩,by show(n / 2).toNat < n.toNat;omega,?_,λkn kx=> ?_⟩
  ·show Pn (if n%2=1 then mz o a else o)
   split
   ·exact qd _ _
   ·exact ho
  ·exact congrArg _ e.symm
  ·rw[bT.L0.step,fE h,Ws hn,SS n0 n1,fm.run (d:=(o,a)) ⟨ho.u,ha⟩,fm.run (d:=(a,a)) ⟨ha,ha⟩]
   by_cases h1:n%2=1
   ·rw[fA h1,if_pos h1];rfl
   ·rw[fJ h1,if_neg h1];rfl
 ·right
  intro R kn kx
  obtain rfl:n=0:=by omega
  rw[bT.L0.step,dY (by omega)]
  simp only[ai,bT.L0.add,bT.L0.F]
  rw[show F8 64 a (Int.toNat 0) o=o from sL _ _ _]
theorem bT.ok:bT.Ok:=by
 rintro⟨a,n⟩ ⟨ha,hn⟩
 rw[bT.eq,bT.L0.run (d:=(a,n,1)) ⟨ha,hn,by omega,by omega⟩]
 rfl
def bT.E:=Entry.dp [some tu,some tu] bT.st bT.az bT.add bT.F bT.out
def bT.call:bT.D->Option bT.X:=bX bT.E bT.st
theorem bT.run:b8 bT.call bT.az bT.add bT.F:=dv (du [.d tu,.d tu] λ_=>by kernel_rfl)
def bT.sg:SG Tryz.prog:=⟨76,aP,bT.E,.fn 1 (by kernel_rfl) bT.ok (And.intro (.dp bT.L0.ok (by kernel_rfl)) trivial)⟩
def oM(p:Int):Bool:=decide (0 < p/\p < 4611686018427377339) && decide (pw p 2305843009213688669=1)
def tk(p:Int):Int:=if oM p then p else 1
theorem Kt(p:Int):Pn (tk p):=by
 unfold tk
 split
 ·rename_i h
  simp only[oM,ak,decide_eq_true_eq]at h
  exact⟨by omega,by omega⟩
 ·exact⟨by omega,by omega⟩
def oH(p k:Int):Int:=pw (tk p) (k%2305843009213688669).toNat
def fy(k:Int):Int:=oH 4 k
def Hi(p:Int):Int:=pw (tk p) 2305843009213688668
def uY(l:List Int):Int:=l.foldl (λo p=>mz o (tk p)) 1
theorem PN(l:List Int)(o:Int)(h:Pn o):Pn (l.foldl (λo p=>mz o (tk p)) o):=by
 induction l generalizing o with
 |nil=>exact h
 |cons p l ih=>exact ih _ (qd _ _)
theorem Ko(l:List Int):Pn (uY l):=PN l 1 ⟨by omega,by omega⟩
abbrev dy.D:=Int
def dy.st:dy.D->SA:=λp=>([.d tu p],[])
abbrev dy.Y:=Bool
abbrev dy.X:=Bool
def dy.out:dy.X->aX:=λx=>⟨.d .bool x,[],[]⟩
def dy.add:dy.D->dy.Y->dy.X:=λp y=>y
def dy.az:dy.D->Prop:=λp=>iy p
def dy.F:dy.D->dy.Y:=λp=>oM p
def dy.G:fD:=gr (P:=Tryz.prog) [bT.sg]
def dy.an:fR:= {}
def dy.A:= @dm Tryz.prog dy.G dy.an 0 Tryz.f34 _ dy.st
abbrev dy.Ok:=dn @dy.A dy.az dy.add dy.F dy.out
theorem dy.eq{R:Type}(p:Int)(k:aX->Option R):dy.A p k=
  aJ ((sh p (0:Int))) (
   aJ ((jM p (4611686018427377339:Int))) (
    ah (bT.call (p,(2305843009213688669:Int))) λx1=>
    k (dy.out (mV x1 (1:Int)))) (
    k (dy.out false))) (
   k (dy.out false)):=by kernel_rfl
theorem dy.ok:dy.Ok:=by
 intro p hp
 have hp:iy p:=hp
 rw[dy.eq,bT.run (d:=(p,2305843009213688669)) ⟨hp,by constructor <;> decide⟩]
 simp only[ab,bT.add,bT.F,dy.add,dy.F,oM]
 by_cases h:0 < p
 ·rw[fE h,ae]
  by_cases h2:p < 4611686018427377339
  ·rw[bI h2,ae,aM ⟨h,h2⟩,cr]
   rfl
  ·rw[bp h2,ai,cq (λx=>h2 x.2),fN]
 ·rw[dY h,ai,cq (λx=>h x.1),fN]
def dy.E:=Entry.dp [some tu] dy.st dy.az dy.add dy.F dy.out
def dy.call:dy.D->Option dy.X:=bX dy.E dy.st
theorem dy.run:b8 dy.call dy.az dy.add dy.F:=dv (du [.d tu] λ_=>by kernel_rfl)
def dy.sg:SG Tryz.prog:=⟨34,aP,dy.E,.fn 0 (by kernel_rfl) dy.ok trivial⟩
abbrev eA.D:=Int
def eA.st:eA.D->SA:=λp=>([.d tu p],[])
abbrev eA.Y:=Int
abbrev eA.X:=Int
def eA.out:eA.X->aX:=λx=>⟨.d tu x,[],[]⟩
def eA.add:eA.D->eA.Y->eA.X:=λp y=>y
def eA.az:eA.D->Prop:=λp=>iy p
def eA.F:eA.D->eA.Y:=λp=>tk p
def eA.G:fD:=gr (P:=Tryz.prog) [dy.sg]
def eA.an:fR:= {}
def eA.A:= @dm Tryz.prog eA.G eA.an 0 Tryz.f121 _ eA.st
abbrev eA.Ok:=dn @eA.A eA.az eA.add eA.F eA.out
theorem eA.eq{R:Type}(p:Int)(k:aX->Option R):eA.A p k=
  ah (dy.call p) λx1=>
  aJ (x1) (
   k (eA.out p)) (
   k (eA.out (1:Int))):=by kernel_rfl
theorem eA.ok:eA.Ok:=by
 intro p hp
 rw[eA.eq,dy.run (d:=p) hp]
 simp only[ab,dy.add,dy.F,eA.add,eA.F,tk]
 cases oM p <;> rfl
def eA.E:=Entry.dp [some tu] eA.st eA.az eA.add eA.F eA.out
def eA.call:eA.D->Option eA.X:=bX eA.E eA.st
theorem eA.run:b8 eA.call eA.az eA.add eA.F:=dv (du [.d tu] λ_=>by kernel_rfl)
def eA.sg:SG Tryz.prog:=⟨121,aP,eA.E,.fn 0 (by kernel_rfl) eA.ok trivial⟩
abbrev eL.D:=Int×Int
def eL.st:eL.D->SA:=λ(p,kv)=>([.d tu p,.d tu kv],[])
abbrev eL.Y:=Int
abbrev eL.X:=Int
def eL.out:eL.X->aX:=λx=>⟨.d tu x,[],[]⟩
def eL.add:eL.D->eL.Y->eL.X:=λ(p,kv) y=>y
def eL.az:eL.D->Prop:=λ(p,k)=>iy p/\iy k
def eL.F:eL.D->eL.Y:=λ(p,k)=>oH p k
def eL.G:fD:=gr (P:=Tryz.prog) [eA.sg,bT.sg]
def eL.an:fR:= {}
def eL.A:= @dm Tryz.prog eL.G eL.an 0 Tryz.f70 _ eL.st
abbrev eL.Ok:=dn @eL.A eL.az eL.add eL.F eL.out
theorem eL.eq{R:Type}(p:Int)(kv:Int)(k:aX->Option R):eL.A (p,kv) k=
 ah (eA.call p) λx1=>
 ah (bT.call (x1,(iN kv (2305843009213688669:Int)))) λx2=>
 k (eL.out x2):=by kernel_rfl
theorem eL.ok:eL.Ok:=by
 rintro⟨p,k⟩ ⟨hp,hk⟩
 have hk:iy k:=hk
 have e:=lh (y:=2305843009213688669) hk.1
 have b:iy (k%2305843009213688669):=⟨by omega,by omega⟩
 rw[eL.eq,eA.run (d:=p) hp,e]
 simp only[ab,eA.add,eA.F]
 rw[bT.run (d:=(tk p,k%2305843009213688669)) ⟨(Kt p).u,b⟩]
 rfl
def eL.E:=Entry.dp [some tu,some tu] eL.st eL.az eL.add eL.F eL.out
def eL.call:eL.D->Option eL.X:=bX eL.E eL.st
theorem eL.run:b8 eL.call eL.az eL.add eL.F:=dv (du [.d tu,.d tu] λ_=>by kernel_rfl)
def eL.sg:SG Tryz.prog:=⟨70,aP,eL.E,.fn 0 (by kernel_rfl) eL.ok trivial⟩
abbrev dZ.D:=Int
def dZ.st:dZ.D->SA:=λkv=>([.d tu kv],[])
abbrev dZ.Y:=Int
abbrev dZ.X:=Int
def dZ.out:dZ.X->aX:=λx=>⟨.d tu x,[],[]⟩
def dZ.add:dZ.D->dZ.Y->dZ.X:=λkv y=>y
def dZ.az:dZ.D->Prop:=λk=>iy k
def dZ.F:dZ.D->dZ.Y:=λk=>fy k
def dZ.G:fD:=gr (P:=Tryz.prog) [eL.sg]
def dZ.an:fR:= {}
def dZ.A:= @dm Tryz.prog dZ.G dZ.an 0 Tryz.f28 _ dZ.st
abbrev dZ.Ok:=dn @dZ.A dZ.az dZ.add dZ.F dZ.out
theorem dZ.eq{R:Type}(kv:Int)(k:aX->Option R):dZ.A kv k=
 ah (eL.call ((4:Int),kv)) λx1=>
 k (dZ.out x1):=by kernel_rfl
theorem dZ.ok:dZ.Ok:=by
 intro k hk
 rw[dZ.eq,eL.run (d:=(4,k)) ⟨⟨by omega,by omega⟩,hk⟩]
 rfl
def dZ.E:=Entry.dp [some tu] dZ.st dZ.az dZ.add dZ.F dZ.out
def dZ.call:dZ.D->Option dZ.X:=bX dZ.E dZ.st
theorem dZ.run:b8 dZ.call dZ.az dZ.add dZ.F:=dv (du [.d tu] λ_=>by kernel_rfl)
def dZ.sg:SG Tryz.prog:=⟨28,aP,dZ.E,.fn 0 (by kernel_rfl) dZ.ok trivial⟩
abbrev kj.D:=Int
def kj.st:kj.D->SA:=λp=>([.d tu p],[])
abbrev kj.Y:=Int
abbrev kj.X:=Int
def kj.out:kj.X->aX:=λx=>⟨.d tu x,[],[]⟩
def kj.add:kj.D->kj.Y->kj.X:=λp y=>y
def kj.az:kj.D->Prop:=λp=>iy p
def kj.F:kj.D->kj.Y:=λp=>Hi p
def kj.G:fD:=gr (P:=Tryz.prog) [eA.sg,bT.sg]
def kj.an:fR:= {}
def kj.A:= @dm Tryz.prog kj.G kj.an 0 Tryz.f177 _ kj.st
abbrev kj.Ok:=dn @kj.A kj.az kj.add kj.F kj.out
theorem kj.eq{R:Type}(p:Int)(k:aX->Option R):kj.A p k=
 ah (eA.call p) λx1=>
 ah (bT.call (x1,(2305843009213688668:Int))) λx2=>
 k (kj.out x2):=by kernel_rfl
theorem kj.ok:kj.Ok:=by
 intro p hp
 rw[kj.eq,eA.run (d:=p) hp]
 simp only[ab,eA.add,eA.F]
 rw[bT.run (d:=(tk p,2305843009213688668)) ⟨(Kt p).u,by constructor <;> decide⟩]
 rfl
def kj.E:=Entry.dp [some tu] kj.st kj.az kj.add kj.F kj.out
def kj.call:kj.D->Option kj.X:=bX kj.E kj.st
theorem kj.run:b8 kj.call kj.az kj.add kj.F:=dv (du [.d tu] λ_=>by kernel_rfl)
def kj.sg:SG Tryz.prog:=⟨177,aP,kj.E,.fn 0 (by kernel_rfl) kj.ok trivial⟩
abbrev eK.L0.D:=Int×Bs×Int×Int
def eK.L0.st:eK.L0.D->AS:=λ(outv,t6,t7,t8)=>⟨([.undef,.undef,.undef,.d tu outv,.undef,.undef,.d tU t6,.d ti t7,.d ti t8]++bG 9 []),[],(List.replicate 18 [])⟩
abbrev eK.L0.Y0:=Int
abbrev eK.L0.X0:=Int
def eK.L0.bY:eK.L0.X0->Exit×AS:=λx=>(.exit 0,⟨([.undef,.undef,.undef,.d tu x]++bG 14 []),[],(List.replicate 18 [])⟩)
abbrev eK.L0.X:=eK.L0.X0
abbrev eK.L0.Y:=eK.L0.Y0
def eK.L0.out:eK.L0.X->Out (Exit×AS):=λx=> .ok (eK.L0.bY x)
def eK.L0.add:eK.L0.D->eK.L0.Y->eK.L0.X:=λ(outv,t6,t7,t8) y=>y
abbrev eK.D:=Bs
def eK.st:eK.D->SA:=λl=>([.d tU l],[])
abbrev eK.Y:=Int
abbrev eK.X:=Int
def eK.out:eK.X->aX:=λx=>⟨.d tu x,[],[]⟩
def eK.add:eK.D->eK.Y->eK.X:=λl y=>y
def eK.L0.az:eK.L0.D->Prop:=λ(o,l,n,i)=>Pn o/\(∀x∈l,iy x)/\l.length<=1000000000/\n=l.length/\∃k:Nat,k<=l.length/\i=k
def eK.L0.F:eK.L0.D->eK.L0.Y:=λ(o,l,n,i)=>(l.drop i.toNat).foldl (λo p=>mz o (tk p)) o
def eK.az:eK.D->Prop:=λl=>(∀x∈l,iy x)/\l.length<=1000000000
def eK.F:eK.D->eK.Y:=λl=>uY l
def eK.G:fD:=gr (P:=Tryz.prog) [eA.sg,fm.sg]
def eK.L0.E:=cU.dp eK.L0.st eK.L0.az eK.L0.add eK.L0.F eK.L0.out
def eK.L0.call:eK.L0.D->Option eK.L0.X:=eI eK.L0.E eK.L0.st
def eK.an:fR:= {loops:=om [(3,{bO:=[3,6,7,8]})],outs:=oh [(3,{bO:=[3]},{bO:=[2]})],jo:=pb [(3,eK.L0.E)]}
def eK.A:= @dm Tryz.prog eK.G eK.an 0 Tryz.f165 _ eK.st
abbrev eK.Ok:=dn @eK.A eK.az eK.add eK.F eK.out
def eK.L0.R:= @dr Tryz.prog eK.G eK.an 0 Tryz.f165 0 _ eK.L0.st
abbrev eK.L0.Ok:=gz Tryz.prog eK.G eK.an 0 Tryz.f165 0 eK.L0.st eK.L0.az eK.L0.add eK.L0.F eK.L0.out
theorem eK.L0.run:b8 eK.L0.call eK.L0.az eK.L0.add eK.L0.F:=gR (gJ [.d tu,.d tU,.d ti,.d ti] λ_=>by kernel_rfl)
theorem eK.L0.aI:jl @eK.L0.R eK.L0.st eK.L0.az eK.L0.add eK.L0.F eK.L0.bY eK.L0.Ok:=js
theorem eK.L0.step{R:Type}(outv:Int)(t6:Bs)(t7:Int)(t8:Int)(kn:AS->Option R)(kx:Exit->AS->Option R):eK.L0.R (outv,t6,t7,t8) kn kx=
  aJ ((jM t8 t7)) (
   aJ (fB t8 (((List.length t6):Nat):Int)) (
   ah (eA.call (nth tu t6 (Int.toNat t8))) λx1=>
   ah (fm.call (outv,x1)) λx2=>
   kn (eK.L0.st (x2,t6,t7,(bV .i64 t8 (1:Int))))) none) (
   kx (eK.L0.bY outv).1 (eK.L0.bY outv).2):=by kernel_rfl
theorem eK.eq{R:Type}(l:Bs)(k:aX->Option R):eK.A l k=
 ah (eK.L0.call ((1:Int),l,(((List.length l):Nat):Int),(0:Int))) λx3=>
 k (eK.out x3):=by kernel_rfl
theorem eK.L0.ok:eK.L0.Ok:=by
 refine eK.L0.aI (λ(o,l,n,i)=>l.length - i.toNat) ?_
 rintro⟨o,l,n,i⟩ ⟨ho,hl,hb,rfl,k,hk,rfl⟩
 have ho:Pn o:=ho
 have hb:l.length<=1000000000:=hb
 have hk:k<=l.length:=hk
 by_cases h:k < l.length
 ·left
  have hx:=hl _ (List.getElem_mem h)
  have n1:nth (.int .u64) l k=l[k]:=dQ (t:= .int .u64) h
  refine⟨(mz o (tk l[k]),l,l.length,((k+1:Nat):Int)),⟨qd _ _,hl,hb,rfl,k+1,by omega,rfl⟩,by simp only[aa];omega,?_,λkn kx=> ?_⟩
  ·simp only[eK.L0.add,eK.L0.F,aa]
   rw[av h]
   rfl
  ·rw[eK.L0.step]
   simp(disch:=omega) only[↓S1,↓if_pos,↓if_neg,if_pos,if_neg,if_true,if_false,S2,n1]
   rw[eA.run (d:=l[k]) hx]
   simp only[ab,eA.add,eA.F]
   rw[fm.run (d:=(o,tk l[k])) ⟨ho.u,(Kt _).u⟩]
   rfl
 ·right
  obtain rfl:k=l.length:=by omega
  intro R kn kx
  rw[eK.L0.step]
  simp(disch:=omega) only[↓S1,↓if_pos,↓if_neg,if_pos,if_neg,if_true,if_false,S2,eK.L0.add,eK.L0.F,bB]
  rfl
theorem eK.ok:eK.Ok:=by
 rintro l ⟨hl,hb⟩
 rw[eK.eq,eK.L0.run (d:=(1,l,l.length,0)) ⟨⟨by omega,by omega⟩,hl,hb,rfl,0,by omega,rfl⟩]
 rfl
def eK.E:=Entry.dp [some tU] eK.st eK.az eK.add eK.F eK.out
def eK.call:eK.D->Option eK.X:=bX eK.E eK.st
theorem eK.run:b8 eK.call eK.az eK.add eK.F:=dv (du [.d tU] λ_=>by kernel_rfl)
def eK.sg:SG Tryz.prog:=⟨165,aP,eK.E,.fn 1 (by kernel_rfl) eK.ok (And.intro (.dp eK.L0.ok (by kernel_rfl)) trivial)⟩
abbrev jw.D:=Int×Int
def jw.st:jw.D->SA:=λ(p,q)=>([.d tu p,.d tu q],[])
abbrev jw.Y:=Int
abbrev jw.X:=Int
def jw.out:jw.X->aX:=λx=>⟨.d tu x,[],[]⟩
def jw.add:jw.D->jw.Y->jw.X:=λ(p,q) y=>y
def jw.az:jw.D->Prop:=λ(p,q)=>iy p/\iy q
def jw.F:jw.D->jw.Y:=λ(p,q)=>uY [p,q]
def jw.G:fD:=gr (P:=Tryz.prog) [eK.sg]
def jw.an:fR:= {}
def jw.A:= @dm Tryz.prog jw.G jw.an 0 Tryz.f130 _ jw.st
abbrev jw.Ok:=dn @jw.A jw.az jw.add jw.F jw.out
theorem jw.eq{R:Type}(p:Int)(q:Int)(k:aX->Option R):jw.A (p,q) k=
 ah (eK.call [p,q]) λx1=>
 k (jw.out x1):=by kernel_rfl
theorem jw.ok:jw.Ok:=by
 rintro⟨p,q⟩ ⟨hp,hq⟩
 have h:eK.az [p,q]:=⟨by intro x hx;simp only[cE,List.not_mem_nil,or_false]at hx;rcases hx with rfl | rfl <;> assumption,by simp only[aO,bM];omega⟩
 rw[jw.eq,eK.run h]
 rfl
def jw.E:=Entry.dp [some tu,some tu] jw.st jw.az jw.add jw.F jw.out
def jw.call:jw.D->Option jw.X:=bX jw.E jw.st
theorem jw.run:b8 jw.call jw.az jw.add jw.F:=dv (du [.d tu,.d tu] λ_=>by kernel_rfl)
def jw.sg:SG Tryz.prog:=⟨130,aP,jw.E,.fn 0 (by kernel_rfl) jw.ok trivial⟩
def Qn(x:Int):Prop:=0<=x/\x < 2305843009213688669
theorem Qn.u{x:Int}(h:Qn x):iy x:=⟨h.1,by have:=h.2;omega⟩
def Ly(a:Int):Int:=a%2305843009213688669
theorem FG(a:Int):Qn (Ly a):=⟨kU _ (by omega),kB _ (by omega)⟩
def BJ(a b:Int):Int:=(Ly a+Ly b)%2305843009213688669
def yK(a b:Int):Int:=Ly a*Ly b%2305843009213688669
def kT(h:List Int):Int:=h.foldl (λn b=>(n*256+b)%2305843009213688668) 0+1
def ET.b(n:Int):Prop:=0<=n/\n < 2305843009213688668
theorem B4(h:List Int)(n:Int)(hn:ET.b n):ET.b (h.foldl (λn b=>(n*256+b)%2305843009213688668) n):=by
 induction h generalizing n with
 |nil=>exact hn
 |cons p l ih=>exact ih _ ⟨kU _ (by omega),kB _ (by omega)⟩
theorem lX(h:List Int):0 < kT h/\kT h < 2305843009213688669:=by
 have:=B4 h 0 ⟨by omega,by omega⟩
 have h1:=this.1
 have h2:=this.2
 unfold kT
 omega
theorem yl(a b:Int):Qn (BJ a b):=⟨kU _ (by omega),kB _ (by omega)⟩
theorem yL(a b:Int):Qn (yK a b):=⟨kU _ (by omega),kB _ (by omega)⟩
abbrev eO.D:=Int
def eO.st:eO.D->SA:=λa=>([.d tu a],[])
abbrev eO.Y:=Bool
abbrev eO.X:=Bool
def eO.out:eO.X->aX:=λx=>⟨.d .bool x,[],[]⟩
def eO.add:eO.D->eO.Y->eO.X:=λa y=>y
def eO.az:eO.D->Prop:=λ_=>True
def eO.F:eO.D->eO.Y:=λa=>jM a 2305843009213688669
def eO.G:fD:=gr (P:=Tryz.prog) []
def eO.an:fR:= {}
def eO.A:= @dm Tryz.prog eO.G eO.an 0 Tryz.f126 _ eO.st
abbrev eO.Ok:=dn @eO.A eO.az eO.add eO.F eO.out
theorem eO.eq{R:Type}(a:Int)(k:aX->Option R):eO.A a k=
 k (eO.out (jM a (2305843009213688669:Int))):=by kernel_rfl
theorem eO.ok:eO.Ok:=by
 intro a _
 rw[eO.eq]
 rfl
def eO.E:=Entry.dp [some tu] eO.st eO.az eO.add eO.F eO.out
def eO.call:eO.D->Option eO.X:=bX eO.E eO.st
theorem eO.run:b8 eO.call eO.az eO.add eO.F:=dv (du [.d tu] λ_=>by kernel_rfl)
def eO.sg:SG Tryz.prog:=⟨126,aP,eO.E,.fn 0 (by kernel_rfl) eO.ok trivial⟩
abbrev oL.D:=Int
def oL.st:oL.D->SA:=λa=>([.d tu a],[])
abbrev oL.Y:=Int
abbrev oL.X:=Int
def oL.out:oL.X->aX:=λx=>⟨.d tu x,[],[]⟩
def oL.add:oL.D->oL.Y->oL.X:=λa y=>y
def oL.az:oL.D->Prop:=λa=>iy a
def oL.F:oL.D->oL.Y:=λa=>Ly a
def oL.G:fD:=gr (P:=Tryz.prog) []
def oL.an:fR:= {}
def oL.A:= @dm Tryz.prog oL.G oL.an 0 Tryz.f159 _ oL.st
abbrev oL.Ok:=dn @oL.A oL.az oL.add oL.F oL.out
theorem oL.eq{R:Type}(a:Int)(k:aX->Option R):oL.A a k=
 k (oL.out (iN a (2305843009213688669:Int))):=by kernel_rfl
theorem oL.ok:oL.Ok:=by
 intro a ha
 rw[oL.eq,lh ha.1]
 rfl
def oL.E:=Entry.dp [some tu] oL.st oL.az oL.add oL.F oL.out
def oL.call:oL.D->Option oL.X:=bX oL.E oL.st
theorem oL.run:b8 oL.call oL.az oL.add oL.F:=dv (du [.d tu] λ_=>by kernel_rfl)
def oL.sg:SG Tryz.prog:=⟨159,aP,oL.E,.fn 0 (by kernel_rfl) oL.ok trivial⟩
abbrev iB.D:=Int×Int
def iB.st:iB.D->SA:=λ(a,b)=>([.d tu a,.d tu b],[])
abbrev iB.Y:=Int
abbrev iB.X:=Int
def iB.out:iB.X->aX:=λx=>⟨.d tu x,[],[]⟩
def iB.add:iB.D->iB.Y->iB.X:=λ(a,b) y=>y
def iB.az:iB.D->Prop:=λ(a,b)=>Qn a/\Qn b
def iB.F:iB.D->iB.Y:=λ(a,b)=>(a+b)%2305843009213688669
def iB.G:fD:=gr (P:=Tryz.prog) []
def iB.an:fR:= {}
def iB.A:= @dm Tryz.prog iB.G iB.an 0 Tryz.f160 _ iB.st
abbrev iB.Ok:=dn @iB.A iB.az iB.add iB.F iB.out
theorem iB.eq{R:Type}(a:Int)(b:Int)(k:aX->Option R):iB.A (a,b) k=
 k (iB.out (iN (bV .u64 a b) (2305843009213688669:Int))):=by kernel_rfl
theorem iB.ok:iB.Ok:=by
 rintro⟨a,b⟩ ⟨ha,hb⟩
 have ha:Qn a:=ha
 have hb:Qn b:=hb
 obtain⟨h1,h2⟩:=ha
 obtain⟨h3,h4⟩:=hb
 have e:bV .u64 a b=a+b:=by rw[nv];omega
 rw[iB.eq,e,lh (by omega)]
 rfl
def iB.E:=Entry.dp [some tu,some tu] iB.st iB.az iB.add iB.F iB.out
def iB.call:iB.D->Option iB.X:=bX iB.E iB.st
theorem iB.run:b8 iB.call iB.az iB.add iB.F:=dv (du [.d tu,.d tu] λ_=>by kernel_rfl)
def iB.sg:SG Tryz.prog:=⟨160,aP,iB.E,.fn 0 (by kernel_rfl) iB.ok trivial⟩
abbrev fM.D:=Int×Int
def fM.st:fM.D->SA:=λ(a,b)=>([.d tu a,.d tu b],[])
abbrev fM.Y:=Int
abbrev fM.X:=Int
def fM.out:fM.X->aX:=λx=>⟨.d tu x,[],[]⟩
def fM.add:fM.D->fM.Y->fM.X:=λ(a,b) y=>y
def fM.az:fM.D->Prop:=λ(a,b)=>Qn a/\Qn b
def fM.F:fM.D->fM.Y:=λ(a,b)=>a*b%2305843009213688669
def fM.G:fD:=gr (P:=Tryz.prog) [gg.sg,fQ.sg]
def fM.an:fR:= {}
def fM.A:= @dm Tryz.prog fM.G fM.an 0 Tryz.f161 _ fM.st
abbrev fM.Ok:=dn @fM.A fM.az fM.add fM.F fM.out
theorem fM.eq{R:Type}(a:Int)(b:Int)(k:aX->Option R):fM.A (a,b) k=
 ah (gg.call (a,b)) λx1=>
 ah (fQ.call (x1.1,x1.2,(2305843009213688669:Int))) λx2=>
 k (fM.out x2):=by kernel_rfl
theorem fM.ok:fM.Ok:=by
 rintro⟨a,b⟩ ⟨ha,hb⟩
 have ha:Qn a:=ha
 have hb:Qn b:=hb
 obtain⟨m1,m2⟩:=zW ha.1 (show a<=18446744073709551615 by have:=ha.2;omega) hb.1 (show b<=18446744073709551615 by have:=hb.2;omega)
 have n:(18446744073709551615:Int)*18446744073709551615=340282366920938463426481119284349108225:=rfl
 rw[n]at m2
 have p:fQ.az (a*b / 18446744073709551616,a*b%18446744073709551616,2305843009213688669):=⟨Or.inr (Or.inl rfl),by omega,by omega,by omega,by omega⟩
 rw[fM.eq,gg.run (d:=(a,b)) ⟨ha.u,hb.u⟩]
 simp only[ab,gg.add,gg.F]
 rw[fQ.run p]
 simp only[ab,fQ.add,fQ.F,Df]
 rfl
def fM.E:=Entry.dp [some tu,some tu] fM.st fM.az fM.add fM.F fM.out
def fM.call:fM.D->Option fM.X:=bX fM.E fM.st
theorem fM.run:b8 fM.call fM.az fM.add fM.F:=dv (du [.d tu,.d tu] λ_=>by kernel_rfl)
def fM.sg:SG Tryz.prog:=⟨161,aP,fM.E,.fn 0 (by kernel_rfl) fM.ok trivial⟩
abbrev jS.D:=Int×Int
def jS.st:jS.D->SA:=λ(a,b)=>([.d tu a,.d tu b],[])
abbrev jS.Y:=Int
abbrev jS.X:=Int
def jS.out:jS.X->aX:=λx=>⟨.d tu x,[],[]⟩
def jS.add:jS.D->jS.Y->jS.X:=λ(a,b) y=>y
def jS.az:jS.D->Prop:=λ(a,b)=>iy a/\iy b
def jS.F:jS.D->jS.Y:=λ(a,b)=>BJ a b
def jS.G:fD:=gr (P:=Tryz.prog) [oL.sg,iB.sg]
def jS.an:fR:= {}
def jS.A:= @dm Tryz.prog jS.G jS.an 0 Tryz.f122 _ jS.st
abbrev jS.Ok:=dn @jS.A jS.az jS.add jS.F jS.out
theorem jS.eq{R:Type}(a:Int)(b:Int)(k:aX->Option R):jS.A (a,b) k=
 ah (oL.call a) λx1=>
 ah (oL.call b) λx2=>
 ah (iB.call (x1,x2)) λx3=>
 k (jS.out x3):=by kernel_rfl
theorem jS.ok:jS.Ok:=by
 rintro⟨a,b⟩ ⟨ha,hb⟩
 rw[jS.eq,oL.run (d:=a) ha,oL.run (d:=b) hb]
 simp only[ab,oL.add,oL.F]
 rw[iB.run (d:=(Ly a,Ly b)) ⟨FG a,FG b⟩]
 rfl
def jS.E:=Entry.dp [some tu,some tu] jS.st jS.az jS.add jS.F jS.out
def jS.call:jS.D->Option jS.X:=bX jS.E jS.st
theorem jS.run:b8 jS.call jS.az jS.add jS.F:=dv (du [.d tu,.d tu] λ_=>by kernel_rfl)
def jS.sg:SG Tryz.prog:=⟨122,aP,jS.E,.fn 0 (by kernel_rfl) jS.ok trivial⟩
abbrev jD.D:=Int×Int
def jD.st:jD.D->SA:=λ(a,b)=>([.d tu a,.d tu b],[])
abbrev jD.Y:=Int
abbrev jD.X:=Int
def jD.out:jD.X->aX:=λx=>⟨.d tu x,[],[]⟩
def jD.add:jD.D->jD.Y->jD.X:=λ(a,b) y=>y
def jD.az:jD.D->Prop:=λ(a,b)=>iy a/\iy b
def jD.F:jD.D->jD.Y:=λ(a,b)=>yK a b
def jD.G:fD:=gr (P:=Tryz.prog) [oL.sg,fM.sg]
def jD.an:fR:= {}
def jD.A:= @dm Tryz.prog jD.G jD.an 0 Tryz.f123 _ jD.st
abbrev jD.Ok:=dn @jD.A jD.az jD.add jD.F jD.out
theorem jD.eq{R:Type}(a:Int)(b:Int)(k:aX->Option R):jD.A (a,b) k=
 ah (oL.call a) λx1=>
 ah (oL.call b) λx2=>
 ah (fM.call (x1,x2)) λx3=>
 k (jD.out x3):=by kernel_rfl
theorem jD.ok:jD.Ok:=by
 rintro⟨a,b⟩ ⟨ha,hb⟩
 rw[jD.eq,oL.run (d:=a) ha,oL.run (d:=b) hb]
 simp only[ab,oL.add,oL.F]
 rw[fM.run (d:=(Ly a,Ly b)) ⟨FG a,FG b⟩]
 rfl
def jD.E:=Entry.dp [some tu,some tu] jD.st jD.az jD.add jD.F jD.out
def jD.call:jD.D->Option jD.X:=bX jD.E jD.st
theorem jD.run:b8 jD.call jD.az jD.add jD.F:=dv (du [.d tu,.d tu] λ_=>by kernel_rfl)
def jD.sg:SG Tryz.prog:=⟨123,aP,jD.E,.fn 0 (by kernel_rfl) jD.ok trivial⟩
abbrev cC.L0.D:=Int×Bs×Int
def cC.L0.st:cC.L0.D->AS:=λ(n,t6,t7)=>⟨([.undef,.undef,.undef,.d tu n,.undef,.undef,.d tH t6,.d ti t7]++bG 13 []),[],(List.replicate 21 [])⟩
abbrev cC.L0.Y0:=Int
abbrev cC.L0.X0:=Int
def cC.L0.bY:cC.L0.X0->Exit×AS:=λx=>(.exit 0,⟨([.undef,.undef,.undef,.d tu x]++bG 17 []),[],(List.replicate 21 [])⟩)
abbrev cC.L0.X:=cC.L0.X0
abbrev cC.L0.Y:=cC.L0.Y0
def cC.L0.out:cC.L0.X->Out (Exit×AS):=λx=> .ok (cC.L0.bY x)
def cC.L0.add:cC.L0.D->cC.L0.Y->cC.L0.X:=λ(n,t6,t7) y=>y
abbrev cC.D:=Bs
def cC.st:cC.D->SA:=λh=>([.d tH h],[])
abbrev cC.Y:=Int
abbrev cC.X:=Int
def cC.out:cC.X->aX:=λx=>⟨.d tu x,[],[]⟩
def cC.add:cC.D->cC.Y->cC.X:=λh y=>y
def cC.L0.az:cC.L0.D->Prop:=λ(n,h,i)=>ET.b n/\h.length=32/\Bytes h/\∃k:Nat,k<=32/\i=k
def cC.L0.F:cC.L0.D->cC.L0.Y:=λ(n,h,i)=>(h.drop i.toNat).foldl (λn b=>(n*256+b)%2305843009213688668) n
def cC.az:cC.D->Prop:=λh=>h.length=32/\Bytes h
def cC.F:cC.D->cC.Y:=λh=>kT h
def cC.G:fD:=gr (P:=Tryz.prog) [fQ.sg]
def cC.L0.E:=cU.dp cC.L0.st cC.L0.az cC.L0.add cC.L0.F cC.L0.out
def cC.L0.call:cC.L0.D->Option cC.L0.X:=eI cC.L0.E cC.L0.st
def cC.an:fR:= {loops:=om [(3,{bO:=[3,6,7]})],outs:=oh [(3,{bO:=[3]},{bO:=[2]})],jo:=pb [(3,cC.L0.E)]}
def cC.A:= @dm Tryz.prog cC.G cC.an 0 Tryz.f99 _ cC.st
abbrev cC.Ok:=dn @cC.A cC.az cC.add cC.F cC.out
def cC.L0.R:= @dr Tryz.prog cC.G cC.an 0 Tryz.f99 0 _ cC.L0.st
abbrev cC.L0.Ok:=gz Tryz.prog cC.G cC.an 0 Tryz.f99 0 cC.L0.st cC.L0.az cC.L0.add cC.L0.F cC.L0.out
theorem cC.L0.run:b8 cC.L0.call cC.L0.az cC.L0.add cC.L0.F:=gR (gJ [.d tu,.d tB,.d ti] λ_=>by kernel_rfl)
theorem cC.L0.aI:jl @cC.L0.R cC.L0.st cC.L0.az cC.L0.add cC.L0.F cC.L0.bY cC.L0.Ok:=js
theorem cC.L0.step{R:Type}(n:Int)(t6:Bs)(t7:Int)(kn:AS->Option R)(kx:Exit->AS->Option R):cC.L0.R (n,t6,t7) kn kx=
  aJ ((jM t7 (32:Int))) (
   aJ (fB t7 (32:Int)) (
   ah (fQ.call ((cX .u64 n (56:Int)),(dD .or .u64 (oC .u64 n (8:Int)) (fa .u64 (nth tb t6 (Int.toNat t7)))),(2305843009213688668:Int))) λx1=>
   kn (cC.L0.st (x1,t6,(bV .i64 t7 (1:Int))))) none) (
   kx (cC.L0.bY n).1 (cC.L0.bY n).2):=by kernel_rfl
theorem cC.eq{R:Type}(h:Bs)(k:aX->Option R):cC.A h k=
 ah (cC.L0.call ((0:Int),h,(0:Int))) λx2=>
 k (cC.out (bV .u64 x2 (1:Int))):=by kernel_rfl
theorem GF{n b:Int}(hn:ET.b n)(hb:Dt b):cX .u64 n 56*18446744073709551616+dD .or .u64 (oC .u64 n 8) (fa .u64 b)=n*256+b/\iy (cX .u64 n 56)/\iy (dD .or .u64 (oC .u64 n 8) (fa .u64 b)):=by
 obtain⟨h1,h2⟩:=hn
 obtain⟨h3,h4⟩:=hb
 have p56:(2:Int)^56=72057594037927936:=rfl
 have p8:(2:Int)^8=256:=rfl
 have e:fa .u64 b=b:=by rw[IN];omega
 rw[qR 56 (by rfl) (by omega),qQ 8 (by rfl) (by omega),p56,p8,e,yP 8 256 rfl (by omega) (by omega) (by omega) (by omega) (by omega) (by omega)]
 exact⟨by omega,⟨by omega,by omega⟩,by omega,by omega⟩
theorem cC.L0.ok:cC.L0.Ok:=by
 refine cC.L0.aI (λ(n,h,i)=>32 - i.toNat) ?_
 rintro⟨n,h,i⟩ ⟨hn,hl,hb,k,hk,rfl⟩
 have hn:ET.b n:=hn
 have hl:h.length=32:=hl
 have hb:Bytes h:=hb
 by_cases mw:k < 32
 ·left
  have hx:Dt (h[k]'(by omega)):=hb _ (List.getElem_mem _)
  have n1:nth (.int .u8) h k=h[k]'(by omega):=dQ (t:= .int .u8) (by omega)
  obtain⟨d1,d2,d3⟩:=GF hn hx
  refine⟨((n*256+h[k]'(by omega))%2305843009213688668,h,((k+1:Nat):Int)),⟨⟨by omega,by omega⟩,hl,hb,k+1,by omega,rfl⟩,by simp only[aa];omega,?_,λkn kx=> ?_⟩
  ·simp only[cC.L0.add,cC.L0.F,aa]
   rw[av (by omega:k < h.length)]
   rfl
  ·rw[cC.L0.step]
   simp(disch:=omega) only[↓S1,↓if_pos,↓if_neg,if_pos,if_neg,if_true,if_false,S2,n1]
   rw[fQ.run (d:=(_,_,2305843009213688668)) ⟨Or.inr (Or.inr rfl),d2.1,d2.2,d3.1,d3.2⟩]
   simp only[ab,fQ.add,fQ.F,d1]
 ·right
  obtain rfl:k=32:=by omega
  intro R kn kx
  rw[cC.L0.step]
  simp(disch:=omega) only[↓S1,↓if_pos,↓if_neg,if_pos,if_neg,if_true,if_false,S2,cC.L0.add,cC.L0.F]
  rw[gK (by omega)]
  rfl
theorem cC.ok:cC.Ok:=by
 rintro h ⟨hl,hb⟩
 have e:=B4 h 0 ⟨by omega,by omega⟩
 have h1:=e.1
 have h2:=e.2
 rw[cC.eq,cC.L0.run (d:=(0,h,0)) ⟨⟨by omega,by omega⟩,hl,hb,0,by omega,rfl⟩]
 simp only[ab,cC.L0.add,cC.L0.F,cC.add,cC.F,kT,bH,aW]
 revert h1 h2
 generalize h.foldl (λn b=>(n*256+b)%2305843009213688668) 0=m
 intro h1 h2
 have e:bV .u64 m 1=m+1:=by rw[nv];omega
 rw[e]
def cC.E:=Entry.dp [some tH] cC.st cC.az cC.add cC.F cC.out
def cC.call:cC.D->Option cC.X:=bX cC.E cC.st
theorem cC.run:b8 cC.call cC.az cC.add cC.F:=dv (du [.d tB] λ_=>by kernel_rfl)
def cC.sg:SG Tryz.prog:=⟨99,aP,cC.E,.fn 1 (by kernel_rfl) cC.ok (And.intro (.dp cC.L0.ok (by kernel_rfl)) trivial)⟩
theorem BN(n:Int): [fa .u8 (cX .u64 n 56),fa .u8 (cX .u64 n 48),fa .u8 (cX .u64 n 40),fa .u8 (cX .u64 n 32),fa .u8 (cX .u64 n 24),fa .u8 (cX .u64 n 16),fa .u8 (cX .u64 n 8),fa .u8 (cX .u64 n 0)]=mn n:=Im n
theorem jf{α:Type}{l:List α}{n:Nat}(h:l.length=n):cut l 0 n=l:=by subst h;simp[cut]
theorem Oc{n:ByteArray}{a b c:List Int}(hn:n.size<=100)(ha:a.length<=1000000)(hb:b.length<=1000000)(hc:c.length<=1000000):dH.az (n,[a,b,c]):=by
 show(Al _ [a,b,c]).length<=_
 rw[Al]
 simp only[nC,List.flatMap_cons,List.flatMap_nil,aj,dO,lV,bM]
 omega
theorem Da{n:ByteArray}{a b:List Int}(hn:n.size<=100)(ha:a.length<=1000000)(hb:b.length<=1000000):dH.az (n,[a,b]):=by
 show(Al _ [a,b]).length<=_
 rw[Al]
 simp only[nC,List.flatMap_cons,List.flatMap_nil,aj,dO,lV,bM]
 omega
theorem HR{n:ByteArray}{a:List Int}(hn:n.size<=100)(ha:a.length<=1000000):dH.az (n,[a]):=by
 show(Al _ [a]).length<=_
 rw[Al]
 simp only[nC,List.flatMap_cons,List.flatMap_nil,aj,dO,lV,bM]
 omega
def Sm(m:List Int):Prop:=m.length=32/\Bytes m
theorem R8(b:List Int):Sm (R3 b):=⟨Jf b,KP b⟩
theorem C6(n:List Int)(ps:List (List Int)):Sm (tag n ps):=R8 _
def C9(n:ByteArray)(ps:List (List Int)):List Int:=tag (cm n) ps
def T5:ByteArray:=⟨#[115,105,103]⟩
def I0:ByteArray:=⟨#[110,111,110,99,101]⟩
def va(r p:Int)(m:List Int):Int:=kT (C9 T5 [mn r,mn p,m])
theorem BR(r p:Int)(m:List Int):Qn (va r p m):=by
 have:=lX (C9 T5 [mn r,mn p,m])
 exact⟨by unfold va;omega,by unfold va;omega⟩
def Sn(s:Sg):Prop:=iy s.1/\iy s.2.1
def sA(p:Int)(m:List Int)(t:Int)(s:Sg):Bool:=
 if p=1\/oM p=false\/oM t=false\/oM s.1=false\/¬s.2.1 < 2305843009213688669 then false
 else decide (fy s.2.1=uY [s.1,oH p (va s.1 p m),Hi t])
def E0(k nonce:Int)(m:List Int)(t:Int):Sg:=
 (uY [fy nonce,t],BJ nonce (yK (va (uY [fy nonce,t]) (fy k) m) k),())
def Ny(k:Int)(m:List Int):Int:=kT (C9 I0 [mn k,m])
def jR(k:Int)(m:List Int):Sg:=if k < 2305843009213688669/\k≠0 then E0 k (Ny k m) m 1 else(0,0,())
abbrev eS.D:=Int
def eS.st:eS.D->SA:=λn=>([.d tu n],[])
abbrev eS.Y:=Bs
abbrev eS.X:=Bs
def eS.out:eS.X->aX:=λx=>⟨.d tB x,[],[]⟩
def eS.add:eS.D->eS.Y->eS.X:=λn y=>y
def eS.az:eS.D->Prop:=λ_=>True
def eS.F:eS.D->eS.Y:=λn=>mn n
def eS.G:fD:=gr (P:=Tryz.prog) []
def eS.an:fR:= {loops:=om [(3,{bO:=[0,3,7,8],sites:=[5]})],outs:=oh [(3,{bO:=[3],sites:=[5]},{bO:=[2],sites:=[5]})],res:=[some tB]}
def eS.A:= @dm Tryz.prog eS.G eS.an 12 Tryz.f144 _ eS.st
abbrev eS.Ok:=dn @eS.A eS.az eS.add eS.F eS.out
theorem eS.eq{R:Type}(n:Int)(k:aX->Option R):eS.A n k=
 k (eS.out [(fa .u8 (cX .u64 n (56:Int))),(fa .u8 (cX .u64 n (48:Int))),(fa .u8 (cX .u64 n (40:Int))),(fa .u8 (cX .u64 n (32:Int))),(fa .u8 (cX .u64 n (24:Int))),(fa .u8 (cX .u64 n (16:Int))),(fa .u8 (cX .u64 n (8:Int))),(fa .u8 (cX .u64 n (0:Int)))]):=by kernel_rfl
theorem eS.ok:eS.Ok:=by
 intro n _
 rw[eS.eq,BN]
 rfl
def eS.E:=Entry.dp [some tu] eS.st eS.az eS.add eS.F eS.out
def eS.call:eS.D->Option eS.X:=bX eS.E eS.st
theorem eS.run:b8 eS.call eS.az eS.add eS.F:=dv (du [.d tu] λ_=>by kernel_rfl)
def eS.sg:SG Tryz.prog:=⟨144,aP,eS.E,.fn 1 (by kernel_rfl) eS.ok (And.intro (.none (by kernel_rfl)) trivial)⟩
abbrev gv.D:=Int×Int×Bs
def gv.st:gv.D->SA:=λ(r,p,m)=>([.d tu r,.d tu p,.d tH m],[])
abbrev gv.Y:=Int
abbrev gv.X:=Int
def gv.out:gv.X->aX:=λx=>⟨.d tu x,[],[]⟩
def gv.add:gv.D->gv.Y->gv.X:=λ(r,p,m) y=>y
def gv.az:gv.D->Prop:=λ(r,p,m)=>Sm m
def gv.F:gv.D->gv.Y:=λ(r,p,m)=>va r p m
def gv.G:fD:=gr (P:=Tryz.prog) [eS.sg,dH.sg,cC.sg]
def gv.an:fR:= {}
def gv.A:= @dm Tryz.prog gv.G gv.an 0 Tryz.f172 _ gv.st
abbrev gv.Ok:=dn @gv.A gv.az gv.add gv.F gv.out
theorem gv.eq{R:Type}(r:Int)(p:Int)(m:Bs)(k:aX->Option R):gv.A (r,p,m) k=
 ah (eS.call r) λx1=>
 ah (eS.call p) λx2=>
 ah (dH.call ((⟨#[115,105,103]⟩:ByteArray),[x1,x2,(cut m 0 32)])) λx3=>
 ah (cC.call x3) λx4=>
 k (gv.out x4):=by kernel_rfl
theorem gv.ok:gv.Ok:=by
 rintro⟨r,p,m⟩ hm
 have hm:Sm m:=hm
 rw[gv.eq,eS.run (d:=r) trivial,eS.run (d:=p) trivial]
 simp only[ab,eS.add,eS.F]
 rw[jf hm.1,dH.run (Oc (by decide) (by rw[dO];omega) (by rw[dO];omega) (by rw[hm.1];omega))]
 simp only[ab,dH.add,dH.F]
 rw[cC.run (d:=tag (cm (⟨#[115,105,103]⟩:ByteArray)) [mn r,mn p,m]) (C6 _ _)]
 rfl
def gv.E:=Entry.dp [some tu,some tu,some tH] gv.st gv.az gv.add gv.F gv.out
def gv.call:gv.D->Option gv.X:=bX gv.E gv.st
theorem gv.run:b8 gv.call gv.az gv.add gv.F:=dv (du [.d tu,.d tu,.d tB] λ_=>by kernel_rfl)
def gv.sg:SG Tryz.prog:=⟨172,aP,gv.E,.fn 0 (by kernel_rfl) gv.ok trivial⟩
abbrev dL.D:=Int×Bs×Int×Sg
def dL.st:dL.D->SA:=λ(p,m,t,pre)=>([.d tu p,.d tH m,.d tu t,.d Ak pre],[])
abbrev dL.Y:=Bool
abbrev dL.X:=Bool
def dL.out:dL.X->aX:=λx=>⟨.d .bool x,[],[]⟩
def dL.add:dL.D->dL.Y->dL.X:=λ(p,m,t,pre) y=>y
def dL.az:dL.D->Prop:=λ(p,m,t,s)=>iy p/\Sm m/\iy t/\Sn s
def dL.F:dL.D->dL.Y:=λ(p,m,t,s)=>sA p m t s
def dL.G:fD:=gr (P:=Tryz.prog) [dy.sg,eO.sg,gv.sg,eL.sg,kj.sg,eK.sg,dZ.sg]
def dL.an:fR:= {}
def dL.A:= @dm Tryz.prog dL.G dL.an 0 Tryz.f153 _ dL.st
abbrev dL.Ok:=dn @dL.A dL.az dL.add dL.F dL.out
theorem dL.eq{R:Type}(p:Int)(m:Bs)(t:Int)(pre:Sg)(k:aX->Option R):dL.A (p,m,t,pre) k=
  aJ ((mV p (1:Int))) (
   k (dL.out false)) (
   ah (dy.call p) λx1=>
   aJ ((!x1)) (
    k (dL.out false)) (
    ah (dy.call t) λx2=>
    aJ ((!x2)) (
     k (dL.out false)) (
     ah (dy.call pre.1) λx3=>
     aJ ((!x3)) (
      k (dL.out false)) (
      ah (eO.call pre.2.1) λx4=>
      aJ ((!x4)) (
       k (dL.out false)) (
       ah (gv.call (pre.1,p,m)) λx5=>
       ah (eL.call (p,x5)) λx6=>
       ah (kj.call t) λx7=>
       ah (eK.call [pre.1,x6,x7]) λx8=>
       ah (dZ.call pre.2.1) λx9=>
       k (dL.out (mV x9 x8))))))):=by kernel_rfl
theorem dL.ok:dL.Ok:=by
 rintro⟨p,m,t,s⟩ ⟨hp,hm,ht,hs⟩
 have hp:iy p:=hp
 have ht:iy t:=ht
 have hm:Sm m:=hm
 have hs:Sn s:=hs
 rw[dL.eq,dy.run (d:=p) hp,dy.run (d:=t) ht,dy.run (d:=s.1) hs.1,eO.run (d:=s.2.1) trivial]
 simp only[ab,dy.add,dy.F,eO.add,eO.F,dL.add,dL.F,sA]
 by_cases h1:p=1
 ·rw[fA h1,ae,if_pos (Or.inl h1)]
 rw[fJ h1,ai]
 cases h2:oM p
 ·rw[if_pos (Or.inr (Or.inl rfl))];rfl
 cases h3:oM t
 ·rw[if_pos (Or.inr (Or.inr (Or.inl rfl)))];rfl
 cases h4:oM s.1
 ·rw[if_pos (Or.inr (Or.inr (Or.inr (Or.inl rfl))))];rfl
 by_cases h5:s.2.1 < 2305843009213688669
 ·rw[bI h5,if_neg (by simp[h1,h5])]
  have hq:=BR s.1 p m
  rw[gv.run (d:=(s.1,p,m)) hm]
  simp only[bZ,ai,ab,gv.add,gv.F]
  rw[eL.run (d:=(p,va s.1 p m)) ⟨hp,hq.u⟩,kj.run (d:=t) ht]
  simp only[ab,eL.add,eL.F,kj.add,kj.F]
  have q:eK.az [s.1,oH p (va s.1 p m),Hi t]:=⟨by
   intro x hx
   simp only[cE,List.not_mem_nil,or_false]at hx
   rcases hx with rfl | rfl | rfl
   ·exact hs.1
   ·exact(EB _ _).u
   ·exact(EB _ _).u,by simp only[aO,bM];omega⟩
  rw[eK.run q,dZ.run (d:=s.2.1) hs.2]
  rfl
 ·rw[bp h5,if_pos (Or.inr (Or.inr (Or.inr (Or.inr h5))))];rfl
def dL.E:=Entry.dp [some tu,some tH,some tu,some Ak] dL.st dL.az dL.add dL.F dL.out
def dL.call:dL.D->Option dL.X:=bX dL.E dL.st
theorem dL.run:b8 dL.call dL.az dL.add dL.F:=dv (du [.d tu,.d tB,.d tu,.d Ak] λ_=>by kernel_rfl)
def dL.sg:SG Tryz.prog:=⟨153,aP,dL.E,.fn 0 (by kernel_rfl) dL.ok trivial⟩
abbrev eg.D:=Int×Bs×Sg
def eg.st:eg.D->SA:=λ(p,m,sv)=>([.d tu p,.d tH m,.d Ak sv],[])
abbrev eg.Y:=Bool
abbrev eg.X:=Bool
def eg.out:eg.X->aX:=λx=>⟨.d .bool x,[],[]⟩
def eg.add:eg.D->eg.Y->eg.X:=λ(p,m,sv) y=>y
def eg.az:eg.D->Prop:=λ(p,m,s)=>iy p/\Sm m/\Sn s
def eg.F:eg.D->eg.Y:=λ(p,m,s)=>sA p m 1 s
def eg.G:fD:=gr (P:=Tryz.prog) [dL.sg]
def eg.an:fR:= {}
def eg.A:= @dm Tryz.prog eg.G eg.an 0 Tryz.f111 _ eg.st
abbrev eg.Ok:=dn @eg.A eg.az eg.add eg.F eg.out
theorem eg.eq{R:Type}(p:Int)(m:Bs)(sv:Sg)(k:aX->Option R):eg.A (p,m,sv) k=
 ah (dL.call (p,m,(1:Int),sv)) λx1=>
 k (eg.out x1):=by kernel_rfl
theorem eg.ok:eg.Ok:=by
 rintro⟨p,m,s⟩ ⟨hp,hm,hs⟩
 rw[eg.eq,dL.run (d:=(p,m,1,s)) ⟨hp,hm,⟨by omega,by omega⟩,hs⟩]
 rfl
def eg.E:=Entry.dp [some tu,some tH,some Ak] eg.st eg.az eg.add eg.F eg.out
def eg.call:eg.D->Option eg.X:=bX eg.E eg.st
theorem eg.run:b8 eg.call eg.az eg.add eg.F:=dv (du [.d tu,.d tB,.d Ak] λ_=>by kernel_rfl)
def eg.sg:SG Tryz.prog:=⟨111,aP,eg.E,.fn 0 (by kernel_rfl) eg.ok trivial⟩
abbrev jV.D:=Int
def jV.st:jV.D->SA:=λkv=>([.d tu kv],[])
abbrev jV.Y:=Bool
abbrev jV.X:=Bool
def jV.out:jV.X->aX:=λx=>⟨.d .bool x,[],[]⟩
def jV.add:jV.D->jV.Y->jV.X:=λkv y=>y
def jV.az:jV.D->Prop:=λ_=>True
def jV.F:jV.D->jV.Y:=λk=>decide (k < 2305843009213688669/\k≠0)
def jV.G:fD:=gr (P:=Tryz.prog) [eO.sg]
def jV.an:fR:= {}
def jV.A:= @dm Tryz.prog jV.G jV.an 0 Tryz.f142 _ jV.st
abbrev jV.Ok:=dn @jV.A jV.az jV.add jV.F jV.out
theorem jV.eq{R:Type}(kv:Int)(k:aX->Option R):jV.A kv k=
  ah (eO.call kv) λx1=>
  aJ (x1) (
   k (jV.out (tc kv (0:Int)))) (
   k (jV.out false)):=by kernel_rfl
theorem jV.ok:jV.Ok:=by
 intro k _
 rw[jV.eq,eO.run (d:=k) trivial]
 simp only[ab,eO.add,eO.F,jV.add,jV.F]
 by_cases h:k < 2305843009213688669
 ·rw[bI h,ae]
  by_cases h0:k=0
  ·rw[gZ h0,cq (λx=>x.2 h0)]
  ·rw[jE h0,aM ⟨h,h0⟩]
 ·rw[bp h,ai,cq (λx=>h x.1)]
def jV.E:=Entry.dp [some tu] jV.st jV.az jV.add jV.F jV.out
def jV.call:jV.D->Option jV.X:=bX jV.E jV.st
theorem jV.run:b8 jV.call jV.az jV.add jV.F:=dv (du [.d tu] λ_=>by kernel_rfl)
def jV.sg:SG Tryz.prog:=⟨142,aP,jV.E,.fn 0 (by kernel_rfl) jV.ok trivial⟩
abbrev eH.D:=Int×Int×Bs×Int
def eH.st:eH.D->SA:=λ(kv,nonce,m,t)=>([.d tu kv,.d tu nonce,.d tH m,.d tu t],[])
abbrev eH.Y:=Sg
abbrev eH.X:=Sg
def eH.out:eH.X->aX:=λx=>⟨.d Ak x,[],[]⟩
def eH.add:eH.D->eH.Y->eH.X:=λ(kv,nonce,m,t) y=>y
def eH.az:eH.D->Prop:=λ(k,n,m,t)=>iy k/\iy n/\Sm m/\iy t
def eH.F:eH.D->eH.Y:=λ(k,n,m,t)=>E0 k n m t
def eH.G:fD:=gr (P:=Tryz.prog) [dZ.sg,jw.sg,gv.sg,jD.sg,jS.sg]
def eH.an:fR:= {}
def eH.A:= @dm Tryz.prog eH.G eH.an 0 Tryz.f143 _ eH.st
abbrev eH.Ok:=dn @eH.A eH.az eH.add eH.F eH.out
theorem eH.eq{R:Type}(kv:Int)(nonce:Int)(m:Bs)(t:Int)(k:aX->Option R):eH.A (kv,nonce,m,t) k=
 ah (dZ.call nonce) λx1=>
 ah (jw.call (x1,t)) λx2=>
 ah (dZ.call kv) λx3=>
 ah (gv.call (x2,x3,m)) λx4=>
 ah (jD.call (x4,kv)) λx5=>
 ah (jS.call (nonce,x5)) λx6=>
 k (eH.out (x2,(x6,()))):=by kernel_rfl
theorem eH.ok:eH.Ok:=by
 rintro⟨k,n,m,t⟩ ⟨hk,hn,hm,ht⟩
 have hk:iy k:=hk
 have hn:iy n:=hn
 have hm:Sm m:=hm
 have ht:iy t:=ht
 rw[eH.eq,dZ.run (d:=n) hn]
 simp only[ab,dZ.add,dZ.F]
 rw[jw.run (d:=(fy n,t)) ⟨(EB _ _).u,ht⟩,dZ.run (d:=k) hk]
 simp only[ab,dZ.add,dZ.F,jw.add,jw.F]
 rw[gv.run (d:=(uY [fy n,t],fy k,m)) hm]
 simp only[ab,gv.add,gv.F]
 rw[jD.run (d:=(va (uY [fy n,t]) (fy k) m,k)) ⟨(BR _ _ _).u,hk⟩]
 simp only[ab,jD.add,jD.F]
 rw[jS.run (d:=(n,yK (va (uY [fy n,t]) (fy k) m) k)) ⟨hn,(yL _ _).u⟩]
 rfl
def eH.E:=Entry.dp [some tu,some tu,some tH,some tu] eH.st eH.az eH.add eH.F eH.out
def eH.call:eH.D->Option eH.X:=bX eH.E eH.st
theorem eH.run:b8 eH.call eH.az eH.add eH.F:=dv (du [.d tu,.d tu,.d tB,.d tu] λ_=>by kernel_rfl)
def eH.sg:SG Tryz.prog:=⟨143,aP,eH.E,.fn 0 (by kernel_rfl) eH.ok trivial⟩
abbrev gh.D:=Int×Bs
def gh.st:gh.D->SA:=λ(kv,m)=>([.d tu kv,.d tH m],[])
abbrev gh.Y:=Sg
abbrev gh.X:=Sg
def gh.out:gh.X->aX:=λx=>⟨.d Ak x,[],[]⟩
def gh.add:gh.D->gh.Y->gh.X:=λ(kv,m) y=>y
def gh.az:gh.D->Prop:=λ(k,m)=>iy k/\Sm m
def gh.F:gh.D->gh.Y:=λ(k,m)=>jR k m
def gh.G:fD:=gr (P:=Tryz.prog) [jV.sg,eS.sg,dH.sg,cC.sg,eH.sg]
def gh.an:fR:= {}
def gh.A:= @dm Tryz.prog gh.G gh.an 0 Tryz.f102 _ gh.st
abbrev gh.Ok:=dn @gh.A gh.az gh.add gh.F gh.out
theorem gh.eq{R:Type}(kv:Int)(m:Bs)(k:aX->Option R):gh.A (kv,m) k=
  ah (jV.call kv) λx1=>
  aJ ((!x1)) (
   k (gh.out ((0:Int),((0:Int),())))) (
   ah (eS.call kv) λx2=>
   ah (dH.call ((⟨#[110,111,110,99,101]⟩:ByteArray),[x2,(cut m 0 32)])) λx3=>
   ah (cC.call x3) λx4=>
   ah (eH.call (kv,x4,m,(1:Int))) λx5=>
   k (gh.out x5)):=by kernel_rfl
theorem gh.ok:gh.Ok:=by
 rintro⟨k,m⟩ ⟨hk,hm⟩
 have hk:iy k:=hk
 have hm:Sm m:=hm
 rw[gh.eq,jV.run (d:=k) trivial]
 simp only[ab,jV.add,jV.F,gh.add,gh.F,jR]
 by_cases h:k < 2305843009213688669/\k≠0
 ·rw[aM h,if_pos h,eS.run (d:=k) trivial,jf hm.1]
  simp only[bZ,ai,ab,eS.add,eS.F]
  rw[dH.run (Da (by decide) (by rw[dO];omega) (by rw[hm.1];omega))]
  simp only[ab,dH.add,dH.F]
  rw[cC.run (d:=tag (cm (⟨#[110,111,110,99,101]⟩:ByteArray)) [mn k,m]) (C6 _ _)]
  simp only[ab,cC.add,cC.F]
  have q:=lX (tag (cm (⟨#[110,111,110,99,101]⟩:ByteArray)) [mn k,m])
  rw[eH.run (d:=(k,kT (tag (cm (⟨#[110,111,110,99,101]⟩:ByteArray)) [mn k,m]),m,1)) ⟨hk,⟨by omega,by omega⟩,hm,by omega,by omega⟩]
  rfl
 ·rw[cq h,if_neg h];rfl
def gh.E:=Entry.dp [some tu,some tH] gh.st gh.az gh.add gh.F gh.out
def gh.call:gh.D->Option gh.X:=bX gh.E gh.st
theorem gh.run:b8 gh.call gh.az gh.add gh.F:=dv (du [.d tu,.d tB] λ_=>by kernel_rfl)
def gh.sg:SG Tryz.prog:=⟨102,aP,gh.E,.fn 0 (by kernel_rfl) gh.ok trivial⟩
def BF(l:List Int):Prop:=∀x∈l,iy x
def Si(b:ov):Prop:=BF b.1/\iy b.2.2.2.1
def LX(l:Lk):Prop:=∀b∈l.1,Si b
def zG(n:Int):Bool:=decide (0<=n/\n<=1048576)
def rG(b:ov):Bool:=decide (b.1.length<=12) && (b.1.all oM && (zG b.2.1 && (zG b.2.2.1 && (decide (b.2.2.2.1=0) || oM b.2.2.2.1))))
def lj(l:Lk):Bool:=l.1.all rG && decide (0 < l.1.length/\l.1.length<=4)
def rY:List Int->Int->Int⊕Unit
 |[],_=> .inr ()
 |p::ps,i=>if oM p then rY ps (i+1) else .inl i
def JB(l:List Int):Int:=match rY l 0 with | .inl i=>i | .inr _=> -1
theorem Aq:∀(l:List Int) (i:Int),0<=i->(match rY l i with | .inl i=>decide (i>=0) | .inr _=>false)= !(l.all oM)
 |[],_,_=>rfl
 |p::ps,i,h=>by
  rw[rY,kJ]
  cases hp:oM p
  ·simp[h]
  ·simp only[if_true,cr]
   exact Aq ps (i+1) (by omega)
theorem KI(l:List Int):qu (JB l) 0= !(l.all oM):=by
 have:=Aq l 0 (by omega)
 unfold JB qu
 cases h:rY l 0
 ·rw[h]at this;exact this
 ·rw[h]at this;rw[<-this];rfl
abbrev jF.D:=Int
def jF.st:jF.D->SA:=λp=>([.d tu p],[])
abbrev jF.Y:=Bool
abbrev jF.X:=Bool
def jF.out:jF.X->aX:=λx=>⟨.d .bool x,[],[]⟩
def jF.add:jF.D->jF.Y->jF.X:=λp y=>y
def jF.az:jF.D->Prop:=λp=>iy p
def jF.F:jF.D->jF.Y:=λp=> !oM p
def jF.G:fD:=gr (P:=Tryz.prog) [dy.sg]
def jF.an:fR:= {}
def jF.A:= @dm Tryz.prog jF.G jF.an 0 Tryz.f33 _ jF.st
abbrev jF.Ok:=dn @jF.A jF.az jF.add jF.F jF.out
theorem jF.eq{R:Type}(p:Int)(k:aX->Option R):jF.A p k=
 ah (dy.call p) λx1=>
 k (jF.out (!x1)):=by kernel_rfl
theorem jF.ok:jF.Ok:=by
 intro p hp
 rw[jF.eq,dy.run (d:=p) hp]
 rfl
def jF.E:=Entry.dp [some tu] jF.st jF.az jF.add jF.F jF.out
def jF.call:jF.D->Option jF.X:=bX jF.E jF.st
theorem jF.run:b8 jF.call jF.az jF.add jF.F:=dv (du [.d tu] λ_=>by kernel_rfl)
def jF.sg:SG Tryz.prog:=⟨33,aP,jF.E,.fn 0 (by kernel_rfl) jF.ok trivial⟩
abbrev bN.L0.D:=Bs×Int×Int
def bN.L0.st:bN.L0.D->AS:=λ(ef,t7,t8)=>⟨([.d tU ef,.fn 33 (.nil)]++bG 5 ([.d ti t7,.d ti t8]++bG 10 [])),[],(List.replicate 19 [])⟩
abbrev bN.L0.Y0:=Int
abbrev bN.L0.X0:=Int
def bN.L0.bY:bN.L0.X0->Exit×AS:=λx=>(.ret,⟨(bG 4 ([.d ti x]++bG 14 [])),[],(List.replicate 19 [])⟩)
abbrev bN.L0.Y1:=Unit
abbrev bN.L0.X1:=Unit
def bN.L0.ko:bN.L0.X1->Exit×AS:=λx=>(.exit 0,⟨(bG 19 []),[],(List.replicate 19 [])⟩)
abbrev bN.L0.X:=(bN.L0.X0)⊕(bN.L0.X1)
abbrev bN.L0.Y:=(bN.L0.Y0)⊕(bN.L0.Y1)
def bN.L0.out:bN.L0.X->Out (Exit×AS):=λx=> .br x.isLeft (.get x.getLeft? λa=> .ok (bN.L0.bY a)) (.get x.getRight? λb=> .ok (bN.L0.ko b))
def bN.L0.add:bN.L0.D->bN.L0.Y->bN.L0.X:=λ(ef,t7,t8) y=>match y with | .inl y=> .inl y | .inr z=> .inr (z)
abbrev bN.D:=Bs
def bN.st:bN.D->SA:=λsv=>([.d tU sv,.fn 33 (.nil)],[])
abbrev bN.Y:=Int
abbrev bN.X:=Int
def bN.out:bN.X->aX:=λx=>⟨.d ti x,[],[]⟩
def bN.add:bN.D->bN.Y->bN.X:=λsv y=>y
def bN.L0.az:bN.L0.D->Prop:=λ(l,n,i)=>BF l/\l.length<=1000000000/\n=l.length/\∃k:Nat,k<=l.length/\i=k
def bN.L0.F:bN.L0.D->bN.L0.Y:=λ(l,n,i)=>rY (l.drop i.toNat) i
def bN.az:bN.D->Prop:=λl=>BF l/\l.length<=1000000000
def bN.F:bN.D->bN.Y:=λl=>JB l
def bN.G:fD:=gr (P:=Tryz.prog) [jF.sg]
def bN.L0.E:=cU.dp bN.L0.st bN.L0.az bN.L0.add bN.L0.F bN.L0.out
def bN.L0.call:bN.L0.D->Option bN.L0.X:=eI bN.L0.E bN.L0.st
def bN.an:fR:= {loops:=om [(2,{bO:=[0,1,7,8]})],outs:=oh [(2,{},{bO:=[4]})],jo:=pb [(2,bN.L0.E)]}
def bN.A:= @dm Tryz.prog bN.G bN.an 0 Tryz.f77 _ bN.st
abbrev bN.Ok:=dn @bN.A bN.az bN.add bN.F bN.out
def bN.L0.R:= @dr Tryz.prog bN.G bN.an 0 Tryz.f77 0 _ bN.L0.st
abbrev bN.L0.Ok:=gz Tryz.prog bN.G bN.an 0 Tryz.f77 0 bN.L0.st bN.L0.az bN.L0.add bN.L0.F bN.L0.out
theorem bN.L0.run:b8 bN.L0.call bN.L0.az bN.L0.add bN.L0.F:=gR (gJ [.d tU,.d ti,.d ti] λ_=>by kernel_rfl)
theorem bN.L0.aI:rV @bN.L0.R bN.L0.st bN.L0.az bN.L0.add bN.L0.F bN.L0.out bN.L0.Ok:=sy
theorem bN.L0.step{R:Type}(ef:Bs)(t7:Int)(t8:Int)(kn:AS->Option R)(kx:Exit->AS->Option R):bN.L0.R (ef,t7,t8) kn kx=
  aJ ((jM t8 t7)) (
   aJ (fB t8 (((List.length ef):Nat):Int)) (
   ah (jF.call (nth tu ef (Int.toNat t8))) λx1=>
   aJ (x1) (
    kx (bN.L0.bY t8).1 (bN.L0.bY t8).2) (
    kn (bN.L0.st (ef,t7,(bV .i64 t8 (1:Int)))))) none) (
   kx (bN.L0.ko ()).1 (bN.L0.ko ()).2):=by kernel_rfl
theorem bN.eq{R:Type}(sv:Bs)(k:aX->Option R):bN.A sv k=
  ah (bN.L0.call (sv,(((List.length sv):Nat):Int),(0:Int))) λx2=>
  aJ (x2.isLeft) (
   ah (x2.getLeft?) λa3=>
   k (bN.out a3)) (
   ah (x2.getRight?) λb4=>
   k (bN.out (-1:Int))):=by kernel_rfl
theorem bN.L0.ok:bN.L0.Ok:=by
 refine bN.L0.aI (λ(l,n,i)=>l.length - i.toNat) ?_
 rintro⟨l,n,i⟩ ⟨hl,hb,rfl,k,hk,rfl⟩
 have hb:l.length<=1000000000:=hb
 have hk:k<=l.length:=hk
 by_cases h:k < l.length
 ·have hx:=hl _ (List.getElem_mem h)
  have n1:nth (.int .u64) l k=l[k]:=dQ (t:= .int .u64) h
  have hd:rY (l.drop k) k=if oM l[k] then rY (l.drop (k+1)) ((k+1:Nat):Int) else .inl (k:Int):=by rw[av h];rfl
  cases hp:oM l[k]
  ·right
   refine⟨bN.L0.bY (k:Int),?_,λkn kx=> ?_⟩
   ·simp only[bN.L0.add,bN.L0.F,aa,hd,hp,cD,if_false]
    rfl
   ·rw[bN.L0.step]
    simp(disch:=omega) only[↓S1,↓if_pos,↓if_neg,if_pos,if_neg,if_true,if_false,S2,n1]
    rw[jF.run (d:=l[k]) hx]
    simp only[ab,jF.add,jF.F,hp,gm,ae]
  ·left
   refine⟨(l,l.length,((k+1:Nat):Int)),⟨hl,hb,rfl,k+1,by omega,rfl⟩,by simp only[aa];omega,?_,λkn kx=> ?_⟩
   ·simp only[bN.L0.add,bN.L0.F,aa,hd,hp,if_true]
   ·rw[bN.L0.step]
    simp(disch:=omega) only[↓S1,↓if_pos,↓if_neg,if_pos,if_neg,if_true,if_false,S2,n1]
    rw[jF.run (d:=l[k]) hx]
    simp only[ab,jF.add,jF.F,hp,bZ,ai]
 ·right
  obtain rfl:k=l.length:=by omega
  refine⟨bN.L0.ko (),?_,λkn kx=> ?_⟩
  ·simp only[bN.L0.add,bN.L0.F,aa,bB]
   rfl
  ·rw[bN.L0.step]
   simp(disch:=omega) only[↓S1,↓if_pos,↓if_neg,if_pos,if_neg,if_true,if_false,S2]
theorem bN.ok:bN.Ok:=by
 rintro l ⟨hl,hb⟩
 rw[bN.eq,bN.L0.run (d:=(l,l.length,0)) ⟨hl,hb,rfl,0,by omega,rfl⟩]
 simp only[ab,bN.L0.add,bN.L0.F,bH,aW,bN.add,bN.F,JB]
 cases rY l 0 <;> rfl
def bN.E:=Entry.dp [some tU,none] bN.st bN.az bN.add bN.F bN.out
def bN.call:bN.D->Option bN.X:=bX bN.E bN.st
theorem bN.run:b8 bN.call bN.az bN.add bN.F:=dv (du [.d tU] λ_=>by kernel_rfl)
def bN.sg:SG Tryz.prog:=⟨77,aP,bN.E,.fn 1 (by kernel_rfl) bN.ok (And.intro (.dp bN.L0.ok (by kernel_rfl)) trivial)⟩
abbrev da.D:=Bs
def da.st:da.D->SA:=λsv=>([.d tU sv,.fn 33 (.nil)],[])
abbrev da.Y:=Bool
abbrev da.X:=Bool
def da.out:da.X->aX:=λx=>⟨.d .bool x,[],[]⟩
def da.add:da.D->da.Y->da.X:=λsv y=>y
def da.az:da.D->Prop:=λl=>BF l/\l.length<=1000000000
def da.F:da.D->da.Y:=λl=> !(l.all oM)
def da.G:fD:=gr (P:=Tryz.prog) [bN.sg]
def da.an:fR:= {}
def da.A:= @dm Tryz.prog da.G da.an 0 Tryz.f35 _ da.st
abbrev da.Ok:=dn @da.A da.az da.add da.F da.out
theorem da.eq{R:Type}(sv:Bs)(k:aX->Option R):da.A sv k=
 ah (bN.call sv) λx1=>
 k (da.out (qu x1 (0:Int))):=by kernel_rfl
theorem da.ok:da.Ok:=by
 rintro l ⟨hl,hb⟩
 rw[da.eq,bN.run (d:=l) ⟨hl,hb⟩]
 simp only[ab,bN.add,bN.F,KI]
 rfl
def da.E:=Entry.dp [some tU,none] da.st da.az da.add da.F da.out
def da.call:da.D->Option da.X:=bX da.E da.st
theorem da.run:b8 da.call da.az da.add da.F:=dv (du [.d tU] λ_=>by kernel_rfl)
def da.sg:SG Tryz.prog:=⟨35,aP,da.E,.fn 0 (by kernel_rfl) da.ok trivial⟩
abbrev dK.D:=Int
def dK.st:dK.D->SA:=λn=>([.d ti n],[])
abbrev dK.Y:=Bool
abbrev dK.X:=Bool
def dK.out:dK.X->aX:=λx=>⟨.d .bool x,[],[]⟩
def dK.add:dK.D->dK.Y->dK.X:=λn y=>y
def dK.az:dK.D->Prop:=λ_=>True
def dK.F:dK.D->dK.Y:=λn=>zG n
def dK.G:fD:=gr (P:=Tryz.prog) []
def dK.an:fR:= {}
def dK.A:= @dm Tryz.prog dK.G dK.an 0 Tryz.f36 _ dK.st
abbrev dK.Ok:=dn @dK.A dK.az dK.add dK.F dK.out
theorem dK.eq{R:Type}(n:Int)(k:aX->Option R):dK.A n k=
  aJ ((qu n (0:Int))) (
   k (dK.out (F6 n (1048576:Int)))) (
   k (dK.out false)):=by kernel_rfl
theorem dK.ok:dK.Ok:=by
 intro n _
 rw[dK.eq]
 simp only[dK.add,dK.F,zG]
 by_cases h:0<=n
 ·rw[la h,ae]
  by_cases h2:n<=1048576
  ·rw[vT h2,aM ⟨h,h2⟩]
  ·rw[qC h2,cq (λx=>h2 x.2)]
 ·rw[jg h,ai,cq (λx=>h x.1)]
def dK.E:=Entry.dp [some ti] dK.st dK.az dK.add dK.F dK.out
def dK.call:dK.D->Option dK.X:=bX dK.E dK.st
theorem dK.run:b8 dK.call dK.az dK.add dK.F:=dv (du [.d ti] λ_=>by kernel_rfl)
def dK.sg:SG Tryz.prog:=⟨36,aP,dK.E,.fn 0 (by kernel_rfl) dK.ok trivial⟩
abbrev bk.L0.D:=Lk×(List ov)×Int×Int
def bk.L0.st:bk.L0.D->AS:=λ(Be,t7,t8,t9)=>⟨([.undef,.gE qS Be,.undef,.fn 33 (.nil),.undef,.undef,.undef,.d (.slice mC) t7,.d ti t8,.d ti t9]++bG 47 []),[],(List.replicate 57 [])⟩
abbrev bk.L0.Y0:=Unit
abbrev bk.L0.X0:=Unit
def bk.L0.bY:bk.L0.X0->Exit×AS:=λx=>(.ret,⟨([.undef,.undef,.d .bool false]++bG 54 []),[],(List.replicate 57 [])⟩)
abbrev bk.L0.Y1:=Unit
abbrev bk.L0.X1:=Lk
def bk.L0.ko:bk.L0.X1->Exit×AS:=λx=>(.exit 0,⟨([.undef,.gE qS x]++bG 55 []),[],(List.replicate 57 [])⟩)
abbrev bk.L0.X:=(bk.L0.X0)⊕(bk.L0.X1)
abbrev bk.L0.Y:=(bk.L0.Y0)⊕(bk.L0.Y1)
def bk.L0.out:bk.L0.X->Out (Exit×AS):=λx=> .br x.isLeft (.get x.getLeft? λa=> .ok (bk.L0.bY a)) (.get x.getRight? λb=> .ok (bk.L0.ko b))
def bk.L0.add:bk.L0.D->bk.L0.Y->bk.L0.X:=λ(Be,t7,t8,t9) y=>match y with | .inl y=> .inl y | .inr z=> .inr (Be)
abbrev bk.D:=Lk
def bk.st:bk.D->SA:=λl=>([.d qS l],[])
abbrev bk.Y:=Bool
abbrev bk.X:=Bool
def bk.out:bk.X->aX:=λx=>⟨.d .bool x,[],[]⟩
def bk.add:bk.D->bk.Y->bk.X:=λl y=>y
def bk.L0.az:bk.L0.D->Prop:=λ(l,bs,n,i)=>(∀b∈bs,Si b)/\bs.length<=9223372036854775807/\n=bs.length/\∃k:Nat,k<=bs.length/\i=k
def bk.L0.F:bk.L0.D->bk.L0.Y:=λ(l,bs,n,i)=>if(bs.drop i.toNat).all rG then .inr () else .inl ()
def bk.az:bk.D->Prop:=λl=>LX l/\l.1.length<=9223372036854775807
def bk.F:bk.D->bk.Y:=λl=>lj l
def bk.G:fD:=gr (P:=Tryz.prog) [da.sg,dK.sg,jF.sg]
def bk.L0.E:=cU.dp bk.L0.st bk.L0.az bk.L0.add bk.L0.F bk.L0.out
def bk.L0.call:bk.L0.D->Option bk.L0.X:=eI bk.L0.E bk.L0.st
def bk.an:fR:= {loops:=om [(3,{bO:=[1,3,7,8,9]})],outs:=oh [(3,{bO:=[1]},{bO:=[2]})],jo:=pb [(3,bk.L0.E)]}
def bk.A:= @dm Tryz.prog bk.G bk.an 0 Tryz.f11 _ bk.st
abbrev bk.Ok:=dn @bk.A bk.az bk.add bk.F bk.out
def bk.L0.R:= @dr Tryz.prog bk.G bk.an 0 Tryz.f11 0 _ bk.L0.st
abbrev bk.L0.Ok:=gz Tryz.prog bk.G bk.an 0 Tryz.f11 0 bk.L0.st bk.L0.az bk.L0.add bk.L0.F bk.L0.out
theorem bk.L0.run:b8 bk.L0.call bk.L0.az bk.L0.add bk.L0.F:=gR (gJ [.d qS,.d (.slice mC),.d ti,.d ti] λ_=>by kernel_rfl)
theorem bk.L0.aI:rV @bk.L0.R bk.L0.st bk.L0.az bk.L0.add bk.L0.F bk.L0.out bk.L0.Ok:=sy
theorem bk.L0.step{R:Type}(Be:Lk)(t7:(List ov))(t8:Int)(t9:Int)(kn:AS->Option R)(kx:Exit->AS->Option R):bk.L0.R (Be,t7,t8,t9) kn kx=
  aJ ((jM t9 t8)) (
   aJ (fB t9 (((List.length t7):Nat):Int)) (
   aJ ((sh (((List.length (nth mC t7 (Int.toNat t9)).1):Nat):Int) (12:Int))) (
    kx (bk.L0.bY ()).1 (bk.L0.bY ()).2) (
    ah (da.call (nth mC t7 (Int.toNat t9)).1) λx1=>
    aJ (x1) (
     kx (bk.L0.bY ()).1 (bk.L0.bY ()).2) (
     ah (dK.call (nth mC t7 (Int.toNat t9)).2.1) λx2=>
     aJ ((!x2)) (
      kx (bk.L0.bY ()).1 (bk.L0.bY ()).2) (
      ah (dK.call (nth mC t7 (Int.toNat t9)).2.2.1) λx3=>
      aJ ((!x3)) (
       kx (bk.L0.bY ()).1 (bk.L0.bY ()).2) (
       aJ ((tc (nth mC t7 (Int.toNat t9)).2.2.2.1 (0:Int))) (
        ah (jF.call (nth mC t7 (Int.toNat t9)).2.2.2.1) λx4=>
        aJ (x4) (
         kx (bk.L0.bY ()).1 (bk.L0.bY ()).2) (
         kn (bk.L0.st (Be,t7,t8,(bV .i64 t9 (1:Int)))))) (
        kn (bk.L0.st (Be,t7,t8,(bV .i64 t9 (1:Int)))))))))) none) (
   kx (bk.L0.ko Be).1 (bk.L0.ko Be).2):=by kernel_rfl
theorem bk.eq{R:Type}(l:Lk)(k:aX->Option R):bk.A l k=
  ah (bk.L0.call (l,l.1,(((List.length l.1):Nat):Int),(0:Int))) λx5=>
  aJ (x5.isLeft) (
   ah (x5.getLeft?) λa6=>
   k (bk.out false)) (
   ah (x5.getRight?) λb7=>
   aJ ((sh (((List.length b7.1):Nat):Int) (0:Int))) (
    k (bk.out (F6 (((List.length b7.1):Nat):Int) (4:Int)))) (
    k (bk.out false))):=by kernel_rfl
theorem bk.L0.ok:bk.L0.Ok:=by
 refine bk.L0.aI (λ(l,bs,n,i)=>bs.length - i.toNat) ?_
 rintro⟨l,bs,n,i⟩ ⟨hl,hb,rfl,k,hk,rfl⟩
 have hb:bs.length<=9223372036854775807:=hb
 have hk:k<=bs.length:=hk
 by_cases h:k < bs.length
 ·have hx:Si bs[k]:=hl _ (List.getElem_mem h)
  have n1:nth (.pair (.slice (.int .u64)) (.pair (.int .i64) (.pair (.int .i64) (.pair (.int .u64) .unit)))) bs k=bs[k]:=dQ (t:=(.pair (.slice (.int .u64)) (.pair (.int .i64) (.pair (.int .i64) (.pair (.int .u64) .unit))))) h
  have hd:(bs.drop k).all rG=(rG bs[k] && (bs.drop (k+1)).all rG):=by rw[av h,kJ]
  have step:∀ {R:Type} (kn:AS->Option R) (kx:Exit->AS->Option R),bk.L0.R (l,bs,(bs.length:Int),(k:Int)) kn kx=aJ (rG bs[k]) (kn (bk.L0.st (l,bs,(bs.length:Int),((k+1:Nat):Int)))) (kx (bk.L0.bY ()).1 (bk.L0.bY ()).2):=by
   intro R kn kx
   rw[bk.L0.step,bI (by omega),bF (by omega) (by omega),aa,n1,N.pF (by omega)]
   obtain⟨⟨ks,af,dl,sc,u⟩,O7⟩:∃b,bs[k]=b:=⟨_,rfl⟩
   rw[O7]at hx ⊢
   have h1:BF ks:=hx.1
   have h2:iy sc:=hx.2
   simp only[ae,rG]
   by_cases hk:ks.length<=12
   ·rw[dY (by omega),da.run (d:=ks) ⟨h1,by omega⟩,dK.run (d:=af) trivial,dK.run (d:=dl) trivial,jF.run (d:=sc) h2,aM hk]
    simp only[ai,ab,da.add,da.F,dK.add,dK.F,jF.add,jF.F,cr]
    cases ks.all oM
    ·rfl
    cases zG af
    ·rfl
    cases zG dl
    ·rfl
    by_cases hs:sc=0
    ·rw[gZ hs,aM hs];rfl
    ·rw[jE hs,cq hs]
     cases oM sc <;> rfl
   ·rw[fE (by omega),cq hk];rfl
  cases hp:rG bs[k]
  ·right
   refine⟨bk.L0.bY (),?_,λkn kx=> ?_⟩
   ·simp only[bk.L0.add,bk.L0.F,aa,hd,hp,fN,cD,if_false]
    rfl
   ·rw[step,hp,ai]
  ·left
   refine⟨(l,bs,bs.length,((k+1:Nat):Int)),⟨hl,hb,rfl,k+1,by omega,rfl⟩,by simp only[aa];omega,?_,λkn kx=> ?_⟩
   ·simp only[bk.L0.add,bk.L0.F,aa,hd,hp,cr]
   ·rw[step,hp,ae]
 ·right
  obtain rfl:k=bs.length:=by omega
  refine⟨bk.L0.ko l,?_,λkn kx=> ?_⟩
  ·simp only[bk.L0.add,bk.L0.F,aa,bB]
   rfl
  ·rw[bk.L0.step]
   simp(disch:=omega) only[↓S1,↓if_pos,↓if_neg,if_pos,if_neg,if_true,if_false,S2]
theorem bk.ok:bk.Ok:=by
 rintro l ⟨hl,hb⟩
 have hb:l.1.length<=9223372036854775807:=hb
 rw[bk.eq,bk.L0.run (d:=(l,l.1,l.1.length,0)) ⟨hl,hb,rfl,0,by omega,rfl⟩]
 simp only[ab,bk.L0.add,bk.L0.F,bH,aW,bk.add,bk.F,lj]
 cases l.1.all rG
 ·rfl
 ·simp only[if_true,cr]
  show aJ (sh _ _) _ _=_
  by_cases h0:0 < l.1.length
  ·rw[fE (by omega)]
   by_cases h4:l.1.length<=4
   ·rw[vT (by omega),aM ⟨h0,h4⟩];rfl
   ·rw[qC (by omega),cq (λx=>h4 x.2)];rfl
  ·rw[dY (by omega),cq (λx=>h0 x.1)];rfl
def bk.E:=Entry.dp [some qS] bk.st bk.az bk.add bk.F bk.out
def bk.call:bk.D->Option bk.X:=bX bk.E bk.st
theorem bk.run:b8 bk.call bk.az bk.add bk.F:=dv (du [.d qS] λ_=>by kernel_rfl)
def bk.sg:SG Tryz.prog:=⟨11,aP,bk.E,.fn 1 (by kernel_rfl) bk.ok (And.intro (.dp bk.L0.ok (by kernel_rfl)) trivial)⟩
def rN(m:List Int):List Int->List Sg->Bool
 |[],_=>true
 |p::ps,ss=>sA p m 1 (ss.headD (0,0,())) && rN m ps ss.tail
def tl(l:Lk)(w:Du)(m:List Int)(height age:Int):Int:=
 if lj l=false\/w.1 < 0\/w.1>=l.1.length then 1
 else
  let b:=nth (.pair (.slice (.int .u64)) (.pair (.int .i64) (.pair (.int .i64) (.pair (.int .u64) .unit)))) l.1 w.1.toNat
  if height < b.2.1\/age < b.2.2.1 then 11
  else if b.2.2.2.1≠0/\fy w.2.2.1≠b.2.2.2.1 then 23
  else if w.2.1.length≠b.1.length then 7
  else if rN m b.1 w.2.1 then 0 else 7
theorem LS(m:List Int)(ks:List Int)(ss:List Sg)(h:ss.length=ks.length)(k:Nat)(hk:k < ks.length):rN m (ks.drop k) (ss.drop k)=(sA ks[k] m 1 (ss[k]'(by omega)) && rN m (ks.drop (k+1)) (ss.drop (k+1))):=by
 rw[av hk,av (by omega:k < ss.length)]
 rfl
def KB(w:Du):Prop:=(∀s∈w.2.1,Sn s)/\iy w.2.2.1
abbrev cl.L0.D:=Du×Bs×Bs×Int×Int
def cl.L0.st:cl.L0.D->AS:=λ(Jt,SK,t68,t69,t70)=>⟨(bG 6 ([.gE OC Jt,.gE tH SK]++bG 60 ([.d tU t68,.d ti t69,.d ti t70]++bG 14 []))),[],(List.replicate 85 [])⟩
abbrev cl.L0.Y0:=Unit
abbrev cl.L0.X0:=Unit
def cl.L0.bY:cl.L0.X0->Exit×AS:=λx=>(.ret,⟨(bG 10 ([.d ti (7:Int)]++bG 74 [])),[],(List.replicate 85 [])⟩)
abbrev cl.L0.Y1:=Unit
abbrev cl.L0.X1:=Unit
def cl.L0.ko:cl.L0.X1->Exit×AS:=λx=>(.exit 1,⟨(bG 85 []),[],(List.replicate 85 [])⟩)
abbrev cl.L0.X:=(cl.L0.X0)⊕(cl.L0.X1)
abbrev cl.L0.Y:=(cl.L0.Y0)⊕(cl.L0.Y1)
def cl.L0.out:cl.L0.X->Out (Exit×AS):=λx=> .br x.isLeft (.get x.getLeft? λa=> .ok (cl.L0.bY a)) (.get x.getRight? λb=> .ok (cl.L0.ko b))
def cl.L0.add:cl.L0.D->cl.L0.Y->cl.L0.X:=λ(Jt,SK,t68,t69,t70) y=>match y with | .inl y=> .inl y | .inr z=> .inr (z)
abbrev cl.D:=Lk×Du×Bs×Int×Int
def cl.st:cl.D->SA:=λ(l,wv,m,height,age)=>([.d qS l,.d OC wv,.d tH m,.d ti height,.d ti age],[])
abbrev cl.Y:=Int
abbrev cl.X:=Int
def cl.out:cl.X->aX:=λx=>⟨.d ti x,[],[]⟩
def cl.add:cl.D->cl.Y->cl.X:=λ(l,wv,m,height,age) y=>y
def cl.L0.az:cl.L0.D->Prop:=λ(w,m,ks,n,i)=>KB w/\Sm m/\BF ks/\ks.length<=1000000000/\w.2.1.length=ks.length/\n=ks.length/\∃k:Nat,k<=ks.length/\i=k
def cl.L0.F:cl.L0.D->cl.L0.Y:=λ(w,m,ks,n,i)=>if rN m (ks.drop i.toNat) (w.2.1.drop i.toNat) then .inr () else .inl ()
def cl.az:cl.D->Prop:=λ(l,w,m,h,a)=>LX l/\l.1.length<=9223372036854775807/\KB w/\Sm m
def cl.F:cl.D->cl.Y:=λ(l,w,m,h,a)=>tl l w m h a
def cl.G:fD:=gr (P:=Tryz.prog) [bk.sg,dZ.sg,eg.sg]
def cl.L0.E:=cU.dp cl.L0.st cl.L0.az cl.L0.add cl.L0.F cl.L0.out
def cl.L0.call:cl.L0.D->Option cl.L0.X:=eI cl.L0.E cl.L0.st
def cl.an:fR:= {loops:=om [(11,{bO:=[6,7,68,69,70]})],outs:=oh [(11,{},{bO:=[10]})],jo:=pb [(11,cl.L0.E)]}
def cl.A:= @dm Tryz.prog cl.G cl.an 0 Tryz.f53 _ cl.st
abbrev cl.Ok:=dn @cl.A cl.az cl.add cl.F cl.out
def cl.L0.R:= @dr Tryz.prog cl.G cl.an 0 Tryz.f53 0 _ cl.L0.st
abbrev cl.L0.Ok:=gz Tryz.prog cl.G cl.an 0 Tryz.f53 0 cl.L0.st cl.L0.az cl.L0.add cl.L0.F cl.L0.out
theorem cl.L0.run:b8 cl.L0.call cl.L0.az cl.L0.add cl.L0.F:=gR (gJ [.d OC,.d tH,.d tU,.d ti,.d ti] λ_=>by kernel_rfl)
theorem cl.L0.aI:rV @cl.L0.R cl.L0.st cl.L0.az cl.L0.add cl.L0.F cl.L0.out cl.L0.Ok:=sy
theorem cl.L0.step{R:Type}(Jt:Du)(SK:Bs)(t68:Bs)(t69:Int)(t70:Int)(kn:AS->Option R)(kx:Exit->AS->Option R):cl.L0.R (Jt,SK,t68,t69,t70) kn kx=
  aJ ((jM t70 t69)) (
   aJ (fB t70 (((List.length t68):Nat):Int)) (
   aJ (fB t70 (((List.length Jt.2.1):Nat):Int)) (
   ah (eg.call ((nth tu t68 (Int.toNat t70)),SK,(nth Ak Jt.2.1 (Int.toNat t70)))) λx1=>
   aJ ((!x1)) (
    kx (cl.L0.bY ()).1 (cl.L0.bY ()).2) (
    kn (cl.L0.st (Jt,SK,t68,t69,(bV .i64 t70 (1:Int)))))) none) none) (
   kx (cl.L0.ko ()).1 (cl.L0.ko ()).2):=by kernel_rfl
theorem cl.eq{R:Type}(l:Lk)(wv:Du)(m:Bs)(height:Int)(age:Int)(k:aX->Option R):cl.A (l,wv,m,height,age) k=
  ah (bk.call l) λx1=>
  aJ ((!x1)) (
   k (cl.out (1:Int))) (
   aJ ((jM wv.1 (0:Int))) (
    k (cl.out (1:Int))) (
    aJ ((qu wv.1 (((List.length l.1):Nat):Int))) (
     k (cl.out (1:Int))) (
     aJ (fB wv.1 (((List.length l.1):Nat):Int)) (
     aJ ((jM height (nth mC l.1 (Int.toNat wv.1)).2.1)) (
      k (cl.out (11:Int))) (
      aJ ((jM age (nth mC l.1 (Int.toNat wv.1)).2.2.1)) (
       k (cl.out (11:Int))) (
       aJ ((tc (nth mC l.1 (Int.toNat wv.1)).2.2.2.1 (0:Int))) (
        ah (dZ.call wv.2.2.1) λx2=>
        aJ ((tc x2 (nth mC l.1 (Int.toNat wv.1)).2.2.2.1)) (
         k (cl.out (23:Int))) (
         aJ ((tc (((List.length wv.2.1):Nat):Int) (((List.length (nth mC l.1 (Int.toNat wv.1)).1):Nat):Int))) (
          k (cl.out (7:Int))) (
          ah (cl.L0.call (wv,m,(nth mC l.1 (Int.toNat wv.1)).1,(((List.length (nth mC l.1 (Int.toNat wv.1)).1):Nat):Int),(0:Int))) λx4=>
          aJ (x4.isLeft) (
           ah (x4.getLeft?) λa5=>
           k (cl.out (7:Int))) (
           ah (x4.getRight?) λb6=>
           k (cl.out (0:Int)))))) (
        aJ ((tc (((List.length wv.2.1):Nat):Int) (((List.length (nth mC l.1 (Int.toNat wv.1)).1):Nat):Int))) (
         k (cl.out (7:Int))) (
         ah (cl.L0.call (wv,m,(nth mC l.1 (Int.toNat wv.1)).1,(((List.length (nth mC l.1 (Int.toNat wv.1)).1):Nat):Int),(0:Int))) λx7=>
         aJ (x7.isLeft) (
          ah (x7.getLeft?) λa8=>
          k (cl.out (7:Int))) (
          ah (x7.getRight?) λb9=>
          k (cl.out (0:Int)))))))) none))):=by kernel_rfl
theorem cl.L0.ok:cl.L0.Ok:=by
 refine cl.L0.aI (λ(w,m,ks,n,i)=>ks.length - i.toNat) ?_
 rintro⟨w,m,ks,n,i⟩ ⟨hw,hm,hl,hb,hs,rfl,k,hk,rfl⟩
 have hb:ks.length<=1000000000:=hb
 have hk:k<=ks.length:=hk
 have hs:w.2.1.length=ks.length:=hs
 by_cases h:k < ks.length
 ·have hx:=hl _ (List.getElem_mem h)
  have hy:=hw.1 _ (List.getElem_mem (by omega:k < w.2.1.length))
  have n1:nth (.int .u64) ks k=ks[k]:=dQ (t:= .int .u64) h
  have n2:nth (.pair (.int .u64) (.pair (.int .u64) .unit)) w.2.1 k=w.2.1[k]'(by omega):=dQ (t:=(.pair (.int .u64) (.pair (.int .u64) .unit))) (by omega)
  have hd:=LS m ks w.2.1 hs k h
  have step:∀ {R:Type} (kn:AS->Option R) (kx:Exit->AS->Option R),cl.L0.R (w,m,ks,(ks.length:Int),(k:Int)) kn kx=aJ (sA ks[k] m 1 (w.2.1[k]'(by omega))) (kn (cl.L0.st (w,m,ks,(ks.length:Int),((k+1:Nat):Int)))) (kx (cl.L0.bY ()).1 (cl.L0.bY ()).2):=by
   intro R kn kx
   rw[cl.L0.step,bI (by omega),bF (by omega) (by omega),bF (by omega) (by omega),aa,n1,n2,N.pF (by omega),eg.run (d:=(ks[k],m,w.2.1[k]'(by omega))) ⟨hx,hm,hy⟩]
   simp only[ae,ab,eg.add,eg.F]
   cases sA ks[k] m 1 (w.2.1[k]'(by omega)) <;> rfl
  cases hp:sA ks[k] m 1 (w.2.1[k]'(by omega))
  ·right
   refine⟨cl.L0.bY (),?_,λkn kx=> ?_⟩
   ·simp only[cl.L0.add,cl.L0.F,aa,hd,hp,fN,cD,if_false]
    rfl
   ·rw[step,hp,ai]
  ·left
   refine⟨(w,m,ks,ks.length,((k+1:Nat):Int)),⟨hw,hm,hl,hb,hs,rfl,k+1,by omega,rfl⟩,by simp only[aa];omega,?_,λkn kx=> ?_⟩
   ·simp only[cl.L0.add,cl.L0.F,aa,hd,hp,cr]
   ·rw[step,hp,ae]
 ·right
  obtain rfl:k=ks.length:=by omega
  refine⟨cl.L0.ko (),?_,λkn kx=> ?_⟩
  ·simp only[cl.L0.add,cl.L0.F,aa,bB]
   rfl
  ·rw[cl.L0.step]
   simp(disch:=omega) only[↓S1,↓if_pos,↓if_neg,if_pos,if_neg,if_true,if_false,S2]
theorem Lm{l:Lk}(h:lj l=true){b:ov}(hb:b∈l.1):b.1.length<=12:=by
 unfold lj at h
 rw[ak,fC]at h
 have:=h.1 b hb
 unfold rG at this
 rw[ak]at this
 simpa using this.1
theorem cl.ok:cl.Ok:=by
  rintro⟨l,w,m,h,a⟩ ⟨hl,hb,hw,hm⟩
  have hl:LX l:=hl
  have hb:l.1.length<=9223372036854775807:=hb
  have hw:KB w:=hw
  have hm:Sm m:=hm
  rw[cl.eq,bk.run (d:=l) ⟨hl,hb⟩]
  simp only[ab,bk.add,bk.F,cl.add,cl.F,tl]
  cases kA:lj l
  · rw[if_pos (Or.inl rfl)];rfl
  by_cases h0:w.1 < 0
  · rw[bI h0,if_pos (Or.inr (Or.inl h0))];rfl
  by_cases h1:w.1>=l.1.length
  · rw[bp h0,la h1,if_pos (Or.inr (Or.inr h1))];rfl
  rw[bp h0,jg h1,bF (by omega) (by omega),if_neg (by simp[h0];omega)]
  have hn:w.1.toNat < l.1.length:=by omega
  have n1:nth (.pair (.slice (.int .u64)) (.pair (.int .i64) (.pair (.int .i64) (.pair (.int .u64) .unit)))) l.1 w.1.toNat=l.1[w.1.toNat]:=dQ (t:=(.pair (.slice (.int .u64)) (.pair (.int .i64) (.pair (.int .i64) (.pair (.int .u64) .unit))))) hn
  rw[n1]
  have hx:Si l.1[w.1.toNat]:=hl _ (List.getElem_mem hn)
  have Vr:=Lm kA (List.getElem_mem hn)
  obtain⟨⟨ks,af,dl,sc,u⟩,O7⟩:∃b,l.1[w.1.toNat]=b:=⟨_,rfl⟩
  rw[O7]at hx Vr ⊢
  have TF:BF ks:=hx.1
  have Vr:ks.length<=12:=Vr
  simp only[bZ,ai,ae]
  by_cases e1:h < af
  · rw[bI e1,if_pos (Or.inl e1)];rfl
  by_cases e2:a < dl
  · rw[bp e1,bI e2,if_pos (Or.inr e2)];rfl
  rw[bp e1,bp e2,if_neg (by simp[e1,e2]),dZ.run (d:=w.2.2.1) hw.2]
  simp only[ai,ab,dZ.add,dZ.F]
  have last:aJ (tc ((w.2.1.length:Nat):Int) ((ks.length:Nat):Int)) (some (cl.out (7:Int))) (
          ah (cl.L0.call (w,m,ks,((ks.length:Nat):Int),(0:Int))) λx4=>
          aJ (x4.isLeft) (ah (x4.getLeft?) λa5=>some (cl.out (7:Int))) (ah (x4.getRight?) λb6=>some (cl.out (0:Int))))=some (cl.out (if w.2.1.length≠ks.length then 7 else if rN m ks w.2.1 then 0 else 7)):=by
    by_cases e3:w.2.1.length=ks.length
    · rw[gZ (by omega),if_neg (by simp[e3]),ai,cl.L0.run (d:=(w,m,ks,ks.length,0)) ⟨hw,hm,TF,by show ks.length<=1000000000;omega,e3,rfl,0,by omega,rfl⟩]
      simp only[ab,cl.L0.add,cl.L0.F,bH,aW]
      cases rN m ks w.2.1 <;> rfl
    · rw[jE (by omega),if_pos e3];rfl
  by_cases e4:sc=0
  · rw[gZ e4,if_neg (by simp[e4]),ai]
    exact last
  · rw[jE e4,ae]
    by_cases e5:fy w.2.2.1=sc
    · rw[gZ e5,if_neg (by simp[e5]),ai]
      exact last
    · rw[jE e5,if_pos ⟨e4,e5⟩];rfl
def cl.E:=Entry.dp [some qS,some OC,some tH,some ti,some ti] cl.st cl.az cl.add cl.F cl.out
def cl.call:cl.D->Option cl.X:=bX cl.E cl.st
theorem cl.run:b8 cl.call cl.az cl.add cl.F:=dv (du [.d qS,.d OC,.d tB,.d ti,.d ti] λ_=>by kernel_rfl)
def cl.sg:SG Tryz.prog:=⟨53,aP,cl.E,.fn 1 (by kernel_rfl) cl.ok (And.intro (.dp cl.L0.ok (by kernel_rfl)) trivial)⟩
abbrev gU.D:=Int
def gU.st:gU.D->SA:=λn=>([.eU,.d ti n],[])
abbrev gU.Y:=Nat×(List Int)
abbrev gU.X:=Nat×(List Int)
def gU.out:gU.X->aX:=λx=>⟨.di (.new 0 0) 0 [] 0 0 x.1,[],[.obj 0 false (.vec 5 tb x.2)]⟩
def gU.add:gU.D->gU.Y->gU.X:=λn y=>y
def gU.az:gU.D->Prop:=λn=>∃k:Nat,n=k/\k<=100000000
def gU.F:gU.D->gU.Y:=λn=>(0,List.replicate n.toNat 0)
def gU.G:fD:=gr (P:=Tryz.prog) []
def gU.an:fR:= {nR:=[⟨4,[],22,135⟩]}
def gU.A:= @dm Tryz.prog gU.G gU.an 0 Tryz.f176 _ gU.st
abbrev gU.Ok:=dn @gU.A gU.az gU.add gU.F gU.out
theorem gU.eq{R:Type}(n:Int)(k:aX->Option R):gU.A n k=
  aJ ((jM n (0:Int))) (
   none) (
   aJ ((sh (cY .i64 n (0:Int)) (0:Int))) (
    aJ (decide (0 < (cY .i64 n (0:Int))) && fq (Int.toNat (cY .i64 n (0:Int))) 1) (
    aJ (inc (0:Int) (((Int.toNat (cY .i64 n (0:Int))):Nat):Int)) (
    k (gU.out (0,(List.replicate (Int.toNat (cY .i64 n (0:Int))) (0:Int))))) none) none) (
    k (gU.out (0,([]:List Int))))):=by kernel_rfl
theorem gU.ok:gU.Ok:=by
 rintro n ⟨k,rfl,hk⟩
 have e:cY .i64 (k:Int) 0=(k:Int):=by rw[gQ (by omega) (by omega)];omega
 rw[gU.eq,e,bp (by omega),ai]
 by_cases h:0 < k
 ·rw[fE (by omega),aa,aM (by omega),gk (by omega) (by omega),pZ (by omega) (by omega)]
  rfl
 ·obtain rfl:k=0:=by omega
  rfl
def gU.E:=Entry.dp [none,some ti] gU.st gU.az gU.add gU.F gU.out
def gU.call:gU.D->Option gU.X:=bX gU.E gU.st
theorem gU.run:b8 gU.call gU.az gU.add gU.F:=dv (du [.d ti] λ_=>by kernel_rfl)
def gU.sg:SG Tryz.prog:=⟨176,aP,gU.E,.fn 0 (by kernel_rfl) gU.ok trivial⟩
def qa(l:List (List Int)):Nat:=l.flatten.length
def Dz(n:Nat)(l:List Int):List (List Int)->Nat×List Int
 |[]=>(n,l)
 |s::r=>(n+(s::r).flatten.length,l.take n++(s::r).flatten)
theorem KR(n:Nat)(l s:List Int)(r:List (List Int))(h:n<=l.length):Dz n l (s::r)=Dz (n+s.length) (l.take n++s) r:=by
 have hl:(l.take n++s).length=n+s.length:=by rw[aj,fS];omega
 cases r with
 |nil=>simp[Dz]
 |cons t r=>
  simp only[Dz]
  rw[cj (Nat.le_of_eq hl)]
  simp only[lT,aj,bR,gX]
theorem OS(n:Nat)(z:List Int)(r:List (List Int)):(Dz 0 z r).1<=(Dz 0 z r).2.length/\cut (Dz 0 z r).2 0 (Dz 0 z r).1=r.flatten:=by
 cases r with
 |nil=>exact⟨bm _,rfl⟩
 |cons s r=>
  simp only[Dz,jA,bt,bl]
  exact⟨aE _,by show List.take _ (List.drop 0 _)=_;rw[aW,cQ]⟩
abbrev aF.L0.D:=(List Bs)×Int×(List Bs)×Int×Int
def aF.L0.st:aF.L0.D->AS:=λ(rr,size,t9,t10,t11)=>⟨([.d (.slice tB) rr,.undef,.undef,.d ti size]++bG 5 ([.d (.slice tB) t9,.d ti t10,.d ti t11]++bG 24 [])),[],(List.replicate 36 [])⟩
abbrev aF.L0.Y0:=Int
abbrev aF.L0.X0:=((List Bs))×(Int)
def aF.L0.bY:aF.L0.X0->Exit×AS:=λx=>(.exit 0,⟨([.d (.slice tB) x.1,.undef,.undef,.d ti x.2]++bG 32 []),[],(List.replicate 36 [])⟩)
abbrev aF.L0.X:=aF.L0.X0
abbrev aF.L0.Y:=aF.L0.Y0
def aF.L0.out:aF.L0.X->Out (Exit×AS):=λx=> .ok (aF.L0.bY x)
def aF.L0.add:aF.L0.D->aF.L0.Y->aF.L0.X:=λ(rr,size,t9,t10,t11) y=>(rr,y)
abbrev aF.L1.D:=Nat×(List Bs)×Int×Int×(List Int)
def aF.L1.st:aF.L1.D->AS:=λ(newsliceL,t25,t26,t27,Hg)=>⟨(bG 6 ([.di (.new 24 0) 0 [] 0 0 newsliceL]++bG 18 ([.d (.slice tB) t25,.d ti t26,.d ti t27]++bG 8 []))),[],(dh 24 ([[.obj 0 false (.vec 5 tb Hg)]]++dh 11 []))⟩
abbrev aF.L1.Y0:=Nat×(List Int)
abbrev aF.L1.X0:=Nat×(List Int)
def aF.L1.bY:aF.L1.X0->Exit×AS:=λx=>(.exit 2,⟨(bG 6 ([.di (.new 24 0) 0 [] 0 0 x.1]++bG 29 [])),[],(dh 24 ([[.obj 0 false (.vec 5 tb x.2)]]++dh 11 []))⟩)
abbrev aF.L1.X:=aF.L1.X0
abbrev aF.L1.Y:=aF.L1.Y0
def aF.L1.out:aF.L1.X->Out (Exit×AS):=λx=> .ok (aF.L1.bY x)
def aF.L1.add:aF.L1.D->aF.L1.Y->aF.L1.X:=λ(newsliceL,t25,t26,t27,Hg) y=>y
abbrev aF.D:=(List Bs)
def aF.st:aF.D->SA:=λslices=>([.d (.slice tB) slices],[])
abbrev aF.Y:=Bs
abbrev aF.X:=Bs
def aF.out:aF.X->aX:=λx=>⟨.d tB x,[],[]⟩
def aF.add:aF.D->aF.Y->aF.X:=λslices y=>y
def aF.L0.az:aF.L0.D->Prop:=λ(s,size,t,n,i)=>s.length<=1000000/\t=s/\n=s.length/\∃k z:Nat,k<=s.length/\i=k/\size=z/\z+qa (s.drop k)<=100000000
def aF.L0.F:aF.L0.D->aF.L0.Y:=λ(s,size,t,n,i)=>((size:Int)+((qa (s.drop i.toNat):Nat):Int):Int)
def aF.L1.az:aF.L1.D->Prop:=λ(n,s,t,i,l)=>s.length<=1000000/\n<=l.length/\t=s.length/\∃k:Nat,k<=s.length/\i=k/\n+qa (s.drop k)<=100000000
def aF.L1.F:aF.L1.D->aF.L1.Y:=λ(n,s,t,i,l)=>Dz n l (s.drop i.toNat)
def aF.az:aF.D->Prop:=λs=>s.length<=1000000/\qa s<=100000000
def aF.F:aF.D->aF.Y:=λs=>s.flatten
def aF.G:fD:=gr (P:=Tryz.prog) [gU.sg]
def aF.L0.E:=cU.dp aF.L0.st aF.L0.az aF.L0.add aF.L0.F aF.L0.out
def aF.L0.call:aF.L0.D->Option aF.L0.X:=eI aF.L0.E aF.L0.st
def aF.L1.E:=cU.dp aF.L1.st aF.L1.az aF.L1.add aF.L1.F aF.L1.out
def aF.L1.call:aF.L1.D->Option aF.L1.X:=eI aF.L1.E aF.L1.st
def aF.an:fR:= {loops:=om [(3,{bO:=[0,3,9,10,11]}),(11,{bO:=[6,25,26,27],sites:=[24],nR:=[⟨6,[],24,135⟩]})],outs:=oh [(3,{bO:=[0,3]},{bO:=[2]}),(11,{bO:=[6],sites:=[24]},{bO:=[2]})],jo:=pb [(3,aF.L0.E),(11,aF.L1.E)],res:=[some tB]}
def aF.A:= @dm Tryz.prog aF.G aF.an 0 Tryz.f151 _ aF.st
abbrev aF.Ok:=dn @aF.A aF.az aF.add aF.F aF.out
def aF.L0.R:= @dr Tryz.prog aF.G aF.an 0 Tryz.f151 0 _ aF.L0.st
abbrev aF.L0.Ok:=gz Tryz.prog aF.G aF.an 0 Tryz.f151 0 aF.L0.st aF.L0.az aF.L0.add aF.L0.F aF.L0.out
def aF.L1.R:= @dr Tryz.prog aF.G aF.an 0 Tryz.f151 1 _ aF.L1.st
abbrev aF.L1.Ok:=gz Tryz.prog aF.G aF.an 0 Tryz.f151 1 aF.L1.st aF.L1.az aF.L1.add aF.L1.F aF.L1.out
theorem aF.L0.run:b8 aF.L0.call aF.L0.az aF.L0.add aF.L0.F:=gR (gJ [.d (.slice tB),.d ti,.d (.slice tB),.d ti,.d ti] λ_=>by kernel_rfl)
theorem aF.L0.aI:jl @aF.L0.R aF.L0.st aF.L0.az aF.L0.add aF.L0.F aF.L0.bY aF.L0.Ok:=js
theorem aF.L0.step{R:Type}(rr:(List Bs))(size:Int)(t9:(List Bs))(t10:Int)(t11:Int)(kn:AS->Option R)(kx:Exit->AS->Option R):aF.L0.R (rr,size,t9,t10,t11) kn kx=
  aJ ((jM t11 t10)) (
   aJ (fB t11 (((List.length t9):Nat):Int)) (
   aJ ((jM (bV .i64 size (((List.length (nth tB t9 (Int.toNat t11))):Nat):Int)) (0:Int))) (
    none) (
    kn (aF.L0.st (rr,(bV .i64 size (((List.length (nth tB t9 (Int.toNat t11))):Nat):Int)),t9,t10,(bV .i64 t11 (1:Int)))))) none) (
   kx (aF.L0.bY (rr,size)).1 (aF.L0.bY (rr,size)).2):=by kernel_rfl
theorem aF.L1.run:b8 aF.L1.call aF.L1.az aF.L1.add aF.L1.F:=gR (gJ [.n,.d (.slice tB),.d ti,.d ti,.d tB] λ_=>by kernel_rfl)
theorem aF.L1.aI:jl @aF.L1.R aF.L1.st aF.L1.az aF.L1.add aF.L1.F aF.L1.bY aF.L1.Ok:=js
theorem aF.L1.step{R:Type}(newsliceL:Nat)(t25:(List Bs))(t26:Int)(t27:Int)(Hg:(List Int))(kn:AS->Option R)(kx:Exit->AS->Option R):aF.L1.R (newsliceL,t25,t26,t27,Hg) kn kx=
  aJ ((jM t27 t26)) (
   aJ (fB t27 (((List.length t25):Nat):Int)) (
   aJ (decide (newsliceL<=(List.length Hg))) (
   aJ (fq (newsliceL+(List.length (nth tB t25 (Int.toNat t27)))) 1) (
   kn (aF.L1.st ((newsliceL+(List.length (nth tB t25 (Int.toNat t27)))),t25,t26,(bV .i64 t27 (1:Int)),((List.take newsliceL Hg)++(nth tB t25 (Int.toNat t27)))))) none) none) none) (
   kx (aF.L1.bY (newsliceL,Hg)).1 (aF.L1.bY (newsliceL,Hg)).2):=by kernel_rfl
theorem aF.eq{R:Type}(slices:(List Bs))(k:aX->Option R):aF.A slices k=
 ah (aF.L0.call (slices,(0:Int),slices,(((List.length slices):Nat):Int),(0:Int))) λx1=>
 ah (gU.call x1.2) λx2=>
 ah (aF.L1.call (x2.1,x1.1,(((List.length x1.1):Nat):Int),(0:Int),x2.2)) λx3=>
 aJ (decide (0=0/\(0+x3.1)<=(List.length x3.2))) (
 k (aF.out (cut x3.2 0 x3.1))) none:=by kernel_rfl
theorem J4(s:List (List Int))(k:Nat)(h:k < s.length):qa (s.drop k)=s[k].length+qa (s.drop (k+1)):=by
 unfold qa
 rw[av h,lT,aj]
theorem aF.L0.ok:aF.L0.Ok:=by
 refine aF.L0.aI (λ(s,size,t,n,i)=>s.length - i.toNat) ?_
 rintro⟨s,size,t,n,i⟩ ⟨hs,rfl,rfl,k,z,hk,rfl,rfl,hz⟩
 have hs:t.length<=1000000:=hs
 have hk:k<=t.length:=hk
 have hz:z+qa (t.drop k)<=100000000:=hz
 by_cases h:k < t.length
 ·left
  have n1:nth (.slice (.int .u8)) t k=t[k]:=dQ (t:= .slice (.int .u8)) h
  have hd:=J4 t k h
  refine⟨(t,((z+t[k].length:Nat):Int),t,t.length,((k+1:Nat):Int)),⟨hs,rfl,rfl,k+1,z+t[k].length,by omega,rfl,rfl,by omega⟩,by simp only[aa];omega,?_,λkn kx=> ?_⟩
  ·simp only[aF.L0.add,aF.L0.F,aa]
   rw[hd]
   refine congrArg _ ?_
   omega
  ·rw[aF.L0.step]
   simp(disch:=omega) only[↓S1,↓if_pos,↓if_neg,if_pos,if_neg,if_true,if_false,S2,n1]
 ·right
  obtain rfl:k=t.length:=by omega
  intro R kn kx
  rw[aF.L0.step]
  simp(disch:=omega) only[↓S1,↓if_pos,↓if_neg,if_pos,if_neg,if_true,if_false,S2,aF.L0.add,aF.L0.F,bB]
  simp only[qa,oc,bM,Int.natCast_zero,mE]
theorem aF.L1.ok:aF.L1.Ok:=by
 refine aF.L1.aI (λ(n,s,t,i,l)=>s.length - i.toNat) ?_
 rintro⟨n,s,t,i,l⟩ ⟨hs,hn,rfl,k,hk,rfl,hz⟩
 have hs:s.length<=1000000:=hs
 have hn:n<=l.length:=hn
 have hk:k<=s.length:=hk
 have hz:n+qa (s.drop k)<=100000000:=hz
 by_cases h:k < s.length
 ·left
  have n1:nth (.slice (.int .u8)) s k=s[k]:=dQ (t:= .slice (.int .u8)) h
  have hd:=J4 s k h
  refine⟨(n+s[k].length,s,s.length,((k+1:Nat):Int),l.take n++s[k]),⟨hs,by rw[aj,fS];omega,rfl,k+1,by omega,rfl,by omega⟩,by simp only[aa];omega,?_,λkn kx=> ?_⟩
  ·simp only[aF.L1.add,aF.L1.F,aa]
   rw[av h,KR _ _ _ _ hn]
  ·rw[aF.L1.step]
   simp(disch:=omega) only[↓S1,↓if_pos,↓if_neg,if_pos,if_neg,if_true,if_false,S2,n1]
 ·right
  obtain rfl:k=s.length:=by omega
  intro R kn kx
  rw[aF.L1.step]
  simp(disch:=omega) only[↓S1,↓if_pos,↓if_neg,if_pos,if_neg,if_true,if_false,S2,aF.L1.add,aF.L1.F,bB]
  rfl
theorem aF.ok:aF.Ok:=by
 rintro s ⟨hs,hz⟩
 have hs:s.length<=1000000:=hs
 have hz:qa s<=100000000:=hz
 have p1:aF.L0.az (s,0,s,s.length,0):=⟨hs,rfl,rfl,0,0,by omega,rfl,rfl,by rw[aW];omega⟩
 have p2:aF.L1.az (0,s,s.length,0,List.replicate (qa s) 0):=⟨hs,by omega,rfl,0,by omega,rfl,by rw[aW];omega⟩
 rw[aF.eq,aF.L0.run p1]
 simp only[ab,aF.L0.add,aF.L0.F,bH,aW,pT]
 rw[gU.run (d:=((qa s:Nat):Int)) ⟨qa s,rfl,hz⟩]
 simp only[ab,gU.add,gU.F,aa]
 rw[aF.L1.run p2]
 simp only[ab,aF.L1.add,aF.L1.F,bH,aW]
 obtain⟨c1,c2⟩:=OS 0 (List.replicate (qa s) 0) s
 simp only[bl,c1,and_self,decide_true,ae,c2]
 rfl
def aF.E:=Entry.dp [some (.slice tB)] aF.st aF.az aF.add aF.F aF.out
def aF.call:aF.D->Option aF.X:=bX aF.E aF.st
theorem aF.run:b8 aF.call aF.az aF.add aF.F:=dv (du [.d (.slice tB)] λ_=>by kernel_rfl)
def aF.sg:SG Tryz.prog:=⟨151,aP,aF.E,.fn 2 (by kernel_rfl) aF.ok (And.intro (.dp aF.L0.ok (by kernel_rfl)) (And.intro (.dp aF.L1.ok (by kernel_rfl)) trivial))⟩
abbrev fT.D:=Bs×Bs
def fT.st:fT.D->SA:=λ(b,more)=>([.d tB b,.d tB more],[])
abbrev fT.Y:=Bs
abbrev fT.X:=Bs
def fT.out:fT.X->aX:=λx=>⟨.d tB x,[],[]⟩
def fT.add:fT.D->fT.Y->fT.X:=λ(b,more) y=>y
def fT.az:fT.D->Prop:=λ(a,b)=>a.length+b.length<=100000000
def fT.F:fT.D->fT.Y:=λ(a,b)=>a++b
def fT.G:fD:=gr (P:=Tryz.prog) [aF.sg]
def fT.an:fR:= {}
def fT.A:= @dm Tryz.prog fT.G fT.an 0 Tryz.f149 _ fT.st
abbrev fT.Ok:=dn @fT.A fT.az fT.add fT.F fT.out
theorem fT.eq{R:Type}(b:Bs)(more:Bs)(k:aX->Option R):fT.A (b,more) k=
 ah (aF.call [b,more]) λx1=>
 k (fT.out x1):=by kernel_rfl
theorem fT.ok:fT.Ok:=by
 rintro⟨a,b⟩ h
 have h:a.length+b.length<=100000000:=h
 rw[fT.eq,aF.run (d:=[a,b]) ⟨by show [a,b].length<=_;simp,by show qa [a,b]<=_;simp only[qa,lT,oc,dg,aj];omega⟩]
 simp only[ab,aF.add,aF.F,fT.add,fT.F,lT,oc,dg]
def fT.E:=Entry.dp [some tB,some tB] fT.st fT.az fT.add fT.F fT.out
def fT.call:fT.D->Option fT.X:=bX fT.E fT.st
theorem fT.run:b8 fT.call fT.az fT.add fT.F:=dv (du [.d tB,.d tB] λ_=>by kernel_rfl)
def fT.sg:SG Tryz.prog:=⟨149,aP,fT.E,.fn 0 (by kernel_rfl) fT.ok trivial⟩
def oG:Nat->Int->List Int×Int
 | 0,n=>([],n)
 |f+1,n=>if 128<=n then((n%128+128)::(oG f (n / 128)).1,(oG f (n / 128)).2) else([],n)
def CX(n:Int):List Int:=(oG 10 n).1++ [(oG 10 n).2]
theorem EF:∀(f g:Nat) (n:Int),n < 128^(f+1)->n < 128^(g+1)->oG f n=oG g n
 | 0,0,n,_,_=>rfl
 | 0,g+1,n,h,_=>by
  have h:n < 128:=h
  rw[oG,oG,if_neg (by omega)]
 |f+1,0,n,_,h=>by
  have h:n < 128:=h
  rw[oG,oG,if_neg (by omega)]
 |f+1,g+1,n,h,h'=>by
  rw[oG,oG]
  split
  ·have e:(128:Int)^(f+1+1)=128^(f+1)*128:=mG 128 (f+1)
   have e':(128:Int)^(g+1+1)=128^(g+1)*128:=mG 128 (g+1)
   rw[EF f g (n / 128) (by omega) (by omega)]
  ·rfl
theorem CW:∀(f:Nat) (n:Int),(oG f n).1.length<=f
 | 0,_=>aE _
 |f+1,n=>by
  rw[oG]
  split
  ·have:=CW f (n / 128)
   simp only[aO];omega
  ·exact bm _
theorem EE:∀(f:Nat) (n:Int),0<=n->n < 128^(f+1)->0<=(oG f n).2/\(oG f n).2 < 128
 | 0,n,h,h'=>by have h':n < 128:=h';exact⟨h,h'⟩
 |f+1,n,h,h'=>by
  rw[oG]
  have e:(128:Int)^(f+1+1)=128^(f+1)*128:=mG 128 (f+1)
  split
  ·exact EE f (n / 128) (by omega) (by omega)
  ·exact⟨h,by omega⟩
theorem LD{n:Int}(h:128<=n)(h2:n<=9223372036854775807):oG 10 n=((n%128+128)::(oG 10 (n / 128)).1,(oG 10 (n / 128)).2):=by
 have e:(128:Int)^(9+1)=1180591620717411303424:=rfl
 have e2:(128:Int)^(10+1)=151115727451828646838272:=rfl
 rw[oG,if_pos h,EF 9 10 (n / 128) (by rw[e];omega) (by rw[e2];omega)]
theorem yZ(n:Int):(CX n).length<=11:=by
 have:=CW 10 n
 unfold CX
 simp only[aj,aO,bM];omega
def Mj(n:Int):Prop:=0<=n/\n<=9223372036854775807
abbrev ek.L0.D:=Int×Nat×(List Int)
def ek.L0.st:ek.L0.D->AS:=λ(vn,outL,Bv)=>⟨([.d ti vn,.undef,.undef,.di (.new 14 0) 0 [] 0 0 outL]++bG 16 []),[],(dh 14 ([[.obj 0 false (.vec 5 tb Bv)]]++dh 5 []))⟩
abbrev ek.L0.Y0:=Int×Nat×(List Int)
abbrev ek.L0.X0:=Int×Nat×(List Int)
def ek.L0.bY:ek.L0.X0->Exit×AS:=λx=>(.exit 0,⟨([.d ti x.1,.undef,.undef,.di (.new 14 0) 0 [] 0 0 x.2.1]++bG 16 []),[],(dh 14 ([[.obj 0 false (.vec 5 tb x.2.2)]]++dh 5 []))⟩)
abbrev ek.L0.X:=ek.L0.X0
abbrev ek.L0.Y:=ek.L0.Y0
def ek.L0.out:ek.L0.X->Out (Exit×AS):=λx=> .ok (ek.L0.bY x)
def ek.L0.add:ek.L0.D->ek.L0.Y->ek.L0.X:=λ(vn,outL,Bv) y=>y
abbrev ek.D:=Int
def ek.st:ek.D->SA:=λn=>([.d ti n],[])
abbrev ek.Y:=Bs
abbrev ek.X:=Bs
def ek.out:ek.X->aX:=λx=>⟨.d tB x,[],[]⟩
def ek.add:ek.D->ek.Y->ek.X:=λn y=>y
def ek.L0.az:ek.L0.D->Prop:=λ(n,m,l)=>Mj n/\m=l.length/\l.length<=1000+0*n.toNat/\l.length+(oG 10 n).1.length<=100
def ek.L0.F:ek.L0.D->ek.L0.Y:=λ(n,m,l)=>((oG 10 n).2,(l++(oG 10 n).1).length,l++(oG 10 n).1)
def ek.az:ek.D->Prop:=λn=>Mj n
def ek.F:ek.D->ek.Y:=λn=>CX n
def ek.G:fD:=gr (P:=Tryz.prog) []
def ek.L0.E:=cU.dp ek.L0.st ek.L0.az ek.L0.add ek.L0.F ek.L0.out
def ek.L0.call:ek.L0.D->Option ek.L0.X:=eI ek.L0.E ek.L0.st
def ek.an:fR:= {loops:=om [(2,{bO:=[0,3],sites:=[14],nR:=[⟨3,[],14,135⟩]})],outs:=oh [(2,{bO:=[0,3],sites:=[14]},{bO:=[2]})],jo:=pb [(2,ek.L0.E)],res:=[some tB]}
def ek.A:= @dm Tryz.prog ek.G ek.an 0 Tryz.f150 _ ek.st
abbrev ek.Ok:=dn @ek.A ek.az ek.add ek.F ek.out
def ek.L0.R:= @dr Tryz.prog ek.G ek.an 0 Tryz.f150 0 _ ek.L0.st
abbrev ek.L0.Ok:=gz Tryz.prog ek.G ek.an 0 Tryz.f150 0 ek.L0.st ek.L0.az ek.L0.add ek.L0.F ek.L0.out
theorem ek.L0.run:b8 ek.L0.call ek.L0.az ek.L0.add ek.L0.F:=gR (gJ [.d ti,.n,.d tB] λ_=>by kernel_rfl)
theorem ek.L0.aI:jl @ek.L0.R ek.L0.st ek.L0.az ek.L0.add ek.L0.F ek.L0.bY ek.L0.Ok:=js
theorem ek.L0.step{R:Type}(vn:Int)(outL:Nat)(Bv:(List Int))(kn:AS->Option R)(kx:Exit->AS->Option R):ek.L0.R (vn,outL,Bv) kn kx=
  aJ ((qu vn (128:Int))) (
   aJ (decide (outL<=(List.length Bv))) (
   aJ (fq (outL+1) 1) (
   kn (ek.L0.st ((qs .i64 vn (128:Int)),(outL+1),((List.take outL Bv)++ [(fa .u8 (bV .i64 (iN vn (128:Int)) (128:Int)))])))) none) none) (
   kx (ek.L0.bY (vn,outL,Bv)).1 (ek.L0.bY (vn,outL,Bv)).2):=by kernel_rfl
theorem ek.eq{R:Type}(n:Int)(k:aX->Option R):ek.A n k=
 ah (ek.L0.call (n,0,([]:List Int))) λx1=>
 aJ (decide (x1.2.1<=(List.length x1.2.2))) (
 aJ (fq (x1.2.1+1) 1) (
 aJ (decide (0=0/\(0+(x1.2.1+1))<=(List.length ((List.take x1.2.1 x1.2.2)++ [(fa .u8 x1.1)])))) (
 k (ek.out (cut ((List.take x1.2.1 x1.2.2)++ [(fa .u8 x1.1)]) 0 (x1.2.1+1)))) none) none) none:=by kernel_rfl
theorem MG{n:Int}(h:Mj n):fa .u8 (bV .i64 (iN n 128) 128)=n%128+128:=by
 have h1:=h.1
 rw[lh h.1,ff (by omega) (by omega),Cj,kP]
 omega
theorem ek.L0.ok:ek.L0.Ok:=by
 refine ek.L0.aI (λ(n,m,l)=>n.toNat) ?_
 rintro⟨n,m,l⟩ ⟨hn,rfl,hl,hz⟩
 have hn:Mj n:=hn
 have hz:l.length+(oG 10 n).1.length<=100:=hz
 have h1:=hn.1
 have h2:=hn.2
 by_cases h:128<=n
 ·left
  have e:=LD h h2
  have hq:qs .i64 n 128=n / 128:=by
   rw[qs,lE h1]
   exact qW (by omega) (by omega)
  have el:((n%128+128)::(oG 10 (n / 128)).1).length=(oG 10 (n / 128)).1.length+1:=aO
  rw[e]at hz
  have hz:l.length+((n%128+128)::(oG 10 (n / 128)).1).length<=100:=hz
  rw[el]at hz
  refine⟨(n / 128,l.length+1,l++ [n%128+128]),⟨⟨by omega,by omega⟩,by rw[aj];rfl,by rw[aj];simp only[aO,bM];omega,by rw[aj];simp only[aO,bM];omega⟩,by simp only[];omega,?_,λkn kx=> ?_⟩
  ·simp only[ek.L0.add,ek.L0.F,e,bR,kC,bt]
  ·rw[ek.L0.step,la h,MG hn,hq]
   simp(disch:=omega) only[↓S1,↓if_pos,↓if_neg,if_pos,if_neg,if_true,if_false,S2,aE,cQ]
 ·right
  have e:oG 10 n=([],n):=by rw[oG,if_neg h]
  intro R kn kx
  rw[ek.L0.step,jg h]
  simp only[ai,ek.L0.add,ek.L0.F,e,dg]
theorem ek.ok:ek.Ok:=by
 intro n hn
 have hn:Mj n:=hn
 have hl:=CW 10 n
 have e2:(128:Int)^(10+1)=151115727451828646838272:=rfl
 have hd:=EE 10 n hn.1 (by have:=hn.2;rw[e2];omega)
 have p:ek.L0.az (n,0,[]):=⟨hn,rfl,by simp,by simp only[bM];omega⟩
 have hi:fa .u8 (oG 10 n).2=(oG 10 n).2:=by rw[Cj,kP];omega
 rw[ek.eq,ek.L0.run p]
 simp only[ab,ek.L0.add,ek.L0.F,bt,hi,cQ,aE,decide_true,ae]
 rw[gk (by omega) (by omega)]
 simp only[ae,bl,aj,aO,bM,aE,and_self,decide_true]
 rw[jf (by rw[aj];rfl)]
 rfl
def ek.E:=Entry.dp [some ti] ek.st ek.az ek.add ek.F ek.out
def ek.call:ek.D->Option ek.X:=bX ek.E ek.st
theorem ek.run:b8 ek.call ek.az ek.add ek.F:=dv (du [.d ti] λ_=>by kernel_rfl)
def ek.sg:SG Tryz.prog:=⟨150,aP,ek.E,.fn 1 (by kernel_rfl) ek.ok (And.intro (.dp ek.L0.ok (by kernel_rfl)) trivial)⟩
def jQ(b:List Int)(n:Int):List Int:=if n < 0 then b else b++CX n
theorem ld(b:List Int)(n:Int):(jQ b n).length<=b.length+11:=by
 unfold jQ
 have:=yZ n
 split
 ·omega
 ·rw[aj];omega
abbrev gD.D:=Bs×Int
def gD.st:gD.D->SA:=λ(b,n)=>([.d tB b,.d ti n],[])
abbrev gD.Y:=Bs
abbrev gD.X:=Bs
def gD.out:gD.X->aX:=λx=>⟨.d tB x,[],[]⟩
def gD.add:gD.D->gD.Y->gD.X:=λ(b,n) y=>y
def gD.az:gD.D->Prop:=λ(b,n)=>b.length<=90000000/\n<=9223372036854775807
def gD.F:gD.D->gD.Y:=λ(b,n)=>jQ b n
def gD.G:fD:=gr (P:=Tryz.prog) [fT.sg,ek.sg]
def gD.an:fR:= {}
def gD.A:= @dm Tryz.prog gD.G gD.an 0 Tryz.f107 _ gD.st
abbrev gD.Ok:=dn @gD.A gD.az gD.add gD.F gD.out
theorem gD.eq{R:Type}(b:Bs)(n:Int)(k:aX->Option R):gD.A (b,n) k=
  aJ ((jM n (0:Int))) (
   ah (fT.call (b,([]:List Int))) λx1=>
   k (gD.out x1)) (
   ah (ek.call n) λx2=>
   ah (fT.call (b,x2)) λx3=>
   k (gD.out x3)):=by kernel_rfl
theorem gD.ok:gD.Ok:=by
 rintro⟨b,n⟩ ⟨hb,hn⟩
 have hb:b.length<=90000000:=hb
 have hn:n<=9223372036854775807:=hn
 rw[gD.eq]
 simp only[gD.add,gD.F,jQ]
 by_cases h:n < 0
 ·rw[bI h,if_pos h,ae,fT.run (d:=(b,[])) (by show b.length+([]:List Int).length<=_;simp only[bM];omega)]
  simp only[ab,fT.add,fT.F,dg]
 ·have hl:=yZ n
  rw[bp h,if_neg h,ai,ek.run (d:=n) ⟨by omega,hn⟩]
  simp only[ab,ek.add,ek.F]
  rw[fT.run (d:=(b,CX n)) (by show b.length+(CX n).length<=_;omega)]
  rfl
def gD.E:=Entry.dp [some tB,some ti] gD.st gD.az gD.add gD.F gD.out
def gD.call:gD.D->Option gD.X:=bX gD.E gD.st
theorem gD.run:b8 gD.call gD.az gD.add gD.F:=dv (du [.d tB,.d ti] λ_=>by kernel_rfl)
def gD.sg:SG Tryz.prog:=⟨107,aP,gD.E,.fn 0 (by kernel_rfl) gD.ok trivial⟩
abbrev gO.D:=Bs×Int
def gO.st:gO.D->SA:=λ(b,n)=>([.d tB b,.d tu n],[])
abbrev gO.Y:=Bs
abbrev gO.X:=Bs
def gO.out:gO.X->aX:=λx=>⟨.d tB x,[],[]⟩
def gO.add:gO.D->gO.Y->gO.X:=λ(b,n) y=>y
def gO.az:gO.D->Prop:=λ(b,n)=>b.length<=90000000
def gO.F:gO.D->gO.Y:=λ(b,n)=>b++mn n
def gO.G:fD:=gr (P:=Tryz.prog) [fT.sg]
def gO.an:fR:= {loops:=om [(3,{bO:=[0,1,5,7],sites:=[5,21]})],outs:=oh [(3,{bO:=[0,5],sites:=[5,21]},{bO:=[4],sites:=[5,21]})]}
def gO.A:= @dm Tryz.prog gO.G gO.an 12 Tryz.f152 _ gO.st
abbrev gO.Ok:=dn @gO.A gO.az gO.add gO.F gO.out
theorem gO.eq{R:Type}(b:Bs)(n:Int)(k:aX->Option R):gO.A (b,n) k=
 ah (fT.call (b,[(fa .u8 (cX .u64 n (56:Int))),(fa .u8 (cX .u64 n (48:Int))),(fa .u8 (cX .u64 n (40:Int))),(fa .u8 (cX .u64 n (32:Int))),(fa .u8 (cX .u64 n (24:Int))),(fa .u8 (cX .u64 n (16:Int))),(fa .u8 (cX .u64 n (8:Int))),(fa .u8 (cX .u64 n (0:Int)))])) λx1=>
 k (gO.out x1):=by kernel_rfl
theorem gO.ok:gO.Ok:=by
 rintro⟨b,n⟩ hb
 have hb:b.length<=90000000:=hb
 have p:fT.az (b,mn n):=by show b.length+(mn n).length<=_;rw[dO];omega
 have e:fT.call (b,[fa .u8 (cX .u64 n 56),fa .u8 (cX .u64 n 48),fa .u8 (cX .u64 n 40),fa .u8 (cX .u64 n 32),fa .u8 (cX .u64 n 24),fa .u8 (cX .u64 n 16),fa .u8 (cX .u64 n 8),fa .u8 (cX .u64 n 0)])=some (b++mn n):=by
  rw[BN];exact fT.run p
 rw[gO.eq]
 refine Eq.trans (congrArg (λx=>ah x _) e) ?_
 rfl
def gO.E:=Entry.dp [some tB,some tu] gO.st gO.az gO.add gO.F gO.out
def gO.call:gO.D->Option gO.X:=bX gO.E gO.st
theorem gO.run:b8 gO.call gO.az gO.add gO.F:=dv (du [.d tB,.d tu] λ_=>by kernel_rfl)
def gO.sg:SG Tryz.prog:=⟨152,aP,gO.E,.fn 1 (by kernel_rfl) gO.ok (And.intro (.none (by kernel_rfl)) trivial)⟩
def uk(w:Du):Bool:=decide (0<=w.1/\w.1 < 4) && decide (w.2.1.length<=12)
def zI(x:kX):Bool:=decide (0<=x.1.2.1/\x.1.2.1 < 64) && uk x.2.1
def xi(m:List (iF×Bool))(x:kX):Bool:=(fv ir x.1 m).getD false
def tE:List (iF×Bool)->List kX->Bool
 |_,[]=>true
 |m,x::l=>(!(xi m x) && zI x) && tE (lv ir x.1 true m) l
def tx(a:Int):Bool:=decide (0<=a/\a<=1125899906842624)
def tS(a b:Int):Bool:=tx a && (tx b && decide (a+b<=1125899906842624))
def qh:Int->List kI->Bool
 |_,[]=>true
 |s,o::l=>(tS s o.1 && lj o.2.1) && qh (s+o.1) l
def yc(t:je):Bool:=decide (1<=t.1.length/\t.1.length<=64/\t.2.1.length<=64/\0<=t.2.2.1)
def j9(t:je):Bool:=yc t && (tE [] t.1 && qh 0 t.2.1)
def uq(l:Lk):Prop:=LX l/\l.1.length<=9223372036854775807
def Ur(t:je):Prop:=(∀o∈t.2.1,uq o.2.1)/\t.1.length<=9223372036854775807/\t.2.1.length<=9223372036854775807
abbrev jx.D:=Du
def jx.st:jx.D->SA:=λwv=>([.d OC wv],[])
abbrev jx.Y:=Bool
abbrev jx.X:=Bool
def jx.out:jx.X->aX:=λx=>⟨.d .bool x,[],[]⟩
def jx.add:jx.D->jx.Y->jx.X:=λwv y=>y
def jx.az:jx.D->Prop:=λ_=>True
def jx.F:jx.D->jx.Y:=λw=>uk w
def jx.G:fD:=gr (P:=Tryz.prog) []
def jx.an:fR:= {}
def jx.A:= @dm Tryz.prog jx.G jx.an 0 Tryz.f103 _ jx.st
abbrev jx.Ok:=dn @jx.A jx.az jx.add jx.F jx.out
theorem jx.eq{R:Type}(wv:Du)(k:aX->Option R):jx.A wv k=
  aJ ((qu wv.1 (0:Int))) (
   aJ ((jM wv.1 (4:Int))) (
    k (jx.out (F6 (((List.length wv.2.1):Nat):Int) (12:Int)))) (
    k (jx.out false))) (
   k (jx.out false)):=by kernel_rfl
theorem jx.ok:jx.Ok:=by
 rintro⟨b,ss,sc,u⟩ _
 rw[jx.eq]
 simp only[jx.add,jx.F,uk]
 by_cases h:0<=b
 ·rw[la h,ae]
  by_cases h2:b < 4
  ·rw[bI h2,ae,aM ⟨h,h2⟩]
   by_cases h3:ss.length<=12
   ·rw[vT (by omega),aM h3];rfl
   ·rw[qC (by omega),cq h3];rfl
  ·rw[bp h2,ai,cq (λx=>h2 x.2)];rfl
 ·rw[jg h,ai,cq (λx=>h x.1)];rfl
def jx.E:=Entry.dp [some OC] jx.st jx.az jx.add jx.F jx.out
def jx.call:jx.D->Option jx.X:=bX jx.E jx.st
theorem jx.run:b8 jx.call jx.az jx.add jx.F:=dv (du [.d OC] λ_=>by kernel_rfl)
def jx.sg:SG Tryz.prog:=⟨103,aP,jx.E,.fn 0 (by kernel_rfl) jx.ok trivial⟩
abbrev fh.D:=Int
def fh.st:fh.D->SA:=λa=>([.d ti a],[])
abbrev fh.Y:=Bool
abbrev fh.X:=Bool
def fh.out:fh.X->aX:=λx=>⟨.d .bool x,[],[]⟩
def fh.add:fh.D->fh.Y->fh.X:=λa y=>y
def fh.az:fh.D->Prop:=λ_=>True
def fh.F:fh.D->fh.Y:=λa=>tx a
def fh.G:fD:=gr (P:=Tryz.prog) []
def fh.an:fR:= {}
def fh.A:= @dm Tryz.prog fh.G fh.an 0 Tryz.f145 _ fh.st
abbrev fh.Ok:=dn @fh.A fh.az fh.add fh.F fh.out
theorem fh.eq{R:Type}(a:Int)(k:aX->Option R):fh.A a k=
  aJ ((qu a (0:Int))) (
   k (fh.out (F6 a (1125899906842624:Int)))) (
   k (fh.out false)):=by kernel_rfl
theorem fh.ok:fh.Ok:=by
 intro(a:Int) _
 rw[fh.eq]
 simp only[fh.add,fh.F,tx]
 by_cases h:0<=a
 ·rw[la h,ae]
  by_cases h2:a<=1125899906842624
  ·rw[vT h2,aM ⟨h,h2⟩]
  ·rw[qC h2,cq (λx=>h2 x.2)]
 ·rw[jg h,ai,cq (λx=>h x.1)]
def fh.E:=Entry.dp [some ti] fh.st fh.az fh.add fh.F fh.out
def fh.call:fh.D->Option fh.X:=bX fh.E fh.st
theorem fh.run:b8 fh.call fh.az fh.add fh.F:=dv (du [.d ti] λ_=>by kernel_rfl)
def fh.sg:SG Tryz.prog:=⟨145,aP,fh.E,.fn 0 (by kernel_rfl) fh.ok trivial⟩
abbrev jn.D:=Int×Int
def jn.st:jn.D->SA:=λ(a,b)=>([.d ti a,.d ti b],[])
abbrev jn.Y:=Int×Bool
abbrev jn.X:=Int×Bool
def jn.out:jn.X->aX:=λx=>⟨.cons (.d ti x.1) (.cons (.d .bool x.2) (.nil)),[],[]⟩
def jn.add:jn.D->jn.Y->jn.X:=λ(a,b) y=>y
def jn.az:jn.D->Prop:=λ_=>True
def jn.F:jn.D->jn.Y:=λ(a,b)=>(bif tS a b then a+b else 0,tS a b)
def jn.G:fD:=gr (P:=Tryz.prog) [fh.sg]
def jn.an:fR:= {}
def jn.A:= @dm Tryz.prog jn.G jn.an 0 Tryz.f104 _ jn.st
abbrev jn.Ok:=dn @jn.A jn.az jn.add jn.F jn.out
theorem jn.eq{R:Type}(a:Int)(b:Int)(k:aX->Option R):jn.A (a,b) k=
  ah (fh.call a) λx1=>
  aJ ((!x1)) (
   k (jn.out ((0:Int),false))) (
   ah (fh.call b) λx2=>
   aJ ((!x2)) (
    k (jn.out ((0:Int),false))) (
    aJ ((sh a (cY .i64 (1125899906842624:Int) b))) (
     k (jn.out ((0:Int),false))) (
     k (jn.out ((bV .i64 a b),true))))):=by kernel_rfl
theorem jn.ok:jn.Ok:=by
 rintro⟨a,b⟩ _
 rw[jn.eq,fh.run (d:=a) trivial,fh.run (d:=b) trivial]
 simp only[ab,fh.add,fh.F,jn.add,jn.F,tS]
 cases ha:tx a
 ·rfl
 ·cases hb:tx b
  ·rfl
  ·simp only[tx,decide_eq_true_eq]at ha hb
   simp only[bZ,ai,cr]
   rw[gQ (by omega) (by omega)]
   by_cases h:a+b<=1125899906842624
   ·rw[dY (by omega),ai,aM h,ff (by omega) (by omega)];rfl
   ·rw[fE (by omega),ae,cq h];rfl
def jn.E:=Entry.dp [some ti,some ti] jn.st jn.az jn.add jn.F jn.out
def jn.call:jn.D->Option jn.X:=bX jn.E jn.st
theorem jn.run:b8 jn.call jn.az jn.add jn.F:=dv (du [.d ti,.d ti] λ_=>by kernel_rfl)
def jn.sg:SG Tryz.prog:=⟨104,aP,jn.E,.fn 0 (by kernel_rfl) jn.ok trivial⟩
abbrev aC.L0.D:=je×(List kX)×Int×Int×(List (iF×Bool))
def aC.L0.st:aC.L0.D->AS:=λ(wu,t33,t34,t35,SL)=>⟨([.undef,.gE lS wu,.undef,.lb (.new 31 0) 0]++bG 29 ([.d (.slice kW) t33,.d ti t34,.d ti t35]++bG 52 [])),[],(dh 31 ([[.obj 0 false (.mp ir .bool SL)]]++dh 56 []))⟩
abbrev aC.L0.Y0:=Unit
abbrev aC.L0.X0:=Unit
def aC.L0.bY:aC.L0.X0->Exit×AS:=λx=>(.ret,⟨([.undef,.undef,.d .bool false]++bG 85 []),[],(List.replicate 88 [])⟩)
abbrev aC.L0.Y1:=Unit
abbrev aC.L0.X1:=je
def aC.L0.ko:aC.L0.X1->Exit×AS:=λx=>(.exit 0,⟨([.undef,.gE lS x]++bG 86 []),[],(List.replicate 88 [])⟩)
abbrev aC.L0.X:=(aC.L0.X0)⊕(aC.L0.X1)
abbrev aC.L0.Y:=(aC.L0.Y0)⊕(aC.L0.Y1)
def aC.L0.out:aC.L0.X->Out (Exit×AS):=λx=> .br x.isLeft (.get x.getLeft? λa=> .ok (aC.L0.bY a)) (.get x.getRight? λb=> .ok (aC.L0.ko b))
def aC.L0.add:aC.L0.D->aC.L0.Y->aC.L0.X:=λ(wu,t33,t34,t35,SL) y=>match y with | .inl y=> .inl y | .inr z=> .inr (wu)
abbrev aC.L1.D:=Int×(List kI)×Int×Int
def aC.L1.st:aC.L1.D->AS:=λ(sum,t66,t67,t68)=>⟨(bG 6 ([.d ti sum]++bG 59 ([.d (.slice lH) t66,.d ti t67,.d ti t68]++bG 19 []))),[],(List.replicate 88 [])⟩
abbrev aC.L1.Y0:=Unit
abbrev aC.L1.X0:=Unit
def aC.L1.bY:aC.L1.X0->Exit×AS:=λx=>(.ret,⟨([.undef,.undef,.d .bool false]++bG 85 []),[],(List.replicate 88 [])⟩)
abbrev aC.L1.Y1:=Unit
abbrev aC.L1.X1:=Unit
def aC.L1.ko:aC.L1.X1->Exit×AS:=λx=>(.exit 2,⟨(bG 88 []),[],(List.replicate 88 [])⟩)
abbrev aC.L1.X:=(aC.L1.X0)⊕(aC.L1.X1)
abbrev aC.L1.Y:=(aC.L1.Y0)⊕(aC.L1.Y1)
def aC.L1.out:aC.L1.X->Out (Exit×AS):=λx=> .br x.isLeft (.get x.getLeft? λa=> .ok (aC.L1.bY a)) (.get x.getRight? λb=> .ok (aC.L1.ko b))
def aC.L1.add:aC.L1.D->aC.L1.Y->aC.L1.X:=λ(sum,t66,t67,t68) y=>match y with | .inl y=> .inl y | .inr z=> .inr (z)
abbrev aC.D:=je
def aC.st:aC.D->SA:=λt=>([.d lS t],[])
abbrev aC.Y:=Bool
abbrev aC.X:=Bool
def aC.out:aC.X->aX:=λx=>⟨.d .bool x,[],[]⟩
def aC.add:aC.D->aC.Y->aC.X:=λt y=>y
def aC.L0.az:aC.L0.D->Prop:=λ(t,l,n,i,m)=>l.length<=9223372036854775807/\n=l.length/\∃k:Nat,k<=l.length/\i=k
def aC.L0.F:aC.L0.D->aC.L0.Y:=λ(t,l,n,i,m)=>if tE m (l.drop i.toNat) then .inr () else .inl ()
def aC.L1.az:aC.L1.D->Prop:=λ(s,l,n,i)=>(∀o∈l,uq o.2.1)/\l.length<=9223372036854775807/\n=l.length/\∃k:Nat,k<=l.length/\i=k
def aC.L1.F:aC.L1.D->aC.L1.Y:=λ(s,l,n,i)=>if qh s (l.drop i.toNat) then .inr () else .inl ()
def aC.az:aC.D->Prop:=λt=>Ur t
def aC.F:aC.D->aC.Y:=λt=>j9 t
def aC.G:fD:=gr (P:=Tryz.prog) [jx.sg,jn.sg,bk.sg]
def aC.L0.E:=cU.dp aC.L0.st aC.L0.az aC.L0.add aC.L0.F aC.L0.out
def aC.L0.call:aC.L0.D->Option aC.L0.X:=eI aC.L0.E aC.L0.st
def aC.L1.E:=cU.dp aC.L1.st aC.L1.az aC.L1.add aC.L1.F aC.L1.out
def aC.L1.call:aC.L1.D->Option aC.L1.X:=eI aC.L1.E aC.L1.st
def aC.an:fR:= {loops:=om [(5,{bO:=[1,3,33,34,35],sites:=[31]}),(13,{bO:=[6,66,67,68]})],outs:=oh [(5,{bO:=[1]},{bO:=[2]}),(13,{},{bO:=[2]})],jo:=pb [(5,aC.L0.E),(13,aC.L1.E)]}
def aC.A:= @dm Tryz.prog aC.G aC.an 0 Tryz.f50 _ aC.st
abbrev aC.Ok:=dn @aC.A aC.az aC.add aC.F aC.out
def aC.L0.R:= @dr Tryz.prog aC.G aC.an 0 Tryz.f50 0 _ aC.L0.st
abbrev aC.L0.Ok:=gz Tryz.prog aC.G aC.an 0 Tryz.f50 0 aC.L0.st aC.L0.az aC.L0.add aC.L0.F aC.L0.out
def aC.L1.R:= @dr Tryz.prog aC.G aC.an 0 Tryz.f50 1 _ aC.L1.st
abbrev aC.L1.Ok:=gz Tryz.prog aC.G aC.an 0 Tryz.f50 1 aC.L1.st aC.L1.az aC.L1.add aC.L1.F aC.L1.out
theorem aC.L0.run:b8 aC.L0.call aC.L0.az aC.L0.add aC.L0.F:=gR (gJ [.d lS,.d (.slice kW),.d ti,.d ti,.d (.slice (.pair ir .bool))] λ_=>by kernel_rfl)
theorem aC.L0.aI:rV @aC.L0.R aC.L0.st aC.L0.az aC.L0.add aC.L0.F aC.L0.out aC.L0.Ok:=sy
theorem aC.L0.step{R:Type}(wu:je)(t33:(List kX))(t34:Int)(t35:Int)(SL:(List (iF×Bool)))(kn:AS->Option R)(kx:Exit->AS->Option R):aC.L0.R (wu,t33,t34,t35,SL) kn kx=
  aJ ((jM t35 t34)) (
   aJ (fB t35 (((List.length t33):Nat):Int)) (
   aJ (((fv ir (nth kW t33 (Int.toNat t35)).1 SL).getD false)) (
    kx (aC.L0.bY ()).1 (aC.L0.bY ()).2) (
    aJ ((jM (nth kW t33 (Int.toNat t35)).1.2.1 (0:Int))) (
     kx (aC.L0.bY ()).1 (aC.L0.bY ()).2) (
     aJ ((qu (nth kW t33 (Int.toNat t35)).1.2.1 (64:Int))) (
      kx (aC.L0.bY ()).1 (aC.L0.bY ()).2) (
      ah (jx.call (nth kW t33 (Int.toNat t35)).2.1) λx8=>
      aJ ((!x8)) (
       kx (aC.L0.bY ()).1 (aC.L0.bY ()).2) (
       kn (aC.L0.st (wu,t33,t34,(bV .i64 t35 (1:Int)),(lv ir (nth kW t33 (Int.toNat t35)).1 true SL)))))))) none) (
   kx (aC.L0.ko wu).1 (aC.L0.ko wu).2):=by kernel_rfl
theorem aC.L1.run:b8 aC.L1.call aC.L1.az aC.L1.add aC.L1.F:=gR (gJ [.d ti,.d (.slice lH),.d ti,.d ti] λ_=>by kernel_rfl)
theorem aC.L1.aI:rV @aC.L1.R aC.L1.st aC.L1.az aC.L1.add aC.L1.F aC.L1.out aC.L1.Ok:=sy
theorem aC.L1.step{R:Type}(sum:Int)(t66:(List kI))(t67:Int)(t68:Int)(kn:AS->Option R)(kx:Exit->AS->Option R):aC.L1.R (sum,t66,t67,t68) kn kx=
  aJ ((jM t68 t67)) (
   aJ (fB t68 (((List.length t66):Nat):Int)) (
   ah (jn.call (sum,(nth lH t66 (Int.toNat t68)).1)) λBi=>
   aJ ((!Bi.2)) (
    kx (aC.L1.bY ()).1 (aC.L1.bY ()).2) (
    ah (bk.call (nth lH t66 (Int.toNat t68)).2.1) λDk=>
    aJ ((!Dk)) (
     kx (aC.L1.bY ()).1 (aC.L1.bY ()).2) (
     kn (aC.L1.st (Bi.1,t66,t67,(bV .i64 t68 (1:Int))))))) none) (
   kx (aC.L1.ko ()).1 (aC.L1.ko ()).2):=by kernel_rfl
theorem aC.eq{R:Type}(t:je)(k:aX->Option R):aC.A t k=
  aJ ((jM (((List.length t.1):Nat):Int) (1:Int))) (
   k (aC.out false)) (
   aJ ((sh (((List.length t.1):Nat):Int) (64:Int))) (
    k (aC.out false)) (
    aJ ((sh (((List.length t.2.1):Nat):Int) (64:Int))) (
     k (aC.out false)) (
     aJ ((jM t.2.2.1 (0:Int))) (
      k (aC.out false)) (
      ah (aC.L0.call (t,t.1,(((List.length t.1):Nat):Int),(0:Int),([]:List (iF×Bool)))) λDk=>
      aJ (Dk.isLeft) (
       ah (Dk.getLeft?) λa13=>
       k (aC.out false)) (
       ah (Dk.getRight?) λb14=>
       ah (aC.L1.call ((0:Int),b14.2.1,(((List.length b14.2.1):Nat):Int),(0:Int))) λF0=>
       aJ (F0.isLeft) (
        ah (F0.getLeft?) λa31=>
        k (aC.out false)) (
        ah (F0.getRight?) λb32=>
        k (aC.out true))))))):=by kernel_rfl
theorem aC.L0.ok:aC.L0.Ok:=by
 refine aC.L0.aI (λ(t,l,n,i,m)=>l.length - i.toNat) ?_
 rintro⟨t,l,n,i,m⟩ ⟨hb,rfl,k,hk,rfl⟩
 have hb:l.length<=9223372036854775807:=hb
 have hk:k<=l.length:=hk
 by_cases h:k < l.length
 ·have n1:nth kW l k=l[k]:=dQ (t:=kW) h
  have hd:tE m (l.drop k)=((!(xi m l[k]) && zI l[k]) && tE (lv ir l[k].1 true m) (l.drop (k+1))):=by rw[av h];rfl
  have step:∀ {R:Type} (kn:AS->Option R) (kx:Exit->AS->Option R),aC.L0.R (t,l,(l.length:Int),(k:Int),m) kn kx=aJ (!(xi m l[k]) && zI l[k]) (kn (aC.L0.st (t,l,(l.length:Int),((k+1:Nat):Int),lv ir l[k].1 true m))) (kx (aC.L0.bY ()).1 (aC.L0.bY ()).2):=by
   intro R kn kx
   rw[aC.L0.step,bI (by omega),bF (by omega) (by omega),aa,n1,N.pF (by omega),jx.run (d:=l[k].2.1) trivial]
   simp only[ae,ab,jx.add,jx.F]
   have e:(fv ir l[k].1 m).getD false=xi m l[k]:=rfl
   rw[e]
   cases xi m l[k]
   ·simp only[gm,cr,ai,zI]
    by_cases h1:l[k].1.2.1 < 0
    ·rw[bI h1,ae,cq (λx=>by omega)];rfl
    ·rw[bp h1,ai]
     by_cases h2:64<=l[k].1.2.1
     ·rw[la h2,ae,cq (λx=>by omega)];rfl
     ·rw[jg h2,ai,aM ⟨by omega,by omega⟩]
      cases uk l[k].2.1 <;> rfl
   ·rfl
  cases hp:(!(xi m l[k]) && zI l[k])
  ·right
   refine⟨aC.L0.bY (),?_,λkn kx=> ?_⟩
   ·simp only[aC.L0.add,aC.L0.F,aa,hd,hp,fN,cD,if_false]
    rfl
   ·rw[step,hp,ai]
  ·left
   refine⟨(t,l,l.length,((k+1:Nat):Int),lv ir l[k].1 true m),⟨hb,rfl,k+1,by omega,rfl⟩,by simp only[aa];omega,?_,λkn kx=> ?_⟩
   ·simp only[aC.L0.add,aC.L0.F,aa,hd,hp,cr]
   ·rw[step,hp,ae]
 ·right
  obtain rfl:k=l.length:=by omega
  refine⟨aC.L0.ko t,?_,λkn kx=> ?_⟩
  ·simp only[aC.L0.add,aC.L0.F,aa,bB]
   rfl
  ·rw[aC.L0.step]
   simp(disch:=omega) only[↓S1,↓if_pos,↓if_neg,if_pos,if_neg,if_true,if_false,S2]
theorem aC.L1.ok:aC.L1.Ok:=by
 refine aC.L1.aI (λ(s,l,n,i)=>l.length - i.toNat) ?_
 rintro⟨s,l,n,i⟩ ⟨hl,hb,rfl,k,hk,rfl⟩
 have hb:l.length<=9223372036854775807:=hb
 have hk:k<=l.length:=hk
 by_cases h:k < l.length
 ·have hx:uq l[k].2.1:=hl _ (List.getElem_mem h)
  have n1:nth lH l k=l[k]:=dQ (t:=lH) h
  have hd:qh s (l.drop k)=((tS s l[k].1 && lj l[k].2.1) && qh (s+l[k].1) (l.drop (k+1))):=by rw[av h];rfl
  have step:∀ {R:Type} (kn:AS->Option R) (kx:Exit->AS->Option R),aC.L1.R (s,l,(l.length:Int),(k:Int)) kn kx=aJ (tS s l[k].1 && lj l[k].2.1) (kn (aC.L1.st (s+l[k].1,l,(l.length:Int),((k+1:Nat):Int)))) (kx (aC.L1.bY ()).1 (aC.L1.bY ()).2):=by
   intro R kn kx
   rw[aC.L1.step,bI (by omega),bF (by omega) (by omega),aa,n1,N.pF (by omega),jn.run (d:=(s,l[k].1)) trivial,bk.run (d:=l[k].2.1) hx]
   simp only[ae,ab,jn.add,jn.F,bk.add,bk.F]
   cases tS s l[k].1
   ·rfl
   ·cases lj l[k].2.1 <;> rfl
  cases hp:(tS s l[k].1 && lj l[k].2.1)
  ·right
   refine⟨aC.L1.bY (),?_,λkn kx=> ?_⟩
   ·simp only[aC.L1.add,aC.L1.F,aa,hd,hp,fN,cD,if_false]
    rfl
   ·rw[step,hp,ai]
  ·left
   refine⟨(s+l[k].1,l,l.length,((k+1:Nat):Int)),⟨hl,hb,rfl,k+1,by omega,rfl⟩,by simp only[aa];omega,?_,λkn kx=> ?_⟩
   ·simp only[aC.L1.add,aC.L1.F,aa,hd,hp,cr]
   ·rw[step,hp,ae]
 ·right
  obtain rfl:k=l.length:=by omega
  refine⟨aC.L1.ko (),?_,λkn kx=> ?_⟩
  ·simp only[aC.L1.add,aC.L1.F,aa,bB]
   rfl
  ·rw[aC.L1.step]
   simp(disch:=omega) only[↓S1,↓if_pos,↓if_neg,if_pos,if_neg,if_true,if_false,S2]
theorem aC.ok:aC.Ok:=by
 rintro⟨is,os,nt,u⟩ ⟨hl,h1,h2⟩
 have h1:is.length<=9223372036854775807:=h1
 have h2:os.length<=9223372036854775807:=h2
 rw[aC.eq,aC.L0.run (d:=((is,os,nt,u),is,is.length,0,[])) ⟨h1,rfl,0,by omega,rfl⟩]
 simp only[ab,aC.L0.add,aC.L0.F,bH,aW,aC.add,aC.F,j9,yc]
 by_cases a1:is.length < 1
 ·rw[bI (by omega),ae,cq (λx=>by omega)];rfl
 rw[bp (by omega),ai]
 by_cases a2:64 < is.length
 ·rw[fE (by omega),ae,cq (λx=>by omega)];rfl
 rw[dY (by omega),ai]
 by_cases a3:64 < os.length
 ·rw[fE (by omega),ae,cq (λx=>by omega)];rfl
 rw[dY (by omega),ai]
 by_cases a4:nt < 0
 ·rw[bI (by omega),ae,cq (λx=>by omega)];rfl
 rw[bp (by omega),ai,aM ⟨by omega,by omega,by omega,by omega⟩]
 cases tE [] is
 ·rfl
 ·simp only[if_true,cr]
  show ah (aC.L1.call (0,os,(os.length:Int),0)) _=_
  rw[aC.L1.run (d:=(0,os,os.length,0)) ⟨hl,h2,rfl,0,by omega,rfl⟩]
  simp only[ab,aC.L1.add,aC.L1.F,bH,aW]
  cases qh 0 os <;> rfl
def aC.E:=Entry.dp [some lS] aC.st aC.az aC.add aC.F aC.out
def aC.call:aC.D->Option aC.X:=bX aC.E aC.st
theorem aC.run:b8 aC.call aC.az aC.add aC.F:=dv (du [.d lS] λ_=>by kernel_rfl)
def aC.sg:SG Tryz.prog:=⟨50,aP,aC.E,.fn 2 (by kernel_rfl) aC.ok (And.intro (.dp aC.L0.ok (by kernel_rfl)) (And.intro (.dp aC.L1.ok (by kernel_rfl)) trivial))⟩
abbrev dV.D:=Bs
def dV.st:dV.D->SA:=λsv=>([.d tU sv],[])
abbrev dV.Y:=Bs
abbrev dV.X:=Bs
def dV.out:dV.X->aX:=λx=>⟨.d tU x,[],[]⟩
def dV.add:dV.D->dV.Y->dV.X:=λsv y=>y
def dV.az:dV.D->Prop:=λl=>l.length<=1000000
def dV.F:dV.D->dV.Y:=λl=>l
def dV.G:fD:=gr (P:=Tryz.prog) []
def dV.an:fR:= {cZ:=[5],res:=[some tU]}
def dV.A:= @dm Tryz.prog dV.G dV.an 0 Tryz.f98 _ dV.st
abbrev dV.Ok:=dn @dV.A dV.az dV.add dV.F dV.out
theorem dV.eq{R:Type}(sv:Bs)(k:aX->Option R):dV.A sv k=
  aJ (decide (0 < (List.length sv))) (
   aJ (fq (0+(List.length sv)) 8) (
   aJ (decide (0=0/\(0+(0+(List.length sv)))<=(List.length ((List.take 0 (List.replicate 0 (0:Int)))++sv)))) (
   k (dV.out (cut ((List.take 0 (List.replicate 0 (0:Int)))++sv) 0 (0+(List.length sv))))) none) none) (
   nd (
    k (dV.out ([]:List Int))) (
    aJ (fq (0+(List.length sv)) 8) (
    aJ (decide (0=0/\(0+(0+(List.length sv)))<=(List.length ((List.take 0 (List.replicate 0 (0:Int)))++sv)))) (
    k (dV.out (cut ((List.take 0 (List.replicate 0 (0:Int)))++sv) 0 (0+(List.length sv))))) none) none)):=by kernel_rfl
theorem dV.ok:dV.Ok:=by
 intro l hl
 have hl:l.length<=1000000:=hl
 have hr:fq l.length 8=true:=gk (by omega) (by omega)
 have e0:(List.take 0 (List.replicate 0 0):List Int)=[]:=rfl
 rw[dV.eq]
 simp only[bl,hr,ae,e0,bt,aE,and_self,decide_true,jf,dV.add,dV.F]
 by_cases h:0 < l.length
 ·simp only[aM h,ae]
 ·have:l=[]:=dd (by omega)
  subst this
  simp only[bM,wR,cq (nf 0),ai]
def dV.E:=Entry.dp [some tU] dV.st dV.az dV.add dV.F dV.out
def dV.call:dV.D->Option dV.X:=bX dV.E dV.st
theorem dV.run:b8 dV.call dV.az dV.add dV.F:=dv (du [.d tU] λ_=>by kernel_rfl)
def dV.sg:SG Tryz.prog:=⟨98,aP,dV.E,.fn 0 (by kernel_rfl) dV.ok trivial⟩
def sX(l:List Int):Lk:=([(l,0,0,0,())],())
def Az(own rev delay:Int):Lk:=([([rev],0,0,0,()),([own],0,delay,0,())],())
def uv(own:Int):Lk:=([([own],0,0,0,()),([],0,16,0,())],())
abbrev j7.D:=Bs
def j7.st:j7.D->SA:=λl=>([.d tU l],[])
abbrev j7.Y:=Lk
abbrev j7.X:=Lk
def j7.out:j7.X->aX:=λx=>⟨.d qS x,[],[]⟩
def j7.add:j7.D->j7.Y->j7.X:=λl y=>y
def j7.az:j7.D->Prop:=λl=>l.length<=1000000
def j7.F:j7.D->j7.Y:=λl=>sX l
def j7.G:fD:=gr (P:=Tryz.prog) [dV.sg]
def j7.an:fR:= {}
def j7.A:= @dm Tryz.prog j7.G j7.an 0 Tryz.f44 _ j7.st
abbrev j7.Ok:=dn @j7.A j7.az j7.add j7.F j7.out
theorem j7.eq{R:Type}(l:Bs)(k:aX->Option R):j7.A l k=
 ah (dV.call l) λx1=>
 k (j7.out ([(x1,((0:Int),((0:Int),((0:Int),()))))],())):=by kernel_rfl
theorem j7.ok:j7.Ok:=by
 intro l hl
 rw[j7.eq,dV.run (d:=l) hl]
 rfl
def j7.E:=Entry.dp [some tU] j7.st j7.az j7.add j7.F j7.out
def j7.call:j7.D->Option j7.X:=bX j7.E j7.st
theorem j7.run:b8 j7.call j7.az j7.add j7.F:=dv (du [.d tU] λ_=>by kernel_rfl)
def j7.sg:SG Tryz.prog:=⟨44,aP,j7.E,.fn 0 (by kernel_rfl) j7.ok trivial⟩
abbrev jG.D:=Int
def jG.st:jG.D->SA:=λp=>([.d tu p],[])
abbrev jG.Y:=Lk
abbrev jG.X:=Lk
def jG.out:jG.X->aX:=λx=>⟨.d qS x,[],[]⟩
def jG.add:jG.D->jG.Y->jG.X:=λp y=>y
def jG.az:jG.D->Prop:=λ_=>True
def jG.F:jG.D->jG.Y:=λp=>sX [p]
def jG.G:fD:=gr (P:=Tryz.prog) [j7.sg]
def jG.an:fR:= {}
def jG.A:= @dm Tryz.prog jG.G jG.an 0 Tryz.f17 _ jG.st
abbrev jG.Ok:=dn @jG.A jG.az jG.add jG.F jG.out
theorem jG.eq{R:Type}(p:Int)(k:aX->Option R):jG.A p k=
 ah (j7.call [p]) λx1=>
 k (jG.out x1):=by kernel_rfl
theorem jG.ok:jG.Ok:=by
 intro p _
 rw[jG.eq,j7.run (d:=[p]) (by show [p].length<=_;simp)]
 rfl
def jG.E:=Entry.dp [some tu] jG.st jG.az jG.add jG.F jG.out
def jG.call:jG.D->Option jG.X:=bX jG.E jG.st
theorem jG.run:b8 jG.call jG.az jG.add jG.F:=dv (du [.d tu] λ_=>by kernel_rfl)
def jG.sg:SG Tryz.prog:=⟨17,aP,jG.E,.fn 0 (by kernel_rfl) jG.ok trivial⟩
abbrev il.D:=Int×Int
def il.st:il.D->SA:=λ(a,b)=>([.d tu a,.d tu b],[])
abbrev il.Y:=Lk
abbrev il.X:=Lk
def il.out:il.X->aX:=λx=>⟨.d qS x,[],[]⟩
def il.add:il.D->il.Y->il.X:=λ(a,b) y=>y
def il.az:il.D->Prop:=λ_=>True
def il.F:il.D->il.Y:=λ(p,q)=>sX [p,q]
def il.G:fD:=gr (P:=Tryz.prog) [j7.sg]
def il.an:fR:= {}
def il.A:= @dm Tryz.prog il.G il.an 0 Tryz.f100 _ il.st
abbrev il.Ok:=dn @il.A il.az il.add il.F il.out
theorem il.eq{R:Type}(a:Int)(b:Int)(k:aX->Option R):il.A (a,b) k=
 ah (j7.call [a,b]) λx1=>
 k (il.out x1):=by kernel_rfl
theorem il.ok:il.Ok:=by
 rintro⟨p,q⟩ _
 rw[il.eq,j7.run (d:=[p,q]) (by show [p,q].length<=_;simp)]
 rfl
def il.E:=Entry.dp [some tu,some tu] il.st il.az il.add il.F il.out
def il.call:il.D->Option il.X:=bX il.E il.st
theorem il.run:b8 il.call il.az il.add il.F:=dv (du [.d tu,.d tu] λ_=>by kernel_rfl)
def il.sg:SG Tryz.prog:=⟨100,aP,il.E,.fn 0 (by kernel_rfl) il.ok trivial⟩
abbrev im.D:=Int×Int×Int
def im.st:im.D->SA:=λ(own,rev,delay)=>([.d tu own,.d tu rev,.d ti delay],[])
abbrev im.Y:=Lk
abbrev im.X:=Lk
def im.out:im.X->aX:=λx=>⟨.d qS x,[],[]⟩
def im.add:im.D->im.Y->im.X:=λ(own,rev,delay) y=>y
def im.az:im.D->Prop:=λ_=>True
def im.F:im.D->im.Y:=λ(o,r,d)=>Az o r d
def im.G:fD:=gr (P:=Tryz.prog) []
def im.an:fR:= {}
def im.A:= @dm Tryz.prog im.G im.an 0 Tryz.f82 _ im.st
abbrev im.Ok:=dn @im.A im.az im.add im.F im.out
theorem im.eq{R:Type}(own:Int)(rev:Int)(delay:Int)(k:aX->Option R):im.A (own,rev,delay) k=
 k (im.out ([([rev],((0:Int),((0:Int),((0:Int),())))),([own],((0:Int),(delay,((0:Int),()))))],())):=by kernel_rfl
theorem im.ok:im.Ok:=by
 rintro⟨o,r,d⟩ _
 rw[im.eq]
 rfl
def im.E:=Entry.dp [some tu,some tu,some ti] im.st im.az im.add im.F im.out
def im.call:im.D->Option im.X:=bX im.E im.st
theorem im.run:b8 im.call im.az im.add im.F:=dv (du [.d tu,.d tu,.d ti] λ_=>by kernel_rfl)
def im.sg:SG Tryz.prog:=⟨82,aP,im.E,.fn 0 (by kernel_rfl) im.ok trivial⟩
abbrev dG.D:=Int
def dG.st:dG.D->SA:=λown=>([.d tu own],[])
abbrev dG.Y:=Lk
abbrev dG.X:=Lk
def dG.out:dG.X->aX:=λx=>⟨.d qS x,[],[]⟩
def dG.add:dG.D->dG.Y->dG.X:=λown y=>y
def dG.az:dG.D->Prop:=λ_=>True
def dG.F:dG.D->dG.Y:=λo=>uv o
def dG.G:fD:=gr (P:=Tryz.prog) []
def dG.an:fR:= {}
def dG.A:= @dm Tryz.prog dG.G dG.an 0 Tryz.f83 _ dG.st
abbrev dG.Ok:=dn @dG.A dG.az dG.add dG.F dG.out
theorem dG.eq{R:Type}(own:Int)(k:aX->Option R):dG.A own k=
 k (dG.out ([([own],((0:Int),((0:Int),((0:Int),())))),(([]:List Int),((0:Int),((16:Int),((0:Int),()))))],())):=by kernel_rfl
theorem dG.ok:dG.Ok:=by
 intro o _
 rw[dG.eq]
 rfl
def dG.E:=Entry.dp [some tu] dG.st dG.az dG.add dG.F dG.out
def dG.call:dG.D->Option dG.X:=bX dG.E dG.st
theorem dG.run:b8 dG.call dG.az dG.add dG.F:=dv (du [.d tu] λ_=>by kernel_rfl)
def dG.sg:SG Tryz.prog:=⟨83,aP,dG.E,.fn 0 (by kernel_rfl) dG.ok trivial⟩
def rS(o:List Int)(ks:List Int):List Int:=ks.foldl (λo p=>o++mn p) o
def QQ(o:List Int)(b:ov):List Int:=jQ (jQ (rS (jQ o b.1.length) b.1) b.2.1) b.2.2.1++mn b.2.2.2.1
def Nj(l:Lk):List Int:=if lj l then l.1.foldl QQ (jQ [] l.1.length) else []
theorem zP:∀(ks:List Int) (o:List Int),(rS o ks).length=o.length+8*ks.length
 |[],o=>rfl
 |k::ks,o=>by
  show(rS (o++mn k) ks).length=_
  rw[zP ks,aj,dO,aO];omega
theorem JG(o:List Int)(b:ov)(h:b.1.length<=12):(QQ o b).length<=o.length+200:=by
 unfold QQ
 have h1:=ld o b.1.length
 have h2:=zP b.1 (jQ o b.1.length)
 have h3:=ld (rS (jQ o b.1.length) b.1) b.2.1
 have h4:=ld (jQ (rS (jQ o b.1.length) b.1) b.2.1) b.2.2.1
 rw[aj,dO];omega
def OI(n:Int):Prop:=n<=9223372036854775807
def Un(b:ov):Prop:=b.1.length<=12/\OI b.2.1/\OI b.2.2.1
theorem QR{b:ov}(h:rG b=true):Un b:=by
 unfold rG zG at h
 simp only[ak,decide_eq_true_eq]at h
 obtain⟨h1,_,h2,h3,_⟩:=h
 exact⟨h1,by unfold OI;omega,by unfold OI;omega⟩
theorem IT(o:List Int)(ks:List Int)(k:Nat)(h:k < ks.length):rS o (ks.drop k)=rS (o++mn ks[k]) (ks.drop (k+1)):=by rw[av h];rfl
abbrev aR.L0.D:=Bs×(List ov)×Int×Int
def aR.L0.st:aR.L0.D->AS:=λ(outv,t16,t17,t18)=>⟨([.undef,.undef,.undef,.d tB outv]++bG 12 ([.d (.slice mC) t16,.d ti t17,.d ti t18]++bG 31 [])),[],(List.replicate 50 [])⟩
abbrev aR.L0.Y0:=Bs
abbrev aR.L0.X0:=Bs
def aR.L0.bY:aR.L0.X0->Exit×AS:=λx=>(.exit 0,⟨([.undef,.undef,.undef,.d tB x]++bG 46 []),[],(List.replicate 50 [])⟩)
abbrev aR.L0.X:=aR.L0.X0
abbrev aR.L0.Y:=aR.L0.Y0
def aR.L0.out:aR.L0.X->Out (Exit×AS):=λx=> .ok (aR.L0.bY x)
def aR.L0.add:aR.L0.D->aR.L0.Y->aR.L0.X:=λ(outv,t16,t17,t18) y=>y
abbrev aR.L1.D:=Bs×(List ov)×Int×Int×Bs×Int×Int×ov
def aR.L1.st:aR.L1.D->AS:=λ(xQ,AZ,A0,A1,t28,t29,t30,n5)=>⟨([.undef,.undef,.undef,.d tB xQ,.undef,.ptr (.new 5 0) 0 [] 0]++bG 10 ([.d (.slice mC) AZ,.d ti A0,.d ti A1]++bG 9 ([.d tU t28,.d ti t29,.d ti t30]++bG 19 []))),[],(dh 5 ([[.obj 0 false (.d mC n5)]]++dh 44 []))⟩
abbrev aR.L1.Y0:=Bs
abbrev aR.L1.X0:=((List ov)×Int×Int×ov)×(Bs)
def aR.L1.bY:aR.L1.X0->Exit×AS:=λx=>(.exit 2,⟨([.undef,.undef,.undef,.d tB x.2,.undef,.ptr (.new 5 0) 0 [] 0]++bG 10 ([.d (.slice mC) x.1.1,.d ti x.1.2.1,.d ti x.1.2.2.1]++bG 31 [])),[],(dh 5 ([[.obj 0 false (.d mC x.1.2.2.2)]]++dh 44 []))⟩)
abbrev aR.L1.X:=aR.L1.X0
abbrev aR.L1.Y:=aR.L1.Y0
def aR.L1.out:aR.L1.X->Out (Exit×AS):=λx=> .ok (aR.L1.bY x)
def aR.L1.add:aR.L1.D->aR.L1.Y->aR.L1.X:=λ(xQ,AZ,A0,A1,t28,t29,t30,n5) y=>((AZ,A0,A1,n5),y)
abbrev aR.D:=Lk
def aR.st:aR.D->SA:=λl=>([.d qS l],[])
abbrev aR.Y:=Bs
abbrev aR.X:=Bs
def aR.out:aR.X->aX:=λx=>⟨.d tB x,[],[]⟩
def aR.add:aR.D->aR.Y->aR.X:=λl y=>y
def aR.L1.az:aR.L1.D->Prop:=λ(o,bs,n,i,ks,m,j,b)=>ks.length<=12/\o.length+8*ks.length<=80000000+8*j.toNat/\m=ks.length/\∃k:Nat,k<=ks.length/\j=k
def aR.L1.F:aR.L1.D->aR.L1.Y:=λ(o,bs,n,i,ks,m,j,b)=>rS o (ks.drop j.toNat)
def aR.L0.az:aR.L0.D->Prop:=λ(o,bs,n,i)=>(∀b∈bs,Un b)/\bs.length<=4/\o.length<=1000+200*i.toNat/\n=bs.length/\∃k:Nat,k<=bs.length/\i=k
def aR.L0.F:aR.L0.D->aR.L0.Y:=λ(o,bs,n,i)=>(bs.drop i.toNat).foldl QQ o
def aR.az:aR.D->Prop:=λl=>LX l/\l.1.length<=9223372036854775807
def aR.F:aR.D->aR.Y:=λl=>Nj l
def aR.G:fD:=gr (P:=Tryz.prog) [bk.sg,gD.sg,gO.sg]
def aR.L0.E:=cU.dp aR.L0.st aR.L0.az aR.L0.add aR.L0.F aR.L0.out
def aR.L0.call:aR.L0.D->Option aR.L0.X:=eI aR.L0.E aR.L0.st
def aR.L1.E:=cU.dp aR.L1.st aR.L1.az aR.L1.add aR.L1.F aR.L1.out
def aR.L1.call:aR.L1.D->Option aR.L1.X:=eI aR.L1.E aR.L1.st
def aR.an:fR:= {loops:=om [(5,{bO:=[3,16,17,18]}),(9,{bO:=[3,5,16,17,18,28,29,30],sites:=[5]})],outs:=oh [(5,{bO:=[3]},{bO:=[2]}),(9,{bO:=[3,5,16,17,18],sites:=[5]},{bO:=[2]})],jo:=pb [(5,aR.L0.E),(9,aR.L1.E)],res:=[some tB]}
def aR.A:= @dm Tryz.prog aR.G aR.an 0 Tryz.f110 _ aR.st
abbrev aR.Ok:=dn @aR.A aR.az aR.add aR.F aR.out
def aR.L0.R:= @dr Tryz.prog aR.G aR.an 0 Tryz.f110 0 _ aR.L0.st
abbrev aR.L0.Ok:=gz Tryz.prog aR.G aR.an 0 Tryz.f110 0 aR.L0.st aR.L0.az aR.L0.add aR.L0.F aR.L0.out
def aR.L1.R:= @dr Tryz.prog aR.G aR.an 0 Tryz.f110 1 _ aR.L1.st
abbrev aR.L1.Ok:=gz Tryz.prog aR.G aR.an 0 Tryz.f110 1 aR.L1.st aR.L1.az aR.L1.add aR.L1.F aR.L1.out
theorem aR.L0.run:b8 aR.L0.call aR.L0.az aR.L0.add aR.L0.F:=gR (gJ [.d tB,.d (.slice mC),.d ti,.d ti] λ_=>by kernel_rfl)
theorem aR.L0.aI:jl @aR.L0.R aR.L0.st aR.L0.az aR.L0.add aR.L0.F aR.L0.bY aR.L0.Ok:=js
theorem aR.L0.step{R:Type}(outv:Bs)(t16:(List ov))(t17:Int)(t18:Int)(kn:AS->Option R)(kx:Exit->AS->Option R):aR.L0.R (outv,t16,t17,t18) kn kx=
  aJ ((jM t18 t17)) (
   aJ (fB t18 (((List.length t16):Nat):Int)) (
   ah (gD.call (outv,(((List.length (nth mC t16 (Int.toNat t18)).1):Nat):Int))) λx1=>
   ah (aR.L1.call (x1,t16,t17,t18,(nth mC t16 (Int.toNat t18)).1,(((List.length (nth mC t16 (Int.toNat t18)).1):Nat):Int),(0:Int),(nth mC t16 (Int.toNat t18)))) λx2=>
   ah (gD.call (x2.2,x2.1.2.2.2.2.1)) λx3=>
   ah (gD.call (x3,x2.1.2.2.2.2.2.1)) λx4=>
   ah (gO.call (x4,x2.1.2.2.2.2.2.2.1)) λx5=>
   kn (aR.L0.st (x5,x2.1.1,x2.1.2.1,(bV .i64 x2.1.2.2.1 (1:Int))))) none) (
   kx (aR.L0.bY outv).1 (aR.L0.bY outv).2):=by kernel_rfl
theorem aR.L1.run:b8 aR.L1.call aR.L1.az aR.L1.add aR.L1.F:=gR (gJ [.d tB,.d (.slice mC),.d ti,.d ti,.d tU,.d ti,.d ti,.d mC] λ_=>by kernel_rfl)
theorem aR.L1.aI:jl @aR.L1.R aR.L1.st aR.L1.az aR.L1.add aR.L1.F aR.L1.bY aR.L1.Ok:=js
theorem aR.L1.step{R:Type}(xQ:Bs)(AZ:(List ov))(A0:Int)(A1:Int)(t28:Bs)(t29:Int)(t30:Int)(n5:ov)(kn:AS->Option R)(kx:Exit->AS->Option R):aR.L1.R (xQ,AZ,A0,A1,t28,t29,t30,n5) kn kx=
  aJ ((jM t30 t29)) (
   aJ (fB t30 (((List.length t28):Nat):Int)) (
   ah (gO.call (xQ,(nth tu t28 (Int.toNat t30)))) λx1=>
   kn (aR.L1.st (x1,AZ,A0,A1,t28,t29,(bV .i64 t30 (1:Int)),n5))) none) (
   kx (aR.L1.bY ((AZ,A0,A1,n5),xQ)).1 (aR.L1.bY ((AZ,A0,A1,n5),xQ)).2):=by kernel_rfl
theorem aR.eq{R:Type}(l:Lk)(k:aX->Option R):aR.A l k=
  ah (bk.call l) λx1=>
  aJ ((!x1)) (
   k (aR.out ([]:List Int))) (
   ah (gD.call (([]:List Int),(((List.length l.1):Nat):Int))) λx2=>
   ah (aR.L0.call (x2,l.1,(((List.length l.1):Nat):Int),(0:Int))) λx9=>
   k (aR.out x9)):=by kernel_rfl
theorem aR.L1.ok:aR.L1.Ok:=by
 refine aR.L1.aI (λ(o,bs,n,i,ks,m,j,b)=>ks.length - j.toNat) ?_
 rintro⟨o,bs,n,i,ks,m,j,b⟩ ⟨Rs,hl,rfl,k,hk,rfl⟩
 have Rs:ks.length<=12:=Rs
 have hk:k<=ks.length:=hk
 have hl:o.length+8*ks.length<=80000000+8*(k:Int).toNat:=hl
 rw[aa]at hl
 by_cases h:k < ks.length
 ·left
  have n1:nth (.int .u64) ks k=ks[k]:=dQ (t:= .int .u64) h
  refine⟨(o++mn ks[k],bs,n,i,ks,ks.length,((k+1:Nat):Int),b),⟨Rs,by rw[aj,dO,aa];omega,rfl,k+1,by omega,rfl⟩,by simp only[aa];omega,?_,λkn kx=> ?_⟩
  ·simp only[aR.L1.add,aR.L1.F,aa]
   rw[IT _ _ _ h]
  ·rw[aR.L1.step]
   simp(disch:=omega) only[↓S1,↓if_pos,↓if_neg,if_pos,if_neg,if_true,if_false,S2,n1]
   rw[gO.run (d:=(o,ks[k])) (by show o.length<=90000000;omega)]
   rfl
 ·right
  obtain rfl:k=ks.length:=by omega
  intro R kn kx
  rw[aR.L1.step]
  simp(disch:=omega) only[↓S1,↓if_pos,↓if_neg,if_pos,if_neg,if_true,if_false,S2,aR.L1.add,aR.L1.F,bB]
  rfl
theorem aR.L0.ok:aR.L0.Ok:=by
 refine aR.L0.aI (λ(o,bs,n,i)=>bs.length - i.toNat) ?_
 rintro⟨o,bs,n,i⟩ ⟨hb,h4,hl,rfl,k,hk,rfl⟩
 have h4:bs.length<=4:=h4
 have hk:k<=bs.length:=hk
 have hl:o.length<=1000+200*(k:Int).toNat:=hl
 rw[aa]at hl
 by_cases h:k < bs.length
 ·left
  have hx:=hb _ (List.getElem_mem h)
  have n1:nth (.pair (.slice (.int .u64)) (.pair (.int .i64) (.pair (.int .i64) (.pair (.int .u64) .unit)))) bs k=bs[k]:=dQ (t:=(.pair (.slice (.int .u64)) (.pair (.int .i64) (.pair (.int .i64) (.pair (.int .u64) .unit))))) h
  have e0:=JG o bs[k] hx.1
  refine⟨(QQ o bs[k],bs,bs.length,((k+1:Nat):Int)),⟨hb,h4,by rw[aa];omega,rfl,k+1,by omega,rfl⟩,by simp only[aa];omega,?_,λkn kx=> ?_⟩
  ·simp only[aR.L0.add,aR.L0.F,aa]
   rw[av h]
   rfl
  ·rw[aR.L0.step,bI (by omega),bF (by omega) (by omega),aa,n1]
   obtain⟨⟨ks,af,dl,sc,u⟩,O7⟩:∃b,bs[k]=b:=⟨_,rfl⟩
   rw[O7]at hx e0 ⊢
   obtain⟨Tb,ha,hd⟩:=hx
   have Tb:ks.length<=12:=Tb
   have ha:af<=9223372036854775807:=ha
   have hd:dl<=9223372036854775807:=hd
   have l1:=ld o ks.length
   have l2:=zP ks (jQ o ks.length)
   have l3:=ld (rS (jQ o ks.length) ks) af
   have l4:=ld (jQ (rS (jQ o ks.length) ks) af) dl
   simp only[ae]
   rw[gD.run (d:=(o,(ks.length:Int))) ⟨by show o.length<=90000000;omega,by show(ks.length:Int)<=9223372036854775807;omega⟩]
   simp only[ab,gD.add,gD.F]
   rw[aR.L1.run (d:=(jQ o ks.length,bs,bs.length,k,ks,ks.length,0,(ks,af,dl,sc,u))) ⟨Tb,by show(jQ o ks.length).length+8*ks.length<=_;omega,rfl,0,by omega,rfl⟩]
   simp only[ab,aR.L1.add,aR.L1.F,bH,aW]
   rw[gD.run (d:=(rS (jQ o ks.length) ks,af)) ⟨by show(rS (jQ o ks.length) ks).length<=90000000;omega,ha⟩]
   simp only[ab,gD.add,gD.F]
   rw[gD.run (d:=(jQ (rS (jQ o ks.length) ks) af,dl)) ⟨by show(jQ (rS (jQ o ks.length) ks) af).length<=90000000;omega,hd⟩]
   simp only[ab,gD.add,gD.F]
   rw[gO.run (d:=(jQ (jQ (rS (jQ o ks.length) ks) af) dl,sc)) (by show(jQ (jQ (rS (jQ o ks.length) ks) af) dl).length<=90000000;omega)]
   simp only[ab,gO.add,gO.F]
   rw[N.pF (by omega)]
   rfl
 ·right
  obtain rfl:k=bs.length:=by omega
  intro R kn kx
  rw[aR.L0.step]
  simp(disch:=omega) only[↓S1,↓if_pos,↓if_neg,if_pos,if_neg,if_true,if_false,S2,aR.L0.add,aR.L0.F,bB]
  rfl
theorem Nm{l:Lk}(h:lj l=true):(∀b∈l.1,Un b)/\0 < l.1.length/\l.1.length<=4:=by
 unfold lj at h
 simp only[ak,fC,decide_eq_true_eq]at h
 exact⟨λb hb=>QR (h.1 b hb),h.2⟩
theorem aR.ok:aR.Ok:=by
 rintro l ⟨hl,hb⟩
 have hl:LX l:=hl
 rw[aR.eq,bk.run (d:=l) ⟨hl,hb⟩]
 simp only[ab,bk.add,bk.F,aR.add,aR.F,Nj]
 cases kA:lj l
 ·rfl
 ·obtain⟨h1,h2,h3⟩:=Nm kA
  have l1:=ld [] l.1.length
  have l0:([]:List Int).length=0:=rfl
  simp only[bZ,ai,if_true]
  rw[gD.run (d:=([],(l.1.length:Int))) ⟨by show([]:List Int).length<=90000000;omega,by show(l.1.length:Int)<=9223372036854775807;omega⟩]
  simp only[ab,gD.add,gD.F]
  rw[aR.L0.run (d:=(jQ [] l.1.length,l.1,l.1.length,0)) ⟨h1,h3,by show(jQ [] l.1.length).length<=_;omega,rfl,0,by omega,rfl⟩]
  rfl
theorem Fw(l:Lk):(Nj l).length<=1000:=by
 unfold Nj
 split
 ·rename_i h
  obtain⟨h1,h2,h3⟩:=Nm h
  have key:∀(bs:List ov) (o:List Int),(∀b∈bs,Un b)->(bs.foldl QQ o).length<=o.length+200*bs.length:=by
   intro bs
   induction bs with
   |nil=>intro o _;exact aE _
   |cons b bs ih=>
    intro o hb
    have e1:=ih (QQ o b) λx hx=>hb x (bj _ hx)
    have e2:=JG o b (hb b bh).1
    rw[iv,aO];omega
  have e:=key l.1 (jQ [] l.1.length) h1
  have e2:=ld [] l.1.length
  have l0:([]:List Int).length=0:=rfl
  omega
 ·exact bm _
def T4:ByteArray:=⟨#[108,111,99,107]⟩
def UH(l:Lk):List Int:=if lj l then C9 T4 [Nj l] else List.replicate 32 0
def aR.E:=Entry.dp [some qS] aR.st aR.az aR.add aR.F aR.out
def aR.call:aR.D->Option aR.X:=bX aR.E aR.st
theorem aR.run:b8 aR.call aR.az aR.add aR.F:=dv (du [.d qS] λ_=>by kernel_rfl)
def aR.sg:SG Tryz.prog:=⟨110,aP,aR.E,.fn 2 (by kernel_rfl) aR.ok (And.intro (.dp aR.L0.ok (by kernel_rfl)) (And.intro (.dp aR.L1.ok (by kernel_rfl)) trivial))⟩
abbrev jv.D:=Lk
def jv.st:jv.D->SA:=λl=>([.d qS l],[])
abbrev jv.Y:=Bs
abbrev jv.X:=Bs
def jv.out:jv.X->aX:=λx=>⟨.d tH x,[],[]⟩
def jv.add:jv.D->jv.Y->jv.X:=λl y=>y
def jv.az:jv.D->Prop:=λl=>LX l/\l.1.length<=9223372036854775807
def jv.F:jv.D->jv.Y:=λl=>UH l
def jv.G:fD:=gr (P:=Tryz.prog) [bk.sg,aR.sg,dH.sg]
def jv.an:fR:= {}
def jv.A:= @dm Tryz.prog jv.G jv.an 0 Tryz.f81 _ jv.st
abbrev jv.Ok:=dn @jv.A jv.az jv.add jv.F jv.out
theorem jv.eq{R:Type}(l:Lk)(k:aX->Option R):jv.A l k=
  ah (bk.call l) λx1=>
  aJ ((!x1)) (
   k (jv.out (List.replicate 32 (0:Int)))) (
   ah (aR.call l) λx2=>
   ah (dH.call ((⟨#[108,111,99,107]⟩:ByteArray),[x2])) λx3=>
   k (jv.out x3)):=by kernel_rfl
theorem jv.ok:jv.Ok:=by
 rintro l ⟨hl,hb⟩
 have hl:LX l:=hl
 have hlen:=Fw l
 rw[jv.eq,bk.run (d:=l) ⟨hl,hb⟩,aR.run (d:=l) ⟨hl,hb⟩]
 simp only[ab,bk.add,bk.F,aR.add,aR.F,jv.add,jv.F,UH]
 rw[dH.run (d:=((⟨#[108,111,99,107]⟩:ByteArray),[Nj l])) (HR (by decide) (by omega))]
 cases lj l <;> rfl
def jv.E:=Entry.dp [some qS] jv.st jv.az jv.add jv.F jv.out
def jv.call:jv.D->Option jv.X:=bX jv.E jv.st
theorem jv.run:b8 jv.call jv.az jv.add jv.F:=dv (du [.d qS] λ_=>by kernel_rfl)
def jv.sg:SG Tryz.prog:=⟨81,aP,jv.E,.fn 0 (by kernel_rfl) jv.ok trivial⟩
end Go.Ab
end
