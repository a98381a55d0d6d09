/-
  Made short by a program of mine (wip/tools/mini.py).
-/
import Derived.Test.YtcdokckdlaegdaaGreatS20x3
import Derived.Test.YtcdokckdlaegdaaGreatProg
set_option linter.unusedVariables false
set_option linter.unusedSimpArgs false
set_option maxRecDepth 100000
set_option synthInstance.maxSize 5000
noncomputable section
namespace Go.Ab
open Go.Proofs
abbrev binary.D:=Bs
def binary.st:binary.D->SA:=λb=>([.d tB b],[])
abbrev binary.Y:=Int
abbrev binary.X:=Int
def binary.out:binary.X->aZ:=λx=>⟨.d (.int .u32) x,[],[]⟩
def binary.add:binary.D->binary.Y->binary.X:=λb y=>y
def binary.aw:binary.D->Prop:=λb=>4<=b.length
def binary.F:binary.D->binary.Y:=λb=>vw (Ti (b.getD 0 0) (b.getD 1 0) (b.getD 2 0) (b.getD 3 0))
def binary.G:fD:=gz (P:=Tryz.prog) []
def binary.an:fT:= {}
def binary.A:= @dq Tryz.prog binary.G binary.an 0 Tryz.f184 _ binary.st
abbrev binary.Ok:=dr @binary.A binary.aw binary.add binary.F binary.out
theorem binary.eq{R:Type}(b:Bs)(k:aZ->Option R):binary.A b k=
 aJ (fp (0:Int) (((List.length b):Nat):Int)) (
 aJ (fp (1:Int) (((List.length b):Nat):Int)) (
 aJ (fp (2:Int) (((List.length b):Nat):Int)) (
 aJ (fp (3:Int) (((List.length b):Nat):Int)) (
 k (binary.out (dC .or .u32 (dC .or .u32 (dC .or .u32 (oJ .u32 (eH .u32 (nth tb b 0)) (24:Int)) (oJ .u32 (eH .u32 (nth tb b 1)) (16:Int))) (oJ .u32 (eH .u32 (nth tb b 2)) (8:Int))) (eH .u32 (nth tb b 3))))) none) none) none) none:=by kernel_rfl
theorem binary.ok:binary.Ok:=by
 intro b h
 have h:4<=b.length:=h
 rw[binary.eq,bF (by omega) (by omega),bF (by omega) (by omega),bF (by omega) (by omega),bF (by omega) (by omega)]
 simp only[ah,Kh,yF,ot]
 rfl
def binary.E:=Entry.dp [some tB] binary.st binary.aw binary.add binary.F binary.out
def binary.call:binary.D->Option binary.X:=cj binary.E binary.st
theorem binary.run:cl binary.call binary.aw binary.add binary.F:=dw (du [.d tB] λ_=>by kernel_rfl)
def binary.sg:SG Tryz.prog:=⟨184,aP,binary.E,.fn 0 (by kernel_rfl) binary.ok trivial⟩
abbrev eC.D:=Int×Int
def eC.st:eC.D->SA:=λ(x,kv)=>([.d (.int .u32) x,.d ti kv],[])
abbrev eC.Y:=Int
abbrev eC.X:=Int
def eC.out:eC.X->aZ:=λx=>⟨.d (.int .u32) x,[],[]⟩
def eC.add:eC.D->eC.Y->eC.X:=λ(x,kv) y=>y
def rl(w:W)(k:Nat):W:=w <<< k ||| w >>> (32 - k)
def eC.aw:eC.D->Prop:=λ(x,k)=>0<=x/\x < 4294967296
def eC.F:eC.D->eC.Y:=λ(x,k)=>vw (rl (BitVec.ofInt 32 x) (k%32).toNat)
def eC.G:fD:=gz (P:=Tryz.prog) []
def eC.an:fT:= {}
def eC.A:= @dq Tryz.prog eC.G eC.an 0 Tryz.f175 _ eC.st
abbrev eC.Ok:=dr @eC.A eC.aw eC.add eC.F eC.out
theorem eC.eq{R:Type}(x:Int)(kv:Int)(k:aZ->Option R):eC.A (x,kv) k=
 aJ (nA (dC .and .u64 (eH .u64 kv) (31:Int))) (
 aJ (nA (cY .u64 (32:Int) (dC .and .u64 (eH .u64 kv) (31:Int)))) (
 k (eC.out (dC .or .u32 (oJ .u32 x (dC .and .u64 (eH .u64 kv) (31:Int))) (cZ .u32 x (cY .u64 (32:Int) (dC .and .u64 (eH .u64 kv) (31:Int))))))) none) none:=by kernel_rfl
theorem Th(k:Int):dC .and .u64 (eH .u64 k) 31=k%32:=by
 have e:(31:Int)=vw (31:BitVec 64):=rfl
 rw[FG,e,K5]
 simp only
 have:(31:BitVec 64)=BitVec.ofNat 64 (2^5 - 1):=rfl
 unfold vw
 rw[BitVec.toNat_and,pg,show(31:BitVec 64).toNat=2^5 - 1 from rfl,Nat.and_two_pow_sub_one_eq_mod]
 omega
theorem eC.ok:eC.Ok:=by
 rintro⟨x,k⟩ ⟨h1,h2⟩
 have e1:cY .u64 32 (k%32)=32 - k%32:=by
  unfold cY
  rw[wrap_u64,kP]
  omega
 have hx:x=vw (BitVec.ofInt 32 x):=by rw[kP];omega
 rw[eC.eq,Th,e1,tq (by omega),tq (by omega)]
 simp only[ah]
 have e2:dC .or .u32 (oJ .u32 x (k%32)) (cZ .u32 x (32 - k%32))=vw (rl (BitVec.ofInt 32 x) (k%32).toNat):=by
  conv=>lhs;rw[hx]
  rw[yF,v8,ot]
  simp only[rl]
  congr 3
  omega
 rw[e2]
 rfl
def eC.E:=Entry.dp [some (.int .u32),some ti] eC.st eC.aw eC.add eC.F eC.out
def eC.call:eC.D->Option eC.X:=cj eC.E eC.st
theorem eC.run:cl eC.call eC.aw eC.add eC.F:=dw (du [.d (.int .u32),.d ti] λ_=>by kernel_rfl)
def eC.sg:SG Tryz.prog:=⟨175,aP,eC.E,.fn 0 (by kernel_rfl) eC.ok trivial⟩
theorem eC.at(w:W)(k:Int):eC.call (vw w,k)=some (vw (rl w (k%32).toNat)):=by
 have h:eC.aw (vw w,k):=⟨Ar w,by have:=OF w;simpa using this⟩
 rw[eC.run h]
 show some (vw (rl (BitVec.ofInt 32 (vw w)) (k%32).toNat))=_
 rw[ql]
abbrev table.D:=Unit
def table.st:table.D->SA:=λ_=>([],[])
abbrev table.Y:=(List Int)
abbrev table.X:=(List Int)
def table.out:table.X->aZ:=λx=>⟨.d (.arr 64 (.int .u32)) x,[],[]⟩
def table.add:table.D->table.Y->table.X:=λ_ y=>y
def table.aw:table.D->Prop:=λ_=>True
def table.F:table.D->table.Y:=λ_=>zW
def table.G:fD:=gz (P:=Tryz.prog) []
def table.an:fT:= {}
def table.A:= @dq Tryz.prog table.G table.an 0 Tryz.f174 _ table.st
abbrev table.Ok:=dr @table.A table.aw table.add table.F table.out
theorem table.eq{R:Type}(k:aZ->Option R):table.A () k=
 k (table.out [(1116352408:Int),(1899447441:Int),(3049323471:Int),(3921009573:Int),(961987163:Int),(1508970993:Int),(2453635748:Int),(2870763221:Int),(3624381080:Int),(310598401:Int),(607225278:Int),(1426881987:Int),(1925078388:Int),(2162078206:Int),(2614888103:Int),(3248222580:Int),(3835390401:Int),(4022224774:Int),(264347078:Int),(604807628:Int),(770255983:Int),(1249150122:Int),(1555081692:Int),(1996064986:Int),(2554220882:Int),(2821834349:Int),(2952996808:Int),(3210313671:Int),(3336571891:Int),(3584528711:Int),(113926993:Int),(338241895:Int),(666307205:Int),(773529912:Int),(1294757372:Int),(1396182291:Int),(1695183700:Int),(1986661051:Int),(2177026350:Int),(2456956037:Int),(2730485921:Int),(2820302411:Int),(3259730800:Int),(3345764771:Int),(3516065817:Int),(3600352804:Int),(4094571909:Int),(275423344:Int),(430227734:Int),(506948616:Int),(659060556:Int),(883997877:Int),(958139571:Int),(1322822218:Int),(1537002063:Int),(1747873779:Int),(1955562222:Int),(2024104815:Int),(2227730452:Int),(2361852424:Int),(2428436474:Int),(2756734187:Int),(3204031479:Int),(3329325298:Int)]):=by kernel_rfl
theorem table.ok:table.Ok:=by
 intro d _
 rw[table.eq]
 rfl
def table.E:=Entry.dp [] table.st table.aw table.add table.F table.out
def table.call:table.D->Option table.X:=cj table.E table.st
theorem table.run:cl table.call table.aw table.add table.F:=dw (du [] λ_=>by kernel_rfl)
def table.sg:SG Tryz.prog:=⟨174,aP,table.E,.fn 0 (by kernel_rfl) table.ok trivial⟩
abbrev first.D:=Unit
def first.st:first.D->SA:=λ_=>([],[])
abbrev first.Y:=(List Int)
abbrev first.X:=(List Int)
def first.out:first.X->aZ:=λx=>⟨.d (.arr 8 (.int .u32)) x,[],[]⟩
def first.add:first.D->first.Y->first.X:=λ_ y=>y
def first.aw:first.D->Prop:=λ_=>True
def first.F:first.D->first.Y:=λ_=>px.l
def first.G:fD:=gz (P:=Tryz.prog) []
def first.an:fT:= {}
def first.A:= @dq Tryz.prog first.G first.an 0 Tryz.f147 _ first.st
abbrev first.Ok:=dr @first.A first.aw first.add first.F first.out
theorem first.eq{R:Type}(k:aZ->Option R):first.A () k=
 k (first.out [(1779033703:Int),(3144134277:Int),(1013904242:Int),(2773480762:Int),(1359893119:Int),(2600822924:Int),(528734635:Int),(1541459225:Int)]):=by kernel_rfl
theorem first.ok:first.Ok:=by
 intro d _
 rw[first.eq]
 rfl
def first.E:=Entry.dp [] first.st first.aw first.add first.F first.out
def first.call:first.D->Option first.X:=cj first.E first.st
theorem first.run:cl first.call first.aw first.add first.F:=dw (du [] λ_=>by kernel_rfl)
def first.sg:SG Tryz.prog:=⟨147,aP,first.E,.fn 0 (by kernel_rfl) first.ok trivial⟩
abbrev schedule.L0.D:=Bs×Int×(List Int)
def schedule.L0.st:schedule.L0.D->AS:=λ(oB,t8,n2)=>⟨([.d tB oB,.undef,.ptr (.new 2 0) 0 [] 0]++bG 5 ([.d ti t8]++bG 52 [])),[],([[],[],[.obj 0 false (.d (.arr 64 (.int .u32)) n2)]]++db 58 [])⟩
abbrev schedule.L0.Y0:=(List Int)
abbrev schedule.L0.X0:=(List Int)
def schedule.L0.bV:schedule.L0.X0->Exit×AS:=λx=>(.exit 0,⟨([.undef,.undef,.ptr (.new 2 0) 0 [] 0]++bG 58 []),[],([[],[],[.obj 0 false (.d (.arr 64 (.int .u32)) x)]]++db 58 [])⟩)
abbrev schedule.L0.X:=schedule.L0.X0
abbrev schedule.L0.Y:=schedule.L0.Y0
def schedule.L0.out:schedule.L0.X->Out (Exit×AS):=λx=> .ok (schedule.L0.bV x)
def schedule.L0.add:schedule.L0.D->schedule.L0.Y->schedule.L0.X:=λ(oB,t8,n2) y=>y
abbrev schedule.D:=Bs
def schedule.st:schedule.D->SA:=λb=>([.d tB b],[])
abbrev schedule.Y:=(List Int)
abbrev schedule.X:=(List Int)
def schedule.out:schedule.X->aZ:=λx=>⟨.d (.arr 64 (.int .u32)) x,[],[]⟩
def schedule.add:schedule.D->schedule.Y->schedule.X:=λb y=>y
def wl(l:List W):List Int:=l.map vw
def vK(l:List W):List Int:=wl l++List.replicate (64 - l.length) 0
def vj(b:List Int)(k:Nat):List W:=if k<=16 then(words b).take k else OS (words b) (k - 16)
def schedule.L0.aw:schedule.L0.D->Prop:=λ(b,t8,n2)=>64<=b.length/\∃k:Nat,k<=64/\t8=k/\n2=vK (vj b k)
def schedule.L0.F:schedule.L0.D->schedule.L0.Y:=λ(b,t8,n2)=>wl (sched b)
def schedule.aw:schedule.D->Prop:=λb=>64<=b.length
def schedule.F:schedule.D->schedule.Y:=λb=>wl (sched b)
def schedule.G:fD:=gz (P:=Tryz.prog) [binary.sg,eC.sg]
def schedule.L0.E:=cV.dp schedule.L0.st schedule.L0.aw schedule.L0.add schedule.L0.F schedule.L0.out
def schedule.L0.call:schedule.L0.D->Option schedule.L0.X:=eI schedule.L0.E schedule.L0.st
def schedule.an:fT:= {loops:=oF [(2,{bS:=[0,2,8],sites:=[2]})],outs:=oE [(2,{bS:=[2],sites:=[2]},{bS:=[2]})],jw:=pL [(2,schedule.L0.E)]}
def schedule.A:= @dq Tryz.prog schedule.G schedule.an 0 Tryz.f173 _ schedule.st
abbrev schedule.Ok:=dr @schedule.A schedule.aw schedule.add schedule.F schedule.out
def schedule.L0.R:= @dn Tryz.prog schedule.G schedule.an 0 Tryz.f173 0 _ schedule.L0.st
abbrev schedule.L0.Ok:=gw Tryz.prog schedule.G schedule.an 0 Tryz.f173 0 schedule.L0.st schedule.L0.aw schedule.L0.add schedule.L0.F schedule.L0.out
theorem schedule.L0.run:cl schedule.L0.call schedule.L0.aw schedule.L0.add schedule.L0.F:=gT (gS [.d tB,.d ti,.d (.slice (.int .u32))] λ_=>by kernel_rfl)
theorem schedule.L0.aI:jk @schedule.L0.R schedule.L0.st schedule.L0.aw schedule.L0.add schedule.L0.F schedule.L0.bV schedule.L0.Ok:=jm
theorem schedule.L0.step{R:Type}(oB:Bs)(t8:Int)(n2:(List Int))(kn:AS->Option R)(kx:Exit->AS->Option R):schedule.L0.R (oB,t8,n2) kn kx=
  aJ ((jK t8 (64:Int))) (
   aJ ((jK t8 (16:Int))) (
    aJ (inc (gJ .i64 (4:Int) t8) (((List.length oB):Nat):Int)) (
    aj (binary.call (cut oB (Int.toNat (gJ .i64 (4:Int) t8)) ((List.length oB) - (Int.toNat (gJ .i64 (4:Int) t8))))) λx1=>
    aJ (fp t8 (64:Int)) (
    aJ (decide ((Int.toNat t8) < (List.length n2))) (
    aJ (decide ((((Int.toNat t8)*1)+0)=(0+((Int.toNat t8)*1)))) (
    aJ (decide ((Int.toNat t8) < (List.length n2))) (
    kn (schedule.L0.st (oB,(bO .i64 t8 (1:Int)),(List.set n2 (Int.toNat t8) x1)))) none) none) none) none) none) (
    aJ (fp (cY .i64 t8 (15:Int)) (64:Int)) (
    aJ (decide ((Int.toNat (cY .i64 t8 (15:Int))) < (List.length n2))) (
    aJ (decide ((((Int.toNat (cY .i64 t8 (15:Int)))*1)+0)=(0+((Int.toNat (cY .i64 t8 (15:Int)))*1)))) (
    aJ (fp (cY .i64 t8 (2:Int)) (64:Int)) (
    aJ (decide ((Int.toNat (cY .i64 t8 (2:Int))) < (List.length n2))) (
    aJ (decide ((((Int.toNat (cY .i64 t8 (2:Int)))*1)+0)=(0+((Int.toNat (cY .i64 t8 (2:Int)))*1)))) (
    aj (eC.call ((nth (.int .u32) n2 (Int.toNat (cY .i64 t8 (15:Int)))),(-7:Int))) λx2=>
    aj (eC.call ((nth (.int .u32) n2 (Int.toNat (cY .i64 t8 (15:Int)))),(-18:Int))) λx3=>
    aj (eC.call ((nth (.int .u32) n2 (Int.toNat (cY .i64 t8 (2:Int)))),(-17:Int))) λx4=>
    aj (eC.call ((nth (.int .u32) n2 (Int.toNat (cY .i64 t8 (2:Int)))),(-19:Int))) λx5=>
    aJ (fp (cY .i64 t8 (16:Int)) (64:Int)) (
    aJ (decide ((Int.toNat (cY .i64 t8 (16:Int))) < (List.length n2))) (
    aJ (decide ((((Int.toNat (cY .i64 t8 (16:Int)))*1)+0)=(0+((Int.toNat (cY .i64 t8 (16:Int)))*1)))) (
    aJ (fp (cY .i64 t8 (7:Int)) (64:Int)) (
    aJ (decide ((Int.toNat (cY .i64 t8 (7:Int))) < (List.length n2))) (
    aJ (decide ((((Int.toNat (cY .i64 t8 (7:Int)))*1)+0)=(0+((Int.toNat (cY .i64 t8 (7:Int)))*1)))) (
    aJ (fp t8 (64:Int)) (
    aJ (decide ((Int.toNat t8) < (List.length n2))) (
    aJ (decide ((((Int.toNat t8)*1)+0)=(0+((Int.toNat t8)*1)))) (
    aJ (decide ((Int.toNat t8) < (List.length n2))) (
    kn (schedule.L0.st (oB,(bO .i64 t8 (1:Int)),(List.set n2 (Int.toNat t8) (bO .u32 (bO .u32 (bO .u32 (nth (.int .u32) n2 (Int.toNat (cY .i64 t8 (16:Int)))) (dC .xor .u32 (dC .xor .u32 x2 x3) (cZ .u32 (nth (.int .u32) n2 (Int.toNat (cY .i64 t8 (15:Int)))) (3:Int)))) (nth (.int .u32) n2 (Int.toNat (cY .i64 t8 (7:Int))))) (dC .xor .u32 (dC .xor .u32 x4 x5) (cZ .u32 (nth (.int .u32) n2 (Int.toNat (cY .i64 t8 (2:Int)))) (10:Int)))))))) none) none) none) none) none) none) none) none) none) none) none) none) none) none) none) none)) (
   kx (schedule.L0.bV n2).1 (schedule.L0.bV n2).2):=by kernel_rfl
theorem schedule.eq{R:Type}(b:Bs)(k:aZ->Option R):schedule.A b k=
 aj (schedule.L0.call (b,(0:Int),(List.replicate 64 (0:Int)))) λx6=>
 k (schedule.out x6):=by kernel_rfl
theorem Iq(b:List Int)(k:Nat)(h:k<=64):(vj b k).length=k:=by
 unfold vj
 split
 ·simp[iq];omega
 ·rw[sZ,iq];omega
theorem P6(b:List Int):vj b 64=sched b:=rfl
theorem Mj(b:List Int)(k:Nat)(h:k < 16):vj b (k+1)=vj b k++ [be b k]:=by
 unfold vj
 rw[if_pos (by omega),if_pos (by omega),List.take_succ_eq_append_getElem (by rw[iq];exact h)]
 simp[words]
theorem OI(b:List Int)(k:Nat)(h:16<=k):vj b (k+1)=ext (vj b k):=by
 unfold vj
 rw[if_neg (by omega)]
 by_cases Ry:k=16
 ·subst Ry
  rw[if_pos (by omega),cn (by rw[iq];omega)]
  rfl
 ·rw[if_neg (by omega),show k+1 - 16=(k - 16)+1 by omega]
  rfl
theorem Fi(l:List W)(h:l.length<=64):(vK l).length=64:=by simp[vK,wl];omega
theorem wM(l:List W)(i:Nat)(h:i < l.length):nth (.int .u32) (vK l) i=vw (l.getD i 0):=by
 unfold nth vK wl
 rw[aX,kk (by simpa using h)]
 simp[h]
theorem Ek(l:List W)(w:W)(h:l.length < 64):(vK l).set l.length (vw w)=vK (l++ [w]):=by
 unfold vK wl
 rw[List.set_append_right _ _ (by simp)]
 simp only[b8,Nat.sub_self,lT,ae,aN,bJ]
 rw[show 64 - l.length=(64 - (l.length+(0+1)))+1 by omega,List.replicate_succ,List.set_cons_zero]
 simp
theorem ID(l:List W)(h:l.length=64):vK l=wl l:=by simp[vK,h]
theorem Q7(b:List Int)(k:Nat)(h:4*k+4<=b.length):Ti ((cut b (4*k) (b.length - 4*k)).getD 0 0) ((cut b (4*k) (b.length - 4*k)).getD 1 0) ((cut b (4*k) (b.length - 4*k)).getD 2 0) ((cut b (4*k) (b.length - 4*k)).getD 3 0)=be b k:=by
 have e:∀j,j < 4->(cut b (4*k) (b.length - 4*k)).getD j 0=b.getD (4*k+j) 0:=λj hj=>by
  unfold cut
  rw[aX,aX,List.getElem?_take_of_lt (by omega),kB]
 unfold be
 rw[e 0 (by omega),e 1 (by omega),e 2 (by omega),e 3 (by omega),dE]
theorem schedule.L0.ok:schedule.L0.Ok:=by
 refine schedule.L0.aI (λ(b,t8,n2)=>64 - t8.toNat) ?_
 rintro⟨b,t8,n2⟩ ⟨hb,k,hk,rfl,rfl⟩
 have S5:=Iq b k hk
 have Ph:=Fi (vj b k) (by omega)
 by_cases h:k < 64
 ·left
  refine⟨(b,((k+1:Nat):Int),vK (vj b (k+1))),⟨hb,k+1,by omega,rfl,rfl⟩,by simp;omega,rfl,λkn kx=> ?_⟩
  have e1:bO .i64 (k:Int) 1=((k+1:Nat):Int):=by rw[ff (by omega) (by omega)];omega
  have e2:Int.toNat (k:Int)=k:=by omega
  rw[schedule.L0.step,bI (by omega)]
  simp only[ah,e1,e2,Ph,kb,bl,dE,decide_true]
  by_cases Ry:k < 16
  ·have e3:gJ .i64 4 (k:Int)=((4*k:Nat):Int):=by rw[nf (by omega) (by omega)];omega
   have e4:Int.toNat ((4*k:Nat):Int)=4*k:=by omega
   rw[bI (by omega),e3,qc (by omega) (by omega),e4,bF (by omega) (by omega),aO h]
   have hp:binary.aw (cut b (4*k) (b.length - 4*k)):=by
    show 4<=_
    rw[uO (by omega)];omega
   simp only[ah,binary.run hp,ab]
   have e5:binary.add (cut b (4*k) (b.length - 4*k)) (binary.F (cut b (4*k) (b.length - 4*k)))=vw (be b k):=by
    show vw (Ti _ _ _ _)=_
    rw[Q7 b k (by omega)]
   have e6:=Ek (vj b k) (be b k) (by omega)
   rw[S5]at e6
   rw[e5,e6,Mj b k Ry]
  ·have a15:Int.toNat (cY .i64 (k:Int) 15)=k - 15:=by rw[gm (by omega) (by omega)];omega
   have a2:Int.toNat (cY .i64 (k:Int) 2)=k - 2:=by rw[gm (by omega) (by omega)];omega
   have a16:Int.toNat (cY .i64 (k:Int) 16)=k - 16:=by rw[gm (by omega) (by omega)];omega
   have a7:Int.toNat (cY .i64 (k:Int) 7)=k - 7:=by rw[gm (by omega) (by omega)];omega
   have i15:fp (cY .i64 (k:Int) 15) 64=true:=bF (by rw[gm (by omega) (by omega)];omega) (by rw[gm (by omega) (by omega)];omega)
   have i2:fp (cY .i64 (k:Int) 2) 64=true:=bF (by rw[gm (by omega) (by omega)];omega) (by rw[gm (by omega) (by omega)];omega)
   have i16:fp (cY .i64 (k:Int) 16) 64=true:=bF (by rw[gm (by omega) (by omega)];omega) (by rw[gm (by omega) (by omega)];omega)
   have i7:fp (cY .i64 (k:Int) 7) 64=true:=bF (by rw[gm (by omega) (by omega)];omega) (by rw[gm (by omega) (by omega)];omega)
   have i0:fp (k:Int) 64=true:=bF (by omega) (by omega)
   have d15:decide (k - 15 < 64)=true:=aO (by omega)
   have d2:decide (k - 2 < 64)=true:=aO (by omega)
   have d16:decide (k - 16 < 64)=true:=aO (by omega)
   have d7:decide (k - 7 < 64)=true:=aO (by omega)
   have d0:decide (k < 64)=true:=aO h
   rw[bp (by omega)]
   simp only[ah,ai,a15,a2,a16,a7,i15,i2,i16,i7,i0,d15,d2,d16,d7,d0,wM (vj b k) (k - 15) (by omega),wM (vj b k) (k - 2) (by omega),wM (vj b k) (k - 16) (by omega),wM (vj b k) (k - 7) (by omega),eC.at,ab,ot,v8,um]
   have e6:=Ek (vj b k) (QM (vj b k) k) (by omega)
   rw[S5]at e6
   rw[OI b k (by omega),ext,S5,<-e6]
   rfl
 ·right
  obtain rfl:k=64:=by omega
  intro R kn kx
  rw[schedule.L0.step,bp (by omega),ID _ S5,P6]
  simp only[ai,schedule.L0.add,schedule.L0.F]
theorem schedule.ok:schedule.Ok:=by
 intro b hb
 have hp:schedule.L0.aw (b,0,List.replicate 64 0):=⟨hb,0,by omega,rfl,rfl⟩
 rw[schedule.eq,schedule.L0.run hp]
 simp only[ab,schedule.L0.add,schedule.L0.F,schedule.add,schedule.F]
def schedule.E:=Entry.dp [some tB] schedule.st schedule.aw schedule.add schedule.F schedule.out
def schedule.call:schedule.D->Option schedule.X:=cj schedule.E schedule.st
theorem schedule.run:cl schedule.call schedule.aw schedule.add schedule.F:=dw (du [.d tB] λ_=>by kernel_rfl)
def schedule.sg:SG Tryz.prog:=⟨173,aP,schedule.E,.fn 1 (by kernel_rfl) schedule.ok (And.intro (.dp schedule.L0.ok (by kernel_rfl)) trivial)⟩
abbrev mix.L0.D:=(List Int)×Int×(List Int)×(List Int)×(List Int)×(List Int)
def mix.L0.st:mix.L0.D->AS:=λ(s6,t18,n4,n5,n6,n7)=>⟨([.undef,.undef,.gE (.arr 8 (.int .u32)) s6,.undef,.ptr (.new 4 0) 0 [] 0,.ptr (.new 5 0) 0 [] 0,.ptr (.new 6 0) 0 [] 0,.ptr (.new 7 0) 0 [] 0]++bG 10 ([.d ti t18]++bG 98 [])),[],(db 4 ([[.obj 0 false (.d (.arr 8 (.int .u32)) n4)],[.obj 0 false (.d (.arr 64 (.int .u32)) n5)],[.obj 0 false (.d (.arr 64 (.int .u32)) n6)],[.obj 0 false (.d (.arr 8 (.int .u32)) n7)]]++db 109 []))⟩
abbrev mix.L0.Y0:=(List Int)
abbrev mix.L0.X0:=((List Int)×(List Int))×((List Int))
def mix.L0.bV:mix.L0.X0->Exit×AS:=λx=>(.exit 0,⟨([.undef,.undef,.gE (.arr 8 (.int .u32)) x.1.1,.undef,.ptr (.new 4 0) 0 [] 0,.undef,.undef,.ptr (.new 7 0) 0 [] 0]++bG 109 []),[],(db 4 ([[.obj 0 false (.d (.arr 8 (.int .u32)) x.1.2)],[],[],[.obj 0 false (.d (.arr 8 (.int .u32)) x.2)]]++db 109 []))⟩)
abbrev mix.L0.X:=mix.L0.X0
abbrev mix.L0.Y:=mix.L0.Y0
def mix.L0.out:mix.L0.X->Out (Exit×AS):=λx=> .ok (mix.L0.bV x)
def mix.L0.add:mix.L0.D->mix.L0.Y->mix.L0.X:=λ(s6,t18,n4,n5,n6,n7) y=>((s6,n4),y)
abbrev mix.L1.D:=(List Int)×Int×(List Int)×(List Int)
def mix.L1.st:mix.L1.D->AS:=λ(Kc,t104,nF,CT)=>⟨([.undef,.undef,.gE (.arr 8 (.int .u32)) Kc,.undef,.ptr (.new 4 0) 0 [] 0,.undef,.undef,.ptr (.new 7 0) 0 [] 0]++bG 96 ([.d ti t104]++bG 12 [])),[],(db 4 ([[.obj 0 false (.d (.arr 8 (.int .u32)) nF)],[],[],[.obj 0 false (.d (.arr 8 (.int .u32)) CT)]]++db 109 []))⟩
abbrev mix.L1.Y0:=(List Int)
abbrev mix.L1.X0:=((List Int))×((List Int))
def mix.L1.bV:mix.L1.X0->Exit×AS:=λx=>(.exit 2,⟨(bG 4 ([.ptr (.new 4 0) 0 [] 0,.undef,.undef,.ptr (.new 7 0) 0 [] 0]++bG 109 [])),[],(db 4 ([[.obj 0 false (.d (.arr 8 (.int .u32)) x.1)],[],[],[.obj 0 false (.d (.arr 8 (.int .u32)) x.2)]]++db 109 []))⟩)
abbrev mix.L1.X:=mix.L1.X0
abbrev mix.L1.Y:=mix.L1.Y0
def mix.L1.out:mix.L1.X->Out (Exit×AS):=λx=> .ok (mix.L1.bV x)
def mix.L1.add:mix.L1.D->mix.L1.Y->mix.L1.X:=λ(Kc,t104,nF,CT) y=>(nF,y)
abbrev mix.D:=(List Int)×Bs
def mix.st:mix.D->SA:=λ(h,b)=>([.d (.arr 8 (.int .u32)) h,.d tB b],[])
abbrev mix.Y:=(List Int)
abbrev mix.X:=(List Int)
def mix.out:mix.X->aZ:=λx=>⟨.d (.arr 8 (.int .u32)) x,[],[]⟩
def mix.add:mix.D->mix.Y->mix.X:=λ(h,b) y=>y
def Gd(l:List Int):St:=⟨BitVec.ofInt 32 (l.getD 0 0),BitVec.ofInt 32 (l.getD 1 0),BitVec.ofInt 32 (l.getD 2 0),BitVec.ofInt 32 (l.getD 3 0),BitVec.ofInt 32 (l.getD 4 0),BitVec.ofInt 32 (l.getD 5 0),BitVec.ofInt 32 (l.getD 6 0),BitVec.ofInt 32 (l.getD 7 0)⟩
theorem nC(s:St):Gd s.l=s:=by
 obtain⟨a,b,c,d,e,f,g,h⟩:=s
 simp[Gd,St.l,ql]
def OD(l:List Int):List W:=l.map (BitVec.ofInt 32)
theorem vi(l:List W):OD (wl l)=l:=by
 unfold OD wl
 rw[pZ]
 have:(BitVec.ofInt 32∘vw)=(id:W->W):=by funext w;exact ql w
 rw[this,List.map_id]
def mix.L0.aw:mix.L0.D->Prop:=λ(h,t,n4,n5,n6,n7)=>∃(s:St) (ws:List W) (k:Nat),h=s.l/\n5=wl ws/\ws.length=64/\k<=64/\t=k/\n6=zW/\n7=(rounds ws s k).l
def mix.L0.F:mix.L0.D->mix.L0.Y:=λ(h,t,n4,n5,n6,n7)=>(rounds (OD n5) (Gd h) 64).l
def mix.L1.aw:mix.L1.D->Prop:=λ(h,t,n4,n7)=>n7.length=8/\∃k:Nat,k<=8/\t=k
def mix.L1.F:mix.L1.D->mix.L1.Y:=λ(h,t,n4,n7)=>from_ (λi x=>bO .u32 x (nth (.int .u32) h i)) t.toNat n7
def mix.aw:mix.D->Prop:=λ(h,b)=>(∃s:St,h=s.l)/\64<=b.length
def mix.F:mix.D->mix.Y:=λ(h,b)=>(z9 (Gd h) b).l
def mix.G:fD:=gz (P:=Tryz.prog) [schedule.sg,table.sg,eC.sg]
def mix.L0.E:=cV.dp mix.L0.st mix.L0.aw mix.L0.add mix.L0.F mix.L0.out
def mix.L0.call:mix.L0.D->Option mix.L0.X:=eI mix.L0.E mix.L0.st
def mix.L1.E:=cV.dp mix.L1.st mix.L1.aw mix.L1.add mix.L1.F mix.L1.out
def mix.L1.call:mix.L1.D->Option mix.L1.X:=eI mix.L1.E mix.L1.st
def mix.an:fT:= {loops:=oF [(4,{bS:=[2,4,5,6,7,18],sites:=[4,5,6,7]}),(13,{bS:=[2,4,7,104],sites:=[4,7]})],outs:=oE [(4,{bS:=[2,4,7],sites:=[4,7]},{bS:=[4]}),(13,{bS:=[4,7],sites:=[4,7]},{bS:=[4]})],jw:=pL [(4,mix.L0.E),(13,mix.L1.E)]}
def mix.A:= @dq Tryz.prog mix.G mix.an 0 Tryz.f148 _ mix.st
abbrev mix.Ok:=dr @mix.A mix.aw mix.add mix.F mix.out
def mix.L0.R:= @dn Tryz.prog mix.G mix.an 0 Tryz.f148 0 _ mix.L0.st
abbrev mix.L0.Ok:=gw Tryz.prog mix.G mix.an 0 Tryz.f148 0 mix.L0.st mix.L0.aw mix.L0.add mix.L0.F mix.L0.out
def mix.L1.R:= @dn Tryz.prog mix.G mix.an 0 Tryz.f148 1 _ mix.L1.st
abbrev mix.L1.Ok:=gw Tryz.prog mix.G mix.an 0 Tryz.f148 1 mix.L1.st mix.L1.aw mix.L1.add mix.L1.F mix.L1.out
theorem mix.L0.run:cl mix.L0.call mix.L0.aw mix.L0.add mix.L0.F:=gT (gS [.d (.arr 8 (.int .u32)),.d ti,.d (.slice (.int .u32)),.d (.slice (.int .u32)),.d (.slice (.int .u32)),.d (.slice (.int .u32))] λ_=>by kernel_rfl)
theorem mix.L0.aI:jk @mix.L0.R mix.L0.st mix.L0.aw mix.L0.add mix.L0.F mix.L0.bV mix.L0.Ok:=jm
theorem mix.L0.step{R:Type}(s6:(List Int))(t18:Int)(n4:(List Int))(n5:(List Int))(n6:(List Int))(n7:(List Int))(kn:AS->Option R)(kx:Exit->AS->Option R):mix.L0.R (s6,t18,n4,n5,n6,n7) kn kx=
  aJ ((jK t18 (64:Int))) (
   aJ (decide (4 < (List.length n7))) (
   aj (eC.call ((nth (.int .u32) n7 4),(-6:Int))) λx1=>
   aJ (decide (4 < (List.length n7))) (
   aj (eC.call ((nth (.int .u32) n7 4),(-11:Int))) λx2=>
   aJ (decide (4 < (List.length n7))) (
   aj (eC.call ((nth (.int .u32) n7 4),(-25:Int))) λx3=>
   aJ (decide (7 < (List.length n7))) (
   aJ (decide (6 < (List.length n7))) (
   aJ (decide (4 < (List.length n7))) (
   aJ (decide (5 < (List.length n7))) (
   aJ (decide (6 < (List.length n7))) (
   aJ (fp t18 (64:Int)) (
   aJ (decide ((Int.toNat t18) < (List.length n6))) (
   aJ (decide ((((Int.toNat t18)*1)+0)=(0+((Int.toNat t18)*1)))) (
   aJ (fp t18 (64:Int)) (
   aJ (decide ((Int.toNat t18) < (List.length n5))) (
   aJ (decide ((((Int.toNat t18)*1)+0)=(0+((Int.toNat t18)*1)))) (
   aJ (decide (0 < (List.length n7))) (
   aj (eC.call ((nth (.int .u32) n7 0),(-2:Int))) λx4=>
   aJ (decide (0 < (List.length n7))) (
   aj (eC.call ((nth (.int .u32) n7 0),(-13:Int))) λx5=>
   aJ (decide (0 < (List.length n7))) (
   aj (eC.call ((nth (.int .u32) n7 0),(-22:Int))) λx6=>
   aJ (decide (0 < (List.length n7))) (
   aJ (decide (1 < (List.length n7))) (
   aJ (decide (2 < (List.length n7))) (
   aJ (decide (0 < (List.length n7))) (
   aJ (decide (1 < (List.length n7))) (
   aJ (decide (0 < (List.length n7))) (
   aJ (decide (1 < (List.length n7))) (
   aJ (decide (2 < (List.length n7))) (
   aJ (decide (3 < (List.length n7))) (
   aJ (decide (4 < (List.length n7))) (
   aJ (decide (5 < (List.length n7))) (
   aJ (decide (6 < (List.length n7))) (
   kn (mix.L0.st (s6,(bO .i64 t18 (1:Int)),n4,n5,n6,[(bO .u32 (bO .u32 (bO .u32 (bO .u32 (bO .u32 (bO .u32 (nth (.int .u32) n7 7) (dC .xor .u32 (dC .xor .u32 x1 x2) x3)) (dC .xor .u32 (nth (.int .u32) n7 6) (dC .and .u32 (nth (.int .u32) n7 4) (dC .xor .u32 (nth (.int .u32) n7 5) (nth (.int .u32) n7 6))))) (nth (.int .u32) n6 (Int.toNat t18))) (nth (.int .u32) n5 (Int.toNat t18))) (dC .xor .u32 (dC .xor .u32 x4 x5) x6)) (dC .or .u32 (dC .and .u32 (nth (.int .u32) n7 0) (nth (.int .u32) n7 1)) (dC .and .u32 (nth (.int .u32) n7 2) (dC .or .u32 (nth (.int .u32) n7 0) (nth (.int .u32) n7 1))))),(nth (.int .u32) n7 0),(nth (.int .u32) n7 1),(nth (.int .u32) n7 2),(bO .u32 (nth (.int .u32) n7 3) (bO .u32 (bO .u32 (bO .u32 (bO .u32 (nth (.int .u32) n7 7) (dC .xor .u32 (dC .xor .u32 x1 x2) x3)) (dC .xor .u32 (nth (.int .u32) n7 6) (dC .and .u32 (nth (.int .u32) n7 4) (dC .xor .u32 (nth (.int .u32) n7 5) (nth (.int .u32) n7 6))))) (nth (.int .u32) n6 (Int.toNat t18))) (nth (.int .u32) n5 (Int.toNat t18)))),(nth (.int .u32) n7 4),(nth (.int .u32) n7 5),(nth (.int .u32) n7 6)]))) none) none) none) none) none) none) none) none) none) none) none) none) none) none) none) none) none) none) none) none) none) none) none) none) none) none) none) none) none) (
   kx (mix.L0.bV ((s6,n4),n7)).1 (mix.L0.bV ((s6,n4),n7)).2):=by kernel_rfl
theorem mix.L1.run:cl mix.L1.call mix.L1.aw mix.L1.add mix.L1.F:=gT (gS [.d (.arr 8 (.int .u32)),.d ti,.d (.slice (.int .u32)),.d (.slice (.int .u32))] λ_=>by kernel_rfl)
theorem mix.L1.aI:jk @mix.L1.R mix.L1.st mix.L1.aw mix.L1.add mix.L1.F mix.L1.bV mix.L1.Ok:=jm
theorem mix.L1.step{R:Type}(Kc:(List Int))(t104:Int)(nF:(List Int))(CT:(List Int))(kn:AS->Option R)(kx:Exit->AS->Option R):mix.L1.R (Kc,t104,nF,CT) kn kx=
  aJ ((jK t104 (8:Int))) (
   aJ (fp t104 (8:Int)) (
   aJ (decide ((Int.toNat t104) < (List.length CT))) (
   aJ (decide ((((Int.toNat t104)*1)+0)=(0+((Int.toNat t104)*1)))) (
   aJ (fp t104 (8:Int)) (
   aJ (fp t104 (8:Int)) (
   aJ (decide ((Int.toNat t104) < (List.length CT))) (
   aJ (decide ((((Int.toNat t104)*1)+0)=(0+((Int.toNat t104)*1)))) (
   aJ (decide ((Int.toNat t104) < (List.length CT))) (
   kn (mix.L1.st (Kc,(bO .i64 t104 (1:Int)),nF,(List.set CT (Int.toNat t104) (bO .u32 (nth (.int .u32) CT (Int.toNat t104)) (nth (.int .u32) Kc (Int.toNat t104))))))) none) none) none) none) none) none) none) none) (
   kx (mix.L1.bV (nF,CT)).1 (mix.L1.bV (nF,CT)).2):=by kernel_rfl
theorem mix.eq{R:Type}(h:(List Int))(b:Bs)(k:aZ->Option R):mix.A (h,b) k=
 aj (schedule.call b) λx1=>
 aj (table.call ()) λx2=>
 aj (mix.L0.call (h,(0:Int),(List.replicate 8 (0:Int)),x1,x2,h)) λx9=>
 aj (mix.L1.call (x9.1.1,(0:Int),x9.1.2,x9.2)) λzm=>
 k (mix.out zm.2):=by kernel_rfl
theorem St.Hd(s:St):s.l.length=8:=rfl
theorem AG:zW.length=64:=rfl
theorem Hc(k:Nat)(h:k < 64):nth (.int .u32) zW k=vw (kw k):=by
 have hh:∀k:Fin 64,nth (.int .u32) zW k.val=vw (kw k.val):=by decide+kernel
 exact hh ⟨k,h⟩
theorem As(ws:List W)(k:Nat)(h:k < ws.length):nth (.int .u32) (wl ws) k=vw (ws.getD k 0):=by
 unfold nth wl
 simp[h]
theorem YZ(w:W):rl w ((-6:Int)%32).toNat=qO w 6:=rfl
theorem WI(w:W):rl w ((-11:Int)%32).toNat=qO w 11:=rfl
theorem WL(w:W):rl w ((-25:Int)%32).toNat=qO w 25:=rfl
theorem YY(w:W):rl w ((-2:Int)%32).toNat=qO w 2:=rfl
theorem WJ(w:W):rl w ((-13:Int)%32).toNat=qO w 13:=rfl
theorem WK(w:W):rl w ((-22:Int)%32).toNat=qO w 22:=rfl
theorem n0(s:St):nth (.int .u32) s.l 0=vw s.a:=rfl
theorem n1(s:St):nth (.int .u32) s.l 1=vw s.b:=rfl
theorem n2(s:St):nth (.int .u32) s.l 2=vw s.c:=rfl
theorem n3(s:St):nth (.int .u32) s.l 3=vw s.d:=rfl
theorem n4(s:St):nth (.int .u32) s.l 4=vw s.e:=rfl
theorem n5(s:St):nth (.int .u32) s.l 5=vw s.f:=rfl
theorem n6(s:St):nth (.int .u32) s.l 6=vw s.g:=rfl
theorem n7(s:St):nth (.int .u32) s.l 7=vw s.h:=rfl
theorem mix.L0.ok:mix.L0.Ok:=by
 refine mix.L0.aI (λ(h,t,n4,n5,n6,n7)=>64 - t.toNat) ?_
 rintro⟨h,t,m4,m5,m6,m7⟩ ⟨s,ws,k,rfl,rfl,hw,hk,rfl,rfl,rfl⟩
 by_cases mw:k < 64
 ·left
  refine⟨(s.l,((k+1:Nat):Int),m4,wl ws,zW,(rounds ws s (k+1)).l),⟨s,ws,k+1,rfl,rfl,hw,by omega,rfl,rfl,rfl⟩,by simp;omega,rfl,λkn kx=> ?_⟩
  have e1:bO .i64 (k:Int) 1=((k+1:Nat):Int):=by rw[ff (by omega) (by omega)];omega
  have e2:Int.toNat (k:Int)=k:=by omega
  have S5:(wl ws).length=64:=by simp[wl,hw]
  have d0:decide (k < 64)=true:=aO mw
  have i0:fp (k:Int) 64=true:=bF (by omega) (by omega)
  rw[mix.L0.step,bI (by omega)]
  generalize hv:rounds ws s k=v
  simp only[e1,e2,kb,bl,dE,decide_true,ah,St.Hd,Nat.reduceLT,AG,S5,d0,i0,n0,n1,n2,n3,n4,n5,n6,n7,eC.at,ab,Hc k mw,As ws k (by omega),ot,um,YZ,WI,WL,YY,WJ,WK]
  show kn _=kn (mix.L0.st (s.l,((k+1:Nat):Int),m4,wl ws,zW,(WM (rounds ws s k) (kw k) (ws.getD k 0)).l))
  rw[hv]
  rfl
 ·right
  obtain rfl:k=64:=by omega
  intro R kn kx
  rw[mix.L0.step,bp (by omega)]
  simp only[ai,mix.L0.add,mix.L0.F,vi,nC]
theorem mix.L1.ok:mix.L1.Ok:=by
 refine mix.L1.aI (λ(h,t,n4,n7)=>8 - t.toNat) ?_
 rintro⟨h,t,m4,m7⟩ ⟨hl,k,hk,rfl⟩
 have hl:m7.length=8:=hl
 have e2:Int.toNat (k:Int)=k:=by omega
 have e3:Int.toNat ((k+1:Nat):Int)=k+1:=by omega
 by_cases mw:k < 8
 ·left
  have e1:bO .i64 (k:Int) 1=((k+1:Nat):Int):=by rw[ff (by omega) (by omega)];omega
  have hn:nth (.int .u32) m7 k=m7[k]:=dP (t:= .int .u32) (by omega)
  refine⟨(h,((k+1:Nat):Int),m4,m7.set k (bO .u32 m7[k] (nth (.int .u32) h k))),⟨by simpa using hl,k+1,by omega,rfl⟩,by simp;omega,?_,λkn kx=> ?_⟩
  ·simp only[mix.L1.add,mix.L1.F,e2,e3]
   rw[wP (λi x=>bO .u32 x (nth (.int .u32) h i)) m7 k (by omega)]
  ·have d0:decide (k < 8)=true:=aO mw
   have i0:fp (k:Int) 8=true:=bF (by omega) (by omega)
   rw[mix.L1.step,bI (by omega)]
   simp only[e1,e2,kb,bl,dE,decide_true,ah,hl,d0,i0,hn]
 ·right
  obtain rfl:k=8:=by omega
  intro R kn kx
  rw[mix.L1.step,bp (by omega)]
  simp only[ai,mix.L1.add,mix.L1.F,e2]
  rw[yy _ _ _ (by omega)]
theorem mix.ok:mix.Ok:=by
 rintro⟨h,b⟩ ⟨⟨s,rfl⟩,hb⟩
 have hs:schedule.aw b:=hb
 have Kf:(sched b).length=64:=by unfold sched;rw[sZ,iq]
 have hp:mix.L0.aw (s.l,0,List.replicate 8 0,wl (sched b),zW,s.l):=⟨s,sched b,0,rfl,rfl,Kf,by omega,rfl,rfl,rfl⟩
 rw[mix.eq,schedule.run hs]
 simp only[ab,table.run (d:=()) trivial,schedule.add,schedule.F,table.add,table.F,mix.L0.run hp,mix.L0.add,mix.L0.F,vi,nC]
 have Yt:mix.L1.aw (s.l,0,List.replicate 8 0,(rounds (sched b) s 64).l):=⟨rfl,0,by omega,rfl⟩
 simp only[mix.L1.run Yt,ab,mix.L1.add,mix.L1.F,mix.add,mix.F,nC]
 unfold z9
 generalize rounds (sched b) s 64=v
 obtain⟨a1,b1,c1,d1,f1,g1,h1,i1⟩:=v
 simp only[St.l,from_,List.mapIdx_cons,List.mapIdx_nil,bK,Nat.not_lt_zero,if_false,bl,Nat.reduceAdd]
 simp only[nth,mh,oI,um]
def mix.E:=Entry.dp [some (.arr 8 (.int .u32)),some tB] mix.st mix.aw mix.add mix.F mix.out
def mix.call:mix.D->Option mix.X:=cj mix.E mix.st
theorem mix.run:cl mix.call mix.aw mix.add mix.F:=dw (du [.d (.slice (.int .u32)),.d tB] λ_=>by kernel_rfl)
def mix.sg:SG Tryz.prog:=⟨148,aP,mix.E,.fn 2 (by kernel_rfl) mix.ok (And.intro (.dp mix.L0.ok (by kernel_rfl)) (And.intro (.dp mix.L1.ok (by kernel_rfl)) trivial))⟩
theorem pN(n:Int)(k:Int)(h0:0<=k)(h1:k<=64):eH .u8 (cZ .i64 n k)=n / 2^k.toNat%256:=by
 rw[Cp,kP,cZ]
 have e:min k.toNat IntKind.i64.bits=k.toNat:=by simp only[IntKind.bits];omega
 rw[e,lC _ (nY (Int.pow_pos (by omega)))]
 rfl
theorem uC{n:Nat}(h:n<=140737488355328):fk n 1=true:=fV (by omega) (by omega)
abbrev fc.D:=Bs
def fc.st:fc.D->SA:=λsv=>([.d tB sv],[])
abbrev fc.Y:=Nat×(List Int)
abbrev fc.X:=Nat×(List Int)
def fc.out:fc.X->aZ:=λx=>⟨.dh (.new 0 0) 0 [] 0 0 x.1,[],[.obj 0 false (.vec 5 tb x.2)]⟩
def fc.add:fc.D->fc.Y->fc.X:=λsv y=>y
def fc.aw:fc.D->Prop:=λb=>b.length<=140737488355328
def fc.F:fc.D->fc.Y:=λb=>(b.length,b)
def fc.G:fD:=gz (P:=Tryz.prog) []
def fc.an:fT:= {da:=[5],nB:=[⟨2,[],5,135⟩]}
def fc.A:= @dq Tryz.prog fc.G fc.an 0 Tryz.f146 _ fc.st
abbrev fc.Ok:=dr @fc.A fc.aw fc.add fc.F fc.out
theorem fc.eq{R:Type}(sv:Bs)(k:aZ->Option R):fc.A sv k=
  aJ (decide (0 < (List.length sv))) (
   aJ (fk (0+(List.length sv)) 1) (
   k (fc.out ((0+(List.length sv)),((List.take 0 (List.replicate 0 (0:Int)))++sv)))) none) (
   nd (
    k (fc.out (0,([]:List Int)))) (
    aJ (fk (0+(List.length sv)) 1) (
    k (fc.out ((0+(List.length sv)),((List.take 0 (List.replicate 0 (0:Int)))++sv)))) none)):=by kernel_rfl
theorem fc.ok:fc.Ok:=by
 intro b hb
 have hr:fk b.length 1=true:=uC hb
 rw[fc.eq]
 have e0:(List.take 0 (List.replicate 0 0):List Int)=[]:=rfl
 simp only[bl,hr,ah,e0,bu,fc.add,fc.F]
 by_cases h:0 < b.length
 ·simp only[aO h,ah]
 ·have:b=[]:=df (by omega)
  subst this
  simp only[bJ,wX,cR (nk 0),ai]
def fc.E:=Entry.dp [some tB] fc.st fc.aw fc.add fc.F fc.out
def fc.call:fc.D->Option fc.X:=cj fc.E fc.st
theorem fc.run:cl fc.call fc.aw fc.add fc.F:=dw (du [.d tB] λ_=>by kernel_rfl)
def fc.sg:SG Tryz.prog:=⟨146,aP,fc.E,.fn 0 (by kernel_rfl) fc.ok trivial⟩
abbrev hZ.D:=Int
def hZ.st:hZ.D->SA:=λn=>([.eV,.d ti n],[])
abbrev hZ.Y:=Nat×(List Int)
abbrev hZ.X:=Nat×(List Int)
def hZ.out:hZ.X->aZ:=λx=>⟨.dh (.new 0 0) 0 [] 0 0 x.1,[],[.obj 0 false (.vec 5 tb x.2)]⟩
def hZ.add:hZ.D->hZ.Y->hZ.X:=λn y=>y
def hZ.aw:hZ.D->Prop:=λ_=>True
def hZ.F:hZ.D->hZ.Y:=λn=>(8,mu n)
def hZ.G:fD:=gz (P:=Tryz.prog) []
def hZ.an:fT:= {loops:=oF [(2,{bS:=[0,1,5],sites:=[16]})],outs:=oE [(2,{bS:=[0],sites:=[16]},{bS:=[4],sites:=[16]})],nB:=[⟨4,[],16,135⟩]}
def hZ.A:= @dq Tryz.prog hZ.G hZ.an 12 Tryz.f105 _ hZ.st
abbrev hZ.Ok:=dr @hZ.A hZ.aw hZ.add hZ.F hZ.out
theorem hZ.eq{R:Type}(n:Int)(k:aZ->Option R):hZ.A n k=
 k (hZ.out (8,[(eH .u8 (cZ .i64 n (56:Int))),(eH .u8 (cZ .i64 n (48:Int))),(eH .u8 (cZ .i64 n (40:Int))),(eH .u8 (cZ .i64 n (32:Int))),(eH .u8 (cZ .i64 n (24:Int))),(eH .u8 (cZ .i64 n (16:Int))),(eH .u8 (cZ .i64 n (8:Int))),(eH .u8 (cZ .i64 n (0:Int)))])):=by kernel_rfl
theorem IE(n:Int): [eH .u8 (cZ .i64 n 56),eH .u8 (cZ .i64 n 48),eH .u8 (cZ .i64 n 40),eH .u8 (cZ .i64 n 32),eH .u8 (cZ .i64 n 24),eH .u8 (cZ .i64 n 16),eH .u8 (cZ .i64 n 8),eH .u8 (cZ .i64 n 0)]=mu n:=by
 rw[pN n 56 (by omega) (by omega),pN n 48 (by omega) (by omega),pN n 40 (by omega) (by omega),pN n 32 (by omega) (by omega),pN n 24 (by omega) (by omega),pN n 16 (by omega) (by omega),pN n 8 (by omega) (by omega),pN n 0 (by omega) (by omega)]
 simp[mu]
theorem hZ.ok:hZ.Ok:=by
 intro n _
 rw[hZ.eq,IE]
 rfl
def hZ.E:=Entry.dp [none,some ti] hZ.st hZ.aw hZ.add hZ.F hZ.out
def hZ.call:hZ.D->Option hZ.X:=cj hZ.E hZ.st
theorem hZ.run:cl hZ.call hZ.aw hZ.add hZ.F:=dw (du [.d ti] λ_=>by kernel_rfl)
def hZ.sg:SG Tryz.prog:=⟨105,LP,hZ.E,.fn 1 (by kernel_rfl) hZ.ok (And.intro (.none (by kernel_rfl)) trivial)⟩
abbrev fY.D:=Nat×Int×Bs
def fY.st:fY.D->SA:=λ(bL,n,o0)=>([.dh (.ew 0) 0 [] 0 0 bL,.d ti n],[.obj 0 false (.vec 5 tb o0)])
abbrev fY.Y:=Nat×(List Int)
abbrev fY.X:=Nat×(List Int)
def fY.out:fY.X->aZ:=λx=>⟨.dh (.ew 0) 8 [] 0 0 x.1,[.obj 8 false (.vec 5 tb x.2)],[]⟩
def fY.add:fY.D->fY.Y->fY.X:=λ(bL,n,o0) y=>y
def fY.aw:fY.D->Prop:=λ(m,n,l)=>m=l.length/\l.length<=140737488355320
def fY.F:fY.D->fY.Y:=λ(m,n,l)=>(l.length+8,l++mu n)
def fY.G:fD:=gz (P:=Tryz.prog) []
def fY.an:fT:= {loops:=oF [(2,{bS:=[0,1,5],sites:=[16]})],outs:=oE [(2,{bS:=[0],sites:=[16]},{bS:=[4],sites:=[16]})]}
def fY.A:= @dq Tryz.prog fY.G fY.an 12 Tryz.f105 _ fY.st
abbrev fY.Ok:=dr @fY.A fY.aw fY.add fY.F fY.out
theorem fY.eq{R:Type}(bL:Nat)(n:Int)(o0:Bs)(k:aZ->Option R):fY.A (bL,n,o0) k=
 aJ (decide (bL<=(List.length o0))) (
 aJ (fk (bL+1) 1) (
 aJ (decide ((bL+1)<=(List.length ((List.take bL o0)++ [(eH .u8 (cZ .i64 n (56:Int)))])))) (
 aJ (fk ((bL+1)+1) 1) (
 aJ (decide (((bL+1)+1)<=(List.length ((List.take (bL+1) ((List.take bL o0)++ [(eH .u8 (cZ .i64 n (56:Int)))]))++ [(eH .u8 (cZ .i64 n (48:Int)))])))) (
 aJ (fk (((bL+1)+1)+1) 1) (
 aJ (decide ((((bL+1)+1)+1)<=(List.length ((List.take ((bL+1)+1) ((List.take (bL+1) ((List.take bL o0)++ [(eH .u8 (cZ .i64 n (56:Int)))]))++ [(eH .u8 (cZ .i64 n (48:Int)))]))++ [(eH .u8 (cZ .i64 n (40:Int)))])))) (
 aJ (fk ((((bL+1)+1)+1)+1) 1) (
 aJ (decide (((((bL+1)+1)+1)+1)<=(List.length ((List.take (((bL+1)+1)+1) ((List.take ((bL+1)+1) ((List.take (bL+1) ((List.take bL o0)++ [(eH .u8 (cZ .i64 n (56:Int)))]))++ [(eH .u8 (cZ .i64 n (48:Int)))]))++ [(eH .u8 (cZ .i64 n (40:Int)))]))++ [(eH .u8 (cZ .i64 n (32:Int)))])))) (
 aJ (fk (((((bL+1)+1)+1)+1)+1) 1) (
 aJ (decide ((((((bL+1)+1)+1)+1)+1)<=(List.length ((List.take ((((bL+1)+1)+1)+1) ((List.take (((bL+1)+1)+1) ((List.take ((bL+1)+1) ((List.take (bL+1) ((List.take bL o0)++ [(eH .u8 (cZ .i64 n (56:Int)))]))++ [(eH .u8 (cZ .i64 n (48:Int)))]))++ [(eH .u8 (cZ .i64 n (40:Int)))]))++ [(eH .u8 (cZ .i64 n (32:Int)))]))++ [(eH .u8 (cZ .i64 n (24:Int)))])))) (
 aJ (fk ((((((bL+1)+1)+1)+1)+1)+1) 1) (
 aJ (decide (((((((bL+1)+1)+1)+1)+1)+1)<=(List.length ((List.take (((((bL+1)+1)+1)+1)+1) ((List.take ((((bL+1)+1)+1)+1) ((List.take (((bL+1)+1)+1) ((List.take ((bL+1)+1) ((List.take (bL+1) ((List.take bL o0)++ [(eH .u8 (cZ .i64 n (56:Int)))]))++ [(eH .u8 (cZ .i64 n (48:Int)))]))++ [(eH .u8 (cZ .i64 n (40:Int)))]))++ [(eH .u8 (cZ .i64 n (32:Int)))]))++ [(eH .u8 (cZ .i64 n (24:Int)))]))++ [(eH .u8 (cZ .i64 n (16:Int)))])))) (
 aJ (fk (((((((bL+1)+1)+1)+1)+1)+1)+1) 1) (
 aJ (decide ((((((((bL+1)+1)+1)+1)+1)+1)+1)<=(List.length ((List.take ((((((bL+1)+1)+1)+1)+1)+1) ((List.take (((((bL+1)+1)+1)+1)+1) ((List.take ((((bL+1)+1)+1)+1) ((List.take (((bL+1)+1)+1) ((List.take ((bL+1)+1) ((List.take (bL+1) ((List.take bL o0)++ [(eH .u8 (cZ .i64 n (56:Int)))]))++ [(eH .u8 (cZ .i64 n (48:Int)))]))++ [(eH .u8 (cZ .i64 n (40:Int)))]))++ [(eH .u8 (cZ .i64 n (32:Int)))]))++ [(eH .u8 (cZ .i64 n (24:Int)))]))++ [(eH .u8 (cZ .i64 n (16:Int)))]))++ [(eH .u8 (cZ .i64 n (8:Int)))])))) (
 aJ (fk ((((((((bL+1)+1)+1)+1)+1)+1)+1)+1) 1) (
 k (fY.out (((((((((bL+1)+1)+1)+1)+1)+1)+1)+1),((List.take (((((((bL+1)+1)+1)+1)+1)+1)+1) ((List.take ((((((bL+1)+1)+1)+1)+1)+1) ((List.take (((((bL+1)+1)+1)+1)+1) ((List.take ((((bL+1)+1)+1)+1) ((List.take (((bL+1)+1)+1) ((List.take ((bL+1)+1) ((List.take (bL+1) ((List.take bL o0)++ [(eH .u8 (cZ .i64 n (56:Int)))]))++ [(eH .u8 (cZ .i64 n (48:Int)))]))++ [(eH .u8 (cZ .i64 n (40:Int)))]))++ [(eH .u8 (cZ .i64 n (32:Int)))]))++ [(eH .u8 (cZ .i64 n (24:Int)))]))++ [(eH .u8 (cZ .i64 n (16:Int)))]))++ [(eH .u8 (cZ .i64 n (8:Int)))]))++ [(eH .u8 (cZ .i64 n (0:Int)))])))) none) none) none) none) none) none) none) none) none) none) none) none) none) none) none) none:=by kernel_rfl
theorem fY.ok:fY.Ok:=by
 rintro⟨m,n,l⟩ ⟨rfl,hl⟩
 have hl:l.length<=140737488355320:=hl
 rw[fY.eq]
 simp only[aC,decide_true,ah,cn,ae,aN,bJ,bl]
 rw[uC (by omega),uC (by omega),uC (by omega),uC (by omega),uC (by omega),uC (by omega),uC (by omega),uC (by omega)]
 simp only[ah,fY.add,fY.F,<-IE,bR,kz,bu]
def fY.E:=Entry.dp [none,some ti] fY.st fY.aw fY.add fY.F fY.out
def fY.call:fY.D->Option fY.X:=cj fY.E fY.st
theorem fY.run:cl fY.call fY.aw fY.add fY.F:=dw (du [.n,.d ti,.d tB] λ_=>by kernel_rfl)
def fY.sg:SG Tryz.prog:=⟨105,Md,fY.E,.fn 1 (by kernel_rfl) fY.ok (And.intro (.none (by kernel_rfl)) trivial)⟩
abbrev bh.L0.D:=Bs×Nat×Bs×(List Int)
def bh.L0.st:bh.L0.D->AS:=λ(oB,endL,n2,BD)=>⟨([.d tB oB,.undef,.ptr (.new 2 0) 0 [] 0,.dh (.new 14 0) 0 [] 0 0 endL]++bG 61 []),[],([[],[],[.obj 0 false (.d tH n2)]]++db 11 ([[.obj 0 false (.vec 5 tb BD)]]++db 50 []))⟩
abbrev bh.L0.Y0:=Nat×(List Int)
abbrev bh.L0.X0:=(Bs×Bs)×(Nat×(List Int))
def bh.L0.bV:bh.L0.X0->Exit×AS:=λx=>(.exit 0,⟨([.d tB x.1.1,.undef,.ptr (.new 2 0) 0 [] 0,.dh (.new 14 0) 0 [] 0 0 x.2.1]++bG 61 []),[],([[],[],[.obj 0 false (.d tH x.1.2)]]++db 11 ([[.obj 0 false (.vec 5 tb x.2.2)]]++db 50 []))⟩)
abbrev bh.L0.X:=bh.L0.X0
abbrev bh.L0.Y:=bh.L0.Y0
def bh.L0.out:bh.L0.X->Out (Exit×AS):=λx=> .ok (bh.L0.bV x)
def bh.L0.add:bh.L0.D->bh.L0.Y->bh.L0.X:=λ(oB,endL,n2,BD) y=>((oB,n2),y)
abbrev bh.L1.D:=Bs×Nat×Bs×(List Int)×(List Int)
def bh.L1.st:bh.L1.D->AS:=λ(DE,vU,lS,n4,AQ)=>⟨([.d tB DE,.undef,.ptr (.new 2 0) 0 [] 0,.dh (.new 14 0) 8 [] 0 0 vU,.ptr (.new 4 0) 0 [] 0]++bG 60 []),[],([[],[],[.obj 0 false (.d tH lS)],[],[.obj 0 false (.d (.arr 8 (.int .u32)) n4)]]++db 9 ([[.obj 8 false (.vec 5 tb AQ)]]++db 50 []))⟩
abbrev bh.L1.Y0:=(List Int)
abbrev bh.L1.X0:=(Nat×Bs×(List Int))×((List Int))
def bh.L1.bV:bh.L1.X0->Exit×AS:=λx=>(.exit 2,⟨([.undef,.undef,.ptr (.new 2 0) 0 [] 0,.dh (.new 14 0) 8 [] 0 0 x.1.1,.ptr (.new 4 0) 0 [] 0]++bG 60 []),[],([[],[],[.obj 0 false (.d tH x.1.2.1)],[],[.obj 0 false (.d (.arr 8 (.int .u32)) x.2)]]++db 9 ([[.obj 8 false (.vec 5 tb x.1.2.2)]]++db 50 []))⟩)
abbrev bh.L1.X:=bh.L1.X0
abbrev bh.L1.Y:=bh.L1.Y0
def bh.L1.out:bh.L1.X->Out (Exit×AS):=λx=> .ok (bh.L1.bV x)
def bh.L1.add:bh.L1.D->bh.L1.Y->bh.L1.X:=λ(DE,vU,lS,n4,AQ) y=>((vU,lS,AQ),y)
abbrev bh.L2.D:=Bs×Bs×(List Int)
def bh.L2.st:bh.L2.D->AS:=λ(endv,rp,nF)=>⟨([.undef,.undef,.ptr (.new 2 0) 0 [] 0,.d tB endv,.ptr (.new 4 0) 0 [] 0]++bG 60 []),[],([[],[],[.obj 0 false (.d tH rp)],[],[.obj 0 false (.d (.arr 8 (.int .u32)) nF)]]++db 60 [])⟩
abbrev bh.L2.Y0:=(List Int)
abbrev bh.L2.X0:=(Bs)×((List Int))
def bh.L2.bV:bh.L2.X0->Exit×AS:=λx=>(.exit 4,⟨([.undef,.undef,.ptr (.new 2 0) 0 [] 0,.undef,.ptr (.new 4 0) 0 [] 0]++bG 60 []),[],([[],[],[.obj 0 false (.d tH x.1)],[],[.obj 0 false (.d (.arr 8 (.int .u32)) x.2)]]++db 60 [])⟩)
abbrev bh.L2.X:=bh.L2.X0
abbrev bh.L2.Y:=bh.L2.Y0
def bh.L2.out:bh.L2.X->Out (Exit×AS):=λx=> .ok (bh.L2.bV x)
def bh.L2.add:bh.L2.D->bh.L2.Y->bh.L2.X:=λ(endv,rp,nF) y=>(rp,y)
abbrev bh.L3.D:=Int×Bs×(List Int)
def bh.L3.st:bh.L3.D->AS:=λ(t48,FT,qL)=>⟨([.undef,.undef,.ptr (.new 2 0) 0 [] 0,.undef,.ptr (.new 4 0) 0 [] 0]++bG 43 ([.d ti t48]++bG 16 [])),[],([[],[],[.obj 0 false (.d tH FT)],[],[.obj 0 false (.d (.arr 8 (.int .u32)) qL)]]++db 60 [])⟩
abbrev bh.L3.Y0:=Bs
abbrev bh.L3.X0:=Bs
def bh.L3.bV:bh.L3.X0->Exit×AS:=λx=>(.exit 6,⟨([.undef,.undef,.ptr (.new 2 0) 0 [] 0]++bG 62 []),[],([[],[],[.obj 0 false (.d tH x)]]++db 62 [])⟩)
abbrev bh.L3.X:=bh.L3.X0
abbrev bh.L3.Y:=bh.L3.Y0
def bh.L3.out:bh.L3.X->Out (Exit×AS):=λx=> .ok (bh.L3.bV x)
def bh.L3.add:bh.L3.D->bh.L3.Y->bh.L3.X:=λ(t48,FT,qL) y=>y
abbrev bh.D:=Bs
def bh.st:bh.D->SA:=λb=>([.d tB b],[])
abbrev bh.Y:=Bs
abbrev bh.X:=Bs
def bh.out:bh.X->aZ:=λx=>⟨.d tH x,[],[]⟩
def bh.add:bh.D->bh.Y->bh.X:=λb y=>y
def zc(n:Nat):Nat:=(120 - n%64)%64
def bh.L0.aw:bh.L0.D->Prop:=λ(b,m,n2,l)=>m=l.length/\l.length+zc l.length<=140737488355328
def bh.L0.F:bh.L0.D->bh.L0.Y:=λ(b,m,n2,l)=>(l.length+zc l.length,l++List.replicate (zc l.length) 0)
def bh.L1.aw:bh.L1.D->Prop:=λ(b,m,n2,h,l)=>∃s:St,h=s.l
def bh.L1.F:bh.L1.D->bh.L1.Y:=λ(b,m,n2,h,l)=>(blocks (Gd h) b).l
def bh.L2.aw:bh.L2.D->Prop:=λ(b,n2,h)=>b.length%64=0/\∃s:St,h=s.l
def bh.L2.F:bh.L2.D->bh.L2.Y:=λ(b,n2,h)=>(blocks (Gd h) b).l
def xk(h:List Int)(i:Nat)(_:Int):Int:=eH .u8 (cZ .u32 (nth (.int .u32) h (i / 4)) ((24 - 8*(i%4):Nat):Int))
def bh.L3.aw:bh.L3.D->Prop:=λ(t,n2,h)=>n2.length=32/\h.length=8/\∃k:Nat,k<=32/\t=k
def bh.L3.F:bh.L3.D->bh.L3.Y:=λ(t,n2,h)=>from_ (xk h) t.toNat n2
def bh.aw:bh.D->Prop:=λb=>b.length<=140737488350000
def bh.F:bh.D->bh.Y:=λb=>Sq b
def bh.G:fD:=gz (P:=Tryz.prog) [fc.sg,fY.sg,first.sg,mix.sg]
def bh.L0.E:=cV.dp bh.L0.st bh.L0.aw bh.L0.add bh.L0.F bh.L0.out
def bh.L0.call:bh.L0.D->Option bh.L0.X:=eI bh.L0.E bh.L0.st
def bh.L1.E:=cV.dp bh.L1.st bh.L1.aw bh.L1.add bh.L1.F bh.L1.out
def bh.L1.call:bh.L1.D->Option bh.L1.X:=eI bh.L1.E bh.L1.st
def bh.L2.E:=cV.dp bh.L2.st bh.L2.aw bh.L2.add bh.L2.F bh.L2.out
def bh.L2.call:bh.L2.D->Option bh.L2.X:=eI bh.L2.E bh.L2.st
def bh.L3.E:=cV.dp bh.L3.st bh.L3.aw bh.L3.add bh.L3.F bh.L3.out
def bh.L3.call:bh.L3.D->Option bh.L3.X:=eI bh.L3.E bh.L3.st
def bh.an:fT:= {loops:=oF [(2,{bS:=[0,2,3],sites:=[2,14],nB:=[⟨3,[],14,135⟩]}),(6,{bS:=[0,2,3,4],sites:=[2,4,14]}),(9,{bS:=[2,3,4],sites:=[2,4],data:=[(3,tB)]}),(13,{bS:=[2,4,48],sites:=[2,4]})],outs:=oE [(2,{bS:=[0,2,3],sites:=[2,14]},{bS:=[2]}),(6,{bS:=[2,3,4],sites:=[2,4,14]},{bS:=[2]}),(9,{bS:=[2,4],sites:=[2,4]},{bS:=[2]}),(13,{bS:=[2],sites:=[2]},{bS:=[2]})],jw:=pL [(2,bh.L0.E),(6,bh.L1.E),(9,bh.L2.E),(13,bh.L3.E)]}
def bh.A:= @dq Tryz.prog bh.G bh.an 0 Tryz.f106 _ bh.st
abbrev bh.Ok:=dr @bh.A bh.aw bh.add bh.F bh.out
def bh.L0.R:= @dn Tryz.prog bh.G bh.an 0 Tryz.f106 0 _ bh.L0.st
abbrev bh.L0.Ok:=gw Tryz.prog bh.G bh.an 0 Tryz.f106 0 bh.L0.st bh.L0.aw bh.L0.add bh.L0.F bh.L0.out
def bh.L1.R:= @dn Tryz.prog bh.G bh.an 0 Tryz.f106 1 _ bh.L1.st
abbrev bh.L1.Ok:=gw Tryz.prog bh.G bh.an 0 Tryz.f106 1 bh.L1.st bh.L1.aw bh.L1.add bh.L1.F bh.L1.out
def bh.L2.R:= @dn Tryz.prog bh.G bh.an 0 Tryz.f106 2 _ bh.L2.st
abbrev bh.L2.Ok:=gw Tryz.prog bh.G bh.an 0 Tryz.f106 2 bh.L2.st bh.L2.aw bh.L2.add bh.L2.F bh.L2.out
def bh.L3.R:= @dn Tryz.prog bh.G bh.an 0 Tryz.f106 3 _ bh.L3.st
abbrev bh.L3.Ok:=gw Tryz.prog bh.G bh.an 0 Tryz.f106 3 bh.L3.st bh.L3.aw bh.L3.add bh.L3.F bh.L3.out
theorem bh.L0.run:cl bh.L0.call bh.L0.aw bh.L0.add bh.L0.F:=gT (gS [.d tB,.n,.d tB,.d tB] λ_=>by kernel_rfl)
theorem bh.L0.aI:jk @bh.L0.R bh.L0.st bh.L0.aw bh.L0.add bh.L0.F bh.L0.bV bh.L0.Ok:=jm
theorem bh.L0.step{R:Type}(oB:Bs)(endL:Nat)(n2:Bs)(BD:(List Int))(kn:AS->Option R)(kx:Exit->AS->Option R):bh.L0.R (oB,endL,n2,BD) kn kx=
  aJ ((rN (fU ((endL:Nat):Int) (64:Int)) (56:Int))) (
   aJ (decide (endL<=(List.length BD))) (
   aJ (fk (endL+1) 1) (
   kn (bh.L0.st (oB,(endL+1),n2,((List.take endL BD)++ [(0:Int)])))) none) none) (
   kx (bh.L0.bV ((oB,n2),(endL,BD))).1 (bh.L0.bV ((oB,n2),(endL,BD))).2):=by kernel_rfl
theorem bh.L1.run:cl bh.L1.call bh.L1.aw bh.L1.add bh.L1.F:=gT (gS [.d tB,.n,.d tB,.d (.slice (.int .u32)),.d tB] λ_=>by kernel_rfl)
theorem bh.L1.aI:jk @bh.L1.R bh.L1.st bh.L1.aw bh.L1.add bh.L1.F bh.L1.bV bh.L1.Ok:=jm
theorem bh.L1.step{R:Type}(DE:Bs)(vU:Nat)(lS:Bs)(n4:(List Int))(AQ:(List Int))(kn:AS->Option R)(kx:Exit->AS->Option R):bh.L1.R (DE,vU,lS,n4,AQ) kn kx=
  aJ ((qz (((List.length DE):Nat):Int) (64:Int))) (
   aJ (inc (64:Int) (((List.length DE):Nat):Int)) (
   aj (mix.call (n4,(cut DE 0 64))) λx1=>
   aJ (inc (64:Int) (((List.length DE):Nat):Int)) (
   kn (bh.L1.st ((cut DE 64 ((List.length DE) - 64)),vU,lS,x1,AQ))) none) none) (
   kx (bh.L1.bV ((vU,lS,AQ),n4)).1 (bh.L1.bV ((vU,lS,AQ),n4)).2):=by kernel_rfl
theorem bh.L2.run:cl bh.L2.call bh.L2.aw bh.L2.add bh.L2.F:=gT (gS [.d tB,.d tB,.d (.slice (.int .u32))] λ_=>by kernel_rfl)
theorem bh.L2.aI:jk @bh.L2.R bh.L2.st bh.L2.aw bh.L2.add bh.L2.F bh.L2.bV bh.L2.Ok:=jm
theorem bh.L2.step{R:Type}(endv:Bs)(rp:Bs)(nF:(List Int))(kn:AS->Option R)(kx:Exit->AS->Option R):bh.L2.R (endv,rp,nF) kn kx=
  aJ ((so (((List.length endv):Nat):Int) (0:Int))) (
   aJ (inc (64:Int) (((List.length endv):Nat):Int)) (
   aj (mix.call (nF,(cut endv 0 64))) λx1=>
   aJ (inc (64:Int) (((List.length endv):Nat):Int)) (
   kn (bh.L2.st ((cut endv 64 ((List.length endv) - 64)),rp,x1))) none) none) (
   kx (bh.L2.bV (rp,nF)).1 (bh.L2.bV (rp,nF)).2):=by kernel_rfl
theorem bh.L3.run:cl bh.L3.call bh.L3.aw bh.L3.add bh.L3.F:=gT (gS [.d ti,.d tB,.d (.slice (.int .u32))] λ_=>by kernel_rfl)
theorem bh.L3.aI:jk @bh.L3.R bh.L3.st bh.L3.aw bh.L3.add bh.L3.F bh.L3.bV bh.L3.Ok:=jm
theorem bh.L3.step{R:Type}(t48:Int)(FT:Bs)(qL:(List Int))(kn:AS->Option R)(kx:Exit->AS->Option R):bh.L3.R (t48,FT,qL) kn kx=
  aJ ((jK t48 (32:Int))) (
   aJ (fp (qw .i64 t48 (4:Int)) (8:Int)) (
   aJ (decide ((Int.toNat (qw .i64 t48 (4:Int))) < (List.length qL))) (
   aJ (decide ((((Int.toNat (qw .i64 t48 (4:Int)))*1)+0)=(0+((Int.toNat (qw .i64 t48 (4:Int)))*1)))) (
   aJ (nA (cY .i64 (24:Int) (gJ .i64 (8:Int) (fU t48 (4:Int))))) (
   aJ (fp t48 (32:Int)) (
   aJ (decide ((Int.toNat t48) < (List.length FT))) (
   aJ (decide ((((Int.toNat t48)*1)+0)=(0+((Int.toNat t48)*1)))) (
   aJ (decide ((Int.toNat t48) < (List.length FT))) (
   kn (bh.L3.st ((bO .i64 t48 (1:Int)),(List.set FT (Int.toNat t48) (eH .u8 (cZ .u32 (nth (.int .u32) qL (Int.toNat (qw .i64 t48 (4:Int)))) (cY .i64 (24:Int) (gJ .i64 (8:Int) (fU t48 (4:Int))))))),qL))) none) none) none) none) none) none) none) none) (
   kx (bh.L3.bV FT).1 (bh.L3.bV FT).2):=by kernel_rfl
theorem bh.eq{R:Type}(b:Bs)(k:aZ->Option R):bh.A b k=
 aJ (inc (cY .i64 (((List.length b):Nat):Int) (fU (((List.length b):Nat):Int) (64:Int))) (((List.length b):Nat):Int)) (
 aj (fc.call (cut b (Int.toNat (cY .i64 (((List.length b):Nat):Int) (fU (((List.length b):Nat):Int) (64:Int)))) ((List.length b) - (Int.toNat (cY .i64 (((List.length b):Nat):Int) (fU (((List.length b):Nat):Int) (64:Int))))))) λx1=>
 aJ (decide (x1.1<=(List.length x1.2))) (
 aJ (fk (x1.1+1) 1) (
 aj (bh.L0.call (b,(x1.1+1),(List.replicate 32 (0:Int)),((List.take x1.1 x1.2)++ [(128:Int)]))) λx2=>
 aj (fY.call (x2.2.1,(gJ .i64 (8:Int) (((List.length x2.1.1):Nat):Int)),x2.2.2)) λx3=>
 aj (first.call ()) λx4=>
 aj (bh.L1.call (x2.1.1,x3.1,x2.1.2,x4,x3.2)) λx6=>
 aJ (decide (0=0/\(0+x6.1.1)<=(List.length x6.1.2.2))) (
 aj (bh.L2.call ((cut x6.1.2.2 0 x6.1.1),x6.1.2.1,x6.2)) λx9=>
 aj (bh.L3.call ((0:Int),x9.1,x9.2)) λzm=>
 k (bh.out zm)) none) none) none) none:=by kernel_rfl
theorem bh.L0.ok:bh.L0.Ok:=by
 refine bh.L0.aI (λ(b,m,n2,l)=>zc l.length) ?_
 rintro⟨b,m,n2,l⟩ ⟨rfl,hl⟩
 have hl:l.length+zc l.length<=140737488355328:=hl
 have hr:fU ((l.length:Nat):Int) 64=((l.length%64:Nat):Int):=by
  unfold fU
  rw[jX (by omega)]
  omega
 by_cases h:l.length%64=56
 ·right
  intro R kn kx
  have hz:zc l.length=0:=by unfold zc;omega
  rw[bh.L0.step,hr,gK (by omega)]
  simp only[ai,bh.L0.add,bh.L0.F,hz,dE,List.replicate_zero,dg]
 ·left
  have hz:zc l.length=zc (l.length+1)+1:=by unfold zc;omega
  refine⟨(b,l.length+1,n2,l++ [0]),⟨by simp,by simp only[ae,aN,bJ,bl];omega⟩,by simp only[ae,aN,bJ,bl];omega,?_,λkn kx=> ?_⟩
  ·simp only[bh.L0.add,bh.L0.F,ae,aN,bJ,bl,hz,bR,kz,bu,List.replicate_succ]
   rw[show l.length+1+zc (l.length+1)=l.length+(zc (l.length+1)+1) by omega]
  ·rw[bh.L0.step,hr,kN (by omega),uC (by omega)]
   simp only[ah,aC,decide_true,cz]
theorem bh.L1.ok:bh.L1.Ok:=by
 refine bh.L1.aI (λ(b,m,n2,h,l)=>b.length) ?_
 rintro⟨b,m,n2,h,l⟩ ⟨s,rfl⟩
 by_cases hb:64<=b.length
 ·left
  have e1:cut b 64 (b.length - 64)=b.drop 64:=by unfold cut;rw[cn (by simp)]
  have e2:cut b 0 64=b.take 64:=rfl
  have hp:mix.aw (s.l,b.take 64):=⟨⟨s,rfl⟩,by simp;omega⟩
  refine⟨(b.drop 64,m,n2,(z9 s (b.take 64)).l,l),⟨_,rfl⟩,by simp;omega,?_,λkn kx=> ?_⟩
  ·simp only[bh.L1.add,bh.L1.F,nC]
   rw[vP s b hb]
  ·rw[bh.L1.step,lG (by omega),qc (by omega) (by omega),e1,e2]
   simp only[ah,mix.run hp,ab,mix.add,mix.F,nC]
 ·right
  intro R kn kx
  rw[bh.L1.step,iU (by omega)]
  simp only[ai,bh.L1.add,bh.L1.F,nC]
  rw[uL s b (by omega)]
theorem bh.L2.ok:bh.L2.Ok:=by
 refine bh.L2.aI (λ(b,n2,h)=>b.length) ?_
 rintro⟨b,n2,h⟩ ⟨hm,s,rfl⟩
 have hm:b.length%64=0:=hm
 by_cases hb:0 < b.length
 ·left
  have e1:cut b 64 (b.length - 64)=b.drop 64:=by unfold cut;rw[cn (by simp)]
  have e2:cut b 0 64=b.take 64:=rfl
  have hp:mix.aw (s.l,b.take 64):=⟨⟨s,rfl⟩,by simp;omega⟩
  refine⟨(b.drop 64,n2,(z9 s (b.take 64)).l),⟨by simp;omega,_,rfl⟩,by simp;omega,?_,λkn kx=> ?_⟩
  ·simp only[bh.L2.add,bh.L2.F,nC]
   rw[vP s b (by omega)]
  ·rw[bh.L2.step,fA (by omega),qc (by omega) (by omega),e1,e2]
   simp only[ah,mix.run hp,ab,mix.add,mix.F,nC]
 ·right
  intro R kn kx
  rw[bh.L2.step,dW (by omega)]
  simp only[ai,bh.L2.add,bh.L2.F,nC]
  rw[uL s b (by omega)]
theorem bh.L3.ok:bh.L3.Ok:=by
 refine bh.L3.aI (λ(t,n2,h)=>32 - t.toNat) ?_
 rintro⟨t,m,h⟩ ⟨hl,h8,k,hk,rfl⟩
 have hl:m.length=32:=hl
 have h8:h.length=8:=h8
 have e2:Int.toNat (k:Int)=k:=by omega
 have e3:Int.toNat ((k+1:Nat):Int)=k+1:=by omega
 by_cases mw:k < 32
 ·left
  have e1:bO .i64 (k:Int) 1=((k+1:Nat):Int):=by rw[ff (by omega) (by omega)];omega
  have q4:qw .i64 (k:Int) 4=((k / 4:Nat):Int):=by
   have:(k:Int).tdiv 4=((k / 4:Nat):Int):=by rw[lD (by omega)];omega
   unfold qw
   rw[this,rb (by omega) (by omega)]
  have r4:fU (k:Int) 4=((k%4:Nat):Int):=by
   unfold fU
   rw[jX (by omega)]
   omega
  have s4:cY .i64 24 (gJ .i64 8 ((k%4:Nat):Int))=((24 - 8*(k%4):Nat):Int):=by
   rw[nf (by omega) (by omega),gm (by omega) (by omega)]
   omega
  have e4:Int.toNat ((k / 4:Nat):Int)=k / 4:=by omega
  refine⟨(((k+1:Nat):Int),m.set k (xk h k m[k]),h),⟨by simpa using hl,h8,k+1,by omega,rfl⟩,by simp;omega,?_,λkn kx=> ?_⟩
  ·simp only[bh.L3.add,bh.L3.F,e2,e3]
   rw[wP (xk h) m k (by omega)]
  ·have d0:decide (k < 32)=true:=aO mw
   have d1:decide (k / 4 < 8)=true:=aO (by omega)
   rw[bh.L3.step,bI (by omega),q4,r4,s4,bF (by omega) (by omega),bF (by omega) (by omega),tq (by omega)]
   simp only[e1,e2,e4,kb,bl,dE,decide_true,ah,hl,h8,d0,d1,xk]
 ·right
  obtain rfl:k=32:=by omega
  intro R kn kx
  rw[bh.L3.step,bp (by omega)]
  simp only[ai,bh.L3.add,bh.L3.F,e2]
  rw[yy _ _ _ (by omega)]
theorem LS(w:W):BitVec.ofInt 8 (vw w)=w.setWidth 8:=by
 apply BitVec.eq_of_toNat_eq
 rw[pg,BitVec.toNat_setWidth]
 unfold vw
 omega
theorem Rc(w:W)(k:Int):eH .u8 (cZ .u32 (vw w) k)=vw ((w >>> k.toNat).setWidth 8):=by
 rw[v8,Cp,LS]
theorem Kx(s:St):from_ (xk s.l) 0 (List.replicate 32 0)=PU s:=by
 rw[Cc]
 simp only[List.range_eq_range',List.range',cG,jg,xk,Nat.reduceAdd,Nat.reduceDiv,Nat.reduceMod,Nat.reduceMul,Nat.reduceSub,n0,n1,n2,n3,n4,n5,n6,n7,Rc]
 rfl
theorem bh.ok:bh.Ok:=by
 intro b hb
 have hb:b.length<=140737488350000:=hb
 have hr:fU ((b.length:Nat):Int) 64=((b.length%64:Nat):Int):=by
  unfold fU
  rw[jX (by omega)]
  omega
 have hs:cY .i64 ((b.length:Nat):Int) ((b.length%64:Nat):Int)=((b.length - b.length%64:Nat):Int):=by
  rw[gm (by omega) (by omega)];omega
 have hn:Int.toNat ((b.length - b.length%64:Nat):Int)=b.length - b.length%64:=by omega
 have hm:gJ .i64 8 ((b.length:Nat):Int)=8*(b.length:Int):=nf (by omega) (by omega)
 generalize hq:b.length - b.length%64=q at hs hn
 have hc:cut b q (b.length - q)=b.drop q:=by unfold cut;rw[cn (by simp)]
 have Mo:(b.drop q).length=b.length%64:=by simp;omega
 have p1:fc.aw (b.drop q):=by show(b.drop q).length<=_;omega
 rw[bh.eq,hr,hs,qc (by omega) (by omega),hn,hc]
 simp only[ah,fc.run p1,ab,fc.add,fc.F,aC,decide_true,cz]
 have p2:bh.L0.aw (b,(b.drop q).length+1,List.replicate 32 0,b.drop q++ [128]):=by
  refine⟨by simp,?_⟩
  simp only[ae,aN,bJ,zc]
  omega
 have hz:zc (b.drop q++ [128]).length=sN b.length:=by
  simp only[ae,aN,bJ,zc,sN]
  omega
 rw[uC (by omega)]
 simp only[ah,bh.L0.run p2,ab,bh.L0.add,bh.L0.F,hm,hz]
 have hlen:(b.drop q++ [128]).length+sN b.length=(b.drop q++ [128]++List.replicate (sN b.length) 0).length:=by rw[@ae _ (b.drop q++ [128]),eo]
 have p3:fY.aw ((b.drop q++ [128]).length+sN b.length,8*(b.length:Int),b.drop q++ [128]++List.replicate (sN b.length) 0):=by
  refine⟨hlen,?_⟩
  simp only[ae,aN,bJ,eo,sN]
  omega
 have p4:bh.L1.aw (b,(b.drop q++ [128]++List.replicate (sN b.length) 0).length+8,List.replicate 32 0,px.l,b.drop q++ [128]++List.replicate (sN b.length) 0++mu (8*(b.length:Int))):=⟨px,rfl⟩
 simp only[fY.run p3,ab,fY.add,fY.F,first.run (d:=()) trivial,first.add,first.F,bh.L1.run p4,bh.L1.add,bh.L1.F,nC]
 generalize he:b.drop q++ [128]++List.replicate (sN b.length) 0++mu (8*(b.length:Int))=e
 have xe:(b.drop q++ [128]++List.replicate (sN b.length) 0).length+8=e.length:=by rw[<-he,@ae _ _ (mu _),dO]
 have SW:e.length%64=0:=by
  rw[<-xe]
  simp only[ae,aN,bJ,eo,sN,Mo]
  omega
 have RD:cut e 0 ((b.drop q++ [128]++List.replicate (sN b.length) 0).length+8)=e:=by
  rw[xe];unfold cut;rw[aW,cz]
 rw[RD,xe,aO ⟨trivial,by omega⟩]
 have p5:bh.L2.aw (e,List.replicate 32 0,(blocks px b).l):=⟨SW,blocks px b,rfl⟩
 have p6:bh.L3.aw (0,List.replicate 32 0,(blocks (blocks px b) e).l):=⟨rfl,rfl,0,by omega,rfl⟩
 simp only[ah,bh.L2.run p5,ab,bh.L2.add,bh.L2.F,nC,bh.L3.run p6,bh.L3.add,bh.L3.F,bh.add,bh.F]
 rw[show Int.toNat 0=0 from rfl,Kx]
 have SS:blocks px (pad b)=blocks (blocks px b) e:=by
  have h1:pad b=b.take q++e:=by
   rw[<-he]
   unfold pad
   rw[bR,bR,<-bR (b.take q),fQ]
   rfl
  have h2:blocks px b=blocks (blocks px (b.take q)) (b.drop q):=by
   rw[<-xj _ _ _ (by simp;omega),fQ]
  rw[h1,xj _ _ _ (by simp;omega),h2,uL _ (b.drop q) (by omega)]
 rw[Sq,SS]
def bh.E:=Entry.dp [some tB] bh.st bh.aw bh.add bh.F bh.out
def bh.call:bh.D->Option bh.X:=cj bh.E bh.st
theorem bh.run:cl bh.call bh.aw bh.add bh.F:=dw (du [.d tB] λ_=>by kernel_rfl)
def bh.sg:SG Tryz.prog:=⟨106,aP,bh.E,.fn 4 (by kernel_rfl) bh.ok (And.intro (.dp bh.L0.ok (by kernel_rfl)) (And.intro (.dp bh.L1.ok (by kernel_rfl)) (And.intro (.dp bh.L2.ok (by kernel_rfl)) (And.intro (.dp bh.L3.ok (by kernel_rfl)) trivial))))⟩
abbrev dH.L0.D:=Nat×(List Bs)×Int×Int×Bs×(List Int)
def dH.L0.st:dH.L0.D->AS:=λ(bL,t13,t14,t15,n4,BC)=>⟨(bG 4 ([.ptr (.new 4 0) 0 [] 0,.dh (.new 10 0) 0 [] 0 0 bL]++bG 7 ([.d (.slice tB) t13,.d ti t14,.d ti t15]++bG 12 []))),[],(db 4 ([[.obj 0 false (.d tH n4)]]++db 5 ([[.obj 0 false (.vec 5 tb BC)]]++db 17 [])))⟩
abbrev dH.L0.Y0:=Nat×(List Int)
abbrev dH.L0.X0:=(Bs)×(Nat×(List Int))
def dH.L0.bV:dH.L0.X0->Exit×AS:=λx=>(.exit 0,⟨(bG 4 ([.ptr (.new 4 0) 0 [] 0,.dh (.new 10 0) 0 [] 0 0 x.2.1]++bG 22 [])),[],(db 4 ([[.obj 0 false (.d tH x.1)]]++db 5 ([[.obj 0 false (.vec 5 tb x.2.2)]]++db 17 [])))⟩)
abbrev dH.L0.X:=dH.L0.X0
abbrev dH.L0.Y:=dH.L0.Y0
def dH.L0.out:dH.L0.X->Out (Exit×AS):=λx=> .ok (dH.L0.bV x)
def dH.L0.add:dH.L0.D->dH.L0.Y->dH.L0.X:=λ(bL,t13,t14,t15,n4,BC) y=>(n4,y)
abbrev dH.D:=ByteArray×(List Bs)
def dH.st:dH.D->SA:=λ(name,parts)=>([.d .str name,.d (.slice tB) parts],[])
abbrev dH.Y:=Bs
abbrev dH.X:=Bs
def dH.out:dH.X->aZ:=λx=>⟨.d tH x,[],[]⟩
def dH.add:dH.D->dH.Y->dH.X:=λ(name,parts) y=>y
def dH.L0.aw:dH.L0.D->Prop:=λ(m,ps,n,i,n4,l)=>m=l.length/\n=ps.length/\ps.length<=140737488350000/\∃k:Nat,k<=ps.length/\i=k/\l.length+(nG (ps.drop k)).length<=140737488350000
def dH.L0.F:dH.L0.D->dH.L0.Y:=λ(m,ps,n,i,n4,l)=>(l.length+(nG (ps.drop i.toNat)).length,l++nG (ps.drop i.toNat))
def dH.aw:dH.D->Prop:=λ(name,ps)=>(Aq (cr name) ps).length<=140737488350000
def dH.F:dH.D->dH.Y:=λ(name,ps)=>tag (cr name) ps
def dH.G:fD:=gz (P:=Tryz.prog) [hZ.sg,fY.sg,bh.sg]
def dH.L0.E:=cV.dp dH.L0.st dH.L0.aw dH.L0.add dH.L0.F dH.L0.out
def dH.L0.call:dH.L0.D->Option dH.L0.X:=eI dH.L0.E dH.L0.st
def dH.an:fT:= {loops:=oF [(3,{bS:=[4,5,13,14,15],sites:=[4,10],nB:=[⟨5,[],10,135⟩]})],outs:=oE [(3,{bS:=[4,5],sites:=[4,10]},{bS:=[4]})],jw:=pL [(3,dH.L0.E)]}
def dH.A:= @dq Tryz.prog dH.G dH.an 0 Tryz.f51 _ dH.st
abbrev dH.Ok:=dr @dH.A dH.aw dH.add dH.F dH.out
def dH.L0.R:= @dn Tryz.prog dH.G dH.an 0 Tryz.f51 0 _ dH.L0.st
abbrev dH.L0.Ok:=gw Tryz.prog dH.G dH.an 0 Tryz.f51 0 dH.L0.st dH.L0.aw dH.L0.add dH.L0.F dH.L0.out
theorem dH.L0.run:cl dH.L0.call dH.L0.aw dH.L0.add dH.L0.F:=gT (gS [.n,.d (.slice tB),.d ti,.d ti,.d tB,.d tB] λ_=>by kernel_rfl)
theorem dH.L0.aI:jk @dH.L0.R dH.L0.st dH.L0.aw dH.L0.add dH.L0.F dH.L0.bV dH.L0.Ok:=jm
theorem dH.L0.step{R:Type}(bL:Nat)(t13:(List Bs))(t14:Int)(t15:Int)(n4:Bs)(BC:(List Int))(kn:AS->Option R)(kx:Exit->AS->Option R):dH.L0.R (bL,t13,t14,t15,n4,BC) kn kx=
  aJ ((jK t15 t14)) (
   aJ (fp t15 (((List.length t13):Nat):Int)) (
   aj (fY.call (bL,(((List.length (nth tB t13 (Int.toNat t15))):Nat):Int),BC)) λx1=>
   aJ (decide (x1.1<=(List.length x1.2))) (
   aJ (fk (x1.1+(List.length (nth tB t13 (Int.toNat t15)))) 1) (
   kn (dH.L0.st ((x1.1+(List.length (nth tB t13 (Int.toNat t15)))),t13,t14,(bO .i64 t15 (1:Int)),n4,((List.take x1.1 x1.2)++(nth tB t13 (Int.toNat t15)))))) none) none) none) (
   kx (dH.L0.bV (n4,(bL,BC))).1 (dH.L0.bV (n4,(bL,BC))).2):=by kernel_rfl
theorem dH.eq{R:Type}(name:ByteArray)(parts:(List Bs))(k:aZ->Option R):dH.A (name,parts) k=
 aj (hZ.call (((ByteArray.size name):Nat):Int)) λx1=>
 aJ (decide (x1.1<=(List.length x1.2))) (
 aJ (fk (x1.1+(List.length (cr name))) 1) (
 aj (dH.L0.call ((x1.1+(List.length (cr name))),parts,(((List.length parts):Nat):Int),(0:Int),(List.replicate 32 (0:Int)),((List.take x1.1 x1.2)++(cr name)))) λx4=>
 aJ (decide (0=0/\(0+x4.2.1)<=(List.length x4.2.2))) (
 aj (bh.call (cut x4.2.2 0 x4.2.1)) λx5=>
 k (dH.out x5)) none) none) none:=by kernel_rfl
theorem E1(p:List Int)(ps:List (List Int)):nG (p::ps)=mu p.length++p++nG ps:=by simp[nG]
theorem E2(ps:List (List Int))(k:Nat)(h:k < ps.length):nG (ps.drop k)=mu ps[k].length++ps[k]++nG (ps.drop (k+1)):=by
 rw[aA h,E1]
theorem dH.L0.ok:dH.L0.Ok:=by
 refine dH.L0.aI (λ(m,ps,n,i,n4,l)=>ps.length - i.toNat) ?_
 rintro⟨m,ps,n,i,n4,l⟩ ⟨rfl,rfl,wR,k,hk,rfl,hl⟩
 have hl:l.length+(nG (ps.drop k)).length<=140737488350000:=hl
 have hk:k<=ps.length:=hk
 have e2:Int.toNat (k:Int)=k:=by omega
 have e3:Int.toNat ((k+1:Nat):Int)=k+1:=by omega
 by_cases h:k < ps.length
 ·left
  have ht:=E2 ps k h
  have hlen:(nG (ps.drop k)).length=8+ps[k].length+(nG (ps.drop (k+1))).length:=by rw[ht];simp only[ae,dO]
  have hn:nth (.slice (.int .u8)) ps k=ps[k]:=dP (t:= .slice (.int .u8)) h
  have wR:ps.length<=140737488350000:=wR
  have e1:bO .i64 (k:Int) 1=((k+1:Nat):Int):=by rw[ff (by omega) (by omega)];omega
  refine⟨((l++mu ps[k].length++ps[k]).length,ps,(ps.length:Int),((k+1:Nat):Int),n4,l++mu ps[k].length++ps[k]),⟨rfl,rfl,wR,k+1,by show k+1<=ps.length;omega,rfl,?_⟩,?_,?_,λkn kx=> ?_⟩
  ·show(l++mu ps[k].length++ps[k]).length+(nG (ps.drop (k+1))).length<=_
   simp only[ae,dO];omega
  ·show ps.length - Int.toNat ((k+1:Nat):Int) < ps.length - Int.toNat (k:Int)
   omega
  ·simp only[dH.L0.add,dH.L0.F,e2,e3,ht,bR]
   simp only[ae,dO,gY]
  ·have p1:fY.aw (l.length,(ps[k].length:Int),l):=⟨rfl,by show l.length<=_;omega⟩
   rw[dH.L0.step,bI (by omega),bF (by omega) (by omega),e1,e2]
   simp only[ah,hn,fY.run p1,ab,fY.add,fY.F]
   have Pr:(l++mu ps[k].length).length=l.length+8:=by simp[dO]
   rw[Pr,aO (aC _),uC (by omega)]
   simp only[ah]
   rw[cn (by rw[Pr];omega)]
   simp only[ae,dO,gY]
 ·right
  obtain rfl:k=ps.length:=by omega
  intro R kn kx
  rw[dH.L0.step,bp (by omega)]
  simp only[ai,dH.L0.add,dH.L0.F,e2,bH]
  simp[nG]
theorem Dk:∀ps:List (List Int),8*ps.length<=(nG ps).length
 |[]=>by simp[nG]
 |p::ps=>by
  rw[E1]
  have:=Dk ps
  simp only[ae,dO,aN]
  omega
theorem lX(s:ByteArray):(cr s).length=s.size:=by simp only[cr,b8,eg];rfl
theorem dH.ok:dH.Ok:=by
 rintro⟨name,ps⟩ hp
 have hp:(mu (cr name).length++cr name++nG ps).length<=140737488350000:=hp
 have hl:(mu (cr name).length++cr name++nG ps).length=8+(cr name).length+(nG ps).length:=by simp only[ae,dO]
 have wR:=Dk ps
 have rM:((name.size:Nat):Int)=(((cr name).length:Nat):Int):=by rw[lX]
 rw[dH.eq,hZ.run (d:=((name.size:Nat):Int)) trivial,rM]
 simp only[ab,hZ.add,hZ.F,dO,aC,decide_true,ah]
 rw[uC (by omega),cn (by rw[dO];omega)]
 have p2:dH.L0.aw (8+(cr name).length,ps,(ps.length:Int),0,List.replicate 32 0,mu ((cr name).length:Int)++cr name):=by
  refine⟨by simp only[ae,dO],rfl,by show ps.length<=_;omega,0,bm _,rfl,?_⟩
  rw[aW]
  simp only[ae,dO]
  omega
 simp only[ah,dH.L0.run p2,ab,dH.L0.add,dH.L0.F,bK,aW]
 have Lu:cut (mu ((cr name).length:Int)++cr name++nG ps) 0 ((mu ((cr name).length:Int)++cr name).length+(nG ps).length)=Aq (cr name) ps:=by
  unfold cut
  rw[aW,cn (by simp only[ae];omega)]
  rfl
 have p3:bh.aw (Aq (cr name) ps):=hp
 rw[aO ⟨trivial,by simp only[ae];omega⟩,Lu]
 simp only[ah,bh.run p3,ab,bh.add,bh.F,dH.add,dH.F,tag]
def dH.E:=Entry.dp [some .str,some (.slice tB)] dH.st dH.aw dH.add dH.F dH.out
def dH.call:dH.D->Option dH.X:=cj dH.E dH.st
theorem dH.run:cl dH.call dH.aw dH.add dH.F:=dw (du [.d .str,.d (.slice tB)] λ_=>by kernel_rfl)
def dH.sg:SG Tryz.prog:=⟨51,aP,dH.E,.fn 1 (by kernel_rfl) dH.ok (And.intro (.dp dH.L0.ok (by kernel_rfl)) trivial)⟩
abbrev fq.D:=Int×Int
def fq.st:fq.D->SA:=λ(x,n)=>([.d (.int .u32) x,.d ti n],[])
abbrev fq.Y:=Int
abbrev fq.X:=Int
def fq.out:fq.X->aZ:=λx=>⟨.d (.int .u32) x,[],[]⟩
def fq.add:fq.D->fq.Y->fq.X:=λ(x,n) y=>y
def fq.aw:fq.D->Prop:=λ(x,n)=>0<=x/\x < 4294967296/\0<=n/\n<=32
def fq.F:fq.D->fq.Y:=λ(x,n)=>vw (qO (BitVec.ofInt 32 x) n.toNat)
def fq.G:fD:=gz (P:=Tryz.prog) []
def fq.an:fT:= {}
def fq.A:= @dq Tryz.prog fq.G fq.an 0 Tryz.f187 _ fq.st
abbrev fq.Ok:=dr @fq.A fq.aw fq.add fq.F fq.out
theorem fq.eq{R:Type}(x:Int)(n:Int)(k:aZ->Option R):fq.A (x,n) k=
 aJ (nA n) (
 aJ (nA (cY .i64 (32:Int) n)) (
 k (fq.out (dC .or .u32 (cZ .u32 x n) (oJ .u32 x (cY .i64 (32:Int) n))))) none) none:=by kernel_rfl
theorem fq.ok:fq.Ok:=by
 rintro⟨x,n⟩ ⟨h1,h2,h3,h4⟩
 obtain⟨n,rfl⟩:=kR h3
 have hx:x=vw (BitVec.ofInt 32 x):=by rw[kP];have h1:0<=x:=h1;have h2:x < 4294967296:=h2;omega
 have h4:(n:Int)<=32:=h4
 rw[fq.eq]
 simp(disch:=omega) only[↓S1,↓if_pos,↓if_neg,if_pos,if_neg,if_true,if_false,S2]
 have e2:dC .or .u32 (cZ .u32 x (n:Int)) (oJ .u32 x ((32 - n:Nat):Int))=vw (qO (BitVec.ofInt 32 x) n):=by
  conv=>lhs;rw[hx]
  rw[yF,v8,ot]
  simp only[qO,aa]
  rw[BitVec.or_comm]
 rw[e2]
 rfl
def fq.E:=Entry.dp [some (.int .u32),some ti] fq.st fq.aw fq.add fq.F fq.out
def fq.call:fq.D->Option fq.X:=cj fq.E fq.st
theorem fq.run:cl fq.call fq.aw fq.add fq.F:=dw (du [.d (.int .u32),.d ti] λ_=>by kernel_rfl)
def fq.sg:SG Tryz.prog:=⟨187,aP,fq.E,.fn 0 (by kernel_rfl) fq.ok trivial⟩
theorem fq.at(w:W){k:Int}(h:0<=k/\k<=32):fq.call (vw w,k)=some (vw (qO w k.toNat)):=by
 have h:fq.aw (vw w,k):=⟨Ar w,by have:=OF w;simpa using this,h.1,h.2⟩
 rw[fq.run h]
 show some (vw (qO (BitVec.ofInt 32 (vw w)) k.toNat))=_
 rw[ql]
abbrev ed.D:=Unit
def ed.st:ed.D->SA:=λ_=>([],[])
abbrev ed.Y:=(List Int)
abbrev ed.X:=(List Int)
def ed.out:ed.X->aZ:=λx=>⟨.d (.slice (.int .u32)) x,[],[]⟩
def ed.add:ed.D->ed.Y->ed.X:=λ_ y=>y
def ed.aw:ed.D->Prop:=λ_=>True
def ed.F:ed.D->ed.Y:=λ_=>px.l
def ed.G:fD:=gz (P:=Tryz.prog) []
def ed.an:fT:= {da:=[1],res:=[some (.slice (.int .u32))]}
def ed.A:= @dq Tryz.prog ed.G ed.an 0 Tryz.f179 _ ed.st
abbrev ed.Ok:=dr @ed.A ed.aw ed.add ed.F ed.out
theorem ed.eq{R:Type}(k:aZ->Option R):ed.A () k=
 k (ed.out [(1779033703:Int),(3144134277:Int),(1013904242:Int),(2773480762:Int),(1359893119:Int),(2600822924:Int),(528734635:Int),(1541459225:Int)]):=by kernel_rfl
theorem ed.ok:ed.Ok:=by
 intro d _
 rw[ed.eq]
 rfl
def ed.E:=Entry.dp [] ed.st ed.aw ed.add ed.F ed.out
def ed.call:ed.D->Option ed.X:=cj ed.E ed.st
theorem ed.run:cl ed.call ed.aw ed.add ed.F:=dw (du [] λ_=>by kernel_rfl)
def ed.sg:SG Tryz.prog:=⟨179,aP,ed.E,.fn 0 (by kernel_rfl) ed.ok trivial⟩
abbrev ia.D:=Unit
def ia.st:ia.D->SA:=λ_=>([],[])
abbrev ia.Y:=(List Int)
abbrev ia.X:=(List Int)
def ia.out:ia.X->aZ:=λx=>⟨.d (.slice (.int .u32)) x,[],[]⟩
def ia.add:ia.D->ia.Y->ia.X:=λ_ y=>y
def ia.aw:ia.D->Prop:=λ_=>True
def ia.F:ia.D->ia.Y:=λ_=>zW
def ia.G:fD:=gz (P:=Tryz.prog) []
def ia.an:fT:= {da:=[1],res:=[some (.slice (.int .u32))]}
def ia.A:= @dq Tryz.prog ia.G ia.an 0 Tryz.f186 _ ia.st
abbrev ia.Ok:=dr @ia.A ia.aw ia.add ia.F ia.out
theorem ia.eq{R:Type}(k:aZ->Option R):ia.A () k=
 k (ia.out [(1116352408:Int),(1899447441:Int),(3049323471:Int),(3921009573:Int),(961987163:Int),(1508970993:Int),(2453635748:Int),(2870763221:Int),(3624381080:Int),(310598401:Int),(607225278:Int),(1426881987:Int),(1925078388:Int),(2162078206:Int),(2614888103:Int),(3248222580:Int),(3835390401:Int),(4022224774:Int),(264347078:Int),(604807628:Int),(770255983:Int),(1249150122:Int),(1555081692:Int),(1996064986:Int),(2554220882:Int),(2821834349:Int),(2952996808:Int),(3210313671:Int),(3336571891:Int),(3584528711:Int),(113926993:Int),(338241895:Int),(666307205:Int),(773529912:Int),(1294757372:Int),(1396182291:Int),(1695183700:Int),(1986661051:Int),(2177026350:Int),(2456956037:Int),(2730485921:Int),(2820302411:Int),(3259730800:Int),(3345764771:Int),(3516065817:Int),(3600352804:Int),(4094571909:Int),(275423344:Int),(430227734:Int),(506948616:Int),(659060556:Int),(883997877:Int),(958139571:Int),(1322822218:Int),(1537002063:Int),(1747873779:Int),(1955562222:Int),(2024104815:Int),(2227730452:Int),(2361852424:Int),(2428436474:Int),(2756734187:Int),(3204031479:Int),(3329325298:Int)]):=by kernel_rfl
theorem ia.ok:ia.Ok:=by
 intro d _
 rw[ia.eq]
 rfl
def ia.E:=Entry.dp [] ia.st ia.aw ia.add ia.F ia.out
def ia.call:ia.D->Option ia.X:=cj ia.E ia.st
theorem ia.run:cl ia.call ia.aw ia.add ia.F:=dw (du [] λ_=>by kernel_rfl)
def ia.sg:SG Tryz.prog:=⟨186,aP,ia.E,.fn 0 (by kernel_rfl) ia.ok trivial⟩
abbrev aG.L0.D:=Bs×Nat×(List Int)
def aG.L0.st:aG.L0.D->AS:=λ(oB,outL,n6)=>⟨([.d tB oB,.undef,.undef,.dh (.new 6 0) 0 [] 0 0 outL]++bG 31 []),[],(db 6 ([[.obj 0 false (.vec 5 tb n6)]]++db 28 []))⟩
abbrev aG.L0.Y0:=Nat×(List Int)
abbrev aG.L0.X0:=(Bs)×(Nat×(List Int))
def aG.L0.bV:aG.L0.X0->Exit×AS:=λx=>(.exit 0,⟨([.d tB x.1,.undef,.undef,.dh (.new 6 0) 0 [] 0 0 x.2.1]++bG 31 []),[],(db 6 ([[.obj 0 false (.vec 5 tb x.2.2)]]++db 28 []))⟩)
abbrev aG.L0.X:=aG.L0.X0
abbrev aG.L0.Y:=aG.L0.Y0
def aG.L0.out:aG.L0.X->Out (Exit×AS):=λx=> .ok (aG.L0.bV x)
def aG.L0.add:aG.L0.D->aG.L0.Y->aG.L0.X:=λ(oB,outL,n6) y=>(oB,y)
abbrev aG.L1.D:=Nat×Int×Int×(List Int)
def aG.L1.st:aG.L1.D->AS:=λ(tT,n,kv,pU)=>⟨([.undef,.undef,.undef,.dh (.new 6 0) 0 [] 0 0 tT,.d tu n,.d ti kv]++bG 29 []),[],(db 6 ([[.obj 0 false (.vec 5 tb pU)]]++db 28 []))⟩
abbrev aG.L1.Y0:=Nat×(List Int)
abbrev aG.L1.X0:=Nat×(List Int)
def aG.L1.bV:aG.L1.X0->Exit×AS:=λx=>(.exit 2,⟨([.undef,.undef,.undef,.dh (.new 6 0) 0 [] 0 0 x.1]++bG 31 []),[],(db 6 ([[.obj 0 false (.vec 5 tb x.2)]]++db 28 []))⟩)
abbrev aG.L1.X:=aG.L1.X0
abbrev aG.L1.Y:=aG.L1.Y0
def aG.L1.out:aG.L1.X->Out (Exit×AS):=λx=> .ok (aG.L1.bV x)
def aG.L1.add:aG.L1.D->aG.L1.Y->aG.L1.X:=λ(tT,n,kv,pU) y=>y
abbrev aG.D:=Bs
def aG.st:aG.D->SA:=λb=>([.d tB b],[])
abbrev aG.Y:=Bs
abbrev aG.X:=Bs
def aG.out:aG.X->aZ:=λx=>⟨.d tB x,[],[]⟩
def aG.add:aG.D->aG.Y->aG.X:=λb y=>y
def aG.L0.aw:aG.L0.D->Prop:=λ(b,m,l)=>m=l.length/\l.length+zc l.length<=140737488355328
def aG.L0.F:aG.L0.D->aG.L0.Y:=λ(b,m,l)=>(l.length+zc l.length,l++List.replicate (zc l.length) 0)
def aG.L1.aw:aG.L1.D->Prop:=λ(m,n,kv,l)=>0<=n/\n < 18446744073709551616/\∃j:Nat,j<=8/\kv=56 - 8*(j:Int)/\m=l.length/\l.length<=140737488355320+j
def aG.L1.F:aG.L1.D->aG.L1.Y:=λ(m,n,kv,l)=>(l.length+(mu n).length - (7 - (kv / 8)).toNat,l++(mu n).drop (7 - (kv / 8)).toNat)
def aG.aw:aG.D->Prop:=λb=>b.length<=140737488350000
def aG.F:aG.D->aG.Y:=λb=>pad b
def aG.G:fD:=gz (P:=Tryz.prog) []
def aG.L0.E:=cV.dp aG.L0.st aG.L0.aw aG.L0.add aG.L0.F aG.L0.out
def aG.L0.call:aG.L0.D->Option aG.L0.X:=eI aG.L0.E aG.L0.st
def aG.L1.E:=cV.dp aG.L1.st aG.L1.aw aG.L1.add aG.L1.F aG.L1.out
def aG.L1.call:aG.L1.D->Option aG.L1.X:=eI aG.L1.E aG.L1.st
def aG.an:fT:= {da:=[6],loops:=oF [(3,{bS:=[0,3],sites:=[6],nB:=[⟨3,[],6,135⟩]}),(7,{bS:=[3,4,5],sites:=[6],nB:=[⟨3,[],6,135⟩]})],outs:=oE [(3,{bS:=[0,3],sites:=[6]},{bS:=[2]}),(7,{bS:=[3],sites:=[6]},{bS:=[2]})],jw:=pL [(3,aG.L0.E),(7,aG.L1.E)],res:=[some tB]}
def aG.A:= @dq Tryz.prog aG.G aG.an 0 Tryz.f178 _ aG.st
abbrev aG.Ok:=dr @aG.A aG.aw aG.add aG.F aG.out
def aG.L0.R:= @dn Tryz.prog aG.G aG.an 0 Tryz.f178 0 _ aG.L0.st
abbrev aG.L0.Ok:=gw Tryz.prog aG.G aG.an 0 Tryz.f178 0 aG.L0.st aG.L0.aw aG.L0.add aG.L0.F aG.L0.out
def aG.L1.R:= @dn Tryz.prog aG.G aG.an 0 Tryz.f178 1 _ aG.L1.st
abbrev aG.L1.Ok:=gw Tryz.prog aG.G aG.an 0 Tryz.f178 1 aG.L1.st aG.L1.aw aG.L1.add aG.L1.F aG.L1.out
theorem aG.L0.run:cl aG.L0.call aG.L0.aw aG.L0.add aG.L0.F:=gT (gS [.d tB,.n,.d tB] λ_=>by kernel_rfl)
theorem aG.L0.aI:jk @aG.L0.R aG.L0.st aG.L0.aw aG.L0.add aG.L0.F aG.L0.bV aG.L0.Ok:=jm
theorem aG.L0.step{R:Type}(oB:Bs)(outL:Nat)(n6:(List Int))(kn:AS->Option R)(kx:Exit->AS->Option R):aG.L0.R (oB,outL,n6) kn kx=
  aJ ((rN (fU ((outL:Nat):Int) (64:Int)) (56:Int))) (
   aJ (decide (outL<=(List.length n6))) (
   aJ (fk (outL+1) 1) (
   kn (aG.L0.st (oB,(outL+1),((List.take outL n6)++ [(0:Int)])))) none) none) (
   kx (aG.L0.bV (oB,(outL,n6))).1 (aG.L0.bV (oB,(outL,n6))).2):=by kernel_rfl
theorem aG.L1.run:cl aG.L1.call aG.L1.aw aG.L1.add aG.L1.F:=gT (gS [.n,.d tu,.d ti,.d tB] λ_=>by kernel_rfl)
theorem aG.L1.aI:jk @aG.L1.R aG.L1.st aG.L1.aw aG.L1.add aG.L1.F aG.L1.bV aG.L1.Ok:=jm
theorem aG.L1.step{R:Type}(tT:Nat)(n:Int)(kv:Int)(pU:(List Int))(kn:AS->Option R)(kx:Exit->AS->Option R):aG.L1.R (tT,n,kv,pU) kn kx=
  aJ ((qz kv (0:Int))) (
   aJ (nA kv) (
   aJ (decide (tT<=(List.length pU))) (
   aJ (fk (tT+1) 1) (
   kn (aG.L1.st ((tT+1),n,(cY .i64 kv (8:Int)),((List.take tT pU)++ [(eH .u8 (cZ .u64 n kv))])))) none) none) none) (
   kx (aG.L1.bV (tT,pU)).1 (aG.L1.bV (tT,pU)).2):=by kernel_rfl
theorem aG.eq{R:Type}(b:Bs)(k:aZ->Option R):aG.A b k=
 aJ (fk (0+(List.length b)) 1) (
 aJ (decide ((0+(List.length b))<=(List.length ((List.take 0 (List.replicate 0 (0:Int)))++b)))) (
 aJ (fk ((0+(List.length b))+1) 1) (
 aj (aG.L0.call (b,((0+(List.length b))+1),((List.take (0+(List.length b)) ((List.take 0 (List.replicate 0 (0:Int)))++b))++ [(128:Int)]))) λx1=>
 aj (aG.L1.call (x1.2.1,(gJ .u64 (8:Int) (eH .u64 (((List.length x1.1):Nat):Int))),(56:Int),x1.2.2)) λx2=>
 aJ (decide (0=0/\(0+x2.1)<=(List.length x2.2))) (
 k (aG.out (cut x2.2 0 x2.1))) none) none) none) none:=by kernel_rfl
theorem aG.L0.ok:aG.L0.Ok:=by
 refine aG.L0.aI (λ(b,m,l)=>zc l.length) ?_
 rintro⟨b,m,l⟩ ⟨rfl,hl⟩
 have hl:l.length+zc l.length<=140737488355328:=hl
 by_cases h:l.length%64=56
 ·right
  intro R kn kx
  have hz:zc l.length=0:=by unfold zc;omega
  rw[aG.L0.step]
  simp(disch:=omega) only[↓S1,↓if_pos,↓if_neg,if_pos,if_neg,if_true,if_false,S2,aG.L0.add,aG.L0.F,hz,dE,List.replicate_zero,dg]
 ·left
  have hz:zc l.length=zc (l.length+1)+1:=by unfold zc;omega
  refine⟨(b,l.length+1,l++ [0]),⟨by simp,by simp only[ae,aN,bJ,bl];omega⟩,by simp only[ae,aN,bJ,bl];omega,?_,λkn kx=> ?_⟩
  ·simp only[aG.L0.add,aG.L0.F,ae,aN,bJ,bl,hz,bR,kz,bu,List.replicate_succ]
   rw[show l.length+1+zc (l.length+1)=l.length+(zc (l.length+1)+1) by omega]
  ·rw[aG.L0.step]
   simp(disch:=omega) only[↓S1,↓if_pos,↓if_neg,if_pos,if_neg,if_true,if_false,S2,cz]
theorem MG(n:Int)(j:Nat)(h:j < 8):(mu n).drop j=n / 2^(56 - 8*j)%256::(mu n).drop (j+1):=by
 rcases(by omega:j=0\/j=1\/j=2\/j=3\/j=4\/j=5\/j=6\/j=7) with rfl | rfl | rfl | rfl | rfl | rfl | rfl | rfl <;> simp[mu]
theorem Im(n:Int)(k:Nat)(h1:k<=64):eH .u8 (cZ .u64 n (k:Int))=n / 2^k%256:=by
 rw[Cp,kP,cZ]
 have e:min (k:Int).toNat IntKind.u64.bits=k:=by simp only[IntKind.bits];omega
 rw[e,lC _ (nY (Int.pow_pos (by omega)))]
 rfl
theorem aG.L1.ok:aG.L1.Ok:=by
 refine aG.L1.aI (λ(m,n,kv,l)=>(kv+8).toNat) ?_
 rintro⟨m,n,kv,l⟩ ⟨h1,h2,j,hj,rfl,rfl,hl⟩
 have hl:l.length<=140737488355320+j:=hl
 have e1:(7 - ((56 - 8*(j:Int)) / 8)).toNat=j:=by omega
 by_cases h:j < 8
 ·left
  have e2:cY .i64 (56 - 8*(j:Int)) 8=56 - 8*((j+1:Nat):Int):=by rw[gm (by omega) (by omega)];omega
  have e3:(7 - ((56 - 8*((j+1:Nat):Int)) / 8)).toNat=j+1:=by omega
  have e4:(56 - 8*(j:Int))=((56 - 8*j:Nat):Int):=by omega
  refine⟨(l.length+1,n,56 - 8*((j+1:Nat):Int),l++ [n / 2^(56 - 8*j)%256]),⟨h1,h2,j+1,by omega,rfl,by simp,by simp only[ae,aN,bJ];omega⟩,by simp only;omega,?_,λkn kx=> ?_⟩
  ·simp only[aG.L1.add,aG.L1.F,e1,e3,MG n j h,ae,aN,bJ,bR,kz,bu,dO]
   rw[show l.length+(0+1)+8 - (j+1)=l.length+8 - j by omega]
  ·rw[aG.L1.step,e2,e4,Im n _ (by omega)]
   simp(disch:=omega) only[↓S1,↓if_pos,↓if_neg,if_pos,if_neg,if_true,if_false,S2,cz]
 ·right
  obtain rfl:j=8:=by omega
  intro R kn kx
  rw[aG.L1.step]
  simp(disch:=omega) only[↓S1,↓if_pos,↓if_neg,if_pos,if_neg,if_true,if_false,S2,aG.L1.add,aG.L1.F,e1]
  simp[mu]
theorem aG.ok:aG.Ok:=by
 intro b hb
 have hb:b.length<=140737488350000:=hb
 have hz:zc (b++ [128]).length=sN b.length:=by
  simp only[ae,aN,bJ,zc,sN]
  omega
 have Zz:sN b.length < 64:=by unfold sN;omega
 have p1:aG.L0.aw (b,b.length+1,b++ [128]):=⟨by simp,by rw[hz];simp only[ae,aN,bJ] <;> omega⟩
 have e1:eH .u64 ((b.length:Nat):Int)=((b.length:Nat):Int):=by rw[FG,kP];omega
 have e2:gJ .u64 8 ((b.length:Nat):Int)=8*(b.length:Int):=by
  unfold gJ;rw[wrap_u64,kP];omega
 have e3:List.take b.length b=b:=cz
 rw[aG.eq]
 simp only[List.replicate_zero,List.take_nil,bu,bl,e1,e2,e3]
 simp(disch:=omega) only[↓S1,↓if_pos,↓if_neg,if_pos,if_neg,if_true,if_false,S2,aG.L0.run p1,aG.L0.add,aG.L0.F,hz]
 have p2:aG.L1.aw ((b++ [128]).length+sN b.length,8*(b.length:Int),56,b++ [128]++List.replicate (sN b.length) 0):=by
  refine⟨by omega,by omega,0,by omega,rfl,by simp only[ae,aN,bJ,eo] <;> omega,?_⟩
  simp only[ae,aN,bJ,eo]
  omega
 simp(disch:=omega) only[↓S1,↓if_pos,↓if_neg,if_pos,if_neg,if_true,if_false,S2,e1,e2,aG.L1.run p2,aG.L1.add,aG.L1.F]
 have e5:(7 - ((56:Int) / 8)).toNat=0:=by decide
 rw[e5,aW]
 have e6:(b++ [128]++List.replicate (sN b.length) 0).length+(mu (8*(b.length:Int))).length - 0=(b++ [128]++List.replicate (sN b.length) 0++mu (8*(b.length:Int))).length:=by rw[@ae _ _ (mu _)];omega
 rw[e6,if_pos (aC _)]
 unfold cut
 rw[aW,cz]
 simp only[aG.add,aG.F,pad,bR,kz,bu]
def aG.E:=Entry.dp [some tB] aG.st aG.aw aG.add aG.F aG.out
def aG.call:aG.D->Option aG.X:=cj aG.E aG.st
theorem aG.run:cl aG.call aG.aw aG.add aG.F:=dw (du [.d tB] λ_=>by kernel_rfl)
def aG.sg:SG Tryz.prog:=⟨178,aP,aG.E,.fn 2 (by kernel_rfl) aG.ok (And.intro (.dp aG.L0.ok (by kernel_rfl)) (And.intro (.dp aG.L1.ok (by kernel_rfl)) trivial))⟩
abbrev aU.L0.D:=Bs×Nat×Int×(List Int)
def aU.L0.st:aU.L0.D->AS:=λ(oB,wL,i,uF)=>⟨([.d tB oB,.undef,.undef,.dh (.new 49 0) 0 [] 0 0 wL,.d ti i]++bG 94 []),[],(db 49 ([[.obj 0 false (.vec 25 (.int .u32) uF)]]++db 49 []))⟩
abbrev aU.L0.Y0:=Nat×(List Int)
abbrev aU.L0.X0:=Nat×(List Int)
def aU.L0.bV:aU.L0.X0->Exit×AS:=λx=>(.exit 0,⟨([.undef,.undef,.undef,.dh (.new 49 0) 0 [] 0 0 x.1]++bG 95 []),[],(db 49 ([[.obj 0 false (.vec 25 (.int .u32) x.2)]]++db 49 []))⟩)
abbrev aU.L0.X:=aU.L0.X0
abbrev aU.L0.Y:=aU.L0.Y0
def aU.L0.out:aU.L0.X->Out (Exit×AS):=λx=> .ok (aU.L0.bV x)
def aU.L0.add:aU.L0.D->aU.L0.Y->aU.L0.X:=λ(oB,wL,i,uF) y=>y
abbrev aU.L1.D:=Nat×Int×(List Int)
def aU.L1.st:aU.L1.D->AS:=λ(zl,jf,pO)=>⟨([.undef,.undef,.undef,.dh (.new 49 0) 0 [] 0 0 zl,.undef,.d ti jf]++bG 93 []),[],(db 49 ([[.obj 0 false (.vec 25 (.int .u32) pO)]]++db 49 []))⟩
abbrev aU.L1.Y0:=Nat×(List Int)
abbrev aU.L1.X0:=Nat×(List Int)
def aU.L1.bV:aU.L1.X0->Exit×AS:=λx=>(.exit 2,⟨([.undef,.undef,.undef,.dh (.new 49 0) 0 [] 0 0 x.1]++bG 95 []),[],(db 49 ([[.obj 0 false (.vec 25 (.int .u32) x.2)]]++db 49 []))⟩)
abbrev aU.L1.X:=aU.L1.X0
abbrev aU.L1.Y:=aU.L1.Y0
def aU.L1.out:aU.L1.X->Out (Exit×AS):=λx=> .ok (aU.L1.bV x)
def aU.L1.add:aU.L1.D->aU.L1.Y->aU.L1.X:=λ(zl,jf,pO) y=>y
abbrev aU.D:=Bs
def aU.st:aU.D->SA:=λb=>([.d tB b],[])
abbrev aU.Y:=(List Int)
abbrev aU.X:=(List Int)
def aU.out:aU.X->aZ:=λx=>⟨.d (.slice (.int .u32)) x,[],[]⟩
def aU.add:aU.D->aU.Y->aU.X:=λb y=>y
def aU.L0.aw:aU.L0.D->Prop:=λ(b,m,i,l)=>64<=b.length/\∃k:Nat,k<=16/\i=k/\k=m/\l=wl ((words b).take k)
def aU.L0.F:aU.L0.D->aU.L0.Y:=λ(b,m,i,l)=>(16,wl (words b))
def aU.L1.aw:aU.L1.D->Prop:=λ(m,i,l)=>∃ws:List W,16<=ws.length/\ws.length<=64/\l=wl ws/\m=ws.length/\i=(ws.length:Nat)
def aU.L1.F:aU.L1.D->aU.L1.Y:=λ(m,i,l)=>(64,wl (OS (OD l) (64 - l.length)))
def aU.aw:aU.D->Prop:=λb=>64<=b.length
def aU.F:aU.D->aU.Y:=λb=>wl (sched b)
def aU.G:fD:=gz (P:=Tryz.prog) [fq.sg]
def aU.L0.E:=cV.dp aU.L0.st aU.L0.aw aU.L0.add aU.L0.F aU.L0.out
def aU.L0.call:aU.L0.D->Option aU.L0.X:=eI aU.L0.E aU.L0.st
def aU.L1.E:=cV.dp aU.L1.st aU.L1.aw aU.L1.add aU.L1.F aU.L1.out
def aU.L1.call:aU.L1.D->Option aU.L1.X:=eI aU.L1.E aU.L1.st
def aU.an:fT:= {loops:=oF [(3,{bS:=[0,3,4],sites:=[49],nB:=[⟨3,[],49,253⟩]}),(7,{bS:=[3,5],sites:=[49],nB:=[⟨3,[],49,253⟩]})],outs:=oE [(3,{bS:=[3],sites:=[49]},{bS:=[2]}),(7,{bS:=[3],sites:=[49]},{bS:=[2]})],jw:=pL [(3,aU.L0.E),(7,aU.L1.E)],res:=[some (.slice (.int .u32))]}
def aU.A:= @dq Tryz.prog aU.G aU.an 0 Tryz.f185 _ aU.st
abbrev aU.Ok:=dr @aU.A aU.aw aU.add aU.F aU.out
def aU.L0.R:= @dn Tryz.prog aU.G aU.an 0 Tryz.f185 0 _ aU.L0.st
abbrev aU.L0.Ok:=gw Tryz.prog aU.G aU.an 0 Tryz.f185 0 aU.L0.st aU.L0.aw aU.L0.add aU.L0.F aU.L0.out
def aU.L1.R:= @dn Tryz.prog aU.G aU.an 0 Tryz.f185 1 _ aU.L1.st
abbrev aU.L1.Ok:=gw Tryz.prog aU.G aU.an 0 Tryz.f185 1 aU.L1.st aU.L1.aw aU.L1.add aU.L1.F aU.L1.out
theorem aU.L0.run:cl aU.L0.call aU.L0.aw aU.L0.add aU.L0.F:=gT (gS [.d tB,.n,.d ti,.d (.slice (.int .u32))] λ_=>by kernel_rfl)
theorem aU.L0.aI:jk @aU.L0.R aU.L0.st aU.L0.aw aU.L0.add aU.L0.F aU.L0.bV aU.L0.Ok:=jm
theorem aU.L0.step{R:Type}(oB:Bs)(wL:Nat)(i:Int)(uF:(List Int))(kn:AS->Option R)(kx:Exit->AS->Option R):aU.L0.R (oB,wL,i,uF) kn kx=
  aJ ((jK i (16:Int))) (
   aJ (fp (gJ .i64 (4:Int) i) (((List.length oB):Nat):Int)) (
   aJ (fp (bO .i64 (gJ .i64 (4:Int) i) (1:Int)) (((List.length oB):Nat):Int)) (
   aJ (fp (bO .i64 (gJ .i64 (4:Int) i) (2:Int)) (((List.length oB):Nat):Int)) (
   aJ (fp (bO .i64 (gJ .i64 (4:Int) i) (3:Int)) (((List.length oB):Nat):Int)) (
   aJ (decide (wL<=(List.length uF))) (
   aJ (fk (wL+1) 4) (
   kn (aU.L0.st (oB,(wL+1),(bO .i64 i (1:Int)),((List.take wL uF)++ [(dC .or .u32 (dC .or .u32 (dC .or .u32 (oJ .u32 (eH .u32 (nth tb oB (Int.toNat (gJ .i64 (4:Int) i)))) (24:Int)) (oJ .u32 (eH .u32 (nth tb oB (Int.toNat (bO .i64 (gJ .i64 (4:Int) i) (1:Int))))) (16:Int))) (oJ .u32 (eH .u32 (nth tb oB (Int.toNat (bO .i64 (gJ .i64 (4:Int) i) (2:Int))))) (8:Int))) (eH .u32 (nth tb oB (Int.toNat (bO .i64 (gJ .i64 (4:Int) i) (3:Int))))))])))) none) none) none) none) none) none) (
   kx (aU.L0.bV (wL,uF)).1 (aU.L0.bV (wL,uF)).2):=by kernel_rfl
theorem aU.L1.run:cl aU.L1.call aU.L1.aw aU.L1.add aU.L1.F:=gT (gS [.n,.d ti,.d (.slice (.int .u32))] λ_=>by kernel_rfl)
theorem aU.L1.aI:jk @aU.L1.R aU.L1.st aU.L1.aw aU.L1.add aU.L1.F aU.L1.bV aU.L1.Ok:=jm
theorem aU.L1.step{R:Type}(zl:Nat)(jf:Int)(pO:(List Int))(kn:AS->Option R)(kx:Exit->AS->Option R):aU.L1.R (zl,jf,pO) kn kx=
  aJ ((jK jf (64:Int))) (
   aJ (fp (cY .i64 jf (15:Int)) ((zl:Nat):Int)) (
   aJ (decide ((0+(Int.toNat (cY .i64 jf (15:Int)))) < (List.length pO))) (
   aJ (decide ((((0+(Int.toNat (cY .i64 jf (15:Int))))*1)+0)=(0+((Int.toNat (cY .i64 jf (15:Int)))*1)))) (
   aJ (fp (cY .i64 jf (2:Int)) ((zl:Nat):Int)) (
   aJ (decide ((0+(Int.toNat (cY .i64 jf (2:Int)))) < (List.length pO))) (
   aJ (decide ((((0+(Int.toNat (cY .i64 jf (2:Int))))*1)+0)=(0+((Int.toNat (cY .i64 jf (2:Int)))*1)))) (
   aj (fq.call ((nth (.int .u32) pO (0+(Int.toNat (cY .i64 jf (15:Int))))),(7:Int))) λx1=>
   aj (fq.call ((nth (.int .u32) pO (0+(Int.toNat (cY .i64 jf (15:Int))))),(18:Int))) λx2=>
   aj (fq.call ((nth (.int .u32) pO (0+(Int.toNat (cY .i64 jf (2:Int))))),(17:Int))) λx3=>
   aj (fq.call ((nth (.int .u32) pO (0+(Int.toNat (cY .i64 jf (2:Int))))),(19:Int))) λx4=>
   aJ (fp (cY .i64 jf (16:Int)) ((zl:Nat):Int)) (
   aJ (decide ((0+(Int.toNat (cY .i64 jf (16:Int)))) < (List.length pO))) (
   aJ (decide ((((0+(Int.toNat (cY .i64 jf (16:Int))))*1)+0)=(0+((Int.toNat (cY .i64 jf (16:Int)))*1)))) (
   aJ (fp (cY .i64 jf (7:Int)) ((zl:Nat):Int)) (
   aJ (decide ((0+(Int.toNat (cY .i64 jf (7:Int)))) < (List.length pO))) (
   aJ (decide ((((0+(Int.toNat (cY .i64 jf (7:Int))))*1)+0)=(0+((Int.toNat (cY .i64 jf (7:Int)))*1)))) (
   aJ (decide (zl<=(List.length pO))) (
   aJ (fk (zl+1) 4) (
   kn (aU.L1.st ((zl+1),(bO .i64 jf (1:Int)),((List.take zl pO)++ [(bO .u32 (bO .u32 (bO .u32 (nth (.int .u32) pO (0+(Int.toNat (cY .i64 jf (16:Int))))) (dC .xor .u32 (dC .xor .u32 x1 x2) (cZ .u32 (nth (.int .u32) pO (0+(Int.toNat (cY .i64 jf (15:Int))))) (3:Int)))) (nth (.int .u32) pO (0+(Int.toNat (cY .i64 jf (7:Int)))))) (dC .xor .u32 (dC .xor .u32 x3 x4) (cZ .u32 (nth (.int .u32) pO (0+(Int.toNat (cY .i64 jf (2:Int))))) (10:Int))))])))) none) none) none) none) none) none) none) none) none) none) none) none) none) none) (
   kx (aU.L1.bV (zl,pO)).1 (aU.L1.bV (zl,pO)).2):=by kernel_rfl
theorem aU.eq{R:Type}(b:Bs)(k:aZ->Option R):aU.A b k=
 aj (aU.L0.call (b,0,(0:Int),([]:List Int))) λx1=>
 aj (aU.L1.call (x1.1,(16:Int),x1.2)) λzm=>
 aJ (decide (0=0/\(0+zm.1)<=(List.length zm.2))) (
 k (aU.out (cut zm.2 0 zm.1))) none:=by kernel_rfl
theorem sA(ws:List W):(wl ws).length=ws.length:=by simp[wl]
theorem KR(m:List W):∀n,OS (ext m) n=OS m (n+1)
 | 0=>rfl
 |n+1=>by rw[OS,KR m n];rfl
theorem Q8(b:List Int)(k:Nat)(h:4*k+3 < b.length):be b k=Ti (nth (.int .u8) b (4*k)) (nth (.int .u8) b (4*k+1)) (nth (.int .u8) b (4*k+2)) (nth (.int .u8) b (4*k+3)):=rfl
theorem aU.L0.ok:aU.L0.Ok:=by
 refine aU.L0.aI (λ(b,m,i,l)=>16 - m) ?_
 rintro⟨b,m,i,l⟩ ⟨hb,k,hk,rfl,rfl,rfl⟩
 have hb:64<=b.length:=hb
 have hl:(wl ((words b).take k)).length=k:=by rw[sA,fO,iq];omega
 by_cases h:k < 16
 ·left
  refine⟨(b,k+1,((k+1:Nat):Int),wl ((words b).take (k+1))),⟨hb,k+1,by omega,rfl,rfl,rfl⟩,by simp only;omega,rfl,λkn kx=> ?_⟩
  rw[aU.L0.step]
  simp(disch:=omega) only[↓S1,↓if_pos,↓if_neg,if_pos,if_neg,if_true,if_false,S2,hl,cn (Nat.le_of_eq hl)]
  rw[List.take_succ_eq_append_getElem (by rw[iq];exact h)]
  simp only[Kh,yF,ot,wl,lT,cG,jg]
  have e:(words b)[k]'(by rw[iq];exact h)=be b k:=by simp[words]
  rw[e,Q8 b k (by omega)]
  rfl
 ·right
  obtain rfl:k=16:=by omega
  intro R kn kx
  rw[aU.L0.step]
  simp(disch:=omega) only[↓S1,↓if_pos,↓if_neg,if_pos,if_neg,if_true,if_false,S2,aU.L0.add,aU.L0.F]
  rw[cn (by rw[iq];omega)]
theorem aU.L1.ok:aU.L1.Ok:=by
 refine aU.L1.aI (λ(m,i,l)=>64 - m) ?_
 rintro⟨m,i,l⟩ ⟨ws,h1,h2,rfl,rfl,rfl⟩
 have hl:=sA ws
 by_cases h:ws.length < 64
 ·left
  refine⟨(ws.length+1,((ws.length+1:Nat):Int),wl (ext ws)),⟨ext ws,by rw[qI];omega,by rw[qI];omega,rfl,by rw[qI],by rw[qI]⟩,by simp only;omega,?_,λkn kx=> ?_⟩
  ·simp only[aU.L1.add,aU.L1.F,vi,sA,qI]
   rw[KR,show 64 - (ws.length+1)+1=64 - ws.length by omega]
  ·rw[aU.L1.step]
   simp(disch:=omega) only[↓S1,↓if_pos,↓if_neg,if_pos,if_neg,if_true,if_false,S2,hl,bl,kb,dE,As ws _ (by omega:ws.length - 15 < ws.length),As ws _ (by omega:ws.length - 2 < ws.length),As ws _ (by omega:ws.length - 16 < ws.length),As ws _ (by omega:ws.length - 7 < ws.length),fq.at,ot,v8,um,cn (Nat.le_of_eq hl)]
   unfold ext wl
   rw[lT]
   rfl
 ·right
  have FA:ws.length=64:=by omega
  intro R kn kx
  rw[aU.L1.step]
  simp(disch:=omega) only[↓S1,↓if_pos,↓if_neg,if_pos,if_neg,if_true,if_false,S2,aU.L1.add,aU.L1.F,hl,FA,vi,Nat.sub_self]
  rfl
theorem aU.ok:aU.Ok:=by
 intro b hb
 have p1:aU.L0.aw (b,0,0,[]):=⟨hb,0,by omega,rfl,rfl,rfl⟩
 have p2:aU.L1.aw (16,16,wl (words b)):=⟨words b,by rw[iq];omega,by rw[iq];omega,rfl,by rw[iq],by rw[iq];rfl⟩
 have hs:(sched b).length=64:=by unfold sched;rw[sZ,iq]
 rw[aU.eq]
 simp(disch:=omega) only[↓S1,↓if_pos,↓if_neg,if_pos,if_neg,if_true,if_false,S2,aU.L0.run p1,aU.L0.add,aU.L0.F,aU.L1.run p2,aU.L1.add,aU.L1.F,vi,sA,iq,bl,Nat.reduceSub]
 have e:OS (words b) 48=sched b:=rfl
 rw[e,hs,if_pos (aC _)]
 unfold cut
 rw[aW,cn (by rw[sA];omega)]
 simp only[aU.add,aU.F]
def aU.E:=Entry.dp [some tB] aU.st aU.aw aU.add aU.F aU.out
def aU.call:aU.D->Option aU.X:=cj aU.E aU.st
theorem aU.run:cl aU.call aU.aw aU.add aU.F:=dw (du [.d tB] λ_=>by kernel_rfl)
def aU.sg:SG Tryz.prog:=⟨185,aP,aU.E,.fn 2 (by kernel_rfl) aU.ok (And.intro (.dp aU.L0.ok (by kernel_rfl)) (And.intro (.dp aU.L1.ok (by kernel_rfl)) trivial))⟩
abbrev aT.L0.D:=(List Int)×(List Int)×(List Int)×Nat×Int×(List Int)
def aT.L0.st:aT.L0.D->AS:=λ(s6,wv,kv,vL,i,oH)=>⟨([.d (.slice (.int .u32)) s6]++bG 4 ([.d (.slice (.int .u32)) wv,.d (.slice (.int .u32)) kv,.dh (.new 18 0) 0 [] 0 0 vL,.d ti i]++bG 146 [])),[],(db 18 ([[.obj 0 false (.vec 25 (.int .u32) oH)]]++db 136 []))⟩
abbrev aT.L0.Y0:=Nat×(List Int)
abbrev aT.L0.X0:=((List Int))×(Nat×(List Int))
def aT.L0.bV:aT.L0.X0->Exit×AS:=λx=>(.exit 0,⟨([.d (.slice (.int .u32)) x.1]++bG 6 ([.dh (.new 18 0) 0 [] 0 0 x.2.1]++bG 147 [])),[],(db 18 ([[.obj 0 false (.vec 25 (.int .u32) x.2.2)]]++db 136 []))⟩)
abbrev aT.L0.X:=aT.L0.X0
abbrev aT.L0.Y:=aT.L0.Y0
def aT.L0.out:aT.L0.X->Out (Exit×AS):=λx=> .ok (aT.L0.bV x)
def aT.L0.add:aT.L0.D->aT.L0.Y->aT.L0.X:=λ(s6,wv,kv,vL,i,oH) y=>(s6,y)
abbrev aT.L1.D:=(List Int)×Nat×Int×(List Int)
def aT.L1.st:aT.L1.D->AS:=λ(Kc,Ea,jf,wi)=>⟨([.d (.slice (.int .u32)) Kc]++bG 6 ([.dh (.new 18 0) 0 [] 0 0 Ea]++bG 6 ([.d ti jf]++bG 140 []))),[],(db 18 ([[.obj 0 false (.vec 25 (.int .u32) wi)]]++db 136 []))⟩
abbrev aT.L1.Y0:=(List Int)
abbrev aT.L1.X0:=(Nat)×((List Int))
def aT.L1.bV:aT.L1.X0->Exit×AS:=λx=>(.exit 2,⟨(bG 7 ([.dh (.new 18 0) 0 [] 0 0 x.1]++bG 147 [])),[],(db 18 ([[.obj 0 false (.vec 25 (.int .u32) x.2)]]++db 136 []))⟩)
abbrev aT.L1.X:=aT.L1.X0
abbrev aT.L1.Y:=aT.L1.Y0
def aT.L1.out:aT.L1.X->Out (Exit×AS):=λx=> .ok (aT.L1.bV x)
def aT.L1.add:aT.L1.D->aT.L1.Y->aT.L1.X:=λ(Kc,Ea,jf,wi) y=>(Ea,y)
abbrev aT.D:=(List Int)×Bs
def aT.st:aT.D->SA:=λ(h,b)=>([.d (.slice (.int .u32)) h,.d tB b],[])
abbrev aT.Y:=(List Int)
abbrev aT.X:=(List Int)
def aT.out:aT.X->aZ:=λx=>⟨.d (.slice (.int .u32)) x,[],[]⟩
def aT.add:aT.D->aT.Y->aT.X:=λ(h,b) y=>y
def aT.L0.aw:aT.L0.D->Prop:=λ(h,wv,kv,m,i,l)=>∃(s:St) (ws:List W) (k:Nat),h=s.l/\wv=wl ws/\ws.length=64/\k<=64/\i=k/\kv=zW/\m=8/\l=(rounds ws s k).l
def aT.L0.F:aT.L0.D->aT.L0.Y:=λ(h,wv,kv,m,i,l)=>(8,(rounds (OD wv) (Gd h) 64).l)
def aT.L1.aw:aT.L1.D->Prop:=λ(h,m,i,l)=>h.length=8/\l.length=8/\m=8/\∃k:Nat,k<=8/\i=k
def aT.L1.F:aT.L1.D->aT.L1.Y:=λ(h,m,i,l)=>from_ (λi x=>bO .u32 x (nth (.int .u32) h i)) i.toNat l
def aT.aw:aT.D->Prop:=λ(h,b)=>(∃s:St,h=s.l)/\64<=b.length
def aT.F:aT.D->aT.Y:=λ(h,b)=>(z9 (Gd h) b).l
def aT.G:fD:=gz (P:=Tryz.prog) [aU.sg,ia.sg,fq.sg]
def aT.L0.E:=cV.dp aT.L0.st aT.L0.aw aT.L0.add aT.L0.F aT.L0.out
def aT.L0.call:aT.L0.D->Option aT.L0.X:=eI aT.L0.E aT.L0.st
def aT.L1.E:=cV.dp aT.L1.st aT.L1.aw aT.L1.add aT.L1.F aT.L1.out
def aT.L1.call:aT.L1.D->Option aT.L1.X:=eI aT.L1.E aT.L1.st
def aT.an:fT:= {da:=[18,137],loops:=oF [(5,{bS:=[0,5,6,7,8],sites:=[18,137],nB:=[⟨7,[],18,0⟩]}),(14,{bS:=[0,7,14],sites:=[18]})],outs:=oE [(5,{bS:=[0,7],sites:=[18]},{bS:=[4]}),(14,{bS:=[7],sites:=[18]},{bS:=[4]})],jw:=pL [(5,aT.L0.E),(14,aT.L1.E)],res:=[some (.slice (.int .u32))]}
def aT.A:= @dq Tryz.prog aT.G aT.an 0 Tryz.f180 _ aT.st
abbrev aT.Ok:=dr @aT.A aT.aw aT.add aT.F aT.out
def aT.L0.R:= @dn Tryz.prog aT.G aT.an 0 Tryz.f180 0 _ aT.L0.st
abbrev aT.L0.Ok:=gw Tryz.prog aT.G aT.an 0 Tryz.f180 0 aT.L0.st aT.L0.aw aT.L0.add aT.L0.F aT.L0.out
def aT.L1.R:= @dn Tryz.prog aT.G aT.an 0 Tryz.f180 1 _ aT.L1.st
abbrev aT.L1.Ok:=gw Tryz.prog aT.G aT.an 0 Tryz.f180 1 aT.L1.st aT.L1.aw aT.L1.add aT.L1.F aT.L1.out
theorem aT.L0.run:cl aT.L0.call aT.L0.aw aT.L0.add aT.L0.F:=gT (gS [.d (.slice (.int .u32)),.d (.slice (.int .u32)),.d (.slice (.int .u32)),.n,.d ti,.d (.slice (.int .u32))] λ_=>by kernel_rfl)
theorem aT.L0.aI:jk @aT.L0.R aT.L0.st aT.L0.aw aT.L0.add aT.L0.F aT.L0.bV aT.L0.Ok:=jm
theorem aT.L0.step{R:Type}(s6:(List Int))(wv:(List Int))(kv:(List Int))(vL:Nat)(i:Int)(oH:(List Int))(kn:AS->Option R)(kx:Exit->AS->Option R):aT.L0.R (s6,wv,kv,vL,i,oH) kn kx=
  aJ ((jK i (64:Int))) (
   aJ (fp (4:Int) ((vL:Nat):Int)) (
   aJ (decide (4 < (List.length oH))) (
   aj (fq.call ((nth (.int .u32) oH 4),(6:Int))) λx1=>
   aJ (fp (4:Int) ((vL:Nat):Int)) (
   aJ (decide (4 < (List.length oH))) (
   aj (fq.call ((nth (.int .u32) oH 4),(11:Int))) λx2=>
   aJ (fp (4:Int) ((vL:Nat):Int)) (
   aJ (decide (4 < (List.length oH))) (
   aj (fq.call ((nth (.int .u32) oH 4),(25:Int))) λx3=>
   aJ (fp (4:Int) ((vL:Nat):Int)) (
   aJ (decide (4 < (List.length oH))) (
   aJ (fp (5:Int) ((vL:Nat):Int)) (
   aJ (decide (5 < (List.length oH))) (
   aJ (fp (4:Int) ((vL:Nat):Int)) (
   aJ (decide (4 < (List.length oH))) (
   aJ (fp (6:Int) ((vL:Nat):Int)) (
   aJ (decide (6 < (List.length oH))) (
   aJ (fp (7:Int) ((vL:Nat):Int)) (
   aJ (decide (7 < (List.length oH))) (
   aJ (fp i (((List.length kv):Nat):Int)) (
   aJ (fp i (((List.length wv):Nat):Int)) (
   aJ (fp (0:Int) ((vL:Nat):Int)) (
   aJ (decide (0 < (List.length oH))) (
   aj (fq.call ((nth (.int .u32) oH 0),(2:Int))) λx4=>
   aJ (fp (0:Int) ((vL:Nat):Int)) (
   aJ (decide (0 < (List.length oH))) (
   aj (fq.call ((nth (.int .u32) oH 0),(13:Int))) λx5=>
   aJ (fp (0:Int) ((vL:Nat):Int)) (
   aJ (decide (0 < (List.length oH))) (
   aj (fq.call ((nth (.int .u32) oH 0),(22:Int))) λx6=>
   aJ (fp (0:Int) ((vL:Nat):Int)) (
   aJ (decide (0 < (List.length oH))) (
   aJ (fp (1:Int) ((vL:Nat):Int)) (
   aJ (decide (1 < (List.length oH))) (
   aJ (fp (0:Int) ((vL:Nat):Int)) (
   aJ (decide (0 < (List.length oH))) (
   aJ (fp (2:Int) ((vL:Nat):Int)) (
   aJ (decide (2 < (List.length oH))) (
   aJ (fp (1:Int) ((vL:Nat):Int)) (
   aJ (decide (1 < (List.length oH))) (
   aJ (fp (2:Int) ((vL:Nat):Int)) (
   aJ (decide (2 < (List.length oH))) (
   aJ (fp (0:Int) ((vL:Nat):Int)) (
   aJ (decide (0 < (List.length oH))) (
   aJ (fp (1:Int) ((vL:Nat):Int)) (
   aJ (decide (1 < (List.length oH))) (
   aJ (fp (2:Int) ((vL:Nat):Int)) (
   aJ (decide (2 < (List.length oH))) (
   aJ (fp (3:Int) ((vL:Nat):Int)) (
   aJ (decide (3 < (List.length oH))) (
   aJ (fp (4:Int) ((vL:Nat):Int)) (
   aJ (decide (4 < (List.length oH))) (
   aJ (fp (5:Int) ((vL:Nat):Int)) (
   aJ (decide (5 < (List.length oH))) (
   aJ (fp (6:Int) ((vL:Nat):Int)) (
   aJ (decide (6 < (List.length oH))) (
   kn (aT.L0.st (s6,wv,kv,8,(bO .i64 i (1:Int)),[(bO .u32 (bO .u32 (bO .u32 (bO .u32 (bO .u32 (bO .u32 (nth (.int .u32) oH 7) (dC .xor .u32 (dC .xor .u32 x1 x2) x3)) (dC .xor .u32 (dC .and .u32 (nth (.int .u32) oH 4) (nth (.int .u32) oH 5)) (dC .and .u32 (PD .u32 (nth (.int .u32) oH 4)) (nth (.int .u32) oH 6)))) (nth (.int .u32) kv (Int.toNat i))) (nth (.int .u32) wv (Int.toNat i))) (dC .xor .u32 (dC .xor .u32 x4 x5) x6)) (dC .xor .u32 (dC .xor .u32 (dC .and .u32 (nth (.int .u32) oH 0) (nth (.int .u32) oH 1)) (dC .and .u32 (nth (.int .u32) oH 0) (nth (.int .u32) oH 2))) (dC .and .u32 (nth (.int .u32) oH 1) (nth (.int .u32) oH 2)))),(nth (.int .u32) oH 0),(nth (.int .u32) oH 1),(nth (.int .u32) oH 2),(bO .u32 (nth (.int .u32) oH 3) (bO .u32 (bO .u32 (bO .u32 (bO .u32 (nth (.int .u32) oH 7) (dC .xor .u32 (dC .xor .u32 x1 x2) x3)) (dC .xor .u32 (dC .and .u32 (nth (.int .u32) oH 4) (nth (.int .u32) oH 5)) (dC .and .u32 (PD .u32 (nth (.int .u32) oH 4)) (nth (.int .u32) oH 6)))) (nth (.int .u32) kv (Int.toNat i))) (nth (.int .u32) wv (Int.toNat i)))),(nth (.int .u32) oH 4),(nth (.int .u32) oH 5),(nth (.int .u32) oH 6)]))) none) none) none) none) none) none) none) none) none) none) none) none) none) none) none) none) none) none) none) none) none) none) none) none) none) none) none) none) none) none) none) none) none) none) none) none) none) none) none) none) none) none) none) none) none) none) none) none) none) none) (
   kx (aT.L0.bV (s6,(vL,oH))).1 (aT.L0.bV (s6,(vL,oH))).2):=by kernel_rfl
theorem aT.L1.run:cl aT.L1.call aT.L1.aw aT.L1.add aT.L1.F:=gT (gS [.d (.slice (.int .u32)),.n,.d ti,.d (.slice (.int .u32))] λ_=>by kernel_rfl)
theorem aT.L1.aI:jk @aT.L1.R aT.L1.st aT.L1.aw aT.L1.add aT.L1.F aT.L1.bV aT.L1.Ok:=jm
theorem aT.L1.step{R:Type}(Kc:(List Int))(Ea:Nat)(jf:Int)(wi:(List Int))(kn:AS->Option R)(kx:Exit->AS->Option R):aT.L1.R (Kc,Ea,jf,wi) kn kx=
  aJ ((jK jf (8:Int))) (
   aJ (fp jf ((Ea:Nat):Int)) (
   aJ (decide ((0+(Int.toNat jf)) < (List.length wi))) (
   aJ (decide ((((0+(Int.toNat jf))*1)+0)=(0+((Int.toNat jf)*1)))) (
   aJ (fp jf (((List.length Kc):Nat):Int)) (
   aJ (fp jf ((Ea:Nat):Int)) (
   aJ (decide ((0+(Int.toNat jf)) < (List.length wi))) (
   aJ (decide ((((0+(Int.toNat jf))*1)+0)=(0+((Int.toNat jf)*1)))) (
   aJ (decide ((0+(Int.toNat jf)) < (List.length wi))) (
   kn (aT.L1.st (Kc,Ea,(bO .i64 jf (1:Int)),(List.set wi (0+(Int.toNat jf)) (bO .u32 (nth (.int .u32) wi (0+(Int.toNat jf))) (nth (.int .u32) Kc (Int.toNat jf))))))) none) none) none) none) none) none) none) none) (
   kx (aT.L1.bV (Ea,wi)).1 (aT.L1.bV (Ea,wi)).2):=by kernel_rfl
theorem aT.eq{R:Type}(h:(List Int))(b:Bs)(k:aZ->Option R):aT.A (h,b) k=
 aj (aU.call b) λx1=>
 aj (ia.call ()) λx2=>
 aJ (fk (0+(List.length h)) 4) (
 aj (aT.L0.call (h,x1,x2,(0+(List.length h)),(0:Int),((List.take 0 (List.replicate 0 (0:Int)))++h))) λQY=>
 aj (aT.L1.call (QY.1,QY.2.1,(0:Int),QY.2.2)) λJM=>
 aJ (decide (0=0/\(0+JM.1)<=(List.length JM.2))) (
 k (aT.out (cut JM.2 0 JM.1))) none) none:=by kernel_rfl
theorem No(w:W):PD .u32 (vw w)=vw (~~~w):=by
 have e:(if IntKind.u32.signed then -1 else IntKind.u32.max:Int)=vw (BitVec.allOnes 32):=rfl
 unfold PD
 rw[e,ot]
 simp only[BitVec.allOnes_xor]
theorem Tl(e f g:W):(e &&& f)^^^(~~~e &&& g)=g^^^(e &&& (f^^^g)):=by
 ext i hi
 simp only[BitVec.getElem_xor,BitVec.getElem_and,BitVec.getElem_not]
 cases e[i] <;> cases f[i] <;> cases g[i] <;> rfl
theorem R9(a b c:W):(a &&& b)^^^(a &&& c)^^^(b &&& c)=(a &&& b) ||| (c &&& (a ||| b)):=by
 ext i hi
 simp only[BitVec.getElem_xor,BitVec.getElem_and,BitVec.getElem_or]
 cases a[i] <;> cases b[i] <;> cases c[i] <;> rfl
theorem aT.L0.ok:aT.L0.Ok:=by
 refine aT.L0.aI (λ(h,wv,kv,m,i,l)=>64 - i.toNat) ?_
 rintro⟨h,wv,kv,m,i,l⟩ ⟨s,ws,k,rfl,rfl,hw,hk,rfl,rfl,rfl,rfl⟩
 by_cases mw:k < 64
 ·left
  refine⟨(s.l,wl ws,zW,8,((k+1:Nat):Int),(rounds ws s (k+1)).l),⟨s,ws,k+1,rfl,rfl,hw,by omega,rfl,rfl,rfl,rfl⟩,by simp only;omega,rfl,λkn kx=> ?_⟩
  rw[aT.L0.step]
  generalize hv:rounds ws s k=v
  have t1:∀w:W,fq.call (vw w,6)=some (vw (qO w 6)):=λw=>fq.at w (by omega)
  have t2:∀w:W,fq.call (vw w,11)=some (vw (qO w 11)):=λw=>fq.at w (by omega)
  have t3:∀w:W,fq.call (vw w,25)=some (vw (qO w 25)):=λw=>fq.at w (by omega)
  have t4:∀w:W,fq.call (vw w,2)=some (vw (qO w 2)):=λw=>fq.at w (by omega)
  have t5:∀w:W,fq.call (vw w,13)=some (vw (qO w 13)):=λw=>fq.at w (by omega)
  have t6:∀w:W,fq.call (vw w,22)=some (vw (qO w 22)):=λw=>fq.at w (by omega)
  rw[n0,n1,n2,n3,n4,n5,n6,n7,t1,ab,t2,ab,t3,ab,t4,ab,t5,ab,t6,ab]
  simp(disch:=omega) only[↓S1,↓if_pos,↓if_neg,if_pos,if_neg,if_true,if_false,S2,St.Hd,AG,sA,hw,Hc k mw,As ws k (by omega),ot,um,No,Tl,R9]
  show kn _=kn (aT.L0.st (s.l,wl ws,zW,8,((k+1:Nat):Int),(WM (rounds ws s k) (kw k) (ws.getD k 0)).l))
  rw[hv]
  rfl
 ·right
  obtain rfl:k=64:=by omega
  intro R kn kx
  rw[aT.L0.step]
  simp(disch:=omega) only[↓S1,↓if_pos,↓if_neg,if_pos,if_neg,if_true,if_false,S2,aT.L0.add,aT.L0.F,vi,nC]
theorem aT.L1.ok:aT.L1.Ok:=by
 refine aT.L1.aI (λ(h,m,i,l)=>8 - i.toNat) ?_
 rintro⟨h,m,i,l⟩ ⟨hh,hl,rfl,k,hk,rfl⟩
 have hl:l.length=8:=hl
 have hh:h.length=8:=hh
 by_cases mw:k < 8
 ·left
  have hn:nth (.int .u32) l k=l[k]:=dP (t:= .int .u32) (by omega)
  refine⟨(h,8,((k+1:Nat):Int),l.set k (bO .u32 l[k] (nth (.int .u32) h k))),⟨hh,by simpa using hl,rfl,k+1,by omega,rfl⟩,by simp only;omega,?_,λkn kx=> ?_⟩
  ·simp only[aT.L1.add,aT.L1.F,aa]
   rw[wP (λi x=>bO .u32 x (nth (.int .u32) h i)) l k (by omega)]
  ·rw[aT.L1.step]
   simp(disch:=omega) only[↓S1,↓if_pos,↓if_neg,if_pos,if_neg,if_true,if_false,S2,hl,hh,bl,kb,dE,hn]
 ·right
  obtain rfl:k=8:=by omega
  intro R kn kx
  rw[aT.L1.step]
  simp(disch:=omega) only[↓S1,↓if_pos,↓if_neg,if_pos,if_neg,if_true,if_false,S2,aT.L1.add,aT.L1.F]
  rw[yy _ _ _ (by omega)]
theorem Sa(s:St)(b:List Int):from_ (λi x=>bO .u32 x (nth (.int .u32) s.l i)) 0 (rounds (sched b) s 64).l=(z9 s b).l:=by
 unfold z9
 generalize rounds (sched b) s 64=v
 obtain⟨a1,b1,c1,d1,f1,g1,h1,i1⟩:=v
 simp only[St.l,from_,List.mapIdx_cons,List.mapIdx_nil,Nat.not_lt_zero,if_false,bl,Nat.reduceAdd]
 simp only[nth,mh,oI,um]
theorem aT.ok:aT.Ok:=by
 rintro⟨h,b⟩ ⟨⟨s,rfl⟩,hb⟩
 have p0:aU.aw b:=hb
 have Kf:(sched b).length=64:=by unfold sched;rw[sZ,iq]
 have p1:aT.L0.aw (s.l,wl (sched b),zW,8,0,s.l):=⟨s,sched b,0,rfl,rfl,Kf,by omega,rfl,rfl,rfl,rfl⟩
 have p2:aT.L1.aw (s.l,8,0,(rounds (sched b) s 64).l):=⟨rfl,rfl,rfl,0,by omega,rfl⟩
 have e0:0+s.l.length=8:=rfl
 have e1:List.take 0 (List.replicate 0 (0:Int))++s.l=s.l:=rfl
 rw[aT.eq]
 simp(disch:=omega) only[↓S1,↓if_pos,↓if_neg,if_pos,if_neg,if_true,if_false,S2,aU.run p0,aU.add,aU.F,ia.run (d:=()) trivial,ia.add,ia.F,e0,e1,aT.L0.run p1,aT.L0.add,aT.L0.F,vi,nC,aT.L1.run p2,aT.L1.add,aT.L1.F,bK,Sa]
 have e2:(z9 s b).l.length=8:=rfl
 have e3:cut (z9 s b).l 0 8=(z9 s b).l:=rfl
 simp only[e2,bl,aC,if_true,e3,aT.add,aT.F,nC]
def aT.E:=Entry.dp [some (.slice (.int .u32)),some tB] aT.st aT.aw aT.add aT.F aT.out
def aT.call:aT.D->Option aT.X:=cj aT.E aT.st
theorem aT.run:cl aT.call aT.aw aT.add aT.F:=dw (du [.d (.slice (.int .u32)),.d tB] λ_=>by kernel_rfl)
def aT.sg:SG Tryz.prog:=⟨180,aP,aT.E,.fn 2 (by kernel_rfl) aT.ok (And.intro (.dp aT.L0.ok (by kernel_rfl)) (And.intro (.dp aT.L1.ok (by kernel_rfl)) trivial))⟩
abbrev cS.L0.D:=Bs×(List Int)×Int×Bs
def cS.L0.st:cS.L0.D->AS:=λ(p,h,i,n2)=>⟨([.undef,.undef,.ptr (.new 2 0) 0 [] 0,.d tB p,.d (.slice (.int .u32)) h,.d ti i]++bG 36 []),[],([[],[],[.obj 0 false (.d tH n2)]]++db 39 [])⟩
abbrev cS.L0.Y0:=(List Int)
abbrev cS.L0.X0:=(Bs)×((List Int))
def cS.L0.bV:cS.L0.X0->Exit×AS:=λx=>(.exit 0,⟨([.undef,.undef,.ptr (.new 2 0) 0 [] 0,.undef,.d (.slice (.int .u32)) x.2]++bG 37 []),[],([[],[],[.obj 0 false (.d tH x.1)]]++db 39 [])⟩)
abbrev cS.L0.X:=cS.L0.X0
abbrev cS.L0.Y:=cS.L0.Y0
def cS.L0.out:cS.L0.X->Out (Exit×AS):=λx=> .ok (cS.L0.bV x)
def cS.L0.add:cS.L0.D->cS.L0.Y->cS.L0.X:=λ(p,h,i,n2) y=>(n2,y)
abbrev cS.L1.D:=(List Int)×Int×Bs×Bs
def cS.L1.st:cS.L1.D->AS:=λ(s6,jf,lS,n6)=>⟨([.undef,.undef,.ptr (.new 2 0) 0 [] 0,.undef,.d (.slice (.int .u32)) s6,.undef,.ptr (.new 6 0) 0 [] 0,.d ti jf]++bG 34 []),[],([[],[],[.obj 0 false (.d tH lS)],[],[],[],[.obj 0 false (.d tH n6)]]++db 35 [])⟩
abbrev cS.L1.Y0:=Bs
abbrev cS.L1.X0:=(Bs)×(Bs)
def cS.L1.bV:cS.L1.X0->Exit×AS:=λx=>(.exit 2,⟨([.undef,.undef,.ptr (.new 2 0) 0 [] 0,.undef,.undef,.undef,.ptr (.new 6 0) 0 [] 0]++bG 35 []),[],([[],[],[.obj 0 false (.d tH x.1)],[],[],[],[.obj 0 false (.d tH x.2)]]++db 35 [])⟩)
abbrev cS.L1.X:=cS.L1.X0
abbrev cS.L1.Y:=cS.L1.Y0
def cS.L1.out:cS.L1.X->Out (Exit×AS):=λx=> .ok (cS.L1.bV x)
def cS.L1.add:cS.L1.D->cS.L1.Y->cS.L1.X:=λ(s6,jf,lS,n6) y=>(lS,y)
abbrev cS.D:=Bs
def cS.st:cS.D->SA:=λb=>([.d tB b],[])
abbrev cS.Y:=Bs
abbrev cS.X:=Bs
def cS.out:cS.X->aZ:=λx=>⟨.d tH x,[],[]⟩
def cS.add:cS.D->cS.Y->cS.X:=λb y=>y
def cS.L0.aw:cS.L0.D->Prop:=λ(p,h,i,n2)=>p.length%64=0/\p.length<=140737488355328/\∃(s:St) (k:Nat),h=s.l/\i=((64*k:Nat):Int)/\64*k<=p.length
def cS.L0.F:cS.L0.D->cS.L0.Y:=λ(p,h,i,n2)=>(blocks (Gd h) (p.drop i.toNat)).l
def cS.L1.aw:cS.L1.D->Prop:=λ(h,i,n2,l)=>h.length=8/\l.length=32/\∃k:Nat,k<=32/\i=k
def cS.L1.F:cS.L1.D->cS.L1.Y:=λ(h,i,n2,l)=>from_ (xk h) i.toNat l
def cS.aw:cS.D->Prop:=λb=>b.length<=140737488350000
def cS.F:cS.D->cS.Y:=λb=>Sq b
def cS.G:fD:=gz (P:=Tryz.prog) [aG.sg,ed.sg,aT.sg]
def cS.L0.E:=cV.dp cS.L0.st cS.L0.aw cS.L0.add cS.L0.F cS.L0.out
def cS.L0.call:cS.L0.D->Option cS.L0.X:=eI cS.L0.E cS.L0.st
def cS.L1.E:=cV.dp cS.L1.st cS.L1.aw cS.L1.add cS.L1.F cS.L1.out
def cS.L1.call:cS.L1.D->Option cS.L1.X:=eI cS.L1.E cS.L1.st
def cS.an:fT:= {loops:=oF [(4,{bS:=[2,3,4,5],sites:=[2]}),(9,{bS:=[2,4,6,7],sites:=[2,6]})],outs:=oE [(4,{bS:=[2,4],sites:=[2]},{bS:=[2]}),(9,{bS:=[2,6],sites:=[2,6]},{bS:=[2]})],jw:=pL [(4,cS.L0.E),(9,cS.L1.E)]}
def cS.A:= @dq Tryz.prog cS.G cS.an 0 Tryz.f155 _ cS.st
abbrev cS.Ok:=dr @cS.A cS.aw cS.add cS.F cS.out
def cS.L0.R:= @dn Tryz.prog cS.G cS.an 0 Tryz.f155 0 _ cS.L0.st
abbrev cS.L0.Ok:=gw Tryz.prog cS.G cS.an 0 Tryz.f155 0 cS.L0.st cS.L0.aw cS.L0.add cS.L0.F cS.L0.out
def cS.L1.R:= @dn Tryz.prog cS.G cS.an 0 Tryz.f155 1 _ cS.L1.st
abbrev cS.L1.Ok:=gw Tryz.prog cS.G cS.an 0 Tryz.f155 1 cS.L1.st cS.L1.aw cS.L1.add cS.L1.F cS.L1.out
theorem cS.L0.run:cl cS.L0.call cS.L0.aw cS.L0.add cS.L0.F:=gT (gS [.d tB,.d (.slice (.int .u32)),.d ti,.d tB] λ_=>by kernel_rfl)
theorem cS.L0.aI:jk @cS.L0.R cS.L0.st cS.L0.aw cS.L0.add cS.L0.F cS.L0.bV cS.L0.Ok:=jm
theorem cS.L0.step{R:Type}(p:Bs)(h:(List Int))(i:Int)(n2:Bs)(kn:AS->Option R)(kx:Exit->AS->Option R):cS.L0.R (p,h,i,n2) kn kx=
  aJ ((jK i (((List.length p):Nat):Int))) (
   aJ (inc (bO .i64 i (64:Int)) (((List.length p):Nat):Int)) (
   aJ (inc i (((Int.toNat (bO .i64 i (64:Int))):Nat):Int)) (
   aj (aT.call (h,(cut p (Int.toNat i) ((Int.toNat (bO .i64 i (64:Int))) - (Int.toNat i))))) λx1=>
   kn (cS.L0.st (p,x1,(bO .i64 i (64:Int)),n2))) none) none) (
   kx (cS.L0.bV (n2,h)).1 (cS.L0.bV (n2,h)).2):=by kernel_rfl
theorem cS.L1.run:cl cS.L1.call cS.L1.aw cS.L1.add cS.L1.F:=gT (gS [.d (.slice (.int .u32)),.d ti,.d tB,.d tB] λ_=>by kernel_rfl)
theorem cS.L1.aI:jk @cS.L1.R cS.L1.st cS.L1.aw cS.L1.add cS.L1.F cS.L1.bV cS.L1.Ok:=jm
theorem cS.L1.step{R:Type}(s6:(List Int))(jf:Int)(lS:Bs)(n6:Bs)(kn:AS->Option R)(kx:Exit->AS->Option R):cS.L1.R (s6,jf,lS,n6) kn kx=
  aJ ((jK jf (32:Int))) (
   aJ (fp (qw .i64 jf (4:Int)) (((List.length s6):Nat):Int)) (
   aJ (nA (cY .i64 (24:Int) (gJ .i64 (8:Int) (fU jf (4:Int))))) (
   aJ (fp jf (32:Int)) (
   aJ (decide ((Int.toNat jf) < (List.length n6))) (
   aJ (decide ((((Int.toNat jf)*1)+0)=(0+((Int.toNat jf)*1)))) (
   aJ (decide ((Int.toNat jf) < (List.length n6))) (
   kn (cS.L1.st (s6,(bO .i64 jf (1:Int)),lS,(List.set n6 (Int.toNat jf) (eH .u8 (cZ .u32 (nth (.int .u32) s6 (Int.toNat (qw .i64 jf (4:Int)))) (cY .i64 (24:Int) (gJ .i64 (8:Int) (fU jf (4:Int)))))))))) none) none) none) none) none) none) (
   kx (cS.L1.bV (lS,n6)).1 (cS.L1.bV (lS,n6)).2):=by kernel_rfl
theorem cS.eq{R:Type}(b:Bs)(k:aZ->Option R):cS.A b k=
 aj (aG.call b) λx1=>
 aj (ed.call ()) λx2=>
 aj (cS.L0.call (x1,x2,(0:Int),(List.replicate 32 (0:Int)))) λx4=>
 aj (cS.L1.call (x4.2,(0:Int),x4.1,(List.replicate 32 (0:Int)))) λx5=>
 k (cS.out x5.2):=by kernel_rfl
theorem cS.L0.ok:cS.L0.Ok:=by
 refine cS.L0.aI (λ(p,h,i,n2)=>p.length - i.toNat) ?_
 rintro⟨p,h,i,n2⟩ ⟨hm,hb,s,k,rfl,rfl,hk⟩
 have hm:p.length%64=0:=hm
 have hb:p.length<=140737488355328:=hb
 have hk:64*k<=p.length:=hk
 by_cases mw:64*k < p.length
 ·left
  have e1:cut p (64*k) (64*k+64 - 64*k)=(p.drop (64*k)).take 64:=by unfold cut;rw[show 64*k+64 - 64*k=64 by omega]
  have e2:(p.drop (64*k)).drop 64=p.drop (64*(k+1)):=by rw[iX];congr 1
  have e3:(64*(k+1):Nat)=64*k+64:=by omega
  have p1:aT.aw (s.l,(p.drop (64*k)).take 64):=⟨⟨s,rfl⟩,by simp;omega⟩
  refine⟨(p,(z9 s ((p.drop (64*k)).take 64)).l,((64*(k+1):Nat):Int),n2),⟨hm,hb,_,k+1,rfl,rfl,by omega⟩,by simp only[aa];omega,?_,λkn kx=> ?_⟩
  ·simp only[cS.L0.add,cS.L0.F,nC,aa]
   rw[vP s (p.drop (64*k)) (by simp;omega),e2]
  ·rw[cS.L0.step]
   simp(disch:=omega) only[↓S1,↓if_pos,↓if_neg,if_pos,if_neg,if_true,if_false,S2,e1,aT.run p1,aT.add,aT.F,nC,e3]
 ·right
  intro R kn kx
  rw[cS.L0.step]
  simp(disch:=omega) only[↓S1,↓if_pos,↓if_neg,if_pos,if_neg,if_true,if_false,S2,cS.L0.add,cS.L0.F,nC]
  rw[uL s _ (by simp;omega)]
theorem cS.L1.ok:cS.L1.Ok:=by
 refine cS.L1.aI (λ(h,i,n2,l)=>32 - i.toNat) ?_
 rintro⟨h,i,n2,l⟩ ⟨h8,hl,k,hk,rfl⟩
 have hl:l.length=32:=hl
 have h8:h.length=8:=h8
 by_cases mw:k < 32
 ·left
  refine⟨(h,((k+1:Nat):Int),n2,l.set k (xk h k l[k])),⟨h8,by simpa using hl,k+1,by omega,rfl⟩,by simp only[aa];omega,?_,λkn kx=> ?_⟩
  ·simp only[cS.L1.add,cS.L1.F,aa]
   rw[wP (xk h) l k (by omega)]
  ·rw[cS.L1.step]
   simp(disch:=omega) only[↓S1,↓if_pos,↓if_neg,if_pos,if_neg,if_true,if_false,S2,hl,h8,kb,dE,bl,xk]
 ·right
  obtain rfl:k=32:=by omega
  intro R kn kx
  rw[cS.L1.step]
  simp(disch:=omega) only[↓S1,↓if_pos,↓if_neg,if_pos,if_neg,if_true,if_false,S2,cS.L1.add,cS.L1.F]
  rw[yy _ _ _ (by omega)]
theorem Jm(b:List Int):(pad b).length%64=0/\(pad b).length<=b.length+73:=by
 unfold pad
 simp only[ae,aN,eo,dO,sN]
 omega
theorem cS.ok:cS.Ok:=by
 intro b hb
 have hb:b.length<=140737488350000:=hb
 have p1:aG.aw b:=hb
 obtain⟨h1,h2⟩:=Jm b
 have p2:cS.L0.aw (pad b,px.l,0,List.replicate 32 0):=⟨h1,by omega,px,0,rfl,rfl,by omega⟩
 have p3:cS.L1.aw ((blocks px (pad b)).l,0,List.replicate 32 0,List.replicate 32 0):=⟨rfl,rfl,0,by omega,rfl⟩
 rw[cS.eq]
 simp(disch:=omega) only[↓S1,↓if_pos,↓if_neg,if_pos,if_neg,if_true,if_false,S2,aG.run p1,aG.add,aG.F,ed.run (d:=()) trivial,ed.add,ed.F,cS.L0.run p2,cS.L0.add,cS.L0.F,nC,bK,aW,cS.L1.run p3,cS.L1.add,cS.L1.F,Kx]
 rfl
def cS.E:=Entry.dp [some tB] cS.st cS.aw cS.add cS.F cS.out
def cS.call:cS.D->Option cS.X:=cj cS.E cS.st
theorem cS.run:cl cS.call cS.aw cS.add cS.F:=dw (du [.d tB] λ_=>by kernel_rfl)
def cS.sg:SG Tryz.prog:=⟨155,aP,cS.E,.fn 2 (by kernel_rfl) cS.ok (And.intro (.dp cS.L0.ok (by kernel_rfl)) (And.intro (.dp cS.L1.ok (by kernel_rfl)) trivial))⟩
abbrev gH.D:=Int
def gH.st:gH.D->SA:=λn=>([.d tu n],[])
abbrev gH.Y:=Nat×(List Int)
abbrev gH.X:=Nat×(List Int)
def gH.out:gH.X->aZ:=λx=>⟨.dh (.new 0 0) 0 [] 0 0 x.1,[],[.obj 0 false (.vec 5 tb x.2)]⟩
def gH.add:gH.D->gH.Y->gH.X:=λn y=>y
def gH.aw:gH.D->Prop:=λn=>0<=n/\n < 18446744073709551616
def gH.F:gH.D->gH.Y:=λn=>(8,mu n)
def gH.G:fD:=gz (P:=Tryz.prog) []
def gH.an:fT:= {loops:=oF [(3,{bS:=[0,3,4],sites:=[15]})],outs:=oE [(3,{bS:=[3],sites:=[15]},{bS:=[2],sites:=[15]})],nB:=[⟨2,[],15,135⟩]}
def gH.A:= @dq Tryz.prog gH.G gH.an 10 Tryz.f154 _ gH.st
abbrev gH.Ok:=dr @gH.A gH.aw gH.add gH.F gH.out
theorem gH.eq{R:Type}(n:Int)(k:aZ->Option R):gH.A n k=
 k (gH.out (8,[(eH .u8 (cZ .u64 n (56:Int))),(eH .u8 (cZ .u64 n (48:Int))),(eH .u8 (cZ .u64 n (40:Int))),(eH .u8 (cZ .u64 n (32:Int))),(eH .u8 (cZ .u64 n (24:Int))),(eH .u8 (cZ .u64 n (16:Int))),(eH .u8 (cZ .u64 n (8:Int))),(eH .u8 (cZ .u64 n (0:Int)))])):=by kernel_rfl
theorem gH.ok:gH.Ok:=by
 intro n _
 have e:∀k:Nat,k<=64->eH .u8 (cZ .u64 n (k:Int))=n / 2^k%256:=λk hk=>Im n k hk
 rw[gH.eq]
 have e56:eH .u8 (cZ .u64 n 56)=n / 2^56%256:=e 56 (by omega)
 have e48:eH .u8 (cZ .u64 n 48)=n / 2^48%256:=e 48 (by omega)
 have e40:eH .u8 (cZ .u64 n 40)=n / 2^40%256:=e 40 (by omega)
 have e32:eH .u8 (cZ .u64 n 32)=n / 2^32%256:=e 32 (by omega)
 have e24:eH .u8 (cZ .u64 n 24)=n / 2^24%256:=e 24 (by omega)
 have e16:eH .u8 (cZ .u64 n 16)=n / 2^16%256:=e 16 (by omega)
 have e8:eH .u8 (cZ .u64 n 8)=n / 2^8%256:=e 8 (by omega)
 have e0:=e 0 (by omega)
 rw[e56,e48,e40,e32,e24,e16,e8]
 have e0:eH .u8 (cZ .u64 n 0)=n%256:=by rw[show(0:Int)=((0:Nat):Int) from rfl,e0];simp
 rw[e0]
 rfl
def gH.E:=Entry.dp [some tu] gH.st gH.aw gH.add gH.F gH.out
def gH.call:gH.D->Option gH.X:=cj gH.E gH.st
theorem gH.run:cl gH.call gH.aw gH.add gH.F:=dw (du [.d tu] λ_=>by kernel_rfl)
def gH.sg:SG Tryz.prog:=⟨154,aP,gH.E,.fn 1 (by kernel_rfl) gH.ok (And.intro (.none (by kernel_rfl)) trivial)⟩
abbrev eM.L0.D:=(List Bs)×Nat×Int×Bs×(List Int)
def eM.L0.st:eM.L0.D->AS:=λ(pe,bL,i,n4,PJ)=>⟨([.undef,.d (.slice tB) pe,.undef,.undef,.ptr (.new 4 0) 0 [] 0,.dh (.new 11 0) 0 [] 0 0 bL,.d ti i]++bG 32 []),[],(db 4 ([[.obj 0 false (.d tH n4)]]++db 6 ([[.obj 0 false (.vec 5 tb PJ)]]++db 27 [])))⟩
abbrev eM.L0.Y0:=Nat×(List Int)
abbrev eM.L0.X0:=(Bs)×(Nat×(List Int))
def eM.L0.bV:eM.L0.X0->Exit×AS:=λx=>(.exit 0,⟨(bG 4 ([.ptr (.new 4 0) 0 [] 0,.dh (.new 11 0) 0 [] 0 0 x.2.1]++bG 33 [])),[],(db 4 ([[.obj 0 false (.d tH x.1)]]++db 6 ([[.obj 0 false (.vec 5 tb x.2.2)]]++db 27 [])))⟩)
abbrev eM.L0.X:=eM.L0.X0
abbrev eM.L0.Y:=eM.L0.Y0
def eM.L0.out:eM.L0.X->Out (Exit×AS):=λx=> .ok (eM.L0.bV x)
def eM.L0.add:eM.L0.D->eM.L0.Y->eM.L0.X:=λ(pe,bL,i,n4,PJ) y=>(n4,y)
abbrev eM.D:=ByteArray×(List Bs)
def eM.st:eM.D->SA:=λ(name,parts)=>([.d .str name,.d (.slice tB) parts],[])
abbrev eM.Y:=Bs
abbrev eM.X:=Bs
def eM.out:eM.X->aZ:=λx=>⟨.d tH x,[],[]⟩
def eM.add:eM.D->eM.Y->eM.X:=λ(name,parts) y=>y
def eM.L0.aw:eM.L0.D->Prop:=λ(ps,m,i,n4,l)=>m=l.length/\∃k:Nat,k<=ps.length/\ps.length<=140737488350000/\i=k/\l.length+(nG (ps.drop k)).length<=140737488350000
def eM.L0.F:eM.L0.D->eM.L0.Y:=λ(ps,m,i,n4,l)=>(l.length+(nG (ps.drop i.toNat)).length,l++nG (ps.drop i.toNat))
def eM.aw:eM.D->Prop:=λ(name,ps)=>(Aq (cr name) ps).length<=140737488350000
def eM.F:eM.D->eM.Y:=λ(name,ps)=>tag (cr name) ps
def eM.G:fD:=gz (P:=Tryz.prog) [gH.sg,cS.sg]
def eM.L0.E:=cV.dp eM.L0.st eM.L0.aw eM.L0.add eM.L0.F eM.L0.out
def eM.L0.call:eM.L0.D->Option eM.L0.X:=eI eM.L0.E eM.L0.st
def eM.an:fT:= {loops:=oF [(3,{bS:=[1,4,5,6],sites:=[4,11],nB:=[⟨5,[],11,135⟩]})],outs:=oE [(3,{bS:=[4,5],sites:=[4,11]},{bS:=[4]})],jw:=pL [(3,eM.L0.E)]}
def eM.A:= @dq Tryz.prog eM.G eM.an 0 Tryz.f113 _ eM.st
abbrev eM.Ok:=dr @eM.A eM.aw eM.add eM.F eM.out
def eM.L0.R:= @dn Tryz.prog eM.G eM.an 0 Tryz.f113 0 _ eM.L0.st
abbrev eM.L0.Ok:=gw Tryz.prog eM.G eM.an 0 Tryz.f113 0 eM.L0.st eM.L0.aw eM.L0.add eM.L0.F eM.L0.out
theorem eM.L0.run:cl eM.L0.call eM.L0.aw eM.L0.add eM.L0.F:=gT (gS [.d (.slice tB),.n,.d ti,.d tB,.d tB] λ_=>by kernel_rfl)
theorem eM.L0.aI:jk @eM.L0.R eM.L0.st eM.L0.aw eM.L0.add eM.L0.F eM.L0.bV eM.L0.Ok:=jm
theorem eM.L0.step{R:Type}(pe:(List Bs))(bL:Nat)(i:Int)(n4:Bs)(PJ:(List Int))(kn:AS->Option R)(kx:Exit->AS->Option R):eM.L0.R (pe,bL,i,n4,PJ) kn kx=
  aJ ((jK i (((List.length pe):Nat):Int))) (
   aJ (fp i (((List.length pe):Nat):Int)) (
   aj (gH.call (eH .u64 (((List.length (nth tB pe (Int.toNat i))):Nat):Int))) λx1=>
   aJ (decide (0=0/\(0+x1.1)<=(List.length x1.2))) (
   aJ (decide (bL<=(List.length PJ))) (
   aJ (fk (bL+(List.length (cut x1.2 0 x1.1))) 1) (
   aJ (fp i (((List.length pe):Nat):Int)) (
   aJ (decide ((bL+(List.length (cut x1.2 0 x1.1)))<=(List.length ((List.take bL PJ)++(cut x1.2 0 x1.1))))) (
   aJ (fk ((bL+(List.length (cut x1.2 0 x1.1)))+(List.length (nth tB pe (Int.toNat i)))) 1) (
   kn (eM.L0.st (pe,((bL+(List.length (cut x1.2 0 x1.1)))+(List.length (nth tB pe (Int.toNat i)))),(bO .i64 i (1:Int)),n4,((List.take (bL+(List.length (cut x1.2 0 x1.1))) ((List.take bL PJ)++(cut x1.2 0 x1.1)))++(nth tB pe (Int.toNat i)))))) none) none) none) none) none) none) none) (
   kx (eM.L0.bV (n4,(bL,PJ))).1 (eM.L0.bV (n4,(bL,PJ))).2):=by kernel_rfl
theorem eM.eq{R:Type}(name:ByteArray)(parts:(List Bs))(k:aZ->Option R):eM.A (name,parts) k=
 aj (gH.call (eH .u64 (((ByteArray.size name):Nat):Int))) λx1=>
 aJ (decide (x1.1<=(List.length x1.2))) (
 aJ (fk (x1.1+(List.length (cr name))) 1) (
 aj (eM.L0.call (parts,(x1.1+(List.length (cr name))),(0:Int),(List.replicate 32 (0:Int)),((List.take x1.1 x1.2)++(cr name)))) λx4=>
 aJ (decide (0=0/\(0+x4.2.1)<=(List.length x4.2.2))) (
 aj (cS.call (cut x4.2.2 0 x4.2.1)) λx5=>
 k (eM.out x5)) none) none) none:=by kernel_rfl
theorem KQ{n:Nat}(h:n < 18446744073709551616):eH .u64 ((n:Nat):Int)=n:=by rw[FG,kP];omega
theorem gH.at{n:Nat}(h:n < 18446744073709551616):gH.call (n:Int)=some (8,mu (n:Int)):=gH.run (d:=(n:Int)) (show 0<=(n:Int)/\(n:Int) < 18446744073709551616 from⟨by omega,by omega⟩)
theorem Tm{l:List Int}{n:Nat}(h:l.length=n):cut l 0 n=l:=by unfold cut;rw[aW,cn (by omega)]
theorem eM.L0.ok:eM.L0.Ok:=by
 refine eM.L0.aI (λ(ps,m,i,n4,l)=>ps.length - i.toNat) ?_
 rintro⟨ps,m,i,n4,l⟩ ⟨rfl,k,hk,wR,rfl,hl⟩
 have hk:k<=ps.length:=hk
 have wR:ps.length<=140737488350000:=wR
 have hl:l.length+(nG (ps.drop k)).length<=140737488350000:=hl
 by_cases h:k < ps.length
 ·left
  have ht:=E2 ps k h
  have hlen:(nG (ps.drop k)).length=8+ps[k].length+(nG (ps.drop (k+1))).length:=by rw[ht];simp only[ae,dO]
  have hn:nth (.slice (.int .u8)) ps k=ps[k]:=dP (t:= .slice (.int .u8)) h
  have Pr:(l++mu (ps[k].length:Int)).length=l.length+8:=by simp[dO]
  refine⟨(ps,(l++mu ps[k].length++ps[k]).length,((k+1:Nat):Int),n4,l++mu ps[k].length++ps[k]),⟨rfl,k+1,by omega,wR,rfl,?_⟩,by simp only[aa];omega,?_,λkn kx=> ?_⟩
  ·simp only[ae,dO];omega
  ·simp only[eM.L0.add,eM.L0.F,aa,ht,bR]
   simp only[ae,dO,gY]
  ·have c8:cut (mu (ps[k].length:Int)) 0 8=mu (ps[k].length:Int):=Tm (dO _)
   have FA:ps[k].length < 18446744073709551616:=by omega
   rw[eM.L0.step]
   simp(disch:=omega) only[↓S1,↓if_pos,↓if_neg,if_pos,if_neg,if_true,if_false,S2,hn,KQ FA,gH.at FA,dO,c8,cz,Pr,bl,aC,and_self,if_true]
   rw[cn (by rw[Pr];omega)]
   simp only[ae,dO,gY]
 ·right
  obtain rfl:k=ps.length:=by omega
  intro R kn kx
  rw[eM.L0.step]
  simp(disch:=omega) only[↓S1,↓if_pos,↓if_neg,if_pos,if_neg,if_true,if_false,S2,eM.L0.add,eM.L0.F,bH]
  simp[nG]
theorem eM.ok:eM.Ok:=by
 rintro⟨name,ps⟩ hp
 have hp:(mu (cr name).length++cr name++nG ps).length<=140737488350000:=hp
 have hl:(mu (cr name).length++cr name++nG ps).length=8+(cr name).length+(nG ps).length:=by simp only[ae,dO]
 have wR:=Dk ps
 have rM:name.size=(cr name).length:=by rw[lX]
 have FA:(cr name).length < 18446744073709551616:=by omega
 have p2:eM.L0.aw (ps,8+(cr name).length,0,List.replicate 32 0,mu ((cr name).length:Int)++cr name):=by
  refine⟨by simp only[ae,dO],0,bm _,by omega,rfl,?_⟩
  rw[aW]
  simp only[ae,dO]
  omega
 rw[eM.eq,rM]
 simp(disch:=omega) only[↓S1,↓if_pos,↓if_neg,if_pos,if_neg,if_true,if_false,S2,KQ FA,gH.at FA,dO,cn (Nat.le_of_eq (dO _)),eM.L0.run p2,eM.L0.add,eM.L0.F,bK,aW,bl]
 have Lu:cut (mu ((cr name).length:Int)++cr name++nG ps) 0 ((mu ((cr name).length:Int)++cr name).length+(nG ps).length)=Aq (cr name) ps:=Tm (by simp only[ae])
 have p3:cS.aw (Aq (cr name) ps):=hp
 rw[if_pos (by simp only[ae];omega),Lu,cS.run p3]
 rfl
def eM.E:=Entry.dp [some .str,some (.slice tB)] eM.st eM.aw eM.add eM.F eM.out
def eM.call:eM.D->Option eM.X:=cj eM.E eM.st
theorem eM.run:cl eM.call eM.aw eM.add eM.F:=dw (du [.d .str,.d (.slice tB)] λ_=>by kernel_rfl)
def eM.sg:SG Tryz.prog:=⟨113,aP,eM.E,.fn 1 (by kernel_rfl) eM.ok (And.intro (.dp eM.L0.ok (by kernel_rfl)) trivial)⟩
theorem zk{n:Int}(h1:0<=n)(h2:n < 18446744073709551616):IntKind.u64.wrap n=n:=by
 rw[wrap_u64,kP];omega
theorem zj(n:Int):IntKind.u64.wrap n=n%18446744073709551616:=by
 rw[wrap_u64,kP];rfl
theorem nD(x y:Int):bO .u64 x y=(x+y)%18446744073709551616:=zj _
theorem Bw(x y:Int):cY .u64 x y=(x - y)%18446744073709551616:=zj _
theorem qU(x y:Int):gJ .u64 x y=(x*y)%18446744073709551616:=zj _
theorem I7(x:Int):eH .u64 x=x%18446744073709551616:=zj _
theorem GB{x:Int}(h:0<=x)(h2:x < 18446744073709551616):dC .and .u64 x 4294967295=x%4294967296:=by
 obtain⟨n,rfl⟩:∃n:Nat,x=n:=⟨x.toNat,by omega⟩
 have e:(BitVec.ofInt 64 (n:Int) &&& BitVec.ofInt 64 4294967295).toNat=n%4294967296:=by
  rw[BitVec.toNat_and]
  have a:(BitVec.ofInt 64 (n:Int)).toNat=n:=by rw[nH,ph];omega
  have b:(BitVec.ofInt 64 4294967295).toNat=2^32 - 1:=by decide
  rw[a,b,Nat.and_two_pow_sub_one_eq_mod]
 show IntKind.u64.wrap ((BitVec.ofInt 64 (n:Int) &&& BitVec.ofInt 64 4294967295).toNat:Int)=_
 rw[e,zk (by omega) (by omega)];omega
theorem Tg{x:Int}(h:0<=x)(h2:x < 18446744073709551616):dC .and .u64 x 1=x%2:=by
 obtain⟨n,rfl⟩:∃n:Nat,x=n:=⟨x.toNat,by omega⟩
 have e:(BitVec.ofInt 64 (n:Int) &&& BitVec.ofInt 64 1).toNat=n%2:=by
  rw[BitVec.toNat_and]
  have a:(BitVec.ofInt 64 (n:Int)).toNat=n:=by rw[nH,ph];omega
  have b:(BitVec.ofInt 64 1).toNat=2^1 - 1:=by decide
  rw[a,b,Nat.and_two_pow_sub_one_eq_mod]
 show IntKind.u64.wrap ((BitVec.ofInt 64 (n:Int) &&& BitVec.ofInt 64 1).toNat:Int)=_
 rw[e,zk (by omega) (by omega)];omega
theorem qY{x k:Int}(n:Nat)(hk:k=n)(hn:n<=64):cZ .u64 x k=x / 2^n:=by
 subst hk
 rw[cZ]
 have e:min (Int.toNat (n:Int)) IntKind.u64.bits=n:=by simp only[IntKind.bits];omega
 rw[e,lC _ (nY (Int.pow_pos (by omega)))]
theorem qX{x k:Int}(n:Nat)(hk:k=n)(hn:n<=64):oJ .u64 x k=x*2^n%18446744073709551616:=by
 subst hk
 rw[oJ,zj]
 have e:min (Int.toNat (n:Int)) IntKind.u64.bits=n:=by simp only[IntKind.bits];omega
 rw[e]
theorem yR{x y:Int}(k:Nat)(m:Int)(hm:m=2^k)(hx:x%m=0)(h0:0<=x)(h1:x < 18446744073709551616)(hy:0<=y)(U6:y < m)(h2:x+y < 18446744073709551616):dC .or .u64 x y=x+y:=by
 subst hm
 obtain⟨n,rfl⟩:∃n:Nat,x=n:=⟨x.toNat,by omega⟩
 obtain⟨j,rfl⟩:∃j:Nat,y=j:=⟨y.toNat,by omega⟩
 have hx:n%2^k=0:=by
  have:((n%2^k:Nat):Int)=0:=by rw[nZ];simpa using hx
  omega
 have hj:j < 2^k:=by
  have:((j:Nat):Int) < ((2^k:Nat):Int):=by simpa using U6
  omega
 obtain⟨q,rfl⟩:∃q,n=2^k*q:=⟨n / 2^k,by have:=Nat.div_add_mod n (2^k);omega⟩
 have e:(BitVec.ofInt 64 ((2^k*q:Nat):Int) ||| BitVec.ofInt 64 (j:Int)).toNat=2^k*q+j:=by
  rw[BitVec.toNat_or]
  have a:(BitVec.ofInt 64 ((2^k*q:Nat):Int)).toNat=2^k*q:=by rw[nH,ph];exact oq (by omega)
  have b:(BitVec.ofInt 64 (j:Int)).toNat=j:=by rw[nH,ph];exact oq (by omega)
  rw[a,b,Nat.two_pow_add_eq_or_of_lt hj]
 show IntKind.u64.wrap ((BitVec.ofInt 64 ((2^k*q:Nat):Int) ||| BitVec.ofInt 64 (j:Int)).toNat:Int)=_
 rw[e,zk (by omega) (by omega)];omega
theorem FL{x y:Int}(h:0<=x)(h1:0<=y)(h2:x < 18446744073709551616):qw .u64 x y=x / y:=by
 rw[qw,lD h]
 exact zk (Int.ediv_nonneg h h1) (Int.lt_of_le_of_lt (Int.ediv_le_self _ h) h2)
theorem kT{x y:Int}(h:0<=x):fU x y=x%y:=by rw[fU,jX h]
theorem k1{e u w r q:Int}(he:e=42260\/e=42264\/e=42272)(hu:0<=u)(Gn:u < 18446744073709551616 - e)(hw:0<=w)(Nn:w < 4294967296)(hr:0<=r)(Mr:r < 4294967296)
  (hq:q*4294967295+r=u) (hQ:(u*4294967296+w) / (18446744073709551616 - e)<=q):
  (4294967296<=q->(u*4294967296+w) / (18446744073709551616 - e)<=q - 1)/\
  (q < 4294967296->4294967296*r+w < q*(4294967296 - e)->(u*4294967296+w) / (18446744073709551616 - e)<=q - 1)/\
  (q < 4294967296->q*(4294967296 - e)<=4294967296*r+w->(u*4294967296+w) / (18446744073709551616 - e)=q)/\
  (4294967296<=r+4294967295->(u*4294967296+w) / (18446744073709551616 - e)<=q - 1->(u*4294967296+w) / (18446744073709551616 - e)=q - 1)/\0<=(u*4294967296+w) / (18446744073709551616 - e)/\q<=4294967297:=by
 rcases he with rfl | rfl | rfl
 ·refine⟨?_,?_,?_,?_,?_,?_⟩ <;> omega
 ·refine⟨?_,?_,?_,?_,?_,?_⟩ <;> omega
 ·refine⟨?_,?_,?_,?_,?_,?_⟩ <;> omega
theorem k0{e u w:Int}(he:e=42260\/e=42264\/e=42272)(hu:0<=u)(Gn:u < 18446744073709551616 - e)(hw:0<=w)(Nn:w < 4294967296):
  (u*4294967296+w) / (18446744073709551616 - e)<=u / 4294967295/\0<=u - u / 4294967295*4294967295/\u - u / 4294967295*4294967295 < 4294967296/\
  (u*4294967296+w) - (u*4294967296+w) / (18446744073709551616 - e)*(18446744073709551616 - e)=(u*4294967296+w)%(18446744073709551616 - e)/\
  0<=(u*4294967296+w)%(18446744073709551616 - e)/\(u*4294967296+w)%(18446744073709551616 - e) < 18446744073709551616 - e/\
  0<=(u*4294967296+w) / (18446744073709551616 - e)/\(u*4294967296+w) / (18446744073709551616 - e) < 4294967296:=by
 rcases he with rfl | rfl | rfl
 ·refine⟨?_,?_,?_,?_,?_,?_,?_,?_⟩ <;> omega
 ·refine⟨?_,?_,?_,?_,?_,?_,?_,?_⟩ <;> omega
 ·refine⟨?_,?_,?_,?_,?_,?_,?_,?_⟩ <;> omega
theorem kd(Y u w1 w0:Int)(hY:0 < Y)(h0:0<=w0)(h1:w0 < 4294967296):
  ((u*4294967296+w1)*4294967296+w0) / Y=(u*4294967296+w1) / Y*4294967296+((u*4294967296+w1)%Y*4294967296+w0) / Y/\
  ((u*4294967296+w1)*4294967296+w0)%Y=((u*4294967296+w1)%Y*4294967296+w0)%Y:=by
 generalize u*4294967296+w1=n
 have e:n*4294967296+w0=(n%Y*4294967296+w0)+Y*(n / Y*4294967296):=by
  have:=Int.emod_add_mul_ediv n Y
  have h:Y*(n / Y*4294967296)=(Y*(n / Y))*4294967296:=by rw[Int.mul_assoc]
  rw[h];omega
 rw[e,Int.add_mul_ediv_left _ _ (by omega),Int.add_mul_emod_self_left]
 exact⟨by omega,rfl⟩
abbrev gv.D:=Int
def gv.st:gv.D->SA:=λx=>([.d tu x],[])
abbrev gv.Y:=Int
abbrev gv.X:=Int
def gv.out:gv.X->aZ:=λx=>⟨.d ti x,[],[]⟩
def gv.add:gv.D->gv.Y->gv.X:=λx y=>y
def Uo(y:Int):Prop:=y=4611686018427377339\/y=2305843009213688669\/y=2305843009213688668
def gv.aw:gv.D->Prop:=Uo
def gv.F:gv.D->gv.Y:=λy=>if y=4611686018427377339 then 62 else 61
def gv.G:fD:=gz (P:=Tryz.prog) []
def gv.an:fT:= {}
def gv.A:= @dq Tryz.prog gv.G gv.an 0 Tryz.f189 _ gv.st
abbrev gv.Ok:=dr @gv.A gv.aw gv.add gv.F gv.out
theorem gv.eq{R:Type}(x:Int)(k:aZ->Option R):gv.A x k=
  aJ ((qz x (4294967296:Int))) (
   aJ ((qz (cZ .u64 x (32:Int)) (65536:Int))) (
    aJ ((qz (cZ .u64 (cZ .u64 x (32:Int)) (16:Int)) (256:Int))) (
     aJ (fp (eH .u8 (cZ .u64 (cZ .u64 (cZ .u64 x (32:Int)) (16:Int)) (8:Int))) (256:Int)) (
     k (gv.out (bO .i64 (56:Int) (eH .i64 (H4 (⟨#[0,1,2,2,3,3,3,3,4,4,4,4,4,4,4,4,5,5,5,5,5,5,5,5,5,5,5,5,5,5,5,5,6,6,6,6,6,6,6,6,6,6,6,6,6,6,6,6,6,6,6,6,6,6,6,6,6,6,6,6,6,6,6,6,7,7,7,7,7,7,7,7,7,7,7,7,7,7,7,7,7,7,7,7,7,7,7,7,7,7,7,7,7,7,7,7,7,7,7,7,7,7,7,7,7,7,7,7,7,7,7,7,7,7,7,7,7,7,7,7,7,7,7,7,7,7,7,7,8,8,8,8,8,8,8,8,8,8,8,8,8,8,8,8,8,8,8,8,8,8,8,8,8,8,8,8,8,8,8,8,8,8,8,8,8,8,8,8,8,8,8,8,8,8,8,8,8,8,8,8,8,8,8,8,8,8,8,8,8,8,8,8,8,8,8,8,8,8,8,8,8,8,8,8,8,8,8,8,8,8,8,8,8,8,8,8,8,8,8,8,8,8,8,8,8,8,8,8,8,8,8,8,8,8,8,8,8,8,8,8,8,8,8,8,8,8,8,8,8,8,8,8,8,8,8,8]⟩:ByteArray) (eH .u8 (cZ .u64 (cZ .u64 (cZ .u64 x (32:Int)) (16:Int)) (8:Int)))))))) none) (
     aJ (fp (eH .u8 (cZ .u64 (cZ .u64 x (32:Int)) (16:Int))) (256:Int)) (
     k (gv.out (bO .i64 (48:Int) (eH .i64 (H4 (⟨#[0,1,2,2,3,3,3,3,4,4,4,4,4,4,4,4,5,5,5,5,5,5,5,5,5,5,5,5,5,5,5,5,6,6,6,6,6,6,6,6,6,6,6,6,6,6,6,6,6,6,6,6,6,6,6,6,6,6,6,6,6,6,6,6,7,7,7,7,7,7,7,7,7,7,7,7,7,7,7,7,7,7,7,7,7,7,7,7,7,7,7,7,7,7,7,7,7,7,7,7,7,7,7,7,7,7,7,7,7,7,7,7,7,7,7,7,7,7,7,7,7,7,7,7,7,7,7,7,8,8,8,8,8,8,8,8,8,8,8,8,8,8,8,8,8,8,8,8,8,8,8,8,8,8,8,8,8,8,8,8,8,8,8,8,8,8,8,8,8,8,8,8,8,8,8,8,8,8,8,8,8,8,8,8,8,8,8,8,8,8,8,8,8,8,8,8,8,8,8,8,8,8,8,8,8,8,8,8,8,8,8,8,8,8,8,8,8,8,8,8,8,8,8,8,8,8,8,8,8,8,8,8,8,8,8,8,8,8,8,8,8,8,8,8,8,8,8,8,8,8,8,8,8,8,8,8]⟩:ByteArray) (eH .u8 (cZ .u64 (cZ .u64 x (32:Int)) (16:Int)))))))) none)) (
    aJ ((qz (cZ .u64 x (32:Int)) (256:Int))) (
     aJ (fp (eH .u8 (cZ .u64 (cZ .u64 x (32:Int)) (8:Int))) (256:Int)) (
     k (gv.out (bO .i64 (40:Int) (eH .i64 (H4 (⟨#[0,1,2,2,3,3,3,3,4,4,4,4,4,4,4,4,5,5,5,5,5,5,5,5,5,5,5,5,5,5,5,5,6,6,6,6,6,6,6,6,6,6,6,6,6,6,6,6,6,6,6,6,6,6,6,6,6,6,6,6,6,6,6,6,7,7,7,7,7,7,7,7,7,7,7,7,7,7,7,7,7,7,7,7,7,7,7,7,7,7,7,7,7,7,7,7,7,7,7,7,7,7,7,7,7,7,7,7,7,7,7,7,7,7,7,7,7,7,7,7,7,7,7,7,7,7,7,7,8,8,8,8,8,8,8,8,8,8,8,8,8,8,8,8,8,8,8,8,8,8,8,8,8,8,8,8,8,8,8,8,8,8,8,8,8,8,8,8,8,8,8,8,8,8,8,8,8,8,8,8,8,8,8,8,8,8,8,8,8,8,8,8,8,8,8,8,8,8,8,8,8,8,8,8,8,8,8,8,8,8,8,8,8,8,8,8,8,8,8,8,8,8,8,8,8,8,8,8,8,8,8,8,8,8,8,8,8,8,8,8,8,8,8,8,8,8,8,8,8,8,8,8,8,8,8,8]⟩:ByteArray) (eH .u8 (cZ .u64 (cZ .u64 x (32:Int)) (8:Int)))))))) none) (
     aJ (fp (eH .u8 (cZ .u64 x (32:Int))) (256:Int)) (
     k (gv.out (bO .i64 (32:Int) (eH .i64 (H4 (⟨#[0,1,2,2,3,3,3,3,4,4,4,4,4,4,4,4,5,5,5,5,5,5,5,5,5,5,5,5,5,5,5,5,6,6,6,6,6,6,6,6,6,6,6,6,6,6,6,6,6,6,6,6,6,6,6,6,6,6,6,6,6,6,6,6,7,7,7,7,7,7,7,7,7,7,7,7,7,7,7,7,7,7,7,7,7,7,7,7,7,7,7,7,7,7,7,7,7,7,7,7,7,7,7,7,7,7,7,7,7,7,7,7,7,7,7,7,7,7,7,7,7,7,7,7,7,7,7,7,8,8,8,8,8,8,8,8,8,8,8,8,8,8,8,8,8,8,8,8,8,8,8,8,8,8,8,8,8,8,8,8,8,8,8,8,8,8,8,8,8,8,8,8,8,8,8,8,8,8,8,8,8,8,8,8,8,8,8,8,8,8,8,8,8,8,8,8,8,8,8,8,8,8,8,8,8,8,8,8,8,8,8,8,8,8,8,8,8,8,8,8,8,8,8,8,8,8,8,8,8,8,8,8,8,8,8,8,8,8,8,8,8,8,8,8,8,8,8,8,8,8,8,8,8,8,8,8]⟩:ByteArray) (eH .u8 (cZ .u64 x (32:Int)))))))) none))) (
   aJ ((qz x (65536:Int))) (
    aJ ((qz (cZ .u64 x (16:Int)) (256:Int))) (
     aJ (fp (eH .u8 (cZ .u64 (cZ .u64 x (16:Int)) (8:Int))) (256:Int)) (
     k (gv.out (bO .i64 (24:Int) (eH .i64 (H4 (⟨#[0,1,2,2,3,3,3,3,4,4,4,4,4,4,4,4,5,5,5,5,5,5,5,5,5,5,5,5,5,5,5,5,6,6,6,6,6,6,6,6,6,6,6,6,6,6,6,6,6,6,6,6,6,6,6,6,6,6,6,6,6,6,6,6,7,7,7,7,7,7,7,7,7,7,7,7,7,7,7,7,7,7,7,7,7,7,7,7,7,7,7,7,7,7,7,7,7,7,7,7,7,7,7,7,7,7,7,7,7,7,7,7,7,7,7,7,7,7,7,7,7,7,7,7,7,7,7,7,8,8,8,8,8,8,8,8,8,8,8,8,8,8,8,8,8,8,8,8,8,8,8,8,8,8,8,8,8,8,8,8,8,8,8,8,8,8,8,8,8,8,8,8,8,8,8,8,8,8,8,8,8,8,8,8,8,8,8,8,8,8,8,8,8,8,8,8,8,8,8,8,8,8,8,8,8,8,8,8,8,8,8,8,8,8,8,8,8,8,8,8,8,8,8,8,8,8,8,8,8,8,8,8,8,8,8,8,8,8,8,8,8,8,8,8,8,8,8,8,8,8,8,8,8,8,8,8]⟩:ByteArray) (eH .u8 (cZ .u64 (cZ .u64 x (16:Int)) (8:Int)))))))) none) (
     aJ (fp (eH .u8 (cZ .u64 x (16:Int))) (256:Int)) (
     k (gv.out (bO .i64 (16:Int) (eH .i64 (H4 (⟨#[0,1,2,2,3,3,3,3,4,4,4,4,4,4,4,4,5,5,5,5,5,5,5,5,5,5,5,5,5,5,5,5,6,6,6,6,6,6,6,6,6,6,6,6,6,6,6,6,6,6,6,6,6,6,6,6,6,6,6,6,6,6,6,6,7,7,7,7,7,7,7,7,7,7,7,7,7,7,7,7,7,7,7,7,7,7,7,7,7,7,7,7,7,7,7,7,7,7,7,7,7,7,7,7,7,7,7,7,7,7,7,7,7,7,7,7,7,7,7,7,7,7,7,7,7,7,7,7,8,8,8,8,8,8,8,8,8,8,8,8,8,8,8,8,8,8,8,8,8,8,8,8,8,8,8,8,8,8,8,8,8,8,8,8,8,8,8,8,8,8,8,8,8,8,8,8,8,8,8,8,8,8,8,8,8,8,8,8,8,8,8,8,8,8,8,8,8,8,8,8,8,8,8,8,8,8,8,8,8,8,8,8,8,8,8,8,8,8,8,8,8,8,8,8,8,8,8,8,8,8,8,8,8,8,8,8,8,8,8,8,8,8,8,8,8,8,8,8,8,8,8,8,8,8,8,8]⟩:ByteArray) (eH .u8 (cZ .u64 x (16:Int)))))))) none)) (
    aJ ((qz x (256:Int))) (
     aJ (fp (eH .u8 (cZ .u64 x (8:Int))) (256:Int)) (
     k (gv.out (bO .i64 (8:Int) (eH .i64 (H4 (⟨#[0,1,2,2,3,3,3,3,4,4,4,4,4,4,4,4,5,5,5,5,5,5,5,5,5,5,5,5,5,5,5,5,6,6,6,6,6,6,6,6,6,6,6,6,6,6,6,6,6,6,6,6,6,6,6,6,6,6,6,6,6,6,6,6,7,7,7,7,7,7,7,7,7,7,7,7,7,7,7,7,7,7,7,7,7,7,7,7,7,7,7,7,7,7,7,7,7,7,7,7,7,7,7,7,7,7,7,7,7,7,7,7,7,7,7,7,7,7,7,7,7,7,7,7,7,7,7,7,8,8,8,8,8,8,8,8,8,8,8,8,8,8,8,8,8,8,8,8,8,8,8,8,8,8,8,8,8,8,8,8,8,8,8,8,8,8,8,8,8,8,8,8,8,8,8,8,8,8,8,8,8,8,8,8,8,8,8,8,8,8,8,8,8,8,8,8,8,8,8,8,8,8,8,8,8,8,8,8,8,8,8,8,8,8,8,8,8,8,8,8,8,8,8,8,8,8,8,8,8,8,8,8,8,8,8,8,8,8,8,8,8,8,8,8,8,8,8,8,8,8,8,8,8,8,8,8]⟩:ByteArray) (eH .u8 (cZ .u64 x (8:Int)))))))) none) (
     aJ (fp (eH .u8 x) (256:Int)) (
     k (gv.out (bO .i64 (0:Int) (eH .i64 (H4 (⟨#[0,1,2,2,3,3,3,3,4,4,4,4,4,4,4,4,5,5,5,5,5,5,5,5,5,5,5,5,5,5,5,5,6,6,6,6,6,6,6,6,6,6,6,6,6,6,6,6,6,6,6,6,6,6,6,6,6,6,6,6,6,6,6,6,7,7,7,7,7,7,7,7,7,7,7,7,7,7,7,7,7,7,7,7,7,7,7,7,7,7,7,7,7,7,7,7,7,7,7,7,7,7,7,7,7,7,7,7,7,7,7,7,7,7,7,7,7,7,7,7,7,7,7,7,7,7,7,7,8,8,8,8,8,8,8,8,8,8,8,8,8,8,8,8,8,8,8,8,8,8,8,8,8,8,8,8,8,8,8,8,8,8,8,8,8,8,8,8,8,8,8,8,8,8,8,8,8,8,8,8,8,8,8,8,8,8,8,8,8,8,8,8,8,8,8,8,8,8,8,8,8,8,8,8,8,8,8,8,8,8,8,8,8,8,8,8,8,8,8,8,8,8,8,8,8,8,8,8,8,8,8,8,8,8,8,8,8,8,8,8,8,8,8,8,8,8,8,8,8,8,8,8,8,8,8,8]⟩:ByteArray) (eH .u8 x)))))) none))):=by kernel_rfl
theorem gv.ok:gv.Ok:=by
 intro y h
 rw[gv.eq]
 obtain rfl | rfl | rfl:=h <;> kernel_rfl
def gv.E:=Entry.dp [some tu] gv.st gv.aw gv.add gv.F gv.out
def gv.call:gv.D->Option gv.X:=cj gv.E gv.st
theorem gv.run:cl gv.call gv.aw gv.add gv.F:=dw (du [.d tu] λ_=>by kernel_rfl)
def gv.sg:SG Tryz.prog:=⟨189,aP,gv.E,.fn 0 (by kernel_rfl) gv.ok trivial⟩
abbrev kh.D:=Int
def kh.st:kh.D->SA:=λx=>([.d tu x],[])
abbrev kh.Y:=Int
abbrev kh.X:=Int
def kh.out:kh.X->aZ:=λx=>⟨.d ti x,[],[]⟩
def kh.add:kh.D->kh.Y->kh.X:=λx y=>y
def kh.aw:kh.D->Prop:=Uo
def kh.F:kh.D->kh.Y:=λy=>if y=4611686018427377339 then 2 else 3
def kh.G:fD:=gz (P:=Tryz.prog) [gv.sg]
def kh.an:fT:= {}
def kh.A:= @dq Tryz.prog kh.G kh.an 0 Tryz.f183 _ kh.st
abbrev kh.Ok:=dr @kh.A kh.aw kh.add kh.F kh.out
theorem kh.eq{R:Type}(x:Int)(k:aZ->Option R):kh.A x k=
 aj (gv.call x) λx1=>
 k (kh.out (cY .i64 (64:Int) x1)):=by kernel_rfl
theorem kh.ok:kh.Ok:=by
 intro y h
 rw[kh.eq,gv.run (d:=y) h]
 obtain rfl | rfl | rfl:=h <;> rfl
def kh.E:=Entry.dp [some tu] kh.st kh.aw kh.add kh.F kh.out
def kh.call:kh.D->Option kh.X:=cj kh.E kh.st
theorem kh.run:cl kh.call kh.aw kh.add kh.F:=dw (du [.d tu] λ_=>by kernel_rfl)
def kh.sg:SG Tryz.prog:=⟨183,aP,kh.E,.fn 0 (by kernel_rfl) kh.ok trivial⟩
abbrev bB.L0.D:=Int×Int×Int×Int×Int×Int×Int×Int×Int
def bB.L0.st:bB.L0.D->AS:=λ(Av,sv,yn1,yn0,un32,un1,un0,q1,rhat)=>⟨([.undef,.undef,.d tu Av]++bG 5 ([.d tu sv,.d tu yn1,.d tu yn0,.d tu un32,.undef,.d tu un1,.d tu un0,.d tu q1,.d tu rhat]++bG 118 [])),[],(List.replicate 135 [])⟩
abbrev bB.L0.Y0:=Int
abbrev bB.L0.X0:=(Int×Int×Int×Int×Int×Int×Int)×(Int)
def bB.L0.bV:bB.L0.X0->Exit×AS:=λx=>(.exit 0,⟨([.undef,.undef,.d tu x.1.1]++bG 5 ([.d tu x.1.2.1,.d tu x.1.2.2.1,.d tu x.1.2.2.2.1,.d tu x.1.2.2.2.2.1,.undef,.d tu x.1.2.2.2.2.2.1,.d tu x.1.2.2.2.2.2.2,.d tu x.2]++bG 119 [])),[],(List.replicate 135 [])⟩)
abbrev bB.L0.X:=bB.L0.X0
abbrev bB.L0.Y:=bB.L0.Y0
def bB.L0.out:bB.L0.X->Out (Exit×AS):=λx=> .ok (bB.L0.bV x)
def bB.L0.add:bB.L0.D->bB.L0.Y->bB.L0.X:=λ(Av,sv,yn1,yn0,un32,un1,un0,q1,rhat) y=>((Av,sv,yn1,yn0,un32,un1,un0),y)
abbrev bB.L1.D:=Int×Int×Int×Int×Int×Int×Int×Int×Int
def bB.L1.st:bB.L1.D->AS:=λ(Aw,ee,xw,Dt,tz,Af,vd,un21,q0)=>⟨([.undef,.undef,.d tu Aw]++bG 5 ([.d tu ee,.d tu xw,.d tu Dt,.undef,.undef,.undef,.d tu tz,.d tu Af,.d tu vd,.d tu un21,.d tu q0]++bG 116 [])),[],(List.replicate 135 [])⟩
abbrev bB.L1.Y0:=Int
abbrev bB.L1.X0:=(Int×Int×Int×Int×Int)×(Int)
def bB.L1.bV:bB.L1.X0->Exit×AS:=λx=>(.exit 2,⟨([.undef,.undef,.d tu x.1.1]++bG 5 ([.d tu x.1.2.1]++bG 5 ([.d tu x.1.2.2.1,.d tu x.1.2.2.2.1,.undef,.d tu x.1.2.2.2.2,.d tu x.2]++bG 116 []))),[],(List.replicate 135 [])⟩)
abbrev bB.L1.X:=bB.L1.X0
abbrev bB.L1.Y:=bB.L1.Y0
def bB.L1.out:bB.L1.X->Out (Exit×AS):=λx=> .ok (bB.L1.bV x)
def bB.L1.add:bB.L1.D->bB.L1.Y->bB.L1.X:=λ(Aw,ee,xw,Dt,tz,Af,vd,un21,q0) y=>((Aw,ee,tz,Af,un21),y)
abbrev bB.D:=Int×Int×Int
def bB.st:bB.D->SA:=λ(hi,lo,yv)=>([.d tu hi,.d tu lo,.d tu yv],[])
abbrev bB.Y:=Int×Int
abbrev bB.X:=Int×Int
def bB.out:bB.X->aZ:=λx=>⟨.cons (.d tu x.1) (.cons (.d tu x.2) (.nil)),[],[]⟩
def bB.add:bB.D->bB.Y->bB.X:=λ(hi,lo,yv) y=>y
def bB.L0.aw:bB.L0.D->Prop:=λ(y,sv,yn1,yn0,u,w,un0,q,r)=>∃e:Int,(e=42260\/e=42264\/e=42272)/\y=18446744073709551616 - e/\yn1=4294967295/\yn0=4294967296 - e/\0<=u/\u < 18446744073709551616 - e/\0<=w/\w < 4294967296/\0<=r/\r < 4294967296/\q*4294967295+r=u/\(u*4294967296+w) / (18446744073709551616 - e)<=q
def bB.L0.F:bB.L0.D->bB.L0.Y:=λ(y,sv,yn1,yn0,u,w,un0,q,r)=>(u*4294967296+w) / y
def bB.L1.aw:bB.L1.D->Prop:=λ(y,sv,yn1,yn0,w,q1,r,u,q)=>∃e:Int,(e=42260\/e=42264\/e=42272)/\y=18446744073709551616 - e/\yn1=4294967295/\yn0=4294967296 - e/\0<=u/\u < 18446744073709551616 - e/\0<=w/\w < 4294967296/\0<=r/\r < 4294967296/\q*4294967295+r=u/\(u*4294967296+w) / (18446744073709551616 - e)<=q
def bB.L1.F:bB.L1.D->bB.L1.Y:=λ(y,sv,yn1,yn0,w,q1,r,u,q)=>(u*4294967296+w) / y
def bB.aw:bB.D->Prop:=λ(hi,lo,y)=>Uo y/\0<=hi/\hi < y/\0<=lo/\lo < 18446744073709551616
def bB.F:bB.D->bB.Y:=λ(hi,lo,y)=>((hi*18446744073709551616+lo) / y,(hi*18446744073709551616+lo)%y)
def bB.G:fD:=gz (P:=Tryz.prog) [kh.sg]
def bB.L0.E:=cV.dp bB.L0.st bB.L0.aw bB.L0.add bB.L0.F bB.L0.out
def bB.L0.call:bB.L0.D->Option bB.L0.X:=eI bB.L0.E bB.L0.st
def bB.L1.E:=cV.dp bB.L1.st bB.L1.aw bB.L1.add bB.L1.F bB.L1.out
def bB.L1.call:bB.L1.D->Option bB.L1.X:=eI bB.L1.E bB.L1.st
def bB.an:fT:= {loops:=oF [(17,{bS:=[2,8,9,10,11,13,14,15,16]}),(24,{bS:=[2,8,9,10,14,15,16,17,18]})],outs:=oE [(17,{bS:=[2,8,9,10,11,13,14,15]},{bS:=[6,7]}),(24,{bS:=[2,8,14,15,17,18]},{bS:=[6,7]})],jw:=pL [(17,bB.L0.E),(24,bB.L1.E)]}
def bB.A:= @dq Tryz.prog bB.G bB.an 0 Tryz.f171 _ bB.st
abbrev bB.Ok:=dr @bB.A bB.aw bB.add bB.F bB.out
def bB.L0.R:= @dn Tryz.prog bB.G bB.an 0 Tryz.f171 0 _ bB.L0.st
abbrev bB.L0.Ok:=gw Tryz.prog bB.G bB.an 0 Tryz.f171 0 bB.L0.st bB.L0.aw bB.L0.add bB.L0.F bB.L0.out
def bB.L1.R:= @dn Tryz.prog bB.G bB.an 0 Tryz.f171 1 _ bB.L1.st
abbrev bB.L1.Ok:=gw Tryz.prog bB.G bB.an 0 Tryz.f171 1 bB.L1.st bB.L1.aw bB.L1.add bB.L1.F bB.L1.out
theorem bB.L0.run:cl bB.L0.call bB.L0.aw bB.L0.add bB.L0.F:=gT (gS [.d tu,.d tu,.d tu,.d tu,.d tu,.d tu,.d tu,.d tu,.d tu] λ_=>by kernel_rfl)
theorem bB.L0.aI:jk @bB.L0.R bB.L0.st bB.L0.aw bB.L0.add bB.L0.F bB.L0.bV bB.L0.Ok:=jm
theorem bB.L0.step{R:Type}(Av:Int)(sv:Int)(yn1:Int)(yn0:Int)(un32:Int)(un1:Int)(un0:Int)(q1:Int)(rhat:Int)(kn:AS->Option R)(kx:Exit->AS->Option R):bB.L0.R (Av,sv,yn1,yn0,un32,un1,un0,q1,rhat) kn kx=
  aJ ((qz q1 (4294967296:Int))) (
   aJ ((qz (bO .u64 rhat yn1) (4294967296:Int))) (
    kx (bB.L0.bV ((Av,sv,yn1,yn0,un32,un1,un0),(cY .u64 q1 (1:Int)))).1 (bB.L0.bV ((Av,sv,yn1,yn0,un32,un1,un0),(cY .u64 q1 (1:Int)))).2) (
    kn (bB.L0.st (Av,sv,yn1,yn0,un32,un1,un0,(cY .u64 q1 (1:Int)),(bO .u64 rhat yn1))))) (
   aJ ((so (gJ .u64 q1 yn0) (bO .u64 (gJ .u64 (4294967296:Int) rhat) un1))) (
    aJ ((qz (bO .u64 rhat yn1) (4294967296:Int))) (
     kx (bB.L0.bV ((Av,sv,yn1,yn0,un32,un1,un0),(cY .u64 q1 (1:Int)))).1 (bB.L0.bV ((Av,sv,yn1,yn0,un32,un1,un0),(cY .u64 q1 (1:Int)))).2) (
     kn (bB.L0.st (Av,sv,yn1,yn0,un32,un1,un0,(cY .u64 q1 (1:Int)),(bO .u64 rhat yn1))))) (
    kx (bB.L0.bV ((Av,sv,yn1,yn0,un32,un1,un0),q1)).1 (bB.L0.bV ((Av,sv,yn1,yn0,un32,un1,un0),q1)).2)):=by kernel_rfl
theorem bB.L1.run:cl bB.L1.call bB.L1.aw bB.L1.add bB.L1.F:=gT (gS [.d tu,.d tu,.d tu,.d tu,.d tu,.d tu,.d tu,.d tu,.d tu] λ_=>by kernel_rfl)
theorem bB.L1.aI:jk @bB.L1.R bB.L1.st bB.L1.aw bB.L1.add bB.L1.F bB.L1.bV bB.L1.Ok:=jm
theorem bB.L1.step{R:Type}(Aw:Int)(ee:Int)(xw:Int)(Dt:Int)(tz:Int)(Af:Int)(vd:Int)(un21:Int)(q0:Int)(kn:AS->Option R)(kx:Exit->AS->Option R):bB.L1.R (Aw,ee,xw,Dt,tz,Af,vd,un21,q0) kn kx=
  aJ ((qz q0 (4294967296:Int))) (
   aJ ((qz (bO .u64 vd xw) (4294967296:Int))) (
    kx (bB.L1.bV ((Aw,ee,tz,Af,un21),(cY .u64 q0 (1:Int)))).1 (bB.L1.bV ((Aw,ee,tz,Af,un21),(cY .u64 q0 (1:Int)))).2) (
    kn (bB.L1.st (Aw,ee,xw,Dt,tz,Af,(bO .u64 vd xw),un21,(cY .u64 q0 (1:Int)))))) (
   aJ ((so (gJ .u64 q0 Dt) (bO .u64 (gJ .u64 (4294967296:Int) vd) tz))) (
    aJ ((qz (bO .u64 vd xw) (4294967296:Int))) (
     kx (bB.L1.bV ((Aw,ee,tz,Af,un21),(cY .u64 q0 (1:Int)))).1 (bB.L1.bV ((Aw,ee,tz,Af,un21),(cY .u64 q0 (1:Int)))).2) (
     kn (bB.L1.st (Aw,ee,xw,Dt,tz,Af,(bO .u64 vd xw),un21,(cY .u64 q0 (1:Int)))))) (
    kx (bB.L1.bV ((Aw,ee,tz,Af,un21),q0)).1 (bB.L1.bV ((Aw,ee,tz,Af,un21),q0)).2)):=by kernel_rfl
theorem bB.eq{R:Type}(hi:Int)(lo:Int)(yv:Int)(k:aZ->Option R):bB.A (hi,lo,yv) k=
  aJ ((nX yv (0:Int))) (
   none) (
   aJ ((FH yv hi)) (
    none) (
    aJ ((nX hi (0:Int))) (
     aJ (lN yv) (
     aJ (lN yv) (
     k (bB.out ((qw .u64 lo yv),(fU lo yv)))) none) none) (
     aj (kh.call yv) λx1=>
     aJ (nA (eH .u64 x1)) (
     aJ (nA (eH .u64 x1)) (
     aJ (nA (cY .u64 (64:Int) (eH .u64 x1))) (
     aJ (nA (eH .u64 x1)) (
     aJ (lN (cZ .u64 (oJ .u64 yv (eH .u64 x1)) (32:Int))) (
     aj (bB.L0.call ((oJ .u64 yv (eH .u64 x1)),(eH .u64 x1),(cZ .u64 (oJ .u64 yv (eH .u64 x1)) (32:Int)),(dC .and .u64 (oJ .u64 yv (eH .u64 x1)) (4294967295:Int)),(dC .or .u64 (oJ .u64 hi (eH .u64 x1)) (cZ .u64 lo (cY .u64 (64:Int) (eH .u64 x1)))),(cZ .u64 (oJ .u64 lo (eH .u64 x1)) (32:Int)),(dC .and .u64 (oJ .u64 lo (eH .u64 x1)) (4294967295:Int)),(qw .u64 (dC .or .u64 (oJ .u64 hi (eH .u64 x1)) (cZ .u64 lo (cY .u64 (64:Int) (eH .u64 x1)))) (cZ .u64 (oJ .u64 yv (eH .u64 x1)) (32:Int))),(cY .u64 (dC .or .u64 (oJ .u64 hi (eH .u64 x1)) (cZ .u64 lo (cY .u64 (64:Int) (eH .u64 x1)))) (gJ .u64 (qw .u64 (dC .or .u64 (oJ .u64 hi (eH .u64 x1)) (cZ .u64 lo (cY .u64 (64:Int) (eH .u64 x1)))) (cZ .u64 (oJ .u64 yv (eH .u64 x1)) (32:Int))) (cZ .u64 (oJ .u64 yv (eH .u64 x1)) (32:Int)))))) λx2=>
     aJ (lN x2.1.2.2.1) (
     aj (bB.L1.call (x2.1.1,x2.1.2.1,x2.1.2.2.1,x2.1.2.2.2.1,x2.1.2.2.2.2.2.2,x2.2,(cY .u64 (cY .u64 (bO .u64 (gJ .u64 x2.1.2.2.2.2.1 (4294967296:Int)) x2.1.2.2.2.2.2.1) (gJ .u64 x2.2 x2.1.1)) (gJ .u64 (qw .u64 (cY .u64 (bO .u64 (gJ .u64 x2.1.2.2.2.2.1 (4294967296:Int)) x2.1.2.2.2.2.2.1) (gJ .u64 x2.2 x2.1.1)) x2.1.2.2.1) x2.1.2.2.1)),(cY .u64 (bO .u64 (gJ .u64 x2.1.2.2.2.2.1 (4294967296:Int)) x2.1.2.2.2.2.2.1) (gJ .u64 x2.2 x2.1.1)),(qw .u64 (cY .u64 (bO .u64 (gJ .u64 x2.1.2.2.2.2.1 (4294967296:Int)) x2.1.2.2.2.2.2.1) (gJ .u64 x2.2 x2.1.1)) x2.1.2.2.1))) λx3=>
     aJ (nA x3.1.2.1) (
     k (bB.out ((bO .u64 (gJ .u64 x3.1.2.2.2.1 (4294967296:Int)) x3.2),(cZ .u64 (cY .u64 (bO .u64 (gJ .u64 x3.1.2.2.2.2 (4294967296:Int)) x3.1.2.2.1) (gJ .u64 x3.2 x3.1.1)) x3.1.2.1)))) none) none) none) none) none) none) none))):=by kernel_rfl
theorem bB.L0.ok:bB.L0.Ok:=by
 refine bB.L0.aI (λ(y,sv,yn1,yn0,u,w,un0,q,r)=>q.toNat) ?_
 rintro⟨y,sv,yn1,yn0,u,w,un0,q,r⟩ ⟨e,he,rfl,rfl,rfl,hu,Gn,hw,Nn,hr,Mr,hq,hQ⟩
 have hu:0<=u:=hu
 have Gn:u < 18446744073709551616 - e:=Gn
 have hw:0<=w:=hw
 have Nn:w < 4294967296:=Nn
 have hr:0<=r:=hr
 have Mr:r < 4294967296:=Mr
 have hq:q*4294967295+r=u:=hq
 obtain⟨k1,k2,k3,k4,k5,k6⟩:=k1 he hu Gn hw Nn hr Mr hq hQ
 have q0:0<=q:=Int.le_trans k5 hQ
 have a1:bO .u64 r 4294967295=r+4294967295:=by rw[nD];omega
 have a2:bO .u64 (gJ .u64 4294967296 r) w=4294967296*r+w:=by rw[qU,nD];omega
 have a3:q < 4294967296->gJ .u64 q (4294967296 - e)=q*(4294967296 - e):=by
  intro h;rw[qU];rcases he with rfl | rfl | rfl <;> omega
 have a4:0 < q->cY .u64 q 1=q - 1:=by intro h;rw[Bw];omega
 have pos:4294967296<=q\/(q < 4294967296/\4294967296*r+w < q*(4294967296 - e))->0 < q/\(u*4294967296+w) / (18446744073709551616 - e)<=q - 1:=by
  rintro(h | ⟨h,h2⟩)
  ·exact⟨by omega,k1 h⟩
  ·exact⟨by have:=k2 h h2;omega,k2 h h2⟩
 by_cases hc:4294967296<=q\/(q < 4294967296/\4294967296*r+w < q*(4294967296 - e))
 ·obtain⟨p1,p2⟩:=pos hc
  by_cases hb:4294967296<=r+4294967295
  ·right
   have hF:bB.L0.F (18446744073709551616 - e,sv,4294967295,4294967296 - e,u,w,un0,q,r)=q - 1:=k4 hb p2
   intro R kn kx
   rw[bB.L0.step,a1,a2,a4 p1,lG hb,hF]
   rcases hc with h | ⟨h,h2⟩
   ·rw[lG h];rfl
   ·rw[iU (by omega),a3 h,fA h2];rfl
  ·left
   refine⟨(18446744073709551616 - e,sv,4294967295,4294967296 - e,u,w,un0,q - 1,r+4294967295),⟨e,he,rfl,rfl,rfl,hu,Gn,hw,Nn,by omega,by omega,by omega,p2⟩,by simp only[];omega,rfl,λkn kx=> ?_⟩
   rw[bB.L0.step,a1,a2,a4 p1,iU hb]
   rcases hc with h | ⟨h,h2⟩
   ·rw[lG h];rfl
   ·rw[iU (by omega),a3 h,fA h2];rfl
 ·right
  have h:q < 4294967296:=by omega
  have h2:¬4294967296*r+w < q*(4294967296 - e):=λx=>hc (Or.inr ⟨h,x⟩)
  have hF:bB.L0.F (18446744073709551616 - e,sv,4294967295,4294967296 - e,u,w,un0,q,r)=q:=k3 h (by omega)
  intro R kn kx
  rw[bB.L0.step,a2,a3 h,iU (by omega),dW h2,hF]
  rfl
theorem bB.L1.ok:bB.L1.Ok:=by
 refine bB.L1.aI (λ(y,sv,yn1,yn0,w,q1,r,u,q)=>q.toNat) ?_
 rintro⟨y,sv,yn1,yn0,w,q1,r,u,q⟩ ⟨e,he,rfl,rfl,rfl,hu,Gn,hw,Nn,hr,Mr,hq,hQ⟩
 have hu:0<=u:=hu
 have Gn:u < 18446744073709551616 - e:=Gn
 have hw:0<=w:=hw
 have Nn:w < 4294967296:=Nn
 have hr:0<=r:=hr
 have Mr:r < 4294967296:=Mr
 have hq:q*4294967295+r=u:=hq
 obtain⟨k1,k2,k3,k4,k5,k6⟩:=k1 he hu Gn hw Nn hr Mr hq hQ
 have q0:0<=q:=Int.le_trans k5 hQ
 have a1:bO .u64 r 4294967295=r+4294967295:=by rw[nD];omega
 have a2:bO .u64 (gJ .u64 4294967296 r) w=4294967296*r+w:=by rw[qU,nD];omega
 have a3:q < 4294967296->gJ .u64 q (4294967296 - e)=q*(4294967296 - e):=by
  intro h;rw[qU];rcases he with rfl | rfl | rfl <;> omega
 have a4:0 < q->cY .u64 q 1=q - 1:=by intro h;rw[Bw];omega
 have pos:4294967296<=q\/(q < 4294967296/\4294967296*r+w < q*(4294967296 - e))->0 < q/\(u*4294967296+w) / (18446744073709551616 - e)<=q - 1:=by
  rintro(h | ⟨h,h2⟩)
  ·exact⟨by omega,k1 h⟩
  ·exact⟨by have:=k2 h h2;omega,k2 h h2⟩
 by_cases hc:4294967296<=q\/(q < 4294967296/\4294967296*r+w < q*(4294967296 - e))
 ·obtain⟨p1,p2⟩:=pos hc
  by_cases hb:4294967296<=r+4294967295
  ·right
   have hF:bB.L1.F (18446744073709551616 - e,sv,4294967295,4294967296 - e,w,q1,r,u,q)=q - 1:=k4 hb p2
   intro R kn kx
   rw[bB.L1.step,a1,a2,a4 p1,lG hb,hF]
   rcases hc with h | ⟨h,h2⟩
   ·rw[lG h];rfl
   ·rw[iU (by omega),a3 h,fA h2];rfl
  ·left
   refine⟨(18446744073709551616 - e,sv,4294967295,4294967296 - e,w,q1,r+4294967295,u,q - 1),⟨e,he,rfl,rfl,rfl,hu,Gn,hw,Nn,by omega,by omega,by omega,p2⟩,by simp only[];omega,rfl,λkn kx=> ?_⟩
   rw[bB.L1.step,a1,a2,a4 p1,iU hb]
   rcases hc with h | ⟨h,h2⟩
   ·rw[lG h];rfl
   ·rw[iU (by omega),a3 h,fA h2];rfl
 ·right
  have h:q < 4294967296:=by omega
  have h2:¬4294967296*r+w < q*(4294967296 - e):=λx=>hc (Or.inr ⟨h,x⟩)
  have hF:bB.L1.F (18446744073709551616 - e,sv,4294967295,4294967296 - e,w,q1,r,u,q)=q:=k3 h (by omega)
  intro R kn kx
  rw[bB.L1.step,a2,a3 h,iU (by omega),dW h2,hF]
  rfl
theorem Rf{y hi lo:Int}(hy:Uo y)(h0:0<=hi)(h1:hi < y)(h2:0<=lo)(h3:lo < 18446744073709551616):∃(s:Nat) (e m:Int),kh.F y=s/\(s=2\/s=3)/\m=2^s/\(e=42260\/e=42264\/e=42272)/\y*m=18446744073709551616 - e/\
  oJ .u64 y (s:Int)=18446744073709551616 - e/\
  dC .or .u64 (oJ .u64 hi (s:Int)) (cZ .u64 lo (cY .u64 64 (s:Int)))=(hi*18446744073709551616+lo)*m / 18446744073709551616/\
  oJ .u64 lo (s:Int)=(hi*18446744073709551616+lo)*m%18446744073709551616/\
  (hi*18446744073709551616+lo)*m / 18446744073709551616 < 18446744073709551616 - e/\
  (hi*18446744073709551616+lo)*m / (18446744073709551616 - e)=(hi*18446744073709551616+lo) / y/\
  (hi*18446744073709551616+lo)*m%(18446744073709551616 - e) / m=(hi*18446744073709551616+lo)%y:=by
 have e1:cY .u64 64 ((2:Nat):Int)=((62:Nat):Int):=rfl
 have e2:cY .u64 64 ((3:Nat):Int)=((61:Nat):Int):=rfl
 have p2:(2:Int)^2=4:=rfl
 have p3:(2:Int)^3=8:=rfl
 have p61:(2:Int)^61=2305843009213693952:=rfl
 have p62:(2:Int)^62=4611686018427387904:=rfl
 obtain rfl | rfl | rfl:=hy
 ·refine⟨2,42260,4,rfl,Or.inl rfl,rfl,Or.inl rfl,rfl,by rw[qX 2 (by rfl) (by omega),p2];omega,?_,?_,by omega,by omega,by omega⟩
  ·rw[e1,qX 2 (by rfl) (by omega),qY 62 (by rfl) (by omega),p2,p62,yR 2 4 rfl (by omega) (by omega) (by omega) (by omega) (by omega) (by omega)];omega
  ·rw[qX 2 (by rfl) (by omega),p2];omega
 ·refine⟨3,42264,8,rfl,Or.inr rfl,rfl,Or.inr (Or.inl rfl),rfl,by rw[qX 3 (by rfl) (by omega),p3];omega,?_,?_,by omega,by omega,by omega⟩
  ·rw[e2,qX 3 (by rfl) (by omega),qY 61 (by rfl) (by omega),p3,p61,yR 3 8 rfl (by omega) (by omega) (by omega) (by omega) (by omega) (by omega)];omega
  ·rw[qX 3 (by rfl) (by omega),p3];omega
 ·refine⟨3,42272,8,rfl,Or.inr rfl,rfl,Or.inr (Or.inr rfl),rfl,by rw[qX 3 (by rfl) (by omega),p3];omega,?_,?_,by omega,by omega,by omega⟩
  ·rw[e2,qX 3 (by rfl) (by omega),qY 61 (by rfl) (by omega),p3,p61,yR 3 8 rfl (by omega) (by omega) (by omega) (by omega) (by omega) (by omega)];omega
  ·rw[qX 3 (by rfl) (by omega),p3];omega
theorem Ww(a b c:Int):(((a%18446744073709551616+b)%18446744073709551616) - c%18446744073709551616)%18446744073709551616=(a+b - c)%18446744073709551616:=by omega
theorem bB.ok:bB.Ok:=by
 rintro⟨hi,lo,y⟩ ⟨hy,h0,h1,h2,h3⟩
 have h0:0<=hi:=h0
 have h1:hi < y:=h1
 have h2:0<=lo:=h2
 have h3:lo < 18446744073709551616:=h3
 have yb:0 < y/\y < 18446744073709551616:=by obtain rfl | rfl | rfl:=hy <;> omega
 rw[bB.eq,fJ (by omega),qJ (by omega)]
 simp only[ai]
 have z:lN y=true:=by simp[lN];omega
 by_cases hz:hi=0
 ·subst hz
  rw[iE rfl,z,FL h2 (by omega) h3,kT h2]
  simp only[ah,bB.F,bB.add,Int.zero_mul,pX]
 ·obtain⟨s,e,m,hs,DN,hm,he,Zy,a1,a2,a3,a4,a5,a6⟩:=Rf hy h0 h1 h2 h3
  have c1:eH .u64 (s:Int)=(s:Int):=by rw[I7];omega
  have c2:nA (s:Int)=true:=tq (by omega)
  have c3:nA (cY .u64 64 (s:Int))=true:=by rcases DN with rfl | rfl <;> rfl
  rw[fJ hz,kh.run (d:=y) hy]
  simp only[ai,ab,kh.add,hs,c1,c2,c3,ah,a1,a2,a3]
  have hN:0<=(hi*18446744073709551616+lo)*m:=pW (by omega) (by rcases DN with rfl | rfl <;> omega)
  revert a4 a5 a6
  generalize (hi*18446744073709551616+lo)*m=N at hN
  intro a4 a5 a6
  have u0:0<=N / 18446744073709551616:=by omega
  have t0:0<=N%18446744073709551616:=by omega
  have t1:N%18446744073709551616 < 18446744073709551616:=by omega
  have hd:N=(N / 18446744073709551616*4294967296+N%18446744073709551616 / 4294967296)*4294967296+N%18446744073709551616%4294967296:=by omega
  have w10:0<=N%18446744073709551616 / 4294967296:=by omega
  have w11:N%18446744073709551616 / 4294967296 < 4294967296:=by omega
  have w00:0<=N%18446744073709551616%4294967296:=by omega
  have w01:N%18446744073709551616%4294967296 < 4294967296:=by omega
  have p32:(2:Int)^32=4294967296:=rfl
  have b1:cZ .u64 (18446744073709551616 - e) 32=4294967295:=by rw[qY 32 (by rfl) (by omega),p32];rcases he with rfl | rfl | rfl <;> rfl
  have b2:dC .and .u64 (18446744073709551616 - e) 4294967295=4294967296 - e:=by rw[GB (by omega) (by omega)];omega
  have b3:cZ .u64 (N%18446744073709551616) 32=N%18446744073709551616 / 4294967296:=by rw[qY 32 (by rfl) (by omega),p32]
  have b4:dC .and .u64 (N%18446744073709551616) 4294967295=N%18446744073709551616%4294967296:=GB t0 t1
  have z2:lN 4294967295=true:=rfl
  simp only[b1,b2,b3,b4,z2,ah]
  clear a1 a2 a3 b1 b2 b3 b4
  have kdd:=kd (18446744073709551616 - e) (N / 18446744073709551616) (N%18446744073709551616 / 4294967296) (N%18446744073709551616%4294967296) (by omega) w00 w01
  rw[<-hd,a5]at kdd
  revert a4 kdd
  generalize N / 18446744073709551616=u at u0
  generalize N%18446744073709551616 / 4294967296=w1 at w10 w11
  generalize N%18446744073709551616%4294967296=w0 at w00 w01
  intro a4 kdd
  have g:∀u w:Int,0<=u->u < 18446744073709551616 - e->0<=w->w < 4294967296->
    qw .u64 u 4294967295=u / 4294967295/\cY .u64 u (gJ .u64 (u / 4294967295) 4294967295)=u - u / 4294967295*4294967295/\
    cY .u64 (bO .u64 (gJ .u64 u 4294967296) w) (gJ .u64 ((u*4294967296+w) / (18446744073709551616 - e)) (18446744073709551616 - e))=(u*4294967296+w)%(18446744073709551616 - e):=by
   intro u w k1 k2 k3 k4
   obtain⟨q1,q2,q3,q4,q5,q6,q7,q8⟩:=k0 he k1 k2 k3 k4
   refine⟨FL k1 (by omega) (by omega),by rw[Bw,qU];omega,?_⟩
   rw[Bw,nD,qU,qU,Ww,q4]
   exact jq q5 (by omega)
  obtain⟨f1,f2,f3⟩:=g u w1 u0 a4 w10 w11
  obtain⟨q1,q2,q3,q4,q5,q6,q7,q8⟩:=k0 he u0 a4 w10 w11
  have p1:bB.L0.aw (18446744073709551616 - e,(s:Int),4294967295,4294967296 - e,u,w1,w0,u / 4294967295,u - u / 4294967295*4294967295):=⟨e,he,rfl,rfl,rfl,u0,a4,w10,w11,q2,q3,by omega,q1⟩
  rw[f1,f2,bB.L0.run p1]
  simp only[ab,bB.L0.add,bB.L0.F,z2,ah,f3]
  revert f3 q1 kdd
  generalize (u*4294967296+w1)%(18446744073709551616 - e)=v at q4 q5 q6
  generalize (u*4294967296+w1) / (18446744073709551616 - e)=Q at q4 q7 q8
  intro kdd f3 q1
  obtain⟨g1,g2,g3⟩:=g v w0 q5 q6 w00 w01
  obtain⟨r1,r2,r3,r4,r5,r6,r7,r8⟩:=k0 he q5 q6 w00 w01
  have p2:bB.L1.aw (18446744073709551616 - e,(s:Int),4294967295,4294967296 - e,w0,Q,v - v / 4294967295*4294967295,v,v / 4294967295):=⟨e,he,rfl,rfl,rfl,q5,q6,w00,w01,r2,r3,by omega,r1⟩
  rw[g1,g2,bB.L1.run p2]
  simp only[ab,bB.L1.add,bB.L1.F,c2,ah,g3]
  rw[<-kdd.2,qY s (by rfl) (by omega),<-hm,a6,qU,nD]
  have e9:(Q*4294967296%18446744073709551616+(v*4294967296+w0) / (18446744073709551616 - e))%18446744073709551616=(hi*18446744073709551616+lo) / y:=by rw[kdd.1];omega
  rw[e9]
  rfl
def bB.E:=Entry.dp [some tu,some tu,some tu] bB.st bB.aw bB.add bB.F bB.out
def bB.call:bB.D->Option bB.X:=cj bB.E bB.st
theorem bB.run:cl bB.call bB.aw bB.add bB.F:=dw (du [.d tu,.d tu,.d tu] λ_=>by kernel_rfl)
def bB.sg:SG Tryz.prog:=⟨171,aP,bB.E,.fn 2 (by kernel_rfl) bB.ok (And.intro (.dp bB.L0.ok (by kernel_rfl)) (And.intro (.dp bB.L1.ok (by kernel_rfl)) trivial))⟩
abbrev fN.D:=Int×Int×Int
def fN.st:fN.D->SA:=λ(hi,lo,yv)=>([.d tu hi,.d tu lo,.d tu yv],[])
abbrev fN.Y:=Int
abbrev fN.X:=Int
def fN.out:fN.X->aZ:=λx=>⟨.d tu x,[],[]⟩
def fN.add:fN.D->fN.Y->fN.X:=λ(hi,lo,yv) y=>y
def fN.aw:fN.D->Prop:=λ(hi,lo,y)=>Uo y/\0<=hi/\hi < 18446744073709551616/\0<=lo/\lo < 18446744073709551616
def fN.F:fN.D->fN.Y:=λ(hi,lo,y)=>(hi*18446744073709551616+lo)%y
def fN.G:fD:=gz (P:=Tryz.prog) [bB.sg]
def fN.an:fT:= {}
def fN.A:= @dq Tryz.prog fN.G fN.an 0 Tryz.f138 _ fN.st
abbrev fN.Ok:=dr @fN.A fN.aw fN.add fN.F fN.out
theorem fN.eq{R:Type}(hi:Int)(lo:Int)(yv:Int)(k:aZ->Option R):fN.A (hi,lo,yv) k=
 aJ (lN yv) (
 aj (bB.call ((fU hi yv),lo,yv)) λx1=>
 k (fN.out x1.2)) none:=by kernel_rfl
theorem fN.ok:fN.Ok:=by
 rintro⟨hi,lo,y⟩ ⟨hy,h0,h1,h2,h3⟩
 have h0:0<=hi:=h0
 have yb:0 < y:=by obtain rfl | rfl | rfl:=hy <;> omega
 have z:lN y=true:=by simp[lN];omega
 have p:bB.aw (hi%y,lo,y):=⟨hy,kU _ (by omega),ky _ yb,h2,h3⟩
 rw[fN.eq,z,kT h0,bB.run p]
 have e:(hi%y*18446744073709551616+lo)%y=(hi*18446744073709551616+lo)%y:=by
  rw[mK,iQ,iW _ (mL y),<-iQ,<-mK]
 simp only[ah,ab,bB.add,bB.F,fN.add,fN.F,e]
def fN.E:=Entry.dp [some tu,some tu,some tu] fN.st fN.aw fN.add fN.F fN.out
def fN.call:fN.D->Option fN.X:=cj fN.E fN.st
theorem fN.run:cl fN.call fN.aw fN.add fN.F:=dw (du [.d tu,.d tu,.d tu] λ_=>by kernel_rfl)
def fN.sg:SG Tryz.prog:=⟨138,aP,fN.E,.fn 0 (by kernel_rfl) fN.ok trivial⟩
abbrev gg.D:=Int×Int
def gg.st:gg.D->SA:=λ(x,yv)=>([.d tu x,.d tu yv],[])
abbrev gg.Y:=Int×Int
abbrev gg.X:=Int×Int
def gg.out:gg.X->aZ:=λx=>⟨.cons (.d tu x.1) (.cons (.d tu x.2) (.nil)),[],[]⟩
def gg.add:gg.D->gg.Y->gg.X:=λ(x,yv) y=>y
def gg.aw:gg.D->Prop:=λ(x,y)=>(0<=x/\x < 18446744073709551616)/\0<=y/\y < 18446744073709551616
def gg.F:gg.D->gg.Y:=λ(x,y)=>(x*y / 18446744073709551616,x*y%18446744073709551616)
def gg.G:fD:=gz (P:=Tryz.prog) []
def gg.an:fT:= {}
def gg.A:= @dq Tryz.prog gg.G gg.an 0 Tryz.f164 _ gg.st
abbrev gg.Ok:=dr @gg.A gg.aw gg.add gg.F gg.out
theorem gg.eq{R:Type}(x:Int)(yv:Int)(k:aZ->Option R):gg.A (x,yv) k=
 k (gg.out ((bO .u64 (bO .u64 (gJ .u64 (cZ .u64 x (32:Int)) (cZ .u64 yv (32:Int))) (cZ .u64 (bO .u64 (gJ .u64 (cZ .u64 x (32:Int)) (dC .and .u64 yv (4294967295:Int))) (cZ .u64 (gJ .u64 (dC .and .u64 x (4294967295:Int)) (dC .and .u64 yv (4294967295:Int))) (32:Int))) (32:Int))) (cZ .u64 (bO .u64 (dC .and .u64 (bO .u64 (gJ .u64 (cZ .u64 x (32:Int)) (dC .and .u64 yv (4294967295:Int))) (cZ .u64 (gJ .u64 (dC .and .u64 x (4294967295:Int)) (dC .and .u64 yv (4294967295:Int))) (32:Int))) (4294967295:Int)) (gJ .u64 (dC .and .u64 x (4294967295:Int)) (cZ .u64 yv (32:Int)))) (32:Int))),(gJ .u64 x yv))):=by kernel_rfl
theorem Aa{a b m n:Int}(h0:0<=a)(h1:a<=m)(h2:0<=b)(h3:b<=n):0<=a*b/\a*b<=m*n:=
 ⟨pW h0 h2,Int.mul_le_mul h1 h3 h2 (Int.le_trans h0 h1)⟩
theorem gg.ok:gg.Ok:=by
 rintro⟨x,y⟩ ⟨⟨h0,h1⟩,h2,h3⟩
 have h0:0<=x:=h0
 have h1:x < 18446744073709551616:=h1
 have h2:0<=y:=h2
 have h3:y < 18446744073709551616:=h3
 rw[gg.eq]
 have p32:(2:Int)^32=4294967296:=rfl
 have Y2:∀x:Int,cZ .u64 x 32=x / 4294967296:=λx=>by rw[qY 32 (by rfl) (by omega),p32]
 simp only[Y2,GB h0 h1,GB h2 h3]
 obtain⟨a,b,rfl,a0,a1,b0,b1⟩:∃a b:Int,x=a*4294967296+b/\0<=a/\a<=4294967295/\0<=b/\b<=4294967295:=⟨x / 4294967296,x%4294967296,by omega,by omega,by omega,by omega,by omega⟩
 obtain⟨c,d,rfl,c0,c1,d0,d1⟩:∃a b:Int,y=a*4294967296+b/\0<=a/\a<=4294967295/\0<=b/\b<=4294967295:=⟨y / 4294967296,y%4294967296,by omega,by omega,by omega,by omega,by omega⟩
 have e1:(a*4294967296+b) / 4294967296=a:=by omega
 have e2:(a*4294967296+b)%4294967296=b:=by omega
 have e3:(c*4294967296+d) / 4294967296=c:=by omega
 have e4:(c*4294967296+d)%4294967296=d:=by omega
 have e5:(a*4294967296+b)*(c*4294967296+d)=a*c*18446744073709551616+(a*d+b*c)*4294967296+b*d:=by
  have q:(4294967296:Int)*4294967296=18446744073709551616:=rfl
  rw[Int.add_mul,Int.mul_add,Int.mul_add]
  have q1:a*4294967296*(c*4294967296)=a*c*18446744073709551616:=by rw[<-q];ac_rfl
  have q2:a*4294967296*d=a*d*4294967296:=by ac_rfl
  have q3:b*(c*4294967296)=b*c*4294967296:=by ac_rfl
  rw[q1,q2,q3];omega
 obtain⟨m1,m2⟩:=Aa a0 a1 c0 c1
 obtain⟨m3,m4⟩:=Aa a0 a1 d0 d1
 obtain⟨m5,m6⟩:=Aa b0 b1 c0 c1
 obtain⟨m7,m8⟩:=Aa b0 b1 d0 d1
 have n:(4294967295:Int)*4294967295=18446744065119617025:=rfl
 rw[n]at m2 m4 m6 m8
 simp only[e1,e2,e3,e4,gg.add,gg.F,e5,qU,nD]
 revert m1 m2 m3 m4 m5 m6 m7 m8
 generalize a*c=ac
 generalize a*d=ad
 generalize b*c=bc
 generalize b*d=bd
 intro m1 m2 m3 m4 m5 m6 m7 m8
 have q1:bd%18446744073709551616=bd:=by omega
 have q2:ad%18446744073709551616=ad:=by omega
 have q3:bc%18446744073709551616=bc:=by omega
 have q4:ac%18446744073709551616=ac:=by omega
 rw[q1,q2,q3,q4]
 have q5:(ad+bd / 4294967296)%18446744073709551616=ad+bd / 4294967296:=by omega
 have q6:dC .and .u64 (ad+bd / 4294967296) 4294967295=(ad+bd / 4294967296)%4294967296:=GB (by omega) (by omega)
 rw[q5,q6]
 refine congrArg some (congrArg gg.out (Prod.ext ?_ ?_))
 ·show _=(_:Int)
  simp only[]
  omega
 ·rfl
def gg.E:=Entry.dp [some tu,some tu] gg.st gg.aw gg.add gg.F gg.out
def gg.call:gg.D->Option gg.X:=cj gg.E gg.st
theorem gg.run:cl gg.call gg.aw gg.add gg.F:=dw (du [.d tu,.d tu] λ_=>by kernel_rfl)
def gg.sg:SG Tryz.prog:=⟨164,aP,gg.E,.fn 0 (by kernel_rfl) gg.ok trivial⟩
def Pn(x:Int):Prop:=0<=x/\x < 4611686018427377339
def iw(x:Int):Prop:=0<=x/\x < 18446744073709551616
theorem Pn.u{x:Int}(h:Pn x):iw x:=⟨h.1,by have:=h.2;omega⟩
def mG(a b:Int):Int:=a*b%4611686018427377339
theorem qh(a b:Int):Pn (mG a b):=⟨kU _ (by omega),ky _ (by omega)⟩
def Gq:Nat->Int->Nat->Int->Int
 | 0,_,_,out=>out
 |f+1,a,n,out=>if n=0 then out else Gq f (mG a a) (n / 2) (if n%2=1 then mG out a else out)
def pw(a:Int)(n:Nat):Int:=Gq 64 a n 1
theorem sO(f:Nat)(a out:Int):Gq f a 0 out=out:=by cases f <;> rfl
theorem CZ:∀(f g:Nat) (a:Int) (n:Nat) (out:Int),n < 2^f->n < 2^g->Gq f a n out=Gq g a n out
 | 0,g,a,n,out,h,_=>by
  obtain rfl:n=0:=by omega
  rw[sO,sO]
 |f+1,0,a,n,out,_,h=>by
  obtain rfl:n=0:=by omega
  rw[sO,sO]
 |f+1,g+1,a,n,out,h,h'=>by
  have e:(2:Nat)^(f+1)=2^f*2:=Nat.pow_succ 2 f
  have e':(2:Nat)^(g+1)=2^g*2:=Nat.pow_succ 2 g
  unfold Gq
  split
  ·rfl
  ·exact CZ f g _ _ _ (by omega) (by omega)
theorem N4:∀(f:Nat) (a:Int) (n:Nat) (out:Int),Pn out->Pn (Gq f a n out)
 | 0,_,_,_,h=>h
 |f+1,a,n,out,h=>by
  unfold Gq
  split
  ·exact h
  ·refine N4 f _ _ _ ?_
   split
   ·exact qh _ _
   ·exact h
theorem EO(a:Int)(n:Nat):Pn (pw a n):=N4 _ _ _ _ ⟨by omega,by omega⟩
abbrev fm.D:=Int×Int
def fm.st:fm.D->SA:=λ(a,b)=>([.d tu a,.d tu b],[])
abbrev fm.Y:=Int
abbrev fm.X:=Int
def fm.out:fm.X->aZ:=λx=>⟨.d tu x,[],[]⟩
def fm.add:fm.D->fm.Y->fm.X:=λ(a,b) y=>y
def fm.aw:fm.D->Prop:=λ(a,b)=>iw a/\iw b
def fm.F:fm.D->fm.Y:=λ(a,b)=>mG a b
def fm.G:fD:=gz (P:=Tryz.prog) [gg.sg,fN.sg]
def fm.an:fT:= {}
def fm.A:= @dq Tryz.prog fm.G fm.an 0 Tryz.f129 _ fm.st
abbrev fm.Ok:=dr @fm.A fm.aw fm.add fm.F fm.out
theorem fm.eq{R:Type}(a:Int)(b:Int)(k:aZ->Option R):fm.A (a,b) k=
 aj (gg.call (a,b)) λx1=>
 aj (fN.call (x1.1,x1.2,(4611686018427377339:Int))) λx2=>
 k (fm.out x2):=by kernel_rfl
theorem Dp(n:Int):n / 18446744073709551616*18446744073709551616+n%18446744073709551616=n:=by omega
theorem fm.ok:fm.Ok:=by
 rintro⟨a,b⟩ ⟨ha,hb⟩
 have ha:iw a:=ha
 have hb:iw b:=hb
 obtain⟨m1,m2⟩:=Aa ha.1 (show a<=18446744073709551615 by have:=ha.2;omega) hb.1 (show b<=18446744073709551615 by have:=hb.2;omega)
 have n:(18446744073709551615:Int)*18446744073709551615=340282366920938463426481119284349108225:=rfl
 rw[n]at m2
 have p:fN.aw (a*b / 18446744073709551616,a*b%18446744073709551616,4611686018427377339):=⟨Or.inl rfl,by omega,by omega,by omega,by omega⟩
 rw[fm.eq,gg.run (d:=(a,b)) ⟨ha,hb⟩]
 simp only[ab,gg.add,gg.F]
 rw[fN.run p]
 simp only[ab,fN.add,fN.F,Dp]
 rfl
def fm.E:=Entry.dp [some tu,some tu] fm.st fm.aw fm.add fm.F fm.out
def fm.call:fm.D->Option fm.X:=cj fm.E fm.st
theorem fm.run:cl fm.call fm.aw fm.add fm.F:=dw (du [.d tu,.d tu] λ_=>by kernel_rfl)
def fm.sg:SG Tryz.prog:=⟨129,aP,fm.E,.fn 0 (by kernel_rfl) fm.ok trivial⟩
abbrev bW.L0.D:=Int×Int×Int
def bW.L0.st:bW.L0.D->AS:=λ(uH,sz,outv)=>⟨([.d tu uH,.d tu sz,.undef,.undef,.undef,.d tu outv]++bG 14 []),[],(List.replicate 20 [])⟩
abbrev bW.L0.Y0:=Int
abbrev bW.L0.X0:=Int
def bW.L0.bV:bW.L0.X0->Exit×AS:=λx=>(.exit 0,⟨(bG 5 ([.d tu x]++bG 14 [])),[],(List.replicate 20 [])⟩)
abbrev bW.L0.X:=bW.L0.X0
abbrev bW.L0.Y:=bW.L0.Y0
def bW.L0.out:bW.L0.X->Out (Exit×AS):=λx=> .ok (bW.L0.bV x)
def bW.L0.add:bW.L0.D->bW.L0.Y->bW.L0.X:=λ(uH,sz,outv) y=>y
abbrev bW.D:=Int×Int
def bW.st:bW.D->SA:=λ(a,n)=>([.d tu a,.d tu n],[])
abbrev bW.Y:=Int
abbrev bW.X:=Int
def bW.out:bW.X->aZ:=λx=>⟨.d tu x,[],[]⟩
def bW.add:bW.D->bW.Y->bW.X:=λ(a,n) y=>y
def bW.L0.aw:bW.L0.D->Prop:=λ(a,n,o)=>iw a/\iw n/\Pn o
def bW.L0.F:bW.L0.D->bW.L0.Y:=λ(a,n,o)=>Gq 64 a n.toNat o
def bW.aw:bW.D->Prop:=λ(a,n)=>iw a/\iw n
def bW.F:bW.D->bW.Y:=λ(a,n)=>pw a n.toNat
def bW.G:fD:=gz (P:=Tryz.prog) [fm.sg]
def bW.L0.E:=cV.dp bW.L0.st bW.L0.aw bW.L0.add bW.L0.F bW.L0.out
def bW.L0.call:bW.L0.D->Option bW.L0.X:=eI bW.L0.E bW.L0.st
def bW.an:fT:= {loops:=oF [(2,{bS:=[0,1,5]})],outs:=oE [(2,{bS:=[5]},{bS:=[4]})],jw:=pL [(2,bW.L0.E)]}
def bW.A:= @dq Tryz.prog bW.G bW.an 0 Tryz.f76 _ bW.st
abbrev bW.Ok:=dr @bW.A bW.aw bW.add bW.F bW.out
def bW.L0.R:= @dn Tryz.prog bW.G bW.an 0 Tryz.f76 0 _ bW.L0.st
abbrev bW.L0.Ok:=gw Tryz.prog bW.G bW.an 0 Tryz.f76 0 bW.L0.st bW.L0.aw bW.L0.add bW.L0.F bW.L0.out
theorem bW.L0.run:cl bW.L0.call bW.L0.aw bW.L0.add bW.L0.F:=gT (gS [.d tu,.d tu,.d tu] λ_=>by kernel_rfl)
theorem bW.L0.aI:jk @bW.L0.R bW.L0.st bW.L0.aw bW.L0.add bW.L0.F bW.L0.bV bW.L0.Ok:=jm
theorem bW.L0.step{R:Type}(uH:Int)(sz:Int)(outv:Int)(kn:AS->Option R)(kx:Exit->AS->Option R):bW.L0.R (uH,sz,outv) kn kx=
  aJ ((so sz (0:Int))) (
   aJ ((nX (dC .and .u64 sz (1:Int)) (1:Int))) (
    aj (fm.call (outv,uH)) λx1=>
    aj (fm.call (uH,uH)) λx2=>
    kn (bW.L0.st (x2,(cZ .u64 sz (1:Int)),x1))) (
    aj (fm.call (uH,uH)) λx3=>
    kn (bW.L0.st (x3,(cZ .u64 sz (1:Int)),outv)))) (
   kx (bW.L0.bV outv).1 (bW.L0.bV outv).2):=by kernel_rfl
theorem bW.eq{R:Type}(a:Int)(n:Int)(k:aZ->Option R):bW.A (a,n) k=
 aj (bW.L0.call (a,n,(1:Int))) λx4=>
 k (bW.out x4):=by kernel_rfl
theorem WO{n:Int}(h:iw n):cZ .u64 n 1=n / 2:=qY 1 (by rfl) (by omega)
theorem bW.L0.ok:bW.L0.Ok:=by
 refine bW.L0.aI (λ(a,n,o)=>n.toNat) ?_
 rintro⟨a,n,o⟩ ⟨ha,hn,ho⟩
 have ha:iw a:=ha
 have hn:iw n:=hn
 have ho:Pn o:=ho
 have n0:=hn.1
 have n1:=hn.2
 by_cases h:0 < n
 ·left
  have e:bW.L0.F (a,n,o)=bW.L0.F (mG a a,n / 2,if n%2=1 then mG o a else o):=by
   show Gq 64 a n.toNat o=Gq 64 (mG a a) (n / 2).toNat _
   rw[CZ 64 65 a n.toNat o (by omega) (by omega)]
   have t1:(n / 2).toNat=n.toNat / 2:=by omega
   have t2:(n%2=1)=(n.toNat%2=1):=by apply propext;omega
   rw[t1]
   simp only[t2]
   show(if n.toNat=0 then o else _)=_
   rw[if_neg (by omega)]
  refine⟨(mG a a,n / 2,if n%2=1 then mG o a else o),⟨(qh a a).u,⟨by omega,by omega⟩,?_⟩,by show(n / 2).toNat < n.toNat;omega,?_,λkn kx=> ?_⟩
  ·show Pn (if n%2=1 then mG o a else o)
   split
   ·exact qh _ _
   ·exact ho
  ·exact congrArg _ e.symm
  ·rw[bW.L0.step,fA h,WO hn,Tg n0 n1,fm.run (d:=(o,a)) ⟨ho.u,ha⟩,fm.run (d:=(a,a)) ⟨ha,ha⟩]
   by_cases h1:n%2=1
   ·rw[iE h1,if_pos h1];rfl
   ·rw[fJ h1,if_neg h1];rfl
 ·right
  intro R kn kx
  obtain rfl:n=0:=by omega
  rw[bW.L0.step,dW (by omega)]
  simp only[ai,bW.L0.add,bW.L0.F]
  rw[show Gq 64 a (Int.toNat 0) o=o from sO _ _ _]
theorem bW.ok:bW.Ok:=by
 rintro⟨a,n⟩ ⟨ha,hn⟩
 rw[bW.eq,bW.L0.run (d:=(a,n,1)) ⟨ha,hn,by omega,by omega⟩]
 rfl
def bW.E:=Entry.dp [some tu,some tu] bW.st bW.aw bW.add bW.F bW.out
def bW.call:bW.D->Option bW.X:=cj bW.E bW.st
theorem bW.run:cl bW.call bW.aw bW.add bW.F:=dw (du [.d tu,.d tu] λ_=>by kernel_rfl)
def bW.sg:SG Tryz.prog:=⟨76,aP,bW.E,.fn 1 (by kernel_rfl) bW.ok (And.intro (.dp bW.L0.ok (by kernel_rfl)) trivial)⟩
def oS(p:Int):Bool:=decide (0 < p/\p < 4611686018427377339) && decide (pw p 2305843009213688669=1)
def tk(p:Int):Int:=if oS p then p else 1
theorem KO(p:Int):Pn (tk p):=by
 unfold tk
 split
 ·rename_i h
  simp only[oS,ak,decide_eq_true_eq]at h
  exact⟨by omega,by omega⟩
 ·exact⟨by omega,by omega⟩
def oO(p k:Int):Int:=pw (tk p) (k%2305843009213688669).toNat
def fw(k:Int):Int:=oO 4 k
def HE(p:Int):Int:=pw (tk p) 2305843009213688668
def vg(l:List Int):Int:=l.foldl (λo p=>mG o (tk p)) 1
theorem P3(l:List Int)(o:Int)(h:Pn o):Pn (l.foldl (λo p=>mG o (tk p)) o):=by
 induction l generalizing o with
 |nil=>exact h
 |cons p l ih=>exact ih _ (qh _ _)
theorem KK(l:List Int):Pn (vg l):=P3 l 1 ⟨by omega,by omega⟩
abbrev dy.D:=Int
def dy.st:dy.D->SA:=λp=>([.d tu p],[])
abbrev dy.Y:=Bool
abbrev dy.X:=Bool
def dy.out:dy.X->aZ:=λx=>⟨.d .bool x,[],[]⟩
def dy.add:dy.D->dy.Y->dy.X:=λp y=>y
def dy.aw:dy.D->Prop:=λp=>iw p
def dy.F:dy.D->dy.Y:=λp=>oS p
def dy.G:fD:=gz (P:=Tryz.prog) [bW.sg]
def dy.an:fT:= {}
def dy.A:= @dq Tryz.prog dy.G dy.an 0 Tryz.f34 _ dy.st
abbrev dy.Ok:=dr @dy.A dy.aw dy.add dy.F dy.out
theorem dy.eq{R:Type}(p:Int)(k:aZ->Option R):dy.A p k=
  aJ ((so p (0:Int))) (
   aJ ((jK p (4611686018427377339:Int))) (
    aj (bW.call (p,(2305843009213688669:Int))) λx1=>
    k (dy.out (nX x1 (1:Int)))) (
    k (dy.out false))) (
   k (dy.out false)):=by kernel_rfl
theorem dy.ok:dy.Ok:=by
 intro p hp
 have hp:iw p:=hp
 rw[dy.eq,bW.run (d:=(p,2305843009213688669)) ⟨hp,by constructor <;> decide⟩]
 simp only[ab,bW.add,bW.F,dy.add,dy.F,oS]
 by_cases h:0 < p
 ·rw[fA h,ah]
  by_cases h2:p < 4611686018427377339
  ·rw[bI h2,ah,aO ⟨h,h2⟩,cv]
   rfl
  ·rw[bp h2,ai,cR (λx=>h2 x.2),fK]
 ·rw[dW h,ai,cR (λx=>h x.1),fK]
def dy.E:=Entry.dp [some tu] dy.st dy.aw dy.add dy.F dy.out
def dy.call:dy.D->Option dy.X:=cj dy.E dy.st
theorem dy.run:cl dy.call dy.aw dy.add dy.F:=dw (du [.d tu] λ_=>by kernel_rfl)
def dy.sg:SG Tryz.prog:=⟨34,aP,dy.E,.fn 0 (by kernel_rfl) dy.ok trivial⟩
abbrev eA.D:=Int
def eA.st:eA.D->SA:=λp=>([.d tu p],[])
abbrev eA.Y:=Int
abbrev eA.X:=Int
def eA.out:eA.X->aZ:=λx=>⟨.d tu x,[],[]⟩
def eA.add:eA.D->eA.Y->eA.X:=λp y=>y
def eA.aw:eA.D->Prop:=λp=>iw p
def eA.F:eA.D->eA.Y:=λp=>tk p
def eA.G:fD:=gz (P:=Tryz.prog) [dy.sg]
def eA.an:fT:= {}
def eA.A:= @dq Tryz.prog eA.G eA.an 0 Tryz.f121 _ eA.st
abbrev eA.Ok:=dr @eA.A eA.aw eA.add eA.F eA.out
theorem eA.eq{R:Type}(p:Int)(k:aZ->Option R):eA.A p k=
  aj (dy.call p) λx1=>
  aJ (x1) (
   k (eA.out p)) (
   k (eA.out (1:Int))):=by kernel_rfl
theorem eA.ok:eA.Ok:=by
 intro p hp
 rw[eA.eq,dy.run (d:=p) hp]
 simp only[ab,dy.add,dy.F,eA.add,eA.F,tk]
 cases oS p <;> rfl
def eA.E:=Entry.dp [some tu] eA.st eA.aw eA.add eA.F eA.out
def eA.call:eA.D->Option eA.X:=cj eA.E eA.st
theorem eA.run:cl eA.call eA.aw eA.add eA.F:=dw (du [.d tu] λ_=>by kernel_rfl)
def eA.sg:SG Tryz.prog:=⟨121,aP,eA.E,.fn 0 (by kernel_rfl) eA.ok trivial⟩
abbrev eL.D:=Int×Int
def eL.st:eL.D->SA:=λ(p,kv)=>([.d tu p,.d tu kv],[])
abbrev eL.Y:=Int
abbrev eL.X:=Int
def eL.out:eL.X->aZ:=λx=>⟨.d tu x,[],[]⟩
def eL.add:eL.D->eL.Y->eL.X:=λ(p,kv) y=>y
def eL.aw:eL.D->Prop:=λ(p,k)=>iw p/\iw k
def eL.F:eL.D->eL.Y:=λ(p,k)=>oO p k
def eL.G:fD:=gz (P:=Tryz.prog) [eA.sg,bW.sg]
def eL.an:fT:= {}
def eL.A:= @dq Tryz.prog eL.G eL.an 0 Tryz.f70 _ eL.st
abbrev eL.Ok:=dr @eL.A eL.aw eL.add eL.F eL.out
theorem eL.eq{R:Type}(p:Int)(kv:Int)(k:aZ->Option R):eL.A (p,kv) k=
 aj (eA.call p) λx1=>
 aj (bW.call (x1,(fU kv (2305843009213688669:Int)))) λx2=>
 k (eL.out x2):=by kernel_rfl
theorem eL.ok:eL.Ok:=by
 rintro⟨p,k⟩ ⟨hp,hk⟩
 have hk:iw k:=hk
 have e:=kT (y:=2305843009213688669) hk.1
 have b:iw (k%2305843009213688669):=⟨by omega,by omega⟩
 rw[eL.eq,eA.run (d:=p) hp,e]
 simp only[ab,eA.add,eA.F]
 rw[bW.run (d:=(tk p,k%2305843009213688669)) ⟨(KO p).u,b⟩]
 rfl
def eL.E:=Entry.dp [some tu,some tu] eL.st eL.aw eL.add eL.F eL.out
def eL.call:eL.D->Option eL.X:=cj eL.E eL.st
theorem eL.run:cl eL.call eL.aw eL.add eL.F:=dw (du [.d tu,.d tu] λ_=>by kernel_rfl)
def eL.sg:SG Tryz.prog:=⟨70,aP,eL.E,.fn 0 (by kernel_rfl) eL.ok trivial⟩
abbrev dX.D:=Int
def dX.st:dX.D->SA:=λkv=>([.d tu kv],[])
abbrev dX.Y:=Int
abbrev dX.X:=Int
def dX.out:dX.X->aZ:=λx=>⟨.d tu x,[],[]⟩
def dX.add:dX.D->dX.Y->dX.X:=λkv y=>y
def dX.aw:dX.D->Prop:=λk=>iw k
def dX.F:dX.D->dX.Y:=λk=>fw k
def dX.G:fD:=gz (P:=Tryz.prog) [eL.sg]
def dX.an:fT:= {}
def dX.A:= @dq Tryz.prog dX.G dX.an 0 Tryz.f28 _ dX.st
abbrev dX.Ok:=dr @dX.A dX.aw dX.add dX.F dX.out
theorem dX.eq{R:Type}(kv:Int)(k:aZ->Option R):dX.A kv k=
 aj (eL.call ((4:Int),kv)) λx1=>
 k (dX.out x1):=by kernel_rfl
theorem dX.ok:dX.Ok:=by
 intro k hk
 rw[dX.eq,eL.run (d:=(4,k)) ⟨⟨by omega,by omega⟩,hk⟩]
 rfl
def dX.E:=Entry.dp [some tu] dX.st dX.aw dX.add dX.F dX.out
def dX.call:dX.D->Option dX.X:=cj dX.E dX.st
theorem dX.run:cl dX.call dX.aw dX.add dX.F:=dw (du [.d tu] λ_=>by kernel_rfl)
def dX.sg:SG Tryz.prog:=⟨28,aP,dX.E,.fn 0 (by kernel_rfl) dX.ok trivial⟩
abbrev ki.D:=Int
def ki.st:ki.D->SA:=λp=>([.d tu p],[])
abbrev ki.Y:=Int
abbrev ki.X:=Int
def ki.out:ki.X->aZ:=λx=>⟨.d tu x,[],[]⟩
def ki.add:ki.D->ki.Y->ki.X:=λp y=>y
def ki.aw:ki.D->Prop:=λp=>iw p
def ki.F:ki.D->ki.Y:=λp=>HE p
def ki.G:fD:=gz (P:=Tryz.prog) [eA.sg,bW.sg]
def ki.an:fT:= {}
def ki.A:= @dq Tryz.prog ki.G ki.an 0 Tryz.f177 _ ki.st
abbrev ki.Ok:=dr @ki.A ki.aw ki.add ki.F ki.out
theorem ki.eq{R:Type}(p:Int)(k:aZ->Option R):ki.A p k=
 aj (eA.call p) λx1=>
 aj (bW.call (x1,(2305843009213688668:Int))) λx2=>
 k (ki.out x2):=by kernel_rfl
theorem ki.ok:ki.Ok:=by
 intro p hp
 rw[ki.eq,eA.run (d:=p) hp]
 simp only[ab,eA.add,eA.F]
 rw[bW.run (d:=(tk p,2305843009213688668)) ⟨(KO p).u,by constructor <;> decide⟩]
 rfl
def ki.E:=Entry.dp [some tu] ki.st ki.aw ki.add ki.F ki.out
def ki.call:ki.D->Option ki.X:=cj ki.E ki.st
theorem ki.run:cl ki.call ki.aw ki.add ki.F:=dw (du [.d tu] λ_=>by kernel_rfl)
def ki.sg:SG Tryz.prog:=⟨177,aP,ki.E,.fn 0 (by kernel_rfl) ki.ok trivial⟩
abbrev eK.L0.D:=Int×Bs×Int×Int
def eK.L0.st:eK.L0.D->AS:=λ(outv,t6,t7,t8)=>⟨([.undef,.undef,.undef,.d tu outv,.undef,.undef,.d tU t6,.d ti t7,.d ti t8]++bG 9 []),[],(List.replicate 18 [])⟩
abbrev eK.L0.Y0:=Int
abbrev eK.L0.X0:=Int
def eK.L0.bV:eK.L0.X0->Exit×AS:=λx=>(.exit 0,⟨([.undef,.undef,.undef,.d tu x]++bG 14 []),[],(List.replicate 18 [])⟩)
abbrev eK.L0.X:=eK.L0.X0
abbrev eK.L0.Y:=eK.L0.Y0
def eK.L0.out:eK.L0.X->Out (Exit×AS):=λx=> .ok (eK.L0.bV x)
def eK.L0.add:eK.L0.D->eK.L0.Y->eK.L0.X:=λ(outv,t6,t7,t8) y=>y
abbrev eK.D:=Bs
def eK.st:eK.D->SA:=λl=>([.d tU l],[])
abbrev eK.Y:=Int
abbrev eK.X:=Int
def eK.out:eK.X->aZ:=λx=>⟨.d tu x,[],[]⟩
def eK.add:eK.D->eK.Y->eK.X:=λl y=>y
def eK.L0.aw:eK.L0.D->Prop:=λ(o,l,n,i)=>Pn o/\(∀x∈l,iw x)/\l.length<=1000000000/\n=l.length/\∃k:Nat,k<=l.length/\i=k
def eK.L0.F:eK.L0.D->eK.L0.Y:=λ(o,l,n,i)=>(l.drop i.toNat).foldl (λo p=>mG o (tk p)) o
def eK.aw:eK.D->Prop:=λl=>(∀x∈l,iw x)/\l.length<=1000000000
def eK.F:eK.D->eK.Y:=λl=>vg l
def eK.G:fD:=gz (P:=Tryz.prog) [eA.sg,fm.sg]
def eK.L0.E:=cV.dp eK.L0.st eK.L0.aw eK.L0.add eK.L0.F eK.L0.out
def eK.L0.call:eK.L0.D->Option eK.L0.X:=eI eK.L0.E eK.L0.st
def eK.an:fT:= {loops:=oF [(3,{bS:=[3,6,7,8]})],outs:=oE [(3,{bS:=[3]},{bS:=[2]})],jw:=pL [(3,eK.L0.E)]}
def eK.A:= @dq Tryz.prog eK.G eK.an 0 Tryz.f165 _ eK.st
abbrev eK.Ok:=dr @eK.A eK.aw eK.add eK.F eK.out
def eK.L0.R:= @dn Tryz.prog eK.G eK.an 0 Tryz.f165 0 _ eK.L0.st
abbrev eK.L0.Ok:=gw Tryz.prog eK.G eK.an 0 Tryz.f165 0 eK.L0.st eK.L0.aw eK.L0.add eK.L0.F eK.L0.out
theorem eK.L0.run:cl eK.L0.call eK.L0.aw eK.L0.add eK.L0.F:=gT (gS [.d tu,.d tU,.d ti,.d ti] λ_=>by kernel_rfl)
theorem eK.L0.aI:jk @eK.L0.R eK.L0.st eK.L0.aw eK.L0.add eK.L0.F eK.L0.bV eK.L0.Ok:=jm
theorem eK.L0.step{R:Type}(outv:Int)(t6:Bs)(t7:Int)(t8:Int)(kn:AS->Option R)(kx:Exit->AS->Option R):eK.L0.R (outv,t6,t7,t8) kn kx=
  aJ ((jK t8 t7)) (
   aJ (fp t8 (((List.length t6):Nat):Int)) (
   aj (eA.call (nth tu t6 (Int.toNat t8))) λx1=>
   aj (fm.call (outv,x1)) λx2=>
   kn (eK.L0.st (x2,t6,t7,(bO .i64 t8 (1:Int))))) none) (
   kx (eK.L0.bV outv).1 (eK.L0.bV outv).2):=by kernel_rfl
theorem eK.eq{R:Type}(l:Bs)(k:aZ->Option R):eK.A l k=
 aj (eK.L0.call ((1:Int),l,(((List.length l):Nat):Int),(0:Int))) λx3=>
 k (eK.out x3):=by kernel_rfl
theorem eK.L0.ok:eK.L0.Ok:=by
 refine eK.L0.aI (λ(o,l,n,i)=>l.length - i.toNat) ?_
 rintro⟨o,l,n,i⟩ ⟨ho,hl,hb,rfl,k,hk,rfl⟩
 have ho:Pn o:=ho
 have hb:l.length<=1000000000:=hb
 have hk:k<=l.length:=hk
 by_cases h:k < l.length
 ·left
  have hx:=hl _ (List.getElem_mem h)
  have n1:nth (.int .u64) l k=l[k]:=dP (t:= .int .u64) h
  refine⟨(mG o (tk l[k]),l,l.length,((k+1:Nat):Int)),⟨qh _ _,hl,hb,rfl,k+1,by omega,rfl⟩,by simp only[aa];omega,?_,λkn kx=> ?_⟩
  ·simp only[eK.L0.add,eK.L0.F,aa]
   rw[aA h]
   rfl
  ·rw[eK.L0.step]
   simp(disch:=omega) only[↓S1,↓if_pos,↓if_neg,if_pos,if_neg,if_true,if_false,S2,n1]
   rw[eA.run (d:=l[k]) hx]
   simp only[ab,eA.add,eA.F]
   rw[fm.run (d:=(o,tk l[k])) ⟨ho.u,(KO _).u⟩]
   rfl
 ·right
  obtain rfl:k=l.length:=by omega
  intro R kn kx
  rw[eK.L0.step]
  simp(disch:=omega) only[↓S1,↓if_pos,↓if_neg,if_pos,if_neg,if_true,if_false,S2,eK.L0.add,eK.L0.F,bH]
  rfl
theorem eK.ok:eK.Ok:=by
 rintro l ⟨hl,hb⟩
 rw[eK.eq,eK.L0.run (d:=(1,l,l.length,0)) ⟨⟨by omega,by omega⟩,hl,hb,rfl,0,by omega,rfl⟩]
 rfl
def eK.E:=Entry.dp [some tU] eK.st eK.aw eK.add eK.F eK.out
def eK.call:eK.D->Option eK.X:=cj eK.E eK.st
theorem eK.run:cl eK.call eK.aw eK.add eK.F:=dw (du [.d tU] λ_=>by kernel_rfl)
def eK.sg:SG Tryz.prog:=⟨165,aP,eK.E,.fn 1 (by kernel_rfl) eK.ok (And.intro (.dp eK.L0.ok (by kernel_rfl)) trivial)⟩
abbrev jv.D:=Int×Int
def jv.st:jv.D->SA:=λ(p,q)=>([.d tu p,.d tu q],[])
abbrev jv.Y:=Int
abbrev jv.X:=Int
def jv.out:jv.X->aZ:=λx=>⟨.d tu x,[],[]⟩
def jv.add:jv.D->jv.Y->jv.X:=λ(p,q) y=>y
def jv.aw:jv.D->Prop:=λ(p,q)=>iw p/\iw q
def jv.F:jv.D->jv.Y:=λ(p,q)=>vg [p,q]
def jv.G:fD:=gz (P:=Tryz.prog) [eK.sg]
def jv.an:fT:= {}
def jv.A:= @dq Tryz.prog jv.G jv.an 0 Tryz.f130 _ jv.st
abbrev jv.Ok:=dr @jv.A jv.aw jv.add jv.F jv.out
theorem jv.eq{R:Type}(p:Int)(q:Int)(k:aZ->Option R):jv.A (p,q) k=
 aj (eK.call [p,q]) λx1=>
 k (jv.out x1):=by kernel_rfl
theorem jv.ok:jv.Ok:=by
 rintro⟨p,q⟩ ⟨hp,hq⟩
 have h:eK.aw [p,q]:=⟨by intro x hx;simp only[cH,List.not_mem_nil,or_false]at hx;rcases hx with rfl | rfl <;> assumption,by simp only[aN,bJ];omega⟩
 rw[jv.eq,eK.run h]
 rfl
def jv.E:=Entry.dp [some tu,some tu] jv.st jv.aw jv.add jv.F jv.out
def jv.call:jv.D->Option jv.X:=cj jv.E jv.st
theorem jv.run:cl jv.call jv.aw jv.add jv.F:=dw (du [.d tu,.d tu] λ_=>by kernel_rfl)
def jv.sg:SG Tryz.prog:=⟨130,aP,jv.E,.fn 0 (by kernel_rfl) jv.ok trivial⟩
def Qn(x:Int):Prop:=0<=x/\x < 2305843009213688669
theorem Qn.u{x:Int}(h:Qn x):iw x:=⟨h.1,by have:=h.2;omega⟩
def LU(a:Int):Int:=a%2305843009213688669
theorem FZ(a:Int):Qn (LU a):=⟨kU _ (by omega),ky _ (by omega)⟩
def BP(a b:Int):Int:=(LU a+LU b)%2305843009213688669
def yM(a b:Int):Int:=LU a*LU b%2305843009213688669
def kS(h:List Int):Int:=h.foldl (λn b=>(n*256+b)%2305843009213688668) 0+1
def E9.b(n:Int):Prop:=0<=n/\n < 2305843009213688668
theorem Cb(h:List Int)(n:Int)(hn:E9.b n):E9.b (h.foldl (λn b=>(n*256+b)%2305843009213688668) n):=by
 induction h generalizing n with
 |nil=>exact hn
 |cons p l ih=>exact ih _ ⟨kU _ (by omega),ky _ (by omega)⟩
theorem lZ(h:List Int):0 < kS h/\kS h < 2305843009213688669:=by
 have:=Cb h 0 ⟨by omega,by omega⟩
 have h1:=this.1
 have h2:=this.2
 unfold kS
 omega
theorem yp(a b:Int):Qn (BP a b):=⟨kU _ (by omega),ky _ (by omega)⟩
theorem yN(a b:Int):Qn (yM a b):=⟨kU _ (by omega),ky _ (by omega)⟩
abbrev eO.D:=Int
def eO.st:eO.D->SA:=λa=>([.d tu a],[])
abbrev eO.Y:=Bool
abbrev eO.X:=Bool
def eO.out:eO.X->aZ:=λx=>⟨.d .bool x,[],[]⟩
def eO.add:eO.D->eO.Y->eO.X:=λa y=>y
def eO.aw:eO.D->Prop:=λ_=>True
def eO.F:eO.D->eO.Y:=λa=>jK a 2305843009213688669
def eO.G:fD:=gz (P:=Tryz.prog) []
def eO.an:fT:= {}
def eO.A:= @dq Tryz.prog eO.G eO.an 0 Tryz.f126 _ eO.st
abbrev eO.Ok:=dr @eO.A eO.aw eO.add eO.F eO.out
theorem eO.eq{R:Type}(a:Int)(k:aZ->Option R):eO.A a k=
 k (eO.out (jK a (2305843009213688669:Int))):=by kernel_rfl
theorem eO.ok:eO.Ok:=by
 intro a _
 rw[eO.eq]
 rfl
def eO.E:=Entry.dp [some tu] eO.st eO.aw eO.add eO.F eO.out
def eO.call:eO.D->Option eO.X:=cj eO.E eO.st
theorem eO.run:cl eO.call eO.aw eO.add eO.F:=dw (du [.d tu] λ_=>by kernel_rfl)
def eO.sg:SG Tryz.prog:=⟨126,aP,eO.E,.fn 0 (by kernel_rfl) eO.ok trivial⟩
abbrev oR.D:=Int
def oR.st:oR.D->SA:=λa=>([.d tu a],[])
abbrev oR.Y:=Int
abbrev oR.X:=Int
def oR.out:oR.X->aZ:=λx=>⟨.d tu x,[],[]⟩
def oR.add:oR.D->oR.Y->oR.X:=λa y=>y
def oR.aw:oR.D->Prop:=λa=>iw a
def oR.F:oR.D->oR.Y:=λa=>LU a
def oR.G:fD:=gz (P:=Tryz.prog) []
def oR.an:fT:= {}
def oR.A:= @dq Tryz.prog oR.G oR.an 0 Tryz.f159 _ oR.st
abbrev oR.Ok:=dr @oR.A oR.aw oR.add oR.F oR.out
theorem oR.eq{R:Type}(a:Int)(k:aZ->Option R):oR.A a k=
 k (oR.out (fU a (2305843009213688669:Int))):=by kernel_rfl
theorem oR.ok:oR.Ok:=by
 intro a ha
 rw[oR.eq,kT ha.1]
 rfl
def oR.E:=Entry.dp [some tu] oR.st oR.aw oR.add oR.F oR.out
def oR.call:oR.D->Option oR.X:=cj oR.E oR.st
theorem oR.run:cl oR.call oR.aw oR.add oR.F:=dw (du [.d tu] λ_=>by kernel_rfl)
def oR.sg:SG Tryz.prog:=⟨159,aP,oR.E,.fn 0 (by kernel_rfl) oR.ok trivial⟩
abbrev iB.D:=Int×Int
def iB.st:iB.D->SA:=λ(a,b)=>([.d tu a,.d tu b],[])
abbrev iB.Y:=Int
abbrev iB.X:=Int
def iB.out:iB.X->aZ:=λx=>⟨.d tu x,[],[]⟩
def iB.add:iB.D->iB.Y->iB.X:=λ(a,b) y=>y
def iB.aw:iB.D->Prop:=λ(a,b)=>Qn a/\Qn b
def iB.F:iB.D->iB.Y:=λ(a,b)=>(a+b)%2305843009213688669
def iB.G:fD:=gz (P:=Tryz.prog) []
def iB.an:fT:= {}
def iB.A:= @dq Tryz.prog iB.G iB.an 0 Tryz.f160 _ iB.st
abbrev iB.Ok:=dr @iB.A iB.aw iB.add iB.F iB.out
theorem iB.eq{R:Type}(a:Int)(b:Int)(k:aZ->Option R):iB.A (a,b) k=
 k (iB.out (fU (bO .u64 a b) (2305843009213688669:Int))):=by kernel_rfl
theorem iB.ok:iB.Ok:=by
 rintro⟨a,b⟩ ⟨ha,hb⟩
 have ha:Qn a:=ha
 have hb:Qn b:=hb
 obtain⟨h1,h2⟩:=ha
 obtain⟨h3,h4⟩:=hb
 have e:bO .u64 a b=a+b:=by rw[nD];omega
 rw[iB.eq,e,kT (by omega)]
 rfl
def iB.E:=Entry.dp [some tu,some tu] iB.st iB.aw iB.add iB.F iB.out
def iB.call:iB.D->Option iB.X:=cj iB.E iB.st
theorem iB.run:cl iB.call iB.aw iB.add iB.F:=dw (du [.d tu,.d tu] λ_=>by kernel_rfl)
def iB.sg:SG Tryz.prog:=⟨160,aP,iB.E,.fn 0 (by kernel_rfl) iB.ok trivial⟩
abbrev fH.D:=Int×Int
def fH.st:fH.D->SA:=λ(a,b)=>([.d tu a,.d tu b],[])
abbrev fH.Y:=Int
abbrev fH.X:=Int
def fH.out:fH.X->aZ:=λx=>⟨.d tu x,[],[]⟩
def fH.add:fH.D->fH.Y->fH.X:=λ(a,b) y=>y
def fH.aw:fH.D->Prop:=λ(a,b)=>Qn a/\Qn b
def fH.F:fH.D->fH.Y:=λ(a,b)=>a*b%2305843009213688669
def fH.G:fD:=gz (P:=Tryz.prog) [gg.sg,fN.sg]
def fH.an:fT:= {}
def fH.A:= @dq Tryz.prog fH.G fH.an 0 Tryz.f161 _ fH.st
abbrev fH.Ok:=dr @fH.A fH.aw fH.add fH.F fH.out
theorem fH.eq{R:Type}(a:Int)(b:Int)(k:aZ->Option R):fH.A (a,b) k=
 aj (gg.call (a,b)) λx1=>
 aj (fN.call (x1.1,x1.2,(2305843009213688669:Int))) λx2=>
 k (fH.out x2):=by kernel_rfl
theorem fH.ok:fH.Ok:=by
 rintro⟨a,b⟩ ⟨ha,hb⟩
 have ha:Qn a:=ha
 have hb:Qn b:=hb
 obtain⟨m1,m2⟩:=Aa ha.1 (show a<=18446744073709551615 by have:=ha.2;omega) hb.1 (show b<=18446744073709551615 by have:=hb.2;omega)
 have n:(18446744073709551615:Int)*18446744073709551615=340282366920938463426481119284349108225:=rfl
 rw[n]at m2
 have p:fN.aw (a*b / 18446744073709551616,a*b%18446744073709551616,2305843009213688669):=⟨Or.inr (Or.inl rfl),by omega,by omega,by omega,by omega⟩
 rw[fH.eq,gg.run (d:=(a,b)) ⟨ha.u,hb.u⟩]
 simp only[ab,gg.add,gg.F]
 rw[fN.run p]
 simp only[ab,fN.add,fN.F,Dp]
 rfl
def fH.E:=Entry.dp [some tu,some tu] fH.st fH.aw fH.add fH.F fH.out
def fH.call:fH.D->Option fH.X:=cj fH.E fH.st
theorem fH.run:cl fH.call fH.aw fH.add fH.F:=dw (du [.d tu,.d tu] λ_=>by kernel_rfl)
def fH.sg:SG Tryz.prog:=⟨161,aP,fH.E,.fn 0 (by kernel_rfl) fH.ok trivial⟩
abbrev jR.D:=Int×Int
def jR.st:jR.D->SA:=λ(a,b)=>([.d tu a,.d tu b],[])
abbrev jR.Y:=Int
abbrev jR.X:=Int
def jR.out:jR.X->aZ:=λx=>⟨.d tu x,[],[]⟩
def jR.add:jR.D->jR.Y->jR.X:=λ(a,b) y=>y
def jR.aw:jR.D->Prop:=λ(a,b)=>iw a/\iw b
def jR.F:jR.D->jR.Y:=λ(a,b)=>BP a b
def jR.G:fD:=gz (P:=Tryz.prog) [oR.sg,iB.sg]
def jR.an:fT:= {}
def jR.A:= @dq Tryz.prog jR.G jR.an 0 Tryz.f122 _ jR.st
abbrev jR.Ok:=dr @jR.A jR.aw jR.add jR.F jR.out
theorem jR.eq{R:Type}(a:Int)(b:Int)(k:aZ->Option R):jR.A (a,b) k=
 aj (oR.call a) λx1=>
 aj (oR.call b) λx2=>
 aj (iB.call (x1,x2)) λx3=>
 k (jR.out x3):=by kernel_rfl
theorem jR.ok:jR.Ok:=by
 rintro⟨a,b⟩ ⟨ha,hb⟩
 rw[jR.eq,oR.run (d:=a) ha,oR.run (d:=b) hb]
 simp only[ab,oR.add,oR.F]
 rw[iB.run (d:=(LU a,LU b)) ⟨FZ a,FZ b⟩]
 rfl
def jR.E:=Entry.dp [some tu,some tu] jR.st jR.aw jR.add jR.F jR.out
def jR.call:jR.D->Option jR.X:=cj jR.E jR.st
theorem jR.run:cl jR.call jR.aw jR.add jR.F:=dw (du [.d tu,.d tu] λ_=>by kernel_rfl)
def jR.sg:SG Tryz.prog:=⟨122,aP,jR.E,.fn 0 (by kernel_rfl) jR.ok trivial⟩
abbrev jC.D:=Int×Int
def jC.st:jC.D->SA:=λ(a,b)=>([.d tu a,.d tu b],[])
abbrev jC.Y:=Int
abbrev jC.X:=Int
def jC.out:jC.X->aZ:=λx=>⟨.d tu x,[],[]⟩
def jC.add:jC.D->jC.Y->jC.X:=λ(a,b) y=>y
def jC.aw:jC.D->Prop:=λ(a,b)=>iw a/\iw b
def jC.F:jC.D->jC.Y:=λ(a,b)=>yM a b
def jC.G:fD:=gz (P:=Tryz.prog) [oR.sg,fH.sg]
def jC.an:fT:= {}
def jC.A:= @dq Tryz.prog jC.G jC.an 0 Tryz.f123 _ jC.st
abbrev jC.Ok:=dr @jC.A jC.aw jC.add jC.F jC.out
theorem jC.eq{R:Type}(a:Int)(b:Int)(k:aZ->Option R):jC.A (a,b) k=
 aj (oR.call a) λx1=>
 aj (oR.call b) λx2=>
 aj (fH.call (x1,x2)) λx3=>
 k (jC.out x3):=by kernel_rfl
theorem jC.ok:jC.Ok:=by
 rintro⟨a,b⟩ ⟨ha,hb⟩
 rw[jC.eq,oR.run (d:=a) ha,oR.run (d:=b) hb]
 simp only[ab,oR.add,oR.F]
 rw[fH.run (d:=(LU a,LU b)) ⟨FZ a,FZ b⟩]
 rfl
def jC.E:=Entry.dp [some tu,some tu] jC.st jC.aw jC.add jC.F jC.out
def jC.call:jC.D->Option jC.X:=cj jC.E jC.st
theorem jC.run:cl jC.call jC.aw jC.add jC.F:=dw (du [.d tu,.d tu] λ_=>by kernel_rfl)
def jC.sg:SG Tryz.prog:=⟨123,aP,jC.E,.fn 0 (by kernel_rfl) jC.ok trivial⟩
abbrev cE.L0.D:=Int×Bs×Int
def cE.L0.st:cE.L0.D->AS:=λ(n,t6,t7)=>⟨([.undef,.undef,.undef,.d tu n,.undef,.undef,.d tH t6,.d ti t7]++bG 13 []),[],(List.replicate 21 [])⟩
abbrev cE.L0.Y0:=Int
abbrev cE.L0.X0:=Int
def cE.L0.bV:cE.L0.X0->Exit×AS:=λx=>(.exit 0,⟨([.undef,.undef,.undef,.d tu x]++bG 17 []),[],(List.replicate 21 [])⟩)
abbrev cE.L0.X:=cE.L0.X0
abbrev cE.L0.Y:=cE.L0.Y0
def cE.L0.out:cE.L0.X->Out (Exit×AS):=λx=> .ok (cE.L0.bV x)
def cE.L0.add:cE.L0.D->cE.L0.Y->cE.L0.X:=λ(n,t6,t7) y=>y
abbrev cE.D:=Bs
def cE.st:cE.D->SA:=λh=>([.d tH h],[])
abbrev cE.Y:=Int
abbrev cE.X:=Int
def cE.out:cE.X->aZ:=λx=>⟨.d tu x,[],[]⟩
def cE.add:cE.D->cE.Y->cE.X:=λh y=>y
def cE.L0.aw:cE.L0.D->Prop:=λ(n,h,i)=>E9.b n/\h.length=32/\Bytes h/\∃k:Nat,k<=32/\i=k
def cE.L0.F:cE.L0.D->cE.L0.Y:=λ(n,h,i)=>(h.drop i.toNat).foldl (λn b=>(n*256+b)%2305843009213688668) n
def cE.aw:cE.D->Prop:=λh=>h.length=32/\Bytes h
def cE.F:cE.D->cE.Y:=λh=>kS h
def cE.G:fD:=gz (P:=Tryz.prog) [fN.sg]
def cE.L0.E:=cV.dp cE.L0.st cE.L0.aw cE.L0.add cE.L0.F cE.L0.out
def cE.L0.call:cE.L0.D->Option cE.L0.X:=eI cE.L0.E cE.L0.st
def cE.an:fT:= {loops:=oF [(3,{bS:=[3,6,7]})],outs:=oE [(3,{bS:=[3]},{bS:=[2]})],jw:=pL [(3,cE.L0.E)]}
def cE.A:= @dq Tryz.prog cE.G cE.an 0 Tryz.f99 _ cE.st
abbrev cE.Ok:=dr @cE.A cE.aw cE.add cE.F cE.out
def cE.L0.R:= @dn Tryz.prog cE.G cE.an 0 Tryz.f99 0 _ cE.L0.st
abbrev cE.L0.Ok:=gw Tryz.prog cE.G cE.an 0 Tryz.f99 0 cE.L0.st cE.L0.aw cE.L0.add cE.L0.F cE.L0.out
theorem cE.L0.run:cl cE.L0.call cE.L0.aw cE.L0.add cE.L0.F:=gT (gS [.d tu,.d tB,.d ti] λ_=>by kernel_rfl)
theorem cE.L0.aI:jk @cE.L0.R cE.L0.st cE.L0.aw cE.L0.add cE.L0.F cE.L0.bV cE.L0.Ok:=jm
theorem cE.L0.step{R:Type}(n:Int)(t6:Bs)(t7:Int)(kn:AS->Option R)(kx:Exit->AS->Option R):cE.L0.R (n,t6,t7) kn kx=
  aJ ((jK t7 (32:Int))) (
   aJ (fp t7 (32:Int)) (
   aj (fN.call ((cZ .u64 n (56:Int)),(dC .or .u64 (oJ .u64 n (8:Int)) (eH .u64 (nth tb t6 (Int.toNat t7)))),(2305843009213688668:Int))) λx1=>
   kn (cE.L0.st (x1,t6,(bO .i64 t7 (1:Int))))) none) (
   kx (cE.L0.bV n).1 (cE.L0.bV n).2):=by kernel_rfl
theorem cE.eq{R:Type}(h:Bs)(k:aZ->Option R):cE.A h k=
 aj (cE.L0.call ((0:Int),h,(0:Int))) λx2=>
 k (cE.out (bO .u64 x2 (1:Int))):=by kernel_rfl
theorem GY{n b:Int}(hn:E9.b n)(hb:DA b):cZ .u64 n 56*18446744073709551616+dC .or .u64 (oJ .u64 n 8) (eH .u64 b)=n*256+b/\iw (cZ .u64 n 56)/\iw (dC .or .u64 (oJ .u64 n 8) (eH .u64 b)):=by
 obtain⟨h1,h2⟩:=hn
 obtain⟨h3,h4⟩:=hb
 have p56:(2:Int)^56=72057594037927936:=rfl
 have p8:(2:Int)^8=256:=rfl
 have e:eH .u64 b=b:=by rw[I7];omega
 rw[qY 56 (by rfl) (by omega),qX 8 (by rfl) (by omega),p56,p8,e,yR 8 256 rfl (by omega) (by omega) (by omega) (by omega) (by omega) (by omega)]
 exact⟨by omega,⟨by omega,by omega⟩,by omega,by omega⟩
theorem cE.L0.ok:cE.L0.Ok:=by
 refine cE.L0.aI (λ(n,h,i)=>32 - i.toNat) ?_
 rintro⟨n,h,i⟩ ⟨hn,hl,hb,k,hk,rfl⟩
 have hn:E9.b n:=hn
 have hl:h.length=32:=hl
 have hb:Bytes h:=hb
 by_cases mw:k < 32
 ·left
  have hx:DA (h[k]'(by omega)):=hb _ (List.getElem_mem _)
  have n1:nth (.int .u8) h k=h[k]'(by omega):=dP (t:= .int .u8) (by omega)
  obtain⟨d1,d2,d3⟩:=GY hn hx
  refine⟨((n*256+h[k]'(by omega))%2305843009213688668,h,((k+1:Nat):Int)),⟨⟨by omega,by omega⟩,hl,hb,k+1,by omega,rfl⟩,by simp only[aa];omega,?_,λkn kx=> ?_⟩
  ·simp only[cE.L0.add,cE.L0.F,aa]
   rw[aA (by omega:k < h.length)]
   rfl
  ·rw[cE.L0.step]
   simp(disch:=omega) only[↓S1,↓if_pos,↓if_neg,if_pos,if_neg,if_true,if_false,S2,n1]
   rw[fN.run (d:=(_,_,2305843009213688668)) ⟨Or.inr (Or.inr rfl),d2.1,d2.2,d3.1,d3.2⟩]
   simp only[ab,fN.add,fN.F,d1]
 ·right
  obtain rfl:k=32:=by omega
  intro R kn kx
  rw[cE.L0.step]
  simp(disch:=omega) only[↓S1,↓if_pos,↓if_neg,if_pos,if_neg,if_true,if_false,S2,cE.L0.add,cE.L0.F]
  rw[gM (by omega)]
  rfl
theorem cE.ok:cE.Ok:=by
 rintro h ⟨hl,hb⟩
 have e:=Cb h 0 ⟨by omega,by omega⟩
 have h1:=e.1
 have h2:=e.2
 rw[cE.eq,cE.L0.run (d:=(0,h,0)) ⟨⟨by omega,by omega⟩,hl,hb,0,by omega,rfl⟩]
 simp only[ab,cE.L0.add,cE.L0.F,cE.add,cE.F,kS,bK,aW]
 revert h1 h2
 generalize h.foldl (λn b=>(n*256+b)%2305843009213688668) 0=m
 intro h1 h2
 have e:bO .u64 m 1=m+1:=by rw[nD];omega
 rw[e]
def cE.E:=Entry.dp [some tH] cE.st cE.aw cE.add cE.F cE.out
def cE.call:cE.D->Option cE.X:=cj cE.E cE.st
theorem cE.run:cl cE.call cE.aw cE.add cE.F:=dw (du [.d tB] λ_=>by kernel_rfl)
def cE.sg:SG Tryz.prog:=⟨99,aP,cE.E,.fn 1 (by kernel_rfl) cE.ok (And.intro (.dp cE.L0.ok (by kernel_rfl)) trivial)⟩
theorem BT(n:Int): [eH .u8 (cZ .u64 n 56),eH .u8 (cZ .u64 n 48),eH .u8 (cZ .u64 n 40),eH .u8 (cZ .u64 n 32),eH .u8 (cZ .u64 n 24),eH .u8 (cZ .u64 n 16),eH .u8 (cZ .u64 n 8),eH .u8 (cZ .u64 n 0)]=mu n:=IE n
theorem iV{α:Type}{l:List α}{n:Nat}(h:l.length=n):cut l 0 n=l:=by subst h;simp[cut]
theorem Ov{n:ByteArray}{a b c:List Int}(hn:n.size<=100)(ha:a.length<=1000000)(hb:b.length<=1000000)(hc:c.length<=1000000):dH.aw (n,[a,b,c]):=by
 show(Aq _ [a,b,c]).length<=_
 rw[Aq]
 simp only[nG,List.flatMap_cons,List.flatMap_nil,ae,dO,lX,bJ]
 omega
theorem Dj{n:ByteArray}{a b:List Int}(hn:n.size<=100)(ha:a.length<=1000000)(hb:b.length<=1000000):dH.aw (n,[a,b]):=by
 show(Aq _ [a,b]).length<=_
 rw[Aq]
 simp only[nG,List.flatMap_cons,List.flatMap_nil,ae,dO,lX,bJ]
 omega
theorem Ig{n:ByteArray}{a:List Int}(hn:n.size<=100)(ha:a.length<=1000000):dH.aw (n,[a]):=by
 show(Aq _ [a]).length<=_
 rw[Aq]
 simp only[nG,List.flatMap_cons,List.flatMap_nil,ae,dO,lX,bJ]
 omega
def Sm(m:List Int):Prop:=m.length=32/\Bytes m
theorem Sw(b:List Int):Sm (Sq b):=⟨Jw b,Lb b⟩
theorem Df(n:List Int)(ps:List (List Int)):Sm (tag n ps):=Sw _
def Di(n:ByteArray)(ps:List (List Int)):List Int:=tag (cr n) ps
def Ut:ByteArray:=⟨#[115,105,103]⟩
def Jj:ByteArray:=⟨#[110,111,110,99,101]⟩
def vl(r p:Int)(m:List Int):Int:=kS (Di Ut [mu r,mu p,m])
theorem BX(r p:Int)(m:List Int):Qn (vl r p m):=by
 have:=lZ (Di Ut [mu r,mu p,m])
 exact⟨by unfold vl;omega,by unfold vl;omega⟩
def SL(s:Sg):Prop:=iw s.1/\iw s.2.1
def sE(p:Int)(m:List Int)(t:Int)(s:Sg):Bool:=
 if p=1\/oS p=false\/oS t=false\/oS s.1=false\/¬s.2.1 < 2305843009213688669 then false
 else decide (fw s.2.1=vg [s.1,oO p (vl s.1 p m),HE t])
def Fg(k nonce:Int)(m:List Int)(t:Int):Sg:=
 (vg [fw nonce,t],BP nonce (yM (vl (vg [fw nonce,t]) (fw k) m) k),())
def NO(k:Int)(m:List Int):Int:=kS (Di Jj [mu k,m])
def jO(k:Int)(m:List Int):Sg:=if k < 2305843009213688669/\k≠0 then Fg k (NO k m) m 1 else(0,0,())
abbrev eT.D:=Int
def eT.st:eT.D->SA:=λn=>([.d tu n],[])
abbrev eT.Y:=Bs
abbrev eT.X:=Bs
def eT.out:eT.X->aZ:=λx=>⟨.d tB x,[],[]⟩
def eT.add:eT.D->eT.Y->eT.X:=λn y=>y
def eT.aw:eT.D->Prop:=λ_=>True
def eT.F:eT.D->eT.Y:=λn=>mu n
def eT.G:fD:=gz (P:=Tryz.prog) []
def eT.an:fT:= {loops:=oF [(3,{bS:=[0,3,7,8],sites:=[5]})],outs:=oE [(3,{bS:=[3],sites:=[5]},{bS:=[2],sites:=[5]})],res:=[some tB]}
def eT.A:= @dq Tryz.prog eT.G eT.an 12 Tryz.f144 _ eT.st
abbrev eT.Ok:=dr @eT.A eT.aw eT.add eT.F eT.out
theorem eT.eq{R:Type}(n:Int)(k:aZ->Option R):eT.A n k=
 k (eT.out [(eH .u8 (cZ .u64 n (56:Int))),(eH .u8 (cZ .u64 n (48:Int))),(eH .u8 (cZ .u64 n (40:Int))),(eH .u8 (cZ .u64 n (32:Int))),(eH .u8 (cZ .u64 n (24:Int))),(eH .u8 (cZ .u64 n (16:Int))),(eH .u8 (cZ .u64 n (8:Int))),(eH .u8 (cZ .u64 n (0:Int)))]):=by kernel_rfl
theorem eT.ok:eT.Ok:=by
 intro n _
 rw[eT.eq,BT]
 rfl
def eT.E:=Entry.dp [some tu] eT.st eT.aw eT.add eT.F eT.out
def eT.call:eT.D->Option eT.X:=cj eT.E eT.st
theorem eT.run:cl eT.call eT.aw eT.add eT.F:=dw (du [.d tu] λ_=>by kernel_rfl)
def eT.sg:SG Tryz.prog:=⟨144,aP,eT.E,.fn 1 (by kernel_rfl) eT.ok (And.intro (.none (by kernel_rfl)) trivial)⟩
abbrev gu.D:=Int×Int×Bs
def gu.st:gu.D->SA:=λ(r,p,m)=>([.d tu r,.d tu p,.d tH m],[])
abbrev gu.Y:=Int
abbrev gu.X:=Int
def gu.out:gu.X->aZ:=λx=>⟨.d tu x,[],[]⟩
def gu.add:gu.D->gu.Y->gu.X:=λ(r,p,m) y=>y
def gu.aw:gu.D->Prop:=λ(r,p,m)=>Sm m
def gu.F:gu.D->gu.Y:=λ(r,p,m)=>vl r p m
def gu.G:fD:=gz (P:=Tryz.prog) [eT.sg,dH.sg,cE.sg]
def gu.an:fT:= {}
def gu.A:= @dq Tryz.prog gu.G gu.an 0 Tryz.f172 _ gu.st
abbrev gu.Ok:=dr @gu.A gu.aw gu.add gu.F gu.out
theorem gu.eq{R:Type}(r:Int)(p:Int)(m:Bs)(k:aZ->Option R):gu.A (r,p,m) k=
 aj (eT.call r) λx1=>
 aj (eT.call p) λx2=>
 aj (dH.call ((⟨#[115,105,103]⟩:ByteArray),[x1,x2,(cut m 0 32)])) λx3=>
 aj (cE.call x3) λx4=>
 k (gu.out x4):=by kernel_rfl
theorem gu.ok:gu.Ok:=by
 rintro⟨r,p,m⟩ hm
 have hm:Sm m:=hm
 rw[gu.eq,eT.run (d:=r) trivial,eT.run (d:=p) trivial]
 simp only[ab,eT.add,eT.F]
 rw[iV hm.1,dH.run (Ov (by decide) (by rw[dO];omega) (by rw[dO];omega) (by rw[hm.1];omega))]
 simp only[ab,dH.add,dH.F]
 rw[cE.run (d:=tag (cr (⟨#[115,105,103]⟩:ByteArray)) [mu r,mu p,m]) (Df _ _)]
 rfl
def gu.E:=Entry.dp [some tu,some tu,some tH] gu.st gu.aw gu.add gu.F gu.out
def gu.call:gu.D->Option gu.X:=cj gu.E gu.st
theorem gu.run:cl gu.call gu.aw gu.add gu.F:=dw (du [.d tu,.d tu,.d tB] λ_=>by kernel_rfl)
def gu.sg:SG Tryz.prog:=⟨172,aP,gu.E,.fn 0 (by kernel_rfl) gu.ok trivial⟩
abbrev dL.D:=Int×Bs×Int×Sg
def dL.st:dL.D->SA:=λ(p,m,t,pre)=>([.d tu p,.d tH m,.d tu t,.d Ap pre],[])
abbrev dL.Y:=Bool
abbrev dL.X:=Bool
def dL.out:dL.X->aZ:=λx=>⟨.d .bool x,[],[]⟩
def dL.add:dL.D->dL.Y->dL.X:=λ(p,m,t,pre) y=>y
def dL.aw:dL.D->Prop:=λ(p,m,t,s)=>iw p/\Sm m/\iw t/\SL s
def dL.F:dL.D->dL.Y:=λ(p,m,t,s)=>sE p m t s
def dL.G:fD:=gz (P:=Tryz.prog) [dy.sg,eO.sg,gu.sg,eL.sg,ki.sg,eK.sg,dX.sg]
def dL.an:fT:= {}
def dL.A:= @dq Tryz.prog dL.G dL.an 0 Tryz.f153 _ dL.st
abbrev dL.Ok:=dr @dL.A dL.aw dL.add dL.F dL.out
theorem dL.eq{R:Type}(p:Int)(m:Bs)(t:Int)(pre:Sg)(k:aZ->Option R):dL.A (p,m,t,pre) k=
  aJ ((nX p (1:Int))) (
   k (dL.out false)) (
   aj (dy.call p) λx1=>
   aJ ((!x1)) (
    k (dL.out false)) (
    aj (dy.call t) λx2=>
    aJ ((!x2)) (
     k (dL.out false)) (
     aj (dy.call pre.1) λx3=>
     aJ ((!x3)) (
      k (dL.out false)) (
      aj (eO.call pre.2.1) λx4=>
      aJ ((!x4)) (
       k (dL.out false)) (
       aj (gu.call (pre.1,p,m)) λx5=>
       aj (eL.call (p,x5)) λx6=>
       aj (ki.call t) λx7=>
       aj (eK.call [pre.1,x6,x7]) λx8=>
       aj (dX.call pre.2.1) λx9=>
       k (dL.out (nX x9 x8))))))):=by kernel_rfl
theorem dL.ok:dL.Ok:=by
 rintro⟨p,m,t,s⟩ ⟨hp,hm,ht,hs⟩
 have hp:iw p:=hp
 have ht:iw t:=ht
 have hm:Sm m:=hm
 have hs:SL s:=hs
 rw[dL.eq,dy.run (d:=p) hp,dy.run (d:=t) ht,dy.run (d:=s.1) hs.1,eO.run (d:=s.2.1) trivial]
 simp only[ab,dy.add,dy.F,eO.add,eO.F,dL.add,dL.F,sE]
 by_cases h1:p=1
 ·rw[iE h1,ah,if_pos (Or.inl h1)]
 rw[fJ h1,ai]
 cases h2:oS p
 ·rw[if_pos (Or.inr (Or.inl rfl))];rfl
 cases h3:oS t
 ·rw[if_pos (Or.inr (Or.inr (Or.inl rfl)))];rfl
 cases h4:oS s.1
 ·rw[if_pos (Or.inr (Or.inr (Or.inr (Or.inl rfl))))];rfl
 by_cases h5:s.2.1 < 2305843009213688669
 ·rw[bI h5,if_neg (by simp[h1,h5])]
  have hq:=BX s.1 p m
  rw[gu.run (d:=(s.1,p,m)) hm]
  simp only[bY,ai,ab,gu.add,gu.F]
  rw[eL.run (d:=(p,vl s.1 p m)) ⟨hp,hq.u⟩,ki.run (d:=t) ht]
  simp only[ab,eL.add,eL.F,ki.add,ki.F]
  have q:eK.aw [s.1,oO p (vl s.1 p m),HE t]:=⟨by
   intro x hx
   simp only[cH,List.not_mem_nil,or_false]at hx
   rcases hx with rfl | rfl | rfl
   ·exact hs.1
   ·exact(EO _ _).u
   ·exact(EO _ _).u,by simp only[aN,bJ];omega⟩
  rw[eK.run q,dX.run (d:=s.2.1) hs.2]
  rfl
 ·rw[bp h5,if_pos (Or.inr (Or.inr (Or.inr (Or.inr h5))))];rfl
def dL.E:=Entry.dp [some tu,some tH,some tu,some Ap] dL.st dL.aw dL.add dL.F dL.out
def dL.call:dL.D->Option dL.X:=cj dL.E dL.st
theorem dL.run:cl dL.call dL.aw dL.add dL.F:=dw (du [.d tu,.d tB,.d tu,.d Ap] λ_=>by kernel_rfl)
def dL.sg:SG Tryz.prog:=⟨153,aP,dL.E,.fn 0 (by kernel_rfl) dL.ok trivial⟩
abbrev ef.D:=Int×Bs×Sg
def ef.st:ef.D->SA:=λ(p,m,sv)=>([.d tu p,.d tH m,.d Ap sv],[])
abbrev ef.Y:=Bool
abbrev ef.X:=Bool
def ef.out:ef.X->aZ:=λx=>⟨.d .bool x,[],[]⟩
def ef.add:ef.D->ef.Y->ef.X:=λ(p,m,sv) y=>y
def ef.aw:ef.D->Prop:=λ(p,m,s)=>iw p/\Sm m/\SL s
def ef.F:ef.D->ef.Y:=λ(p,m,s)=>sE p m 1 s
def ef.G:fD:=gz (P:=Tryz.prog) [dL.sg]
def ef.an:fT:= {}
def ef.A:= @dq Tryz.prog ef.G ef.an 0 Tryz.f111 _ ef.st
abbrev ef.Ok:=dr @ef.A ef.aw ef.add ef.F ef.out
theorem ef.eq{R:Type}(p:Int)(m:Bs)(sv:Sg)(k:aZ->Option R):ef.A (p,m,sv) k=
 aj (dL.call (p,m,(1:Int),sv)) λx1=>
 k (ef.out x1):=by kernel_rfl
theorem ef.ok:ef.Ok:=by
 rintro⟨p,m,s⟩ ⟨hp,hm,hs⟩
 rw[ef.eq,dL.run (d:=(p,m,1,s)) ⟨hp,hm,⟨by omega,by omega⟩,hs⟩]
 rfl
def ef.E:=Entry.dp [some tu,some tH,some Ap] ef.st ef.aw ef.add ef.F ef.out
def ef.call:ef.D->Option ef.X:=cj ef.E ef.st
theorem ef.run:cl ef.call ef.aw ef.add ef.F:=dw (du [.d tu,.d tB,.d Ap] λ_=>by kernel_rfl)
def ef.sg:SG Tryz.prog:=⟨111,aP,ef.E,.fn 0 (by kernel_rfl) ef.ok trivial⟩
abbrev jU.D:=Int
def jU.st:jU.D->SA:=λkv=>([.d tu kv],[])
abbrev jU.Y:=Bool
abbrev jU.X:=Bool
def jU.out:jU.X->aZ:=λx=>⟨.d .bool x,[],[]⟩
def jU.add:jU.D->jU.Y->jU.X:=λkv y=>y
def jU.aw:jU.D->Prop:=λ_=>True
def jU.F:jU.D->jU.Y:=λk=>decide (k < 2305843009213688669/\k≠0)
def jU.G:fD:=gz (P:=Tryz.prog) [eO.sg]
def jU.an:fT:= {}
def jU.A:= @dq Tryz.prog jU.G jU.an 0 Tryz.f142 _ jU.st
abbrev jU.Ok:=dr @jU.A jU.aw jU.add jU.F jU.out
theorem jU.eq{R:Type}(kv:Int)(k:aZ->Option R):jU.A kv k=
  aj (eO.call kv) λx1=>
  aJ (x1) (
   k (jU.out (rN kv (0:Int)))) (
   k (jU.out false)):=by kernel_rfl
theorem jU.ok:jU.Ok:=by
 intro k _
 rw[jU.eq,eO.run (d:=k) trivial]
 simp only[ab,eO.add,eO.F,jU.add,jU.F]
 by_cases h:k < 2305843009213688669
 ·rw[bI h,ah]
  by_cases h0:k=0
  ·rw[gK h0,cR (λx=>x.2 h0)]
  ·rw[kN h0,aO ⟨h,h0⟩]
 ·rw[bp h,ai,cR (λx=>h x.1)]
def jU.E:=Entry.dp [some tu] jU.st jU.aw jU.add jU.F jU.out
def jU.call:jU.D->Option jU.X:=cj jU.E jU.st
theorem jU.run:cl jU.call jU.aw jU.add jU.F:=dw (du [.d tu] λ_=>by kernel_rfl)
def jU.sg:SG Tryz.prog:=⟨142,aP,jU.E,.fn 0 (by kernel_rfl) jU.ok trivial⟩
abbrev eG.D:=Int×Int×Bs×Int
def eG.st:eG.D->SA:=λ(kv,nonce,m,t)=>([.d tu kv,.d tu nonce,.d tH m,.d tu t],[])
abbrev eG.Y:=Sg
abbrev eG.X:=Sg
def eG.out:eG.X->aZ:=λx=>⟨.d Ap x,[],[]⟩
def eG.add:eG.D->eG.Y->eG.X:=λ(kv,nonce,m,t) y=>y
def eG.aw:eG.D->Prop:=λ(k,n,m,t)=>iw k/\iw n/\Sm m/\iw t
def eG.F:eG.D->eG.Y:=λ(k,n,m,t)=>Fg k n m t
def eG.G:fD:=gz (P:=Tryz.prog) [dX.sg,jv.sg,gu.sg,jC.sg,jR.sg]
def eG.an:fT:= {}
def eG.A:= @dq Tryz.prog eG.G eG.an 0 Tryz.f143 _ eG.st
abbrev eG.Ok:=dr @eG.A eG.aw eG.add eG.F eG.out
theorem eG.eq{R:Type}(kv:Int)(nonce:Int)(m:Bs)(t:Int)(k:aZ->Option R):eG.A (kv,nonce,m,t) k=
 aj (dX.call nonce) λx1=>
 aj (jv.call (x1,t)) λx2=>
 aj (dX.call kv) λx3=>
 aj (gu.call (x2,x3,m)) λx4=>
 aj (jC.call (x4,kv)) λx5=>
 aj (jR.call (nonce,x5)) λx6=>
 k (eG.out (x2,(x6,()))):=by kernel_rfl
theorem eG.ok:eG.Ok:=by
 rintro⟨k,n,m,t⟩ ⟨hk,hn,hm,ht⟩
 have hk:iw k:=hk
 have hn:iw n:=hn
 have hm:Sm m:=hm
 have ht:iw t:=ht
 rw[eG.eq,dX.run (d:=n) hn]
 simp only[ab,dX.add,dX.F]
 rw[jv.run (d:=(fw n,t)) ⟨(EO _ _).u,ht⟩,dX.run (d:=k) hk]
 simp only[ab,dX.add,dX.F,jv.add,jv.F]
 rw[gu.run (d:=(vg [fw n,t],fw k,m)) hm]
 simp only[ab,gu.add,gu.F]
 rw[jC.run (d:=(vl (vg [fw n,t]) (fw k) m,k)) ⟨(BX _ _ _).u,hk⟩]
 simp only[ab,jC.add,jC.F]
 rw[jR.run (d:=(n,yM (vl (vg [fw n,t]) (fw k) m) k)) ⟨hn,(yN _ _).u⟩]
 rfl
def eG.E:=Entry.dp [some tu,some tu,some tH,some tu] eG.st eG.aw eG.add eG.F eG.out
def eG.call:eG.D->Option eG.X:=cj eG.E eG.st
theorem eG.run:cl eG.call eG.aw eG.add eG.F:=dw (du [.d tu,.d tu,.d tB,.d tu] λ_=>by kernel_rfl)
def eG.sg:SG Tryz.prog:=⟨143,aP,eG.E,.fn 0 (by kernel_rfl) eG.ok trivial⟩
abbrev gh.D:=Int×Bs
def gh.st:gh.D->SA:=λ(kv,m)=>([.d tu kv,.d tH m],[])
abbrev gh.Y:=Sg
abbrev gh.X:=Sg
def gh.out:gh.X->aZ:=λx=>⟨.d Ap x,[],[]⟩
def gh.add:gh.D->gh.Y->gh.X:=λ(kv,m) y=>y
def gh.aw:gh.D->Prop:=λ(k,m)=>iw k/\Sm m
def gh.F:gh.D->gh.Y:=λ(k,m)=>jO k m
def gh.G:fD:=gz (P:=Tryz.prog) [jU.sg,eT.sg,dH.sg,cE.sg,eG.sg]
def gh.an:fT:= {}
def gh.A:= @dq Tryz.prog gh.G gh.an 0 Tryz.f102 _ gh.st
abbrev gh.Ok:=dr @gh.A gh.aw gh.add gh.F gh.out
theorem gh.eq{R:Type}(kv:Int)(m:Bs)(k:aZ->Option R):gh.A (kv,m) k=
  aj (jU.call kv) λx1=>
  aJ ((!x1)) (
   k (gh.out ((0:Int),((0:Int),())))) (
   aj (eT.call kv) λx2=>
   aj (dH.call ((⟨#[110,111,110,99,101]⟩:ByteArray),[x2,(cut m 0 32)])) λx3=>
   aj (cE.call x3) λx4=>
   aj (eG.call (kv,x4,m,(1:Int))) λx5=>
   k (gh.out x5)):=by kernel_rfl
theorem gh.ok:gh.Ok:=by
 rintro⟨k,m⟩ ⟨hk,hm⟩
 have hk:iw k:=hk
 have hm:Sm m:=hm
 rw[gh.eq,jU.run (d:=k) trivial]
 simp only[ab,jU.add,jU.F,gh.add,gh.F,jO]
 by_cases h:k < 2305843009213688669/\k≠0
 ·rw[aO h,if_pos h,eT.run (d:=k) trivial,iV hm.1]
  simp only[bY,ai,ab,eT.add,eT.F]
  rw[dH.run (Dj (by decide) (by rw[dO];omega) (by rw[hm.1];omega))]
  simp only[ab,dH.add,dH.F]
  rw[cE.run (d:=tag (cr (⟨#[110,111,110,99,101]⟩:ByteArray)) [mu k,m]) (Df _ _)]
  simp only[ab,cE.add,cE.F]
  have q:=lZ (tag (cr (⟨#[110,111,110,99,101]⟩:ByteArray)) [mu k,m])
  rw[eG.run (d:=(k,kS (tag (cr (⟨#[110,111,110,99,101]⟩:ByteArray)) [mu k,m]),m,1)) ⟨hk,⟨by omega,by omega⟩,hm,by omega,by omega⟩]
  rfl
 ·rw[cR h,if_neg h];rfl
def gh.E:=Entry.dp [some tu,some tH] gh.st gh.aw gh.add gh.F gh.out
def gh.call:gh.D->Option gh.X:=cj gh.E gh.st
theorem gh.run:cl gh.call gh.aw gh.add gh.F:=dw (du [.d tu,.d tB] λ_=>by kernel_rfl)
def gh.sg:SG Tryz.prog:=⟨102,aP,gh.E,.fn 0 (by kernel_rfl) gh.ok trivial⟩
def BM(l:List Int):Prop:=∀x∈l,iw x
def SH(b:qy):Prop:=BM b.1/\iw b.2.2.2.1
def Mm(l:Lk):Prop:=∀b∈l.1,SH b
def zN(n:Int):Bool:=decide (0<=n/\n<=1048576)
def rK(b:qy):Bool:=decide (b.1.length<=12) && (b.1.all oS && (zN b.2.1 && (zN b.2.2.1 && (decide (b.2.2.2.1=0) || oS b.2.2.2.1))))
def kW(l:Lk):Bool:=l.1.all rK && decide (0 < l.1.length/\l.1.length<=4)
def si:List Int->Int->Int⊕Unit
 |[],_=> .inr ()
 |p::ps,i=>if oS p then si ps (i+1) else .inl i
def JV(l:List Int):Int:=match si l 0 with | .inl i=>i | .inr _=> -1
theorem Ay:∀(l:List Int) (i:Int),0<=i->(match si l i with | .inl i=>decide (i>=0) | .inr _=>false)= !(l.all oS)
 |[],_,_=>rfl
 |p::ps,i,h=>by
  rw[si,kG]
  cases hp:oS p
  ·simp[h]
  ·simp only[if_true,cv]
   exact Ay ps (i+1) (by omega)
theorem K4(l:List Int):qz (JV l) 0= !(l.all oS):=by
 have:=Ay l 0 (by omega)
 unfold JV qz
 cases h:si l 0
 ·rw[h]at this;exact this
 ·rw[h]at this;rw[<-this];rfl
abbrev jD.D:=Int
def jD.st:jD.D->SA:=λp=>([.d tu p],[])
abbrev jD.Y:=Bool
abbrev jD.X:=Bool
def jD.out:jD.X->aZ:=λx=>⟨.d .bool x,[],[]⟩
def jD.add:jD.D->jD.Y->jD.X:=λp y=>y
def jD.aw:jD.D->Prop:=λp=>iw p
def jD.F:jD.D->jD.Y:=λp=> !oS p
def jD.G:fD:=gz (P:=Tryz.prog) [dy.sg]
def jD.an:fT:= {}
def jD.A:= @dq Tryz.prog jD.G jD.an 0 Tryz.f33 _ jD.st
abbrev jD.Ok:=dr @jD.A jD.aw jD.add jD.F jD.out
theorem jD.eq{R:Type}(p:Int)(k:aZ->Option R):jD.A p k=
 aj (dy.call p) λx1=>
 k (jD.out (!x1)):=by kernel_rfl
theorem jD.ok:jD.Ok:=by
 intro p hp
 rw[jD.eq,dy.run (d:=p) hp]
 rfl
def jD.E:=Entry.dp [some tu] jD.st jD.aw jD.add jD.F jD.out
def jD.call:jD.D->Option jD.X:=cj jD.E jD.st
theorem jD.run:cl jD.call jD.aw jD.add jD.F:=dw (du [.d tu] λ_=>by kernel_rfl)
def jD.sg:SG Tryz.prog:=⟨33,aP,jD.E,.fn 0 (by kernel_rfl) jD.ok trivial⟩
abbrev bQ.L0.D:=Bs×Int×Int
def bQ.L0.st:bQ.L0.D->AS:=λ(ee,t7,t8)=>⟨([.d tU ee,.fn 33 (.nil)]++bG 5 ([.d ti t7,.d ti t8]++bG 10 [])),[],(List.replicate 19 [])⟩
abbrev bQ.L0.Y0:=Int
abbrev bQ.L0.X0:=Int
def bQ.L0.bV:bQ.L0.X0->Exit×AS:=λx=>(.ret,⟨(bG 4 ([.d ti x]++bG 14 [])),[],(List.replicate 19 [])⟩)
abbrev bQ.L0.Y1:=Unit
abbrev bQ.L0.X1:=Unit
def bQ.L0.kI:bQ.L0.X1->Exit×AS:=λx=>(.exit 0,⟨(bG 19 []),[],(List.replicate 19 [])⟩)
abbrev bQ.L0.X:=(bQ.L0.X0)⊕(bQ.L0.X1)
abbrev bQ.L0.Y:=(bQ.L0.Y0)⊕(bQ.L0.Y1)
def bQ.L0.out:bQ.L0.X->Out (Exit×AS):=λx=> .br x.isLeft (.get x.getLeft? λa=> .ok (bQ.L0.bV a)) (.get x.getRight? λb=> .ok (bQ.L0.kI b))
def bQ.L0.add:bQ.L0.D->bQ.L0.Y->bQ.L0.X:=λ(ee,t7,t8) y=>match y with | .inl y=> .inl y | .inr z=> .inr (z)
abbrev bQ.D:=Bs
def bQ.st:bQ.D->SA:=λsv=>([.d tU sv,.fn 33 (.nil)],[])
abbrev bQ.Y:=Int
abbrev bQ.X:=Int
def bQ.out:bQ.X->aZ:=λx=>⟨.d ti x,[],[]⟩
def bQ.add:bQ.D->bQ.Y->bQ.X:=λsv y=>y
def bQ.L0.aw:bQ.L0.D->Prop:=λ(l,n,i)=>BM l/\l.length<=1000000000/\n=l.length/\∃k:Nat,k<=l.length/\i=k
def bQ.L0.F:bQ.L0.D->bQ.L0.Y:=λ(l,n,i)=>si (l.drop i.toNat) i
def bQ.aw:bQ.D->Prop:=λl=>BM l/\l.length<=1000000000
def bQ.F:bQ.D->bQ.Y:=λl=>JV l
def bQ.G:fD:=gz (P:=Tryz.prog) [jD.sg]
def bQ.L0.E:=cV.dp bQ.L0.st bQ.L0.aw bQ.L0.add bQ.L0.F bQ.L0.out
def bQ.L0.call:bQ.L0.D->Option bQ.L0.X:=eI bQ.L0.E bQ.L0.st
def bQ.an:fT:= {loops:=oF [(2,{bS:=[0,1,7,8]})],outs:=oE [(2,{},{bS:=[4]})],jw:=pL [(2,bQ.L0.E)]}
def bQ.A:= @dq Tryz.prog bQ.G bQ.an 0 Tryz.f77 _ bQ.st
abbrev bQ.Ok:=dr @bQ.A bQ.aw bQ.add bQ.F bQ.out
def bQ.L0.R:= @dn Tryz.prog bQ.G bQ.an 0 Tryz.f77 0 _ bQ.L0.st
abbrev bQ.L0.Ok:=gw Tryz.prog bQ.G bQ.an 0 Tryz.f77 0 bQ.L0.st bQ.L0.aw bQ.L0.add bQ.L0.F bQ.L0.out
theorem bQ.L0.run:cl bQ.L0.call bQ.L0.aw bQ.L0.add bQ.L0.F:=gT (gS [.d tU,.d ti,.d ti] λ_=>by kernel_rfl)
theorem bQ.L0.aI:sB @bQ.L0.R bQ.L0.st bQ.L0.aw bQ.L0.add bQ.L0.F bQ.L0.out bQ.L0.Ok:=s8
theorem bQ.L0.step{R:Type}(ee:Bs)(t7:Int)(t8:Int)(kn:AS->Option R)(kx:Exit->AS->Option R):bQ.L0.R (ee,t7,t8) kn kx=
  aJ ((jK t8 t7)) (
   aJ (fp t8 (((List.length ee):Nat):Int)) (
   aj (jD.call (nth tu ee (Int.toNat t8))) λx1=>
   aJ (x1) (
    kx (bQ.L0.bV t8).1 (bQ.L0.bV t8).2) (
    kn (bQ.L0.st (ee,t7,(bO .i64 t8 (1:Int)))))) none) (
   kx (bQ.L0.kI ()).1 (bQ.L0.kI ()).2):=by kernel_rfl
theorem bQ.eq{R:Type}(sv:Bs)(k:aZ->Option R):bQ.A sv k=
  aj (bQ.L0.call (sv,(((List.length sv):Nat):Int),(0:Int))) λx2=>
  aJ (x2.isLeft) (
   aj (x2.getLeft?) λa3=>
   k (bQ.out a3)) (
   aj (x2.getRight?) λb4=>
   k (bQ.out (-1:Int))):=by kernel_rfl
theorem bQ.L0.ok:bQ.L0.Ok:=by
 refine bQ.L0.aI (λ(l,n,i)=>l.length - i.toNat) ?_
 rintro⟨l,n,i⟩ ⟨hl,hb,rfl,k,hk,rfl⟩
 have hb:l.length<=1000000000:=hb
 have hk:k<=l.length:=hk
 by_cases h:k < l.length
 ·have hx:=hl _ (List.getElem_mem h)
  have n1:nth (.int .u64) l k=l[k]:=dP (t:= .int .u64) h
  have hd:si (l.drop k) k=if oS l[k] then si (l.drop (k+1)) ((k+1:Nat):Int) else .inl (k:Int):=by rw[aA h];rfl
  cases hp:oS l[k]
  ·right
   refine⟨bQ.L0.bV (k:Int),?_,λkn kx=> ?_⟩
   ·simp only[bQ.L0.add,bQ.L0.F,aa,hd,hp,cF,if_false]
    rfl
   ·rw[bQ.L0.step]
    simp(disch:=omega) only[↓S1,↓if_pos,↓if_neg,if_pos,if_neg,if_true,if_false,S2,n1]
    rw[jD.run (d:=l[k]) hx]
    simp only[ab,jD.add,jD.F,hp,gk,ah]
  ·left
   refine⟨(l,l.length,((k+1:Nat):Int)),⟨hl,hb,rfl,k+1,by omega,rfl⟩,by simp only[aa];omega,?_,λkn kx=> ?_⟩
   ·simp only[bQ.L0.add,bQ.L0.F,aa,hd,hp,if_true]
   ·rw[bQ.L0.step]
    simp(disch:=omega) only[↓S1,↓if_pos,↓if_neg,if_pos,if_neg,if_true,if_false,S2,n1]
    rw[jD.run (d:=l[k]) hx]
    simp only[ab,jD.add,jD.F,hp,bY,ai]
 ·right
  obtain rfl:k=l.length:=by omega
  refine⟨bQ.L0.kI (),?_,λkn kx=> ?_⟩
  ·simp only[bQ.L0.add,bQ.L0.F,aa,bH]
   rfl
  ·rw[bQ.L0.step]
   simp(disch:=omega) only[↓S1,↓if_pos,↓if_neg,if_pos,if_neg,if_true,if_false,S2]
theorem bQ.ok:bQ.Ok:=by
 rintro l ⟨hl,hb⟩
 rw[bQ.eq,bQ.L0.run (d:=(l,l.length,0)) ⟨hl,hb,rfl,0,by omega,rfl⟩]
 simp only[ab,bQ.L0.add,bQ.L0.F,bK,aW,bQ.add,bQ.F,JV]
 cases si l 0 <;> rfl
def bQ.E:=Entry.dp [some tU,none] bQ.st bQ.aw bQ.add bQ.F bQ.out
def bQ.call:bQ.D->Option bQ.X:=cj bQ.E bQ.st
theorem bQ.run:cl bQ.call bQ.aw bQ.add bQ.F:=dw (du [.d tU] λ_=>by kernel_rfl)
def bQ.sg:SG Tryz.prog:=⟨77,aP,bQ.E,.fn 1 (by kernel_rfl) bQ.ok (And.intro (.dp bQ.L0.ok (by kernel_rfl)) trivial)⟩
abbrev dd.D:=Bs
def dd.st:dd.D->SA:=λsv=>([.d tU sv,.fn 33 (.nil)],[])
abbrev dd.Y:=Bool
abbrev dd.X:=Bool
def dd.out:dd.X->aZ:=λx=>⟨.d .bool x,[],[]⟩
def dd.add:dd.D->dd.Y->dd.X:=λsv y=>y
def dd.aw:dd.D->Prop:=λl=>BM l/\l.length<=1000000000
def dd.F:dd.D->dd.Y:=λl=> !(l.all oS)
def dd.G:fD:=gz (P:=Tryz.prog) [bQ.sg]
def dd.an:fT:= {}
def dd.A:= @dq Tryz.prog dd.G dd.an 0 Tryz.f35 _ dd.st
abbrev dd.Ok:=dr @dd.A dd.aw dd.add dd.F dd.out
theorem dd.eq{R:Type}(sv:Bs)(k:aZ->Option R):dd.A sv k=
 aj (bQ.call sv) λx1=>
 k (dd.out (qz x1 (0:Int))):=by kernel_rfl
theorem dd.ok:dd.Ok:=by
 rintro l ⟨hl,hb⟩
 rw[dd.eq,bQ.run (d:=l) ⟨hl,hb⟩]
 simp only[ab,bQ.add,bQ.F,K4]
 rfl
def dd.E:=Entry.dp [some tU,none] dd.st dd.aw dd.add dd.F dd.out
def dd.call:dd.D->Option dd.X:=cj dd.E dd.st
theorem dd.run:cl dd.call dd.aw dd.add dd.F:=dw (du [.d tU] λ_=>by kernel_rfl)
def dd.sg:SG Tryz.prog:=⟨35,aP,dd.E,.fn 0 (by kernel_rfl) dd.ok trivial⟩
abbrev dK.D:=Int
def dK.st:dK.D->SA:=λn=>([.d ti n],[])
abbrev dK.Y:=Bool
abbrev dK.X:=Bool
def dK.out:dK.X->aZ:=λx=>⟨.d .bool x,[],[]⟩
def dK.add:dK.D->dK.Y->dK.X:=λn y=>y
def dK.aw:dK.D->Prop:=λ_=>True
def dK.F:dK.D->dK.Y:=λn=>zN n
def dK.G:fD:=gz (P:=Tryz.prog) []
def dK.an:fT:= {}
def dK.A:= @dq Tryz.prog dK.G dK.an 0 Tryz.f36 _ dK.st
abbrev dK.Ok:=dr @dK.A dK.aw dK.add dK.F dK.out
theorem dK.eq{R:Type}(n:Int)(k:aZ->Option R):dK.A n k=
  aJ ((qz n (0:Int))) (
   k (dK.out (FH n (1048576:Int)))) (
   k (dK.out false)):=by kernel_rfl
theorem dK.ok:dK.Ok:=by
 intro n _
 rw[dK.eq]
 simp only[dK.add,dK.F,zN]
 by_cases h:0<=n
 ·rw[lG h,ah]
  by_cases h2:n<=1048576
  ·rw[uo h2,aO ⟨h,h2⟩]
  ·rw[qJ h2,cR (λx=>h2 x.2)]
 ·rw[iU h,ai,cR (λx=>h x.1)]
def dK.E:=Entry.dp [some ti] dK.st dK.aw dK.add dK.F dK.out
def dK.call:dK.D->Option dK.X:=cj dK.E dK.st
theorem dK.run:cl dK.call dK.aw dK.add dK.F:=dw (du [.d ti] λ_=>by kernel_rfl)
def dK.sg:SG Tryz.prog:=⟨36,aP,dK.E,.fn 0 (by kernel_rfl) dK.ok trivial⟩
abbrev bk.L0.D:=Lk×(List qy)×Int×Int
def bk.L0.st:bk.L0.D->AS:=λ(lR,t7,t8,t9)=>⟨([.undef,.gE s7 lR,.undef,.fn 33 (.nil),.undef,.undef,.undef,.d (.slice pT) t7,.d ti t8,.d ti t9]++bG 47 []),[],(List.replicate 57 [])⟩
abbrev bk.L0.Y0:=Unit
abbrev bk.L0.X0:=Unit
def bk.L0.bV:bk.L0.X0->Exit×AS:=λx=>(.ret,⟨([.undef,.undef,.d .bool false]++bG 54 []),[],(List.replicate 57 [])⟩)
abbrev bk.L0.Y1:=Unit
abbrev bk.L0.X1:=Lk
def bk.L0.kI:bk.L0.X1->Exit×AS:=λx=>(.exit 0,⟨([.undef,.gE s7 x]++bG 55 []),[],(List.replicate 57 [])⟩)
abbrev bk.L0.X:=(bk.L0.X0)⊕(bk.L0.X1)
abbrev bk.L0.Y:=(bk.L0.Y0)⊕(bk.L0.Y1)
def bk.L0.out:bk.L0.X->Out (Exit×AS):=λx=> .br x.isLeft (.get x.getLeft? λa=> .ok (bk.L0.bV a)) (.get x.getRight? λb=> .ok (bk.L0.kI b))
def bk.L0.add:bk.L0.D->bk.L0.Y->bk.L0.X:=λ(lR,t7,t8,t9) y=>match y with | .inl y=> .inl y | .inr z=> .inr (lR)
abbrev bk.D:=Lk
def bk.st:bk.D->SA:=λl=>([.d s7 l],[])
abbrev bk.Y:=Bool
abbrev bk.X:=Bool
def bk.out:bk.X->aZ:=λx=>⟨.d .bool x,[],[]⟩
def bk.add:bk.D->bk.Y->bk.X:=λl y=>y
def bk.L0.aw:bk.L0.D->Prop:=λ(l,bs,n,i)=>(∀b∈bs,SH b)/\bs.length<=9223372036854775807/\n=bs.length/\∃k:Nat,k<=bs.length/\i=k
def bk.L0.F:bk.L0.D->bk.L0.Y:=λ(l,bs,n,i)=>if(bs.drop i.toNat).all rK then .inr () else .inl ()
def bk.aw:bk.D->Prop:=λl=>Mm l/\l.1.length<=9223372036854775807
def bk.F:bk.D->bk.Y:=λl=>kW l
def bk.G:fD:=gz (P:=Tryz.prog) [dd.sg,dK.sg,jD.sg]
def bk.L0.E:=cV.dp bk.L0.st bk.L0.aw bk.L0.add bk.L0.F bk.L0.out
def bk.L0.call:bk.L0.D->Option bk.L0.X:=eI bk.L0.E bk.L0.st
def bk.an:fT:= {loops:=oF [(3,{bS:=[1,3,7,8,9]})],outs:=oE [(3,{bS:=[1]},{bS:=[2]})],jw:=pL [(3,bk.L0.E)]}
def bk.A:= @dq Tryz.prog bk.G bk.an 0 Tryz.f11 _ bk.st
abbrev bk.Ok:=dr @bk.A bk.aw bk.add bk.F bk.out
def bk.L0.R:= @dn Tryz.prog bk.G bk.an 0 Tryz.f11 0 _ bk.L0.st
abbrev bk.L0.Ok:=gw Tryz.prog bk.G bk.an 0 Tryz.f11 0 bk.L0.st bk.L0.aw bk.L0.add bk.L0.F bk.L0.out
theorem bk.L0.run:cl bk.L0.call bk.L0.aw bk.L0.add bk.L0.F:=gT (gS [.d s7,.d (.slice pT),.d ti,.d ti] λ_=>by kernel_rfl)
theorem bk.L0.aI:sB @bk.L0.R bk.L0.st bk.L0.aw bk.L0.add bk.L0.F bk.L0.out bk.L0.Ok:=s8
theorem bk.L0.step{R:Type}(lR:Lk)(t7:(List qy))(t8:Int)(t9:Int)(kn:AS->Option R)(kx:Exit->AS->Option R):bk.L0.R (lR,t7,t8,t9) kn kx=
  aJ ((jK t9 t8)) (
   aJ (fp t9 (((List.length t7):Nat):Int)) (
   aJ ((so (((List.length (nth pT t7 (Int.toNat t9)).1):Nat):Int) (12:Int))) (
    kx (bk.L0.bV ()).1 (bk.L0.bV ()).2) (
    aj (dd.call (nth pT t7 (Int.toNat t9)).1) λx1=>
    aJ (x1) (
     kx (bk.L0.bV ()).1 (bk.L0.bV ()).2) (
     aj (dK.call (nth pT t7 (Int.toNat t9)).2.1) λx2=>
     aJ ((!x2)) (
      kx (bk.L0.bV ()).1 (bk.L0.bV ()).2) (
      aj (dK.call (nth pT t7 (Int.toNat t9)).2.2.1) λx3=>
      aJ ((!x3)) (
       kx (bk.L0.bV ()).1 (bk.L0.bV ()).2) (
       aJ ((rN (nth pT t7 (Int.toNat t9)).2.2.2.1 (0:Int))) (
        aj (jD.call (nth pT t7 (Int.toNat t9)).2.2.2.1) λx4=>
        aJ (x4) (
         kx (bk.L0.bV ()).1 (bk.L0.bV ()).2) (
         kn (bk.L0.st (lR,t7,t8,(bO .i64 t9 (1:Int)))))) (
        kn (bk.L0.st (lR,t7,t8,(bO .i64 t9 (1:Int)))))))))) none) (
   kx (bk.L0.kI lR).1 (bk.L0.kI lR).2):=by kernel_rfl
theorem bk.eq{R:Type}(l:Lk)(k:aZ->Option R):bk.A l k=
  aj (bk.L0.call (l,l.1,(((List.length l.1):Nat):Int),(0:Int))) λx5=>
  aJ (x5.isLeft) (
   aj (x5.getLeft?) λa6=>
   k (bk.out false)) (
   aj (x5.getRight?) λb7=>
   aJ ((so (((List.length b7.1):Nat):Int) (0:Int))) (
    k (bk.out (FH (((List.length b7.1):Nat):Int) (4:Int)))) (
    k (bk.out false))):=by kernel_rfl
theorem bk.L0.ok:bk.L0.Ok:=by
 refine bk.L0.aI (λ(l,bs,n,i)=>bs.length - i.toNat) ?_
 rintro⟨l,bs,n,i⟩ ⟨hl,hb,rfl,k,hk,rfl⟩
 have hb:bs.length<=9223372036854775807:=hb
 have hk:k<=bs.length:=hk
 by_cases h:k < bs.length
 ·have hx:SH bs[k]:=hl _ (List.getElem_mem h)
  have n1:nth (.pair (.slice (.int .u64)) (.pair (.int .i64) (.pair (.int .i64) (.pair (.int .u64) .unit)))) bs k=bs[k]:=dP (t:=(.pair (.slice (.int .u64)) (.pair (.int .i64) (.pair (.int .i64) (.pair (.int .u64) .unit))))) h
  have hd:(bs.drop k).all rK=(rK bs[k] && (bs.drop (k+1)).all rK):=by rw[aA h,kG]
  have step:∀ {R:Type} (kn:AS->Option R) (kx:Exit->AS->Option R),bk.L0.R (l,bs,(bs.length:Int),(k:Int)) kn kx=aJ (rK bs[k]) (kn (bk.L0.st (l,bs,(bs.length:Int),((k+1:Nat):Int)))) (kx (bk.L0.bV ()).1 (bk.L0.bV ()).2):=by
   intro R kn kx
   rw[bk.L0.step,bI (by omega),bF (by omega) (by omega),aa,n1,N.pJ (by omega)]
   obtain⟨⟨ks,af,dl,sc,u⟩,Pj⟩:∃b,bs[k]=b:=⟨_,rfl⟩
   rw[Pj]at hx ⊢
   have h1:BM ks:=hx.1
   have h2:iw sc:=hx.2
   simp only[ah,rK]
   by_cases hk:ks.length<=12
   ·rw[dW (by omega),dd.run (d:=ks) ⟨h1,by omega⟩,dK.run (d:=af) trivial,dK.run (d:=dl) trivial,jD.run (d:=sc) h2,aO hk]
    simp only[ai,ab,dd.add,dd.F,dK.add,dK.F,jD.add,jD.F,cv]
    cases ks.all oS
    ·rfl
    cases zN af
    ·rfl
    cases zN dl
    ·rfl
    by_cases hs:sc=0
    ·rw[gK hs,aO hs];rfl
    ·rw[kN hs,cR hs]
     cases oS sc <;> rfl
   ·rw[fA (by omega),cR hk];rfl
  cases hp:rK bs[k]
  ·right
   refine⟨bk.L0.bV (),?_,λkn kx=> ?_⟩
   ·simp only[bk.L0.add,bk.L0.F,aa,hd,hp,fK,cF,if_false]
    rfl
   ·rw[step,hp,ai]
  ·left
   refine⟨(l,bs,bs.length,((k+1:Nat):Int)),⟨hl,hb,rfl,k+1,by omega,rfl⟩,by simp only[aa];omega,?_,λkn kx=> ?_⟩
   ·simp only[bk.L0.add,bk.L0.F,aa,hd,hp,cv]
   ·rw[step,hp,ah]
 ·right
  obtain rfl:k=bs.length:=by omega
  refine⟨bk.L0.kI l,?_,λkn kx=> ?_⟩
  ·simp only[bk.L0.add,bk.L0.F,aa,bH]
   rfl
  ·rw[bk.L0.step]
   simp(disch:=omega) only[↓S1,↓if_pos,↓if_neg,if_pos,if_neg,if_true,if_false,S2]
theorem bk.ok:bk.Ok:=by
 rintro l ⟨hl,hb⟩
 have hb:l.1.length<=9223372036854775807:=hb
 rw[bk.eq,bk.L0.run (d:=(l,l.1,l.1.length,0)) ⟨hl,hb,rfl,0,by omega,rfl⟩]
 simp only[ab,bk.L0.add,bk.L0.F,bK,aW,bk.add,bk.F,kW]
 cases l.1.all rK
 ·rfl
 ·simp only[if_true,cv]
  show aJ (so _ _) _ _=_
  by_cases h0:0 < l.1.length
  ·rw[fA (by omega)]
   by_cases h4:l.1.length<=4
   ·rw[uo (by omega),aO ⟨h0,h4⟩];rfl
   ·rw[qJ (by omega),cR (λx=>h4 x.2)];rfl
  ·rw[dW (by omega),cR (λx=>h0 x.1)];rfl
def bk.E:=Entry.dp [some s7] bk.st bk.aw bk.add bk.F bk.out
def bk.call:bk.D->Option bk.X:=cj bk.E bk.st
theorem bk.run:cl bk.call bk.aw bk.add bk.F:=dw (du [.d s7] λ_=>by kernel_rfl)
def bk.sg:SG Tryz.prog:=⟨11,aP,bk.E,.fn 1 (by kernel_rfl) bk.ok (And.intro (.dp bk.L0.ok (by kernel_rfl)) trivial)⟩
def rS(m:List Int):List Int->List Sg->Bool
 |[],_=>true
 |p::ps,ss=>sE p m 1 (ss.headD (0,0,())) && rS m ps ss.tail
def tt(l:Lk)(w:DB)(m:List Int)(height age:Int):Int:=
 if kW l=false\/w.1 < 0\/w.1>=l.1.length then 1
 else
  let b:=nth (.pair (.slice (.int .u64)) (.pair (.int .i64) (.pair (.int .i64) (.pair (.int .u64) .unit)))) l.1 w.1.toNat
  if height < b.2.1\/age < b.2.2.1 then 11
  else if b.2.2.2.1≠0/\fw w.2.2.1≠b.2.2.2.1 then 23
  else if w.2.1.length≠b.1.length then 7
  else if rS m b.1 w.2.1 then 0 else 7
theorem Mi(m:List Int)(ks:List Int)(ss:List Sg)(h:ss.length=ks.length)(k:Nat)(hk:k < ks.length):rS m (ks.drop k) (ss.drop k)=(sE ks[k] m 1 (ss[k]'(by omega)) && rS m (ks.drop (k+1)) (ss.drop (k+1))):=by
 rw[aA hk,aA (by omega:k < ss.length)]
 rfl
def KW(w:DB):Prop:=(∀s∈w.2.1,SL s)/\iw w.2.2.1
abbrev cq.L0.D:=DB×Bs×Bs×Int×Int
def cq.L0.st:cq.L0.D->AS:=λ(JL,S7,t68,t69,t70)=>⟨(bG 6 ([.gE OR JL,.gE tH S7]++bG 60 ([.d tU t68,.d ti t69,.d ti t70]++bG 14 []))),[],(List.replicate 85 [])⟩
abbrev cq.L0.Y0:=Unit
abbrev cq.L0.X0:=Unit
def cq.L0.bV:cq.L0.X0->Exit×AS:=λx=>(.ret,⟨(bG 10 ([.d ti (7:Int)]++bG 74 [])),[],(List.replicate 85 [])⟩)
abbrev cq.L0.Y1:=Unit
abbrev cq.L0.X1:=Unit
def cq.L0.kI:cq.L0.X1->Exit×AS:=λx=>(.exit 1,⟨(bG 85 []),[],(List.replicate 85 [])⟩)
abbrev cq.L0.X:=(cq.L0.X0)⊕(cq.L0.X1)
abbrev cq.L0.Y:=(cq.L0.Y0)⊕(cq.L0.Y1)
def cq.L0.out:cq.L0.X->Out (Exit×AS):=λx=> .br x.isLeft (.get x.getLeft? λa=> .ok (cq.L0.bV a)) (.get x.getRight? λb=> .ok (cq.L0.kI b))
def cq.L0.add:cq.L0.D->cq.L0.Y->cq.L0.X:=λ(JL,S7,t68,t69,t70) y=>match y with | .inl y=> .inl y | .inr z=> .inr (z)
abbrev cq.D:=Lk×DB×Bs×Int×Int
def cq.st:cq.D->SA:=λ(l,wv,m,height,age)=>([.d s7 l,.d OR wv,.d tH m,.d ti height,.d ti age],[])
abbrev cq.Y:=Int
abbrev cq.X:=Int
def cq.out:cq.X->aZ:=λx=>⟨.d ti x,[],[]⟩
def cq.add:cq.D->cq.Y->cq.X:=λ(l,wv,m,height,age) y=>y
def cq.L0.aw:cq.L0.D->Prop:=λ(w,m,ks,n,i)=>KW w/\Sm m/\BM ks/\ks.length<=1000000000/\w.2.1.length=ks.length/\n=ks.length/\∃k:Nat,k<=ks.length/\i=k
def cq.L0.F:cq.L0.D->cq.L0.Y:=λ(w,m,ks,n,i)=>if rS m (ks.drop i.toNat) (w.2.1.drop i.toNat) then .inr () else .inl ()
def cq.aw:cq.D->Prop:=λ(l,w,m,h,a)=>Mm l/\l.1.length<=9223372036854775807/\KW w/\Sm m
def cq.F:cq.D->cq.Y:=λ(l,w,m,h,a)=>tt l w m h a
def cq.G:fD:=gz (P:=Tryz.prog) [bk.sg,dX.sg,ef.sg]
def cq.L0.E:=cV.dp cq.L0.st cq.L0.aw cq.L0.add cq.L0.F cq.L0.out
def cq.L0.call:cq.L0.D->Option cq.L0.X:=eI cq.L0.E cq.L0.st
def cq.an:fT:= {loops:=oF [(11,{bS:=[6,7,68,69,70]})],outs:=oE [(11,{},{bS:=[10]})],jw:=pL [(11,cq.L0.E)]}
def cq.A:= @dq Tryz.prog cq.G cq.an 0 Tryz.f53 _ cq.st
abbrev cq.Ok:=dr @cq.A cq.aw cq.add cq.F cq.out
def cq.L0.R:= @dn Tryz.prog cq.G cq.an 0 Tryz.f53 0 _ cq.L0.st
abbrev cq.L0.Ok:=gw Tryz.prog cq.G cq.an 0 Tryz.f53 0 cq.L0.st cq.L0.aw cq.L0.add cq.L0.F cq.L0.out
theorem cq.L0.run:cl cq.L0.call cq.L0.aw cq.L0.add cq.L0.F:=gT (gS [.d OR,.d tH,.d tU,.d ti,.d ti] λ_=>by kernel_rfl)
theorem cq.L0.aI:sB @cq.L0.R cq.L0.st cq.L0.aw cq.L0.add cq.L0.F cq.L0.out cq.L0.Ok:=s8
theorem cq.L0.step{R:Type}(JL:DB)(S7:Bs)(t68:Bs)(t69:Int)(t70:Int)(kn:AS->Option R)(kx:Exit->AS->Option R):cq.L0.R (JL,S7,t68,t69,t70) kn kx=
  aJ ((jK t70 t69)) (
   aJ (fp t70 (((List.length t68):Nat):Int)) (
   aJ (fp t70 (((List.length JL.2.1):Nat):Int)) (
   aj (ef.call ((nth tu t68 (Int.toNat t70)),S7,(nth Ap JL.2.1 (Int.toNat t70)))) λx1=>
   aJ ((!x1)) (
    kx (cq.L0.bV ()).1 (cq.L0.bV ()).2) (
    kn (cq.L0.st (JL,S7,t68,t69,(bO .i64 t70 (1:Int)))))) none) none) (
   kx (cq.L0.kI ()).1 (cq.L0.kI ()).2):=by kernel_rfl
theorem cq.eq{R:Type}(l:Lk)(wv:DB)(m:Bs)(height:Int)(age:Int)(k:aZ->Option R):cq.A (l,wv,m,height,age) k=
  aj (bk.call l) λx1=>
  aJ ((!x1)) (
   k (cq.out (1:Int))) (
   aJ ((jK wv.1 (0:Int))) (
    k (cq.out (1:Int))) (
    aJ ((qz wv.1 (((List.length l.1):Nat):Int))) (
     k (cq.out (1:Int))) (
     aJ (fp wv.1 (((List.length l.1):Nat):Int)) (
     aJ ((jK height (nth pT l.1 (Int.toNat wv.1)).2.1)) (
      k (cq.out (11:Int))) (
      aJ ((jK age (nth pT l.1 (Int.toNat wv.1)).2.2.1)) (
       k (cq.out (11:Int))) (
       aJ ((rN (nth pT l.1 (Int.toNat wv.1)).2.2.2.1 (0:Int))) (
        aj (dX.call wv.2.2.1) λx2=>
        aJ ((rN x2 (nth pT l.1 (Int.toNat wv.1)).2.2.2.1)) (
         k (cq.out (23:Int))) (
         aJ ((rN (((List.length wv.2.1):Nat):Int) (((List.length (nth pT l.1 (Int.toNat wv.1)).1):Nat):Int))) (
          k (cq.out (7:Int))) (
          aj (cq.L0.call (wv,m,(nth pT l.1 (Int.toNat wv.1)).1,(((List.length (nth pT l.1 (Int.toNat wv.1)).1):Nat):Int),(0:Int))) λx4=>
          aJ (x4.isLeft) (
           aj (x4.getLeft?) λa5=>
           k (cq.out (7:Int))) (
           aj (x4.getRight?) λb6=>
           k (cq.out (0:Int)))))) (
        aJ ((rN (((List.length wv.2.1):Nat):Int) (((List.length (nth pT l.1 (Int.toNat wv.1)).1):Nat):Int))) (
         k (cq.out (7:Int))) (
         aj (cq.L0.call (wv,m,(nth pT l.1 (Int.toNat wv.1)).1,(((List.length (nth pT l.1 (Int.toNat wv.1)).1):Nat):Int),(0:Int))) λx7=>
         aJ (x7.isLeft) (
          aj (x7.getLeft?) λa8=>
          k (cq.out (7:Int))) (
          aj (x7.getRight?) λb9=>
          k (cq.out (0:Int)))))))) none))):=by kernel_rfl
theorem cq.L0.ok:cq.L0.Ok:=by
 refine cq.L0.aI (λ(w,m,ks,n,i)=>ks.length - i.toNat) ?_
 rintro⟨w,m,ks,n,i⟩ ⟨hw,hm,hl,hb,hs,rfl,k,hk,rfl⟩
 have hb:ks.length<=1000000000:=hb
 have hk:k<=ks.length:=hk
 have hs:w.2.1.length=ks.length:=hs
 by_cases h:k < ks.length
 ·have hx:=hl _ (List.getElem_mem h)
  have hy:=hw.1 _ (List.getElem_mem (by omega:k < w.2.1.length))
  have n1:nth (.int .u64) ks k=ks[k]:=dP (t:= .int .u64) h
  have n2:nth (.pair (.int .u64) (.pair (.int .u64) .unit)) w.2.1 k=w.2.1[k]'(by omega):=dP (t:=(.pair (.int .u64) (.pair (.int .u64) .unit))) (by omega)
  have hd:=Mi m ks w.2.1 hs k h
  have step:∀ {R:Type} (kn:AS->Option R) (kx:Exit->AS->Option R),cq.L0.R (w,m,ks,(ks.length:Int),(k:Int)) kn kx=aJ (sE ks[k] m 1 (w.2.1[k]'(by omega))) (kn (cq.L0.st (w,m,ks,(ks.length:Int),((k+1:Nat):Int)))) (kx (cq.L0.bV ()).1 (cq.L0.bV ()).2):=by
   intro R kn kx
   rw[cq.L0.step,bI (by omega),bF (by omega) (by omega),bF (by omega) (by omega),aa,n1,n2,N.pJ (by omega),ef.run (d:=(ks[k],m,w.2.1[k]'(by omega))) ⟨hx,hm,hy⟩]
   simp only[ah,ab,ef.add,ef.F]
   cases sE ks[k] m 1 (w.2.1[k]'(by omega)) <;> rfl
  cases hp:sE ks[k] m 1 (w.2.1[k]'(by omega))
  ·right
   refine⟨cq.L0.bV (),?_,λkn kx=> ?_⟩
   ·simp only[cq.L0.add,cq.L0.F,aa,hd,hp,fK,cF,if_false]
    rfl
   ·rw[step,hp,ai]
  ·left
   refine⟨(w,m,ks,ks.length,((k+1:Nat):Int)),⟨hw,hm,hl,hb,hs,rfl,k+1,by omega,rfl⟩,by simp only[aa];omega,?_,λkn kx=> ?_⟩
   ·simp only[cq.L0.add,cq.L0.F,aa,hd,hp,cv]
   ·rw[step,hp,ah]
 ·right
  obtain rfl:k=ks.length:=by omega
  refine⟨cq.L0.kI (),?_,λkn kx=> ?_⟩
  ·simp only[cq.L0.add,cq.L0.F,aa,bH]
   rfl
  ·rw[cq.L0.step]
   simp(disch:=omega) only[↓S1,↓if_pos,↓if_neg,if_pos,if_neg,if_true,if_false,S2]
theorem LG{l:Lk}(h:kW l=true){b:qy}(hb:b∈l.1):b.1.length<=12:=by
 unfold kW at h
 rw[ak,fy]at h
 have:=h.1 b hb
 unfold rK at this
 rw[ak]at this
 simpa using this.1
theorem cq.ok:cq.Ok:=by
  rintro⟨l,w,m,h,a⟩ ⟨hl,hb,hw,hm⟩
  have hl:Mm l:=hl
  have hb:l.1.length<=9223372036854775807:=hb
  have hw:KW w:=hw
  have hm:Sm m:=hm
  rw[cq.eq,bk.run (d:=l) ⟨hl,hb⟩]
  simp only[ab,bk.add,bk.F,cq.add,cq.F,tt]
  cases jV:kW l
  · rw[if_pos (Or.inl rfl)];rfl
  by_cases h0:w.1 < 0
  · rw[bI h0,if_pos (Or.inr (Or.inl h0))];rfl
  by_cases h1:w.1>=l.1.length
  · rw[bp h0,lG h1,if_pos (Or.inr (Or.inr h1))];rfl
  rw[bp h0,iU h1,bF (by omega) (by omega),if_neg (by simp[h0];omega)]
  have hn:w.1.toNat < l.1.length:=by omega
  have n1:nth (.pair (.slice (.int .u64)) (.pair (.int .i64) (.pair (.int .i64) (.pair (.int .u64) .unit)))) l.1 w.1.toNat=l.1[w.1.toNat]:=dP (t:=(.pair (.slice (.int .u64)) (.pair (.int .i64) (.pair (.int .i64) (.pair (.int .u64) .unit))))) hn
  rw[n1]
  have hx:SH l.1[w.1.toNat]:=hl _ (List.getElem_mem hn)
  have VP:=LG jV (List.getElem_mem hn)
  obtain⟨⟨ks,af,dl,sc,u⟩,Pj⟩:∃b,l.1[w.1.toNat]=b:=⟨_,rfl⟩
  rw[Pj]at hx VP ⊢
  have T4:BM ks:=hx.1
  have VP:ks.length<=12:=VP
  simp only[bY,ai,ah]
  by_cases e1:h < af
  · rw[bI e1,if_pos (Or.inl e1)];rfl
  by_cases e2:a < dl
  · rw[bp e1,bI e2,if_pos (Or.inr e2)];rfl
  rw[bp e1,bp e2,if_neg (by simp[e1,e2]),dX.run (d:=w.2.2.1) hw.2]
  simp only[ai,ab,dX.add,dX.F]
  have last:aJ (rN ((w.2.1.length:Nat):Int) ((ks.length:Nat):Int)) (some (cq.out (7:Int))) (
          aj (cq.L0.call (w,m,ks,((ks.length:Nat):Int),(0:Int))) λx4=>
          aJ (x4.isLeft) (aj (x4.getLeft?) λa5=>some (cq.out (7:Int))) (aj (x4.getRight?) λb6=>some (cq.out (0:Int))))=some (cq.out (if w.2.1.length≠ks.length then 7 else if rS m ks w.2.1 then 0 else 7)):=by
    by_cases e3:w.2.1.length=ks.length
    · rw[gK (by omega),if_neg (by simp[e3]),ai,cq.L0.run (d:=(w,m,ks,ks.length,0)) ⟨hw,hm,T4,by show ks.length<=1000000000;omega,e3,rfl,0,by omega,rfl⟩]
      simp only[ab,cq.L0.add,cq.L0.F,bK,aW]
      cases rS m ks w.2.1 <;> rfl
    · rw[kN (by omega),if_pos e3];rfl
  by_cases e4:sc=0
  · rw[gK e4,if_neg (by simp[e4]),ai]
    exact last
  · rw[kN e4,ah]
    by_cases e5:fw w.2.2.1=sc
    · rw[gK e5,if_neg (by simp[e5]),ai]
      exact last
    · rw[kN e5,if_pos ⟨e4,e5⟩];rfl
def cq.E:=Entry.dp [some s7,some OR,some tH,some ti,some ti] cq.st cq.aw cq.add cq.F cq.out
def cq.call:cq.D->Option cq.X:=cj cq.E cq.st
theorem cq.run:cl cq.call cq.aw cq.add cq.F:=dw (du [.d s7,.d OR,.d tB,.d ti,.d ti] λ_=>by kernel_rfl)
def cq.sg:SG Tryz.prog:=⟨53,aP,cq.E,.fn 1 (by kernel_rfl) cq.ok (And.intro (.dp cq.L0.ok (by kernel_rfl)) trivial)⟩
abbrev gW.D:=Int
def gW.st:gW.D->SA:=λn=>([.eV,.d ti n],[])
abbrev gW.Y:=Nat×(List Int)
abbrev gW.X:=Nat×(List Int)
def gW.out:gW.X->aZ:=λx=>⟨.dh (.new 0 0) 0 [] 0 0 x.1,[],[.obj 0 false (.vec 5 tb x.2)]⟩
def gW.add:gW.D->gW.Y->gW.X:=λn y=>y
def gW.aw:gW.D->Prop:=λn=>∃k:Nat,n=k/\k<=100000000
def gW.F:gW.D->gW.Y:=λn=>(0,List.replicate n.toNat 0)
def gW.G:fD:=gz (P:=Tryz.prog) []
def gW.an:fT:= {nB:=[⟨4,[],22,135⟩]}
def gW.A:= @dq Tryz.prog gW.G gW.an 0 Tryz.f176 _ gW.st
abbrev gW.Ok:=dr @gW.A gW.aw gW.add gW.F gW.out
theorem gW.eq{R:Type}(n:Int)(k:aZ->Option R):gW.A n k=
  aJ ((jK n (0:Int))) (
   none) (
   aJ ((so (cY .i64 n (0:Int)) (0:Int))) (
    aJ (decide (0 < (cY .i64 n (0:Int))) && fk (Int.toNat (cY .i64 n (0:Int))) 1) (
    aJ (inc (0:Int) (((Int.toNat (cY .i64 n (0:Int))):Nat):Int)) (
    k (gW.out (0,(List.replicate (Int.toNat (cY .i64 n (0:Int))) (0:Int))))) none) none) (
    k (gW.out (0,([]:List Int))))):=by kernel_rfl
theorem gW.ok:gW.Ok:=by
 rintro n ⟨k,rfl,hk⟩
 have e:cY .i64 (k:Int) 0=(k:Int):=by rw[gm (by omega) (by omega)];omega
 rw[gW.eq,e,bp (by omega),ai]
 by_cases h:0 < k
 ·rw[fA (by omega),aa,aO (by omega),fV (by omega) (by omega),qc (by omega) (by omega)]
  rfl
 ·obtain rfl:k=0:=by omega
  rfl
def gW.E:=Entry.dp [none,some ti] gW.st gW.aw gW.add gW.F gW.out
def gW.call:gW.D->Option gW.X:=cj gW.E gW.st
theorem gW.run:cl gW.call gW.aw gW.add gW.F:=dw (du [.d ti] λ_=>by kernel_rfl)
def gW.sg:SG Tryz.prog:=⟨176,aP,gW.E,.fn 0 (by kernel_rfl) gW.ok trivial⟩
def qe(l:List (List Int)):Nat:=l.flatten.length
def DH(n:Nat)(l:List Int):List (List Int)->Nat×List Int
 |[]=>(n,l)
 |s::r=>(n+(s::r).flatten.length,l.take n++(s::r).flatten)
theorem Ld(n:Nat)(l s:List Int)(r:List (List Int))(h:n<=l.length):DH n l (s::r)=DH (n+s.length) (l.take n++s) r:=by
 have hl:(l.take n++s).length=n+s.length:=by rw[ae,fO];omega
 cases r with
 |nil=>simp[DH]
 |cons t r=>
  simp only[DH]
  rw[cn (Nat.le_of_eq hl)]
  simp only[lV,ae,bR,gY]
theorem O5(n:Nat)(z:List Int)(r:List (List Int)):(DH 0 z r).1<=(DH 0 z r).2.length/\cut (DH 0 z r).2 0 (DH 0 z r).1=r.flatten:=by
 cases r with
 |nil=>exact⟨bm _,rfl⟩
 |cons s r=>
  simp only[DH,jA,bu,bl]
  exact⟨aC _,by show List.take _ (List.drop 0 _)=_;rw[aW,cz]⟩
abbrev aF.L0.D:=(List Bs)×Int×(List Bs)×Int×Int
def aF.L0.st:aF.L0.D->AS:=λ(rD,size,t9,t10,t11)=>⟨([.d (.slice tB) rD,.undef,.undef,.d ti size]++bG 5 ([.d (.slice tB) t9,.d ti t10,.d ti t11]++bG 24 [])),[],(List.replicate 36 [])⟩
abbrev aF.L0.Y0:=Int
abbrev aF.L0.X0:=((List Bs))×(Int)
def aF.L0.bV:aF.L0.X0->Exit×AS:=λx=>(.exit 0,⟨([.d (.slice tB) x.1,.undef,.undef,.d ti x.2]++bG 32 []),[],(List.replicate 36 [])⟩)
abbrev aF.L0.X:=aF.L0.X0
abbrev aF.L0.Y:=aF.L0.Y0
def aF.L0.out:aF.L0.X->Out (Exit×AS):=λx=> .ok (aF.L0.bV x)
def aF.L0.add:aF.L0.D->aF.L0.Y->aF.L0.X:=λ(rD,size,t9,t10,t11) y=>(rD,y)
abbrev aF.L1.D:=Nat×(List Bs)×Int×Int×(List Int)
def aF.L1.st:aF.L1.D->AS:=λ(newsliceL,t25,t26,t27,Hz)=>⟨(bG 6 ([.dh (.new 24 0) 0 [] 0 0 newsliceL]++bG 18 ([.d (.slice tB) t25,.d ti t26,.d ti t27]++bG 8 []))),[],(db 24 ([[.obj 0 false (.vec 5 tb Hz)]]++db 11 []))⟩
abbrev aF.L1.Y0:=Nat×(List Int)
abbrev aF.L1.X0:=Nat×(List Int)
def aF.L1.bV:aF.L1.X0->Exit×AS:=λx=>(.exit 2,⟨(bG 6 ([.dh (.new 24 0) 0 [] 0 0 x.1]++bG 29 [])),[],(db 24 ([[.obj 0 false (.vec 5 tb x.2)]]++db 11 []))⟩)
abbrev aF.L1.X:=aF.L1.X0
abbrev aF.L1.Y:=aF.L1.Y0
def aF.L1.out:aF.L1.X->Out (Exit×AS):=λx=> .ok (aF.L1.bV x)
def aF.L1.add:aF.L1.D->aF.L1.Y->aF.L1.X:=λ(newsliceL,t25,t26,t27,Hz) y=>y
abbrev aF.D:=(List Bs)
def aF.st:aF.D->SA:=λslices=>([.d (.slice tB) slices],[])
abbrev aF.Y:=Bs
abbrev aF.X:=Bs
def aF.out:aF.X->aZ:=λx=>⟨.d tB x,[],[]⟩
def aF.add:aF.D->aF.Y->aF.X:=λslices y=>y
def aF.L0.aw:aF.L0.D->Prop:=λ(s,size,t,n,i)=>s.length<=1000000/\t=s/\n=s.length/\∃k z:Nat,k<=s.length/\i=k/\size=z/\z+qe (s.drop k)<=100000000
def aF.L0.F:aF.L0.D->aF.L0.Y:=λ(s,size,t,n,i)=>((size:Int)+((qe (s.drop i.toNat):Nat):Int):Int)
def aF.L1.aw:aF.L1.D->Prop:=λ(n,s,t,i,l)=>s.length<=1000000/\n<=l.length/\t=s.length/\∃k:Nat,k<=s.length/\i=k/\n+qe (s.drop k)<=100000000
def aF.L1.F:aF.L1.D->aF.L1.Y:=λ(n,s,t,i,l)=>DH n l (s.drop i.toNat)
def aF.aw:aF.D->Prop:=λs=>s.length<=1000000/\qe s<=100000000
def aF.F:aF.D->aF.Y:=λs=>s.flatten
def aF.G:fD:=gz (P:=Tryz.prog) [gW.sg]
def aF.L0.E:=cV.dp aF.L0.st aF.L0.aw aF.L0.add aF.L0.F aF.L0.out
def aF.L0.call:aF.L0.D->Option aF.L0.X:=eI aF.L0.E aF.L0.st
def aF.L1.E:=cV.dp aF.L1.st aF.L1.aw aF.L1.add aF.L1.F aF.L1.out
def aF.L1.call:aF.L1.D->Option aF.L1.X:=eI aF.L1.E aF.L1.st
def aF.an:fT:= {loops:=oF [(3,{bS:=[0,3,9,10,11]}),(11,{bS:=[6,25,26,27],sites:=[24],nB:=[⟨6,[],24,135⟩]})],outs:=oE [(3,{bS:=[0,3]},{bS:=[2]}),(11,{bS:=[6],sites:=[24]},{bS:=[2]})],jw:=pL [(3,aF.L0.E),(11,aF.L1.E)],res:=[some tB]}
def aF.A:= @dq Tryz.prog aF.G aF.an 0 Tryz.f151 _ aF.st
abbrev aF.Ok:=dr @aF.A aF.aw aF.add aF.F aF.out
def aF.L0.R:= @dn Tryz.prog aF.G aF.an 0 Tryz.f151 0 _ aF.L0.st
abbrev aF.L0.Ok:=gw Tryz.prog aF.G aF.an 0 Tryz.f151 0 aF.L0.st aF.L0.aw aF.L0.add aF.L0.F aF.L0.out
def aF.L1.R:= @dn Tryz.prog aF.G aF.an 0 Tryz.f151 1 _ aF.L1.st
abbrev aF.L1.Ok:=gw Tryz.prog aF.G aF.an 0 Tryz.f151 1 aF.L1.st aF.L1.aw aF.L1.add aF.L1.F aF.L1.out
theorem aF.L0.run:cl aF.L0.call aF.L0.aw aF.L0.add aF.L0.F:=gT (gS [.d (.slice tB),.d ti,.d (.slice tB),.d ti,.d ti] λ_=>by kernel_rfl)
theorem aF.L0.aI:jk @aF.L0.R aF.L0.st aF.L0.aw aF.L0.add aF.L0.F aF.L0.bV aF.L0.Ok:=jm
theorem aF.L0.step{R:Type}(rD:(List Bs))(size:Int)(t9:(List Bs))(t10:Int)(t11:Int)(kn:AS->Option R)(kx:Exit->AS->Option R):aF.L0.R (rD,size,t9,t10,t11) kn kx=
  aJ ((jK t11 t10)) (
   aJ (fp t11 (((List.length t9):Nat):Int)) (
   aJ ((jK (bO .i64 size (((List.length (nth tB t9 (Int.toNat t11))):Nat):Int)) (0:Int))) (
    none) (
    kn (aF.L0.st (rD,(bO .i64 size (((List.length (nth tB t9 (Int.toNat t11))):Nat):Int)),t9,t10,(bO .i64 t11 (1:Int)))))) none) (
   kx (aF.L0.bV (rD,size)).1 (aF.L0.bV (rD,size)).2):=by kernel_rfl
theorem aF.L1.run:cl aF.L1.call aF.L1.aw aF.L1.add aF.L1.F:=gT (gS [.n,.d (.slice tB),.d ti,.d ti,.d tB] λ_=>by kernel_rfl)
theorem aF.L1.aI:jk @aF.L1.R aF.L1.st aF.L1.aw aF.L1.add aF.L1.F aF.L1.bV aF.L1.Ok:=jm
theorem aF.L1.step{R:Type}(newsliceL:Nat)(t25:(List Bs))(t26:Int)(t27:Int)(Hz:(List Int))(kn:AS->Option R)(kx:Exit->AS->Option R):aF.L1.R (newsliceL,t25,t26,t27,Hz) kn kx=
  aJ ((jK t27 t26)) (
   aJ (fp t27 (((List.length t25):Nat):Int)) (
   aJ (decide (newsliceL<=(List.length Hz))) (
   aJ (fk (newsliceL+(List.length (nth tB t25 (Int.toNat t27)))) 1) (
   kn (aF.L1.st ((newsliceL+(List.length (nth tB t25 (Int.toNat t27)))),t25,t26,(bO .i64 t27 (1:Int)),((List.take newsliceL Hz)++(nth tB t25 (Int.toNat t27)))))) none) none) none) (
   kx (aF.L1.bV (newsliceL,Hz)).1 (aF.L1.bV (newsliceL,Hz)).2):=by kernel_rfl
theorem aF.eq{R:Type}(slices:(List Bs))(k:aZ->Option R):aF.A slices k=
 aj (aF.L0.call (slices,(0:Int),slices,(((List.length slices):Nat):Int),(0:Int))) λx1=>
 aj (gW.call x1.2) λx2=>
 aj (aF.L1.call (x2.1,x1.1,(((List.length x1.1):Nat):Int),(0:Int),x2.2)) λx3=>
 aJ (decide (0=0/\(0+x3.1)<=(List.length x3.2))) (
 k (aF.out (cut x3.2 0 x3.1))) none:=by kernel_rfl
theorem Kq(s:List (List Int))(k:Nat)(h:k < s.length):qe (s.drop k)=s[k].length+qe (s.drop (k+1)):=by
 unfold qe
 rw[aA h,lV,ae]
theorem aF.L0.ok:aF.L0.Ok:=by
 refine aF.L0.aI (λ(s,size,t,n,i)=>s.length - i.toNat) ?_
 rintro⟨s,size,t,n,i⟩ ⟨hs,rfl,rfl,k,z,hk,rfl,rfl,hz⟩
 have hs:t.length<=1000000:=hs
 have hk:k<=t.length:=hk
 have hz:z+qe (t.drop k)<=100000000:=hz
 by_cases h:k < t.length
 ·left
  have n1:nth (.slice (.int .u8)) t k=t[k]:=dP (t:= .slice (.int .u8)) h
  have hd:=Kq t k h
  refine⟨(t,((z+t[k].length:Nat):Int),t,t.length,((k+1:Nat):Int)),⟨hs,rfl,rfl,k+1,z+t[k].length,by omega,rfl,rfl,by omega⟩,by simp only[aa];omega,?_,λkn kx=> ?_⟩
  ·simp only[aF.L0.add,aF.L0.F,aa]
   rw[hd]
   refine congrArg _ ?_
   omega
  ·rw[aF.L0.step]
   simp(disch:=omega) only[↓S1,↓if_pos,↓if_neg,if_pos,if_neg,if_true,if_false,S2,n1]
 ·right
  obtain rfl:k=t.length:=by omega
  intro R kn kx
  rw[aF.L0.step]
  simp(disch:=omega) only[↓S1,↓if_pos,↓if_neg,if_pos,if_neg,if_true,if_false,S2,aF.L0.add,aF.L0.F,bH]
  simp only[qe,og,bJ,Int.natCast_zero,lU]
theorem aF.L1.ok:aF.L1.Ok:=by
 refine aF.L1.aI (λ(n,s,t,i,l)=>s.length - i.toNat) ?_
 rintro⟨n,s,t,i,l⟩ ⟨hs,hn,rfl,k,hk,rfl,hz⟩
 have hs:s.length<=1000000:=hs
 have hn:n<=l.length:=hn
 have hk:k<=s.length:=hk
 have hz:n+qe (s.drop k)<=100000000:=hz
 by_cases h:k < s.length
 ·left
  have n1:nth (.slice (.int .u8)) s k=s[k]:=dP (t:= .slice (.int .u8)) h
  have hd:=Kq s k h
  refine⟨(n+s[k].length,s,s.length,((k+1:Nat):Int),l.take n++s[k]),⟨hs,by rw[ae,fO];omega,rfl,k+1,by omega,rfl,by omega⟩,by simp only[aa];omega,?_,λkn kx=> ?_⟩
  ·simp only[aF.L1.add,aF.L1.F,aa]
   rw[aA h,Ld _ _ _ _ hn]
  ·rw[aF.L1.step]
   simp(disch:=omega) only[↓S1,↓if_pos,↓if_neg,if_pos,if_neg,if_true,if_false,S2,n1]
 ·right
  obtain rfl:k=s.length:=by omega
  intro R kn kx
  rw[aF.L1.step]
  simp(disch:=omega) only[↓S1,↓if_pos,↓if_neg,if_pos,if_neg,if_true,if_false,S2,aF.L1.add,aF.L1.F,bH]
  rfl
theorem aF.ok:aF.Ok:=by
 rintro s ⟨hs,hz⟩
 have hs:s.length<=1000000:=hs
 have hz:qe s<=100000000:=hz
 have p1:aF.L0.aw (s,0,s,s.length,0):=⟨hs,rfl,rfl,0,0,by omega,rfl,rfl,by rw[aW];omega⟩
 have p2:aF.L1.aw (0,s,s.length,0,List.replicate (qe s) 0):=⟨hs,by omega,rfl,0,by omega,rfl,by rw[aW];omega⟩
 rw[aF.eq,aF.L0.run p1]
 simp only[ab,aF.L0.add,aF.L0.F,bK,aW,pX]
 rw[gW.run (d:=((qe s:Nat):Int)) ⟨qe s,rfl,hz⟩]
 simp only[ab,gW.add,gW.F,aa]
 rw[aF.L1.run p2]
 simp only[ab,aF.L1.add,aF.L1.F,bK,aW]
 obtain⟨c1,c2⟩:=O5 0 (List.replicate (qe s) 0) s
 simp only[bl,c1,and_self,decide_true,ah,c2]
 rfl
def aF.E:=Entry.dp [some (.slice tB)] aF.st aF.aw aF.add aF.F aF.out
def aF.call:aF.D->Option aF.X:=cj aF.E aF.st
theorem aF.run:cl aF.call aF.aw aF.add aF.F:=dw (du [.d (.slice tB)] λ_=>by kernel_rfl)
def aF.sg:SG Tryz.prog:=⟨151,aP,aF.E,.fn 2 (by kernel_rfl) aF.ok (And.intro (.dp aF.L0.ok (by kernel_rfl)) (And.intro (.dp aF.L1.ok (by kernel_rfl)) trivial))⟩
abbrev fP.D:=Bs×Bs
def fP.st:fP.D->SA:=λ(b,more)=>([.d tB b,.d tB more],[])
abbrev fP.Y:=Bs
abbrev fP.X:=Bs
def fP.out:fP.X->aZ:=λx=>⟨.d tB x,[],[]⟩
def fP.add:fP.D->fP.Y->fP.X:=λ(b,more) y=>y
def fP.aw:fP.D->Prop:=λ(a,b)=>a.length+b.length<=100000000
def fP.F:fP.D->fP.Y:=λ(a,b)=>a++b
def fP.G:fD:=gz (P:=Tryz.prog) [aF.sg]
def fP.an:fT:= {}
def fP.A:= @dq Tryz.prog fP.G fP.an 0 Tryz.f149 _ fP.st
abbrev fP.Ok:=dr @fP.A fP.aw fP.add fP.F fP.out
theorem fP.eq{R:Type}(b:Bs)(more:Bs)(k:aZ->Option R):fP.A (b,more) k=
 aj (aF.call [b,more]) λx1=>
 k (fP.out x1):=by kernel_rfl
theorem fP.ok:fP.Ok:=by
 rintro⟨a,b⟩ h
 have h:a.length+b.length<=100000000:=h
 rw[fP.eq,aF.run (d:=[a,b]) ⟨by show [a,b].length<=_;simp,by show qe [a,b]<=_;simp only[qe,lV,og,dg,ae];omega⟩]
 simp only[ab,aF.add,aF.F,fP.add,fP.F,lV,og,dg]
def fP.E:=Entry.dp [some tB,some tB] fP.st fP.aw fP.add fP.F fP.out
def fP.call:fP.D->Option fP.X:=cj fP.E fP.st
theorem fP.run:cl fP.call fP.aw fP.add fP.F:=dw (du [.d tB,.d tB] λ_=>by kernel_rfl)
def fP.sg:SG Tryz.prog:=⟨149,aP,fP.E,.fn 0 (by kernel_rfl) fP.ok trivial⟩
def oN:Nat->Int->List Int×Int
 | 0,n=>([],n)
 |f+1,n=>if 128<=n then((n%128+128)::(oN f (n / 128)).1,(oN f (n / 128)).2) else([],n)
def C5(n:Int):List Int:=(oN 10 n).1++ [(oN 10 n).2]
theorem EU:∀(f g:Nat) (n:Int),n < 128^(f+1)->n < 128^(g+1)->oN f n=oN g n
 | 0,0,n,_,_=>rfl
 | 0,g+1,n,h,_=>by
  have h:n < 128:=h
  rw[oN,oN,if_neg (by omega)]
 |f+1,0,n,_,h=>by
  have h:n < 128:=h
  rw[oN,oN,if_neg (by omega)]
 |f+1,g+1,n,h,h'=>by
  rw[oN,oN]
  split
  ·have e:(128:Int)^(f+1+1)=128^(f+1)*128:=mM 128 (f+1)
   have e':(128:Int)^(g+1+1)=128^(g+1)*128:=mM 128 (g+1)
   rw[EU f g (n / 128) (by omega) (by omega)]
  ·rfl
theorem C4:∀(f:Nat) (n:Int),(oN f n).1.length<=f
 | 0,_=>aC _
 |f+1,n=>by
  rw[oN]
  split
  ·have:=C4 f (n / 128)
   simp only[aN];omega
  ·exact bm _
theorem ET:∀(f:Nat) (n:Int),0<=n->n < 128^(f+1)->0<=(oN f n).2/\(oN f n).2 < 128
 | 0,n,h,h'=>by have h':n < 128:=h';exact⟨h,h'⟩
 |f+1,n,h,h'=>by
  rw[oN]
  have e:(128:Int)^(f+1+1)=128^(f+1)*128:=mM 128 (f+1)
  split
  ·exact ET f (n / 128) (by omega) (by omega)
  ·exact⟨h,by omega⟩
theorem LZ{n:Int}(h:128<=n)(h2:n<=9223372036854775807):oN 10 n=((n%128+128)::(oN 10 (n / 128)).1,(oN 10 (n / 128)).2):=by
 have e:(128:Int)^(9+1)=1180591620717411303424:=rfl
 have e2:(128:Int)^(10+1)=151115727451828646838272:=rfl
 rw[oN,if_pos h,EU 9 10 (n / 128) (by rw[e];omega) (by rw[e2];omega)]
theorem y3(n:Int):(C5 n).length<=11:=by
 have:=C4 10 n
 unfold C5
 simp only[ae,aN,bJ];omega
def My(n:Int):Prop:=0<=n/\n<=9223372036854775807
abbrev ek.L0.D:=Int×Nat×(List Int)
def ek.L0.st:ek.L0.D->AS:=λ(sz,outL,BD)=>⟨([.d ti sz,.undef,.undef,.dh (.new 14 0) 0 [] 0 0 outL]++bG 16 []),[],(db 14 ([[.obj 0 false (.vec 5 tb BD)]]++db 5 []))⟩
abbrev ek.L0.Y0:=Int×Nat×(List Int)
abbrev ek.L0.X0:=Int×Nat×(List Int)
def ek.L0.bV:ek.L0.X0->Exit×AS:=λx=>(.exit 0,⟨([.d ti x.1,.undef,.undef,.dh (.new 14 0) 0 [] 0 0 x.2.1]++bG 16 []),[],(db 14 ([[.obj 0 false (.vec 5 tb x.2.2)]]++db 5 []))⟩)
abbrev ek.L0.X:=ek.L0.X0
abbrev ek.L0.Y:=ek.L0.Y0
def ek.L0.out:ek.L0.X->Out (Exit×AS):=λx=> .ok (ek.L0.bV x)
def ek.L0.add:ek.L0.D->ek.L0.Y->ek.L0.X:=λ(sz,outL,BD) y=>y
abbrev ek.D:=Int
def ek.st:ek.D->SA:=λn=>([.d ti n],[])
abbrev ek.Y:=Bs
abbrev ek.X:=Bs
def ek.out:ek.X->aZ:=λx=>⟨.d tB x,[],[]⟩
def ek.add:ek.D->ek.Y->ek.X:=λn y=>y
def ek.L0.aw:ek.L0.D->Prop:=λ(n,m,l)=>My n/\m=l.length/\l.length<=1000+0*n.toNat/\l.length+(oN 10 n).1.length<=100
def ek.L0.F:ek.L0.D->ek.L0.Y:=λ(n,m,l)=>((oN 10 n).2,(l++(oN 10 n).1).length,l++(oN 10 n).1)
def ek.aw:ek.D->Prop:=λn=>My n
def ek.F:ek.D->ek.Y:=λn=>C5 n
def ek.G:fD:=gz (P:=Tryz.prog) []
def ek.L0.E:=cV.dp ek.L0.st ek.L0.aw ek.L0.add ek.L0.F ek.L0.out
def ek.L0.call:ek.L0.D->Option ek.L0.X:=eI ek.L0.E ek.L0.st
def ek.an:fT:= {loops:=oF [(2,{bS:=[0,3],sites:=[14],nB:=[⟨3,[],14,135⟩]})],outs:=oE [(2,{bS:=[0,3],sites:=[14]},{bS:=[2]})],jw:=pL [(2,ek.L0.E)],res:=[some tB]}
def ek.A:= @dq Tryz.prog ek.G ek.an 0 Tryz.f150 _ ek.st
abbrev ek.Ok:=dr @ek.A ek.aw ek.add ek.F ek.out
def ek.L0.R:= @dn Tryz.prog ek.G ek.an 0 Tryz.f150 0 _ ek.L0.st
abbrev ek.L0.Ok:=gw Tryz.prog ek.G ek.an 0 Tryz.f150 0 ek.L0.st ek.L0.aw ek.L0.add ek.L0.F ek.L0.out
theorem ek.L0.run:cl ek.L0.call ek.L0.aw ek.L0.add ek.L0.F:=gT (gS [.d ti,.n,.d tB] λ_=>by kernel_rfl)
theorem ek.L0.aI:jk @ek.L0.R ek.L0.st ek.L0.aw ek.L0.add ek.L0.F ek.L0.bV ek.L0.Ok:=jm
theorem ek.L0.step{R:Type}(sz:Int)(outL:Nat)(BD:(List Int))(kn:AS->Option R)(kx:Exit->AS->Option R):ek.L0.R (sz,outL,BD) kn kx=
  aJ ((qz sz (128:Int))) (
   aJ (decide (outL<=(List.length BD))) (
   aJ (fk (outL+1) 1) (
   kn (ek.L0.st ((qw .i64 sz (128:Int)),(outL+1),((List.take outL BD)++ [(eH .u8 (bO .i64 (fU sz (128:Int)) (128:Int)))])))) none) none) (
   kx (ek.L0.bV (sz,outL,BD)).1 (ek.L0.bV (sz,outL,BD)).2):=by kernel_rfl
theorem ek.eq{R:Type}(n:Int)(k:aZ->Option R):ek.A n k=
 aj (ek.L0.call (n,0,([]:List Int))) λx1=>
 aJ (decide (x1.2.1<=(List.length x1.2.2))) (
 aJ (fk (x1.2.1+1) 1) (
 aJ (decide (0=0/\(0+(x1.2.1+1))<=(List.length ((List.take x1.2.1 x1.2.2)++ [(eH .u8 x1.1)])))) (
 k (ek.out (cut ((List.take x1.2.1 x1.2.2)++ [(eH .u8 x1.1)]) 0 (x1.2.1+1)))) none) none) none:=by kernel_rfl
theorem MV{n:Int}(h:My n):eH .u8 (bO .i64 (fU n 128) 128)=n%128+128:=by
 have h1:=h.1
 rw[kT h.1,ff (by omega) (by omega),Cp,kP]
 omega
theorem ek.L0.ok:ek.L0.Ok:=by
 refine ek.L0.aI (λ(n,m,l)=>n.toNat) ?_
 rintro⟨n,m,l⟩ ⟨hn,rfl,hl,hz⟩
 have hn:My n:=hn
 have hz:l.length+(oN 10 n).1.length<=100:=hz
 have h1:=hn.1
 have h2:=hn.2
 by_cases h:128<=n
 ·left
  have e:=LZ h h2
  have hq:qw .i64 n 128=n / 128:=by
   rw[qw,lD h1]
   exact rb (by omega) (by omega)
  have el:((n%128+128)::(oN 10 (n / 128)).1).length=(oN 10 (n / 128)).1.length+1:=aN
  rw[e]at hz
  have hz:l.length+((n%128+128)::(oN 10 (n / 128)).1).length<=100:=hz
  rw[el]at hz
  refine⟨(n / 128,l.length+1,l++ [n%128+128]),⟨⟨by omega,by omega⟩,by rw[ae];rfl,by rw[ae];simp only[aN,bJ];omega,by rw[ae];simp only[aN,bJ];omega⟩,by simp only[];omega,?_,λkn kx=> ?_⟩
  ·simp only[ek.L0.add,ek.L0.F,e,bR,kz,bu]
  ·rw[ek.L0.step,lG h,MV hn,hq]
   simp(disch:=omega) only[↓S1,↓if_pos,↓if_neg,if_pos,if_neg,if_true,if_false,S2,aC,cz]
 ·right
  have e:oN 10 n=([],n):=by rw[oN,if_neg h]
  intro R kn kx
  rw[ek.L0.step,iU h]
  simp only[ai,ek.L0.add,ek.L0.F,e,dg]
theorem ek.ok:ek.Ok:=by
 intro n hn
 have hn:My n:=hn
 have hl:=C4 10 n
 have e2:(128:Int)^(10+1)=151115727451828646838272:=rfl
 have hd:=ET 10 n hn.1 (by have:=hn.2;rw[e2];omega)
 have p:ek.L0.aw (n,0,[]):=⟨hn,rfl,by simp,by simp only[bJ];omega⟩
 have hi:eH .u8 (oN 10 n).2=(oN 10 n).2:=by rw[Cp,kP];omega
 rw[ek.eq,ek.L0.run p]
 simp only[ab,ek.L0.add,ek.L0.F,bu,hi,cz,aC,decide_true,ah]
 rw[fV (by omega) (by omega)]
 simp only[ah,bl,ae,aN,bJ,aC,and_self,decide_true]
 rw[iV (by rw[ae];rfl)]
 rfl
def ek.E:=Entry.dp [some ti] ek.st ek.aw ek.add ek.F ek.out
def ek.call:ek.D->Option ek.X:=cj ek.E ek.st
theorem ek.run:cl ek.call ek.aw ek.add ek.F:=dw (du [.d ti] λ_=>by kernel_rfl)
def ek.sg:SG Tryz.prog:=⟨150,aP,ek.E,.fn 1 (by kernel_rfl) ek.ok (And.intro (.dp ek.L0.ok (by kernel_rfl)) trivial)⟩
def jN(b:List Int)(n:Int):List Int:=if n < 0 then b else b++C5 n
theorem lb(b:List Int)(n:Int):(jN b n).length<=b.length+11:=by
 unfold jN
 have:=y3 n
 split
 ·omega
 ·rw[ae];omega
abbrev gD.D:=Bs×Int
def gD.st:gD.D->SA:=λ(b,n)=>([.d tB b,.d ti n],[])
abbrev gD.Y:=Bs
abbrev gD.X:=Bs
def gD.out:gD.X->aZ:=λx=>⟨.d tB x,[],[]⟩
def gD.add:gD.D->gD.Y->gD.X:=λ(b,n) y=>y
def gD.aw:gD.D->Prop:=λ(b,n)=>b.length<=90000000/\n<=9223372036854775807
def gD.F:gD.D->gD.Y:=λ(b,n)=>jN b n
def gD.G:fD:=gz (P:=Tryz.prog) [fP.sg,ek.sg]
def gD.an:fT:= {}
def gD.A:= @dq Tryz.prog gD.G gD.an 0 Tryz.f107 _ gD.st
abbrev gD.Ok:=dr @gD.A gD.aw gD.add gD.F gD.out
theorem gD.eq{R:Type}(b:Bs)(n:Int)(k:aZ->Option R):gD.A (b,n) k=
  aJ ((jK n (0:Int))) (
   aj (fP.call (b,([]:List Int))) λx1=>
   k (gD.out x1)) (
   aj (ek.call n) λx2=>
   aj (fP.call (b,x2)) λx3=>
   k (gD.out x3)):=by kernel_rfl
theorem gD.ok:gD.Ok:=by
 rintro⟨b,n⟩ ⟨hb,hn⟩
 have hb:b.length<=90000000:=hb
 have hn:n<=9223372036854775807:=hn
 rw[gD.eq]
 simp only[gD.add,gD.F,jN]
 by_cases h:n < 0
 ·rw[bI h,if_pos h,ah,fP.run (d:=(b,[])) (by show b.length+([]:List Int).length<=_;simp only[bJ];omega)]
  simp only[ab,fP.add,fP.F,dg]
 ·have hl:=y3 n
  rw[bp h,if_neg h,ai,ek.run (d:=n) ⟨by omega,hn⟩]
  simp only[ab,ek.add,ek.F]
  rw[fP.run (d:=(b,C5 n)) (by show b.length+(C5 n).length<=_;omega)]
  rfl
def gD.E:=Entry.dp [some tB,some ti] gD.st gD.aw gD.add gD.F gD.out
def gD.call:gD.D->Option gD.X:=cj gD.E gD.st
theorem gD.run:cl gD.call gD.aw gD.add gD.F:=dw (du [.d tB,.d ti] λ_=>by kernel_rfl)
def gD.sg:SG Tryz.prog:=⟨107,aP,gD.E,.fn 0 (by kernel_rfl) gD.ok trivial⟩
abbrev gR.D:=Bs×Int
def gR.st:gR.D->SA:=λ(b,n)=>([.d tB b,.d tu n],[])
abbrev gR.Y:=Bs
abbrev gR.X:=Bs
def gR.out:gR.X->aZ:=λx=>⟨.d tB x,[],[]⟩
def gR.add:gR.D->gR.Y->gR.X:=λ(b,n) y=>y
def gR.aw:gR.D->Prop:=λ(b,n)=>b.length<=90000000
def gR.F:gR.D->gR.Y:=λ(b,n)=>b++mu n
def gR.G:fD:=gz (P:=Tryz.prog) [fP.sg]
def gR.an:fT:= {loops:=oF [(3,{bS:=[0,1,5,7],sites:=[5,21]})],outs:=oE [(3,{bS:=[0,5],sites:=[5,21]},{bS:=[4],sites:=[5,21]})]}
def gR.A:= @dq Tryz.prog gR.G gR.an 12 Tryz.f152 _ gR.st
abbrev gR.Ok:=dr @gR.A gR.aw gR.add gR.F gR.out
theorem gR.eq{R:Type}(b:Bs)(n:Int)(k:aZ->Option R):gR.A (b,n) k=
 aj (fP.call (b,[(eH .u8 (cZ .u64 n (56:Int))),(eH .u8 (cZ .u64 n (48:Int))),(eH .u8 (cZ .u64 n (40:Int))),(eH .u8 (cZ .u64 n (32:Int))),(eH .u8 (cZ .u64 n (24:Int))),(eH .u8 (cZ .u64 n (16:Int))),(eH .u8 (cZ .u64 n (8:Int))),(eH .u8 (cZ .u64 n (0:Int)))])) λx1=>
 k (gR.out x1):=by kernel_rfl
theorem gR.ok:gR.Ok:=by
 rintro⟨b,n⟩ hb
 have hb:b.length<=90000000:=hb
 have p:fP.aw (b,mu n):=by show b.length+(mu n).length<=_;rw[dO];omega
 have e:fP.call (b,[eH .u8 (cZ .u64 n 56),eH .u8 (cZ .u64 n 48),eH .u8 (cZ .u64 n 40),eH .u8 (cZ .u64 n 32),eH .u8 (cZ .u64 n 24),eH .u8 (cZ .u64 n 16),eH .u8 (cZ .u64 n 8),eH .u8 (cZ .u64 n 0)])=some (b++mu n):=by
  rw[BT];exact fP.run p
 rw[gR.eq]
 refine Eq.trans (congrArg (λx=>aj x _) e) ?_
 rfl
def gR.E:=Entry.dp [some tB,some tu] gR.st gR.aw gR.add gR.F gR.out
def gR.call:gR.D->Option gR.X:=cj gR.E gR.st
theorem gR.run:cl gR.call gR.aw gR.add gR.F:=dw (du [.d tB,.d tu] λ_=>by kernel_rfl)
def gR.sg:SG Tryz.prog:=⟨152,aP,gR.E,.fn 1 (by kernel_rfl) gR.ok (And.intro (.none (by kernel_rfl)) trivial)⟩
def uD(w:DB):Bool:=decide (0<=w.1/\w.1 < 4) && decide (w.2.1.length<=12)
def zO(x:kX):Bool:=decide (0<=x.1.2.1/\x.1.2.1 < 64) && uD x.2.1
def xm(m:List (ir×Bool))(x:kX):Bool:=(fj gV x.1 m).getD false
def tO:List (ir×Bool)->List kX->Bool
 |_,[]=>true
 |m,x::l=>(!(xm m x) && zO x) && tO (lu gV x.1 true m) l
def tG(a:Int):Bool:=decide (0<=a/\a<=1125899906842624)
def ud(a b:Int):Bool:=tG a && (tG b && decide (a+b<=1125899906842624))
def qm:Int->List kF->Bool
 |_,[]=>true
 |s,o::l=>(ud s o.1 && kW o.2.1) && qm (s+o.1) l
def yh(t:iM):Bool:=decide (1<=t.1.length/\t.1.length<=64/\t.2.1.length<=64/\0<=t.2.2.1)
def jQ(t:iM):Bool:=yh t && (tO [] t.1 && qm 0 t.2.1)
def ua(l:Lk):Prop:=Mm l/\l.1.length<=9223372036854775807
def UN(t:iM):Prop:=(∀o∈t.2.1,ua o.2.1)/\t.1.length<=9223372036854775807/\t.2.1.length<=9223372036854775807
abbrev jx.D:=DB
def jx.st:jx.D->SA:=λwv=>([.d OR wv],[])
abbrev jx.Y:=Bool
abbrev jx.X:=Bool
def jx.out:jx.X->aZ:=λx=>⟨.d .bool x,[],[]⟩
def jx.add:jx.D->jx.Y->jx.X:=λwv y=>y
def jx.aw:jx.D->Prop:=λ_=>True
def jx.F:jx.D->jx.Y:=λw=>uD w
def jx.G:fD:=gz (P:=Tryz.prog) []
def jx.an:fT:= {}
def jx.A:= @dq Tryz.prog jx.G jx.an 0 Tryz.f103 _ jx.st
abbrev jx.Ok:=dr @jx.A jx.aw jx.add jx.F jx.out
theorem jx.eq{R:Type}(wv:DB)(k:aZ->Option R):jx.A wv k=
  aJ ((qz wv.1 (0:Int))) (
   aJ ((jK wv.1 (4:Int))) (
    k (jx.out (FH (((List.length wv.2.1):Nat):Int) (12:Int)))) (
    k (jx.out false))) (
   k (jx.out false)):=by kernel_rfl
theorem jx.ok:jx.Ok:=by
 rintro⟨b,ss,sc,u⟩ _
 rw[jx.eq]
 simp only[jx.add,jx.F,uD]
 by_cases h:0<=b
 ·rw[lG h,ah]
  by_cases h2:b < 4
  ·rw[bI h2,ah,aO ⟨h,h2⟩]
   by_cases h3:ss.length<=12
   ·rw[uo (by omega),aO h3];rfl
   ·rw[qJ (by omega),cR h3];rfl
  ·rw[bp h2,ai,cR (λx=>h2 x.2)];rfl
 ·rw[iU h,ai,cR (λx=>h x.1)];rfl
def jx.E:=Entry.dp [some OR] jx.st jx.aw jx.add jx.F jx.out
def jx.call:jx.D->Option jx.X:=cj jx.E jx.st
theorem jx.run:cl jx.call jx.aw jx.add jx.F:=dw (du [.d OR] λ_=>by kernel_rfl)
def jx.sg:SG Tryz.prog:=⟨103,aP,jx.E,.fn 0 (by kernel_rfl) jx.ok trivial⟩
abbrev fg.D:=Int
def fg.st:fg.D->SA:=λa=>([.d ti a],[])
abbrev fg.Y:=Bool
abbrev fg.X:=Bool
def fg.out:fg.X->aZ:=λx=>⟨.d .bool x,[],[]⟩
def fg.add:fg.D->fg.Y->fg.X:=λa y=>y
def fg.aw:fg.D->Prop:=λ_=>True
def fg.F:fg.D->fg.Y:=λa=>tG a
def fg.G:fD:=gz (P:=Tryz.prog) []
def fg.an:fT:= {}
def fg.A:= @dq Tryz.prog fg.G fg.an 0 Tryz.f145 _ fg.st
abbrev fg.Ok:=dr @fg.A fg.aw fg.add fg.F fg.out
theorem fg.eq{R:Type}(a:Int)(k:aZ->Option R):fg.A a k=
  aJ ((qz a (0:Int))) (
   k (fg.out (FH a (1125899906842624:Int)))) (
   k (fg.out false)):=by kernel_rfl
theorem fg.ok:fg.Ok:=by
 intro(a:Int) _
 rw[fg.eq]
 simp only[fg.add,fg.F,tG]
 by_cases h:0<=a
 ·rw[lG h,ah]
  by_cases h2:a<=1125899906842624
  ·rw[uo h2,aO ⟨h,h2⟩]
  ·rw[qJ h2,cR (λx=>h2 x.2)]
 ·rw[iU h,ai,cR (λx=>h x.1)]
def fg.E:=Entry.dp [some ti] fg.st fg.aw fg.add fg.F fg.out
def fg.call:fg.D->Option fg.X:=cj fg.E fg.st
theorem fg.run:cl fg.call fg.aw fg.add fg.F:=dw (du [.d ti] λ_=>by kernel_rfl)
def fg.sg:SG Tryz.prog:=⟨145,aP,fg.E,.fn 0 (by kernel_rfl) fg.ok trivial⟩
abbrev jo.D:=Int×Int
def jo.st:jo.D->SA:=λ(a,b)=>([.d ti a,.d ti b],[])
abbrev jo.Y:=Int×Bool
abbrev jo.X:=Int×Bool
def jo.out:jo.X->aZ:=λx=>⟨.cons (.d ti x.1) (.cons (.d .bool x.2) (.nil)),[],[]⟩
def jo.add:jo.D->jo.Y->jo.X:=λ(a,b) y=>y
def jo.aw:jo.D->Prop:=λ_=>True
def jo.F:jo.D->jo.Y:=λ(a,b)=>(bif ud a b then a+b else 0,ud a b)
def jo.G:fD:=gz (P:=Tryz.prog) [fg.sg]
def jo.an:fT:= {}
def jo.A:= @dq Tryz.prog jo.G jo.an 0 Tryz.f104 _ jo.st
abbrev jo.Ok:=dr @jo.A jo.aw jo.add jo.F jo.out
theorem jo.eq{R:Type}(a:Int)(b:Int)(k:aZ->Option R):jo.A (a,b) k=
  aj (fg.call a) λx1=>
  aJ ((!x1)) (
   k (jo.out ((0:Int),false))) (
   aj (fg.call b) λx2=>
   aJ ((!x2)) (
    k (jo.out ((0:Int),false))) (
    aJ ((so a (cY .i64 (1125899906842624:Int) b))) (
     k (jo.out ((0:Int),false))) (
     k (jo.out ((bO .i64 a b),true))))):=by kernel_rfl
theorem jo.ok:jo.Ok:=by
 rintro⟨a,b⟩ _
 rw[jo.eq,fg.run (d:=a) trivial,fg.run (d:=b) trivial]
 simp only[ab,fg.add,fg.F,jo.add,jo.F,ud]
 cases ha:tG a
 ·rfl
 ·cases hb:tG b
  ·rfl
  ·simp only[tG,decide_eq_true_eq]at ha hb
   simp only[bY,ai,cv]
   rw[gm (by omega) (by omega)]
   by_cases h:a+b<=1125899906842624
   ·rw[dW (by omega),ai,aO h,ff (by omega) (by omega)];rfl
   ·rw[fA (by omega),ah,cR h];rfl
def jo.E:=Entry.dp [some ti,some ti] jo.st jo.aw jo.add jo.F jo.out
def jo.call:jo.D->Option jo.X:=cj jo.E jo.st
theorem jo.run:cl jo.call jo.aw jo.add jo.F:=dw (du [.d ti,.d ti] λ_=>by kernel_rfl)
def jo.sg:SG Tryz.prog:=⟨104,aP,jo.E,.fn 0 (by kernel_rfl) jo.ok trivial⟩
abbrev aD.L0.D:=iM×(List kX)×Int×Int×(List (ir×Bool))
def aD.L0.st:aD.L0.D->AS:=λ(wE,t33,t34,t35,S8)=>⟨([.undef,.gE jP wE,.undef,.kO (.new 31 0) 0]++bG 29 ([.d (.slice kj) t33,.d ti t34,.d ti t35]++bG 52 [])),[],(db 31 ([[.obj 0 false (.mp gV .bool S8)]]++db 56 []))⟩
abbrev aD.L0.Y0:=Unit
abbrev aD.L0.X0:=Unit
def aD.L0.bV:aD.L0.X0->Exit×AS:=λx=>(.ret,⟨([.undef,.undef,.d .bool false]++bG 85 []),[],(List.replicate 88 [])⟩)
abbrev aD.L0.Y1:=Unit
abbrev aD.L0.X1:=iM
def aD.L0.kI:aD.L0.X1->Exit×AS:=λx=>(.exit 0,⟨([.undef,.gE jP x]++bG 86 []),[],(List.replicate 88 [])⟩)
abbrev aD.L0.X:=(aD.L0.X0)⊕(aD.L0.X1)
abbrev aD.L0.Y:=(aD.L0.Y0)⊕(aD.L0.Y1)
def aD.L0.out:aD.L0.X->Out (Exit×AS):=λx=> .br x.isLeft (.get x.getLeft? λa=> .ok (aD.L0.bV a)) (.get x.getRight? λb=> .ok (aD.L0.kI b))
def aD.L0.add:aD.L0.D->aD.L0.Y->aD.L0.X:=λ(wE,t33,t34,t35,S8) y=>match y with | .inl y=> .inl y | .inr z=> .inr (wE)
abbrev aD.L1.D:=Int×(List kF)×Int×Int
def aD.L1.st:aD.L1.D->AS:=λ(sum,t66,t67,t68)=>⟨(bG 6 ([.d ti sum]++bG 59 ([.d (.slice lg) t66,.d ti t67,.d ti t68]++bG 19 []))),[],(List.replicate 88 [])⟩
abbrev aD.L1.Y0:=Unit
abbrev aD.L1.X0:=Unit
def aD.L1.bV:aD.L1.X0->Exit×AS:=λx=>(.ret,⟨([.undef,.undef,.d .bool false]++bG 85 []),[],(List.replicate 88 [])⟩)
abbrev aD.L1.Y1:=Unit
abbrev aD.L1.X1:=Unit
def aD.L1.kI:aD.L1.X1->Exit×AS:=λx=>(.exit 2,⟨(bG 88 []),[],(List.replicate 88 [])⟩)
abbrev aD.L1.X:=(aD.L1.X0)⊕(aD.L1.X1)
abbrev aD.L1.Y:=(aD.L1.Y0)⊕(aD.L1.Y1)
def aD.L1.out:aD.L1.X->Out (Exit×AS):=λx=> .br x.isLeft (.get x.getLeft? λa=> .ok (aD.L1.bV a)) (.get x.getRight? λb=> .ok (aD.L1.kI b))
def aD.L1.add:aD.L1.D->aD.L1.Y->aD.L1.X:=λ(sum,t66,t67,t68) y=>match y with | .inl y=> .inl y | .inr z=> .inr (z)
abbrev aD.D:=iM
def aD.st:aD.D->SA:=λt=>([.d jP t],[])
abbrev aD.Y:=Bool
abbrev aD.X:=Bool
def aD.out:aD.X->aZ:=λx=>⟨.d .bool x,[],[]⟩
def aD.add:aD.D->aD.Y->aD.X:=λt y=>y
def aD.L0.aw:aD.L0.D->Prop:=λ(t,l,n,i,m)=>l.length<=9223372036854775807/\n=l.length/\∃k:Nat,k<=l.length/\i=k
def aD.L0.F:aD.L0.D->aD.L0.Y:=λ(t,l,n,i,m)=>if tO m (l.drop i.toNat) then .inr () else .inl ()
def aD.L1.aw:aD.L1.D->Prop:=λ(s,l,n,i)=>(∀o∈l,ua o.2.1)/\l.length<=9223372036854775807/\n=l.length/\∃k:Nat,k<=l.length/\i=k
def aD.L1.F:aD.L1.D->aD.L1.Y:=λ(s,l,n,i)=>if qm s (l.drop i.toNat) then .inr () else .inl ()
def aD.aw:aD.D->Prop:=λt=>UN t
def aD.F:aD.D->aD.Y:=λt=>jQ t
def aD.G:fD:=gz (P:=Tryz.prog) [jx.sg,jo.sg,bk.sg]
def aD.L0.E:=cV.dp aD.L0.st aD.L0.aw aD.L0.add aD.L0.F aD.L0.out
def aD.L0.call:aD.L0.D->Option aD.L0.X:=eI aD.L0.E aD.L0.st
def aD.L1.E:=cV.dp aD.L1.st aD.L1.aw aD.L1.add aD.L1.F aD.L1.out
def aD.L1.call:aD.L1.D->Option aD.L1.X:=eI aD.L1.E aD.L1.st
def aD.an:fT:= {loops:=oF [(5,{bS:=[1,3,33,34,35],sites:=[31]}),(13,{bS:=[6,66,67,68]})],outs:=oE [(5,{bS:=[1]},{bS:=[2]}),(13,{},{bS:=[2]})],jw:=pL [(5,aD.L0.E),(13,aD.L1.E)]}
def aD.A:= @dq Tryz.prog aD.G aD.an 0 Tryz.f50 _ aD.st
abbrev aD.Ok:=dr @aD.A aD.aw aD.add aD.F aD.out
def aD.L0.R:= @dn Tryz.prog aD.G aD.an 0 Tryz.f50 0 _ aD.L0.st
abbrev aD.L0.Ok:=gw Tryz.prog aD.G aD.an 0 Tryz.f50 0 aD.L0.st aD.L0.aw aD.L0.add aD.L0.F aD.L0.out
def aD.L1.R:= @dn Tryz.prog aD.G aD.an 0 Tryz.f50 1 _ aD.L1.st
abbrev aD.L1.Ok:=gw Tryz.prog aD.G aD.an 0 Tryz.f50 1 aD.L1.st aD.L1.aw aD.L1.add aD.L1.F aD.L1.out
theorem aD.L0.run:cl aD.L0.call aD.L0.aw aD.L0.add aD.L0.F:=gT (gS [.d jP,.d (.slice kj),.d ti,.d ti,.d (.slice (.pair gV .bool))] λ_=>by kernel_rfl)
theorem aD.L0.aI:sB @aD.L0.R aD.L0.st aD.L0.aw aD.L0.add aD.L0.F aD.L0.out aD.L0.Ok:=s8
theorem aD.L0.step{R:Type}(wE:iM)(t33:(List kX))(t34:Int)(t35:Int)(S8:(List (ir×Bool)))(kn:AS->Option R)(kx:Exit->AS->Option R):aD.L0.R (wE,t33,t34,t35,S8) kn kx=
  aJ ((jK t35 t34)) (
   aJ (fp t35 (((List.length t33):Nat):Int)) (
   aJ (((fj gV (nth kj t33 (Int.toNat t35)).1 S8).getD false)) (
    kx (aD.L0.bV ()).1 (aD.L0.bV ()).2) (
    aJ ((jK (nth kj t33 (Int.toNat t35)).1.2.1 (0:Int))) (
     kx (aD.L0.bV ()).1 (aD.L0.bV ()).2) (
     aJ ((qz (nth kj t33 (Int.toNat t35)).1.2.1 (64:Int))) (
      kx (aD.L0.bV ()).1 (aD.L0.bV ()).2) (
      aj (jx.call (nth kj t33 (Int.toNat t35)).2.1) λx8=>
      aJ ((!x8)) (
       kx (aD.L0.bV ()).1 (aD.L0.bV ()).2) (
       kn (aD.L0.st (wE,t33,t34,(bO .i64 t35 (1:Int)),(lu gV (nth kj t33 (Int.toNat t35)).1 true S8)))))))) none) (
   kx (aD.L0.kI wE).1 (aD.L0.kI wE).2):=by kernel_rfl
theorem aD.L1.run:cl aD.L1.call aD.L1.aw aD.L1.add aD.L1.F:=gT (gS [.d ti,.d (.slice lg),.d ti,.d ti] λ_=>by kernel_rfl)
theorem aD.L1.aI:sB @aD.L1.R aD.L1.st aD.L1.aw aD.L1.add aD.L1.F aD.L1.out aD.L1.Ok:=s8
theorem aD.L1.step{R:Type}(sum:Int)(t66:(List kF))(t67:Int)(t68:Int)(kn:AS->Option R)(kx:Exit->AS->Option R):aD.L1.R (sum,t66,t67,t68) kn kx=
  aJ ((jK t68 t67)) (
   aJ (fp t68 (((List.length t66):Nat):Int)) (
   aj (jo.call (sum,(nth lg t66 (Int.toNat t68)).1)) λzm=>
   aJ ((!zm.2)) (
    kx (aD.L1.bV ()).1 (aD.L1.bV ()).2) (
    aj (bk.call (nth lg t66 (Int.toNat t68)).2.1) λEc=>
    aJ ((!Ec)) (
     kx (aD.L1.bV ()).1 (aD.L1.bV ()).2) (
     kn (aD.L1.st (zm.1,t66,t67,(bO .i64 t68 (1:Int))))))) none) (
   kx (aD.L1.kI ()).1 (aD.L1.kI ()).2):=by kernel_rfl
theorem aD.eq{R:Type}(t:iM)(k:aZ->Option R):aD.A t k=
  aJ ((jK (((List.length t.1):Nat):Int) (1:Int))) (
   k (aD.out false)) (
   aJ ((so (((List.length t.1):Nat):Int) (64:Int))) (
    k (aD.out false)) (
    aJ ((so (((List.length t.2.1):Nat):Int) (64:Int))) (
     k (aD.out false)) (
     aJ ((jK t.2.2.1 (0:Int))) (
      k (aD.out false)) (
      aj (aD.L0.call (t,t.1,(((List.length t.1):Nat):Int),(0:Int),([]:List (ir×Bool)))) λEc=>
      aJ (Ec.isLeft) (
       aj (Ec.getLeft?) λa13=>
       k (aD.out false)) (
       aj (Ec.getRight?) λb14=>
       aj (aD.L1.call ((0:Int),b14.2.1,(((List.length b14.2.1):Nat):Int),(0:Int))) λGh=>
       aJ (Gh.isLeft) (
        aj (Gh.getLeft?) λa31=>
        k (aD.out false)) (
        aj (Gh.getRight?) λb32=>
        k (aD.out true))))))):=by kernel_rfl
theorem aD.L0.ok:aD.L0.Ok:=by
 refine aD.L0.aI (λ(t,l,n,i,m)=>l.length - i.toNat) ?_
 rintro⟨t,l,n,i,m⟩ ⟨hb,rfl,k,hk,rfl⟩
 have hb:l.length<=9223372036854775807:=hb
 have hk:k<=l.length:=hk
 by_cases h:k < l.length
 ·have n1:nth kj l k=l[k]:=dP (t:=kj) h
  have hd:tO m (l.drop k)=((!(xm m l[k]) && zO l[k]) && tO (lu gV l[k].1 true m) (l.drop (k+1))):=by rw[aA h];rfl
  have step:∀ {R:Type} (kn:AS->Option R) (kx:Exit->AS->Option R),aD.L0.R (t,l,(l.length:Int),(k:Int),m) kn kx=aJ (!(xm m l[k]) && zO l[k]) (kn (aD.L0.st (t,l,(l.length:Int),((k+1:Nat):Int),lu gV l[k].1 true m))) (kx (aD.L0.bV ()).1 (aD.L0.bV ()).2):=by
   intro R kn kx
   rw[aD.L0.step,bI (by omega),bF (by omega) (by omega),aa,n1,N.pJ (by omega),jx.run (d:=l[k].2.1) trivial]
   simp only[ah,ab,jx.add,jx.F]
   have e:(fj gV l[k].1 m).getD false=xm m l[k]:=rfl
   rw[e]
   cases xm m l[k]
   ·simp only[gk,cv,ai,zO]
    by_cases h1:l[k].1.2.1 < 0
    ·rw[bI h1,ah,cR (λx=>by omega)];rfl
    ·rw[bp h1,ai]
     by_cases h2:64<=l[k].1.2.1
     ·rw[lG h2,ah,cR (λx=>by omega)];rfl
     ·rw[iU h2,ai,aO ⟨by omega,by omega⟩]
      cases uD l[k].2.1 <;> rfl
   ·rfl
  cases hp:(!(xm m l[k]) && zO l[k])
  ·right
   refine⟨aD.L0.bV (),?_,λkn kx=> ?_⟩
   ·simp only[aD.L0.add,aD.L0.F,aa,hd,hp,fK,cF,if_false]
    rfl
   ·rw[step,hp,ai]
  ·left
   refine⟨(t,l,l.length,((k+1:Nat):Int),lu gV l[k].1 true m),⟨hb,rfl,k+1,by omega,rfl⟩,by simp only[aa];omega,?_,λkn kx=> ?_⟩
   ·simp only[aD.L0.add,aD.L0.F,aa,hd,hp,cv]
   ·rw[step,hp,ah]
 ·right
  obtain rfl:k=l.length:=by omega
  refine⟨aD.L0.kI t,?_,λkn kx=> ?_⟩
  ·simp only[aD.L0.add,aD.L0.F,aa,bH]
   rfl
  ·rw[aD.L0.step]
   simp(disch:=omega) only[↓S1,↓if_pos,↓if_neg,if_pos,if_neg,if_true,if_false,S2]
theorem aD.L1.ok:aD.L1.Ok:=by
 refine aD.L1.aI (λ(s,l,n,i)=>l.length - i.toNat) ?_
 rintro⟨s,l,n,i⟩ ⟨hl,hb,rfl,k,hk,rfl⟩
 have hb:l.length<=9223372036854775807:=hb
 have hk:k<=l.length:=hk
 by_cases h:k < l.length
 ·have hx:ua l[k].2.1:=hl _ (List.getElem_mem h)
  have n1:nth lg l k=l[k]:=dP (t:=lg) h
  have hd:qm s (l.drop k)=((ud s l[k].1 && kW l[k].2.1) && qm (s+l[k].1) (l.drop (k+1))):=by rw[aA h];rfl
  have step:∀ {R:Type} (kn:AS->Option R) (kx:Exit->AS->Option R),aD.L1.R (s,l,(l.length:Int),(k:Int)) kn kx=aJ (ud s l[k].1 && kW l[k].2.1) (kn (aD.L1.st (s+l[k].1,l,(l.length:Int),((k+1:Nat):Int)))) (kx (aD.L1.bV ()).1 (aD.L1.bV ()).2):=by
   intro R kn kx
   rw[aD.L1.step,bI (by omega),bF (by omega) (by omega),aa,n1,N.pJ (by omega),jo.run (d:=(s,l[k].1)) trivial,bk.run (d:=l[k].2.1) hx]
   simp only[ah,ab,jo.add,jo.F,bk.add,bk.F]
   cases ud s l[k].1
   ·rfl
   ·cases kW l[k].2.1 <;> rfl
  cases hp:(ud s l[k].1 && kW l[k].2.1)
  ·right
   refine⟨aD.L1.bV (),?_,λkn kx=> ?_⟩
   ·simp only[aD.L1.add,aD.L1.F,aa,hd,hp,fK,cF,if_false]
    rfl
   ·rw[step,hp,ai]
  ·left
   refine⟨(s+l[k].1,l,l.length,((k+1:Nat):Int)),⟨hl,hb,rfl,k+1,by omega,rfl⟩,by simp only[aa];omega,?_,λkn kx=> ?_⟩
   ·simp only[aD.L1.add,aD.L1.F,aa,hd,hp,cv]
   ·rw[step,hp,ah]
 ·right
  obtain rfl:k=l.length:=by omega
  refine⟨aD.L1.kI (),?_,λkn kx=> ?_⟩
  ·simp only[aD.L1.add,aD.L1.F,aa,bH]
   rfl
  ·rw[aD.L1.step]
   simp(disch:=omega) only[↓S1,↓if_pos,↓if_neg,if_pos,if_neg,if_true,if_false,S2]
theorem aD.ok:aD.Ok:=by
 rintro⟨is,os,nt,u⟩ ⟨hl,h1,h2⟩
 have h1:is.length<=9223372036854775807:=h1
 have h2:os.length<=9223372036854775807:=h2
 rw[aD.eq,aD.L0.run (d:=((is,os,nt,u),is,is.length,0,[])) ⟨h1,rfl,0,by omega,rfl⟩]
 simp only[ab,aD.L0.add,aD.L0.F,bK,aW,aD.add,aD.F,jQ,yh]
 by_cases a1:is.length < 1
 ·rw[bI (by omega),ah,cR (λx=>by omega)];rfl
 rw[bp (by omega),ai]
 by_cases a2:64 < is.length
 ·rw[fA (by omega),ah,cR (λx=>by omega)];rfl
 rw[dW (by omega),ai]
 by_cases a3:64 < os.length
 ·rw[fA (by omega),ah,cR (λx=>by omega)];rfl
 rw[dW (by omega),ai]
 by_cases a4:nt < 0
 ·rw[bI (by omega),ah,cR (λx=>by omega)];rfl
 rw[bp (by omega),ai,aO ⟨by omega,by omega,by omega,by omega⟩]
 cases tO [] is
 ·rfl
 ·simp only[if_true,cv]
  show aj (aD.L1.call (0,os,(os.length:Int),0)) _=_
  rw[aD.L1.run (d:=(0,os,os.length,0)) ⟨hl,h2,rfl,0,by omega,rfl⟩]
  simp only[ab,aD.L1.add,aD.L1.F,bK,aW]
  cases qm 0 os <;> rfl
def aD.E:=Entry.dp [some jP] aD.st aD.aw aD.add aD.F aD.out
def aD.call:aD.D->Option aD.X:=cj aD.E aD.st
theorem aD.run:cl aD.call aD.aw aD.add aD.F:=dw (du [.d jP] λ_=>by kernel_rfl)
def aD.sg:SG Tryz.prog:=⟨50,aP,aD.E,.fn 2 (by kernel_rfl) aD.ok (And.intro (.dp aD.L0.ok (by kernel_rfl)) (And.intro (.dp aD.L1.ok (by kernel_rfl)) trivial))⟩
abbrev dT.D:=Bs
def dT.st:dT.D->SA:=λsv=>([.d tU sv],[])
abbrev dT.Y:=Bs
abbrev dT.X:=Bs
def dT.out:dT.X->aZ:=λx=>⟨.d tU x,[],[]⟩
def dT.add:dT.D->dT.Y->dT.X:=λsv y=>y
def dT.aw:dT.D->Prop:=λl=>l.length<=1000000
def dT.F:dT.D->dT.Y:=λl=>l
def dT.G:fD:=gz (P:=Tryz.prog) []
def dT.an:fT:= {da:=[5],res:=[some tU]}
def dT.A:= @dq Tryz.prog dT.G dT.an 0 Tryz.f98 _ dT.st
abbrev dT.Ok:=dr @dT.A dT.aw dT.add dT.F dT.out
theorem dT.eq{R:Type}(sv:Bs)(k:aZ->Option R):dT.A sv k=
  aJ (decide (0 < (List.length sv))) (
   aJ (fk (0+(List.length sv)) 8) (
   aJ (decide (0=0/\(0+(0+(List.length sv)))<=(List.length ((List.take 0 (List.replicate 0 (0:Int)))++sv)))) (
   k (dT.out (cut ((List.take 0 (List.replicate 0 (0:Int)))++sv) 0 (0+(List.length sv))))) none) none) (
   nd (
    k (dT.out ([]:List Int))) (
    aJ (fk (0+(List.length sv)) 8) (
    aJ (decide (0=0/\(0+(0+(List.length sv)))<=(List.length ((List.take 0 (List.replicate 0 (0:Int)))++sv)))) (
    k (dT.out (cut ((List.take 0 (List.replicate 0 (0:Int)))++sv) 0 (0+(List.length sv))))) none) none)):=by kernel_rfl
theorem dT.ok:dT.Ok:=by
 intro l hl
 have hl:l.length<=1000000:=hl
 have hr:fk l.length 8=true:=fV (by omega) (by omega)
 have e0:(List.take 0 (List.replicate 0 0):List Int)=[]:=rfl
 rw[dT.eq]
 simp only[bl,hr,ah,e0,bu,aC,and_self,decide_true,iV,dT.add,dT.F]
 by_cases h:0 < l.length
 ·simp only[aO h,ah]
 ·have:l=[]:=df (by omega)
  subst this
  simp only[bJ,wX,cR (nk 0),ai]
def dT.E:=Entry.dp [some tU] dT.st dT.aw dT.add dT.F dT.out
def dT.call:dT.D->Option dT.X:=cj dT.E dT.st
theorem dT.run:cl dT.call dT.aw dT.add dT.F:=dw (du [.d tU] λ_=>by kernel_rfl)
def dT.sg:SG Tryz.prog:=⟨98,aP,dT.E,.fn 0 (by kernel_rfl) dT.ok trivial⟩
def vD(l:List Int):Lk:=([(l,0,0,0,())],())
def AH(own rev delay:Int):Lk:=([([rev],0,0,0,()),([own],0,delay,0,())],())
def uI(own:Int):Lk:=([([own],0,0,0,()),([],0,16,0,())],())
abbrev j7.D:=Bs
def j7.st:j7.D->SA:=λl=>([.d tU l],[])
abbrev j7.Y:=Lk
abbrev j7.X:=Lk
def j7.out:j7.X->aZ:=λx=>⟨.d s7 x,[],[]⟩
def j7.add:j7.D->j7.Y->j7.X:=λl y=>y
def j7.aw:j7.D->Prop:=λl=>l.length<=1000000
def j7.F:j7.D->j7.Y:=λl=>vD l
def j7.G:fD:=gz (P:=Tryz.prog) [dT.sg]
def j7.an:fT:= {}
def j7.A:= @dq Tryz.prog j7.G j7.an 0 Tryz.f44 _ j7.st
abbrev j7.Ok:=dr @j7.A j7.aw j7.add j7.F j7.out
theorem j7.eq{R:Type}(l:Bs)(k:aZ->Option R):j7.A l k=
 aj (dT.call l) λx1=>
 k (j7.out ([(x1,((0:Int),((0:Int),((0:Int),()))))],())):=by kernel_rfl
theorem j7.ok:j7.Ok:=by
 intro l hl
 rw[j7.eq,dT.run (d:=l) hl]
 rfl
def j7.E:=Entry.dp [some tU] j7.st j7.aw j7.add j7.F j7.out
def j7.call:j7.D->Option j7.X:=cj j7.E j7.st
theorem j7.run:cl j7.call j7.aw j7.add j7.F:=dw (du [.d tU] λ_=>by kernel_rfl)
def j7.sg:SG Tryz.prog:=⟨44,aP,j7.E,.fn 0 (by kernel_rfl) j7.ok trivial⟩
abbrev jE.D:=Int
def jE.st:jE.D->SA:=λp=>([.d tu p],[])
abbrev jE.Y:=Lk
abbrev jE.X:=Lk
def jE.out:jE.X->aZ:=λx=>⟨.d s7 x,[],[]⟩
def jE.add:jE.D->jE.Y->jE.X:=λp y=>y
def jE.aw:jE.D->Prop:=λ_=>True
def jE.F:jE.D->jE.Y:=λp=>vD [p]
def jE.G:fD:=gz (P:=Tryz.prog) [j7.sg]
def jE.an:fT:= {}
def jE.A:= @dq Tryz.prog jE.G jE.an 0 Tryz.f17 _ jE.st
abbrev jE.Ok:=dr @jE.A jE.aw jE.add jE.F jE.out
theorem jE.eq{R:Type}(p:Int)(k:aZ->Option R):jE.A p k=
 aj (j7.call [p]) λx1=>
 k (jE.out x1):=by kernel_rfl
theorem jE.ok:jE.Ok:=by
 intro p _
 rw[jE.eq,j7.run (d:=[p]) (by show [p].length<=_;simp)]
 rfl
def jE.E:=Entry.dp [some tu] jE.st jE.aw jE.add jE.F jE.out
def jE.call:jE.D->Option jE.X:=cj jE.E jE.st
theorem jE.run:cl jE.call jE.aw jE.add jE.F:=dw (du [.d tu] λ_=>by kernel_rfl)
def jE.sg:SG Tryz.prog:=⟨17,aP,jE.E,.fn 0 (by kernel_rfl) jE.ok trivial⟩
abbrev ik.D:=Int×Int
def ik.st:ik.D->SA:=λ(a,b)=>([.d tu a,.d tu b],[])
abbrev ik.Y:=Lk
abbrev ik.X:=Lk
def ik.out:ik.X->aZ:=λx=>⟨.d s7 x,[],[]⟩
def ik.add:ik.D->ik.Y->ik.X:=λ(a,b) y=>y
def ik.aw:ik.D->Prop:=λ_=>True
def ik.F:ik.D->ik.Y:=λ(p,q)=>vD [p,q]
def ik.G:fD:=gz (P:=Tryz.prog) [j7.sg]
def ik.an:fT:= {}
def ik.A:= @dq Tryz.prog ik.G ik.an 0 Tryz.f100 _ ik.st
abbrev ik.Ok:=dr @ik.A ik.aw ik.add ik.F ik.out
theorem ik.eq{R:Type}(a:Int)(b:Int)(k:aZ->Option R):ik.A (a,b) k=
 aj (j7.call [a,b]) λx1=>
 k (ik.out x1):=by kernel_rfl
theorem ik.ok:ik.Ok:=by
 rintro⟨p,q⟩ _
 rw[ik.eq,j7.run (d:=[p,q]) (by show [p,q].length<=_;simp)]
 rfl
def ik.E:=Entry.dp [some tu,some tu] ik.st ik.aw ik.add ik.F ik.out
def ik.call:ik.D->Option ik.X:=cj ik.E ik.st
theorem ik.run:cl ik.call ik.aw ik.add ik.F:=dw (du [.d tu,.d tu] λ_=>by kernel_rfl)
def ik.sg:SG Tryz.prog:=⟨100,aP,ik.E,.fn 0 (by kernel_rfl) ik.ok trivial⟩
abbrev il.D:=Int×Int×Int
def il.st:il.D->SA:=λ(own,rev,delay)=>([.d tu own,.d tu rev,.d ti delay],[])
abbrev il.Y:=Lk
abbrev il.X:=Lk
def il.out:il.X->aZ:=λx=>⟨.d s7 x,[],[]⟩
def il.add:il.D->il.Y->il.X:=λ(own,rev,delay) y=>y
def il.aw:il.D->Prop:=λ_=>True
def il.F:il.D->il.Y:=λ(o,r,d)=>AH o r d
def il.G:fD:=gz (P:=Tryz.prog) []
def il.an:fT:= {}
def il.A:= @dq Tryz.prog il.G il.an 0 Tryz.f82 _ il.st
abbrev il.Ok:=dr @il.A il.aw il.add il.F il.out
theorem il.eq{R:Type}(own:Int)(rev:Int)(delay:Int)(k:aZ->Option R):il.A (own,rev,delay) k=
 k (il.out ([([rev],((0:Int),((0:Int),((0:Int),())))),([own],((0:Int),(delay,((0:Int),()))))],())):=by kernel_rfl
theorem il.ok:il.Ok:=by
 rintro⟨o,r,d⟩ _
 rw[il.eq]
 rfl
def il.E:=Entry.dp [some tu,some tu,some ti] il.st il.aw il.add il.F il.out
def il.call:il.D->Option il.X:=cj il.E il.st
theorem il.run:cl il.call il.aw il.add il.F:=dw (du [.d tu,.d tu,.d ti] λ_=>by kernel_rfl)
def il.sg:SG Tryz.prog:=⟨82,aP,il.E,.fn 0 (by kernel_rfl) il.ok trivial⟩
abbrev dG.D:=Int
def dG.st:dG.D->SA:=λown=>([.d tu own],[])
abbrev dG.Y:=Lk
abbrev dG.X:=Lk
def dG.out:dG.X->aZ:=λx=>⟨.d s7 x,[],[]⟩
def dG.add:dG.D->dG.Y->dG.X:=λown y=>y
def dG.aw:dG.D->Prop:=λ_=>True
def dG.F:dG.D->dG.Y:=λo=>uI o
def dG.G:fD:=gz (P:=Tryz.prog) []
def dG.an:fT:= {}
def dG.A:= @dq Tryz.prog dG.G dG.an 0 Tryz.f83 _ dG.st
abbrev dG.Ok:=dr @dG.A dG.aw dG.add dG.F dG.out
theorem dG.eq{R:Type}(own:Int)(k:aZ->Option R):dG.A own k=
 k (dG.out ([([own],((0:Int),((0:Int),((0:Int),())))),(([]:List Int),((0:Int),((16:Int),((0:Int),()))))],())):=by kernel_rfl
theorem dG.ok:dG.Ok:=by
 intro o _
 rw[dG.eq]
 rfl
def dG.E:=Entry.dp [some tu] dG.st dG.aw dG.add dG.F dG.out
def dG.call:dG.D->Option dG.X:=cj dG.E dG.st
theorem dG.run:cl dG.call dG.aw dG.add dG.F:=dw (du [.d tu] λ_=>by kernel_rfl)
def dG.sg:SG Tryz.prog:=⟨83,aP,dG.E,.fn 0 (by kernel_rfl) dG.ok trivial⟩
def rX(o:List Int)(ks:List Int):List Int:=ks.foldl (λo p=>o++mu p) o
def Ra(o:List Int)(b:qy):List Int:=jN (jN (rX (jN o b.1.length) b.1) b.2.1) b.2.2.1++mu b.2.2.2.1
def Ny(l:Lk):List Int:=if kW l then l.1.foldl Ra (jN [] l.1.length) else []
theorem zV:∀(ks:List Int) (o:List Int),(rX o ks).length=o.length+8*ks.length
 |[],o=>rfl
 |k::ks,o=>by
  show(rX (o++mu k) ks).length=_
  rw[zV ks,ae,dO,aN];omega
theorem J0(o:List Int)(b:qy)(h:b.1.length<=12):(Ra o b).length<=o.length+200:=by
 unfold Ra
 have h1:=lb o b.1.length
 have h2:=zV b.1 (jN o b.1.length)
 have h3:=lb (rX (jN o b.1.length) b.1) b.2.1
 have h4:=lb (jN (rX (jN o b.1.length) b.1) b.2.1) b.2.2.1
 rw[ae,dO];omega
def OW(n:Int):Prop:=n<=9223372036854775807
def UJ(b:qy):Prop:=b.1.length<=12/\OW b.2.1/\OW b.2.2.1
theorem Rb{b:qy}(h:rK b=true):UJ b:=by
 unfold rK zN at h
 simp only[ak,decide_eq_true_eq]at h
 obtain⟨h1,_,h2,h3,_⟩:=h
 exact⟨h1,by unfold OW;omega,by unfold OW;omega⟩
theorem Jb(o:List Int)(ks:List Int)(k:Nat)(h:k < ks.length):rX o (ks.drop k)=rX (o++mu ks[k]) (ks.drop (k+1)):=by rw[aA h];rfl
abbrev aS.L0.D:=Bs×(List qy)×Int×Int
def aS.L0.st:aS.L0.D->AS:=λ(outv,t16,t17,t18)=>⟨([.undef,.undef,.undef,.d tB outv]++bG 12 ([.d (.slice pT) t16,.d ti t17,.d ti t18]++bG 31 [])),[],(List.replicate 50 [])⟩
abbrev aS.L0.Y0:=Bs
abbrev aS.L0.X0:=Bs
def aS.L0.bV:aS.L0.X0->Exit×AS:=λx=>(.exit 0,⟨([.undef,.undef,.undef,.d tB x]++bG 46 []),[],(List.replicate 50 [])⟩)
abbrev aS.L0.X:=aS.L0.X0
abbrev aS.L0.Y:=aS.L0.Y0
def aS.L0.out:aS.L0.X->Out (Exit×AS):=λx=> .ok (aS.L0.bV x)
def aS.L0.add:aS.L0.D->aS.L0.Y->aS.L0.X:=λ(outv,t16,t17,t18) y=>y
abbrev aS.L1.D:=Bs×(List qy)×Int×Int×Bs×Int×Int×qy
def aS.L1.st:aS.L1.D->AS:=λ(xW,A7,A8,A9,t28,t29,t30,n5)=>⟨([.undef,.undef,.undef,.d tB xW,.undef,.ptr (.new 5 0) 0 [] 0]++bG 10 ([.d (.slice pT) A7,.d ti A8,.d ti A9]++bG 9 ([.d tU t28,.d ti t29,.d ti t30]++bG 19 []))),[],(db 5 ([[.obj 0 false (.d pT n5)]]++db 44 []))⟩
abbrev aS.L1.Y0:=Bs
abbrev aS.L1.X0:=((List qy)×Int×Int×qy)×(Bs)
def aS.L1.bV:aS.L1.X0->Exit×AS:=λx=>(.exit 2,⟨([.undef,.undef,.undef,.d tB x.2,.undef,.ptr (.new 5 0) 0 [] 0]++bG 10 ([.d (.slice pT) x.1.1,.d ti x.1.2.1,.d ti x.1.2.2.1]++bG 31 [])),[],(db 5 ([[.obj 0 false (.d pT x.1.2.2.2)]]++db 44 []))⟩)
abbrev aS.L1.X:=aS.L1.X0
abbrev aS.L1.Y:=aS.L1.Y0
def aS.L1.out:aS.L1.X->Out (Exit×AS):=λx=> .ok (aS.L1.bV x)
def aS.L1.add:aS.L1.D->aS.L1.Y->aS.L1.X:=λ(xW,A7,A8,A9,t28,t29,t30,n5) y=>((A7,A8,A9,n5),y)
abbrev aS.D:=Lk
def aS.st:aS.D->SA:=λl=>([.d s7 l],[])
abbrev aS.Y:=Bs
abbrev aS.X:=Bs
def aS.out:aS.X->aZ:=λx=>⟨.d tB x,[],[]⟩
def aS.add:aS.D->aS.Y->aS.X:=λl y=>y
def aS.L1.aw:aS.L1.D->Prop:=λ(o,bs,n,i,ks,m,j,b)=>ks.length<=12/\o.length+8*ks.length<=80000000+8*j.toNat/\m=ks.length/\∃k:Nat,k<=ks.length/\j=k
def aS.L1.F:aS.L1.D->aS.L1.Y:=λ(o,bs,n,i,ks,m,j,b)=>rX o (ks.drop j.toNat)
def aS.L0.aw:aS.L0.D->Prop:=λ(o,bs,n,i)=>(∀b∈bs,UJ b)/\bs.length<=4/\o.length<=1000+200*i.toNat/\n=bs.length/\∃k:Nat,k<=bs.length/\i=k
def aS.L0.F:aS.L0.D->aS.L0.Y:=λ(o,bs,n,i)=>(bs.drop i.toNat).foldl Ra o
def aS.aw:aS.D->Prop:=λl=>Mm l/\l.1.length<=9223372036854775807
def aS.F:aS.D->aS.Y:=λl=>Ny l
def aS.G:fD:=gz (P:=Tryz.prog) [bk.sg,gD.sg,gR.sg]
def aS.L0.E:=cV.dp aS.L0.st aS.L0.aw aS.L0.add aS.L0.F aS.L0.out
def aS.L0.call:aS.L0.D->Option aS.L0.X:=eI aS.L0.E aS.L0.st
def aS.L1.E:=cV.dp aS.L1.st aS.L1.aw aS.L1.add aS.L1.F aS.L1.out
def aS.L1.call:aS.L1.D->Option aS.L1.X:=eI aS.L1.E aS.L1.st
def aS.an:fT:= {loops:=oF [(5,{bS:=[3,16,17,18]}),(9,{bS:=[3,5,16,17,18,28,29,30],sites:=[5]})],outs:=oE [(5,{bS:=[3]},{bS:=[2]}),(9,{bS:=[3,5,16,17,18],sites:=[5]},{bS:=[2]})],jw:=pL [(5,aS.L0.E),(9,aS.L1.E)],res:=[some tB]}
def aS.A:= @dq Tryz.prog aS.G aS.an 0 Tryz.f110 _ aS.st
abbrev aS.Ok:=dr @aS.A aS.aw aS.add aS.F aS.out
def aS.L0.R:= @dn Tryz.prog aS.G aS.an 0 Tryz.f110 0 _ aS.L0.st
abbrev aS.L0.Ok:=gw Tryz.prog aS.G aS.an 0 Tryz.f110 0 aS.L0.st aS.L0.aw aS.L0.add aS.L0.F aS.L0.out
def aS.L1.R:= @dn Tryz.prog aS.G aS.an 0 Tryz.f110 1 _ aS.L1.st
abbrev aS.L1.Ok:=gw Tryz.prog aS.G aS.an 0 Tryz.f110 1 aS.L1.st aS.L1.aw aS.L1.add aS.L1.F aS.L1.out
theorem aS.L0.run:cl aS.L0.call aS.L0.aw aS.L0.add aS.L0.F:=gT (gS [.d tB,.d (.slice pT),.d ti,.d ti] λ_=>by kernel_rfl)
theorem aS.L0.aI:jk @aS.L0.R aS.L0.st aS.L0.aw aS.L0.add aS.L0.F aS.L0.bV aS.L0.Ok:=jm
theorem aS.L0.step{R:Type}(outv:Bs)(t16:(List qy))(t17:Int)(t18:Int)(kn:AS->Option R)(kx:Exit->AS->Option R):aS.L0.R (outv,t16,t17,t18) kn kx=
  aJ ((jK t18 t17)) (
   aJ (fp t18 (((List.length t16):Nat):Int)) (
   aj (gD.call (outv,(((List.length (nth pT t16 (Int.toNat t18)).1):Nat):Int))) λx1=>
   aj (aS.L1.call (x1,t16,t17,t18,(nth pT t16 (Int.toNat t18)).1,(((List.length (nth pT t16 (Int.toNat t18)).1):Nat):Int),(0:Int),(nth pT t16 (Int.toNat t18)))) λx2=>
   aj (gD.call (x2.2,x2.1.2.2.2.2.1)) λx3=>
   aj (gD.call (x3,x2.1.2.2.2.2.2.1)) λx4=>
   aj (gR.call (x4,x2.1.2.2.2.2.2.2.1)) λx5=>
   kn (aS.L0.st (x5,x2.1.1,x2.1.2.1,(bO .i64 x2.1.2.2.1 (1:Int))))) none) (
   kx (aS.L0.bV outv).1 (aS.L0.bV outv).2):=by kernel_rfl
theorem aS.L1.run:cl aS.L1.call aS.L1.aw aS.L1.add aS.L1.F:=gT (gS [.d tB,.d (.slice pT),.d ti,.d ti,.d tU,.d ti,.d ti,.d pT] λ_=>by kernel_rfl)
theorem aS.L1.aI:jk @aS.L1.R aS.L1.st aS.L1.aw aS.L1.add aS.L1.F aS.L1.bV aS.L1.Ok:=jm
theorem aS.L1.step{R:Type}(xW:Bs)(A7:(List qy))(A8:Int)(A9:Int)(t28:Bs)(t29:Int)(t30:Int)(n5:qy)(kn:AS->Option R)(kx:Exit->AS->Option R):aS.L1.R (xW,A7,A8,A9,t28,t29,t30,n5) kn kx=
  aJ ((jK t30 t29)) (
   aJ (fp t30 (((List.length t28):Nat):Int)) (
   aj (gR.call (xW,(nth tu t28 (Int.toNat t30)))) λx1=>
   kn (aS.L1.st (x1,A7,A8,A9,t28,t29,(bO .i64 t30 (1:Int)),n5))) none) (
   kx (aS.L1.bV ((A7,A8,A9,n5),xW)).1 (aS.L1.bV ((A7,A8,A9,n5),xW)).2):=by kernel_rfl
theorem aS.eq{R:Type}(l:Lk)(k:aZ->Option R):aS.A l k=
  aj (bk.call l) λx1=>
  aJ ((!x1)) (
   k (aS.out ([]:List Int))) (
   aj (gD.call (([]:List Int),(((List.length l.1):Nat):Int))) λx2=>
   aj (aS.L0.call (x2,l.1,(((List.length l.1):Nat):Int),(0:Int))) λx9=>
   k (aS.out x9)):=by kernel_rfl
theorem aS.L1.ok:aS.L1.Ok:=by
 refine aS.L1.aI (λ(o,bs,n,i,ks,m,j,b)=>ks.length - j.toNat) ?_
 rintro⟨o,bs,n,i,ks,m,j,b⟩ ⟨RO,hl,rfl,k,hk,rfl⟩
 have RO:ks.length<=12:=RO
 have hk:k<=ks.length:=hk
 have hl:o.length+8*ks.length<=80000000+8*(k:Int).toNat:=hl
 rw[aa]at hl
 by_cases h:k < ks.length
 ·left
  have n1:nth (.int .u64) ks k=ks[k]:=dP (t:= .int .u64) h
  refine⟨(o++mu ks[k],bs,n,i,ks,ks.length,((k+1:Nat):Int),b),⟨RO,by rw[ae,dO,aa];omega,rfl,k+1,by omega,rfl⟩,by simp only[aa];omega,?_,λkn kx=> ?_⟩
  ·simp only[aS.L1.add,aS.L1.F,aa]
   rw[Jb _ _ _ h]
  ·rw[aS.L1.step]
   simp(disch:=omega) only[↓S1,↓if_pos,↓if_neg,if_pos,if_neg,if_true,if_false,S2,n1]
   rw[gR.run (d:=(o,ks[k])) (by show o.length<=90000000;omega)]
   rfl
 ·right
  obtain rfl:k=ks.length:=by omega
  intro R kn kx
  rw[aS.L1.step]
  simp(disch:=omega) only[↓S1,↓if_pos,↓if_neg,if_pos,if_neg,if_true,if_false,S2,aS.L1.add,aS.L1.F,bH]
  rfl
theorem aS.L0.ok:aS.L0.Ok:=by
 refine aS.L0.aI (λ(o,bs,n,i)=>bs.length - i.toNat) ?_
 rintro⟨o,bs,n,i⟩ ⟨hb,h4,hl,rfl,k,hk,rfl⟩
 have h4:bs.length<=4:=h4
 have hk:k<=bs.length:=hk
 have hl:o.length<=1000+200*(k:Int).toNat:=hl
 rw[aa]at hl
 by_cases h:k < bs.length
 ·left
  have hx:=hb _ (List.getElem_mem h)
  have n1:nth (.pair (.slice (.int .u64)) (.pair (.int .i64) (.pair (.int .i64) (.pair (.int .u64) .unit)))) bs k=bs[k]:=dP (t:=(.pair (.slice (.int .u64)) (.pair (.int .i64) (.pair (.int .i64) (.pair (.int .u64) .unit))))) h
  have e0:=J0 o bs[k] hx.1
  refine⟨(Ra o bs[k],bs,bs.length,((k+1:Nat):Int)),⟨hb,h4,by rw[aa];omega,rfl,k+1,by omega,rfl⟩,by simp only[aa];omega,?_,λkn kx=> ?_⟩
  ·simp only[aS.L0.add,aS.L0.F,aa]
   rw[aA h]
   rfl
  ·rw[aS.L0.step,bI (by omega),bF (by omega) (by omega),aa,n1]
   obtain⟨⟨ks,af,dl,sc,u⟩,Pj⟩:∃b,bs[k]=b:=⟨_,rfl⟩
   rw[Pj]at hx e0 ⊢
   obtain⟨Tz,ha,hd⟩:=hx
   have Tz:ks.length<=12:=Tz
   have ha:af<=9223372036854775807:=ha
   have hd:dl<=9223372036854775807:=hd
   have l1:=lb o ks.length
   have l2:=zV ks (jN o ks.length)
   have l3:=lb (rX (jN o ks.length) ks) af
   have l4:=lb (jN (rX (jN o ks.length) ks) af) dl
   simp only[ah]
   rw[gD.run (d:=(o,(ks.length:Int))) ⟨by show o.length<=90000000;omega,by show(ks.length:Int)<=9223372036854775807;omega⟩]
   simp only[ab,gD.add,gD.F]
   rw[aS.L1.run (d:=(jN o ks.length,bs,bs.length,k,ks,ks.length,0,(ks,af,dl,sc,u))) ⟨Tz,by show(jN o ks.length).length+8*ks.length<=_;omega,rfl,0,by omega,rfl⟩]
   simp only[ab,aS.L1.add,aS.L1.F,bK,aW]
   rw[gD.run (d:=(rX (jN o ks.length) ks,af)) ⟨by show(rX (jN o ks.length) ks).length<=90000000;omega,ha⟩]
   simp only[ab,gD.add,gD.F]
   rw[gD.run (d:=(jN (rX (jN o ks.length) ks) af,dl)) ⟨by show(jN (rX (jN o ks.length) ks) af).length<=90000000;omega,hd⟩]
   simp only[ab,gD.add,gD.F]
   rw[gR.run (d:=(jN (jN (rX (jN o ks.length) ks) af) dl,sc)) (by show(jN (jN (rX (jN o ks.length) ks) af) dl).length<=90000000;omega)]
   simp only[ab,gR.add,gR.F]
   rw[N.pJ (by omega)]
   rfl
 ·right
  obtain rfl:k=bs.length:=by omega
  intro R kn kx
  rw[aS.L0.step]
  simp(disch:=omega) only[↓S1,↓if_pos,↓if_neg,if_pos,if_neg,if_true,if_false,S2,aS.L0.add,aS.L0.F,bH]
  rfl
theorem NB{l:Lk}(h:kW l=true):(∀b∈l.1,UJ b)/\0 < l.1.length/\l.1.length<=4:=by
 unfold kW at h
 simp only[ak,fy,decide_eq_true_eq]at h
 exact⟨λb hb=>Rb (h.1 b hb),h.2⟩
theorem aS.ok:aS.Ok:=by
 rintro l ⟨hl,hb⟩
 have hl:Mm l:=hl
 rw[aS.eq,bk.run (d:=l) ⟨hl,hb⟩]
 simp only[ab,bk.add,bk.F,aS.add,aS.F,Ny]
 cases jV:kW l
 ·rfl
 ·obtain⟨h1,h2,h3⟩:=NB jV
  have l1:=lb [] l.1.length
  have l0:([]:List Int).length=0:=rfl
  simp only[bY,ai,if_true]
  rw[gD.run (d:=([],(l.1.length:Int))) ⟨by show([]:List Int).length<=90000000;omega,by show(l.1.length:Int)<=9223372036854775807;omega⟩]
  simp only[ab,gD.add,gD.F]
  rw[aS.L0.run (d:=(jN [] l.1.length,l.1,l.1.length,0)) ⟨h1,h3,by show(jN [] l.1.length).length<=_;omega,rfl,0,by omega,rfl⟩]
  rfl
theorem FN(l:Lk):(Ny l).length<=1000:=by
 unfold Ny
 split
 ·rename_i h
  obtain⟨h1,h2,h3⟩:=NB h
  have key:∀(bs:List qy) (o:List Int),(∀b∈bs,UJ b)->(bs.foldl Ra o).length<=o.length+200*bs.length:=by
   intro bs
   induction bs with
   |nil=>intro o _;exact aC _
   |cons b bs ih=>
    intro o hb
    have e1:=ih (Ra o b) λx hx=>hb x (bj _ hx)
    have e2:=J0 o b (hb b bq).1
    rw[iv,aN];omega
  have e:=key l.1 (jN [] l.1.length) h1
  have e2:=lb [] l.1.length
  have l0:([]:List Int).length=0:=rfl
  omega
 ·exact bm _
def Us:ByteArray:=⟨#[108,111,99,107]⟩
def U8(l:Lk):List Int:=if kW l then Di Us [Ny l] else List.replicate 32 0
def aS.E:=Entry.dp [some s7] aS.st aS.aw aS.add aS.F aS.out
def aS.call:aS.D->Option aS.X:=cj aS.E aS.st
theorem aS.run:cl aS.call aS.aw aS.add aS.F:=dw (du [.d s7] λ_=>by kernel_rfl)
def aS.sg:SG Tryz.prog:=⟨110,aP,aS.E,.fn 2 (by kernel_rfl) aS.ok (And.intro (.dp aS.L0.ok (by kernel_rfl)) (And.intro (.dp aS.L1.ok (by kernel_rfl)) trivial))⟩
abbrev ju.D:=Lk
def ju.st:ju.D->SA:=λl=>([.d s7 l],[])
abbrev ju.Y:=Bs
abbrev ju.X:=Bs
def ju.out:ju.X->aZ:=λx=>⟨.d tH x,[],[]⟩
def ju.add:ju.D->ju.Y->ju.X:=λl y=>y
def ju.aw:ju.D->Prop:=λl=>Mm l/\l.1.length<=9223372036854775807
def ju.F:ju.D->ju.Y:=λl=>U8 l
def ju.G:fD:=gz (P:=Tryz.prog) [bk.sg,aS.sg,dH.sg]
def ju.an:fT:= {}
def ju.A:= @dq Tryz.prog ju.G ju.an 0 Tryz.f81 _ ju.st
abbrev ju.Ok:=dr @ju.A ju.aw ju.add ju.F ju.out
theorem ju.eq{R:Type}(l:Lk)(k:aZ->Option R):ju.A l k=
  aj (bk.call l) λx1=>
  aJ ((!x1)) (
   k (ju.out (List.replicate 32 (0:Int)))) (
   aj (aS.call l) λx2=>
   aj (dH.call ((⟨#[108,111,99,107]⟩:ByteArray),[x2])) λx3=>
   k (ju.out x3)):=by kernel_rfl
theorem ju.ok:ju.Ok:=by
 rintro l ⟨hl,hb⟩
 have hl:Mm l:=hl
 have hlen:=FN l
 rw[ju.eq,bk.run (d:=l) ⟨hl,hb⟩,aS.run (d:=l) ⟨hl,hb⟩]
 simp only[ab,bk.add,bk.F,aS.add,aS.F,ju.add,ju.F,U8]
 rw[dH.run (d:=((⟨#[108,111,99,107]⟩:ByteArray),[Ny l])) (Ig (by decide) (by omega))]
 cases kW l <;> rfl
def ju.E:=Entry.dp [some s7] ju.st ju.aw ju.add ju.F ju.out
def ju.call:ju.D->Option ju.X:=cj ju.E ju.st
theorem ju.run:cl ju.call ju.aw ju.add ju.F:=dw (du [.d s7] λ_=>by kernel_rfl)
def ju.sg:SG Tryz.prog:=⟨81,aP,ju.E,.fn 0 (by kernel_rfl) ju.ok trivial⟩
end Go.Ab
end
