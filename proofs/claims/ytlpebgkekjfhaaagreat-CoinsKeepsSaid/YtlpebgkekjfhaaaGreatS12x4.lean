/-
  Made short by a program of mine (wip/tools/mini.py).
-/
import Derived.Test.YtlpebgkekjfhaaaGreatS12x3
import Derived.Test.YtlpebgkekjfhaaaGreatProg
set_option linter.unusedVariables false
set_option linter.unusedSimpArgs false
namespace Go.Ab
open Go.Proofs
set_option maxRecDepth 100000
set_option linter.unusedVariables false
set_option linter.unusedSimpArgs false
set_option synthInstance.maxSize 5000
abbrev binary.D:=Bs
def binary.st:binary.D→SA:=fun b=>([.d tB b],[])
abbrev binary.Y:=Int
abbrev binary.X:=Int
def binary.out:binary.X→bk:=fun x=>⟨.d (.int .u32) x,[],[]⟩
def binary.add:binary.D→binary.Y→binary.X:=fun b y=>y
def binary.aC:binary.D→Prop:=fun b=>4≤b.length
def binary.F:binary.D→binary.Y:=fun b=>vw (Hi (b.getD 0 0) (b.getD 1 0) (b.getD 2 0) (b.getD 3 0))
noncomputable def binary.G:dZ:=fh (P:=Tryz.prog) []
noncomputable def binary.an:eO:= {}
noncomputable def binary.A:= @cZ Tryz.prog binary.G binary.an 0 Tryz.f277 _ binary.st
abbrev binary.Ok:=da @binary.A binary.aC binary.add binary.F binary.out
theorem binary.eq{R:Type}(b:Bs)(k:bk→Option R):binary.A b k=
 aJ (eJ (0:Int) (((List.length b):Nat):Int)) (
 aJ (eJ (1:Int) (((List.length b):Nat):Int)) (
 aJ (eJ (2:Int) (((List.length b):Nat):Int)) (
 aJ (eJ (3:Int) (((List.length b):Nat):Int)) (
 k (binary.out (cC .or .u32 (cC .or .u32 (cC .or .u32 (gS .u32 (dM .u32 (nth tb b 0)) (24:Int)) (gS .u32 (dM .u32 (nth tb b 1)) (16:Int))) (gS .u32 (dM .u32 (nth tb b 2)) (8:Int))) (dM .u32 (nth tb b 3))))) none) none) none) none:=by kernel_rfl
theorem binary.ok:binary.Ok:=by
 intro b h
 have h:4≤b.length:=h
 rw[binary.eq,bt (by omega) (by omega),bt (by omega) (by omega),bt (by omega) (by omega),bt (by omega) (by omega)]
 simp only[ag,AP,qn,iQ]
 rfl
noncomputable def binary.E:=Entry.cq [some tB] binary.st binary.aC binary.add binary.F binary.out
noncomputable def binary.call:binary.D→Option binary.X:=bT binary.E binary.st
theorem binary.run:bK binary.call binary.aC binary.add binary.F:=dh (de [.d tB] fun _=>by kernel_rfl)
noncomputable def binary.sg:SG Tryz.prog:=⟨277,aY,binary.E,.fn 0 (by kernel_rfl) binary.ok trivial⟩
abbrev cJ.D:=Int×Int
def cJ.st:cJ.D→SA:=fun(x,kv)=>([.d (.int .u32) x,.d ti kv],[])
abbrev cJ.Y:=Int
abbrev cJ.X:=Int
def cJ.out:cJ.X→bk:=fun x=>⟨.d (.int .u32) x,[],[]⟩
def cJ.add:cJ.D→cJ.Y→cJ.X:=fun(x,kv) y=>y
def rl(w:W)(k:Nat):W:=w <<< k ||| w >>> (32 - k)
def cJ.aC:cJ.D→Prop:=fun(x,k)=>0≤x∧x < 4294967296
def cJ.F:cJ.D→cJ.Y:=fun(x,k)=>vw (rl (BitVec.ofInt 32 x) (k%32).toNat)
noncomputable def cJ.G:dZ:=fh (P:=Tryz.prog) []
noncomputable def cJ.an:eO:= {}
noncomputable def cJ.A:= @cZ Tryz.prog cJ.G cJ.an 0 Tryz.f248 _ cJ.st
abbrev cJ.Ok:=da @cJ.A cJ.aC cJ.add cJ.F cJ.out
theorem cJ.eq{R:Type}(x:Int)(kv:Int)(k:bk→Option R):cJ.A (x,kv) k=
 aJ (ig (cC .and .u64 (dM .u64 kv) (31:Int))) (
 aJ (ig (cH .u64 (32:Int) (cC .and .u64 (dM .u64 kv) (31:Int)))) (
 k (cJ.out (cC .or .u32 (gS .u32 x (cC .and .u64 (dM .u64 kv) (31:Int))) (bV .u32 x (cH .u64 (32:Int) (cC .and .u64 (dM .u64 kv) (31:Int))))))) none) none:=by kernel_rfl
theorem Hh(k:Int):cC .and .u64 (dM .u64 k) 31=k%32:=by
 have e:(31:Int)=vw (31:BitVec 64):=rfl
 rw[wJ,e,Bq]
 simp only
 have:(31:BitVec 64)=BitVec.ofNat 64 (2^5 - 1):=rfl
 unfold vw
 rw[BitVec.toNat_and,BitVec.toNat_ofInt,show(31:BitVec 64).toNat=2^5 - 1 from rfl,Nat.and_two_pow_sub_one_eq_mod]
 omega
theorem cJ.ok:cJ.Ok:=by
 rintro⟨x,k⟩ ⟨h1,h2⟩
 have e1:cH .u64 32 (k%32)=32 - k%32:=by
  unfold cH
  rw[wrap_u64,fY]
  omega
 have hx:x=vw (BitVec.ofInt 32 x):=by rw[fY];omega
 rw[cJ.eq,Hh,e1,kM (by omega),kM (by omega)]
 simp only[ag]
 have e2:cC .or .u32 (gS .u32 x (k%32)) (bV .u32 x (32 - k%32))=vw (rl (BitVec.ofInt 32 x) (k%32).toNat):=by
  conv=>lhs;rw[hx]
  rw[qn,oq,iQ]
  simp only[rl]
  congr 3
  omega
 rw[e2]
 rfl
noncomputable def cJ.E:=Entry.cq [some (.int .u32),some ti] cJ.st cJ.aC cJ.add cJ.F cJ.out
noncomputable def cJ.call:cJ.D→Option cJ.X:=bT cJ.E cJ.st
theorem cJ.run:bK cJ.call cJ.aC cJ.add cJ.F:=dh (de [.d (.int .u32),.d ti] fun _=>by kernel_rfl)
noncomputable def cJ.sg:SG Tryz.prog:=⟨248,aY,cJ.E,.fn 0 (by kernel_rfl) cJ.ok trivial⟩
theorem cJ.at(w:W)(k:Int):cJ.call (vw w,k)=some (vw (rl w (k%32).toNat)):=by
 have h:cJ.aC (vw w,k):=⟨rS w,by have:=Ee w;simpa using this⟩
 rw[cJ.run h]
 show some (vw (rl (BitVec.ofInt 32 (vw w)) (k%32).toNat))=_
 rw[jU]
abbrev table.D:=Unit
def table.st:table.D→SA:=fun _=>([],[])
abbrev table.Y:=(List Int)
abbrev table.X:=(List Int)
def table.out:table.X→bk:=fun x=>⟨.d (.arr 64 (.int .u32)) x,[],[]⟩
def table.add:table.D→table.Y→table.X:=fun _ y=>y
def table.aC:table.D→Prop:=fun _=>True
def table.F:table.D→table.Y:=fun _=>rC
noncomputable def table.G:dZ:=fh (P:=Tryz.prog) []
noncomputable def table.an:eO:= {}
noncomputable def table.A:= @cZ Tryz.prog table.G table.an 0 Tryz.f247 _ table.st
abbrev table.Ok:=da @table.A table.aC table.add table.F table.out
theorem table.eq{R:Type}(k:bk→Option R):table.A () k=
 k (table.out [(1116352408:Int),(1899447441:Int),(3049323471:Int),(3921009573:Int),(961987163:Int),(1508970993:Int),(2453635748:Int),(2870763221:Int),(3624381080:Int),(310598401:Int),(607225278:Int),(1426881987:Int),(1925078388:Int),(2162078206:Int),(2614888103:Int),(3248222580:Int),(3835390401:Int),(4022224774:Int),(264347078:Int),(604807628:Int),(770255983:Int),(1249150122:Int),(1555081692:Int),(1996064986:Int),(2554220882:Int),(2821834349:Int),(2952996808:Int),(3210313671:Int),(3336571891:Int),(3584528711:Int),(113926993:Int),(338241895:Int),(666307205:Int),(773529912:Int),(1294757372:Int),(1396182291:Int),(1695183700:Int),(1986661051:Int),(2177026350:Int),(2456956037:Int),(2730485921:Int),(2820302411:Int),(3259730800:Int),(3345764771:Int),(3516065817:Int),(3600352804:Int),(4094571909:Int),(275423344:Int),(430227734:Int),(506948616:Int),(659060556:Int),(883997877:Int),(958139571:Int),(1322822218:Int),(1537002063:Int),(1747873779:Int),(1955562222:Int),(2024104815:Int),(2227730452:Int),(2361852424:Int),(2428436474:Int),(2756734187:Int),(3204031479:Int),(3329325298:Int)]):=by kernel_rfl
theorem table.ok:table.Ok:=by
 intro d _
 rw[table.eq]
 rfl
noncomputable def table.E:=Entry.cq [] table.st table.aC table.add table.F table.out
noncomputable def table.call:table.D→Option table.X:=bT table.E table.st
theorem table.run:bK table.call table.aC table.add table.F:=dh (de [] fun _=>by kernel_rfl)
noncomputable def table.sg:SG Tryz.prog:=⟨247,aY,table.E,.fn 0 (by kernel_rfl) table.ok trivial⟩
abbrev first.D:=Unit
def first.st:first.D→SA:=fun _=>([],[])
abbrev first.Y:=(List Int)
abbrev first.X:=(List Int)
def first.out:first.X→bk:=fun x=>⟨.d (.arr 8 (.int .u32)) x,[],[]⟩
def first.add:first.D→first.Y→first.X:=fun _ y=>y
def first.aC:first.D→Prop:=fun _=>True
def first.F:first.D→first.Y:=fun _=>ju.l
noncomputable def first.G:dZ:=fh (P:=Tryz.prog) []
noncomputable def first.an:eO:= {}
noncomputable def first.A:= @cZ Tryz.prog first.G first.an 0 Tryz.f201 _ first.st
abbrev first.Ok:=da @first.A first.aC first.add first.F first.out
theorem first.eq{R:Type}(k:bk→Option R):first.A () k=
 k (first.out [(1779033703:Int),(3144134277:Int),(1013904242:Int),(2773480762:Int),(1359893119:Int),(2600822924:Int),(528734635:Int),(1541459225:Int)]):=by kernel_rfl
theorem first.ok:first.Ok:=by
 intro d _
 rw[first.eq]
 rfl
noncomputable def first.E:=Entry.cq [] first.st first.aC first.add first.F first.out
noncomputable def first.call:first.D→Option first.X:=bT first.E first.st
theorem first.run:bK first.call first.aC first.add first.F:=dh (de [] fun _=>by kernel_rfl)
noncomputable def first.sg:SG Tryz.prog:=⟨201,aY,first.E,.fn 0 (by kernel_rfl) first.ok trivial⟩
set_option synthInstance.maxSize 5000
abbrev schedule.L0.D:=Bs×Int×(List Int)
def schedule.L0.st:schedule.L0.D→AS:=fun(b_2,t8,n2)=>⟨([.d tB b_2,.undef,.ptr (.new 2 0) 0 [] 0]++ba 5 ([.d ti t8]++ba 52 [])),[],([[],[],[.obj 0 false (.d (.arr 64 (.int .u32)) n2)]]++bE 58 [])⟩
abbrev schedule.L0.Y0:=(List Int)
abbrev schedule.L0.X0:=(List Int)
def schedule.L0.bj:schedule.L0.X0→Exit×AS:=fun x=>(.exit 0,⟨([.undef,.undef,.ptr (.new 2 0) 0 [] 0]++ba 58 []),[],([[],[],[.obj 0 false (.d (.arr 64 (.int .u32)) x)]]++bE 58 [])⟩)
abbrev schedule.L0.X:=schedule.L0.X0
abbrev schedule.L0.Y:=schedule.L0.Y0
def schedule.L0.out:schedule.L0.X→Out (Exit×AS):=fun x=> .ok (schedule.L0.bj x)
def schedule.L0.add:schedule.L0.D→schedule.L0.Y→schedule.L0.X:=fun(b_2,t8,n2) y=>y
abbrev schedule.D:=Bs
def schedule.st:schedule.D→SA:=fun b=>([.d tB b],[])
abbrev schedule.Y:=(List Int)
abbrev schedule.X:=(List Int)
def schedule.out:schedule.X→bk:=fun x=>⟨.d (.arr 64 (.int .u32)) x,[],[]⟩
def schedule.add:schedule.D→schedule.Y→schedule.X:=fun b y=>y
def wl(l:List W):List Int:=l.map vw
def nV(l:List W):List Int:=wl l++List.replicate (64 - l.length) 0
def nF(b:List Int)(k:Nat):List W:=if k≤16 then(words b).take k else Em (words b) (k - 16)
def schedule.L0.aC:schedule.L0.D→Prop:=fun(b,t8,n2)=>64≤b.length∧∃k:Nat,k≤64∧t8=k∧n2=nV (nF b k)
def schedule.L0.F:schedule.L0.D→schedule.L0.Y:=fun(b,t8,n2)=>wl (sched b)
def schedule.aC:schedule.D→Prop:=fun b=>64≤b.length
def schedule.F:schedule.D→schedule.Y:=fun b=>wl (sched b)
noncomputable def schedule.G:dZ:=fh (P:=Tryz.prog) [binary.sg,cJ.sg]
noncomputable def schedule.L0.E:=bP.cq schedule.L0.st schedule.L0.aC schedule.L0.add schedule.L0.F schedule.L0.out
noncomputable def schedule.L0.call:schedule.L0.D→Option schedule.L0.X:=cX schedule.L0.E schedule.L0.st
noncomputable def schedule.an:eO:= {loops:=j7 [(2,{bm:=[0,2,8],sites:=[2]})],outs:=j6 [(2,{bm:=[2],sites:=[2]},{bm:=[2]})],fJ:=kW [(2,schedule.L0.E)]}
noncomputable def schedule.A:= @cZ Tryz.prog schedule.G schedule.an 0 Tryz.f246 _ schedule.st
abbrev schedule.Ok:=da @schedule.A schedule.aC schedule.add schedule.F schedule.out
noncomputable def schedule.L0.R:= @bX Tryz.prog schedule.G schedule.an 0 Tryz.f246 0 _ schedule.L0.st
abbrev schedule.L0.Ok:=ej Tryz.prog schedule.G schedule.an 0 Tryz.f246 0 schedule.L0.st schedule.L0.aC schedule.L0.add schedule.L0.F schedule.L0.out
theorem schedule.L0.run:bK schedule.L0.call schedule.L0.aC schedule.L0.add schedule.L0.F:=eG (eC [.d tB,.d ti,.d (.slice (.int .u32))] fun _=>by kernel_rfl)
theorem schedule.L0.aD:fN @schedule.L0.R schedule.L0.st schedule.L0.aC schedule.L0.add schedule.L0.F schedule.L0.bj schedule.L0.Ok:=fU
theorem schedule.L0.step{R:Type}(b_2:Bs)(t8:Int)(n2:(List Int))(kn:AS→Option R)(kx:Exit→AS→Option R):schedule.L0.R (b_2,t8,n2) kn kx=
  aJ ((fX t8 (64:Int))) (
   aJ ((fX t8 (16:Int))) (
    aJ (inc (fi .i64 (4:Int) t8) (((List.length b_2):Nat):Int)) (
    ah (binary.call (cut b_2 (Int.toNat (fi .i64 (4:Int) t8)) ((List.length b_2) - (Int.toNat (fi .i64 (4:Int) t8))))) fun x1=>
    aJ (eJ t8 (64:Int)) (
    aJ (decide ((Int.toNat t8) < (List.length n2))) (
    aJ (decide ((((Int.toNat t8)*1)+0)=(0+((Int.toNat t8)*1)))) (
    aJ (decide ((Int.toNat t8) < (List.length n2))) (
    kn (schedule.L0.st (b_2,(bN .i64 t8 (1:Int)),(List.set n2 (Int.toNat t8) x1)))) none) none) none) none) none) (
    aJ (eJ (cH .i64 t8 (15:Int)) (64:Int)) (
    aJ (decide ((Int.toNat (cH .i64 t8 (15:Int))) < (List.length n2))) (
    aJ (decide ((((Int.toNat (cH .i64 t8 (15:Int)))*1)+0)=(0+((Int.toNat (cH .i64 t8 (15:Int)))*1)))) (
    aJ (eJ (cH .i64 t8 (2:Int)) (64:Int)) (
    aJ (decide ((Int.toNat (cH .i64 t8 (2:Int))) < (List.length n2))) (
    aJ (decide ((((Int.toNat (cH .i64 t8 (2:Int)))*1)+0)=(0+((Int.toNat (cH .i64 t8 (2:Int)))*1)))) (
    ah (cJ.call ((nth (.int .u32) n2 (Int.toNat (cH .i64 t8 (15:Int)))),(-7:Int))) fun x2=>
    ah (cJ.call ((nth (.int .u32) n2 (Int.toNat (cH .i64 t8 (15:Int)))),(-18:Int))) fun x3=>
    ah (cJ.call ((nth (.int .u32) n2 (Int.toNat (cH .i64 t8 (2:Int)))),(-17:Int))) fun x4=>
    ah (cJ.call ((nth (.int .u32) n2 (Int.toNat (cH .i64 t8 (2:Int)))),(-19:Int))) fun x5=>
    aJ (eJ (cH .i64 t8 (16:Int)) (64:Int)) (
    aJ (decide ((Int.toNat (cH .i64 t8 (16:Int))) < (List.length n2))) (
    aJ (decide ((((Int.toNat (cH .i64 t8 (16:Int)))*1)+0)=(0+((Int.toNat (cH .i64 t8 (16:Int)))*1)))) (
    aJ (eJ (cH .i64 t8 (7:Int)) (64:Int)) (
    aJ (decide ((Int.toNat (cH .i64 t8 (7:Int))) < (List.length n2))) (
    aJ (decide ((((Int.toNat (cH .i64 t8 (7:Int)))*1)+0)=(0+((Int.toNat (cH .i64 t8 (7:Int)))*1)))) (
    aJ (eJ t8 (64:Int)) (
    aJ (decide ((Int.toNat t8) < (List.length n2))) (
    aJ (decide ((((Int.toNat t8)*1)+0)=(0+((Int.toNat t8)*1)))) (
    aJ (decide ((Int.toNat t8) < (List.length n2))) (
    kn (schedule.L0.st (b_2,(bN .i64 t8 (1:Int)),(List.set n2 (Int.toNat t8) (bN .u32 (bN .u32 (bN .u32 (nth (.int .u32) n2 (Int.toNat (cH .i64 t8 (16:Int)))) (cC .xor .u32 (cC .xor .u32 x2 x3) (bV .u32 (nth (.int .u32) n2 (Int.toNat (cH .i64 t8 (15:Int)))) (3:Int)))) (nth (.int .u32) n2 (Int.toNat (cH .i64 t8 (7:Int))))) (cC .xor .u32 (cC .xor .u32 x4 x5) (bV .u32 (nth (.int .u32) n2 (Int.toNat (cH .i64 t8 (2:Int)))) (10:Int)))))))) none) none) none) none) none) none) none) none) none) none) none) none) none) none) none) none)) (
   kx (schedule.L0.bj n2).1 (schedule.L0.bj n2).2):=by kernel_rfl
theorem schedule.eq{R:Type}(b:Bs)(k:bk→Option R):schedule.A b k=
 ah (schedule.L0.call (b,(0:Int),(List.replicate 64 (0:Int)))) fun x6=>
 k (schedule.out x6):=by kernel_rfl
theorem zg(b:List Int)(k:Nat)(h:k≤64):(nF b k).length=k:=by
 unfold nF
 split
 ·simp[eD];omega
 ·rw[me,eD];omega
theorem Ft(b:List Int):nF b 64=sched b:=rfl
theorem Cl(b:List Int)(k:Nat)(h:k < 16):nF b (k+1)=nF b k++ [be b k]:=by
 unfold nF
 rw[if_pos (by omega),if_pos (by omega),List.take_succ_eq_append_getElem (by rw[eD];exact h)]
 simp[words]
theorem Ej(b:List Int)(k:Nat)(h:16≤k):nF b (k+1)=ext (nF b k):=by
 unfold nF
 rw[if_neg (by omega)]
 by_cases h16:k=16
 ·subst h16
  rw[if_pos (by omega),List.take_of_length_le (by rw[eD];omega)]
  rfl
 ·rw[if_neg (by omega),show k+1 - 16=(k - 16)+1 by omega]
  rfl
theorem wm(l:List W)(h:l.length≤64):(nV l).length=64:=by simp[nV,wl];omega
theorem oL(l:List W)(i:Nat)(h:i < l.length):nth (.int .u32) (nV l) i=vw (l.getD i 0):=by
 unfold nth nV wl
 rw[List.getD_eq_getElem?_getD,List.getElem?_append_left (by simpa using h)]
 simp[h]
theorem vj(l:List W)(w:W)(h:l.length < 64):(nV l).set l.length (vw w)=nV (l++ [w]):=by
 unfold nV wl
 rw[List.set_append_right _ _ (by simp)]
 simp only[List.length_map,Nat.sub_self,List.map_append,List.length_append,List.length_cons,List.length_nil]
 rw[show 64 - l.length=(64 - (l.length+(0+1)))+1 by omega,List.replicate_succ,List.set_cons_zero]
 simp
theorem zq(l:List W)(h:l.length=64):nV l=wl l:=by simp[nV,h]
theorem FT(b:List Int)(k:Nat)(h:4*k+4≤b.length):Hi ((cut b (4*k) (b.length - 4*k)).getD 0 0) ((cut b (4*k) (b.length - 4*k)).getD 1 0) ((cut b (4*k) (b.length - 4*k)).getD 2 0) ((cut b (4*k) (b.length - 4*k)).getD 3 0)=be b k:=by
 have e:∀j,j < 4→(cut b (4*k) (b.length - 4*k)).getD j 0=b.getD (4*k+j) 0:=fun j hj=>by
  unfold cut
  rw[List.getD_eq_getElem?_getD,List.getD_eq_getElem?_getD,List.getElem?_take_of_lt (by omega),List.getElem?_drop]
 unfold be
 rw[e 0 (by omega),e 1 (by omega),e 2 (by omega),e 3 (by omega),Nat.add_zero]
theorem schedule.L0.ok:schedule.L0.Ok:=by
 refine schedule.L0.aD (fun(b,t8,n2)=>64 - t8.toNat) ?_
 rintro⟨b,t8,n2⟩ ⟨hb,k,hk,rfl,rfl⟩
 have hwl:=zg b k hk
 have hal:=wm (nF b k) (by omega)
 by_cases h:k < 64
 ·left
  refine⟨(b,((k+1:Nat):Int),nV (nF b (k+1))),⟨hb,k+1,by omega,rfl,rfl⟩,by simp;omega,rfl,fun kn kx=> ?_⟩
  have e1:bN .i64 (k:Int) 1=((k+1:Nat):Int):=by rw[fK (by omega) (by omega)];omega
  have e2:Int.toNat (k:Int)=k:=by omega
  rw[schedule.L0.step,bq (by omega)]
  simp only[ag,e1,e2,hal,Nat.mul_one,Nat.zero_add,Nat.add_zero,decide_true]
  by_cases h16:k < 16
  ·have e3:fi .i64 4 (k:Int)=((4*k:Nat):Int):=by rw[qj (by omega) (by omega)];omega
   have e4:Int.toNat ((4*k:Nat):Int)=4*k:=by omega
   rw[bq (by omega),e3,kJ (by omega) (by omega),e4,bt (by omega) (by omega),aX h]
   have hp:binary.aC (cut b (4*k) (b.length - 4*k)):=by
    show 4≤_
    rw[nb (by omega)];omega
   simp only[ag,binary.run hp,aa]
   have e5:binary.add (cut b (4*k) (b.length - 4*k)) (binary.F (cut b (4*k) (b.length - 4*k)))=vw (be b k):=by
    show vw (Hi _ _ _ _)=_
    rw[FT b k (by omega)]
   have e6:=vj (nF b k) (be b k) (by omega)
   rw[hwl]at e6
   rw[e5,e6,Cl b k h16]
  ·have a15:Int.toNat (cH .i64 (k:Int) 15)=k - 15:=by rw[eK (by omega) (by omega)];omega
   have a2:Int.toNat (cH .i64 (k:Int) 2)=k - 2:=by rw[eK (by omega) (by omega)];omega
   have a16:Int.toNat (cH .i64 (k:Int) 16)=k - 16:=by rw[eK (by omega) (by omega)];omega
   have a7:Int.toNat (cH .i64 (k:Int) 7)=k - 7:=by rw[eK (by omega) (by omega)];omega
   have i15:eJ (cH .i64 (k:Int) 15) 64=true:=bt (by rw[eK (by omega) (by omega)];omega) (by rw[eK (by omega) (by omega)];omega)
   have i2:eJ (cH .i64 (k:Int) 2) 64=true:=bt (by rw[eK (by omega) (by omega)];omega) (by rw[eK (by omega) (by omega)];omega)
   have i16:eJ (cH .i64 (k:Int) 16) 64=true:=bt (by rw[eK (by omega) (by omega)];omega) (by rw[eK (by omega) (by omega)];omega)
   have i7:eJ (cH .i64 (k:Int) 7) 64=true:=bt (by rw[eK (by omega) (by omega)];omega) (by rw[eK (by omega) (by omega)];omega)
   have i0:eJ (k:Int) 64=true:=bt (by omega) (by omega)
   have d15:decide (k - 15 < 64)=true:=aX (by omega)
   have d2:decide (k - 2 < 64)=true:=aX (by omega)
   have d16:decide (k - 16 < 64)=true:=aX (by omega)
   have d7:decide (k - 7 < 64)=true:=aX (by omega)
   have d0:decide (k < 64)=true:=aX h
   rw[bg (by omega)]
   simp only[ag,ai,a15,a2,a16,a7,i15,i2,i16,i7,i0,d15,d2,d16,d7,d0,oL (nF b k) (k - 15) (by omega),oL (nF b k) (k - 2) (by omega),oL (nF b k) (k - 16) (by omega),oL (nF b k) (k - 7) (by omega),cJ.at,aa,iQ,oq,mO]
   have e6:=vj (nF b k) (FH (nF b k) k) (by omega)
   rw[hwl]at e6
   rw[Ej b k (by omega),ext,hwl,←e6]
   rfl
 ·right
  obtain rfl:k=64:=by omega
  intro R kn kx
  rw[schedule.L0.step,bg (by omega),zq _ hwl,Ft]
  simp only[ai,schedule.L0.add,schedule.L0.F]
theorem schedule.ok:schedule.Ok:=by
 intro b hb
 have hp:schedule.L0.aC (b,0,List.replicate 64 0):=⟨hb,0,by omega,rfl,rfl⟩
 rw[schedule.eq,schedule.L0.run hp]
 simp only[aa,schedule.L0.add,schedule.L0.F,schedule.add,schedule.F]
noncomputable def schedule.E:=Entry.cq [some tB] schedule.st schedule.aC schedule.add schedule.F schedule.out
noncomputable def schedule.call:schedule.D→Option schedule.X:=bT schedule.E schedule.st
theorem schedule.run:bK schedule.call schedule.aC schedule.add schedule.F:=dh (de [.d tB] fun _=>by kernel_rfl)
noncomputable def schedule.sg:SG Tryz.prog:=⟨246,aY,schedule.E,.fn 1 (by kernel_rfl) schedule.ok (And.intro (.cq schedule.L0.ok (by kernel_rfl)) trivial)⟩
set_option synthInstance.maxSize 5000
abbrev mix.L0.D:=(List Int)×Int×(List Int)×(List Int)×(List Int)×(List Int)
def mix.L0.st:mix.L0.D→AS:=fun(h_2,t18,n4,n5,n6,n7)=>⟨([.undef,.undef,.eI (.arr 8 (.int .u32)) h_2,.undef,.ptr (.new 4 0) 0 [] 0,.ptr (.new 5 0) 0 [] 0,.ptr (.new 6 0) 0 [] 0,.ptr (.new 7 0) 0 [] 0]++ba 10 ([.d ti t18]++ba 98 [])),[],(bE 4 ([[.obj 0 false (.d (.arr 8 (.int .u32)) n4)],[.obj 0 false (.d (.arr 64 (.int .u32)) n5)],[.obj 0 false (.d (.arr 64 (.int .u32)) n6)],[.obj 0 false (.d (.arr 8 (.int .u32)) n7)]]++bE 109 []))⟩
abbrev mix.L0.Y0:=(List Int)
abbrev mix.L0.X0:=((List Int)×(List Int))×((List Int))
def mix.L0.bj:mix.L0.X0→Exit×AS:=fun x=>(.exit 0,⟨([.undef,.undef,.eI (.arr 8 (.int .u32)) x.1.1,.undef,.ptr (.new 4 0) 0 [] 0,.undef,.undef,.ptr (.new 7 0) 0 [] 0]++ba 109 []),[],(bE 4 ([[.obj 0 false (.d (.arr 8 (.int .u32)) x.1.2)],[],[],[.obj 0 false (.d (.arr 8 (.int .u32)) x.2)]]++bE 109 []))⟩)
abbrev mix.L0.X:=mix.L0.X0
abbrev mix.L0.Y:=mix.L0.Y0
def mix.L0.out:mix.L0.X→Out (Exit×AS):=fun x=> .ok (mix.L0.bj x)
def mix.L0.add:mix.L0.D→mix.L0.Y→mix.L0.X:=fun(h_2,t18,n4,n5,n6,n7) y=>((h_2,n4),y)
abbrev mix.L1.D:=(List Int)×Int×(List Int)×(List Int)
def mix.L1.st:mix.L1.D→AS:=fun(h_3,t104,n4_2,n7_2)=>⟨([.undef,.undef,.eI (.arr 8 (.int .u32)) h_3,.undef,.ptr (.new 4 0) 0 [] 0,.undef,.undef,.ptr (.new 7 0) 0 [] 0]++ba 96 ([.d ti t104]++ba 12 [])),[],(bE 4 ([[.obj 0 false (.d (.arr 8 (.int .u32)) n4_2)],[],[],[.obj 0 false (.d (.arr 8 (.int .u32)) n7_2)]]++bE 109 []))⟩
abbrev mix.L1.Y0:=(List Int)
abbrev mix.L1.X0:=((List Int))×((List Int))
def mix.L1.bj:mix.L1.X0→Exit×AS:=fun x=>(.exit 2,⟨(ba 4 ([.ptr (.new 4 0) 0 [] 0,.undef,.undef,.ptr (.new 7 0) 0 [] 0]++ba 109 [])),[],(bE 4 ([[.obj 0 false (.d (.arr 8 (.int .u32)) x.1)],[],[],[.obj 0 false (.d (.arr 8 (.int .u32)) x.2)]]++bE 109 []))⟩)
abbrev mix.L1.X:=mix.L1.X0
abbrev mix.L1.Y:=mix.L1.Y0
def mix.L1.out:mix.L1.X→Out (Exit×AS):=fun x=> .ok (mix.L1.bj x)
def mix.L1.add:mix.L1.D→mix.L1.Y→mix.L1.X:=fun(h_3,t104,n4_2,n7_2) y=>(n4_2,y)
abbrev mix.D:=(List Int)×Bs
def mix.st:mix.D→SA:=fun(h,b)=>([.d (.arr 8 (.int .u32)) h,.d tB b],[])
abbrev mix.Y:=(List Int)
abbrev mix.X:=(List Int)
def mix.out:mix.X→bk:=fun x=>⟨.d (.arr 8 (.int .u32)) x,[],[]⟩
def mix.add:mix.D→mix.Y→mix.X:=fun(h,b) y=>y
def xi(l:List Int):St:=⟨BitVec.ofInt 32 (l.getD 0 0),BitVec.ofInt 32 (l.getD 1 0),BitVec.ofInt 32 (l.getD 2 0),BitVec.ofInt 32 (l.getD 3 0),BitVec.ofInt 32 (l.getD 4 0),BitVec.ofInt 32 (l.getD 5 0),BitVec.ofInt 32 (l.getD 6 0),BitVec.ofInt 32 (l.getD 7 0)⟩
theorem iy(s:St):xi s.l=s:=by
 obtain⟨a,b,c,d,e,f,g,h⟩:=s
 simp[xi,St.l,jU]
def Ec(l:List Int):List W:=l.map (BitVec.ofInt 32)
theorem nE(l:List W):Ec (wl l)=l:=by
 unfold Ec wl
 rw[List.map_map]
 have:(BitVec.ofInt 32∘vw)=(id:W→W):=by funext w;exact jU w
 rw[this,List.map_id]
def mix.L0.aC:mix.L0.D→Prop:=fun(h,t,n4,n5,n6,n7)=>∃(s:St) (ws:List W) (k:Nat),h=s.l∧n5=wl ws∧ws.length=64∧k≤64∧t=k∧n6=rC∧n7=(rounds ws s k).l
def mix.L0.F:mix.L0.D→mix.L0.Y:=fun(h,t,n4,n5,n6,n7)=>(rounds (Ec n5) (xi h) 64).l
def mix.L1.aC:mix.L1.D→Prop:=fun(h,t,n4,n7)=>n7.length=8∧∃k:Nat,k≤8∧t=k
def mix.L1.F:mix.L1.D→mix.L1.Y:=fun(h,t,n4,n7)=>from_ (fun i x=>bN .u32 x (nth (.int .u32) h i)) t.toNat n7
def mix.aC:mix.D→Prop:=fun(h,b)=>(∃s:St,h=s.l)∧64≤b.length
def mix.F:mix.D→mix.Y:=fun(h,b)=>(rF (xi h) b).l
noncomputable def mix.G:dZ:=fh (P:=Tryz.prog) [schedule.sg,table.sg,cJ.sg]
noncomputable def mix.L0.E:=bP.cq mix.L0.st mix.L0.aC mix.L0.add mix.L0.F mix.L0.out
noncomputable def mix.L0.call:mix.L0.D→Option mix.L0.X:=cX mix.L0.E mix.L0.st
noncomputable def mix.L1.E:=bP.cq mix.L1.st mix.L1.aC mix.L1.add mix.L1.F mix.L1.out
noncomputable def mix.L1.call:mix.L1.D→Option mix.L1.X:=cX mix.L1.E mix.L1.st
noncomputable def mix.an:eO:= {loops:=j7 [(4,{bm:=[2,4,5,6,7,18],sites:=[4,5,6,7]}),(13,{bm:=[2,4,7,104],sites:=[4,7]})],outs:=j6 [(4,{bm:=[2,4,7],sites:=[4,7]},{bm:=[4]}),(13,{bm:=[4,7],sites:=[4,7]},{bm:=[4]})],fJ:=kW [(4,mix.L0.E),(13,mix.L1.E)]}
noncomputable def mix.A:= @cZ Tryz.prog mix.G mix.an 0 Tryz.f202 _ mix.st
abbrev mix.Ok:=da @mix.A mix.aC mix.add mix.F mix.out
noncomputable def mix.L0.R:= @bX Tryz.prog mix.G mix.an 0 Tryz.f202 0 _ mix.L0.st
abbrev mix.L0.Ok:=ej Tryz.prog mix.G mix.an 0 Tryz.f202 0 mix.L0.st mix.L0.aC mix.L0.add mix.L0.F mix.L0.out
noncomputable def mix.L1.R:= @bX Tryz.prog mix.G mix.an 0 Tryz.f202 1 _ mix.L1.st
abbrev mix.L1.Ok:=ej Tryz.prog mix.G mix.an 0 Tryz.f202 1 mix.L1.st mix.L1.aC mix.L1.add mix.L1.F mix.L1.out
theorem mix.L0.run:bK mix.L0.call mix.L0.aC mix.L0.add mix.L0.F:=eG (eC [.d (.arr 8 (.int .u32)),.d ti,.d (.slice (.int .u32)),.d (.slice (.int .u32)),.d (.slice (.int .u32)),.d (.slice (.int .u32))] fun _=>by kernel_rfl)
theorem mix.L0.aD:fN @mix.L0.R mix.L0.st mix.L0.aC mix.L0.add mix.L0.F mix.L0.bj mix.L0.Ok:=fU
theorem mix.L0.step{R:Type}(h_2:(List Int))(t18:Int)(n4:(List Int))(n5:(List Int))(n6:(List Int))(n7:(List Int))(kn:AS→Option R)(kx:Exit→AS→Option R):mix.L0.R (h_2,t18,n4,n5,n6,n7) kn kx=
  aJ ((fX t18 (64:Int))) (
   aJ (decide (4 < (List.length n7))) (
   ah (cJ.call ((nth (.int .u32) n7 4),(-6:Int))) fun x1=>
   aJ (decide (4 < (List.length n7))) (
   ah (cJ.call ((nth (.int .u32) n7 4),(-11:Int))) fun x2=>
   aJ (decide (4 < (List.length n7))) (
   ah (cJ.call ((nth (.int .u32) n7 4),(-25:Int))) fun x3=>
   aJ (decide (7 < (List.length n7))) (
   aJ (decide (6 < (List.length n7))) (
   aJ (decide (4 < (List.length n7))) (
   aJ (decide (5 < (List.length n7))) (
   aJ (decide (6 < (List.length n7))) (
   aJ (eJ t18 (64:Int)) (
   aJ (decide ((Int.toNat t18) < (List.length n6))) (
   aJ (decide ((((Int.toNat t18)*1)+0)=(0+((Int.toNat t18)*1)))) (
   aJ (eJ t18 (64:Int)) (
   aJ (decide ((Int.toNat t18) < (List.length n5))) (
   aJ (decide ((((Int.toNat t18)*1)+0)=(0+((Int.toNat t18)*1)))) (
   aJ (decide (0 < (List.length n7))) (
   ah (cJ.call ((nth (.int .u32) n7 0),(-2:Int))) fun x4=>
   aJ (decide (0 < (List.length n7))) (
   ah (cJ.call ((nth (.int .u32) n7 0),(-13:Int))) fun x5=>
   aJ (decide (0 < (List.length n7))) (
   ah (cJ.call ((nth (.int .u32) n7 0),(-22:Int))) fun x6=>
   aJ (decide (0 < (List.length n7))) (
   aJ (decide (1 < (List.length n7))) (
   aJ (decide (2 < (List.length n7))) (
   aJ (decide (0 < (List.length n7))) (
   aJ (decide (1 < (List.length n7))) (
   aJ (decide (0 < (List.length n7))) (
   aJ (decide (1 < (List.length n7))) (
   aJ (decide (2 < (List.length n7))) (
   aJ (decide (3 < (List.length n7))) (
   aJ (decide (4 < (List.length n7))) (
   aJ (decide (5 < (List.length n7))) (
   aJ (decide (6 < (List.length n7))) (
   kn (mix.L0.st (h_2,(bN .i64 t18 (1:Int)),n4,n5,n6,[(bN .u32 (bN .u32 (bN .u32 (bN .u32 (bN .u32 (bN .u32 (nth (.int .u32) n7 7) (cC .xor .u32 (cC .xor .u32 x1 x2) x3)) (cC .xor .u32 (nth (.int .u32) n7 6) (cC .and .u32 (nth (.int .u32) n7 4) (cC .xor .u32 (nth (.int .u32) n7 5) (nth (.int .u32) n7 6))))) (nth (.int .u32) n6 (Int.toNat t18))) (nth (.int .u32) n5 (Int.toNat t18))) (cC .xor .u32 (cC .xor .u32 x4 x5) x6)) (cC .or .u32 (cC .and .u32 (nth (.int .u32) n7 0) (nth (.int .u32) n7 1)) (cC .and .u32 (nth (.int .u32) n7 2) (cC .or .u32 (nth (.int .u32) n7 0) (nth (.int .u32) n7 1))))),(nth (.int .u32) n7 0),(nth (.int .u32) n7 1),(nth (.int .u32) n7 2),(bN .u32 (nth (.int .u32) n7 3) (bN .u32 (bN .u32 (bN .u32 (bN .u32 (nth (.int .u32) n7 7) (cC .xor .u32 (cC .xor .u32 x1 x2) x3)) (cC .xor .u32 (nth (.int .u32) n7 6) (cC .and .u32 (nth (.int .u32) n7 4) (cC .xor .u32 (nth (.int .u32) n7 5) (nth (.int .u32) n7 6))))) (nth (.int .u32) n6 (Int.toNat t18))) (nth (.int .u32) n5 (Int.toNat t18)))),(nth (.int .u32) n7 4),(nth (.int .u32) n7 5),(nth (.int .u32) n7 6)]))) none) none) none) none) none) none) none) none) none) none) none) none) none) none) none) none) none) none) none) none) none) none) none) none) none) none) none) none) none) (
   kx (mix.L0.bj ((h_2,n4),n7)).1 (mix.L0.bj ((h_2,n4),n7)).2):=by kernel_rfl
theorem mix.L1.run:bK mix.L1.call mix.L1.aC mix.L1.add mix.L1.F:=eG (eC [.d (.arr 8 (.int .u32)),.d ti,.d (.slice (.int .u32)),.d (.slice (.int .u32))] fun _=>by kernel_rfl)
theorem mix.L1.aD:fN @mix.L1.R mix.L1.st mix.L1.aC mix.L1.add mix.L1.F mix.L1.bj mix.L1.Ok:=fU
theorem mix.L1.step{R:Type}(h_3:(List Int))(t104:Int)(n4_2:(List Int))(n7_2:(List Int))(kn:AS→Option R)(kx:Exit→AS→Option R):mix.L1.R (h_3,t104,n4_2,n7_2) kn kx=
  aJ ((fX t104 (8:Int))) (
   aJ (eJ t104 (8:Int)) (
   aJ (decide ((Int.toNat t104) < (List.length n7_2))) (
   aJ (decide ((((Int.toNat t104)*1)+0)=(0+((Int.toNat t104)*1)))) (
   aJ (eJ t104 (8:Int)) (
   aJ (eJ t104 (8:Int)) (
   aJ (decide ((Int.toNat t104) < (List.length n7_2))) (
   aJ (decide ((((Int.toNat t104)*1)+0)=(0+((Int.toNat t104)*1)))) (
   aJ (decide ((Int.toNat t104) < (List.length n7_2))) (
   kn (mix.L1.st (h_3,(bN .i64 t104 (1:Int)),n4_2,(List.set n7_2 (Int.toNat t104) (bN .u32 (nth (.int .u32) n7_2 (Int.toNat t104)) (nth (.int .u32) h_3 (Int.toNat t104))))))) none) none) none) none) none) none) none) none) (
   kx (mix.L1.bj (n4_2,n7_2)).1 (mix.L1.bj (n4_2,n7_2)).2):=by kernel_rfl
theorem mix.eq{R:Type}(h:(List Int))(b:Bs)(k:bk→Option R):mix.A (h,b) k=
 ah (schedule.call b) fun x1=>
 ah (table.call ()) fun x2=>
 ah (mix.L0.call (h,(0:Int),(List.replicate 8 (0:Int)),x1,x2,h)) fun x9=>
 ah (mix.L1.call (x9.1.1,(0:Int),x9.1.2,x9.2)) fun x10=>
 k (mix.out x10.2):=by kernel_rfl
theorem St.yn(s:St):s.l.length=8:=rfl
theorem r9:rC.length=64:=rfl
theorem ym(k:Nat)(h:k < 64):nth (.int .u32) rC k=vw (kw k):=by
 have hh:∀k:Fin 64,nth (.int .u32) rC k.val=vw (kw k.val):=by decide+kernel
 exact hh ⟨k,h⟩
theorem rU(ws:List W)(k:Nat)(h:k < ws.length):nth (.int .u32) (wl ws) k=vw (ws.getD k 0):=by
 unfold nth wl
 simp[h]
theorem I4(w:W):rl w ((-6:Int)%32).toNat=kq w 6:=rfl
theorem Iy(w:W):rl w ((-11:Int)%32).toNat=kq w 11:=rfl
theorem IB(w:W):rl w ((-25:Int)%32).toNat=kq w 25:=rfl
theorem I3(w:W):rl w ((-2:Int)%32).toNat=kq w 2:=rfl
theorem Iz(w:W):rl w ((-13:Int)%32).toNat=kq w 13:=rfl
theorem IA(w:W):rl w ((-22:Int)%32).toNat=kq w 22:=rfl
theorem n0(s:St):nth (.int .u32) s.l 0=vw s.a:=rfl
theorem n1(s:St):nth (.int .u32) s.l 1=vw s.b:=rfl
theorem n2(s:St):nth (.int .u32) s.l 2=vw s.c:=rfl
theorem n3(s:St):nth (.int .u32) s.l 3=vw s.d:=rfl
theorem n4(s:St):nth (.int .u32) s.l 4=vw s.e:=rfl
theorem n5(s:St):nth (.int .u32) s.l 5=vw s.f:=rfl
theorem n6(s:St):nth (.int .u32) s.l 6=vw s.g:=rfl
theorem n7(s:St):nth (.int .u32) s.l 7=vw s.h:=rfl
theorem mix.L0.ok:mix.L0.Ok:=by
 refine mix.L0.aD (fun(h,t,n4,n5,n6,n7)=>64 - t.toNat) ?_
 rintro⟨h,t,m4,m5,m6,m7⟩ ⟨s,ws,k,rfl,rfl,hw,hk,rfl,rfl,rfl⟩
 by_cases hlt:k < 64
 ·left
  refine⟨(s.l,((k+1:Nat):Int),m4,wl ws,rC,(rounds ws s (k+1)).l),⟨s,ws,k+1,rfl,rfl,hw,by omega,rfl,rfl,rfl⟩,by simp;omega,rfl,fun kn kx=> ?_⟩
  have e1:bN .i64 (k:Int) 1=((k+1:Nat):Int):=by rw[fK (by omega) (by omega)];omega
  have e2:Int.toNat (k:Int)=k:=by omega
  have hwl:(wl ws).length=64:=by simp[wl,hw]
  have d0:decide (k < 64)=true:=aX hlt
  have i0:eJ (k:Int) 64=true:=bt (by omega) (by omega)
  rw[mix.L0.step,bq (by omega)]
  generalize hv:rounds ws s k=v
  simp only[e1,e2,Nat.mul_one,Nat.zero_add,Nat.add_zero,decide_true,ag,St.yn,Nat.reduceLT,r9,hwl,d0,i0,n0,n1,n2,n3,n4,n5,n6,n7,cJ.at,aa,ym k hlt,rU ws k (by omega),iQ,mO,I4,Iy,IB,I3,Iz,IA]
  show kn _=kn (mix.L0.st (s.l,((k+1:Nat):Int),m4,wl ws,rC,(IC (rounds ws s k) (kw k) (ws.getD k 0)).l))
  rw[hv]
  rfl
 ·right
  obtain rfl:k=64:=by omega
  intro R kn kx
  rw[mix.L0.step,bg (by omega)]
  simp only[ai,mix.L0.add,mix.L0.F,nE,iy]
theorem mix.L1.ok:mix.L1.Ok:=by
 refine mix.L1.aD (fun(h,t,n4,n7)=>8 - t.toNat) ?_
 rintro⟨h,t,m4,m7⟩ ⟨hl,k,hk,rfl⟩
 have hl:m7.length=8:=hl
 have e2:Int.toNat (k:Int)=k:=by omega
 have e3:Int.toNat ((k+1:Nat):Int)=k+1:=by omega
 by_cases hlt:k < 8
 ·left
  have e1:bN .i64 (k:Int) 1=((k+1:Nat):Int):=by rw[fK (by omega) (by omega)];omega
  have hn:nth (.int .u32) m7 k=m7[k]:=cm (t:= .int .u32) (by omega)
  refine⟨(h,((k+1:Nat):Int),m4,m7.set k (bN .u32 m7[k] (nth (.int .u32) h k))),⟨by simpa using hl,k+1,by omega,rfl⟩,by simp;omega,?_,fun kn kx=> ?_⟩
  ·simp only[mix.L1.add,mix.L1.F,e2,e3]
   rw[oN (fun i x=>bN .u32 x (nth (.int .u32) h i)) m7 k (by omega)]
  ·have d0:decide (k < 8)=true:=aX hlt
   have i0:eJ (k:Int) 8=true:=bt (by omega) (by omega)
   rw[mix.L1.step,bq (by omega)]
   simp only[e1,e2,Nat.mul_one,Nat.zero_add,Nat.add_zero,decide_true,ag,hl,d0,i0,hn]
 ·right
  obtain rfl:k=8:=by omega
  intro R kn kx
  rw[mix.L1.step,bg (by omega)]
  simp only[ai,mix.L1.add,mix.L1.F,e2]
  rw[qh _ _ _ (by omega)]
theorem mix.ok:mix.Ok:=by
 rintro⟨h,b⟩ ⟨⟨s,rfl⟩,hb⟩
 have hs:schedule.aC b:=hb
 have hsl:(sched b).length=64:=by unfold sched;rw[me,eD]
 have hp:mix.L0.aC (s.l,0,List.replicate 8 0,wl (sched b),rC,s.l):=⟨s,sched b,0,rfl,rfl,hsl,by omega,rfl,rfl,rfl⟩
 rw[mix.eq,schedule.run hs]
 simp only[aa,table.run (d:=()) trivial,schedule.add,schedule.F,table.add,table.F,mix.L0.run hp,mix.L0.add,mix.L0.F,nE,iy]
 have hp1:mix.L1.aC (s.l,0,List.replicate 8 0,(rounds (sched b) s 64).l):=⟨rfl,0,by omega,rfl⟩
 simp only[mix.L1.run hp1,aa,mix.L1.add,mix.L1.F,mix.add,mix.F,iy]
 unfold rF
 generalize rounds (sched b) s 64=v
 obtain⟨a1,b1,c1,d1,f1,g1,h1,i1⟩:=v
 simp only[St.l,from_,List.mapIdx_cons,List.mapIdx_nil,Int.toNat_zero,Nat.not_lt_zero,if_false,Nat.zero_add,Nat.reduceAdd]
 simp only[nth,List.getD_cons_zero,List.getD_cons_succ,mO]
noncomputable def mix.E:=Entry.cq [some (.arr 8 (.int .u32)),some tB] mix.st mix.aC mix.add mix.F mix.out
noncomputable def mix.call:mix.D→Option mix.X:=bT mix.E mix.st
theorem mix.run:bK mix.call mix.aC mix.add mix.F:=dh (de [.d (.slice (.int .u32)),.d tB] fun _=>by kernel_rfl)
noncomputable def mix.sg:SG Tryz.prog:=⟨202,aY,mix.E,.fn 2 (by kernel_rfl) mix.ok (And.intro (.cq mix.L0.ok (by kernel_rfl)) (And.intro (.cq mix.L1.ok (by kernel_rfl)) trivial))⟩
set_option synthInstance.maxSize 5000
theorem jE(n:Int)(k:Int)(h0:0≤k)(h1:k≤64):dM .u8 (bV .i64 n k)=n / 2^k.toNat%256:=by
 rw[tx,fY,bV]
 have e:min k.toNat IntKind.i64.bits=k.toNat:=by simp only[IntKind.bits];omega
 rw[e,Int.fdiv_eq_ediv_of_nonneg _ (Int.le_of_lt (Int.pow_pos (by omega)))]
 rfl
theorem mV{n:Nat}(h:n≤140737488355328):dq n 1=true:=ed (by omega) (by omega)
abbrev cz.D:=Bs
def cz.st:cz.D→SA:=fun sv=>([.d tB sv],[])
abbrev cz.Y:=Nat×(List Int)
abbrev cz.X:=Nat×(List Int)
def cz.out:cz.X→bk:=fun x=>⟨.bI (.new 0 0) 0 [] 0 0 x.1,[],[.obj 0 false (.vec 5 tb x.2)]⟩
def cz.add:cz.D→cz.Y→cz.X:=fun sv y=>y
def cz.aC:cz.D→Prop:=fun b=>b.length≤140737488355328
def cz.F:cz.D→cz.Y:=fun b=>(b.length,b)
noncomputable def cz.G:dZ:=fh (P:=Tryz.prog) []
noncomputable def cz.an:eO:= {bO:=[5],ij:=[⟨2,[],5,140⟩]}
noncomputable def cz.A:= @cZ Tryz.prog cz.G cz.an 0 Tryz.f200 _ cz.st
abbrev cz.Ok:=da @cz.A cz.aC cz.add cz.F cz.out
theorem cz.eq{R:Type}(sv:Bs)(k:bk→Option R):cz.A sv k=
  aJ (decide (0 < (List.length sv))) (
   aJ (dq (0+(List.length sv)) 1) (
   k (cz.out ((0+(List.length sv)),((List.take 0 (List.replicate 0 (0:Int)))++sv)))) none) (
   nd (
    k (cz.out (0,([]:List Int)))) (
    aJ (dq (0+(List.length sv)) 1) (
    k (cz.out ((0+(List.length sv)),((List.take 0 (List.replicate 0 (0:Int)))++sv)))) none)):=by kernel_rfl
theorem cz.ok:cz.Ok:=by
 intro b hb
 have hr:dq b.length 1=true:=mV hb
 rw[cz.eq]
 have e0:(List.take 0 (List.replicate 0 0):List Int)=[]:=rfl
 simp only[Nat.zero_add,hr,ag,e0,List.nil_append,cz.add,cz.F]
 by_cases h:0 < b.length
 ·simp only[aX h,ag]
 ·have:b=[]:=List.eq_nil_of_length_eq_zero (by omega)
  subst this
  simp only[List.length_nil,nu,bz (Nat.lt_irrefl 0),ai]
noncomputable def cz.E:=Entry.cq [some tB] cz.st cz.aC cz.add cz.F cz.out
noncomputable def cz.call:cz.D→Option cz.X:=bT cz.E cz.st
theorem cz.run:bK cz.call cz.aC cz.add cz.F:=dh (de [.d tB] fun _=>by kernel_rfl)
noncomputable def cz.sg:SG Tryz.prog:=⟨200,aY,cz.E,.fn 0 (by kernel_rfl) cz.ok trivial⟩
abbrev eo.D:=Int
def eo.st:eo.D→SA:=fun n=>([.cY,.d ti n],[])
abbrev eo.Y:=Nat×(List Int)
abbrev eo.X:=Nat×(List Int)
def eo.out:eo.X→bk:=fun x=>⟨.bI (.new 0 0) 0 [] 0 0 x.1,[],[.obj 0 false (.vec 5 tb x.2)]⟩
def eo.add:eo.D→eo.Y→eo.X:=fun n y=>y
def eo.aC:eo.D→Prop:=fun _=>True
def eo.F:eo.D→eo.Y:=fun n=>(8,ik n)
noncomputable def eo.G:dZ:=fh (P:=Tryz.prog) []
noncomputable def eo.an:eO:= {loops:=j7 [(2,{bm:=[0,1,5],sites:=[16]})],outs:=j6 [(2,{bm:=[0],sites:=[16]},{bm:=[4],sites:=[16]})],ij:=[⟨4,[],16,140⟩]}
noncomputable def eo.A:= @cZ Tryz.prog eo.G eo.an 12 Tryz.f143 _ eo.st
abbrev eo.Ok:=da @eo.A eo.aC eo.add eo.F eo.out
theorem eo.eq{R:Type}(n:Int)(k:bk→Option R):eo.A n k=
 k (eo.out (8,[(dM .u8 (bV .i64 n (56:Int))),(dM .u8 (bV .i64 n (48:Int))),(dM .u8 (bV .i64 n (40:Int))),(dM .u8 (bV .i64 n (32:Int))),(dM .u8 (bV .i64 n (24:Int))),(dM .u8 (bV .i64 n (16:Int))),(dM .u8 (bV .i64 n (8:Int))),(dM .u8 (bV .i64 n (0:Int)))])):=by kernel_rfl
theorem zr(n:Int): [dM .u8 (bV .i64 n 56),dM .u8 (bV .i64 n 48),dM .u8 (bV .i64 n 40),dM .u8 (bV .i64 n 32),dM .u8 (bV .i64 n 24),dM .u8 (bV .i64 n 16),dM .u8 (bV .i64 n 8),dM .u8 (bV .i64 n 0)]=ik n:=by
 rw[jE n 56 (by omega) (by omega),jE n 48 (by omega) (by omega),jE n 40 (by omega) (by omega),jE n 32 (by omega) (by omega),jE n 24 (by omega) (by omega),jE n 16 (by omega) (by omega),jE n 8 (by omega) (by omega),jE n 0 (by omega) (by omega)]
 simp[ik]
theorem eo.ok:eo.Ok:=by
 intro n _
 rw[eo.eq,zr]
 rfl
noncomputable def eo.E:=Entry.cq [none,some ti] eo.st eo.aC eo.add eo.F eo.out
noncomputable def eo.call:eo.D→Option eo.X:=bT eo.E eo.st
theorem eo.run:bK eo.call eo.aC eo.add eo.F:=dh (de [.d ti] fun _=>by kernel_rfl)
noncomputable def eo.sg:SG Tryz.prog:=⟨143,B0,eo.E,.fn 1 (by kernel_rfl) eo.ok (And.intro (.none (by kernel_rfl)) trivial)⟩
abbrev dH.D:=Nat×Int×Bs
def dH.st:dH.D→SA:=fun(bL,n,o0)=>([.bI (.dr 0) 0 [] 0 0 bL,.d ti n],[.obj 0 false (.vec 5 tb o0)])
abbrev dH.Y:=Nat×(List Int)
abbrev dH.X:=Nat×(List Int)
def dH.out:dH.X→bk:=fun x=>⟨.bI (.dr 0) 8 [] 0 0 x.1,[.obj 8 false (.vec 5 tb x.2)],[]⟩
def dH.add:dH.D→dH.Y→dH.X:=fun(bL,n,o0) y=>y
def dH.aC:dH.D→Prop:=fun(m,n,l)=>m=l.length∧l.length≤140737488355320
def dH.F:dH.D→dH.Y:=fun(m,n,l)=>(l.length+8,l++ik n)
noncomputable def dH.G:dZ:=fh (P:=Tryz.prog) []
noncomputable def dH.an:eO:= {loops:=j7 [(2,{bm:=[0,1,5],sites:=[16]})],outs:=j6 [(2,{bm:=[0],sites:=[16]},{bm:=[4],sites:=[16]})]}
noncomputable def dH.A:= @cZ Tryz.prog dH.G dH.an 12 Tryz.f143 _ dH.st
abbrev dH.Ok:=da @dH.A dH.aC dH.add dH.F dH.out
theorem dH.eq{R:Type}(bL:Nat)(n:Int)(o0:Bs)(k:bk→Option R):dH.A (bL,n,o0) k=
 aJ (decide (bL≤(List.length o0))) (
 aJ (dq (bL+1) 1) (
 aJ (decide ((bL+1)≤(List.length ((List.take bL o0)++ [(dM .u8 (bV .i64 n (56:Int)))])))) (
 aJ (dq ((bL+1)+1) 1) (
 aJ (decide (((bL+1)+1)≤(List.length ((List.take (bL+1) ((List.take bL o0)++ [(dM .u8 (bV .i64 n (56:Int)))]))++ [(dM .u8 (bV .i64 n (48:Int)))])))) (
 aJ (dq (((bL+1)+1)+1) 1) (
 aJ (decide ((((bL+1)+1)+1)≤(List.length ((List.take ((bL+1)+1) ((List.take (bL+1) ((List.take bL o0)++ [(dM .u8 (bV .i64 n (56:Int)))]))++ [(dM .u8 (bV .i64 n (48:Int)))]))++ [(dM .u8 (bV .i64 n (40:Int)))])))) (
 aJ (dq ((((bL+1)+1)+1)+1) 1) (
 aJ (decide (((((bL+1)+1)+1)+1)≤(List.length ((List.take (((bL+1)+1)+1) ((List.take ((bL+1)+1) ((List.take (bL+1) ((List.take bL o0)++ [(dM .u8 (bV .i64 n (56:Int)))]))++ [(dM .u8 (bV .i64 n (48:Int)))]))++ [(dM .u8 (bV .i64 n (40:Int)))]))++ [(dM .u8 (bV .i64 n (32:Int)))])))) (
 aJ (dq (((((bL+1)+1)+1)+1)+1) 1) (
 aJ (decide ((((((bL+1)+1)+1)+1)+1)≤(List.length ((List.take ((((bL+1)+1)+1)+1) ((List.take (((bL+1)+1)+1) ((List.take ((bL+1)+1) ((List.take (bL+1) ((List.take bL o0)++ [(dM .u8 (bV .i64 n (56:Int)))]))++ [(dM .u8 (bV .i64 n (48:Int)))]))++ [(dM .u8 (bV .i64 n (40:Int)))]))++ [(dM .u8 (bV .i64 n (32:Int)))]))++ [(dM .u8 (bV .i64 n (24:Int)))])))) (
 aJ (dq ((((((bL+1)+1)+1)+1)+1)+1) 1) (
 aJ (decide (((((((bL+1)+1)+1)+1)+1)+1)≤(List.length ((List.take (((((bL+1)+1)+1)+1)+1) ((List.take ((((bL+1)+1)+1)+1) ((List.take (((bL+1)+1)+1) ((List.take ((bL+1)+1) ((List.take (bL+1) ((List.take bL o0)++ [(dM .u8 (bV .i64 n (56:Int)))]))++ [(dM .u8 (bV .i64 n (48:Int)))]))++ [(dM .u8 (bV .i64 n (40:Int)))]))++ [(dM .u8 (bV .i64 n (32:Int)))]))++ [(dM .u8 (bV .i64 n (24:Int)))]))++ [(dM .u8 (bV .i64 n (16:Int)))])))) (
 aJ (dq (((((((bL+1)+1)+1)+1)+1)+1)+1) 1) (
 aJ (decide ((((((((bL+1)+1)+1)+1)+1)+1)+1)≤(List.length ((List.take ((((((bL+1)+1)+1)+1)+1)+1) ((List.take (((((bL+1)+1)+1)+1)+1) ((List.take ((((bL+1)+1)+1)+1) ((List.take (((bL+1)+1)+1) ((List.take ((bL+1)+1) ((List.take (bL+1) ((List.take bL o0)++ [(dM .u8 (bV .i64 n (56:Int)))]))++ [(dM .u8 (bV .i64 n (48:Int)))]))++ [(dM .u8 (bV .i64 n (40:Int)))]))++ [(dM .u8 (bV .i64 n (32:Int)))]))++ [(dM .u8 (bV .i64 n (24:Int)))]))++ [(dM .u8 (bV .i64 n (16:Int)))]))++ [(dM .u8 (bV .i64 n (8:Int)))])))) (
 aJ (dq ((((((((bL+1)+1)+1)+1)+1)+1)+1)+1) 1) (
 k (dH.out (((((((((bL+1)+1)+1)+1)+1)+1)+1)+1),((List.take (((((((bL+1)+1)+1)+1)+1)+1)+1) ((List.take ((((((bL+1)+1)+1)+1)+1)+1) ((List.take (((((bL+1)+1)+1)+1)+1) ((List.take ((((bL+1)+1)+1)+1) ((List.take (((bL+1)+1)+1) ((List.take ((bL+1)+1) ((List.take (bL+1) ((List.take bL o0)++ [(dM .u8 (bV .i64 n (56:Int)))]))++ [(dM .u8 (bV .i64 n (48:Int)))]))++ [(dM .u8 (bV .i64 n (40:Int)))]))++ [(dM .u8 (bV .i64 n (32:Int)))]))++ [(dM .u8 (bV .i64 n (24:Int)))]))++ [(dM .u8 (bV .i64 n (16:Int)))]))++ [(dM .u8 (bV .i64 n (8:Int)))]))++ [(dM .u8 (bV .i64 n (0:Int)))])))) none) none) none) none) none) none) none) none) none) none) none) none) none) none) none) none:=by kernel_rfl
theorem dH.ok:dH.Ok:=by
 rintro⟨m,n,l⟩ ⟨rfl,hl⟩
 have hl:l.length≤140737488355320:=hl
 rw[dH.eq]
 simp only[Nat.le_refl,decide_true,ag,List.take_of_length_le,List.length_append,List.length_cons,List.length_nil,Nat.zero_add]
 rw[mV (by omega),mV (by omega),mV (by omega),mV (by omega),mV (by omega),mV (by omega),mV (by omega),mV (by omega)]
 simp only[ag,dH.add,dH.F,←zr,List.append_assoc,List.cons_append,List.nil_append]
noncomputable def dH.E:=Entry.cq [none,some ti] dH.st dH.aC dH.add dH.F dH.out
noncomputable def dH.call:dH.D→Option dH.X:=bT dH.E dH.st
theorem dH.run:bK dH.call dH.aC dH.add dH.F:=dh (de [.n,.d ti,.d tB] fun _=>by kernel_rfl)
noncomputable def dH.sg:SG Tryz.prog:=⟨143,vU,dH.E,.fn 1 (by kernel_rfl) dH.ok (And.intro (.none (by kernel_rfl)) trivial)⟩
set_option synthInstance.maxSize 5000
abbrev aM.L0.D:=Bs×Nat×Bs×(List Int)
def aM.L0.st:aM.L0.D→AS:=fun(b_2,endL,n2,n14)=>⟨([.d tB b_2,.undef,.ptr (.new 2 0) 0 [] 0,.bI (.new 14 0) 0 [] 0 0 endL]++ba 61 []),[],([[],[],[.obj 0 false (.d tH n2)]]++bE 11 ([[.obj 0 false (.vec 5 tb n14)]]++bE 50 []))⟩
abbrev aM.L0.Y0:=Nat×(List Int)
abbrev aM.L0.X0:=(Bs×Bs)×(Nat×(List Int))
def aM.L0.bj:aM.L0.X0→Exit×AS:=fun x=>(.exit 0,⟨([.d tB x.1.1,.undef,.ptr (.new 2 0) 0 [] 0,.bI (.new 14 0) 0 [] 0 0 x.2.1]++ba 61 []),[],([[],[],[.obj 0 false (.d tH x.1.2)]]++bE 11 ([[.obj 0 false (.vec 5 tb x.2.2)]]++bE 50 []))⟩)
abbrev aM.L0.X:=aM.L0.X0
abbrev aM.L0.Y:=aM.L0.Y0
def aM.L0.out:aM.L0.X→Out (Exit×AS):=fun x=> .ok (aM.L0.bj x)
def aM.L0.add:aM.L0.D→aM.L0.Y→aM.L0.X:=fun(b_2,endL,n2,n14) y=>((b_2,n2),y)
abbrev aM.L1.D:=Bs×Nat×Bs×(List Int)×(List Int)
def aM.L1.st:aM.L1.D→AS:=fun(b_3,endL_2,n2_2,n4,n14_2)=>⟨([.d tB b_3,.undef,.ptr (.new 2 0) 0 [] 0,.bI (.new 14 0) 8 [] 0 0 endL_2,.ptr (.new 4 0) 0 [] 0]++ba 60 []),[],([[],[],[.obj 0 false (.d tH n2_2)],[],[.obj 0 false (.d (.arr 8 (.int .u32)) n4)]]++bE 9 ([[.obj 8 false (.vec 5 tb n14_2)]]++bE 50 []))⟩
abbrev aM.L1.Y0:=(List Int)
abbrev aM.L1.X0:=(Nat×Bs×(List Int))×((List Int))
def aM.L1.bj:aM.L1.X0→Exit×AS:=fun x=>(.exit 2,⟨([.undef,.undef,.ptr (.new 2 0) 0 [] 0,.bI (.new 14 0) 8 [] 0 0 x.1.1,.ptr (.new 4 0) 0 [] 0]++ba 60 []),[],([[],[],[.obj 0 false (.d tH x.1.2.1)],[],[.obj 0 false (.d (.arr 8 (.int .u32)) x.2)]]++bE 9 ([[.obj 8 false (.vec 5 tb x.1.2.2)]]++bE 50 []))⟩)
abbrev aM.L1.X:=aM.L1.X0
abbrev aM.L1.Y:=aM.L1.Y0
def aM.L1.out:aM.L1.X→Out (Exit×AS):=fun x=> .ok (aM.L1.bj x)
def aM.L1.add:aM.L1.D→aM.L1.Y→aM.L1.X:=fun(b_3,endL_2,n2_2,n4,n14_2) y=>((endL_2,n2_2,n14_2),y)
abbrev aM.L2.D:=Bs×Bs×(List Int)
def aM.L2.st:aM.L2.D→AS:=fun(endv,n2_3,n4_2)=>⟨([.undef,.undef,.ptr (.new 2 0) 0 [] 0,.d tB endv,.ptr (.new 4 0) 0 [] 0]++ba 60 []),[],([[],[],[.obj 0 false (.d tH n2_3)],[],[.obj 0 false (.d (.arr 8 (.int .u32)) n4_2)]]++bE 60 [])⟩
abbrev aM.L2.Y0:=(List Int)
abbrev aM.L2.X0:=(Bs)×((List Int))
def aM.L2.bj:aM.L2.X0→Exit×AS:=fun x=>(.exit 4,⟨([.undef,.undef,.ptr (.new 2 0) 0 [] 0,.undef,.ptr (.new 4 0) 0 [] 0]++ba 60 []),[],([[],[],[.obj 0 false (.d tH x.1)],[],[.obj 0 false (.d (.arr 8 (.int .u32)) x.2)]]++bE 60 [])⟩)
abbrev aM.L2.X:=aM.L2.X0
abbrev aM.L2.Y:=aM.L2.Y0
def aM.L2.out:aM.L2.X→Out (Exit×AS):=fun x=> .ok (aM.L2.bj x)
def aM.L2.add:aM.L2.D→aM.L2.Y→aM.L2.X:=fun(endv,n2_3,n4_2) y=>(n2_3,y)
abbrev aM.L3.D:=Int×Bs×(List Int)
def aM.L3.st:aM.L3.D→AS:=fun(t48,n2_4,n4_3)=>⟨([.undef,.undef,.ptr (.new 2 0) 0 [] 0,.undef,.ptr (.new 4 0) 0 [] 0]++ba 43 ([.d ti t48]++ba 16 [])),[],([[],[],[.obj 0 false (.d tH n2_4)],[],[.obj 0 false (.d (.arr 8 (.int .u32)) n4_3)]]++bE 60 [])⟩
abbrev aM.L3.Y0:=Bs
abbrev aM.L3.X0:=Bs
def aM.L3.bj:aM.L3.X0→Exit×AS:=fun x=>(.exit 6,⟨([.undef,.undef,.ptr (.new 2 0) 0 [] 0]++ba 62 []),[],([[],[],[.obj 0 false (.d tH x)]]++bE 62 [])⟩)
abbrev aM.L3.X:=aM.L3.X0
abbrev aM.L3.Y:=aM.L3.Y0
def aM.L3.out:aM.L3.X→Out (Exit×AS):=fun x=> .ok (aM.L3.bj x)
def aM.L3.add:aM.L3.D→aM.L3.Y→aM.L3.X:=fun(t48,n2_4,n4_3) y=>y
abbrev aM.D:=Bs
def aM.st:aM.D→SA:=fun b=>([.d tB b],[])
abbrev aM.Y:=Bs
abbrev aM.X:=Bs
def aM.out:aM.X→bk:=fun x=>⟨.d tH x,[],[]⟩
def aM.add:aM.D→aM.Y→aM.X:=fun b y=>y
def zc(n:Nat):Nat:=(120 - n%64)%64
def aM.L0.aC:aM.L0.D→Prop:=fun(b,m,n2,l)=>m=l.length∧l.length+zc l.length≤140737488355328
def aM.L0.F:aM.L0.D→aM.L0.Y:=fun(b,m,n2,l)=>(l.length+zc l.length,l++List.replicate (zc l.length) 0)
def aM.L1.aC:aM.L1.D→Prop:=fun(b,m,n2,h,l)=>∃s:St,h=s.l
def aM.L1.F:aM.L1.D→aM.L1.Y:=fun(b,m,n2,h,l)=>(blocks (xi h) b).l
def aM.L2.aC:aM.L2.D→Prop:=fun(b,n2,h)=>b.length%64=0∧∃s:St,h=s.l
def aM.L2.F:aM.L2.D→aM.L2.Y:=fun(b,n2,h)=>(blocks (xi h) b).l
def pd(h:List Int)(i:Nat)(_:Int):Int:=dM .u8 (bV .u32 (nth (.int .u32) h (i / 4)) ((24 - 8*(i%4):Nat):Int))
def aM.L3.aC:aM.L3.D→Prop:=fun(t,n2,h)=>n2.length=32∧h.length=8∧∃k:Nat,k≤32∧t=k
def aM.L3.F:aM.L3.D→aM.L3.Y:=fun(t,n2,h)=>from_ (pd h) t.toNat n2
def aM.aC:aM.D→Prop:=fun b=>b.length≤140737488350000
def aM.F:aM.D→aM.Y:=fun b=>GC b
noncomputable def aM.G:dZ:=fh (P:=Tryz.prog) [cz.sg,dH.sg,first.sg,mix.sg]
noncomputable def aM.L0.E:=bP.cq aM.L0.st aM.L0.aC aM.L0.add aM.L0.F aM.L0.out
noncomputable def aM.L0.call:aM.L0.D→Option aM.L0.X:=cX aM.L0.E aM.L0.st
noncomputable def aM.L1.E:=bP.cq aM.L1.st aM.L1.aC aM.L1.add aM.L1.F aM.L1.out
noncomputable def aM.L1.call:aM.L1.D→Option aM.L1.X:=cX aM.L1.E aM.L1.st
noncomputable def aM.L2.E:=bP.cq aM.L2.st aM.L2.aC aM.L2.add aM.L2.F aM.L2.out
noncomputable def aM.L2.call:aM.L2.D→Option aM.L2.X:=cX aM.L2.E aM.L2.st
noncomputable def aM.L3.E:=bP.cq aM.L3.st aM.L3.aC aM.L3.add aM.L3.F aM.L3.out
noncomputable def aM.L3.call:aM.L3.D→Option aM.L3.X:=cX aM.L3.E aM.L3.st
noncomputable def aM.an:eO:= {loops:=j7 [(2,{bm:=[0,2,3],sites:=[2,14],ij:=[⟨3,[],14,140⟩]}),(6,{bm:=[0,2,3,4],sites:=[2,4,14]}),(9,{bm:=[2,3,4],sites:=[2,4],data:=[(3,tB)]}),(13,{bm:=[2,4,48],sites:=[2,4]})],outs:=j6 [(2,{bm:=[0,2,3],sites:=[2,14]},{bm:=[2]}),(6,{bm:=[2,3,4],sites:=[2,4,14]},{bm:=[2]}),(9,{bm:=[2,4],sites:=[2,4]},{bm:=[2]}),(13,{bm:=[2],sites:=[2]},{bm:=[2]})],fJ:=kW [(2,aM.L0.E),(6,aM.L1.E),(9,aM.L2.E),(13,aM.L3.E)]}
noncomputable def aM.A:= @cZ Tryz.prog aM.G aM.an 0 Tryz.f144 _ aM.st
abbrev aM.Ok:=da @aM.A aM.aC aM.add aM.F aM.out
noncomputable def aM.L0.R:= @bX Tryz.prog aM.G aM.an 0 Tryz.f144 0 _ aM.L0.st
abbrev aM.L0.Ok:=ej Tryz.prog aM.G aM.an 0 Tryz.f144 0 aM.L0.st aM.L0.aC aM.L0.add aM.L0.F aM.L0.out
noncomputable def aM.L1.R:= @bX Tryz.prog aM.G aM.an 0 Tryz.f144 1 _ aM.L1.st
abbrev aM.L1.Ok:=ej Tryz.prog aM.G aM.an 0 Tryz.f144 1 aM.L1.st aM.L1.aC aM.L1.add aM.L1.F aM.L1.out
noncomputable def aM.L2.R:= @bX Tryz.prog aM.G aM.an 0 Tryz.f144 2 _ aM.L2.st
abbrev aM.L2.Ok:=ej Tryz.prog aM.G aM.an 0 Tryz.f144 2 aM.L2.st aM.L2.aC aM.L2.add aM.L2.F aM.L2.out
noncomputable def aM.L3.R:= @bX Tryz.prog aM.G aM.an 0 Tryz.f144 3 _ aM.L3.st
abbrev aM.L3.Ok:=ej Tryz.prog aM.G aM.an 0 Tryz.f144 3 aM.L3.st aM.L3.aC aM.L3.add aM.L3.F aM.L3.out
theorem aM.L0.run:bK aM.L0.call aM.L0.aC aM.L0.add aM.L0.F:=eG (eC [.d tB,.n,.d tB,.d tB] fun _=>by kernel_rfl)
theorem aM.L0.aD:fN @aM.L0.R aM.L0.st aM.L0.aC aM.L0.add aM.L0.F aM.L0.bj aM.L0.Ok:=fU
theorem aM.L0.step{R:Type}(b_2:Bs)(endL:Nat)(n2:Bs)(n14:(List Int))(kn:AS→Option R)(kx:Exit→AS→Option R):aM.L0.R (b_2,endL,n2,n14) kn kx=
  aJ ((jO (jI ((endL:Nat):Int) (64:Int)) (56:Int))) (
   aJ (decide (endL≤(List.length n14))) (
   aJ (dq (endL+1) 1) (
   kn (aM.L0.st (b_2,(endL+1),n2,((List.take endL n14)++ [(0:Int)])))) none) none) (
   kx (aM.L0.bj ((b_2,n2),(endL,n14))).1 (aM.L0.bj ((b_2,n2),(endL,n14))).2):=by kernel_rfl
theorem aM.L1.run:bK aM.L1.call aM.L1.aC aM.L1.add aM.L1.F:=eG (eC [.d tB,.n,.d tB,.d (.slice (.int .u32)),.d tB] fun _=>by kernel_rfl)
theorem aM.L1.aD:fN @aM.L1.R aM.L1.st aM.L1.aC aM.L1.add aM.L1.F aM.L1.bj aM.L1.Ok:=fU
theorem aM.L1.step{R:Type}(b_3:Bs)(endL_2:Nat)(n2_2:Bs)(n4:(List Int))(n14_2:(List Int))(kn:AS→Option R)(kx:Exit→AS→Option R):aM.L1.R (b_3,endL_2,n2_2,n4,n14_2) kn kx=
  aJ ((nS (((List.length b_3):Nat):Int) (64:Int))) (
   aJ (inc (64:Int) (((List.length b_3):Nat):Int)) (
   ah (mix.call (n4,(cut b_3 0 64))) fun x1=>
   aJ (inc (64:Int) (((List.length b_3):Nat):Int)) (
   kn (aM.L1.st ((cut b_3 64 ((List.length b_3) - 64)),endL_2,n2_2,x1,n14_2))) none) none) (
   kx (aM.L1.bj ((endL_2,n2_2,n14_2),n4)).1 (aM.L1.bj ((endL_2,n2_2,n14_2),n4)).2):=by kernel_rfl
theorem aM.L2.run:bK aM.L2.call aM.L2.aC aM.L2.add aM.L2.F:=eG (eC [.d tB,.d tB,.d (.slice (.int .u32))] fun _=>by kernel_rfl)
theorem aM.L2.aD:fN @aM.L2.R aM.L2.st aM.L2.aC aM.L2.add aM.L2.F aM.L2.bj aM.L2.Ok:=fU
theorem aM.L2.step{R:Type}(endv:Bs)(n2_3:Bs)(n4_2:(List Int))(kn:AS→Option R)(kx:Exit→AS→Option R):aM.L2.R (endv,n2_3,n4_2) kn kx=
  aJ ((mP (((List.length endv):Nat):Int) (0:Int))) (
   aJ (inc (64:Int) (((List.length endv):Nat):Int)) (
   ah (mix.call (n4_2,(cut endv 0 64))) fun x1=>
   aJ (inc (64:Int) (((List.length endv):Nat):Int)) (
   kn (aM.L2.st ((cut endv 64 ((List.length endv) - 64)),n2_3,x1))) none) none) (
   kx (aM.L2.bj (n2_3,n4_2)).1 (aM.L2.bj (n2_3,n4_2)).2):=by kernel_rfl
theorem aM.L3.run:bK aM.L3.call aM.L3.aC aM.L3.add aM.L3.F:=eG (eC [.d ti,.d tB,.d (.slice (.int .u32))] fun _=>by kernel_rfl)
theorem aM.L3.aD:fN @aM.L3.R aM.L3.st aM.L3.aC aM.L3.add aM.L3.F aM.L3.bj aM.L3.Ok:=fU
theorem aM.L3.step{R:Type}(t48:Int)(n2_4:Bs)(n4_3:(List Int))(kn:AS→Option R)(kx:Exit→AS→Option R):aM.L3.R (t48,n2_4,n4_3) kn kx=
  aJ ((fX t48 (32:Int))) (
   aJ (eJ (lV .i64 t48 (4:Int)) (8:Int)) (
   aJ (decide ((Int.toNat (lV .i64 t48 (4:Int))) < (List.length n4_3))) (
   aJ (decide ((((Int.toNat (lV .i64 t48 (4:Int)))*1)+0)=(0+((Int.toNat (lV .i64 t48 (4:Int)))*1)))) (
   aJ (ig (cH .i64 (24:Int) (fi .i64 (8:Int) (jI t48 (4:Int))))) (
   aJ (eJ t48 (32:Int)) (
   aJ (decide ((Int.toNat t48) < (List.length n2_4))) (
   aJ (decide ((((Int.toNat t48)*1)+0)=(0+((Int.toNat t48)*1)))) (
   aJ (decide ((Int.toNat t48) < (List.length n2_4))) (
   kn (aM.L3.st ((bN .i64 t48 (1:Int)),(List.set n2_4 (Int.toNat t48) (dM .u8 (bV .u32 (nth (.int .u32) n4_3 (Int.toNat (lV .i64 t48 (4:Int)))) (cH .i64 (24:Int) (fi .i64 (8:Int) (jI t48 (4:Int))))))),n4_3))) none) none) none) none) none) none) none) none) (
   kx (aM.L3.bj n2_4).1 (aM.L3.bj n2_4).2):=by kernel_rfl
theorem aM.eq{R:Type}(b:Bs)(k:bk→Option R):aM.A b k=
 aJ (inc (cH .i64 (((List.length b):Nat):Int) (jI (((List.length b):Nat):Int) (64:Int))) (((List.length b):Nat):Int)) (
 ah (cz.call (cut b (Int.toNat (cH .i64 (((List.length b):Nat):Int) (jI (((List.length b):Nat):Int) (64:Int)))) ((List.length b) - (Int.toNat (cH .i64 (((List.length b):Nat):Int) (jI (((List.length b):Nat):Int) (64:Int))))))) fun x1=>
 aJ (decide (x1.1≤(List.length x1.2))) (
 aJ (dq (x1.1+1) 1) (
 ah (aM.L0.call (b,(x1.1+1),(List.replicate 32 (0:Int)),((List.take x1.1 x1.2)++ [(128:Int)]))) fun x2=>
 ah (dH.call (x2.2.1,(fi .i64 (8:Int) (((List.length x2.1.1):Nat):Int)),x2.2.2)) fun x3=>
 ah (first.call ()) fun x4=>
 ah (aM.L1.call (x2.1.1,x3.1,x2.1.2,x4,x3.2)) fun x6=>
 aJ (decide (0=0∧(0+x6.1.1)≤(List.length x6.1.2.2))) (
 ah (aM.L2.call ((cut x6.1.2.2 0 x6.1.1),x6.1.2.1,x6.2)) fun x9=>
 ah (aM.L3.call ((0:Int),x9.1,x9.2)) fun x10=>
 k (aM.out x10)) none) none) none) none:=by kernel_rfl
theorem aM.L0.ok:aM.L0.Ok:=by
 refine aM.L0.aD (fun(b,m,n2,l)=>zc l.length) ?_
 rintro⟨b,m,n2,l⟩ ⟨rfl,hl⟩
 have hl:l.length+zc l.length≤140737488355328:=hl
 have hr:jI ((l.length:Nat):Int) 64=((l.length%64:Nat):Int):=by
  unfold jI
  rw[Int.tmod_eq_emod_of_nonneg (by omega)]
  omega
 by_cases h:l.length%64=56
 ·right
  intro R kn kx
  have hz:zc l.length=0:=by unfold zc;omega
  rw[aM.L0.step,hr,bU (by omega)]
  simp only[ai,aM.L0.add,aM.L0.F,hz,Nat.add_zero,List.replicate_zero,List.append_nil]
 ·left
  have hz:zc l.length=zc (l.length+1)+1:=by unfold zc;omega
  refine⟨(b,l.length+1,n2,l++ [0]),⟨by simp,by simp only[List.length_append,List.length_cons,List.length_nil,Nat.zero_add];omega⟩,by simp only[List.length_append,List.length_cons,List.length_nil,Nat.zero_add];omega,?_,fun kn kx=> ?_⟩
  ·simp only[aM.L0.add,aM.L0.F,List.length_append,List.length_cons,List.length_nil,Nat.zero_add,hz,List.append_assoc,List.cons_append,List.nil_append,List.replicate_succ]
   rw[show l.length+1+zc (l.length+1)=l.length+(zc (l.length+1)+1) by omega]
  ·rw[aM.L0.step,hr,dO (by omega),mV (by omega)]
   simp only[ag,Nat.le_refl,decide_true,List.take_length]
theorem aM.L1.ok:aM.L1.Ok:=by
 refine aM.L1.aD (fun(b,m,n2,h,l)=>b.length) ?_
 rintro⟨b,m,n2,h,l⟩ ⟨s,rfl⟩
 by_cases hb:64≤b.length
 ·left
  have e1:cut b 64 (b.length - 64)=b.drop 64:=by unfold cut;rw[List.take_of_length_le (by simp)]
  have e2:cut b 0 64=b.take 64:=rfl
  have hp:mix.aC (s.l,b.take 64):=⟨⟨s,rfl⟩,by simp;omega⟩
  refine⟨(b.drop 64,m,n2,(rF s (b.take 64)).l,l),⟨_,rfl⟩,by simp;omega,?_,fun kn kx=> ?_⟩
  ·simp only[aM.L1.add,aM.L1.F,iy]
   rw[nX s b hb]
  ·rw[aM.L1.step,gl (by omega),kJ (by omega) (by omega),e1,e2]
   simp only[ag,mix.run hp,aa,mix.add,mix.F,iy]
 ·right
  intro R kn kx
  rw[aM.L1.step,eX (by omega)]
  simp only[ai,aM.L1.add,aM.L1.F,iy]
  rw[mY s b (by omega)]
theorem aM.L2.ok:aM.L2.Ok:=by
 refine aM.L2.aD (fun(b,n2,h)=>b.length) ?_
 rintro⟨b,n2,h⟩ ⟨hm,s,rfl⟩
 have hm:b.length%64=0:=hm
 by_cases hb:0 < b.length
 ·left
  have e1:cut b 64 (b.length - 64)=b.drop 64:=by unfold cut;rw[List.take_of_length_le (by simp)]
  have e2:cut b 0 64=b.take 64:=rfl
  have hp:mix.aC (s.l,b.take 64):=⟨⟨s,rfl⟩,by simp;omega⟩
  refine⟨(b.drop 64,n2,(rF s (b.take 64)).l),⟨by simp;omega,_,rfl⟩,by simp;omega,?_,fun kn kx=> ?_⟩
  ·simp only[aM.L2.add,aM.L2.F,iy]
   rw[nX s b (by omega)]
  ·rw[aM.L2.step,dy (by omega),kJ (by omega) (by omega),e1,e2]
   simp only[ag,mix.run hp,aa,mix.add,mix.F,iy]
 ·right
  intro R kn kx
  rw[aM.L2.step,db (by omega)]
  simp only[ai,aM.L2.add,aM.L2.F,iy]
  rw[mY s b (by omega)]
theorem aM.L3.ok:aM.L3.Ok:=by
 refine aM.L3.aD (fun(t,n2,h)=>32 - t.toNat) ?_
 rintro⟨t,m,h⟩ ⟨hl,h8,k,hk,rfl⟩
 have hl:m.length=32:=hl
 have h8:h.length=8:=h8
 have e2:Int.toNat (k:Int)=k:=by omega
 have e3:Int.toNat ((k+1:Nat):Int)=k+1:=by omega
 by_cases hlt:k < 32
 ·left
  have e1:bN .i64 (k:Int) 1=((k+1:Nat):Int):=by rw[fK (by omega) (by omega)];omega
  have q4:lV .i64 (k:Int) 4=((k / 4:Nat):Int):=by
   have:(k:Int).tdiv 4=((k / 4:Nat):Int):=by rw[Int.tdiv_eq_ediv_of_nonneg (by omega)];omega
   unfold lV
   rw[this,jN (by omega) (by omega)]
  have r4:jI (k:Int) 4=((k%4:Nat):Int):=by
   unfold jI
   rw[Int.tmod_eq_emod_of_nonneg (by omega)]
   omega
  have s4:cH .i64 24 (fi .i64 8 ((k%4:Nat):Int))=((24 - 8*(k%4):Nat):Int):=by
   rw[qj (by omega) (by omega),eK (by omega) (by omega)]
   omega
  have e4:Int.toNat ((k / 4:Nat):Int)=k / 4:=by omega
  refine⟨(((k+1:Nat):Int),m.set k (pd h k m[k]),h),⟨by simpa using hl,h8,k+1,by omega,rfl⟩,by simp;omega,?_,fun kn kx=> ?_⟩
  ·simp only[aM.L3.add,aM.L3.F,e2,e3]
   rw[oN (pd h) m k (by omega)]
  ·have d0:decide (k < 32)=true:=aX hlt
   have d1:decide (k / 4 < 8)=true:=aX (by omega)
   rw[aM.L3.step,bq (by omega),q4,r4,s4,bt (by omega) (by omega),bt (by omega) (by omega),kM (by omega)]
   simp only[e1,e2,e4,Nat.mul_one,Nat.zero_add,Nat.add_zero,decide_true,ag,hl,h8,d0,d1,pd]
 ·right
  obtain rfl:k=32:=by omega
  intro R kn kx
  rw[aM.L3.step,bg (by omega)]
  simp only[ai,aM.L3.add,aM.L3.F,e2]
  rw[qh _ _ _ (by omega)]
theorem B4(w:W):BitVec.ofInt 8 (vw w)=w.setWidth 8:=by
 apply BitVec.eq_of_toNat_eq
 rw[BitVec.toNat_ofInt,BitVec.toNat_setWidth]
 unfold vw
 omega
theorem F0(w:W)(k:Int):dM .u8 (bV .u32 (vw w) k)=vw ((w >>> k.toNat).setWidth 8):=by
 rw[oq,tx,B4]
theorem A4(s:St):from_ (pd s.l) 0 (List.replicate 32 0)=E7 s:=by
 rw[tq]
 simp only[List.range_eq_range',List.range',List.map_cons,List.map_nil,pd,Nat.reduceAdd,Nat.reduceDiv,Nat.reduceMod,Nat.reduceMul,Nat.reduceSub,n0,n1,n2,n3,n4,n5,n6,n7,F0]
 rfl
theorem aM.ok:aM.Ok:=by
 intro b hb
 have hb:b.length≤140737488350000:=hb
 have hr:jI ((b.length:Nat):Int) 64=((b.length%64:Nat):Int):=by
  unfold jI
  rw[Int.tmod_eq_emod_of_nonneg (by omega)]
  omega
 have hs:cH .i64 ((b.length:Nat):Int) ((b.length%64:Nat):Int)=((b.length - b.length%64:Nat):Int):=by
  rw[eK (by omega) (by omega)];omega
 have hn:Int.toNat ((b.length - b.length%64:Nat):Int)=b.length - b.length%64:=by omega
 have hm:fi .i64 8 ((b.length:Nat):Int)=8*(b.length:Int):=qj (by omega) (by omega)
 generalize hq:b.length - b.length%64=q at hs hn
 have hc:cut b q (b.length - q)=b.drop q:=by unfold cut;rw[List.take_of_length_le (by simp)]
 have hcl:(b.drop q).length=b.length%64:=by simp;omega
 have p1:cz.aC (b.drop q):=by show(b.drop q).length≤_;omega
 rw[aM.eq,hr,hs,kJ (by omega) (by omega),hn,hc]
 simp only[ag,cz.run p1,aa,cz.add,cz.F,Nat.le_refl,decide_true,List.take_length]
 have p2:aM.L0.aC (b,(b.drop q).length+1,List.replicate 32 0,b.drop q++ [128]):=by
  refine⟨by simp,?_⟩
  simp only[List.length_append,List.length_cons,List.length_nil,zc]
  omega
 have hz:zc (b.drop q++ [128]).length=lZ b.length:=by
  simp only[List.length_append,List.length_cons,List.length_nil,zc,lZ]
  omega
 rw[mV (by omega)]
 simp only[ag,aM.L0.run p2,aa,aM.L0.add,aM.L0.F,hm,hz]
 have hlen:(b.drop q++ [128]).length+lZ b.length=(b.drop q++ [128]++List.replicate (lZ b.length) 0).length:=by rw[@List.length_append _ (b.drop q++ [128]),List.length_replicate]
 have p3:dH.aC ((b.drop q++ [128]).length+lZ b.length,8*(b.length:Int),b.drop q++ [128]++List.replicate (lZ b.length) 0):=by
  refine⟨hlen,?_⟩
  simp only[List.length_append,List.length_cons,List.length_nil,List.length_replicate,lZ]
  omega
 have p4:aM.L1.aC (b,(b.drop q++ [128]++List.replicate (lZ b.length) 0).length+8,List.replicate 32 0,ju.l,b.drop q++ [128]++List.replicate (lZ b.length) 0++ik (8*(b.length:Int))):=⟨ju,rfl⟩
 simp only[dH.run p3,aa,dH.add,dH.F,first.run (d:=()) trivial,first.add,first.F,aM.L1.run p4,aM.L1.add,aM.L1.F,iy]
 generalize he:b.drop q++ [128]++List.replicate (lZ b.length) 0++ik (8*(b.length:Int))=e
 have hel:(b.drop q++ [128]++List.replicate (lZ b.length) 0).length+8=e.length:=by rw[←he,@List.length_append _ _ (ik _),bY]
 have hem:e.length%64=0:=by
  rw[←hel]
  simp only[List.length_append,List.length_cons,List.length_nil,List.length_replicate,lZ,hcl]
  omega
 have hce:cut e 0 ((b.drop q++ [128]++List.replicate (lZ b.length) 0).length+8)=e:=by
  rw[hel];unfold cut;rw[List.drop_zero,List.take_length]
 rw[hce,hel,aX ⟨trivial,by omega⟩]
 have p5:aM.L2.aC (e,List.replicate 32 0,(blocks ju b).l):=⟨hem,blocks ju b,rfl⟩
 have p6:aM.L3.aC (0,List.replicate 32 0,(blocks (blocks ju b) e).l):=⟨rfl,rfl,0,by omega,rfl⟩
 simp only[ag,aM.L2.run p5,aa,aM.L2.add,aM.L2.F,iy,aM.L3.run p6,aM.L3.add,aM.L3.F,aM.add,aM.F]
 rw[show Int.toNat 0=0 from rfl,A4]
 have hbl:blocks ju (pad b)=blocks (blocks ju b) e:=by
  have h1:pad b=b.take q++e:=by
   rw[←he]
   unfold pad
   rw[List.append_assoc,List.append_assoc,←List.append_assoc (b.take q),List.take_append_drop]
   rfl
  have h2:blocks ju b=blocks (blocks ju (b.take q)) (b.drop q):=by
   rw[←pc _ _ _ (by simp;omega),List.take_append_drop]
  rw[h1,pc _ _ _ (by simp;omega),h2,mY _ (b.drop q) (by omega)]
 rw[GC,hbl]
noncomputable def aM.E:=Entry.cq [some tB] aM.st aM.aC aM.add aM.F aM.out
noncomputable def aM.call:aM.D→Option aM.X:=bT aM.E aM.st
theorem aM.run:bK aM.call aM.aC aM.add aM.F:=dh (de [.d tB] fun _=>by kernel_rfl)
noncomputable def aM.sg:SG Tryz.prog:=⟨144,aY,aM.E,.fn 4 (by kernel_rfl) aM.ok (And.intro (.cq aM.L0.ok (by kernel_rfl)) (And.intro (.cq aM.L1.ok (by kernel_rfl)) (And.intro (.cq aM.L2.ok (by kernel_rfl)) (And.intro (.cq aM.L3.ok (by kernel_rfl)) trivial))))⟩
set_option synthInstance.maxSize 5000
abbrev ck.L0.D:=Nat×(List Bs)×Int×Int×Bs×(List Int)
def ck.L0.st:ck.L0.D→AS:=fun(bL,t13,t14,t15,n4,n10)=>⟨(ba 4 ([.ptr (.new 4 0) 0 [] 0,.bI (.new 10 0) 0 [] 0 0 bL]++ba 7 ([.d (.slice tB) t13,.d ti t14,.d ti t15]++ba 12 []))),[],(bE 4 ([[.obj 0 false (.d tH n4)]]++bE 5 ([[.obj 0 false (.vec 5 tb n10)]]++bE 17 [])))⟩
abbrev ck.L0.Y0:=Nat×(List Int)
abbrev ck.L0.X0:=(Bs)×(Nat×(List Int))
def ck.L0.bj:ck.L0.X0→Exit×AS:=fun x=>(.exit 0,⟨(ba 4 ([.ptr (.new 4 0) 0 [] 0,.bI (.new 10 0) 0 [] 0 0 x.2.1]++ba 22 [])),[],(bE 4 ([[.obj 0 false (.d tH x.1)]]++bE 5 ([[.obj 0 false (.vec 5 tb x.2.2)]]++bE 17 [])))⟩)
abbrev ck.L0.X:=ck.L0.X0
abbrev ck.L0.Y:=ck.L0.Y0
def ck.L0.out:ck.L0.X→Out (Exit×AS):=fun x=> .ok (ck.L0.bj x)
def ck.L0.add:ck.L0.D→ck.L0.Y→ck.L0.X:=fun(bL,t13,t14,t15,n4,n10) y=>(n4,y)
abbrev ck.D:=ByteArray×(List Bs)
def ck.st:ck.D→SA:=fun(name,parts)=>([.d .str name,.d (.slice tB) parts],[])
abbrev ck.Y:=Bs
abbrev ck.X:=Bs
def ck.out:ck.X→bk:=fun x=>⟨.d tH x,[],[]⟩
def ck.add:ck.D→ck.Y→ck.X:=fun(name,parts) y=>y
def ck.L0.aC:ck.L0.D→Prop:=fun(m,ps,n,i,n4,l)=>m=l.length∧n=ps.length∧ps.length≤140737488350000∧∃k:Nat,k≤ps.length∧i=k∧l.length+(iD (ps.drop k)).length≤140737488350000
def ck.L0.F:ck.L0.D→ck.L0.Y:=fun(m,ps,n,i,n4,l)=>(l.length+(iD (ps.drop i.toNat)).length,l++iD (ps.drop i.toNat))
def ck.aC:ck.D→Prop:=fun(name,ps)=>(rQ (bA name) ps).length≤140737488350000
def ck.F:ck.D→ck.Y:=fun(name,ps)=>tag (bA name) ps
noncomputable def ck.G:dZ:=fh (P:=Tryz.prog) [eo.sg,dH.sg,aM.sg]
noncomputable def ck.L0.E:=bP.cq ck.L0.st ck.L0.aC ck.L0.add ck.L0.F ck.L0.out
noncomputable def ck.L0.call:ck.L0.D→Option ck.L0.X:=cX ck.L0.E ck.L0.st
noncomputable def ck.an:eO:= {loops:=j7 [(3,{bm:=[4,5,13,14,15],sites:=[4,10],ij:=[⟨5,[],10,140⟩]})],outs:=j6 [(3,{bm:=[4,5],sites:=[4,10]},{bm:=[4]})],fJ:=kW [(3,ck.L0.E)]}
noncomputable def ck.A:= @cZ Tryz.prog ck.G ck.an 0 Tryz.f72 _ ck.st
abbrev ck.Ok:=da @ck.A ck.aC ck.add ck.F ck.out
noncomputable def ck.L0.R:= @bX Tryz.prog ck.G ck.an 0 Tryz.f72 0 _ ck.L0.st
abbrev ck.L0.Ok:=ej Tryz.prog ck.G ck.an 0 Tryz.f72 0 ck.L0.st ck.L0.aC ck.L0.add ck.L0.F ck.L0.out
theorem ck.L0.run:bK ck.L0.call ck.L0.aC ck.L0.add ck.L0.F:=eG (eC [.n,.d (.slice tB),.d ti,.d ti,.d tB,.d tB] fun _=>by kernel_rfl)
theorem ck.L0.aD:fN @ck.L0.R ck.L0.st ck.L0.aC ck.L0.add ck.L0.F ck.L0.bj ck.L0.Ok:=fU
theorem ck.L0.step{R:Type}(bL:Nat)(t13:(List Bs))(t14:Int)(t15:Int)(n4:Bs)(n10:(List Int))(kn:AS→Option R)(kx:Exit→AS→Option R):ck.L0.R (bL,t13,t14,t15,n4,n10) kn kx=
  aJ ((fX t15 t14)) (
   aJ (eJ t15 (((List.length t13):Nat):Int)) (
   ah (dH.call (bL,(((List.length (nth tB t13 (Int.toNat t15))):Nat):Int),n10)) fun x1=>
   aJ (decide (x1.1≤(List.length x1.2))) (
   aJ (dq (x1.1+(List.length (nth tB t13 (Int.toNat t15)))) 1) (
   kn (ck.L0.st ((x1.1+(List.length (nth tB t13 (Int.toNat t15)))),t13,t14,(bN .i64 t15 (1:Int)),n4,((List.take x1.1 x1.2)++(nth tB t13 (Int.toNat t15)))))) none) none) none) (
   kx (ck.L0.bj (n4,(bL,n10))).1 (ck.L0.bj (n4,(bL,n10))).2):=by kernel_rfl
theorem ck.eq{R:Type}(name:ByteArray)(parts:(List Bs))(k:bk→Option R):ck.A (name,parts) k=
 ah (eo.call (((ByteArray.size name):Nat):Int)) fun x1=>
 aJ (decide (x1.1≤(List.length x1.2))) (
 aJ (dq (x1.1+(List.length (bA name))) 1) (
 ah (ck.L0.call ((x1.1+(List.length (bA name))),parts,(((List.length parts):Nat):Int),(0:Int),(List.replicate 32 (0:Int)),((List.take x1.1 x1.2)++(bA name)))) fun x4=>
 aJ (decide (0=0∧(0+x4.2.1)≤(List.length x4.2.2))) (
 ah (aM.call (cut x4.2.2 0 x4.2.1)) fun x5=>
 k (ck.out x5)) none) none) none:=by kernel_rfl
theorem vW(p:List Int)(ps:List (List Int)):iD (p::ps)=ik p.length++p++iD ps:=by simp[iD]
theorem vX(ps:List (List Int))(k:Nat)(h:k < ps.length):iD (ps.drop k)=ik ps[k].length++ps[k]++iD (ps.drop (k+1)):=by
 rw[List.drop_eq_getElem_cons h,vW]
theorem ck.L0.ok:ck.L0.Ok:=by
 refine ck.L0.aD (fun(m,ps,n,i,n4,l)=>ps.length - i.toNat) ?_
 rintro⟨m,ps,n,i,n4,l⟩ ⟨rfl,rfl,hpl,k,hk,rfl,hl⟩
 have hl:l.length+(iD (ps.drop k)).length≤140737488350000:=hl
 have hk:k≤ps.length:=hk
 have e2:Int.toNat (k:Int)=k:=by omega
 have e3:Int.toNat ((k+1:Nat):Int)=k+1:=by omega
 by_cases h:k < ps.length
 ·left
  have ht:=vX ps k h
  have hlen:(iD (ps.drop k)).length=8+ps[k].length+(iD (ps.drop (k+1))).length:=by rw[ht];simp only[List.length_append,bY]
  have hn:nth (.slice (.int .u8)) ps k=ps[k]:=cm (t:= .slice (.int .u8)) h
  have hpl:ps.length≤140737488350000:=hpl
  have e1:bN .i64 (k:Int) 1=((k+1:Nat):Int):=by rw[fK (by omega) (by omega)];omega
  refine⟨((l++ik ps[k].length++ps[k]).length,ps,(ps.length:Int),((k+1:Nat):Int),n4,l++ik ps[k].length++ps[k]),⟨rfl,rfl,hpl,k+1,by show k+1≤ps.length;omega,rfl,?_⟩,?_,?_,fun kn kx=> ?_⟩
  ·show(l++ik ps[k].length++ps[k]).length+(iD (ps.drop (k+1))).length≤_
   simp only[List.length_append,bY];omega
  ·show ps.length - Int.toNat ((k+1:Nat):Int) < ps.length - Int.toNat (k:Int)
   omega
  ·simp only[ck.L0.add,ck.L0.F,e2,e3,ht,List.append_assoc]
   simp only[List.length_append,bY,Nat.add_assoc]
  ·have p1:dH.aC (l.length,(ps[k].length:Int),l):=⟨rfl,by show l.length≤_;omega⟩
   rw[ck.L0.step,bq (by omega),bt (by omega) (by omega),e1,e2]
   simp only[ag,hn,dH.run p1,aa,dH.add,dH.F]
   have hlb:(l++ik ps[k].length).length=l.length+8:=by simp[bY]
   rw[hlb,aX (Nat.le_refl _),mV (by omega)]
   simp only[ag]
   rw[List.take_of_length_le (by rw[hlb];omega)]
   simp only[List.length_append,bY,Nat.add_assoc]
 ·right
  obtain rfl:k=ps.length:=by omega
  intro R kn kx
  rw[ck.L0.step,bg (by omega)]
  simp only[ai,ck.L0.add,ck.L0.F,e2,List.drop_length]
  simp[iD]
theorem uz:∀ps:List (List Int),8*ps.length≤(iD ps).length
 |[]=>by simp[iD]
 |p::ps=>by
  rw[vW]
  have:=uz ps
  simp only[List.length_append,bY,List.length_cons]
  omega
theorem gH(s:ByteArray):(bA s).length=s.size:=by simp only[bA,List.length_map,Array.length_toList];rfl
theorem ck.ok:ck.Ok:=by
 rintro⟨name,ps⟩ hp
 have hp:(ik (bA name).length++bA name++iD ps).length≤140737488350000:=hp
 have hl:(ik (bA name).length++bA name++iD ps).length=8+(bA name).length+(iD ps).length:=by simp only[List.length_append,bY]
 have hpl:=uz ps
 have hsz:((name.size:Nat):Int)=(((bA name).length:Nat):Int):=by rw[gH]
 rw[ck.eq,eo.run (d:=((name.size:Nat):Int)) trivial,hsz]
 simp only[aa,eo.add,eo.F,bY,Nat.le_refl,decide_true,ag]
 rw[mV (by omega),List.take_of_length_le (by rw[bY];omega)]
 have p2:ck.L0.aC (8+(bA name).length,ps,(ps.length:Int),0,List.replicate 32 0,ik ((bA name).length:Int)++bA name):=by
  refine⟨by simp only[List.length_append,bY],rfl,by show ps.length≤_;omega,0,Nat.zero_le _,rfl,?_⟩
  rw[List.drop_zero]
  simp only[List.length_append,bY]
  omega
 simp only[ag,ck.L0.run p2,aa,ck.L0.add,ck.L0.F,Int.toNat_zero,List.drop_zero]
 have hcut:cut (ik ((bA name).length:Int)++bA name++iD ps) 0 ((ik ((bA name).length:Int)++bA name).length+(iD ps).length)=rQ (bA name) ps:=by
  unfold cut
  rw[List.drop_zero,List.take_of_length_le (by simp only[List.length_append];omega)]
  rfl
 have p3:aM.aC (rQ (bA name) ps):=hp
 rw[aX ⟨trivial,by simp only[List.length_append];omega⟩,hcut]
 simp only[ag,aM.run p3,aa,aM.add,aM.F,ck.add,ck.F,tag]
noncomputable def ck.E:=Entry.cq [some .str,some (.slice tB)] ck.st ck.aC ck.add ck.F ck.out
noncomputable def ck.call:ck.D→Option ck.X:=bT ck.E ck.st
theorem ck.run:bK ck.call ck.aC ck.add ck.F:=dh (de [.d .str,.d (.slice tB)] fun _=>by kernel_rfl)
noncomputable def ck.sg:SG Tryz.prog:=⟨72,aY,ck.E,.fn 1 (by kernel_rfl) ck.ok (And.intro (.cq ck.L0.ok (by kernel_rfl)) trivial)⟩
set_option synthInstance.maxSize 5000
abbrev dj.D:=Int×Int
def dj.st:dj.D→SA:=fun(x,n)=>([.d (.int .u32) x,.d ti n],[])
abbrev dj.Y:=Int
abbrev dj.X:=Int
def dj.out:dj.X→bk:=fun x=>⟨.d (.int .u32) x,[],[]⟩
def dj.add:dj.D→dj.Y→dj.X:=fun(x,n) y=>y
def dj.aC:dj.D→Prop:=fun(x,n)=>0≤x∧x < 4294967296∧0≤n∧n≤32
def dj.F:dj.D→dj.Y:=fun(x,n)=>vw (kq (BitVec.ofInt 32 x) n.toNat)
noncomputable def dj.G:dZ:=fh (P:=Tryz.prog) []
noncomputable def dj.an:eO:= {}
noncomputable def dj.A:= @cZ Tryz.prog dj.G dj.an 0 Tryz.f283 _ dj.st
abbrev dj.Ok:=da @dj.A dj.aC dj.add dj.F dj.out
theorem dj.eq{R:Type}(x:Int)(n:Int)(k:bk→Option R):dj.A (x,n) k=
 aJ (ig n) (
 aJ (ig (cH .i64 (32:Int) n)) (
 k (dj.out (cC .or .u32 (bV .u32 x n) (gS .u32 x (cH .i64 (32:Int) n))))) none) none:=by kernel_rfl
theorem dj.ok:dj.Ok:=by
 rintro⟨x,n⟩ ⟨h1,h2,h3,h4⟩
 obtain⟨n,rfl⟩:=Int.eq_ofNat_of_zero_le h3
 have hx:x=vw (BitVec.ofInt 32 x):=by rw[fY];have h1:0≤x:=h1;have h2:x < 4294967296:=h2;omega
 have h4:(n:Int)≤32:=h4
 rw[dj.eq]
 simp(disch:=omega) only[↓S1,↓if_pos,↓if_neg,if_pos,if_neg,if_true,if_false,S2]
 have e2:cC .or .u32 (bV .u32 x (n:Int)) (gS .u32 x ((32 - n:Nat):Int))=vw (kq (BitVec.ofInt 32 x) n):=by
  conv=>lhs;rw[hx]
  rw[qn,oq,iQ]
  simp only[kq,Int.toNat_natCast]
  rw[BitVec.or_comm]
 rw[e2]
 rfl
noncomputable def dj.E:=Entry.cq [some (.int .u32),some ti] dj.st dj.aC dj.add dj.F dj.out
noncomputable def dj.call:dj.D→Option dj.X:=bT dj.E dj.st
theorem dj.run:bK dj.call dj.aC dj.add dj.F:=dh (de [.d (.int .u32),.d ti] fun _=>by kernel_rfl)
noncomputable def dj.sg:SG Tryz.prog:=⟨283,aY,dj.E,.fn 0 (by kernel_rfl) dj.ok trivial⟩
theorem dj.at(w:W){k:Int}(h:0≤k∧k≤32):dj.call (vw w,k)=some (vw (kq w k.toNat)):=by
 have h:dj.aC (vw w,k):=⟨rS w,by have:=Ee w;simpa using this,h.1,h.2⟩
 rw[dj.run h]
 show some (vw (kq (BitVec.ofInt 32 (vw w)) k.toNat))=_
 rw[jU]
abbrev cD.D:=Unit
def cD.st:cD.D→SA:=fun _=>([],[])
abbrev cD.Y:=(List Int)
abbrev cD.X:=(List Int)
def cD.out:cD.X→bk:=fun x=>⟨.d (.slice (.int .u32)) x,[],[]⟩
def cD.add:cD.D→cD.Y→cD.X:=fun _ y=>y
def cD.aC:cD.D→Prop:=fun _=>True
def cD.F:cD.D→cD.Y:=fun _=>ju.l
noncomputable def cD.G:dZ:=fh (P:=Tryz.prog) []
noncomputable def cD.an:eO:= {bO:=[1],res:=[some (.slice (.int .u32))]}
noncomputable def cD.A:= @cZ Tryz.prog cD.G cD.an 0 Tryz.f263 _ cD.st
abbrev cD.Ok:=da @cD.A cD.aC cD.add cD.F cD.out
theorem cD.eq{R:Type}(k:bk→Option R):cD.A () k=
 k (cD.out [(1779033703:Int),(3144134277:Int),(1013904242:Int),(2773480762:Int),(1359893119:Int),(2600822924:Int),(528734635:Int),(1541459225:Int)]):=by kernel_rfl
theorem cD.ok:cD.Ok:=by
 intro d _
 rw[cD.eq]
 rfl
noncomputable def cD.E:=Entry.cq [] cD.st cD.aC cD.add cD.F cD.out
noncomputable def cD.call:cD.D→Option cD.X:=bT cD.E cD.st
theorem cD.run:bK cD.call cD.aC cD.add cD.F:=dh (de [] fun _=>by kernel_rfl)
noncomputable def cD.sg:SG Tryz.prog:=⟨263,aY,cD.E,.fn 0 (by kernel_rfl) cD.ok trivial⟩
abbrev eu.D:=Unit
def eu.st:eu.D→SA:=fun _=>([],[])
abbrev eu.Y:=(List Int)
abbrev eu.X:=(List Int)
def eu.out:eu.X→bk:=fun x=>⟨.d (.slice (.int .u32)) x,[],[]⟩
def eu.add:eu.D→eu.Y→eu.X:=fun _ y=>y
def eu.aC:eu.D→Prop:=fun _=>True
def eu.F:eu.D→eu.Y:=fun _=>rC
noncomputable def eu.G:dZ:=fh (P:=Tryz.prog) []
noncomputable def eu.an:eO:= {bO:=[1],res:=[some (.slice (.int .u32))]}
noncomputable def eu.A:= @cZ Tryz.prog eu.G eu.an 0 Tryz.f282 _ eu.st
abbrev eu.Ok:=da @eu.A eu.aC eu.add eu.F eu.out
theorem eu.eq{R:Type}(k:bk→Option R):eu.A () k=
 k (eu.out [(1116352408:Int),(1899447441:Int),(3049323471:Int),(3921009573:Int),(961987163:Int),(1508970993:Int),(2453635748:Int),(2870763221:Int),(3624381080:Int),(310598401:Int),(607225278:Int),(1426881987:Int),(1925078388:Int),(2162078206:Int),(2614888103:Int),(3248222580:Int),(3835390401:Int),(4022224774:Int),(264347078:Int),(604807628:Int),(770255983:Int),(1249150122:Int),(1555081692:Int),(1996064986:Int),(2554220882:Int),(2821834349:Int),(2952996808:Int),(3210313671:Int),(3336571891:Int),(3584528711:Int),(113926993:Int),(338241895:Int),(666307205:Int),(773529912:Int),(1294757372:Int),(1396182291:Int),(1695183700:Int),(1986661051:Int),(2177026350:Int),(2456956037:Int),(2730485921:Int),(2820302411:Int),(3259730800:Int),(3345764771:Int),(3516065817:Int),(3600352804:Int),(4094571909:Int),(275423344:Int),(430227734:Int),(506948616:Int),(659060556:Int),(883997877:Int),(958139571:Int),(1322822218:Int),(1537002063:Int),(1747873779:Int),(1955562222:Int),(2024104815:Int),(2227730452:Int),(2361852424:Int),(2428436474:Int),(2756734187:Int),(3204031479:Int),(3329325298:Int)]):=by kernel_rfl
theorem eu.ok:eu.Ok:=by
 intro d _
 rw[eu.eq]
 rfl
noncomputable def eu.E:=Entry.cq [] eu.st eu.aC eu.add eu.F eu.out
noncomputable def eu.call:eu.D→Option eu.X:=bT eu.E eu.st
theorem eu.run:bK eu.call eu.aC eu.add eu.F:=dh (de [] fun _=>by kernel_rfl)
noncomputable def eu.sg:SG Tryz.prog:=⟨282,aY,eu.E,.fn 0 (by kernel_rfl) eu.ok trivial⟩
abbrev az.L0.D:=Bs×Nat×(List Int)
def az.L0.st:az.L0.D→AS:=fun(b_2,outL,n6)=>⟨([.d tB b_2,.undef,.undef,.bI (.new 6 0) 0 [] 0 0 outL]++ba 31 []),[],(bE 6 ([[.obj 0 false (.vec 5 tb n6)]]++bE 28 []))⟩
abbrev az.L0.Y0:=Nat×(List Int)
abbrev az.L0.X0:=(Bs)×(Nat×(List Int))
def az.L0.bj:az.L0.X0→Exit×AS:=fun x=>(.exit 0,⟨([.d tB x.1,.undef,.undef,.bI (.new 6 0) 0 [] 0 0 x.2.1]++ba 31 []),[],(bE 6 ([[.obj 0 false (.vec 5 tb x.2.2)]]++bE 28 []))⟩)
abbrev az.L0.X:=az.L0.X0
abbrev az.L0.Y:=az.L0.Y0
def az.L0.out:az.L0.X→Out (Exit×AS):=fun x=> .ok (az.L0.bj x)
def az.L0.add:az.L0.D→az.L0.Y→az.L0.X:=fun(b_2,outL,n6) y=>(b_2,y)
abbrev az.L1.D:=Nat×Int×Int×(List Int)
def az.L1.st:az.L1.D→AS:=fun(outL_2,n,kv,n6_2)=>⟨([.undef,.undef,.undef,.bI (.new 6 0) 0 [] 0 0 outL_2,.d tu n,.d ti kv]++ba 29 []),[],(bE 6 ([[.obj 0 false (.vec 5 tb n6_2)]]++bE 28 []))⟩
abbrev az.L1.Y0:=Nat×(List Int)
abbrev az.L1.X0:=Nat×(List Int)
def az.L1.bj:az.L1.X0→Exit×AS:=fun x=>(.exit 2,⟨([.undef,.undef,.undef,.bI (.new 6 0) 0 [] 0 0 x.1]++ba 31 []),[],(bE 6 ([[.obj 0 false (.vec 5 tb x.2)]]++bE 28 []))⟩)
abbrev az.L1.X:=az.L1.X0
abbrev az.L1.Y:=az.L1.Y0
def az.L1.out:az.L1.X→Out (Exit×AS):=fun x=> .ok (az.L1.bj x)
def az.L1.add:az.L1.D→az.L1.Y→az.L1.X:=fun(outL_2,n,kv,n6_2) y=>y
abbrev az.D:=Bs
def az.st:az.D→SA:=fun b=>([.d tB b],[])
abbrev az.Y:=Bs
abbrev az.X:=Bs
def az.out:az.X→bk:=fun x=>⟨.d tB x,[],[]⟩
def az.add:az.D→az.Y→az.X:=fun b y=>y
def az.L0.aC:az.L0.D→Prop:=fun(b,m,l)=>m=l.length∧l.length+zc l.length≤140737488355328
def az.L0.F:az.L0.D→az.L0.Y:=fun(b,m,l)=>(l.length+zc l.length,l++List.replicate (zc l.length) 0)
def az.L1.aC:az.L1.D→Prop:=fun(m,n,kv,l)=>0≤n∧n < 18446744073709551616∧∃j:Nat,j≤8∧kv=56 - 8*(j:Int)∧m=l.length∧l.length≤140737488355320+j
def az.L1.F:az.L1.D→az.L1.Y:=fun(m,n,kv,l)=>(l.length+(ik n).length - (7 - (kv / 8)).toNat,l++(ik n).drop (7 - (kv / 8)).toNat)
def az.aC:az.D→Prop:=fun b=>b.length≤140737488350000
def az.F:az.D→az.Y:=fun b=>pad b
noncomputable def az.G:dZ:=fh (P:=Tryz.prog) []
noncomputable def az.L0.E:=bP.cq az.L0.st az.L0.aC az.L0.add az.L0.F az.L0.out
noncomputable def az.L0.call:az.L0.D→Option az.L0.X:=cX az.L0.E az.L0.st
noncomputable def az.L1.E:=bP.cq az.L1.st az.L1.aC az.L1.add az.L1.F az.L1.out
noncomputable def az.L1.call:az.L1.D→Option az.L1.X:=cX az.L1.E az.L1.st
noncomputable def az.an:eO:= {bO:=[6],loops:=j7 [(3,{bm:=[0,3],sites:=[6],ij:=[⟨3,[],6,140⟩]}),(7,{bm:=[3,4,5],sites:=[6],ij:=[⟨3,[],6,140⟩]})],outs:=j6 [(3,{bm:=[0,3],sites:=[6]},{bm:=[2]}),(7,{bm:=[3],sites:=[6]},{bm:=[2]})],fJ:=kW [(3,az.L0.E),(7,az.L1.E)],res:=[some tB]}
noncomputable def az.A:= @cZ Tryz.prog az.G az.an 0 Tryz.f262 _ az.st
abbrev az.Ok:=da @az.A az.aC az.add az.F az.out
noncomputable def az.L0.R:= @bX Tryz.prog az.G az.an 0 Tryz.f262 0 _ az.L0.st
abbrev az.L0.Ok:=ej Tryz.prog az.G az.an 0 Tryz.f262 0 az.L0.st az.L0.aC az.L0.add az.L0.F az.L0.out
noncomputable def az.L1.R:= @bX Tryz.prog az.G az.an 0 Tryz.f262 1 _ az.L1.st
abbrev az.L1.Ok:=ej Tryz.prog az.G az.an 0 Tryz.f262 1 az.L1.st az.L1.aC az.L1.add az.L1.F az.L1.out
theorem az.L0.run:bK az.L0.call az.L0.aC az.L0.add az.L0.F:=eG (eC [.d tB,.n,.d tB] fun _=>by kernel_rfl)
theorem az.L0.aD:fN @az.L0.R az.L0.st az.L0.aC az.L0.add az.L0.F az.L0.bj az.L0.Ok:=fU
theorem az.L0.step{R:Type}(b_2:Bs)(outL:Nat)(n6:(List Int))(kn:AS→Option R)(kx:Exit→AS→Option R):az.L0.R (b_2,outL,n6) kn kx=
  aJ ((jO (jI ((outL:Nat):Int) (64:Int)) (56:Int))) (
   aJ (decide (outL≤(List.length n6))) (
   aJ (dq (outL+1) 1) (
   kn (az.L0.st (b_2,(outL+1),((List.take outL n6)++ [(0:Int)])))) none) none) (
   kx (az.L0.bj (b_2,(outL,n6))).1 (az.L0.bj (b_2,(outL,n6))).2):=by kernel_rfl
theorem az.L1.run:bK az.L1.call az.L1.aC az.L1.add az.L1.F:=eG (eC [.n,.d tu,.d ti,.d tB] fun _=>by kernel_rfl)
theorem az.L1.aD:fN @az.L1.R az.L1.st az.L1.aC az.L1.add az.L1.F az.L1.bj az.L1.Ok:=fU
theorem az.L1.step{R:Type}(outL_2:Nat)(n:Int)(kv:Int)(n6_2:(List Int))(kn:AS→Option R)(kx:Exit→AS→Option R):az.L1.R (outL_2,n,kv,n6_2) kn kx=
  aJ ((nS kv (0:Int))) (
   aJ (ig kv) (
   aJ (decide (outL_2≤(List.length n6_2))) (
   aJ (dq (outL_2+1) 1) (
   kn (az.L1.st ((outL_2+1),n,(cH .i64 kv (8:Int)),((List.take outL_2 n6_2)++ [(dM .u8 (bV .u64 n kv))])))) none) none) none) (
   kx (az.L1.bj (outL_2,n6_2)).1 (az.L1.bj (outL_2,n6_2)).2):=by kernel_rfl
theorem az.eq{R:Type}(b:Bs)(k:bk→Option R):az.A b k=
 aJ (dq (0+(List.length b)) 1) (
 aJ (decide ((0+(List.length b))≤(List.length ((List.take 0 (List.replicate 0 (0:Int)))++b)))) (
 aJ (dq ((0+(List.length b))+1) 1) (
 ah (az.L0.call (b,((0+(List.length b))+1),((List.take (0+(List.length b)) ((List.take 0 (List.replicate 0 (0:Int)))++b))++ [(128:Int)]))) fun x1=>
 ah (az.L1.call (x1.2.1,(fi .u64 (8:Int) (dM .u64 (((List.length x1.1):Nat):Int))),(56:Int),x1.2.2)) fun x2=>
 aJ (decide (0=0∧(0+x2.1)≤(List.length x2.2))) (
 k (az.out (cut x2.2 0 x2.1))) none) none) none) none:=by kernel_rfl
theorem az.L0.ok:az.L0.Ok:=by
 refine az.L0.aD (fun(b,m,l)=>zc l.length) ?_
 rintro⟨b,m,l⟩ ⟨rfl,hl⟩
 have hl:l.length+zc l.length≤140737488355328:=hl
 by_cases h:l.length%64=56
 ·right
  intro R kn kx
  have hz:zc l.length=0:=by unfold zc;omega
  rw[az.L0.step]
  simp(disch:=omega) only[↓S1,↓if_pos,↓if_neg,if_pos,if_neg,if_true,if_false,S2,az.L0.add,az.L0.F,hz,Nat.add_zero,List.replicate_zero,List.append_nil]
 ·left
  have hz:zc l.length=zc (l.length+1)+1:=by unfold zc;omega
  refine⟨(b,l.length+1,l++ [0]),⟨by simp,by simp only[List.length_append,List.length_cons,List.length_nil,Nat.zero_add];omega⟩,by simp only[List.length_append,List.length_cons,List.length_nil,Nat.zero_add];omega,?_,fun kn kx=> ?_⟩
  ·simp only[az.L0.add,az.L0.F,List.length_append,List.length_cons,List.length_nil,Nat.zero_add,hz,List.append_assoc,List.cons_append,List.nil_append,List.replicate_succ]
   rw[show l.length+1+zc (l.length+1)=l.length+(zc (l.length+1)+1) by omega]
  ·rw[az.L0.step]
   simp(disch:=omega) only[↓S1,↓if_pos,↓if_neg,if_pos,if_neg,if_true,if_false,S2,List.take_length]
theorem CE(n:Int)(j:Nat)(h:j < 8):(ik n).drop j=n / 2^(56 - 8*j)%256::(ik n).drop (j+1):=by
 rcases(by omega:j=0∨j=1∨j=2∨j=3∨j=4∨j=5∨j=6∨j=7) with rfl | rfl | rfl | rfl | rfl | rfl | rfl | rfl <;> simp[ik]
theorem ze(n:Int)(k:Nat)(h1:k≤64):dM .u8 (bV .u64 n (k:Int))=n / 2^k%256:=by
 rw[tx,fY,bV]
 have e:min (k:Int).toNat IntKind.u64.bits=k:=by simp only[IntKind.bits];omega
 rw[e,Int.fdiv_eq_ediv_of_nonneg _ (Int.le_of_lt (Int.pow_pos (by omega)))]
 rfl
theorem az.L1.ok:az.L1.Ok:=by
 refine az.L1.aD (fun(m,n,kv,l)=>(kv+8).toNat) ?_
 rintro⟨m,n,kv,l⟩ ⟨h1,h2,j,hj,rfl,rfl,hl⟩
 have hl:l.length≤140737488355320+j:=hl
 have e1:(7 - ((56 - 8*(j:Int)) / 8)).toNat=j:=by omega
 by_cases h:j < 8
 ·left
  have e2:cH .i64 (56 - 8*(j:Int)) 8=56 - 8*((j+1:Nat):Int):=by rw[eK (by omega) (by omega)];omega
  have e3:(7 - ((56 - 8*((j+1:Nat):Int)) / 8)).toNat=j+1:=by omega
  have e4:(56 - 8*(j:Int))=((56 - 8*j:Nat):Int):=by omega
  refine⟨(l.length+1,n,56 - 8*((j+1:Nat):Int),l++ [n / 2^(56 - 8*j)%256]),⟨h1,h2,j+1,by omega,rfl,by simp,by simp only[List.length_append,List.length_cons,List.length_nil];omega⟩,by simp only;omega,?_,fun kn kx=> ?_⟩
  ·simp only[az.L1.add,az.L1.F,e1,e3,CE n j h,List.length_append,List.length_cons,List.length_nil,List.append_assoc,List.cons_append,List.nil_append,bY]
   rw[show l.length+(0+1)+8 - (j+1)=l.length+8 - j by omega]
  ·rw[az.L1.step,e2,e4,ze n _ (by omega)]
   simp(disch:=omega) only[↓S1,↓if_pos,↓if_neg,if_pos,if_neg,if_true,if_false,S2,List.take_length]
 ·right
  obtain rfl:j=8:=by omega
  intro R kn kx
  rw[az.L1.step]
  simp(disch:=omega) only[↓S1,↓if_pos,↓if_neg,if_pos,if_neg,if_true,if_false,S2,az.L1.add,az.L1.F,e1]
  simp[ik]
theorem az.ok:az.Ok:=by
 intro b hb
 have hb:b.length≤140737488350000:=hb
 have hz:zc (b++ [128]).length=lZ b.length:=by
  simp only[List.length_append,List.length_cons,List.length_nil,zc,lZ]
  omega
 have hzb:lZ b.length < 64:=by unfold lZ;omega
 have p1:az.L0.aC (b,b.length+1,b++ [128]):=⟨by simp,by rw[hz];simp only[List.length_append,List.length_cons,List.length_nil] <;> omega⟩
 have e1:dM .u64 ((b.length:Nat):Int)=((b.length:Nat):Int):=by rw[wJ,fY];omega
 have e2:fi .u64 8 ((b.length:Nat):Int)=8*(b.length:Int):=by
  unfold fi;rw[wrap_u64,fY];omega
 have e3:List.take b.length b=b:=List.take_length
 rw[az.eq]
 simp only[List.replicate_zero,List.take_nil,List.nil_append,Nat.zero_add,e1,e2,e3]
 simp(disch:=omega) only[↓S1,↓if_pos,↓if_neg,if_pos,if_neg,if_true,if_false,S2,az.L0.run p1,az.L0.add,az.L0.F,hz]
 have p2:az.L1.aC ((b++ [128]).length+lZ b.length,8*(b.length:Int),56,b++ [128]++List.replicate (lZ b.length) 0):=by
  refine⟨by omega,by omega,0,by omega,rfl,by simp only[List.length_append,List.length_cons,List.length_nil,List.length_replicate] <;> omega,?_⟩
  simp only[List.length_append,List.length_cons,List.length_nil,List.length_replicate]
  omega
 simp(disch:=omega) only[↓S1,↓if_pos,↓if_neg,if_pos,if_neg,if_true,if_false,S2,e1,e2,az.L1.run p2,az.L1.add,az.L1.F]
 have e5:(7 - ((56:Int) / 8)).toNat=0:=by decide
 rw[e5,List.drop_zero]
 have e6:(b++ [128]++List.replicate (lZ b.length) 0).length+(ik (8*(b.length:Int))).length - 0=(b++ [128]++List.replicate (lZ b.length) 0++ik (8*(b.length:Int))).length:=by rw[@List.length_append _ _ (ik _)];omega
 rw[e6,if_pos (Nat.le_refl _)]
 unfold cut
 rw[List.drop_zero,List.take_length]
 simp only[az.add,az.F,pad,List.append_assoc,List.cons_append,List.nil_append]
noncomputable def az.E:=Entry.cq [some tB] az.st az.aC az.add az.F az.out
noncomputable def az.call:az.D→Option az.X:=bT az.E az.st
theorem az.run:bK az.call az.aC az.add az.F:=dh (de [.d tB] fun _=>by kernel_rfl)
noncomputable def az.sg:SG Tryz.prog:=⟨262,aY,az.E,.fn 2 (by kernel_rfl) az.ok (And.intro (.cq az.L0.ok (by kernel_rfl)) (And.intro (.cq az.L1.ok (by kernel_rfl)) trivial))⟩
set_option synthInstance.maxSize 5000
abbrev aK.L0.D:=Bs×Nat×Int×(List Int)
def aK.L0.st:aK.L0.D→AS:=fun(b_2,wL,i,n49)=>⟨([.d tB b_2,.undef,.undef,.bI (.new 49 0) 0 [] 0 0 wL,.d ti i]++ba 94 []),[],(bE 49 ([[.obj 0 false (.vec 255 (.int .u32) n49)]]++bE 49 []))⟩
abbrev aK.L0.Y0:=Nat×(List Int)
abbrev aK.L0.X0:=Nat×(List Int)
def aK.L0.bj:aK.L0.X0→Exit×AS:=fun x=>(.exit 0,⟨([.undef,.undef,.undef,.bI (.new 49 0) 0 [] 0 0 x.1]++ba 95 []),[],(bE 49 ([[.obj 0 false (.vec 255 (.int .u32) x.2)]]++bE 49 []))⟩)
abbrev aK.L0.X:=aK.L0.X0
abbrev aK.L0.Y:=aK.L0.Y0
def aK.L0.out:aK.L0.X→Out (Exit×AS):=fun x=> .ok (aK.L0.bj x)
def aK.L0.add:aK.L0.D→aK.L0.Y→aK.L0.X:=fun(b_2,wL,i,n49) y=>y
abbrev aK.L1.D:=Nat×Int×(List Int)
def aK.L1.st:aK.L1.D→AS:=fun(wL_2,i_2,n49_2)=>⟨([.undef,.undef,.undef,.bI (.new 49 0) 0 [] 0 0 wL_2,.undef,.d ti i_2]++ba 93 []),[],(bE 49 ([[.obj 0 false (.vec 255 (.int .u32) n49_2)]]++bE 49 []))⟩
abbrev aK.L1.Y0:=Nat×(List Int)
abbrev aK.L1.X0:=Nat×(List Int)
def aK.L1.bj:aK.L1.X0→Exit×AS:=fun x=>(.exit 2,⟨([.undef,.undef,.undef,.bI (.new 49 0) 0 [] 0 0 x.1]++ba 95 []),[],(bE 49 ([[.obj 0 false (.vec 255 (.int .u32) x.2)]]++bE 49 []))⟩)
abbrev aK.L1.X:=aK.L1.X0
abbrev aK.L1.Y:=aK.L1.Y0
def aK.L1.out:aK.L1.X→Out (Exit×AS):=fun x=> .ok (aK.L1.bj x)
def aK.L1.add:aK.L1.D→aK.L1.Y→aK.L1.X:=fun(wL_2,i_2,n49_2) y=>y
abbrev aK.D:=Bs
def aK.st:aK.D→SA:=fun b=>([.d tB b],[])
abbrev aK.Y:=(List Int)
abbrev aK.X:=(List Int)
def aK.out:aK.X→bk:=fun x=>⟨.d (.slice (.int .u32)) x,[],[]⟩
def aK.add:aK.D→aK.Y→aK.X:=fun b y=>y
def aK.L0.aC:aK.L0.D→Prop:=fun(b,m,i,l)=>64≤b.length∧∃k:Nat,k≤16∧i=k∧k=m∧l=wl ((words b).take k)
def aK.L0.F:aK.L0.D→aK.L0.Y:=fun(b,m,i,l)=>(16,wl (words b))
def aK.L1.aC:aK.L1.D→Prop:=fun(m,i,l)=>∃ws:List W,16≤ws.length∧ws.length≤64∧l=wl ws∧m=ws.length∧i=(ws.length:Nat)
def aK.L1.F:aK.L1.D→aK.L1.Y:=fun(m,i,l)=>(64,wl (Em (Ec l) (64 - l.length)))
def aK.aC:aK.D→Prop:=fun b=>64≤b.length
def aK.F:aK.D→aK.Y:=fun b=>wl (sched b)
noncomputable def aK.G:dZ:=fh (P:=Tryz.prog) [dj.sg]
noncomputable def aK.L0.E:=bP.cq aK.L0.st aK.L0.aC aK.L0.add aK.L0.F aK.L0.out
noncomputable def aK.L0.call:aK.L0.D→Option aK.L0.X:=cX aK.L0.E aK.L0.st
noncomputable def aK.L1.E:=bP.cq aK.L1.st aK.L1.aC aK.L1.add aK.L1.F aK.L1.out
noncomputable def aK.L1.call:aK.L1.D→Option aK.L1.X:=cX aK.L1.E aK.L1.st
noncomputable def aK.an:eO:= {loops:=j7 [(3,{bm:=[0,3,4],sites:=[49],ij:=[⟨3,[],49,304⟩]}),(7,{bm:=[3,5],sites:=[49],ij:=[⟨3,[],49,304⟩]})],outs:=j6 [(3,{bm:=[3],sites:=[49]},{bm:=[2]}),(7,{bm:=[3],sites:=[49]},{bm:=[2]})],fJ:=kW [(3,aK.L0.E),(7,aK.L1.E)],res:=[some (.slice (.int .u32))]}
noncomputable def aK.A:= @cZ Tryz.prog aK.G aK.an 0 Tryz.f281 _ aK.st
abbrev aK.Ok:=da @aK.A aK.aC aK.add aK.F aK.out
noncomputable def aK.L0.R:= @bX Tryz.prog aK.G aK.an 0 Tryz.f281 0 _ aK.L0.st
abbrev aK.L0.Ok:=ej Tryz.prog aK.G aK.an 0 Tryz.f281 0 aK.L0.st aK.L0.aC aK.L0.add aK.L0.F aK.L0.out
noncomputable def aK.L1.R:= @bX Tryz.prog aK.G aK.an 0 Tryz.f281 1 _ aK.L1.st
abbrev aK.L1.Ok:=ej Tryz.prog aK.G aK.an 0 Tryz.f281 1 aK.L1.st aK.L1.aC aK.L1.add aK.L1.F aK.L1.out
theorem aK.L0.run:bK aK.L0.call aK.L0.aC aK.L0.add aK.L0.F:=eG (eC [.d tB,.n,.d ti,.d (.slice (.int .u32))] fun _=>by kernel_rfl)
theorem aK.L0.aD:fN @aK.L0.R aK.L0.st aK.L0.aC aK.L0.add aK.L0.F aK.L0.bj aK.L0.Ok:=fU
theorem aK.L0.step{R:Type}(b_2:Bs)(wL:Nat)(i:Int)(n49:(List Int))(kn:AS→Option R)(kx:Exit→AS→Option R):aK.L0.R (b_2,wL,i,n49) kn kx=
  aJ ((fX i (16:Int))) (
   aJ (eJ (fi .i64 (4:Int) i) (((List.length b_2):Nat):Int)) (
   aJ (eJ (bN .i64 (fi .i64 (4:Int) i) (1:Int)) (((List.length b_2):Nat):Int)) (
   aJ (eJ (bN .i64 (fi .i64 (4:Int) i) (2:Int)) (((List.length b_2):Nat):Int)) (
   aJ (eJ (bN .i64 (fi .i64 (4:Int) i) (3:Int)) (((List.length b_2):Nat):Int)) (
   aJ (decide (wL≤(List.length n49))) (
   aJ (dq (wL+1) 4) (
   kn (aK.L0.st (b_2,(wL+1),(bN .i64 i (1:Int)),((List.take wL n49)++ [(cC .or .u32 (cC .or .u32 (cC .or .u32 (gS .u32 (dM .u32 (nth tb b_2 (Int.toNat (fi .i64 (4:Int) i)))) (24:Int)) (gS .u32 (dM .u32 (nth tb b_2 (Int.toNat (bN .i64 (fi .i64 (4:Int) i) (1:Int))))) (16:Int))) (gS .u32 (dM .u32 (nth tb b_2 (Int.toNat (bN .i64 (fi .i64 (4:Int) i) (2:Int))))) (8:Int))) (dM .u32 (nth tb b_2 (Int.toNat (bN .i64 (fi .i64 (4:Int) i) (3:Int))))))])))) none) none) none) none) none) none) (
   kx (aK.L0.bj (wL,n49)).1 (aK.L0.bj (wL,n49)).2):=by kernel_rfl
theorem aK.L1.run:bK aK.L1.call aK.L1.aC aK.L1.add aK.L1.F:=eG (eC [.n,.d ti,.d (.slice (.int .u32))] fun _=>by kernel_rfl)
theorem aK.L1.aD:fN @aK.L1.R aK.L1.st aK.L1.aC aK.L1.add aK.L1.F aK.L1.bj aK.L1.Ok:=fU
theorem aK.L1.step{R:Type}(wL_2:Nat)(i_2:Int)(n49_2:(List Int))(kn:AS→Option R)(kx:Exit→AS→Option R):aK.L1.R (wL_2,i_2,n49_2) kn kx=
  aJ ((fX i_2 (64:Int))) (
   aJ (eJ (cH .i64 i_2 (15:Int)) ((wL_2:Nat):Int)) (
   aJ (decide ((0+(Int.toNat (cH .i64 i_2 (15:Int)))) < (List.length n49_2))) (
   aJ (decide ((((0+(Int.toNat (cH .i64 i_2 (15:Int))))*1)+0)=(0+((Int.toNat (cH .i64 i_2 (15:Int)))*1)))) (
   aJ (eJ (cH .i64 i_2 (2:Int)) ((wL_2:Nat):Int)) (
   aJ (decide ((0+(Int.toNat (cH .i64 i_2 (2:Int)))) < (List.length n49_2))) (
   aJ (decide ((((0+(Int.toNat (cH .i64 i_2 (2:Int))))*1)+0)=(0+((Int.toNat (cH .i64 i_2 (2:Int)))*1)))) (
   ah (dj.call ((nth (.int .u32) n49_2 (0+(Int.toNat (cH .i64 i_2 (15:Int))))),(7:Int))) fun x1=>
   ah (dj.call ((nth (.int .u32) n49_2 (0+(Int.toNat (cH .i64 i_2 (15:Int))))),(18:Int))) fun x2=>
   ah (dj.call ((nth (.int .u32) n49_2 (0+(Int.toNat (cH .i64 i_2 (2:Int))))),(17:Int))) fun x3=>
   ah (dj.call ((nth (.int .u32) n49_2 (0+(Int.toNat (cH .i64 i_2 (2:Int))))),(19:Int))) fun x4=>
   aJ (eJ (cH .i64 i_2 (16:Int)) ((wL_2:Nat):Int)) (
   aJ (decide ((0+(Int.toNat (cH .i64 i_2 (16:Int)))) < (List.length n49_2))) (
   aJ (decide ((((0+(Int.toNat (cH .i64 i_2 (16:Int))))*1)+0)=(0+((Int.toNat (cH .i64 i_2 (16:Int)))*1)))) (
   aJ (eJ (cH .i64 i_2 (7:Int)) ((wL_2:Nat):Int)) (
   aJ (decide ((0+(Int.toNat (cH .i64 i_2 (7:Int)))) < (List.length n49_2))) (
   aJ (decide ((((0+(Int.toNat (cH .i64 i_2 (7:Int))))*1)+0)=(0+((Int.toNat (cH .i64 i_2 (7:Int)))*1)))) (
   aJ (decide (wL_2≤(List.length n49_2))) (
   aJ (dq (wL_2+1) 4) (
   kn (aK.L1.st ((wL_2+1),(bN .i64 i_2 (1:Int)),((List.take wL_2 n49_2)++ [(bN .u32 (bN .u32 (bN .u32 (nth (.int .u32) n49_2 (0+(Int.toNat (cH .i64 i_2 (16:Int))))) (cC .xor .u32 (cC .xor .u32 x1 x2) (bV .u32 (nth (.int .u32) n49_2 (0+(Int.toNat (cH .i64 i_2 (15:Int))))) (3:Int)))) (nth (.int .u32) n49_2 (0+(Int.toNat (cH .i64 i_2 (7:Int)))))) (cC .xor .u32 (cC .xor .u32 x3 x4) (bV .u32 (nth (.int .u32) n49_2 (0+(Int.toNat (cH .i64 i_2 (2:Int))))) (10:Int))))])))) none) none) none) none) none) none) none) none) none) none) none) none) none) none) (
   kx (aK.L1.bj (wL_2,n49_2)).1 (aK.L1.bj (wL_2,n49_2)).2):=by kernel_rfl
theorem aK.eq{R:Type}(b:Bs)(k:bk→Option R):aK.A b k=
 ah (aK.L0.call (b,0,(0:Int),([]:List Int))) fun x1=>
 ah (aK.L1.call (x1.1,(16:Int),x1.2)) fun x10=>
 aJ (decide (0=0∧(0+x10.1)≤(List.length x10.2))) (
 k (aK.out (cut x10.2 0 x10.1))) none:=by kernel_rfl
theorem lM(ws:List W):(wl ws).length=ws.length:=by simp[wl]
theorem Bk(m:List W):∀n,Em (ext m) n=Em m (n+1)
 | 0=>rfl
 |n+1=>by rw[Em,Bk m n];rfl
theorem FU(b:List Int)(k:Nat)(h:4*k+3 < b.length):be b k=Hi (nth (.int .u8) b (4*k)) (nth (.int .u8) b (4*k+1)) (nth (.int .u8) b (4*k+2)) (nth (.int .u8) b (4*k+3)):=rfl
theorem aK.L0.ok:aK.L0.Ok:=by
 refine aK.L0.aD (fun(b,m,i,l)=>16 - m) ?_
 rintro⟨b,m,i,l⟩ ⟨hb,k,hk,rfl,rfl,rfl⟩
 have hb:64≤b.length:=hb
 have hl:(wl ((words b).take k)).length=k:=by rw[lM,List.length_take,eD];omega
 by_cases h:k < 16
 ·left
  refine⟨(b,k+1,((k+1:Nat):Int),wl ((words b).take (k+1))),⟨hb,k+1,by omega,rfl,rfl,rfl⟩,by simp only;omega,rfl,fun kn kx=> ?_⟩
  rw[aK.L0.step]
  simp(disch:=omega) only[↓S1,↓if_pos,↓if_neg,if_pos,if_neg,if_true,if_false,S2,hl,List.take_of_length_le (Nat.le_of_eq hl)]
  rw[List.take_succ_eq_append_getElem (by rw[eD];exact h)]
  simp only[AP,qn,iQ,wl,List.map_append,List.map_cons,List.map_nil]
  have e:(words b)[k]'(by rw[eD];exact h)=be b k:=by simp[words]
  rw[e,FU b k (by omega)]
  rfl
 ·right
  obtain rfl:k=16:=by omega
  intro R kn kx
  rw[aK.L0.step]
  simp(disch:=omega) only[↓S1,↓if_pos,↓if_neg,if_pos,if_neg,if_true,if_false,S2,aK.L0.add,aK.L0.F]
  rw[List.take_of_length_le (by rw[eD];omega)]
theorem aK.L1.ok:aK.L1.Ok:=by
 refine aK.L1.aD (fun(m,i,l)=>64 - m) ?_
 rintro⟨m,i,l⟩ ⟨ws,h1,h2,rfl,rfl,rfl⟩
 have hl:=lM ws
 by_cases h:ws.length < 64
 ·left
  refine⟨(ws.length+1,((ws.length+1:Nat):Int),wl (ext ws)),⟨ext ws,by rw[kh];omega,by rw[kh];omega,rfl,by rw[kh],by rw[kh]⟩,by simp only;omega,?_,fun kn kx=> ?_⟩
  ·simp only[aK.L1.add,aK.L1.F,nE,lM,kh]
   rw[Bk,show 64 - (ws.length+1)+1=64 - ws.length by omega]
  ·rw[aK.L1.step]
   simp(disch:=omega) only[↓S1,↓if_pos,↓if_neg,if_pos,if_neg,if_true,if_false,S2,hl,Nat.zero_add,Nat.mul_one,Nat.add_zero,rU ws _ (by omega:ws.length - 15 < ws.length),rU ws _ (by omega:ws.length - 2 < ws.length),rU ws _ (by omega:ws.length - 16 < ws.length),rU ws _ (by omega:ws.length - 7 < ws.length),dj.at,iQ,oq,mO,List.take_of_length_le (Nat.le_of_eq hl)]
   unfold ext wl
   rw[List.map_append]
   rfl
 ·right
  have h64:ws.length=64:=by omega
  intro R kn kx
  rw[aK.L1.step]
  simp(disch:=omega) only[↓S1,↓if_pos,↓if_neg,if_pos,if_neg,if_true,if_false,S2,aK.L1.add,aK.L1.F,hl,h64,nE,Nat.sub_self]
  rfl
theorem aK.ok:aK.Ok:=by
 intro b hb
 have p1:aK.L0.aC (b,0,0,[]):=⟨hb,0,by omega,rfl,rfl,rfl⟩
 have p2:aK.L1.aC (16,16,wl (words b)):=⟨words b,by rw[eD];omega,by rw[eD];omega,rfl,by rw[eD],by rw[eD];rfl⟩
 have hs:(sched b).length=64:=by unfold sched;rw[me,eD]
 rw[aK.eq]
 simp(disch:=omega) only[↓S1,↓if_pos,↓if_neg,if_pos,if_neg,if_true,if_false,S2,aK.L0.run p1,aK.L0.add,aK.L0.F,aK.L1.run p2,aK.L1.add,aK.L1.F,nE,lM,eD,Nat.zero_add,Nat.reduceSub]
 have e:Em (words b) 48=sched b:=rfl
 rw[e,hs,if_pos (Nat.le_refl _)]
 unfold cut
 rw[List.drop_zero,List.take_of_length_le (by rw[lM];omega)]
 simp only[aK.add,aK.F]
noncomputable def aK.E:=Entry.cq [some tB] aK.st aK.aC aK.add aK.F aK.out
noncomputable def aK.call:aK.D→Option aK.X:=bT aK.E aK.st
theorem aK.run:bK aK.call aK.aC aK.add aK.F:=dh (de [.d tB] fun _=>by kernel_rfl)
noncomputable def aK.sg:SG Tryz.prog:=⟨281,aY,aK.E,.fn 2 (by kernel_rfl) aK.ok (And.intro (.cq aK.L0.ok (by kernel_rfl)) (And.intro (.cq aK.L1.ok (by kernel_rfl)) trivial))⟩
set_option synthInstance.maxSize 5000
abbrev aI.L0.D:=(List Int)×(List Int)×(List Int)×Nat×Int×(List Int)
def aI.L0.st:aI.L0.D→AS:=fun(h_2,wv,kv,vL,i,n18)=>⟨([.d (.slice (.int .u32)) h_2]++ba 4 ([.d (.slice (.int .u32)) wv,.d (.slice (.int .u32)) kv,.bI (.new 18 0) 0 [] 0 0 vL,.d ti i]++ba 146 [])),[],(bE 18 ([[.obj 0 false (.vec 255 (.int .u32) n18)]]++bE 136 []))⟩
abbrev aI.L0.Y0:=Nat×(List Int)
abbrev aI.L0.X0:=((List Int))×(Nat×(List Int))
def aI.L0.bj:aI.L0.X0→Exit×AS:=fun x=>(.exit 0,⟨([.d (.slice (.int .u32)) x.1]++ba 6 ([.bI (.new 18 0) 0 [] 0 0 x.2.1]++ba 147 [])),[],(bE 18 ([[.obj 0 false (.vec 255 (.int .u32) x.2.2)]]++bE 136 []))⟩)
abbrev aI.L0.X:=aI.L0.X0
abbrev aI.L0.Y:=aI.L0.Y0
def aI.L0.out:aI.L0.X→Out (Exit×AS):=fun x=> .ok (aI.L0.bj x)
def aI.L0.add:aI.L0.D→aI.L0.Y→aI.L0.X:=fun(h_2,wv,kv,vL,i,n18) y=>(h_2,y)
abbrev aI.L1.D:=(List Int)×Nat×Int×(List Int)
def aI.L1.st:aI.L1.D→AS:=fun(h_3,vL_2,i_2,n18_2)=>⟨([.d (.slice (.int .u32)) h_3]++ba 6 ([.bI (.new 18 0) 0 [] 0 0 vL_2]++ba 6 ([.d ti i_2]++ba 140 []))),[],(bE 18 ([[.obj 0 false (.vec 255 (.int .u32) n18_2)]]++bE 136 []))⟩
abbrev aI.L1.Y0:=(List Int)
abbrev aI.L1.X0:=(Nat)×((List Int))
def aI.L1.bj:aI.L1.X0→Exit×AS:=fun x=>(.exit 2,⟨(ba 7 ([.bI (.new 18 0) 0 [] 0 0 x.1]++ba 147 [])),[],(bE 18 ([[.obj 0 false (.vec 255 (.int .u32) x.2)]]++bE 136 []))⟩)
abbrev aI.L1.X:=aI.L1.X0
abbrev aI.L1.Y:=aI.L1.Y0
def aI.L1.out:aI.L1.X→Out (Exit×AS):=fun x=> .ok (aI.L1.bj x)
def aI.L1.add:aI.L1.D→aI.L1.Y→aI.L1.X:=fun(h_3,vL_2,i_2,n18_2) y=>(vL_2,y)
abbrev aI.D:=(List Int)×Bs
def aI.st:aI.D→SA:=fun(h,b)=>([.d (.slice (.int .u32)) h,.d tB b],[])
abbrev aI.Y:=(List Int)
abbrev aI.X:=(List Int)
def aI.out:aI.X→bk:=fun x=>⟨.d (.slice (.int .u32)) x,[],[]⟩
def aI.add:aI.D→aI.Y→aI.X:=fun(h,b) y=>y
def aI.L0.aC:aI.L0.D→Prop:=fun(h,wv,kv,m,i,l)=>∃(s:St) (ws:List W) (k:Nat),h=s.l∧wv=wl ws∧ws.length=64∧k≤64∧i=k∧kv=rC∧m=8∧l=(rounds ws s k).l
def aI.L0.F:aI.L0.D→aI.L0.Y:=fun(h,wv,kv,m,i,l)=>(8,(rounds (Ec wv) (xi h) 64).l)
def aI.L1.aC:aI.L1.D→Prop:=fun(h,m,i,l)=>h.length=8∧l.length=8∧m=8∧∃k:Nat,k≤8∧i=k
def aI.L1.F:aI.L1.D→aI.L1.Y:=fun(h,m,i,l)=>from_ (fun i x=>bN .u32 x (nth (.int .u32) h i)) i.toNat l
def aI.aC:aI.D→Prop:=fun(h,b)=>(∃s:St,h=s.l)∧64≤b.length
def aI.F:aI.D→aI.Y:=fun(h,b)=>(rF (xi h) b).l
noncomputable def aI.G:dZ:=fh (P:=Tryz.prog) [aK.sg,eu.sg,dj.sg]
noncomputable def aI.L0.E:=bP.cq aI.L0.st aI.L0.aC aI.L0.add aI.L0.F aI.L0.out
noncomputable def aI.L0.call:aI.L0.D→Option aI.L0.X:=cX aI.L0.E aI.L0.st
noncomputable def aI.L1.E:=bP.cq aI.L1.st aI.L1.aC aI.L1.add aI.L1.F aI.L1.out
noncomputable def aI.L1.call:aI.L1.D→Option aI.L1.X:=cX aI.L1.E aI.L1.st
noncomputable def aI.an:eO:= {bO:=[18,137],loops:=j7 [(5,{bm:=[0,5,6,7,8],sites:=[18,137],ij:=[⟨7,[],18,0⟩]}),(14,{bm:=[0,7,14],sites:=[18]})],outs:=j6 [(5,{bm:=[0,7],sites:=[18]},{bm:=[4]}),(14,{bm:=[7],sites:=[18]},{bm:=[4]})],fJ:=kW [(5,aI.L0.E),(14,aI.L1.E)],res:=[some (.slice (.int .u32))]}
noncomputable def aI.A:= @cZ Tryz.prog aI.G aI.an 0 Tryz.f264 _ aI.st
abbrev aI.Ok:=da @aI.A aI.aC aI.add aI.F aI.out
noncomputable def aI.L0.R:= @bX Tryz.prog aI.G aI.an 0 Tryz.f264 0 _ aI.L0.st
abbrev aI.L0.Ok:=ej Tryz.prog aI.G aI.an 0 Tryz.f264 0 aI.L0.st aI.L0.aC aI.L0.add aI.L0.F aI.L0.out
noncomputable def aI.L1.R:= @bX Tryz.prog aI.G aI.an 0 Tryz.f264 1 _ aI.L1.st
abbrev aI.L1.Ok:=ej Tryz.prog aI.G aI.an 0 Tryz.f264 1 aI.L1.st aI.L1.aC aI.L1.add aI.L1.F aI.L1.out
theorem aI.L0.run:bK aI.L0.call aI.L0.aC aI.L0.add aI.L0.F:=eG (eC [.d (.slice (.int .u32)),.d (.slice (.int .u32)),.d (.slice (.int .u32)),.n,.d ti,.d (.slice (.int .u32))] fun _=>by kernel_rfl)
theorem aI.L0.aD:fN @aI.L0.R aI.L0.st aI.L0.aC aI.L0.add aI.L0.F aI.L0.bj aI.L0.Ok:=fU
theorem aI.L0.step{R:Type}(h_2:(List Int))(wv:(List Int))(kv:(List Int))(vL:Nat)(i:Int)(n18:(List Int))(kn:AS→Option R)(kx:Exit→AS→Option R):aI.L0.R (h_2,wv,kv,vL,i,n18) kn kx=
  aJ ((fX i (64:Int))) (
   aJ (eJ (4:Int) ((vL:Nat):Int)) (
   aJ (decide (4 < (List.length n18))) (
   ah (dj.call ((nth (.int .u32) n18 4),(6:Int))) fun x1=>
   aJ (eJ (4:Int) ((vL:Nat):Int)) (
   aJ (decide (4 < (List.length n18))) (
   ah (dj.call ((nth (.int .u32) n18 4),(11:Int))) fun x2=>
   aJ (eJ (4:Int) ((vL:Nat):Int)) (
   aJ (decide (4 < (List.length n18))) (
   ah (dj.call ((nth (.int .u32) n18 4),(25:Int))) fun x3=>
   aJ (eJ (4:Int) ((vL:Nat):Int)) (
   aJ (decide (4 < (List.length n18))) (
   aJ (eJ (5:Int) ((vL:Nat):Int)) (
   aJ (decide (5 < (List.length n18))) (
   aJ (eJ (4:Int) ((vL:Nat):Int)) (
   aJ (decide (4 < (List.length n18))) (
   aJ (eJ (6:Int) ((vL:Nat):Int)) (
   aJ (decide (6 < (List.length n18))) (
   aJ (eJ (7:Int) ((vL:Nat):Int)) (
   aJ (decide (7 < (List.length n18))) (
   aJ (eJ i (((List.length kv):Nat):Int)) (
   aJ (eJ i (((List.length wv):Nat):Int)) (
   aJ (eJ (0:Int) ((vL:Nat):Int)) (
   aJ (decide (0 < (List.length n18))) (
   ah (dj.call ((nth (.int .u32) n18 0),(2:Int))) fun x4=>
   aJ (eJ (0:Int) ((vL:Nat):Int)) (
   aJ (decide (0 < (List.length n18))) (
   ah (dj.call ((nth (.int .u32) n18 0),(13:Int))) fun x5=>
   aJ (eJ (0:Int) ((vL:Nat):Int)) (
   aJ (decide (0 < (List.length n18))) (
   ah (dj.call ((nth (.int .u32) n18 0),(22:Int))) fun x6=>
   aJ (eJ (0:Int) ((vL:Nat):Int)) (
   aJ (decide (0 < (List.length n18))) (
   aJ (eJ (1:Int) ((vL:Nat):Int)) (
   aJ (decide (1 < (List.length n18))) (
   aJ (eJ (0:Int) ((vL:Nat):Int)) (
   aJ (decide (0 < (List.length n18))) (
   aJ (eJ (2:Int) ((vL:Nat):Int)) (
   aJ (decide (2 < (List.length n18))) (
   aJ (eJ (1:Int) ((vL:Nat):Int)) (
   aJ (decide (1 < (List.length n18))) (
   aJ (eJ (2:Int) ((vL:Nat):Int)) (
   aJ (decide (2 < (List.length n18))) (
   aJ (eJ (0:Int) ((vL:Nat):Int)) (
   aJ (decide (0 < (List.length n18))) (
   aJ (eJ (1:Int) ((vL:Nat):Int)) (
   aJ (decide (1 < (List.length n18))) (
   aJ (eJ (2:Int) ((vL:Nat):Int)) (
   aJ (decide (2 < (List.length n18))) (
   aJ (eJ (3:Int) ((vL:Nat):Int)) (
   aJ (decide (3 < (List.length n18))) (
   aJ (eJ (4:Int) ((vL:Nat):Int)) (
   aJ (decide (4 < (List.length n18))) (
   aJ (eJ (5:Int) ((vL:Nat):Int)) (
   aJ (decide (5 < (List.length n18))) (
   aJ (eJ (6:Int) ((vL:Nat):Int)) (
   aJ (decide (6 < (List.length n18))) (
   kn (aI.L0.st (h_2,wv,kv,8,(bN .i64 i (1:Int)),[(bN .u32 (bN .u32 (bN .u32 (bN .u32 (bN .u32 (bN .u32 (nth (.int .u32) n18 7) (cC .xor .u32 (cC .xor .u32 x1 x2) x3)) (cC .xor .u32 (cC .and .u32 (nth (.int .u32) n18 4) (nth (.int .u32) n18 5)) (cC .and .u32 (ER .u32 (nth (.int .u32) n18 4)) (nth (.int .u32) n18 6)))) (nth (.int .u32) kv (Int.toNat i))) (nth (.int .u32) wv (Int.toNat i))) (cC .xor .u32 (cC .xor .u32 x4 x5) x6)) (cC .xor .u32 (cC .xor .u32 (cC .and .u32 (nth (.int .u32) n18 0) (nth (.int .u32) n18 1)) (cC .and .u32 (nth (.int .u32) n18 0) (nth (.int .u32) n18 2))) (cC .and .u32 (nth (.int .u32) n18 1) (nth (.int .u32) n18 2)))),(nth (.int .u32) n18 0),(nth (.int .u32) n18 1),(nth (.int .u32) n18 2),(bN .u32 (nth (.int .u32) n18 3) (bN .u32 (bN .u32 (bN .u32 (bN .u32 (nth (.int .u32) n18 7) (cC .xor .u32 (cC .xor .u32 x1 x2) x3)) (cC .xor .u32 (cC .and .u32 (nth (.int .u32) n18 4) (nth (.int .u32) n18 5)) (cC .and .u32 (ER .u32 (nth (.int .u32) n18 4)) (nth (.int .u32) n18 6)))) (nth (.int .u32) kv (Int.toNat i))) (nth (.int .u32) wv (Int.toNat i)))),(nth (.int .u32) n18 4),(nth (.int .u32) n18 5),(nth (.int .u32) n18 6)]))) none) none) none) none) none) none) none) none) none) none) none) none) none) none) none) none) none) none) none) none) none) none) none) none) none) none) none) none) none) none) none) none) none) none) none) none) none) none) none) none) none) none) none) none) none) none) none) none) none) none) (
   kx (aI.L0.bj (h_2,(vL,n18))).1 (aI.L0.bj (h_2,(vL,n18))).2):=by kernel_rfl
theorem aI.L1.run:bK aI.L1.call aI.L1.aC aI.L1.add aI.L1.F:=eG (eC [.d (.slice (.int .u32)),.n,.d ti,.d (.slice (.int .u32))] fun _=>by kernel_rfl)
theorem aI.L1.aD:fN @aI.L1.R aI.L1.st aI.L1.aC aI.L1.add aI.L1.F aI.L1.bj aI.L1.Ok:=fU
theorem aI.L1.step{R:Type}(h_3:(List Int))(vL_2:Nat)(i_2:Int)(n18_2:(List Int))(kn:AS→Option R)(kx:Exit→AS→Option R):aI.L1.R (h_3,vL_2,i_2,n18_2) kn kx=
  aJ ((fX i_2 (8:Int))) (
   aJ (eJ i_2 ((vL_2:Nat):Int)) (
   aJ (decide ((0+(Int.toNat i_2)) < (List.length n18_2))) (
   aJ (decide ((((0+(Int.toNat i_2))*1)+0)=(0+((Int.toNat i_2)*1)))) (
   aJ (eJ i_2 (((List.length h_3):Nat):Int)) (
   aJ (eJ i_2 ((vL_2:Nat):Int)) (
   aJ (decide ((0+(Int.toNat i_2)) < (List.length n18_2))) (
   aJ (decide ((((0+(Int.toNat i_2))*1)+0)=(0+((Int.toNat i_2)*1)))) (
   aJ (decide ((0+(Int.toNat i_2)) < (List.length n18_2))) (
   kn (aI.L1.st (h_3,vL_2,(bN .i64 i_2 (1:Int)),(List.set n18_2 (0+(Int.toNat i_2)) (bN .u32 (nth (.int .u32) n18_2 (0+(Int.toNat i_2))) (nth (.int .u32) h_3 (Int.toNat i_2))))))) none) none) none) none) none) none) none) none) (
   kx (aI.L1.bj (vL_2,n18_2)).1 (aI.L1.bj (vL_2,n18_2)).2):=by kernel_rfl
theorem aI.eq{R:Type}(h:(List Int))(b:Bs)(k:bk→Option R):aI.A (h,b) k=
 ah (aK.call b) fun x1=>
 ah (eu.call ()) fun x2=>
 aJ (dq (0+(List.length h)) 4) (
 ah (aI.L0.call (h,x1,x2,(0+(List.length h)),(0:Int),((List.take 0 (List.replicate 0 (0:Int)))++h))) fun x15=>
 ah (aI.L1.call (x15.1,x15.2.1,(0:Int),x15.2.2)) fun x16=>
 aJ (decide (0=0∧(0+x16.1)≤(List.length x16.2))) (
 k (aI.out (cut x16.2 0 x16.1))) none) none:=by kernel_rfl
theorem Da(w:W):ER .u32 (vw w)=vw (~~~w):=by
 have e:(if IntKind.u32.signed then -1 else IntKind.u32.max:Int)=vw (BitVec.allOnes 32):=rfl
 unfold ER
 rw[e,iQ]
 simp only[BitVec.allOnes_xor]
theorem Hm(e f g:W):(e &&& f)^^^(~~~e &&& g)=g^^^(e &&& (f^^^g)):=by
 ext i hi
 simp only[BitVec.getElem_xor,BitVec.getElem_and,BitVec.getElem_not]
 cases e[i] <;> cases f[i] <;> cases g[i] <;> rfl
theorem Gp(a b c:W):(a &&& b)^^^(a &&& c)^^^(b &&& c)=(a &&& b) ||| (c &&& (a ||| b)):=by
 ext i hi
 simp only[BitVec.getElem_xor,BitVec.getElem_and,BitVec.getElem_or]
 cases a[i] <;> cases b[i] <;> cases c[i] <;> rfl
theorem aI.L0.ok:aI.L0.Ok:=by
 refine aI.L0.aD (fun(h,wv,kv,m,i,l)=>64 - i.toNat) ?_
 rintro⟨h,wv,kv,m,i,l⟩ ⟨s,ws,k,rfl,rfl,hw,hk,rfl,rfl,rfl,rfl⟩
 by_cases hlt:k < 64
 ·left
  refine⟨(s.l,wl ws,rC,8,((k+1:Nat):Int),(rounds ws s (k+1)).l),⟨s,ws,k+1,rfl,rfl,hw,by omega,rfl,rfl,rfl,rfl⟩,by simp only;omega,rfl,fun kn kx=> ?_⟩
  rw[aI.L0.step]
  generalize hv:rounds ws s k=v
  have t1:∀w:W,dj.call (vw w,6)=some (vw (kq w 6)):=fun w=>dj.at w (by omega)
  have t2:∀w:W,dj.call (vw w,11)=some (vw (kq w 11)):=fun w=>dj.at w (by omega)
  have t3:∀w:W,dj.call (vw w,25)=some (vw (kq w 25)):=fun w=>dj.at w (by omega)
  have t4:∀w:W,dj.call (vw w,2)=some (vw (kq w 2)):=fun w=>dj.at w (by omega)
  have t5:∀w:W,dj.call (vw w,13)=some (vw (kq w 13)):=fun w=>dj.at w (by omega)
  have t6:∀w:W,dj.call (vw w,22)=some (vw (kq w 22)):=fun w=>dj.at w (by omega)
  rw[n0,n1,n2,n3,n4,n5,n6,n7,t1,aa,t2,aa,t3,aa,t4,aa,t5,aa,t6,aa]
  simp(disch:=omega) only[↓S1,↓if_pos,↓if_neg,if_pos,if_neg,if_true,if_false,S2,St.yn,r9,lM,hw,ym k hlt,rU ws k (by omega),iQ,mO,Da,Hm,Gp]
  show kn _=kn (aI.L0.st (s.l,wl ws,rC,8,((k+1:Nat):Int),(IC (rounds ws s k) (kw k) (ws.getD k 0)).l))
  rw[hv]
  rfl
 ·right
  obtain rfl:k=64:=by omega
  intro R kn kx
  rw[aI.L0.step]
  simp(disch:=omega) only[↓S1,↓if_pos,↓if_neg,if_pos,if_neg,if_true,if_false,S2,aI.L0.add,aI.L0.F,nE,iy]
theorem aI.L1.ok:aI.L1.Ok:=by
 refine aI.L1.aD (fun(h,m,i,l)=>8 - i.toNat) ?_
 rintro⟨h,m,i,l⟩ ⟨hh,hl,rfl,k,hk,rfl⟩
 have hl:l.length=8:=hl
 have hh:h.length=8:=hh
 by_cases hlt:k < 8
 ·left
  have hn:nth (.int .u32) l k=l[k]:=cm (t:= .int .u32) (by omega)
  refine⟨(h,8,((k+1:Nat):Int),l.set k (bN .u32 l[k] (nth (.int .u32) h k))),⟨hh,by simpa using hl,rfl,k+1,by omega,rfl⟩,by simp only;omega,?_,fun kn kx=> ?_⟩
  ·simp only[aI.L1.add,aI.L1.F,Int.toNat_natCast]
   rw[oN (fun i x=>bN .u32 x (nth (.int .u32) h i)) l k (by omega)]
  ·rw[aI.L1.step]
   simp(disch:=omega) only[↓S1,↓if_pos,↓if_neg,if_pos,if_neg,if_true,if_false,S2,hl,hh,Nat.zero_add,Nat.mul_one,Nat.add_zero,hn]
 ·right
  obtain rfl:k=8:=by omega
  intro R kn kx
  rw[aI.L1.step]
  simp(disch:=omega) only[↓S1,↓if_pos,↓if_neg,if_pos,if_neg,if_true,if_false,S2,aI.L1.add,aI.L1.F]
  rw[qh _ _ _ (by omega)]
theorem Gr(s:St)(b:List Int):from_ (fun i x=>bN .u32 x (nth (.int .u32) s.l i)) 0 (rounds (sched b) s 64).l=(rF s b).l:=by
 unfold rF
 generalize rounds (sched b) s 64=v
 obtain⟨a1,b1,c1,d1,f1,g1,h1,i1⟩:=v
 simp only[St.l,from_,List.mapIdx_cons,List.mapIdx_nil,Nat.not_lt_zero,if_false,Nat.zero_add,Nat.reduceAdd]
 simp only[nth,List.getD_cons_zero,List.getD_cons_succ,mO]
theorem aI.ok:aI.Ok:=by
 rintro⟨h,b⟩ ⟨⟨s,rfl⟩,hb⟩
 have p0:aK.aC b:=hb
 have hsl:(sched b).length=64:=by unfold sched;rw[me,eD]
 have p1:aI.L0.aC (s.l,wl (sched b),rC,8,0,s.l):=⟨s,sched b,0,rfl,rfl,hsl,by omega,rfl,rfl,rfl,rfl⟩
 have p2:aI.L1.aC (s.l,8,0,(rounds (sched b) s 64).l):=⟨rfl,rfl,rfl,0,by omega,rfl⟩
 have e0:0+s.l.length=8:=rfl
 have e1:List.take 0 (List.replicate 0 (0:Int))++s.l=s.l:=rfl
 rw[aI.eq]
 simp(disch:=omega) only[↓S1,↓if_pos,↓if_neg,if_pos,if_neg,if_true,if_false,S2,aK.run p0,aK.add,aK.F,eu.run (d:=()) trivial,eu.add,eu.F,e0,e1,aI.L0.run p1,aI.L0.add,aI.L0.F,nE,iy,aI.L1.run p2,aI.L1.add,aI.L1.F,Int.toNat_zero,Gr]
 have e2:(rF s b).l.length=8:=rfl
 have e3:cut (rF s b).l 0 8=(rF s b).l:=rfl
 simp only[e2,Nat.zero_add,Nat.le_refl,if_true,e3,aI.add,aI.F,iy]
noncomputable def aI.E:=Entry.cq [some (.slice (.int .u32)),some tB] aI.st aI.aC aI.add aI.F aI.out
noncomputable def aI.call:aI.D→Option aI.X:=bT aI.E aI.st
theorem aI.run:bK aI.call aI.aC aI.add aI.F:=dh (de [.d (.slice (.int .u32)),.d tB] fun _=>by kernel_rfl)
noncomputable def aI.sg:SG Tryz.prog:=⟨264,aY,aI.E,.fn 2 (by kernel_rfl) aI.ok (And.intro (.cq aI.L0.ok (by kernel_rfl)) (And.intro (.cq aI.L1.ok (by kernel_rfl)) trivial))⟩
set_option synthInstance.maxSize 5000
abbrev bH.L0.D:=Bs×(List Int)×Int×Bs
def bH.L0.st:bH.L0.D→AS:=fun(p,h,i,n2)=>⟨([.undef,.undef,.ptr (.new 2 0) 0 [] 0,.d tB p,.d (.slice (.int .u32)) h,.d ti i]++ba 36 []),[],([[],[],[.obj 0 false (.d tH n2)]]++bE 39 [])⟩
abbrev bH.L0.Y0:=(List Int)
abbrev bH.L0.X0:=(Bs)×((List Int))
def bH.L0.bj:bH.L0.X0→Exit×AS:=fun x=>(.exit 0,⟨([.undef,.undef,.ptr (.new 2 0) 0 [] 0,.undef,.d (.slice (.int .u32)) x.2]++ba 37 []),[],([[],[],[.obj 0 false (.d tH x.1)]]++bE 39 [])⟩)
abbrev bH.L0.X:=bH.L0.X0
abbrev bH.L0.Y:=bH.L0.Y0
def bH.L0.out:bH.L0.X→Out (Exit×AS):=fun x=> .ok (bH.L0.bj x)
def bH.L0.add:bH.L0.D→bH.L0.Y→bH.L0.X:=fun(p,h,i,n2) y=>(n2,y)
abbrev bH.L1.D:=(List Int)×Int×Bs×Bs
def bH.L1.st:bH.L1.D→AS:=fun(h_2,i_2,n2_2,n6)=>⟨([.undef,.undef,.ptr (.new 2 0) 0 [] 0,.undef,.d (.slice (.int .u32)) h_2,.undef,.ptr (.new 6 0) 0 [] 0,.d ti i_2]++ba 34 []),[],([[],[],[.obj 0 false (.d tH n2_2)],[],[],[],[.obj 0 false (.d tH n6)]]++bE 35 [])⟩
abbrev bH.L1.Y0:=Bs
abbrev bH.L1.X0:=(Bs)×(Bs)
def bH.L1.bj:bH.L1.X0→Exit×AS:=fun x=>(.exit 2,⟨([.undef,.undef,.ptr (.new 2 0) 0 [] 0,.undef,.undef,.undef,.ptr (.new 6 0) 0 [] 0]++ba 35 []),[],([[],[],[.obj 0 false (.d tH x.1)],[],[],[],[.obj 0 false (.d tH x.2)]]++bE 35 [])⟩)
abbrev bH.L1.X:=bH.L1.X0
abbrev bH.L1.Y:=bH.L1.Y0
def bH.L1.out:bH.L1.X→Out (Exit×AS):=fun x=> .ok (bH.L1.bj x)
def bH.L1.add:bH.L1.D→bH.L1.Y→bH.L1.X:=fun(h_2,i_2,n2_2,n6) y=>(n2_2,y)
abbrev bH.D:=Bs
def bH.st:bH.D→SA:=fun b=>([.d tB b],[])
abbrev bH.Y:=Bs
abbrev bH.X:=Bs
def bH.out:bH.X→bk:=fun x=>⟨.d tH x,[],[]⟩
def bH.add:bH.D→bH.Y→bH.X:=fun b y=>y
def bH.L0.aC:bH.L0.D→Prop:=fun(p,h,i,n2)=>p.length%64=0∧p.length≤140737488355328∧∃(s:St) (k:Nat),h=s.l∧i=((64*k:Nat):Int)∧64*k≤p.length
def bH.L0.F:bH.L0.D→bH.L0.Y:=fun(p,h,i,n2)=>(blocks (xi h) (p.drop i.toNat)).l
def bH.L1.aC:bH.L1.D→Prop:=fun(h,i,n2,l)=>h.length=8∧l.length=32∧∃k:Nat,k≤32∧i=k
def bH.L1.F:bH.L1.D→bH.L1.Y:=fun(h,i,n2,l)=>from_ (pd h) i.toNat l
def bH.aC:bH.D→Prop:=fun b=>b.length≤140737488350000
def bH.F:bH.D→bH.Y:=fun b=>GC b
noncomputable def bH.G:dZ:=fh (P:=Tryz.prog) [az.sg,cD.sg,aI.sg]
noncomputable def bH.L0.E:=bP.cq bH.L0.st bH.L0.aC bH.L0.add bH.L0.F bH.L0.out
noncomputable def bH.L0.call:bH.L0.D→Option bH.L0.X:=cX bH.L0.E bH.L0.st
noncomputable def bH.L1.E:=bP.cq bH.L1.st bH.L1.aC bH.L1.add bH.L1.F bH.L1.out
noncomputable def bH.L1.call:bH.L1.D→Option bH.L1.X:=cX bH.L1.E bH.L1.st
noncomputable def bH.an:eO:= {loops:=j7 [(4,{bm:=[2,3,4,5],sites:=[2]}),(9,{bm:=[2,4,6,7],sites:=[2,6]})],outs:=j6 [(4,{bm:=[2,4],sites:=[2]},{bm:=[2]}),(9,{bm:=[2,6],sites:=[2,6]},{bm:=[2]})],fJ:=kW [(4,bH.L0.E),(9,bH.L1.E)]}
noncomputable def bH.A:= @cZ Tryz.prog bH.G bH.an 0 Tryz.f219 _ bH.st
abbrev bH.Ok:=da @bH.A bH.aC bH.add bH.F bH.out
noncomputable def bH.L0.R:= @bX Tryz.prog bH.G bH.an 0 Tryz.f219 0 _ bH.L0.st
abbrev bH.L0.Ok:=ej Tryz.prog bH.G bH.an 0 Tryz.f219 0 bH.L0.st bH.L0.aC bH.L0.add bH.L0.F bH.L0.out
noncomputable def bH.L1.R:= @bX Tryz.prog bH.G bH.an 0 Tryz.f219 1 _ bH.L1.st
abbrev bH.L1.Ok:=ej Tryz.prog bH.G bH.an 0 Tryz.f219 1 bH.L1.st bH.L1.aC bH.L1.add bH.L1.F bH.L1.out
theorem bH.L0.run:bK bH.L0.call bH.L0.aC bH.L0.add bH.L0.F:=eG (eC [.d tB,.d (.slice (.int .u32)),.d ti,.d tB] fun _=>by kernel_rfl)
theorem bH.L0.aD:fN @bH.L0.R bH.L0.st bH.L0.aC bH.L0.add bH.L0.F bH.L0.bj bH.L0.Ok:=fU
theorem bH.L0.step{R:Type}(p:Bs)(h:(List Int))(i:Int)(n2:Bs)(kn:AS→Option R)(kx:Exit→AS→Option R):bH.L0.R (p,h,i,n2) kn kx=
  aJ ((fX i (((List.length p):Nat):Int))) (
   aJ (inc (bN .i64 i (64:Int)) (((List.length p):Nat):Int)) (
   aJ (inc i (((Int.toNat (bN .i64 i (64:Int))):Nat):Int)) (
   ah (aI.call (h,(cut p (Int.toNat i) ((Int.toNat (bN .i64 i (64:Int))) - (Int.toNat i))))) fun x1=>
   kn (bH.L0.st (p,x1,(bN .i64 i (64:Int)),n2))) none) none) (
   kx (bH.L0.bj (n2,h)).1 (bH.L0.bj (n2,h)).2):=by kernel_rfl
theorem bH.L1.run:bK bH.L1.call bH.L1.aC bH.L1.add bH.L1.F:=eG (eC [.d (.slice (.int .u32)),.d ti,.d tB,.d tB] fun _=>by kernel_rfl)
theorem bH.L1.aD:fN @bH.L1.R bH.L1.st bH.L1.aC bH.L1.add bH.L1.F bH.L1.bj bH.L1.Ok:=fU
theorem bH.L1.step{R:Type}(h_2:(List Int))(i_2:Int)(n2_2:Bs)(n6:Bs)(kn:AS→Option R)(kx:Exit→AS→Option R):bH.L1.R (h_2,i_2,n2_2,n6) kn kx=
  aJ ((fX i_2 (32:Int))) (
   aJ (eJ (lV .i64 i_2 (4:Int)) (((List.length h_2):Nat):Int)) (
   aJ (ig (cH .i64 (24:Int) (fi .i64 (8:Int) (jI i_2 (4:Int))))) (
   aJ (eJ i_2 (32:Int)) (
   aJ (decide ((Int.toNat i_2) < (List.length n6))) (
   aJ (decide ((((Int.toNat i_2)*1)+0)=(0+((Int.toNat i_2)*1)))) (
   aJ (decide ((Int.toNat i_2) < (List.length n6))) (
   kn (bH.L1.st (h_2,(bN .i64 i_2 (1:Int)),n2_2,(List.set n6 (Int.toNat i_2) (dM .u8 (bV .u32 (nth (.int .u32) h_2 (Int.toNat (lV .i64 i_2 (4:Int)))) (cH .i64 (24:Int) (fi .i64 (8:Int) (jI i_2 (4:Int)))))))))) none) none) none) none) none) none) (
   kx (bH.L1.bj (n2_2,n6)).1 (bH.L1.bj (n2_2,n6)).2):=by kernel_rfl
theorem bH.eq{R:Type}(b:Bs)(k:bk→Option R):bH.A b k=
 ah (az.call b) fun x1=>
 ah (cD.call ()) fun x2=>
 ah (bH.L0.call (x1,x2,(0:Int),(List.replicate 32 (0:Int)))) fun x4=>
 ah (bH.L1.call (x4.2,(0:Int),x4.1,(List.replicate 32 (0:Int)))) fun x5=>
 k (bH.out x5.2):=by kernel_rfl
theorem bH.L0.ok:bH.L0.Ok:=by
 refine bH.L0.aD (fun(p,h,i,n2)=>p.length - i.toNat) ?_
 rintro⟨p,h,i,n2⟩ ⟨hm,hb,s,k,rfl,rfl,hk⟩
 have hm:p.length%64=0:=hm
 have hb:p.length≤140737488355328:=hb
 have hk:64*k≤p.length:=hk
 by_cases hlt:64*k < p.length
 ·left
  have e1:cut p (64*k) (64*k+64 - 64*k)=(p.drop (64*k)).take 64:=by unfold cut;rw[show 64*k+64 - 64*k=64 by omega]
  have e2:(p.drop (64*k)).drop 64=p.drop (64*(k+1)):=by rw[List.drop_drop];congr 1
  have e3:(64*(k+1):Nat)=64*k+64:=by omega
  have p1:aI.aC (s.l,(p.drop (64*k)).take 64):=⟨⟨s,rfl⟩,by simp;omega⟩
  refine⟨(p,(rF s ((p.drop (64*k)).take 64)).l,((64*(k+1):Nat):Int),n2),⟨hm,hb,_,k+1,rfl,rfl,by omega⟩,by simp only[Int.toNat_natCast];omega,?_,fun kn kx=> ?_⟩
  ·simp only[bH.L0.add,bH.L0.F,iy,Int.toNat_natCast]
   rw[nX s (p.drop (64*k)) (by simp;omega),e2]
  ·rw[bH.L0.step]
   simp(disch:=omega) only[↓S1,↓if_pos,↓if_neg,if_pos,if_neg,if_true,if_false,S2,e1,aI.run p1,aI.add,aI.F,iy,e3]
 ·right
  intro R kn kx
  rw[bH.L0.step]
  simp(disch:=omega) only[↓S1,↓if_pos,↓if_neg,if_pos,if_neg,if_true,if_false,S2,bH.L0.add,bH.L0.F,iy]
  rw[mY s _ (by simp;omega)]
theorem bH.L1.ok:bH.L1.Ok:=by
 refine bH.L1.aD (fun(h,i,n2,l)=>32 - i.toNat) ?_
 rintro⟨h,i,n2,l⟩ ⟨h8,hl,k,hk,rfl⟩
 have hl:l.length=32:=hl
 have h8:h.length=8:=h8
 by_cases hlt:k < 32
 ·left
  refine⟨(h,((k+1:Nat):Int),n2,l.set k (pd h k l[k])),⟨h8,by simpa using hl,k+1,by omega,rfl⟩,by simp only[Int.toNat_natCast];omega,?_,fun kn kx=> ?_⟩
  ·simp only[bH.L1.add,bH.L1.F,Int.toNat_natCast]
   rw[oN (pd h) l k (by omega)]
  ·rw[bH.L1.step]
   simp(disch:=omega) only[↓S1,↓if_pos,↓if_neg,if_pos,if_neg,if_true,if_false,S2,hl,h8,Nat.mul_one,Nat.add_zero,Nat.zero_add,pd]
 ·right
  obtain rfl:k=32:=by omega
  intro R kn kx
  rw[bH.L1.step]
  simp(disch:=omega) only[↓S1,↓if_pos,↓if_neg,if_pos,if_neg,if_true,if_false,S2,bH.L1.add,bH.L1.F]
  rw[qh _ _ _ (by omega)]
theorem zZ(b:List Int):(pad b).length%64=0∧(pad b).length≤b.length+73:=by
 unfold pad
 simp only[List.length_append,List.length_cons,List.length_replicate,bY,lZ]
 omega
theorem bH.ok:bH.Ok:=by
 intro b hb
 have hb:b.length≤140737488350000:=hb
 have p1:az.aC b:=hb
 obtain⟨h1,h2⟩:=zZ b
 have p2:bH.L0.aC (pad b,ju.l,0,List.replicate 32 0):=⟨h1,by omega,ju,0,rfl,rfl,by omega⟩
 have p3:bH.L1.aC ((blocks ju (pad b)).l,0,List.replicate 32 0,List.replicate 32 0):=⟨rfl,rfl,0,by omega,rfl⟩
 rw[bH.eq]
 simp(disch:=omega) only[↓S1,↓if_pos,↓if_neg,if_pos,if_neg,if_true,if_false,S2,az.run p1,az.add,az.F,cD.run (d:=()) trivial,cD.add,cD.F,bH.L0.run p2,bH.L0.add,bH.L0.F,iy,Int.toNat_zero,List.drop_zero,bH.L1.run p3,bH.L1.add,bH.L1.F,A4]
 rfl
noncomputable def bH.E:=Entry.cq [some tB] bH.st bH.aC bH.add bH.F bH.out
noncomputable def bH.call:bH.D→Option bH.X:=bT bH.E bH.st
theorem bH.run:bK bH.call bH.aC bH.add bH.F:=dh (de [.d tB] fun _=>by kernel_rfl)
noncomputable def bH.sg:SG Tryz.prog:=⟨219,aY,bH.E,.fn 2 (by kernel_rfl) bH.ok (And.intro (.cq bH.L0.ok (by kernel_rfl)) (And.intro (.cq bH.L1.ok (by kernel_rfl)) trivial))⟩
abbrev dX.D:=Int
def dX.st:dX.D→SA:=fun n=>([.d tu n],[])
abbrev dX.Y:=Nat×(List Int)
abbrev dX.X:=Nat×(List Int)
def dX.out:dX.X→bk:=fun x=>⟨.bI (.new 0 0) 0 [] 0 0 x.1,[],[.obj 0 false (.vec 5 tb x.2)]⟩
def dX.add:dX.D→dX.Y→dX.X:=fun n y=>y
def dX.aC:dX.D→Prop:=fun n=>0≤n∧n < 18446744073709551616
def dX.F:dX.D→dX.Y:=fun n=>(8,ik n)
noncomputable def dX.G:dZ:=fh (P:=Tryz.prog) []
noncomputable def dX.an:eO:= {loops:=j7 [(3,{bm:=[0,3,4],sites:=[15]})],outs:=j6 [(3,{bm:=[3],sites:=[15]},{bm:=[2],sites:=[15]})],ij:=[⟨2,[],15,140⟩]}
noncomputable def dX.A:= @cZ Tryz.prog dX.G dX.an 10 Tryz.f218 _ dX.st
abbrev dX.Ok:=da @dX.A dX.aC dX.add dX.F dX.out
theorem dX.eq{R:Type}(n:Int)(k:bk→Option R):dX.A n k=
 k (dX.out (8,[(dM .u8 (bV .u64 n (56:Int))),(dM .u8 (bV .u64 n (48:Int))),(dM .u8 (bV .u64 n (40:Int))),(dM .u8 (bV .u64 n (32:Int))),(dM .u8 (bV .u64 n (24:Int))),(dM .u8 (bV .u64 n (16:Int))),(dM .u8 (bV .u64 n (8:Int))),(dM .u8 (bV .u64 n (0:Int)))])):=by kernel_rfl
theorem dX.ok:dX.Ok:=by
 intro n _
 have e:∀k:Nat,k≤64→dM .u8 (bV .u64 n (k:Int))=n / 2^k%256:=fun k hk=>ze n k hk
 rw[dX.eq]
 have e56:dM .u8 (bV .u64 n 56)=n / 2^56%256:=e 56 (by omega)
 have e48:dM .u8 (bV .u64 n 48)=n / 2^48%256:=e 48 (by omega)
 have e40:dM .u8 (bV .u64 n 40)=n / 2^40%256:=e 40 (by omega)
 have e32:dM .u8 (bV .u64 n 32)=n / 2^32%256:=e 32 (by omega)
 have e24:dM .u8 (bV .u64 n 24)=n / 2^24%256:=e 24 (by omega)
 have e16:dM .u8 (bV .u64 n 16)=n / 2^16%256:=e 16 (by omega)
 have e8:dM .u8 (bV .u64 n 8)=n / 2^8%256:=e 8 (by omega)
 have e0:=e 0 (by omega)
 rw[e56,e48,e40,e32,e24,e16,e8]
 have e0:dM .u8 (bV .u64 n 0)=n%256:=by rw[show(0:Int)=((0:Nat):Int) from rfl,e0];simp
 rw[e0]
 rfl
noncomputable def dX.E:=Entry.cq [some tu] dX.st dX.aC dX.add dX.F dX.out
noncomputable def dX.call:dX.D→Option dX.X:=bT dX.E dX.st
theorem dX.run:bK dX.call dX.aC dX.add dX.F:=dh (de [.d tu] fun _=>by kernel_rfl)
noncomputable def dX.sg:SG Tryz.prog:=⟨218,aY,dX.E,.fn 1 (by kernel_rfl) dX.ok (And.intro (.none (by kernel_rfl)) trivial)⟩
abbrev cS.L0.D:=(List Bs)×Nat×Int×Bs×(List Int)
def cS.L0.st:cS.L0.D→AS:=fun(parts_2,bL,i,n4,n11)=>⟨([.undef,.d (.slice tB) parts_2,.undef,.undef,.ptr (.new 4 0) 0 [] 0,.bI (.new 11 0) 0 [] 0 0 bL,.d ti i]++ba 32 []),[],(bE 4 ([[.obj 0 false (.d tH n4)]]++bE 6 ([[.obj 0 false (.vec 5 tb n11)]]++bE 27 [])))⟩
abbrev cS.L0.Y0:=Nat×(List Int)
abbrev cS.L0.X0:=(Bs)×(Nat×(List Int))
def cS.L0.bj:cS.L0.X0→Exit×AS:=fun x=>(.exit 0,⟨(ba 4 ([.ptr (.new 4 0) 0 [] 0,.bI (.new 11 0) 0 [] 0 0 x.2.1]++ba 33 [])),[],(bE 4 ([[.obj 0 false (.d tH x.1)]]++bE 6 ([[.obj 0 false (.vec 5 tb x.2.2)]]++bE 27 [])))⟩)
abbrev cS.L0.X:=cS.L0.X0
abbrev cS.L0.Y:=cS.L0.Y0
def cS.L0.out:cS.L0.X→Out (Exit×AS):=fun x=> .ok (cS.L0.bj x)
def cS.L0.add:cS.L0.D→cS.L0.Y→cS.L0.X:=fun(parts_2,bL,i,n4,n11) y=>(n4,y)
abbrev cS.D:=ByteArray×(List Bs)
def cS.st:cS.D→SA:=fun(name,parts)=>([.d .str name,.d (.slice tB) parts],[])
abbrev cS.Y:=Bs
abbrev cS.X:=Bs
def cS.out:cS.X→bk:=fun x=>⟨.d tH x,[],[]⟩
def cS.add:cS.D→cS.Y→cS.X:=fun(name,parts) y=>y
def cS.L0.aC:cS.L0.D→Prop:=fun(ps,m,i,n4,l)=>m=l.length∧∃k:Nat,k≤ps.length∧ps.length≤140737488350000∧i=k∧l.length+(iD (ps.drop k)).length≤140737488350000
def cS.L0.F:cS.L0.D→cS.L0.Y:=fun(ps,m,i,n4,l)=>(l.length+(iD (ps.drop i.toNat)).length,l++iD (ps.drop i.toNat))
def cS.aC:cS.D→Prop:=fun(name,ps)=>(rQ (bA name) ps).length≤140737488350000
def cS.F:cS.D→cS.Y:=fun(name,ps)=>tag (bA name) ps
noncomputable def cS.G:dZ:=fh (P:=Tryz.prog) [dX.sg,bH.sg]
noncomputable def cS.L0.E:=bP.cq cS.L0.st cS.L0.aC cS.L0.add cS.L0.F cS.L0.out
noncomputable def cS.L0.call:cS.L0.D→Option cS.L0.X:=cX cS.L0.E cS.L0.st
noncomputable def cS.an:eO:= {loops:=j7 [(3,{bm:=[1,4,5,6],sites:=[4,11],ij:=[⟨5,[],11,140⟩]})],outs:=j6 [(3,{bm:=[4,5],sites:=[4,11]},{bm:=[4]})],fJ:=kW [(3,cS.L0.E)]}
noncomputable def cS.A:= @cZ Tryz.prog cS.G cS.an 0 Tryz.f161 _ cS.st
abbrev cS.Ok:=da @cS.A cS.aC cS.add cS.F cS.out
noncomputable def cS.L0.R:= @bX Tryz.prog cS.G cS.an 0 Tryz.f161 0 _ cS.L0.st
abbrev cS.L0.Ok:=ej Tryz.prog cS.G cS.an 0 Tryz.f161 0 cS.L0.st cS.L0.aC cS.L0.add cS.L0.F cS.L0.out
theorem cS.L0.run:bK cS.L0.call cS.L0.aC cS.L0.add cS.L0.F:=eG (eC [.d (.slice tB),.n,.d ti,.d tB,.d tB] fun _=>by kernel_rfl)
theorem cS.L0.aD:fN @cS.L0.R cS.L0.st cS.L0.aC cS.L0.add cS.L0.F cS.L0.bj cS.L0.Ok:=fU
theorem cS.L0.step{R:Type}(parts_2:(List Bs))(bL:Nat)(i:Int)(n4:Bs)(n11:(List Int))(kn:AS→Option R)(kx:Exit→AS→Option R):cS.L0.R (parts_2,bL,i,n4,n11) kn kx=
  aJ ((fX i (((List.length parts_2):Nat):Int))) (
   aJ (eJ i (((List.length parts_2):Nat):Int)) (
   ah (dX.call (dM .u64 (((List.length (nth tB parts_2 (Int.toNat i))):Nat):Int))) fun x1=>
   aJ (decide (0=0∧(0+x1.1)≤(List.length x1.2))) (
   aJ (decide (bL≤(List.length n11))) (
   aJ (dq (bL+(List.length (cut x1.2 0 x1.1))) 1) (
   aJ (eJ i (((List.length parts_2):Nat):Int)) (
   aJ (decide ((bL+(List.length (cut x1.2 0 x1.1)))≤(List.length ((List.take bL n11)++(cut x1.2 0 x1.1))))) (
   aJ (dq ((bL+(List.length (cut x1.2 0 x1.1)))+(List.length (nth tB parts_2 (Int.toNat i)))) 1) (
   kn (cS.L0.st (parts_2,((bL+(List.length (cut x1.2 0 x1.1)))+(List.length (nth tB parts_2 (Int.toNat i)))),(bN .i64 i (1:Int)),n4,((List.take (bL+(List.length (cut x1.2 0 x1.1))) ((List.take bL n11)++(cut x1.2 0 x1.1)))++(nth tB parts_2 (Int.toNat i)))))) none) none) none) none) none) none) none) (
   kx (cS.L0.bj (n4,(bL,n11))).1 (cS.L0.bj (n4,(bL,n11))).2):=by kernel_rfl
theorem cS.eq{R:Type}(name:ByteArray)(parts:(List Bs))(k:bk→Option R):cS.A (name,parts) k=
 ah (dX.call (dM .u64 (((ByteArray.size name):Nat):Int))) fun x1=>
 aJ (decide (x1.1≤(List.length x1.2))) (
 aJ (dq (x1.1+(List.length (bA name))) 1) (
 ah (cS.L0.call (parts,(x1.1+(List.length (bA name))),(0:Int),(List.replicate 32 (0:Int)),((List.take x1.1 x1.2)++(bA name)))) fun x4=>
 aJ (decide (0=0∧(0+x4.2.1)≤(List.length x4.2.2))) (
 ah (bH.call (cut x4.2.2 0 x4.2.1)) fun x5=>
 k (cS.out x5)) none) none) none:=by kernel_rfl
theorem Bf{n:Nat}(h:n < 18446744073709551616):dM .u64 ((n:Nat):Int)=n:=by rw[wJ,fY];omega
theorem dX.at{n:Nat}(h:n < 18446744073709551616):dX.call (n:Int)=some (8,ik (n:Int)):=dX.run (d:=(n:Int)) (show 0≤(n:Int)∧(n:Int) < 18446744073709551616 from⟨by omega,by omega⟩)
theorem Hn{l:List Int}{n:Nat}(h:l.length=n):cut l 0 n=l:=by unfold cut;rw[List.drop_zero,List.take_of_length_le (by omega)]
theorem cS.L0.ok:cS.L0.Ok:=by
 refine cS.L0.aD (fun(ps,m,i,n4,l)=>ps.length - i.toNat) ?_
 rintro⟨ps,m,i,n4,l⟩ ⟨rfl,k,hk,hpl,rfl,hl⟩
 have hk:k≤ps.length:=hk
 have hpl:ps.length≤140737488350000:=hpl
 have hl:l.length+(iD (ps.drop k)).length≤140737488350000:=hl
 by_cases h:k < ps.length
 ·left
  have ht:=vX ps k h
  have hlen:(iD (ps.drop k)).length=8+ps[k].length+(iD (ps.drop (k+1))).length:=by rw[ht];simp only[List.length_append,bY]
  have hn:nth (.slice (.int .u8)) ps k=ps[k]:=cm (t:= .slice (.int .u8)) h
  have hlb:(l++ik (ps[k].length:Int)).length=l.length+8:=by simp[bY]
  refine⟨(ps,(l++ik ps[k].length++ps[k]).length,((k+1:Nat):Int),n4,l++ik ps[k].length++ps[k]),⟨rfl,k+1,by omega,hpl,rfl,?_⟩,by simp only[Int.toNat_natCast];omega,?_,fun kn kx=> ?_⟩
  ·simp only[List.length_append,bY];omega
  ·simp only[cS.L0.add,cS.L0.F,Int.toNat_natCast,ht,List.append_assoc]
   simp only[List.length_append,bY,Nat.add_assoc]
  ·have c8:cut (ik (ps[k].length:Int)) 0 8=ik (ps[k].length:Int):=Hn (bY _)
   have h64:ps[k].length < 18446744073709551616:=by omega
   rw[cS.L0.step]
   simp(disch:=omega) only[↓S1,↓if_pos,↓if_neg,if_pos,if_neg,if_true,if_false,S2,hn,Bf h64,dX.at h64,bY,c8,List.take_length,hlb,Nat.zero_add,Nat.le_refl,and_self,if_true]
   rw[List.take_of_length_le (by rw[hlb];omega)]
   simp only[List.length_append,bY,Nat.add_assoc]
 ·right
  obtain rfl:k=ps.length:=by omega
  intro R kn kx
  rw[cS.L0.step]
  simp(disch:=omega) only[↓S1,↓if_pos,↓if_neg,if_pos,if_neg,if_true,if_false,S2,cS.L0.add,cS.L0.F,List.drop_length]
  simp[iD]
theorem cS.ok:cS.Ok:=by
 rintro⟨name,ps⟩ hp
 have hp:(ik (bA name).length++bA name++iD ps).length≤140737488350000:=hp
 have hl:(ik (bA name).length++bA name++iD ps).length=8+(bA name).length+(iD ps).length:=by simp only[List.length_append,bY]
 have hpl:=uz ps
 have hsz:name.size=(bA name).length:=by rw[gH]
 have h64:(bA name).length < 18446744073709551616:=by omega
 have p2:cS.L0.aC (ps,8+(bA name).length,0,List.replicate 32 0,ik ((bA name).length:Int)++bA name):=by
  refine⟨by simp only[List.length_append,bY],0,Nat.zero_le _,by omega,rfl,?_⟩
  rw[List.drop_zero]
  simp only[List.length_append,bY]
  omega
 rw[cS.eq,hsz]
 simp(disch:=omega) only[↓S1,↓if_pos,↓if_neg,if_pos,if_neg,if_true,if_false,S2,Bf h64,dX.at h64,bY,List.take_of_length_le (Nat.le_of_eq (bY _)),cS.L0.run p2,cS.L0.add,cS.L0.F,Int.toNat_zero,List.drop_zero,Nat.zero_add]
 have hcut:cut (ik ((bA name).length:Int)++bA name++iD ps) 0 ((ik ((bA name).length:Int)++bA name).length+(iD ps).length)=rQ (bA name) ps:=Hn (by simp only[List.length_append])
 have p3:bH.aC (rQ (bA name) ps):=hp
 rw[if_pos (by simp only[List.length_append];omega),hcut,bH.run p3]
 rfl
noncomputable def cS.E:=Entry.cq [some .str,some (.slice tB)] cS.st cS.aC cS.add cS.F cS.out
noncomputable def cS.call:cS.D→Option cS.X:=bT cS.E cS.st
theorem cS.run:bK cS.call cS.aC cS.add cS.F:=dh (de [.d .str,.d (.slice tB)] fun _=>by kernel_rfl)
noncomputable def cS.sg:SG Tryz.prog:=⟨161,aY,cS.E,.fn 1 (by kernel_rfl) cS.ok (And.intro (.cq cS.L0.ok (by kernel_rfl)) trivial)⟩
set_option synthInstance.maxSize 5000
theorem qZ{n:Int}(h1:0≤n)(h2:n < 18446744073709551616):IntKind.u64.wrap n=n:=by
 rw[wrap_u64,fY];omega
theorem qY(n:Int):IntKind.u64.wrap n=n%18446744073709551616:=by
 rw[wrap_u64,fY];rfl
theorem lD(x y:Int):bN .u64 x y=(x+y)%18446744073709551616:=qY _
theorem sP(x y:Int):cH .u64 x y=(x - y)%18446744073709551616:=qY _
theorem lE(x y:Int):fi .u64 x y=(x*y)%18446744073709551616:=qY _
theorem C8(x:Int):dM .u64 x=x%18446744073709551616:=qY _
theorem xD{x:Int}(h:0≤x)(h2:x < 18446744073709551616):cC .and .u64 x 4294967295=x%4294967296:=by
 obtain⟨n,rfl⟩:∃n:Nat,x=n:=⟨x.toNat,by omega⟩
 have e:(BitVec.ofInt 64 (n:Int) &&& BitVec.ofInt 64 4294967295).toNat=n%4294967296:=by
  rw[BitVec.toNat_and]
  have a:(BitVec.ofInt 64 (n:Int)).toNat=n:=by rw[BitVec.ofInt_natCast,BitVec.toNat_ofNat];omega
  have b:(BitVec.ofInt 64 4294967295).toNat=2^32 - 1:=by decide
  rw[a,b,Nat.and_two_pow_sub_one_eq_mod]
 show IntKind.u64.wrap ((BitVec.ofInt 64 (n:Int) &&& BitVec.ofInt 64 4294967295).toNat:Int)=_
 rw[e,qZ (by omega) (by omega)];omega
theorem Ie{x:Int}(h:0≤x)(h2:x < 18446744073709551616):cC .and .u64 x 1=x%2:=by
 obtain⟨n,rfl⟩:∃n:Nat,x=n:=⟨x.toNat,by omega⟩
 have e:(BitVec.ofInt 64 (n:Int) &&& BitVec.ofInt 64 1).toNat=n%2:=by
  rw[BitVec.toNat_and]
  have a:(BitVec.ofInt 64 (n:Int)).toNat=n:=by rw[BitVec.ofInt_natCast,BitVec.toNat_ofNat];omega
  have b:(BitVec.ofInt 64 1).toNat=2^1 - 1:=by decide
  rw[a,b,Nat.and_two_pow_sub_one_eq_mod]
 show IntKind.u64.wrap ((BitVec.ofInt 64 (n:Int) &&& BitVec.ofInt 64 1).toNat:Int)=_
 rw[e,qZ (by omega) (by omega)];omega
theorem kF{x k:Int}(n:Nat)(hk:k=n)(hn:n≤64):bV .u64 x k=x / 2^n:=by
 subst hk
 rw[bV]
 have e:min (Int.toNat (n:Int)) IntKind.u64.bits=n:=by simp only[IntKind.bits];omega
 rw[e,Int.fdiv_eq_ediv_of_nonneg _ (Int.le_of_lt (Int.pow_pos (by omega)))]
theorem kE{x k:Int}(n:Nat)(hk:k=n)(hn:n≤64):gS .u64 x k=x*2^n%18446744073709551616:=by
 subst hk
 rw[gS,qY]
 have e:min (Int.toNat (n:Int)) IntKind.u64.bits=n:=by simp only[IntKind.bits];omega
 rw[e]
theorem qB{x y:Int}(k:Nat)(m:Int)(hm:m=2^k)(hx:x%m=0)(h0:0≤x)(h1:x < 18446744073709551616)(hy:0≤y)(hy2:y < m)(h2:x+y < 18446744073709551616):cC .or .u64 x y=x+y:=by
 subst hm
 obtain⟨n,rfl⟩:∃n:Nat,x=n:=⟨x.toNat,by omega⟩
 obtain⟨j,rfl⟩:∃j:Nat,y=j:=⟨y.toNat,by omega⟩
 have hx:n%2^k=0:=by
  have:((n%2^k:Nat):Int)=0:=by rw[Int.natCast_emod];simpa using hx
  omega
 have hj:j < 2^k:=by
  have:((j:Nat):Int) < ((2^k:Nat):Int):=by simpa using hy2
  omega
 obtain⟨q,rfl⟩:∃q,n=2^k*q:=⟨n / 2^k,by have:=Nat.div_add_mod n (2^k);omega⟩
 have e:(BitVec.ofInt 64 ((2^k*q:Nat):Int) ||| BitVec.ofInt 64 (j:Int)).toNat=2^k*q+j:=by
  rw[BitVec.toNat_or]
  have a:(BitVec.ofInt 64 ((2^k*q:Nat):Int)).toNat=2^k*q:=by rw[BitVec.ofInt_natCast,BitVec.toNat_ofNat];exact Nat.mod_eq_of_lt (by omega)
  have b:(BitVec.ofInt 64 (j:Int)).toNat=j:=by rw[BitVec.ofInt_natCast,BitVec.toNat_ofNat];exact Nat.mod_eq_of_lt (by omega)
  rw[a,b,Nat.two_pow_add_eq_or_of_lt hj]
 show IntKind.u64.wrap ((BitVec.ofInt 64 ((2^k*q:Nat):Int) ||| BitVec.ofInt 64 (j:Int)).toNat:Int)=_
 rw[e,qZ (by omega) (by omega)];omega
theorem AT{x y:Int}(h:0≤x)(h1:0≤y)(h2:x < 18446744073709551616):lV .u64 x y=x / y:=by
 rw[lV,Int.tdiv_eq_ediv_of_nonneg h]
 exact qZ (Int.ediv_nonneg h h1) (Int.lt_of_le_of_lt (Int.ediv_le_self _ h) h2)
theorem oP{x y:Int}(h:0≤x):jI x y=x%y:=by rw[jI,Int.tmod_eq_emod_of_nonneg h]
theorem k1{e u w r q:Int}(he:e=42260∨e=42264∨e=42272)(hu:0≤u)(hu2:u < 18446744073709551616 - e)(hw:0≤w)(hw2:w < 4294967296)(hr:0≤r)(hr2:r < 4294967296)
  (hq:q*4294967295+r=u) (hQ:(u*4294967296+w) / (18446744073709551616 - e)≤q):
  (4294967296≤q→(u*4294967296+w) / (18446744073709551616 - e)≤q - 1)∧
  (q < 4294967296→4294967296*r+w < q*(4294967296 - e)→(u*4294967296+w) / (18446744073709551616 - e)≤q - 1)∧
  (q < 4294967296→q*(4294967296 - e)≤4294967296*r+w→(u*4294967296+w) / (18446744073709551616 - e)=q)∧
  (4294967296≤r+4294967295→(u*4294967296+w) / (18446744073709551616 - e)≤q - 1→(u*4294967296+w) / (18446744073709551616 - e)=q - 1)∧0≤(u*4294967296+w) / (18446744073709551616 - e)∧q≤4294967297:=by
 rcases he with rfl | rfl | rfl
 ·refine⟨?_,?_,?_,?_,?_,?_⟩ <;> omega
 ·refine⟨?_,?_,?_,?_,?_,?_⟩ <;> omega
 ·refine⟨?_,?_,?_,?_,?_,?_⟩ <;> omega
theorem k0{e u w:Int}(he:e=42260∨e=42264∨e=42272)(hu:0≤u)(hu2:u < 18446744073709551616 - e)(hw:0≤w)(hw2:w < 4294967296):
  (u*4294967296+w) / (18446744073709551616 - e)≤u / 4294967295∧0≤u - u / 4294967295*4294967295∧u - u / 4294967295*4294967295 < 4294967296∧
  (u*4294967296+w) - (u*4294967296+w) / (18446744073709551616 - e)*(18446744073709551616 - e)=(u*4294967296+w)%(18446744073709551616 - e)∧
  0≤(u*4294967296+w)%(18446744073709551616 - e)∧(u*4294967296+w)%(18446744073709551616 - e) < 18446744073709551616 - e∧
  0≤(u*4294967296+w) / (18446744073709551616 - e)∧(u*4294967296+w) / (18446744073709551616 - e) < 4294967296:=by
 rcases he with rfl | rfl | rfl
 ·refine⟨?_,?_,?_,?_,?_,?_,?_,?_⟩ <;> omega
 ·refine⟨?_,?_,?_,?_,?_,?_,?_,?_⟩ <;> omega
 ·refine⟨?_,?_,?_,?_,?_,?_,?_,?_⟩ <;> omega
theorem kd(Y u w1 w0:Int)(hY:0 < Y)(h0:0≤w0)(h1:w0 < 4294967296):
  ((u*4294967296+w1)*4294967296+w0) / Y=(u*4294967296+w1) / Y*4294967296+((u*4294967296+w1)%Y*4294967296+w0) / Y∧
  ((u*4294967296+w1)*4294967296+w0)%Y=((u*4294967296+w1)%Y*4294967296+w0)%Y:=by
 generalize u*4294967296+w1=n
 have e:n*4294967296+w0=(n%Y*4294967296+w0)+Y*(n / Y*4294967296):=by
  have:=Int.emod_add_mul_ediv n Y
  have h:Y*(n / Y*4294967296)=(Y*(n / Y))*4294967296:=by rw[Int.mul_assoc]
  rw[h];omega
 rw[e,Int.add_mul_ediv_left _ _ (by omega),Int.add_mul_emod_self_left]
 exact⟨by omega,rfl⟩
abbrev dQ.D:=Int
def dQ.st:dQ.D→SA:=fun x=>([.d tu x],[])
abbrev dQ.Y:=Int
abbrev dQ.X:=Int
def dQ.out:dQ.X→bk:=fun x=>⟨.d ti x,[],[]⟩
def dQ.add:dQ.D→dQ.Y→dQ.X:=fun x y=>y
def Hz(y:Int):Prop:=y=4611686018427377339∨y=2305843009213688669∨y=2305843009213688668
def dQ.aC:dQ.D→Prop:=Hz
def dQ.F:dQ.D→dQ.Y:=fun y=>if y=4611686018427377339 then 62 else 61
noncomputable def dQ.G:dZ:=fh (P:=Tryz.prog) []
noncomputable def dQ.an:eO:= {}
noncomputable def dQ.A:= @cZ Tryz.prog dQ.G dQ.an 0 Tryz.f215 _ dQ.st
abbrev dQ.Ok:=da @dQ.A dQ.aC dQ.add dQ.F dQ.out
theorem dQ.eq{R:Type}(x:Int)(k:bk→Option R):dQ.A x k=
  aJ ((nS x (4294967296:Int))) (
   aJ ((nS (bV .u64 x (32:Int)) (65536:Int))) (
    aJ ((nS (bV .u64 (bV .u64 x (32:Int)) (16:Int)) (256:Int))) (
     aJ (eJ (dM .u8 (bV .u64 (bV .u64 (bV .u64 x (32:Int)) (16:Int)) (8:Int))) (256:Int)) (
     k (dQ.out (bN .i64 (56:Int) (dM .i64 (yW (⟨#[0,1,2,2,3,3,3,3,4,4,4,4,4,4,4,4,5,5,5,5,5,5,5,5,5,5,5,5,5,5,5,5,6,6,6,6,6,6,6,6,6,6,6,6,6,6,6,6,6,6,6,6,6,6,6,6,6,6,6,6,6,6,6,6,7,7,7,7,7,7,7,7,7,7,7,7,7,7,7,7,7,7,7,7,7,7,7,7,7,7,7,7,7,7,7,7,7,7,7,7,7,7,7,7,7,7,7,7,7,7,7,7,7,7,7,7,7,7,7,7,7,7,7,7,7,7,7,7,8,8,8,8,8,8,8,8,8,8,8,8,8,8,8,8,8,8,8,8,8,8,8,8,8,8,8,8,8,8,8,8,8,8,8,8,8,8,8,8,8,8,8,8,8,8,8,8,8,8,8,8,8,8,8,8,8,8,8,8,8,8,8,8,8,8,8,8,8,8,8,8,8,8,8,8,8,8,8,8,8,8,8,8,8,8,8,8,8,8,8,8,8,8,8,8,8,8,8,8,8,8,8,8,8,8,8,8,8,8,8,8,8,8,8,8,8,8,8,8,8,8,8,8,8,8,8,8]⟩:ByteArray) (dM .u8 (bV .u64 (bV .u64 (bV .u64 x (32:Int)) (16:Int)) (8:Int)))))))) none) (
     aJ (eJ (dM .u8 (bV .u64 (bV .u64 x (32:Int)) (16:Int))) (256:Int)) (
     k (dQ.out (bN .i64 (48:Int) (dM .i64 (yW (⟨#[0,1,2,2,3,3,3,3,4,4,4,4,4,4,4,4,5,5,5,5,5,5,5,5,5,5,5,5,5,5,5,5,6,6,6,6,6,6,6,6,6,6,6,6,6,6,6,6,6,6,6,6,6,6,6,6,6,6,6,6,6,6,6,6,7,7,7,7,7,7,7,7,7,7,7,7,7,7,7,7,7,7,7,7,7,7,7,7,7,7,7,7,7,7,7,7,7,7,7,7,7,7,7,7,7,7,7,7,7,7,7,7,7,7,7,7,7,7,7,7,7,7,7,7,7,7,7,7,8,8,8,8,8,8,8,8,8,8,8,8,8,8,8,8,8,8,8,8,8,8,8,8,8,8,8,8,8,8,8,8,8,8,8,8,8,8,8,8,8,8,8,8,8,8,8,8,8,8,8,8,8,8,8,8,8,8,8,8,8,8,8,8,8,8,8,8,8,8,8,8,8,8,8,8,8,8,8,8,8,8,8,8,8,8,8,8,8,8,8,8,8,8,8,8,8,8,8,8,8,8,8,8,8,8,8,8,8,8,8,8,8,8,8,8,8,8,8,8,8,8,8,8,8,8,8,8]⟩:ByteArray) (dM .u8 (bV .u64 (bV .u64 x (32:Int)) (16:Int)))))))) none)) (
    aJ ((nS (bV .u64 x (32:Int)) (256:Int))) (
     aJ (eJ (dM .u8 (bV .u64 (bV .u64 x (32:Int)) (8:Int))) (256:Int)) (
     k (dQ.out (bN .i64 (40:Int) (dM .i64 (yW (⟨#[0,1,2,2,3,3,3,3,4,4,4,4,4,4,4,4,5,5,5,5,5,5,5,5,5,5,5,5,5,5,5,5,6,6,6,6,6,6,6,6,6,6,6,6,6,6,6,6,6,6,6,6,6,6,6,6,6,6,6,6,6,6,6,6,7,7,7,7,7,7,7,7,7,7,7,7,7,7,7,7,7,7,7,7,7,7,7,7,7,7,7,7,7,7,7,7,7,7,7,7,7,7,7,7,7,7,7,7,7,7,7,7,7,7,7,7,7,7,7,7,7,7,7,7,7,7,7,7,8,8,8,8,8,8,8,8,8,8,8,8,8,8,8,8,8,8,8,8,8,8,8,8,8,8,8,8,8,8,8,8,8,8,8,8,8,8,8,8,8,8,8,8,8,8,8,8,8,8,8,8,8,8,8,8,8,8,8,8,8,8,8,8,8,8,8,8,8,8,8,8,8,8,8,8,8,8,8,8,8,8,8,8,8,8,8,8,8,8,8,8,8,8,8,8,8,8,8,8,8,8,8,8,8,8,8,8,8,8,8,8,8,8,8,8,8,8,8,8,8,8,8,8,8,8,8,8]⟩:ByteArray) (dM .u8 (bV .u64 (bV .u64 x (32:Int)) (8:Int)))))))) none) (
     aJ (eJ (dM .u8 (bV .u64 x (32:Int))) (256:Int)) (
     k (dQ.out (bN .i64 (32:Int) (dM .i64 (yW (⟨#[0,1,2,2,3,3,3,3,4,4,4,4,4,4,4,4,5,5,5,5,5,5,5,5,5,5,5,5,5,5,5,5,6,6,6,6,6,6,6,6,6,6,6,6,6,6,6,6,6,6,6,6,6,6,6,6,6,6,6,6,6,6,6,6,7,7,7,7,7,7,7,7,7,7,7,7,7,7,7,7,7,7,7,7,7,7,7,7,7,7,7,7,7,7,7,7,7,7,7,7,7,7,7,7,7,7,7,7,7,7,7,7,7,7,7,7,7,7,7,7,7,7,7,7,7,7,7,7,8,8,8,8,8,8,8,8,8,8,8,8,8,8,8,8,8,8,8,8,8,8,8,8,8,8,8,8,8,8,8,8,8,8,8,8,8,8,8,8,8,8,8,8,8,8,8,8,8,8,8,8,8,8,8,8,8,8,8,8,8,8,8,8,8,8,8,8,8,8,8,8,8,8,8,8,8,8,8,8,8,8,8,8,8,8,8,8,8,8,8,8,8,8,8,8,8,8,8,8,8,8,8,8,8,8,8,8,8,8,8,8,8,8,8,8,8,8,8,8,8,8,8,8,8,8,8,8]⟩:ByteArray) (dM .u8 (bV .u64 x (32:Int)))))))) none))) (
   aJ ((nS x (65536:Int))) (
    aJ ((nS (bV .u64 x (16:Int)) (256:Int))) (
     aJ (eJ (dM .u8 (bV .u64 (bV .u64 x (16:Int)) (8:Int))) (256:Int)) (
     k (dQ.out (bN .i64 (24:Int) (dM .i64 (yW (⟨#[0,1,2,2,3,3,3,3,4,4,4,4,4,4,4,4,5,5,5,5,5,5,5,5,5,5,5,5,5,5,5,5,6,6,6,6,6,6,6,6,6,6,6,6,6,6,6,6,6,6,6,6,6,6,6,6,6,6,6,6,6,6,6,6,7,7,7,7,7,7,7,7,7,7,7,7,7,7,7,7,7,7,7,7,7,7,7,7,7,7,7,7,7,7,7,7,7,7,7,7,7,7,7,7,7,7,7,7,7,7,7,7,7,7,7,7,7,7,7,7,7,7,7,7,7,7,7,7,8,8,8,8,8,8,8,8,8,8,8,8,8,8,8,8,8,8,8,8,8,8,8,8,8,8,8,8,8,8,8,8,8,8,8,8,8,8,8,8,8,8,8,8,8,8,8,8,8,8,8,8,8,8,8,8,8,8,8,8,8,8,8,8,8,8,8,8,8,8,8,8,8,8,8,8,8,8,8,8,8,8,8,8,8,8,8,8,8,8,8,8,8,8,8,8,8,8,8,8,8,8,8,8,8,8,8,8,8,8,8,8,8,8,8,8,8,8,8,8,8,8,8,8,8,8,8,8]⟩:ByteArray) (dM .u8 (bV .u64 (bV .u64 x (16:Int)) (8:Int)))))))) none) (
     aJ (eJ (dM .u8 (bV .u64 x (16:Int))) (256:Int)) (
     k (dQ.out (bN .i64 (16:Int) (dM .i64 (yW (⟨#[0,1,2,2,3,3,3,3,4,4,4,4,4,4,4,4,5,5,5,5,5,5,5,5,5,5,5,5,5,5,5,5,6,6,6,6,6,6,6,6,6,6,6,6,6,6,6,6,6,6,6,6,6,6,6,6,6,6,6,6,6,6,6,6,7,7,7,7,7,7,7,7,7,7,7,7,7,7,7,7,7,7,7,7,7,7,7,7,7,7,7,7,7,7,7,7,7,7,7,7,7,7,7,7,7,7,7,7,7,7,7,7,7,7,7,7,7,7,7,7,7,7,7,7,7,7,7,7,8,8,8,8,8,8,8,8,8,8,8,8,8,8,8,8,8,8,8,8,8,8,8,8,8,8,8,8,8,8,8,8,8,8,8,8,8,8,8,8,8,8,8,8,8,8,8,8,8,8,8,8,8,8,8,8,8,8,8,8,8,8,8,8,8,8,8,8,8,8,8,8,8,8,8,8,8,8,8,8,8,8,8,8,8,8,8,8,8,8,8,8,8,8,8,8,8,8,8,8,8,8,8,8,8,8,8,8,8,8,8,8,8,8,8,8,8,8,8,8,8,8,8,8,8,8,8,8]⟩:ByteArray) (dM .u8 (bV .u64 x (16:Int)))))))) none)) (
    aJ ((nS x (256:Int))) (
     aJ (eJ (dM .u8 (bV .u64 x (8:Int))) (256:Int)) (
     k (dQ.out (bN .i64 (8:Int) (dM .i64 (yW (⟨#[0,1,2,2,3,3,3,3,4,4,4,4,4,4,4,4,5,5,5,5,5,5,5,5,5,5,5,5,5,5,5,5,6,6,6,6,6,6,6,6,6,6,6,6,6,6,6,6,6,6,6,6,6,6,6,6,6,6,6,6,6,6,6,6,7,7,7,7,7,7,7,7,7,7,7,7,7,7,7,7,7,7,7,7,7,7,7,7,7,7,7,7,7,7,7,7,7,7,7,7,7,7,7,7,7,7,7,7,7,7,7,7,7,7,7,7,7,7,7,7,7,7,7,7,7,7,7,7,8,8,8,8,8,8,8,8,8,8,8,8,8,8,8,8,8,8,8,8,8,8,8,8,8,8,8,8,8,8,8,8,8,8,8,8,8,8,8,8,8,8,8,8,8,8,8,8,8,8,8,8,8,8,8,8,8,8,8,8,8,8,8,8,8,8,8,8,8,8,8,8,8,8,8,8,8,8,8,8,8,8,8,8,8,8,8,8,8,8,8,8,8,8,8,8,8,8,8,8,8,8,8,8,8,8,8,8,8,8,8,8,8,8,8,8,8,8,8,8,8,8,8,8,8,8,8,8]⟩:ByteArray) (dM .u8 (bV .u64 x (8:Int)))))))) none) (
     aJ (eJ (dM .u8 x) (256:Int)) (
     k (dQ.out (bN .i64 (0:Int) (dM .i64 (yW (⟨#[0,1,2,2,3,3,3,3,4,4,4,4,4,4,4,4,5,5,5,5,5,5,5,5,5,5,5,5,5,5,5,5,6,6,6,6,6,6,6,6,6,6,6,6,6,6,6,6,6,6,6,6,6,6,6,6,6,6,6,6,6,6,6,6,7,7,7,7,7,7,7,7,7,7,7,7,7,7,7,7,7,7,7,7,7,7,7,7,7,7,7,7,7,7,7,7,7,7,7,7,7,7,7,7,7,7,7,7,7,7,7,7,7,7,7,7,7,7,7,7,7,7,7,7,7,7,7,7,8,8,8,8,8,8,8,8,8,8,8,8,8,8,8,8,8,8,8,8,8,8,8,8,8,8,8,8,8,8,8,8,8,8,8,8,8,8,8,8,8,8,8,8,8,8,8,8,8,8,8,8,8,8,8,8,8,8,8,8,8,8,8,8,8,8,8,8,8,8,8,8,8,8,8,8,8,8,8,8,8,8,8,8,8,8,8,8,8,8,8,8,8,8,8,8,8,8,8,8,8,8,8,8,8,8,8,8,8,8,8,8,8,8,8,8,8,8,8,8,8,8,8,8,8,8,8,8]⟩:ByteArray) (dM .u8 x)))))) none))):=by kernel_rfl
theorem dQ.ok:dQ.Ok:=by
 intro y h
 rw[dQ.eq]
 obtain rfl | rfl | rfl:=h <;> kernel_rfl
noncomputable def dQ.E:=Entry.cq [some tu] dQ.st dQ.aC dQ.add dQ.F dQ.out
noncomputable def dQ.call:dQ.D→Option dQ.X:=bT dQ.E dQ.st
theorem dQ.run:bK dQ.call dQ.aC dQ.add dQ.F:=dh (de [.d tu] fun _=>by kernel_rfl)
noncomputable def dQ.sg:SG Tryz.prog:=⟨215,aY,dQ.E,.fn 0 (by kernel_rfl) dQ.ok trivial⟩
abbrev fF.D:=Int
def fF.st:fF.D→SA:=fun x=>([.d tu x],[])
abbrev fF.Y:=Int
abbrev fF.X:=Int
def fF.out:fF.X→bk:=fun x=>⟨.d ti x,[],[]⟩
def fF.add:fF.D→fF.Y→fF.X:=fun x y=>y
def fF.aC:fF.D→Prop:=Hz
def fF.F:fF.D→fF.Y:=fun y=>if y=4611686018427377339 then 2 else 3
noncomputable def fF.G:dZ:=fh (P:=Tryz.prog) [dQ.sg]
noncomputable def fF.an:eO:= {}
noncomputable def fF.A:= @cZ Tryz.prog fF.G fF.an 0 Tryz.f276 _ fF.st
abbrev fF.Ok:=da @fF.A fF.aC fF.add fF.F fF.out
theorem fF.eq{R:Type}(x:Int)(k:bk→Option R):fF.A x k=
 ah (dQ.call x) fun x1=>
 k (fF.out (cH .i64 (64:Int) x1)):=by kernel_rfl
theorem fF.ok:fF.Ok:=by
 intro y h
 rw[fF.eq,dQ.run (d:=y) h]
 obtain rfl | rfl | rfl:=h <;> rfl
noncomputable def fF.E:=Entry.cq [some tu] fF.st fF.aC fF.add fF.F fF.out
noncomputable def fF.call:fF.D→Option fF.X:=bT fF.E fF.st
theorem fF.run:bK fF.call fF.aC fF.add fF.F:=dh (de [.d tu] fun _=>by kernel_rfl)
noncomputable def fF.sg:SG Tryz.prog:=⟨276,aY,fF.E,.fn 0 (by kernel_rfl) fF.ok trivial⟩
set_option synthInstance.maxSize 5000
abbrev aR.L0.D:=Int×Int×Int×Int×Int×Int×Int×Int×Int
def aR.L0.st:aR.L0.D→AS:=fun(yv_2,sv,yn1,yn0,un32,un1,un0,q1,rhat)=>⟨([.undef,.undef,.d tu yv_2]++ba 5 ([.d tu sv,.d tu yn1,.d tu yn0,.d tu un32,.undef,.d tu un1,.d tu un0,.d tu q1,.d tu rhat]++ba 118 [])),[],(List.replicate 135 [])⟩
abbrev aR.L0.Y0:=Int
abbrev aR.L0.X0:=(Int×Int×Int×Int×Int×Int×Int)×(Int)
def aR.L0.bj:aR.L0.X0→Exit×AS:=fun x=>(.exit 0,⟨([.undef,.undef,.d tu x.1.1]++ba 5 ([.d tu x.1.2.1,.d tu x.1.2.2.1,.d tu x.1.2.2.2.1,.d tu x.1.2.2.2.2.1,.undef,.d tu x.1.2.2.2.2.2.1,.d tu x.1.2.2.2.2.2.2,.d tu x.2]++ba 119 [])),[],(List.replicate 135 [])⟩)
abbrev aR.L0.X:=aR.L0.X0
abbrev aR.L0.Y:=aR.L0.Y0
def aR.L0.out:aR.L0.X→Out (Exit×AS):=fun x=> .ok (aR.L0.bj x)
def aR.L0.add:aR.L0.D→aR.L0.Y→aR.L0.X:=fun(yv_2,sv,yn1,yn0,un32,un1,un0,q1,rhat) y=>((yv_2,sv,yn1,yn0,un32,un1,un0),y)
abbrev aR.L1.D:=Int×Int×Int×Int×Int×Int×Int×Int×Int
def aR.L1.st:aR.L1.D→AS:=fun(yv_3,sv_2,yn1_2,yn0_2,un0_2,q1_2,rhat_2,un21,q0)=>⟨([.undef,.undef,.d tu yv_3]++ba 5 ([.d tu sv_2,.d tu yn1_2,.d tu yn0_2,.undef,.undef,.undef,.d tu un0_2,.d tu q1_2,.d tu rhat_2,.d tu un21,.d tu q0]++ba 116 [])),[],(List.replicate 135 [])⟩
abbrev aR.L1.Y0:=Int
abbrev aR.L1.X0:=(Int×Int×Int×Int×Int)×(Int)
def aR.L1.bj:aR.L1.X0→Exit×AS:=fun x=>(.exit 2,⟨([.undef,.undef,.d tu x.1.1]++ba 5 ([.d tu x.1.2.1]++ba 5 ([.d tu x.1.2.2.1,.d tu x.1.2.2.2.1,.undef,.d tu x.1.2.2.2.2,.d tu x.2]++ba 116 []))),[],(List.replicate 135 [])⟩)
abbrev aR.L1.X:=aR.L1.X0
abbrev aR.L1.Y:=aR.L1.Y0
def aR.L1.out:aR.L1.X→Out (Exit×AS):=fun x=> .ok (aR.L1.bj x)
def aR.L1.add:aR.L1.D→aR.L1.Y→aR.L1.X:=fun(yv_3,sv_2,yn1_2,yn0_2,un0_2,q1_2,rhat_2,un21,q0) y=>((yv_3,sv_2,un0_2,q1_2,un21),y)
abbrev aR.D:=Int×Int×Int
def aR.st:aR.D→SA:=fun(hi,lo,yv)=>([.d tu hi,.d tu lo,.d tu yv],[])
abbrev aR.Y:=Int×Int
abbrev aR.X:=Int×Int
def aR.out:aR.X→bk:=fun x=>⟨.cons (.d tu x.1) (.cons (.d tu x.2) (.nil)),[],[]⟩
def aR.add:aR.D→aR.Y→aR.X:=fun(hi,lo,yv) y=>y
def aR.L0.aC:aR.L0.D→Prop:=fun(y,sv,yn1,yn0,u,w,un0,q,r)=>∃e:Int,(e=42260∨e=42264∨e=42272)∧y=18446744073709551616 - e∧yn1=4294967295∧yn0=4294967296 - e∧0≤u∧u < 18446744073709551616 - e∧0≤w∧w < 4294967296∧0≤r∧r < 4294967296∧q*4294967295+r=u∧(u*4294967296+w) / (18446744073709551616 - e)≤q
def aR.L0.F:aR.L0.D→aR.L0.Y:=fun(y,sv,yn1,yn0,u,w,un0,q,r)=>(u*4294967296+w) / y
def aR.L1.aC:aR.L1.D→Prop:=fun(y,sv,yn1,yn0,w,q1,r,u,q)=>∃e:Int,(e=42260∨e=42264∨e=42272)∧y=18446744073709551616 - e∧yn1=4294967295∧yn0=4294967296 - e∧0≤u∧u < 18446744073709551616 - e∧0≤w∧w < 4294967296∧0≤r∧r < 4294967296∧q*4294967295+r=u∧(u*4294967296+w) / (18446744073709551616 - e)≤q
def aR.L1.F:aR.L1.D→aR.L1.Y:=fun(y,sv,yn1,yn0,w,q1,r,u,q)=>(u*4294967296+w) / y
def aR.aC:aR.D→Prop:=fun(hi,lo,y)=>Hz y∧0≤hi∧hi < y∧0≤lo∧lo < 18446744073709551616
def aR.F:aR.D→aR.Y:=fun(hi,lo,y)=>((hi*18446744073709551616+lo) / y,(hi*18446744073709551616+lo)%y)
noncomputable def aR.G:dZ:=fh (P:=Tryz.prog) [fF.sg]
noncomputable def aR.L0.E:=bP.cq aR.L0.st aR.L0.aC aR.L0.add aR.L0.F aR.L0.out
noncomputable def aR.L0.call:aR.L0.D→Option aR.L0.X:=cX aR.L0.E aR.L0.st
noncomputable def aR.L1.E:=bP.cq aR.L1.st aR.L1.aC aR.L1.add aR.L1.F aR.L1.out
noncomputable def aR.L1.call:aR.L1.D→Option aR.L1.X:=cX aR.L1.E aR.L1.st
noncomputable def aR.an:eO:= {loops:=j7 [(17,{bm:=[2,8,9,10,11,13,14,15,16]}),(24,{bm:=[2,8,9,10,14,15,16,17,18]})],outs:=j6 [(17,{bm:=[2,8,9,10,11,13,14,15]},{bm:=[6,7]}),(24,{bm:=[2,8,14,15,17,18]},{bm:=[6,7]})],fJ:=kW [(17,aR.L0.E),(24,aR.L1.E)]}
noncomputable def aR.A:= @cZ Tryz.prog aR.G aR.an 0 Tryz.f237 _ aR.st
abbrev aR.Ok:=da @aR.A aR.aC aR.add aR.F aR.out
noncomputable def aR.L0.R:= @bX Tryz.prog aR.G aR.an 0 Tryz.f237 0 _ aR.L0.st
abbrev aR.L0.Ok:=ej Tryz.prog aR.G aR.an 0 Tryz.f237 0 aR.L0.st aR.L0.aC aR.L0.add aR.L0.F aR.L0.out
noncomputable def aR.L1.R:= @bX Tryz.prog aR.G aR.an 0 Tryz.f237 1 _ aR.L1.st
abbrev aR.L1.Ok:=ej Tryz.prog aR.G aR.an 0 Tryz.f237 1 aR.L1.st aR.L1.aC aR.L1.add aR.L1.F aR.L1.out
theorem aR.L0.run:bK aR.L0.call aR.L0.aC aR.L0.add aR.L0.F:=eG (eC [.d tu,.d tu,.d tu,.d tu,.d tu,.d tu,.d tu,.d tu,.d tu] fun _=>by kernel_rfl)
theorem aR.L0.aD:fN @aR.L0.R aR.L0.st aR.L0.aC aR.L0.add aR.L0.F aR.L0.bj aR.L0.Ok:=fU
theorem aR.L0.step{R:Type}(yv_2:Int)(sv:Int)(yn1:Int)(yn0:Int)(un32:Int)(un1:Int)(un0:Int)(q1:Int)(rhat:Int)(kn:AS→Option R)(kx:Exit→AS→Option R):aR.L0.R (yv_2,sv,yn1,yn0,un32,un1,un0,q1,rhat) kn kx=
  aJ ((nS q1 (4294967296:Int))) (
   aJ ((nS (bN .u64 rhat yn1) (4294967296:Int))) (
    kx (aR.L0.bj ((yv_2,sv,yn1,yn0,un32,un1,un0),(cH .u64 q1 (1:Int)))).1 (aR.L0.bj ((yv_2,sv,yn1,yn0,un32,un1,un0),(cH .u64 q1 (1:Int)))).2) (
    kn (aR.L0.st (yv_2,sv,yn1,yn0,un32,un1,un0,(cH .u64 q1 (1:Int)),(bN .u64 rhat yn1))))) (
   aJ ((mP (fi .u64 q1 yn0) (bN .u64 (fi .u64 (4294967296:Int) rhat) un1))) (
    aJ ((nS (bN .u64 rhat yn1) (4294967296:Int))) (
     kx (aR.L0.bj ((yv_2,sv,yn1,yn0,un32,un1,un0),(cH .u64 q1 (1:Int)))).1 (aR.L0.bj ((yv_2,sv,yn1,yn0,un32,un1,un0),(cH .u64 q1 (1:Int)))).2) (
     kn (aR.L0.st (yv_2,sv,yn1,yn0,un32,un1,un0,(cH .u64 q1 (1:Int)),(bN .u64 rhat yn1))))) (
    kx (aR.L0.bj ((yv_2,sv,yn1,yn0,un32,un1,un0),q1)).1 (aR.L0.bj ((yv_2,sv,yn1,yn0,un32,un1,un0),q1)).2)):=by kernel_rfl
theorem aR.L1.run:bK aR.L1.call aR.L1.aC aR.L1.add aR.L1.F:=eG (eC [.d tu,.d tu,.d tu,.d tu,.d tu,.d tu,.d tu,.d tu,.d tu] fun _=>by kernel_rfl)
theorem aR.L1.aD:fN @aR.L1.R aR.L1.st aR.L1.aC aR.L1.add aR.L1.F aR.L1.bj aR.L1.Ok:=fU
theorem aR.L1.step{R:Type}(yv_3:Int)(sv_2:Int)(yn1_2:Int)(yn0_2:Int)(un0_2:Int)(q1_2:Int)(rhat_2:Int)(un21:Int)(q0:Int)(kn:AS→Option R)(kx:Exit→AS→Option R):aR.L1.R (yv_3,sv_2,yn1_2,yn0_2,un0_2,q1_2,rhat_2,un21,q0) kn kx=
  aJ ((nS q0 (4294967296:Int))) (
   aJ ((nS (bN .u64 rhat_2 yn1_2) (4294967296:Int))) (
    kx (aR.L1.bj ((yv_3,sv_2,un0_2,q1_2,un21),(cH .u64 q0 (1:Int)))).1 (aR.L1.bj ((yv_3,sv_2,un0_2,q1_2,un21),(cH .u64 q0 (1:Int)))).2) (
    kn (aR.L1.st (yv_3,sv_2,yn1_2,yn0_2,un0_2,q1_2,(bN .u64 rhat_2 yn1_2),un21,(cH .u64 q0 (1:Int)))))) (
   aJ ((mP (fi .u64 q0 yn0_2) (bN .u64 (fi .u64 (4294967296:Int) rhat_2) un0_2))) (
    aJ ((nS (bN .u64 rhat_2 yn1_2) (4294967296:Int))) (
     kx (aR.L1.bj ((yv_3,sv_2,un0_2,q1_2,un21),(cH .u64 q0 (1:Int)))).1 (aR.L1.bj ((yv_3,sv_2,un0_2,q1_2,un21),(cH .u64 q0 (1:Int)))).2) (
     kn (aR.L1.st (yv_3,sv_2,yn1_2,yn0_2,un0_2,q1_2,(bN .u64 rhat_2 yn1_2),un21,(cH .u64 q0 (1:Int)))))) (
    kx (aR.L1.bj ((yv_3,sv_2,un0_2,q1_2,un21),q0)).1 (aR.L1.bj ((yv_3,sv_2,un0_2,q1_2,un21),q0)).2)):=by kernel_rfl
theorem aR.eq{R:Type}(hi:Int)(lo:Int)(yv:Int)(k:bk→Option R):aR.A (hi,lo,yv) k=
  aJ ((jB yv (0:Int))) (
   none) (
   aJ ((BL yv hi)) (
    none) (
    aJ ((jB hi (0:Int))) (
     aJ (jl yv) (
     aJ (jl yv) (
     k (aR.out ((lV .u64 lo yv),(jI lo yv)))) none) none) (
     ah (fF.call yv) fun x1=>
     aJ (ig (dM .u64 x1)) (
     aJ (ig (dM .u64 x1)) (
     aJ (ig (cH .u64 (64:Int) (dM .u64 x1))) (
     aJ (ig (dM .u64 x1)) (
     aJ (jl (bV .u64 (gS .u64 yv (dM .u64 x1)) (32:Int))) (
     ah (aR.L0.call ((gS .u64 yv (dM .u64 x1)),(dM .u64 x1),(bV .u64 (gS .u64 yv (dM .u64 x1)) (32:Int)),(cC .and .u64 (gS .u64 yv (dM .u64 x1)) (4294967295:Int)),(cC .or .u64 (gS .u64 hi (dM .u64 x1)) (bV .u64 lo (cH .u64 (64:Int) (dM .u64 x1)))),(bV .u64 (gS .u64 lo (dM .u64 x1)) (32:Int)),(cC .and .u64 (gS .u64 lo (dM .u64 x1)) (4294967295:Int)),(lV .u64 (cC .or .u64 (gS .u64 hi (dM .u64 x1)) (bV .u64 lo (cH .u64 (64:Int) (dM .u64 x1)))) (bV .u64 (gS .u64 yv (dM .u64 x1)) (32:Int))),(cH .u64 (cC .or .u64 (gS .u64 hi (dM .u64 x1)) (bV .u64 lo (cH .u64 (64:Int) (dM .u64 x1)))) (fi .u64 (lV .u64 (cC .or .u64 (gS .u64 hi (dM .u64 x1)) (bV .u64 lo (cH .u64 (64:Int) (dM .u64 x1)))) (bV .u64 (gS .u64 yv (dM .u64 x1)) (32:Int))) (bV .u64 (gS .u64 yv (dM .u64 x1)) (32:Int)))))) fun x2=>
     aJ (jl x2.1.2.2.1) (
     ah (aR.L1.call (x2.1.1,x2.1.2.1,x2.1.2.2.1,x2.1.2.2.2.1,x2.1.2.2.2.2.2.2,x2.2,(cH .u64 (cH .u64 (bN .u64 (fi .u64 x2.1.2.2.2.2.1 (4294967296:Int)) x2.1.2.2.2.2.2.1) (fi .u64 x2.2 x2.1.1)) (fi .u64 (lV .u64 (cH .u64 (bN .u64 (fi .u64 x2.1.2.2.2.2.1 (4294967296:Int)) x2.1.2.2.2.2.2.1) (fi .u64 x2.2 x2.1.1)) x2.1.2.2.1) x2.1.2.2.1)),(cH .u64 (bN .u64 (fi .u64 x2.1.2.2.2.2.1 (4294967296:Int)) x2.1.2.2.2.2.2.1) (fi .u64 x2.2 x2.1.1)),(lV .u64 (cH .u64 (bN .u64 (fi .u64 x2.1.2.2.2.2.1 (4294967296:Int)) x2.1.2.2.2.2.2.1) (fi .u64 x2.2 x2.1.1)) x2.1.2.2.1))) fun x3=>
     aJ (ig x3.1.2.1) (
     k (aR.out ((bN .u64 (fi .u64 x3.1.2.2.2.1 (4294967296:Int)) x3.2),(bV .u64 (cH .u64 (bN .u64 (fi .u64 x3.1.2.2.2.2 (4294967296:Int)) x3.1.2.2.1) (fi .u64 x3.2 x3.1.1)) x3.1.2.1)))) none) none) none) none) none) none) none))):=by kernel_rfl
theorem aR.L0.ok:aR.L0.Ok:=by
 refine aR.L0.aD (fun(y,sv,yn1,yn0,u,w,un0,q,r)=>q.toNat) ?_
 rintro⟨y,sv,yn1,yn0,u,w,un0,q,r⟩ ⟨e,he,rfl,rfl,rfl,hu,hu2,hw,hw2,hr,hr2,hq,hQ⟩
 have hu:0≤u:=hu
 have hu2:u < 18446744073709551616 - e:=hu2
 have hw:0≤w:=hw
 have hw2:w < 4294967296:=hw2
 have hr:0≤r:=hr
 have hr2:r < 4294967296:=hr2
 have hq:q*4294967295+r=u:=hq
 obtain⟨k1,k2,k3,k4,k5,k6⟩:=k1 he hu hu2 hw hw2 hr hr2 hq hQ
 have q0:0≤q:=Int.le_trans k5 hQ
 have a1:bN .u64 r 4294967295=r+4294967295:=by rw[lD];omega
 have a2:bN .u64 (fi .u64 4294967296 r) w=4294967296*r+w:=by rw[lE,lD];omega
 have a3:q < 4294967296→fi .u64 q (4294967296 - e)=q*(4294967296 - e):=by
  intro h;rw[lE];rcases he with rfl | rfl | rfl <;> omega
 have a4:0 < q→cH .u64 q 1=q - 1:=by intro h;rw[sP];omega
 have pos:4294967296≤q∨(q < 4294967296∧4294967296*r+w < q*(4294967296 - e))→0 < q∧(u*4294967296+w) / (18446744073709551616 - e)≤q - 1:=by
  rintro(h | ⟨h,h2⟩)
  ·exact⟨by omega,k1 h⟩
  ·exact⟨by have:=k2 h h2;omega,k2 h h2⟩
 by_cases hc:4294967296≤q∨(q < 4294967296∧4294967296*r+w < q*(4294967296 - e))
 ·obtain⟨p1,p2⟩:=pos hc
  by_cases hb:4294967296≤r+4294967295
  ·right
   have hF:aR.L0.F (18446744073709551616 - e,sv,4294967295,4294967296 - e,u,w,un0,q,r)=q - 1:=k4 hb p2
   intro R kn kx
   rw[aR.L0.step,a1,a2,a4 p1,gl hb,hF]
   rcases hc with h | ⟨h,h2⟩
   ·rw[gl h];rfl
   ·rw[eX (by omega),a3 h,dy h2];rfl
  ·left
   refine⟨(18446744073709551616 - e,sv,4294967295,4294967296 - e,u,w,un0,q - 1,r+4294967295),⟨e,he,rfl,rfl,rfl,hu,hu2,hw,hw2,by omega,by omega,by omega,p2⟩,by simp only[];omega,rfl,fun kn kx=> ?_⟩
   rw[aR.L0.step,a1,a2,a4 p1,eX hb]
   rcases hc with h | ⟨h,h2⟩
   ·rw[gl h];rfl
   ·rw[eX (by omega),a3 h,dy h2];rfl
 ·right
  have h:q < 4294967296:=by omega
  have h2:¬4294967296*r+w < q*(4294967296 - e):=fun x=>hc (Or.inr ⟨h,x⟩)
  have hF:aR.L0.F (18446744073709551616 - e,sv,4294967295,4294967296 - e,u,w,un0,q,r)=q:=k3 h (by omega)
  intro R kn kx
  rw[aR.L0.step,a2,a3 h,eX (by omega),db h2,hF]
  rfl
theorem aR.L1.ok:aR.L1.Ok:=by
 refine aR.L1.aD (fun(y,sv,yn1,yn0,w,q1,r,u,q)=>q.toNat) ?_
 rintro⟨y,sv,yn1,yn0,w,q1,r,u,q⟩ ⟨e,he,rfl,rfl,rfl,hu,hu2,hw,hw2,hr,hr2,hq,hQ⟩
 have hu:0≤u:=hu
 have hu2:u < 18446744073709551616 - e:=hu2
 have hw:0≤w:=hw
 have hw2:w < 4294967296:=hw2
 have hr:0≤r:=hr
 have hr2:r < 4294967296:=hr2
 have hq:q*4294967295+r=u:=hq
 obtain⟨k1,k2,k3,k4,k5,k6⟩:=k1 he hu hu2 hw hw2 hr hr2 hq hQ
 have q0:0≤q:=Int.le_trans k5 hQ
 have a1:bN .u64 r 4294967295=r+4294967295:=by rw[lD];omega
 have a2:bN .u64 (fi .u64 4294967296 r) w=4294967296*r+w:=by rw[lE,lD];omega
 have a3:q < 4294967296→fi .u64 q (4294967296 - e)=q*(4294967296 - e):=by
  intro h;rw[lE];rcases he with rfl | rfl | rfl <;> omega
 have a4:0 < q→cH .u64 q 1=q - 1:=by intro h;rw[sP];omega
 have pos:4294967296≤q∨(q < 4294967296∧4294967296*r+w < q*(4294967296 - e))→0 < q∧(u*4294967296+w) / (18446744073709551616 - e)≤q - 1:=by
  rintro(h | ⟨h,h2⟩)
  ·exact⟨by omega,k1 h⟩
  ·exact⟨by have:=k2 h h2;omega,k2 h h2⟩
 by_cases hc:4294967296≤q∨(q < 4294967296∧4294967296*r+w < q*(4294967296 - e))
 ·obtain⟨p1,p2⟩:=pos hc
  by_cases hb:4294967296≤r+4294967295
  ·right
   have hF:aR.L1.F (18446744073709551616 - e,sv,4294967295,4294967296 - e,w,q1,r,u,q)=q - 1:=k4 hb p2
   intro R kn kx
   rw[aR.L1.step,a1,a2,a4 p1,gl hb,hF]
   rcases hc with h | ⟨h,h2⟩
   ·rw[gl h];rfl
   ·rw[eX (by omega),a3 h,dy h2];rfl
  ·left
   refine⟨(18446744073709551616 - e,sv,4294967295,4294967296 - e,w,q1,r+4294967295,u,q - 1),⟨e,he,rfl,rfl,rfl,hu,hu2,hw,hw2,by omega,by omega,by omega,p2⟩,by simp only[];omega,rfl,fun kn kx=> ?_⟩
   rw[aR.L1.step,a1,a2,a4 p1,eX hb]
   rcases hc with h | ⟨h,h2⟩
   ·rw[gl h];rfl
   ·rw[eX (by omega),a3 h,dy h2];rfl
 ·right
  have h:q < 4294967296:=by omega
  have h2:¬4294967296*r+w < q*(4294967296 - e):=fun x=>hc (Or.inr ⟨h,x⟩)
  have hF:aR.L1.F (18446744073709551616 - e,sv,4294967295,4294967296 - e,w,q1,r,u,q)=q:=k3 h (by omega)
  intro R kn kx
  rw[aR.L1.step,a2,a3 h,eX (by omega),db h2,hF]
  rfl
theorem F4{y hi lo:Int}(hy:Hz y)(h0:0≤hi)(h1:hi < y)(h2:0≤lo)(h3:lo < 18446744073709551616):∃(s:Nat) (e m:Int),fF.F y=s∧(s=2∨s=3)∧m=2^s∧(e=42260∨e=42264∨e=42272)∧y*m=18446744073709551616 - e∧
  gS .u64 y (s:Int)=18446744073709551616 - e∧
  cC .or .u64 (gS .u64 hi (s:Int)) (bV .u64 lo (cH .u64 64 (s:Int)))=(hi*18446744073709551616+lo)*m / 18446744073709551616∧
  gS .u64 lo (s:Int)=(hi*18446744073709551616+lo)*m%18446744073709551616∧
  (hi*18446744073709551616+lo)*m / 18446744073709551616 < 18446744073709551616 - e∧
  (hi*18446744073709551616+lo)*m / (18446744073709551616 - e)=(hi*18446744073709551616+lo) / y∧
  (hi*18446744073709551616+lo)*m%(18446744073709551616 - e) / m=(hi*18446744073709551616+lo)%y:=by
 have e1:cH .u64 64 ((2:Nat):Int)=((62:Nat):Int):=rfl
 have e2:cH .u64 64 ((3:Nat):Int)=((61:Nat):Int):=rfl
 have p2:(2:Int)^2=4:=rfl
 have p3:(2:Int)^3=8:=rfl
 have p61:(2:Int)^61=2305843009213693952:=rfl
 have p62:(2:Int)^62=4611686018427387904:=rfl
 obtain rfl | rfl | rfl:=hy
 ·refine⟨2,42260,4,rfl,Or.inl rfl,rfl,Or.inl rfl,rfl,by rw[kE 2 (by rfl) (by omega),p2];omega,?_,?_,by omega,by omega,by omega⟩
  ·rw[e1,kE 2 (by rfl) (by omega),kF 62 (by rfl) (by omega),p2,p62,qB 2 4 rfl (by omega) (by omega) (by omega) (by omega) (by omega) (by omega)];omega
  ·rw[kE 2 (by rfl) (by omega),p2];omega
 ·refine⟨3,42264,8,rfl,Or.inr rfl,rfl,Or.inr (Or.inl rfl),rfl,by rw[kE 3 (by rfl) (by omega),p3];omega,?_,?_,by omega,by omega,by omega⟩
  ·rw[e2,kE 3 (by rfl) (by omega),kF 61 (by rfl) (by omega),p3,p61,qB 3 8 rfl (by omega) (by omega) (by omega) (by omega) (by omega) (by omega)];omega
  ·rw[kE 3 (by rfl) (by omega),p3];omega
 ·refine⟨3,42272,8,rfl,Or.inr rfl,rfl,Or.inr (Or.inr rfl),rfl,by rw[kE 3 (by rfl) (by omega),p3];omega,?_,?_,by omega,by omega,by omega⟩
  ·rw[e2,kE 3 (by rfl) (by omega),kF 61 (by rfl) (by omega),p3,p61,qB 3 8 rfl (by omega) (by omega) (by omega) (by omega) (by omega) (by omega)];omega
  ·rw[kE 3 (by rfl) (by omega),p3];omega
theorem Im(a b c:Int):(((a%18446744073709551616+b)%18446744073709551616) - c%18446744073709551616)%18446744073709551616=(a+b - c)%18446744073709551616:=by omega
theorem aR.ok:aR.Ok:=by
 rintro⟨hi,lo,y⟩ ⟨hy,h0,h1,h2,h3⟩
 have h0:0≤hi:=h0
 have h1:hi < y:=h1
 have h2:0≤lo:=h2
 have h3:lo < 18446744073709551616:=h3
 have yb:0 < y∧y < 18446744073709551616:=by obtain rfl | rfl | rfl:=hy <;> omega
 rw[aR.eq,iR (by omega),ki (by omega)]
 simp only[ai]
 have z:jl y=true:=by simp[jl];omega
 by_cases hz:hi=0
 ·subst hz
  rw[il rfl,z,AT h2 (by omega) h3,oP h2]
  simp only[ag,aR.F,aR.add,Int.zero_mul,Int.zero_add]
 ·obtain⟨s,e,m,hs,hs2,hm,he,hym,a1,a2,a3,a4,a5,a6⟩:=F4 hy h0 h1 h2 h3
  have c1:dM .u64 (s:Int)=(s:Int):=by rw[C8];omega
  have c2:ig (s:Int)=true:=kM (by omega)
  have c3:ig (cH .u64 64 (s:Int))=true:=by rcases hs2 with rfl | rfl <;> rfl
  rw[iR hz,fF.run (d:=y) hy]
  simp only[ai,aa,fF.add,hs,c1,c2,c3,ag,a1,a2,a3]
  have hN:0≤(hi*18446744073709551616+lo)*m:=Int.mul_nonneg (by omega) (by rcases hs2 with rfl | rfl <;> omega)
  revert a4 a5 a6
  generalize (hi*18446744073709551616+lo)*m=N at hN
  intro a4 a5 a6
  have u0:0≤N / 18446744073709551616:=by omega
  have t0:0≤N%18446744073709551616:=by omega
  have t1:N%18446744073709551616 < 18446744073709551616:=by omega
  have hd:N=(N / 18446744073709551616*4294967296+N%18446744073709551616 / 4294967296)*4294967296+N%18446744073709551616%4294967296:=by omega
  have w10:0≤N%18446744073709551616 / 4294967296:=by omega
  have w11:N%18446744073709551616 / 4294967296 < 4294967296:=by omega
  have w00:0≤N%18446744073709551616%4294967296:=by omega
  have w01:N%18446744073709551616%4294967296 < 4294967296:=by omega
  have p32:(2:Int)^32=4294967296:=rfl
  have b1:bV .u64 (18446744073709551616 - e) 32=4294967295:=by rw[kF 32 (by rfl) (by omega),p32];rcases he with rfl | rfl | rfl <;> rfl
  have b2:cC .and .u64 (18446744073709551616 - e) 4294967295=4294967296 - e:=by rw[xD (by omega) (by omega)];omega
  have b3:bV .u64 (N%18446744073709551616) 32=N%18446744073709551616 / 4294967296:=by rw[kF 32 (by rfl) (by omega),p32]
  have b4:cC .and .u64 (N%18446744073709551616) 4294967295=N%18446744073709551616%4294967296:=xD t0 t1
  have z2:jl 4294967295=true:=rfl
  simp only[b1,b2,b3,b4,z2,ag]
  clear a1 a2 a3 b1 b2 b3 b4
  have kdd:=kd (18446744073709551616 - e) (N / 18446744073709551616) (N%18446744073709551616 / 4294967296) (N%18446744073709551616%4294967296) (by omega) w00 w01
  rw[←hd,a5]at kdd
  revert a4 kdd
  generalize N / 18446744073709551616=u at u0
  generalize N%18446744073709551616 / 4294967296=w1 at w10 w11
  generalize N%18446744073709551616%4294967296=w0 at w00 w01
  intro a4 kdd
  have g:∀u w:Int,0≤u→u < 18446744073709551616 - e→0≤w→w < 4294967296→
    lV .u64 u 4294967295=u / 4294967295∧cH .u64 u (fi .u64 (u / 4294967295) 4294967295)=u - u / 4294967295*4294967295∧
    cH .u64 (bN .u64 (fi .u64 u 4294967296) w) (fi .u64 ((u*4294967296+w) / (18446744073709551616 - e)) (18446744073709551616 - e))=(u*4294967296+w)%(18446744073709551616 - e):=by
   intro u w k1 k2 k3 k4
   obtain⟨q1,q2,q3,q4,q5,q6,q7,q8⟩:=k0 he k1 k2 k3 k4
   refine⟨AT k1 (by omega) (by omega),by rw[sP,lE];omega,?_⟩
   rw[sP,lD,lE,lE,Im,q4]
   exact Int.emod_eq_of_lt q5 (by omega)
  obtain⟨f1,f2,f3⟩:=g u w1 u0 a4 w10 w11
  obtain⟨q1,q2,q3,q4,q5,q6,q7,q8⟩:=k0 he u0 a4 w10 w11
  have p1:aR.L0.aC (18446744073709551616 - e,(s:Int),4294967295,4294967296 - e,u,w1,w0,u / 4294967295,u - u / 4294967295*4294967295):=⟨e,he,rfl,rfl,rfl,u0,a4,w10,w11,q2,q3,by omega,q1⟩
  rw[f1,f2,aR.L0.run p1]
  simp only[aa,aR.L0.add,aR.L0.F,z2,ag,f3]
  revert f3 q1 kdd
  generalize (u*4294967296+w1)%(18446744073709551616 - e)=v at q4 q5 q6
  generalize (u*4294967296+w1) / (18446744073709551616 - e)=Q at q4 q7 q8
  intro kdd f3 q1
  obtain⟨g1,g2,g3⟩:=g v w0 q5 q6 w00 w01
  obtain⟨r1,r2,r3,r4,r5,r6,r7,r8⟩:=k0 he q5 q6 w00 w01
  have p2:aR.L1.aC (18446744073709551616 - e,(s:Int),4294967295,4294967296 - e,w0,Q,v - v / 4294967295*4294967295,v,v / 4294967295):=⟨e,he,rfl,rfl,rfl,q5,q6,w00,w01,r2,r3,by omega,r1⟩
  rw[g1,g2,aR.L1.run p2]
  simp only[aa,aR.L1.add,aR.L1.F,c2,ag,g3]
  rw[←kdd.2,kF s (by rfl) (by omega),←hm,a6,lE,lD]
  have e9:(Q*4294967296%18446744073709551616+(v*4294967296+w0) / (18446744073709551616 - e))%18446744073709551616=(hi*18446744073709551616+lo) / y:=by rw[kdd.1];omega
  rw[e9]
  rfl
noncomputable def aR.E:=Entry.cq [some tu,some tu,some tu] aR.st aR.aC aR.add aR.F aR.out
noncomputable def aR.call:aR.D→Option aR.X:=bT aR.E aR.st
theorem aR.run:bK aR.call aR.aC aR.add aR.F:=dh (de [.d tu,.d tu,.d tu] fun _=>by kernel_rfl)
noncomputable def aR.sg:SG Tryz.prog:=⟨237,aY,aR.E,.fn 2 (by kernel_rfl) aR.ok (And.intro (.cq aR.L0.ok (by kernel_rfl)) (And.intro (.cq aR.L1.ok (by kernel_rfl)) trivial))⟩
abbrev dz.D:=Int×Int×Int
def dz.st:dz.D→SA:=fun(hi,lo,yv)=>([.d tu hi,.d tu lo,.d tu yv],[])
abbrev dz.Y:=Int
abbrev dz.X:=Int
def dz.out:dz.X→bk:=fun x=>⟨.d tu x,[],[]⟩
def dz.add:dz.D→dz.Y→dz.X:=fun(hi,lo,yv) y=>y
def dz.aC:dz.D→Prop:=fun(hi,lo,y)=>Hz y∧0≤hi∧hi < 18446744073709551616∧0≤lo∧lo < 18446744073709551616
def dz.F:dz.D→dz.Y:=fun(hi,lo,y)=>(hi*18446744073709551616+lo)%y
noncomputable def dz.G:dZ:=fh (P:=Tryz.prog) [aR.sg]
noncomputable def dz.an:eO:= {}
noncomputable def dz.A:= @cZ Tryz.prog dz.G dz.an 0 Tryz.f199 _ dz.st
abbrev dz.Ok:=da @dz.A dz.aC dz.add dz.F dz.out
theorem dz.eq{R:Type}(hi:Int)(lo:Int)(yv:Int)(k:bk→Option R):dz.A (hi,lo,yv) k=
 aJ (jl yv) (
 ah (aR.call ((jI hi yv),lo,yv)) fun x1=>
 k (dz.out x1.2)) none:=by kernel_rfl
theorem dz.ok:dz.Ok:=by
 rintro⟨hi,lo,y⟩ ⟨hy,h0,h1,h2,h3⟩
 have h0:0≤hi:=h0
 have yb:0 < y:=by obtain rfl | rfl | rfl:=hy <;> omega
 have z:jl y=true:=by simp[jl];omega
 have p:aR.aC (hi%y,lo,y):=⟨hy,Int.emod_nonneg _ (by omega),Int.emod_lt_of_pos _ yb,h2,h3⟩
 rw[dz.eq,z,oP h0,aR.run p]
 have e:(hi%y*18446744073709551616+lo)%y=(hi*18446744073709551616+lo)%y:=by
  rw[Int.add_emod,Int.mul_emod,Int.emod_emod_of_dvd _ (Int.dvd_refl y),←Int.mul_emod,←Int.add_emod]
 simp only[ag,aa,aR.add,aR.F,dz.add,dz.F,e]
noncomputable def dz.E:=Entry.cq [some tu,some tu,some tu] dz.st dz.aC dz.add dz.F dz.out
noncomputable def dz.call:dz.D→Option dz.X:=bT dz.E dz.st
theorem dz.run:bK dz.call dz.aC dz.add dz.F:=dh (de [.d tu,.d tu,.d tu] fun _=>by kernel_rfl)
noncomputable def dz.sg:SG Tryz.prog:=⟨199,aY,dz.E,.fn 0 (by kernel_rfl) dz.ok trivial⟩
abbrev dL.D:=Int×Int
def dL.st:dL.D→SA:=fun(x,yv)=>([.d tu x,.d tu yv],[])
abbrev dL.Y:=Int×Int
abbrev dL.X:=Int×Int
def dL.out:dL.X→bk:=fun x=>⟨.cons (.d tu x.1) (.cons (.d tu x.2) (.nil)),[],[]⟩
def dL.add:dL.D→dL.Y→dL.X:=fun(x,yv) y=>y
def dL.aC:dL.D→Prop:=fun(x,y)=>(0≤x∧x < 18446744073709551616)∧0≤y∧y < 18446744073709551616
def dL.F:dL.D→dL.Y:=fun(x,y)=>(x*y / 18446744073709551616,x*y%18446744073709551616)
noncomputable def dL.G:dZ:=fh (P:=Tryz.prog) []
noncomputable def dL.an:eO:= {}
noncomputable def dL.A:= @cZ Tryz.prog dL.G dL.an 0 Tryz.f236 _ dL.st
abbrev dL.Ok:=da @dL.A dL.aC dL.add dL.F dL.out
theorem dL.eq{R:Type}(x:Int)(yv:Int)(k:bk→Option R):dL.A (x,yv) k=
 k (dL.out ((bN .u64 (bN .u64 (fi .u64 (bV .u64 x (32:Int)) (bV .u64 yv (32:Int))) (bV .u64 (bN .u64 (fi .u64 (bV .u64 x (32:Int)) (cC .and .u64 yv (4294967295:Int))) (bV .u64 (fi .u64 (cC .and .u64 x (4294967295:Int)) (cC .and .u64 yv (4294967295:Int))) (32:Int))) (32:Int))) (bV .u64 (bN .u64 (cC .and .u64 (bN .u64 (fi .u64 (bV .u64 x (32:Int)) (cC .and .u64 yv (4294967295:Int))) (bV .u64 (fi .u64 (cC .and .u64 x (4294967295:Int)) (cC .and .u64 yv (4294967295:Int))) (32:Int))) (4294967295:Int)) (fi .u64 (cC .and .u64 x (4294967295:Int)) (bV .u64 yv (32:Int)))) (32:Int))),(fi .u64 x yv))):=by kernel_rfl
theorem rG{a b m n:Int}(h0:0≤a)(h1:a≤m)(h2:0≤b)(h3:b≤n):0≤a*b∧a*b≤m*n:=
 ⟨Int.mul_nonneg h0 h2,Int.mul_le_mul h1 h3 h2 (Int.le_trans h0 h1)⟩
theorem dL.ok:dL.Ok:=by
 rintro⟨x,y⟩ ⟨⟨h0,h1⟩,h2,h3⟩
 have h0:0≤x:=h0
 have h1:x < 18446744073709551616:=h1
 have h2:0≤y:=h2
 have h3:y < 18446744073709551616:=h3
 rw[dL.eq]
 have p32:(2:Int)^32=4294967296:=rfl
 have s32:∀x:Int,bV .u64 x 32=x / 4294967296:=fun x=>by rw[kF 32 (by rfl) (by omega),p32]
 simp only[s32,xD h0 h1,xD h2 h3]
 obtain⟨a,b,rfl,a0,a1,b0,b1⟩:∃a b:Int,x=a*4294967296+b∧0≤a∧a≤4294967295∧0≤b∧b≤4294967295:=⟨x / 4294967296,x%4294967296,by omega,by omega,by omega,by omega,by omega⟩
 obtain⟨c,d,rfl,c0,c1,d0,d1⟩:∃a b:Int,y=a*4294967296+b∧0≤a∧a≤4294967295∧0≤b∧b≤4294967295:=⟨y / 4294967296,y%4294967296,by omega,by omega,by omega,by omega,by omega⟩
 have e1:(a*4294967296+b) / 4294967296=a:=by omega
 have e2:(a*4294967296+b)%4294967296=b:=by omega
 have e3:(c*4294967296+d) / 4294967296=c:=by omega
 have e4:(c*4294967296+d)%4294967296=d:=by omega
 have e5:(a*4294967296+b)*(c*4294967296+d)=a*c*18446744073709551616+(a*d+b*c)*4294967296+b*d:=by
  have q:(4294967296:Int)*4294967296=18446744073709551616:=rfl
  rw[Int.add_mul,Int.mul_add,Int.mul_add]
  have q1:a*4294967296*(c*4294967296)=a*c*18446744073709551616:=by rw[←q];ac_rfl
  have q2:a*4294967296*d=a*d*4294967296:=by ac_rfl
  have q3:b*(c*4294967296)=b*c*4294967296:=by ac_rfl
  rw[q1,q2,q3];omega
 obtain⟨m1,m2⟩:=rG a0 a1 c0 c1
 obtain⟨m3,m4⟩:=rG a0 a1 d0 d1
 obtain⟨m5,m6⟩:=rG b0 b1 c0 c1
 obtain⟨m7,m8⟩:=rG b0 b1 d0 d1
 have n:(4294967295:Int)*4294967295=18446744065119617025:=rfl
 rw[n]at m2 m4 m6 m8
 simp only[e1,e2,e3,e4,dL.add,dL.F,e5,lE,lD]
 revert m1 m2 m3 m4 m5 m6 m7 m8
 generalize a*c=ac
 generalize a*d=ad
 generalize b*c=bc
 generalize b*d=bd
 intro m1 m2 m3 m4 m5 m6 m7 m8
 have q1:bd%18446744073709551616=bd:=by omega
 have q2:ad%18446744073709551616=ad:=by omega
 have q3:bc%18446744073709551616=bc:=by omega
 have q4:ac%18446744073709551616=ac:=by omega
 rw[q1,q2,q3,q4]
 have q5:(ad+bd / 4294967296)%18446744073709551616=ad+bd / 4294967296:=by omega
 have q6:cC .and .u64 (ad+bd / 4294967296) 4294967295=(ad+bd / 4294967296)%4294967296:=xD (by omega) (by omega)
 rw[q5,q6]
 refine congrArg some (congrArg dL.out (Prod.ext ?_ ?_))
 ·show _=(_:Int)
  simp only[]
  omega
 ·rfl
noncomputable def dL.E:=Entry.cq [some tu,some tu] dL.st dL.aC dL.add dL.F dL.out
noncomputable def dL.call:dL.D→Option dL.X:=bT dL.E dL.st
theorem dL.run:bK dL.call dL.aC dL.add dL.F:=dh (de [.d tu,.d tu] fun _=>by kernel_rfl)
noncomputable def dL.sg:SG Tryz.prog:=⟨236,aY,dL.E,.fn 0 (by kernel_rfl) dL.ok trivial⟩
set_option synthInstance.maxSize 5000
def Pn(x:Int):Prop:=0≤x∧x < 4611686018427377339
def jd(x:Int):Prop:=0≤x∧x < 18446744073709551616
theorem Pn.u{x:Int}(h:Pn x):jd x:=⟨h.1,by have:=h.2;omega⟩
def j8(a b:Int):Int:=a*b%4611686018427377339
theorem mm(a b:Int):Pn (j8 a b):=⟨Int.emod_nonneg _ (by omega),Int.emod_lt_of_pos _ (by omega)⟩
def A8:Nat→Int→Nat→Int→Int
 | 0,_,_,out=>out
 |f+1,a,n,out=>if n=0 then out else A8 f (j8 a a) (n / 2) (if n%2=1 then j8 out a else out)
def pw(a:Int)(n:Nat):Int:=A8 64 a n 1
theorem mU(f:Nat)(a out:Int):A8 f a 0 out=out:=by cases f <;> rfl
theorem yR:∀(f g:Nat) (a:Int) (n:Nat) (out:Int),n < 2^f→n < 2^g→A8 f a n out=A8 g a n out
 | 0,g,a,n,out,h,_=>by
  obtain rfl:n=0:=by omega
  rw[mU,mU]
 |f+1,0,a,n,out,_,h=>by
  obtain rfl:n=0:=by omega
  rw[mU,mU]
 |f+1,g+1,a,n,out,h,h'=>by
  have e:(2:Nat)^(f+1)=2^f*2:=Nat.pow_succ 2 f
  have e':(2:Nat)^(g+1)=2^g*2:=Nat.pow_succ 2 g
  unfold A8
  split
  ·rfl
  ·exact yR f g _ _ _ (by omega) (by omega)
theorem DJ:∀(f:Nat) (a:Int) (n:Nat) (out:Int),Pn out→Pn (A8 f a n out)
 | 0,_,_,_,h=>h
 |f+1,a,n,out,h=>by
  unfold A8
  split
  ·exact h
  ·refine DJ f _ _ _ ?_
   split
   ·exact mm _ _
   ·exact h
theorem yS(a:Int)(n:Nat):Pn (pw a n):=DJ _ _ _ _ ⟨by omega,by omega⟩
abbrev dg.D:=Int×Int
def dg.st:dg.D→SA:=fun(a,b)=>([.d tu a,.d tu b],[])
abbrev dg.Y:=Int
abbrev dg.X:=Int
def dg.out:dg.X→bk:=fun x=>⟨.d tu x,[],[]⟩
def dg.add:dg.D→dg.Y→dg.X:=fun(a,b) y=>y
def dg.aC:dg.D→Prop:=fun(a,b)=>jd a∧jd b
def dg.F:dg.D→dg.Y:=fun(a,b)=>j8 a b
noncomputable def dg.G:dZ:=fh (P:=Tryz.prog) [dL.sg,dz.sg]
noncomputable def dg.an:eO:= {}
noncomputable def dg.A:= @cZ Tryz.prog dg.G dg.an 0 Tryz.f193 _ dg.st
abbrev dg.Ok:=da @dg.A dg.aC dg.add dg.F dg.out
theorem dg.eq{R:Type}(a:Int)(b:Int)(k:bk→Option R):dg.A (a,b) k=
 ah (dL.call (a,b)) fun x1=>
 ah (dz.call (x1.1,x1.2,(4611686018427377339:Int))) fun x2=>
 k (dg.out x2):=by kernel_rfl
theorem uE(n:Int):n / 18446744073709551616*18446744073709551616+n%18446744073709551616=n:=by omega
theorem dg.ok:dg.Ok:=by
 rintro⟨a,b⟩ ⟨ha,hb⟩
 have ha:jd a:=ha
 have hb:jd b:=hb
 obtain⟨m1,m2⟩:=rG ha.1 (show a≤18446744073709551615 by have:=ha.2;omega) hb.1 (show b≤18446744073709551615 by have:=hb.2;omega)
 have n:(18446744073709551615:Int)*18446744073709551615=340282366920938463426481119284349108225:=rfl
 rw[n]at m2
 have p:dz.aC (a*b / 18446744073709551616,a*b%18446744073709551616,4611686018427377339):=⟨Or.inl rfl,by omega,by omega,by omega,by omega⟩
 rw[dg.eq,dL.run (d:=(a,b)) ⟨ha,hb⟩]
 simp only[aa,dL.add,dL.F]
 rw[dz.run p]
 simp only[aa,dz.add,dz.F,uE]
 rfl
noncomputable def dg.E:=Entry.cq [some tu,some tu] dg.st dg.aC dg.add dg.F dg.out
noncomputable def dg.call:dg.D→Option dg.X:=bT dg.E dg.st
theorem dg.run:bK dg.call dg.aC dg.add dg.F:=dh (de [.d tu,.d tu] fun _=>by kernel_rfl)
noncomputable def dg.sg:SG Tryz.prog:=⟨193,aY,dg.E,.fn 0 (by kernel_rfl) dg.ok trivial⟩
abbrev bl.L0.D:=Int×Int×Int
def bl.L0.st:bl.L0.D→AS:=fun(a_2,n_2,outv)=>⟨([.d tu a_2,.d tu n_2,.undef,.undef,.undef,.d tu outv]++ba 14 []),[],(List.replicate 20 [])⟩
abbrev bl.L0.Y0:=Int
abbrev bl.L0.X0:=Int
def bl.L0.bj:bl.L0.X0→Exit×AS:=fun x=>(.exit 0,⟨(ba 5 ([.d tu x]++ba 14 [])),[],(List.replicate 20 [])⟩)
abbrev bl.L0.X:=bl.L0.X0
abbrev bl.L0.Y:=bl.L0.Y0
def bl.L0.out:bl.L0.X→Out (Exit×AS):=fun x=> .ok (bl.L0.bj x)
def bl.L0.add:bl.L0.D→bl.L0.Y→bl.L0.X:=fun(a_2,n_2,outv) y=>y
abbrev bl.D:=Int×Int
def bl.st:bl.D→SA:=fun(a,n)=>([.d tu a,.d tu n],[])
abbrev bl.Y:=Int
abbrev bl.X:=Int
def bl.out:bl.X→bk:=fun x=>⟨.d tu x,[],[]⟩
def bl.add:bl.D→bl.Y→bl.X:=fun(a,n) y=>y
def bl.L0.aC:bl.L0.D→Prop:=fun(a,n,o)=>jd a∧jd n∧Pn o
def bl.L0.F:bl.L0.D→bl.L0.Y:=fun(a,n,o)=>A8 64 a n.toNat o
def bl.aC:bl.D→Prop:=fun(a,n)=>jd a∧jd n
def bl.F:bl.D→bl.Y:=fun(a,n)=>pw a n.toNat
noncomputable def bl.G:dZ:=fh (P:=Tryz.prog) [dg.sg]
noncomputable def bl.L0.E:=bP.cq bl.L0.st bl.L0.aC bl.L0.add bl.L0.F bl.L0.out
noncomputable def bl.L0.call:bl.L0.D→Option bl.L0.X:=cX bl.L0.E bl.L0.st
noncomputable def bl.an:eO:= {loops:=j7 [(2,{bm:=[0,1,5]})],outs:=j6 [(2,{bm:=[5]},{bm:=[4]})],fJ:=kW [(2,bl.L0.E)]}
noncomputable def bl.A:= @cZ Tryz.prog bl.G bl.an 0 Tryz.f130 _ bl.st
abbrev bl.Ok:=da @bl.A bl.aC bl.add bl.F bl.out
noncomputable def bl.L0.R:= @bX Tryz.prog bl.G bl.an 0 Tryz.f130 0 _ bl.L0.st
abbrev bl.L0.Ok:=ej Tryz.prog bl.G bl.an 0 Tryz.f130 0 bl.L0.st bl.L0.aC bl.L0.add bl.L0.F bl.L0.out
theorem bl.L0.run:bK bl.L0.call bl.L0.aC bl.L0.add bl.L0.F:=eG (eC [.d tu,.d tu,.d tu] fun _=>by kernel_rfl)
theorem bl.L0.aD:fN @bl.L0.R bl.L0.st bl.L0.aC bl.L0.add bl.L0.F bl.L0.bj bl.L0.Ok:=fU
theorem bl.L0.step{R:Type}(a_2:Int)(n_2:Int)(outv:Int)(kn:AS→Option R)(kx:Exit→AS→Option R):bl.L0.R (a_2,n_2,outv) kn kx=
  aJ ((mP n_2 (0:Int))) (
   aJ ((jB (cC .and .u64 n_2 (1:Int)) (1:Int))) (
    ah (dg.call (outv,a_2)) fun x1=>
    ah (dg.call (a_2,a_2)) fun x2=>
    kn (bl.L0.st (x2,(bV .u64 n_2 (1:Int)),x1))) (
    ah (dg.call (a_2,a_2)) fun x3=>
    kn (bl.L0.st (x3,(bV .u64 n_2 (1:Int)),outv)))) (
   kx (bl.L0.bj outv).1 (bl.L0.bj outv).2):=by kernel_rfl
theorem bl.eq{R:Type}(a:Int)(n:Int)(k:bk→Option R):bl.A (a,n) k=
 ah (bl.L0.call (a,n,(1:Int))) fun x4=>
 k (bl.out x4):=by kernel_rfl
theorem IF{n:Int}(h:jd n):bV .u64 n 1=n / 2:=kF 1 (by rfl) (by omega)
theorem bl.L0.ok:bl.L0.Ok:=by
 refine bl.L0.aD (fun(a,n,o)=>n.toNat) ?_
 rintro⟨a,n,o⟩ ⟨ha,hn,ho⟩
 have ha:jd a:=ha
 have hn:jd n:=hn
 have ho:Pn o:=ho
 have n0:=hn.1
 have n1:=hn.2
 by_cases h:0 < n
 ·left
  have e:bl.L0.F (a,n,o)=bl.L0.F (j8 a a,n / 2,if n%2=1 then j8 o a else o):=by
   show A8 64 a n.toNat o=A8 64 (j8 a a) (n / 2).toNat _
   rw[yR 64 65 a n.toNat o (by omega) (by omega)]
   have t1:(n / 2).toNat=n.toNat / 2:=by omega
   have t2:(n%2=1)=(n.toNat%2=1):=by apply propext;omega
   rw[t1]
   simp only[t2]
   show(if n.toNat=0 then o else _)=_
   rw[if_neg (by omega)]
  refine⟨(j8 a a,n / 2,if n%2=1 then j8 o a else o),⟨(mm a a).u,⟨by omega,by omega⟩,?_⟩,by show(n / 2).toNat < n.toNat;omega,?_,fun kn kx=> ?_⟩
  ·show Pn (if n%2=1 then j8 o a else o)
   split
   ·exact mm _ _
   ·exact ho
  ·exact congrArg _ e.symm
  ·rw[bl.L0.step,dy h,IF hn,Ie n0 n1,dg.run (d:=(o,a)) ⟨ho.u,ha⟩,dg.run (d:=(a,a)) ⟨ha,ha⟩]
   by_cases h1:n%2=1
   ·rw[il h1,if_pos h1];rfl
   ·rw[iR h1,if_neg h1];rfl
 ·right
  intro R kn kx
  obtain rfl:n=0:=by omega
  rw[bl.L0.step,db (by omega)]
  simp only[ai,bl.L0.add,bl.L0.F]
  rw[show A8 64 a (Int.toNat 0) o=o from mU _ _ _]
theorem bl.ok:bl.Ok:=by
 rintro⟨a,n⟩ ⟨ha,hn⟩
 rw[bl.eq,bl.L0.run (d:=(a,n,1)) ⟨ha,hn,by omega,by omega⟩]
 rfl
noncomputable def bl.E:=Entry.cq [some tu,some tu] bl.st bl.aC bl.add bl.F bl.out
noncomputable def bl.call:bl.D→Option bl.X:=bT bl.E bl.st
theorem bl.run:bK bl.call bl.aC bl.add bl.F:=dh (de [.d tu,.d tu] fun _=>by kernel_rfl)
noncomputable def bl.sg:SG Tryz.prog:=⟨130,aY,bl.E,.fn 1 (by kernel_rfl) bl.ok (And.intro (.cq bl.L0.ok (by kernel_rfl)) trivial)⟩
set_option synthInstance.maxSize 5000
def mA(p:Int):Bool:=decide (0 < p∧p < 4611686018427377339) && decide (pw p 2305843009213688669=1)
def tk(p:Int):Int:=if mA p then p else 1
theorem D8(p:Int):Pn (tk p):=by
 unfold tk
 split
 ·rename_i h
  simp only[mA,Bool.and_eq_true,decide_eq_true_eq]at h
  exact⟨by omega,by omega⟩
 ·exact⟨by omega,by omega⟩
def nC(p k:Int):Int:=pw (tk p) (k%2305843009213688669).toNat
def fb(k:Int):Int:=nC 4 k
def yB(p:Int):Int:=pw (tk p) 2305843009213688668
def sI(l:List Int):Int:=l.foldl (fun o p=>j8 o (tk p)) 1
theorem Fk(l:List Int)(o:Int)(h:Pn o):Pn (l.foldl (fun o p=>j8 o (tk p)) o):=by
 induction l generalizing o with
 |nil=>exact h
 |cons p l ih=>exact ih _ (mm _ _)
theorem Fl(l:List Int):Pn (sI l):=Fk l 1 ⟨by omega,by omega⟩
abbrev cr.D:=Int
def cr.st:cr.D→SA:=fun p=>([.d tu p],[])
abbrev cr.Y:=Bool
abbrev cr.X:=Bool
def cr.out:cr.X→bk:=fun x=>⟨.d .bool x,[],[]⟩
def cr.add:cr.D→cr.Y→cr.X:=fun p y=>y
def cr.aC:cr.D→Prop:=fun p=>jd p
def cr.F:cr.D→cr.Y:=fun p=>mA p
noncomputable def cr.G:dZ:=fh (P:=Tryz.prog) [bl.sg]
noncomputable def cr.an:eO:= {}
noncomputable def cr.A:= @cZ Tryz.prog cr.G cr.an 0 Tryz.f151 _ cr.st
abbrev cr.Ok:=da @cr.A cr.aC cr.add cr.F cr.out
theorem cr.eq{R:Type}(p:Int)(k:bk→Option R):cr.A p k=
  aJ ((mP p (0:Int))) (
   aJ ((fX p (4611686018427377339:Int))) (
    ah (bl.call (p,(2305843009213688669:Int))) fun x1=>
    k (cr.out (jB x1 (1:Int)))) (
    k (cr.out false))) (
   k (cr.out false)):=by kernel_rfl
theorem cr.ok:cr.Ok:=by
 intro p hp
 have hp:jd p:=hp
 rw[cr.eq,bl.run (d:=(p,2305843009213688669)) ⟨hp,by constructor <;> decide⟩]
 simp only[aa,bl.add,bl.F,cr.add,cr.F,mA]
 by_cases h:0 < p
 ·rw[dy h,ag]
  by_cases h2:p < 4611686018427377339
  ·rw[bq h2,ag,aX ⟨h,h2⟩,Bool.true_and]
   rfl
  ·rw[bg h2,ai,bz (fun x=>h2 x.2),Bool.false_and]
 ·rw[db h,ai,bz (fun x=>h x.1),Bool.false_and]
noncomputable def cr.E:=Entry.cq [some tu] cr.st cr.aC cr.add cr.F cr.out
noncomputable def cr.call:cr.D→Option cr.X:=bT cr.E cr.st
theorem cr.run:bK cr.call cr.aC cr.add cr.F:=dh (de [.d tu] fun _=>by kernel_rfl)
noncomputable def cr.sg:SG Tryz.prog:=⟨151,aY,cr.E,.fn 0 (by kernel_rfl) cr.ok trivial⟩
abbrev cI.D:=Int
def cI.st:cI.D→SA:=fun p=>([.d tu p],[])
abbrev cI.Y:=Int
abbrev cI.X:=Int
def cI.out:cI.X→bk:=fun x=>⟨.d tu x,[],[]⟩
def cI.add:cI.D→cI.Y→cI.X:=fun p y=>y
def cI.aC:cI.D→Prop:=fun p=>jd p
def cI.F:cI.D→cI.Y:=fun p=>tk p
noncomputable def cI.G:dZ:=fh (P:=Tryz.prog) [cr.sg]
noncomputable def cI.an:eO:= {}
noncomputable def cI.A:= @cZ Tryz.prog cI.G cI.an 0 Tryz.f131 _ cI.st
abbrev cI.Ok:=da @cI.A cI.aC cI.add cI.F cI.out
theorem cI.eq{R:Type}(p:Int)(k:bk→Option R):cI.A p k=
  ah (cr.call p) fun x1=>
  aJ (x1) (
   k (cI.out p)) (
   k (cI.out (1:Int))):=by kernel_rfl
theorem cI.ok:cI.Ok:=by
 intro p hp
 rw[cI.eq,cr.run (d:=p) hp]
 simp only[aa,cr.add,cr.F,cI.add,cI.F,tk]
 cases mA p <;> rfl
noncomputable def cI.E:=Entry.cq [some tu] cI.st cI.aC cI.add cI.F cI.out
noncomputable def cI.call:cI.D→Option cI.X:=bT cI.E cI.st
theorem cI.run:bK cI.call cI.aC cI.add cI.F:=dh (de [.d tu] fun _=>by kernel_rfl)
noncomputable def cI.sg:SG Tryz.prog:=⟨131,aY,cI.E,.fn 0 (by kernel_rfl) cI.ok trivial⟩
abbrev dm.D:=Int×Int
def dm.st:dm.D→SA:=fun(p,kv)=>([.d tu p,.d tu kv],[])
abbrev dm.Y:=Int
abbrev dm.X:=Int
def dm.out:dm.X→bk:=fun x=>⟨.d tu x,[],[]⟩
def dm.add:dm.D→dm.Y→dm.X:=fun(p,kv) y=>y
def dm.aC:dm.D→Prop:=fun(p,k)=>jd p∧jd k
def dm.F:dm.D→dm.Y:=fun(p,k)=>nC p k
noncomputable def dm.G:dZ:=fh (P:=Tryz.prog) [cI.sg,bl.sg]
noncomputable def dm.an:eO:= {}
noncomputable def dm.A:= @cZ Tryz.prog dm.G dm.an 0 Tryz.f63 _ dm.st
abbrev dm.Ok:=da @dm.A dm.aC dm.add dm.F dm.out
theorem dm.eq{R:Type}(p:Int)(kv:Int)(k:bk→Option R):dm.A (p,kv) k=
 ah (cI.call p) fun x1=>
 ah (bl.call (x1,(jI kv (2305843009213688669:Int)))) fun x2=>
 k (dm.out x2):=by kernel_rfl
theorem dm.ok:dm.Ok:=by
 rintro⟨p,k⟩ ⟨hp,hk⟩
 have hk:jd k:=hk
 have e:=oP (y:=2305843009213688669) hk.1
 have b:jd (k%2305843009213688669):=⟨by omega,by omega⟩
 rw[dm.eq,cI.run (d:=p) hp,e]
 simp only[aa,cI.add,cI.F]
 rw[bl.run (d:=(tk p,k%2305843009213688669)) ⟨(D8 p).u,b⟩]
 rfl
noncomputable def dm.E:=Entry.cq [some tu,some tu] dm.st dm.aC dm.add dm.F dm.out
noncomputable def dm.call:dm.D→Option dm.X:=bT dm.E dm.st
theorem dm.run:bK dm.call dm.aC dm.add dm.F:=dh (de [.d tu,.d tu] fun _=>by kernel_rfl)
noncomputable def dm.sg:SG Tryz.prog:=⟨63,aY,dm.E,.fn 0 (by kernel_rfl) dm.ok trivial⟩
abbrev dw.D:=Int
def dw.st:dw.D→SA:=fun kv=>([.d tu kv],[])
abbrev dw.Y:=Int
abbrev dw.X:=Int
def dw.out:dw.X→bk:=fun x=>⟨.d tu x,[],[]⟩
def dw.add:dw.D→dw.Y→dw.X:=fun kv y=>y
def dw.aC:dw.D→Prop:=fun k=>jd k
def dw.F:dw.D→dw.Y:=fun k=>fb k
noncomputable def dw.G:dZ:=fh (P:=Tryz.prog) [dm.sg]
noncomputable def dw.an:eO:= {}
noncomputable def dw.A:= @cZ Tryz.prog dw.G dw.an 0 Tryz.f14 _ dw.st
abbrev dw.Ok:=da @dw.A dw.aC dw.add dw.F dw.out
theorem dw.eq{R:Type}(kv:Int)(k:bk→Option R):dw.A kv k=
 ah (dm.call ((4:Int),kv)) fun x1=>
 k (dw.out x1):=by kernel_rfl
theorem dw.ok:dw.Ok:=by
 intro k hk
 rw[dw.eq,dm.run (d:=(4,k)) ⟨⟨by omega,by omega⟩,hk⟩]
 rfl
noncomputable def dw.E:=Entry.cq [some tu] dw.st dw.aC dw.add dw.F dw.out
noncomputable def dw.call:dw.D→Option dw.X:=bT dw.E dw.st
theorem dw.run:bK dw.call dw.aC dw.add dw.F:=dh (de [.d tu] fun _=>by kernel_rfl)
noncomputable def dw.sg:SG Tryz.prog:=⟨14,aY,dw.E,.fn 0 (by kernel_rfl) dw.ok trivial⟩
abbrev fH.D:=Int
def fH.st:fH.D→SA:=fun p=>([.d tu p],[])
abbrev fH.Y:=Int
abbrev fH.X:=Int
def fH.out:fH.X→bk:=fun x=>⟨.d tu x,[],[]⟩
def fH.add:fH.D→fH.Y→fH.X:=fun p y=>y
def fH.aC:fH.D→Prop:=fun p=>jd p
def fH.F:fH.D→fH.Y:=fun p=>yB p
noncomputable def fH.G:dZ:=fh (P:=Tryz.prog) [cI.sg,bl.sg]
noncomputable def fH.an:eO:= {}
noncomputable def fH.A:= @cZ Tryz.prog fH.G fH.an 0 Tryz.f260 _ fH.st
abbrev fH.Ok:=da @fH.A fH.aC fH.add fH.F fH.out
theorem fH.eq{R:Type}(p:Int)(k:bk→Option R):fH.A p k=
 ah (cI.call p) fun x1=>
 ah (bl.call (x1,(2305843009213688668:Int))) fun x2=>
 k (fH.out x2):=by kernel_rfl
theorem fH.ok:fH.Ok:=by
 intro p hp
 rw[fH.eq,cI.run (d:=p) hp]
 simp only[aa,cI.add,cI.F]
 rw[bl.run (d:=(tk p,2305843009213688668)) ⟨(D8 p).u,by constructor <;> decide⟩]
 rfl
noncomputable def fH.E:=Entry.cq [some tu] fH.st fH.aC fH.add fH.F fH.out
noncomputable def fH.call:fH.D→Option fH.X:=bT fH.E fH.st
theorem fH.run:bK fH.call fH.aC fH.add fH.F:=dh (de [.d tu] fun _=>by kernel_rfl)
noncomputable def fH.sg:SG Tryz.prog:=⟨260,aY,fH.E,.fn 0 (by kernel_rfl) fH.ok trivial⟩
abbrev cP.L0.D:=Int×Bs×Int×Int
def cP.L0.st:cP.L0.D→AS:=fun(outv,t6,t7,t8)=>⟨([.undef,.undef,.undef,.d tu outv,.undef,.undef,.d tU t6,.d ti t7,.d ti t8]++ba 9 []),[],(List.replicate 18 [])⟩
abbrev cP.L0.Y0:=Int
abbrev cP.L0.X0:=Int
def cP.L0.bj:cP.L0.X0→Exit×AS:=fun x=>(.exit 0,⟨([.undef,.undef,.undef,.d tu x]++ba 14 []),[],(List.replicate 18 [])⟩)
abbrev cP.L0.X:=cP.L0.X0
abbrev cP.L0.Y:=cP.L0.Y0
def cP.L0.out:cP.L0.X→Out (Exit×AS):=fun x=> .ok (cP.L0.bj x)
def cP.L0.add:cP.L0.D→cP.L0.Y→cP.L0.X:=fun(outv,t6,t7,t8) y=>y
abbrev cP.D:=Bs
def cP.st:cP.D→SA:=fun l=>([.d tU l],[])
abbrev cP.Y:=Int
abbrev cP.X:=Int
def cP.out:cP.X→bk:=fun x=>⟨.d tu x,[],[]⟩
def cP.add:cP.D→cP.Y→cP.X:=fun l y=>y
def cP.L0.aC:cP.L0.D→Prop:=fun(o,l,n,i)=>Pn o∧(∀x∈l,jd x)∧l.length≤1000000000∧n=l.length∧∃k:Nat,k≤l.length∧i=k
def cP.L0.F:cP.L0.D→cP.L0.Y:=fun(o,l,n,i)=>(l.drop i.toNat).foldl (fun o p=>j8 o (tk p)) o
def cP.aC:cP.D→Prop:=fun l=>(∀x∈l,jd x)∧l.length≤1000000000
def cP.F:cP.D→cP.Y:=fun l=>sI l
noncomputable def cP.G:dZ:=fh (P:=Tryz.prog) [cI.sg,dg.sg]
noncomputable def cP.L0.E:=bP.cq cP.L0.st cP.L0.aC cP.L0.add cP.L0.F cP.L0.out
noncomputable def cP.L0.call:cP.L0.D→Option cP.L0.X:=cX cP.L0.E cP.L0.st
noncomputable def cP.an:eO:= {loops:=j7 [(3,{bm:=[3,6,7,8]})],outs:=j6 [(3,{bm:=[3]},{bm:=[2]})],fJ:=kW [(3,cP.L0.E)]}
noncomputable def cP.A:= @cZ Tryz.prog cP.G cP.an 0 Tryz.f242 _ cP.st
abbrev cP.Ok:=da @cP.A cP.aC cP.add cP.F cP.out
noncomputable def cP.L0.R:= @bX Tryz.prog cP.G cP.an 0 Tryz.f242 0 _ cP.L0.st
abbrev cP.L0.Ok:=ej Tryz.prog cP.G cP.an 0 Tryz.f242 0 cP.L0.st cP.L0.aC cP.L0.add cP.L0.F cP.L0.out
theorem cP.L0.run:bK cP.L0.call cP.L0.aC cP.L0.add cP.L0.F:=eG (eC [.d tu,.d tU,.d ti,.d ti] fun _=>by kernel_rfl)
theorem cP.L0.aD:fN @cP.L0.R cP.L0.st cP.L0.aC cP.L0.add cP.L0.F cP.L0.bj cP.L0.Ok:=fU
theorem cP.L0.step{R:Type}(outv:Int)(t6:Bs)(t7:Int)(t8:Int)(kn:AS→Option R)(kx:Exit→AS→Option R):cP.L0.R (outv,t6,t7,t8) kn kx=
  aJ ((fX t8 t7)) (
   aJ (eJ t8 (((List.length t6):Nat):Int)) (
   ah (cI.call (nth tu t6 (Int.toNat t8))) fun x1=>
   ah (dg.call (outv,x1)) fun x2=>
   kn (cP.L0.st (x2,t6,t7,(bN .i64 t8 (1:Int))))) none) (
   kx (cP.L0.bj outv).1 (cP.L0.bj outv).2):=by kernel_rfl
theorem cP.eq{R:Type}(l:Bs)(k:bk→Option R):cP.A l k=
 ah (cP.L0.call ((1:Int),l,(((List.length l):Nat):Int),(0:Int))) fun x3=>
 k (cP.out x3):=by kernel_rfl
theorem cP.L0.ok:cP.L0.Ok:=by
 refine cP.L0.aD (fun(o,l,n,i)=>l.length - i.toNat) ?_
 rintro⟨o,l,n,i⟩ ⟨ho,hl,hb,rfl,k,hk,rfl⟩
 have ho:Pn o:=ho
 have hb:l.length≤1000000000:=hb
 have hk:k≤l.length:=hk
 by_cases h:k < l.length
 ·left
  have hx:=hl _ (List.getElem_mem h)
  have n1:nth (.int .u64) l k=l[k]:=cm (t:= .int .u64) h
  refine⟨(j8 o (tk l[k]),l,l.length,((k+1:Nat):Int)),⟨mm _ _,hl,hb,rfl,k+1,by omega,rfl⟩,by simp only[Int.toNat_natCast];omega,?_,fun kn kx=> ?_⟩
  ·simp only[cP.L0.add,cP.L0.F,Int.toNat_natCast]
   rw[List.drop_eq_getElem_cons h]
   rfl
  ·rw[cP.L0.step]
   simp(disch:=omega) only[↓S1,↓if_pos,↓if_neg,if_pos,if_neg,if_true,if_false,S2,n1]
   rw[cI.run (d:=l[k]) hx]
   simp only[aa,cI.add,cI.F]
   rw[dg.run (d:=(o,tk l[k])) ⟨ho.u,(D8 _).u⟩]
   rfl
 ·right
  obtain rfl:k=l.length:=by omega
  intro R kn kx
  rw[cP.L0.step]
  simp(disch:=omega) only[↓S1,↓if_pos,↓if_neg,if_pos,if_neg,if_true,if_false,S2,cP.L0.add,cP.L0.F,List.drop_length]
  rfl
theorem cP.ok:cP.Ok:=by
 rintro l ⟨hl,hb⟩
 rw[cP.eq,cP.L0.run (d:=(1,l,l.length,0)) ⟨⟨by omega,by omega⟩,hl,hb,rfl,0,by omega,rfl⟩]
 rfl
noncomputable def cP.E:=Entry.cq [some tU] cP.st cP.aC cP.add cP.F cP.out
noncomputable def cP.call:cP.D→Option cP.X:=bT cP.E cP.st
theorem cP.run:bK cP.call cP.aC cP.add cP.F:=dh (de [.d tU] fun _=>by kernel_rfl)
noncomputable def cP.sg:SG Tryz.prog:=⟨242,aY,cP.E,.fn 1 (by kernel_rfl) cP.ok (And.intro (.cq cP.L0.ok (by kernel_rfl)) trivial)⟩
abbrev fG.D:=Int×Int
def fG.st:fG.D→SA:=fun(p,q)=>([.d tu p,.d tu q],[])
abbrev fG.Y:=Int
abbrev fG.X:=Int
def fG.out:fG.X→bk:=fun x=>⟨.d tu x,[],[]⟩
def fG.add:fG.D→fG.Y→fG.X:=fun(p,q) y=>y
def fG.aC:fG.D→Prop:=fun(p,q)=>jd p∧jd q
def fG.F:fG.D→fG.Y:=fun(p,q)=>sI [p,q]
noncomputable def fG.G:dZ:=fh (P:=Tryz.prog) [cP.sg]
noncomputable def fG.an:eO:= {}
noncomputable def fG.A:= @cZ Tryz.prog fG.G fG.an 0 Tryz.f195 _ fG.st
abbrev fG.Ok:=da @fG.A fG.aC fG.add fG.F fG.out
theorem fG.eq{R:Type}(p:Int)(q:Int)(k:bk→Option R):fG.A (p,q) k=
 ah (cP.call [p,q]) fun x1=>
 k (fG.out x1):=by kernel_rfl
theorem fG.ok:fG.Ok:=by
 rintro⟨p,q⟩ ⟨hp,hq⟩
 have h:cP.aC [p,q]:=⟨by intro x hx;simp only[List.mem_cons,List.not_mem_nil,or_false]at hx;rcases hx with rfl | rfl <;> assumption,by simp only[List.length_cons,List.length_nil];omega⟩
 rw[fG.eq,cP.run h]
 rfl
noncomputable def fG.E:=Entry.cq [some tu,some tu] fG.st fG.aC fG.add fG.F fG.out
noncomputable def fG.call:fG.D→Option fG.X:=bT fG.E fG.st
theorem fG.run:bK fG.call fG.aC fG.add fG.F:=dh (de [.d tu,.d tu] fun _=>by kernel_rfl)
noncomputable def fG.sg:SG Tryz.prog:=⟨195,aY,fG.E,.fn 0 (by kernel_rfl) fG.ok trivial⟩
set_option synthInstance.maxSize 5000
def Qn(x:Int):Prop:=0≤x∧x < 2305843009213688669
theorem Qn.u{x:Int}(h:Qn x):jd x:=⟨h.1,by have:=h.2;omega⟩
def Dx(a:Int):Int:=a%2305843009213688669
theorem wZ(a:Int):Qn (Dx a):=⟨Int.emod_nonneg _ (by omega),Int.emod_lt_of_pos _ (by omega)⟩
def zm(a b:Int):Int:=(Dx a+Dx b)%2305843009213688669
def wW(a b:Int):Int:=Dx a*Dx b%2305843009213688669
def qg(h:List Int):Int:=h.foldl (fun n b=>(n*256+b)%2305843009213688668) 0+1
def Co.b(n:Int):Prop:=0≤n∧n < 2305843009213688668
theorem yc(h:List Int)(n:Int)(hn:Co.b n):Co.b (h.foldl (fun n b=>(n*256+b)%2305843009213688668) n):=by
 induction h generalizing n with
 |nil=>exact hn
 |cons p l ih=>exact ih _ ⟨Int.emod_nonneg _ (by omega),Int.emod_lt_of_pos _ (by omega)⟩
theorem tp(h:List Int):0 < qg h∧qg h < 2305843009213688669:=by
 have:=yc h 0 ⟨by omega,by omega⟩
 have h1:=this.1
 have h2:=this.2
 unfold qg
 omega
theorem Ax(a b:Int):Qn (zm a b):=⟨Int.emod_nonneg _ (by omega),Int.emod_lt_of_pos _ (by omega)⟩
theorem EZ(a b:Int):Qn (wW a b):=⟨Int.emod_nonneg _ (by omega),Int.emod_lt_of_pos _ (by omega)⟩
abbrev cQ.D:=Int
def cQ.st:cQ.D→SA:=fun a=>([.d tu a],[])
abbrev cQ.Y:=Bool
abbrev cQ.X:=Bool
def cQ.out:cQ.X→bk:=fun x=>⟨.d .bool x,[],[]⟩
def cQ.add:cQ.D→cQ.Y→cQ.X:=fun a y=>y
def cQ.aC:cQ.D→Prop:=fun _=>True
def cQ.F:cQ.D→cQ.Y:=fun a=>fX a 2305843009213688669
noncomputable def cQ.G:dZ:=fh (P:=Tryz.prog) []
noncomputable def cQ.an:eO:= {}
noncomputable def cQ.A:= @cZ Tryz.prog cQ.G cQ.an 0 Tryz.f65 _ cQ.st
abbrev cQ.Ok:=da @cQ.A cQ.aC cQ.add cQ.F cQ.out
theorem cQ.eq{R:Type}(a:Int)(k:bk→Option R):cQ.A a k=
 k (cQ.out (fX a (2305843009213688669:Int))):=by kernel_rfl
theorem cQ.ok:cQ.Ok:=by
 intro a _
 rw[cQ.eq]
 rfl
noncomputable def cQ.E:=Entry.cq [some tu] cQ.st cQ.aC cQ.add cQ.F cQ.out
noncomputable def cQ.call:cQ.D→Option cQ.X:=bT cQ.E cQ.st
theorem cQ.run:bK cQ.call cQ.aC cQ.add cQ.F:=dh (de [.d tu] fun _=>by kernel_rfl)
noncomputable def cQ.sg:SG Tryz.prog:=⟨65,aY,cQ.E,.fn 0 (by kernel_rfl) cQ.ok trivial⟩
abbrev ja.D:=Int
def ja.st:ja.D→SA:=fun a=>([.d tu a],[])
abbrev ja.Y:=Int
abbrev ja.X:=Int
def ja.out:ja.X→bk:=fun x=>⟨.d tu x,[],[]⟩
def ja.add:ja.D→ja.Y→ja.X:=fun a y=>y
def ja.aC:ja.D→Prop:=fun a=>jd a
def ja.F:ja.D→ja.Y:=fun a=>Dx a
noncomputable def ja.G:dZ:=fh (P:=Tryz.prog) []
noncomputable def ja.an:eO:= {}
noncomputable def ja.A:= @cZ Tryz.prog ja.G ja.an 0 Tryz.f243 _ ja.st
abbrev ja.Ok:=da @ja.A ja.aC ja.add ja.F ja.out
theorem ja.eq{R:Type}(a:Int)(k:bk→Option R):ja.A a k=
 k (ja.out (jI a (2305843009213688669:Int))):=by kernel_rfl
theorem ja.ok:ja.Ok:=by
 intro a ha
 rw[ja.eq,oP ha.1]
 rfl
noncomputable def ja.E:=Entry.cq [some tu] ja.st ja.aC ja.add ja.F ja.out
noncomputable def ja.call:ja.D→Option ja.X:=bT ja.E ja.st
theorem ja.run:bK ja.call ja.aC ja.add ja.F:=dh (de [.d tu] fun _=>by kernel_rfl)
noncomputable def ja.sg:SG Tryz.prog:=⟨243,aY,ja.E,.fn 0 (by kernel_rfl) ja.ok trivial⟩
abbrev eF.D:=Int×Int
def eF.st:eF.D→SA:=fun(a,b)=>([.d tu a,.d tu b],[])
abbrev eF.Y:=Int
abbrev eF.X:=Int
def eF.out:eF.X→bk:=fun x=>⟨.d tu x,[],[]⟩
def eF.add:eF.D→eF.Y→eF.X:=fun(a,b) y=>y
def eF.aC:eF.D→Prop:=fun(a,b)=>Qn a∧Qn b
def eF.F:eF.D→eF.Y:=fun(a,b)=>(a+b)%2305843009213688669
noncomputable def eF.G:dZ:=fh (P:=Tryz.prog) []
noncomputable def eF.an:eO:= {}
noncomputable def eF.A:= @cZ Tryz.prog eF.G eF.an 0 Tryz.f244 _ eF.st
abbrev eF.Ok:=da @eF.A eF.aC eF.add eF.F eF.out
theorem eF.eq{R:Type}(a:Int)(b:Int)(k:bk→Option R):eF.A (a,b) k=
 k (eF.out (jI (bN .u64 a b) (2305843009213688669:Int))):=by kernel_rfl
theorem eF.ok:eF.Ok:=by
 rintro⟨a,b⟩ ⟨ha,hb⟩
 have ha:Qn a:=ha
 have hb:Qn b:=hb
 obtain⟨h1,h2⟩:=ha
 obtain⟨h3,h4⟩:=hb
 have e:bN .u64 a b=a+b:=by rw[lD];omega
 rw[eF.eq,e,oP (by omega)]
 rfl
noncomputable def eF.E:=Entry.cq [some tu,some tu] eF.st eF.aC eF.add eF.F eF.out
noncomputable def eF.call:eF.D→Option eF.X:=bT eF.E eF.st
theorem eF.run:bK eF.call eF.aC eF.add eF.F:=dh (de [.d tu,.d tu] fun _=>by kernel_rfl)
noncomputable def eF.sg:SG Tryz.prog:=⟨244,aY,eF.E,.fn 0 (by kernel_rfl) eF.ok trivial⟩
abbrev du.D:=Int×Int
def du.st:du.D→SA:=fun(a,b)=>([.d tu a,.d tu b],[])
abbrev du.Y:=Int
abbrev du.X:=Int
def du.out:du.X→bk:=fun x=>⟨.d tu x,[],[]⟩
def du.add:du.D→du.Y→du.X:=fun(a,b) y=>y
def du.aC:du.D→Prop:=fun(a,b)=>Qn a∧Qn b
def du.F:du.D→du.Y:=fun(a,b)=>a*b%2305843009213688669
noncomputable def du.G:dZ:=fh (P:=Tryz.prog) [dL.sg,dz.sg]
noncomputable def du.an:eO:= {}
noncomputable def du.A:= @cZ Tryz.prog du.G du.an 0 Tryz.f245 _ du.st
abbrev du.Ok:=da @du.A du.aC du.add du.F du.out
theorem du.eq{R:Type}(a:Int)(b:Int)(k:bk→Option R):du.A (a,b) k=
 ah (dL.call (a,b)) fun x1=>
 ah (dz.call (x1.1,x1.2,(2305843009213688669:Int))) fun x2=>
 k (du.out x2):=by kernel_rfl
theorem du.ok:du.Ok:=by
 rintro⟨a,b⟩ ⟨ha,hb⟩
 have ha:Qn a:=ha
 have hb:Qn b:=hb
 obtain⟨m1,m2⟩:=rG ha.1 (show a≤18446744073709551615 by have:=ha.2;omega) hb.1 (show b≤18446744073709551615 by have:=hb.2;omega)
 have n:(18446744073709551615:Int)*18446744073709551615=340282366920938463426481119284349108225:=rfl
 rw[n]at m2
 have p:dz.aC (a*b / 18446744073709551616,a*b%18446744073709551616,2305843009213688669):=⟨Or.inr (Or.inl rfl),by omega,by omega,by omega,by omega⟩
 rw[du.eq,dL.run (d:=(a,b)) ⟨ha.u,hb.u⟩]
 simp only[aa,dL.add,dL.F]
 rw[dz.run p]
 simp only[aa,dz.add,dz.F,uE]
 rfl
noncomputable def du.E:=Entry.cq [some tu,some tu] du.st du.aC du.add du.F du.out
noncomputable def du.call:du.D→Option du.X:=bT du.E du.st
theorem du.run:bK du.call du.aC du.add du.F:=dh (de [.d tu,.d tu] fun _=>by kernel_rfl)
noncomputable def du.sg:SG Tryz.prog:=⟨245,aY,du.E,.fn 0 (by kernel_rfl) du.ok trivial⟩
abbrev fP.D:=Int×Int
def fP.st:fP.D→SA:=fun(a,b)=>([.d tu a,.d tu b],[])
abbrev fP.Y:=Int
abbrev fP.X:=Int
def fP.out:fP.X→bk:=fun x=>⟨.d tu x,[],[]⟩
def fP.add:fP.D→fP.Y→fP.X:=fun(a,b) y=>y
def fP.aC:fP.D→Prop:=fun(a,b)=>jd a∧jd b
def fP.F:fP.D→fP.Y:=fun(a,b)=>zm a b
noncomputable def fP.G:dZ:=fh (P:=Tryz.prog) [ja.sg,eF.sg]
noncomputable def fP.an:eO:= {}
noncomputable def fP.A:= @cZ Tryz.prog fP.G fP.an 0 Tryz.f196 _ fP.st
abbrev fP.Ok:=da @fP.A fP.aC fP.add fP.F fP.out
theorem fP.eq{R:Type}(a:Int)(b:Int)(k:bk→Option R):fP.A (a,b) k=
 ah (ja.call a) fun x1=>
 ah (ja.call b) fun x2=>
 ah (eF.call (x1,x2)) fun x3=>
 k (fP.out x3):=by kernel_rfl
theorem fP.ok:fP.Ok:=by
 rintro⟨a,b⟩ ⟨ha,hb⟩
 rw[fP.eq,ja.run (d:=a) ha,ja.run (d:=b) hb]
 simp only[aa,ja.add,ja.F]
 rw[eF.run (d:=(Dx a,Dx b)) ⟨wZ a,wZ b⟩]
 rfl
noncomputable def fP.E:=Entry.cq [some tu,some tu] fP.st fP.aC fP.add fP.F fP.out
noncomputable def fP.call:fP.D→Option fP.X:=bT fP.E fP.st
theorem fP.run:bK fP.call fP.aC fP.add fP.F:=dh (de [.d tu,.d tu] fun _=>by kernel_rfl)
noncomputable def fP.sg:SG Tryz.prog:=⟨196,aY,fP.E,.fn 0 (by kernel_rfl) fP.ok trivial⟩
abbrev fE.D:=Int×Int
def fE.st:fE.D→SA:=fun(a,b)=>([.d tu a,.d tu b],[])
abbrev fE.Y:=Int
abbrev fE.X:=Int
def fE.out:fE.X→bk:=fun x=>⟨.d tu x,[],[]⟩
def fE.add:fE.D→fE.Y→fE.X:=fun(a,b) y=>y
def fE.aC:fE.D→Prop:=fun(a,b)=>jd a∧jd b
def fE.F:fE.D→fE.Y:=fun(a,b)=>wW a b
noncomputable def fE.G:dZ:=fh (P:=Tryz.prog) [ja.sg,du.sg]
noncomputable def fE.an:eO:= {}
noncomputable def fE.A:= @cZ Tryz.prog fE.G fE.an 0 Tryz.f197 _ fE.st
abbrev fE.Ok:=da @fE.A fE.aC fE.add fE.F fE.out
theorem fE.eq{R:Type}(a:Int)(b:Int)(k:bk→Option R):fE.A (a,b) k=
 ah (ja.call a) fun x1=>
 ah (ja.call b) fun x2=>
 ah (du.call (x1,x2)) fun x3=>
 k (fE.out x3):=by kernel_rfl
theorem fE.ok:fE.Ok:=by
 rintro⟨a,b⟩ ⟨ha,hb⟩
 rw[fE.eq,ja.run (d:=a) ha,ja.run (d:=b) hb]
 simp only[aa,ja.add,ja.F]
 rw[du.run (d:=(Dx a,Dx b)) ⟨wZ a,wZ b⟩]
 rfl
noncomputable def fE.E:=Entry.cq [some tu,some tu] fE.st fE.aC fE.add fE.F fE.out
noncomputable def fE.call:fE.D→Option fE.X:=bT fE.E fE.st
theorem fE.run:bK fE.call fE.aC fE.add fE.F:=dh (de [.d tu,.d tu] fun _=>by kernel_rfl)
noncomputable def fE.sg:SG Tryz.prog:=⟨197,aY,fE.E,.fn 0 (by kernel_rfl) fE.ok trivial⟩
abbrev bJ.L0.D:=Int×Bs×Int
def bJ.L0.st:bJ.L0.D→AS:=fun(n,t6,t7)=>⟨([.undef,.undef,.undef,.d tu n,.undef,.undef,.d tH t6,.d ti t7]++ba 13 []),[],(List.replicate 21 [])⟩
abbrev bJ.L0.Y0:=Int
abbrev bJ.L0.X0:=Int
def bJ.L0.bj:bJ.L0.X0→Exit×AS:=fun x=>(.exit 0,⟨([.undef,.undef,.undef,.d tu x]++ba 17 []),[],(List.replicate 21 [])⟩)
abbrev bJ.L0.X:=bJ.L0.X0
abbrev bJ.L0.Y:=bJ.L0.Y0
def bJ.L0.out:bJ.L0.X→Out (Exit×AS):=fun x=> .ok (bJ.L0.bj x)
def bJ.L0.add:bJ.L0.D→bJ.L0.Y→bJ.L0.X:=fun(n,t6,t7) y=>y
abbrev bJ.D:=Bs
def bJ.st:bJ.D→SA:=fun h=>([.d tH h],[])
abbrev bJ.Y:=Int
abbrev bJ.X:=Int
def bJ.out:bJ.X→bk:=fun x=>⟨.d tu x,[],[]⟩
def bJ.add:bJ.D→bJ.Y→bJ.X:=fun h y=>y
def bJ.L0.aC:bJ.L0.D→Prop:=fun(n,h,i)=>Co.b n∧h.length=32∧Bytes h∧∃k:Nat,k≤32∧i=k
def bJ.L0.F:bJ.L0.D→bJ.L0.Y:=fun(n,h,i)=>(h.drop i.toNat).foldl (fun n b=>(n*256+b)%2305843009213688668) n
def bJ.aC:bJ.D→Prop:=fun h=>h.length=32∧Bytes h
def bJ.F:bJ.D→bJ.Y:=fun h=>qg h
noncomputable def bJ.G:dZ:=fh (P:=Tryz.prog) [dz.sg]
noncomputable def bJ.L0.E:=bP.cq bJ.L0.st bJ.L0.aC bJ.L0.add bJ.L0.F bJ.L0.out
noncomputable def bJ.L0.call:bJ.L0.D→Option bJ.L0.X:=cX bJ.L0.E bJ.L0.st
noncomputable def bJ.an:eO:= {loops:=j7 [(3,{bm:=[3,6,7]})],outs:=j6 [(3,{bm:=[3]},{bm:=[2]})],fJ:=kW [(3,bJ.L0.E)]}
noncomputable def bJ.A:= @cZ Tryz.prog bJ.G bJ.an 0 Tryz.f136 _ bJ.st
abbrev bJ.Ok:=da @bJ.A bJ.aC bJ.add bJ.F bJ.out
noncomputable def bJ.L0.R:= @bX Tryz.prog bJ.G bJ.an 0 Tryz.f136 0 _ bJ.L0.st
abbrev bJ.L0.Ok:=ej Tryz.prog bJ.G bJ.an 0 Tryz.f136 0 bJ.L0.st bJ.L0.aC bJ.L0.add bJ.L0.F bJ.L0.out
theorem bJ.L0.run:bK bJ.L0.call bJ.L0.aC bJ.L0.add bJ.L0.F:=eG (eC [.d tu,.d tB,.d ti] fun _=>by kernel_rfl)
theorem bJ.L0.aD:fN @bJ.L0.R bJ.L0.st bJ.L0.aC bJ.L0.add bJ.L0.F bJ.L0.bj bJ.L0.Ok:=fU
theorem bJ.L0.step{R:Type}(n:Int)(t6:Bs)(t7:Int)(kn:AS→Option R)(kx:Exit→AS→Option R):bJ.L0.R (n,t6,t7) kn kx=
  aJ ((fX t7 (32:Int))) (
   aJ (eJ t7 (32:Int)) (
   ah (dz.call ((bV .u64 n (56:Int)),(cC .or .u64 (gS .u64 n (8:Int)) (dM .u64 (nth tb t6 (Int.toNat t7)))),(2305843009213688668:Int))) fun x1=>
   kn (bJ.L0.st (x1,t6,(bN .i64 t7 (1:Int))))) none) (
   kx (bJ.L0.bj n).1 (bJ.L0.bj n).2):=by kernel_rfl
theorem bJ.eq{R:Type}(h:Bs)(k:bk→Option R):bJ.A h k=
 ah (bJ.L0.call ((0:Int),h,(0:Int))) fun x2=>
 k (bJ.out (bN .u64 x2 (1:Int))):=by kernel_rfl
theorem rY{n b:Int}(hn:Co.b n)(hb:xo b):bV .u64 n 56*18446744073709551616+cC .or .u64 (gS .u64 n 8) (dM .u64 b)=n*256+b∧jd (bV .u64 n 56)∧jd (cC .or .u64 (gS .u64 n 8) (dM .u64 b)):=by
 obtain⟨h1,h2⟩:=hn
 obtain⟨h3,h4⟩:=hb
 have p56:(2:Int)^56=72057594037927936:=rfl
 have p8:(2:Int)^8=256:=rfl
 have e:dM .u64 b=b:=by rw[C8];omega
 rw[kF 56 (by rfl) (by omega),kE 8 (by rfl) (by omega),p56,p8,e,qB 8 256 rfl (by omega) (by omega) (by omega) (by omega) (by omega) (by omega)]
 exact⟨by omega,⟨by omega,by omega⟩,by omega,by omega⟩
theorem bJ.L0.ok:bJ.L0.Ok:=by
 refine bJ.L0.aD (fun(n,h,i)=>32 - i.toNat) ?_
 rintro⟨n,h,i⟩ ⟨hn,hl,hb,k,hk,rfl⟩
 have hn:Co.b n:=hn
 have hl:h.length=32:=hl
 have hb:Bytes h:=hb
 by_cases hlt:k < 32
 ·left
  have hx:xo (h[k]'(by omega)):=hb _ (List.getElem_mem _)
  have n1:nth (.int .u8) h k=h[k]'(by omega):=cm (t:= .int .u8) (by omega)
  obtain⟨d1,d2,d3⟩:=rY hn hx
  refine⟨((n*256+h[k]'(by omega))%2305843009213688668,h,((k+1:Nat):Int)),⟨⟨by omega,by omega⟩,hl,hb,k+1,by omega,rfl⟩,by simp only[Int.toNat_natCast];omega,?_,fun kn kx=> ?_⟩
  ·simp only[bJ.L0.add,bJ.L0.F,Int.toNat_natCast]
   rw[List.drop_eq_getElem_cons (by omega:k < h.length)]
   rfl
  ·rw[bJ.L0.step]
   simp(disch:=omega) only[↓S1,↓if_pos,↓if_neg,if_pos,if_neg,if_true,if_false,S2,n1]
   rw[dz.run (d:=(_,_,2305843009213688668)) ⟨Or.inr (Or.inr rfl),d2.1,d2.2,d3.1,d3.2⟩]
   simp only[aa,dz.add,dz.F,d1]
 ·right
  obtain rfl:k=32:=by omega
  intro R kn kx
  rw[bJ.L0.step]
  simp(disch:=omega) only[↓S1,↓if_pos,↓if_neg,if_pos,if_neg,if_true,if_false,S2,bJ.L0.add,bJ.L0.F]
  rw[List.drop_of_length_le (by omega)]
  rfl
theorem bJ.ok:bJ.Ok:=by
 rintro h ⟨hl,hb⟩
 have e:=yc h 0 ⟨by omega,by omega⟩
 have h1:=e.1
 have h2:=e.2
 rw[bJ.eq,bJ.L0.run (d:=(0,h,0)) ⟨⟨by omega,by omega⟩,hl,hb,0,by omega,rfl⟩]
 simp only[aa,bJ.L0.add,bJ.L0.F,bJ.add,bJ.F,qg,Int.toNat_zero,List.drop_zero]
 revert h1 h2
 generalize h.foldl (fun n b=>(n*256+b)%2305843009213688668) 0=m
 intro h1 h2
 have e:bN .u64 m 1=m+1:=by rw[lD];omega
 rw[e]
noncomputable def bJ.E:=Entry.cq [some tH] bJ.st bJ.aC bJ.add bJ.F bJ.out
noncomputable def bJ.call:bJ.D→Option bJ.X:=bT bJ.E bJ.st
theorem bJ.run:bK bJ.call bJ.aC bJ.add bJ.F:=dh (de [.d tB] fun _=>by kernel_rfl)
noncomputable def bJ.sg:SG Tryz.prog:=⟨136,aY,bJ.E,.fn 1 (by kernel_rfl) bJ.ok (And.intro (.cq bJ.L0.ok (by kernel_rfl)) trivial)⟩
set_option synthInstance.maxSize 5000
theorem xG(n:Int): [dM .u8 (bV .u64 n 56),dM .u8 (bV .u64 n 48),dM .u8 (bV .u64 n 40),dM .u8 (bV .u64 n 32),dM .u8 (bV .u64 n 24),dM .u8 (bV .u64 n 16),dM .u8 (bV .u64 n 8),dM .u8 (bV .u64 n 0)]=ik n:=zr n
theorem fc{α:Type}{l:List α}{n:Nat}(h:l.length=n):cut l 0 n=l:=by subst h;simp[cut]
theorem D7{n:ByteArray}{a b c:List Int}(hn:n.size≤100)(ha:a.length≤1000000)(hb:b.length≤1000000)(hc:c.length≤1000000):ck.aC (n,[a,b,c]):=by
 show(rQ _ [a,b,c]).length≤_
 rw[rQ]
 simp only[iD,List.flatMap_cons,List.flatMap_nil,List.length_append,bY,gH,List.length_nil]
 omega
theorem D6{n:ByteArray}{a b:List Int}(hn:n.size≤100)(ha:a.length≤1000000)(hb:b.length≤1000000):ck.aC (n,[a,b]):=by
 show(rQ _ [a,b]).length≤_
 rw[rQ]
 simp only[iD,List.flatMap_cons,List.flatMap_nil,List.length_append,bY,gH,List.length_nil]
 omega
theorem D5{n:ByteArray}{a:List Int}(hn:n.size≤100)(ha:a.length≤1000000):ck.aC (n,[a]):=by
 show(rQ _ [a]).length≤_
 rw[rQ]
 simp only[iD,List.flatMap_cons,List.flatMap_nil,List.length_append,bY,gH,List.length_nil]
 omega
def Sm(m:List Int):Prop:=m.length=32∧Bytes m
theorem GJ(b:List Int):Sm (GC b):=⟨Ah b,Bw b⟩
theorem Aj(n:List Int)(ps:List (List Int)):Sm (tag n ps):=GJ _
def D4(n:ByteArray)(ps:List (List Int)):List Int:=tag (bA n) ps
def HE:ByteArray:=⟨#[115,105,103]⟩
def zW:ByteArray:=⟨#[110,111,110,99,101]⟩
def nI(r p:Int)(m:List Int):Int:=qg (D4 HE [ik r,ik p,m])
theorem s9(r p:Int)(m:List Int):Qn (nI r p m):=by
 have:=tp (D4 HE [ik r,ik p,m])
 exact⟨by unfold nI;omega,by unfold nI;omega⟩
def FP(s:Sg):Prop:=jd s.1∧jd s.2.1
def lQ(p:Int)(m:List Int)(t:Int)(s:Sg):Bool:=
 if p=1∨mA p=false∨mA t=false∨mA s.1=false∨¬s.2.1 < 2305843009213688669 then false
 else decide (fb s.2.1=sI [s.1,nC p (nI s.1 p m),yB t])
def wi(k nonce:Int)(m:List Int)(t:Int):Sg:=
 (sI [fb nonce,t],zm nonce (wW (nI (sI [fb nonce,t]) (fb k) m) k),())
def Dw(k:Int)(m:List Int):Int:=qg (D4 zW [ik k,m])
def im(k:Int)(m:List Int):Sg:=if k < 2305843009213688669∧k≠0 then wi k (Dw k m) m 1 else(0,0,())
abbrev cV.D:=Int
def cV.st:cV.D→SA:=fun n=>([.d tu n],[])
abbrev cV.Y:=Bs
abbrev cV.X:=Bs
def cV.out:cV.X→bk:=fun x=>⟨.d tB x,[],[]⟩
def cV.add:cV.D→cV.Y→cV.X:=fun n y=>y
def cV.aC:cV.D→Prop:=fun _=>True
def cV.F:cV.D→cV.Y:=fun n=>ik n
noncomputable def cV.G:dZ:=fh (P:=Tryz.prog) []
noncomputable def cV.an:eO:= {loops:=j7 [(3,{bm:=[0,3,7,8],sites:=[5]})],outs:=j6 [(3,{bm:=[3],sites:=[5]},{bm:=[2],sites:=[5]})],res:=[some tB]}
noncomputable def cV.A:= @cZ Tryz.prog cV.G cV.an 12 Tryz.f137 _ cV.st
abbrev cV.Ok:=da @cV.A cV.aC cV.add cV.F cV.out
theorem cV.eq{R:Type}(n:Int)(k:bk→Option R):cV.A n k=
 k (cV.out [(dM .u8 (bV .u64 n (56:Int))),(dM .u8 (bV .u64 n (48:Int))),(dM .u8 (bV .u64 n (40:Int))),(dM .u8 (bV .u64 n (32:Int))),(dM .u8 (bV .u64 n (24:Int))),(dM .u8 (bV .u64 n (16:Int))),(dM .u8 (bV .u64 n (8:Int))),(dM .u8 (bV .u64 n (0:Int)))]):=by kernel_rfl
theorem cV.ok:cV.Ok:=by
 intro n _
 rw[cV.eq,xG]
 rfl
noncomputable def cV.E:=Entry.cq [some tu] cV.st cV.aC cV.add cV.F cV.out
noncomputable def cV.call:cV.D→Option cV.X:=bT cV.E cV.st
theorem cV.run:bK cV.call cV.aC cV.add cV.F:=dh (de [.d tu] fun _=>by kernel_rfl)
noncomputable def cV.sg:SG Tryz.prog:=⟨137,aY,cV.E,.fn 1 (by kernel_rfl) cV.ok (And.intro (.none (by kernel_rfl)) trivial)⟩
abbrev dP.D:=Int×Int×Bs
def dP.st:dP.D→SA:=fun(r,p,m)=>([.d tu r,.d tu p,.d tH m],[])
abbrev dP.Y:=Int
abbrev dP.X:=Int
def dP.out:dP.X→bk:=fun x=>⟨.d tu x,[],[]⟩
def dP.add:dP.D→dP.Y→dP.X:=fun(r,p,m) y=>y
def dP.aC:dP.D→Prop:=fun(r,p,m)=>Sm m
def dP.F:dP.D→dP.Y:=fun(r,p,m)=>nI r p m
noncomputable def dP.G:dZ:=fh (P:=Tryz.prog) [cV.sg,ck.sg,bJ.sg]
noncomputable def dP.an:eO:= {}
noncomputable def dP.A:= @cZ Tryz.prog dP.G dP.an 0 Tryz.f198 _ dP.st
abbrev dP.Ok:=da @dP.A dP.aC dP.add dP.F dP.out
theorem dP.eq{R:Type}(r:Int)(p:Int)(m:Bs)(k:bk→Option R):dP.A (r,p,m) k=
 ah (cV.call r) fun x1=>
 ah (cV.call p) fun x2=>
 ah (ck.call ((⟨#[115,105,103]⟩:ByteArray),[x1,x2,(cut m 0 32)])) fun x3=>
 ah (bJ.call x3) fun x4=>
 k (dP.out x4):=by kernel_rfl
theorem dP.ok:dP.Ok:=by
 rintro⟨r,p,m⟩ hm
 have hm:Sm m:=hm
 rw[dP.eq,cV.run (d:=r) trivial,cV.run (d:=p) trivial]
 simp only[aa,cV.add,cV.F]
 rw[fc hm.1,ck.run (D7 (by decide) (by rw[bY];omega) (by rw[bY];omega) (by rw[hm.1];omega))]
 simp only[aa,ck.add,ck.F]
 rw[bJ.run (d:=tag (bA (⟨#[115,105,103]⟩:ByteArray)) [ik r,ik p,m]) (Aj _ _)]
 rfl
noncomputable def dP.E:=Entry.cq [some tu,some tu,some tH] dP.st dP.aC dP.add dP.F dP.out
noncomputable def dP.call:dP.D→Option dP.X:=bT dP.E dP.st
theorem dP.run:bK dP.call dP.aC dP.add dP.F:=dh (de [.d tu,.d tu,.d tB] fun _=>by kernel_rfl)
noncomputable def dP.sg:SG Tryz.prog:=⟨198,aY,dP.E,.fn 0 (by kernel_rfl) dP.ok trivial⟩
abbrev ch.D:=Int×Bs×Int×Sg
def ch.st:ch.D→SA:=fun(p,m,t,pre)=>([.d tu p,.d tH m,.d tu t,.d nP pre],[])
abbrev ch.Y:=Bool
abbrev ch.X:=Bool
def ch.out:ch.X→bk:=fun x=>⟨.d .bool x,[],[]⟩
def ch.add:ch.D→ch.Y→ch.X:=fun(p,m,t,pre) y=>y
def ch.aC:ch.D→Prop:=fun(p,m,t,s)=>jd p∧Sm m∧jd t∧FP s
def ch.F:ch.D→ch.Y:=fun(p,m,t,s)=>lQ p m t s
noncomputable def ch.G:dZ:=fh (P:=Tryz.prog) [cr.sg,cQ.sg,dP.sg,dm.sg,fH.sg,cP.sg,dw.sg]
noncomputable def ch.an:eO:= {}
noncomputable def ch.A:= @cZ Tryz.prog ch.G ch.an 0 Tryz.f216 _ ch.st
abbrev ch.Ok:=da @ch.A ch.aC ch.add ch.F ch.out
theorem ch.eq{R:Type}(p:Int)(m:Bs)(t:Int)(pre:Sg)(k:bk→Option R):ch.A (p,m,t,pre) k=
  aJ ((jB p (1:Int))) (
   k (ch.out false)) (
   ah (cr.call p) fun x1=>
   aJ ((!x1)) (
    k (ch.out false)) (
    ah (cr.call t) fun x2=>
    aJ ((!x2)) (
     k (ch.out false)) (
     ah (cr.call pre.1) fun x3=>
     aJ ((!x3)) (
      k (ch.out false)) (
      ah (cQ.call pre.2.1) fun x4=>
      aJ ((!x4)) (
       k (ch.out false)) (
       ah (dP.call (pre.1,p,m)) fun x5=>
       ah (dm.call (p,x5)) fun x6=>
       ah (fH.call t) fun x7=>
       ah (cP.call [pre.1,x6,x7]) fun x8=>
       ah (dw.call pre.2.1) fun x9=>
       k (ch.out (jB x9 x8))))))):=by kernel_rfl
theorem ch.ok:ch.Ok:=by
 rintro⟨p,m,t,s⟩ ⟨hp,hm,ht,hs⟩
 have hp:jd p:=hp
 have ht:jd t:=ht
 have hm:Sm m:=hm
 have hs:FP s:=hs
 rw[ch.eq,cr.run (d:=p) hp,cr.run (d:=t) ht,cr.run (d:=s.1) hs.1,cQ.run (d:=s.2.1) trivial]
 simp only[aa,cr.add,cr.F,cQ.add,cQ.F,ch.add,ch.F,lQ]
 by_cases h1:p=1
 ·rw[il h1,ag,if_pos (Or.inl h1)]
 rw[iR h1,ai]
 cases h2:mA p
 ·rw[if_pos (Or.inr (Or.inl rfl))];rfl
 cases h3:mA t
 ·rw[if_pos (Or.inr (Or.inr (Or.inl rfl)))];rfl
 cases h4:mA s.1
 ·rw[if_pos (Or.inr (Or.inr (Or.inr (Or.inl rfl))))];rfl
 by_cases h5:s.2.1 < 2305843009213688669
 ·rw[bq h5,if_neg (by simp[h1,h5])]
  have hq:=s9 s.1 p m
  rw[dP.run (d:=(s.1,p,m)) hm]
  simp only[Bool.not_true,ai,aa,dP.add,dP.F]
  rw[dm.run (d:=(p,nI s.1 p m)) ⟨hp,hq.u⟩,fH.run (d:=t) ht]
  simp only[aa,dm.add,dm.F,fH.add,fH.F]
  have q:cP.aC [s.1,nC p (nI s.1 p m),yB t]:=⟨by
   intro x hx
   simp only[List.mem_cons,List.not_mem_nil,or_false]at hx
   rcases hx with rfl | rfl | rfl
   ·exact hs.1
   ·exact(yS _ _).u
   ·exact(yS _ _).u,by simp only[List.length_cons,List.length_nil];omega⟩
  rw[cP.run q,dw.run (d:=s.2.1) hs.2]
  rfl
 ·rw[bg h5,if_pos (Or.inr (Or.inr (Or.inr (Or.inr h5))))];rfl
noncomputable def ch.E:=Entry.cq [some tu,some tH,some tu,some nP] ch.st ch.aC ch.add ch.F ch.out
noncomputable def ch.call:ch.D→Option ch.X:=bT ch.E ch.st
theorem ch.run:bK ch.call ch.aC ch.add ch.F:=dh (de [.d tu,.d tB,.d tu,.d nP] fun _=>by kernel_rfl)
noncomputable def ch.sg:SG Tryz.prog:=⟨216,aY,ch.E,.fn 0 (by kernel_rfl) ch.ok trivial⟩
abbrev cE.D:=Int×Bs×Sg
def cE.st:cE.D→SA:=fun(p,m,sv)=>([.d tu p,.d tH m,.d nP sv],[])
abbrev cE.Y:=Bool
abbrev cE.X:=Bool
def cE.out:cE.X→bk:=fun x=>⟨.d .bool x,[],[]⟩
def cE.add:cE.D→cE.Y→cE.X:=fun(p,m,sv) y=>y
def cE.aC:cE.D→Prop:=fun(p,m,s)=>jd p∧Sm m∧FP s
def cE.F:cE.D→cE.Y:=fun(p,m,s)=>lQ p m 1 s
noncomputable def cE.G:dZ:=fh (P:=Tryz.prog) [ch.sg]
noncomputable def cE.an:eO:= {}
noncomputable def cE.A:= @cZ Tryz.prog cE.G cE.an 0 Tryz.f158 _ cE.st
abbrev cE.Ok:=da @cE.A cE.aC cE.add cE.F cE.out
theorem cE.eq{R:Type}(p:Int)(m:Bs)(sv:Sg)(k:bk→Option R):cE.A (p,m,sv) k=
 ah (ch.call (p,m,(1:Int),sv)) fun x1=>
 k (cE.out x1):=by kernel_rfl
theorem cE.ok:cE.Ok:=by
 rintro⟨p,m,s⟩ ⟨hp,hm,hs⟩
 rw[cE.eq,ch.run (d:=(p,m,1,s)) ⟨hp,hm,⟨by omega,by omega⟩,hs⟩]
 rfl
noncomputable def cE.E:=Entry.cq [some tu,some tH,some nP] cE.st cE.aC cE.add cE.F cE.out
noncomputable def cE.call:cE.D→Option cE.X:=bT cE.E cE.st
theorem cE.run:bK cE.call cE.aC cE.add cE.F:=dh (de [.d tu,.d tB,.d nP] fun _=>by kernel_rfl)
noncomputable def cE.sg:SG Tryz.prog:=⟨158,aY,cE.E,.fn 0 (by kernel_rfl) cE.ok trivial⟩
abbrev fx.D:=Int
def fx.st:fx.D→SA:=fun kv=>([.d tu kv],[])
abbrev fx.Y:=Bool
abbrev fx.X:=Bool
def fx.out:fx.X→bk:=fun x=>⟨.d .bool x,[],[]⟩
def fx.add:fx.D→fx.Y→fx.X:=fun kv y=>y
def fx.aC:fx.D→Prop:=fun _=>True
def fx.F:fx.D→fx.Y:=fun k=>decide (k < 2305843009213688669∧k≠0)
noncomputable def fx.G:dZ:=fh (P:=Tryz.prog) [cQ.sg]
noncomputable def fx.an:eO:= {}
noncomputable def fx.A:= @cZ Tryz.prog fx.G fx.an 0 Tryz.f134 _ fx.st
abbrev fx.Ok:=da @fx.A fx.aC fx.add fx.F fx.out
theorem fx.eq{R:Type}(kv:Int)(k:bk→Option R):fx.A kv k=
  ah (cQ.call kv) fun x1=>
  aJ (x1) (
   k (fx.out (jO kv (0:Int)))) (
   k (fx.out false)):=by kernel_rfl
theorem fx.ok:fx.Ok:=by
 intro k _
 rw[fx.eq,cQ.run (d:=k) trivial]
 simp only[aa,cQ.add,cQ.F,fx.add,fx.F]
 by_cases h:k < 2305843009213688669
 ·rw[bq h,ag]
  by_cases h0:k=0
  ·rw[bU h0,bz (fun x=>x.2 h0)]
  ·rw[dO h0,aX ⟨h,h0⟩]
 ·rw[bg h,ai,bz (fun x=>h x.1)]
noncomputable def fx.E:=Entry.cq [some tu] fx.st fx.aC fx.add fx.F fx.out
noncomputable def fx.call:fx.D→Option fx.X:=bT fx.E fx.st
theorem fx.run:bK fx.call fx.aC fx.add fx.F:=dh (de [.d tu] fun _=>by kernel_rfl)
noncomputable def fx.sg:SG Tryz.prog:=⟨134,aY,fx.E,.fn 0 (by kernel_rfl) fx.ok trivial⟩
abbrev cM.D:=Int×Int×Bs×Int
def cM.st:cM.D→SA:=fun(kv,nonce,m,t)=>([.d tu kv,.d tu nonce,.d tH m,.d tu t],[])
abbrev cM.Y:=Sg
abbrev cM.X:=Sg
def cM.out:cM.X→bk:=fun x=>⟨.d nP x,[],[]⟩
def cM.add:cM.D→cM.Y→cM.X:=fun(kv,nonce,m,t) y=>y
def cM.aC:cM.D→Prop:=fun(k,n,m,t)=>jd k∧jd n∧Sm m∧jd t
def cM.F:cM.D→cM.Y:=fun(k,n,m,t)=>wi k n m t
noncomputable def cM.G:dZ:=fh (P:=Tryz.prog) [dw.sg,fG.sg,dP.sg,fE.sg,fP.sg]
noncomputable def cM.an:eO:= {}
noncomputable def cM.A:= @cZ Tryz.prog cM.G cM.an 0 Tryz.f135 _ cM.st
abbrev cM.Ok:=da @cM.A cM.aC cM.add cM.F cM.out
theorem cM.eq{R:Type}(kv:Int)(nonce:Int)(m:Bs)(t:Int)(k:bk→Option R):cM.A (kv,nonce,m,t) k=
 ah (dw.call nonce) fun x1=>
 ah (fG.call (x1,t)) fun x2=>
 ah (dw.call kv) fun x3=>
 ah (dP.call (x2,x3,m)) fun x4=>
 ah (fE.call (x4,kv)) fun x5=>
 ah (fP.call (nonce,x5)) fun x6=>
 k (cM.out (x2,(x6,()))):=by kernel_rfl
theorem cM.ok:cM.Ok:=by
 rintro⟨k,n,m,t⟩ ⟨hk,hn,hm,ht⟩
 have hk:jd k:=hk
 have hn:jd n:=hn
 have hm:Sm m:=hm
 have ht:jd t:=ht
 rw[cM.eq,dw.run (d:=n) hn]
 simp only[aa,dw.add,dw.F]
 rw[fG.run (d:=(fb n,t)) ⟨(yS _ _).u,ht⟩,dw.run (d:=k) hk]
 simp only[aa,dw.add,dw.F,fG.add,fG.F]
 rw[dP.run (d:=(sI [fb n,t],fb k,m)) hm]
 simp only[aa,dP.add,dP.F]
 rw[fE.run (d:=(nI (sI [fb n,t]) (fb k) m,k)) ⟨(s9 _ _ _).u,hk⟩]
 simp only[aa,fE.add,fE.F]
 rw[fP.run (d:=(n,wW (nI (sI [fb n,t]) (fb k) m) k)) ⟨hn,(EZ _ _).u⟩]
 rfl
noncomputable def cM.E:=Entry.cq [some tu,some tu,some tH,some tu] cM.st cM.aC cM.add cM.F cM.out
noncomputable def cM.call:cM.D→Option cM.X:=bT cM.E cM.st
theorem cM.run:bK cM.call cM.aC cM.add cM.F:=dh (de [.d tu,.d tu,.d tB,.d tu] fun _=>by kernel_rfl)
noncomputable def cM.sg:SG Tryz.prog:=⟨135,aY,cM.E,.fn 0 (by kernel_rfl) cM.ok trivial⟩
abbrev dY.D:=Int×Bs
def dY.st:dY.D→SA:=fun(kv,m)=>([.d tu kv,.d tH m],[])
abbrev dY.Y:=Sg
abbrev dY.X:=Sg
def dY.out:dY.X→bk:=fun x=>⟨.d nP x,[],[]⟩
def dY.add:dY.D→dY.Y→dY.X:=fun(kv,m) y=>y
def dY.aC:dY.D→Prop:=fun(k,m)=>jd k∧Sm m
def dY.F:dY.D→dY.Y:=fun(k,m)=>im k m
noncomputable def dY.G:dZ:=fh (P:=Tryz.prog) [fx.sg,cV.sg,ck.sg,bJ.sg,cM.sg]
noncomputable def dY.an:eO:= {}
noncomputable def dY.A:= @cZ Tryz.prog dY.G dY.an 0 Tryz.f69 _ dY.st
abbrev dY.Ok:=da @dY.A dY.aC dY.add dY.F dY.out
theorem dY.eq{R:Type}(kv:Int)(m:Bs)(k:bk→Option R):dY.A (kv,m) k=
  ah (fx.call kv) fun x1=>
  aJ ((!x1)) (
   k (dY.out ((0:Int),((0:Int),())))) (
   ah (cV.call kv) fun x2=>
   ah (ck.call ((⟨#[110,111,110,99,101]⟩:ByteArray),[x2,(cut m 0 32)])) fun x3=>
   ah (bJ.call x3) fun x4=>
   ah (cM.call (kv,x4,m,(1:Int))) fun x5=>
   k (dY.out x5)):=by kernel_rfl
theorem dY.ok:dY.Ok:=by
 rintro⟨k,m⟩ ⟨hk,hm⟩
 have hk:jd k:=hk
 have hm:Sm m:=hm
 rw[dY.eq,fx.run (d:=k) trivial]
 simp only[aa,fx.add,fx.F,dY.add,dY.F,im]
 by_cases h:k < 2305843009213688669∧k≠0
 ·rw[aX h,if_pos h,cV.run (d:=k) trivial,fc hm.1]
  simp only[Bool.not_true,ai,aa,cV.add,cV.F]
  rw[ck.run (D6 (by decide) (by rw[bY];omega) (by rw[hm.1];omega))]
  simp only[aa,ck.add,ck.F]
  rw[bJ.run (d:=tag (bA (⟨#[110,111,110,99,101]⟩:ByteArray)) [ik k,m]) (Aj _ _)]
  simp only[aa,bJ.add,bJ.F]
  have q:=tp (tag (bA (⟨#[110,111,110,99,101]⟩:ByteArray)) [ik k,m])
  rw[cM.run (d:=(k,qg (tag (bA (⟨#[110,111,110,99,101]⟩:ByteArray)) [ik k,m]),m,1)) ⟨hk,⟨by omega,by omega⟩,hm,by omega,by omega⟩]
  rfl
 ·rw[bz h,if_neg h];rfl
noncomputable def dY.E:=Entry.cq [some tu,some tH] dY.st dY.aC dY.add dY.F dY.out
noncomputable def dY.call:dY.D→Option dY.X:=bT dY.E dY.st
theorem dY.run:bK dY.call dY.aC dY.add dY.F:=dh (de [.d tu,.d tB] fun _=>by kernel_rfl)
noncomputable def dY.sg:SG Tryz.prog:=⟨69,aY,dY.E,.fn 0 (by kernel_rfl) dY.ok trivial⟩
set_option synthInstance.maxSize 5000
def nG(l:List Int):Prop:=∀x∈l,jd x
def GX(b:iA):Prop:=nG b.1∧jd b.2.2.2.1
def Cm(l:Lk):Prop:=∀b∈l.1,GX b
def sC(n:Int):Bool:=decide (0≤n∧n≤1048576)
def o3(b:iA):Bool:=decide (b.1.length≤12) && (b.1.all mA && (sC b.2.1 && (sC b.2.2.1 && (decide (b.2.2.2.1=0) || mA b.2.2.2.1))))
def jJ(l:Lk):Bool:=l.1.all o3 && decide (0 < l.1.length∧l.1.length≤4)
def lz:List Int→Int→Int⊕Unit
 |[],_=> .inr ()
 |p::ps,i=>if mA p then lz ps (i+1) else .inl i
def Az(l:List Int):Int:=match lz l 0 with | .inl i=>i | .inr _=> -1
theorem rV:∀(l:List Int) (i:Int),0≤i→(match lz l i with | .inl i=>decide (i≥0) | .inr _=>false)= !(l.all mA)
 |[],_,_=>rfl
 |p::ps,i,h=>by
  rw[lz,List.all_cons]
  cases hp:mA p
  ·simp[h]
  ·simp only[if_true,Bool.true_and]
   exact rV ps (i+1) (by omega)
theorem Bp(l:List Int):nS (Az l) 0= !(l.all mA):=by
 have:=rV l 0 (by omega)
 unfold Az nS
 cases h:lz l 0
 ·rw[h]at this;exact this
 ·rw[h]at this;rw[←this];rfl
abbrev fj.D:=Int
def fj.st:fj.D→SA:=fun p=>([.d tu p],[])
abbrev fj.Y:=Bool
abbrev fj.X:=Bool
def fj.out:fj.X→bk:=fun x=>⟨.d .bool x,[],[]⟩
def fj.add:fj.D→fj.Y→fj.X:=fun p y=>y
def fj.aC:fj.D→Prop:=fun p=>jd p
def fj.F:fj.D→fj.Y:=fun p=> !mA p
noncomputable def fj.G:dZ:=fh (P:=Tryz.prog) [cr.sg]
noncomputable def fj.an:eO:= {}
noncomputable def fj.A:= @cZ Tryz.prog fj.G fj.an 0 Tryz.f150 _ fj.st
abbrev fj.Ok:=da @fj.A fj.aC fj.add fj.F fj.out
theorem fj.eq{R:Type}(p:Int)(k:bk→Option R):fj.A p k=
 ah (cr.call p) fun x1=>
 k (fj.out (!x1)):=by kernel_rfl
theorem fj.ok:fj.Ok:=by
 intro p hp
 rw[fj.eq,cr.run (d:=p) hp]
 rfl
noncomputable def fj.E:=Entry.cq [some tu] fj.st fj.aC fj.add fj.F fj.out
noncomputable def fj.call:fj.D→Option fj.X:=bT fj.E fj.st
theorem fj.run:bK fj.call fj.aC fj.add fj.F:=dh (de [.d tu] fun _=>by kernel_rfl)
noncomputable def fj.sg:SG Tryz.prog:=⟨150,aY,fj.E,.fn 0 (by kernel_rfl) fj.ok trivial⟩
abbrev aZ.L0.D:=Bs×Int×Int
def aZ.L0.st:aZ.L0.D→AS:=fun(sv_2,t7,t8)=>⟨([.d tU sv_2,.fn 150 (.nil)]++ba 5 ([.d ti t7,.d ti t8]++ba 10 [])),[],(List.replicate 19 [])⟩
abbrev aZ.L0.Y0:=Int
abbrev aZ.L0.X0:=Int
def aZ.L0.bj:aZ.L0.X0→Exit×AS:=fun x=>(.ret,⟨(ba 4 ([.d ti x]++ba 14 [])),[],(List.replicate 19 [])⟩)
abbrev aZ.L0.Y1:=Unit
abbrev aZ.L0.X1:=Unit
def aZ.L0.e7:aZ.L0.X1→Exit×AS:=fun x=>(.exit 0,⟨(ba 19 []),[],(List.replicate 19 [])⟩)
abbrev aZ.L0.X:=(aZ.L0.X0)⊕(aZ.L0.X1)
abbrev aZ.L0.Y:=(aZ.L0.Y0)⊕(aZ.L0.Y1)
def aZ.L0.out:aZ.L0.X→Out (Exit×AS):=fun x=> .br x.isLeft (.get x.getLeft? fun a=> .ok (aZ.L0.bj a)) (.get x.getRight? fun b=> .ok (aZ.L0.e7 b))
def aZ.L0.add:aZ.L0.D→aZ.L0.Y→aZ.L0.X:=fun(sv_2,t7,t8) y=>match y with | .inl y=> .inl y | .inr z=> .inr (z)
abbrev aZ.D:=Bs
def aZ.st:aZ.D→SA:=fun sv=>([.d tU sv,.fn 150 (.nil)],[])
abbrev aZ.Y:=Int
abbrev aZ.X:=Int
def aZ.out:aZ.X→bk:=fun x=>⟨.d ti x,[],[]⟩
def aZ.add:aZ.D→aZ.Y→aZ.X:=fun sv y=>y
def aZ.L0.aC:aZ.L0.D→Prop:=fun(l,n,i)=>nG l∧l.length≤1000000000∧n=l.length∧∃k:Nat,k≤l.length∧i=k
def aZ.L0.F:aZ.L0.D→aZ.L0.Y:=fun(l,n,i)=>lz (l.drop i.toNat) i
def aZ.aC:aZ.D→Prop:=fun l=>nG l∧l.length≤1000000000
def aZ.F:aZ.D→aZ.Y:=fun l=>Az l
noncomputable def aZ.G:dZ:=fh (P:=Tryz.prog) [fj.sg]
noncomputable def aZ.L0.E:=bP.cq aZ.L0.st aZ.L0.aC aZ.L0.add aZ.L0.F aZ.L0.out
noncomputable def aZ.L0.call:aZ.L0.D→Option aZ.L0.X:=cX aZ.L0.E aZ.L0.st
noncomputable def aZ.an:eO:= {loops:=j7 [(2,{bm:=[0,1,7,8]})],outs:=j6 [(2,{},{bm:=[4]})],fJ:=kW [(2,aZ.L0.E)]}
noncomputable def aZ.A:= @cZ Tryz.prog aZ.G aZ.an 0 Tryz.f205 _ aZ.st
abbrev aZ.Ok:=da @aZ.A aZ.aC aZ.add aZ.F aZ.out
noncomputable def aZ.L0.R:= @bX Tryz.prog aZ.G aZ.an 0 Tryz.f205 0 _ aZ.L0.st
abbrev aZ.L0.Ok:=ej Tryz.prog aZ.G aZ.an 0 Tryz.f205 0 aZ.L0.st aZ.L0.aC aZ.L0.add aZ.L0.F aZ.L0.out
theorem aZ.L0.run:bK aZ.L0.call aZ.L0.aC aZ.L0.add aZ.L0.F:=eG (eC [.d tU,.d ti,.d ti] fun _=>by kernel_rfl)
theorem aZ.L0.aD:j5 @aZ.L0.R aZ.L0.st aZ.L0.aC aZ.L0.add aZ.L0.F aZ.L0.out aZ.L0.Ok:=kf
theorem aZ.L0.step{R:Type}(sv_2:Bs)(t7:Int)(t8:Int)(kn:AS→Option R)(kx:Exit→AS→Option R):aZ.L0.R (sv_2,t7,t8) kn kx=
  aJ ((fX t8 t7)) (
   aJ (eJ t8 (((List.length sv_2):Nat):Int)) (
   ah (fj.call (nth tu sv_2 (Int.toNat t8))) fun x1=>
   aJ (x1) (
    kx (aZ.L0.bj t8).1 (aZ.L0.bj t8).2) (
    kn (aZ.L0.st (sv_2,t7,(bN .i64 t8 (1:Int)))))) none) (
   kx (aZ.L0.e7 ()).1 (aZ.L0.e7 ()).2):=by kernel_rfl
theorem aZ.eq{R:Type}(sv:Bs)(k:bk→Option R):aZ.A sv k=
  ah (aZ.L0.call (sv,(((List.length sv):Nat):Int),(0:Int))) fun x2=>
  aJ (x2.isLeft) (
   ah (x2.getLeft?) fun a3=>
   k (aZ.out a3)) (
   ah (x2.getRight?) fun b4=>
   k (aZ.out (-1:Int))):=by kernel_rfl
theorem aZ.L0.ok:aZ.L0.Ok:=by
 refine aZ.L0.aD (fun(l,n,i)=>l.length - i.toNat) ?_
 rintro⟨l,n,i⟩ ⟨hl,hb,rfl,k,hk,rfl⟩
 have hb:l.length≤1000000000:=hb
 have hk:k≤l.length:=hk
 by_cases h:k < l.length
 ·have hx:=hl _ (List.getElem_mem h)
  have n1:nth (.int .u64) l k=l[k]:=cm (t:= .int .u64) h
  have hd:lz (l.drop k) k=if mA l[k] then lz (l.drop (k+1)) ((k+1:Nat):Int) else .inl (k:Int):=by rw[List.drop_eq_getElem_cons h];rfl
  cases hp:mA l[k]
  ·right
   refine⟨aZ.L0.bj (k:Int),?_,fun kn kx=> ?_⟩
   ·simp only[aZ.L0.add,aZ.L0.F,Int.toNat_natCast,hd,hp,Bool.false_eq_true,if_false]
    rfl
   ·rw[aZ.L0.step]
    simp(disch:=omega) only[↓S1,↓if_pos,↓if_neg,if_pos,if_neg,if_true,if_false,S2,n1]
    rw[fj.run (d:=l[k]) hx]
    simp only[aa,fj.add,fj.F,hp,Bool.not_false,ag]
  ·left
   refine⟨(l,l.length,((k+1:Nat):Int)),⟨hl,hb,rfl,k+1,by omega,rfl⟩,by simp only[Int.toNat_natCast];omega,?_,fun kn kx=> ?_⟩
   ·simp only[aZ.L0.add,aZ.L0.F,Int.toNat_natCast,hd,hp,if_true]
   ·rw[aZ.L0.step]
    simp(disch:=omega) only[↓S1,↓if_pos,↓if_neg,if_pos,if_neg,if_true,if_false,S2,n1]
    rw[fj.run (d:=l[k]) hx]
    simp only[aa,fj.add,fj.F,hp,Bool.not_true,ai]
 ·right
  obtain rfl:k=l.length:=by omega
  refine⟨aZ.L0.e7 (),?_,fun kn kx=> ?_⟩
  ·simp only[aZ.L0.add,aZ.L0.F,Int.toNat_natCast,List.drop_length]
   rfl
  ·rw[aZ.L0.step]
   simp(disch:=omega) only[↓S1,↓if_pos,↓if_neg,if_pos,if_neg,if_true,if_false,S2]
theorem aZ.ok:aZ.Ok:=by
 rintro l ⟨hl,hb⟩
 rw[aZ.eq,aZ.L0.run (d:=(l,l.length,0)) ⟨hl,hb,rfl,0,by omega,rfl⟩]
 simp only[aa,aZ.L0.add,aZ.L0.F,Int.toNat_zero,List.drop_zero,aZ.add,aZ.F,Az]
 cases lz l 0 <;> rfl
noncomputable def aZ.E:=Entry.cq [some tU,none] aZ.st aZ.aC aZ.add aZ.F aZ.out
noncomputable def aZ.call:aZ.D→Option aZ.X:=bT aZ.E aZ.st
theorem aZ.run:bK aZ.call aZ.aC aZ.add aZ.F:=dh (de [.d tU] fun _=>by kernel_rfl)
noncomputable def aZ.sg:SG Tryz.prog:=⟨205,aY,aZ.E,.fn 1 (by kernel_rfl) aZ.ok (And.intro (.cq aZ.L0.ok (by kernel_rfl)) trivial)⟩
abbrev bQ.D:=Bs
def bQ.st:bQ.D→SA:=fun sv=>([.d tU sv,.fn 150 (.nil)],[])
abbrev bQ.Y:=Bool
abbrev bQ.X:=Bool
def bQ.out:bQ.X→bk:=fun x=>⟨.d .bool x,[],[]⟩
def bQ.add:bQ.D→bQ.Y→bQ.X:=fun sv y=>y
def bQ.aC:bQ.D→Prop:=fun l=>nG l∧l.length≤1000000000
def bQ.F:bQ.D→bQ.Y:=fun l=> !(l.all mA)
noncomputable def bQ.G:dZ:=fh (P:=Tryz.prog) [aZ.sg]
noncomputable def bQ.an:eO:= {}
noncomputable def bQ.A:= @cZ Tryz.prog bQ.G bQ.an 0 Tryz.f152 _ bQ.st
abbrev bQ.Ok:=da @bQ.A bQ.aC bQ.add bQ.F bQ.out
theorem bQ.eq{R:Type}(sv:Bs)(k:bk→Option R):bQ.A sv k=
 ah (aZ.call sv) fun x1=>
 k (bQ.out (nS x1 (0:Int))):=by kernel_rfl
theorem bQ.ok:bQ.Ok:=by
 rintro l ⟨hl,hb⟩
 rw[bQ.eq,aZ.run (d:=l) ⟨hl,hb⟩]
 simp only[aa,aZ.add,aZ.F,Bp]
 rfl
noncomputable def bQ.E:=Entry.cq [some tU,none] bQ.st bQ.aC bQ.add bQ.F bQ.out
noncomputable def bQ.call:bQ.D→Option bQ.X:=bT bQ.E bQ.st
theorem bQ.run:bK bQ.call bQ.aC bQ.add bQ.F:=dh (de [.d tU] fun _=>by kernel_rfl)
noncomputable def bQ.sg:SG Tryz.prog:=⟨152,aY,bQ.E,.fn 0 (by kernel_rfl) bQ.ok trivial⟩
abbrev cg.D:=Int
def cg.st:cg.D→SA:=fun n=>([.d ti n],[])
abbrev cg.Y:=Bool
abbrev cg.X:=Bool
def cg.out:cg.X→bk:=fun x=>⟨.d .bool x,[],[]⟩
def cg.add:cg.D→cg.Y→cg.X:=fun n y=>y
def cg.aC:cg.D→Prop:=fun _=>True
def cg.F:cg.D→cg.Y:=fun n=>sC n
noncomputable def cg.G:dZ:=fh (P:=Tryz.prog) []
noncomputable def cg.an:eO:= {}
noncomputable def cg.A:= @cZ Tryz.prog cg.G cg.an 0 Tryz.f153 _ cg.st
abbrev cg.Ok:=da @cg.A cg.aC cg.add cg.F cg.out
theorem cg.eq{R:Type}(n:Int)(k:bk→Option R):cg.A n k=
  aJ ((nS n (0:Int))) (
   k (cg.out (BL n (1048576:Int)))) (
   k (cg.out false)):=by kernel_rfl
theorem cg.ok:cg.Ok:=by
 intro n _
 rw[cg.eq]
 simp only[cg.add,cg.F,sC]
 by_cases h:0≤n
 ·rw[gl h,ag]
  by_cases h2:n≤1048576
  ·rw[mQ h2,aX ⟨h,h2⟩]
  ·rw[ki h2,bz (fun x=>h2 x.2)]
 ·rw[eX h,ai,bz (fun x=>h x.1)]
noncomputable def cg.E:=Entry.cq [some ti] cg.st cg.aC cg.add cg.F cg.out
noncomputable def cg.call:cg.D→Option cg.X:=bT cg.E cg.st
theorem cg.run:bK cg.call cg.aC cg.add cg.F:=dh (de [.d ti] fun _=>by kernel_rfl)
noncomputable def cg.sg:SG Tryz.prog:=⟨153,aY,cg.E,.fn 0 (by kernel_rfl) cg.ok trivial⟩
set_option synthInstance.maxSize 5000
abbrev aN.L0.D:=Lk×(List iA)×Int×Int
def aN.L0.st:aN.L0.D→AS:=fun(l_2,t7,t8,t9)=>⟨([.undef,.eI o8 l_2,.undef,.fn 150 (.nil),.undef,.undef,.undef,.d (.slice gG) t7,.d ti t8,.d ti t9]++ba 47 []),[],(List.replicate 57 [])⟩
abbrev aN.L0.Y0:=Unit
abbrev aN.L0.X0:=Unit
def aN.L0.bj:aN.L0.X0→Exit×AS:=fun x=>(.ret,⟨([.undef,.undef,.d .bool false]++ba 54 []),[],(List.replicate 57 [])⟩)
abbrev aN.L0.Y1:=Unit
abbrev aN.L0.X1:=Lk
def aN.L0.e7:aN.L0.X1→Exit×AS:=fun x=>(.exit 0,⟨([.undef,.eI o8 x]++ba 55 []),[],(List.replicate 57 [])⟩)
abbrev aN.L0.X:=(aN.L0.X0)⊕(aN.L0.X1)
abbrev aN.L0.Y:=(aN.L0.Y0)⊕(aN.L0.Y1)
def aN.L0.out:aN.L0.X→Out (Exit×AS):=fun x=> .br x.isLeft (.get x.getLeft? fun a=> .ok (aN.L0.bj a)) (.get x.getRight? fun b=> .ok (aN.L0.e7 b))
def aN.L0.add:aN.L0.D→aN.L0.Y→aN.L0.X:=fun(l_2,t7,t8,t9) y=>match y with | .inl y=> .inl y | .inr z=> .inr (l_2)
abbrev aN.D:=Lk
def aN.st:aN.D→SA:=fun l=>([.d o8 l],[])
abbrev aN.Y:=Bool
abbrev aN.X:=Bool
def aN.out:aN.X→bk:=fun x=>⟨.d .bool x,[],[]⟩
def aN.add:aN.D→aN.Y→aN.X:=fun l y=>y
def aN.L0.aC:aN.L0.D→Prop:=fun(l,bs,n,i)=>(∀b∈bs,GX b)∧bs.length≤9223372036854775807∧n=bs.length∧∃k:Nat,k≤bs.length∧i=k
def aN.L0.F:aN.L0.D→aN.L0.Y:=fun(l,bs,n,i)=>if(bs.drop i.toNat).all o3 then .inr () else .inl ()
def aN.aC:aN.D→Prop:=fun l=>Cm l∧l.1.length≤9223372036854775807
def aN.F:aN.D→aN.Y:=fun l=>jJ l
noncomputable def aN.G:dZ:=fh (P:=Tryz.prog) [bQ.sg,cg.sg,fj.sg]
noncomputable def aN.L0.E:=bP.cq aN.L0.st aN.L0.aC aN.L0.add aN.L0.F aN.L0.out
noncomputable def aN.L0.call:aN.L0.D→Option aN.L0.X:=cX aN.L0.E aN.L0.st
noncomputable def aN.an:eO:= {loops:=j7 [(3,{bm:=[1,3,7,8,9]})],outs:=j6 [(3,{bm:=[1]},{bm:=[2]})],fJ:=kW [(3,aN.L0.E)]}
noncomputable def aN.A:= @cZ Tryz.prog aN.G aN.an 0 Tryz.f77 _ aN.st
abbrev aN.Ok:=da @aN.A aN.aC aN.add aN.F aN.out
noncomputable def aN.L0.R:= @bX Tryz.prog aN.G aN.an 0 Tryz.f77 0 _ aN.L0.st
abbrev aN.L0.Ok:=ej Tryz.prog aN.G aN.an 0 Tryz.f77 0 aN.L0.st aN.L0.aC aN.L0.add aN.L0.F aN.L0.out
theorem aN.L0.run:bK aN.L0.call aN.L0.aC aN.L0.add aN.L0.F:=eG (eC [.d o8,.d (.slice gG),.d ti,.d ti] fun _=>by kernel_rfl)
theorem aN.L0.aD:j5 @aN.L0.R aN.L0.st aN.L0.aC aN.L0.add aN.L0.F aN.L0.out aN.L0.Ok:=kf
theorem aN.L0.step{R:Type}(l_2:Lk)(t7:(List iA))(t8:Int)(t9:Int)(kn:AS→Option R)(kx:Exit→AS→Option R):aN.L0.R (l_2,t7,t8,t9) kn kx=
  aJ ((fX t9 t8)) (
   aJ (eJ t9 (((List.length t7):Nat):Int)) (
   aJ ((mP (((List.length (nth gG t7 (Int.toNat t9)).1):Nat):Int) (12:Int))) (
    kx (aN.L0.bj ()).1 (aN.L0.bj ()).2) (
    ah (bQ.call (nth gG t7 (Int.toNat t9)).1) fun x1=>
    aJ (x1) (
     kx (aN.L0.bj ()).1 (aN.L0.bj ()).2) (
     ah (cg.call (nth gG t7 (Int.toNat t9)).2.1) fun x2=>
     aJ ((!x2)) (
      kx (aN.L0.bj ()).1 (aN.L0.bj ()).2) (
      ah (cg.call (nth gG t7 (Int.toNat t9)).2.2.1) fun x3=>
      aJ ((!x3)) (
       kx (aN.L0.bj ()).1 (aN.L0.bj ()).2) (
       aJ ((jO (nth gG t7 (Int.toNat t9)).2.2.2.1 (0:Int))) (
        ah (fj.call (nth gG t7 (Int.toNat t9)).2.2.2.1) fun x4=>
        aJ (x4) (
         kx (aN.L0.bj ()).1 (aN.L0.bj ()).2) (
         kn (aN.L0.st (l_2,t7,t8,(bN .i64 t9 (1:Int)))))) (
        kn (aN.L0.st (l_2,t7,t8,(bN .i64 t9 (1:Int)))))))))) none) (
   kx (aN.L0.e7 l_2).1 (aN.L0.e7 l_2).2):=by kernel_rfl
theorem aN.eq{R:Type}(l:Lk)(k:bk→Option R):aN.A l k=
  ah (aN.L0.call (l,l.1,(((List.length l.1):Nat):Int),(0:Int))) fun x5=>
  aJ (x5.isLeft) (
   ah (x5.getLeft?) fun a6=>
   k (aN.out false)) (
   ah (x5.getRight?) fun b7=>
   aJ ((mP (((List.length b7.1):Nat):Int) (0:Int))) (
    k (aN.out (BL (((List.length b7.1):Nat):Int) (4:Int)))) (
    k (aN.out false))):=by kernel_rfl
theorem aN.L0.ok:aN.L0.Ok:=by
 refine aN.L0.aD (fun(l,bs,n,i)=>bs.length - i.toNat) ?_
 rintro⟨l,bs,n,i⟩ ⟨hl,hb,rfl,k,hk,rfl⟩
 have hb:bs.length≤9223372036854775807:=hb
 have hk:k≤bs.length:=hk
 by_cases h:k < bs.length
 ·have hx:GX bs[k]:=hl _ (List.getElem_mem h)
  have n1:nth (.pair (.slice (.int .u64)) (.pair (.int .i64) (.pair (.int .i64) (.pair (.int .u64) .unit)))) bs k=bs[k]:=cm (t:=(.pair (.slice (.int .u64)) (.pair (.int .i64) (.pair (.int .i64) (.pair (.int .u64) .unit))))) h
  have hd:(bs.drop k).all o3=(o3 bs[k] && (bs.drop (k+1)).all o3):=by rw[List.drop_eq_getElem_cons h,List.all_cons]
  have step:∀ {R:Type} (kn:AS→Option R) (kx:Exit→AS→Option R),aN.L0.R (l,bs,(bs.length:Int),(k:Int)) kn kx=aJ (o3 bs[k]) (kn (aN.L0.st (l,bs,(bs.length:Int),((k+1:Nat):Int)))) (kx (aN.L0.bj ()).1 (aN.L0.bj ()).2):=by
   intro R kn kx
   rw[aN.L0.step,bq (by omega),bt (by omega) (by omega),Int.toNat_natCast,n1,N.j4 (by omega)]
   obtain⟨⟨ks,af,dl,sc,u⟩,hbk⟩:∃b,bs[k]=b:=⟨_,rfl⟩
   rw[hbk]at hx ⊢
   have h1:nG ks:=hx.1
   have h2:jd sc:=hx.2
   simp only[ag,o3]
   by_cases hk:ks.length≤12
   ·rw[db (by omega),bQ.run (d:=ks) ⟨h1,by omega⟩,cg.run (d:=af) trivial,cg.run (d:=dl) trivial,fj.run (d:=sc) h2,aX hk]
    simp only[ai,aa,bQ.add,bQ.F,cg.add,cg.F,fj.add,fj.F,Bool.true_and]
    cases ks.all mA
    ·rfl
    cases sC af
    ·rfl
    cases sC dl
    ·rfl
    by_cases hs:sc=0
    ·rw[bU hs,aX hs];rfl
    ·rw[dO hs,bz hs]
     cases mA sc <;> rfl
   ·rw[dy (by omega),bz hk];rfl
  cases hp:o3 bs[k]
  ·right
   refine⟨aN.L0.bj (),?_,fun kn kx=> ?_⟩
   ·simp only[aN.L0.add,aN.L0.F,Int.toNat_natCast,hd,hp,Bool.false_and,Bool.false_eq_true,if_false]
    rfl
   ·rw[step,hp,ai]
  ·left
   refine⟨(l,bs,bs.length,((k+1:Nat):Int)),⟨hl,hb,rfl,k+1,by omega,rfl⟩,by simp only[Int.toNat_natCast];omega,?_,fun kn kx=> ?_⟩
   ·simp only[aN.L0.add,aN.L0.F,Int.toNat_natCast,hd,hp,Bool.true_and]
   ·rw[step,hp,ag]
 ·right
  obtain rfl:k=bs.length:=by omega
  refine⟨aN.L0.e7 l,?_,fun kn kx=> ?_⟩
  ·simp only[aN.L0.add,aN.L0.F,Int.toNat_natCast,List.drop_length]
   rfl
  ·rw[aN.L0.step]
   simp(disch:=omega) only[↓S1,↓if_pos,↓if_neg,if_pos,if_neg,if_true,if_false,S2]
theorem aN.ok:aN.Ok:=by
 rintro l ⟨hl,hb⟩
 have hb:l.1.length≤9223372036854775807:=hb
 rw[aN.eq,aN.L0.run (d:=(l,l.1,l.1.length,0)) ⟨hl,hb,rfl,0,by omega,rfl⟩]
 simp only[aa,aN.L0.add,aN.L0.F,Int.toNat_zero,List.drop_zero,aN.add,aN.F,jJ]
 cases l.1.all o3
 ·rfl
 ·simp only[if_true,Bool.true_and]
  show aJ (mP _ _) _ _=_
  by_cases h0:0 < l.1.length
  ·rw[dy (by omega)]
   by_cases h4:l.1.length≤4
   ·rw[mQ (by omega),aX ⟨h0,h4⟩];rfl
   ·rw[ki (by omega),bz (fun x=>h4 x.2)];rfl
  ·rw[db (by omega),bz (fun x=>h0 x.1)];rfl
noncomputable def aN.E:=Entry.cq [some o8] aN.st aN.aC aN.add aN.F aN.out
noncomputable def aN.call:aN.D→Option aN.X:=bT aN.E aN.st
theorem aN.run:bK aN.call aN.aC aN.add aN.F:=dh (de [.d o8] fun _=>by kernel_rfl)
noncomputable def aN.sg:SG Tryz.prog:=⟨77,aY,aN.E,.fn 1 (by kernel_rfl) aN.ok (And.intro (.cq aN.L0.ok (by kernel_rfl)) trivial)⟩
def lj(m:List Int):List Int→List Sg→Bool
 |[],_=>true
 |p::ps,ss=>lQ p m 1 (ss.headD (0,0,())) && lj m ps ss.tail
def jV(l:Lk)(w:oY)(m:List Int)(height age:Int):Int:=
 if jJ l=false∨w.1 < 0∨w.1≥l.1.length then 1
 else
  let b:=nth (.pair (.slice (.int .u64)) (.pair (.int .i64) (.pair (.int .i64) (.pair (.int .u64) .unit)))) l.1 w.1.toNat
  if height < b.2.1∨age < b.2.2.1 then 11
  else if b.2.2.2.1≠0∧fb w.2.2.1≠b.2.2.2.1 then 23
  else if w.2.1.length≠b.1.length then 7
  else if lj m b.1 w.2.1 then 0 else 7
theorem Ck(m:List Int)(ks:List Int)(ss:List Sg)(h:ss.length=ks.length)(k:Nat)(hk:k < ks.length):lj m (ks.drop k) (ss.drop k)=(lQ ks[k] m 1 (ss[k]'(by omega)) && lj m (ks.drop (k+1)) (ss.drop (k+1))):=by
 rw[List.drop_eq_getElem_cons hk,List.drop_eq_getElem_cons (by omega:k < ss.length)]
 rfl
def we(w:oY):Prop:=(∀s∈w.2.1,FP s)∧jd w.2.2.1
abbrev bw.L0.D:=oY×Bs×Bs×Int×Int
def bw.L0.st:bw.L0.D→AS:=fun(wv_2,m_2,t68,t69,t70)=>⟨(ba 6 ([.eI vV wv_2,.eI tH m_2]++ba 60 ([.d tU t68,.d ti t69,.d ti t70]++ba 14 []))),[],(List.replicate 85 [])⟩
abbrev bw.L0.Y0:=Unit
abbrev bw.L0.X0:=Unit
def bw.L0.bj:bw.L0.X0→Exit×AS:=fun x=>(.ret,⟨(ba 10 ([.d ti (7:Int)]++ba 74 [])),[],(List.replicate 85 [])⟩)
abbrev bw.L0.Y1:=Unit
abbrev bw.L0.X1:=Unit
def bw.L0.e7:bw.L0.X1→Exit×AS:=fun x=>(.exit 1,⟨(ba 85 []),[],(List.replicate 85 [])⟩)
abbrev bw.L0.X:=(bw.L0.X0)⊕(bw.L0.X1)
abbrev bw.L0.Y:=(bw.L0.Y0)⊕(bw.L0.Y1)
def bw.L0.out:bw.L0.X→Out (Exit×AS):=fun x=> .br x.isLeft (.get x.getLeft? fun a=> .ok (bw.L0.bj a)) (.get x.getRight? fun b=> .ok (bw.L0.e7 b))
def bw.L0.add:bw.L0.D→bw.L0.Y→bw.L0.X:=fun(wv_2,m_2,t68,t69,t70) y=>match y with | .inl y=> .inl y | .inr z=> .inr (z)
abbrev bw.D:=Lk×oY×Bs×Int×Int
def bw.st:bw.D→SA:=fun(l,wv,m,height,age)=>([.d o8 l,.d vV wv,.d tH m,.d ti height,.d ti age],[])
abbrev bw.Y:=Int
abbrev bw.X:=Int
def bw.out:bw.X→bk:=fun x=>⟨.d ti x,[],[]⟩
def bw.add:bw.D→bw.Y→bw.X:=fun(l,wv,m,height,age) y=>y
def bw.L0.aC:bw.L0.D→Prop:=fun(w,m,ks,n,i)=>we w∧Sm m∧nG ks∧ks.length≤1000000000∧w.2.1.length=ks.length∧n=ks.length∧∃k:Nat,k≤ks.length∧i=k
def bw.L0.F:bw.L0.D→bw.L0.Y:=fun(w,m,ks,n,i)=>if lj m (ks.drop i.toNat) (w.2.1.drop i.toNat) then .inr () else .inl ()
def bw.aC:bw.D→Prop:=fun(l,w,m,h,a)=>Cm l∧l.1.length≤9223372036854775807∧we w∧Sm m
def bw.F:bw.D→bw.Y:=fun(l,w,m,h,a)=>jV l w m h a
noncomputable def bw.G:dZ:=fh (P:=Tryz.prog) [aN.sg,dw.sg,cE.sg]
noncomputable def bw.L0.E:=bP.cq bw.L0.st bw.L0.aC bw.L0.add bw.L0.F bw.L0.out
noncomputable def bw.L0.call:bw.L0.D→Option bw.L0.X:=cX bw.L0.E bw.L0.st
noncomputable def bw.an:eO:= {loops:=j7 [(11,{bm:=[6,7,68,69,70]})],outs:=j6 [(11,{},{bm:=[10]})],fJ:=kW [(11,bw.L0.E)]}
noncomputable def bw.A:= @cZ Tryz.prog bw.G bw.an 0 Tryz.f84 _ bw.st
abbrev bw.Ok:=da @bw.A bw.aC bw.add bw.F bw.out
noncomputable def bw.L0.R:= @bX Tryz.prog bw.G bw.an 0 Tryz.f84 0 _ bw.L0.st
abbrev bw.L0.Ok:=ej Tryz.prog bw.G bw.an 0 Tryz.f84 0 bw.L0.st bw.L0.aC bw.L0.add bw.L0.F bw.L0.out
theorem bw.L0.run:bK bw.L0.call bw.L0.aC bw.L0.add bw.L0.F:=eG (eC [.d vV,.d tH,.d tU,.d ti,.d ti] fun _=>by kernel_rfl)
theorem bw.L0.aD:j5 @bw.L0.R bw.L0.st bw.L0.aC bw.L0.add bw.L0.F bw.L0.out bw.L0.Ok:=kf
theorem bw.L0.step{R:Type}(wv_2:oY)(m_2:Bs)(t68:Bs)(t69:Int)(t70:Int)(kn:AS→Option R)(kx:Exit→AS→Option R):bw.L0.R (wv_2,m_2,t68,t69,t70) kn kx=
  aJ ((fX t70 t69)) (
   aJ (eJ t70 (((List.length t68):Nat):Int)) (
   aJ (eJ t70 (((List.length wv_2.2.1):Nat):Int)) (
   ah (cE.call ((nth tu t68 (Int.toNat t70)),m_2,(nth nP wv_2.2.1 (Int.toNat t70)))) fun x1=>
   aJ ((!x1)) (
    kx (bw.L0.bj ()).1 (bw.L0.bj ()).2) (
    kn (bw.L0.st (wv_2,m_2,t68,t69,(bN .i64 t70 (1:Int)))))) none) none) (
   kx (bw.L0.e7 ()).1 (bw.L0.e7 ()).2):=by kernel_rfl
theorem bw.eq{R:Type}(l:Lk)(wv:oY)(m:Bs)(height:Int)(age:Int)(k:bk→Option R):bw.A (l,wv,m,height,age) k=
  ah (aN.call l) fun x1=>
  aJ ((!x1)) (
   k (bw.out (1:Int))) (
   aJ ((fX wv.1 (0:Int))) (
    k (bw.out (1:Int))) (
    aJ ((nS wv.1 (((List.length l.1):Nat):Int))) (
     k (bw.out (1:Int))) (
     aJ (eJ wv.1 (((List.length l.1):Nat):Int)) (
     aJ ((fX height (nth gG l.1 (Int.toNat wv.1)).2.1)) (
      k (bw.out (11:Int))) (
      aJ ((fX age (nth gG l.1 (Int.toNat wv.1)).2.2.1)) (
       k (bw.out (11:Int))) (
       aJ ((jO (nth gG l.1 (Int.toNat wv.1)).2.2.2.1 (0:Int))) (
        ah (dw.call wv.2.2.1) fun x2=>
        aJ ((jO x2 (nth gG l.1 (Int.toNat wv.1)).2.2.2.1)) (
         k (bw.out (23:Int))) (
         aJ ((jO (((List.length wv.2.1):Nat):Int) (((List.length (nth gG l.1 (Int.toNat wv.1)).1):Nat):Int))) (
          k (bw.out (7:Int))) (
          ah (bw.L0.call (wv,m,(nth gG l.1 (Int.toNat wv.1)).1,(((List.length (nth gG l.1 (Int.toNat wv.1)).1):Nat):Int),(0:Int))) fun x4=>
          aJ (x4.isLeft) (
           ah (x4.getLeft?) fun a5=>
           k (bw.out (7:Int))) (
           ah (x4.getRight?) fun b6=>
           k (bw.out (0:Int)))))) (
        aJ ((jO (((List.length wv.2.1):Nat):Int) (((List.length (nth gG l.1 (Int.toNat wv.1)).1):Nat):Int))) (
         k (bw.out (7:Int))) (
         ah (bw.L0.call (wv,m,(nth gG l.1 (Int.toNat wv.1)).1,(((List.length (nth gG l.1 (Int.toNat wv.1)).1):Nat):Int),(0:Int))) fun x7=>
         aJ (x7.isLeft) (
          ah (x7.getLeft?) fun a8=>
          k (bw.out (7:Int))) (
          ah (x7.getRight?) fun b9=>
          k (bw.out (0:Int)))))))) none))):=by kernel_rfl
theorem bw.L0.ok:bw.L0.Ok:=by
 refine bw.L0.aD (fun(w,m,ks,n,i)=>ks.length - i.toNat) ?_
 rintro⟨w,m,ks,n,i⟩ ⟨hw,hm,hl,hb,hs,rfl,k,hk,rfl⟩
 have hb:ks.length≤1000000000:=hb
 have hk:k≤ks.length:=hk
 have hs:w.2.1.length=ks.length:=hs
 by_cases h:k < ks.length
 ·have hx:=hl _ (List.getElem_mem h)
  have hy:=hw.1 _ (List.getElem_mem (by omega:k < w.2.1.length))
  have n1:nth (.int .u64) ks k=ks[k]:=cm (t:= .int .u64) h
  have n2:nth (.pair (.int .u64) (.pair (.int .u64) .unit)) w.2.1 k=w.2.1[k]'(by omega):=cm (t:=(.pair (.int .u64) (.pair (.int .u64) .unit))) (by omega)
  have hd:=Ck m ks w.2.1 hs k h
  have step:∀ {R:Type} (kn:AS→Option R) (kx:Exit→AS→Option R),bw.L0.R (w,m,ks,(ks.length:Int),(k:Int)) kn kx=aJ (lQ ks[k] m 1 (w.2.1[k]'(by omega))) (kn (bw.L0.st (w,m,ks,(ks.length:Int),((k+1:Nat):Int)))) (kx (bw.L0.bj ()).1 (bw.L0.bj ()).2):=by
   intro R kn kx
   rw[bw.L0.step,bq (by omega),bt (by omega) (by omega),bt (by omega) (by omega),Int.toNat_natCast,n1,n2,N.j4 (by omega),cE.run (d:=(ks[k],m,w.2.1[k]'(by omega))) ⟨hx,hm,hy⟩]
   simp only[ag,aa,cE.add,cE.F]
   cases lQ ks[k] m 1 (w.2.1[k]'(by omega)) <;> rfl
  cases hp:lQ ks[k] m 1 (w.2.1[k]'(by omega))
  ·right
   refine⟨bw.L0.bj (),?_,fun kn kx=> ?_⟩
   ·simp only[bw.L0.add,bw.L0.F,Int.toNat_natCast,hd,hp,Bool.false_and,Bool.false_eq_true,if_false]
    rfl
   ·rw[step,hp,ai]
  ·left
   refine⟨(w,m,ks,ks.length,((k+1:Nat):Int)),⟨hw,hm,hl,hb,hs,rfl,k+1,by omega,rfl⟩,by simp only[Int.toNat_natCast];omega,?_,fun kn kx=> ?_⟩
   ·simp only[bw.L0.add,bw.L0.F,Int.toNat_natCast,hd,hp,Bool.true_and]
   ·rw[step,hp,ag]
 ·right
  obtain rfl:k=ks.length:=by omega
  refine⟨bw.L0.e7 (),?_,fun kn kx=> ?_⟩
  ·simp only[bw.L0.add,bw.L0.F,Int.toNat_natCast,List.drop_length]
   rfl
  ·rw[bw.L0.step]
   simp(disch:=omega) only[↓S1,↓if_pos,↓if_neg,if_pos,if_neg,if_true,if_false,S2]
theorem BS{l:Lk}(h:jJ l=true){b:iA}(hb:b∈l.1):b.1.length≤12:=by
 unfold jJ at h
 rw[Bool.and_eq_true,List.all_eq_true]at h
 have:=h.1 b hb
 unfold o3 at this
 rw[Bool.and_eq_true]at this
 simpa using this.1
theorem bw.ok:bw.Ok:=by
  rintro⟨l,w,m,h,a⟩ ⟨hl,hb,hw,hm⟩
  have hl:Cm l:=hl
  have hb:l.1.length≤9223372036854775807:=hb
  have hw:we w:=hw
  have hm:Sm m:=hm
  rw[bw.eq,aN.run (d:=l) ⟨hl,hb⟩]
  simp only[aa,aN.add,aN.F,bw.add,bw.F,jV]
  cases hok:jJ l
  · rw[if_pos (Or.inl rfl)];rfl
  by_cases h0:w.1 < 0
  · rw[bq h0,if_pos (Or.inr (Or.inl h0))];rfl
  by_cases h1:w.1≥l.1.length
  · rw[bg h0,gl h1,if_pos (Or.inr (Or.inr h1))];rfl
  rw[bg h0,eX h1,bt (by omega) (by omega),if_neg (by simp[h0];omega)]
  have hn:w.1.toNat < l.1.length:=by omega
  have n1:nth (.pair (.slice (.int .u64)) (.pair (.int .i64) (.pair (.int .i64) (.pair (.int .u64) .unit)))) l.1 w.1.toNat=l.1[w.1.toNat]:=cm (t:=(.pair (.slice (.int .u64)) (.pair (.int .i64) (.pair (.int .i64) (.pair (.int .u64) .unit))))) hn
  rw[n1]
  have hx:GX l.1[w.1.toNat]:=hl _ (List.getElem_mem hn)
  have hkl:=BS hok (List.getElem_mem hn)
  obtain⟨⟨ks,af,dl,sc,u⟩,hbk⟩:∃b,l.1[w.1.toNat]=b:=⟨_,rfl⟩
  rw[hbk]at hx hkl ⊢
  have hks:nG ks:=hx.1
  have hkl:ks.length≤12:=hkl
  simp only[Bool.not_true,ai,ag]
  by_cases e1:h < af
  · rw[bq e1,if_pos (Or.inl e1)];rfl
  by_cases e2:a < dl
  · rw[bg e1,bq e2,if_pos (Or.inr e2)];rfl
  rw[bg e1,bg e2,if_neg (by simp[e1,e2]),dw.run (d:=w.2.2.1) hw.2]
  simp only[ai,aa,dw.add,dw.F]
  have last:aJ (jO ((w.2.1.length:Nat):Int) ((ks.length:Nat):Int)) (some (bw.out (7:Int))) (
          ah (bw.L0.call (w,m,ks,((ks.length:Nat):Int),(0:Int))) fun x4=>
          aJ (x4.isLeft) (ah (x4.getLeft?) fun a5=>some (bw.out (7:Int))) (ah (x4.getRight?) fun b6=>some (bw.out (0:Int))))=some (bw.out (if w.2.1.length≠ks.length then 7 else if lj m ks w.2.1 then 0 else 7)):=by
    by_cases e3:w.2.1.length=ks.length
    · rw[bU (by omega),if_neg (by simp[e3]),ai,bw.L0.run (d:=(w,m,ks,ks.length,0)) ⟨hw,hm,hks,by show ks.length≤1000000000;omega,e3,rfl,0,by omega,rfl⟩]
      simp only[aa,bw.L0.add,bw.L0.F,Int.toNat_zero,List.drop_zero]
      cases lj m ks w.2.1 <;> rfl
    · rw[dO (by omega),if_pos e3];rfl
  by_cases e4:sc=0
  · rw[bU e4,if_neg (by simp[e4]),ai]
    exact last
  · rw[dO e4,ag]
    by_cases e5:fb w.2.2.1=sc
    · rw[bU e5,if_neg (by simp[e5]),ai]
      exact last
    · rw[dO e5,if_pos ⟨e4,e5⟩];rfl
noncomputable def bw.E:=Entry.cq [some o8,some vV,some tH,some ti,some ti] bw.st bw.aC bw.add bw.F bw.out
noncomputable def bw.call:bw.D→Option bw.X:=bT bw.E bw.st
theorem bw.run:bK bw.call bw.aC bw.add bw.F:=dh (de [.d o8,.d vV,.d tB,.d ti,.d ti] fun _=>by kernel_rfl)
noncomputable def bw.sg:SG Tryz.prog:=⟨84,aY,bw.E,.fn 1 (by kernel_rfl) bw.ok (And.intro (.cq bw.L0.ok (by kernel_rfl)) trivial)⟩
set_option synthInstance.maxSize 5000
abbrev eh.D:=Int
def eh.st:eh.D→SA:=fun n=>([.cY,.d ti n],[])
abbrev eh.Y:=Nat×(List Int)
abbrev eh.X:=Nat×(List Int)
def eh.out:eh.X→bk:=fun x=>⟨.bI (.new 0 0) 0 [] 0 0 x.1,[],[.obj 0 false (.vec 5 tb x.2)]⟩
def eh.add:eh.D→eh.Y→eh.X:=fun n y=>y
def eh.aC:eh.D→Prop:=fun n=>∃k:Nat,n=k∧k≤100000000
def eh.F:eh.D→eh.Y:=fun n=>(0,List.replicate n.toNat 0)
noncomputable def eh.G:dZ:=fh (P:=Tryz.prog) []
noncomputable def eh.an:eO:= {ij:=[⟨4,[],22,140⟩]}
noncomputable def eh.A:= @cZ Tryz.prog eh.G eh.an 0 Tryz.f249 _ eh.st
abbrev eh.Ok:=da @eh.A eh.aC eh.add eh.F eh.out
theorem eh.eq{R:Type}(n:Int)(k:bk→Option R):eh.A n k=
  aJ ((fX n (0:Int))) (
   none) (
   aJ ((mP (cH .i64 n (0:Int)) (0:Int))) (
    aJ (decide (0 < (cH .i64 n (0:Int))) && dq (Int.toNat (cH .i64 n (0:Int))) 1) (
    aJ (inc (0:Int) (((Int.toNat (cH .i64 n (0:Int))):Nat):Int)) (
    k (eh.out (0,(List.replicate (Int.toNat (cH .i64 n (0:Int))) (0:Int))))) none) none) (
    k (eh.out (0,([]:List Int))))):=by kernel_rfl
theorem eh.ok:eh.Ok:=by
 rintro n ⟨k,rfl,hk⟩
 have e:cH .i64 (k:Int) 0=(k:Int):=by rw[eK (by omega) (by omega)];omega
 rw[eh.eq,e,bg (by omega),ai]
 by_cases h:0 < k
 ·rw[dy (by omega),Int.toNat_natCast,aX (by omega),ed (by omega) (by omega),kJ (by omega) (by omega)]
  rfl
 ·obtain rfl:k=0:=by omega
  rfl
noncomputable def eh.E:=Entry.cq [none,some ti] eh.st eh.aC eh.add eh.F eh.out
noncomputable def eh.call:eh.D→Option eh.X:=bT eh.E eh.st
theorem eh.run:bK eh.call eh.aC eh.add eh.F:=dh (de [.d ti] fun _=>by kernel_rfl)
noncomputable def eh.sg:SG Tryz.prog:=⟨249,aY,eh.E,.fn 0 (by kernel_rfl) eh.ok trivial⟩
def jP(l:List (List Int)):Nat:=l.flatten.length
def uP(n:Nat)(l:List Int):List (List Int)→Nat×List Int
 |[]=>(n,l)
 |s::r=>(n+(s::r).flatten.length,l.take n++(s::r).flatten)
theorem Bz(n:Nat)(l s:List Int)(r:List (List Int))(h:n≤l.length):uP n l (s::r)=uP (n+s.length) (l.take n++s) r:=by
 have hl:(l.take n++s).length=n+s.length:=by rw[List.length_append,List.length_take];omega
 cases r with
 |nil=>simp[uP]
 |cons t r=>
  simp only[uP]
  rw[List.take_of_length_le (Nat.le_of_eq hl)]
  simp only[List.flatten_cons,List.length_append,List.append_assoc,Nat.add_assoc]
theorem EA(n:Nat)(z:List Int)(r:List (List Int)):(uP 0 z r).1≤(uP 0 z r).2.length∧cut (uP 0 z r).2 0 (uP 0 z r).1=r.flatten:=by
 cases r with
 |nil=>exact⟨Nat.zero_le _,rfl⟩
 |cons s r=>
  simp only[uP,List.take_zero,List.nil_append,Nat.zero_add]
  exact⟨Nat.le_refl _,by show List.take _ (List.drop 0 _)=_;rw[List.drop_zero,List.take_length]⟩
abbrev ay.L0.D:=(List Bs)×Int×(List Bs)×Int×Int
def ay.L0.st:ay.L0.D→AS:=fun(slices_2,size,t9,t10,t11)=>⟨([.d (.slice tB) slices_2,.undef,.undef,.d ti size]++ba 5 ([.d (.slice tB) t9,.d ti t10,.d ti t11]++ba 24 [])),[],(List.replicate 36 [])⟩
abbrev ay.L0.Y0:=Int
abbrev ay.L0.X0:=((List Bs))×(Int)
def ay.L0.bj:ay.L0.X0→Exit×AS:=fun x=>(.exit 0,⟨([.d (.slice tB) x.1,.undef,.undef,.d ti x.2]++ba 32 []),[],(List.replicate 36 [])⟩)
abbrev ay.L0.X:=ay.L0.X0
abbrev ay.L0.Y:=ay.L0.Y0
def ay.L0.out:ay.L0.X→Out (Exit×AS):=fun x=> .ok (ay.L0.bj x)
def ay.L0.add:ay.L0.D→ay.L0.Y→ay.L0.X:=fun(slices_2,size,t9,t10,t11) y=>(slices_2,y)
abbrev ay.L1.D:=Nat×(List Bs)×Int×Int×(List Int)
def ay.L1.st:ay.L1.D→AS:=fun(newsliceL,t25,t26,t27,n24)=>⟨(ba 6 ([.bI (.new 24 0) 0 [] 0 0 newsliceL]++ba 18 ([.d (.slice tB) t25,.d ti t26,.d ti t27]++ba 8 []))),[],(bE 24 ([[.obj 0 false (.vec 5 tb n24)]]++bE 11 []))⟩
abbrev ay.L1.Y0:=Nat×(List Int)
abbrev ay.L1.X0:=Nat×(List Int)
def ay.L1.bj:ay.L1.X0→Exit×AS:=fun x=>(.exit 2,⟨(ba 6 ([.bI (.new 24 0) 0 [] 0 0 x.1]++ba 29 [])),[],(bE 24 ([[.obj 0 false (.vec 5 tb x.2)]]++bE 11 []))⟩)
abbrev ay.L1.X:=ay.L1.X0
abbrev ay.L1.Y:=ay.L1.Y0
def ay.L1.out:ay.L1.X→Out (Exit×AS):=fun x=> .ok (ay.L1.bj x)
def ay.L1.add:ay.L1.D→ay.L1.Y→ay.L1.X:=fun(newsliceL,t25,t26,t27,n24) y=>y
abbrev ay.D:=(List Bs)
def ay.st:ay.D→SA:=fun slices=>([.d (.slice tB) slices],[])
abbrev ay.Y:=Bs
abbrev ay.X:=Bs
def ay.out:ay.X→bk:=fun x=>⟨.d tB x,[],[]⟩
def ay.add:ay.D→ay.Y→ay.X:=fun slices y=>y
def ay.L0.aC:ay.L0.D→Prop:=fun(s,size,t,n,i)=>s.length≤1000000∧t=s∧n=s.length∧∃k z:Nat,k≤s.length∧i=k∧size=z∧z+jP (s.drop k)≤100000000
def ay.L0.F:ay.L0.D→ay.L0.Y:=fun(s,size,t,n,i)=>((size:Int)+((jP (s.drop i.toNat):Nat):Int):Int)
def ay.L1.aC:ay.L1.D→Prop:=fun(n,s,t,i,l)=>s.length≤1000000∧n≤l.length∧t=s.length∧∃k:Nat,k≤s.length∧i=k∧n+jP (s.drop k)≤100000000
def ay.L1.F:ay.L1.D→ay.L1.Y:=fun(n,s,t,i,l)=>uP n l (s.drop i.toNat)
def ay.aC:ay.D→Prop:=fun s=>s.length≤1000000∧jP s≤100000000
def ay.F:ay.D→ay.Y:=fun s=>s.flatten
noncomputable def ay.G:dZ:=fh (P:=Tryz.prog) [eh.sg]
noncomputable def ay.L0.E:=bP.cq ay.L0.st ay.L0.aC ay.L0.add ay.L0.F ay.L0.out
noncomputable def ay.L0.call:ay.L0.D→Option ay.L0.X:=cX ay.L0.E ay.L0.st
noncomputable def ay.L1.E:=bP.cq ay.L1.st ay.L1.aC ay.L1.add ay.L1.F ay.L1.out
noncomputable def ay.L1.call:ay.L1.D→Option ay.L1.X:=cX ay.L1.E ay.L1.st
noncomputable def ay.an:eO:= {loops:=j7 [(3,{bm:=[0,3,9,10,11]}),(11,{bm:=[6,25,26,27],sites:=[24],ij:=[⟨6,[],24,140⟩]})],outs:=j6 [(3,{bm:=[0,3]},{bm:=[2]}),(11,{bm:=[6],sites:=[24]},{bm:=[2]})],fJ:=kW [(3,ay.L0.E),(11,ay.L1.E)],res:=[some tB]}
noncomputable def ay.A:= @cZ Tryz.prog ay.G ay.an 0 Tryz.f203 _ ay.st
abbrev ay.Ok:=da @ay.A ay.aC ay.add ay.F ay.out
noncomputable def ay.L0.R:= @bX Tryz.prog ay.G ay.an 0 Tryz.f203 0 _ ay.L0.st
abbrev ay.L0.Ok:=ej Tryz.prog ay.G ay.an 0 Tryz.f203 0 ay.L0.st ay.L0.aC ay.L0.add ay.L0.F ay.L0.out
noncomputable def ay.L1.R:= @bX Tryz.prog ay.G ay.an 0 Tryz.f203 1 _ ay.L1.st
abbrev ay.L1.Ok:=ej Tryz.prog ay.G ay.an 0 Tryz.f203 1 ay.L1.st ay.L1.aC ay.L1.add ay.L1.F ay.L1.out
theorem ay.L0.run:bK ay.L0.call ay.L0.aC ay.L0.add ay.L0.F:=eG (eC [.d (.slice tB),.d ti,.d (.slice tB),.d ti,.d ti] fun _=>by kernel_rfl)
theorem ay.L0.aD:fN @ay.L0.R ay.L0.st ay.L0.aC ay.L0.add ay.L0.F ay.L0.bj ay.L0.Ok:=fU
theorem ay.L0.step{R:Type}(slices_2:(List Bs))(size:Int)(t9:(List Bs))(t10:Int)(t11:Int)(kn:AS→Option R)(kx:Exit→AS→Option R):ay.L0.R (slices_2,size,t9,t10,t11) kn kx=
  aJ ((fX t11 t10)) (
   aJ (eJ t11 (((List.length t9):Nat):Int)) (
   aJ ((fX (bN .i64 size (((List.length (nth tB t9 (Int.toNat t11))):Nat):Int)) (0:Int))) (
    none) (
    kn (ay.L0.st (slices_2,(bN .i64 size (((List.length (nth tB t9 (Int.toNat t11))):Nat):Int)),t9,t10,(bN .i64 t11 (1:Int)))))) none) (
   kx (ay.L0.bj (slices_2,size)).1 (ay.L0.bj (slices_2,size)).2):=by kernel_rfl
theorem ay.L1.run:bK ay.L1.call ay.L1.aC ay.L1.add ay.L1.F:=eG (eC [.n,.d (.slice tB),.d ti,.d ti,.d tB] fun _=>by kernel_rfl)
theorem ay.L1.aD:fN @ay.L1.R ay.L1.st ay.L1.aC ay.L1.add ay.L1.F ay.L1.bj ay.L1.Ok:=fU
theorem ay.L1.step{R:Type}(newsliceL:Nat)(t25:(List Bs))(t26:Int)(t27:Int)(n24:(List Int))(kn:AS→Option R)(kx:Exit→AS→Option R):ay.L1.R (newsliceL,t25,t26,t27,n24) kn kx=
  aJ ((fX t27 t26)) (
   aJ (eJ t27 (((List.length t25):Nat):Int)) (
   aJ (decide (newsliceL≤(List.length n24))) (
   aJ (dq (newsliceL+(List.length (nth tB t25 (Int.toNat t27)))) 1) (
   kn (ay.L1.st ((newsliceL+(List.length (nth tB t25 (Int.toNat t27)))),t25,t26,(bN .i64 t27 (1:Int)),((List.take newsliceL n24)++(nth tB t25 (Int.toNat t27)))))) none) none) none) (
   kx (ay.L1.bj (newsliceL,n24)).1 (ay.L1.bj (newsliceL,n24)).2):=by kernel_rfl
theorem ay.eq{R:Type}(slices:(List Bs))(k:bk→Option R):ay.A slices k=
 ah (ay.L0.call (slices,(0:Int),slices,(((List.length slices):Nat):Int),(0:Int))) fun x1=>
 ah (eh.call x1.2) fun x2=>
 ah (ay.L1.call (x2.1,x1.1,(((List.length x1.1):Nat):Int),(0:Int),x2.2)) fun x3=>
 aJ (decide (0=0∧(0+x3.1)≤(List.length x3.2))) (
 k (ay.out (cut x3.2 0 x3.1))) none:=by kernel_rfl
theorem AV(s:List (List Int))(k:Nat)(h:k < s.length):jP (s.drop k)=s[k].length+jP (s.drop (k+1)):=by
 unfold jP
 rw[List.drop_eq_getElem_cons h,List.flatten_cons,List.length_append]
theorem ay.L0.ok:ay.L0.Ok:=by
 refine ay.L0.aD (fun(s,size,t,n,i)=>s.length - i.toNat) ?_
 rintro⟨s,size,t,n,i⟩ ⟨hs,rfl,rfl,k,z,hk,rfl,rfl,hz⟩
 have hs:t.length≤1000000:=hs
 have hk:k≤t.length:=hk
 have hz:z+jP (t.drop k)≤100000000:=hz
 by_cases h:k < t.length
 ·left
  have n1:nth (.slice (.int .u8)) t k=t[k]:=cm (t:= .slice (.int .u8)) h
  have hd:=AV t k h
  refine⟨(t,((z+t[k].length:Nat):Int),t,t.length,((k+1:Nat):Int)),⟨hs,rfl,rfl,k+1,z+t[k].length,by omega,rfl,rfl,by omega⟩,by simp only[Int.toNat_natCast];omega,?_,fun kn kx=> ?_⟩
  ·simp only[ay.L0.add,ay.L0.F,Int.toNat_natCast]
   rw[hd]
   refine congrArg _ ?_
   omega
  ·rw[ay.L0.step]
   simp(disch:=omega) only[↓S1,↓if_pos,↓if_neg,if_pos,if_neg,if_true,if_false,S2,n1]
 ·right
  obtain rfl:k=t.length:=by omega
  intro R kn kx
  rw[ay.L0.step]
  simp(disch:=omega) only[↓S1,↓if_pos,↓if_neg,if_pos,if_neg,if_true,if_false,S2,ay.L0.add,ay.L0.F,List.drop_length]
  simp only[jP,List.flatten_nil,List.length_nil,Int.natCast_zero,Int.add_zero]
theorem ay.L1.ok:ay.L1.Ok:=by
 refine ay.L1.aD (fun(n,s,t,i,l)=>s.length - i.toNat) ?_
 rintro⟨n,s,t,i,l⟩ ⟨hs,hn,rfl,k,hk,rfl,hz⟩
 have hs:s.length≤1000000:=hs
 have hn:n≤l.length:=hn
 have hk:k≤s.length:=hk
 have hz:n+jP (s.drop k)≤100000000:=hz
 by_cases h:k < s.length
 ·left
  have n1:nth (.slice (.int .u8)) s k=s[k]:=cm (t:= .slice (.int .u8)) h
  have hd:=AV s k h
  refine⟨(n+s[k].length,s,s.length,((k+1:Nat):Int),l.take n++s[k]),⟨hs,by rw[List.length_append,List.length_take];omega,rfl,k+1,by omega,rfl,by omega⟩,by simp only[Int.toNat_natCast];omega,?_,fun kn kx=> ?_⟩
  ·simp only[ay.L1.add,ay.L1.F,Int.toNat_natCast]
   rw[List.drop_eq_getElem_cons h,Bz _ _ _ _ hn]
  ·rw[ay.L1.step]
   simp(disch:=omega) only[↓S1,↓if_pos,↓if_neg,if_pos,if_neg,if_true,if_false,S2,n1]
 ·right
  obtain rfl:k=s.length:=by omega
  intro R kn kx
  rw[ay.L1.step]
  simp(disch:=omega) only[↓S1,↓if_pos,↓if_neg,if_pos,if_neg,if_true,if_false,S2,ay.L1.add,ay.L1.F,List.drop_length]
  rfl
theorem ay.ok:ay.Ok:=by
 rintro s ⟨hs,hz⟩
 have hs:s.length≤1000000:=hs
 have hz:jP s≤100000000:=hz
 have p1:ay.L0.aC (s,0,s,s.length,0):=⟨hs,rfl,rfl,0,0,by omega,rfl,rfl,by rw[List.drop_zero];omega⟩
 have p2:ay.L1.aC (0,s,s.length,0,List.replicate (jP s) 0):=⟨hs,by omega,rfl,0,by omega,rfl,by rw[List.drop_zero];omega⟩
 rw[ay.eq,ay.L0.run p1]
 simp only[aa,ay.L0.add,ay.L0.F,Int.toNat_zero,List.drop_zero,Int.zero_add]
 rw[eh.run (d:=((jP s:Nat):Int)) ⟨jP s,rfl,hz⟩]
 simp only[aa,eh.add,eh.F,Int.toNat_natCast]
 rw[ay.L1.run p2]
 simp only[aa,ay.L1.add,ay.L1.F,Int.toNat_zero,List.drop_zero]
 obtain⟨c1,c2⟩:=EA 0 (List.replicate (jP s) 0) s
 simp only[Nat.zero_add,c1,and_self,decide_true,ag,c2]
 rfl
noncomputable def ay.E:=Entry.cq [some (.slice tB)] ay.st ay.aC ay.add ay.F ay.out
noncomputable def ay.call:ay.D→Option ay.X:=bT ay.E ay.st
theorem ay.run:bK ay.call ay.aC ay.add ay.F:=dh (de [.d (.slice tB)] fun _=>by kernel_rfl)
noncomputable def ay.sg:SG Tryz.prog:=⟨203,aY,ay.E,.fn 2 (by kernel_rfl) ay.ok (And.intro (.cq ay.L0.ok (by kernel_rfl)) (And.intro (.cq ay.L1.ok (by kernel_rfl)) trivial))⟩
abbrev dA.D:=Bs×Bs
def dA.st:dA.D→SA:=fun(b,more)=>([.d tB b,.d tB more],[])
abbrev dA.Y:=Bs
abbrev dA.X:=Bs
def dA.out:dA.X→bk:=fun x=>⟨.d tB x,[],[]⟩
def dA.add:dA.D→dA.Y→dA.X:=fun(b,more) y=>y
def dA.aC:dA.D→Prop:=fun(a,b)=>a.length+b.length≤100000000
def dA.F:dA.D→dA.Y:=fun(a,b)=>a++b
noncomputable def dA.G:dZ:=fh (P:=Tryz.prog) [ay.sg]
noncomputable def dA.an:eO:= {}
noncomputable def dA.A:= @cZ Tryz.prog dA.G dA.an 0 Tryz.f179 _ dA.st
abbrev dA.Ok:=da @dA.A dA.aC dA.add dA.F dA.out
theorem dA.eq{R:Type}(b:Bs)(more:Bs)(k:bk→Option R):dA.A (b,more) k=
 ah (ay.call [b,more]) fun x1=>
 k (dA.out x1):=by kernel_rfl
theorem dA.ok:dA.Ok:=by
 rintro⟨a,b⟩ h
 have h:a.length+b.length≤100000000:=h
 rw[dA.eq,ay.run (d:=[a,b]) ⟨by show [a,b].length≤_;simp,by show jP [a,b]≤_;simp only[jP,List.flatten_cons,List.flatten_nil,List.append_nil,List.length_append];omega⟩]
 simp only[aa,ay.add,ay.F,dA.add,dA.F,List.flatten_cons,List.flatten_nil,List.append_nil]
noncomputable def dA.E:=Entry.cq [some tB,some tB] dA.st dA.aC dA.add dA.F dA.out
noncomputable def dA.call:dA.D→Option dA.X:=bT dA.E dA.st
theorem dA.run:bK dA.call dA.aC dA.add dA.F:=dh (de [.d tB,.d tB] fun _=>by kernel_rfl)
noncomputable def dA.sg:SG Tryz.prog:=⟨179,aY,dA.E,.fn 0 (by kernel_rfl) dA.ok trivial⟩
set_option synthInstance.maxSize 5000
def gF:Nat→Int→List Int×Int
 | 0,n=>([],n)
 |f+1,n=>if 128≤n then((n%128+128)::(gF f (n / 128)).1,(gF f (n / 128)).2) else([],n)
def mg(n:Int):List Int:=(gF 10 n).1++ [(gF 10 n).2]
theorem rI:∀(f g:Nat) (n:Int),n < 128^(f+1)→n < 128^(g+1)→gF f n=gF g n
 | 0,0,n,_,_=>rfl
 | 0,g+1,n,h,_=>by
  have h:n < 128:=h
  rw[gF,gF,if_neg (by omega)]
 |f+1,0,n,_,h=>by
  have h:n < 128:=h
  rw[gF,gF,if_neg (by omega)]
 |f+1,g+1,n,h,h'=>by
  rw[gF,gF]
  split
  ·have e:(128:Int)^(f+1+1)=128^(f+1)*128:=Int.pow_succ 128 (f+1)
   have e':(128:Int)^(g+1+1)=128^(g+1)*128:=Int.pow_succ 128 (g+1)
   rw[rI f g (n / 128) (by omega) (by omega)]
  ·rfl
theorem ug:∀(f:Nat) (n:Int),(gF f n).1.length≤f
 | 0,_=>Nat.le_refl _
 |f+1,n=>by
  rw[gF]
  split
  ·have:=ug f (n / 128)
   simp only[List.length_cons];omega
  ·exact Nat.zero_le _
theorem vQ:∀(f:Nat) (n:Int),0≤n→n < 128^(f+1)→0≤(gF f n).2∧(gF f n).2 < 128
 | 0,n,h,h'=>by have h':n < 128:=h';exact⟨h,h'⟩
 |f+1,n,h,h'=>by
  rw[gF]
  have e:(128:Int)^(f+1+1)=128^(f+1)*128:=Int.pow_succ 128 (f+1)
  split
  ·exact vQ f (n / 128) (by omega) (by omega)
  ·exact⟨h,by omega⟩
theorem B9{n:Int}(h:128≤n)(h2:n≤9223372036854775807):gF 10 n=((n%128+128)::(gF 10 (n / 128)).1,(gF 10 (n / 128)).2):=by
 have e:(128:Int)^(9+1)=1180591620717411303424:=rfl
 have e2:(128:Int)^(10+1)=151115727451828646838272:=rfl
 rw[gF,if_pos h,rI 9 10 (n / 128) (by rw[e];omega) (by rw[e2];omega)]
theorem qM(n:Int):(mg n).length≤11:=by
 have:=ug 10 n
 unfold mg
 simp only[List.length_append,List.length_cons,List.length_nil];omega
def xp(n:Int):Prop:=0≤n∧n≤9223372036854775807
abbrev cG.L0.D:=Int×Nat×(List Int)
def cG.L0.st:cG.L0.D→AS:=fun(n_2,outL,n14)=>⟨([.d ti n_2,.undef,.undef,.bI (.new 14 0) 0 [] 0 0 outL]++ba 16 []),[],(bE 14 ([[.obj 0 false (.vec 5 tb n14)]]++bE 5 []))⟩
abbrev cG.L0.Y0:=Int×Nat×(List Int)
abbrev cG.L0.X0:=Int×Nat×(List Int)
def cG.L0.bj:cG.L0.X0→Exit×AS:=fun x=>(.exit 0,⟨([.d ti x.1,.undef,.undef,.bI (.new 14 0) 0 [] 0 0 x.2.1]++ba 16 []),[],(bE 14 ([[.obj 0 false (.vec 5 tb x.2.2)]]++bE 5 []))⟩)
abbrev cG.L0.X:=cG.L0.X0
abbrev cG.L0.Y:=cG.L0.Y0
def cG.L0.out:cG.L0.X→Out (Exit×AS):=fun x=> .ok (cG.L0.bj x)
def cG.L0.add:cG.L0.D→cG.L0.Y→cG.L0.X:=fun(n_2,outL,n14) y=>y
abbrev cG.D:=Int
def cG.st:cG.D→SA:=fun n=>([.d ti n],[])
abbrev cG.Y:=Bs
abbrev cG.X:=Bs
def cG.out:cG.X→bk:=fun x=>⟨.d tB x,[],[]⟩
def cG.add:cG.D→cG.Y→cG.X:=fun n y=>y
def cG.L0.aC:cG.L0.D→Prop:=fun(n,m,l)=>xp n∧m=l.length∧l.length≤1000+0*n.toNat∧l.length+(gF 10 n).1.length≤100
def cG.L0.F:cG.L0.D→cG.L0.Y:=fun(n,m,l)=>((gF 10 n).2,(l++(gF 10 n).1).length,l++(gF 10 n).1)
def cG.aC:cG.D→Prop:=fun n=>xp n
def cG.F:cG.D→cG.Y:=fun n=>mg n
noncomputable def cG.G:dZ:=fh (P:=Tryz.prog) []
noncomputable def cG.L0.E:=bP.cq cG.L0.st cG.L0.aC cG.L0.add cG.L0.F cG.L0.out
noncomputable def cG.L0.call:cG.L0.D→Option cG.L0.X:=cX cG.L0.E cG.L0.st
noncomputable def cG.an:eO:= {loops:=j7 [(2,{bm:=[0,3],sites:=[14],ij:=[⟨3,[],14,140⟩]})],outs:=j6 [(2,{bm:=[0,3],sites:=[14]},{bm:=[2]})],fJ:=kW [(2,cG.L0.E)],res:=[some tB]}
noncomputable def cG.A:= @cZ Tryz.prog cG.G cG.an 0 Tryz.f180 _ cG.st
abbrev cG.Ok:=da @cG.A cG.aC cG.add cG.F cG.out
noncomputable def cG.L0.R:= @bX Tryz.prog cG.G cG.an 0 Tryz.f180 0 _ cG.L0.st
abbrev cG.L0.Ok:=ej Tryz.prog cG.G cG.an 0 Tryz.f180 0 cG.L0.st cG.L0.aC cG.L0.add cG.L0.F cG.L0.out
theorem cG.L0.run:bK cG.L0.call cG.L0.aC cG.L0.add cG.L0.F:=eG (eC [.d ti,.n,.d tB] fun _=>by kernel_rfl)
theorem cG.L0.aD:fN @cG.L0.R cG.L0.st cG.L0.aC cG.L0.add cG.L0.F cG.L0.bj cG.L0.Ok:=fU
theorem cG.L0.step{R:Type}(n_2:Int)(outL:Nat)(n14:(List Int))(kn:AS→Option R)(kx:Exit→AS→Option R):cG.L0.R (n_2,outL,n14) kn kx=
  aJ ((nS n_2 (128:Int))) (
   aJ (decide (outL≤(List.length n14))) (
   aJ (dq (outL+1) 1) (
   kn (cG.L0.st ((lV .i64 n_2 (128:Int)),(outL+1),((List.take outL n14)++ [(dM .u8 (bN .i64 (jI n_2 (128:Int)) (128:Int)))])))) none) none) (
   kx (cG.L0.bj (n_2,outL,n14)).1 (cG.L0.bj (n_2,outL,n14)).2):=by kernel_rfl
theorem cG.eq{R:Type}(n:Int)(k:bk→Option R):cG.A n k=
 ah (cG.L0.call (n,0,([]:List Int))) fun x1=>
 aJ (decide (x1.2.1≤(List.length x1.2.2))) (
 aJ (dq (x1.2.1+1) 1) (
 aJ (decide (0=0∧(0+(x1.2.1+1))≤(List.length ((List.take x1.2.1 x1.2.2)++ [(dM .u8 x1.1)])))) (
 k (cG.out (cut ((List.take x1.2.1 x1.2.2)++ [(dM .u8 x1.1)]) 0 (x1.2.1+1)))) none) none) none:=by kernel_rfl
theorem CU{n:Int}(h:xp n):dM .u8 (bN .i64 (jI n 128) 128)=n%128+128:=by
 have h1:=h.1
 rw[oP h.1,fK (by omega) (by omega),tx,fY]
 omega
theorem cG.L0.ok:cG.L0.Ok:=by
 refine cG.L0.aD (fun(n,m,l)=>n.toNat) ?_
 rintro⟨n,m,l⟩ ⟨hn,rfl,hl,hz⟩
 have hn:xp n:=hn
 have hz:l.length+(gF 10 n).1.length≤100:=hz
 have h1:=hn.1
 have h2:=hn.2
 by_cases h:128≤n
 ·left
  have e:=B9 h h2
  have hq:lV .i64 n 128=n / 128:=by
   rw[lV,Int.tdiv_eq_ediv_of_nonneg h1]
   exact jN (by omega) (by omega)
  have el:((n%128+128)::(gF 10 (n / 128)).1).length=(gF 10 (n / 128)).1.length+1:=List.length_cons
  rw[e]at hz
  have hz:l.length+((n%128+128)::(gF 10 (n / 128)).1).length≤100:=hz
  rw[el]at hz
  refine⟨(n / 128,l.length+1,l++ [n%128+128]),⟨⟨by omega,by omega⟩,by rw[List.length_append];rfl,by rw[List.length_append];simp only[List.length_cons,List.length_nil];omega,by rw[List.length_append];simp only[List.length_cons,List.length_nil];omega⟩,by simp only[];omega,?_,fun kn kx=> ?_⟩
  ·simp only[cG.L0.add,cG.L0.F,e,List.append_assoc,List.cons_append,List.nil_append]
  ·rw[cG.L0.step,gl h,CU hn,hq]
   simp(disch:=omega) only[↓S1,↓if_pos,↓if_neg,if_pos,if_neg,if_true,if_false,S2,Nat.le_refl,List.take_length]
 ·right
  have e:gF 10 n=([],n):=by rw[gF,if_neg h]
  intro R kn kx
  rw[cG.L0.step,eX h]
  simp only[ai,cG.L0.add,cG.L0.F,e,List.append_nil]
theorem cG.ok:cG.Ok:=by
 intro n hn
 have hn:xp n:=hn
 have hl:=ug 10 n
 have e2:(128:Int)^(10+1)=151115727451828646838272:=rfl
 have hd:=vQ 10 n hn.1 (by have:=hn.2;rw[e2];omega)
 have p:cG.L0.aC (n,0,[]):=⟨hn,rfl,by simp,by simp only[List.length_nil];omega⟩
 have hi:dM .u8 (gF 10 n).2=(gF 10 n).2:=by rw[tx,fY];omega
 rw[cG.eq,cG.L0.run p]
 simp only[aa,cG.L0.add,cG.L0.F,List.nil_append,hi,List.take_length,Nat.le_refl,decide_true,ag]
 rw[ed (by omega) (by omega)]
 simp only[ag,Nat.zero_add,List.length_append,List.length_cons,List.length_nil,Nat.le_refl,and_self,decide_true]
 rw[fc (by rw[List.length_append];rfl)]
 rfl
noncomputable def cG.E:=Entry.cq [some ti] cG.st cG.aC cG.add cG.F cG.out
noncomputable def cG.call:cG.D→Option cG.X:=bT cG.E cG.st
theorem cG.run:bK cG.call cG.aC cG.add cG.F:=dh (de [.d ti] fun _=>by kernel_rfl)
noncomputable def cG.sg:SG Tryz.prog:=⟨180,aY,cG.E,.fn 1 (by kernel_rfl) cG.ok (And.intro (.cq cG.L0.ok (by kernel_rfl)) trivial)⟩
def eL(b:List Int)(n:Int):List Int:=if n < 0 then b else b++mg n
theorem fq(b:List Int)(n:Int):(eL b n).length≤b.length+11:=by
 unfold eL
 have:=qM n
 split
 ·omega
 ·rw[List.length_append];omega
abbrev dG.D:=Bs×Int
def dG.st:dG.D→SA:=fun(b,n)=>([.d tB b,.d ti n],[])
abbrev dG.Y:=Bs
abbrev dG.X:=Bs
def dG.out:dG.X→bk:=fun x=>⟨.d tB x,[],[]⟩
def dG.add:dG.D→dG.Y→dG.X:=fun(b,n) y=>y
def dG.aC:dG.D→Prop:=fun(b,n)=>b.length≤90000000∧n≤9223372036854775807
def dG.F:dG.D→dG.Y:=fun(b,n)=>eL b n
noncomputable def dG.G:dZ:=fh (P:=Tryz.prog) [dA.sg,cG.sg]
noncomputable def dG.an:eO:= {}
noncomputable def dG.A:= @cZ Tryz.prog dG.G dG.an 0 Tryz.f123 _ dG.st
abbrev dG.Ok:=da @dG.A dG.aC dG.add dG.F dG.out
theorem dG.eq{R:Type}(b:Bs)(n:Int)(k:bk→Option R):dG.A (b,n) k=
  aJ ((fX n (0:Int))) (
   ah (dA.call (b,([]:List Int))) fun x1=>
   k (dG.out x1)) (
   ah (cG.call n) fun x2=>
   ah (dA.call (b,x2)) fun x3=>
   k (dG.out x3)):=by kernel_rfl
theorem dG.ok:dG.Ok:=by
 rintro⟨b,n⟩ ⟨hb,hn⟩
 have hb:b.length≤90000000:=hb
 have hn:n≤9223372036854775807:=hn
 rw[dG.eq]
 simp only[dG.add,dG.F,eL]
 by_cases h:n < 0
 ·rw[bq h,if_pos h,ag,dA.run (d:=(b,[])) (by show b.length+([]:List Int).length≤_;simp only[List.length_nil];omega)]
  simp only[aa,dA.add,dA.F,List.append_nil]
 ·have hl:=qM n
  rw[bg h,if_neg h,ai,cG.run (d:=n) ⟨by omega,hn⟩]
  simp only[aa,cG.add,cG.F]
  rw[dA.run (d:=(b,mg n)) (by show b.length+(mg n).length≤_;omega)]
  rfl
noncomputable def dG.E:=Entry.cq [some tB,some ti] dG.st dG.aC dG.add dG.F dG.out
noncomputable def dG.call:dG.D→Option dG.X:=bT dG.E dG.st
theorem dG.run:bK dG.call dG.aC dG.add dG.F:=dh (de [.d tB,.d ti] fun _=>by kernel_rfl)
noncomputable def dG.sg:SG Tryz.prog:=⟨123,aY,dG.E,.fn 0 (by kernel_rfl) dG.ok trivial⟩
abbrev dx.D:=Bs×Int
def dx.st:dx.D→SA:=fun(b,n)=>([.d tB b,.d tu n],[])
abbrev dx.Y:=Bs
abbrev dx.X:=Bs
def dx.out:dx.X→bk:=fun x=>⟨.d tB x,[],[]⟩
def dx.add:dx.D→dx.Y→dx.X:=fun(b,n) y=>y
def dx.aC:dx.D→Prop:=fun(b,n)=>b.length≤90000000
def dx.F:dx.D→dx.Y:=fun(b,n)=>b++ik n
noncomputable def dx.G:dZ:=fh (P:=Tryz.prog) [dA.sg]
noncomputable def dx.an:eO:= {loops:=j7 [(3,{bm:=[0,1,5,7],sites:=[5,21]})],outs:=j6 [(3,{bm:=[0,5],sites:=[5,21]},{bm:=[4],sites:=[5,21]})]}
noncomputable def dx.A:= @cZ Tryz.prog dx.G dx.an 12 Tryz.f191 _ dx.st
abbrev dx.Ok:=da @dx.A dx.aC dx.add dx.F dx.out
theorem dx.eq{R:Type}(b:Bs)(n:Int)(k:bk→Option R):dx.A (b,n) k=
 ah (dA.call (b,[(dM .u8 (bV .u64 n (56:Int))),(dM .u8 (bV .u64 n (48:Int))),(dM .u8 (bV .u64 n (40:Int))),(dM .u8 (bV .u64 n (32:Int))),(dM .u8 (bV .u64 n (24:Int))),(dM .u8 (bV .u64 n (16:Int))),(dM .u8 (bV .u64 n (8:Int))),(dM .u8 (bV .u64 n (0:Int)))])) fun x1=>
 k (dx.out x1):=by kernel_rfl
theorem dx.ok:dx.Ok:=by
 rintro⟨b,n⟩ hb
 have hb:b.length≤90000000:=hb
 have p:dA.aC (b,ik n):=by show b.length+(ik n).length≤_;rw[bY];omega
 have e:dA.call (b,[dM .u8 (bV .u64 n 56),dM .u8 (bV .u64 n 48),dM .u8 (bV .u64 n 40),dM .u8 (bV .u64 n 32),dM .u8 (bV .u64 n 24),dM .u8 (bV .u64 n 16),dM .u8 (bV .u64 n 8),dM .u8 (bV .u64 n 0)])=some (b++ik n):=by
  rw[xG];exact dA.run p
 rw[dx.eq]
 refine Eq.trans (congrArg (fun x=>ah x _) e) ?_
 rfl
noncomputable def dx.E:=Entry.cq [some tB,some tu] dx.st dx.aC dx.add dx.F dx.out
noncomputable def dx.call:dx.D→Option dx.X:=bT dx.E dx.st
theorem dx.run:bK dx.call dx.aC dx.add dx.F:=dh (de [.d tB,.d tu] fun _=>by kernel_rfl)
noncomputable def dx.sg:SG Tryz.prog:=⟨191,aY,dx.E,.fn 1 (by kernel_rfl) dx.ok (And.intro (.none (by kernel_rfl)) trivial)⟩
set_option synthInstance.maxSize 5000
def nQ(w:oY):Bool:=decide (0≤w.1∧w.1 < 4) && decide (w.2.1.length≤12)
def tz(x:fZ):Bool:=decide (0≤x.1.2.1∧x.1.2.1 < 64) && nQ x.2.1
def r0(m:List (cR×Bool))(x:fZ):Bool:=(cO cj x.1 m).getD false
def qk:List (cR×Bool)→List fZ→Bool
 |_,[]=>true
 |m,x::l=>(!(r0 m x) && tz x) && qk (fT cj x.1 true m) l
def og(a:Int):Bool:=decide (0≤a∧a≤1125899906842624)
def pW(a b:Int):Bool:=og a && (og b && decide (a+b≤1125899906842624))
def nw:Int→List fu→Bool
 |_,[]=>true
 |s,o::l=>(pW s o.1 && jJ o.2.1) && nw (s+o.1) l
def xj(t:eT):Bool:=decide (1≤t.1.length∧t.1.length≤64∧t.2.1.length≤64∧0≤t.2.2.1)
def gD(t:eT):Bool:=xj t && (qk [] t.1 && nw 0 t.2.1)
def FO(l:Lk):Prop:=Cm l∧l.1.length≤9223372036854775807
def HX(t:eT):Prop:=(∀o∈t.2.1,FO o.2.1)∧t.1.length≤9223372036854775807∧t.2.1.length≤9223372036854775807
abbrev ff.D:=oY
def ff.st:ff.D→SA:=fun wv=>([.d vV wv],[])
abbrev ff.Y:=Bool
abbrev ff.X:=Bool
def ff.out:ff.X→bk:=fun x=>⟨.d .bool x,[],[]⟩
def ff.add:ff.D→ff.Y→ff.X:=fun wv y=>y
def ff.aC:ff.D→Prop:=fun _=>True
def ff.F:ff.D→ff.Y:=fun w=>nQ w
noncomputable def ff.G:dZ:=fh (P:=Tryz.prog) []
noncomputable def ff.an:eO:= {}
noncomputable def ff.A:= @cZ Tryz.prog ff.G ff.an 0 Tryz.f67 _ ff.st
abbrev ff.Ok:=da @ff.A ff.aC ff.add ff.F ff.out
theorem ff.eq{R:Type}(wv:oY)(k:bk→Option R):ff.A wv k=
  aJ ((nS wv.1 (0:Int))) (
   aJ ((fX wv.1 (4:Int))) (
    k (ff.out (BL (((List.length wv.2.1):Nat):Int) (12:Int)))) (
    k (ff.out false))) (
   k (ff.out false)):=by kernel_rfl
theorem ff.ok:ff.Ok:=by
 rintro⟨b,ss,sc,u⟩ _
 rw[ff.eq]
 simp only[ff.add,ff.F,nQ]
 by_cases h:0≤b
 ·rw[gl h,ag]
  by_cases h2:b < 4
  ·rw[bq h2,ag,aX ⟨h,h2⟩]
   by_cases h3:ss.length≤12
   ·rw[mQ (by omega),aX h3];rfl
   ·rw[ki (by omega),bz h3];rfl
  ·rw[bg h2,ai,bz (fun x=>h2 x.2)];rfl
 ·rw[eX h,ai,bz (fun x=>h x.1)];rfl
noncomputable def ff.E:=Entry.cq [some vV] ff.st ff.aC ff.add ff.F ff.out
noncomputable def ff.call:ff.D→Option ff.X:=bT ff.E ff.st
theorem ff.run:bK ff.call ff.aC ff.add ff.F:=dh (de [.d vV] fun _=>by kernel_rfl)
noncomputable def ff.sg:SG Tryz.prog:=⟨67,aY,ff.E,.fn 0 (by kernel_rfl) ff.ok trivial⟩
abbrev dd.D:=Int
def dd.st:dd.D→SA:=fun a=>([.d ti a],[])
abbrev dd.Y:=Bool
abbrev dd.X:=Bool
def dd.out:dd.X→bk:=fun x=>⟨.d .bool x,[],[]⟩
def dd.add:dd.D→dd.Y→dd.X:=fun a y=>y
def dd.aC:dd.D→Prop:=fun _=>True
def dd.F:dd.D→dd.Y:=fun a=>og a
noncomputable def dd.G:dZ:=fh (P:=Tryz.prog) []
noncomputable def dd.an:eO:= {}
noncomputable def dd.A:= @cZ Tryz.prog dd.G dd.an 0 Tryz.f194 _ dd.st
abbrev dd.Ok:=da @dd.A dd.aC dd.add dd.F dd.out
theorem dd.eq{R:Type}(a:Int)(k:bk→Option R):dd.A a k=
  aJ ((nS a (0:Int))) (
   k (dd.out (BL a (1125899906842624:Int)))) (
   k (dd.out false)):=by kernel_rfl
theorem dd.ok:dd.Ok:=by
 intro(a:Int) _
 rw[dd.eq]
 simp only[dd.add,dd.F,og]
 by_cases h:0≤a
 ·rw[gl h,ag]
  by_cases h2:a≤1125899906842624
  ·rw[mQ h2,aX ⟨h,h2⟩]
  ·rw[ki h2,bz (fun x=>h2 x.2)]
 ·rw[eX h,ai,bz (fun x=>h x.1)]
noncomputable def dd.E:=Entry.cq [some ti] dd.st dd.aC dd.add dd.F dd.out
noncomputable def dd.call:dd.D→Option dd.X:=bT dd.E dd.st
theorem dd.run:bK dd.call dd.aC dd.add dd.F:=dh (de [.d ti] fun _=>by kernel_rfl)
noncomputable def dd.sg:SG Tryz.prog:=⟨194,aY,dd.E,.fn 0 (by kernel_rfl) dd.ok trivial⟩
abbrev fp.D:=Int×Int
def fp.st:fp.D→SA:=fun(a,b)=>([.d ti a,.d ti b],[])
abbrev fp.Y:=Int×Bool
abbrev fp.X:=Int×Bool
def fp.out:fp.X→bk:=fun x=>⟨.cons (.d ti x.1) (.cons (.d .bool x.2) (.nil)),[],[]⟩
def fp.add:fp.D→fp.Y→fp.X:=fun(a,b) y=>y
def fp.aC:fp.D→Prop:=fun _=>True
def fp.F:fp.D→fp.Y:=fun(a,b)=>(bif pW a b then a+b else 0,pW a b)
noncomputable def fp.G:dZ:=fh (P:=Tryz.prog) [dd.sg]
noncomputable def fp.an:eO:= {}
noncomputable def fp.A:= @cZ Tryz.prog fp.G fp.an 0 Tryz.f132 _ fp.st
abbrev fp.Ok:=da @fp.A fp.aC fp.add fp.F fp.out
theorem fp.eq{R:Type}(a:Int)(b:Int)(k:bk→Option R):fp.A (a,b) k=
  ah (dd.call a) fun x1=>
  aJ ((!x1)) (
   k (fp.out ((0:Int),false))) (
   ah (dd.call b) fun x2=>
   aJ ((!x2)) (
    k (fp.out ((0:Int),false))) (
    aJ ((mP a (cH .i64 (1125899906842624:Int) b))) (
     k (fp.out ((0:Int),false))) (
     k (fp.out ((bN .i64 a b),true))))):=by kernel_rfl
theorem fp.ok:fp.Ok:=by
 rintro⟨a,b⟩ _
 rw[fp.eq,dd.run (d:=a) trivial,dd.run (d:=b) trivial]
 simp only[aa,dd.add,dd.F,fp.add,fp.F,pW]
 cases ha:og a
 ·rfl
 ·cases hb:og b
  ·rfl
  ·simp only[og,decide_eq_true_eq]at ha hb
   simp only[Bool.not_true,ai,Bool.true_and]
   rw[eK (by omega) (by omega)]
   by_cases h:a+b≤1125899906842624
   ·rw[db (by omega),ai,aX h,fK (by omega) (by omega)];rfl
   ·rw[dy (by omega),ag,bz h];rfl
noncomputable def fp.E:=Entry.cq [some ti,some ti] fp.st fp.aC fp.add fp.F fp.out
noncomputable def fp.call:fp.D→Option fp.X:=bT fp.E fp.st
theorem fp.run:bK fp.call fp.aC fp.add fp.F:=dh (de [.d ti,.d ti] fun _=>by kernel_rfl)
noncomputable def fp.sg:SG Tryz.prog:=⟨132,aY,fp.E,.fn 0 (by kernel_rfl) fp.ok trivial⟩
abbrev ax.L0.D:=eT×(List fZ)×Int×Int×(List (cR×Bool))
def ax.L0.st:ax.L0.D→AS:=fun(t_2,t33,t34,t35,n31)=>⟨([.undef,.eI gf t_2,.undef,.eH (.new 31 0) 0]++ba 29 ([.d (.slice fy) t33,.d ti t34,.d ti t35]++ba 52 [])),[],(bE 31 ([[.obj 0 false (.mp cj .bool n31)]]++bE 56 []))⟩
abbrev ax.L0.Y0:=Unit
abbrev ax.L0.X0:=Unit
def ax.L0.bj:ax.L0.X0→Exit×AS:=fun x=>(.ret,⟨([.undef,.undef,.d .bool false]++ba 85 []),[],(List.replicate 88 [])⟩)
abbrev ax.L0.Y1:=Unit
abbrev ax.L0.X1:=eT
def ax.L0.e7:ax.L0.X1→Exit×AS:=fun x=>(.exit 0,⟨([.undef,.eI gf x]++ba 86 []),[],(List.replicate 88 [])⟩)
abbrev ax.L0.X:=(ax.L0.X0)⊕(ax.L0.X1)
abbrev ax.L0.Y:=(ax.L0.Y0)⊕(ax.L0.Y1)
def ax.L0.out:ax.L0.X→Out (Exit×AS):=fun x=> .br x.isLeft (.get x.getLeft? fun a=> .ok (ax.L0.bj a)) (.get x.getRight? fun b=> .ok (ax.L0.e7 b))
def ax.L0.add:ax.L0.D→ax.L0.Y→ax.L0.X:=fun(t_2,t33,t34,t35,n31) y=>match y with | .inl y=> .inl y | .inr z=> .inr (t_2)
abbrev ax.L1.D:=Int×(List fu)×Int×Int
def ax.L1.st:ax.L1.D→AS:=fun(sum,t66,t67,t68)=>⟨(ba 6 ([.d ti sum]++ba 59 ([.d (.slice eN) t66,.d ti t67,.d ti t68]++ba 19 []))),[],(List.replicate 88 [])⟩
abbrev ax.L1.Y0:=Unit
abbrev ax.L1.X0:=Unit
def ax.L1.bj:ax.L1.X0→Exit×AS:=fun x=>(.ret,⟨([.undef,.undef,.d .bool false]++ba 85 []),[],(List.replicate 88 [])⟩)
abbrev ax.L1.Y1:=Unit
abbrev ax.L1.X1:=Unit
def ax.L1.e7:ax.L1.X1→Exit×AS:=fun x=>(.exit 2,⟨(ba 88 []),[],(List.replicate 88 [])⟩)
abbrev ax.L1.X:=(ax.L1.X0)⊕(ax.L1.X1)
abbrev ax.L1.Y:=(ax.L1.Y0)⊕(ax.L1.Y1)
def ax.L1.out:ax.L1.X→Out (Exit×AS):=fun x=> .br x.isLeft (.get x.getLeft? fun a=> .ok (ax.L1.bj a)) (.get x.getRight? fun b=> .ok (ax.L1.e7 b))
def ax.L1.add:ax.L1.D→ax.L1.Y→ax.L1.X:=fun(sum,t66,t67,t68) y=>match y with | .inl y=> .inl y | .inr z=> .inr (z)
abbrev ax.D:=eT
def ax.st:ax.D→SA:=fun t=>([.d gf t],[])
abbrev ax.Y:=Bool
abbrev ax.X:=Bool
def ax.out:ax.X→bk:=fun x=>⟨.d .bool x,[],[]⟩
def ax.add:ax.D→ax.Y→ax.X:=fun t y=>y
def ax.L0.aC:ax.L0.D→Prop:=fun(t,l,n,i,m)=>l.length≤9223372036854775807∧n=l.length∧∃k:Nat,k≤l.length∧i=k
def ax.L0.F:ax.L0.D→ax.L0.Y:=fun(t,l,n,i,m)=>if qk m (l.drop i.toNat) then .inr () else .inl ()
def ax.L1.aC:ax.L1.D→Prop:=fun(s,l,n,i)=>(∀o∈l,FO o.2.1)∧l.length≤9223372036854775807∧n=l.length∧∃k:Nat,k≤l.length∧i=k
def ax.L1.F:ax.L1.D→ax.L1.Y:=fun(s,l,n,i)=>if nw s (l.drop i.toNat) then .inr () else .inl ()
def ax.aC:ax.D→Prop:=fun t=>HX t
def ax.F:ax.D→ax.Y:=fun t=>gD t
noncomputable def ax.G:dZ:=fh (P:=Tryz.prog) [ff.sg,fp.sg,aN.sg]
noncomputable def ax.L0.E:=bP.cq ax.L0.st ax.L0.aC ax.L0.add ax.L0.F ax.L0.out
noncomputable def ax.L0.call:ax.L0.D→Option ax.L0.X:=cX ax.L0.E ax.L0.st
noncomputable def ax.L1.E:=bP.cq ax.L1.st ax.L1.aC ax.L1.add ax.L1.F ax.L1.out
noncomputable def ax.L1.call:ax.L1.D→Option ax.L1.X:=cX ax.L1.E ax.L1.st
noncomputable def ax.an:eO:= {loops:=j7 [(5,{bm:=[1,3,33,34,35],sites:=[31]}),(13,{bm:=[6,66,67,68]})],outs:=j6 [(5,{bm:=[1]},{bm:=[2]}),(13,{},{bm:=[2]})],fJ:=kW [(5,ax.L0.E),(13,ax.L1.E)]}
noncomputable def ax.A:= @cZ Tryz.prog ax.G ax.an 0 Tryz.f66 _ ax.st
abbrev ax.Ok:=da @ax.A ax.aC ax.add ax.F ax.out
noncomputable def ax.L0.R:= @bX Tryz.prog ax.G ax.an 0 Tryz.f66 0 _ ax.L0.st
abbrev ax.L0.Ok:=ej Tryz.prog ax.G ax.an 0 Tryz.f66 0 ax.L0.st ax.L0.aC ax.L0.add ax.L0.F ax.L0.out
noncomputable def ax.L1.R:= @bX Tryz.prog ax.G ax.an 0 Tryz.f66 1 _ ax.L1.st
abbrev ax.L1.Ok:=ej Tryz.prog ax.G ax.an 0 Tryz.f66 1 ax.L1.st ax.L1.aC ax.L1.add ax.L1.F ax.L1.out
theorem ax.L0.run:bK ax.L0.call ax.L0.aC ax.L0.add ax.L0.F:=eG (eC [.d gf,.d (.slice fy),.d ti,.d ti,.d (.slice (.pair cj .bool))] fun _=>by kernel_rfl)
theorem ax.L0.aD:j5 @ax.L0.R ax.L0.st ax.L0.aC ax.L0.add ax.L0.F ax.L0.out ax.L0.Ok:=kf
theorem ax.L0.step{R:Type}(t_2:eT)(t33:(List fZ))(t34:Int)(t35:Int)(n31:(List (cR×Bool)))(kn:AS→Option R)(kx:Exit→AS→Option R):ax.L0.R (t_2,t33,t34,t35,n31) kn kx=
  aJ ((fX t35 t34)) (
   aJ (eJ t35 (((List.length t33):Nat):Int)) (
   aJ (((cO cj (nth fy t33 (Int.toNat t35)).1 n31).getD false)) (
    kx (ax.L0.bj ()).1 (ax.L0.bj ()).2) (
    aJ ((fX (nth fy t33 (Int.toNat t35)).1.2.1 (0:Int))) (
     kx (ax.L0.bj ()).1 (ax.L0.bj ()).2) (
     aJ ((nS (nth fy t33 (Int.toNat t35)).1.2.1 (64:Int))) (
      kx (ax.L0.bj ()).1 (ax.L0.bj ()).2) (
      ah (ff.call (nth fy t33 (Int.toNat t35)).2.1) fun x8=>
      aJ ((!x8)) (
       kx (ax.L0.bj ()).1 (ax.L0.bj ()).2) (
       kn (ax.L0.st (t_2,t33,t34,(bN .i64 t35 (1:Int)),(fT cj (nth fy t33 (Int.toNat t35)).1 true n31)))))))) none) (
   kx (ax.L0.e7 t_2).1 (ax.L0.e7 t_2).2):=by kernel_rfl
theorem ax.L1.run:bK ax.L1.call ax.L1.aC ax.L1.add ax.L1.F:=eG (eC [.d ti,.d (.slice eN),.d ti,.d ti] fun _=>by kernel_rfl)
theorem ax.L1.aD:j5 @ax.L1.R ax.L1.st ax.L1.aC ax.L1.add ax.L1.F ax.L1.out ax.L1.Ok:=kf
theorem ax.L1.step{R:Type}(sum:Int)(t66:(List fu))(t67:Int)(t68:Int)(kn:AS→Option R)(kx:Exit→AS→Option R):ax.L1.R (sum,t66,t67,t68) kn kx=
  aJ ((fX t68 t67)) (
   aJ (eJ t68 (((List.length t66):Nat):Int)) (
   ah (fp.call (sum,(nth eN t66 (Int.toNat t68)).1)) fun x10=>
   aJ ((!x10.2)) (
    kx (ax.L1.bj ()).1 (ax.L1.bj ()).2) (
    ah (aN.call (nth eN t66 (Int.toNat t68)).2.1) fun x12=>
    aJ ((!x12)) (
     kx (ax.L1.bj ()).1 (ax.L1.bj ()).2) (
     kn (ax.L1.st (x10.1,t66,t67,(bN .i64 t68 (1:Int))))))) none) (
   kx (ax.L1.e7 ()).1 (ax.L1.e7 ()).2):=by kernel_rfl
theorem ax.eq{R:Type}(t:eT)(k:bk→Option R):ax.A t k=
  aJ ((fX (((List.length t.1):Nat):Int) (1:Int))) (
   k (ax.out false)) (
   aJ ((mP (((List.length t.1):Nat):Int) (64:Int))) (
    k (ax.out false)) (
    aJ ((mP (((List.length t.2.1):Nat):Int) (64:Int))) (
     k (ax.out false)) (
     aJ ((fX t.2.2.1 (0:Int))) (
      k (ax.out false)) (
      ah (ax.L0.call (t,t.1,(((List.length t.1):Nat):Int),(0:Int),([]:List (cR×Bool)))) fun x12=>
      aJ (x12.isLeft) (
       ah (x12.getLeft?) fun a13=>
       k (ax.out false)) (
       ah (x12.getRight?) fun b14=>
       ah (ax.L1.call ((0:Int),b14.2.1,(((List.length b14.2.1):Nat):Int),(0:Int))) fun x30=>
       aJ (x30.isLeft) (
        ah (x30.getLeft?) fun a31=>
        k (ax.out false)) (
        ah (x30.getRight?) fun b32=>
        k (ax.out true))))))):=by kernel_rfl
theorem ax.L0.ok:ax.L0.Ok:=by
 refine ax.L0.aD (fun(t,l,n,i,m)=>l.length - i.toNat) ?_
 rintro⟨t,l,n,i,m⟩ ⟨hb,rfl,k,hk,rfl⟩
 have hb:l.length≤9223372036854775807:=hb
 have hk:k≤l.length:=hk
 by_cases h:k < l.length
 ·have n1:nth fy l k=l[k]:=cm (t:=fy) h
  have hd:qk m (l.drop k)=((!(r0 m l[k]) && tz l[k]) && qk (fT cj l[k].1 true m) (l.drop (k+1))):=by rw[List.drop_eq_getElem_cons h];rfl
  have step:∀ {R:Type} (kn:AS→Option R) (kx:Exit→AS→Option R),ax.L0.R (t,l,(l.length:Int),(k:Int),m) kn kx=aJ (!(r0 m l[k]) && tz l[k]) (kn (ax.L0.st (t,l,(l.length:Int),((k+1:Nat):Int),fT cj l[k].1 true m))) (kx (ax.L0.bj ()).1 (ax.L0.bj ()).2):=by
   intro R kn kx
   rw[ax.L0.step,bq (by omega),bt (by omega) (by omega),Int.toNat_natCast,n1,N.j4 (by omega),ff.run (d:=l[k].2.1) trivial]
   simp only[ag,aa,ff.add,ff.F]
   have e:(cO cj l[k].1 m).getD false=r0 m l[k]:=rfl
   rw[e]
   cases r0 m l[k]
   ·simp only[Bool.not_false,Bool.true_and,ai,tz]
    by_cases h1:l[k].1.2.1 < 0
    ·rw[bq h1,ag,bz (fun x=>by omega)];rfl
    ·rw[bg h1,ai]
     by_cases h2:64≤l[k].1.2.1
     ·rw[gl h2,ag,bz (fun x=>by omega)];rfl
     ·rw[eX h2,ai,aX ⟨by omega,by omega⟩]
      cases nQ l[k].2.1 <;> rfl
   ·rfl
  cases hp:(!(r0 m l[k]) && tz l[k])
  ·right
   refine⟨ax.L0.bj (),?_,fun kn kx=> ?_⟩
   ·simp only[ax.L0.add,ax.L0.F,Int.toNat_natCast,hd,hp,Bool.false_and,Bool.false_eq_true,if_false]
    rfl
   ·rw[step,hp,ai]
  ·left
   refine⟨(t,l,l.length,((k+1:Nat):Int),fT cj l[k].1 true m),⟨hb,rfl,k+1,by omega,rfl⟩,by simp only[Int.toNat_natCast];omega,?_,fun kn kx=> ?_⟩
   ·simp only[ax.L0.add,ax.L0.F,Int.toNat_natCast,hd,hp,Bool.true_and]
   ·rw[step,hp,ag]
 ·right
  obtain rfl:k=l.length:=by omega
  refine⟨ax.L0.e7 t,?_,fun kn kx=> ?_⟩
  ·simp only[ax.L0.add,ax.L0.F,Int.toNat_natCast,List.drop_length]
   rfl
  ·rw[ax.L0.step]
   simp(disch:=omega) only[↓S1,↓if_pos,↓if_neg,if_pos,if_neg,if_true,if_false,S2]
theorem ax.L1.ok:ax.L1.Ok:=by
 refine ax.L1.aD (fun(s,l,n,i)=>l.length - i.toNat) ?_
 rintro⟨s,l,n,i⟩ ⟨hl,hb,rfl,k,hk,rfl⟩
 have hb:l.length≤9223372036854775807:=hb
 have hk:k≤l.length:=hk
 by_cases h:k < l.length
 ·have hx:FO l[k].2.1:=hl _ (List.getElem_mem h)
  have n1:nth eN l k=l[k]:=cm (t:=eN) h
  have hd:nw s (l.drop k)=((pW s l[k].1 && jJ l[k].2.1) && nw (s+l[k].1) (l.drop (k+1))):=by rw[List.drop_eq_getElem_cons h];rfl
  have step:∀ {R:Type} (kn:AS→Option R) (kx:Exit→AS→Option R),ax.L1.R (s,l,(l.length:Int),(k:Int)) kn kx=aJ (pW s l[k].1 && jJ l[k].2.1) (kn (ax.L1.st (s+l[k].1,l,(l.length:Int),((k+1:Nat):Int)))) (kx (ax.L1.bj ()).1 (ax.L1.bj ()).2):=by
   intro R kn kx
   rw[ax.L1.step,bq (by omega),bt (by omega) (by omega),Int.toNat_natCast,n1,N.j4 (by omega),fp.run (d:=(s,l[k].1)) trivial,aN.run (d:=l[k].2.1) hx]
   simp only[ag,aa,fp.add,fp.F,aN.add,aN.F]
   cases pW s l[k].1
   ·rfl
   ·cases jJ l[k].2.1 <;> rfl
  cases hp:(pW s l[k].1 && jJ l[k].2.1)
  ·right
   refine⟨ax.L1.bj (),?_,fun kn kx=> ?_⟩
   ·simp only[ax.L1.add,ax.L1.F,Int.toNat_natCast,hd,hp,Bool.false_and,Bool.false_eq_true,if_false]
    rfl
   ·rw[step,hp,ai]
  ·left
   refine⟨(s+l[k].1,l,l.length,((k+1:Nat):Int)),⟨hl,hb,rfl,k+1,by omega,rfl⟩,by simp only[Int.toNat_natCast];omega,?_,fun kn kx=> ?_⟩
   ·simp only[ax.L1.add,ax.L1.F,Int.toNat_natCast,hd,hp,Bool.true_and]
   ·rw[step,hp,ag]
 ·right
  obtain rfl:k=l.length:=by omega
  refine⟨ax.L1.e7 (),?_,fun kn kx=> ?_⟩
  ·simp only[ax.L1.add,ax.L1.F,Int.toNat_natCast,List.drop_length]
   rfl
  ·rw[ax.L1.step]
   simp(disch:=omega) only[↓S1,↓if_pos,↓if_neg,if_pos,if_neg,if_true,if_false,S2]
theorem ax.ok:ax.Ok:=by
 rintro⟨is,os,nt,u⟩ ⟨hl,h1,h2⟩
 have h1:is.length≤9223372036854775807:=h1
 have h2:os.length≤9223372036854775807:=h2
 rw[ax.eq,ax.L0.run (d:=((is,os,nt,u),is,is.length,0,[])) ⟨h1,rfl,0,by omega,rfl⟩]
 simp only[aa,ax.L0.add,ax.L0.F,Int.toNat_zero,List.drop_zero,ax.add,ax.F,gD,xj]
 by_cases a1:is.length < 1
 ·rw[bq (by omega),ag,bz (fun x=>by omega)];rfl
 rw[bg (by omega),ai]
 by_cases a2:64 < is.length
 ·rw[dy (by omega),ag,bz (fun x=>by omega)];rfl
 rw[db (by omega),ai]
 by_cases a3:64 < os.length
 ·rw[dy (by omega),ag,bz (fun x=>by omega)];rfl
 rw[db (by omega),ai]
 by_cases a4:nt < 0
 ·rw[bq (by omega),ag,bz (fun x=>by omega)];rfl
 rw[bg (by omega),ai,aX ⟨by omega,by omega,by omega,by omega⟩]
 cases qk [] is
 ·rfl
 ·simp only[if_true,Bool.true_and]
  show ah (ax.L1.call (0,os,(os.length:Int),0)) _=_
  rw[ax.L1.run (d:=(0,os,os.length,0)) ⟨hl,h2,rfl,0,by omega,rfl⟩]
  simp only[aa,ax.L1.add,ax.L1.F,Int.toNat_zero,List.drop_zero]
  cases nw 0 os <;> rfl
noncomputable def ax.E:=Entry.cq [some gf] ax.st ax.aC ax.add ax.F ax.out
noncomputable def ax.call:ax.D→Option ax.X:=bT ax.E ax.st
theorem ax.run:bK ax.call ax.aC ax.add ax.F:=dh (de [.d gf] fun _=>by kernel_rfl)
noncomputable def ax.sg:SG Tryz.prog:=⟨66,aY,ax.E,.fn 2 (by kernel_rfl) ax.ok (And.intro (.cq ax.L0.ok (by kernel_rfl)) (And.intro (.cq ax.L1.ok (by kernel_rfl)) trivial))⟩
set_option synthInstance.maxSize 5000
abbrev cK.D:=Bs
def cK.st:cK.D→SA:=fun sv=>([.d tU sv],[])
abbrev cK.Y:=Bs
abbrev cK.X:=Bs
def cK.out:cK.X→bk:=fun x=>⟨.d tU x,[],[]⟩
def cK.add:cK.D→cK.Y→cK.X:=fun sv y=>y
def cK.aC:cK.D→Prop:=fun l=>l.length≤1000000
def cK.F:cK.D→cK.Y:=fun l=>l
noncomputable def cK.G:dZ:=fh (P:=Tryz.prog) []
noncomputable def cK.an:eO:= {bO:=[5],res:=[some tU]}
noncomputable def cK.A:= @cZ Tryz.prog cK.G cK.an 0 Tryz.f142 _ cK.st
abbrev cK.Ok:=da @cK.A cK.aC cK.add cK.F cK.out
theorem cK.eq{R:Type}(sv:Bs)(k:bk→Option R):cK.A sv k=
  aJ (decide (0 < (List.length sv))) (
   aJ (dq (0+(List.length sv)) 8) (
   aJ (decide (0=0∧(0+(0+(List.length sv)))≤(List.length ((List.take 0 (List.replicate 0 (0:Int)))++sv)))) (
   k (cK.out (cut ((List.take 0 (List.replicate 0 (0:Int)))++sv) 0 (0+(List.length sv))))) none) none) (
   nd (
    k (cK.out ([]:List Int))) (
    aJ (dq (0+(List.length sv)) 8) (
    aJ (decide (0=0∧(0+(0+(List.length sv)))≤(List.length ((List.take 0 (List.replicate 0 (0:Int)))++sv)))) (
    k (cK.out (cut ((List.take 0 (List.replicate 0 (0:Int)))++sv) 0 (0+(List.length sv))))) none) none)):=by kernel_rfl
theorem cK.ok:cK.Ok:=by
 intro l hl
 have hl:l.length≤1000000:=hl
 have hr:dq l.length 8=true:=ed (by omega) (by omega)
 have e0:(List.take 0 (List.replicate 0 0):List Int)=[]:=rfl
 rw[cK.eq]
 simp only[Nat.zero_add,hr,ag,e0,List.nil_append,Nat.le_refl,and_self,decide_true,fc,cK.add,cK.F]
 by_cases h:0 < l.length
 ·simp only[aX h,ag]
 ·have:l=[]:=List.eq_nil_of_length_eq_zero (by omega)
  subst this
  simp only[List.length_nil,nu,bz (Nat.lt_irrefl 0),ai]
noncomputable def cK.E:=Entry.cq [some tU] cK.st cK.aC cK.add cK.F cK.out
noncomputable def cK.call:cK.D→Option cK.X:=bT cK.E cK.st
theorem cK.run:bK cK.call cK.aC cK.add cK.F:=dh (de [.d tU] fun _=>by kernel_rfl)
noncomputable def cK.sg:SG Tryz.prog:=⟨142,aY,cK.E,.fn 0 (by kernel_rfl) cK.ok trivial⟩
def Bn(l:List Int):Lk:=([(l,0,0,0,())],())
abbrev fQ.D:=Bs
def fQ.st:fQ.D→SA:=fun l=>([.d tU l],[])
abbrev fQ.Y:=Lk
abbrev fQ.X:=Lk
def fQ.out:fQ.X→bk:=fun x=>⟨.d o8 x,[],[]⟩
def fQ.add:fQ.D→fQ.Y→fQ.X:=fun l y=>y
def fQ.aC:fQ.D→Prop:=fun l=>l.length≤1000000
def fQ.F:fQ.D→fQ.Y:=fun l=>Bn l
noncomputable def fQ.G:dZ:=fh (P:=Tryz.prog) [cK.sg]
noncomputable def fQ.an:eO:= {}
noncomputable def fQ.A:= @cZ Tryz.prog fQ.G fQ.an 0 Tryz.f71 _ fQ.st
abbrev fQ.Ok:=da @fQ.A fQ.aC fQ.add fQ.F fQ.out
theorem fQ.eq{R:Type}(l:Bs)(k:bk→Option R):fQ.A l k=
 ah (cK.call l) fun x1=>
 k (fQ.out ([(x1,((0:Int),((0:Int),((0:Int),()))))],())):=by kernel_rfl
theorem fQ.ok:fQ.Ok:=by
 intro l hl
 rw[fQ.eq,cK.run (d:=l) hl]
 rfl
noncomputable def fQ.E:=Entry.cq [some tU] fQ.st fQ.aC fQ.add fQ.F fQ.out
noncomputable def fQ.call:fQ.D→Option fQ.X:=bT fQ.E fQ.st
theorem fQ.run:bK fQ.call fQ.aC fQ.add fQ.F:=dh (de [.d tU] fun _=>by kernel_rfl)
noncomputable def fQ.sg:SG Tryz.prog:=⟨71,aY,fQ.E,.fn 0 (by kernel_rfl) fQ.ok trivial⟩
abbrev fM.D:=Int
def fM.st:fM.D→SA:=fun p=>([.d tu p],[])
abbrev fM.Y:=Lk
abbrev fM.X:=Lk
def fM.out:fM.X→bk:=fun x=>⟨.d o8 x,[],[]⟩
def fM.add:fM.D→fM.Y→fM.X:=fun p y=>y
def fM.aC:fM.D→Prop:=fun _=>True
def fM.F:fM.D→fM.Y:=fun p=>Bn [p]
noncomputable def fM.G:dZ:=fh (P:=Tryz.prog) [fQ.sg]
noncomputable def fM.an:eO:= {}
noncomputable def fM.A:= @cZ Tryz.prog fM.G fM.an 0 Tryz.f17 _ fM.st
abbrev fM.Ok:=da @fM.A fM.aC fM.add fM.F fM.out
theorem fM.eq{R:Type}(p:Int)(k:bk→Option R):fM.A p k=
 ah (fQ.call [p]) fun x1=>
 k (fM.out x1):=by kernel_rfl
theorem fM.ok:fM.Ok:=by
 intro p _
 rw[fM.eq,fQ.run (d:=[p]) (by show [p].length≤_;simp)]
 rfl
noncomputable def fM.E:=Entry.cq [some tu] fM.st fM.aC fM.add fM.F fM.out
noncomputable def fM.call:fM.D→Option fM.X:=bT fM.E fM.st
theorem fM.run:bK fM.call fM.aC fM.add fM.F:=dh (de [.d tu] fun _=>by kernel_rfl)
noncomputable def fM.sg:SG Tryz.prog:=⟨17,aY,fM.E,.fn 0 (by kernel_rfl) fM.ok trivial⟩
set_option synthInstance.maxSize 5000
end Go.Ab
