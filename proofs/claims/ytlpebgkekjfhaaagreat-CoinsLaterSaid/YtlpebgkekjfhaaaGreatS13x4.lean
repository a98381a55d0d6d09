/-
  Made short by a program of mine (wip/tools/mini.py).
-/
import Derived.Test.YtlpebgkekjfhaaaGreatS13x3
import Derived.Test.YtlpebgkekjfhaaaGreatProg
set_option linter.unusedVariables false
set_option linter.unusedSimpArgs false
namespace Go.Ab
open Go.Proofs
set_option maxRecDepth 100000
set_option linter.unusedVariables false
set_option linter.unusedSimpArgs false
set_option synthInstance.maxSize 5000
abbrev binary.D:=Bs
def binary.st:binary.D→SA:=fun b=>([.d tB b],[])
abbrev binary.Y:=Int
abbrev binary.X:=Int
def binary.out:binary.X→bg:=fun x=>⟨.d (.int .u32) x,[],[]⟩
def binary.add:binary.D→binary.Y→binary.X:=fun b y=>y
def binary.aB:binary.D→Prop:=fun b=>4≤b.length
def binary.F:binary.D→binary.Y:=fun b=>vw (Ha (b.getD 0 0) (b.getD 1 0) (b.getD 2 0) (b.getD 3 0))
noncomputable def binary.G:dY:=fg (P:=Tryz.prog) []
noncomputable def binary.an:eI:= {}
noncomputable def binary.A:= @cY Tryz.prog binary.G binary.an 0 Tryz.f277 _ binary.st
abbrev binary.Ok:=cZ @binary.A binary.aB binary.add binary.F binary.out
theorem binary.eq{R:Type}(b:Bs)(k:bg→Option R):binary.A b k=
 aK (eH (0:Int) (((List.length b):Nat):Int)) (
 aK (eH (1:Int) (((List.length b):Nat):Int)) (
 aK (eH (2:Int) (((List.length b):Nat):Int)) (
 aK (eH (3:Int) (((List.length b):Nat):Int)) (
 k (binary.out (ct .or .u32 (ct .or .u32 (ct .or .u32 (gN .u32 (dJ .u32 (nth tb b 0)) (24:Int)) (gN .u32 (dJ .u32 (nth tb b 1)) (16:Int))) (gN .u32 (dJ .u32 (nth tb b 2)) (8:Int))) (dJ .u32 (nth tb b 3))))) none) none) none) none:=by kernel_rfl
theorem binary.ok:binary.Ok:=by
 intro b h
 have h:4≤b.length:=h
 rw[binary.eq,bz (by omega) (by omega),bz (by omega) (by omega),bz (by omega) (by omega),bz (by omega) (by omega)]
 simp only[ai,AM,qg,iN]
 rfl
noncomputable def binary.E:=Entry.cC [some tB] binary.st binary.aB binary.add binary.F binary.out
noncomputable def binary.call:binary.D→Option binary.X:=bS binary.E binary.st
theorem binary.run:bM binary.call binary.aB binary.add binary.F:=dh (dd [.d tB] fun _=>by kernel_rfl)
noncomputable def binary.sg:SG Tryz.prog:=⟨277,aX,binary.E,.fn 0 (by kernel_rfl) binary.ok trivial⟩
abbrev cF.D:=Int×Int
def cF.st:cF.D→SA:=fun(x,kv)=>([.d (.int .u32) x,.d ti kv],[])
abbrev cF.Y:=Int
abbrev cF.X:=Int
def cF.out:cF.X→bg:=fun x=>⟨.d (.int .u32) x,[],[]⟩
def cF.add:cF.D→cF.Y→cF.X:=fun(x,kv) y=>y
def rl(w:W)(k:Nat):W:=w <<< k ||| w >>> (32 - k)
def cF.aB:cF.D→Prop:=fun(x,k)=>0≤x∧x < 4294967296
def cF.F:cF.D→cF.Y:=fun(x,k)=>vw (rl (BitVec.ofInt 32 x) (k%32).toNat)
noncomputable def cF.G:dY:=fg (P:=Tryz.prog) []
noncomputable def cF.an:eI:= {}
noncomputable def cF.A:= @cY Tryz.prog cF.G cF.an 0 Tryz.f248 _ cF.st
abbrev cF.Ok:=cZ @cF.A cF.aB cF.add cF.F cF.out
theorem cF.eq{R:Type}(x:Int)(kv:Int)(k:bg→Option R):cF.A (x,kv) k=
 aK (hP (ct .and .u64 (dJ .u64 kv) (31:Int))) (
 aK (hP (cQ .u64 (32:Int) (ct .and .u64 (dJ .u64 kv) (31:Int)))) (
 k (cF.out (ct .or .u32 (gN .u32 x (ct .and .u64 (dJ .u64 kv) (31:Int))) (bT .u32 x (cQ .u64 (32:Int) (ct .and .u64 (dJ .u64 kv) (31:Int))))))) none) none:=by kernel_rfl
theorem G9(k:Int):ct .and .u64 (dJ .u64 k) 31=k%32:=by
 have e:(31:Int)=vw (31:BitVec 64):=rfl
 rw[wG,e,Bm]
 simp only
 have:(31:BitVec 64)=BitVec.ofNat 64 (2^5 - 1):=rfl
 unfold vw
 rw[BitVec.toNat_and,BitVec.toNat_ofInt,show(31:BitVec 64).toNat=2^5 - 1 from rfl,Nat.and_two_pow_sub_one_eq_mod]
 omega
theorem cF.ok:cF.Ok:=by
 rintro⟨x,k⟩ ⟨h1,h2⟩
 have e1:cQ .u64 32 (k%32)=32 - k%32:=by
  unfold cQ
  rw[wrap_u64,fT]
  omega
 have hx:x=vw (BitVec.ofInt 32 x):=by rw[fT];omega
 rw[cF.eq,G9,e1,kE (by omega),kE (by omega)]
 simp only[ai]
 have e2:ct .or .u32 (gN .u32 x (k%32)) (bT .u32 x (32 - k%32))=vw (rl (BitVec.ofInt 32 x) (k%32).toNat):=by
  conv=>lhs;rw[hx]
  rw[qg,od,iN]
  simp only[rl]
  congr 3
  omega
 rw[e2]
 rfl
noncomputable def cF.E:=Entry.cC [some (.int .u32),some ti] cF.st cF.aB cF.add cF.F cF.out
noncomputable def cF.call:cF.D→Option cF.X:=bS cF.E cF.st
theorem cF.run:bM cF.call cF.aB cF.add cF.F:=dh (dd [.d (.int .u32),.d ti] fun _=>by kernel_rfl)
noncomputable def cF.sg:SG Tryz.prog:=⟨248,aX,cF.E,.fn 0 (by kernel_rfl) cF.ok trivial⟩
theorem cF.at(w:W)(k:Int):cF.call (vw w,k)=some (vw (rl w (k%32).toNat)):=by
 have h:cF.aB (vw w,k):=⟨rL w,by have:=D7 w;simpa using this⟩
 rw[cF.run h]
 show some (vw (rl (BitVec.ofInt 32 (vw w)) (k%32).toNat))=_
 rw[jO]
abbrev table.D:=Unit
def table.st:table.D→SA:=fun _=>([],[])
abbrev table.Y:=(List Int)
abbrev table.X:=(List Int)
def table.out:table.X→bg:=fun x=>⟨.d (.arr 64 (.int .u32)) x,[],[]⟩
def table.add:table.D→table.Y→table.X:=fun _ y=>y
def table.aB:table.D→Prop:=fun _=>True
def table.F:table.D→table.Y:=fun _=>rq
noncomputable def table.G:dY:=fg (P:=Tryz.prog) []
noncomputable def table.an:eI:= {}
noncomputable def table.A:= @cY Tryz.prog table.G table.an 0 Tryz.f247 _ table.st
abbrev table.Ok:=cZ @table.A table.aB table.add table.F table.out
theorem table.eq{R:Type}(k:bg→Option R):table.A () k=
 k (table.out [(1116352408:Int),(1899447441:Int),(3049323471:Int),(3921009573:Int),(961987163:Int),(1508970993:Int),(2453635748:Int),(2870763221:Int),(3624381080:Int),(310598401:Int),(607225278:Int),(1426881987:Int),(1925078388:Int),(2162078206:Int),(2614888103:Int),(3248222580:Int),(3835390401:Int),(4022224774:Int),(264347078:Int),(604807628:Int),(770255983:Int),(1249150122:Int),(1555081692:Int),(1996064986:Int),(2554220882:Int),(2821834349:Int),(2952996808:Int),(3210313671:Int),(3336571891:Int),(3584528711:Int),(113926993:Int),(338241895:Int),(666307205:Int),(773529912:Int),(1294757372:Int),(1396182291:Int),(1695183700:Int),(1986661051:Int),(2177026350:Int),(2456956037:Int),(2730485921:Int),(2820302411:Int),(3259730800:Int),(3345764771:Int),(3516065817:Int),(3600352804:Int),(4094571909:Int),(275423344:Int),(430227734:Int),(506948616:Int),(659060556:Int),(883997877:Int),(958139571:Int),(1322822218:Int),(1537002063:Int),(1747873779:Int),(1955562222:Int),(2024104815:Int),(2227730452:Int),(2361852424:Int),(2428436474:Int),(2756734187:Int),(3204031479:Int),(3329325298:Int)]):=by kernel_rfl
theorem table.ok:table.Ok:=by
 intro d _
 rw[table.eq]
 rfl
noncomputable def table.E:=Entry.cC [] table.st table.aB table.add table.F table.out
noncomputable def table.call:table.D→Option table.X:=bS table.E table.st
theorem table.run:bM table.call table.aB table.add table.F:=dh (dd [] fun _=>by kernel_rfl)
noncomputable def table.sg:SG Tryz.prog:=⟨247,aX,table.E,.fn 0 (by kernel_rfl) table.ok trivial⟩
abbrev first.D:=Unit
def first.st:first.D→SA:=fun _=>([],[])
abbrev first.Y:=(List Int)
abbrev first.X:=(List Int)
def first.out:first.X→bg:=fun x=>⟨.d (.arr 8 (.int .u32)) x,[],[]⟩
def first.add:first.D→first.Y→first.X:=fun _ y=>y
def first.aB:first.D→Prop:=fun _=>True
def first.F:first.D→first.Y:=fun _=>jr.l
noncomputable def first.G:dY:=fg (P:=Tryz.prog) []
noncomputable def first.an:eI:= {}
noncomputable def first.A:= @cY Tryz.prog first.G first.an 0 Tryz.f201 _ first.st
abbrev first.Ok:=cZ @first.A first.aB first.add first.F first.out
theorem first.eq{R:Type}(k:bg→Option R):first.A () k=
 k (first.out [(1779033703:Int),(3144134277:Int),(1013904242:Int),(2773480762:Int),(1359893119:Int),(2600822924:Int),(528734635:Int),(1541459225:Int)]):=by kernel_rfl
theorem first.ok:first.Ok:=by
 intro d _
 rw[first.eq]
 rfl
noncomputable def first.E:=Entry.cC [] first.st first.aB first.add first.F first.out
noncomputable def first.call:first.D→Option first.X:=bS first.E first.st
theorem first.run:bM first.call first.aB first.add first.F:=dh (dd [] fun _=>by kernel_rfl)
noncomputable def first.sg:SG Tryz.prog:=⟨201,aX,first.E,.fn 0 (by kernel_rfl) first.ok trivial⟩
set_option synthInstance.maxSize 5000
abbrev schedule.L0.D:=Bs×Int×(List Int)
def schedule.L0.st:schedule.L0.D→AS:=fun(b_2,t8,n2)=>⟨([.d tB b_2,.undef,.ptr (.new 2 0) 0 [] 0]++bh 5 ([.d ti t8]++bh 52 [])),[],([[],[],[.obj 0 false (.d (.arr 64 (.int .u32)) n2)]]++bI 58 [])⟩
abbrev schedule.L0.Y0:=(List Int)
abbrev schedule.L0.X0:=(List Int)
def schedule.L0.bw:schedule.L0.X0→Exit×AS:=fun x=>(.exit 0,⟨([.undef,.undef,.ptr (.new 2 0) 0 [] 0]++bh 58 []),[],([[],[],[.obj 0 false (.d (.arr 64 (.int .u32)) x)]]++bI 58 [])⟩)
abbrev schedule.L0.X:=schedule.L0.X0
abbrev schedule.L0.Y:=schedule.L0.Y0
def schedule.L0.out:schedule.L0.X→Out (Exit×AS):=fun x=> .ok (schedule.L0.bw x)
def schedule.L0.add:schedule.L0.D→schedule.L0.Y→schedule.L0.X:=fun(b_2,t8,n2) y=>y
abbrev schedule.D:=Bs
def schedule.st:schedule.D→SA:=fun b=>([.d tB b],[])
abbrev schedule.Y:=(List Int)
abbrev schedule.X:=(List Int)
def schedule.out:schedule.X→bg:=fun x=>⟨.d (.arr 64 (.int .u32)) x,[],[]⟩
def schedule.add:schedule.D→schedule.Y→schedule.X:=fun b y=>y
def wl(l:List W):List Int:=l.map vw
def nO(l:List W):List Int:=wl l++List.replicate (64 - l.length) 0
def nA(b:List Int)(k:Nat):List W:=if k≤16 then(words b).take k else Ef (words b) (k - 16)
def schedule.L0.aB:schedule.L0.D→Prop:=fun(b,t8,n2)=>64≤b.length∧∃k:Nat,k≤64∧t8=k∧n2=nO (nA b k)
def schedule.L0.F:schedule.L0.D→schedule.L0.Y:=fun(b,t8,n2)=>wl (sched b)
def schedule.aB:schedule.D→Prop:=fun b=>64≤b.length
def schedule.F:schedule.D→schedule.Y:=fun b=>wl (sched b)
noncomputable def schedule.G:dY:=fg (P:=Tryz.prog) [binary.sg,cF.sg]
noncomputable def schedule.L0.E:=bQ.cC schedule.L0.st schedule.L0.aB schedule.L0.add schedule.L0.F schedule.L0.out
noncomputable def schedule.L0.call:schedule.L0.D→Option schedule.L0.X:=dm schedule.L0.E schedule.L0.st
noncomputable def schedule.an:eI:= {loops:=j4 [(2,{bm:=[0,2,8],sites:=[2]})],outs:=j3 [(2,{bm:=[2],sites:=[2]},{bm:=[2]})],fJ:=kT [(2,schedule.L0.E)]}
noncomputable def schedule.A:= @cY Tryz.prog schedule.G schedule.an 0 Tryz.f246 _ schedule.st
abbrev schedule.Ok:=cZ @schedule.A schedule.aB schedule.add schedule.F schedule.out
noncomputable def schedule.L0.R:= @bV Tryz.prog schedule.G schedule.an 0 Tryz.f246 0 _ schedule.L0.st
abbrev schedule.L0.Ok:=ez Tryz.prog schedule.G schedule.an 0 Tryz.f246 0 schedule.L0.st schedule.L0.aB schedule.L0.add schedule.L0.F schedule.L0.out
theorem schedule.L0.run:bM schedule.L0.call schedule.L0.aB schedule.L0.add schedule.L0.F:=eF (eD [.d tB,.d ti,.d (.slice (.int .u32))] fun _=>by kernel_rfl)
theorem schedule.L0.aD:fP @schedule.L0.R schedule.L0.st schedule.L0.aB schedule.L0.add schedule.L0.F schedule.L0.bw schedule.L0.Ok:=fR
theorem schedule.L0.step{R:Type}(b_2:Bs)(t8:Int)(n2:(List Int))(kn:AS→Option R)(kx:Exit→AS→Option R):schedule.L0.R (b_2,t8,n2) kn kx=
  aK ((fZ t8 (64:Int))) (
   aK ((fZ t8 (16:Int))) (
    aK (inc (fe .i64 (4:Int) t8) (((List.length b_2):Nat):Int)) (
    al (binary.call (cut b_2 (Int.toNat (fe .i64 (4:Int) t8)) ((List.length b_2) - (Int.toNat (fe .i64 (4:Int) t8))))) fun x1=>
    aK (eH t8 (64:Int)) (
    aK (decide ((Int.toNat t8) < (List.length n2))) (
    aK (decide ((((Int.toNat t8)*1)+0)=(0+((Int.toNat t8)*1)))) (
    aK (decide ((Int.toNat t8) < (List.length n2))) (
    kn (schedule.L0.st (b_2,(bR .i64 t8 (1:Int)),(List.set n2 (Int.toNat t8) x1)))) none) none) none) none) none) (
    aK (eH (cQ .i64 t8 (15:Int)) (64:Int)) (
    aK (decide ((Int.toNat (cQ .i64 t8 (15:Int))) < (List.length n2))) (
    aK (decide ((((Int.toNat (cQ .i64 t8 (15:Int)))*1)+0)=(0+((Int.toNat (cQ .i64 t8 (15:Int)))*1)))) (
    aK (eH (cQ .i64 t8 (2:Int)) (64:Int)) (
    aK (decide ((Int.toNat (cQ .i64 t8 (2:Int))) < (List.length n2))) (
    aK (decide ((((Int.toNat (cQ .i64 t8 (2:Int)))*1)+0)=(0+((Int.toNat (cQ .i64 t8 (2:Int)))*1)))) (
    al (cF.call ((nth (.int .u32) n2 (Int.toNat (cQ .i64 t8 (15:Int)))),(-7:Int))) fun x2=>
    al (cF.call ((nth (.int .u32) n2 (Int.toNat (cQ .i64 t8 (15:Int)))),(-18:Int))) fun x3=>
    al (cF.call ((nth (.int .u32) n2 (Int.toNat (cQ .i64 t8 (2:Int)))),(-17:Int))) fun x4=>
    al (cF.call ((nth (.int .u32) n2 (Int.toNat (cQ .i64 t8 (2:Int)))),(-19:Int))) fun x5=>
    aK (eH (cQ .i64 t8 (16:Int)) (64:Int)) (
    aK (decide ((Int.toNat (cQ .i64 t8 (16:Int))) < (List.length n2))) (
    aK (decide ((((Int.toNat (cQ .i64 t8 (16:Int)))*1)+0)=(0+((Int.toNat (cQ .i64 t8 (16:Int)))*1)))) (
    aK (eH (cQ .i64 t8 (7:Int)) (64:Int)) (
    aK (decide ((Int.toNat (cQ .i64 t8 (7:Int))) < (List.length n2))) (
    aK (decide ((((Int.toNat (cQ .i64 t8 (7:Int)))*1)+0)=(0+((Int.toNat (cQ .i64 t8 (7:Int)))*1)))) (
    aK (eH t8 (64:Int)) (
    aK (decide ((Int.toNat t8) < (List.length n2))) (
    aK (decide ((((Int.toNat t8)*1)+0)=(0+((Int.toNat t8)*1)))) (
    aK (decide ((Int.toNat t8) < (List.length n2))) (
    kn (schedule.L0.st (b_2,(bR .i64 t8 (1:Int)),(List.set n2 (Int.toNat t8) (bR .u32 (bR .u32 (bR .u32 (nth (.int .u32) n2 (Int.toNat (cQ .i64 t8 (16:Int)))) (ct .xor .u32 (ct .xor .u32 x2 x3) (bT .u32 (nth (.int .u32) n2 (Int.toNat (cQ .i64 t8 (15:Int)))) (3:Int)))) (nth (.int .u32) n2 (Int.toNat (cQ .i64 t8 (7:Int))))) (ct .xor .u32 (ct .xor .u32 x4 x5) (bT .u32 (nth (.int .u32) n2 (Int.toNat (cQ .i64 t8 (2:Int)))) (10:Int)))))))) none) none) none) none) none) none) none) none) none) none) none) none) none) none) none) none)) (
   kx (schedule.L0.bw n2).1 (schedule.L0.bw n2).2):=by kernel_rfl
theorem schedule.eq{R:Type}(b:Bs)(k:bg→Option R):schedule.A b k=
 al (schedule.L0.call (b,(0:Int),(List.replicate 64 (0:Int)))) fun x6=>
 k (schedule.out x6):=by kernel_rfl
theorem za(b:List Int)(k:Nat)(h:k≤64):(nA b k).length=k:=by
 unfold nA
 split
 ·simp[eu];omega
 ·rw[l7,eu];omega
theorem Fj(b:List Int):nA b 64=sched b:=rfl
theorem Cj(b:List Int)(k:Nat)(h:k < 16):nA b (k+1)=nA b k++ [be b k]:=by
 unfold nA
 rw[if_pos (by omega),if_pos (by omega),List.take_succ_eq_append_getElem (by rw[eu];exact h)]
 simp[words]
theorem Ec(b:List Int)(k:Nat)(h:16≤k):nA b (k+1)=ext (nA b k):=by
 unfold nA
 rw[if_neg (by omega)]
 by_cases h16:k=16
 ·subst h16
  rw[if_pos (by omega),List.take_of_length_le (by rw[eu];omega)]
  rfl
 ·rw[if_neg (by omega),show k+1 - 16=(k - 16)+1 by omega]
  rfl
theorem wi(l:List W)(h:l.length≤64):(nO l).length=64:=by simp[nO,wl];omega
theorem oH(l:List W)(i:Nat)(h:i < l.length):nth (.int .u32) (nO l) i=vw (l.getD i 0):=by
 unfold nth nO wl
 rw[List.getD_eq_getElem?_getD,List.getElem?_append_left (by simpa using h)]
 simp[h]
theorem vh(l:List W)(w:W)(h:l.length < 64):(nO l).set l.length (vw w)=nO (l++ [w]):=by
 unfold nO wl
 rw[List.set_append_right _ _ (by simp)]
 simp only[List.length_map,Nat.sub_self,List.map_append,List.length_append,List.length_cons,List.length_nil]
 rw[show 64 - l.length=(64 - (l.length+(0+1)))+1 by omega,List.replicate_succ,List.set_cons_zero]
 simp
theorem zl(l:List W)(h:l.length=64):nO l=wl l:=by simp[nO,h]
theorem FL(b:List Int)(k:Nat)(h:4*k+4≤b.length):Ha ((cut b (4*k) (b.length - 4*k)).getD 0 0) ((cut b (4*k) (b.length - 4*k)).getD 1 0) ((cut b (4*k) (b.length - 4*k)).getD 2 0) ((cut b (4*k) (b.length - 4*k)).getD 3 0)=be b k:=by
 have e:∀j,j < 4→(cut b (4*k) (b.length - 4*k)).getD j 0=b.getD (4*k+j) 0:=fun j hj=>by
  unfold cut
  rw[List.getD_eq_getElem?_getD,List.getD_eq_getElem?_getD,List.getElem?_take_of_lt (by omega),List.getElem?_drop]
 unfold be
 rw[e 0 (by omega),e 1 (by omega),e 2 (by omega),e 3 (by omega),Nat.add_zero]
theorem schedule.L0.ok:schedule.L0.Ok:=by
 refine schedule.L0.aD (fun(b,t8,n2)=>64 - t8.toNat) ?_
 rintro⟨b,t8,n2⟩ ⟨hb,k,hk,rfl,rfl⟩
 have hwl:=za b k hk
 have hal:=wi (nA b k) (by omega)
 by_cases h:k < 64
 ·left
  refine⟨(b,((k+1:Nat):Int),nO (nA b (k+1))),⟨hb,k+1,by omega,rfl,rfl⟩,by simp;omega,rfl,fun kn kx=> ?_⟩
  have e1:bR .i64 (k:Int) 1=((k+1:Nat):Int):=by rw[fY (by omega) (by omega)];omega
  have e2:Int.toNat (k:Int)=k:=by omega
  rw[schedule.L0.step,bu (by omega)]
  simp only[ai,e1,e2,hal,Nat.mul_one,Nat.zero_add,Nat.add_zero,decide_true]
  by_cases h16:k < 16
  ·have e3:fe .i64 4 (k:Int)=((4*k:Nat):Int):=by rw[qd (by omega) (by omega)];omega
   have e4:Int.toNat ((4*k:Nat):Int)=4*k:=by omega
   rw[bu (by omega),e3,kB (by omega) (by omega),e4,bz (by omega) (by omega),aY h]
   have hp:binary.aB (cut b (4*k) (b.length - 4*k)):=by
    show 4≤_
    rw[mU (by omega)];omega
   simp only[ai,binary.run hp,ab]
   have e5:binary.add (cut b (4*k) (b.length - 4*k)) (binary.F (cut b (4*k) (b.length - 4*k)))=vw (be b k):=by
    show vw (Ha _ _ _ _)=_
    rw[FL b k (by omega)]
   have e6:=vh (nA b k) (be b k) (by omega)
   rw[hwl]at e6
   rw[e5,e6,Cj b k h16]
  ·have a15:Int.toNat (cQ .i64 (k:Int) 15)=k - 15:=by rw[eR (by omega) (by omega)];omega
   have a2:Int.toNat (cQ .i64 (k:Int) 2)=k - 2:=by rw[eR (by omega) (by omega)];omega
   have a16:Int.toNat (cQ .i64 (k:Int) 16)=k - 16:=by rw[eR (by omega) (by omega)];omega
   have a7:Int.toNat (cQ .i64 (k:Int) 7)=k - 7:=by rw[eR (by omega) (by omega)];omega
   have i15:eH (cQ .i64 (k:Int) 15) 64=true:=bz (by rw[eR (by omega) (by omega)];omega) (by rw[eR (by omega) (by omega)];omega)
   have i2:eH (cQ .i64 (k:Int) 2) 64=true:=bz (by rw[eR (by omega) (by omega)];omega) (by rw[eR (by omega) (by omega)];omega)
   have i16:eH (cQ .i64 (k:Int) 16) 64=true:=bz (by rw[eR (by omega) (by omega)];omega) (by rw[eR (by omega) (by omega)];omega)
   have i7:eH (cQ .i64 (k:Int) 7) 64=true:=bz (by rw[eR (by omega) (by omega)];omega) (by rw[eR (by omega) (by omega)];omega)
   have i0:eH (k:Int) 64=true:=bz (by omega) (by omega)
   have d15:decide (k - 15 < 64)=true:=aY (by omega)
   have d2:decide (k - 2 < 64)=true:=aY (by omega)
   have d16:decide (k - 16 < 64)=true:=aY (by omega)
   have d7:decide (k - 7 < 64)=true:=aY (by omega)
   have d0:decide (k < 64)=true:=aY h
   rw[bk (by omega)]
   simp only[ai,ao,a15,a2,a16,a7,i15,i2,i16,i7,i0,d15,d2,d16,d7,d0,oH (nA b k) (k - 15) (by omega),oH (nA b k) (k - 2) (by omega),oH (nA b k) (k - 16) (by omega),oH (nA b k) (k - 7) (by omega),cF.at,ab,iN,od,mI]
   have e6:=vh (nA b k) (Fz (nA b k) k) (by omega)
   rw[hwl]at e6
   rw[Ec b k (by omega),ext,hwl,←e6]
   rfl
 ·right
  obtain rfl:k=64:=by omega
  intro R kn kx
  rw[schedule.L0.step,bk (by omega),zl _ hwl,Fj]
  simp only[ao,schedule.L0.add,schedule.L0.F]
theorem schedule.ok:schedule.Ok:=by
 intro b hb
 have hp:schedule.L0.aB (b,0,List.replicate 64 0):=⟨hb,0,by omega,rfl,rfl⟩
 rw[schedule.eq,schedule.L0.run hp]
 simp only[ab,schedule.L0.add,schedule.L0.F,schedule.add,schedule.F]
noncomputable def schedule.E:=Entry.cC [some tB] schedule.st schedule.aB schedule.add schedule.F schedule.out
noncomputable def schedule.call:schedule.D→Option schedule.X:=bS schedule.E schedule.st
theorem schedule.run:bM schedule.call schedule.aB schedule.add schedule.F:=dh (dd [.d tB] fun _=>by kernel_rfl)
noncomputable def schedule.sg:SG Tryz.prog:=⟨246,aX,schedule.E,.fn 1 (by kernel_rfl) schedule.ok (And.intro (.cC schedule.L0.ok (by kernel_rfl)) trivial)⟩
set_option synthInstance.maxSize 5000
abbrev mix.L0.D:=(List Int)×Int×(List Int)×(List Int)×(List Int)×(List Int)
def mix.L0.st:mix.L0.D→AS:=fun(h_2,t18,n4,n5,n6,n7)=>⟨([.undef,.undef,.eC (.arr 8 (.int .u32)) h_2,.undef,.ptr (.new 4 0) 0 [] 0,.ptr (.new 5 0) 0 [] 0,.ptr (.new 6 0) 0 [] 0,.ptr (.new 7 0) 0 [] 0]++bh 10 ([.d ti t18]++bh 98 [])),[],(bI 4 ([[.obj 0 false (.d (.arr 8 (.int .u32)) n4)],[.obj 0 false (.d (.arr 64 (.int .u32)) n5)],[.obj 0 false (.d (.arr 64 (.int .u32)) n6)],[.obj 0 false (.d (.arr 8 (.int .u32)) n7)]]++bI 109 []))⟩
abbrev mix.L0.Y0:=(List Int)
abbrev mix.L0.X0:=((List Int)×(List Int))×((List Int))
def mix.L0.bw:mix.L0.X0→Exit×AS:=fun x=>(.exit 0,⟨([.undef,.undef,.eC (.arr 8 (.int .u32)) x.1.1,.undef,.ptr (.new 4 0) 0 [] 0,.undef,.undef,.ptr (.new 7 0) 0 [] 0]++bh 109 []),[],(bI 4 ([[.obj 0 false (.d (.arr 8 (.int .u32)) x.1.2)],[],[],[.obj 0 false (.d (.arr 8 (.int .u32)) x.2)]]++bI 109 []))⟩)
abbrev mix.L0.X:=mix.L0.X0
abbrev mix.L0.Y:=mix.L0.Y0
def mix.L0.out:mix.L0.X→Out (Exit×AS):=fun x=> .ok (mix.L0.bw x)
def mix.L0.add:mix.L0.D→mix.L0.Y→mix.L0.X:=fun(h_2,t18,n4,n5,n6,n7) y=>((h_2,n4),y)
abbrev mix.L1.D:=(List Int)×Int×(List Int)×(List Int)
def mix.L1.st:mix.L1.D→AS:=fun(h_3,t104,n4_2,n7_2)=>⟨([.undef,.undef,.eC (.arr 8 (.int .u32)) h_3,.undef,.ptr (.new 4 0) 0 [] 0,.undef,.undef,.ptr (.new 7 0) 0 [] 0]++bh 96 ([.d ti t104]++bh 12 [])),[],(bI 4 ([[.obj 0 false (.d (.arr 8 (.int .u32)) n4_2)],[],[],[.obj 0 false (.d (.arr 8 (.int .u32)) n7_2)]]++bI 109 []))⟩
abbrev mix.L1.Y0:=(List Int)
abbrev mix.L1.X0:=((List Int))×((List Int))
def mix.L1.bw:mix.L1.X0→Exit×AS:=fun x=>(.exit 2,⟨(bh 4 ([.ptr (.new 4 0) 0 [] 0,.undef,.undef,.ptr (.new 7 0) 0 [] 0]++bh 109 [])),[],(bI 4 ([[.obj 0 false (.d (.arr 8 (.int .u32)) x.1)],[],[],[.obj 0 false (.d (.arr 8 (.int .u32)) x.2)]]++bI 109 []))⟩)
abbrev mix.L1.X:=mix.L1.X0
abbrev mix.L1.Y:=mix.L1.Y0
def mix.L1.out:mix.L1.X→Out (Exit×AS):=fun x=> .ok (mix.L1.bw x)
def mix.L1.add:mix.L1.D→mix.L1.Y→mix.L1.X:=fun(h_3,t104,n4_2,n7_2) y=>(n4_2,y)
abbrev mix.D:=(List Int)×Bs
def mix.st:mix.D→SA:=fun(h,b)=>([.d (.arr 8 (.int .u32)) h,.d tB b],[])
abbrev mix.Y:=(List Int)
abbrev mix.X:=(List Int)
def mix.out:mix.X→bg:=fun x=>⟨.d (.arr 8 (.int .u32)) x,[],[]⟩
def mix.add:mix.D→mix.Y→mix.X:=fun(h,b) y=>y
def xf(l:List Int):St:=⟨BitVec.ofInt 32 (l.getD 0 0),BitVec.ofInt 32 (l.getD 1 0),BitVec.ofInt 32 (l.getD 2 0),BitVec.ofInt 32 (l.getD 3 0),BitVec.ofInt 32 (l.getD 4 0),BitVec.ofInt 32 (l.getD 5 0),BitVec.ofInt 32 (l.getD 6 0),BitVec.ofInt 32 (l.getD 7 0)⟩
theorem iv(s:St):xf s.l=s:=by
 obtain⟨a,b,c,d,e,f,g,h⟩:=s
 simp[xf,St.l,jO]
def D5(l:List Int):List W:=l.map (BitVec.ofInt 32)
theorem nw(l:List W):D5 (wl l)=l:=by
 unfold D5 wl
 rw[List.map_map]
 have:(BitVec.ofInt 32∘vw)=(id:W→W):=by funext w;exact jO w
 rw[this,List.map_id]
def mix.L0.aB:mix.L0.D→Prop:=fun(h,t,n4,n5,n6,n7)=>∃(s:St) (ws:List W) (k:Nat),h=s.l∧n5=wl ws∧ws.length=64∧k≤64∧t=k∧n6=rq∧n7=(rounds ws s k).l
def mix.L0.F:mix.L0.D→mix.L0.Y:=fun(h,t,n4,n5,n6,n7)=>(rounds (D5 n5) (xf h) 64).l
def mix.L1.aB:mix.L1.D→Prop:=fun(h,t,n4,n7)=>n7.length=8∧∃k:Nat,k≤8∧t=k
def mix.L1.F:mix.L1.D→mix.L1.Y:=fun(h,t,n4,n7)=>from_ (fun i x=>bR .u32 x (nth (.int .u32) h i)) t.toNat n7
def mix.aB:mix.D→Prop:=fun(h,b)=>(∃s:St,h=s.l)∧64≤b.length
def mix.F:mix.D→mix.Y:=fun(h,b)=>(rv (xf h) b).l
noncomputable def mix.G:dY:=fg (P:=Tryz.prog) [schedule.sg,table.sg,cF.sg]
noncomputable def mix.L0.E:=bQ.cC mix.L0.st mix.L0.aB mix.L0.add mix.L0.F mix.L0.out
noncomputable def mix.L0.call:mix.L0.D→Option mix.L0.X:=dm mix.L0.E mix.L0.st
noncomputable def mix.L1.E:=bQ.cC mix.L1.st mix.L1.aB mix.L1.add mix.L1.F mix.L1.out
noncomputable def mix.L1.call:mix.L1.D→Option mix.L1.X:=dm mix.L1.E mix.L1.st
noncomputable def mix.an:eI:= {loops:=j4 [(4,{bm:=[2,4,5,6,7,18],sites:=[4,5,6,7]}),(13,{bm:=[2,4,7,104],sites:=[4,7]})],outs:=j3 [(4,{bm:=[2,4,7],sites:=[4,7]},{bm:=[4]}),(13,{bm:=[4,7],sites:=[4,7]},{bm:=[4]})],fJ:=kT [(4,mix.L0.E),(13,mix.L1.E)]}
noncomputable def mix.A:= @cY Tryz.prog mix.G mix.an 0 Tryz.f202 _ mix.st
abbrev mix.Ok:=cZ @mix.A mix.aB mix.add mix.F mix.out
noncomputable def mix.L0.R:= @bV Tryz.prog mix.G mix.an 0 Tryz.f202 0 _ mix.L0.st
abbrev mix.L0.Ok:=ez Tryz.prog mix.G mix.an 0 Tryz.f202 0 mix.L0.st mix.L0.aB mix.L0.add mix.L0.F mix.L0.out
noncomputable def mix.L1.R:= @bV Tryz.prog mix.G mix.an 0 Tryz.f202 1 _ mix.L1.st
abbrev mix.L1.Ok:=ez Tryz.prog mix.G mix.an 0 Tryz.f202 1 mix.L1.st mix.L1.aB mix.L1.add mix.L1.F mix.L1.out
theorem mix.L0.run:bM mix.L0.call mix.L0.aB mix.L0.add mix.L0.F:=eF (eD [.d (.arr 8 (.int .u32)),.d ti,.d (.slice (.int .u32)),.d (.slice (.int .u32)),.d (.slice (.int .u32)),.d (.slice (.int .u32))] fun _=>by kernel_rfl)
theorem mix.L0.aD:fP @mix.L0.R mix.L0.st mix.L0.aB mix.L0.add mix.L0.F mix.L0.bw mix.L0.Ok:=fR
theorem mix.L0.step{R:Type}(h_2:(List Int))(t18:Int)(n4:(List Int))(n5:(List Int))(n6:(List Int))(n7:(List Int))(kn:AS→Option R)(kx:Exit→AS→Option R):mix.L0.R (h_2,t18,n4,n5,n6,n7) kn kx=
  aK ((fZ t18 (64:Int))) (
   aK (decide (4 < (List.length n7))) (
   al (cF.call ((nth (.int .u32) n7 4),(-6:Int))) fun x1=>
   aK (decide (4 < (List.length n7))) (
   al (cF.call ((nth (.int .u32) n7 4),(-11:Int))) fun x2=>
   aK (decide (4 < (List.length n7))) (
   al (cF.call ((nth (.int .u32) n7 4),(-25:Int))) fun x3=>
   aK (decide (7 < (List.length n7))) (
   aK (decide (6 < (List.length n7))) (
   aK (decide (4 < (List.length n7))) (
   aK (decide (5 < (List.length n7))) (
   aK (decide (6 < (List.length n7))) (
   aK (eH t18 (64:Int)) (
   aK (decide ((Int.toNat t18) < (List.length n6))) (
   aK (decide ((((Int.toNat t18)*1)+0)=(0+((Int.toNat t18)*1)))) (
   aK (eH t18 (64:Int)) (
   aK (decide ((Int.toNat t18) < (List.length n5))) (
   aK (decide ((((Int.toNat t18)*1)+0)=(0+((Int.toNat t18)*1)))) (
   aK (decide (0 < (List.length n7))) (
   al (cF.call ((nth (.int .u32) n7 0),(-2:Int))) fun x4=>
   aK (decide (0 < (List.length n7))) (
   al (cF.call ((nth (.int .u32) n7 0),(-13:Int))) fun x5=>
   aK (decide (0 < (List.length n7))) (
   al (cF.call ((nth (.int .u32) n7 0),(-22:Int))) fun x6=>
   aK (decide (0 < (List.length n7))) (
   aK (decide (1 < (List.length n7))) (
   aK (decide (2 < (List.length n7))) (
   aK (decide (0 < (List.length n7))) (
   aK (decide (1 < (List.length n7))) (
   aK (decide (0 < (List.length n7))) (
   aK (decide (1 < (List.length n7))) (
   aK (decide (2 < (List.length n7))) (
   aK (decide (3 < (List.length n7))) (
   aK (decide (4 < (List.length n7))) (
   aK (decide (5 < (List.length n7))) (
   aK (decide (6 < (List.length n7))) (
   kn (mix.L0.st (h_2,(bR .i64 t18 (1:Int)),n4,n5,n6,[(bR .u32 (bR .u32 (bR .u32 (bR .u32 (bR .u32 (bR .u32 (nth (.int .u32) n7 7) (ct .xor .u32 (ct .xor .u32 x1 x2) x3)) (ct .xor .u32 (nth (.int .u32) n7 6) (ct .and .u32 (nth (.int .u32) n7 4) (ct .xor .u32 (nth (.int .u32) n7 5) (nth (.int .u32) n7 6))))) (nth (.int .u32) n6 (Int.toNat t18))) (nth (.int .u32) n5 (Int.toNat t18))) (ct .xor .u32 (ct .xor .u32 x4 x5) x6)) (ct .or .u32 (ct .and .u32 (nth (.int .u32) n7 0) (nth (.int .u32) n7 1)) (ct .and .u32 (nth (.int .u32) n7 2) (ct .or .u32 (nth (.int .u32) n7 0) (nth (.int .u32) n7 1))))),(nth (.int .u32) n7 0),(nth (.int .u32) n7 1),(nth (.int .u32) n7 2),(bR .u32 (nth (.int .u32) n7 3) (bR .u32 (bR .u32 (bR .u32 (bR .u32 (nth (.int .u32) n7 7) (ct .xor .u32 (ct .xor .u32 x1 x2) x3)) (ct .xor .u32 (nth (.int .u32) n7 6) (ct .and .u32 (nth (.int .u32) n7 4) (ct .xor .u32 (nth (.int .u32) n7 5) (nth (.int .u32) n7 6))))) (nth (.int .u32) n6 (Int.toNat t18))) (nth (.int .u32) n5 (Int.toNat t18)))),(nth (.int .u32) n7 4),(nth (.int .u32) n7 5),(nth (.int .u32) n7 6)]))) none) none) none) none) none) none) none) none) none) none) none) none) none) none) none) none) none) none) none) none) none) none) none) none) none) none) none) none) none) (
   kx (mix.L0.bw ((h_2,n4),n7)).1 (mix.L0.bw ((h_2,n4),n7)).2):=by kernel_rfl
theorem mix.L1.run:bM mix.L1.call mix.L1.aB mix.L1.add mix.L1.F:=eF (eD [.d (.arr 8 (.int .u32)),.d ti,.d (.slice (.int .u32)),.d (.slice (.int .u32))] fun _=>by kernel_rfl)
theorem mix.L1.aD:fP @mix.L1.R mix.L1.st mix.L1.aB mix.L1.add mix.L1.F mix.L1.bw mix.L1.Ok:=fR
theorem mix.L1.step{R:Type}(h_3:(List Int))(t104:Int)(n4_2:(List Int))(n7_2:(List Int))(kn:AS→Option R)(kx:Exit→AS→Option R):mix.L1.R (h_3,t104,n4_2,n7_2) kn kx=
  aK ((fZ t104 (8:Int))) (
   aK (eH t104 (8:Int)) (
   aK (decide ((Int.toNat t104) < (List.length n7_2))) (
   aK (decide ((((Int.toNat t104)*1)+0)=(0+((Int.toNat t104)*1)))) (
   aK (eH t104 (8:Int)) (
   aK (eH t104 (8:Int)) (
   aK (decide ((Int.toNat t104) < (List.length n7_2))) (
   aK (decide ((((Int.toNat t104)*1)+0)=(0+((Int.toNat t104)*1)))) (
   aK (decide ((Int.toNat t104) < (List.length n7_2))) (
   kn (mix.L1.st (h_3,(bR .i64 t104 (1:Int)),n4_2,(List.set n7_2 (Int.toNat t104) (bR .u32 (nth (.int .u32) n7_2 (Int.toNat t104)) (nth (.int .u32) h_3 (Int.toNat t104))))))) none) none) none) none) none) none) none) none) (
   kx (mix.L1.bw (n4_2,n7_2)).1 (mix.L1.bw (n4_2,n7_2)).2):=by kernel_rfl
theorem mix.eq{R:Type}(h:(List Int))(b:Bs)(k:bg→Option R):mix.A (h,b) k=
 al (schedule.call b) fun x1=>
 al (table.call ()) fun x2=>
 al (mix.L0.call (h,(0:Int),(List.replicate 8 (0:Int)),x1,x2,h)) fun x9=>
 al (mix.L1.call (x9.1.1,(0:Int),x9.1.2,x9.2)) fun x10=>
 k (mix.out x10.2):=by kernel_rfl
theorem St.yh(s:St):s.l.length=8:=rfl
theorem rU:rq.length=64:=rfl
theorem yg(k:Nat)(h:k < 64):nth (.int .u32) rq k=vw (kw k):=by
 have hh:∀k:Fin 64,nth (.int .u32) rq k.val=vw (kw k.val):=by decide+kernel
 exact hh ⟨k,h⟩
theorem rN(ws:List W)(k:Nat)(h:k < ws.length):nth (.int .u32) (wl ws) k=vw (ws.getD k 0):=by
 unfold nth wl
 simp[h]
theorem IY(w:W):rl w ((-6:Int)%32).toNat=kf w 6:=rfl
theorem Is(w:W):rl w ((-11:Int)%32).toNat=kf w 11:=rfl
theorem Iv(w:W):rl w ((-25:Int)%32).toNat=kf w 25:=rfl
theorem IX(w:W):rl w ((-2:Int)%32).toNat=kf w 2:=rfl
theorem It(w:W):rl w ((-13:Int)%32).toNat=kf w 13:=rfl
theorem Iu(w:W):rl w ((-22:Int)%32).toNat=kf w 22:=rfl
theorem n0(s:St):nth (.int .u32) s.l 0=vw s.a:=rfl
theorem n1(s:St):nth (.int .u32) s.l 1=vw s.b:=rfl
theorem n2(s:St):nth (.int .u32) s.l 2=vw s.c:=rfl
theorem n3(s:St):nth (.int .u32) s.l 3=vw s.d:=rfl
theorem n4(s:St):nth (.int .u32) s.l 4=vw s.e:=rfl
theorem n5(s:St):nth (.int .u32) s.l 5=vw s.f:=rfl
theorem n6(s:St):nth (.int .u32) s.l 6=vw s.g:=rfl
theorem n7(s:St):nth (.int .u32) s.l 7=vw s.h:=rfl
theorem mix.L0.ok:mix.L0.Ok:=by
 refine mix.L0.aD (fun(h,t,n4,n5,n6,n7)=>64 - t.toNat) ?_
 rintro⟨h,t,m4,m5,m6,m7⟩ ⟨s,ws,k,rfl,rfl,hw,hk,rfl,rfl,rfl⟩
 by_cases hlt:k < 64
 ·left
  refine⟨(s.l,((k+1:Nat):Int),m4,wl ws,rq,(rounds ws s (k+1)).l),⟨s,ws,k+1,rfl,rfl,hw,by omega,rfl,rfl,rfl⟩,by simp;omega,rfl,fun kn kx=> ?_⟩
  have e1:bR .i64 (k:Int) 1=((k+1:Nat):Int):=by rw[fY (by omega) (by omega)];omega
  have e2:Int.toNat (k:Int)=k:=by omega
  have hwl:(wl ws).length=64:=by simp[wl,hw]
  have d0:decide (k < 64)=true:=aY hlt
  have i0:eH (k:Int) 64=true:=bz (by omega) (by omega)
  rw[mix.L0.step,bu (by omega)]
  generalize hv:rounds ws s k=v
  simp only[e1,e2,Nat.mul_one,Nat.zero_add,Nat.add_zero,decide_true,ai,St.yh,Nat.reduceLT,rU,hwl,d0,i0,n0,n1,n2,n3,n4,n5,n6,n7,cF.at,ab,yg k hlt,rN ws k (by omega),iN,mI,IY,Is,Iv,IX,It,Iu]
  show kn _=kn (mix.L0.st (s.l,((k+1:Nat):Int),m4,wl ws,rq,(Iw (rounds ws s k) (kw k) (ws.getD k 0)).l))
  rw[hv]
  rfl
 ·right
  obtain rfl:k=64:=by omega
  intro R kn kx
  rw[mix.L0.step,bk (by omega)]
  simp only[ao,mix.L0.add,mix.L0.F,nw,iv]
theorem mix.L1.ok:mix.L1.Ok:=by
 refine mix.L1.aD (fun(h,t,n4,n7)=>8 - t.toNat) ?_
 rintro⟨h,t,m4,m7⟩ ⟨hl,k,hk,rfl⟩
 have hl:m7.length=8:=hl
 have e2:Int.toNat (k:Int)=k:=by omega
 have e3:Int.toNat ((k+1:Nat):Int)=k+1:=by omega
 by_cases hlt:k < 8
 ·left
  have e1:bR .i64 (k:Int) 1=((k+1:Nat):Int):=by rw[fY (by omega) (by omega)];omega
  have hn:nth (.int .u32) m7 k=m7[k]:=cG (t:= .int .u32) (by omega)
  refine⟨(h,((k+1:Nat):Int),m4,m7.set k (bR .u32 m7[k] (nth (.int .u32) h k))),⟨by simpa using hl,k+1,by omega,rfl⟩,by simp;omega,?_,fun kn kx=> ?_⟩
  ·simp only[mix.L1.add,mix.L1.F,e2,e3]
   rw[oJ (fun i x=>bR .u32 x (nth (.int .u32) h i)) m7 k (by omega)]
  ·have d0:decide (k < 8)=true:=aY hlt
   have i0:eH (k:Int) 8=true:=bz (by omega) (by omega)
   rw[mix.L1.step,bu (by omega)]
   simp only[e1,e2,Nat.mul_one,Nat.zero_add,Nat.add_zero,decide_true,ai,hl,d0,i0,hn]
 ·right
  obtain rfl:k=8:=by omega
  intro R kn kx
  rw[mix.L1.step,bk (by omega)]
  simp only[ao,mix.L1.add,mix.L1.F,e2]
  rw[qb _ _ _ (by omega)]
theorem mix.ok:mix.Ok:=by
 rintro⟨h,b⟩ ⟨⟨s,rfl⟩,hb⟩
 have hs:schedule.aB b:=hb
 have hsl:(sched b).length=64:=by unfold sched;rw[l7,eu]
 have hp:mix.L0.aB (s.l,0,List.replicate 8 0,wl (sched b),rq,s.l):=⟨s,sched b,0,rfl,rfl,hsl,by omega,rfl,rfl,rfl⟩
 rw[mix.eq,schedule.run hs]
 simp only[ab,table.run (d:=()) trivial,schedule.add,schedule.F,table.add,table.F,mix.L0.run hp,mix.L0.add,mix.L0.F,nw,iv]
 have hp1:mix.L1.aB (s.l,0,List.replicate 8 0,(rounds (sched b) s 64).l):=⟨rfl,0,by omega,rfl⟩
 simp only[mix.L1.run hp1,ab,mix.L1.add,mix.L1.F,mix.add,mix.F,iv]
 unfold rv
 generalize rounds (sched b) s 64=v
 obtain⟨a1,b1,c1,d1,f1,g1,h1,i1⟩:=v
 simp only[St.l,from_,List.mapIdx_cons,List.mapIdx_nil,Int.toNat_zero,Nat.not_lt_zero,if_false,Nat.zero_add,Nat.reduceAdd]
 simp only[nth,List.getD_cons_zero,List.getD_cons_succ,mI]
noncomputable def mix.E:=Entry.cC [some (.arr 8 (.int .u32)),some tB] mix.st mix.aB mix.add mix.F mix.out
noncomputable def mix.call:mix.D→Option mix.X:=bS mix.E mix.st
theorem mix.run:bM mix.call mix.aB mix.add mix.F:=dh (dd [.d (.slice (.int .u32)),.d tB] fun _=>by kernel_rfl)
noncomputable def mix.sg:SG Tryz.prog:=⟨202,aX,mix.E,.fn 2 (by kernel_rfl) mix.ok (And.intro (.cC mix.L0.ok (by kernel_rfl)) (And.intro (.cC mix.L1.ok (by kernel_rfl)) trivial))⟩
set_option synthInstance.maxSize 5000
theorem jB(n:Int)(k:Int)(h0:0≤k)(h1:k≤64):dJ .u8 (bT .i64 n k)=n / 2^k.toNat%256:=by
 rw[tv,fT,bT]
 have e:min k.toNat IntKind.i64.bits=k.toNat:=by simp only[IntKind.bits];omega
 rw[e,Int.fdiv_eq_ediv_of_nonneg _ (Int.le_of_lt (Int.pow_pos (by omega)))]
 rfl
theorem mO{n:Nat}(h:n≤140737488355328):dp n 1=true:=dX (by omega) (by omega)
abbrev cr.D:=Bs
def cr.st:cr.D→SA:=fun sv=>([.d tB sv],[])
abbrev cr.Y:=Nat×(List Int)
abbrev cr.X:=Nat×(List Int)
def cr.out:cr.X→bg:=fun x=>⟨.bJ (.new 0 0) 0 [] 0 0 x.1,[],[.obj 0 false (.vec 5 tb x.2)]⟩
def cr.add:cr.D→cr.Y→cr.X:=fun sv y=>y
def cr.aB:cr.D→Prop:=fun b=>b.length≤140737488355328
def cr.F:cr.D→cr.Y:=fun b=>(b.length,b)
noncomputable def cr.G:dY:=fg (P:=Tryz.prog) []
noncomputable def cr.an:eI:= {bK:=[5],iA:=[⟨2,[],5,140⟩]}
noncomputable def cr.A:= @cY Tryz.prog cr.G cr.an 0 Tryz.f200 _ cr.st
abbrev cr.Ok:=cZ @cr.A cr.aB cr.add cr.F cr.out
theorem cr.eq{R:Type}(sv:Bs)(k:bg→Option R):cr.A sv k=
  aK (decide (0 < (List.length sv))) (
   aK (dp (0+(List.length sv)) 1) (
   k (cr.out ((0+(List.length sv)),((List.take 0 (List.replicate 0 (0:Int)))++sv)))) none) (
   nd (
    k (cr.out (0,([]:List Int)))) (
    aK (dp (0+(List.length sv)) 1) (
    k (cr.out ((0+(List.length sv)),((List.take 0 (List.replicate 0 (0:Int)))++sv)))) none)):=by kernel_rfl
theorem cr.ok:cr.Ok:=by
 intro b hb
 have hr:dp b.length 1=true:=mO hb
 rw[cr.eq]
 have e0:(List.take 0 (List.replicate 0 0):List Int)=[]:=rfl
 simp only[Nat.zero_add,hr,ai,e0,List.nil_append,cr.add,cr.F]
 by_cases h:0 < b.length
 ·simp only[aY h,ai]
 ·have:b=[]:=List.eq_nil_of_length_eq_zero (by omega)
  subst this
  simp only[List.length_nil,ni,bq (Nat.lt_irrefl 0),ao]
noncomputable def cr.E:=Entry.cC [some tB] cr.st cr.aB cr.add cr.F cr.out
noncomputable def cr.call:cr.D→Option cr.X:=bS cr.E cr.st
theorem cr.run:bM cr.call cr.aB cr.add cr.F:=dh (dd [.d tB] fun _=>by kernel_rfl)
noncomputable def cr.sg:SG Tryz.prog:=⟨200,aX,cr.E,.fn 0 (by kernel_rfl) cr.ok trivial⟩
abbrev ei.D:=Int
def ei.st:ei.D→SA:=fun n=>([.cV,.d ti n],[])
abbrev ei.Y:=Nat×(List Int)
abbrev ei.X:=Nat×(List Int)
def ei.out:ei.X→bg:=fun x=>⟨.bJ (.new 0 0) 0 [] 0 0 x.1,[],[.obj 0 false (.vec 5 tb x.2)]⟩
def ei.add:ei.D→ei.Y→ei.X:=fun n y=>y
def ei.aB:ei.D→Prop:=fun _=>True
def ei.F:ei.D→ei.Y:=fun n=>(8,hZ n)
noncomputable def ei.G:dY:=fg (P:=Tryz.prog) []
noncomputable def ei.an:eI:= {loops:=j4 [(2,{bm:=[0,1,5],sites:=[16]})],outs:=j3 [(2,{bm:=[0],sites:=[16]},{bm:=[4],sites:=[16]})],iA:=[⟨4,[],16,140⟩]}
noncomputable def ei.A:= @cY Tryz.prog ei.G ei.an 12 Tryz.f143 _ ei.st
abbrev ei.Ok:=cZ @ei.A ei.aB ei.add ei.F ei.out
theorem ei.eq{R:Type}(n:Int)(k:bg→Option R):ei.A n k=
 k (ei.out (8,[(dJ .u8 (bT .i64 n (56:Int))),(dJ .u8 (bT .i64 n (48:Int))),(dJ .u8 (bT .i64 n (40:Int))),(dJ .u8 (bT .i64 n (32:Int))),(dJ .u8 (bT .i64 n (24:Int))),(dJ .u8 (bT .i64 n (16:Int))),(dJ .u8 (bT .i64 n (8:Int))),(dJ .u8 (bT .i64 n (0:Int)))])):=by kernel_rfl
theorem zm(n:Int): [dJ .u8 (bT .i64 n 56),dJ .u8 (bT .i64 n 48),dJ .u8 (bT .i64 n 40),dJ .u8 (bT .i64 n 32),dJ .u8 (bT .i64 n 24),dJ .u8 (bT .i64 n 16),dJ .u8 (bT .i64 n 8),dJ .u8 (bT .i64 n 0)]=hZ n:=by
 rw[jB n 56 (by omega) (by omega),jB n 48 (by omega) (by omega),jB n 40 (by omega) (by omega),jB n 32 (by omega) (by omega),jB n 24 (by omega) (by omega),jB n 16 (by omega) (by omega),jB n 8 (by omega) (by omega),jB n 0 (by omega) (by omega)]
 simp[hZ]
theorem ei.ok:ei.Ok:=by
 intro n _
 rw[ei.eq,zm]
 rfl
noncomputable def ei.E:=Entry.cC [none,some ti] ei.st ei.aB ei.add ei.F ei.out
noncomputable def ei.call:ei.D→Option ei.X:=bS ei.E ei.st
theorem ei.run:bM ei.call ei.aB ei.add ei.F:=dh (dd [.d ti] fun _=>by kernel_rfl)
noncomputable def ei.sg:SG Tryz.prog:=⟨143,BY,ei.E,.fn 1 (by kernel_rfl) ei.ok (And.intro (.none (by kernel_rfl)) trivial)⟩
abbrev dF.D:=Nat×Int×Bs
def dF.st:dF.D→SA:=fun(bL,n,o0)=>([.bJ (.dq 0) 0 [] 0 0 bL,.d ti n],[.obj 0 false (.vec 5 tb o0)])
abbrev dF.Y:=Nat×(List Int)
abbrev dF.X:=Nat×(List Int)
def dF.out:dF.X→bg:=fun x=>⟨.bJ (.dq 0) 8 [] 0 0 x.1,[.obj 8 false (.vec 5 tb x.2)],[]⟩
def dF.add:dF.D→dF.Y→dF.X:=fun(bL,n,o0) y=>y
def dF.aB:dF.D→Prop:=fun(m,n,l)=>m=l.length∧l.length≤140737488355320
def dF.F:dF.D→dF.Y:=fun(m,n,l)=>(l.length+8,l++hZ n)
noncomputable def dF.G:dY:=fg (P:=Tryz.prog) []
noncomputable def dF.an:eI:= {loops:=j4 [(2,{bm:=[0,1,5],sites:=[16]})],outs:=j3 [(2,{bm:=[0],sites:=[16]},{bm:=[4],sites:=[16]})]}
noncomputable def dF.A:= @cY Tryz.prog dF.G dF.an 12 Tryz.f143 _ dF.st
abbrev dF.Ok:=cZ @dF.A dF.aB dF.add dF.F dF.out
theorem dF.eq{R:Type}(bL:Nat)(n:Int)(o0:Bs)(k:bg→Option R):dF.A (bL,n,o0) k=
 aK (decide (bL≤(List.length o0))) (
 aK (dp (bL+1) 1) (
 aK (decide ((bL+1)≤(List.length ((List.take bL o0)++ [(dJ .u8 (bT .i64 n (56:Int)))])))) (
 aK (dp ((bL+1)+1) 1) (
 aK (decide (((bL+1)+1)≤(List.length ((List.take (bL+1) ((List.take bL o0)++ [(dJ .u8 (bT .i64 n (56:Int)))]))++ [(dJ .u8 (bT .i64 n (48:Int)))])))) (
 aK (dp (((bL+1)+1)+1) 1) (
 aK (decide ((((bL+1)+1)+1)≤(List.length ((List.take ((bL+1)+1) ((List.take (bL+1) ((List.take bL o0)++ [(dJ .u8 (bT .i64 n (56:Int)))]))++ [(dJ .u8 (bT .i64 n (48:Int)))]))++ [(dJ .u8 (bT .i64 n (40:Int)))])))) (
 aK (dp ((((bL+1)+1)+1)+1) 1) (
 aK (decide (((((bL+1)+1)+1)+1)≤(List.length ((List.take (((bL+1)+1)+1) ((List.take ((bL+1)+1) ((List.take (bL+1) ((List.take bL o0)++ [(dJ .u8 (bT .i64 n (56:Int)))]))++ [(dJ .u8 (bT .i64 n (48:Int)))]))++ [(dJ .u8 (bT .i64 n (40:Int)))]))++ [(dJ .u8 (bT .i64 n (32:Int)))])))) (
 aK (dp (((((bL+1)+1)+1)+1)+1) 1) (
 aK (decide ((((((bL+1)+1)+1)+1)+1)≤(List.length ((List.take ((((bL+1)+1)+1)+1) ((List.take (((bL+1)+1)+1) ((List.take ((bL+1)+1) ((List.take (bL+1) ((List.take bL o0)++ [(dJ .u8 (bT .i64 n (56:Int)))]))++ [(dJ .u8 (bT .i64 n (48:Int)))]))++ [(dJ .u8 (bT .i64 n (40:Int)))]))++ [(dJ .u8 (bT .i64 n (32:Int)))]))++ [(dJ .u8 (bT .i64 n (24:Int)))])))) (
 aK (dp ((((((bL+1)+1)+1)+1)+1)+1) 1) (
 aK (decide (((((((bL+1)+1)+1)+1)+1)+1)≤(List.length ((List.take (((((bL+1)+1)+1)+1)+1) ((List.take ((((bL+1)+1)+1)+1) ((List.take (((bL+1)+1)+1) ((List.take ((bL+1)+1) ((List.take (bL+1) ((List.take bL o0)++ [(dJ .u8 (bT .i64 n (56:Int)))]))++ [(dJ .u8 (bT .i64 n (48:Int)))]))++ [(dJ .u8 (bT .i64 n (40:Int)))]))++ [(dJ .u8 (bT .i64 n (32:Int)))]))++ [(dJ .u8 (bT .i64 n (24:Int)))]))++ [(dJ .u8 (bT .i64 n (16:Int)))])))) (
 aK (dp (((((((bL+1)+1)+1)+1)+1)+1)+1) 1) (
 aK (decide ((((((((bL+1)+1)+1)+1)+1)+1)+1)≤(List.length ((List.take ((((((bL+1)+1)+1)+1)+1)+1) ((List.take (((((bL+1)+1)+1)+1)+1) ((List.take ((((bL+1)+1)+1)+1) ((List.take (((bL+1)+1)+1) ((List.take ((bL+1)+1) ((List.take (bL+1) ((List.take bL o0)++ [(dJ .u8 (bT .i64 n (56:Int)))]))++ [(dJ .u8 (bT .i64 n (48:Int)))]))++ [(dJ .u8 (bT .i64 n (40:Int)))]))++ [(dJ .u8 (bT .i64 n (32:Int)))]))++ [(dJ .u8 (bT .i64 n (24:Int)))]))++ [(dJ .u8 (bT .i64 n (16:Int)))]))++ [(dJ .u8 (bT .i64 n (8:Int)))])))) (
 aK (dp ((((((((bL+1)+1)+1)+1)+1)+1)+1)+1) 1) (
 k (dF.out (((((((((bL+1)+1)+1)+1)+1)+1)+1)+1),((List.take (((((((bL+1)+1)+1)+1)+1)+1)+1) ((List.take ((((((bL+1)+1)+1)+1)+1)+1) ((List.take (((((bL+1)+1)+1)+1)+1) ((List.take ((((bL+1)+1)+1)+1) ((List.take (((bL+1)+1)+1) ((List.take ((bL+1)+1) ((List.take (bL+1) ((List.take bL o0)++ [(dJ .u8 (bT .i64 n (56:Int)))]))++ [(dJ .u8 (bT .i64 n (48:Int)))]))++ [(dJ .u8 (bT .i64 n (40:Int)))]))++ [(dJ .u8 (bT .i64 n (32:Int)))]))++ [(dJ .u8 (bT .i64 n (24:Int)))]))++ [(dJ .u8 (bT .i64 n (16:Int)))]))++ [(dJ .u8 (bT .i64 n (8:Int)))]))++ [(dJ .u8 (bT .i64 n (0:Int)))])))) none) none) none) none) none) none) none) none) none) none) none) none) none) none) none) none:=by kernel_rfl
theorem dF.ok:dF.Ok:=by
 rintro⟨m,n,l⟩ ⟨rfl,hl⟩
 have hl:l.length≤140737488355320:=hl
 rw[dF.eq]
 simp only[Nat.le_refl,decide_true,ai,List.take_of_length_le,List.length_append,List.length_cons,List.length_nil,Nat.zero_add]
 rw[mO (by omega),mO (by omega),mO (by omega),mO (by omega),mO (by omega),mO (by omega),mO (by omega),mO (by omega)]
 simp only[ai,dF.add,dF.F,←zm,List.append_assoc,List.cons_append,List.nil_append]
noncomputable def dF.E:=Entry.cC [none,some ti] dF.st dF.aB dF.add dF.F dF.out
noncomputable def dF.call:dF.D→Option dF.X:=bS dF.E dF.st
theorem dF.run:bM dF.call dF.aB dF.add dF.F:=dh (dd [.n,.d ti,.d tB] fun _=>by kernel_rfl)
noncomputable def dF.sg:SG Tryz.prog:=⟨143,vR,dF.E,.fn 1 (by kernel_rfl) dF.ok (And.intro (.none (by kernel_rfl)) trivial)⟩
set_option synthInstance.maxSize 5000
abbrev aL.L0.D:=Bs×Nat×Bs×(List Int)
def aL.L0.st:aL.L0.D→AS:=fun(b_2,endL,n2,n14)=>⟨([.d tB b_2,.undef,.ptr (.new 2 0) 0 [] 0,.bJ (.new 14 0) 0 [] 0 0 endL]++bh 61 []),[],([[],[],[.obj 0 false (.d tH n2)]]++bI 11 ([[.obj 0 false (.vec 5 tb n14)]]++bI 50 []))⟩
abbrev aL.L0.Y0:=Nat×(List Int)
abbrev aL.L0.X0:=(Bs×Bs)×(Nat×(List Int))
def aL.L0.bw:aL.L0.X0→Exit×AS:=fun x=>(.exit 0,⟨([.d tB x.1.1,.undef,.ptr (.new 2 0) 0 [] 0,.bJ (.new 14 0) 0 [] 0 0 x.2.1]++bh 61 []),[],([[],[],[.obj 0 false (.d tH x.1.2)]]++bI 11 ([[.obj 0 false (.vec 5 tb x.2.2)]]++bI 50 []))⟩)
abbrev aL.L0.X:=aL.L0.X0
abbrev aL.L0.Y:=aL.L0.Y0
def aL.L0.out:aL.L0.X→Out (Exit×AS):=fun x=> .ok (aL.L0.bw x)
def aL.L0.add:aL.L0.D→aL.L0.Y→aL.L0.X:=fun(b_2,endL,n2,n14) y=>((b_2,n2),y)
abbrev aL.L1.D:=Bs×Nat×Bs×(List Int)×(List Int)
def aL.L1.st:aL.L1.D→AS:=fun(b_3,endL_2,n2_2,n4,n14_2)=>⟨([.d tB b_3,.undef,.ptr (.new 2 0) 0 [] 0,.bJ (.new 14 0) 8 [] 0 0 endL_2,.ptr (.new 4 0) 0 [] 0]++bh 60 []),[],([[],[],[.obj 0 false (.d tH n2_2)],[],[.obj 0 false (.d (.arr 8 (.int .u32)) n4)]]++bI 9 ([[.obj 8 false (.vec 5 tb n14_2)]]++bI 50 []))⟩
abbrev aL.L1.Y0:=(List Int)
abbrev aL.L1.X0:=(Nat×Bs×(List Int))×((List Int))
def aL.L1.bw:aL.L1.X0→Exit×AS:=fun x=>(.exit 2,⟨([.undef,.undef,.ptr (.new 2 0) 0 [] 0,.bJ (.new 14 0) 8 [] 0 0 x.1.1,.ptr (.new 4 0) 0 [] 0]++bh 60 []),[],([[],[],[.obj 0 false (.d tH x.1.2.1)],[],[.obj 0 false (.d (.arr 8 (.int .u32)) x.2)]]++bI 9 ([[.obj 8 false (.vec 5 tb x.1.2.2)]]++bI 50 []))⟩)
abbrev aL.L1.X:=aL.L1.X0
abbrev aL.L1.Y:=aL.L1.Y0
def aL.L1.out:aL.L1.X→Out (Exit×AS):=fun x=> .ok (aL.L1.bw x)
def aL.L1.add:aL.L1.D→aL.L1.Y→aL.L1.X:=fun(b_3,endL_2,n2_2,n4,n14_2) y=>((endL_2,n2_2,n14_2),y)
abbrev aL.L2.D:=Bs×Bs×(List Int)
def aL.L2.st:aL.L2.D→AS:=fun(endv,n2_3,n4_2)=>⟨([.undef,.undef,.ptr (.new 2 0) 0 [] 0,.d tB endv,.ptr (.new 4 0) 0 [] 0]++bh 60 []),[],([[],[],[.obj 0 false (.d tH n2_3)],[],[.obj 0 false (.d (.arr 8 (.int .u32)) n4_2)]]++bI 60 [])⟩
abbrev aL.L2.Y0:=(List Int)
abbrev aL.L2.X0:=(Bs)×((List Int))
def aL.L2.bw:aL.L2.X0→Exit×AS:=fun x=>(.exit 4,⟨([.undef,.undef,.ptr (.new 2 0) 0 [] 0,.undef,.ptr (.new 4 0) 0 [] 0]++bh 60 []),[],([[],[],[.obj 0 false (.d tH x.1)],[],[.obj 0 false (.d (.arr 8 (.int .u32)) x.2)]]++bI 60 [])⟩)
abbrev aL.L2.X:=aL.L2.X0
abbrev aL.L2.Y:=aL.L2.Y0
def aL.L2.out:aL.L2.X→Out (Exit×AS):=fun x=> .ok (aL.L2.bw x)
def aL.L2.add:aL.L2.D→aL.L2.Y→aL.L2.X:=fun(endv,n2_3,n4_2) y=>(n2_3,y)
abbrev aL.L3.D:=Int×Bs×(List Int)
def aL.L3.st:aL.L3.D→AS:=fun(t48,n2_4,n4_3)=>⟨([.undef,.undef,.ptr (.new 2 0) 0 [] 0,.undef,.ptr (.new 4 0) 0 [] 0]++bh 43 ([.d ti t48]++bh 16 [])),[],([[],[],[.obj 0 false (.d tH n2_4)],[],[.obj 0 false (.d (.arr 8 (.int .u32)) n4_3)]]++bI 60 [])⟩
abbrev aL.L3.Y0:=Bs
abbrev aL.L3.X0:=Bs
def aL.L3.bw:aL.L3.X0→Exit×AS:=fun x=>(.exit 6,⟨([.undef,.undef,.ptr (.new 2 0) 0 [] 0]++bh 62 []),[],([[],[],[.obj 0 false (.d tH x)]]++bI 62 [])⟩)
abbrev aL.L3.X:=aL.L3.X0
abbrev aL.L3.Y:=aL.L3.Y0
def aL.L3.out:aL.L3.X→Out (Exit×AS):=fun x=> .ok (aL.L3.bw x)
def aL.L3.add:aL.L3.D→aL.L3.Y→aL.L3.X:=fun(t48,n2_4,n4_3) y=>y
abbrev aL.D:=Bs
def aL.st:aL.D→SA:=fun b=>([.d tB b],[])
abbrev aL.Y:=Bs
abbrev aL.X:=Bs
def aL.out:aL.X→bg:=fun x=>⟨.d tH x,[],[]⟩
def aL.add:aL.D→aL.Y→aL.X:=fun b y=>y
def zc(n:Nat):Nat:=(120 - n%64)%64
def aL.L0.aB:aL.L0.D→Prop:=fun(b,m,n2,l)=>m=l.length∧l.length+zc l.length≤140737488355328
def aL.L0.F:aL.L0.D→aL.L0.Y:=fun(b,m,n2,l)=>(l.length+zc l.length,l++List.replicate (zc l.length) 0)
def aL.L1.aB:aL.L1.D→Prop:=fun(b,m,n2,h,l)=>∃s:St,h=s.l
def aL.L1.F:aL.L1.D→aL.L1.Y:=fun(b,m,n2,h,l)=>(blocks (xf h) b).l
def aL.L2.aB:aL.L2.D→Prop:=fun(b,n2,h)=>b.length%64=0∧∃s:St,h=s.l
def aL.L2.F:aL.L2.D→aL.L2.Y:=fun(b,n2,h)=>(blocks (xf h) b).l
def o8(h:List Int)(i:Nat)(_:Int):Int:=dJ .u8 (bT .u32 (nth (.int .u32) h (i / 4)) ((24 - 8*(i%4):Nat):Int))
def aL.L3.aB:aL.L3.D→Prop:=fun(t,n2,h)=>n2.length=32∧h.length=8∧∃k:Nat,k≤32∧t=k
def aL.L3.F:aL.L3.D→aL.L3.Y:=fun(t,n2,h)=>from_ (o8 h) t.toNat n2
def aL.aB:aL.D→Prop:=fun b=>b.length≤140737488350000
def aL.F:aL.D→aL.Y:=fun b=>Gw b
noncomputable def aL.G:dY:=fg (P:=Tryz.prog) [cr.sg,dF.sg,first.sg,mix.sg]
noncomputable def aL.L0.E:=bQ.cC aL.L0.st aL.L0.aB aL.L0.add aL.L0.F aL.L0.out
noncomputable def aL.L0.call:aL.L0.D→Option aL.L0.X:=dm aL.L0.E aL.L0.st
noncomputable def aL.L1.E:=bQ.cC aL.L1.st aL.L1.aB aL.L1.add aL.L1.F aL.L1.out
noncomputable def aL.L1.call:aL.L1.D→Option aL.L1.X:=dm aL.L1.E aL.L1.st
noncomputable def aL.L2.E:=bQ.cC aL.L2.st aL.L2.aB aL.L2.add aL.L2.F aL.L2.out
noncomputable def aL.L2.call:aL.L2.D→Option aL.L2.X:=dm aL.L2.E aL.L2.st
noncomputable def aL.L3.E:=bQ.cC aL.L3.st aL.L3.aB aL.L3.add aL.L3.F aL.L3.out
noncomputable def aL.L3.call:aL.L3.D→Option aL.L3.X:=dm aL.L3.E aL.L3.st
noncomputable def aL.an:eI:= {loops:=j4 [(2,{bm:=[0,2,3],sites:=[2,14],iA:=[⟨3,[],14,140⟩]}),(6,{bm:=[0,2,3,4],sites:=[2,4,14]}),(9,{bm:=[2,3,4],sites:=[2,4],data:=[(3,tB)]}),(13,{bm:=[2,4,48],sites:=[2,4]})],outs:=j3 [(2,{bm:=[0,2,3],sites:=[2,14]},{bm:=[2]}),(6,{bm:=[2,3,4],sites:=[2,4,14]},{bm:=[2]}),(9,{bm:=[2,4],sites:=[2,4]},{bm:=[2]}),(13,{bm:=[2],sites:=[2]},{bm:=[2]})],fJ:=kT [(2,aL.L0.E),(6,aL.L1.E),(9,aL.L2.E),(13,aL.L3.E)]}
noncomputable def aL.A:= @cY Tryz.prog aL.G aL.an 0 Tryz.f144 _ aL.st
abbrev aL.Ok:=cZ @aL.A aL.aB aL.add aL.F aL.out
noncomputable def aL.L0.R:= @bV Tryz.prog aL.G aL.an 0 Tryz.f144 0 _ aL.L0.st
abbrev aL.L0.Ok:=ez Tryz.prog aL.G aL.an 0 Tryz.f144 0 aL.L0.st aL.L0.aB aL.L0.add aL.L0.F aL.L0.out
noncomputable def aL.L1.R:= @bV Tryz.prog aL.G aL.an 0 Tryz.f144 1 _ aL.L1.st
abbrev aL.L1.Ok:=ez Tryz.prog aL.G aL.an 0 Tryz.f144 1 aL.L1.st aL.L1.aB aL.L1.add aL.L1.F aL.L1.out
noncomputable def aL.L2.R:= @bV Tryz.prog aL.G aL.an 0 Tryz.f144 2 _ aL.L2.st
abbrev aL.L2.Ok:=ez Tryz.prog aL.G aL.an 0 Tryz.f144 2 aL.L2.st aL.L2.aB aL.L2.add aL.L2.F aL.L2.out
noncomputable def aL.L3.R:= @bV Tryz.prog aL.G aL.an 0 Tryz.f144 3 _ aL.L3.st
abbrev aL.L3.Ok:=ez Tryz.prog aL.G aL.an 0 Tryz.f144 3 aL.L3.st aL.L3.aB aL.L3.add aL.L3.F aL.L3.out
theorem aL.L0.run:bM aL.L0.call aL.L0.aB aL.L0.add aL.L0.F:=eF (eD [.d tB,.n,.d tB,.d tB] fun _=>by kernel_rfl)
theorem aL.L0.aD:fP @aL.L0.R aL.L0.st aL.L0.aB aL.L0.add aL.L0.F aL.L0.bw aL.L0.Ok:=fR
theorem aL.L0.step{R:Type}(b_2:Bs)(endL:Nat)(n2:Bs)(n14:(List Int))(kn:AS→Option R)(kx:Exit→AS→Option R):aL.L0.R (b_2,endL,n2,n14) kn kx=
  aK ((mZ (jD ((endL:Nat):Int) (64:Int)) (56:Int))) (
   aK (decide (endL≤(List.length n14))) (
   aK (dp (endL+1) 1) (
   kn (aL.L0.st (b_2,(endL+1),n2,((List.take endL n14)++ [(0:Int)])))) none) none) (
   kx (aL.L0.bw ((b_2,n2),(endL,n14))).1 (aL.L0.bw ((b_2,n2),(endL,n14))).2):=by kernel_rfl
theorem aL.L1.run:bM aL.L1.call aL.L1.aB aL.L1.add aL.L1.F:=eF (eD [.d tB,.n,.d tB,.d (.slice (.int .u32)),.d tB] fun _=>by kernel_rfl)
theorem aL.L1.aD:fP @aL.L1.R aL.L1.st aL.L1.aB aL.L1.add aL.L1.F aL.L1.bw aL.L1.Ok:=fR
theorem aL.L1.step{R:Type}(b_3:Bs)(endL_2:Nat)(n2_2:Bs)(n4:(List Int))(n14_2:(List Int))(kn:AS→Option R)(kx:Exit→AS→Option R):aL.L1.R (b_3,endL_2,n2_2,n4,n14_2) kn kx=
  aK ((oc (((List.length b_3):Nat):Int) (64:Int))) (
   aK (inc (64:Int) (((List.length b_3):Nat):Int)) (
   al (mix.call (n4,(cut b_3 0 64))) fun x1=>
   aK (inc (64:Int) (((List.length b_3):Nat):Int)) (
   kn (aL.L1.st ((cut b_3 64 ((List.length b_3) - 64)),endL_2,n2_2,x1,n14_2))) none) none) (
   kx (aL.L1.bw ((endL_2,n2_2,n14_2),n4)).1 (aL.L1.bw ((endL_2,n2_2,n14_2),n4)).2):=by kernel_rfl
theorem aL.L2.run:bM aL.L2.call aL.L2.aB aL.L2.add aL.L2.F:=eF (eD [.d tB,.d tB,.d (.slice (.int .u32))] fun _=>by kernel_rfl)
theorem aL.L2.aD:fP @aL.L2.R aL.L2.st aL.L2.aB aL.L2.add aL.L2.F aL.L2.bw aL.L2.Ok:=fR
theorem aL.L2.step{R:Type}(endv:Bs)(n2_3:Bs)(n4_2:(List Int))(kn:AS→Option R)(kx:Exit→AS→Option R):aL.L2.R (endv,n2_3,n4_2) kn kx=
  aK ((mJ (((List.length endv):Nat):Int) (0:Int))) (
   aK (inc (64:Int) (((List.length endv):Nat):Int)) (
   al (mix.call (n4_2,(cut endv 0 64))) fun x1=>
   aK (inc (64:Int) (((List.length endv):Nat):Int)) (
   kn (aL.L2.st ((cut endv 64 ((List.length endv) - 64)),n2_3,x1))) none) none) (
   kx (aL.L2.bw (n2_3,n4_2)).1 (aL.L2.bw (n2_3,n4_2)).2):=by kernel_rfl
theorem aL.L3.run:bM aL.L3.call aL.L3.aB aL.L3.add aL.L3.F:=eF (eD [.d ti,.d tB,.d (.slice (.int .u32))] fun _=>by kernel_rfl)
theorem aL.L3.aD:fP @aL.L3.R aL.L3.st aL.L3.aB aL.L3.add aL.L3.F aL.L3.bw aL.L3.Ok:=fR
theorem aL.L3.step{R:Type}(t48:Int)(n2_4:Bs)(n4_3:(List Int))(kn:AS→Option R)(kx:Exit→AS→Option R):aL.L3.R (t48,n2_4,n4_3) kn kx=
  aK ((fZ t48 (32:Int))) (
   aK (eH (lQ .i64 t48 (4:Int)) (8:Int)) (
   aK (decide ((Int.toNat (lQ .i64 t48 (4:Int))) < (List.length n4_3))) (
   aK (decide ((((Int.toNat (lQ .i64 t48 (4:Int)))*1)+0)=(0+((Int.toNat (lQ .i64 t48 (4:Int)))*1)))) (
   aK (hP (cQ .i64 (24:Int) (fe .i64 (8:Int) (jD t48 (4:Int))))) (
   aK (eH t48 (32:Int)) (
   aK (decide ((Int.toNat t48) < (List.length n2_4))) (
   aK (decide ((((Int.toNat t48)*1)+0)=(0+((Int.toNat t48)*1)))) (
   aK (decide ((Int.toNat t48) < (List.length n2_4))) (
   kn (aL.L3.st ((bR .i64 t48 (1:Int)),(List.set n2_4 (Int.toNat t48) (dJ .u8 (bT .u32 (nth (.int .u32) n4_3 (Int.toNat (lQ .i64 t48 (4:Int)))) (cQ .i64 (24:Int) (fe .i64 (8:Int) (jD t48 (4:Int))))))),n4_3))) none) none) none) none) none) none) none) none) (
   kx (aL.L3.bw n2_4).1 (aL.L3.bw n2_4).2):=by kernel_rfl
theorem aL.eq{R:Type}(b:Bs)(k:bg→Option R):aL.A b k=
 aK (inc (cQ .i64 (((List.length b):Nat):Int) (jD (((List.length b):Nat):Int) (64:Int))) (((List.length b):Nat):Int)) (
 al (cr.call (cut b (Int.toNat (cQ .i64 (((List.length b):Nat):Int) (jD (((List.length b):Nat):Int) (64:Int)))) ((List.length b) - (Int.toNat (cQ .i64 (((List.length b):Nat):Int) (jD (((List.length b):Nat):Int) (64:Int))))))) fun x1=>
 aK (decide (x1.1≤(List.length x1.2))) (
 aK (dp (x1.1+1) 1) (
 al (aL.L0.call (b,(x1.1+1),(List.replicate 32 (0:Int)),((List.take x1.1 x1.2)++ [(128:Int)]))) fun x2=>
 al (dF.call (x2.2.1,(fe .i64 (8:Int) (((List.length x2.1.1):Nat):Int)),x2.2.2)) fun x3=>
 al (first.call ()) fun x4=>
 al (aL.L1.call (x2.1.1,x3.1,x2.1.2,x4,x3.2)) fun x6=>
 aK (decide (0=0∧(0+x6.1.1)≤(List.length x6.1.2.2))) (
 al (aL.L2.call ((cut x6.1.2.2 0 x6.1.1),x6.1.2.1,x6.2)) fun x9=>
 al (aL.L3.call ((0:Int),x9.1,x9.2)) fun x10=>
 k (aL.out x10)) none) none) none) none:=by kernel_rfl
theorem aL.L0.ok:aL.L0.Ok:=by
 refine aL.L0.aD (fun(b,m,n2,l)=>zc l.length) ?_
 rintro⟨b,m,n2,l⟩ ⟨rfl,hl⟩
 have hl:l.length+zc l.length≤140737488355328:=hl
 have hr:jD ((l.length:Nat):Int) 64=((l.length%64:Nat):Int):=by
  unfold jD
  rw[Int.tmod_eq_emod_of_nonneg (by omega)]
  omega
 by_cases h:l.length%64=56
 ·right
  intro R kn kx
  have hz:zc l.length=0:=by unfold zc;omega
  rw[aL.L0.step,hr,cg (by omega)]
  simp only[ao,aL.L0.add,aL.L0.F,hz,Nat.add_zero,List.replicate_zero,List.append_nil]
 ·left
  have hz:zc l.length=zc (l.length+1)+1:=by unfold zc;omega
  refine⟨(b,l.length+1,n2,l++ [0]),⟨by simp,by simp only[List.length_append,List.length_cons,List.length_nil,Nat.zero_add];omega⟩,by simp only[List.length_append,List.length_cons,List.length_nil,Nat.zero_add];omega,?_,fun kn kx=> ?_⟩
  ·simp only[aL.L0.add,aL.L0.F,List.length_append,List.length_cons,List.length_nil,Nat.zero_add,hz,List.append_assoc,List.cons_append,List.nil_append,List.replicate_succ]
   rw[show l.length+1+zc (l.length+1)=l.length+(zc (l.length+1)+1) by omega]
  ·rw[aL.L0.step,hr,dR (by omega),mO (by omega)]
   simp only[ai,Nat.le_refl,decide_true,List.take_length]
theorem aL.L1.ok:aL.L1.Ok:=by
 refine aL.L1.aD (fun(b,m,n2,h,l)=>b.length) ?_
 rintro⟨b,m,n2,h,l⟩ ⟨s,rfl⟩
 by_cases hb:64≤b.length
 ·left
  have e1:cut b 64 (b.length - 64)=b.drop 64:=by unfold cut;rw[List.take_of_length_le (by simp)]
  have e2:cut b 0 64=b.take 64:=rfl
  have hp:mix.aB (s.l,b.take 64):=⟨⟨s,rfl⟩,by simp;omega⟩
  refine⟨(b.drop 64,m,n2,(rv s (b.take 64)).l,l),⟨_,rfl⟩,by simp;omega,?_,fun kn kx=> ?_⟩
  ·simp only[aL.L1.add,aL.L1.F,iv]
   rw[nQ s b hb]
  ·rw[aL.L1.step,gq (by omega),kB (by omega) (by omega),e1,e2]
   simp only[ai,mix.run hp,ab,mix.add,mix.F,iv]
 ·right
  intro R kn kx
  rw[aL.L1.step,eV (by omega)]
  simp only[ao,aL.L1.add,aL.L1.F,iv]
  rw[mQ s b (by omega)]
theorem aL.L2.ok:aL.L2.Ok:=by
 refine aL.L2.aD (fun(b,n2,h)=>b.length) ?_
 rintro⟨b,n2,h⟩ ⟨hm,s,rfl⟩
 have hm:b.length%64=0:=hm
 by_cases hb:0 < b.length
 ·left
  have e1:cut b 64 (b.length - 64)=b.drop 64:=by unfold cut;rw[List.take_of_length_le (by simp)]
  have e2:cut b 0 64=b.take 64:=rfl
  have hp:mix.aB (s.l,b.take 64):=⟨⟨s,rfl⟩,by simp;omega⟩
  refine⟨(b.drop 64,n2,(rv s (b.take 64)).l),⟨by simp;omega,_,rfl⟩,by simp;omega,?_,fun kn kx=> ?_⟩
  ·simp only[aL.L2.add,aL.L2.F,iv]
   rw[nQ s b (by omega)]
  ·rw[aL.L2.step,dx (by omega),kB (by omega) (by omega),e1,e2]
   simp only[ai,mix.run hp,ab,mix.add,mix.F,iv]
 ·right
  intro R kn kx
  rw[aL.L2.step,cW (by omega)]
  simp only[ao,aL.L2.add,aL.L2.F,iv]
  rw[mQ s b (by omega)]
theorem aL.L3.ok:aL.L3.Ok:=by
 refine aL.L3.aD (fun(t,n2,h)=>32 - t.toNat) ?_
 rintro⟨t,m,h⟩ ⟨hl,h8,k,hk,rfl⟩
 have hl:m.length=32:=hl
 have h8:h.length=8:=h8
 have e2:Int.toNat (k:Int)=k:=by omega
 have e3:Int.toNat ((k+1:Nat):Int)=k+1:=by omega
 by_cases hlt:k < 32
 ·left
  have e1:bR .i64 (k:Int) 1=((k+1:Nat):Int):=by rw[fY (by omega) (by omega)];omega
  have q4:lQ .i64 (k:Int) 4=((k / 4:Nat):Int):=by
   have:(k:Int).tdiv 4=((k / 4:Nat):Int):=by rw[Int.tdiv_eq_ediv_of_nonneg (by omega)];omega
   unfold lQ
   rw[this,jI (by omega) (by omega)]
  have r4:jD (k:Int) 4=((k%4:Nat):Int):=by
   unfold jD
   rw[Int.tmod_eq_emod_of_nonneg (by omega)]
   omega
  have s4:cQ .i64 24 (fe .i64 8 ((k%4:Nat):Int))=((24 - 8*(k%4):Nat):Int):=by
   rw[qd (by omega) (by omega),eR (by omega) (by omega)]
   omega
  have e4:Int.toNat ((k / 4:Nat):Int)=k / 4:=by omega
  refine⟨(((k+1:Nat):Int),m.set k (o8 h k m[k]),h),⟨by simpa using hl,h8,k+1,by omega,rfl⟩,by simp;omega,?_,fun kn kx=> ?_⟩
  ·simp only[aL.L3.add,aL.L3.F,e2,e3]
   rw[oJ (o8 h) m k (by omega)]
  ·have d0:decide (k < 32)=true:=aY hlt
   have d1:decide (k / 4 < 8)=true:=aY (by omega)
   rw[aL.L3.step,bu (by omega),q4,r4,s4,bz (by omega) (by omega),bz (by omega) (by omega),kE (by omega)]
   simp only[e1,e2,e4,Nat.mul_one,Nat.zero_add,Nat.add_zero,decide_true,ai,hl,h8,d0,d1,o8]
 ·right
  obtain rfl:k=32:=by omega
  intro R kn kx
  rw[aL.L3.step,bk (by omega)]
  simp only[ao,aL.L3.add,aL.L3.F,e2]
  rw[qb _ _ _ (by omega)]
theorem B2(w:W):BitVec.ofInt 8 (vw w)=w.setWidth 8:=by
 apply BitVec.eq_of_toNat_eq
 rw[BitVec.toNat_ofInt,BitVec.toNat_setWidth]
 unfold vw
 omega
theorem FT(w:W)(k:Int):dJ .u8 (bT .u32 (vw w) k)=vw ((w >>> k.toNat).setWidth 8):=by
 rw[od,tv,B2]
theorem A0(s:St):from_ (o8 s.l) 0 (List.replicate 32 0)=E0 s:=by
 rw[tn]
 simp only[List.range_eq_range',List.range',List.map_cons,List.map_nil,o8,Nat.reduceAdd,Nat.reduceDiv,Nat.reduceMod,Nat.reduceMul,Nat.reduceSub,n0,n1,n2,n3,n4,n5,n6,n7,FT]
 rfl
theorem aL.ok:aL.Ok:=by
 intro b hb
 have hb:b.length≤140737488350000:=hb
 have hr:jD ((b.length:Nat):Int) 64=((b.length%64:Nat):Int):=by
  unfold jD
  rw[Int.tmod_eq_emod_of_nonneg (by omega)]
  omega
 have hs:cQ .i64 ((b.length:Nat):Int) ((b.length%64:Nat):Int)=((b.length - b.length%64:Nat):Int):=by
  rw[eR (by omega) (by omega)];omega
 have hn:Int.toNat ((b.length - b.length%64:Nat):Int)=b.length - b.length%64:=by omega
 have hm:fe .i64 8 ((b.length:Nat):Int)=8*(b.length:Int):=qd (by omega) (by omega)
 generalize hq:b.length - b.length%64=q at hs hn
 have hc:cut b q (b.length - q)=b.drop q:=by unfold cut;rw[List.take_of_length_le (by simp)]
 have hcl:(b.drop q).length=b.length%64:=by simp;omega
 have p1:cr.aB (b.drop q):=by show(b.drop q).length≤_;omega
 rw[aL.eq,hr,hs,kB (by omega) (by omega),hn,hc]
 simp only[ai,cr.run p1,ab,cr.add,cr.F,Nat.le_refl,decide_true,List.take_length]
 have p2:aL.L0.aB (b,(b.drop q).length+1,List.replicate 32 0,b.drop q++ [128]):=by
  refine⟨by simp,?_⟩
  simp only[List.length_append,List.length_cons,List.length_nil,zc]
  omega
 have hz:zc (b.drop q++ [128]).length=lU b.length:=by
  simp only[List.length_append,List.length_cons,List.length_nil,zc,lU]
  omega
 rw[mO (by omega)]
 simp only[ai,aL.L0.run p2,ab,aL.L0.add,aL.L0.F,hm,hz]
 have hlen:(b.drop q++ [128]).length+lU b.length=(b.drop q++ [128]++List.replicate (lU b.length) 0).length:=by rw[@List.length_append _ (b.drop q++ [128]),List.length_replicate]
 have p3:dF.aB ((b.drop q++ [128]).length+lU b.length,8*(b.length:Int),b.drop q++ [128]++List.replicate (lU b.length) 0):=by
  refine⟨hlen,?_⟩
  simp only[List.length_append,List.length_cons,List.length_nil,List.length_replicate,lU]
  omega
 have p4:aL.L1.aB (b,(b.drop q++ [128]++List.replicate (lU b.length) 0).length+8,List.replicate 32 0,jr.l,b.drop q++ [128]++List.replicate (lU b.length) 0++hZ (8*(b.length:Int))):=⟨jr,rfl⟩
 simp only[dF.run p3,ab,dF.add,dF.F,first.run (d:=()) trivial,first.add,first.F,aL.L1.run p4,aL.L1.add,aL.L1.F,iv]
 generalize he:b.drop q++ [128]++List.replicate (lU b.length) 0++hZ (8*(b.length:Int))=e
 have hel:(b.drop q++ [128]++List.replicate (lU b.length) 0).length+8=e.length:=by rw[←he,@List.length_append _ _ (hZ _),bW]
 have hem:e.length%64=0:=by
  rw[←hel]
  simp only[List.length_append,List.length_cons,List.length_nil,List.length_replicate,lU,hcl]
  omega
 have hce:cut e 0 ((b.drop q++ [128]++List.replicate (lU b.length) 0).length+8)=e:=by
  rw[hel];unfold cut;rw[List.drop_zero,List.take_length]
 rw[hce,hel,aY ⟨trivial,by omega⟩]
 have p5:aL.L2.aB (e,List.replicate 32 0,(blocks jr b).l):=⟨hem,blocks jr b,rfl⟩
 have p6:aL.L3.aB (0,List.replicate 32 0,(blocks (blocks jr b) e).l):=⟨rfl,rfl,0,by omega,rfl⟩
 simp only[ai,aL.L2.run p5,ab,aL.L2.add,aL.L2.F,iv,aL.L3.run p6,aL.L3.add,aL.L3.F,aL.add,aL.F]
 rw[show Int.toNat 0=0 from rfl,A0]
 have hbl:blocks jr (pad b)=blocks (blocks jr b) e:=by
  have h1:pad b=b.take q++e:=by
   rw[←he]
   unfold pad
   rw[List.append_assoc,List.append_assoc,←List.append_assoc (b.take q),List.take_append_drop]
   rfl
  have h2:blocks jr b=blocks (blocks jr (b.take q)) (b.drop q):=by
   rw[←o7 _ _ _ (by simp;omega),List.take_append_drop]
  rw[h1,o7 _ _ _ (by simp;omega),h2,mQ _ (b.drop q) (by omega)]
 rw[Gw,hbl]
noncomputable def aL.E:=Entry.cC [some tB] aL.st aL.aB aL.add aL.F aL.out
noncomputable def aL.call:aL.D→Option aL.X:=bS aL.E aL.st
theorem aL.run:bM aL.call aL.aB aL.add aL.F:=dh (dd [.d tB] fun _=>by kernel_rfl)
noncomputable def aL.sg:SG Tryz.prog:=⟨144,aX,aL.E,.fn 4 (by kernel_rfl) aL.ok (And.intro (.cC aL.L0.ok (by kernel_rfl)) (And.intro (.cC aL.L1.ok (by kernel_rfl)) (And.intro (.cC aL.L2.ok (by kernel_rfl)) (And.intro (.cC aL.L3.ok (by kernel_rfl)) trivial))))⟩
set_option synthInstance.maxSize 5000
abbrev ch.L0.D:=Nat×(List Bs)×Int×Int×Bs×(List Int)
def ch.L0.st:ch.L0.D→AS:=fun(bL,t13,t14,t15,n4,n10)=>⟨(bh 4 ([.ptr (.new 4 0) 0 [] 0,.bJ (.new 10 0) 0 [] 0 0 bL]++bh 7 ([.d (.slice tB) t13,.d ti t14,.d ti t15]++bh 12 []))),[],(bI 4 ([[.obj 0 false (.d tH n4)]]++bI 5 ([[.obj 0 false (.vec 5 tb n10)]]++bI 17 [])))⟩
abbrev ch.L0.Y0:=Nat×(List Int)
abbrev ch.L0.X0:=(Bs)×(Nat×(List Int))
def ch.L0.bw:ch.L0.X0→Exit×AS:=fun x=>(.exit 0,⟨(bh 4 ([.ptr (.new 4 0) 0 [] 0,.bJ (.new 10 0) 0 [] 0 0 x.2.1]++bh 22 [])),[],(bI 4 ([[.obj 0 false (.d tH x.1)]]++bI 5 ([[.obj 0 false (.vec 5 tb x.2.2)]]++bI 17 [])))⟩)
abbrev ch.L0.X:=ch.L0.X0
abbrev ch.L0.Y:=ch.L0.Y0
def ch.L0.out:ch.L0.X→Out (Exit×AS):=fun x=> .ok (ch.L0.bw x)
def ch.L0.add:ch.L0.D→ch.L0.Y→ch.L0.X:=fun(bL,t13,t14,t15,n4,n10) y=>(n4,y)
abbrev ch.D:=ByteArray×(List Bs)
def ch.st:ch.D→SA:=fun(name,parts)=>([.d .str name,.d (.slice tB) parts],[])
abbrev ch.Y:=Bs
abbrev ch.X:=Bs
def ch.out:ch.X→bg:=fun x=>⟨.d tH x,[],[]⟩
def ch.add:ch.D→ch.Y→ch.X:=fun(name,parts) y=>y
def ch.L0.aB:ch.L0.D→Prop:=fun(m,ps,n,i,n4,l)=>m=l.length∧n=ps.length∧ps.length≤140737488350000∧∃k:Nat,k≤ps.length∧i=k∧l.length+(iB (ps.drop k)).length≤140737488350000
def ch.L0.F:ch.L0.D→ch.L0.Y:=fun(m,ps,n,i,n4,l)=>(l.length+(iB (ps.drop i.toNat)).length,l++iB (ps.drop i.toNat))
def ch.aB:ch.D→Prop:=fun(name,ps)=>(rJ (bt name) ps).length≤140737488350000
def ch.F:ch.D→ch.Y:=fun(name,ps)=>tag (bt name) ps
noncomputable def ch.G:dY:=fg (P:=Tryz.prog) [ei.sg,dF.sg,aL.sg]
noncomputable def ch.L0.E:=bQ.cC ch.L0.st ch.L0.aB ch.L0.add ch.L0.F ch.L0.out
noncomputable def ch.L0.call:ch.L0.D→Option ch.L0.X:=dm ch.L0.E ch.L0.st
noncomputable def ch.an:eI:= {loops:=j4 [(3,{bm:=[4,5,13,14,15],sites:=[4,10],iA:=[⟨5,[],10,140⟩]})],outs:=j3 [(3,{bm:=[4,5],sites:=[4,10]},{bm:=[4]})],fJ:=kT [(3,ch.L0.E)]}
noncomputable def ch.A:= @cY Tryz.prog ch.G ch.an 0 Tryz.f72 _ ch.st
abbrev ch.Ok:=cZ @ch.A ch.aB ch.add ch.F ch.out
noncomputable def ch.L0.R:= @bV Tryz.prog ch.G ch.an 0 Tryz.f72 0 _ ch.L0.st
abbrev ch.L0.Ok:=ez Tryz.prog ch.G ch.an 0 Tryz.f72 0 ch.L0.st ch.L0.aB ch.L0.add ch.L0.F ch.L0.out
theorem ch.L0.run:bM ch.L0.call ch.L0.aB ch.L0.add ch.L0.F:=eF (eD [.n,.d (.slice tB),.d ti,.d ti,.d tB,.d tB] fun _=>by kernel_rfl)
theorem ch.L0.aD:fP @ch.L0.R ch.L0.st ch.L0.aB ch.L0.add ch.L0.F ch.L0.bw ch.L0.Ok:=fR
theorem ch.L0.step{R:Type}(bL:Nat)(t13:(List Bs))(t14:Int)(t15:Int)(n4:Bs)(n10:(List Int))(kn:AS→Option R)(kx:Exit→AS→Option R):ch.L0.R (bL,t13,t14,t15,n4,n10) kn kx=
  aK ((fZ t15 t14)) (
   aK (eH t15 (((List.length t13):Nat):Int)) (
   al (dF.call (bL,(((List.length (nth tB t13 (Int.toNat t15))):Nat):Int),n10)) fun x1=>
   aK (decide (x1.1≤(List.length x1.2))) (
   aK (dp (x1.1+(List.length (nth tB t13 (Int.toNat t15)))) 1) (
   kn (ch.L0.st ((x1.1+(List.length (nth tB t13 (Int.toNat t15)))),t13,t14,(bR .i64 t15 (1:Int)),n4,((List.take x1.1 x1.2)++(nth tB t13 (Int.toNat t15)))))) none) none) none) (
   kx (ch.L0.bw (n4,(bL,n10))).1 (ch.L0.bw (n4,(bL,n10))).2):=by kernel_rfl
theorem ch.eq{R:Type}(name:ByteArray)(parts:(List Bs))(k:bg→Option R):ch.A (name,parts) k=
 al (ei.call (((ByteArray.size name):Nat):Int)) fun x1=>
 aK (decide (x1.1≤(List.length x1.2))) (
 aK (dp (x1.1+(List.length (bt name))) 1) (
 al (ch.L0.call ((x1.1+(List.length (bt name))),parts,(((List.length parts):Nat):Int),(0:Int),(List.replicate 32 (0:Int)),((List.take x1.1 x1.2)++(bt name)))) fun x4=>
 aK (decide (0=0∧(0+x4.2.1)≤(List.length x4.2.2))) (
 al (aL.call (cut x4.2.2 0 x4.2.1)) fun x5=>
 k (ch.out x5)) none) none) none:=by kernel_rfl
theorem vT(p:List Int)(ps:List (List Int)):iB (p::ps)=hZ p.length++p++iB ps:=by simp[iB]
theorem vU(ps:List (List Int))(k:Nat)(h:k < ps.length):iB (ps.drop k)=hZ ps[k].length++ps[k]++iB (ps.drop (k+1)):=by
 rw[List.drop_eq_getElem_cons h,vT]
theorem ch.L0.ok:ch.L0.Ok:=by
 refine ch.L0.aD (fun(m,ps,n,i,n4,l)=>ps.length - i.toNat) ?_
 rintro⟨m,ps,n,i,n4,l⟩ ⟨rfl,rfl,hpl,k,hk,rfl,hl⟩
 have hl:l.length+(iB (ps.drop k)).length≤140737488350000:=hl
 have hk:k≤ps.length:=hk
 have e2:Int.toNat (k:Int)=k:=by omega
 have e3:Int.toNat ((k+1:Nat):Int)=k+1:=by omega
 by_cases h:k < ps.length
 ·left
  have ht:=vU ps k h
  have hlen:(iB (ps.drop k)).length=8+ps[k].length+(iB (ps.drop (k+1))).length:=by rw[ht];simp only[List.length_append,bW]
  have hn:nth (.slice (.int .u8)) ps k=ps[k]:=cG (t:= .slice (.int .u8)) h
  have hpl:ps.length≤140737488350000:=hpl
  have e1:bR .i64 (k:Int) 1=((k+1:Nat):Int):=by rw[fY (by omega) (by omega)];omega
  refine⟨((l++hZ ps[k].length++ps[k]).length,ps,(ps.length:Int),((k+1:Nat):Int),n4,l++hZ ps[k].length++ps[k]),⟨rfl,rfl,hpl,k+1,by show k+1≤ps.length;omega,rfl,?_⟩,?_,?_,fun kn kx=> ?_⟩
  ·show(l++hZ ps[k].length++ps[k]).length+(iB (ps.drop (k+1))).length≤_
   simp only[List.length_append,bW];omega
  ·show ps.length - Int.toNat ((k+1:Nat):Int) < ps.length - Int.toNat (k:Int)
   omega
  ·simp only[ch.L0.add,ch.L0.F,e2,e3,ht,List.append_assoc]
   simp only[List.length_append,bW,Nat.add_assoc]
  ·have p1:dF.aB (l.length,(ps[k].length:Int),l):=⟨rfl,by show l.length≤_;omega⟩
   rw[ch.L0.step,bu (by omega),bz (by omega) (by omega),e1,e2]
   simp only[ai,hn,dF.run p1,ab,dF.add,dF.F]
   have hlb:(l++hZ ps[k].length).length=l.length+8:=by simp[bW]
   rw[hlb,aY (Nat.le_refl _),mO (by omega)]
   simp only[ai]
   rw[List.take_of_length_le (by rw[hlb];omega)]
   simp only[List.length_append,bW,Nat.add_assoc]
 ·right
  obtain rfl:k=ps.length:=by omega
  intro R kn kx
  rw[ch.L0.step,bk (by omega)]
  simp only[ao,ch.L0.add,ch.L0.F,e2,List.drop_length]
  simp[iB]
theorem uw:∀ps:List (List Int),8*ps.length≤(iB ps).length
 |[]=>by simp[iB]
 |p::ps=>by
  rw[vT]
  have:=uw ps
  simp only[List.length_append,bW,List.length_cons]
  omega
theorem gB(s:ByteArray):(bt s).length=s.size:=by simp only[bt,List.length_map,Array.length_toList];rfl
theorem ch.ok:ch.Ok:=by
 rintro⟨name,ps⟩ hp
 have hp:(hZ (bt name).length++bt name++iB ps).length≤140737488350000:=hp
 have hl:(hZ (bt name).length++bt name++iB ps).length=8+(bt name).length+(iB ps).length:=by simp only[List.length_append,bW]
 have hpl:=uw ps
 have hsz:((name.size:Nat):Int)=(((bt name).length:Nat):Int):=by rw[gB]
 rw[ch.eq,ei.run (d:=((name.size:Nat):Int)) trivial,hsz]
 simp only[ab,ei.add,ei.F,bW,Nat.le_refl,decide_true,ai]
 rw[mO (by omega),List.take_of_length_le (by rw[bW];omega)]
 have p2:ch.L0.aB (8+(bt name).length,ps,(ps.length:Int),0,List.replicate 32 0,hZ ((bt name).length:Int)++bt name):=by
  refine⟨by simp only[List.length_append,bW],rfl,by show ps.length≤_;omega,0,Nat.zero_le _,rfl,?_⟩
  rw[List.drop_zero]
  simp only[List.length_append,bW]
  omega
 simp only[ai,ch.L0.run p2,ab,ch.L0.add,ch.L0.F,Int.toNat_zero,List.drop_zero]
 have hcut:cut (hZ ((bt name).length:Int)++bt name++iB ps) 0 ((hZ ((bt name).length:Int)++bt name).length+(iB ps).length)=rJ (bt name) ps:=by
  unfold cut
  rw[List.drop_zero,List.take_of_length_le (by simp only[List.length_append];omega)]
  rfl
 have p3:aL.aB (rJ (bt name) ps):=hp
 rw[aY ⟨trivial,by simp only[List.length_append];omega⟩,hcut]
 simp only[ai,aL.run p3,ab,aL.add,aL.F,ch.add,ch.F,tag]
noncomputable def ch.E:=Entry.cC [some .str,some (.slice tB)] ch.st ch.aB ch.add ch.F ch.out
noncomputable def ch.call:ch.D→Option ch.X:=bS ch.E ch.st
theorem ch.run:bM ch.call ch.aB ch.add ch.F:=dh (dd [.d .str,.d (.slice tB)] fun _=>by kernel_rfl)
noncomputable def ch.sg:SG Tryz.prog:=⟨72,aX,ch.E,.fn 1 (by kernel_rfl) ch.ok (And.intro (.cC ch.L0.ok (by kernel_rfl)) trivial)⟩
set_option synthInstance.maxSize 5000
abbrev dg.D:=Int×Int
def dg.st:dg.D→SA:=fun(x,n)=>([.d (.int .u32) x,.d ti n],[])
abbrev dg.Y:=Int
abbrev dg.X:=Int
def dg.out:dg.X→bg:=fun x=>⟨.d (.int .u32) x,[],[]⟩
def dg.add:dg.D→dg.Y→dg.X:=fun(x,n) y=>y
def dg.aB:dg.D→Prop:=fun(x,n)=>0≤x∧x < 4294967296∧0≤n∧n≤32
def dg.F:dg.D→dg.Y:=fun(x,n)=>vw (kf (BitVec.ofInt 32 x) n.toNat)
noncomputable def dg.G:dY:=fg (P:=Tryz.prog) []
noncomputable def dg.an:eI:= {}
noncomputable def dg.A:= @cY Tryz.prog dg.G dg.an 0 Tryz.f283 _ dg.st
abbrev dg.Ok:=cZ @dg.A dg.aB dg.add dg.F dg.out
theorem dg.eq{R:Type}(x:Int)(n:Int)(k:bg→Option R):dg.A (x,n) k=
 aK (hP n) (
 aK (hP (cQ .i64 (32:Int) n)) (
 k (dg.out (ct .or .u32 (bT .u32 x n) (gN .u32 x (cQ .i64 (32:Int) n))))) none) none:=by kernel_rfl
theorem dg.ok:dg.Ok:=by
 rintro⟨x,n⟩ ⟨h1,h2,h3,h4⟩
 obtain⟨n,rfl⟩:=Int.eq_ofNat_of_zero_le h3
 have hx:x=vw (BitVec.ofInt 32 x):=by rw[fT];have h1:0≤x:=h1;have h2:x < 4294967296:=h2;omega
 have h4:(n:Int)≤32:=h4
 rw[dg.eq]
 simp(disch:=omega) only[↓S1,↓if_pos,↓if_neg,if_pos,if_neg,if_true,if_false,S2]
 have e2:ct .or .u32 (bT .u32 x (n:Int)) (gN .u32 x ((32 - n:Nat):Int))=vw (kf (BitVec.ofInt 32 x) n):=by
  conv=>lhs;rw[hx]
  rw[qg,od,iN]
  simp only[kf,Int.toNat_natCast]
  rw[BitVec.or_comm]
 rw[e2]
 rfl
noncomputable def dg.E:=Entry.cC [some (.int .u32),some ti] dg.st dg.aB dg.add dg.F dg.out
noncomputable def dg.call:dg.D→Option dg.X:=bS dg.E dg.st
theorem dg.run:bM dg.call dg.aB dg.add dg.F:=dh (dd [.d (.int .u32),.d ti] fun _=>by kernel_rfl)
noncomputable def dg.sg:SG Tryz.prog:=⟨283,aX,dg.E,.fn 0 (by kernel_rfl) dg.ok trivial⟩
theorem dg.at(w:W){k:Int}(h:0≤k∧k≤32):dg.call (vw w,k)=some (vw (kf w k.toNat)):=by
 have h:dg.aB (vw w,k):=⟨rL w,by have:=D7 w;simpa using this,h.1,h.2⟩
 rw[dg.run h]
 show some (vw (kf (BitVec.ofInt 32 (vw w)) k.toNat))=_
 rw[jO]
abbrev cv.D:=Unit
def cv.st:cv.D→SA:=fun _=>([],[])
abbrev cv.Y:=(List Int)
abbrev cv.X:=(List Int)
def cv.out:cv.X→bg:=fun x=>⟨.d (.slice (.int .u32)) x,[],[]⟩
def cv.add:cv.D→cv.Y→cv.X:=fun _ y=>y
def cv.aB:cv.D→Prop:=fun _=>True
def cv.F:cv.D→cv.Y:=fun _=>jr.l
noncomputable def cv.G:dY:=fg (P:=Tryz.prog) []
noncomputable def cv.an:eI:= {bK:=[1],res:=[some (.slice (.int .u32))]}
noncomputable def cv.A:= @cY Tryz.prog cv.G cv.an 0 Tryz.f263 _ cv.st
abbrev cv.Ok:=cZ @cv.A cv.aB cv.add cv.F cv.out
theorem cv.eq{R:Type}(k:bg→Option R):cv.A () k=
 k (cv.out [(1779033703:Int),(3144134277:Int),(1013904242:Int),(2773480762:Int),(1359893119:Int),(2600822924:Int),(528734635:Int),(1541459225:Int)]):=by kernel_rfl
theorem cv.ok:cv.Ok:=by
 intro d _
 rw[cv.eq]
 rfl
noncomputable def cv.E:=Entry.cC [] cv.st cv.aB cv.add cv.F cv.out
noncomputable def cv.call:cv.D→Option cv.X:=bS cv.E cv.st
theorem cv.run:bM cv.call cv.aB cv.add cv.F:=dh (dd [] fun _=>by kernel_rfl)
noncomputable def cv.sg:SG Tryz.prog:=⟨263,aX,cv.E,.fn 0 (by kernel_rfl) cv.ok trivial⟩
abbrev ej.D:=Unit
def ej.st:ej.D→SA:=fun _=>([],[])
abbrev ej.Y:=(List Int)
abbrev ej.X:=(List Int)
def ej.out:ej.X→bg:=fun x=>⟨.d (.slice (.int .u32)) x,[],[]⟩
def ej.add:ej.D→ej.Y→ej.X:=fun _ y=>y
def ej.aB:ej.D→Prop:=fun _=>True
def ej.F:ej.D→ej.Y:=fun _=>rq
noncomputable def ej.G:dY:=fg (P:=Tryz.prog) []
noncomputable def ej.an:eI:= {bK:=[1],res:=[some (.slice (.int .u32))]}
noncomputable def ej.A:= @cY Tryz.prog ej.G ej.an 0 Tryz.f282 _ ej.st
abbrev ej.Ok:=cZ @ej.A ej.aB ej.add ej.F ej.out
theorem ej.eq{R:Type}(k:bg→Option R):ej.A () k=
 k (ej.out [(1116352408:Int),(1899447441:Int),(3049323471:Int),(3921009573:Int),(961987163:Int),(1508970993:Int),(2453635748:Int),(2870763221:Int),(3624381080:Int),(310598401:Int),(607225278:Int),(1426881987:Int),(1925078388:Int),(2162078206:Int),(2614888103:Int),(3248222580:Int),(3835390401:Int),(4022224774:Int),(264347078:Int),(604807628:Int),(770255983:Int),(1249150122:Int),(1555081692:Int),(1996064986:Int),(2554220882:Int),(2821834349:Int),(2952996808:Int),(3210313671:Int),(3336571891:Int),(3584528711:Int),(113926993:Int),(338241895:Int),(666307205:Int),(773529912:Int),(1294757372:Int),(1396182291:Int),(1695183700:Int),(1986661051:Int),(2177026350:Int),(2456956037:Int),(2730485921:Int),(2820302411:Int),(3259730800:Int),(3345764771:Int),(3516065817:Int),(3600352804:Int),(4094571909:Int),(275423344:Int),(430227734:Int),(506948616:Int),(659060556:Int),(883997877:Int),(958139571:Int),(1322822218:Int),(1537002063:Int),(1747873779:Int),(1955562222:Int),(2024104815:Int),(2227730452:Int),(2361852424:Int),(2428436474:Int),(2756734187:Int),(3204031479:Int),(3329325298:Int)]):=by kernel_rfl
theorem ej.ok:ej.Ok:=by
 intro d _
 rw[ej.eq]
 rfl
noncomputable def ej.E:=Entry.cC [] ej.st ej.aB ej.add ej.F ej.out
noncomputable def ej.call:ej.D→Option ej.X:=bS ej.E ej.st
theorem ej.run:bM ej.call ej.aB ej.add ej.F:=dh (dd [] fun _=>by kernel_rfl)
noncomputable def ej.sg:SG Tryz.prog:=⟨282,aX,ej.E,.fn 0 (by kernel_rfl) ej.ok trivial⟩
abbrev ay.L0.D:=Bs×Nat×(List Int)
def ay.L0.st:ay.L0.D→AS:=fun(b_2,outL,n6)=>⟨([.d tB b_2,.undef,.undef,.bJ (.new 6 0) 0 [] 0 0 outL]++bh 31 []),[],(bI 6 ([[.obj 0 false (.vec 5 tb n6)]]++bI 28 []))⟩
abbrev ay.L0.Y0:=Nat×(List Int)
abbrev ay.L0.X0:=(Bs)×(Nat×(List Int))
def ay.L0.bw:ay.L0.X0→Exit×AS:=fun x=>(.exit 0,⟨([.d tB x.1,.undef,.undef,.bJ (.new 6 0) 0 [] 0 0 x.2.1]++bh 31 []),[],(bI 6 ([[.obj 0 false (.vec 5 tb x.2.2)]]++bI 28 []))⟩)
abbrev ay.L0.X:=ay.L0.X0
abbrev ay.L0.Y:=ay.L0.Y0
def ay.L0.out:ay.L0.X→Out (Exit×AS):=fun x=> .ok (ay.L0.bw x)
def ay.L0.add:ay.L0.D→ay.L0.Y→ay.L0.X:=fun(b_2,outL,n6) y=>(b_2,y)
abbrev ay.L1.D:=Nat×Int×Int×(List Int)
def ay.L1.st:ay.L1.D→AS:=fun(outL_2,n,kv,n6_2)=>⟨([.undef,.undef,.undef,.bJ (.new 6 0) 0 [] 0 0 outL_2,.d tu n,.d ti kv]++bh 29 []),[],(bI 6 ([[.obj 0 false (.vec 5 tb n6_2)]]++bI 28 []))⟩
abbrev ay.L1.Y0:=Nat×(List Int)
abbrev ay.L1.X0:=Nat×(List Int)
def ay.L1.bw:ay.L1.X0→Exit×AS:=fun x=>(.exit 2,⟨([.undef,.undef,.undef,.bJ (.new 6 0) 0 [] 0 0 x.1]++bh 31 []),[],(bI 6 ([[.obj 0 false (.vec 5 tb x.2)]]++bI 28 []))⟩)
abbrev ay.L1.X:=ay.L1.X0
abbrev ay.L1.Y:=ay.L1.Y0
def ay.L1.out:ay.L1.X→Out (Exit×AS):=fun x=> .ok (ay.L1.bw x)
def ay.L1.add:ay.L1.D→ay.L1.Y→ay.L1.X:=fun(outL_2,n,kv,n6_2) y=>y
abbrev ay.D:=Bs
def ay.st:ay.D→SA:=fun b=>([.d tB b],[])
abbrev ay.Y:=Bs
abbrev ay.X:=Bs
def ay.out:ay.X→bg:=fun x=>⟨.d tB x,[],[]⟩
def ay.add:ay.D→ay.Y→ay.X:=fun b y=>y
def ay.L0.aB:ay.L0.D→Prop:=fun(b,m,l)=>m=l.length∧l.length+zc l.length≤140737488355328
def ay.L0.F:ay.L0.D→ay.L0.Y:=fun(b,m,l)=>(l.length+zc l.length,l++List.replicate (zc l.length) 0)
def ay.L1.aB:ay.L1.D→Prop:=fun(m,n,kv,l)=>0≤n∧n < 18446744073709551616∧∃j:Nat,j≤8∧kv=56 - 8*(j:Int)∧m=l.length∧l.length≤140737488355320+j
def ay.L1.F:ay.L1.D→ay.L1.Y:=fun(m,n,kv,l)=>(l.length+(hZ n).length - (7 - (kv / 8)).toNat,l++(hZ n).drop (7 - (kv / 8)).toNat)
def ay.aB:ay.D→Prop:=fun b=>b.length≤140737488350000
def ay.F:ay.D→ay.Y:=fun b=>pad b
noncomputable def ay.G:dY:=fg (P:=Tryz.prog) []
noncomputable def ay.L0.E:=bQ.cC ay.L0.st ay.L0.aB ay.L0.add ay.L0.F ay.L0.out
noncomputable def ay.L0.call:ay.L0.D→Option ay.L0.X:=dm ay.L0.E ay.L0.st
noncomputable def ay.L1.E:=bQ.cC ay.L1.st ay.L1.aB ay.L1.add ay.L1.F ay.L1.out
noncomputable def ay.L1.call:ay.L1.D→Option ay.L1.X:=dm ay.L1.E ay.L1.st
noncomputable def ay.an:eI:= {bK:=[6],loops:=j4 [(3,{bm:=[0,3],sites:=[6],iA:=[⟨3,[],6,140⟩]}),(7,{bm:=[3,4,5],sites:=[6],iA:=[⟨3,[],6,140⟩]})],outs:=j3 [(3,{bm:=[0,3],sites:=[6]},{bm:=[2]}),(7,{bm:=[3],sites:=[6]},{bm:=[2]})],fJ:=kT [(3,ay.L0.E),(7,ay.L1.E)],res:=[some tB]}
noncomputable def ay.A:= @cY Tryz.prog ay.G ay.an 0 Tryz.f262 _ ay.st
abbrev ay.Ok:=cZ @ay.A ay.aB ay.add ay.F ay.out
noncomputable def ay.L0.R:= @bV Tryz.prog ay.G ay.an 0 Tryz.f262 0 _ ay.L0.st
abbrev ay.L0.Ok:=ez Tryz.prog ay.G ay.an 0 Tryz.f262 0 ay.L0.st ay.L0.aB ay.L0.add ay.L0.F ay.L0.out
noncomputable def ay.L1.R:= @bV Tryz.prog ay.G ay.an 0 Tryz.f262 1 _ ay.L1.st
abbrev ay.L1.Ok:=ez Tryz.prog ay.G ay.an 0 Tryz.f262 1 ay.L1.st ay.L1.aB ay.L1.add ay.L1.F ay.L1.out
theorem ay.L0.run:bM ay.L0.call ay.L0.aB ay.L0.add ay.L0.F:=eF (eD [.d tB,.n,.d tB] fun _=>by kernel_rfl)
theorem ay.L0.aD:fP @ay.L0.R ay.L0.st ay.L0.aB ay.L0.add ay.L0.F ay.L0.bw ay.L0.Ok:=fR
theorem ay.L0.step{R:Type}(b_2:Bs)(outL:Nat)(n6:(List Int))(kn:AS→Option R)(kx:Exit→AS→Option R):ay.L0.R (b_2,outL,n6) kn kx=
  aK ((mZ (jD ((outL:Nat):Int) (64:Int)) (56:Int))) (
   aK (decide (outL≤(List.length n6))) (
   aK (dp (outL+1) 1) (
   kn (ay.L0.st (b_2,(outL+1),((List.take outL n6)++ [(0:Int)])))) none) none) (
   kx (ay.L0.bw (b_2,(outL,n6))).1 (ay.L0.bw (b_2,(outL,n6))).2):=by kernel_rfl
theorem ay.L1.run:bM ay.L1.call ay.L1.aB ay.L1.add ay.L1.F:=eF (eD [.n,.d tu,.d ti,.d tB] fun _=>by kernel_rfl)
theorem ay.L1.aD:fP @ay.L1.R ay.L1.st ay.L1.aB ay.L1.add ay.L1.F ay.L1.bw ay.L1.Ok:=fR
theorem ay.L1.step{R:Type}(outL_2:Nat)(n:Int)(kv:Int)(n6_2:(List Int))(kn:AS→Option R)(kx:Exit→AS→Option R):ay.L1.R (outL_2,n,kv,n6_2) kn kx=
  aK ((oc kv (0:Int))) (
   aK (hP kv) (
   aK (decide (outL_2≤(List.length n6_2))) (
   aK (dp (outL_2+1) 1) (
   kn (ay.L1.st ((outL_2+1),n,(cQ .i64 kv (8:Int)),((List.take outL_2 n6_2)++ [(dJ .u8 (bT .u64 n kv))])))) none) none) none) (
   kx (ay.L1.bw (outL_2,n6_2)).1 (ay.L1.bw (outL_2,n6_2)).2):=by kernel_rfl
theorem ay.eq{R:Type}(b:Bs)(k:bg→Option R):ay.A b k=
 aK (dp (0+(List.length b)) 1) (
 aK (decide ((0+(List.length b))≤(List.length ((List.take 0 (List.replicate 0 (0:Int)))++b)))) (
 aK (dp ((0+(List.length b))+1) 1) (
 al (ay.L0.call (b,((0+(List.length b))+1),((List.take (0+(List.length b)) ((List.take 0 (List.replicate 0 (0:Int)))++b))++ [(128:Int)]))) fun x1=>
 al (ay.L1.call (x1.2.1,(fe .u64 (8:Int) (dJ .u64 (((List.length x1.1):Nat):Int))),(56:Int),x1.2.2)) fun x2=>
 aK (decide (0=0∧(0+x2.1)≤(List.length x2.2))) (
 k (ay.out (cut x2.2 0 x2.1))) none) none) none) none:=by kernel_rfl
theorem ay.L0.ok:ay.L0.Ok:=by
 refine ay.L0.aD (fun(b,m,l)=>zc l.length) ?_
 rintro⟨b,m,l⟩ ⟨rfl,hl⟩
 have hl:l.length+zc l.length≤140737488355328:=hl
 by_cases h:l.length%64=56
 ·right
  intro R kn kx
  have hz:zc l.length=0:=by unfold zc;omega
  rw[ay.L0.step]
  simp(disch:=omega) only[↓S1,↓if_pos,↓if_neg,if_pos,if_neg,if_true,if_false,S2,ay.L0.add,ay.L0.F,hz,Nat.add_zero,List.replicate_zero,List.append_nil]
 ·left
  have hz:zc l.length=zc (l.length+1)+1:=by unfold zc;omega
  refine⟨(b,l.length+1,l++ [0]),⟨by simp,by simp only[List.length_append,List.length_cons,List.length_nil,Nat.zero_add];omega⟩,by simp only[List.length_append,List.length_cons,List.length_nil,Nat.zero_add];omega,?_,fun kn kx=> ?_⟩
  ·simp only[ay.L0.add,ay.L0.F,List.length_append,List.length_cons,List.length_nil,Nat.zero_add,hz,List.append_assoc,List.cons_append,List.nil_append,List.replicate_succ]
   rw[show l.length+1+zc (l.length+1)=l.length+(zc (l.length+1)+1) by omega]
  ·rw[ay.L0.step]
   simp(disch:=omega) only[↓S1,↓if_pos,↓if_neg,if_pos,if_neg,if_true,if_false,S2,List.take_length]
theorem CA(n:Int)(j:Nat)(h:j < 8):(hZ n).drop j=n / 2^(56 - 8*j)%256::(hZ n).drop (j+1):=by
 rcases(by omega:j=0∨j=1∨j=2∨j=3∨j=4∨j=5∨j=6∨j=7) with rfl | rfl | rfl | rfl | rfl | rfl | rfl | rfl <;> simp[hZ]
theorem y8(n:Int)(k:Nat)(h1:k≤64):dJ .u8 (bT .u64 n (k:Int))=n / 2^k%256:=by
 rw[tv,fT,bT]
 have e:min (k:Int).toNat IntKind.u64.bits=k:=by simp only[IntKind.bits];omega
 rw[e,Int.fdiv_eq_ediv_of_nonneg _ (Int.le_of_lt (Int.pow_pos (by omega)))]
 rfl
theorem ay.L1.ok:ay.L1.Ok:=by
 refine ay.L1.aD (fun(m,n,kv,l)=>(kv+8).toNat) ?_
 rintro⟨m,n,kv,l⟩ ⟨h1,h2,j,hj,rfl,rfl,hl⟩
 have hl:l.length≤140737488355320+j:=hl
 have e1:(7 - ((56 - 8*(j:Int)) / 8)).toNat=j:=by omega
 by_cases h:j < 8
 ·left
  have e2:cQ .i64 (56 - 8*(j:Int)) 8=56 - 8*((j+1:Nat):Int):=by rw[eR (by omega) (by omega)];omega
  have e3:(7 - ((56 - 8*((j+1:Nat):Int)) / 8)).toNat=j+1:=by omega
  have e4:(56 - 8*(j:Int))=((56 - 8*j:Nat):Int):=by omega
  refine⟨(l.length+1,n,56 - 8*((j+1:Nat):Int),l++ [n / 2^(56 - 8*j)%256]),⟨h1,h2,j+1,by omega,rfl,by simp,by simp only[List.length_append,List.length_cons,List.length_nil];omega⟩,by simp only;omega,?_,fun kn kx=> ?_⟩
  ·simp only[ay.L1.add,ay.L1.F,e1,e3,CA n j h,List.length_append,List.length_cons,List.length_nil,List.append_assoc,List.cons_append,List.nil_append,bW]
   rw[show l.length+(0+1)+8 - (j+1)=l.length+8 - j by omega]
  ·rw[ay.L1.step,e2,e4,y8 n _ (by omega)]
   simp(disch:=omega) only[↓S1,↓if_pos,↓if_neg,if_pos,if_neg,if_true,if_false,S2,List.take_length]
 ·right
  obtain rfl:j=8:=by omega
  intro R kn kx
  rw[ay.L1.step]
  simp(disch:=omega) only[↓S1,↓if_pos,↓if_neg,if_pos,if_neg,if_true,if_false,S2,ay.L1.add,ay.L1.F,e1]
  simp[hZ]
theorem ay.ok:ay.Ok:=by
 intro b hb
 have hb:b.length≤140737488350000:=hb
 have hz:zc (b++ [128]).length=lU b.length:=by
  simp only[List.length_append,List.length_cons,List.length_nil,zc,lU]
  omega
 have hzb:lU b.length < 64:=by unfold lU;omega
 have p1:ay.L0.aB (b,b.length+1,b++ [128]):=⟨by simp,by rw[hz];simp only[List.length_append,List.length_cons,List.length_nil] <;> omega⟩
 have e1:dJ .u64 ((b.length:Nat):Int)=((b.length:Nat):Int):=by rw[wG,fT];omega
 have e2:fe .u64 8 ((b.length:Nat):Int)=8*(b.length:Int):=by
  unfold fe;rw[wrap_u64,fT];omega
 have e3:List.take b.length b=b:=List.take_length
 rw[ay.eq]
 simp only[List.replicate_zero,List.take_nil,List.nil_append,Nat.zero_add,e1,e2,e3]
 simp(disch:=omega) only[↓S1,↓if_pos,↓if_neg,if_pos,if_neg,if_true,if_false,S2,ay.L0.run p1,ay.L0.add,ay.L0.F,hz]
 have p2:ay.L1.aB ((b++ [128]).length+lU b.length,8*(b.length:Int),56,b++ [128]++List.replicate (lU b.length) 0):=by
  refine⟨by omega,by omega,0,by omega,rfl,by simp only[List.length_append,List.length_cons,List.length_nil,List.length_replicate] <;> omega,?_⟩
  simp only[List.length_append,List.length_cons,List.length_nil,List.length_replicate]
  omega
 simp(disch:=omega) only[↓S1,↓if_pos,↓if_neg,if_pos,if_neg,if_true,if_false,S2,e1,e2,ay.L1.run p2,ay.L1.add,ay.L1.F]
 have e5:(7 - ((56:Int) / 8)).toNat=0:=by decide
 rw[e5,List.drop_zero]
 have e6:(b++ [128]++List.replicate (lU b.length) 0).length+(hZ (8*(b.length:Int))).length - 0=(b++ [128]++List.replicate (lU b.length) 0++hZ (8*(b.length:Int))).length:=by rw[@List.length_append _ _ (hZ _)];omega
 rw[e6,if_pos (Nat.le_refl _)]
 unfold cut
 rw[List.drop_zero,List.take_length]
 simp only[ay.add,ay.F,pad,List.append_assoc,List.cons_append,List.nil_append]
noncomputable def ay.E:=Entry.cC [some tB] ay.st ay.aB ay.add ay.F ay.out
noncomputable def ay.call:ay.D→Option ay.X:=bS ay.E ay.st
theorem ay.run:bM ay.call ay.aB ay.add ay.F:=dh (dd [.d tB] fun _=>by kernel_rfl)
noncomputable def ay.sg:SG Tryz.prog:=⟨262,aX,ay.E,.fn 2 (by kernel_rfl) ay.ok (And.intro (.cC ay.L0.ok (by kernel_rfl)) (And.intro (.cC ay.L1.ok (by kernel_rfl)) trivial))⟩
set_option synthInstance.maxSize 5000
abbrev aI.L0.D:=Bs×Nat×Int×(List Int)
def aI.L0.st:aI.L0.D→AS:=fun(b_2,wL,i,n49)=>⟨([.d tB b_2,.undef,.undef,.bJ (.new 49 0) 0 [] 0 0 wL,.d ti i]++bh 94 []),[],(bI 49 ([[.obj 0 false (.vec 255 (.int .u32) n49)]]++bI 49 []))⟩
abbrev aI.L0.Y0:=Nat×(List Int)
abbrev aI.L0.X0:=Nat×(List Int)
def aI.L0.bw:aI.L0.X0→Exit×AS:=fun x=>(.exit 0,⟨([.undef,.undef,.undef,.bJ (.new 49 0) 0 [] 0 0 x.1]++bh 95 []),[],(bI 49 ([[.obj 0 false (.vec 255 (.int .u32) x.2)]]++bI 49 []))⟩)
abbrev aI.L0.X:=aI.L0.X0
abbrev aI.L0.Y:=aI.L0.Y0
def aI.L0.out:aI.L0.X→Out (Exit×AS):=fun x=> .ok (aI.L0.bw x)
def aI.L0.add:aI.L0.D→aI.L0.Y→aI.L0.X:=fun(b_2,wL,i,n49) y=>y
abbrev aI.L1.D:=Nat×Int×(List Int)
def aI.L1.st:aI.L1.D→AS:=fun(wL_2,i_2,n49_2)=>⟨([.undef,.undef,.undef,.bJ (.new 49 0) 0 [] 0 0 wL_2,.undef,.d ti i_2]++bh 93 []),[],(bI 49 ([[.obj 0 false (.vec 255 (.int .u32) n49_2)]]++bI 49 []))⟩
abbrev aI.L1.Y0:=Nat×(List Int)
abbrev aI.L1.X0:=Nat×(List Int)
def aI.L1.bw:aI.L1.X0→Exit×AS:=fun x=>(.exit 2,⟨([.undef,.undef,.undef,.bJ (.new 49 0) 0 [] 0 0 x.1]++bh 95 []),[],(bI 49 ([[.obj 0 false (.vec 255 (.int .u32) x.2)]]++bI 49 []))⟩)
abbrev aI.L1.X:=aI.L1.X0
abbrev aI.L1.Y:=aI.L1.Y0
def aI.L1.out:aI.L1.X→Out (Exit×AS):=fun x=> .ok (aI.L1.bw x)
def aI.L1.add:aI.L1.D→aI.L1.Y→aI.L1.X:=fun(wL_2,i_2,n49_2) y=>y
abbrev aI.D:=Bs
def aI.st:aI.D→SA:=fun b=>([.d tB b],[])
abbrev aI.Y:=(List Int)
abbrev aI.X:=(List Int)
def aI.out:aI.X→bg:=fun x=>⟨.d (.slice (.int .u32)) x,[],[]⟩
def aI.add:aI.D→aI.Y→aI.X:=fun b y=>y
def aI.L0.aB:aI.L0.D→Prop:=fun(b,m,i,l)=>64≤b.length∧∃k:Nat,k≤16∧i=k∧k=m∧l=wl ((words b).take k)
def aI.L0.F:aI.L0.D→aI.L0.Y:=fun(b,m,i,l)=>(16,wl (words b))
def aI.L1.aB:aI.L1.D→Prop:=fun(m,i,l)=>∃ws:List W,16≤ws.length∧ws.length≤64∧l=wl ws∧m=ws.length∧i=(ws.length:Nat)
def aI.L1.F:aI.L1.D→aI.L1.Y:=fun(m,i,l)=>(64,wl (Ef (D5 l) (64 - l.length)))
def aI.aB:aI.D→Prop:=fun b=>64≤b.length
def aI.F:aI.D→aI.Y:=fun b=>wl (sched b)
noncomputable def aI.G:dY:=fg (P:=Tryz.prog) [dg.sg]
noncomputable def aI.L0.E:=bQ.cC aI.L0.st aI.L0.aB aI.L0.add aI.L0.F aI.L0.out
noncomputable def aI.L0.call:aI.L0.D→Option aI.L0.X:=dm aI.L0.E aI.L0.st
noncomputable def aI.L1.E:=bQ.cC aI.L1.st aI.L1.aB aI.L1.add aI.L1.F aI.L1.out
noncomputable def aI.L1.call:aI.L1.D→Option aI.L1.X:=dm aI.L1.E aI.L1.st
noncomputable def aI.an:eI:= {loops:=j4 [(3,{bm:=[0,3,4],sites:=[49],iA:=[⟨3,[],49,304⟩]}),(7,{bm:=[3,5],sites:=[49],iA:=[⟨3,[],49,304⟩]})],outs:=j3 [(3,{bm:=[3],sites:=[49]},{bm:=[2]}),(7,{bm:=[3],sites:=[49]},{bm:=[2]})],fJ:=kT [(3,aI.L0.E),(7,aI.L1.E)],res:=[some (.slice (.int .u32))]}
noncomputable def aI.A:= @cY Tryz.prog aI.G aI.an 0 Tryz.f281 _ aI.st
abbrev aI.Ok:=cZ @aI.A aI.aB aI.add aI.F aI.out
noncomputable def aI.L0.R:= @bV Tryz.prog aI.G aI.an 0 Tryz.f281 0 _ aI.L0.st
abbrev aI.L0.Ok:=ez Tryz.prog aI.G aI.an 0 Tryz.f281 0 aI.L0.st aI.L0.aB aI.L0.add aI.L0.F aI.L0.out
noncomputable def aI.L1.R:= @bV Tryz.prog aI.G aI.an 0 Tryz.f281 1 _ aI.L1.st
abbrev aI.L1.Ok:=ez Tryz.prog aI.G aI.an 0 Tryz.f281 1 aI.L1.st aI.L1.aB aI.L1.add aI.L1.F aI.L1.out
theorem aI.L0.run:bM aI.L0.call aI.L0.aB aI.L0.add aI.L0.F:=eF (eD [.d tB,.n,.d ti,.d (.slice (.int .u32))] fun _=>by kernel_rfl)
theorem aI.L0.aD:fP @aI.L0.R aI.L0.st aI.L0.aB aI.L0.add aI.L0.F aI.L0.bw aI.L0.Ok:=fR
theorem aI.L0.step{R:Type}(b_2:Bs)(wL:Nat)(i:Int)(n49:(List Int))(kn:AS→Option R)(kx:Exit→AS→Option R):aI.L0.R (b_2,wL,i,n49) kn kx=
  aK ((fZ i (16:Int))) (
   aK (eH (fe .i64 (4:Int) i) (((List.length b_2):Nat):Int)) (
   aK (eH (bR .i64 (fe .i64 (4:Int) i) (1:Int)) (((List.length b_2):Nat):Int)) (
   aK (eH (bR .i64 (fe .i64 (4:Int) i) (2:Int)) (((List.length b_2):Nat):Int)) (
   aK (eH (bR .i64 (fe .i64 (4:Int) i) (3:Int)) (((List.length b_2):Nat):Int)) (
   aK (decide (wL≤(List.length n49))) (
   aK (dp (wL+1) 4) (
   kn (aI.L0.st (b_2,(wL+1),(bR .i64 i (1:Int)),((List.take wL n49)++ [(ct .or .u32 (ct .or .u32 (ct .or .u32 (gN .u32 (dJ .u32 (nth tb b_2 (Int.toNat (fe .i64 (4:Int) i)))) (24:Int)) (gN .u32 (dJ .u32 (nth tb b_2 (Int.toNat (bR .i64 (fe .i64 (4:Int) i) (1:Int))))) (16:Int))) (gN .u32 (dJ .u32 (nth tb b_2 (Int.toNat (bR .i64 (fe .i64 (4:Int) i) (2:Int))))) (8:Int))) (dJ .u32 (nth tb b_2 (Int.toNat (bR .i64 (fe .i64 (4:Int) i) (3:Int))))))])))) none) none) none) none) none) none) (
   kx (aI.L0.bw (wL,n49)).1 (aI.L0.bw (wL,n49)).2):=by kernel_rfl
theorem aI.L1.run:bM aI.L1.call aI.L1.aB aI.L1.add aI.L1.F:=eF (eD [.n,.d ti,.d (.slice (.int .u32))] fun _=>by kernel_rfl)
theorem aI.L1.aD:fP @aI.L1.R aI.L1.st aI.L1.aB aI.L1.add aI.L1.F aI.L1.bw aI.L1.Ok:=fR
theorem aI.L1.step{R:Type}(wL_2:Nat)(i_2:Int)(n49_2:(List Int))(kn:AS→Option R)(kx:Exit→AS→Option R):aI.L1.R (wL_2,i_2,n49_2) kn kx=
  aK ((fZ i_2 (64:Int))) (
   aK (eH (cQ .i64 i_2 (15:Int)) ((wL_2:Nat):Int)) (
   aK (decide ((0+(Int.toNat (cQ .i64 i_2 (15:Int)))) < (List.length n49_2))) (
   aK (decide ((((0+(Int.toNat (cQ .i64 i_2 (15:Int))))*1)+0)=(0+((Int.toNat (cQ .i64 i_2 (15:Int)))*1)))) (
   aK (eH (cQ .i64 i_2 (2:Int)) ((wL_2:Nat):Int)) (
   aK (decide ((0+(Int.toNat (cQ .i64 i_2 (2:Int)))) < (List.length n49_2))) (
   aK (decide ((((0+(Int.toNat (cQ .i64 i_2 (2:Int))))*1)+0)=(0+((Int.toNat (cQ .i64 i_2 (2:Int)))*1)))) (
   al (dg.call ((nth (.int .u32) n49_2 (0+(Int.toNat (cQ .i64 i_2 (15:Int))))),(7:Int))) fun x1=>
   al (dg.call ((nth (.int .u32) n49_2 (0+(Int.toNat (cQ .i64 i_2 (15:Int))))),(18:Int))) fun x2=>
   al (dg.call ((nth (.int .u32) n49_2 (0+(Int.toNat (cQ .i64 i_2 (2:Int))))),(17:Int))) fun x3=>
   al (dg.call ((nth (.int .u32) n49_2 (0+(Int.toNat (cQ .i64 i_2 (2:Int))))),(19:Int))) fun x4=>
   aK (eH (cQ .i64 i_2 (16:Int)) ((wL_2:Nat):Int)) (
   aK (decide ((0+(Int.toNat (cQ .i64 i_2 (16:Int)))) < (List.length n49_2))) (
   aK (decide ((((0+(Int.toNat (cQ .i64 i_2 (16:Int))))*1)+0)=(0+((Int.toNat (cQ .i64 i_2 (16:Int)))*1)))) (
   aK (eH (cQ .i64 i_2 (7:Int)) ((wL_2:Nat):Int)) (
   aK (decide ((0+(Int.toNat (cQ .i64 i_2 (7:Int)))) < (List.length n49_2))) (
   aK (decide ((((0+(Int.toNat (cQ .i64 i_2 (7:Int))))*1)+0)=(0+((Int.toNat (cQ .i64 i_2 (7:Int)))*1)))) (
   aK (decide (wL_2≤(List.length n49_2))) (
   aK (dp (wL_2+1) 4) (
   kn (aI.L1.st ((wL_2+1),(bR .i64 i_2 (1:Int)),((List.take wL_2 n49_2)++ [(bR .u32 (bR .u32 (bR .u32 (nth (.int .u32) n49_2 (0+(Int.toNat (cQ .i64 i_2 (16:Int))))) (ct .xor .u32 (ct .xor .u32 x1 x2) (bT .u32 (nth (.int .u32) n49_2 (0+(Int.toNat (cQ .i64 i_2 (15:Int))))) (3:Int)))) (nth (.int .u32) n49_2 (0+(Int.toNat (cQ .i64 i_2 (7:Int)))))) (ct .xor .u32 (ct .xor .u32 x3 x4) (bT .u32 (nth (.int .u32) n49_2 (0+(Int.toNat (cQ .i64 i_2 (2:Int))))) (10:Int))))])))) none) none) none) none) none) none) none) none) none) none) none) none) none) none) (
   kx (aI.L1.bw (wL_2,n49_2)).1 (aI.L1.bw (wL_2,n49_2)).2):=by kernel_rfl
theorem aI.eq{R:Type}(b:Bs)(k:bg→Option R):aI.A b k=
 al (aI.L0.call (b,0,(0:Int),([]:List Int))) fun x1=>
 al (aI.L1.call (x1.1,(16:Int),x1.2)) fun x10=>
 aK (decide (0=0∧(0+x10.1)≤(List.length x10.2))) (
 k (aI.out (cut x10.2 0 x10.1))) none:=by kernel_rfl
theorem lG(ws:List W):(wl ws).length=ws.length:=by simp[wl]
theorem Bg(m:List W):∀n,Ef (ext m) n=Ef m (n+1)
 | 0=>rfl
 |n+1=>by rw[Ef,Bg m n];rfl
theorem FM(b:List Int)(k:Nat)(h:4*k+3 < b.length):be b k=Ha (nth (.int .u8) b (4*k)) (nth (.int .u8) b (4*k+1)) (nth (.int .u8) b (4*k+2)) (nth (.int .u8) b (4*k+3)):=rfl
theorem aI.L0.ok:aI.L0.Ok:=by
 refine aI.L0.aD (fun(b,m,i,l)=>16 - m) ?_
 rintro⟨b,m,i,l⟩ ⟨hb,k,hk,rfl,rfl,rfl⟩
 have hb:64≤b.length:=hb
 have hl:(wl ((words b).take k)).length=k:=by rw[lG,List.length_take,eu];omega
 by_cases h:k < 16
 ·left
  refine⟨(b,k+1,((k+1:Nat):Int),wl ((words b).take (k+1))),⟨hb,k+1,by omega,rfl,rfl,rfl⟩,by simp only;omega,rfl,fun kn kx=> ?_⟩
  rw[aI.L0.step]
  simp(disch:=omega) only[↓S1,↓if_pos,↓if_neg,if_pos,if_neg,if_true,if_false,S2,hl,List.take_of_length_le (Nat.le_of_eq hl)]
  rw[List.take_succ_eq_append_getElem (by rw[eu];exact h)]
  simp only[AM,qg,iN,wl,List.map_append,List.map_cons,List.map_nil]
  have e:(words b)[k]'(by rw[eu];exact h)=be b k:=by simp[words]
  rw[e,FM b k (by omega)]
  rfl
 ·right
  obtain rfl:k=16:=by omega
  intro R kn kx
  rw[aI.L0.step]
  simp(disch:=omega) only[↓S1,↓if_pos,↓if_neg,if_pos,if_neg,if_true,if_false,S2,aI.L0.add,aI.L0.F]
  rw[List.take_of_length_le (by rw[eu];omega)]
theorem aI.L1.ok:aI.L1.Ok:=by
 refine aI.L1.aD (fun(m,i,l)=>64 - m) ?_
 rintro⟨m,i,l⟩ ⟨ws,h1,h2,rfl,rfl,rfl⟩
 have hl:=lG ws
 by_cases h:ws.length < 64
 ·left
  refine⟨(ws.length+1,((ws.length+1:Nat):Int),wl (ext ws)),⟨ext ws,by rw[j7];omega,by rw[j7];omega,rfl,by rw[j7],by rw[j7]⟩,by simp only;omega,?_,fun kn kx=> ?_⟩
  ·simp only[aI.L1.add,aI.L1.F,nw,lG,j7]
   rw[Bg,show 64 - (ws.length+1)+1=64 - ws.length by omega]
  ·rw[aI.L1.step]
   simp(disch:=omega) only[↓S1,↓if_pos,↓if_neg,if_pos,if_neg,if_true,if_false,S2,hl,Nat.zero_add,Nat.mul_one,Nat.add_zero,rN ws _ (by omega:ws.length - 15 < ws.length),rN ws _ (by omega:ws.length - 2 < ws.length),rN ws _ (by omega:ws.length - 16 < ws.length),rN ws _ (by omega:ws.length - 7 < ws.length),dg.at,iN,od,mI,List.take_of_length_le (Nat.le_of_eq hl)]
   unfold ext wl
   rw[List.map_append]
   rfl
 ·right
  have h64:ws.length=64:=by omega
  intro R kn kx
  rw[aI.L1.step]
  simp(disch:=omega) only[↓S1,↓if_pos,↓if_neg,if_pos,if_neg,if_true,if_false,S2,aI.L1.add,aI.L1.F,hl,h64,nw,Nat.sub_self]
  rfl
theorem aI.ok:aI.Ok:=by
 intro b hb
 have p1:aI.L0.aB (b,0,0,[]):=⟨hb,0,by omega,rfl,rfl,rfl⟩
 have p2:aI.L1.aB (16,16,wl (words b)):=⟨words b,by rw[eu];omega,by rw[eu];omega,rfl,by rw[eu],by rw[eu];rfl⟩
 have hs:(sched b).length=64:=by unfold sched;rw[l7,eu]
 rw[aI.eq]
 simp(disch:=omega) only[↓S1,↓if_pos,↓if_neg,if_pos,if_neg,if_true,if_false,S2,aI.L0.run p1,aI.L0.add,aI.L0.F,aI.L1.run p2,aI.L1.add,aI.L1.F,nw,lG,eu,Nat.zero_add,Nat.reduceSub]
 have e:Ef (words b) 48=sched b:=rfl
 rw[e,hs,if_pos (Nat.le_refl _)]
 unfold cut
 rw[List.drop_zero,List.take_of_length_le (by rw[lG];omega)]
 simp only[aI.add,aI.F]
noncomputable def aI.E:=Entry.cC [some tB] aI.st aI.aB aI.add aI.F aI.out
noncomputable def aI.call:aI.D→Option aI.X:=bS aI.E aI.st
theorem aI.run:bM aI.call aI.aB aI.add aI.F:=dh (dd [.d tB] fun _=>by kernel_rfl)
noncomputable def aI.sg:SG Tryz.prog:=⟨281,aX,aI.E,.fn 2 (by kernel_rfl) aI.ok (And.intro (.cC aI.L0.ok (by kernel_rfl)) (And.intro (.cC aI.L1.ok (by kernel_rfl)) trivial))⟩
set_option synthInstance.maxSize 5000
abbrev aH.L0.D:=(List Int)×(List Int)×(List Int)×Nat×Int×(List Int)
def aH.L0.st:aH.L0.D→AS:=fun(h_2,wv,kv,vL,i,n18)=>⟨([.d (.slice (.int .u32)) h_2]++bh 4 ([.d (.slice (.int .u32)) wv,.d (.slice (.int .u32)) kv,.bJ (.new 18 0) 0 [] 0 0 vL,.d ti i]++bh 146 [])),[],(bI 18 ([[.obj 0 false (.vec 255 (.int .u32) n18)]]++bI 136 []))⟩
abbrev aH.L0.Y0:=Nat×(List Int)
abbrev aH.L0.X0:=((List Int))×(Nat×(List Int))
def aH.L0.bw:aH.L0.X0→Exit×AS:=fun x=>(.exit 0,⟨([.d (.slice (.int .u32)) x.1]++bh 6 ([.bJ (.new 18 0) 0 [] 0 0 x.2.1]++bh 147 [])),[],(bI 18 ([[.obj 0 false (.vec 255 (.int .u32) x.2.2)]]++bI 136 []))⟩)
abbrev aH.L0.X:=aH.L0.X0
abbrev aH.L0.Y:=aH.L0.Y0
def aH.L0.out:aH.L0.X→Out (Exit×AS):=fun x=> .ok (aH.L0.bw x)
def aH.L0.add:aH.L0.D→aH.L0.Y→aH.L0.X:=fun(h_2,wv,kv,vL,i,n18) y=>(h_2,y)
abbrev aH.L1.D:=(List Int)×Nat×Int×(List Int)
def aH.L1.st:aH.L1.D→AS:=fun(h_3,vL_2,i_2,n18_2)=>⟨([.d (.slice (.int .u32)) h_3]++bh 6 ([.bJ (.new 18 0) 0 [] 0 0 vL_2]++bh 6 ([.d ti i_2]++bh 140 []))),[],(bI 18 ([[.obj 0 false (.vec 255 (.int .u32) n18_2)]]++bI 136 []))⟩
abbrev aH.L1.Y0:=(List Int)
abbrev aH.L1.X0:=(Nat)×((List Int))
def aH.L1.bw:aH.L1.X0→Exit×AS:=fun x=>(.exit 2,⟨(bh 7 ([.bJ (.new 18 0) 0 [] 0 0 x.1]++bh 147 [])),[],(bI 18 ([[.obj 0 false (.vec 255 (.int .u32) x.2)]]++bI 136 []))⟩)
abbrev aH.L1.X:=aH.L1.X0
abbrev aH.L1.Y:=aH.L1.Y0
def aH.L1.out:aH.L1.X→Out (Exit×AS):=fun x=> .ok (aH.L1.bw x)
def aH.L1.add:aH.L1.D→aH.L1.Y→aH.L1.X:=fun(h_3,vL_2,i_2,n18_2) y=>(vL_2,y)
abbrev aH.D:=(List Int)×Bs
def aH.st:aH.D→SA:=fun(h,b)=>([.d (.slice (.int .u32)) h,.d tB b],[])
abbrev aH.Y:=(List Int)
abbrev aH.X:=(List Int)
def aH.out:aH.X→bg:=fun x=>⟨.d (.slice (.int .u32)) x,[],[]⟩
def aH.add:aH.D→aH.Y→aH.X:=fun(h,b) y=>y
def aH.L0.aB:aH.L0.D→Prop:=fun(h,wv,kv,m,i,l)=>∃(s:St) (ws:List W) (k:Nat),h=s.l∧wv=wl ws∧ws.length=64∧k≤64∧i=k∧kv=rq∧m=8∧l=(rounds ws s k).l
def aH.L0.F:aH.L0.D→aH.L0.Y:=fun(h,wv,kv,m,i,l)=>(8,(rounds (D5 wv) (xf h) 64).l)
def aH.L1.aB:aH.L1.D→Prop:=fun(h,m,i,l)=>h.length=8∧l.length=8∧m=8∧∃k:Nat,k≤8∧i=k
def aH.L1.F:aH.L1.D→aH.L1.Y:=fun(h,m,i,l)=>from_ (fun i x=>bR .u32 x (nth (.int .u32) h i)) i.toNat l
def aH.aB:aH.D→Prop:=fun(h,b)=>(∃s:St,h=s.l)∧64≤b.length
def aH.F:aH.D→aH.Y:=fun(h,b)=>(rv (xf h) b).l
noncomputable def aH.G:dY:=fg (P:=Tryz.prog) [aI.sg,ej.sg,dg.sg]
noncomputable def aH.L0.E:=bQ.cC aH.L0.st aH.L0.aB aH.L0.add aH.L0.F aH.L0.out
noncomputable def aH.L0.call:aH.L0.D→Option aH.L0.X:=dm aH.L0.E aH.L0.st
noncomputable def aH.L1.E:=bQ.cC aH.L1.st aH.L1.aB aH.L1.add aH.L1.F aH.L1.out
noncomputable def aH.L1.call:aH.L1.D→Option aH.L1.X:=dm aH.L1.E aH.L1.st
noncomputable def aH.an:eI:= {bK:=[18,137],loops:=j4 [(5,{bm:=[0,5,6,7,8],sites:=[18,137],iA:=[⟨7,[],18,0⟩]}),(14,{bm:=[0,7,14],sites:=[18]})],outs:=j3 [(5,{bm:=[0,7],sites:=[18]},{bm:=[4]}),(14,{bm:=[7],sites:=[18]},{bm:=[4]})],fJ:=kT [(5,aH.L0.E),(14,aH.L1.E)],res:=[some (.slice (.int .u32))]}
noncomputable def aH.A:= @cY Tryz.prog aH.G aH.an 0 Tryz.f264 _ aH.st
abbrev aH.Ok:=cZ @aH.A aH.aB aH.add aH.F aH.out
noncomputable def aH.L0.R:= @bV Tryz.prog aH.G aH.an 0 Tryz.f264 0 _ aH.L0.st
abbrev aH.L0.Ok:=ez Tryz.prog aH.G aH.an 0 Tryz.f264 0 aH.L0.st aH.L0.aB aH.L0.add aH.L0.F aH.L0.out
noncomputable def aH.L1.R:= @bV Tryz.prog aH.G aH.an 0 Tryz.f264 1 _ aH.L1.st
abbrev aH.L1.Ok:=ez Tryz.prog aH.G aH.an 0 Tryz.f264 1 aH.L1.st aH.L1.aB aH.L1.add aH.L1.F aH.L1.out
theorem aH.L0.run:bM aH.L0.call aH.L0.aB aH.L0.add aH.L0.F:=eF (eD [.d (.slice (.int .u32)),.d (.slice (.int .u32)),.d (.slice (.int .u32)),.n,.d ti,.d (.slice (.int .u32))] fun _=>by kernel_rfl)
theorem aH.L0.aD:fP @aH.L0.R aH.L0.st aH.L0.aB aH.L0.add aH.L0.F aH.L0.bw aH.L0.Ok:=fR
theorem aH.L0.step{R:Type}(h_2:(List Int))(wv:(List Int))(kv:(List Int))(vL:Nat)(i:Int)(n18:(List Int))(kn:AS→Option R)(kx:Exit→AS→Option R):aH.L0.R (h_2,wv,kv,vL,i,n18) kn kx=
  aK ((fZ i (64:Int))) (
   aK (eH (4:Int) ((vL:Nat):Int)) (
   aK (decide (4 < (List.length n18))) (
   al (dg.call ((nth (.int .u32) n18 4),(6:Int))) fun x1=>
   aK (eH (4:Int) ((vL:Nat):Int)) (
   aK (decide (4 < (List.length n18))) (
   al (dg.call ((nth (.int .u32) n18 4),(11:Int))) fun x2=>
   aK (eH (4:Int) ((vL:Nat):Int)) (
   aK (decide (4 < (List.length n18))) (
   al (dg.call ((nth (.int .u32) n18 4),(25:Int))) fun x3=>
   aK (eH (4:Int) ((vL:Nat):Int)) (
   aK (decide (4 < (List.length n18))) (
   aK (eH (5:Int) ((vL:Nat):Int)) (
   aK (decide (5 < (List.length n18))) (
   aK (eH (4:Int) ((vL:Nat):Int)) (
   aK (decide (4 < (List.length n18))) (
   aK (eH (6:Int) ((vL:Nat):Int)) (
   aK (decide (6 < (List.length n18))) (
   aK (eH (7:Int) ((vL:Nat):Int)) (
   aK (decide (7 < (List.length n18))) (
   aK (eH i (((List.length kv):Nat):Int)) (
   aK (eH i (((List.length wv):Nat):Int)) (
   aK (eH (0:Int) ((vL:Nat):Int)) (
   aK (decide (0 < (List.length n18))) (
   al (dg.call ((nth (.int .u32) n18 0),(2:Int))) fun x4=>
   aK (eH (0:Int) ((vL:Nat):Int)) (
   aK (decide (0 < (List.length n18))) (
   al (dg.call ((nth (.int .u32) n18 0),(13:Int))) fun x5=>
   aK (eH (0:Int) ((vL:Nat):Int)) (
   aK (decide (0 < (List.length n18))) (
   al (dg.call ((nth (.int .u32) n18 0),(22:Int))) fun x6=>
   aK (eH (0:Int) ((vL:Nat):Int)) (
   aK (decide (0 < (List.length n18))) (
   aK (eH (1:Int) ((vL:Nat):Int)) (
   aK (decide (1 < (List.length n18))) (
   aK (eH (0:Int) ((vL:Nat):Int)) (
   aK (decide (0 < (List.length n18))) (
   aK (eH (2:Int) ((vL:Nat):Int)) (
   aK (decide (2 < (List.length n18))) (
   aK (eH (1:Int) ((vL:Nat):Int)) (
   aK (decide (1 < (List.length n18))) (
   aK (eH (2:Int) ((vL:Nat):Int)) (
   aK (decide (2 < (List.length n18))) (
   aK (eH (0:Int) ((vL:Nat):Int)) (
   aK (decide (0 < (List.length n18))) (
   aK (eH (1:Int) ((vL:Nat):Int)) (
   aK (decide (1 < (List.length n18))) (
   aK (eH (2:Int) ((vL:Nat):Int)) (
   aK (decide (2 < (List.length n18))) (
   aK (eH (3:Int) ((vL:Nat):Int)) (
   aK (decide (3 < (List.length n18))) (
   aK (eH (4:Int) ((vL:Nat):Int)) (
   aK (decide (4 < (List.length n18))) (
   aK (eH (5:Int) ((vL:Nat):Int)) (
   aK (decide (5 < (List.length n18))) (
   aK (eH (6:Int) ((vL:Nat):Int)) (
   aK (decide (6 < (List.length n18))) (
   kn (aH.L0.st (h_2,wv,kv,8,(bR .i64 i (1:Int)),[(bR .u32 (bR .u32 (bR .u32 (bR .u32 (bR .u32 (bR .u32 (nth (.int .u32) n18 7) (ct .xor .u32 (ct .xor .u32 x1 x2) x3)) (ct .xor .u32 (ct .and .u32 (nth (.int .u32) n18 4) (nth (.int .u32) n18 5)) (ct .and .u32 (EI .u32 (nth (.int .u32) n18 4)) (nth (.int .u32) n18 6)))) (nth (.int .u32) kv (Int.toNat i))) (nth (.int .u32) wv (Int.toNat i))) (ct .xor .u32 (ct .xor .u32 x4 x5) x6)) (ct .xor .u32 (ct .xor .u32 (ct .and .u32 (nth (.int .u32) n18 0) (nth (.int .u32) n18 1)) (ct .and .u32 (nth (.int .u32) n18 0) (nth (.int .u32) n18 2))) (ct .and .u32 (nth (.int .u32) n18 1) (nth (.int .u32) n18 2)))),(nth (.int .u32) n18 0),(nth (.int .u32) n18 1),(nth (.int .u32) n18 2),(bR .u32 (nth (.int .u32) n18 3) (bR .u32 (bR .u32 (bR .u32 (bR .u32 (nth (.int .u32) n18 7) (ct .xor .u32 (ct .xor .u32 x1 x2) x3)) (ct .xor .u32 (ct .and .u32 (nth (.int .u32) n18 4) (nth (.int .u32) n18 5)) (ct .and .u32 (EI .u32 (nth (.int .u32) n18 4)) (nth (.int .u32) n18 6)))) (nth (.int .u32) kv (Int.toNat i))) (nth (.int .u32) wv (Int.toNat i)))),(nth (.int .u32) n18 4),(nth (.int .u32) n18 5),(nth (.int .u32) n18 6)]))) none) none) none) none) none) none) none) none) none) none) none) none) none) none) none) none) none) none) none) none) none) none) none) none) none) none) none) none) none) none) none) none) none) none) none) none) none) none) none) none) none) none) none) none) none) none) none) none) none) none) (
   kx (aH.L0.bw (h_2,(vL,n18))).1 (aH.L0.bw (h_2,(vL,n18))).2):=by kernel_rfl
theorem aH.L1.run:bM aH.L1.call aH.L1.aB aH.L1.add aH.L1.F:=eF (eD [.d (.slice (.int .u32)),.n,.d ti,.d (.slice (.int .u32))] fun _=>by kernel_rfl)
theorem aH.L1.aD:fP @aH.L1.R aH.L1.st aH.L1.aB aH.L1.add aH.L1.F aH.L1.bw aH.L1.Ok:=fR
theorem aH.L1.step{R:Type}(h_3:(List Int))(vL_2:Nat)(i_2:Int)(n18_2:(List Int))(kn:AS→Option R)(kx:Exit→AS→Option R):aH.L1.R (h_3,vL_2,i_2,n18_2) kn kx=
  aK ((fZ i_2 (8:Int))) (
   aK (eH i_2 ((vL_2:Nat):Int)) (
   aK (decide ((0+(Int.toNat i_2)) < (List.length n18_2))) (
   aK (decide ((((0+(Int.toNat i_2))*1)+0)=(0+((Int.toNat i_2)*1)))) (
   aK (eH i_2 (((List.length h_3):Nat):Int)) (
   aK (eH i_2 ((vL_2:Nat):Int)) (
   aK (decide ((0+(Int.toNat i_2)) < (List.length n18_2))) (
   aK (decide ((((0+(Int.toNat i_2))*1)+0)=(0+((Int.toNat i_2)*1)))) (
   aK (decide ((0+(Int.toNat i_2)) < (List.length n18_2))) (
   kn (aH.L1.st (h_3,vL_2,(bR .i64 i_2 (1:Int)),(List.set n18_2 (0+(Int.toNat i_2)) (bR .u32 (nth (.int .u32) n18_2 (0+(Int.toNat i_2))) (nth (.int .u32) h_3 (Int.toNat i_2))))))) none) none) none) none) none) none) none) none) (
   kx (aH.L1.bw (vL_2,n18_2)).1 (aH.L1.bw (vL_2,n18_2)).2):=by kernel_rfl
theorem aH.eq{R:Type}(h:(List Int))(b:Bs)(k:bg→Option R):aH.A (h,b) k=
 al (aI.call b) fun x1=>
 al (ej.call ()) fun x2=>
 aK (dp (0+(List.length h)) 4) (
 al (aH.L0.call (h,x1,x2,(0+(List.length h)),(0:Int),((List.take 0 (List.replicate 0 (0:Int)))++h))) fun x15=>
 al (aH.L1.call (x15.1,x15.2.1,(0:Int),x15.2.2)) fun x16=>
 aK (decide (0=0∧(0+x16.1)≤(List.length x16.2))) (
 k (aH.out (cut x16.2 0 x16.1))) none) none:=by kernel_rfl
theorem C3(w:W):EI .u32 (vw w)=vw (~~~w):=by
 have e:(if IntKind.u32.signed then -1 else IntKind.u32.max:Int)=vw (BitVec.allOnes 32):=rfl
 unfold EI
 rw[e,iN]
 simp only[BitVec.allOnes_xor]
theorem He(e f g:W):(e &&& f)^^^(~~~e &&& g)=g^^^(e &&& (f^^^g)):=by
 ext i hi
 simp only[BitVec.getElem_xor,BitVec.getElem_and,BitVec.getElem_not]
 cases e[i] <;> cases f[i] <;> cases g[i] <;> rfl
theorem Gi(a b c:W):(a &&& b)^^^(a &&& c)^^^(b &&& c)=(a &&& b) ||| (c &&& (a ||| b)):=by
 ext i hi
 simp only[BitVec.getElem_xor,BitVec.getElem_and,BitVec.getElem_or]
 cases a[i] <;> cases b[i] <;> cases c[i] <;> rfl
theorem aH.L0.ok:aH.L0.Ok:=by
 refine aH.L0.aD (fun(h,wv,kv,m,i,l)=>64 - i.toNat) ?_
 rintro⟨h,wv,kv,m,i,l⟩ ⟨s,ws,k,rfl,rfl,hw,hk,rfl,rfl,rfl,rfl⟩
 by_cases hlt:k < 64
 ·left
  refine⟨(s.l,wl ws,rq,8,((k+1:Nat):Int),(rounds ws s (k+1)).l),⟨s,ws,k+1,rfl,rfl,hw,by omega,rfl,rfl,rfl,rfl⟩,by simp only;omega,rfl,fun kn kx=> ?_⟩
  rw[aH.L0.step]
  generalize hv:rounds ws s k=v
  have t1:∀w:W,dg.call (vw w,6)=some (vw (kf w 6)):=fun w=>dg.at w (by omega)
  have t2:∀w:W,dg.call (vw w,11)=some (vw (kf w 11)):=fun w=>dg.at w (by omega)
  have t3:∀w:W,dg.call (vw w,25)=some (vw (kf w 25)):=fun w=>dg.at w (by omega)
  have t4:∀w:W,dg.call (vw w,2)=some (vw (kf w 2)):=fun w=>dg.at w (by omega)
  have t5:∀w:W,dg.call (vw w,13)=some (vw (kf w 13)):=fun w=>dg.at w (by omega)
  have t6:∀w:W,dg.call (vw w,22)=some (vw (kf w 22)):=fun w=>dg.at w (by omega)
  rw[n0,n1,n2,n3,n4,n5,n6,n7,t1,ab,t2,ab,t3,ab,t4,ab,t5,ab,t6,ab]
  simp(disch:=omega) only[↓S1,↓if_pos,↓if_neg,if_pos,if_neg,if_true,if_false,S2,St.yh,rU,lG,hw,yg k hlt,rN ws k (by omega),iN,mI,C3,He,Gi]
  show kn _=kn (aH.L0.st (s.l,wl ws,rq,8,((k+1:Nat):Int),(Iw (rounds ws s k) (kw k) (ws.getD k 0)).l))
  rw[hv]
  rfl
 ·right
  obtain rfl:k=64:=by omega
  intro R kn kx
  rw[aH.L0.step]
  simp(disch:=omega) only[↓S1,↓if_pos,↓if_neg,if_pos,if_neg,if_true,if_false,S2,aH.L0.add,aH.L0.F,nw,iv]
theorem aH.L1.ok:aH.L1.Ok:=by
 refine aH.L1.aD (fun(h,m,i,l)=>8 - i.toNat) ?_
 rintro⟨h,m,i,l⟩ ⟨hh,hl,rfl,k,hk,rfl⟩
 have hl:l.length=8:=hl
 have hh:h.length=8:=hh
 by_cases hlt:k < 8
 ·left
  have hn:nth (.int .u32) l k=l[k]:=cG (t:= .int .u32) (by omega)
  refine⟨(h,8,((k+1:Nat):Int),l.set k (bR .u32 l[k] (nth (.int .u32) h k))),⟨hh,by simpa using hl,rfl,k+1,by omega,rfl⟩,by simp only;omega,?_,fun kn kx=> ?_⟩
  ·simp only[aH.L1.add,aH.L1.F,Int.toNat_natCast]
   rw[oJ (fun i x=>bR .u32 x (nth (.int .u32) h i)) l k (by omega)]
  ·rw[aH.L1.step]
   simp(disch:=omega) only[↓S1,↓if_pos,↓if_neg,if_pos,if_neg,if_true,if_false,S2,hl,hh,Nat.zero_add,Nat.mul_one,Nat.add_zero,hn]
 ·right
  obtain rfl:k=8:=by omega
  intro R kn kx
  rw[aH.L1.step]
  simp(disch:=omega) only[↓S1,↓if_pos,↓if_neg,if_pos,if_neg,if_true,if_false,S2,aH.L1.add,aH.L1.F]
  rw[qb _ _ _ (by omega)]
theorem Gk(s:St)(b:List Int):from_ (fun i x=>bR .u32 x (nth (.int .u32) s.l i)) 0 (rounds (sched b) s 64).l=(rv s b).l:=by
 unfold rv
 generalize rounds (sched b) s 64=v
 obtain⟨a1,b1,c1,d1,f1,g1,h1,i1⟩:=v
 simp only[St.l,from_,List.mapIdx_cons,List.mapIdx_nil,Nat.not_lt_zero,if_false,Nat.zero_add,Nat.reduceAdd]
 simp only[nth,List.getD_cons_zero,List.getD_cons_succ,mI]
theorem aH.ok:aH.Ok:=by
 rintro⟨h,b⟩ ⟨⟨s,rfl⟩,hb⟩
 have p0:aI.aB b:=hb
 have hsl:(sched b).length=64:=by unfold sched;rw[l7,eu]
 have p1:aH.L0.aB (s.l,wl (sched b),rq,8,0,s.l):=⟨s,sched b,0,rfl,rfl,hsl,by omega,rfl,rfl,rfl,rfl⟩
 have p2:aH.L1.aB (s.l,8,0,(rounds (sched b) s 64).l):=⟨rfl,rfl,rfl,0,by omega,rfl⟩
 have e0:0+s.l.length=8:=rfl
 have e1:List.take 0 (List.replicate 0 (0:Int))++s.l=s.l:=rfl
 rw[aH.eq]
 simp(disch:=omega) only[↓S1,↓if_pos,↓if_neg,if_pos,if_neg,if_true,if_false,S2,aI.run p0,aI.add,aI.F,ej.run (d:=()) trivial,ej.add,ej.F,e0,e1,aH.L0.run p1,aH.L0.add,aH.L0.F,nw,iv,aH.L1.run p2,aH.L1.add,aH.L1.F,Int.toNat_zero,Gk]
 have e2:(rv s b).l.length=8:=rfl
 have e3:cut (rv s b).l 0 8=(rv s b).l:=rfl
 simp only[e2,Nat.zero_add,Nat.le_refl,if_true,e3,aH.add,aH.F,iv]
noncomputable def aH.E:=Entry.cC [some (.slice (.int .u32)),some tB] aH.st aH.aB aH.add aH.F aH.out
noncomputable def aH.call:aH.D→Option aH.X:=bS aH.E aH.st
theorem aH.run:bM aH.call aH.aB aH.add aH.F:=dh (dd [.d (.slice (.int .u32)),.d tB] fun _=>by kernel_rfl)
noncomputable def aH.sg:SG Tryz.prog:=⟨264,aX,aH.E,.fn 2 (by kernel_rfl) aH.ok (And.intro (.cC aH.L0.ok (by kernel_rfl)) (And.intro (.cC aH.L1.ok (by kernel_rfl)) trivial))⟩
set_option synthInstance.maxSize 5000
abbrev bE.L0.D:=Bs×(List Int)×Int×Bs
def bE.L0.st:bE.L0.D→AS:=fun(p,h,i,n2)=>⟨([.undef,.undef,.ptr (.new 2 0) 0 [] 0,.d tB p,.d (.slice (.int .u32)) h,.d ti i]++bh 36 []),[],([[],[],[.obj 0 false (.d tH n2)]]++bI 39 [])⟩
abbrev bE.L0.Y0:=(List Int)
abbrev bE.L0.X0:=(Bs)×((List Int))
def bE.L0.bw:bE.L0.X0→Exit×AS:=fun x=>(.exit 0,⟨([.undef,.undef,.ptr (.new 2 0) 0 [] 0,.undef,.d (.slice (.int .u32)) x.2]++bh 37 []),[],([[],[],[.obj 0 false (.d tH x.1)]]++bI 39 [])⟩)
abbrev bE.L0.X:=bE.L0.X0
abbrev bE.L0.Y:=bE.L0.Y0
def bE.L0.out:bE.L0.X→Out (Exit×AS):=fun x=> .ok (bE.L0.bw x)
def bE.L0.add:bE.L0.D→bE.L0.Y→bE.L0.X:=fun(p,h,i,n2) y=>(n2,y)
abbrev bE.L1.D:=(List Int)×Int×Bs×Bs
def bE.L1.st:bE.L1.D→AS:=fun(h_2,i_2,n2_2,n6)=>⟨([.undef,.undef,.ptr (.new 2 0) 0 [] 0,.undef,.d (.slice (.int .u32)) h_2,.undef,.ptr (.new 6 0) 0 [] 0,.d ti i_2]++bh 34 []),[],([[],[],[.obj 0 false (.d tH n2_2)],[],[],[],[.obj 0 false (.d tH n6)]]++bI 35 [])⟩
abbrev bE.L1.Y0:=Bs
abbrev bE.L1.X0:=(Bs)×(Bs)
def bE.L1.bw:bE.L1.X0→Exit×AS:=fun x=>(.exit 2,⟨([.undef,.undef,.ptr (.new 2 0) 0 [] 0,.undef,.undef,.undef,.ptr (.new 6 0) 0 [] 0]++bh 35 []),[],([[],[],[.obj 0 false (.d tH x.1)],[],[],[],[.obj 0 false (.d tH x.2)]]++bI 35 [])⟩)
abbrev bE.L1.X:=bE.L1.X0
abbrev bE.L1.Y:=bE.L1.Y0
def bE.L1.out:bE.L1.X→Out (Exit×AS):=fun x=> .ok (bE.L1.bw x)
def bE.L1.add:bE.L1.D→bE.L1.Y→bE.L1.X:=fun(h_2,i_2,n2_2,n6) y=>(n2_2,y)
abbrev bE.D:=Bs
def bE.st:bE.D→SA:=fun b=>([.d tB b],[])
abbrev bE.Y:=Bs
abbrev bE.X:=Bs
def bE.out:bE.X→bg:=fun x=>⟨.d tH x,[],[]⟩
def bE.add:bE.D→bE.Y→bE.X:=fun b y=>y
def bE.L0.aB:bE.L0.D→Prop:=fun(p,h,i,n2)=>p.length%64=0∧p.length≤140737488355328∧∃(s:St) (k:Nat),h=s.l∧i=((64*k:Nat):Int)∧64*k≤p.length
def bE.L0.F:bE.L0.D→bE.L0.Y:=fun(p,h,i,n2)=>(blocks (xf h) (p.drop i.toNat)).l
def bE.L1.aB:bE.L1.D→Prop:=fun(h,i,n2,l)=>h.length=8∧l.length=32∧∃k:Nat,k≤32∧i=k
def bE.L1.F:bE.L1.D→bE.L1.Y:=fun(h,i,n2,l)=>from_ (o8 h) i.toNat l
def bE.aB:bE.D→Prop:=fun b=>b.length≤140737488350000
def bE.F:bE.D→bE.Y:=fun b=>Gw b
noncomputable def bE.G:dY:=fg (P:=Tryz.prog) [ay.sg,cv.sg,aH.sg]
noncomputable def bE.L0.E:=bQ.cC bE.L0.st bE.L0.aB bE.L0.add bE.L0.F bE.L0.out
noncomputable def bE.L0.call:bE.L0.D→Option bE.L0.X:=dm bE.L0.E bE.L0.st
noncomputable def bE.L1.E:=bQ.cC bE.L1.st bE.L1.aB bE.L1.add bE.L1.F bE.L1.out
noncomputable def bE.L1.call:bE.L1.D→Option bE.L1.X:=dm bE.L1.E bE.L1.st
noncomputable def bE.an:eI:= {loops:=j4 [(4,{bm:=[2,3,4,5],sites:=[2]}),(9,{bm:=[2,4,6,7],sites:=[2,6]})],outs:=j3 [(4,{bm:=[2,4],sites:=[2]},{bm:=[2]}),(9,{bm:=[2,6],sites:=[2,6]},{bm:=[2]})],fJ:=kT [(4,bE.L0.E),(9,bE.L1.E)]}
noncomputable def bE.A:= @cY Tryz.prog bE.G bE.an 0 Tryz.f219 _ bE.st
abbrev bE.Ok:=cZ @bE.A bE.aB bE.add bE.F bE.out
noncomputable def bE.L0.R:= @bV Tryz.prog bE.G bE.an 0 Tryz.f219 0 _ bE.L0.st
abbrev bE.L0.Ok:=ez Tryz.prog bE.G bE.an 0 Tryz.f219 0 bE.L0.st bE.L0.aB bE.L0.add bE.L0.F bE.L0.out
noncomputable def bE.L1.R:= @bV Tryz.prog bE.G bE.an 0 Tryz.f219 1 _ bE.L1.st
abbrev bE.L1.Ok:=ez Tryz.prog bE.G bE.an 0 Tryz.f219 1 bE.L1.st bE.L1.aB bE.L1.add bE.L1.F bE.L1.out
theorem bE.L0.run:bM bE.L0.call bE.L0.aB bE.L0.add bE.L0.F:=eF (eD [.d tB,.d (.slice (.int .u32)),.d ti,.d tB] fun _=>by kernel_rfl)
theorem bE.L0.aD:fP @bE.L0.R bE.L0.st bE.L0.aB bE.L0.add bE.L0.F bE.L0.bw bE.L0.Ok:=fR
theorem bE.L0.step{R:Type}(p:Bs)(h:(List Int))(i:Int)(n2:Bs)(kn:AS→Option R)(kx:Exit→AS→Option R):bE.L0.R (p,h,i,n2) kn kx=
  aK ((fZ i (((List.length p):Nat):Int))) (
   aK (inc (bR .i64 i (64:Int)) (((List.length p):Nat):Int)) (
   aK (inc i (((Int.toNat (bR .i64 i (64:Int))):Nat):Int)) (
   al (aH.call (h,(cut p (Int.toNat i) ((Int.toNat (bR .i64 i (64:Int))) - (Int.toNat i))))) fun x1=>
   kn (bE.L0.st (p,x1,(bR .i64 i (64:Int)),n2))) none) none) (
   kx (bE.L0.bw (n2,h)).1 (bE.L0.bw (n2,h)).2):=by kernel_rfl
theorem bE.L1.run:bM bE.L1.call bE.L1.aB bE.L1.add bE.L1.F:=eF (eD [.d (.slice (.int .u32)),.d ti,.d tB,.d tB] fun _=>by kernel_rfl)
theorem bE.L1.aD:fP @bE.L1.R bE.L1.st bE.L1.aB bE.L1.add bE.L1.F bE.L1.bw bE.L1.Ok:=fR
theorem bE.L1.step{R:Type}(h_2:(List Int))(i_2:Int)(n2_2:Bs)(n6:Bs)(kn:AS→Option R)(kx:Exit→AS→Option R):bE.L1.R (h_2,i_2,n2_2,n6) kn kx=
  aK ((fZ i_2 (32:Int))) (
   aK (eH (lQ .i64 i_2 (4:Int)) (((List.length h_2):Nat):Int)) (
   aK (hP (cQ .i64 (24:Int) (fe .i64 (8:Int) (jD i_2 (4:Int))))) (
   aK (eH i_2 (32:Int)) (
   aK (decide ((Int.toNat i_2) < (List.length n6))) (
   aK (decide ((((Int.toNat i_2)*1)+0)=(0+((Int.toNat i_2)*1)))) (
   aK (decide ((Int.toNat i_2) < (List.length n6))) (
   kn (bE.L1.st (h_2,(bR .i64 i_2 (1:Int)),n2_2,(List.set n6 (Int.toNat i_2) (dJ .u8 (bT .u32 (nth (.int .u32) h_2 (Int.toNat (lQ .i64 i_2 (4:Int)))) (cQ .i64 (24:Int) (fe .i64 (8:Int) (jD i_2 (4:Int)))))))))) none) none) none) none) none) none) (
   kx (bE.L1.bw (n2_2,n6)).1 (bE.L1.bw (n2_2,n6)).2):=by kernel_rfl
theorem bE.eq{R:Type}(b:Bs)(k:bg→Option R):bE.A b k=
 al (ay.call b) fun x1=>
 al (cv.call ()) fun x2=>
 al (bE.L0.call (x1,x2,(0:Int),(List.replicate 32 (0:Int)))) fun x4=>
 al (bE.L1.call (x4.2,(0:Int),x4.1,(List.replicate 32 (0:Int)))) fun x5=>
 k (bE.out x5.2):=by kernel_rfl
theorem bE.L0.ok:bE.L0.Ok:=by
 refine bE.L0.aD (fun(p,h,i,n2)=>p.length - i.toNat) ?_
 rintro⟨p,h,i,n2⟩ ⟨hm,hb,s,k,rfl,rfl,hk⟩
 have hm:p.length%64=0:=hm
 have hb:p.length≤140737488355328:=hb
 have hk:64*k≤p.length:=hk
 by_cases hlt:64*k < p.length
 ·left
  have e1:cut p (64*k) (64*k+64 - 64*k)=(p.drop (64*k)).take 64:=by unfold cut;rw[show 64*k+64 - 64*k=64 by omega]
  have e2:(p.drop (64*k)).drop 64=p.drop (64*(k+1)):=by rw[List.drop_drop];congr 1
  have e3:(64*(k+1):Nat)=64*k+64:=by omega
  have p1:aH.aB (s.l,(p.drop (64*k)).take 64):=⟨⟨s,rfl⟩,by simp;omega⟩
  refine⟨(p,(rv s ((p.drop (64*k)).take 64)).l,((64*(k+1):Nat):Int),n2),⟨hm,hb,_,k+1,rfl,rfl,by omega⟩,by simp only[Int.toNat_natCast];omega,?_,fun kn kx=> ?_⟩
  ·simp only[bE.L0.add,bE.L0.F,iv,Int.toNat_natCast]
   rw[nQ s (p.drop (64*k)) (by simp;omega),e2]
  ·rw[bE.L0.step]
   simp(disch:=omega) only[↓S1,↓if_pos,↓if_neg,if_pos,if_neg,if_true,if_false,S2,e1,aH.run p1,aH.add,aH.F,iv,e3]
 ·right
  intro R kn kx
  rw[bE.L0.step]
  simp(disch:=omega) only[↓S1,↓if_pos,↓if_neg,if_pos,if_neg,if_true,if_false,S2,bE.L0.add,bE.L0.F,iv]
  rw[mQ s _ (by simp;omega)]
theorem bE.L1.ok:bE.L1.Ok:=by
 refine bE.L1.aD (fun(h,i,n2,l)=>32 - i.toNat) ?_
 rintro⟨h,i,n2,l⟩ ⟨h8,hl,k,hk,rfl⟩
 have hl:l.length=32:=hl
 have h8:h.length=8:=h8
 by_cases hlt:k < 32
 ·left
  refine⟨(h,((k+1:Nat):Int),n2,l.set k (o8 h k l[k])),⟨h8,by simpa using hl,k+1,by omega,rfl⟩,by simp only[Int.toNat_natCast];omega,?_,fun kn kx=> ?_⟩
  ·simp only[bE.L1.add,bE.L1.F,Int.toNat_natCast]
   rw[oJ (o8 h) l k (by omega)]
  ·rw[bE.L1.step]
   simp(disch:=omega) only[↓S1,↓if_pos,↓if_neg,if_pos,if_neg,if_true,if_false,S2,hl,h8,Nat.mul_one,Nat.add_zero,Nat.zero_add,o8]
 ·right
  obtain rfl:k=32:=by omega
  intro R kn kx
  rw[bE.L1.step]
  simp(disch:=omega) only[↓S1,↓if_pos,↓if_neg,if_pos,if_neg,if_true,if_false,S2,bE.L1.add,bE.L1.F]
  rw[qb _ _ _ (by omega)]
theorem zV(b:List Int):(pad b).length%64=0∧(pad b).length≤b.length+73:=by
 unfold pad
 simp only[List.length_append,List.length_cons,List.length_replicate,bW,lU]
 omega
theorem bE.ok:bE.Ok:=by
 intro b hb
 have hb:b.length≤140737488350000:=hb
 have p1:ay.aB b:=hb
 obtain⟨h1,h2⟩:=zV b
 have p2:bE.L0.aB (pad b,jr.l,0,List.replicate 32 0):=⟨h1,by omega,jr,0,rfl,rfl,by omega⟩
 have p3:bE.L1.aB ((blocks jr (pad b)).l,0,List.replicate 32 0,List.replicate 32 0):=⟨rfl,rfl,0,by omega,rfl⟩
 rw[bE.eq]
 simp(disch:=omega) only[↓S1,↓if_pos,↓if_neg,if_pos,if_neg,if_true,if_false,S2,ay.run p1,ay.add,ay.F,cv.run (d:=()) trivial,cv.add,cv.F,bE.L0.run p2,bE.L0.add,bE.L0.F,iv,Int.toNat_zero,List.drop_zero,bE.L1.run p3,bE.L1.add,bE.L1.F,A0]
 rfl
noncomputable def bE.E:=Entry.cC [some tB] bE.st bE.aB bE.add bE.F bE.out
noncomputable def bE.call:bE.D→Option bE.X:=bS bE.E bE.st
theorem bE.run:bM bE.call bE.aB bE.add bE.F:=dh (dd [.d tB] fun _=>by kernel_rfl)
noncomputable def bE.sg:SG Tryz.prog:=⟨219,aX,bE.E,.fn 2 (by kernel_rfl) bE.ok (And.intro (.cC bE.L0.ok (by kernel_rfl)) (And.intro (.cC bE.L1.ok (by kernel_rfl)) trivial))⟩
abbrev dU.D:=Int
def dU.st:dU.D→SA:=fun n=>([.d tu n],[])
abbrev dU.Y:=Nat×(List Int)
abbrev dU.X:=Nat×(List Int)
def dU.out:dU.X→bg:=fun x=>⟨.bJ (.new 0 0) 0 [] 0 0 x.1,[],[.obj 0 false (.vec 5 tb x.2)]⟩
def dU.add:dU.D→dU.Y→dU.X:=fun n y=>y
def dU.aB:dU.D→Prop:=fun n=>0≤n∧n < 18446744073709551616
def dU.F:dU.D→dU.Y:=fun n=>(8,hZ n)
noncomputable def dU.G:dY:=fg (P:=Tryz.prog) []
noncomputable def dU.an:eI:= {loops:=j4 [(3,{bm:=[0,3,4],sites:=[15]})],outs:=j3 [(3,{bm:=[3],sites:=[15]},{bm:=[2],sites:=[15]})],iA:=[⟨2,[],15,140⟩]}
noncomputable def dU.A:= @cY Tryz.prog dU.G dU.an 10 Tryz.f218 _ dU.st
abbrev dU.Ok:=cZ @dU.A dU.aB dU.add dU.F dU.out
theorem dU.eq{R:Type}(n:Int)(k:bg→Option R):dU.A n k=
 k (dU.out (8,[(dJ .u8 (bT .u64 n (56:Int))),(dJ .u8 (bT .u64 n (48:Int))),(dJ .u8 (bT .u64 n (40:Int))),(dJ .u8 (bT .u64 n (32:Int))),(dJ .u8 (bT .u64 n (24:Int))),(dJ .u8 (bT .u64 n (16:Int))),(dJ .u8 (bT .u64 n (8:Int))),(dJ .u8 (bT .u64 n (0:Int)))])):=by kernel_rfl
theorem dU.ok:dU.Ok:=by
 intro n _
 have e:∀k:Nat,k≤64→dJ .u8 (bT .u64 n (k:Int))=n / 2^k%256:=fun k hk=>y8 n k hk
 rw[dU.eq]
 have e56:dJ .u8 (bT .u64 n 56)=n / 2^56%256:=e 56 (by omega)
 have e48:dJ .u8 (bT .u64 n 48)=n / 2^48%256:=e 48 (by omega)
 have e40:dJ .u8 (bT .u64 n 40)=n / 2^40%256:=e 40 (by omega)
 have e32:dJ .u8 (bT .u64 n 32)=n / 2^32%256:=e 32 (by omega)
 have e24:dJ .u8 (bT .u64 n 24)=n / 2^24%256:=e 24 (by omega)
 have e16:dJ .u8 (bT .u64 n 16)=n / 2^16%256:=e 16 (by omega)
 have e8:dJ .u8 (bT .u64 n 8)=n / 2^8%256:=e 8 (by omega)
 have e0:=e 0 (by omega)
 rw[e56,e48,e40,e32,e24,e16,e8]
 have e0:dJ .u8 (bT .u64 n 0)=n%256:=by rw[show(0:Int)=((0:Nat):Int) from rfl,e0];simp
 rw[e0]
 rfl
noncomputable def dU.E:=Entry.cC [some tu] dU.st dU.aB dU.add dU.F dU.out
noncomputable def dU.call:dU.D→Option dU.X:=bS dU.E dU.st
theorem dU.run:bM dU.call dU.aB dU.add dU.F:=dh (dd [.d tu] fun _=>by kernel_rfl)
noncomputable def dU.sg:SG Tryz.prog:=⟨218,aX,dU.E,.fn 1 (by kernel_rfl) dU.ok (And.intro (.none (by kernel_rfl)) trivial)⟩
abbrev cO.L0.D:=(List Bs)×Nat×Int×Bs×(List Int)
def cO.L0.st:cO.L0.D→AS:=fun(parts_2,bL,i,n4,n11)=>⟨([.undef,.d (.slice tB) parts_2,.undef,.undef,.ptr (.new 4 0) 0 [] 0,.bJ (.new 11 0) 0 [] 0 0 bL,.d ti i]++bh 32 []),[],(bI 4 ([[.obj 0 false (.d tH n4)]]++bI 6 ([[.obj 0 false (.vec 5 tb n11)]]++bI 27 [])))⟩
abbrev cO.L0.Y0:=Nat×(List Int)
abbrev cO.L0.X0:=(Bs)×(Nat×(List Int))
def cO.L0.bw:cO.L0.X0→Exit×AS:=fun x=>(.exit 0,⟨(bh 4 ([.ptr (.new 4 0) 0 [] 0,.bJ (.new 11 0) 0 [] 0 0 x.2.1]++bh 33 [])),[],(bI 4 ([[.obj 0 false (.d tH x.1)]]++bI 6 ([[.obj 0 false (.vec 5 tb x.2.2)]]++bI 27 [])))⟩)
abbrev cO.L0.X:=cO.L0.X0
abbrev cO.L0.Y:=cO.L0.Y0
def cO.L0.out:cO.L0.X→Out (Exit×AS):=fun x=> .ok (cO.L0.bw x)
def cO.L0.add:cO.L0.D→cO.L0.Y→cO.L0.X:=fun(parts_2,bL,i,n4,n11) y=>(n4,y)
abbrev cO.D:=ByteArray×(List Bs)
def cO.st:cO.D→SA:=fun(name,parts)=>([.d .str name,.d (.slice tB) parts],[])
abbrev cO.Y:=Bs
abbrev cO.X:=Bs
def cO.out:cO.X→bg:=fun x=>⟨.d tH x,[],[]⟩
def cO.add:cO.D→cO.Y→cO.X:=fun(name,parts) y=>y
def cO.L0.aB:cO.L0.D→Prop:=fun(ps,m,i,n4,l)=>m=l.length∧∃k:Nat,k≤ps.length∧ps.length≤140737488350000∧i=k∧l.length+(iB (ps.drop k)).length≤140737488350000
def cO.L0.F:cO.L0.D→cO.L0.Y:=fun(ps,m,i,n4,l)=>(l.length+(iB (ps.drop i.toNat)).length,l++iB (ps.drop i.toNat))
def cO.aB:cO.D→Prop:=fun(name,ps)=>(rJ (bt name) ps).length≤140737488350000
def cO.F:cO.D→cO.Y:=fun(name,ps)=>tag (bt name) ps
noncomputable def cO.G:dY:=fg (P:=Tryz.prog) [dU.sg,bE.sg]
noncomputable def cO.L0.E:=bQ.cC cO.L0.st cO.L0.aB cO.L0.add cO.L0.F cO.L0.out
noncomputable def cO.L0.call:cO.L0.D→Option cO.L0.X:=dm cO.L0.E cO.L0.st
noncomputable def cO.an:eI:= {loops:=j4 [(3,{bm:=[1,4,5,6],sites:=[4,11],iA:=[⟨5,[],11,140⟩]})],outs:=j3 [(3,{bm:=[4,5],sites:=[4,11]},{bm:=[4]})],fJ:=kT [(3,cO.L0.E)]}
noncomputable def cO.A:= @cY Tryz.prog cO.G cO.an 0 Tryz.f161 _ cO.st
abbrev cO.Ok:=cZ @cO.A cO.aB cO.add cO.F cO.out
noncomputable def cO.L0.R:= @bV Tryz.prog cO.G cO.an 0 Tryz.f161 0 _ cO.L0.st
abbrev cO.L0.Ok:=ez Tryz.prog cO.G cO.an 0 Tryz.f161 0 cO.L0.st cO.L0.aB cO.L0.add cO.L0.F cO.L0.out
theorem cO.L0.run:bM cO.L0.call cO.L0.aB cO.L0.add cO.L0.F:=eF (eD [.d (.slice tB),.n,.d ti,.d tB,.d tB] fun _=>by kernel_rfl)
theorem cO.L0.aD:fP @cO.L0.R cO.L0.st cO.L0.aB cO.L0.add cO.L0.F cO.L0.bw cO.L0.Ok:=fR
theorem cO.L0.step{R:Type}(parts_2:(List Bs))(bL:Nat)(i:Int)(n4:Bs)(n11:(List Int))(kn:AS→Option R)(kx:Exit→AS→Option R):cO.L0.R (parts_2,bL,i,n4,n11) kn kx=
  aK ((fZ i (((List.length parts_2):Nat):Int))) (
   aK (eH i (((List.length parts_2):Nat):Int)) (
   al (dU.call (dJ .u64 (((List.length (nth tB parts_2 (Int.toNat i))):Nat):Int))) fun x1=>
   aK (decide (0=0∧(0+x1.1)≤(List.length x1.2))) (
   aK (decide (bL≤(List.length n11))) (
   aK (dp (bL+(List.length (cut x1.2 0 x1.1))) 1) (
   aK (eH i (((List.length parts_2):Nat):Int)) (
   aK (decide ((bL+(List.length (cut x1.2 0 x1.1)))≤(List.length ((List.take bL n11)++(cut x1.2 0 x1.1))))) (
   aK (dp ((bL+(List.length (cut x1.2 0 x1.1)))+(List.length (nth tB parts_2 (Int.toNat i)))) 1) (
   kn (cO.L0.st (parts_2,((bL+(List.length (cut x1.2 0 x1.1)))+(List.length (nth tB parts_2 (Int.toNat i)))),(bR .i64 i (1:Int)),n4,((List.take (bL+(List.length (cut x1.2 0 x1.1))) ((List.take bL n11)++(cut x1.2 0 x1.1)))++(nth tB parts_2 (Int.toNat i)))))) none) none) none) none) none) none) none) (
   kx (cO.L0.bw (n4,(bL,n11))).1 (cO.L0.bw (n4,(bL,n11))).2):=by kernel_rfl
theorem cO.eq{R:Type}(name:ByteArray)(parts:(List Bs))(k:bg→Option R):cO.A (name,parts) k=
 al (dU.call (dJ .u64 (((ByteArray.size name):Nat):Int))) fun x1=>
 aK (decide (x1.1≤(List.length x1.2))) (
 aK (dp (x1.1+(List.length (bt name))) 1) (
 al (cO.L0.call (parts,(x1.1+(List.length (bt name))),(0:Int),(List.replicate 32 (0:Int)),((List.take x1.1 x1.2)++(bt name)))) fun x4=>
 aK (decide (0=0∧(0+x4.2.1)≤(List.length x4.2.2))) (
 al (bE.call (cut x4.2.2 0 x4.2.1)) fun x5=>
 k (cO.out x5)) none) none) none:=by kernel_rfl
theorem Bb{n:Nat}(h:n < 18446744073709551616):dJ .u64 ((n:Nat):Int)=n:=by rw[wG,fT];omega
theorem dU.at{n:Nat}(h:n < 18446744073709551616):dU.call (n:Int)=some (8,hZ (n:Int)):=dU.run (d:=(n:Int)) (show 0≤(n:Int)∧(n:Int) < 18446744073709551616 from⟨by omega,by omega⟩)
theorem Hf{l:List Int}{n:Nat}(h:l.length=n):cut l 0 n=l:=by unfold cut;rw[List.drop_zero,List.take_of_length_le (by omega)]
theorem cO.L0.ok:cO.L0.Ok:=by
 refine cO.L0.aD (fun(ps,m,i,n4,l)=>ps.length - i.toNat) ?_
 rintro⟨ps,m,i,n4,l⟩ ⟨rfl,k,hk,hpl,rfl,hl⟩
 have hk:k≤ps.length:=hk
 have hpl:ps.length≤140737488350000:=hpl
 have hl:l.length+(iB (ps.drop k)).length≤140737488350000:=hl
 by_cases h:k < ps.length
 ·left
  have ht:=vU ps k h
  have hlen:(iB (ps.drop k)).length=8+ps[k].length+(iB (ps.drop (k+1))).length:=by rw[ht];simp only[List.length_append,bW]
  have hn:nth (.slice (.int .u8)) ps k=ps[k]:=cG (t:= .slice (.int .u8)) h
  have hlb:(l++hZ (ps[k].length:Int)).length=l.length+8:=by simp[bW]
  refine⟨(ps,(l++hZ ps[k].length++ps[k]).length,((k+1:Nat):Int),n4,l++hZ ps[k].length++ps[k]),⟨rfl,k+1,by omega,hpl,rfl,?_⟩,by simp only[Int.toNat_natCast];omega,?_,fun kn kx=> ?_⟩
  ·simp only[List.length_append,bW];omega
  ·simp only[cO.L0.add,cO.L0.F,Int.toNat_natCast,ht,List.append_assoc]
   simp only[List.length_append,bW,Nat.add_assoc]
  ·have c8:cut (hZ (ps[k].length:Int)) 0 8=hZ (ps[k].length:Int):=Hf (bW _)
   have h64:ps[k].length < 18446744073709551616:=by omega
   rw[cO.L0.step]
   simp(disch:=omega) only[↓S1,↓if_pos,↓if_neg,if_pos,if_neg,if_true,if_false,S2,hn,Bb h64,dU.at h64,bW,c8,List.take_length,hlb,Nat.zero_add,Nat.le_refl,and_self,if_true]
   rw[List.take_of_length_le (by rw[hlb];omega)]
   simp only[List.length_append,bW,Nat.add_assoc]
 ·right
  obtain rfl:k=ps.length:=by omega
  intro R kn kx
  rw[cO.L0.step]
  simp(disch:=omega) only[↓S1,↓if_pos,↓if_neg,if_pos,if_neg,if_true,if_false,S2,cO.L0.add,cO.L0.F,List.drop_length]
  simp[iB]
theorem cO.ok:cO.Ok:=by
 rintro⟨name,ps⟩ hp
 have hp:(hZ (bt name).length++bt name++iB ps).length≤140737488350000:=hp
 have hl:(hZ (bt name).length++bt name++iB ps).length=8+(bt name).length+(iB ps).length:=by simp only[List.length_append,bW]
 have hpl:=uw ps
 have hsz:name.size=(bt name).length:=by rw[gB]
 have h64:(bt name).length < 18446744073709551616:=by omega
 have p2:cO.L0.aB (ps,8+(bt name).length,0,List.replicate 32 0,hZ ((bt name).length:Int)++bt name):=by
  refine⟨by simp only[List.length_append,bW],0,Nat.zero_le _,by omega,rfl,?_⟩
  rw[List.drop_zero]
  simp only[List.length_append,bW]
  omega
 rw[cO.eq,hsz]
 simp(disch:=omega) only[↓S1,↓if_pos,↓if_neg,if_pos,if_neg,if_true,if_false,S2,Bb h64,dU.at h64,bW,List.take_of_length_le (Nat.le_of_eq (bW _)),cO.L0.run p2,cO.L0.add,cO.L0.F,Int.toNat_zero,List.drop_zero,Nat.zero_add]
 have hcut:cut (hZ ((bt name).length:Int)++bt name++iB ps) 0 ((hZ ((bt name).length:Int)++bt name).length+(iB ps).length)=rJ (bt name) ps:=Hf (by simp only[List.length_append])
 have p3:bE.aB (rJ (bt name) ps):=hp
 rw[if_pos (by simp only[List.length_append];omega),hcut,bE.run p3]
 rfl
noncomputable def cO.E:=Entry.cC [some .str,some (.slice tB)] cO.st cO.aB cO.add cO.F cO.out
noncomputable def cO.call:cO.D→Option cO.X:=bS cO.E cO.st
theorem cO.run:bM cO.call cO.aB cO.add cO.F:=dh (dd [.d .str,.d (.slice tB)] fun _=>by kernel_rfl)
noncomputable def cO.sg:SG Tryz.prog:=⟨161,aX,cO.E,.fn 1 (by kernel_rfl) cO.ok (And.intro (.cC cO.L0.ok (by kernel_rfl)) trivial)⟩
set_option synthInstance.maxSize 5000
theorem qS{n:Int}(h1:0≤n)(h2:n < 18446744073709551616):IntKind.u64.wrap n=n:=by
 rw[wrap_u64,fT];omega
theorem qR(n:Int):IntKind.u64.wrap n=n%18446744073709551616:=by
 rw[wrap_u64,fT];rfl
theorem lv(x y:Int):bR .u64 x y=(x+y)%18446744073709551616:=qR _
theorem sJ(x y:Int):cQ .u64 x y=(x - y)%18446744073709551616:=qR _
theorem lz(x y:Int):fe .u64 x y=(x*y)%18446744073709551616:=qR _
theorem C1(x:Int):dJ .u64 x=x%18446744073709551616:=qR _
theorem xz{x:Int}(h:0≤x)(h2:x < 18446744073709551616):ct .and .u64 x 4294967295=x%4294967296:=by
 obtain⟨n,rfl⟩:∃n:Nat,x=n:=⟨x.toNat,by omega⟩
 have e:(BitVec.ofInt 64 (n:Int) &&& BitVec.ofInt 64 4294967295).toNat=n%4294967296:=by
  rw[BitVec.toNat_and]
  have a:(BitVec.ofInt 64 (n:Int)).toNat=n:=by rw[BitVec.ofInt_natCast,BitVec.toNat_ofNat];omega
  have b:(BitVec.ofInt 64 4294967295).toNat=2^32 - 1:=by decide
  rw[a,b,Nat.and_two_pow_sub_one_eq_mod]
 show IntKind.u64.wrap ((BitVec.ofInt 64 (n:Int) &&& BitVec.ofInt 64 4294967295).toNat:Int)=_
 rw[e,qS (by omega) (by omega)];omega
theorem H7{x:Int}(h:0≤x)(h2:x < 18446744073709551616):ct .and .u64 x 1=x%2:=by
 obtain⟨n,rfl⟩:∃n:Nat,x=n:=⟨x.toNat,by omega⟩
 have e:(BitVec.ofInt 64 (n:Int) &&& BitVec.ofInt 64 1).toNat=n%2:=by
  rw[BitVec.toNat_and]
  have a:(BitVec.ofInt 64 (n:Int)).toNat=n:=by rw[BitVec.ofInt_natCast,BitVec.toNat_ofNat];omega
  have b:(BitVec.ofInt 64 1).toNat=2^1 - 1:=by decide
  rw[a,b,Nat.and_two_pow_sub_one_eq_mod]
 show IntKind.u64.wrap ((BitVec.ofInt 64 (n:Int) &&& BitVec.ofInt 64 1).toNat:Int)=_
 rw[e,qS (by omega) (by omega)];omega
theorem ku{x k:Int}(n:Nat)(hk:k=n)(hn:n≤64):bT .u64 x k=x / 2^n:=by
 subst hk
 rw[bT]
 have e:min (Int.toNat (n:Int)) IntKind.u64.bits=n:=by simp only[IntKind.bits];omega
 rw[e,Int.fdiv_eq_ediv_of_nonneg _ (Int.le_of_lt (Int.pow_pos (by omega)))]
theorem kr{x k:Int}(n:Nat)(hk:k=n)(hn:n≤64):gN .u64 x k=x*2^n%18446744073709551616:=by
 subst hk
 rw[gN,qR]
 have e:min (Int.toNat (n:Int)) IntKind.u64.bits=n:=by simp only[IntKind.bits];omega
 rw[e]
theorem qs{x y:Int}(k:Nat)(m:Int)(hm:m=2^k)(hx:x%m=0)(h0:0≤x)(h1:x < 18446744073709551616)(hy:0≤y)(hy2:y < m)(h2:x+y < 18446744073709551616):ct .or .u64 x y=x+y:=by
 subst hm
 obtain⟨n,rfl⟩:∃n:Nat,x=n:=⟨x.toNat,by omega⟩
 obtain⟨j,rfl⟩:∃j:Nat,y=j:=⟨y.toNat,by omega⟩
 have hx:n%2^k=0:=by
  have:((n%2^k:Nat):Int)=0:=by rw[Int.natCast_emod];simpa using hx
  omega
 have hj:j < 2^k:=by
  have:((j:Nat):Int) < ((2^k:Nat):Int):=by simpa using hy2
  omega
 obtain⟨q,rfl⟩:∃q,n=2^k*q:=⟨n / 2^k,by have:=Nat.div_add_mod n (2^k);omega⟩
 have e:(BitVec.ofInt 64 ((2^k*q:Nat):Int) ||| BitVec.ofInt 64 (j:Int)).toNat=2^k*q+j:=by
  rw[BitVec.toNat_or]
  have a:(BitVec.ofInt 64 ((2^k*q:Nat):Int)).toNat=2^k*q:=by rw[BitVec.ofInt_natCast,BitVec.toNat_ofNat];exact Nat.mod_eq_of_lt (by omega)
  have b:(BitVec.ofInt 64 (j:Int)).toNat=j:=by rw[BitVec.ofInt_natCast,BitVec.toNat_ofNat];exact Nat.mod_eq_of_lt (by omega)
  rw[a,b,Nat.two_pow_add_eq_or_of_lt hj]
 show IntKind.u64.wrap ((BitVec.ofInt 64 ((2^k*q:Nat):Int) ||| BitVec.ofInt 64 (j:Int)).toNat:Int)=_
 rw[e,qS (by omega) (by omega)];omega
theorem AP{x y:Int}(h:0≤x)(h1:0≤y)(h2:x < 18446744073709551616):lQ .u64 x y=x / y:=by
 rw[lQ,Int.tdiv_eq_ediv_of_nonneg h]
 exact qS (Int.ediv_nonneg h h1) (Int.lt_of_le_of_lt (Int.ediv_le_self _ h) h2)
theorem oL{x y:Int}(h:0≤x):jD x y=x%y:=by rw[jD,Int.tmod_eq_emod_of_nonneg h]
theorem k1{e u w r q:Int}(he:e=42260∨e=42264∨e=42272)(hu:0≤u)(hu2:u < 18446744073709551616 - e)(hw:0≤w)(hw2:w < 4294967296)(hr:0≤r)(hr2:r < 4294967296)
  (hq:q*4294967295+r=u) (hQ:(u*4294967296+w) / (18446744073709551616 - e)≤q):
  (4294967296≤q→(u*4294967296+w) / (18446744073709551616 - e)≤q - 1)∧
  (q < 4294967296→4294967296*r+w < q*(4294967296 - e)→(u*4294967296+w) / (18446744073709551616 - e)≤q - 1)∧
  (q < 4294967296→q*(4294967296 - e)≤4294967296*r+w→(u*4294967296+w) / (18446744073709551616 - e)=q)∧
  (4294967296≤r+4294967295→(u*4294967296+w) / (18446744073709551616 - e)≤q - 1→(u*4294967296+w) / (18446744073709551616 - e)=q - 1)∧0≤(u*4294967296+w) / (18446744073709551616 - e)∧q≤4294967297:=by
 rcases he with rfl | rfl | rfl
 ·refine⟨?_,?_,?_,?_,?_,?_⟩ <;> omega
 ·refine⟨?_,?_,?_,?_,?_,?_⟩ <;> omega
 ·refine⟨?_,?_,?_,?_,?_,?_⟩ <;> omega
theorem k0{e u w:Int}(he:e=42260∨e=42264∨e=42272)(hu:0≤u)(hu2:u < 18446744073709551616 - e)(hw:0≤w)(hw2:w < 4294967296):
  (u*4294967296+w) / (18446744073709551616 - e)≤u / 4294967295∧0≤u - u / 4294967295*4294967295∧u - u / 4294967295*4294967295 < 4294967296∧
  (u*4294967296+w) - (u*4294967296+w) / (18446744073709551616 - e)*(18446744073709551616 - e)=(u*4294967296+w)%(18446744073709551616 - e)∧
  0≤(u*4294967296+w)%(18446744073709551616 - e)∧(u*4294967296+w)%(18446744073709551616 - e) < 18446744073709551616 - e∧
  0≤(u*4294967296+w) / (18446744073709551616 - e)∧(u*4294967296+w) / (18446744073709551616 - e) < 4294967296:=by
 rcases he with rfl | rfl | rfl
 ·refine⟨?_,?_,?_,?_,?_,?_,?_,?_⟩ <;> omega
 ·refine⟨?_,?_,?_,?_,?_,?_,?_,?_⟩ <;> omega
 ·refine⟨?_,?_,?_,?_,?_,?_,?_,?_⟩ <;> omega
theorem kd(Y u w1 w0:Int)(hY:0 < Y)(h0:0≤w0)(h1:w0 < 4294967296):
  ((u*4294967296+w1)*4294967296+w0) / Y=(u*4294967296+w1) / Y*4294967296+((u*4294967296+w1)%Y*4294967296+w0) / Y∧
  ((u*4294967296+w1)*4294967296+w0)%Y=((u*4294967296+w1)%Y*4294967296+w0)%Y:=by
 generalize u*4294967296+w1=n
 have e:n*4294967296+w0=(n%Y*4294967296+w0)+Y*(n / Y*4294967296):=by
  have:=Int.emod_add_mul_ediv n Y
  have h:Y*(n / Y*4294967296)=(Y*(n / Y))*4294967296:=by rw[Int.mul_assoc]
  rw[h];omega
 rw[e,Int.add_mul_ediv_left _ _ (by omega),Int.add_mul_emod_self_left]
 exact⟨by omega,rfl⟩
abbrev dM.D:=Int
def dM.st:dM.D→SA:=fun x=>([.d tu x],[])
abbrev dM.Y:=Int
abbrev dM.X:=Int
def dM.out:dM.X→bg:=fun x=>⟨.d ti x,[],[]⟩
def dM.add:dM.D→dM.Y→dM.X:=fun x y=>y
def Hr(y:Int):Prop:=y=4611686018427377339∨y=2305843009213688669∨y=2305843009213688668
def dM.aB:dM.D→Prop:=Hr
def dM.F:dM.D→dM.Y:=fun y=>if y=4611686018427377339 then 62 else 61
noncomputable def dM.G:dY:=fg (P:=Tryz.prog) []
noncomputable def dM.an:eI:= {}
noncomputable def dM.A:= @cY Tryz.prog dM.G dM.an 0 Tryz.f215 _ dM.st
abbrev dM.Ok:=cZ @dM.A dM.aB dM.add dM.F dM.out
theorem dM.eq{R:Type}(x:Int)(k:bg→Option R):dM.A x k=
  aK ((oc x (4294967296:Int))) (
   aK ((oc (bT .u64 x (32:Int)) (65536:Int))) (
    aK ((oc (bT .u64 (bT .u64 x (32:Int)) (16:Int)) (256:Int))) (
     aK (eH (dJ .u8 (bT .u64 (bT .u64 (bT .u64 x (32:Int)) (16:Int)) (8:Int))) (256:Int)) (
     k (dM.out (bR .i64 (56:Int) (dJ .i64 (yR (⟨#[0,1,2,2,3,3,3,3,4,4,4,4,4,4,4,4,5,5,5,5,5,5,5,5,5,5,5,5,5,5,5,5,6,6,6,6,6,6,6,6,6,6,6,6,6,6,6,6,6,6,6,6,6,6,6,6,6,6,6,6,6,6,6,6,7,7,7,7,7,7,7,7,7,7,7,7,7,7,7,7,7,7,7,7,7,7,7,7,7,7,7,7,7,7,7,7,7,7,7,7,7,7,7,7,7,7,7,7,7,7,7,7,7,7,7,7,7,7,7,7,7,7,7,7,7,7,7,7,8,8,8,8,8,8,8,8,8,8,8,8,8,8,8,8,8,8,8,8,8,8,8,8,8,8,8,8,8,8,8,8,8,8,8,8,8,8,8,8,8,8,8,8,8,8,8,8,8,8,8,8,8,8,8,8,8,8,8,8,8,8,8,8,8,8,8,8,8,8,8,8,8,8,8,8,8,8,8,8,8,8,8,8,8,8,8,8,8,8,8,8,8,8,8,8,8,8,8,8,8,8,8,8,8,8,8,8,8,8,8,8,8,8,8,8,8,8,8,8,8,8,8,8,8,8,8,8]⟩:ByteArray) (dJ .u8 (bT .u64 (bT .u64 (bT .u64 x (32:Int)) (16:Int)) (8:Int)))))))) none) (
     aK (eH (dJ .u8 (bT .u64 (bT .u64 x (32:Int)) (16:Int))) (256:Int)) (
     k (dM.out (bR .i64 (48:Int) (dJ .i64 (yR (⟨#[0,1,2,2,3,3,3,3,4,4,4,4,4,4,4,4,5,5,5,5,5,5,5,5,5,5,5,5,5,5,5,5,6,6,6,6,6,6,6,6,6,6,6,6,6,6,6,6,6,6,6,6,6,6,6,6,6,6,6,6,6,6,6,6,7,7,7,7,7,7,7,7,7,7,7,7,7,7,7,7,7,7,7,7,7,7,7,7,7,7,7,7,7,7,7,7,7,7,7,7,7,7,7,7,7,7,7,7,7,7,7,7,7,7,7,7,7,7,7,7,7,7,7,7,7,7,7,7,8,8,8,8,8,8,8,8,8,8,8,8,8,8,8,8,8,8,8,8,8,8,8,8,8,8,8,8,8,8,8,8,8,8,8,8,8,8,8,8,8,8,8,8,8,8,8,8,8,8,8,8,8,8,8,8,8,8,8,8,8,8,8,8,8,8,8,8,8,8,8,8,8,8,8,8,8,8,8,8,8,8,8,8,8,8,8,8,8,8,8,8,8,8,8,8,8,8,8,8,8,8,8,8,8,8,8,8,8,8,8,8,8,8,8,8,8,8,8,8,8,8,8,8,8,8,8,8]⟩:ByteArray) (dJ .u8 (bT .u64 (bT .u64 x (32:Int)) (16:Int)))))))) none)) (
    aK ((oc (bT .u64 x (32:Int)) (256:Int))) (
     aK (eH (dJ .u8 (bT .u64 (bT .u64 x (32:Int)) (8:Int))) (256:Int)) (
     k (dM.out (bR .i64 (40:Int) (dJ .i64 (yR (⟨#[0,1,2,2,3,3,3,3,4,4,4,4,4,4,4,4,5,5,5,5,5,5,5,5,5,5,5,5,5,5,5,5,6,6,6,6,6,6,6,6,6,6,6,6,6,6,6,6,6,6,6,6,6,6,6,6,6,6,6,6,6,6,6,6,7,7,7,7,7,7,7,7,7,7,7,7,7,7,7,7,7,7,7,7,7,7,7,7,7,7,7,7,7,7,7,7,7,7,7,7,7,7,7,7,7,7,7,7,7,7,7,7,7,7,7,7,7,7,7,7,7,7,7,7,7,7,7,7,8,8,8,8,8,8,8,8,8,8,8,8,8,8,8,8,8,8,8,8,8,8,8,8,8,8,8,8,8,8,8,8,8,8,8,8,8,8,8,8,8,8,8,8,8,8,8,8,8,8,8,8,8,8,8,8,8,8,8,8,8,8,8,8,8,8,8,8,8,8,8,8,8,8,8,8,8,8,8,8,8,8,8,8,8,8,8,8,8,8,8,8,8,8,8,8,8,8,8,8,8,8,8,8,8,8,8,8,8,8,8,8,8,8,8,8,8,8,8,8,8,8,8,8,8,8,8,8]⟩:ByteArray) (dJ .u8 (bT .u64 (bT .u64 x (32:Int)) (8:Int)))))))) none) (
     aK (eH (dJ .u8 (bT .u64 x (32:Int))) (256:Int)) (
     k (dM.out (bR .i64 (32:Int) (dJ .i64 (yR (⟨#[0,1,2,2,3,3,3,3,4,4,4,4,4,4,4,4,5,5,5,5,5,5,5,5,5,5,5,5,5,5,5,5,6,6,6,6,6,6,6,6,6,6,6,6,6,6,6,6,6,6,6,6,6,6,6,6,6,6,6,6,6,6,6,6,7,7,7,7,7,7,7,7,7,7,7,7,7,7,7,7,7,7,7,7,7,7,7,7,7,7,7,7,7,7,7,7,7,7,7,7,7,7,7,7,7,7,7,7,7,7,7,7,7,7,7,7,7,7,7,7,7,7,7,7,7,7,7,7,8,8,8,8,8,8,8,8,8,8,8,8,8,8,8,8,8,8,8,8,8,8,8,8,8,8,8,8,8,8,8,8,8,8,8,8,8,8,8,8,8,8,8,8,8,8,8,8,8,8,8,8,8,8,8,8,8,8,8,8,8,8,8,8,8,8,8,8,8,8,8,8,8,8,8,8,8,8,8,8,8,8,8,8,8,8,8,8,8,8,8,8,8,8,8,8,8,8,8,8,8,8,8,8,8,8,8,8,8,8,8,8,8,8,8,8,8,8,8,8,8,8,8,8,8,8,8,8]⟩:ByteArray) (dJ .u8 (bT .u64 x (32:Int)))))))) none))) (
   aK ((oc x (65536:Int))) (
    aK ((oc (bT .u64 x (16:Int)) (256:Int))) (
     aK (eH (dJ .u8 (bT .u64 (bT .u64 x (16:Int)) (8:Int))) (256:Int)) (
     k (dM.out (bR .i64 (24:Int) (dJ .i64 (yR (⟨#[0,1,2,2,3,3,3,3,4,4,4,4,4,4,4,4,5,5,5,5,5,5,5,5,5,5,5,5,5,5,5,5,6,6,6,6,6,6,6,6,6,6,6,6,6,6,6,6,6,6,6,6,6,6,6,6,6,6,6,6,6,6,6,6,7,7,7,7,7,7,7,7,7,7,7,7,7,7,7,7,7,7,7,7,7,7,7,7,7,7,7,7,7,7,7,7,7,7,7,7,7,7,7,7,7,7,7,7,7,7,7,7,7,7,7,7,7,7,7,7,7,7,7,7,7,7,7,7,8,8,8,8,8,8,8,8,8,8,8,8,8,8,8,8,8,8,8,8,8,8,8,8,8,8,8,8,8,8,8,8,8,8,8,8,8,8,8,8,8,8,8,8,8,8,8,8,8,8,8,8,8,8,8,8,8,8,8,8,8,8,8,8,8,8,8,8,8,8,8,8,8,8,8,8,8,8,8,8,8,8,8,8,8,8,8,8,8,8,8,8,8,8,8,8,8,8,8,8,8,8,8,8,8,8,8,8,8,8,8,8,8,8,8,8,8,8,8,8,8,8,8,8,8,8,8,8]⟩:ByteArray) (dJ .u8 (bT .u64 (bT .u64 x (16:Int)) (8:Int)))))))) none) (
     aK (eH (dJ .u8 (bT .u64 x (16:Int))) (256:Int)) (
     k (dM.out (bR .i64 (16:Int) (dJ .i64 (yR (⟨#[0,1,2,2,3,3,3,3,4,4,4,4,4,4,4,4,5,5,5,5,5,5,5,5,5,5,5,5,5,5,5,5,6,6,6,6,6,6,6,6,6,6,6,6,6,6,6,6,6,6,6,6,6,6,6,6,6,6,6,6,6,6,6,6,7,7,7,7,7,7,7,7,7,7,7,7,7,7,7,7,7,7,7,7,7,7,7,7,7,7,7,7,7,7,7,7,7,7,7,7,7,7,7,7,7,7,7,7,7,7,7,7,7,7,7,7,7,7,7,7,7,7,7,7,7,7,7,7,8,8,8,8,8,8,8,8,8,8,8,8,8,8,8,8,8,8,8,8,8,8,8,8,8,8,8,8,8,8,8,8,8,8,8,8,8,8,8,8,8,8,8,8,8,8,8,8,8,8,8,8,8,8,8,8,8,8,8,8,8,8,8,8,8,8,8,8,8,8,8,8,8,8,8,8,8,8,8,8,8,8,8,8,8,8,8,8,8,8,8,8,8,8,8,8,8,8,8,8,8,8,8,8,8,8,8,8,8,8,8,8,8,8,8,8,8,8,8,8,8,8,8,8,8,8,8,8]⟩:ByteArray) (dJ .u8 (bT .u64 x (16:Int)))))))) none)) (
    aK ((oc x (256:Int))) (
     aK (eH (dJ .u8 (bT .u64 x (8:Int))) (256:Int)) (
     k (dM.out (bR .i64 (8:Int) (dJ .i64 (yR (⟨#[0,1,2,2,3,3,3,3,4,4,4,4,4,4,4,4,5,5,5,5,5,5,5,5,5,5,5,5,5,5,5,5,6,6,6,6,6,6,6,6,6,6,6,6,6,6,6,6,6,6,6,6,6,6,6,6,6,6,6,6,6,6,6,6,7,7,7,7,7,7,7,7,7,7,7,7,7,7,7,7,7,7,7,7,7,7,7,7,7,7,7,7,7,7,7,7,7,7,7,7,7,7,7,7,7,7,7,7,7,7,7,7,7,7,7,7,7,7,7,7,7,7,7,7,7,7,7,7,8,8,8,8,8,8,8,8,8,8,8,8,8,8,8,8,8,8,8,8,8,8,8,8,8,8,8,8,8,8,8,8,8,8,8,8,8,8,8,8,8,8,8,8,8,8,8,8,8,8,8,8,8,8,8,8,8,8,8,8,8,8,8,8,8,8,8,8,8,8,8,8,8,8,8,8,8,8,8,8,8,8,8,8,8,8,8,8,8,8,8,8,8,8,8,8,8,8,8,8,8,8,8,8,8,8,8,8,8,8,8,8,8,8,8,8,8,8,8,8,8,8,8,8,8,8,8,8]⟩:ByteArray) (dJ .u8 (bT .u64 x (8:Int)))))))) none) (
     aK (eH (dJ .u8 x) (256:Int)) (
     k (dM.out (bR .i64 (0:Int) (dJ .i64 (yR (⟨#[0,1,2,2,3,3,3,3,4,4,4,4,4,4,4,4,5,5,5,5,5,5,5,5,5,5,5,5,5,5,5,5,6,6,6,6,6,6,6,6,6,6,6,6,6,6,6,6,6,6,6,6,6,6,6,6,6,6,6,6,6,6,6,6,7,7,7,7,7,7,7,7,7,7,7,7,7,7,7,7,7,7,7,7,7,7,7,7,7,7,7,7,7,7,7,7,7,7,7,7,7,7,7,7,7,7,7,7,7,7,7,7,7,7,7,7,7,7,7,7,7,7,7,7,7,7,7,7,8,8,8,8,8,8,8,8,8,8,8,8,8,8,8,8,8,8,8,8,8,8,8,8,8,8,8,8,8,8,8,8,8,8,8,8,8,8,8,8,8,8,8,8,8,8,8,8,8,8,8,8,8,8,8,8,8,8,8,8,8,8,8,8,8,8,8,8,8,8,8,8,8,8,8,8,8,8,8,8,8,8,8,8,8,8,8,8,8,8,8,8,8,8,8,8,8,8,8,8,8,8,8,8,8,8,8,8,8,8,8,8,8,8,8,8,8,8,8,8,8,8,8,8,8,8,8,8]⟩:ByteArray) (dJ .u8 x)))))) none))):=by kernel_rfl
theorem dM.ok:dM.Ok:=by
 intro y h
 rw[dM.eq]
 obtain rfl | rfl | rfl:=h <;> kernel_rfl
noncomputable def dM.E:=Entry.cC [some tu] dM.st dM.aB dM.add dM.F dM.out
noncomputable def dM.call:dM.D→Option dM.X:=bS dM.E dM.st
theorem dM.run:bM dM.call dM.aB dM.add dM.F:=dh (dd [.d tu] fun _=>by kernel_rfl)
noncomputable def dM.sg:SG Tryz.prog:=⟨215,aX,dM.E,.fn 0 (by kernel_rfl) dM.ok trivial⟩
abbrev fD.D:=Int
def fD.st:fD.D→SA:=fun x=>([.d tu x],[])
abbrev fD.Y:=Int
abbrev fD.X:=Int
def fD.out:fD.X→bg:=fun x=>⟨.d ti x,[],[]⟩
def fD.add:fD.D→fD.Y→fD.X:=fun x y=>y
def fD.aB:fD.D→Prop:=Hr
def fD.F:fD.D→fD.Y:=fun y=>if y=4611686018427377339 then 2 else 3
noncomputable def fD.G:dY:=fg (P:=Tryz.prog) [dM.sg]
noncomputable def fD.an:eI:= {}
noncomputable def fD.A:= @cY Tryz.prog fD.G fD.an 0 Tryz.f276 _ fD.st
abbrev fD.Ok:=cZ @fD.A fD.aB fD.add fD.F fD.out
theorem fD.eq{R:Type}(x:Int)(k:bg→Option R):fD.A x k=
 al (dM.call x) fun x1=>
 k (fD.out (cQ .i64 (64:Int) x1)):=by kernel_rfl
theorem fD.ok:fD.Ok:=by
 intro y h
 rw[fD.eq,dM.run (d:=y) h]
 obtain rfl | rfl | rfl:=h <;> rfl
noncomputable def fD.E:=Entry.cC [some tu] fD.st fD.aB fD.add fD.F fD.out
noncomputable def fD.call:fD.D→Option fD.X:=bS fD.E fD.st
theorem fD.run:bM fD.call fD.aB fD.add fD.F:=dh (dd [.d tu] fun _=>by kernel_rfl)
noncomputable def fD.sg:SG Tryz.prog:=⟨276,aX,fD.E,.fn 0 (by kernel_rfl) fD.ok trivial⟩
set_option synthInstance.maxSize 5000
abbrev aQ.L0.D:=Int×Int×Int×Int×Int×Int×Int×Int×Int
def aQ.L0.st:aQ.L0.D→AS:=fun(yv_2,sv,yn1,yn0,un32,un1,un0,q1,rhat)=>⟨([.undef,.undef,.d tu yv_2]++bh 5 ([.d tu sv,.d tu yn1,.d tu yn0,.d tu un32,.undef,.d tu un1,.d tu un0,.d tu q1,.d tu rhat]++bh 118 [])),[],(List.replicate 135 [])⟩
abbrev aQ.L0.Y0:=Int
abbrev aQ.L0.X0:=(Int×Int×Int×Int×Int×Int×Int)×(Int)
def aQ.L0.bw:aQ.L0.X0→Exit×AS:=fun x=>(.exit 0,⟨([.undef,.undef,.d tu x.1.1]++bh 5 ([.d tu x.1.2.1,.d tu x.1.2.2.1,.d tu x.1.2.2.2.1,.d tu x.1.2.2.2.2.1,.undef,.d tu x.1.2.2.2.2.2.1,.d tu x.1.2.2.2.2.2.2,.d tu x.2]++bh 119 [])),[],(List.replicate 135 [])⟩)
abbrev aQ.L0.X:=aQ.L0.X0
abbrev aQ.L0.Y:=aQ.L0.Y0
def aQ.L0.out:aQ.L0.X→Out (Exit×AS):=fun x=> .ok (aQ.L0.bw x)
def aQ.L0.add:aQ.L0.D→aQ.L0.Y→aQ.L0.X:=fun(yv_2,sv,yn1,yn0,un32,un1,un0,q1,rhat) y=>((yv_2,sv,yn1,yn0,un32,un1,un0),y)
abbrev aQ.L1.D:=Int×Int×Int×Int×Int×Int×Int×Int×Int
def aQ.L1.st:aQ.L1.D→AS:=fun(yv_3,sv_2,yn1_2,yn0_2,un0_2,q1_2,rhat_2,un21,q0)=>⟨([.undef,.undef,.d tu yv_3]++bh 5 ([.d tu sv_2,.d tu yn1_2,.d tu yn0_2,.undef,.undef,.undef,.d tu un0_2,.d tu q1_2,.d tu rhat_2,.d tu un21,.d tu q0]++bh 116 [])),[],(List.replicate 135 [])⟩
abbrev aQ.L1.Y0:=Int
abbrev aQ.L1.X0:=(Int×Int×Int×Int×Int)×(Int)
def aQ.L1.bw:aQ.L1.X0→Exit×AS:=fun x=>(.exit 2,⟨([.undef,.undef,.d tu x.1.1]++bh 5 ([.d tu x.1.2.1]++bh 5 ([.d tu x.1.2.2.1,.d tu x.1.2.2.2.1,.undef,.d tu x.1.2.2.2.2,.d tu x.2]++bh 116 []))),[],(List.replicate 135 [])⟩)
abbrev aQ.L1.X:=aQ.L1.X0
abbrev aQ.L1.Y:=aQ.L1.Y0
def aQ.L1.out:aQ.L1.X→Out (Exit×AS):=fun x=> .ok (aQ.L1.bw x)
def aQ.L1.add:aQ.L1.D→aQ.L1.Y→aQ.L1.X:=fun(yv_3,sv_2,yn1_2,yn0_2,un0_2,q1_2,rhat_2,un21,q0) y=>((yv_3,sv_2,un0_2,q1_2,un21),y)
abbrev aQ.D:=Int×Int×Int
def aQ.st:aQ.D→SA:=fun(hi,lo,yv)=>([.d tu hi,.d tu lo,.d tu yv],[])
abbrev aQ.Y:=Int×Int
abbrev aQ.X:=Int×Int
def aQ.out:aQ.X→bg:=fun x=>⟨.cons (.d tu x.1) (.cons (.d tu x.2) (.nil)),[],[]⟩
def aQ.add:aQ.D→aQ.Y→aQ.X:=fun(hi,lo,yv) y=>y
def aQ.L0.aB:aQ.L0.D→Prop:=fun(y,sv,yn1,yn0,u,w,un0,q,r)=>∃e:Int,(e=42260∨e=42264∨e=42272)∧y=18446744073709551616 - e∧yn1=4294967295∧yn0=4294967296 - e∧0≤u∧u < 18446744073709551616 - e∧0≤w∧w < 4294967296∧0≤r∧r < 4294967296∧q*4294967295+r=u∧(u*4294967296+w) / (18446744073709551616 - e)≤q
def aQ.L0.F:aQ.L0.D→aQ.L0.Y:=fun(y,sv,yn1,yn0,u,w,un0,q,r)=>(u*4294967296+w) / y
def aQ.L1.aB:aQ.L1.D→Prop:=fun(y,sv,yn1,yn0,w,q1,r,u,q)=>∃e:Int,(e=42260∨e=42264∨e=42272)∧y=18446744073709551616 - e∧yn1=4294967295∧yn0=4294967296 - e∧0≤u∧u < 18446744073709551616 - e∧0≤w∧w < 4294967296∧0≤r∧r < 4294967296∧q*4294967295+r=u∧(u*4294967296+w) / (18446744073709551616 - e)≤q
def aQ.L1.F:aQ.L1.D→aQ.L1.Y:=fun(y,sv,yn1,yn0,w,q1,r,u,q)=>(u*4294967296+w) / y
def aQ.aB:aQ.D→Prop:=fun(hi,lo,y)=>Hr y∧0≤hi∧hi < y∧0≤lo∧lo < 18446744073709551616
def aQ.F:aQ.D→aQ.Y:=fun(hi,lo,y)=>((hi*18446744073709551616+lo) / y,(hi*18446744073709551616+lo)%y)
noncomputable def aQ.G:dY:=fg (P:=Tryz.prog) [fD.sg]
noncomputable def aQ.L0.E:=bQ.cC aQ.L0.st aQ.L0.aB aQ.L0.add aQ.L0.F aQ.L0.out
noncomputable def aQ.L0.call:aQ.L0.D→Option aQ.L0.X:=dm aQ.L0.E aQ.L0.st
noncomputable def aQ.L1.E:=bQ.cC aQ.L1.st aQ.L1.aB aQ.L1.add aQ.L1.F aQ.L1.out
noncomputable def aQ.L1.call:aQ.L1.D→Option aQ.L1.X:=dm aQ.L1.E aQ.L1.st
noncomputable def aQ.an:eI:= {loops:=j4 [(17,{bm:=[2,8,9,10,11,13,14,15,16]}),(24,{bm:=[2,8,9,10,14,15,16,17,18]})],outs:=j3 [(17,{bm:=[2,8,9,10,11,13,14,15]},{bm:=[6,7]}),(24,{bm:=[2,8,14,15,17,18]},{bm:=[6,7]})],fJ:=kT [(17,aQ.L0.E),(24,aQ.L1.E)]}
noncomputable def aQ.A:= @cY Tryz.prog aQ.G aQ.an 0 Tryz.f237 _ aQ.st
abbrev aQ.Ok:=cZ @aQ.A aQ.aB aQ.add aQ.F aQ.out
noncomputable def aQ.L0.R:= @bV Tryz.prog aQ.G aQ.an 0 Tryz.f237 0 _ aQ.L0.st
abbrev aQ.L0.Ok:=ez Tryz.prog aQ.G aQ.an 0 Tryz.f237 0 aQ.L0.st aQ.L0.aB aQ.L0.add aQ.L0.F aQ.L0.out
noncomputable def aQ.L1.R:= @bV Tryz.prog aQ.G aQ.an 0 Tryz.f237 1 _ aQ.L1.st
abbrev aQ.L1.Ok:=ez Tryz.prog aQ.G aQ.an 0 Tryz.f237 1 aQ.L1.st aQ.L1.aB aQ.L1.add aQ.L1.F aQ.L1.out
theorem aQ.L0.run:bM aQ.L0.call aQ.L0.aB aQ.L0.add aQ.L0.F:=eF (eD [.d tu,.d tu,.d tu,.d tu,.d tu,.d tu,.d tu,.d tu,.d tu] fun _=>by kernel_rfl)
theorem aQ.L0.aD:fP @aQ.L0.R aQ.L0.st aQ.L0.aB aQ.L0.add aQ.L0.F aQ.L0.bw aQ.L0.Ok:=fR
theorem aQ.L0.step{R:Type}(yv_2:Int)(sv:Int)(yn1:Int)(yn0:Int)(un32:Int)(un1:Int)(un0:Int)(q1:Int)(rhat:Int)(kn:AS→Option R)(kx:Exit→AS→Option R):aQ.L0.R (yv_2,sv,yn1,yn0,un32,un1,un0,q1,rhat) kn kx=
  aK ((oc q1 (4294967296:Int))) (
   aK ((oc (bR .u64 rhat yn1) (4294967296:Int))) (
    kx (aQ.L0.bw ((yv_2,sv,yn1,yn0,un32,un1,un0),(cQ .u64 q1 (1:Int)))).1 (aQ.L0.bw ((yv_2,sv,yn1,yn0,un32,un1,un0),(cQ .u64 q1 (1:Int)))).2) (
    kn (aQ.L0.st (yv_2,sv,yn1,yn0,un32,un1,un0,(cQ .u64 q1 (1:Int)),(bR .u64 rhat yn1))))) (
   aK ((mJ (fe .u64 q1 yn0) (bR .u64 (fe .u64 (4294967296:Int) rhat) un1))) (
    aK ((oc (bR .u64 rhat yn1) (4294967296:Int))) (
     kx (aQ.L0.bw ((yv_2,sv,yn1,yn0,un32,un1,un0),(cQ .u64 q1 (1:Int)))).1 (aQ.L0.bw ((yv_2,sv,yn1,yn0,un32,un1,un0),(cQ .u64 q1 (1:Int)))).2) (
     kn (aQ.L0.st (yv_2,sv,yn1,yn0,un32,un1,un0,(cQ .u64 q1 (1:Int)),(bR .u64 rhat yn1))))) (
    kx (aQ.L0.bw ((yv_2,sv,yn1,yn0,un32,un1,un0),q1)).1 (aQ.L0.bw ((yv_2,sv,yn1,yn0,un32,un1,un0),q1)).2)):=by kernel_rfl
theorem aQ.L1.run:bM aQ.L1.call aQ.L1.aB aQ.L1.add aQ.L1.F:=eF (eD [.d tu,.d tu,.d tu,.d tu,.d tu,.d tu,.d tu,.d tu,.d tu] fun _=>by kernel_rfl)
theorem aQ.L1.aD:fP @aQ.L1.R aQ.L1.st aQ.L1.aB aQ.L1.add aQ.L1.F aQ.L1.bw aQ.L1.Ok:=fR
theorem aQ.L1.step{R:Type}(yv_3:Int)(sv_2:Int)(yn1_2:Int)(yn0_2:Int)(un0_2:Int)(q1_2:Int)(rhat_2:Int)(un21:Int)(q0:Int)(kn:AS→Option R)(kx:Exit→AS→Option R):aQ.L1.R (yv_3,sv_2,yn1_2,yn0_2,un0_2,q1_2,rhat_2,un21,q0) kn kx=
  aK ((oc q0 (4294967296:Int))) (
   aK ((oc (bR .u64 rhat_2 yn1_2) (4294967296:Int))) (
    kx (aQ.L1.bw ((yv_3,sv_2,un0_2,q1_2,un21),(cQ .u64 q0 (1:Int)))).1 (aQ.L1.bw ((yv_3,sv_2,un0_2,q1_2,un21),(cQ .u64 q0 (1:Int)))).2) (
    kn (aQ.L1.st (yv_3,sv_2,yn1_2,yn0_2,un0_2,q1_2,(bR .u64 rhat_2 yn1_2),un21,(cQ .u64 q0 (1:Int)))))) (
   aK ((mJ (fe .u64 q0 yn0_2) (bR .u64 (fe .u64 (4294967296:Int) rhat_2) un0_2))) (
    aK ((oc (bR .u64 rhat_2 yn1_2) (4294967296:Int))) (
     kx (aQ.L1.bw ((yv_3,sv_2,un0_2,q1_2,un21),(cQ .u64 q0 (1:Int)))).1 (aQ.L1.bw ((yv_3,sv_2,un0_2,q1_2,un21),(cQ .u64 q0 (1:Int)))).2) (
     kn (aQ.L1.st (yv_3,sv_2,yn1_2,yn0_2,un0_2,q1_2,(bR .u64 rhat_2 yn1_2),un21,(cQ .u64 q0 (1:Int)))))) (
    kx (aQ.L1.bw ((yv_3,sv_2,un0_2,q1_2,un21),q0)).1 (aQ.L1.bw ((yv_3,sv_2,un0_2,q1_2,un21),q0)).2)):=by kernel_rfl
theorem aQ.eq{R:Type}(hi:Int)(lo:Int)(yv:Int)(k:bg→Option R):aQ.A (hi,lo,yv) k=
  aK ((jy yv (0:Int))) (
   none) (
   aK ((BI yv hi)) (
    none) (
    aK ((jy hi (0:Int))) (
     aK (ji yv) (
     aK (ji yv) (
     k (aQ.out ((lQ .u64 lo yv),(jD lo yv)))) none) none) (
     al (fD.call yv) fun x1=>
     aK (hP (dJ .u64 x1)) (
     aK (hP (dJ .u64 x1)) (
     aK (hP (cQ .u64 (64:Int) (dJ .u64 x1))) (
     aK (hP (dJ .u64 x1)) (
     aK (ji (bT .u64 (gN .u64 yv (dJ .u64 x1)) (32:Int))) (
     al (aQ.L0.call ((gN .u64 yv (dJ .u64 x1)),(dJ .u64 x1),(bT .u64 (gN .u64 yv (dJ .u64 x1)) (32:Int)),(ct .and .u64 (gN .u64 yv (dJ .u64 x1)) (4294967295:Int)),(ct .or .u64 (gN .u64 hi (dJ .u64 x1)) (bT .u64 lo (cQ .u64 (64:Int) (dJ .u64 x1)))),(bT .u64 (gN .u64 lo (dJ .u64 x1)) (32:Int)),(ct .and .u64 (gN .u64 lo (dJ .u64 x1)) (4294967295:Int)),(lQ .u64 (ct .or .u64 (gN .u64 hi (dJ .u64 x1)) (bT .u64 lo (cQ .u64 (64:Int) (dJ .u64 x1)))) (bT .u64 (gN .u64 yv (dJ .u64 x1)) (32:Int))),(cQ .u64 (ct .or .u64 (gN .u64 hi (dJ .u64 x1)) (bT .u64 lo (cQ .u64 (64:Int) (dJ .u64 x1)))) (fe .u64 (lQ .u64 (ct .or .u64 (gN .u64 hi (dJ .u64 x1)) (bT .u64 lo (cQ .u64 (64:Int) (dJ .u64 x1)))) (bT .u64 (gN .u64 yv (dJ .u64 x1)) (32:Int))) (bT .u64 (gN .u64 yv (dJ .u64 x1)) (32:Int)))))) fun x2=>
     aK (ji x2.1.2.2.1) (
     al (aQ.L1.call (x2.1.1,x2.1.2.1,x2.1.2.2.1,x2.1.2.2.2.1,x2.1.2.2.2.2.2.2,x2.2,(cQ .u64 (cQ .u64 (bR .u64 (fe .u64 x2.1.2.2.2.2.1 (4294967296:Int)) x2.1.2.2.2.2.2.1) (fe .u64 x2.2 x2.1.1)) (fe .u64 (lQ .u64 (cQ .u64 (bR .u64 (fe .u64 x2.1.2.2.2.2.1 (4294967296:Int)) x2.1.2.2.2.2.2.1) (fe .u64 x2.2 x2.1.1)) x2.1.2.2.1) x2.1.2.2.1)),(cQ .u64 (bR .u64 (fe .u64 x2.1.2.2.2.2.1 (4294967296:Int)) x2.1.2.2.2.2.2.1) (fe .u64 x2.2 x2.1.1)),(lQ .u64 (cQ .u64 (bR .u64 (fe .u64 x2.1.2.2.2.2.1 (4294967296:Int)) x2.1.2.2.2.2.2.1) (fe .u64 x2.2 x2.1.1)) x2.1.2.2.1))) fun x3=>
     aK (hP x3.1.2.1) (
     k (aQ.out ((bR .u64 (fe .u64 x3.1.2.2.2.1 (4294967296:Int)) x3.2),(bT .u64 (cQ .u64 (bR .u64 (fe .u64 x3.1.2.2.2.2 (4294967296:Int)) x3.1.2.2.1) (fe .u64 x3.2 x3.1.1)) x3.1.2.1)))) none) none) none) none) none) none) none))):=by kernel_rfl
theorem aQ.L0.ok:aQ.L0.Ok:=by
 refine aQ.L0.aD (fun(y,sv,yn1,yn0,u,w,un0,q,r)=>q.toNat) ?_
 rintro⟨y,sv,yn1,yn0,u,w,un0,q,r⟩ ⟨e,he,rfl,rfl,rfl,hu,hu2,hw,hw2,hr,hr2,hq,hQ⟩
 have hu:0≤u:=hu
 have hu2:u < 18446744073709551616 - e:=hu2
 have hw:0≤w:=hw
 have hw2:w < 4294967296:=hw2
 have hr:0≤r:=hr
 have hr2:r < 4294967296:=hr2
 have hq:q*4294967295+r=u:=hq
 obtain⟨k1,k2,k3,k4,k5,k6⟩:=k1 he hu hu2 hw hw2 hr hr2 hq hQ
 have q0:0≤q:=Int.le_trans k5 hQ
 have a1:bR .u64 r 4294967295=r+4294967295:=by rw[lv];omega
 have a2:bR .u64 (fe .u64 4294967296 r) w=4294967296*r+w:=by rw[lz,lv];omega
 have a3:q < 4294967296→fe .u64 q (4294967296 - e)=q*(4294967296 - e):=by
  intro h;rw[lz];rcases he with rfl | rfl | rfl <;> omega
 have a4:0 < q→cQ .u64 q 1=q - 1:=by intro h;rw[sJ];omega
 have pos:4294967296≤q∨(q < 4294967296∧4294967296*r+w < q*(4294967296 - e))→0 < q∧(u*4294967296+w) / (18446744073709551616 - e)≤q - 1:=by
  rintro(h | ⟨h,h2⟩)
  ·exact⟨by omega,k1 h⟩
  ·exact⟨by have:=k2 h h2;omega,k2 h h2⟩
 by_cases hc:4294967296≤q∨(q < 4294967296∧4294967296*r+w < q*(4294967296 - e))
 ·obtain⟨p1,p2⟩:=pos hc
  by_cases hb:4294967296≤r+4294967295
  ·right
   have hF:aQ.L0.F (18446744073709551616 - e,sv,4294967295,4294967296 - e,u,w,un0,q,r)=q - 1:=k4 hb p2
   intro R kn kx
   rw[aQ.L0.step,a1,a2,a4 p1,gq hb,hF]
   rcases hc with h | ⟨h,h2⟩
   ·rw[gq h];rfl
   ·rw[eV (by omega),a3 h,dx h2];rfl
  ·left
   refine⟨(18446744073709551616 - e,sv,4294967295,4294967296 - e,u,w,un0,q - 1,r+4294967295),⟨e,he,rfl,rfl,rfl,hu,hu2,hw,hw2,by omega,by omega,by omega,p2⟩,by simp only[];omega,rfl,fun kn kx=> ?_⟩
   rw[aQ.L0.step,a1,a2,a4 p1,eV hb]
   rcases hc with h | ⟨h,h2⟩
   ·rw[gq h];rfl
   ·rw[eV (by omega),a3 h,dx h2];rfl
 ·right
  have h:q < 4294967296:=by omega
  have h2:¬4294967296*r+w < q*(4294967296 - e):=fun x=>hc (Or.inr ⟨h,x⟩)
  have hF:aQ.L0.F (18446744073709551616 - e,sv,4294967295,4294967296 - e,u,w,un0,q,r)=q:=k3 h (by omega)
  intro R kn kx
  rw[aQ.L0.step,a2,a3 h,eV (by omega),cW h2,hF]
  rfl
theorem aQ.L1.ok:aQ.L1.Ok:=by
 refine aQ.L1.aD (fun(y,sv,yn1,yn0,w,q1,r,u,q)=>q.toNat) ?_
 rintro⟨y,sv,yn1,yn0,w,q1,r,u,q⟩ ⟨e,he,rfl,rfl,rfl,hu,hu2,hw,hw2,hr,hr2,hq,hQ⟩
 have hu:0≤u:=hu
 have hu2:u < 18446744073709551616 - e:=hu2
 have hw:0≤w:=hw
 have hw2:w < 4294967296:=hw2
 have hr:0≤r:=hr
 have hr2:r < 4294967296:=hr2
 have hq:q*4294967295+r=u:=hq
 obtain⟨k1,k2,k3,k4,k5,k6⟩:=k1 he hu hu2 hw hw2 hr hr2 hq hQ
 have q0:0≤q:=Int.le_trans k5 hQ
 have a1:bR .u64 r 4294967295=r+4294967295:=by rw[lv];omega
 have a2:bR .u64 (fe .u64 4294967296 r) w=4294967296*r+w:=by rw[lz,lv];omega
 have a3:q < 4294967296→fe .u64 q (4294967296 - e)=q*(4294967296 - e):=by
  intro h;rw[lz];rcases he with rfl | rfl | rfl <;> omega
 have a4:0 < q→cQ .u64 q 1=q - 1:=by intro h;rw[sJ];omega
 have pos:4294967296≤q∨(q < 4294967296∧4294967296*r+w < q*(4294967296 - e))→0 < q∧(u*4294967296+w) / (18446744073709551616 - e)≤q - 1:=by
  rintro(h | ⟨h,h2⟩)
  ·exact⟨by omega,k1 h⟩
  ·exact⟨by have:=k2 h h2;omega,k2 h h2⟩
 by_cases hc:4294967296≤q∨(q < 4294967296∧4294967296*r+w < q*(4294967296 - e))
 ·obtain⟨p1,p2⟩:=pos hc
  by_cases hb:4294967296≤r+4294967295
  ·right
   have hF:aQ.L1.F (18446744073709551616 - e,sv,4294967295,4294967296 - e,w,q1,r,u,q)=q - 1:=k4 hb p2
   intro R kn kx
   rw[aQ.L1.step,a1,a2,a4 p1,gq hb,hF]
   rcases hc with h | ⟨h,h2⟩
   ·rw[gq h];rfl
   ·rw[eV (by omega),a3 h,dx h2];rfl
  ·left
   refine⟨(18446744073709551616 - e,sv,4294967295,4294967296 - e,w,q1,r+4294967295,u,q - 1),⟨e,he,rfl,rfl,rfl,hu,hu2,hw,hw2,by omega,by omega,by omega,p2⟩,by simp only[];omega,rfl,fun kn kx=> ?_⟩
   rw[aQ.L1.step,a1,a2,a4 p1,eV hb]
   rcases hc with h | ⟨h,h2⟩
   ·rw[gq h];rfl
   ·rw[eV (by omega),a3 h,dx h2];rfl
 ·right
  have h:q < 4294967296:=by omega
  have h2:¬4294967296*r+w < q*(4294967296 - e):=fun x=>hc (Or.inr ⟨h,x⟩)
  have hF:aQ.L1.F (18446744073709551616 - e,sv,4294967295,4294967296 - e,w,q1,r,u,q)=q:=k3 h (by omega)
  intro R kn kx
  rw[aQ.L1.step,a2,a3 h,eV (by omega),cW h2,hF]
  rfl
theorem FX{y hi lo:Int}(hy:Hr y)(h0:0≤hi)(h1:hi < y)(h2:0≤lo)(h3:lo < 18446744073709551616):∃(s:Nat) (e m:Int),fD.F y=s∧(s=2∨s=3)∧m=2^s∧(e=42260∨e=42264∨e=42272)∧y*m=18446744073709551616 - e∧
  gN .u64 y (s:Int)=18446744073709551616 - e∧
  ct .or .u64 (gN .u64 hi (s:Int)) (bT .u64 lo (cQ .u64 64 (s:Int)))=(hi*18446744073709551616+lo)*m / 18446744073709551616∧
  gN .u64 lo (s:Int)=(hi*18446744073709551616+lo)*m%18446744073709551616∧
  (hi*18446744073709551616+lo)*m / 18446744073709551616 < 18446744073709551616 - e∧
  (hi*18446744073709551616+lo)*m / (18446744073709551616 - e)=(hi*18446744073709551616+lo) / y∧
  (hi*18446744073709551616+lo)*m%(18446744073709551616 - e) / m=(hi*18446744073709551616+lo)%y:=by
 have e1:cQ .u64 64 ((2:Nat):Int)=((62:Nat):Int):=rfl
 have e2:cQ .u64 64 ((3:Nat):Int)=((61:Nat):Int):=rfl
 have p2:(2:Int)^2=4:=rfl
 have p3:(2:Int)^3=8:=rfl
 have p61:(2:Int)^61=2305843009213693952:=rfl
 have p62:(2:Int)^62=4611686018427387904:=rfl
 obtain rfl | rfl | rfl:=hy
 ·refine⟨2,42260,4,rfl,Or.inl rfl,rfl,Or.inl rfl,rfl,by rw[kr 2 (by rfl) (by omega),p2];omega,?_,?_,by omega,by omega,by omega⟩
  ·rw[e1,kr 2 (by rfl) (by omega),ku 62 (by rfl) (by omega),p2,p62,qs 2 4 rfl (by omega) (by omega) (by omega) (by omega) (by omega) (by omega)];omega
  ·rw[kr 2 (by rfl) (by omega),p2];omega
 ·refine⟨3,42264,8,rfl,Or.inr rfl,rfl,Or.inr (Or.inl rfl),rfl,by rw[kr 3 (by rfl) (by omega),p3];omega,?_,?_,by omega,by omega,by omega⟩
  ·rw[e2,kr 3 (by rfl) (by omega),ku 61 (by rfl) (by omega),p3,p61,qs 3 8 rfl (by omega) (by omega) (by omega) (by omega) (by omega) (by omega)];omega
  ·rw[kr 3 (by rfl) (by omega),p3];omega
 ·refine⟨3,42272,8,rfl,Or.inr rfl,rfl,Or.inr (Or.inr rfl),rfl,by rw[kr 3 (by rfl) (by omega),p3];omega,?_,?_,by omega,by omega,by omega⟩
  ·rw[e2,kr 3 (by rfl) (by omega),ku 61 (by rfl) (by omega),p3,p61,qs 3 8 rfl (by omega) (by omega) (by omega) (by omega) (by omega) (by omega)];omega
  ·rw[kr 3 (by rfl) (by omega),p3];omega
theorem Ig(a b c:Int):(((a%18446744073709551616+b)%18446744073709551616) - c%18446744073709551616)%18446744073709551616=(a+b - c)%18446744073709551616:=by omega
theorem aQ.ok:aQ.Ok:=by
 rintro⟨hi,lo,y⟩ ⟨hy,h0,h1,h2,h3⟩
 have h0:0≤hi:=h0
 have h1:hi < y:=h1
 have h2:0≤lo:=h2
 have h3:lo < 18446744073709551616:=h3
 have yb:0 < y∧y < 18446744073709551616:=by obtain rfl | rfl | rfl:=hy <;> omega
 rw[aQ.eq,iO (by omega),j8 (by omega)]
 simp only[ao]
 have z:ji y=true:=by simp[ji];omega
 by_cases hz:hi=0
 ·subst hz
  rw[ia rfl,z,AP h2 (by omega) h3,oL h2]
  simp only[ai,aQ.F,aQ.add,Int.zero_mul,Int.zero_add]
 ·obtain⟨s,e,m,hs,hs2,hm,he,hym,a1,a2,a3,a4,a5,a6⟩:=FX hy h0 h1 h2 h3
  have c1:dJ .u64 (s:Int)=(s:Int):=by rw[C1];omega
  have c2:hP (s:Int)=true:=kE (by omega)
  have c3:hP (cQ .u64 64 (s:Int))=true:=by rcases hs2 with rfl | rfl <;> rfl
  rw[iO hz,fD.run (d:=y) hy]
  simp only[ao,ab,fD.add,hs,c1,c2,c3,ai,a1,a2,a3]
  have hN:0≤(hi*18446744073709551616+lo)*m:=Int.mul_nonneg (by omega) (by rcases hs2 with rfl | rfl <;> omega)
  revert a4 a5 a6
  generalize (hi*18446744073709551616+lo)*m=N at hN
  intro a4 a5 a6
  have u0:0≤N / 18446744073709551616:=by omega
  have t0:0≤N%18446744073709551616:=by omega
  have t1:N%18446744073709551616 < 18446744073709551616:=by omega
  have hd:N=(N / 18446744073709551616*4294967296+N%18446744073709551616 / 4294967296)*4294967296+N%18446744073709551616%4294967296:=by omega
  have w10:0≤N%18446744073709551616 / 4294967296:=by omega
  have w11:N%18446744073709551616 / 4294967296 < 4294967296:=by omega
  have w00:0≤N%18446744073709551616%4294967296:=by omega
  have w01:N%18446744073709551616%4294967296 < 4294967296:=by omega
  have p32:(2:Int)^32=4294967296:=rfl
  have b1:bT .u64 (18446744073709551616 - e) 32=4294967295:=by rw[ku 32 (by rfl) (by omega),p32];rcases he with rfl | rfl | rfl <;> rfl
  have b2:ct .and .u64 (18446744073709551616 - e) 4294967295=4294967296 - e:=by rw[xz (by omega) (by omega)];omega
  have b3:bT .u64 (N%18446744073709551616) 32=N%18446744073709551616 / 4294967296:=by rw[ku 32 (by rfl) (by omega),p32]
  have b4:ct .and .u64 (N%18446744073709551616) 4294967295=N%18446744073709551616%4294967296:=xz t0 t1
  have z2:ji 4294967295=true:=rfl
  simp only[b1,b2,b3,b4,z2,ai]
  clear a1 a2 a3 b1 b2 b3 b4
  have kdd:=kd (18446744073709551616 - e) (N / 18446744073709551616) (N%18446744073709551616 / 4294967296) (N%18446744073709551616%4294967296) (by omega) w00 w01
  rw[←hd,a5]at kdd
  revert a4 kdd
  generalize N / 18446744073709551616=u at u0
  generalize N%18446744073709551616 / 4294967296=w1 at w10 w11
  generalize N%18446744073709551616%4294967296=w0 at w00 w01
  intro a4 kdd
  have g:∀u w:Int,0≤u→u < 18446744073709551616 - e→0≤w→w < 4294967296→
    lQ .u64 u 4294967295=u / 4294967295∧cQ .u64 u (fe .u64 (u / 4294967295) 4294967295)=u - u / 4294967295*4294967295∧
    cQ .u64 (bR .u64 (fe .u64 u 4294967296) w) (fe .u64 ((u*4294967296+w) / (18446744073709551616 - e)) (18446744073709551616 - e))=(u*4294967296+w)%(18446744073709551616 - e):=by
   intro u w k1 k2 k3 k4
   obtain⟨q1,q2,q3,q4,q5,q6,q7,q8⟩:=k0 he k1 k2 k3 k4
   refine⟨AP k1 (by omega) (by omega),by rw[sJ,lz];omega,?_⟩
   rw[sJ,lv,lz,lz,Ig,q4]
   exact Int.emod_eq_of_lt q5 (by omega)
  obtain⟨f1,f2,f3⟩:=g u w1 u0 a4 w10 w11
  obtain⟨q1,q2,q3,q4,q5,q6,q7,q8⟩:=k0 he u0 a4 w10 w11
  have p1:aQ.L0.aB (18446744073709551616 - e,(s:Int),4294967295,4294967296 - e,u,w1,w0,u / 4294967295,u - u / 4294967295*4294967295):=⟨e,he,rfl,rfl,rfl,u0,a4,w10,w11,q2,q3,by omega,q1⟩
  rw[f1,f2,aQ.L0.run p1]
  simp only[ab,aQ.L0.add,aQ.L0.F,z2,ai,f3]
  revert f3 q1 kdd
  generalize (u*4294967296+w1)%(18446744073709551616 - e)=v at q4 q5 q6
  generalize (u*4294967296+w1) / (18446744073709551616 - e)=Q at q4 q7 q8
  intro kdd f3 q1
  obtain⟨g1,g2,g3⟩:=g v w0 q5 q6 w00 w01
  obtain⟨r1,r2,r3,r4,r5,r6,r7,r8⟩:=k0 he q5 q6 w00 w01
  have p2:aQ.L1.aB (18446744073709551616 - e,(s:Int),4294967295,4294967296 - e,w0,Q,v - v / 4294967295*4294967295,v,v / 4294967295):=⟨e,he,rfl,rfl,rfl,q5,q6,w00,w01,r2,r3,by omega,r1⟩
  rw[g1,g2,aQ.L1.run p2]
  simp only[ab,aQ.L1.add,aQ.L1.F,c2,ai,g3]
  rw[←kdd.2,ku s (by rfl) (by omega),←hm,a6,lz,lv]
  have e9:(Q*4294967296%18446744073709551616+(v*4294967296+w0) / (18446744073709551616 - e))%18446744073709551616=(hi*18446744073709551616+lo) / y:=by rw[kdd.1];omega
  rw[e9]
  rfl
noncomputable def aQ.E:=Entry.cC [some tu,some tu,some tu] aQ.st aQ.aB aQ.add aQ.F aQ.out
noncomputable def aQ.call:aQ.D→Option aQ.X:=bS aQ.E aQ.st
theorem aQ.run:bM aQ.call aQ.aB aQ.add aQ.F:=dh (dd [.d tu,.d tu,.d tu] fun _=>by kernel_rfl)
noncomputable def aQ.sg:SG Tryz.prog:=⟨237,aX,aQ.E,.fn 2 (by kernel_rfl) aQ.ok (And.intro (.cC aQ.L0.ok (by kernel_rfl)) (And.intro (.cC aQ.L1.ok (by kernel_rfl)) trivial))⟩
abbrev dy.D:=Int×Int×Int
def dy.st:dy.D→SA:=fun(hi,lo,yv)=>([.d tu hi,.d tu lo,.d tu yv],[])
abbrev dy.Y:=Int
abbrev dy.X:=Int
def dy.out:dy.X→bg:=fun x=>⟨.d tu x,[],[]⟩
def dy.add:dy.D→dy.Y→dy.X:=fun(hi,lo,yv) y=>y
def dy.aB:dy.D→Prop:=fun(hi,lo,y)=>Hr y∧0≤hi∧hi < 18446744073709551616∧0≤lo∧lo < 18446744073709551616
def dy.F:dy.D→dy.Y:=fun(hi,lo,y)=>(hi*18446744073709551616+lo)%y
noncomputable def dy.G:dY:=fg (P:=Tryz.prog) [aQ.sg]
noncomputable def dy.an:eI:= {}
noncomputable def dy.A:= @cY Tryz.prog dy.G dy.an 0 Tryz.f199 _ dy.st
abbrev dy.Ok:=cZ @dy.A dy.aB dy.add dy.F dy.out
theorem dy.eq{R:Type}(hi:Int)(lo:Int)(yv:Int)(k:bg→Option R):dy.A (hi,lo,yv) k=
 aK (ji yv) (
 al (aQ.call ((jD hi yv),lo,yv)) fun x1=>
 k (dy.out x1.2)) none:=by kernel_rfl
theorem dy.ok:dy.Ok:=by
 rintro⟨hi,lo,y⟩ ⟨hy,h0,h1,h2,h3⟩
 have h0:0≤hi:=h0
 have yb:0 < y:=by obtain rfl | rfl | rfl:=hy <;> omega
 have z:ji y=true:=by simp[ji];omega
 have p:aQ.aB (hi%y,lo,y):=⟨hy,Int.emod_nonneg _ (by omega),Int.emod_lt_of_pos _ yb,h2,h3⟩
 rw[dy.eq,z,oL h0,aQ.run p]
 have e:(hi%y*18446744073709551616+lo)%y=(hi*18446744073709551616+lo)%y:=by
  rw[Int.add_emod,Int.mul_emod,Int.emod_emod_of_dvd _ (Int.dvd_refl y),←Int.mul_emod,←Int.add_emod]
 simp only[ai,ab,aQ.add,aQ.F,dy.add,dy.F,e]
noncomputable def dy.E:=Entry.cC [some tu,some tu,some tu] dy.st dy.aB dy.add dy.F dy.out
noncomputable def dy.call:dy.D→Option dy.X:=bS dy.E dy.st
theorem dy.run:bM dy.call dy.aB dy.add dy.F:=dh (dd [.d tu,.d tu,.d tu] fun _=>by kernel_rfl)
noncomputable def dy.sg:SG Tryz.prog:=⟨199,aX,dy.E,.fn 0 (by kernel_rfl) dy.ok trivial⟩
abbrev dH.D:=Int×Int
def dH.st:dH.D→SA:=fun(x,yv)=>([.d tu x,.d tu yv],[])
abbrev dH.Y:=Int×Int
abbrev dH.X:=Int×Int
def dH.out:dH.X→bg:=fun x=>⟨.cons (.d tu x.1) (.cons (.d tu x.2) (.nil)),[],[]⟩
def dH.add:dH.D→dH.Y→dH.X:=fun(x,yv) y=>y
def dH.aB:dH.D→Prop:=fun(x,y)=>(0≤x∧x < 18446744073709551616)∧0≤y∧y < 18446744073709551616
def dH.F:dH.D→dH.Y:=fun(x,y)=>(x*y / 18446744073709551616,x*y%18446744073709551616)
noncomputable def dH.G:dY:=fg (P:=Tryz.prog) []
noncomputable def dH.an:eI:= {}
noncomputable def dH.A:= @cY Tryz.prog dH.G dH.an 0 Tryz.f236 _ dH.st
abbrev dH.Ok:=cZ @dH.A dH.aB dH.add dH.F dH.out
theorem dH.eq{R:Type}(x:Int)(yv:Int)(k:bg→Option R):dH.A (x,yv) k=
 k (dH.out ((bR .u64 (bR .u64 (fe .u64 (bT .u64 x (32:Int)) (bT .u64 yv (32:Int))) (bT .u64 (bR .u64 (fe .u64 (bT .u64 x (32:Int)) (ct .and .u64 yv (4294967295:Int))) (bT .u64 (fe .u64 (ct .and .u64 x (4294967295:Int)) (ct .and .u64 yv (4294967295:Int))) (32:Int))) (32:Int))) (bT .u64 (bR .u64 (ct .and .u64 (bR .u64 (fe .u64 (bT .u64 x (32:Int)) (ct .and .u64 yv (4294967295:Int))) (bT .u64 (fe .u64 (ct .and .u64 x (4294967295:Int)) (ct .and .u64 yv (4294967295:Int))) (32:Int))) (4294967295:Int)) (fe .u64 (ct .and .u64 x (4294967295:Int)) (bT .u64 yv (32:Int)))) (32:Int))),(fe .u64 x yv))):=by kernel_rfl
theorem rz{a b m n:Int}(h0:0≤a)(h1:a≤m)(h2:0≤b)(h3:b≤n):0≤a*b∧a*b≤m*n:=
 ⟨Int.mul_nonneg h0 h2,Int.mul_le_mul h1 h3 h2 (Int.le_trans h0 h1)⟩
theorem dH.ok:dH.Ok:=by
 rintro⟨x,y⟩ ⟨⟨h0,h1⟩,h2,h3⟩
 have h0:0≤x:=h0
 have h1:x < 18446744073709551616:=h1
 have h2:0≤y:=h2
 have h3:y < 18446744073709551616:=h3
 rw[dH.eq]
 have p32:(2:Int)^32=4294967296:=rfl
 have s32:∀x:Int,bT .u64 x 32=x / 4294967296:=fun x=>by rw[ku 32 (by rfl) (by omega),p32]
 simp only[s32,xz h0 h1,xz h2 h3]
 obtain⟨a,b,rfl,a0,a1,b0,b1⟩:∃a b:Int,x=a*4294967296+b∧0≤a∧a≤4294967295∧0≤b∧b≤4294967295:=⟨x / 4294967296,x%4294967296,by omega,by omega,by omega,by omega,by omega⟩
 obtain⟨c,d,rfl,c0,c1,d0,d1⟩:∃a b:Int,y=a*4294967296+b∧0≤a∧a≤4294967295∧0≤b∧b≤4294967295:=⟨y / 4294967296,y%4294967296,by omega,by omega,by omega,by omega,by omega⟩
 have e1:(a*4294967296+b) / 4294967296=a:=by omega
 have e2:(a*4294967296+b)%4294967296=b:=by omega
 have e3:(c*4294967296+d) / 4294967296=c:=by omega
 have e4:(c*4294967296+d)%4294967296=d:=by omega
 have e5:(a*4294967296+b)*(c*4294967296+d)=a*c*18446744073709551616+(a*d+b*c)*4294967296+b*d:=by
  have q:(4294967296:Int)*4294967296=18446744073709551616:=rfl
  rw[Int.add_mul,Int.mul_add,Int.mul_add]
  have q1:a*4294967296*(c*4294967296)=a*c*18446744073709551616:=by rw[←q];ac_rfl
  have q2:a*4294967296*d=a*d*4294967296:=by ac_rfl
  have q3:b*(c*4294967296)=b*c*4294967296:=by ac_rfl
  rw[q1,q2,q3];omega
 obtain⟨m1,m2⟩:=rz a0 a1 c0 c1
 obtain⟨m3,m4⟩:=rz a0 a1 d0 d1
 obtain⟨m5,m6⟩:=rz b0 b1 c0 c1
 obtain⟨m7,m8⟩:=rz b0 b1 d0 d1
 have n:(4294967295:Int)*4294967295=18446744065119617025:=rfl
 rw[n]at m2 m4 m6 m8
 simp only[e1,e2,e3,e4,dH.add,dH.F,e5,lz,lv]
 revert m1 m2 m3 m4 m5 m6 m7 m8
 generalize a*c=ac
 generalize a*d=ad
 generalize b*c=bc
 generalize b*d=bd
 intro m1 m2 m3 m4 m5 m6 m7 m8
 have q1:bd%18446744073709551616=bd:=by omega
 have q2:ad%18446744073709551616=ad:=by omega
 have q3:bc%18446744073709551616=bc:=by omega
 have q4:ac%18446744073709551616=ac:=by omega
 rw[q1,q2,q3,q4]
 have q5:(ad+bd / 4294967296)%18446744073709551616=ad+bd / 4294967296:=by omega
 have q6:ct .and .u64 (ad+bd / 4294967296) 4294967295=(ad+bd / 4294967296)%4294967296:=xz (by omega) (by omega)
 rw[q5,q6]
 refine congrArg some (congrArg dH.out (Prod.ext ?_ ?_))
 ·show _=(_:Int)
  simp only[]
  omega
 ·rfl
noncomputable def dH.E:=Entry.cC [some tu,some tu] dH.st dH.aB dH.add dH.F dH.out
noncomputable def dH.call:dH.D→Option dH.X:=bS dH.E dH.st
theorem dH.run:bM dH.call dH.aB dH.add dH.F:=dh (dd [.d tu,.d tu] fun _=>by kernel_rfl)
noncomputable def dH.sg:SG Tryz.prog:=⟨236,aX,dH.E,.fn 0 (by kernel_rfl) dH.ok trivial⟩
set_option synthInstance.maxSize 5000
def Pn(x:Int):Prop:=0≤x∧x < 4611686018427377339
def iZ(x:Int):Prop:=0≤x∧x < 18446744073709551616
theorem Pn.u{x:Int}(h:Pn x):iZ x:=⟨h.1,by have:=h.2;omega⟩
def jW(a b:Int):Int:=a*b%4611686018427377339
theorem mg(a b:Int):Pn (jW a b):=⟨Int.emod_nonneg _ (by omega),Int.emod_lt_of_pos _ (by omega)⟩
def A4:Nat→Int→Nat→Int→Int
 | 0,_,_,out=>out
 |f+1,a,n,out=>if n=0 then out else A4 f (jW a a) (n / 2) (if n%2=1 then jW out a else out)
def pw(a:Int)(n:Nat):Int:=A4 64 a n 1
theorem mN(f:Nat)(a out:Int):A4 f a 0 out=out:=by cases f <;> rfl
theorem yM:∀(f g:Nat) (a:Int) (n:Nat) (out:Int),n < 2^f→n < 2^g→A4 f a n out=A4 g a n out
 | 0,g,a,n,out,h,_=>by
  obtain rfl:n=0:=by omega
  rw[mN,mN]
 |f+1,0,a,n,out,_,h=>by
  obtain rfl:n=0:=by omega
  rw[mN,mN]
 |f+1,g+1,a,n,out,h,h'=>by
  have e:(2:Nat)^(f+1)=2^f*2:=Nat.pow_succ 2 f
  have e':(2:Nat)^(g+1)=2^g*2:=Nat.pow_succ 2 g
  unfold A4
  split
  ·rfl
  ·exact yM f g _ _ _ (by omega) (by omega)
theorem DC:∀(f:Nat) (a:Int) (n:Nat) (out:Int),Pn out→Pn (A4 f a n out)
 | 0,_,_,_,h=>h
 |f+1,a,n,out,h=>by
  unfold A4
  split
  ·exact h
  ·refine DC f _ _ _ ?_
   split
   ·exact mg _ _
   ·exact h
theorem yN(a:Int)(n:Nat):Pn (pw a n):=DC _ _ _ _ ⟨by omega,by omega⟩
abbrev de.D:=Int×Int
def de.st:de.D→SA:=fun(a,b)=>([.d tu a,.d tu b],[])
abbrev de.Y:=Int
abbrev de.X:=Int
def de.out:de.X→bg:=fun x=>⟨.d tu x,[],[]⟩
def de.add:de.D→de.Y→de.X:=fun(a,b) y=>y
def de.aB:de.D→Prop:=fun(a,b)=>iZ a∧iZ b
def de.F:de.D→de.Y:=fun(a,b)=>jW a b
noncomputable def de.G:dY:=fg (P:=Tryz.prog) [dH.sg,dy.sg]
noncomputable def de.an:eI:= {}
noncomputable def de.A:= @cY Tryz.prog de.G de.an 0 Tryz.f193 _ de.st
abbrev de.Ok:=cZ @de.A de.aB de.add de.F de.out
theorem de.eq{R:Type}(a:Int)(b:Int)(k:bg→Option R):de.A (a,b) k=
 al (dH.call (a,b)) fun x1=>
 al (dy.call (x1.1,x1.2,(4611686018427377339:Int))) fun x2=>
 k (de.out x2):=by kernel_rfl
theorem uD(n:Int):n / 18446744073709551616*18446744073709551616+n%18446744073709551616=n:=by omega
theorem de.ok:de.Ok:=by
 rintro⟨a,b⟩ ⟨ha,hb⟩
 have ha:iZ a:=ha
 have hb:iZ b:=hb
 obtain⟨m1,m2⟩:=rz ha.1 (show a≤18446744073709551615 by have:=ha.2;omega) hb.1 (show b≤18446744073709551615 by have:=hb.2;omega)
 have n:(18446744073709551615:Int)*18446744073709551615=340282366920938463426481119284349108225:=rfl
 rw[n]at m2
 have p:dy.aB (a*b / 18446744073709551616,a*b%18446744073709551616,4611686018427377339):=⟨Or.inl rfl,by omega,by omega,by omega,by omega⟩
 rw[de.eq,dH.run (d:=(a,b)) ⟨ha,hb⟩]
 simp only[ab,dH.add,dH.F]
 rw[dy.run p]
 simp only[ab,dy.add,dy.F,uD]
 rfl
noncomputable def de.E:=Entry.cC [some tu,some tu] de.st de.aB de.add de.F de.out
noncomputable def de.call:de.D→Option de.X:=bS de.E de.st
theorem de.run:bM de.call de.aB de.add de.F:=dh (dd [.d tu,.d tu] fun _=>by kernel_rfl)
noncomputable def de.sg:SG Tryz.prog:=⟨193,aX,de.E,.fn 0 (by kernel_rfl) de.ok trivial⟩
abbrev bf.L0.D:=Int×Int×Int
def bf.L0.st:bf.L0.D→AS:=fun(a_2,n_2,outv)=>⟨([.d tu a_2,.d tu n_2,.undef,.undef,.undef,.d tu outv]++bh 14 []),[],(List.replicate 20 [])⟩
abbrev bf.L0.Y0:=Int
abbrev bf.L0.X0:=Int
def bf.L0.bw:bf.L0.X0→Exit×AS:=fun x=>(.exit 0,⟨(bh 5 ([.d tu x]++bh 14 [])),[],(List.replicate 20 [])⟩)
abbrev bf.L0.X:=bf.L0.X0
abbrev bf.L0.Y:=bf.L0.Y0
def bf.L0.out:bf.L0.X→Out (Exit×AS):=fun x=> .ok (bf.L0.bw x)
def bf.L0.add:bf.L0.D→bf.L0.Y→bf.L0.X:=fun(a_2,n_2,outv) y=>y
abbrev bf.D:=Int×Int
def bf.st:bf.D→SA:=fun(a,n)=>([.d tu a,.d tu n],[])
abbrev bf.Y:=Int
abbrev bf.X:=Int
def bf.out:bf.X→bg:=fun x=>⟨.d tu x,[],[]⟩
def bf.add:bf.D→bf.Y→bf.X:=fun(a,n) y=>y
def bf.L0.aB:bf.L0.D→Prop:=fun(a,n,o)=>iZ a∧iZ n∧Pn o
def bf.L0.F:bf.L0.D→bf.L0.Y:=fun(a,n,o)=>A4 64 a n.toNat o
def bf.aB:bf.D→Prop:=fun(a,n)=>iZ a∧iZ n
def bf.F:bf.D→bf.Y:=fun(a,n)=>pw a n.toNat
noncomputable def bf.G:dY:=fg (P:=Tryz.prog) [de.sg]
noncomputable def bf.L0.E:=bQ.cC bf.L0.st bf.L0.aB bf.L0.add bf.L0.F bf.L0.out
noncomputable def bf.L0.call:bf.L0.D→Option bf.L0.X:=dm bf.L0.E bf.L0.st
noncomputable def bf.an:eI:= {loops:=j4 [(2,{bm:=[0,1,5]})],outs:=j3 [(2,{bm:=[5]},{bm:=[4]})],fJ:=kT [(2,bf.L0.E)]}
noncomputable def bf.A:= @cY Tryz.prog bf.G bf.an 0 Tryz.f130 _ bf.st
abbrev bf.Ok:=cZ @bf.A bf.aB bf.add bf.F bf.out
noncomputable def bf.L0.R:= @bV Tryz.prog bf.G bf.an 0 Tryz.f130 0 _ bf.L0.st
abbrev bf.L0.Ok:=ez Tryz.prog bf.G bf.an 0 Tryz.f130 0 bf.L0.st bf.L0.aB bf.L0.add bf.L0.F bf.L0.out
theorem bf.L0.run:bM bf.L0.call bf.L0.aB bf.L0.add bf.L0.F:=eF (eD [.d tu,.d tu,.d tu] fun _=>by kernel_rfl)
theorem bf.L0.aD:fP @bf.L0.R bf.L0.st bf.L0.aB bf.L0.add bf.L0.F bf.L0.bw bf.L0.Ok:=fR
theorem bf.L0.step{R:Type}(a_2:Int)(n_2:Int)(outv:Int)(kn:AS→Option R)(kx:Exit→AS→Option R):bf.L0.R (a_2,n_2,outv) kn kx=
  aK ((mJ n_2 (0:Int))) (
   aK ((jy (ct .and .u64 n_2 (1:Int)) (1:Int))) (
    al (de.call (outv,a_2)) fun x1=>
    al (de.call (a_2,a_2)) fun x2=>
    kn (bf.L0.st (x2,(bT .u64 n_2 (1:Int)),x1))) (
    al (de.call (a_2,a_2)) fun x3=>
    kn (bf.L0.st (x3,(bT .u64 n_2 (1:Int)),outv)))) (
   kx (bf.L0.bw outv).1 (bf.L0.bw outv).2):=by kernel_rfl
theorem bf.eq{R:Type}(a:Int)(n:Int)(k:bg→Option R):bf.A (a,n) k=
 al (bf.L0.call (a,n,(1:Int))) fun x4=>
 k (bf.out x4):=by kernel_rfl
theorem Iz{n:Int}(h:iZ n):bT .u64 n 1=n / 2:=ku 1 (by rfl) (by omega)
theorem bf.L0.ok:bf.L0.Ok:=by
 refine bf.L0.aD (fun(a,n,o)=>n.toNat) ?_
 rintro⟨a,n,o⟩ ⟨ha,hn,ho⟩
 have ha:iZ a:=ha
 have hn:iZ n:=hn
 have ho:Pn o:=ho
 have n0:=hn.1
 have n1:=hn.2
 by_cases h:0 < n
 ·left
  have e:bf.L0.F (a,n,o)=bf.L0.F (jW a a,n / 2,if n%2=1 then jW o a else o):=by
   show A4 64 a n.toNat o=A4 64 (jW a a) (n / 2).toNat _
   rw[yM 64 65 a n.toNat o (by omega) (by omega)]
   have t1:(n / 2).toNat=n.toNat / 2:=by omega
   have t2:(n%2=1)=(n.toNat%2=1):=by apply propext;omega
   rw[t1]
   simp only[t2]
   show(if n.toNat=0 then o else _)=_
   rw[if_neg (by omega)]
  refine⟨(jW a a,n / 2,if n%2=1 then jW o a else o),⟨(mg a a).u,⟨by omega,by omega⟩,?_⟩,by show(n / 2).toNat < n.toNat;omega,?_,fun kn kx=> ?_⟩
  ·show Pn (if n%2=1 then jW o a else o)
   split
   ·exact mg _ _
   ·exact ho
  ·exact congrArg _ e.symm
  ·rw[bf.L0.step,dx h,Iz hn,H7 n0 n1,de.run (d:=(o,a)) ⟨ho.u,ha⟩,de.run (d:=(a,a)) ⟨ha,ha⟩]
   by_cases h1:n%2=1
   ·rw[ia h1,if_pos h1];rfl
   ·rw[iO h1,if_neg h1];rfl
 ·right
  intro R kn kx
  obtain rfl:n=0:=by omega
  rw[bf.L0.step,cW (by omega)]
  simp only[ao,bf.L0.add,bf.L0.F]
  rw[show A4 64 a (Int.toNat 0) o=o from mN _ _ _]
theorem bf.ok:bf.Ok:=by
 rintro⟨a,n⟩ ⟨ha,hn⟩
 rw[bf.eq,bf.L0.run (d:=(a,n,1)) ⟨ha,hn,by omega,by omega⟩]
 rfl
noncomputable def bf.E:=Entry.cC [some tu,some tu] bf.st bf.aB bf.add bf.F bf.out
noncomputable def bf.call:bf.D→Option bf.X:=bS bf.E bf.st
theorem bf.run:bM bf.call bf.aB bf.add bf.F:=dh (dd [.d tu,.d tu] fun _=>by kernel_rfl)
noncomputable def bf.sg:SG Tryz.prog:=⟨130,aX,bf.E,.fn 1 (by kernel_rfl) bf.ok (And.intro (.cC bf.L0.ok (by kernel_rfl)) trivial)⟩
set_option synthInstance.maxSize 5000
def mu(p:Int):Bool:=decide (0 < p∧p < 4611686018427377339) && decide (pw p 2305843009213688669=1)
def tk(p:Int):Int:=if mu p then p else 1
theorem D0(p:Int):Pn (tk p):=by
 unfold tk
 split
 ·rename_i h
  simp only[mu,Bool.and_eq_true,decide_eq_true_eq]at h
  exact⟨by omega,by omega⟩
 ·exact⟨by omega,by omega⟩
def nr(p k:Int):Int:=pw (tk p) (k%2305843009213688669).toNat
def eZ(k:Int):Int:=nr 4 k
def yw(p:Int):Int:=pw (tk p) 2305843009213688668
def sC(l:List Int):Int:=l.foldl (fun o p=>jW o (tk p)) 1
theorem Fb(l:List Int)(o:Int)(h:Pn o):Pn (l.foldl (fun o p=>jW o (tk p)) o):=by
 induction l generalizing o with
 |nil=>exact h
 |cons p l ih=>exact ih _ (mg _ _)
theorem Fc(l:List Int):Pn (sC l):=Fb l 1 ⟨by omega,by omega⟩
abbrev ck.D:=Int
def ck.st:ck.D→SA:=fun p=>([.d tu p],[])
abbrev ck.Y:=Bool
abbrev ck.X:=Bool
def ck.out:ck.X→bg:=fun x=>⟨.d .bool x,[],[]⟩
def ck.add:ck.D→ck.Y→ck.X:=fun p y=>y
def ck.aB:ck.D→Prop:=fun p=>iZ p
def ck.F:ck.D→ck.Y:=fun p=>mu p
noncomputable def ck.G:dY:=fg (P:=Tryz.prog) [bf.sg]
noncomputable def ck.an:eI:= {}
noncomputable def ck.A:= @cY Tryz.prog ck.G ck.an 0 Tryz.f151 _ ck.st
abbrev ck.Ok:=cZ @ck.A ck.aB ck.add ck.F ck.out
theorem ck.eq{R:Type}(p:Int)(k:bg→Option R):ck.A p k=
  aK ((mJ p (0:Int))) (
   aK ((fZ p (4611686018427377339:Int))) (
    al (bf.call (p,(2305843009213688669:Int))) fun x1=>
    k (ck.out (jy x1 (1:Int)))) (
    k (ck.out false))) (
   k (ck.out false)):=by kernel_rfl
theorem ck.ok:ck.Ok:=by
 intro p hp
 have hp:iZ p:=hp
 rw[ck.eq,bf.run (d:=(p,2305843009213688669)) ⟨hp,by constructor <;> decide⟩]
 simp only[ab,bf.add,bf.F,ck.add,ck.F,mu]
 by_cases h:0 < p
 ·rw[dx h,ai]
  by_cases h2:p < 4611686018427377339
  ·rw[bu h2,ai,aY ⟨h,h2⟩,Bool.true_and]
   rfl
  ·rw[bk h2,ao,bq (fun x=>h2 x.2),Bool.false_and]
 ·rw[cW h,ao,bq (fun x=>h x.1),Bool.false_and]
noncomputable def ck.E:=Entry.cC [some tu] ck.st ck.aB ck.add ck.F ck.out
noncomputable def ck.call:ck.D→Option ck.X:=bS ck.E ck.st
theorem ck.run:bM ck.call ck.aB ck.add ck.F:=dh (dd [.d tu] fun _=>by kernel_rfl)
noncomputable def ck.sg:SG Tryz.prog:=⟨151,aX,ck.E,.fn 0 (by kernel_rfl) ck.ok trivial⟩
abbrev cE.D:=Int
def cE.st:cE.D→SA:=fun p=>([.d tu p],[])
abbrev cE.Y:=Int
abbrev cE.X:=Int
def cE.out:cE.X→bg:=fun x=>⟨.d tu x,[],[]⟩
def cE.add:cE.D→cE.Y→cE.X:=fun p y=>y
def cE.aB:cE.D→Prop:=fun p=>iZ p
def cE.F:cE.D→cE.Y:=fun p=>tk p
noncomputable def cE.G:dY:=fg (P:=Tryz.prog) [ck.sg]
noncomputable def cE.an:eI:= {}
noncomputable def cE.A:= @cY Tryz.prog cE.G cE.an 0 Tryz.f131 _ cE.st
abbrev cE.Ok:=cZ @cE.A cE.aB cE.add cE.F cE.out
theorem cE.eq{R:Type}(p:Int)(k:bg→Option R):cE.A p k=
  al (ck.call p) fun x1=>
  aK (x1) (
   k (cE.out p)) (
   k (cE.out (1:Int))):=by kernel_rfl
theorem cE.ok:cE.Ok:=by
 intro p hp
 rw[cE.eq,ck.run (d:=p) hp]
 simp only[ab,ck.add,ck.F,cE.add,cE.F,tk]
 cases mu p <;> rfl
noncomputable def cE.E:=Entry.cC [some tu] cE.st cE.aB cE.add cE.F cE.out
noncomputable def cE.call:cE.D→Option cE.X:=bS cE.E cE.st
theorem cE.run:bM cE.call cE.aB cE.add cE.F:=dh (dd [.d tu] fun _=>by kernel_rfl)
noncomputable def cE.sg:SG Tryz.prog:=⟨131,aX,cE.E,.fn 0 (by kernel_rfl) cE.ok trivial⟩
abbrev di.D:=Int×Int
def di.st:di.D→SA:=fun(p,kv)=>([.d tu p,.d tu kv],[])
abbrev di.Y:=Int
abbrev di.X:=Int
def di.out:di.X→bg:=fun x=>⟨.d tu x,[],[]⟩
def di.add:di.D→di.Y→di.X:=fun(p,kv) y=>y
def di.aB:di.D→Prop:=fun(p,k)=>iZ p∧iZ k
def di.F:di.D→di.Y:=fun(p,k)=>nr p k
noncomputable def di.G:dY:=fg (P:=Tryz.prog) [cE.sg,bf.sg]
noncomputable def di.an:eI:= {}
noncomputable def di.A:= @cY Tryz.prog di.G di.an 0 Tryz.f63 _ di.st
abbrev di.Ok:=cZ @di.A di.aB di.add di.F di.out
theorem di.eq{R:Type}(p:Int)(kv:Int)(k:bg→Option R):di.A (p,kv) k=
 al (cE.call p) fun x1=>
 al (bf.call (x1,(jD kv (2305843009213688669:Int)))) fun x2=>
 k (di.out x2):=by kernel_rfl
theorem di.ok:di.Ok:=by
 rintro⟨p,k⟩ ⟨hp,hk⟩
 have hk:iZ k:=hk
 have e:=oL (y:=2305843009213688669) hk.1
 have b:iZ (k%2305843009213688669):=⟨by omega,by omega⟩
 rw[di.eq,cE.run (d:=p) hp,e]
 simp only[ab,cE.add,cE.F]
 rw[bf.run (d:=(tk p,k%2305843009213688669)) ⟨(D0 p).u,b⟩]
 rfl
noncomputable def di.E:=Entry.cC [some tu,some tu] di.st di.aB di.add di.F di.out
noncomputable def di.call:di.D→Option di.X:=bS di.E di.st
theorem di.run:bM di.call di.aB di.add di.F:=dh (dd [.d tu,.d tu] fun _=>by kernel_rfl)
noncomputable def di.sg:SG Tryz.prog:=⟨63,aX,di.E,.fn 0 (by kernel_rfl) di.ok trivial⟩
abbrev dv.D:=Int
def dv.st:dv.D→SA:=fun kv=>([.d tu kv],[])
abbrev dv.Y:=Int
abbrev dv.X:=Int
def dv.out:dv.X→bg:=fun x=>⟨.d tu x,[],[]⟩
def dv.add:dv.D→dv.Y→dv.X:=fun kv y=>y
def dv.aB:dv.D→Prop:=fun k=>iZ k
def dv.F:dv.D→dv.Y:=fun k=>eZ k
noncomputable def dv.G:dY:=fg (P:=Tryz.prog) [di.sg]
noncomputable def dv.an:eI:= {}
noncomputable def dv.A:= @cY Tryz.prog dv.G dv.an 0 Tryz.f14 _ dv.st
abbrev dv.Ok:=cZ @dv.A dv.aB dv.add dv.F dv.out
theorem dv.eq{R:Type}(kv:Int)(k:bg→Option R):dv.A kv k=
 al (di.call ((4:Int),kv)) fun x1=>
 k (dv.out x1):=by kernel_rfl
theorem dv.ok:dv.Ok:=by
 intro k hk
 rw[dv.eq,di.run (d:=(4,k)) ⟨⟨by omega,by omega⟩,hk⟩]
 rfl
noncomputable def dv.E:=Entry.cC [some tu] dv.st dv.aB dv.add dv.F dv.out
noncomputable def dv.call:dv.D→Option dv.X:=bS dv.E dv.st
theorem dv.run:bM dv.call dv.aB dv.add dv.F:=dh (dd [.d tu] fun _=>by kernel_rfl)
noncomputable def dv.sg:SG Tryz.prog:=⟨14,aX,dv.E,.fn 0 (by kernel_rfl) dv.ok trivial⟩
abbrev fF.D:=Int
def fF.st:fF.D→SA:=fun p=>([.d tu p],[])
abbrev fF.Y:=Int
abbrev fF.X:=Int
def fF.out:fF.X→bg:=fun x=>⟨.d tu x,[],[]⟩
def fF.add:fF.D→fF.Y→fF.X:=fun p y=>y
def fF.aB:fF.D→Prop:=fun p=>iZ p
def fF.F:fF.D→fF.Y:=fun p=>yw p
noncomputable def fF.G:dY:=fg (P:=Tryz.prog) [cE.sg,bf.sg]
noncomputable def fF.an:eI:= {}
noncomputable def fF.A:= @cY Tryz.prog fF.G fF.an 0 Tryz.f260 _ fF.st
abbrev fF.Ok:=cZ @fF.A fF.aB fF.add fF.F fF.out
theorem fF.eq{R:Type}(p:Int)(k:bg→Option R):fF.A p k=
 al (cE.call p) fun x1=>
 al (bf.call (x1,(2305843009213688668:Int))) fun x2=>
 k (fF.out x2):=by kernel_rfl
theorem fF.ok:fF.Ok:=by
 intro p hp
 rw[fF.eq,cE.run (d:=p) hp]
 simp only[ab,cE.add,cE.F]
 rw[bf.run (d:=(tk p,2305843009213688668)) ⟨(D0 p).u,by constructor <;> decide⟩]
 rfl
noncomputable def fF.E:=Entry.cC [some tu] fF.st fF.aB fF.add fF.F fF.out
noncomputable def fF.call:fF.D→Option fF.X:=bS fF.E fF.st
theorem fF.run:bM fF.call fF.aB fF.add fF.F:=dh (dd [.d tu] fun _=>by kernel_rfl)
noncomputable def fF.sg:SG Tryz.prog:=⟨260,aX,fF.E,.fn 0 (by kernel_rfl) fF.ok trivial⟩
abbrev cK.L0.D:=Int×Bs×Int×Int
def cK.L0.st:cK.L0.D→AS:=fun(outv,t6,t7,t8)=>⟨([.undef,.undef,.undef,.d tu outv,.undef,.undef,.d tU t6,.d ti t7,.d ti t8]++bh 9 []),[],(List.replicate 18 [])⟩
abbrev cK.L0.Y0:=Int
abbrev cK.L0.X0:=Int
def cK.L0.bw:cK.L0.X0→Exit×AS:=fun x=>(.exit 0,⟨([.undef,.undef,.undef,.d tu x]++bh 14 []),[],(List.replicate 18 [])⟩)
abbrev cK.L0.X:=cK.L0.X0
abbrev cK.L0.Y:=cK.L0.Y0
def cK.L0.out:cK.L0.X→Out (Exit×AS):=fun x=> .ok (cK.L0.bw x)
def cK.L0.add:cK.L0.D→cK.L0.Y→cK.L0.X:=fun(outv,t6,t7,t8) y=>y
abbrev cK.D:=Bs
def cK.st:cK.D→SA:=fun l=>([.d tU l],[])
abbrev cK.Y:=Int
abbrev cK.X:=Int
def cK.out:cK.X→bg:=fun x=>⟨.d tu x,[],[]⟩
def cK.add:cK.D→cK.Y→cK.X:=fun l y=>y
def cK.L0.aB:cK.L0.D→Prop:=fun(o,l,n,i)=>Pn o∧(∀x∈l,iZ x)∧l.length≤1000000000∧n=l.length∧∃k:Nat,k≤l.length∧i=k
def cK.L0.F:cK.L0.D→cK.L0.Y:=fun(o,l,n,i)=>(l.drop i.toNat).foldl (fun o p=>jW o (tk p)) o
def cK.aB:cK.D→Prop:=fun l=>(∀x∈l,iZ x)∧l.length≤1000000000
def cK.F:cK.D→cK.Y:=fun l=>sC l
noncomputable def cK.G:dY:=fg (P:=Tryz.prog) [cE.sg,de.sg]
noncomputable def cK.L0.E:=bQ.cC cK.L0.st cK.L0.aB cK.L0.add cK.L0.F cK.L0.out
noncomputable def cK.L0.call:cK.L0.D→Option cK.L0.X:=dm cK.L0.E cK.L0.st
noncomputable def cK.an:eI:= {loops:=j4 [(3,{bm:=[3,6,7,8]})],outs:=j3 [(3,{bm:=[3]},{bm:=[2]})],fJ:=kT [(3,cK.L0.E)]}
noncomputable def cK.A:= @cY Tryz.prog cK.G cK.an 0 Tryz.f242 _ cK.st
abbrev cK.Ok:=cZ @cK.A cK.aB cK.add cK.F cK.out
noncomputable def cK.L0.R:= @bV Tryz.prog cK.G cK.an 0 Tryz.f242 0 _ cK.L0.st
abbrev cK.L0.Ok:=ez Tryz.prog cK.G cK.an 0 Tryz.f242 0 cK.L0.st cK.L0.aB cK.L0.add cK.L0.F cK.L0.out
theorem cK.L0.run:bM cK.L0.call cK.L0.aB cK.L0.add cK.L0.F:=eF (eD [.d tu,.d tU,.d ti,.d ti] fun _=>by kernel_rfl)
theorem cK.L0.aD:fP @cK.L0.R cK.L0.st cK.L0.aB cK.L0.add cK.L0.F cK.L0.bw cK.L0.Ok:=fR
theorem cK.L0.step{R:Type}(outv:Int)(t6:Bs)(t7:Int)(t8:Int)(kn:AS→Option R)(kx:Exit→AS→Option R):cK.L0.R (outv,t6,t7,t8) kn kx=
  aK ((fZ t8 t7)) (
   aK (eH t8 (((List.length t6):Nat):Int)) (
   al (cE.call (nth tu t6 (Int.toNat t8))) fun x1=>
   al (de.call (outv,x1)) fun x2=>
   kn (cK.L0.st (x2,t6,t7,(bR .i64 t8 (1:Int))))) none) (
   kx (cK.L0.bw outv).1 (cK.L0.bw outv).2):=by kernel_rfl
theorem cK.eq{R:Type}(l:Bs)(k:bg→Option R):cK.A l k=
 al (cK.L0.call ((1:Int),l,(((List.length l):Nat):Int),(0:Int))) fun x3=>
 k (cK.out x3):=by kernel_rfl
theorem cK.L0.ok:cK.L0.Ok:=by
 refine cK.L0.aD (fun(o,l,n,i)=>l.length - i.toNat) ?_
 rintro⟨o,l,n,i⟩ ⟨ho,hl,hb,rfl,k,hk,rfl⟩
 have ho:Pn o:=ho
 have hb:l.length≤1000000000:=hb
 have hk:k≤l.length:=hk
 by_cases h:k < l.length
 ·left
  have hx:=hl _ (List.getElem_mem h)
  have n1:nth (.int .u64) l k=l[k]:=cG (t:= .int .u64) h
  refine⟨(jW o (tk l[k]),l,l.length,((k+1:Nat):Int)),⟨mg _ _,hl,hb,rfl,k+1,by omega,rfl⟩,by simp only[Int.toNat_natCast];omega,?_,fun kn kx=> ?_⟩
  ·simp only[cK.L0.add,cK.L0.F,Int.toNat_natCast]
   rw[List.drop_eq_getElem_cons h]
   rfl
  ·rw[cK.L0.step]
   simp(disch:=omega) only[↓S1,↓if_pos,↓if_neg,if_pos,if_neg,if_true,if_false,S2,n1]
   rw[cE.run (d:=l[k]) hx]
   simp only[ab,cE.add,cE.F]
   rw[de.run (d:=(o,tk l[k])) ⟨ho.u,(D0 _).u⟩]
   rfl
 ·right
  obtain rfl:k=l.length:=by omega
  intro R kn kx
  rw[cK.L0.step]
  simp(disch:=omega) only[↓S1,↓if_pos,↓if_neg,if_pos,if_neg,if_true,if_false,S2,cK.L0.add,cK.L0.F,List.drop_length]
  rfl
theorem cK.ok:cK.Ok:=by
 rintro l ⟨hl,hb⟩
 rw[cK.eq,cK.L0.run (d:=(1,l,l.length,0)) ⟨⟨by omega,by omega⟩,hl,hb,rfl,0,by omega,rfl⟩]
 rfl
noncomputable def cK.E:=Entry.cC [some tU] cK.st cK.aB cK.add cK.F cK.out
noncomputable def cK.call:cK.D→Option cK.X:=bS cK.E cK.st
theorem cK.run:bM cK.call cK.aB cK.add cK.F:=dh (dd [.d tU] fun _=>by kernel_rfl)
noncomputable def cK.sg:SG Tryz.prog:=⟨242,aX,cK.E,.fn 1 (by kernel_rfl) cK.ok (And.intro (.cC cK.L0.ok (by kernel_rfl)) trivial)⟩
abbrev fE.D:=Int×Int
def fE.st:fE.D→SA:=fun(p,q)=>([.d tu p,.d tu q],[])
abbrev fE.Y:=Int
abbrev fE.X:=Int
def fE.out:fE.X→bg:=fun x=>⟨.d tu x,[],[]⟩
def fE.add:fE.D→fE.Y→fE.X:=fun(p,q) y=>y
def fE.aB:fE.D→Prop:=fun(p,q)=>iZ p∧iZ q
def fE.F:fE.D→fE.Y:=fun(p,q)=>sC [p,q]
noncomputable def fE.G:dY:=fg (P:=Tryz.prog) [cK.sg]
noncomputable def fE.an:eI:= {}
noncomputable def fE.A:= @cY Tryz.prog fE.G fE.an 0 Tryz.f195 _ fE.st
abbrev fE.Ok:=cZ @fE.A fE.aB fE.add fE.F fE.out
theorem fE.eq{R:Type}(p:Int)(q:Int)(k:bg→Option R):fE.A (p,q) k=
 al (cK.call [p,q]) fun x1=>
 k (fE.out x1):=by kernel_rfl
theorem fE.ok:fE.Ok:=by
 rintro⟨p,q⟩ ⟨hp,hq⟩
 have h:cK.aB [p,q]:=⟨by intro x hx;simp only[List.mem_cons,List.not_mem_nil,or_false]at hx;rcases hx with rfl | rfl <;> assumption,by simp only[List.length_cons,List.length_nil];omega⟩
 rw[fE.eq,cK.run h]
 rfl
noncomputable def fE.E:=Entry.cC [some tu,some tu] fE.st fE.aB fE.add fE.F fE.out
noncomputable def fE.call:fE.D→Option fE.X:=bS fE.E fE.st
theorem fE.run:bM fE.call fE.aB fE.add fE.F:=dh (dd [.d tu,.d tu] fun _=>by kernel_rfl)
noncomputable def fE.sg:SG Tryz.prog:=⟨195,aX,fE.E,.fn 0 (by kernel_rfl) fE.ok trivial⟩
set_option synthInstance.maxSize 5000
def Qn(x:Int):Prop:=0≤x∧x < 2305843009213688669
theorem Qn.u{x:Int}(h:Qn x):iZ x:=⟨h.1,by have:=h.2;omega⟩
def Dq(a:Int):Int:=a%2305843009213688669
theorem wX(a:Int):Qn (Dq a):=⟨Int.emod_nonneg _ (by omega),Int.emod_lt_of_pos _ (by omega)⟩
def zi(a b:Int):Int:=(Dq a+Dq b)%2305843009213688669
def wT(a b:Int):Int:=Dq a*Dq b%2305843009213688669
def qa(h:List Int):Int:=h.foldl (fun n b=>(n*256+b)%2305843009213688668) 0+1
def Cm.b(n:Int):Prop:=0≤n∧n < 2305843009213688668
theorem xV(h:List Int)(n:Int)(hn:Cm.b n):Cm.b (h.foldl (fun n b=>(n*256+b)%2305843009213688668) n):=by
 induction h generalizing n with
 |nil=>exact hn
 |cons p l ih=>exact ih _ ⟨Int.emod_nonneg _ (by omega),Int.emod_lt_of_pos _ (by omega)⟩
theorem tm(h:List Int):0 < qa h∧qa h < 2305843009213688669:=by
 have:=xV h 0 ⟨by omega,by omega⟩
 have h1:=this.1
 have h2:=this.2
 unfold qa
 omega
theorem Au(a b:Int):Qn (zi a b):=⟨Int.emod_nonneg _ (by omega),Int.emod_lt_of_pos _ (by omega)⟩
theorem ER(a b:Int):Qn (wT a b):=⟨Int.emod_nonneg _ (by omega),Int.emod_lt_of_pos _ (by omega)⟩
abbrev cM.D:=Int
def cM.st:cM.D→SA:=fun a=>([.d tu a],[])
abbrev cM.Y:=Bool
abbrev cM.X:=Bool
def cM.out:cM.X→bg:=fun x=>⟨.d .bool x,[],[]⟩
def cM.add:cM.D→cM.Y→cM.X:=fun a y=>y
def cM.aB:cM.D→Prop:=fun _=>True
def cM.F:cM.D→cM.Y:=fun a=>fZ a 2305843009213688669
noncomputable def cM.G:dY:=fg (P:=Tryz.prog) []
noncomputable def cM.an:eI:= {}
noncomputable def cM.A:= @cY Tryz.prog cM.G cM.an 0 Tryz.f65 _ cM.st
abbrev cM.Ok:=cZ @cM.A cM.aB cM.add cM.F cM.out
theorem cM.eq{R:Type}(a:Int)(k:bg→Option R):cM.A a k=
 k (cM.out (fZ a (2305843009213688669:Int))):=by kernel_rfl
theorem cM.ok:cM.Ok:=by
 intro a _
 rw[cM.eq]
 rfl
noncomputable def cM.E:=Entry.cC [some tu] cM.st cM.aB cM.add cM.F cM.out
noncomputable def cM.call:cM.D→Option cM.X:=bS cM.E cM.st
theorem cM.run:bM cM.call cM.aB cM.add cM.F:=dh (dd [.d tu] fun _=>by kernel_rfl)
noncomputable def cM.sg:SG Tryz.prog:=⟨65,aX,cM.E,.fn 0 (by kernel_rfl) cM.ok trivial⟩
abbrev iW.D:=Int
def iW.st:iW.D→SA:=fun a=>([.d tu a],[])
abbrev iW.Y:=Int
abbrev iW.X:=Int
def iW.out:iW.X→bg:=fun x=>⟨.d tu x,[],[]⟩
def iW.add:iW.D→iW.Y→iW.X:=fun a y=>y
def iW.aB:iW.D→Prop:=fun a=>iZ a
def iW.F:iW.D→iW.Y:=fun a=>Dq a
noncomputable def iW.G:dY:=fg (P:=Tryz.prog) []
noncomputable def iW.an:eI:= {}
noncomputable def iW.A:= @cY Tryz.prog iW.G iW.an 0 Tryz.f243 _ iW.st
abbrev iW.Ok:=cZ @iW.A iW.aB iW.add iW.F iW.out
theorem iW.eq{R:Type}(a:Int)(k:bg→Option R):iW.A a k=
 k (iW.out (jD a (2305843009213688669:Int))):=by kernel_rfl
theorem iW.ok:iW.Ok:=by
 intro a ha
 rw[iW.eq,oL ha.1]
 rfl
noncomputable def iW.E:=Entry.cC [some tu] iW.st iW.aB iW.add iW.F iW.out
noncomputable def iW.call:iW.D→Option iW.X:=bS iW.E iW.st
theorem iW.run:bM iW.call iW.aB iW.add iW.F:=dh (dd [.d tu] fun _=>by kernel_rfl)
noncomputable def iW.sg:SG Tryz.prog:=⟨243,aX,iW.E,.fn 0 (by kernel_rfl) iW.ok trivial⟩
abbrev eB.D:=Int×Int
def eB.st:eB.D→SA:=fun(a,b)=>([.d tu a,.d tu b],[])
abbrev eB.Y:=Int
abbrev eB.X:=Int
def eB.out:eB.X→bg:=fun x=>⟨.d tu x,[],[]⟩
def eB.add:eB.D→eB.Y→eB.X:=fun(a,b) y=>y
def eB.aB:eB.D→Prop:=fun(a,b)=>Qn a∧Qn b
def eB.F:eB.D→eB.Y:=fun(a,b)=>(a+b)%2305843009213688669
noncomputable def eB.G:dY:=fg (P:=Tryz.prog) []
noncomputable def eB.an:eI:= {}
noncomputable def eB.A:= @cY Tryz.prog eB.G eB.an 0 Tryz.f244 _ eB.st
abbrev eB.Ok:=cZ @eB.A eB.aB eB.add eB.F eB.out
theorem eB.eq{R:Type}(a:Int)(b:Int)(k:bg→Option R):eB.A (a,b) k=
 k (eB.out (jD (bR .u64 a b) (2305843009213688669:Int))):=by kernel_rfl
theorem eB.ok:eB.Ok:=by
 rintro⟨a,b⟩ ⟨ha,hb⟩
 have ha:Qn a:=ha
 have hb:Qn b:=hb
 obtain⟨h1,h2⟩:=ha
 obtain⟨h3,h4⟩:=hb
 have e:bR .u64 a b=a+b:=by rw[lv];omega
 rw[eB.eq,e,oL (by omega)]
 rfl
noncomputable def eB.E:=Entry.cC [some tu,some tu] eB.st eB.aB eB.add eB.F eB.out
noncomputable def eB.call:eB.D→Option eB.X:=bS eB.E eB.st
theorem eB.run:bM eB.call eB.aB eB.add eB.F:=dh (dd [.d tu,.d tu] fun _=>by kernel_rfl)
noncomputable def eB.sg:SG Tryz.prog:=⟨244,aX,eB.E,.fn 0 (by kernel_rfl) eB.ok trivial⟩
abbrev dr.D:=Int×Int
def dr.st:dr.D→SA:=fun(a,b)=>([.d tu a,.d tu b],[])
abbrev dr.Y:=Int
abbrev dr.X:=Int
def dr.out:dr.X→bg:=fun x=>⟨.d tu x,[],[]⟩
def dr.add:dr.D→dr.Y→dr.X:=fun(a,b) y=>y
def dr.aB:dr.D→Prop:=fun(a,b)=>Qn a∧Qn b
def dr.F:dr.D→dr.Y:=fun(a,b)=>a*b%2305843009213688669
noncomputable def dr.G:dY:=fg (P:=Tryz.prog) [dH.sg,dy.sg]
noncomputable def dr.an:eI:= {}
noncomputable def dr.A:= @cY Tryz.prog dr.G dr.an 0 Tryz.f245 _ dr.st
abbrev dr.Ok:=cZ @dr.A dr.aB dr.add dr.F dr.out
theorem dr.eq{R:Type}(a:Int)(b:Int)(k:bg→Option R):dr.A (a,b) k=
 al (dH.call (a,b)) fun x1=>
 al (dy.call (x1.1,x1.2,(2305843009213688669:Int))) fun x2=>
 k (dr.out x2):=by kernel_rfl
theorem dr.ok:dr.Ok:=by
 rintro⟨a,b⟩ ⟨ha,hb⟩
 have ha:Qn a:=ha
 have hb:Qn b:=hb
 obtain⟨m1,m2⟩:=rz ha.1 (show a≤18446744073709551615 by have:=ha.2;omega) hb.1 (show b≤18446744073709551615 by have:=hb.2;omega)
 have n:(18446744073709551615:Int)*18446744073709551615=340282366920938463426481119284349108225:=rfl
 rw[n]at m2
 have p:dy.aB (a*b / 18446744073709551616,a*b%18446744073709551616,2305843009213688669):=⟨Or.inr (Or.inl rfl),by omega,by omega,by omega,by omega⟩
 rw[dr.eq,dH.run (d:=(a,b)) ⟨ha.u,hb.u⟩]
 simp only[ab,dH.add,dH.F]
 rw[dy.run p]
 simp only[ab,dy.add,dy.F,uD]
 rfl
noncomputable def dr.E:=Entry.cC [some tu,some tu] dr.st dr.aB dr.add dr.F dr.out
noncomputable def dr.call:dr.D→Option dr.X:=bS dr.E dr.st
theorem dr.run:bM dr.call dr.aB dr.add dr.F:=dh (dd [.d tu,.d tu] fun _=>by kernel_rfl)
noncomputable def dr.sg:SG Tryz.prog:=⟨245,aX,dr.E,.fn 0 (by kernel_rfl) dr.ok trivial⟩
abbrev fK.D:=Int×Int
def fK.st:fK.D→SA:=fun(a,b)=>([.d tu a,.d tu b],[])
abbrev fK.Y:=Int
abbrev fK.X:=Int
def fK.out:fK.X→bg:=fun x=>⟨.d tu x,[],[]⟩
def fK.add:fK.D→fK.Y→fK.X:=fun(a,b) y=>y
def fK.aB:fK.D→Prop:=fun(a,b)=>iZ a∧iZ b
def fK.F:fK.D→fK.Y:=fun(a,b)=>zi a b
noncomputable def fK.G:dY:=fg (P:=Tryz.prog) [iW.sg,eB.sg]
noncomputable def fK.an:eI:= {}
noncomputable def fK.A:= @cY Tryz.prog fK.G fK.an 0 Tryz.f196 _ fK.st
abbrev fK.Ok:=cZ @fK.A fK.aB fK.add fK.F fK.out
theorem fK.eq{R:Type}(a:Int)(b:Int)(k:bg→Option R):fK.A (a,b) k=
 al (iW.call a) fun x1=>
 al (iW.call b) fun x2=>
 al (eB.call (x1,x2)) fun x3=>
 k (fK.out x3):=by kernel_rfl
theorem fK.ok:fK.Ok:=by
 rintro⟨a,b⟩ ⟨ha,hb⟩
 rw[fK.eq,iW.run (d:=a) ha,iW.run (d:=b) hb]
 simp only[ab,iW.add,iW.F]
 rw[eB.run (d:=(Dq a,Dq b)) ⟨wX a,wX b⟩]
 rfl
noncomputable def fK.E:=Entry.cC [some tu,some tu] fK.st fK.aB fK.add fK.F fK.out
noncomputable def fK.call:fK.D→Option fK.X:=bS fK.E fK.st
theorem fK.run:bM fK.call fK.aB fK.add fK.F:=dh (dd [.d tu,.d tu] fun _=>by kernel_rfl)
noncomputable def fK.sg:SG Tryz.prog:=⟨196,aX,fK.E,.fn 0 (by kernel_rfl) fK.ok trivial⟩
abbrev fC.D:=Int×Int
def fC.st:fC.D→SA:=fun(a,b)=>([.d tu a,.d tu b],[])
abbrev fC.Y:=Int
abbrev fC.X:=Int
def fC.out:fC.X→bg:=fun x=>⟨.d tu x,[],[]⟩
def fC.add:fC.D→fC.Y→fC.X:=fun(a,b) y=>y
def fC.aB:fC.D→Prop:=fun(a,b)=>iZ a∧iZ b
def fC.F:fC.D→fC.Y:=fun(a,b)=>wT a b
noncomputable def fC.G:dY:=fg (P:=Tryz.prog) [iW.sg,dr.sg]
noncomputable def fC.an:eI:= {}
noncomputable def fC.A:= @cY Tryz.prog fC.G fC.an 0 Tryz.f197 _ fC.st
abbrev fC.Ok:=cZ @fC.A fC.aB fC.add fC.F fC.out
theorem fC.eq{R:Type}(a:Int)(b:Int)(k:bg→Option R):fC.A (a,b) k=
 al (iW.call a) fun x1=>
 al (iW.call b) fun x2=>
 al (dr.call (x1,x2)) fun x3=>
 k (fC.out x3):=by kernel_rfl
theorem fC.ok:fC.Ok:=by
 rintro⟨a,b⟩ ⟨ha,hb⟩
 rw[fC.eq,iW.run (d:=a) ha,iW.run (d:=b) hb]
 simp only[ab,iW.add,iW.F]
 rw[dr.run (d:=(Dq a,Dq b)) ⟨wX a,wX b⟩]
 rfl
noncomputable def fC.E:=Entry.cC [some tu,some tu] fC.st fC.aB fC.add fC.F fC.out
noncomputable def fC.call:fC.D→Option fC.X:=bS fC.E fC.st
theorem fC.run:bM fC.call fC.aB fC.add fC.F:=dh (dd [.d tu,.d tu] fun _=>by kernel_rfl)
noncomputable def fC.sg:SG Tryz.prog:=⟨197,aX,fC.E,.fn 0 (by kernel_rfl) fC.ok trivial⟩
abbrev bF.L0.D:=Int×Bs×Int
def bF.L0.st:bF.L0.D→AS:=fun(n,t6,t7)=>⟨([.undef,.undef,.undef,.d tu n,.undef,.undef,.d tH t6,.d ti t7]++bh 13 []),[],(List.replicate 21 [])⟩
abbrev bF.L0.Y0:=Int
abbrev bF.L0.X0:=Int
def bF.L0.bw:bF.L0.X0→Exit×AS:=fun x=>(.exit 0,⟨([.undef,.undef,.undef,.d tu x]++bh 17 []),[],(List.replicate 21 [])⟩)
abbrev bF.L0.X:=bF.L0.X0
abbrev bF.L0.Y:=bF.L0.Y0
def bF.L0.out:bF.L0.X→Out (Exit×AS):=fun x=> .ok (bF.L0.bw x)
def bF.L0.add:bF.L0.D→bF.L0.Y→bF.L0.X:=fun(n,t6,t7) y=>y
abbrev bF.D:=Bs
def bF.st:bF.D→SA:=fun h=>([.d tH h],[])
abbrev bF.Y:=Int
abbrev bF.X:=Int
def bF.out:bF.X→bg:=fun x=>⟨.d tu x,[],[]⟩
def bF.add:bF.D→bF.Y→bF.X:=fun h y=>y
def bF.L0.aB:bF.L0.D→Prop:=fun(n,h,i)=>Cm.b n∧h.length=32∧Bytes h∧∃k:Nat,k≤32∧i=k
def bF.L0.F:bF.L0.D→bF.L0.Y:=fun(n,h,i)=>(h.drop i.toNat).foldl (fun n b=>(n*256+b)%2305843009213688668) n
def bF.aB:bF.D→Prop:=fun h=>h.length=32∧Bytes h
def bF.F:bF.D→bF.Y:=fun h=>qa h
noncomputable def bF.G:dY:=fg (P:=Tryz.prog) [dy.sg]
noncomputable def bF.L0.E:=bQ.cC bF.L0.st bF.L0.aB bF.L0.add bF.L0.F bF.L0.out
noncomputable def bF.L0.call:bF.L0.D→Option bF.L0.X:=dm bF.L0.E bF.L0.st
noncomputable def bF.an:eI:= {loops:=j4 [(3,{bm:=[3,6,7]})],outs:=j3 [(3,{bm:=[3]},{bm:=[2]})],fJ:=kT [(3,bF.L0.E)]}
noncomputable def bF.A:= @cY Tryz.prog bF.G bF.an 0 Tryz.f136 _ bF.st
abbrev bF.Ok:=cZ @bF.A bF.aB bF.add bF.F bF.out
noncomputable def bF.L0.R:= @bV Tryz.prog bF.G bF.an 0 Tryz.f136 0 _ bF.L0.st
abbrev bF.L0.Ok:=ez Tryz.prog bF.G bF.an 0 Tryz.f136 0 bF.L0.st bF.L0.aB bF.L0.add bF.L0.F bF.L0.out
theorem bF.L0.run:bM bF.L0.call bF.L0.aB bF.L0.add bF.L0.F:=eF (eD [.d tu,.d tB,.d ti] fun _=>by kernel_rfl)
theorem bF.L0.aD:fP @bF.L0.R bF.L0.st bF.L0.aB bF.L0.add bF.L0.F bF.L0.bw bF.L0.Ok:=fR
theorem bF.L0.step{R:Type}(n:Int)(t6:Bs)(t7:Int)(kn:AS→Option R)(kx:Exit→AS→Option R):bF.L0.R (n,t6,t7) kn kx=
  aK ((fZ t7 (32:Int))) (
   aK (eH t7 (32:Int)) (
   al (dy.call ((bT .u64 n (56:Int)),(ct .or .u64 (gN .u64 n (8:Int)) (dJ .u64 (nth tb t6 (Int.toNat t7)))),(2305843009213688668:Int))) fun x1=>
   kn (bF.L0.st (x1,t6,(bR .i64 t7 (1:Int))))) none) (
   kx (bF.L0.bw n).1 (bF.L0.bw n).2):=by kernel_rfl
theorem bF.eq{R:Type}(h:Bs)(k:bg→Option R):bF.A h k=
 al (bF.L0.call ((0:Int),h,(0:Int))) fun x2=>
 k (bF.out (bR .u64 x2 (1:Int))):=by kernel_rfl
theorem rR{n b:Int}(hn:Cm.b n)(hb:xl b):bT .u64 n 56*18446744073709551616+ct .or .u64 (gN .u64 n 8) (dJ .u64 b)=n*256+b∧iZ (bT .u64 n 56)∧iZ (ct .or .u64 (gN .u64 n 8) (dJ .u64 b)):=by
 obtain⟨h1,h2⟩:=hn
 obtain⟨h3,h4⟩:=hb
 have p56:(2:Int)^56=72057594037927936:=rfl
 have p8:(2:Int)^8=256:=rfl
 have e:dJ .u64 b=b:=by rw[C1];omega
 rw[ku 56 (by rfl) (by omega),kr 8 (by rfl) (by omega),p56,p8,e,qs 8 256 rfl (by omega) (by omega) (by omega) (by omega) (by omega) (by omega)]
 exact⟨by omega,⟨by omega,by omega⟩,by omega,by omega⟩
theorem bF.L0.ok:bF.L0.Ok:=by
 refine bF.L0.aD (fun(n,h,i)=>32 - i.toNat) ?_
 rintro⟨n,h,i⟩ ⟨hn,hl,hb,k,hk,rfl⟩
 have hn:Cm.b n:=hn
 have hl:h.length=32:=hl
 have hb:Bytes h:=hb
 by_cases hlt:k < 32
 ·left
  have hx:xl (h[k]'(by omega)):=hb _ (List.getElem_mem _)
  have n1:nth (.int .u8) h k=h[k]'(by omega):=cG (t:= .int .u8) (by omega)
  obtain⟨d1,d2,d3⟩:=rR hn hx
  refine⟨((n*256+h[k]'(by omega))%2305843009213688668,h,((k+1:Nat):Int)),⟨⟨by omega,by omega⟩,hl,hb,k+1,by omega,rfl⟩,by simp only[Int.toNat_natCast];omega,?_,fun kn kx=> ?_⟩
  ·simp only[bF.L0.add,bF.L0.F,Int.toNat_natCast]
   rw[List.drop_eq_getElem_cons (by omega:k < h.length)]
   rfl
  ·rw[bF.L0.step]
   simp(disch:=omega) only[↓S1,↓if_pos,↓if_neg,if_pos,if_neg,if_true,if_false,S2,n1]
   rw[dy.run (d:=(_,_,2305843009213688668)) ⟨Or.inr (Or.inr rfl),d2.1,d2.2,d3.1,d3.2⟩]
   simp only[ab,dy.add,dy.F,d1]
 ·right
  obtain rfl:k=32:=by omega
  intro R kn kx
  rw[bF.L0.step]
  simp(disch:=omega) only[↓S1,↓if_pos,↓if_neg,if_pos,if_neg,if_true,if_false,S2,bF.L0.add,bF.L0.F]
  rw[List.drop_of_length_le (by omega)]
  rfl
theorem bF.ok:bF.Ok:=by
 rintro h ⟨hl,hb⟩
 have e:=xV h 0 ⟨by omega,by omega⟩
 have h1:=e.1
 have h2:=e.2
 rw[bF.eq,bF.L0.run (d:=(0,h,0)) ⟨⟨by omega,by omega⟩,hl,hb,0,by omega,rfl⟩]
 simp only[ab,bF.L0.add,bF.L0.F,bF.add,bF.F,qa,Int.toNat_zero,List.drop_zero]
 revert h1 h2
 generalize h.foldl (fun n b=>(n*256+b)%2305843009213688668) 0=m
 intro h1 h2
 have e:bR .u64 m 1=m+1:=by rw[lv];omega
 rw[e]
noncomputable def bF.E:=Entry.cC [some tH] bF.st bF.aB bF.add bF.F bF.out
noncomputable def bF.call:bF.D→Option bF.X:=bS bF.E bF.st
theorem bF.run:bM bF.call bF.aB bF.add bF.F:=dh (dd [.d tB] fun _=>by kernel_rfl)
noncomputable def bF.sg:SG Tryz.prog:=⟨136,aX,bF.E,.fn 1 (by kernel_rfl) bF.ok (And.intro (.cC bF.L0.ok (by kernel_rfl)) trivial)⟩
set_option synthInstance.maxSize 5000
theorem xC(n:Int): [dJ .u8 (bT .u64 n 56),dJ .u8 (bT .u64 n 48),dJ .u8 (bT .u64 n 40),dJ .u8 (bT .u64 n 32),dJ .u8 (bT .u64 n 24),dJ .u8 (bT .u64 n 16),dJ .u8 (bT .u64 n 8),dJ .u8 (bT .u64 n 0)]=hZ n:=zm n
theorem e7{α:Type}{l:List α}{n:Nat}(h:l.length=n):cut l 0 n=l:=by subst h;simp[cut]
theorem DZ{n:ByteArray}{a b c:List Int}(hn:n.size≤100)(ha:a.length≤1000000)(hb:b.length≤1000000)(hc:c.length≤1000000):ch.aB (n,[a,b,c]):=by
 show(rJ _ [a,b,c]).length≤_
 rw[rJ]
 simp only[iB,List.flatMap_cons,List.flatMap_nil,List.length_append,bW,gB,List.length_nil]
 omega
theorem DY{n:ByteArray}{a b:List Int}(hn:n.size≤100)(ha:a.length≤1000000)(hb:b.length≤1000000):ch.aB (n,[a,b]):=by
 show(rJ _ [a,b]).length≤_
 rw[rJ]
 simp only[iB,List.flatMap_cons,List.flatMap_nil,List.length_append,bW,gB,List.length_nil]
 omega
theorem DX{n:ByteArray}{a:List Int}(hn:n.size≤100)(ha:a.length≤1000000):ch.aB (n,[a]):=by
 show(rJ _ [a]).length≤_
 rw[rJ]
 simp only[iB,List.flatMap_cons,List.flatMap_nil,List.length_append,bW,gB,List.length_nil]
 omega
def Sm(m:List Int):Prop:=m.length=32∧Bytes m
theorem GC(b:List Int):Sm (Gw b):=⟨Ad b,Br b⟩
theorem Af(n:List Int)(ps:List (List Int)):Sm (tag n ps):=GC _
def DW(n:ByteArray)(ps:List (List Int)):List Int:=tag (bt n) ps
def Hw:ByteArray:=⟨#[115,105,103]⟩
def zS:ByteArray:=⟨#[110,111,110,99,101]⟩
def nD(r p:Int)(m:List Int):Int:=qa (DW Hw [hZ r,hZ p,m])
theorem s6(r p:Int)(m:List Int):Qn (nD r p m):=by
 have:=tm (DW Hw [hZ r,hZ p,m])
 exact⟨by unfold nD;omega,by unfold nD;omega⟩
def FI(s:Sg):Prop:=iZ s.1∧iZ s.2.1
def lK(p:Int)(m:List Int)(t:Int)(s:Sg):Bool:=
 if p=1∨mu p=false∨mu t=false∨mu s.1=false∨¬s.2.1 < 2305843009213688669 then false
 else decide (eZ s.2.1=sC [s.1,nr p (nD s.1 p m),yw t])
def we(k nonce:Int)(m:List Int)(t:Int):Sg:=
 (sC [eZ nonce,t],zi nonce (wT (nD (sC [eZ nonce,t]) (eZ k) m) k),())
def Dp(k:Int)(m:List Int):Int:=qa (DW zS [hZ k,m])
def ij(k:Int)(m:List Int):Sg:=if k < 2305843009213688669∧k≠0 then we k (Dp k m) m 1 else(0,0,())
abbrev cT.D:=Int
def cT.st:cT.D→SA:=fun n=>([.d tu n],[])
abbrev cT.Y:=Bs
abbrev cT.X:=Bs
def cT.out:cT.X→bg:=fun x=>⟨.d tB x,[],[]⟩
def cT.add:cT.D→cT.Y→cT.X:=fun n y=>y
def cT.aB:cT.D→Prop:=fun _=>True
def cT.F:cT.D→cT.Y:=fun n=>hZ n
noncomputable def cT.G:dY:=fg (P:=Tryz.prog) []
noncomputable def cT.an:eI:= {loops:=j4 [(3,{bm:=[0,3,7,8],sites:=[5]})],outs:=j3 [(3,{bm:=[3],sites:=[5]},{bm:=[2],sites:=[5]})],res:=[some tB]}
noncomputable def cT.A:= @cY Tryz.prog cT.G cT.an 12 Tryz.f137 _ cT.st
abbrev cT.Ok:=cZ @cT.A cT.aB cT.add cT.F cT.out
theorem cT.eq{R:Type}(n:Int)(k:bg→Option R):cT.A n k=
 k (cT.out [(dJ .u8 (bT .u64 n (56:Int))),(dJ .u8 (bT .u64 n (48:Int))),(dJ .u8 (bT .u64 n (40:Int))),(dJ .u8 (bT .u64 n (32:Int))),(dJ .u8 (bT .u64 n (24:Int))),(dJ .u8 (bT .u64 n (16:Int))),(dJ .u8 (bT .u64 n (8:Int))),(dJ .u8 (bT .u64 n (0:Int)))]):=by kernel_rfl
theorem cT.ok:cT.Ok:=by
 intro n _
 rw[cT.eq,xC]
 rfl
noncomputable def cT.E:=Entry.cC [some tu] cT.st cT.aB cT.add cT.F cT.out
noncomputable def cT.call:cT.D→Option cT.X:=bS cT.E cT.st
theorem cT.run:bM cT.call cT.aB cT.add cT.F:=dh (dd [.d tu] fun _=>by kernel_rfl)
noncomputable def cT.sg:SG Tryz.prog:=⟨137,aX,cT.E,.fn 1 (by kernel_rfl) cT.ok (And.intro (.none (by kernel_rfl)) trivial)⟩
abbrev dL.D:=Int×Int×Bs
def dL.st:dL.D→SA:=fun(r,p,m)=>([.d tu r,.d tu p,.d tH m],[])
abbrev dL.Y:=Int
abbrev dL.X:=Int
def dL.out:dL.X→bg:=fun x=>⟨.d tu x,[],[]⟩
def dL.add:dL.D→dL.Y→dL.X:=fun(r,p,m) y=>y
def dL.aB:dL.D→Prop:=fun(r,p,m)=>Sm m
def dL.F:dL.D→dL.Y:=fun(r,p,m)=>nD r p m
noncomputable def dL.G:dY:=fg (P:=Tryz.prog) [cT.sg,ch.sg,bF.sg]
noncomputable def dL.an:eI:= {}
noncomputable def dL.A:= @cY Tryz.prog dL.G dL.an 0 Tryz.f198 _ dL.st
abbrev dL.Ok:=cZ @dL.A dL.aB dL.add dL.F dL.out
theorem dL.eq{R:Type}(r:Int)(p:Int)(m:Bs)(k:bg→Option R):dL.A (r,p,m) k=
 al (cT.call r) fun x1=>
 al (cT.call p) fun x2=>
 al (ch.call ((⟨#[115,105,103]⟩:ByteArray),[x1,x2,(cut m 0 32)])) fun x3=>
 al (bF.call x3) fun x4=>
 k (dL.out x4):=by kernel_rfl
theorem dL.ok:dL.Ok:=by
 rintro⟨r,p,m⟩ hm
 have hm:Sm m:=hm
 rw[dL.eq,cT.run (d:=r) trivial,cT.run (d:=p) trivial]
 simp only[ab,cT.add,cT.F]
 rw[e7 hm.1,ch.run (DZ (by decide) (by rw[bW];omega) (by rw[bW];omega) (by rw[hm.1];omega))]
 simp only[ab,ch.add,ch.F]
 rw[bF.run (d:=tag (bt (⟨#[115,105,103]⟩:ByteArray)) [hZ r,hZ p,m]) (Af _ _)]
 rfl
noncomputable def dL.E:=Entry.cC [some tu,some tu,some tH] dL.st dL.aB dL.add dL.F dL.out
noncomputable def dL.call:dL.D→Option dL.X:=bS dL.E dL.st
theorem dL.run:bM dL.call dL.aB dL.add dL.F:=dh (dd [.d tu,.d tu,.d tB] fun _=>by kernel_rfl)
noncomputable def dL.sg:SG Tryz.prog:=⟨198,aX,dL.E,.fn 0 (by kernel_rfl) dL.ok trivial⟩
abbrev bZ.D:=Int×Bs×Int×Sg
def bZ.st:bZ.D→SA:=fun(p,m,t,pre)=>([.d tu p,.d tH m,.d tu t,.d nK pre],[])
abbrev bZ.Y:=Bool
abbrev bZ.X:=Bool
def bZ.out:bZ.X→bg:=fun x=>⟨.d .bool x,[],[]⟩
def bZ.add:bZ.D→bZ.Y→bZ.X:=fun(p,m,t,pre) y=>y
def bZ.aB:bZ.D→Prop:=fun(p,m,t,s)=>iZ p∧Sm m∧iZ t∧FI s
def bZ.F:bZ.D→bZ.Y:=fun(p,m,t,s)=>lK p m t s
noncomputable def bZ.G:dY:=fg (P:=Tryz.prog) [ck.sg,cM.sg,dL.sg,di.sg,fF.sg,cK.sg,dv.sg]
noncomputable def bZ.an:eI:= {}
noncomputable def bZ.A:= @cY Tryz.prog bZ.G bZ.an 0 Tryz.f216 _ bZ.st
abbrev bZ.Ok:=cZ @bZ.A bZ.aB bZ.add bZ.F bZ.out
theorem bZ.eq{R:Type}(p:Int)(m:Bs)(t:Int)(pre:Sg)(k:bg→Option R):bZ.A (p,m,t,pre) k=
  aK ((jy p (1:Int))) (
   k (bZ.out false)) (
   al (ck.call p) fun x1=>
   aK ((!x1)) (
    k (bZ.out false)) (
    al (ck.call t) fun x2=>
    aK ((!x2)) (
     k (bZ.out false)) (
     al (ck.call pre.1) fun x3=>
     aK ((!x3)) (
      k (bZ.out false)) (
      al (cM.call pre.2.1) fun x4=>
      aK ((!x4)) (
       k (bZ.out false)) (
       al (dL.call (pre.1,p,m)) fun x5=>
       al (di.call (p,x5)) fun x6=>
       al (fF.call t) fun x7=>
       al (cK.call [pre.1,x6,x7]) fun x8=>
       al (dv.call pre.2.1) fun x9=>
       k (bZ.out (jy x9 x8))))))):=by kernel_rfl
theorem bZ.ok:bZ.Ok:=by
 rintro⟨p,m,t,s⟩ ⟨hp,hm,ht,hs⟩
 have hp:iZ p:=hp
 have ht:iZ t:=ht
 have hm:Sm m:=hm
 have hs:FI s:=hs
 rw[bZ.eq,ck.run (d:=p) hp,ck.run (d:=t) ht,ck.run (d:=s.1) hs.1,cM.run (d:=s.2.1) trivial]
 simp only[ab,ck.add,ck.F,cM.add,cM.F,bZ.add,bZ.F,lK]
 by_cases h1:p=1
 ·rw[ia h1,ai,if_pos (Or.inl h1)]
 rw[iO h1,ao]
 cases h2:mu p
 ·rw[if_pos (Or.inr (Or.inl rfl))];rfl
 cases h3:mu t
 ·rw[if_pos (Or.inr (Or.inr (Or.inl rfl)))];rfl
 cases h4:mu s.1
 ·rw[if_pos (Or.inr (Or.inr (Or.inr (Or.inl rfl))))];rfl
 by_cases h5:s.2.1 < 2305843009213688669
 ·rw[bu h5,if_neg (by simp[h1,h5])]
  have hq:=s6 s.1 p m
  rw[dL.run (d:=(s.1,p,m)) hm]
  simp only[Bool.not_true,ao,ab,dL.add,dL.F]
  rw[di.run (d:=(p,nD s.1 p m)) ⟨hp,hq.u⟩,fF.run (d:=t) ht]
  simp only[ab,di.add,di.F,fF.add,fF.F]
  have q:cK.aB [s.1,nr p (nD s.1 p m),yw t]:=⟨by
   intro x hx
   simp only[List.mem_cons,List.not_mem_nil,or_false]at hx
   rcases hx with rfl | rfl | rfl
   ·exact hs.1
   ·exact(yN _ _).u
   ·exact(yN _ _).u,by simp only[List.length_cons,List.length_nil];omega⟩
  rw[cK.run q,dv.run (d:=s.2.1) hs.2]
  rfl
 ·rw[bk h5,if_pos (Or.inr (Or.inr (Or.inr (Or.inr h5))))];rfl
noncomputable def bZ.E:=Entry.cC [some tu,some tH,some tu,some nK] bZ.st bZ.aB bZ.add bZ.F bZ.out
noncomputable def bZ.call:bZ.D→Option bZ.X:=bS bZ.E bZ.st
theorem bZ.run:bM bZ.call bZ.aB bZ.add bZ.F:=dh (dd [.d tu,.d tB,.d tu,.d nK] fun _=>by kernel_rfl)
noncomputable def bZ.sg:SG Tryz.prog:=⟨216,aX,bZ.E,.fn 0 (by kernel_rfl) bZ.ok trivial⟩
abbrev cw.D:=Int×Bs×Sg
def cw.st:cw.D→SA:=fun(p,m,sv)=>([.d tu p,.d tH m,.d nK sv],[])
abbrev cw.Y:=Bool
abbrev cw.X:=Bool
def cw.out:cw.X→bg:=fun x=>⟨.d .bool x,[],[]⟩
def cw.add:cw.D→cw.Y→cw.X:=fun(p,m,sv) y=>y
def cw.aB:cw.D→Prop:=fun(p,m,s)=>iZ p∧Sm m∧FI s
def cw.F:cw.D→cw.Y:=fun(p,m,s)=>lK p m 1 s
noncomputable def cw.G:dY:=fg (P:=Tryz.prog) [bZ.sg]
noncomputable def cw.an:eI:= {}
noncomputable def cw.A:= @cY Tryz.prog cw.G cw.an 0 Tryz.f158 _ cw.st
abbrev cw.Ok:=cZ @cw.A cw.aB cw.add cw.F cw.out
theorem cw.eq{R:Type}(p:Int)(m:Bs)(sv:Sg)(k:bg→Option R):cw.A (p,m,sv) k=
 al (bZ.call (p,m,(1:Int),sv)) fun x1=>
 k (cw.out x1):=by kernel_rfl
theorem cw.ok:cw.Ok:=by
 rintro⟨p,m,s⟩ ⟨hp,hm,hs⟩
 rw[cw.eq,bZ.run (d:=(p,m,1,s)) ⟨hp,hm,⟨by omega,by omega⟩,hs⟩]
 rfl
noncomputable def cw.E:=Entry.cC [some tu,some tH,some nK] cw.st cw.aB cw.add cw.F cw.out
noncomputable def cw.call:cw.D→Option cw.X:=bS cw.E cw.st
theorem cw.run:bM cw.call cw.aB cw.add cw.F:=dh (dd [.d tu,.d tB,.d nK] fun _=>by kernel_rfl)
noncomputable def cw.sg:SG Tryz.prog:=⟨158,aX,cw.E,.fn 0 (by kernel_rfl) cw.ok trivial⟩
abbrev fu.D:=Int
def fu.st:fu.D→SA:=fun kv=>([.d tu kv],[])
abbrev fu.Y:=Bool
abbrev fu.X:=Bool
def fu.out:fu.X→bg:=fun x=>⟨.d .bool x,[],[]⟩
def fu.add:fu.D→fu.Y→fu.X:=fun kv y=>y
def fu.aB:fu.D→Prop:=fun _=>True
def fu.F:fu.D→fu.Y:=fun k=>decide (k < 2305843009213688669∧k≠0)
noncomputable def fu.G:dY:=fg (P:=Tryz.prog) [cM.sg]
noncomputable def fu.an:eI:= {}
noncomputable def fu.A:= @cY Tryz.prog fu.G fu.an 0 Tryz.f134 _ fu.st
abbrev fu.Ok:=cZ @fu.A fu.aB fu.add fu.F fu.out
theorem fu.eq{R:Type}(kv:Int)(k:bg→Option R):fu.A kv k=
  al (cM.call kv) fun x1=>
  aK (x1) (
   k (fu.out (mZ kv (0:Int)))) (
   k (fu.out false)):=by kernel_rfl
theorem fu.ok:fu.Ok:=by
 intro k _
 rw[fu.eq,cM.run (d:=k) trivial]
 simp only[ab,cM.add,cM.F,fu.add,fu.F]
 by_cases h:k < 2305843009213688669
 ·rw[bu h,ai]
  by_cases h0:k=0
  ·rw[cg h0,bq (fun x=>x.2 h0)]
  ·rw[dR h0,aY ⟨h,h0⟩]
 ·rw[bk h,ao,bq (fun x=>h x.1)]
noncomputable def fu.E:=Entry.cC [some tu] fu.st fu.aB fu.add fu.F fu.out
noncomputable def fu.call:fu.D→Option fu.X:=bS fu.E fu.st
theorem fu.run:bM fu.call fu.aB fu.add fu.F:=dh (dd [.d tu] fun _=>by kernel_rfl)
noncomputable def fu.sg:SG Tryz.prog:=⟨134,aX,fu.E,.fn 0 (by kernel_rfl) fu.ok trivial⟩
abbrev cI.D:=Int×Int×Bs×Int
def cI.st:cI.D→SA:=fun(kv,nonce,m,t)=>([.d tu kv,.d tu nonce,.d tH m,.d tu t],[])
abbrev cI.Y:=Sg
abbrev cI.X:=Sg
def cI.out:cI.X→bg:=fun x=>⟨.d nK x,[],[]⟩
def cI.add:cI.D→cI.Y→cI.X:=fun(kv,nonce,m,t) y=>y
def cI.aB:cI.D→Prop:=fun(k,n,m,t)=>iZ k∧iZ n∧Sm m∧iZ t
def cI.F:cI.D→cI.Y:=fun(k,n,m,t)=>we k n m t
noncomputable def cI.G:dY:=fg (P:=Tryz.prog) [dv.sg,fE.sg,dL.sg,fC.sg,fK.sg]
noncomputable def cI.an:eI:= {}
noncomputable def cI.A:= @cY Tryz.prog cI.G cI.an 0 Tryz.f135 _ cI.st
abbrev cI.Ok:=cZ @cI.A cI.aB cI.add cI.F cI.out
theorem cI.eq{R:Type}(kv:Int)(nonce:Int)(m:Bs)(t:Int)(k:bg→Option R):cI.A (kv,nonce,m,t) k=
 al (dv.call nonce) fun x1=>
 al (fE.call (x1,t)) fun x2=>
 al (dv.call kv) fun x3=>
 al (dL.call (x2,x3,m)) fun x4=>
 al (fC.call (x4,kv)) fun x5=>
 al (fK.call (nonce,x5)) fun x6=>
 k (cI.out (x2,(x6,()))):=by kernel_rfl
theorem cI.ok:cI.Ok:=by
 rintro⟨k,n,m,t⟩ ⟨hk,hn,hm,ht⟩
 have hk:iZ k:=hk
 have hn:iZ n:=hn
 have hm:Sm m:=hm
 have ht:iZ t:=ht
 rw[cI.eq,dv.run (d:=n) hn]
 simp only[ab,dv.add,dv.F]
 rw[fE.run (d:=(eZ n,t)) ⟨(yN _ _).u,ht⟩,dv.run (d:=k) hk]
 simp only[ab,dv.add,dv.F,fE.add,fE.F]
 rw[dL.run (d:=(sC [eZ n,t],eZ k,m)) hm]
 simp only[ab,dL.add,dL.F]
 rw[fC.run (d:=(nD (sC [eZ n,t]) (eZ k) m,k)) ⟨(s6 _ _ _).u,hk⟩]
 simp only[ab,fC.add,fC.F]
 rw[fK.run (d:=(n,wT (nD (sC [eZ n,t]) (eZ k) m) k)) ⟨hn,(ER _ _).u⟩]
 rfl
noncomputable def cI.E:=Entry.cC [some tu,some tu,some tH,some tu] cI.st cI.aB cI.add cI.F cI.out
noncomputable def cI.call:cI.D→Option cI.X:=bS cI.E cI.st
theorem cI.run:bM cI.call cI.aB cI.add cI.F:=dh (dd [.d tu,.d tu,.d tB,.d tu] fun _=>by kernel_rfl)
noncomputable def cI.sg:SG Tryz.prog:=⟨135,aX,cI.E,.fn 0 (by kernel_rfl) cI.ok trivial⟩
abbrev dV.D:=Int×Bs
def dV.st:dV.D→SA:=fun(kv,m)=>([.d tu kv,.d tH m],[])
abbrev dV.Y:=Sg
abbrev dV.X:=Sg
def dV.out:dV.X→bg:=fun x=>⟨.d nK x,[],[]⟩
def dV.add:dV.D→dV.Y→dV.X:=fun(kv,m) y=>y
def dV.aB:dV.D→Prop:=fun(k,m)=>iZ k∧Sm m
def dV.F:dV.D→dV.Y:=fun(k,m)=>ij k m
noncomputable def dV.G:dY:=fg (P:=Tryz.prog) [fu.sg,cT.sg,ch.sg,bF.sg,cI.sg]
noncomputable def dV.an:eI:= {}
noncomputable def dV.A:= @cY Tryz.prog dV.G dV.an 0 Tryz.f69 _ dV.st
abbrev dV.Ok:=cZ @dV.A dV.aB dV.add dV.F dV.out
theorem dV.eq{R:Type}(kv:Int)(m:Bs)(k:bg→Option R):dV.A (kv,m) k=
  al (fu.call kv) fun x1=>
  aK ((!x1)) (
   k (dV.out ((0:Int),((0:Int),())))) (
   al (cT.call kv) fun x2=>
   al (ch.call ((⟨#[110,111,110,99,101]⟩:ByteArray),[x2,(cut m 0 32)])) fun x3=>
   al (bF.call x3) fun x4=>
   al (cI.call (kv,x4,m,(1:Int))) fun x5=>
   k (dV.out x5)):=by kernel_rfl
theorem dV.ok:dV.Ok:=by
 rintro⟨k,m⟩ ⟨hk,hm⟩
 have hk:iZ k:=hk
 have hm:Sm m:=hm
 rw[dV.eq,fu.run (d:=k) trivial]
 simp only[ab,fu.add,fu.F,dV.add,dV.F,ij]
 by_cases h:k < 2305843009213688669∧k≠0
 ·rw[aY h,if_pos h,cT.run (d:=k) trivial,e7 hm.1]
  simp only[Bool.not_true,ao,ab,cT.add,cT.F]
  rw[ch.run (DY (by decide) (by rw[bW];omega) (by rw[hm.1];omega))]
  simp only[ab,ch.add,ch.F]
  rw[bF.run (d:=tag (bt (⟨#[110,111,110,99,101]⟩:ByteArray)) [hZ k,m]) (Af _ _)]
  simp only[ab,bF.add,bF.F]
  have q:=tm (tag (bt (⟨#[110,111,110,99,101]⟩:ByteArray)) [hZ k,m])
  rw[cI.run (d:=(k,qa (tag (bt (⟨#[110,111,110,99,101]⟩:ByteArray)) [hZ k,m]),m,1)) ⟨hk,⟨by omega,by omega⟩,hm,by omega,by omega⟩]
  rfl
 ·rw[bq h,if_neg h];rfl
noncomputable def dV.E:=Entry.cC [some tu,some tH] dV.st dV.aB dV.add dV.F dV.out
noncomputable def dV.call:dV.D→Option dV.X:=bS dV.E dV.st
theorem dV.run:bM dV.call dV.aB dV.add dV.F:=dh (dd [.d tu,.d tB] fun _=>by kernel_rfl)
noncomputable def dV.sg:SG Tryz.prog:=⟨69,aX,dV.E,.fn 0 (by kernel_rfl) dV.ok trivial⟩
set_option synthInstance.maxSize 5000
def nB(l:List Int):Prop:=∀x∈l,iZ x
def GP(b:iw):Prop:=nB b.1∧iZ b.2.2.2.1
def Ck(l:Lk):Prop:=∀b∈l.1,GP b
def sw(n:Int):Bool:=decide (0≤n∧n≤1048576)
def oV(b:iw):Bool:=decide (b.1.length≤12) && (b.1.all mu && (sw b.2.1 && (sw b.2.2.1 && (decide (b.2.2.2.1=0) || mu b.2.2.2.1))))
def jE(l:Lk):Bool:=l.1.all oV && decide (0 < l.1.length∧l.1.length≤4)
def ln:List Int→Int→Int⊕Unit
 |[],_=> .inr ()
 |p::ps,i=>if mu p then ln ps (i+1) else .inl i
def Aw(l:List Int):Int:=match ln l 0 with | .inl i=>i | .inr _=> -1
theorem rO:∀(l:List Int) (i:Int),0≤i→(match ln l i with | .inl i=>decide (i≥0) | .inr _=>false)= !(l.all mu)
 |[],_,_=>rfl
 |p::ps,i,h=>by
  rw[ln,List.all_cons]
  cases hp:mu p
  ·simp[h]
  ·simp only[if_true,Bool.true_and]
   exact rO ps (i+1) (by omega)
theorem Bl(l:List Int):oc (Aw l) 0= !(l.all mu):=by
 have:=rO l 0 (by omega)
 unfold Aw oc
 cases h:ln l 0
 ·rw[h]at this;exact this
 ·rw[h]at this;rw[←this];rfl
abbrev ff.D:=Int
def ff.st:ff.D→SA:=fun p=>([.d tu p],[])
abbrev ff.Y:=Bool
abbrev ff.X:=Bool
def ff.out:ff.X→bg:=fun x=>⟨.d .bool x,[],[]⟩
def ff.add:ff.D→ff.Y→ff.X:=fun p y=>y
def ff.aB:ff.D→Prop:=fun p=>iZ p
def ff.F:ff.D→ff.Y:=fun p=> !mu p
noncomputable def ff.G:dY:=fg (P:=Tryz.prog) [ck.sg]
noncomputable def ff.an:eI:= {}
noncomputable def ff.A:= @cY Tryz.prog ff.G ff.an 0 Tryz.f150 _ ff.st
abbrev ff.Ok:=cZ @ff.A ff.aB ff.add ff.F ff.out
theorem ff.eq{R:Type}(p:Int)(k:bg→Option R):ff.A p k=
 al (ck.call p) fun x1=>
 k (ff.out (!x1)):=by kernel_rfl
theorem ff.ok:ff.Ok:=by
 intro p hp
 rw[ff.eq,ck.run (d:=p) hp]
 rfl
noncomputable def ff.E:=Entry.cC [some tu] ff.st ff.aB ff.add ff.F ff.out
noncomputable def ff.call:ff.D→Option ff.X:=bS ff.E ff.st
theorem ff.run:bM ff.call ff.aB ff.add ff.F:=dh (dd [.d tu] fun _=>by kernel_rfl)
noncomputable def ff.sg:SG Tryz.prog:=⟨150,aX,ff.E,.fn 0 (by kernel_rfl) ff.ok trivial⟩
abbrev aW.L0.D:=Bs×Int×Int
def aW.L0.st:aW.L0.D→AS:=fun(sv_2,t7,t8)=>⟨([.d tU sv_2,.fn 150 (.nil)]++bh 5 ([.d ti t7,.d ti t8]++bh 10 [])),[],(List.replicate 19 [])⟩
abbrev aW.L0.Y0:=Int
abbrev aW.L0.X0:=Int
def aW.L0.bw:aW.L0.X0→Exit×AS:=fun x=>(.ret,⟨(bh 4 ([.d ti x]++bh 14 [])),[],(List.replicate 19 [])⟩)
abbrev aW.L0.Y1:=Unit
abbrev aW.L0.X1:=Unit
def aW.L0.fq:aW.L0.X1→Exit×AS:=fun x=>(.exit 0,⟨(bh 19 []),[],(List.replicate 19 [])⟩)
abbrev aW.L0.X:=(aW.L0.X0)⊕(aW.L0.X1)
abbrev aW.L0.Y:=(aW.L0.Y0)⊕(aW.L0.Y1)
def aW.L0.out:aW.L0.X→Out (Exit×AS):=fun x=> .br x.isLeft (.get x.getLeft? fun a=> .ok (aW.L0.bw a)) (.get x.getRight? fun b=> .ok (aW.L0.fq b))
def aW.L0.add:aW.L0.D→aW.L0.Y→aW.L0.X:=fun(sv_2,t7,t8) y=>match y with | .inl y=> .inl y | .inr z=> .inr (z)
abbrev aW.D:=Bs
def aW.st:aW.D→SA:=fun sv=>([.d tU sv,.fn 150 (.nil)],[])
abbrev aW.Y:=Int
abbrev aW.X:=Int
def aW.out:aW.X→bg:=fun x=>⟨.d ti x,[],[]⟩
def aW.add:aW.D→aW.Y→aW.X:=fun sv y=>y
def aW.L0.aB:aW.L0.D→Prop:=fun(l,n,i)=>nB l∧l.length≤1000000000∧n=l.length∧∃k:Nat,k≤l.length∧i=k
def aW.L0.F:aW.L0.D→aW.L0.Y:=fun(l,n,i)=>ln (l.drop i.toNat) i
def aW.aB:aW.D→Prop:=fun l=>nB l∧l.length≤1000000000
def aW.F:aW.D→aW.Y:=fun l=>Aw l
noncomputable def aW.G:dY:=fg (P:=Tryz.prog) [ff.sg]
noncomputable def aW.L0.E:=bQ.cC aW.L0.st aW.L0.aB aW.L0.add aW.L0.F aW.L0.out
noncomputable def aW.L0.call:aW.L0.D→Option aW.L0.X:=dm aW.L0.E aW.L0.st
noncomputable def aW.an:eI:= {loops:=j4 [(2,{bm:=[0,1,7,8]})],outs:=j3 [(2,{},{bm:=[4]})],fJ:=kT [(2,aW.L0.E)]}
noncomputable def aW.A:= @cY Tryz.prog aW.G aW.an 0 Tryz.f205 _ aW.st
abbrev aW.Ok:=cZ @aW.A aW.aB aW.add aW.F aW.out
noncomputable def aW.L0.R:= @bV Tryz.prog aW.G aW.an 0 Tryz.f205 0 _ aW.L0.st
abbrev aW.L0.Ok:=ez Tryz.prog aW.G aW.an 0 Tryz.f205 0 aW.L0.st aW.L0.aB aW.L0.add aW.L0.F aW.L0.out
theorem aW.L0.run:bM aW.L0.call aW.L0.aB aW.L0.add aW.L0.F:=eF (eD [.d tU,.d ti,.d ti] fun _=>by kernel_rfl)
theorem aW.L0.aD:kP @aW.L0.R aW.L0.st aW.L0.aB aW.L0.add aW.L0.F aW.L0.out aW.L0.Ok:=lp
theorem aW.L0.step{R:Type}(sv_2:Bs)(t7:Int)(t8:Int)(kn:AS→Option R)(kx:Exit→AS→Option R):aW.L0.R (sv_2,t7,t8) kn kx=
  aK ((fZ t8 t7)) (
   aK (eH t8 (((List.length sv_2):Nat):Int)) (
   al (ff.call (nth tu sv_2 (Int.toNat t8))) fun x1=>
   aK (x1) (
    kx (aW.L0.bw t8).1 (aW.L0.bw t8).2) (
    kn (aW.L0.st (sv_2,t7,(bR .i64 t8 (1:Int)))))) none) (
   kx (aW.L0.fq ()).1 (aW.L0.fq ()).2):=by kernel_rfl
theorem aW.eq{R:Type}(sv:Bs)(k:bg→Option R):aW.A sv k=
  al (aW.L0.call (sv,(((List.length sv):Nat):Int),(0:Int))) fun x2=>
  aK (x2.isLeft) (
   al (x2.getLeft?) fun a3=>
   k (aW.out a3)) (
   al (x2.getRight?) fun b4=>
   k (aW.out (-1:Int))):=by kernel_rfl
theorem aW.L0.ok:aW.L0.Ok:=by
 refine aW.L0.aD (fun(l,n,i)=>l.length - i.toNat) ?_
 rintro⟨l,n,i⟩ ⟨hl,hb,rfl,k,hk,rfl⟩
 have hb:l.length≤1000000000:=hb
 have hk:k≤l.length:=hk
 by_cases h:k < l.length
 ·have hx:=hl _ (List.getElem_mem h)
  have n1:nth (.int .u64) l k=l[k]:=cG (t:= .int .u64) h
  have hd:ln (l.drop k) k=if mu l[k] then ln (l.drop (k+1)) ((k+1:Nat):Int) else .inl (k:Int):=by rw[List.drop_eq_getElem_cons h];rfl
  cases hp:mu l[k]
  ·right
   refine⟨aW.L0.bw (k:Int),?_,fun kn kx=> ?_⟩
   ·simp only[aW.L0.add,aW.L0.F,Int.toNat_natCast,hd,hp,Bool.false_eq_true,if_false]
    rfl
   ·rw[aW.L0.step]
    simp(disch:=omega) only[↓S1,↓if_pos,↓if_neg,if_pos,if_neg,if_true,if_false,S2,n1]
    rw[ff.run (d:=l[k]) hx]
    simp only[ab,ff.add,ff.F,hp,Bool.not_false,ai]
  ·left
   refine⟨(l,l.length,((k+1:Nat):Int)),⟨hl,hb,rfl,k+1,by omega,rfl⟩,by simp only[Int.toNat_natCast];omega,?_,fun kn kx=> ?_⟩
   ·simp only[aW.L0.add,aW.L0.F,Int.toNat_natCast,hd,hp,if_true]
   ·rw[aW.L0.step]
    simp(disch:=omega) only[↓S1,↓if_pos,↓if_neg,if_pos,if_neg,if_true,if_false,S2,n1]
    rw[ff.run (d:=l[k]) hx]
    simp only[ab,ff.add,ff.F,hp,Bool.not_true,ao]
 ·right
  obtain rfl:k=l.length:=by omega
  refine⟨aW.L0.fq (),?_,fun kn kx=> ?_⟩
  ·simp only[aW.L0.add,aW.L0.F,Int.toNat_natCast,List.drop_length]
   rfl
  ·rw[aW.L0.step]
   simp(disch:=omega) only[↓S1,↓if_pos,↓if_neg,if_pos,if_neg,if_true,if_false,S2]
theorem aW.ok:aW.Ok:=by
 rintro l ⟨hl,hb⟩
 rw[aW.eq,aW.L0.run (d:=(l,l.length,0)) ⟨hl,hb,rfl,0,by omega,rfl⟩]
 simp only[ab,aW.L0.add,aW.L0.F,Int.toNat_zero,List.drop_zero,aW.add,aW.F,Aw]
 cases ln l 0 <;> rfl
noncomputable def aW.E:=Entry.cC [some tU,none] aW.st aW.aB aW.add aW.F aW.out
noncomputable def aW.call:aW.D→Option aW.X:=bS aW.E aW.st
theorem aW.run:bM aW.call aW.aB aW.add aW.F:=dh (dd [.d tU] fun _=>by kernel_rfl)
noncomputable def aW.sg:SG Tryz.prog:=⟨205,aX,aW.E,.fn 1 (by kernel_rfl) aW.ok (And.intro (.cC aW.L0.ok (by kernel_rfl)) trivial)⟩
abbrev bN.D:=Bs
def bN.st:bN.D→SA:=fun sv=>([.d tU sv,.fn 150 (.nil)],[])
abbrev bN.Y:=Bool
abbrev bN.X:=Bool
def bN.out:bN.X→bg:=fun x=>⟨.d .bool x,[],[]⟩
def bN.add:bN.D→bN.Y→bN.X:=fun sv y=>y
def bN.aB:bN.D→Prop:=fun l=>nB l∧l.length≤1000000000
def bN.F:bN.D→bN.Y:=fun l=> !(l.all mu)
noncomputable def bN.G:dY:=fg (P:=Tryz.prog) [aW.sg]
noncomputable def bN.an:eI:= {}
noncomputable def bN.A:= @cY Tryz.prog bN.G bN.an 0 Tryz.f152 _ bN.st
abbrev bN.Ok:=cZ @bN.A bN.aB bN.add bN.F bN.out
theorem bN.eq{R:Type}(sv:Bs)(k:bg→Option R):bN.A sv k=
 al (aW.call sv) fun x1=>
 k (bN.out (oc x1 (0:Int))):=by kernel_rfl
theorem bN.ok:bN.Ok:=by
 rintro l ⟨hl,hb⟩
 rw[bN.eq,aW.run (d:=l) ⟨hl,hb⟩]
 simp only[ab,aW.add,aW.F,Bl]
 rfl
noncomputable def bN.E:=Entry.cC [some tU,none] bN.st bN.aB bN.add bN.F bN.out
noncomputable def bN.call:bN.D→Option bN.X:=bS bN.E bN.st
theorem bN.run:bM bN.call bN.aB bN.add bN.F:=dh (dd [.d tU] fun _=>by kernel_rfl)
noncomputable def bN.sg:SG Tryz.prog:=⟨152,aX,bN.E,.fn 0 (by kernel_rfl) bN.ok trivial⟩
abbrev bY.D:=Int
def bY.st:bY.D→SA:=fun n=>([.d ti n],[])
abbrev bY.Y:=Bool
abbrev bY.X:=Bool
def bY.out:bY.X→bg:=fun x=>⟨.d .bool x,[],[]⟩
def bY.add:bY.D→bY.Y→bY.X:=fun n y=>y
def bY.aB:bY.D→Prop:=fun _=>True
def bY.F:bY.D→bY.Y:=fun n=>sw n
noncomputable def bY.G:dY:=fg (P:=Tryz.prog) []
noncomputable def bY.an:eI:= {}
noncomputable def bY.A:= @cY Tryz.prog bY.G bY.an 0 Tryz.f153 _ bY.st
abbrev bY.Ok:=cZ @bY.A bY.aB bY.add bY.F bY.out
theorem bY.eq{R:Type}(n:Int)(k:bg→Option R):bY.A n k=
  aK ((oc n (0:Int))) (
   k (bY.out (BI n (1048576:Int)))) (
   k (bY.out false)):=by kernel_rfl
theorem bY.ok:bY.Ok:=by
 intro n _
 rw[bY.eq]
 simp only[bY.add,bY.F,sw]
 by_cases h:0≤n
 ·rw[gq h,ai]
  by_cases h2:n≤1048576
  ·rw[mK h2,aY ⟨h,h2⟩]
  ·rw[j8 h2,bq (fun x=>h2 x.2)]
 ·rw[eV h,ao,bq (fun x=>h x.1)]
noncomputable def bY.E:=Entry.cC [some ti] bY.st bY.aB bY.add bY.F bY.out
noncomputable def bY.call:bY.D→Option bY.X:=bS bY.E bY.st
theorem bY.run:bM bY.call bY.aB bY.add bY.F:=dh (dd [.d ti] fun _=>by kernel_rfl)
noncomputable def bY.sg:SG Tryz.prog:=⟨153,aX,bY.E,.fn 0 (by kernel_rfl) bY.ok trivial⟩
set_option synthInstance.maxSize 5000
abbrev aM.L0.D:=Lk×(List iw)×Int×Int
def aM.L0.st:aM.L0.D→AS:=fun(l_2,t7,t8,t9)=>⟨([.undef,.eC oX l_2,.undef,.fn 150 (.nil),.undef,.undef,.undef,.d (.slice gA) t7,.d ti t8,.d ti t9]++bh 47 []),[],(List.replicate 57 [])⟩
abbrev aM.L0.Y0:=Unit
abbrev aM.L0.X0:=Unit
def aM.L0.bw:aM.L0.X0→Exit×AS:=fun x=>(.ret,⟨([.undef,.undef,.d .bool false]++bh 54 []),[],(List.replicate 57 [])⟩)
abbrev aM.L0.Y1:=Unit
abbrev aM.L0.X1:=Lk
def aM.L0.fq:aM.L0.X1→Exit×AS:=fun x=>(.exit 0,⟨([.undef,.eC oX x]++bh 55 []),[],(List.replicate 57 [])⟩)
abbrev aM.L0.X:=(aM.L0.X0)⊕(aM.L0.X1)
abbrev aM.L0.Y:=(aM.L0.Y0)⊕(aM.L0.Y1)
def aM.L0.out:aM.L0.X→Out (Exit×AS):=fun x=> .br x.isLeft (.get x.getLeft? fun a=> .ok (aM.L0.bw a)) (.get x.getRight? fun b=> .ok (aM.L0.fq b))
def aM.L0.add:aM.L0.D→aM.L0.Y→aM.L0.X:=fun(l_2,t7,t8,t9) y=>match y with | .inl y=> .inl y | .inr z=> .inr (l_2)
abbrev aM.D:=Lk
def aM.st:aM.D→SA:=fun l=>([.d oX l],[])
abbrev aM.Y:=Bool
abbrev aM.X:=Bool
def aM.out:aM.X→bg:=fun x=>⟨.d .bool x,[],[]⟩
def aM.add:aM.D→aM.Y→aM.X:=fun l y=>y
def aM.L0.aB:aM.L0.D→Prop:=fun(l,bs,n,i)=>(∀b∈bs,GP b)∧bs.length≤9223372036854775807∧n=bs.length∧∃k:Nat,k≤bs.length∧i=k
def aM.L0.F:aM.L0.D→aM.L0.Y:=fun(l,bs,n,i)=>if(bs.drop i.toNat).all oV then .inr () else .inl ()
def aM.aB:aM.D→Prop:=fun l=>Ck l∧l.1.length≤9223372036854775807
def aM.F:aM.D→aM.Y:=fun l=>jE l
noncomputable def aM.G:dY:=fg (P:=Tryz.prog) [bN.sg,bY.sg,ff.sg]
noncomputable def aM.L0.E:=bQ.cC aM.L0.st aM.L0.aB aM.L0.add aM.L0.F aM.L0.out
noncomputable def aM.L0.call:aM.L0.D→Option aM.L0.X:=dm aM.L0.E aM.L0.st
noncomputable def aM.an:eI:= {loops:=j4 [(3,{bm:=[1,3,7,8,9]})],outs:=j3 [(3,{bm:=[1]},{bm:=[2]})],fJ:=kT [(3,aM.L0.E)]}
noncomputable def aM.A:= @cY Tryz.prog aM.G aM.an 0 Tryz.f77 _ aM.st
abbrev aM.Ok:=cZ @aM.A aM.aB aM.add aM.F aM.out
noncomputable def aM.L0.R:= @bV Tryz.prog aM.G aM.an 0 Tryz.f77 0 _ aM.L0.st
abbrev aM.L0.Ok:=ez Tryz.prog aM.G aM.an 0 Tryz.f77 0 aM.L0.st aM.L0.aB aM.L0.add aM.L0.F aM.L0.out
theorem aM.L0.run:bM aM.L0.call aM.L0.aB aM.L0.add aM.L0.F:=eF (eD [.d oX,.d (.slice gA),.d ti,.d ti] fun _=>by kernel_rfl)
theorem aM.L0.aD:kP @aM.L0.R aM.L0.st aM.L0.aB aM.L0.add aM.L0.F aM.L0.out aM.L0.Ok:=lp
theorem aM.L0.step{R:Type}(l_2:Lk)(t7:(List iw))(t8:Int)(t9:Int)(kn:AS→Option R)(kx:Exit→AS→Option R):aM.L0.R (l_2,t7,t8,t9) kn kx=
  aK ((fZ t9 t8)) (
   aK (eH t9 (((List.length t7):Nat):Int)) (
   aK ((mJ (((List.length (nth gA t7 (Int.toNat t9)).1):Nat):Int) (12:Int))) (
    kx (aM.L0.bw ()).1 (aM.L0.bw ()).2) (
    al (bN.call (nth gA t7 (Int.toNat t9)).1) fun x1=>
    aK (x1) (
     kx (aM.L0.bw ()).1 (aM.L0.bw ()).2) (
     al (bY.call (nth gA t7 (Int.toNat t9)).2.1) fun x2=>
     aK ((!x2)) (
      kx (aM.L0.bw ()).1 (aM.L0.bw ()).2) (
      al (bY.call (nth gA t7 (Int.toNat t9)).2.2.1) fun x3=>
      aK ((!x3)) (
       kx (aM.L0.bw ()).1 (aM.L0.bw ()).2) (
       aK ((mZ (nth gA t7 (Int.toNat t9)).2.2.2.1 (0:Int))) (
        al (ff.call (nth gA t7 (Int.toNat t9)).2.2.2.1) fun x4=>
        aK (x4) (
         kx (aM.L0.bw ()).1 (aM.L0.bw ()).2) (
         kn (aM.L0.st (l_2,t7,t8,(bR .i64 t9 (1:Int)))))) (
        kn (aM.L0.st (l_2,t7,t8,(bR .i64 t9 (1:Int)))))))))) none) (
   kx (aM.L0.fq l_2).1 (aM.L0.fq l_2).2):=by kernel_rfl
theorem aM.eq{R:Type}(l:Lk)(k:bg→Option R):aM.A l k=
  al (aM.L0.call (l,l.1,(((List.length l.1):Nat):Int),(0:Int))) fun x5=>
  aK (x5.isLeft) (
   al (x5.getLeft?) fun a6=>
   k (aM.out false)) (
   al (x5.getRight?) fun b7=>
   aK ((mJ (((List.length b7.1):Nat):Int) (0:Int))) (
    k (aM.out (BI (((List.length b7.1):Nat):Int) (4:Int)))) (
    k (aM.out false))):=by kernel_rfl
theorem aM.L0.ok:aM.L0.Ok:=by
 refine aM.L0.aD (fun(l,bs,n,i)=>bs.length - i.toNat) ?_
 rintro⟨l,bs,n,i⟩ ⟨hl,hb,rfl,k,hk,rfl⟩
 have hb:bs.length≤9223372036854775807:=hb
 have hk:k≤bs.length:=hk
 by_cases h:k < bs.length
 ·have hx:GP bs[k]:=hl _ (List.getElem_mem h)
  have n1:nth (.pair (.slice (.int .u64)) (.pair (.int .i64) (.pair (.int .i64) (.pair (.int .u64) .unit)))) bs k=bs[k]:=cG (t:=(.pair (.slice (.int .u64)) (.pair (.int .i64) (.pair (.int .i64) (.pair (.int .u64) .unit))))) h
  have hd:(bs.drop k).all oV=(oV bs[k] && (bs.drop (k+1)).all oV):=by rw[List.drop_eq_getElem_cons h,List.all_cons]
  have step:∀ {R:Type} (kn:AS→Option R) (kx:Exit→AS→Option R),aM.L0.R (l,bs,(bs.length:Int),(k:Int)) kn kx=aK (oV bs[k]) (kn (aM.L0.st (l,bs,(bs.length:Int),((k+1:Nat):Int)))) (kx (aM.L0.bw ()).1 (aM.L0.bw ()).2):=by
   intro R kn kx
   rw[aM.L0.step,bu (by omega),bz (by omega) (by omega),Int.toNat_natCast,n1,N.kO (by omega)]
   obtain⟨⟨ks,af,dl,sc,u⟩,hbk⟩:∃b,bs[k]=b:=⟨_,rfl⟩
   rw[hbk]at hx ⊢
   have h1:nB ks:=hx.1
   have h2:iZ sc:=hx.2
   simp only[ai,oV]
   by_cases hk:ks.length≤12
   ·rw[cW (by omega),bN.run (d:=ks) ⟨h1,by omega⟩,bY.run (d:=af) trivial,bY.run (d:=dl) trivial,ff.run (d:=sc) h2,aY hk]
    simp only[ao,ab,bN.add,bN.F,bY.add,bY.F,ff.add,ff.F,Bool.true_and]
    cases ks.all mu
    ·rfl
    cases sw af
    ·rfl
    cases sw dl
    ·rfl
    by_cases hs:sc=0
    ·rw[cg hs,aY hs];rfl
    ·rw[dR hs,bq hs]
     cases mu sc <;> rfl
   ·rw[dx (by omega),bq hk];rfl
  cases hp:oV bs[k]
  ·right
   refine⟨aM.L0.bw (),?_,fun kn kx=> ?_⟩
   ·simp only[aM.L0.add,aM.L0.F,Int.toNat_natCast,hd,hp,Bool.false_and,Bool.false_eq_true,if_false]
    rfl
   ·rw[step,hp,ao]
  ·left
   refine⟨(l,bs,bs.length,((k+1:Nat):Int)),⟨hl,hb,rfl,k+1,by omega,rfl⟩,by simp only[Int.toNat_natCast];omega,?_,fun kn kx=> ?_⟩
   ·simp only[aM.L0.add,aM.L0.F,Int.toNat_natCast,hd,hp,Bool.true_and]
   ·rw[step,hp,ai]
 ·right
  obtain rfl:k=bs.length:=by omega
  refine⟨aM.L0.fq l,?_,fun kn kx=> ?_⟩
  ·simp only[aM.L0.add,aM.L0.F,Int.toNat_natCast,List.drop_length]
   rfl
  ·rw[aM.L0.step]
   simp(disch:=omega) only[↓S1,↓if_pos,↓if_neg,if_pos,if_neg,if_true,if_false,S2]
theorem aM.ok:aM.Ok:=by
 rintro l ⟨hl,hb⟩
 have hb:l.1.length≤9223372036854775807:=hb
 rw[aM.eq,aM.L0.run (d:=(l,l.1,l.1.length,0)) ⟨hl,hb,rfl,0,by omega,rfl⟩]
 simp only[ab,aM.L0.add,aM.L0.F,Int.toNat_zero,List.drop_zero,aM.add,aM.F,jE]
 cases l.1.all oV
 ·rfl
 ·simp only[if_true,Bool.true_and]
  show aK (mJ _ _) _ _=_
  by_cases h0:0 < l.1.length
  ·rw[dx (by omega)]
   by_cases h4:l.1.length≤4
   ·rw[mK (by omega),aY ⟨h0,h4⟩];rfl
   ·rw[j8 (by omega),bq (fun x=>h4 x.2)];rfl
  ·rw[cW (by omega),bq (fun x=>h0 x.1)];rfl
noncomputable def aM.E:=Entry.cC [some oX] aM.st aM.aB aM.add aM.F aM.out
noncomputable def aM.call:aM.D→Option aM.X:=bS aM.E aM.st
theorem aM.run:bM aM.call aM.aB aM.add aM.F:=dh (dd [.d oX] fun _=>by kernel_rfl)
noncomputable def aM.sg:SG Tryz.prog:=⟨77,aX,aM.E,.fn 1 (by kernel_rfl) aM.ok (And.intro (.cC aM.L0.ok (by kernel_rfl)) trivial)⟩
def kX(m:List Int):List Int→List Sg→Bool
 |[],_=>true
 |p::ps,ss=>lK p m 1 (ss.headD (0,0,())) && kX m ps ss.tail
def jP(l:Lk)(w:oT)(m:List Int)(height age:Int):Int:=
 if jE l=false∨w.1 < 0∨w.1≥l.1.length then 1
 else
  let b:=nth (.pair (.slice (.int .u64)) (.pair (.int .i64) (.pair (.int .i64) (.pair (.int .u64) .unit)))) l.1 w.1.toNat
  if height < b.2.1∨age < b.2.2.1 then 11
  else if b.2.2.2.1≠0∧eZ w.2.2.1≠b.2.2.2.1 then 23
  else if w.2.1.length≠b.1.length then 7
  else if kX m b.1 w.2.1 then 0 else 7
theorem Ci(m:List Int)(ks:List Int)(ss:List Sg)(h:ss.length=ks.length)(k:Nat)(hk:k < ks.length):kX m (ks.drop k) (ss.drop k)=(lK ks[k] m 1 (ss[k]'(by omega)) && kX m (ks.drop (k+1)) (ss.drop (k+1))):=by
 rw[List.drop_eq_getElem_cons hk,List.drop_eq_getElem_cons (by omega:k < ss.length)]
 rfl
def wa(w:oT):Prop:=(∀s∈w.2.1,FI s)∧iZ w.2.2.1
abbrev bp.L0.D:=oT×Bs×Bs×Int×Int
def bp.L0.st:bp.L0.D→AS:=fun(wv_2,m_2,t68,t69,t70)=>⟨(bh 6 ([.eC vS wv_2,.eC tH m_2]++bh 60 ([.d tU t68,.d ti t69,.d ti t70]++bh 14 []))),[],(List.replicate 85 [])⟩
abbrev bp.L0.Y0:=Unit
abbrev bp.L0.X0:=Unit
def bp.L0.bw:bp.L0.X0→Exit×AS:=fun x=>(.ret,⟨(bh 10 ([.d ti (7:Int)]++bh 74 [])),[],(List.replicate 85 [])⟩)
abbrev bp.L0.Y1:=Unit
abbrev bp.L0.X1:=Unit
def bp.L0.fq:bp.L0.X1→Exit×AS:=fun x=>(.exit 1,⟨(bh 85 []),[],(List.replicate 85 [])⟩)
abbrev bp.L0.X:=(bp.L0.X0)⊕(bp.L0.X1)
abbrev bp.L0.Y:=(bp.L0.Y0)⊕(bp.L0.Y1)
def bp.L0.out:bp.L0.X→Out (Exit×AS):=fun x=> .br x.isLeft (.get x.getLeft? fun a=> .ok (bp.L0.bw a)) (.get x.getRight? fun b=> .ok (bp.L0.fq b))
def bp.L0.add:bp.L0.D→bp.L0.Y→bp.L0.X:=fun(wv_2,m_2,t68,t69,t70) y=>match y with | .inl y=> .inl y | .inr z=> .inr (z)
abbrev bp.D:=Lk×oT×Bs×Int×Int
def bp.st:bp.D→SA:=fun(l,wv,m,height,age)=>([.d oX l,.d vS wv,.d tH m,.d ti height,.d ti age],[])
abbrev bp.Y:=Int
abbrev bp.X:=Int
def bp.out:bp.X→bg:=fun x=>⟨.d ti x,[],[]⟩
def bp.add:bp.D→bp.Y→bp.X:=fun(l,wv,m,height,age) y=>y
def bp.L0.aB:bp.L0.D→Prop:=fun(w,m,ks,n,i)=>wa w∧Sm m∧nB ks∧ks.length≤1000000000∧w.2.1.length=ks.length∧n=ks.length∧∃k:Nat,k≤ks.length∧i=k
def bp.L0.F:bp.L0.D→bp.L0.Y:=fun(w,m,ks,n,i)=>if kX m (ks.drop i.toNat) (w.2.1.drop i.toNat) then .inr () else .inl ()
def bp.aB:bp.D→Prop:=fun(l,w,m,h,a)=>Ck l∧l.1.length≤9223372036854775807∧wa w∧Sm m
def bp.F:bp.D→bp.Y:=fun(l,w,m,h,a)=>jP l w m h a
noncomputable def bp.G:dY:=fg (P:=Tryz.prog) [aM.sg,dv.sg,cw.sg]
noncomputable def bp.L0.E:=bQ.cC bp.L0.st bp.L0.aB bp.L0.add bp.L0.F bp.L0.out
noncomputable def bp.L0.call:bp.L0.D→Option bp.L0.X:=dm bp.L0.E bp.L0.st
noncomputable def bp.an:eI:= {loops:=j4 [(11,{bm:=[6,7,68,69,70]})],outs:=j3 [(11,{},{bm:=[10]})],fJ:=kT [(11,bp.L0.E)]}
noncomputable def bp.A:= @cY Tryz.prog bp.G bp.an 0 Tryz.f84 _ bp.st
abbrev bp.Ok:=cZ @bp.A bp.aB bp.add bp.F bp.out
noncomputable def bp.L0.R:= @bV Tryz.prog bp.G bp.an 0 Tryz.f84 0 _ bp.L0.st
abbrev bp.L0.Ok:=ez Tryz.prog bp.G bp.an 0 Tryz.f84 0 bp.L0.st bp.L0.aB bp.L0.add bp.L0.F bp.L0.out
theorem bp.L0.run:bM bp.L0.call bp.L0.aB bp.L0.add bp.L0.F:=eF (eD [.d vS,.d tH,.d tU,.d ti,.d ti] fun _=>by kernel_rfl)
theorem bp.L0.aD:kP @bp.L0.R bp.L0.st bp.L0.aB bp.L0.add bp.L0.F bp.L0.out bp.L0.Ok:=lp
theorem bp.L0.step{R:Type}(wv_2:oT)(m_2:Bs)(t68:Bs)(t69:Int)(t70:Int)(kn:AS→Option R)(kx:Exit→AS→Option R):bp.L0.R (wv_2,m_2,t68,t69,t70) kn kx=
  aK ((fZ t70 t69)) (
   aK (eH t70 (((List.length t68):Nat):Int)) (
   aK (eH t70 (((List.length wv_2.2.1):Nat):Int)) (
   al (cw.call ((nth tu t68 (Int.toNat t70)),m_2,(nth nK wv_2.2.1 (Int.toNat t70)))) fun x1=>
   aK ((!x1)) (
    kx (bp.L0.bw ()).1 (bp.L0.bw ()).2) (
    kn (bp.L0.st (wv_2,m_2,t68,t69,(bR .i64 t70 (1:Int)))))) none) none) (
   kx (bp.L0.fq ()).1 (bp.L0.fq ()).2):=by kernel_rfl
theorem bp.eq{R:Type}(l:Lk)(wv:oT)(m:Bs)(height:Int)(age:Int)(k:bg→Option R):bp.A (l,wv,m,height,age) k=
  al (aM.call l) fun x1=>
  aK ((!x1)) (
   k (bp.out (1:Int))) (
   aK ((fZ wv.1 (0:Int))) (
    k (bp.out (1:Int))) (
    aK ((oc wv.1 (((List.length l.1):Nat):Int))) (
     k (bp.out (1:Int))) (
     aK (eH wv.1 (((List.length l.1):Nat):Int)) (
     aK ((fZ height (nth gA l.1 (Int.toNat wv.1)).2.1)) (
      k (bp.out (11:Int))) (
      aK ((fZ age (nth gA l.1 (Int.toNat wv.1)).2.2.1)) (
       k (bp.out (11:Int))) (
       aK ((mZ (nth gA l.1 (Int.toNat wv.1)).2.2.2.1 (0:Int))) (
        al (dv.call wv.2.2.1) fun x2=>
        aK ((mZ x2 (nth gA l.1 (Int.toNat wv.1)).2.2.2.1)) (
         k (bp.out (23:Int))) (
         aK ((mZ (((List.length wv.2.1):Nat):Int) (((List.length (nth gA l.1 (Int.toNat wv.1)).1):Nat):Int))) (
          k (bp.out (7:Int))) (
          al (bp.L0.call (wv,m,(nth gA l.1 (Int.toNat wv.1)).1,(((List.length (nth gA l.1 (Int.toNat wv.1)).1):Nat):Int),(0:Int))) fun x4=>
          aK (x4.isLeft) (
           al (x4.getLeft?) fun a5=>
           k (bp.out (7:Int))) (
           al (x4.getRight?) fun b6=>
           k (bp.out (0:Int)))))) (
        aK ((mZ (((List.length wv.2.1):Nat):Int) (((List.length (nth gA l.1 (Int.toNat wv.1)).1):Nat):Int))) (
         k (bp.out (7:Int))) (
         al (bp.L0.call (wv,m,(nth gA l.1 (Int.toNat wv.1)).1,(((List.length (nth gA l.1 (Int.toNat wv.1)).1):Nat):Int),(0:Int))) fun x7=>
         aK (x7.isLeft) (
          al (x7.getLeft?) fun a8=>
          k (bp.out (7:Int))) (
          al (x7.getRight?) fun b9=>
          k (bp.out (0:Int)))))))) none))):=by kernel_rfl
theorem bp.L0.ok:bp.L0.Ok:=by
 refine bp.L0.aD (fun(w,m,ks,n,i)=>ks.length - i.toNat) ?_
 rintro⟨w,m,ks,n,i⟩ ⟨hw,hm,hl,hb,hs,rfl,k,hk,rfl⟩
 have hb:ks.length≤1000000000:=hb
 have hk:k≤ks.length:=hk
 have hs:w.2.1.length=ks.length:=hs
 by_cases h:k < ks.length
 ·have hx:=hl _ (List.getElem_mem h)
  have hy:=hw.1 _ (List.getElem_mem (by omega:k < w.2.1.length))
  have n1:nth (.int .u64) ks k=ks[k]:=cG (t:= .int .u64) h
  have n2:nth (.pair (.int .u64) (.pair (.int .u64) .unit)) w.2.1 k=w.2.1[k]'(by omega):=cG (t:=(.pair (.int .u64) (.pair (.int .u64) .unit))) (by omega)
  have hd:=Ci m ks w.2.1 hs k h
  have step:∀ {R:Type} (kn:AS→Option R) (kx:Exit→AS→Option R),bp.L0.R (w,m,ks,(ks.length:Int),(k:Int)) kn kx=aK (lK ks[k] m 1 (w.2.1[k]'(by omega))) (kn (bp.L0.st (w,m,ks,(ks.length:Int),((k+1:Nat):Int)))) (kx (bp.L0.bw ()).1 (bp.L0.bw ()).2):=by
   intro R kn kx
   rw[bp.L0.step,bu (by omega),bz (by omega) (by omega),bz (by omega) (by omega),Int.toNat_natCast,n1,n2,N.kO (by omega),cw.run (d:=(ks[k],m,w.2.1[k]'(by omega))) ⟨hx,hm,hy⟩]
   simp only[ai,ab,cw.add,cw.F]
   cases lK ks[k] m 1 (w.2.1[k]'(by omega)) <;> rfl
  cases hp:lK ks[k] m 1 (w.2.1[k]'(by omega))
  ·right
   refine⟨bp.L0.bw (),?_,fun kn kx=> ?_⟩
   ·simp only[bp.L0.add,bp.L0.F,Int.toNat_natCast,hd,hp,Bool.false_and,Bool.false_eq_true,if_false]
    rfl
   ·rw[step,hp,ao]
  ·left
   refine⟨(w,m,ks,ks.length,((k+1:Nat):Int)),⟨hw,hm,hl,hb,hs,rfl,k+1,by omega,rfl⟩,by simp only[Int.toNat_natCast];omega,?_,fun kn kx=> ?_⟩
   ·simp only[bp.L0.add,bp.L0.F,Int.toNat_natCast,hd,hp,Bool.true_and]
   ·rw[step,hp,ai]
 ·right
  obtain rfl:k=ks.length:=by omega
  refine⟨bp.L0.fq (),?_,fun kn kx=> ?_⟩
  ·simp only[bp.L0.add,bp.L0.F,Int.toNat_natCast,List.drop_length]
   rfl
  ·rw[bp.L0.step]
   simp(disch:=omega) only[↓S1,↓if_pos,↓if_neg,if_pos,if_neg,if_true,if_false,S2]
theorem BP{l:Lk}(h:jE l=true){b:iw}(hb:b∈l.1):b.1.length≤12:=by
 unfold jE at h
 rw[Bool.and_eq_true,List.all_eq_true]at h
 have:=h.1 b hb
 unfold oV at this
 rw[Bool.and_eq_true]at this
 simpa using this.1
theorem bp.ok:bp.Ok:=by
  rintro⟨l,w,m,h,a⟩ ⟨hl,hb,hw,hm⟩
  have hl:Ck l:=hl
  have hb:l.1.length≤9223372036854775807:=hb
  have hw:wa w:=hw
  have hm:Sm m:=hm
  rw[bp.eq,aM.run (d:=l) ⟨hl,hb⟩]
  simp only[ab,aM.add,aM.F,bp.add,bp.F,jP]
  cases hok:jE l
  · rw[if_pos (Or.inl rfl)];rfl
  by_cases h0:w.1 < 0
  · rw[bu h0,if_pos (Or.inr (Or.inl h0))];rfl
  by_cases h1:w.1≥l.1.length
  · rw[bk h0,gq h1,if_pos (Or.inr (Or.inr h1))];rfl
  rw[bk h0,eV h1,bz (by omega) (by omega),if_neg (by simp[h0];omega)]
  have hn:w.1.toNat < l.1.length:=by omega
  have n1:nth (.pair (.slice (.int .u64)) (.pair (.int .i64) (.pair (.int .i64) (.pair (.int .u64) .unit)))) l.1 w.1.toNat=l.1[w.1.toNat]:=cG (t:=(.pair (.slice (.int .u64)) (.pair (.int .i64) (.pair (.int .i64) (.pair (.int .u64) .unit))))) hn
  rw[n1]
  have hx:GP l.1[w.1.toNat]:=hl _ (List.getElem_mem hn)
  have hkl:=BP hok (List.getElem_mem hn)
  obtain⟨⟨ks,af,dl,sc,u⟩,hbk⟩:∃b,l.1[w.1.toNat]=b:=⟨_,rfl⟩
  rw[hbk]at hx hkl ⊢
  have hks:nB ks:=hx.1
  have hkl:ks.length≤12:=hkl
  simp only[Bool.not_true,ao,ai]
  by_cases e1:h < af
  · rw[bu e1,if_pos (Or.inl e1)];rfl
  by_cases e2:a < dl
  · rw[bk e1,bu e2,if_pos (Or.inr e2)];rfl
  rw[bk e1,bk e2,if_neg (by simp[e1,e2]),dv.run (d:=w.2.2.1) hw.2]
  simp only[ao,ab,dv.add,dv.F]
  have last:aK (mZ ((w.2.1.length:Nat):Int) ((ks.length:Nat):Int)) (some (bp.out (7:Int))) (
          al (bp.L0.call (w,m,ks,((ks.length:Nat):Int),(0:Int))) fun x4=>
          aK (x4.isLeft) (al (x4.getLeft?) fun a5=>some (bp.out (7:Int))) (al (x4.getRight?) fun b6=>some (bp.out (0:Int))))=some (bp.out (if w.2.1.length≠ks.length then 7 else if kX m ks w.2.1 then 0 else 7)):=by
    by_cases e3:w.2.1.length=ks.length
    · rw[cg (by omega),if_neg (by simp[e3]),ao,bp.L0.run (d:=(w,m,ks,ks.length,0)) ⟨hw,hm,hks,by show ks.length≤1000000000;omega,e3,rfl,0,by omega,rfl⟩]
      simp only[ab,bp.L0.add,bp.L0.F,Int.toNat_zero,List.drop_zero]
      cases kX m ks w.2.1 <;> rfl
    · rw[dR (by omega),if_pos e3];rfl
  by_cases e4:sc=0
  · rw[cg e4,if_neg (by simp[e4]),ao]
    exact last
  · rw[dR e4,ai]
    by_cases e5:eZ w.2.2.1=sc
    · rw[cg e5,if_neg (by simp[e5]),ao]
      exact last
    · rw[dR e5,if_pos ⟨e4,e5⟩];rfl
noncomputable def bp.E:=Entry.cC [some oX,some vS,some tH,some ti,some ti] bp.st bp.aB bp.add bp.F bp.out
noncomputable def bp.call:bp.D→Option bp.X:=bS bp.E bp.st
theorem bp.run:bM bp.call bp.aB bp.add bp.F:=dh (dd [.d oX,.d vS,.d tB,.d ti,.d ti] fun _=>by kernel_rfl)
noncomputable def bp.sg:SG Tryz.prog:=⟨84,aX,bp.E,.fn 1 (by kernel_rfl) bp.ok (And.intro (.cC bp.L0.ok (by kernel_rfl)) trivial)⟩
set_option synthInstance.maxSize 5000
abbrev ed.D:=Int
def ed.st:ed.D→SA:=fun n=>([.cV,.d ti n],[])
abbrev ed.Y:=Nat×(List Int)
abbrev ed.X:=Nat×(List Int)
def ed.out:ed.X→bg:=fun x=>⟨.bJ (.new 0 0) 0 [] 0 0 x.1,[],[.obj 0 false (.vec 5 tb x.2)]⟩
def ed.add:ed.D→ed.Y→ed.X:=fun n y=>y
def ed.aB:ed.D→Prop:=fun n=>∃k:Nat,n=k∧k≤100000000
def ed.F:ed.D→ed.Y:=fun n=>(0,List.replicate n.toNat 0)
noncomputable def ed.G:dY:=fg (P:=Tryz.prog) []
noncomputable def ed.an:eI:= {iA:=[⟨4,[],22,140⟩]}
noncomputable def ed.A:= @cY Tryz.prog ed.G ed.an 0 Tryz.f249 _ ed.st
abbrev ed.Ok:=cZ @ed.A ed.aB ed.add ed.F ed.out
theorem ed.eq{R:Type}(n:Int)(k:bg→Option R):ed.A n k=
  aK ((fZ n (0:Int))) (
   none) (
   aK ((mJ (cQ .i64 n (0:Int)) (0:Int))) (
    aK (decide (0 < (cQ .i64 n (0:Int))) && dp (Int.toNat (cQ .i64 n (0:Int))) 1) (
    aK (inc (0:Int) (((Int.toNat (cQ .i64 n (0:Int))):Nat):Int)) (
    k (ed.out (0,(List.replicate (Int.toNat (cQ .i64 n (0:Int))) (0:Int))))) none) none) (
    k (ed.out (0,([]:List Int))))):=by kernel_rfl
theorem ed.ok:ed.Ok:=by
 rintro n ⟨k,rfl,hk⟩
 have e:cQ .i64 (k:Int) 0=(k:Int):=by rw[eR (by omega) (by omega)];omega
 rw[ed.eq,e,bk (by omega),ao]
 by_cases h:0 < k
 ·rw[dx (by omega),Int.toNat_natCast,aY (by omega),dX (by omega) (by omega),kB (by omega) (by omega)]
  rfl
 ·obtain rfl:k=0:=by omega
  rfl
noncomputable def ed.E:=Entry.cC [none,some ti] ed.st ed.aB ed.add ed.F ed.out
noncomputable def ed.call:ed.D→Option ed.X:=bS ed.E ed.st
theorem ed.run:bM ed.call ed.aB ed.add ed.F:=dh (dd [.d ti] fun _=>by kernel_rfl)
noncomputable def ed.sg:SG Tryz.prog:=⟨249,aX,ed.E,.fn 0 (by kernel_rfl) ed.ok trivial⟩
def jJ(l:List (List Int)):Nat:=l.flatten.length
def uN(n:Nat)(l:List Int):List (List Int)→Nat×List Int
 |[]=>(n,l)
 |s::r=>(n+(s::r).flatten.length,l.take n++(s::r).flatten)
theorem Bv(n:Nat)(l s:List Int)(r:List (List Int))(h:n≤l.length):uN n l (s::r)=uN (n+s.length) (l.take n++s) r:=by
 have hl:(l.take n++s).length=n+s.length:=by rw[List.length_append,List.length_take];omega
 cases r with
 |nil=>simp[uN]
 |cons t r=>
  simp only[uN]
  rw[List.take_of_length_le (Nat.le_of_eq hl)]
  simp only[List.flatten_cons,List.length_append,List.append_assoc,Nat.add_assoc]
theorem Es(n:Nat)(z:List Int)(r:List (List Int)):(uN 0 z r).1≤(uN 0 z r).2.length∧cut (uN 0 z r).2 0 (uN 0 z r).1=r.flatten:=by
 cases r with
 |nil=>exact⟨Nat.zero_le _,rfl⟩
 |cons s r=>
  simp only[uN,List.take_zero,List.nil_append,Nat.zero_add]
  exact⟨Nat.le_refl _,by show List.take _ (List.drop 0 _)=_;rw[List.drop_zero,List.take_length]⟩
abbrev ax.L0.D:=(List Bs)×Int×(List Bs)×Int×Int
def ax.L0.st:ax.L0.D→AS:=fun(slices_2,size,t9,t10,t11)=>⟨([.d (.slice tB) slices_2,.undef,.undef,.d ti size]++bh 5 ([.d (.slice tB) t9,.d ti t10,.d ti t11]++bh 24 [])),[],(List.replicate 36 [])⟩
abbrev ax.L0.Y0:=Int
abbrev ax.L0.X0:=((List Bs))×(Int)
def ax.L0.bw:ax.L0.X0→Exit×AS:=fun x=>(.exit 0,⟨([.d (.slice tB) x.1,.undef,.undef,.d ti x.2]++bh 32 []),[],(List.replicate 36 [])⟩)
abbrev ax.L0.X:=ax.L0.X0
abbrev ax.L0.Y:=ax.L0.Y0
def ax.L0.out:ax.L0.X→Out (Exit×AS):=fun x=> .ok (ax.L0.bw x)
def ax.L0.add:ax.L0.D→ax.L0.Y→ax.L0.X:=fun(slices_2,size,t9,t10,t11) y=>(slices_2,y)
abbrev ax.L1.D:=Nat×(List Bs)×Int×Int×(List Int)
def ax.L1.st:ax.L1.D→AS:=fun(newsliceL,t25,t26,t27,n24)=>⟨(bh 6 ([.bJ (.new 24 0) 0 [] 0 0 newsliceL]++bh 18 ([.d (.slice tB) t25,.d ti t26,.d ti t27]++bh 8 []))),[],(bI 24 ([[.obj 0 false (.vec 5 tb n24)]]++bI 11 []))⟩
abbrev ax.L1.Y0:=Nat×(List Int)
abbrev ax.L1.X0:=Nat×(List Int)
def ax.L1.bw:ax.L1.X0→Exit×AS:=fun x=>(.exit 2,⟨(bh 6 ([.bJ (.new 24 0) 0 [] 0 0 x.1]++bh 29 [])),[],(bI 24 ([[.obj 0 false (.vec 5 tb x.2)]]++bI 11 []))⟩)
abbrev ax.L1.X:=ax.L1.X0
abbrev ax.L1.Y:=ax.L1.Y0
def ax.L1.out:ax.L1.X→Out (Exit×AS):=fun x=> .ok (ax.L1.bw x)
def ax.L1.add:ax.L1.D→ax.L1.Y→ax.L1.X:=fun(newsliceL,t25,t26,t27,n24) y=>y
abbrev ax.D:=(List Bs)
def ax.st:ax.D→SA:=fun slices=>([.d (.slice tB) slices],[])
abbrev ax.Y:=Bs
abbrev ax.X:=Bs
def ax.out:ax.X→bg:=fun x=>⟨.d tB x,[],[]⟩
def ax.add:ax.D→ax.Y→ax.X:=fun slices y=>y
def ax.L0.aB:ax.L0.D→Prop:=fun(s,size,t,n,i)=>s.length≤1000000∧t=s∧n=s.length∧∃k z:Nat,k≤s.length∧i=k∧size=z∧z+jJ (s.drop k)≤100000000
def ax.L0.F:ax.L0.D→ax.L0.Y:=fun(s,size,t,n,i)=>((size:Int)+((jJ (s.drop i.toNat):Nat):Int):Int)
def ax.L1.aB:ax.L1.D→Prop:=fun(n,s,t,i,l)=>s.length≤1000000∧n≤l.length∧t=s.length∧∃k:Nat,k≤s.length∧i=k∧n+jJ (s.drop k)≤100000000
def ax.L1.F:ax.L1.D→ax.L1.Y:=fun(n,s,t,i,l)=>uN n l (s.drop i.toNat)
def ax.aB:ax.D→Prop:=fun s=>s.length≤1000000∧jJ s≤100000000
def ax.F:ax.D→ax.Y:=fun s=>s.flatten
noncomputable def ax.G:dY:=fg (P:=Tryz.prog) [ed.sg]
noncomputable def ax.L0.E:=bQ.cC ax.L0.st ax.L0.aB ax.L0.add ax.L0.F ax.L0.out
noncomputable def ax.L0.call:ax.L0.D→Option ax.L0.X:=dm ax.L0.E ax.L0.st
noncomputable def ax.L1.E:=bQ.cC ax.L1.st ax.L1.aB ax.L1.add ax.L1.F ax.L1.out
noncomputable def ax.L1.call:ax.L1.D→Option ax.L1.X:=dm ax.L1.E ax.L1.st
noncomputable def ax.an:eI:= {loops:=j4 [(3,{bm:=[0,3,9,10,11]}),(11,{bm:=[6,25,26,27],sites:=[24],iA:=[⟨6,[],24,140⟩]})],outs:=j3 [(3,{bm:=[0,3]},{bm:=[2]}),(11,{bm:=[6],sites:=[24]},{bm:=[2]})],fJ:=kT [(3,ax.L0.E),(11,ax.L1.E)],res:=[some tB]}
noncomputable def ax.A:= @cY Tryz.prog ax.G ax.an 0 Tryz.f203 _ ax.st
abbrev ax.Ok:=cZ @ax.A ax.aB ax.add ax.F ax.out
noncomputable def ax.L0.R:= @bV Tryz.prog ax.G ax.an 0 Tryz.f203 0 _ ax.L0.st
abbrev ax.L0.Ok:=ez Tryz.prog ax.G ax.an 0 Tryz.f203 0 ax.L0.st ax.L0.aB ax.L0.add ax.L0.F ax.L0.out
noncomputable def ax.L1.R:= @bV Tryz.prog ax.G ax.an 0 Tryz.f203 1 _ ax.L1.st
abbrev ax.L1.Ok:=ez Tryz.prog ax.G ax.an 0 Tryz.f203 1 ax.L1.st ax.L1.aB ax.L1.add ax.L1.F ax.L1.out
theorem ax.L0.run:bM ax.L0.call ax.L0.aB ax.L0.add ax.L0.F:=eF (eD [.d (.slice tB),.d ti,.d (.slice tB),.d ti,.d ti] fun _=>by kernel_rfl)
theorem ax.L0.aD:fP @ax.L0.R ax.L0.st ax.L0.aB ax.L0.add ax.L0.F ax.L0.bw ax.L0.Ok:=fR
theorem ax.L0.step{R:Type}(slices_2:(List Bs))(size:Int)(t9:(List Bs))(t10:Int)(t11:Int)(kn:AS→Option R)(kx:Exit→AS→Option R):ax.L0.R (slices_2,size,t9,t10,t11) kn kx=
  aK ((fZ t11 t10)) (
   aK (eH t11 (((List.length t9):Nat):Int)) (
   aK ((fZ (bR .i64 size (((List.length (nth tB t9 (Int.toNat t11))):Nat):Int)) (0:Int))) (
    none) (
    kn (ax.L0.st (slices_2,(bR .i64 size (((List.length (nth tB t9 (Int.toNat t11))):Nat):Int)),t9,t10,(bR .i64 t11 (1:Int)))))) none) (
   kx (ax.L0.bw (slices_2,size)).1 (ax.L0.bw (slices_2,size)).2):=by kernel_rfl
theorem ax.L1.run:bM ax.L1.call ax.L1.aB ax.L1.add ax.L1.F:=eF (eD [.n,.d (.slice tB),.d ti,.d ti,.d tB] fun _=>by kernel_rfl)
theorem ax.L1.aD:fP @ax.L1.R ax.L1.st ax.L1.aB ax.L1.add ax.L1.F ax.L1.bw ax.L1.Ok:=fR
theorem ax.L1.step{R:Type}(newsliceL:Nat)(t25:(List Bs))(t26:Int)(t27:Int)(n24:(List Int))(kn:AS→Option R)(kx:Exit→AS→Option R):ax.L1.R (newsliceL,t25,t26,t27,n24) kn kx=
  aK ((fZ t27 t26)) (
   aK (eH t27 (((List.length t25):Nat):Int)) (
   aK (decide (newsliceL≤(List.length n24))) (
   aK (dp (newsliceL+(List.length (nth tB t25 (Int.toNat t27)))) 1) (
   kn (ax.L1.st ((newsliceL+(List.length (nth tB t25 (Int.toNat t27)))),t25,t26,(bR .i64 t27 (1:Int)),((List.take newsliceL n24)++(nth tB t25 (Int.toNat t27)))))) none) none) none) (
   kx (ax.L1.bw (newsliceL,n24)).1 (ax.L1.bw (newsliceL,n24)).2):=by kernel_rfl
theorem ax.eq{R:Type}(slices:(List Bs))(k:bg→Option R):ax.A slices k=
 al (ax.L0.call (slices,(0:Int),slices,(((List.length slices):Nat):Int),(0:Int))) fun x1=>
 al (ed.call x1.2) fun x2=>
 al (ax.L1.call (x2.1,x1.1,(((List.length x1.1):Nat):Int),(0:Int),x2.2)) fun x3=>
 aK (decide (0=0∧(0+x3.1)≤(List.length x3.2))) (
 k (ax.out (cut x3.2 0 x3.1))) none:=by kernel_rfl
theorem AR(s:List (List Int))(k:Nat)(h:k < s.length):jJ (s.drop k)=s[k].length+jJ (s.drop (k+1)):=by
 unfold jJ
 rw[List.drop_eq_getElem_cons h,List.flatten_cons,List.length_append]
theorem ax.L0.ok:ax.L0.Ok:=by
 refine ax.L0.aD (fun(s,size,t,n,i)=>s.length - i.toNat) ?_
 rintro⟨s,size,t,n,i⟩ ⟨hs,rfl,rfl,k,z,hk,rfl,rfl,hz⟩
 have hs:t.length≤1000000:=hs
 have hk:k≤t.length:=hk
 have hz:z+jJ (t.drop k)≤100000000:=hz
 by_cases h:k < t.length
 ·left
  have n1:nth (.slice (.int .u8)) t k=t[k]:=cG (t:= .slice (.int .u8)) h
  have hd:=AR t k h
  refine⟨(t,((z+t[k].length:Nat):Int),t,t.length,((k+1:Nat):Int)),⟨hs,rfl,rfl,k+1,z+t[k].length,by omega,rfl,rfl,by omega⟩,by simp only[Int.toNat_natCast];omega,?_,fun kn kx=> ?_⟩
  ·simp only[ax.L0.add,ax.L0.F,Int.toNat_natCast]
   rw[hd]
   refine congrArg _ ?_
   omega
  ·rw[ax.L0.step]
   simp(disch:=omega) only[↓S1,↓if_pos,↓if_neg,if_pos,if_neg,if_true,if_false,S2,n1]
 ·right
  obtain rfl:k=t.length:=by omega
  intro R kn kx
  rw[ax.L0.step]
  simp(disch:=omega) only[↓S1,↓if_pos,↓if_neg,if_pos,if_neg,if_true,if_false,S2,ax.L0.add,ax.L0.F,List.drop_length]
  simp only[jJ,List.flatten_nil,List.length_nil,Int.natCast_zero,Int.add_zero]
theorem ax.L1.ok:ax.L1.Ok:=by
 refine ax.L1.aD (fun(n,s,t,i,l)=>s.length - i.toNat) ?_
 rintro⟨n,s,t,i,l⟩ ⟨hs,hn,rfl,k,hk,rfl,hz⟩
 have hs:s.length≤1000000:=hs
 have hn:n≤l.length:=hn
 have hk:k≤s.length:=hk
 have hz:n+jJ (s.drop k)≤100000000:=hz
 by_cases h:k < s.length
 ·left
  have n1:nth (.slice (.int .u8)) s k=s[k]:=cG (t:= .slice (.int .u8)) h
  have hd:=AR s k h
  refine⟨(n+s[k].length,s,s.length,((k+1:Nat):Int),l.take n++s[k]),⟨hs,by rw[List.length_append,List.length_take];omega,rfl,k+1,by omega,rfl,by omega⟩,by simp only[Int.toNat_natCast];omega,?_,fun kn kx=> ?_⟩
  ·simp only[ax.L1.add,ax.L1.F,Int.toNat_natCast]
   rw[List.drop_eq_getElem_cons h,Bv _ _ _ _ hn]
  ·rw[ax.L1.step]
   simp(disch:=omega) only[↓S1,↓if_pos,↓if_neg,if_pos,if_neg,if_true,if_false,S2,n1]
 ·right
  obtain rfl:k=s.length:=by omega
  intro R kn kx
  rw[ax.L1.step]
  simp(disch:=omega) only[↓S1,↓if_pos,↓if_neg,if_pos,if_neg,if_true,if_false,S2,ax.L1.add,ax.L1.F,List.drop_length]
  rfl
theorem ax.ok:ax.Ok:=by
 rintro s ⟨hs,hz⟩
 have hs:s.length≤1000000:=hs
 have hz:jJ s≤100000000:=hz
 have p1:ax.L0.aB (s,0,s,s.length,0):=⟨hs,rfl,rfl,0,0,by omega,rfl,rfl,by rw[List.drop_zero];omega⟩
 have p2:ax.L1.aB (0,s,s.length,0,List.replicate (jJ s) 0):=⟨hs,by omega,rfl,0,by omega,rfl,by rw[List.drop_zero];omega⟩
 rw[ax.eq,ax.L0.run p1]
 simp only[ab,ax.L0.add,ax.L0.F,Int.toNat_zero,List.drop_zero,Int.zero_add]
 rw[ed.run (d:=((jJ s:Nat):Int)) ⟨jJ s,rfl,hz⟩]
 simp only[ab,ed.add,ed.F,Int.toNat_natCast]
 rw[ax.L1.run p2]
 simp only[ab,ax.L1.add,ax.L1.F,Int.toNat_zero,List.drop_zero]
 obtain⟨c1,c2⟩:=Es 0 (List.replicate (jJ s) 0) s
 simp only[Nat.zero_add,c1,and_self,decide_true,ai,c2]
 rfl
noncomputable def ax.E:=Entry.cC [some (.slice tB)] ax.st ax.aB ax.add ax.F ax.out
noncomputable def ax.call:ax.D→Option ax.X:=bS ax.E ax.st
theorem ax.run:bM ax.call ax.aB ax.add ax.F:=dh (dd [.d (.slice tB)] fun _=>by kernel_rfl)
noncomputable def ax.sg:SG Tryz.prog:=⟨203,aX,ax.E,.fn 2 (by kernel_rfl) ax.ok (And.intro (.cC ax.L0.ok (by kernel_rfl)) (And.intro (.cC ax.L1.ok (by kernel_rfl)) trivial))⟩
abbrev dz.D:=Bs×Bs
def dz.st:dz.D→SA:=fun(b,more)=>([.d tB b,.d tB more],[])
abbrev dz.Y:=Bs
abbrev dz.X:=Bs
def dz.out:dz.X→bg:=fun x=>⟨.d tB x,[],[]⟩
def dz.add:dz.D→dz.Y→dz.X:=fun(b,more) y=>y
def dz.aB:dz.D→Prop:=fun(a,b)=>a.length+b.length≤100000000
def dz.F:dz.D→dz.Y:=fun(a,b)=>a++b
noncomputable def dz.G:dY:=fg (P:=Tryz.prog) [ax.sg]
noncomputable def dz.an:eI:= {}
noncomputable def dz.A:= @cY Tryz.prog dz.G dz.an 0 Tryz.f179 _ dz.st
abbrev dz.Ok:=cZ @dz.A dz.aB dz.add dz.F dz.out
theorem dz.eq{R:Type}(b:Bs)(more:Bs)(k:bg→Option R):dz.A (b,more) k=
 al (ax.call [b,more]) fun x1=>
 k (dz.out x1):=by kernel_rfl
theorem dz.ok:dz.Ok:=by
 rintro⟨a,b⟩ h
 have h:a.length+b.length≤100000000:=h
 rw[dz.eq,ax.run (d:=[a,b]) ⟨by show [a,b].length≤_;simp,by show jJ [a,b]≤_;simp only[jJ,List.flatten_cons,List.flatten_nil,List.append_nil,List.length_append];omega⟩]
 simp only[ab,ax.add,ax.F,dz.add,dz.F,List.flatten_cons,List.flatten_nil,List.append_nil]
noncomputable def dz.E:=Entry.cC [some tB,some tB] dz.st dz.aB dz.add dz.F dz.out
noncomputable def dz.call:dz.D→Option dz.X:=bS dz.E dz.st
theorem dz.run:bM dz.call dz.aB dz.add dz.F:=dh (dd [.d tB,.d tB] fun _=>by kernel_rfl)
noncomputable def dz.sg:SG Tryz.prog:=⟨179,aX,dz.E,.fn 0 (by kernel_rfl) dz.ok trivial⟩
set_option synthInstance.maxSize 5000
def gz:Nat→Int→List Int×Int
 | 0,n=>([],n)
 |f+1,n=>if 128≤n then((n%128+128)::(gz f (n / 128)).1,(gz f (n / 128)).2) else([],n)
def l9(n:Int):List Int:=(gz 10 n).1++ [(gz 10 n).2]
theorem rB:∀(f g:Nat) (n:Int),n < 128^(f+1)→n < 128^(g+1)→gz f n=gz g n
 | 0,0,n,_,_=>rfl
 | 0,g+1,n,h,_=>by
  have h:n < 128:=h
  rw[gz,gz,if_neg (by omega)]
 |f+1,0,n,_,h=>by
  have h:n < 128:=h
  rw[gz,gz,if_neg (by omega)]
 |f+1,g+1,n,h,h'=>by
  rw[gz,gz]
  split
  ·have e:(128:Int)^(f+1+1)=128^(f+1)*128:=Int.pow_succ 128 (f+1)
   have e':(128:Int)^(g+1+1)=128^(g+1)*128:=Int.pow_succ 128 (g+1)
   rw[rB f g (n / 128) (by omega) (by omega)]
  ·rfl
theorem uf:∀(f:Nat) (n:Int),(gz f n).1.length≤f
 | 0,_=>Nat.le_refl _
 |f+1,n=>by
  rw[gz]
  split
  ·have:=uf f (n / 128)
   simp only[List.length_cons];omega
  ·exact Nat.zero_le _
theorem vN:∀(f:Nat) (n:Int),0≤n→n < 128^(f+1)→0≤(gz f n).2∧(gz f n).2 < 128
 | 0,n,h,h'=>by have h':n < 128:=h';exact⟨h,h'⟩
 |f+1,n,h,h'=>by
  rw[gz]
  have e:(128:Int)^(f+1+1)=128^(f+1)*128:=Int.pow_succ 128 (f+1)
  split
  ·exact vN f (n / 128) (by omega) (by omega)
  ·exact⟨h,by omega⟩
theorem B7{n:Int}(h:128≤n)(h2:n≤9223372036854775807):gz 10 n=((n%128+128)::(gz 10 (n / 128)).1,(gz 10 (n / 128)).2):=by
 have e:(128:Int)^(9+1)=1180591620717411303424:=rfl
 have e2:(128:Int)^(10+1)=151115727451828646838272:=rfl
 rw[gz,if_pos h,rB 9 10 (n / 128) (by rw[e];omega) (by rw[e2];omega)]
theorem qF(n:Int):(l9 n).length≤11:=by
 have:=uf 10 n
 unfold l9
 simp only[List.length_append,List.length_cons,List.length_nil];omega
def xm(n:Int):Prop:=0≤n∧n≤9223372036854775807
abbrev cD.L0.D:=Int×Nat×(List Int)
def cD.L0.st:cD.L0.D→AS:=fun(n_2,outL,n14)=>⟨([.d ti n_2,.undef,.undef,.bJ (.new 14 0) 0 [] 0 0 outL]++bh 16 []),[],(bI 14 ([[.obj 0 false (.vec 5 tb n14)]]++bI 5 []))⟩
abbrev cD.L0.Y0:=Int×Nat×(List Int)
abbrev cD.L0.X0:=Int×Nat×(List Int)
def cD.L0.bw:cD.L0.X0→Exit×AS:=fun x=>(.exit 0,⟨([.d ti x.1,.undef,.undef,.bJ (.new 14 0) 0 [] 0 0 x.2.1]++bh 16 []),[],(bI 14 ([[.obj 0 false (.vec 5 tb x.2.2)]]++bI 5 []))⟩)
abbrev cD.L0.X:=cD.L0.X0
abbrev cD.L0.Y:=cD.L0.Y0
def cD.L0.out:cD.L0.X→Out (Exit×AS):=fun x=> .ok (cD.L0.bw x)
def cD.L0.add:cD.L0.D→cD.L0.Y→cD.L0.X:=fun(n_2,outL,n14) y=>y
abbrev cD.D:=Int
def cD.st:cD.D→SA:=fun n=>([.d ti n],[])
abbrev cD.Y:=Bs
abbrev cD.X:=Bs
def cD.out:cD.X→bg:=fun x=>⟨.d tB x,[],[]⟩
def cD.add:cD.D→cD.Y→cD.X:=fun n y=>y
def cD.L0.aB:cD.L0.D→Prop:=fun(n,m,l)=>xm n∧m=l.length∧l.length≤1000+0*n.toNat∧l.length+(gz 10 n).1.length≤100
def cD.L0.F:cD.L0.D→cD.L0.Y:=fun(n,m,l)=>((gz 10 n).2,(l++(gz 10 n).1).length,l++(gz 10 n).1)
def cD.aB:cD.D→Prop:=fun n=>xm n
def cD.F:cD.D→cD.Y:=fun n=>l9 n
noncomputable def cD.G:dY:=fg (P:=Tryz.prog) []
noncomputable def cD.L0.E:=bQ.cC cD.L0.st cD.L0.aB cD.L0.add cD.L0.F cD.L0.out
noncomputable def cD.L0.call:cD.L0.D→Option cD.L0.X:=dm cD.L0.E cD.L0.st
noncomputable def cD.an:eI:= {loops:=j4 [(2,{bm:=[0,3],sites:=[14],iA:=[⟨3,[],14,140⟩]})],outs:=j3 [(2,{bm:=[0,3],sites:=[14]},{bm:=[2]})],fJ:=kT [(2,cD.L0.E)],res:=[some tB]}
noncomputable def cD.A:= @cY Tryz.prog cD.G cD.an 0 Tryz.f180 _ cD.st
abbrev cD.Ok:=cZ @cD.A cD.aB cD.add cD.F cD.out
noncomputable def cD.L0.R:= @bV Tryz.prog cD.G cD.an 0 Tryz.f180 0 _ cD.L0.st
abbrev cD.L0.Ok:=ez Tryz.prog cD.G cD.an 0 Tryz.f180 0 cD.L0.st cD.L0.aB cD.L0.add cD.L0.F cD.L0.out
theorem cD.L0.run:bM cD.L0.call cD.L0.aB cD.L0.add cD.L0.F:=eF (eD [.d ti,.n,.d tB] fun _=>by kernel_rfl)
theorem cD.L0.aD:fP @cD.L0.R cD.L0.st cD.L0.aB cD.L0.add cD.L0.F cD.L0.bw cD.L0.Ok:=fR
theorem cD.L0.step{R:Type}(n_2:Int)(outL:Nat)(n14:(List Int))(kn:AS→Option R)(kx:Exit→AS→Option R):cD.L0.R (n_2,outL,n14) kn kx=
  aK ((oc n_2 (128:Int))) (
   aK (decide (outL≤(List.length n14))) (
   aK (dp (outL+1) 1) (
   kn (cD.L0.st ((lQ .i64 n_2 (128:Int)),(outL+1),((List.take outL n14)++ [(dJ .u8 (bR .i64 (jD n_2 (128:Int)) (128:Int)))])))) none) none) (
   kx (cD.L0.bw (n_2,outL,n14)).1 (cD.L0.bw (n_2,outL,n14)).2):=by kernel_rfl
theorem cD.eq{R:Type}(n:Int)(k:bg→Option R):cD.A n k=
 al (cD.L0.call (n,0,([]:List Int))) fun x1=>
 aK (decide (x1.2.1≤(List.length x1.2.2))) (
 aK (dp (x1.2.1+1) 1) (
 aK (decide (0=0∧(0+(x1.2.1+1))≤(List.length ((List.take x1.2.1 x1.2.2)++ [(dJ .u8 x1.1)])))) (
 k (cD.out (cut ((List.take x1.2.1 x1.2.2)++ [(dJ .u8 x1.1)]) 0 (x1.2.1+1)))) none) none) none:=by kernel_rfl
theorem CP{n:Int}(h:xm n):dJ .u8 (bR .i64 (jD n 128) 128)=n%128+128:=by
 have h1:=h.1
 rw[oL h.1,fY (by omega) (by omega),tv,fT]
 omega
theorem cD.L0.ok:cD.L0.Ok:=by
 refine cD.L0.aD (fun(n,m,l)=>n.toNat) ?_
 rintro⟨n,m,l⟩ ⟨hn,rfl,hl,hz⟩
 have hn:xm n:=hn
 have hz:l.length+(gz 10 n).1.length≤100:=hz
 have h1:=hn.1
 have h2:=hn.2
 by_cases h:128≤n
 ·left
  have e:=B7 h h2
  have hq:lQ .i64 n 128=n / 128:=by
   rw[lQ,Int.tdiv_eq_ediv_of_nonneg h1]
   exact jI (by omega) (by omega)
  have el:((n%128+128)::(gz 10 (n / 128)).1).length=(gz 10 (n / 128)).1.length+1:=List.length_cons
  rw[e]at hz
  have hz:l.length+((n%128+128)::(gz 10 (n / 128)).1).length≤100:=hz
  rw[el]at hz
  refine⟨(n / 128,l.length+1,l++ [n%128+128]),⟨⟨by omega,by omega⟩,by rw[List.length_append];rfl,by rw[List.length_append];simp only[List.length_cons,List.length_nil];omega,by rw[List.length_append];simp only[List.length_cons,List.length_nil];omega⟩,by simp only[];omega,?_,fun kn kx=> ?_⟩
  ·simp only[cD.L0.add,cD.L0.F,e,List.append_assoc,List.cons_append,List.nil_append]
  ·rw[cD.L0.step,gq h,CP hn,hq]
   simp(disch:=omega) only[↓S1,↓if_pos,↓if_neg,if_pos,if_neg,if_true,if_false,S2,Nat.le_refl,List.take_length]
 ·right
  have e:gz 10 n=([],n):=by rw[gz,if_neg h]
  intro R kn kx
  rw[cD.L0.step,eV h]
  simp only[ao,cD.L0.add,cD.L0.F,e,List.append_nil]
theorem cD.ok:cD.Ok:=by
 intro n hn
 have hn:xm n:=hn
 have hl:=uf 10 n
 have e2:(128:Int)^(10+1)=151115727451828646838272:=rfl
 have hd:=vN 10 n hn.1 (by have:=hn.2;rw[e2];omega)
 have p:cD.L0.aB (n,0,[]):=⟨hn,rfl,by simp,by simp only[List.length_nil];omega⟩
 have hi:dJ .u8 (gz 10 n).2=(gz 10 n).2:=by rw[tv,fT];omega
 rw[cD.eq,cD.L0.run p]
 simp only[ab,cD.L0.add,cD.L0.F,List.nil_append,hi,List.take_length,Nat.le_refl,decide_true,ai]
 rw[dX (by omega) (by omega)]
 simp only[ai,Nat.zero_add,List.length_append,List.length_cons,List.length_nil,Nat.le_refl,and_self,decide_true]
 rw[e7 (by rw[List.length_append];rfl)]
 rfl
noncomputable def cD.E:=Entry.cC [some ti] cD.st cD.aB cD.add cD.F cD.out
noncomputable def cD.call:cD.D→Option cD.X:=bS cD.E cD.st
theorem cD.run:bM cD.call cD.aB cD.add cD.F:=dh (dd [.d ti] fun _=>by kernel_rfl)
noncomputable def cD.sg:SG Tryz.prog:=⟨180,aX,cD.E,.fn 1 (by kernel_rfl) cD.ok (And.intro (.cC cD.L0.ok (by kernel_rfl)) trivial)⟩
def eE(b:List Int)(n:Int):List Int:=if n < 0 then b else b++l9 n
theorem fm(b:List Int)(n:Int):(eE b n).length≤b.length+11:=by
 unfold eE
 have:=qF n
 split
 ·omega
 ·rw[List.length_append];omega
abbrev dE.D:=Bs×Int
def dE.st:dE.D→SA:=fun(b,n)=>([.d tB b,.d ti n],[])
abbrev dE.Y:=Bs
abbrev dE.X:=Bs
def dE.out:dE.X→bg:=fun x=>⟨.d tB x,[],[]⟩
def dE.add:dE.D→dE.Y→dE.X:=fun(b,n) y=>y
def dE.aB:dE.D→Prop:=fun(b,n)=>b.length≤90000000∧n≤9223372036854775807
def dE.F:dE.D→dE.Y:=fun(b,n)=>eE b n
noncomputable def dE.G:dY:=fg (P:=Tryz.prog) [dz.sg,cD.sg]
noncomputable def dE.an:eI:= {}
noncomputable def dE.A:= @cY Tryz.prog dE.G dE.an 0 Tryz.f123 _ dE.st
abbrev dE.Ok:=cZ @dE.A dE.aB dE.add dE.F dE.out
theorem dE.eq{R:Type}(b:Bs)(n:Int)(k:bg→Option R):dE.A (b,n) k=
  aK ((fZ n (0:Int))) (
   al (dz.call (b,([]:List Int))) fun x1=>
   k (dE.out x1)) (
   al (cD.call n) fun x2=>
   al (dz.call (b,x2)) fun x3=>
   k (dE.out x3)):=by kernel_rfl
theorem dE.ok:dE.Ok:=by
 rintro⟨b,n⟩ ⟨hb,hn⟩
 have hb:b.length≤90000000:=hb
 have hn:n≤9223372036854775807:=hn
 rw[dE.eq]
 simp only[dE.add,dE.F,eE]
 by_cases h:n < 0
 ·rw[bu h,if_pos h,ai,dz.run (d:=(b,[])) (by show b.length+([]:List Int).length≤_;simp only[List.length_nil];omega)]
  simp only[ab,dz.add,dz.F,List.append_nil]
 ·have hl:=qF n
  rw[bk h,if_neg h,ao,cD.run (d:=n) ⟨by omega,hn⟩]
  simp only[ab,cD.add,cD.F]
  rw[dz.run (d:=(b,l9 n)) (by show b.length+(l9 n).length≤_;omega)]
  rfl
noncomputable def dE.E:=Entry.cC [some tB,some ti] dE.st dE.aB dE.add dE.F dE.out
noncomputable def dE.call:dE.D→Option dE.X:=bS dE.E dE.st
theorem dE.run:bM dE.call dE.aB dE.add dE.F:=dh (dd [.d tB,.d ti] fun _=>by kernel_rfl)
noncomputable def dE.sg:SG Tryz.prog:=⟨123,aX,dE.E,.fn 0 (by kernel_rfl) dE.ok trivial⟩
abbrev dw.D:=Bs×Int
def dw.st:dw.D→SA:=fun(b,n)=>([.d tB b,.d tu n],[])
abbrev dw.Y:=Bs
abbrev dw.X:=Bs
def dw.out:dw.X→bg:=fun x=>⟨.d tB x,[],[]⟩
def dw.add:dw.D→dw.Y→dw.X:=fun(b,n) y=>y
def dw.aB:dw.D→Prop:=fun(b,n)=>b.length≤90000000
def dw.F:dw.D→dw.Y:=fun(b,n)=>b++hZ n
noncomputable def dw.G:dY:=fg (P:=Tryz.prog) [dz.sg]
noncomputable def dw.an:eI:= {loops:=j4 [(3,{bm:=[0,1,5,7],sites:=[5,21]})],outs:=j3 [(3,{bm:=[0,5],sites:=[5,21]},{bm:=[4],sites:=[5,21]})]}
noncomputable def dw.A:= @cY Tryz.prog dw.G dw.an 12 Tryz.f191 _ dw.st
abbrev dw.Ok:=cZ @dw.A dw.aB dw.add dw.F dw.out
theorem dw.eq{R:Type}(b:Bs)(n:Int)(k:bg→Option R):dw.A (b,n) k=
 al (dz.call (b,[(dJ .u8 (bT .u64 n (56:Int))),(dJ .u8 (bT .u64 n (48:Int))),(dJ .u8 (bT .u64 n (40:Int))),(dJ .u8 (bT .u64 n (32:Int))),(dJ .u8 (bT .u64 n (24:Int))),(dJ .u8 (bT .u64 n (16:Int))),(dJ .u8 (bT .u64 n (8:Int))),(dJ .u8 (bT .u64 n (0:Int)))])) fun x1=>
 k (dw.out x1):=by kernel_rfl
theorem dw.ok:dw.Ok:=by
 rintro⟨b,n⟩ hb
 have hb:b.length≤90000000:=hb
 have p:dz.aB (b,hZ n):=by show b.length+(hZ n).length≤_;rw[bW];omega
 have e:dz.call (b,[dJ .u8 (bT .u64 n 56),dJ .u8 (bT .u64 n 48),dJ .u8 (bT .u64 n 40),dJ .u8 (bT .u64 n 32),dJ .u8 (bT .u64 n 24),dJ .u8 (bT .u64 n 16),dJ .u8 (bT .u64 n 8),dJ .u8 (bT .u64 n 0)])=some (b++hZ n):=by
  rw[xC];exact dz.run p
 rw[dw.eq]
 refine Eq.trans (congrArg (fun x=>al x _) e) ?_
 rfl
noncomputable def dw.E:=Entry.cC [some tB,some tu] dw.st dw.aB dw.add dw.F dw.out
noncomputable def dw.call:dw.D→Option dw.X:=bS dw.E dw.st
theorem dw.run:bM dw.call dw.aB dw.add dw.F:=dh (dd [.d tB,.d tu] fun _=>by kernel_rfl)
noncomputable def dw.sg:SG Tryz.prog:=⟨191,aX,dw.E,.fn 1 (by kernel_rfl) dw.ok (And.intro (.none (by kernel_rfl)) trivial)⟩
set_option synthInstance.maxSize 5000
def nL(w:oT):Bool:=decide (0≤w.1∧w.1 < 4) && decide (w.2.1.length≤12)
def tw(x:fU):Bool:=decide (0≤x.1.2.1∧x.1.2.1 < 64) && nL x.2.1
def rT(m:List (db×Bool))(x:fU):Bool:=(cS cJ x.1 m).getD false
def qe:List (db×Bool)→List fU→Bool
 |_,[]=>true
 |m,x::l=>(!(rT m x) && tw x) && qe (fO cJ x.1 true m) l
def nX(a:Int):Bool:=decide (0≤a∧a≤1125899906842624)
def pR(a b:Int):Bool:=nX a && (nX b && decide (a+b≤1125899906842624))
def nk:Int→List fx→Bool
 |_,[]=>true
 |s,o::l=>(pR s o.1 && jE o.2.1) && nk (s+o.1) l
def xg(t:eT):Bool:=decide (1≤t.1.length∧t.1.length≤64∧t.2.1.length≤64∧0≤t.2.2.1)
def gv(t:eT):Bool:=xg t && (qe [] t.1 && nk 0 t.2.1)
def FH(l:Lk):Prop:=Ck l∧l.1.length≤9223372036854775807
def HP(t:eT):Prop:=(∀o∈t.2.1,FH o.2.1)∧t.1.length≤9223372036854775807∧t.2.1.length≤9223372036854775807
abbrev fb.D:=oT
def fb.st:fb.D→SA:=fun wv=>([.d vS wv],[])
abbrev fb.Y:=Bool
abbrev fb.X:=Bool
def fb.out:fb.X→bg:=fun x=>⟨.d .bool x,[],[]⟩
def fb.add:fb.D→fb.Y→fb.X:=fun wv y=>y
def fb.aB:fb.D→Prop:=fun _=>True
def fb.F:fb.D→fb.Y:=fun w=>nL w
noncomputable def fb.G:dY:=fg (P:=Tryz.prog) []
noncomputable def fb.an:eI:= {}
noncomputable def fb.A:= @cY Tryz.prog fb.G fb.an 0 Tryz.f67 _ fb.st
abbrev fb.Ok:=cZ @fb.A fb.aB fb.add fb.F fb.out
theorem fb.eq{R:Type}(wv:oT)(k:bg→Option R):fb.A wv k=
  aK ((oc wv.1 (0:Int))) (
   aK ((fZ wv.1 (4:Int))) (
    k (fb.out (BI (((List.length wv.2.1):Nat):Int) (12:Int)))) (
    k (fb.out false))) (
   k (fb.out false)):=by kernel_rfl
theorem fb.ok:fb.Ok:=by
 rintro⟨b,ss,sc,u⟩ _
 rw[fb.eq]
 simp only[fb.add,fb.F,nL]
 by_cases h:0≤b
 ·rw[gq h,ai]
  by_cases h2:b < 4
  ·rw[bu h2,ai,aY ⟨h,h2⟩]
   by_cases h3:ss.length≤12
   ·rw[mK (by omega),aY h3];rfl
   ·rw[j8 (by omega),bq h3];rfl
  ·rw[bk h2,ao,bq (fun x=>h2 x.2)];rfl
 ·rw[eV h,ao,bq (fun x=>h x.1)];rfl
noncomputable def fb.E:=Entry.cC [some vS] fb.st fb.aB fb.add fb.F fb.out
noncomputable def fb.call:fb.D→Option fb.X:=bS fb.E fb.st
theorem fb.run:bM fb.call fb.aB fb.add fb.F:=dh (dd [.d vS] fun _=>by kernel_rfl)
noncomputable def fb.sg:SG Tryz.prog:=⟨67,aX,fb.E,.fn 0 (by kernel_rfl) fb.ok trivial⟩
abbrev cX.D:=Int
def cX.st:cX.D→SA:=fun a=>([.d ti a],[])
abbrev cX.Y:=Bool
abbrev cX.X:=Bool
def cX.out:cX.X→bg:=fun x=>⟨.d .bool x,[],[]⟩
def cX.add:cX.D→cX.Y→cX.X:=fun a y=>y
def cX.aB:cX.D→Prop:=fun _=>True
def cX.F:cX.D→cX.Y:=fun a=>nX a
noncomputable def cX.G:dY:=fg (P:=Tryz.prog) []
noncomputable def cX.an:eI:= {}
noncomputable def cX.A:= @cY Tryz.prog cX.G cX.an 0 Tryz.f194 _ cX.st
abbrev cX.Ok:=cZ @cX.A cX.aB cX.add cX.F cX.out
theorem cX.eq{R:Type}(a:Int)(k:bg→Option R):cX.A a k=
  aK ((oc a (0:Int))) (
   k (cX.out (BI a (1125899906842624:Int)))) (
   k (cX.out false)):=by kernel_rfl
theorem cX.ok:cX.Ok:=by
 intro(a:Int) _
 rw[cX.eq]
 simp only[cX.add,cX.F,nX]
 by_cases h:0≤a
 ·rw[gq h,ai]
  by_cases h2:a≤1125899906842624
  ·rw[mK h2,aY ⟨h,h2⟩]
  ·rw[j8 h2,bq (fun x=>h2 x.2)]
 ·rw[eV h,ao,bq (fun x=>h x.1)]
noncomputable def cX.E:=Entry.cC [some ti] cX.st cX.aB cX.add cX.F cX.out
noncomputable def cX.call:cX.D→Option cX.X:=bS cX.E cX.st
theorem cX.run:bM cX.call cX.aB cX.add cX.F:=dh (dd [.d ti] fun _=>by kernel_rfl)
noncomputable def cX.sg:SG Tryz.prog:=⟨194,aX,cX.E,.fn 0 (by kernel_rfl) cX.ok trivial⟩
abbrev fk.D:=Int×Int
def fk.st:fk.D→SA:=fun(a,b)=>([.d ti a,.d ti b],[])
abbrev fk.Y:=Int×Bool
abbrev fk.X:=Int×Bool
def fk.out:fk.X→bg:=fun x=>⟨.cons (.d ti x.1) (.cons (.d .bool x.2) (.nil)),[],[]⟩
def fk.add:fk.D→fk.Y→fk.X:=fun(a,b) y=>y
def fk.aB:fk.D→Prop:=fun _=>True
def fk.F:fk.D→fk.Y:=fun(a,b)=>(bif pR a b then a+b else 0,pR a b)
noncomputable def fk.G:dY:=fg (P:=Tryz.prog) [cX.sg]
noncomputable def fk.an:eI:= {}
noncomputable def fk.A:= @cY Tryz.prog fk.G fk.an 0 Tryz.f132 _ fk.st
abbrev fk.Ok:=cZ @fk.A fk.aB fk.add fk.F fk.out
theorem fk.eq{R:Type}(a:Int)(b:Int)(k:bg→Option R):fk.A (a,b) k=
  al (cX.call a) fun x1=>
  aK ((!x1)) (
   k (fk.out ((0:Int),false))) (
   al (cX.call b) fun x2=>
   aK ((!x2)) (
    k (fk.out ((0:Int),false))) (
    aK ((mJ a (cQ .i64 (1125899906842624:Int) b))) (
     k (fk.out ((0:Int),false))) (
     k (fk.out ((bR .i64 a b),true))))):=by kernel_rfl
theorem fk.ok:fk.Ok:=by
 rintro⟨a,b⟩ _
 rw[fk.eq,cX.run (d:=a) trivial,cX.run (d:=b) trivial]
 simp only[ab,cX.add,cX.F,fk.add,fk.F,pR]
 cases ha:nX a
 ·rfl
 ·cases hb:nX b
  ·rfl
  ·simp only[nX,decide_eq_true_eq]at ha hb
   simp only[Bool.not_true,ao,Bool.true_and]
   rw[eR (by omega) (by omega)]
   by_cases h:a+b≤1125899906842624
   ·rw[cW (by omega),ao,aY h,fY (by omega) (by omega)];rfl
   ·rw[dx (by omega),ai,bq h];rfl
noncomputable def fk.E:=Entry.cC [some ti,some ti] fk.st fk.aB fk.add fk.F fk.out
noncomputable def fk.call:fk.D→Option fk.X:=bS fk.E fk.st
theorem fk.run:bM fk.call fk.aB fk.add fk.F:=dh (dd [.d ti,.d ti] fun _=>by kernel_rfl)
noncomputable def fk.sg:SG Tryz.prog:=⟨132,aX,fk.E,.fn 0 (by kernel_rfl) fk.ok trivial⟩
abbrev aw.L0.D:=eT×(List fU)×Int×Int×(List (db×Bool))
def aw.L0.st:aw.L0.D→AS:=fun(t_2,t33,t34,t35,n31)=>⟨([.undef,.eC fV t_2,.undef,.eN (.new 31 0) 0]++bh 29 ([.d (.slice fv) t33,.d ti t34,.d ti t35]++bh 52 [])),[],(bI 31 ([[.obj 0 false (.mp cJ .bool n31)]]++bI 56 []))⟩
abbrev aw.L0.Y0:=Unit
abbrev aw.L0.X0:=Unit
def aw.L0.bw:aw.L0.X0→Exit×AS:=fun x=>(.ret,⟨([.undef,.undef,.d .bool false]++bh 85 []),[],(List.replicate 88 [])⟩)
abbrev aw.L0.Y1:=Unit
abbrev aw.L0.X1:=eT
def aw.L0.fq:aw.L0.X1→Exit×AS:=fun x=>(.exit 0,⟨([.undef,.eC fV x]++bh 86 []),[],(List.replicate 88 [])⟩)
abbrev aw.L0.X:=(aw.L0.X0)⊕(aw.L0.X1)
abbrev aw.L0.Y:=(aw.L0.Y0)⊕(aw.L0.Y1)
def aw.L0.out:aw.L0.X→Out (Exit×AS):=fun x=> .br x.isLeft (.get x.getLeft? fun a=> .ok (aw.L0.bw a)) (.get x.getRight? fun b=> .ok (aw.L0.fq b))
def aw.L0.add:aw.L0.D→aw.L0.Y→aw.L0.X:=fun(t_2,t33,t34,t35,n31) y=>match y with | .inl y=> .inl y | .inr z=> .inr (t_2)
abbrev aw.L1.D:=Int×(List fx)×Int×Int
def aw.L1.st:aw.L1.D→AS:=fun(sum,t66,t67,t68)=>⟨(bh 6 ([.d ti sum]++bh 59 ([.d (.slice eP) t66,.d ti t67,.d ti t68]++bh 19 []))),[],(List.replicate 88 [])⟩
abbrev aw.L1.Y0:=Unit
abbrev aw.L1.X0:=Unit
def aw.L1.bw:aw.L1.X0→Exit×AS:=fun x=>(.ret,⟨([.undef,.undef,.d .bool false]++bh 85 []),[],(List.replicate 88 [])⟩)
abbrev aw.L1.Y1:=Unit
abbrev aw.L1.X1:=Unit
def aw.L1.fq:aw.L1.X1→Exit×AS:=fun x=>(.exit 2,⟨(bh 88 []),[],(List.replicate 88 [])⟩)
abbrev aw.L1.X:=(aw.L1.X0)⊕(aw.L1.X1)
abbrev aw.L1.Y:=(aw.L1.Y0)⊕(aw.L1.Y1)
def aw.L1.out:aw.L1.X→Out (Exit×AS):=fun x=> .br x.isLeft (.get x.getLeft? fun a=> .ok (aw.L1.bw a)) (.get x.getRight? fun b=> .ok (aw.L1.fq b))
def aw.L1.add:aw.L1.D→aw.L1.Y→aw.L1.X:=fun(sum,t66,t67,t68) y=>match y with | .inl y=> .inl y | .inr z=> .inr (z)
abbrev aw.D:=eT
def aw.st:aw.D→SA:=fun t=>([.d fV t],[])
abbrev aw.Y:=Bool
abbrev aw.X:=Bool
def aw.out:aw.X→bg:=fun x=>⟨.d .bool x,[],[]⟩
def aw.add:aw.D→aw.Y→aw.X:=fun t y=>y
def aw.L0.aB:aw.L0.D→Prop:=fun(t,l,n,i,m)=>l.length≤9223372036854775807∧n=l.length∧∃k:Nat,k≤l.length∧i=k
def aw.L0.F:aw.L0.D→aw.L0.Y:=fun(t,l,n,i,m)=>if qe m (l.drop i.toNat) then .inr () else .inl ()
def aw.L1.aB:aw.L1.D→Prop:=fun(s,l,n,i)=>(∀o∈l,FH o.2.1)∧l.length≤9223372036854775807∧n=l.length∧∃k:Nat,k≤l.length∧i=k
def aw.L1.F:aw.L1.D→aw.L1.Y:=fun(s,l,n,i)=>if nk s (l.drop i.toNat) then .inr () else .inl ()
def aw.aB:aw.D→Prop:=fun t=>HP t
def aw.F:aw.D→aw.Y:=fun t=>gv t
noncomputable def aw.G:dY:=fg (P:=Tryz.prog) [fb.sg,fk.sg,aM.sg]
noncomputable def aw.L0.E:=bQ.cC aw.L0.st aw.L0.aB aw.L0.add aw.L0.F aw.L0.out
noncomputable def aw.L0.call:aw.L0.D→Option aw.L0.X:=dm aw.L0.E aw.L0.st
noncomputable def aw.L1.E:=bQ.cC aw.L1.st aw.L1.aB aw.L1.add aw.L1.F aw.L1.out
noncomputable def aw.L1.call:aw.L1.D→Option aw.L1.X:=dm aw.L1.E aw.L1.st
noncomputable def aw.an:eI:= {loops:=j4 [(5,{bm:=[1,3,33,34,35],sites:=[31]}),(13,{bm:=[6,66,67,68]})],outs:=j3 [(5,{bm:=[1]},{bm:=[2]}),(13,{},{bm:=[2]})],fJ:=kT [(5,aw.L0.E),(13,aw.L1.E)]}
noncomputable def aw.A:= @cY Tryz.prog aw.G aw.an 0 Tryz.f66 _ aw.st
abbrev aw.Ok:=cZ @aw.A aw.aB aw.add aw.F aw.out
noncomputable def aw.L0.R:= @bV Tryz.prog aw.G aw.an 0 Tryz.f66 0 _ aw.L0.st
abbrev aw.L0.Ok:=ez Tryz.prog aw.G aw.an 0 Tryz.f66 0 aw.L0.st aw.L0.aB aw.L0.add aw.L0.F aw.L0.out
noncomputable def aw.L1.R:= @bV Tryz.prog aw.G aw.an 0 Tryz.f66 1 _ aw.L1.st
abbrev aw.L1.Ok:=ez Tryz.prog aw.G aw.an 0 Tryz.f66 1 aw.L1.st aw.L1.aB aw.L1.add aw.L1.F aw.L1.out
theorem aw.L0.run:bM aw.L0.call aw.L0.aB aw.L0.add aw.L0.F:=eF (eD [.d fV,.d (.slice fv),.d ti,.d ti,.d (.slice (.pair cJ .bool))] fun _=>by kernel_rfl)
theorem aw.L0.aD:kP @aw.L0.R aw.L0.st aw.L0.aB aw.L0.add aw.L0.F aw.L0.out aw.L0.Ok:=lp
theorem aw.L0.step{R:Type}(t_2:eT)(t33:(List fU))(t34:Int)(t35:Int)(n31:(List (db×Bool)))(kn:AS→Option R)(kx:Exit→AS→Option R):aw.L0.R (t_2,t33,t34,t35,n31) kn kx=
  aK ((fZ t35 t34)) (
   aK (eH t35 (((List.length t33):Nat):Int)) (
   aK (((cS cJ (nth fv t33 (Int.toNat t35)).1 n31).getD false)) (
    kx (aw.L0.bw ()).1 (aw.L0.bw ()).2) (
    aK ((fZ (nth fv t33 (Int.toNat t35)).1.2.1 (0:Int))) (
     kx (aw.L0.bw ()).1 (aw.L0.bw ()).2) (
     aK ((oc (nth fv t33 (Int.toNat t35)).1.2.1 (64:Int))) (
      kx (aw.L0.bw ()).1 (aw.L0.bw ()).2) (
      al (fb.call (nth fv t33 (Int.toNat t35)).2.1) fun x8=>
      aK ((!x8)) (
       kx (aw.L0.bw ()).1 (aw.L0.bw ()).2) (
       kn (aw.L0.st (t_2,t33,t34,(bR .i64 t35 (1:Int)),(fO cJ (nth fv t33 (Int.toNat t35)).1 true n31)))))))) none) (
   kx (aw.L0.fq t_2).1 (aw.L0.fq t_2).2):=by kernel_rfl
theorem aw.L1.run:bM aw.L1.call aw.L1.aB aw.L1.add aw.L1.F:=eF (eD [.d ti,.d (.slice eP),.d ti,.d ti] fun _=>by kernel_rfl)
theorem aw.L1.aD:kP @aw.L1.R aw.L1.st aw.L1.aB aw.L1.add aw.L1.F aw.L1.out aw.L1.Ok:=lp
theorem aw.L1.step{R:Type}(sum:Int)(t66:(List fx))(t67:Int)(t68:Int)(kn:AS→Option R)(kx:Exit→AS→Option R):aw.L1.R (sum,t66,t67,t68) kn kx=
  aK ((fZ t68 t67)) (
   aK (eH t68 (((List.length t66):Nat):Int)) (
   al (fk.call (sum,(nth eP t66 (Int.toNat t68)).1)) fun x10=>
   aK ((!x10.2)) (
    kx (aw.L1.bw ()).1 (aw.L1.bw ()).2) (
    al (aM.call (nth eP t66 (Int.toNat t68)).2.1) fun x12=>
    aK ((!x12)) (
     kx (aw.L1.bw ()).1 (aw.L1.bw ()).2) (
     kn (aw.L1.st (x10.1,t66,t67,(bR .i64 t68 (1:Int))))))) none) (
   kx (aw.L1.fq ()).1 (aw.L1.fq ()).2):=by kernel_rfl
theorem aw.eq{R:Type}(t:eT)(k:bg→Option R):aw.A t k=
  aK ((fZ (((List.length t.1):Nat):Int) (1:Int))) (
   k (aw.out false)) (
   aK ((mJ (((List.length t.1):Nat):Int) (64:Int))) (
    k (aw.out false)) (
    aK ((mJ (((List.length t.2.1):Nat):Int) (64:Int))) (
     k (aw.out false)) (
     aK ((fZ t.2.2.1 (0:Int))) (
      k (aw.out false)) (
      al (aw.L0.call (t,t.1,(((List.length t.1):Nat):Int),(0:Int),([]:List (db×Bool)))) fun x12=>
      aK (x12.isLeft) (
       al (x12.getLeft?) fun a13=>
       k (aw.out false)) (
       al (x12.getRight?) fun b14=>
       al (aw.L1.call ((0:Int),b14.2.1,(((List.length b14.2.1):Nat):Int),(0:Int))) fun x30=>
       aK (x30.isLeft) (
        al (x30.getLeft?) fun a31=>
        k (aw.out false)) (
        al (x30.getRight?) fun b32=>
        k (aw.out true))))))):=by kernel_rfl
theorem aw.L0.ok:aw.L0.Ok:=by
 refine aw.L0.aD (fun(t,l,n,i,m)=>l.length - i.toNat) ?_
 rintro⟨t,l,n,i,m⟩ ⟨hb,rfl,k,hk,rfl⟩
 have hb:l.length≤9223372036854775807:=hb
 have hk:k≤l.length:=hk
 by_cases h:k < l.length
 ·have n1:nth fv l k=l[k]:=cG (t:=fv) h
  have hd:qe m (l.drop k)=((!(rT m l[k]) && tw l[k]) && qe (fO cJ l[k].1 true m) (l.drop (k+1))):=by rw[List.drop_eq_getElem_cons h];rfl
  have step:∀ {R:Type} (kn:AS→Option R) (kx:Exit→AS→Option R),aw.L0.R (t,l,(l.length:Int),(k:Int),m) kn kx=aK (!(rT m l[k]) && tw l[k]) (kn (aw.L0.st (t,l,(l.length:Int),((k+1:Nat):Int),fO cJ l[k].1 true m))) (kx (aw.L0.bw ()).1 (aw.L0.bw ()).2):=by
   intro R kn kx
   rw[aw.L0.step,bu (by omega),bz (by omega) (by omega),Int.toNat_natCast,n1,N.kO (by omega),fb.run (d:=l[k].2.1) trivial]
   simp only[ai,ab,fb.add,fb.F]
   have e:(cS cJ l[k].1 m).getD false=rT m l[k]:=rfl
   rw[e]
   cases rT m l[k]
   ·simp only[Bool.not_false,Bool.true_and,ao,tw]
    by_cases h1:l[k].1.2.1 < 0
    ·rw[bu h1,ai,bq (fun x=>by omega)];rfl
    ·rw[bk h1,ao]
     by_cases h2:64≤l[k].1.2.1
     ·rw[gq h2,ai,bq (fun x=>by omega)];rfl
     ·rw[eV h2,ao,aY ⟨by omega,by omega⟩]
      cases nL l[k].2.1 <;> rfl
   ·rfl
  cases hp:(!(rT m l[k]) && tw l[k])
  ·right
   refine⟨aw.L0.bw (),?_,fun kn kx=> ?_⟩
   ·simp only[aw.L0.add,aw.L0.F,Int.toNat_natCast,hd,hp,Bool.false_and,Bool.false_eq_true,if_false]
    rfl
   ·rw[step,hp,ao]
  ·left
   refine⟨(t,l,l.length,((k+1:Nat):Int),fO cJ l[k].1 true m),⟨hb,rfl,k+1,by omega,rfl⟩,by simp only[Int.toNat_natCast];omega,?_,fun kn kx=> ?_⟩
   ·simp only[aw.L0.add,aw.L0.F,Int.toNat_natCast,hd,hp,Bool.true_and]
   ·rw[step,hp,ai]
 ·right
  obtain rfl:k=l.length:=by omega
  refine⟨aw.L0.fq t,?_,fun kn kx=> ?_⟩
  ·simp only[aw.L0.add,aw.L0.F,Int.toNat_natCast,List.drop_length]
   rfl
  ·rw[aw.L0.step]
   simp(disch:=omega) only[↓S1,↓if_pos,↓if_neg,if_pos,if_neg,if_true,if_false,S2]
theorem aw.L1.ok:aw.L1.Ok:=by
 refine aw.L1.aD (fun(s,l,n,i)=>l.length - i.toNat) ?_
 rintro⟨s,l,n,i⟩ ⟨hl,hb,rfl,k,hk,rfl⟩
 have hb:l.length≤9223372036854775807:=hb
 have hk:k≤l.length:=hk
 by_cases h:k < l.length
 ·have hx:FH l[k].2.1:=hl _ (List.getElem_mem h)
  have n1:nth eP l k=l[k]:=cG (t:=eP) h
  have hd:nk s (l.drop k)=((pR s l[k].1 && jE l[k].2.1) && nk (s+l[k].1) (l.drop (k+1))):=by rw[List.drop_eq_getElem_cons h];rfl
  have step:∀ {R:Type} (kn:AS→Option R) (kx:Exit→AS→Option R),aw.L1.R (s,l,(l.length:Int),(k:Int)) kn kx=aK (pR s l[k].1 && jE l[k].2.1) (kn (aw.L1.st (s+l[k].1,l,(l.length:Int),((k+1:Nat):Int)))) (kx (aw.L1.bw ()).1 (aw.L1.bw ()).2):=by
   intro R kn kx
   rw[aw.L1.step,bu (by omega),bz (by omega) (by omega),Int.toNat_natCast,n1,N.kO (by omega),fk.run (d:=(s,l[k].1)) trivial,aM.run (d:=l[k].2.1) hx]
   simp only[ai,ab,fk.add,fk.F,aM.add,aM.F]
   cases pR s l[k].1
   ·rfl
   ·cases jE l[k].2.1 <;> rfl
  cases hp:(pR s l[k].1 && jE l[k].2.1)
  ·right
   refine⟨aw.L1.bw (),?_,fun kn kx=> ?_⟩
   ·simp only[aw.L1.add,aw.L1.F,Int.toNat_natCast,hd,hp,Bool.false_and,Bool.false_eq_true,if_false]
    rfl
   ·rw[step,hp,ao]
  ·left
   refine⟨(s+l[k].1,l,l.length,((k+1:Nat):Int)),⟨hl,hb,rfl,k+1,by omega,rfl⟩,by simp only[Int.toNat_natCast];omega,?_,fun kn kx=> ?_⟩
   ·simp only[aw.L1.add,aw.L1.F,Int.toNat_natCast,hd,hp,Bool.true_and]
   ·rw[step,hp,ai]
 ·right
  obtain rfl:k=l.length:=by omega
  refine⟨aw.L1.fq (),?_,fun kn kx=> ?_⟩
  ·simp only[aw.L1.add,aw.L1.F,Int.toNat_natCast,List.drop_length]
   rfl
  ·rw[aw.L1.step]
   simp(disch:=omega) only[↓S1,↓if_pos,↓if_neg,if_pos,if_neg,if_true,if_false,S2]
theorem aw.ok:aw.Ok:=by
 rintro⟨is,os,nt,u⟩ ⟨hl,h1,h2⟩
 have h1:is.length≤9223372036854775807:=h1
 have h2:os.length≤9223372036854775807:=h2
 rw[aw.eq,aw.L0.run (d:=((is,os,nt,u),is,is.length,0,[])) ⟨h1,rfl,0,by omega,rfl⟩]
 simp only[ab,aw.L0.add,aw.L0.F,Int.toNat_zero,List.drop_zero,aw.add,aw.F,gv,xg]
 by_cases a1:is.length < 1
 ·rw[bu (by omega),ai,bq (fun x=>by omega)];rfl
 rw[bk (by omega),ao]
 by_cases a2:64 < is.length
 ·rw[dx (by omega),ai,bq (fun x=>by omega)];rfl
 rw[cW (by omega),ao]
 by_cases a3:64 < os.length
 ·rw[dx (by omega),ai,bq (fun x=>by omega)];rfl
 rw[cW (by omega),ao]
 by_cases a4:nt < 0
 ·rw[bu (by omega),ai,bq (fun x=>by omega)];rfl
 rw[bk (by omega),ao,aY ⟨by omega,by omega,by omega,by omega⟩]
 cases qe [] is
 ·rfl
 ·simp only[if_true,Bool.true_and]
  show al (aw.L1.call (0,os,(os.length:Int),0)) _=_
  rw[aw.L1.run (d:=(0,os,os.length,0)) ⟨hl,h2,rfl,0,by omega,rfl⟩]
  simp only[ab,aw.L1.add,aw.L1.F,Int.toNat_zero,List.drop_zero]
  cases nk 0 os <;> rfl
noncomputable def aw.E:=Entry.cC [some fV] aw.st aw.aB aw.add aw.F aw.out
noncomputable def aw.call:aw.D→Option aw.X:=bS aw.E aw.st
theorem aw.run:bM aw.call aw.aB aw.add aw.F:=dh (dd [.d fV] fun _=>by kernel_rfl)
noncomputable def aw.sg:SG Tryz.prog:=⟨66,aX,aw.E,.fn 2 (by kernel_rfl) aw.ok (And.intro (.cC aw.L0.ok (by kernel_rfl)) (And.intro (.cC aw.L1.ok (by kernel_rfl)) trivial))⟩
set_option synthInstance.maxSize 5000
abbrev cH.D:=Bs
def cH.st:cH.D→SA:=fun sv=>([.d tU sv],[])
abbrev cH.Y:=Bs
abbrev cH.X:=Bs
def cH.out:cH.X→bg:=fun x=>⟨.d tU x,[],[]⟩
def cH.add:cH.D→cH.Y→cH.X:=fun sv y=>y
def cH.aB:cH.D→Prop:=fun l=>l.length≤1000000
def cH.F:cH.D→cH.Y:=fun l=>l
noncomputable def cH.G:dY:=fg (P:=Tryz.prog) []
noncomputable def cH.an:eI:= {bK:=[5],res:=[some tU]}
noncomputable def cH.A:= @cY Tryz.prog cH.G cH.an 0 Tryz.f142 _ cH.st
abbrev cH.Ok:=cZ @cH.A cH.aB cH.add cH.F cH.out
theorem cH.eq{R:Type}(sv:Bs)(k:bg→Option R):cH.A sv k=
  aK (decide (0 < (List.length sv))) (
   aK (dp (0+(List.length sv)) 8) (
   aK (decide (0=0∧(0+(0+(List.length sv)))≤(List.length ((List.take 0 (List.replicate 0 (0:Int)))++sv)))) (
   k (cH.out (cut ((List.take 0 (List.replicate 0 (0:Int)))++sv) 0 (0+(List.length sv))))) none) none) (
   nd (
    k (cH.out ([]:List Int))) (
    aK (dp (0+(List.length sv)) 8) (
    aK (decide (0=0∧(0+(0+(List.length sv)))≤(List.length ((List.take 0 (List.replicate 0 (0:Int)))++sv)))) (
    k (cH.out (cut ((List.take 0 (List.replicate 0 (0:Int)))++sv) 0 (0+(List.length sv))))) none) none)):=by kernel_rfl
theorem cH.ok:cH.Ok:=by
 intro l hl
 have hl:l.length≤1000000:=hl
 have hr:dp l.length 8=true:=dX (by omega) (by omega)
 have e0:(List.take 0 (List.replicate 0 0):List Int)=[]:=rfl
 rw[cH.eq]
 simp only[Nat.zero_add,hr,ai,e0,List.nil_append,Nat.le_refl,and_self,decide_true,e7,cH.add,cH.F]
 by_cases h:0 < l.length
 ·simp only[aY h,ai]
 ·have:l=[]:=List.eq_nil_of_length_eq_zero (by omega)
  subst this
  simp only[List.length_nil,ni,bq (Nat.lt_irrefl 0),ao]
noncomputable def cH.E:=Entry.cC [some tU] cH.st cH.aB cH.add cH.F cH.out
noncomputable def cH.call:cH.D→Option cH.X:=bS cH.E cH.st
theorem cH.run:bM cH.call cH.aB cH.add cH.F:=dh (dd [.d tU] fun _=>by kernel_rfl)
noncomputable def cH.sg:SG Tryz.prog:=⟨142,aX,cH.E,.fn 0 (by kernel_rfl) cH.ok trivial⟩
def Bj(l:List Int):Lk:=([(l,0,0,0,())],())
abbrev fL.D:=Bs
def fL.st:fL.D→SA:=fun l=>([.d tU l],[])
abbrev fL.Y:=Lk
abbrev fL.X:=Lk
def fL.out:fL.X→bg:=fun x=>⟨.d oX x,[],[]⟩
def fL.add:fL.D→fL.Y→fL.X:=fun l y=>y
def fL.aB:fL.D→Prop:=fun l=>l.length≤1000000
def fL.F:fL.D→fL.Y:=fun l=>Bj l
noncomputable def fL.G:dY:=fg (P:=Tryz.prog) [cH.sg]
noncomputable def fL.an:eI:= {}
noncomputable def fL.A:= @cY Tryz.prog fL.G fL.an 0 Tryz.f71 _ fL.st
abbrev fL.Ok:=cZ @fL.A fL.aB fL.add fL.F fL.out
theorem fL.eq{R:Type}(l:Bs)(k:bg→Option R):fL.A l k=
 al (cH.call l) fun x1=>
 k (fL.out ([(x1,((0:Int),((0:Int),((0:Int),()))))],())):=by kernel_rfl
theorem fL.ok:fL.Ok:=by
 intro l hl
 rw[fL.eq,cH.run (d:=l) hl]
 rfl
noncomputable def fL.E:=Entry.cC [some tU] fL.st fL.aB fL.add fL.F fL.out
noncomputable def fL.call:fL.D→Option fL.X:=bS fL.E fL.st
theorem fL.run:bM fL.call fL.aB fL.add fL.F:=dh (dd [.d tU] fun _=>by kernel_rfl)
noncomputable def fL.sg:SG Tryz.prog:=⟨71,aX,fL.E,.fn 0 (by kernel_rfl) fL.ok trivial⟩
abbrev fI.D:=Int
def fI.st:fI.D→SA:=fun p=>([.d tu p],[])
abbrev fI.Y:=Lk
abbrev fI.X:=Lk
def fI.out:fI.X→bg:=fun x=>⟨.d oX x,[],[]⟩
def fI.add:fI.D→fI.Y→fI.X:=fun p y=>y
def fI.aB:fI.D→Prop:=fun _=>True
def fI.F:fI.D→fI.Y:=fun p=>Bj [p]
noncomputable def fI.G:dY:=fg (P:=Tryz.prog) [fL.sg]
noncomputable def fI.an:eI:= {}
noncomputable def fI.A:= @cY Tryz.prog fI.G fI.an 0 Tryz.f17 _ fI.st
abbrev fI.Ok:=cZ @fI.A fI.aB fI.add fI.F fI.out
theorem fI.eq{R:Type}(p:Int)(k:bg→Option R):fI.A p k=
 al (fL.call [p]) fun x1=>
 k (fI.out x1):=by kernel_rfl
theorem fI.ok:fI.Ok:=by
 intro p _
 rw[fI.eq,fL.run (d:=[p]) (by show [p].length≤_;simp)]
 rfl
noncomputable def fI.E:=Entry.cC [some tu] fI.st fI.aB fI.add fI.F fI.out
noncomputable def fI.call:fI.D→Option fI.X:=bS fI.E fI.st
theorem fI.run:bM fI.call fI.aB fI.add fI.F:=dh (dd [.d tu] fun _=>by kernel_rfl)
noncomputable def fI.sg:SG Tryz.prog:=⟨17,aX,fI.E,.fn 0 (by kernel_rfl) fI.ok trivial⟩
set_option synthInstance.maxSize 5000
end Go.Ab
