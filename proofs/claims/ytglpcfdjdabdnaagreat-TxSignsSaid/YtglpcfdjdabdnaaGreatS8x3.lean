/-
  Made short by a program of mine (wip/tools/mini.py).
-/
import Derived.Test.YtglpcfdjdabdnaaGreatS8x2
import Derived.Test.YtglpcfdjdabdnaaGreatProg
set_option linter.unusedVariables false
set_option linter.unusedSimpArgs false
namespace Go.Ab
open Go.Proofs
set_option maxRecDepth 100000
set_option linter.unusedVariables false
set_option linter.unusedSimpArgs false
set_option synthInstance.maxSize 5000
abbrev binary.D:=Bs
def binary.st:binary.D→SA:=fun b=>([.d tB b],[])
abbrev binary.Y:=Int
abbrev binary.X:=Int
def binary.out:binary.X→aZ:=fun x=>⟨.d (.int .u32) x,[],[]⟩
def binary.add:binary.D→binary.Y→binary.X:=fun b y=>y
def binary.aC:binary.D→Prop:=fun b=>4≤b.length
def binary.F:binary.D→binary.Y:=fun b=>vw (DD (b.getD 0 0) (b.getD 1 0) (b.getD 2 0) (b.getD 3 0))
noncomputable def binary.G:dQ:=eR (P:=Tryz.prog) []
noncomputable def binary.an:eC:= {}
noncomputable def binary.A:= @cH Tryz.prog binary.G binary.an 0 Tryz.f167 _ binary.st
abbrev binary.Ok:=cI @binary.A binary.aC binary.add binary.F binary.out
theorem binary.eq{R:Type}(b:Bs)(k:aZ→Option R):binary.A b k=
 aK (eh (0:Int) (((List.length b):Nat):Int)) (
 aK (eh (1:Int) (((List.length b):Nat):Int)) (
 aK (eh (2:Int) (((List.length b):Nat):Int)) (
 aK (eh (3:Int) (((List.length b):Nat):Int)) (
 k (binary.out (cn .or .u32 (cn .or .u32 (cn .or .u32 (gq .u32 (dD .u32 (nth tb b 0)) (24:Int)) (gq .u32 (dD .u32 (nth tb b 1)) (16:Int))) (gq .u32 (dD .u32 (nth tb b 2)) (8:Int))) (dD .u32 (nth tb b 3))))) none) none) none) none:=by kernel_rfl
theorem binary.ok:binary.Ok:=by
 intro b h
 have h:4≤b.length:=h
 rw[binary.eq,bh (by omega) (by omega),bh (by omega) (by omega),bh (by omega) (by omega),bh (by omega) (by omega)]
 simp only[ax,yB,o9,hH]
 rfl
noncomputable def binary.E:=Entry.ct [some tB] binary.st binary.aC binary.add binary.F binary.out
noncomputable def binary.call:binary.D→Option binary.X:=bH binary.E binary.st
theorem binary.run:bD binary.call binary.aC binary.add binary.F:=cO (cM [.d tB] fun _=>by kernel_rfl)
noncomputable def binary.sg:SG Tryz.prog:=⟨167,aV,binary.E,.fn 0 (by kernel_rfl) binary.ok trivial⟩
abbrev cw.D:=Int×Int
def cw.st:cw.D→SA:=fun(x,kv)=>([.d (.int .u32) x,.d ti kv],[])
abbrev cw.Y:=Int
abbrev cw.X:=Int
def cw.out:cw.X→aZ:=fun x=>⟨.d (.int .u32) x,[],[]⟩
def cw.add:cw.D→cw.Y→cw.X:=fun(x,kv) y=>y
def rl(w:W)(k:Nat):W:=w <<< k ||| w >>> (32 - k)
def cw.aC:cw.D→Prop:=fun(x,k)=>0≤x∧x < 4294967296
def cw.F:cw.D→cw.Y:=fun(x,k)=>vw (rl (BitVec.ofInt 32 x) (k%32).toNat)
noncomputable def cw.G:dQ:=eR (P:=Tryz.prog) []
noncomputable def cw.an:eC:= {}
noncomputable def cw.A:= @cH Tryz.prog cw.G cw.an 0 Tryz.f150 _ cw.st
abbrev cw.Ok:=cI @cw.A cw.aC cw.add cw.F cw.out
theorem cw.eq{R:Type}(x:Int)(kv:Int)(k:aZ→Option R):cw.A (x,kv) k=
 aK (gI (cn .and .u64 (dD .u64 kv) (31:Int))) (
 aK (gI (de .u64 (32:Int) (cn .and .u64 (dD .u64 kv) (31:Int)))) (
 k (cw.out (cn .or .u32 (gq .u32 x (cn .and .u64 (dD .u64 kv) (31:Int))) (bM .u32 x (de .u64 (32:Int) (cn .and .u64 (dD .u64 kv) (31:Int))))))) none) none:=by kernel_rfl
theorem DC(k:Int):cn .and .u64 (dD .u64 k) 31=k%32:=by
 have e:(31:Int)=vw (31:BitVec 64):=rfl
 rw[uD,e,y9]
 simp only
 have:(31:BitVec 64)=BitVec.ofNat 64 (2^5 - 1):=rfl
 unfold vw
 rw[BitVec.toNat_and,BitVec.toNat_ofInt,show(31:BitVec 64).toNat=2^5 - 1 from rfl,Nat.and_two_pow_sub_one_eq_mod]
 omega
theorem cw.ok:cw.Ok:=by
 rintro⟨x,k⟩ ⟨h1,h2⟩
 have e1:de .u64 32 (k%32)=32 - k%32:=by
  unfold de
  rw[wrap_u64,fH]
  omega
 have hx:x=vw (BitVec.ofInt 32 x):=by rw[fH];omega
 rw[cw.eq,DC,e1,jW (by omega),jW (by omega)]
 simp only[ax]
 have e2:cn .or .u32 (gq .u32 x (k%32)) (bM .u32 x (32 - k%32))=vw (rl (BitVec.ofInt 32 x) (k%32).toNat):=by
  conv=>lhs;rw[hx]
  rw[o9,ni,hH]
  simp only[rl]
  congr 3
  omega
 rw[e2]
 rfl
noncomputable def cw.E:=Entry.ct [some (.int .u32),some ti] cw.st cw.aC cw.add cw.F cw.out
noncomputable def cw.call:cw.D→Option cw.X:=bH cw.E cw.st
theorem cw.run:bD cw.call cw.aC cw.add cw.F:=cO (cM [.d (.int .u32),.d ti] fun _=>by kernel_rfl)
noncomputable def cw.sg:SG Tryz.prog:=⟨150,aV,cw.E,.fn 0 (by kernel_rfl) cw.ok trivial⟩
theorem cw.at(w:W)(k:Int):cw.call (vw w,k)=some (vw (rl w (k%32).toNat)):=by
 have h:cw.aC (vw w,k):=⟨qq w,by have:=Bz w;simpa using this⟩
 rw[cw.run h]
 show some (vw (rl (BitVec.ofInt 32 (vw w)) (k%32).toNat))=_
 rw[ji]
abbrev table.D:=Unit
def table.st:table.D→SA:=fun _=>([],[])
abbrev table.Y:=(List Int)
abbrev table.X:=(List Int)
def table.out:table.X→aZ:=fun x=>⟨.d (.arr 64 (.int .u32)) x,[],[]⟩
def table.add:table.D→table.Y→table.X:=fun _ y=>y
def table.aC:table.D→Prop:=fun _=>True
def table.F:table.D→table.Y:=fun _=>qa
noncomputable def table.G:dQ:=eR (P:=Tryz.prog) []
noncomputable def table.an:eC:= {}
noncomputable def table.A:= @cH Tryz.prog table.G table.an 0 Tryz.f149 _ table.st
abbrev table.Ok:=cI @table.A table.aC table.add table.F table.out
theorem table.eq{R:Type}(k:aZ→Option R):table.A () k=
 k (table.out [(1116352408:Int),(1899447441:Int),(3049323471:Int),(3921009573:Int),(961987163:Int),(1508970993:Int),(2453635748:Int),(2870763221:Int),(3624381080:Int),(310598401:Int),(607225278:Int),(1426881987:Int),(1925078388:Int),(2162078206:Int),(2614888103:Int),(3248222580:Int),(3835390401:Int),(4022224774:Int),(264347078:Int),(604807628:Int),(770255983:Int),(1249150122:Int),(1555081692:Int),(1996064986:Int),(2554220882:Int),(2821834349:Int),(2952996808:Int),(3210313671:Int),(3336571891:Int),(3584528711:Int),(113926993:Int),(338241895:Int),(666307205:Int),(773529912:Int),(1294757372:Int),(1396182291:Int),(1695183700:Int),(1986661051:Int),(2177026350:Int),(2456956037:Int),(2730485921:Int),(2820302411:Int),(3259730800:Int),(3345764771:Int),(3516065817:Int),(3600352804:Int),(4094571909:Int),(275423344:Int),(430227734:Int),(506948616:Int),(659060556:Int),(883997877:Int),(958139571:Int),(1322822218:Int),(1537002063:Int),(1747873779:Int),(1955562222:Int),(2024104815:Int),(2227730452:Int),(2361852424:Int),(2428436474:Int),(2756734187:Int),(3204031479:Int),(3329325298:Int)]):=by kernel_rfl
theorem table.ok:table.Ok:=by
 intro d _
 rw[table.eq]
 rfl
noncomputable def table.E:=Entry.ct [] table.st table.aC table.add table.F table.out
noncomputable def table.call:table.D→Option table.X:=bH table.E table.st
theorem table.run:bD table.call table.aC table.add table.F:=cO (cM [] fun _=>by kernel_rfl)
noncomputable def table.sg:SG Tryz.prog:=⟨149,aV,table.E,.fn 0 (by kernel_rfl) table.ok trivial⟩
abbrev first.D:=Unit
def first.st:first.D→SA:=fun _=>([],[])
abbrev first.Y:=(List Int)
abbrev first.X:=(List Int)
def first.out:first.X→aZ:=fun x=>⟨.d (.arr 8 (.int .u32)) x,[],[]⟩
def first.add:first.D→first.Y→first.X:=fun _ y=>y
def first.aC:first.D→Prop:=fun _=>True
def first.F:first.D→first.Y:=fun _=>iH.l
noncomputable def first.G:dQ:=eR (P:=Tryz.prog) []
noncomputable def first.an:eC:= {}
noncomputable def first.A:= @cH Tryz.prog first.G first.an 0 Tryz.f110 _ first.st
abbrev first.Ok:=cI @first.A first.aC first.add first.F first.out
theorem first.eq{R:Type}(k:aZ→Option R):first.A () k=
 k (first.out [(1779033703:Int),(3144134277:Int),(1013904242:Int),(2773480762:Int),(1359893119:Int),(2600822924:Int),(528734635:Int),(1541459225:Int)]):=by kernel_rfl
theorem first.ok:first.Ok:=by
 intro d _
 rw[first.eq]
 rfl
noncomputable def first.E:=Entry.ct [] first.st first.aC first.add first.F first.out
noncomputable def first.call:first.D→Option first.X:=bH first.E first.st
theorem first.run:bD first.call first.aC first.add first.F:=cO (cM [] fun _=>by kernel_rfl)
noncomputable def first.sg:SG Tryz.prog:=⟨110,aV,first.E,.fn 0 (by kernel_rfl) first.ok trivial⟩
set_option synthInstance.maxSize 5000
abbrev schedule.L0.D:=Bs×Int×(List Int)
def schedule.L0.st:schedule.L0.D→AS:=fun(b_2,t8,n2)=>⟨([.d tB b_2,.undef,.ptr (.new 2 0) 0 [] 0]++a9 5 ([.d ti t8]++a9 52 [])),[],([[],[],[.obj 0 false (.d (.arr 64 (.int .u32)) n2)]]++bJ 58 [])⟩
abbrev schedule.L0.Y0:=(List Int)
abbrev schedule.L0.X0:=(List Int)
def schedule.L0.bq:schedule.L0.X0→Exit×AS:=fun x=>(.exit 0,⟨([.undef,.undef,.ptr (.new 2 0) 0 [] 0]++a9 58 []),[],([[],[],[.obj 0 false (.d (.arr 64 (.int .u32)) x)]]++bJ 58 [])⟩)
abbrev schedule.L0.X:=schedule.L0.X0
abbrev schedule.L0.Y:=schedule.L0.Y0
def schedule.L0.out:schedule.L0.X→Out (Exit×AS):=fun x=> .ok (schedule.L0.bq x)
def schedule.L0.add:schedule.L0.D→schedule.L0.Y→schedule.L0.X:=fun(b_2,t8,n2) y=>y
abbrev schedule.D:=Bs
def schedule.st:schedule.D→SA:=fun b=>([.d tB b],[])
abbrev schedule.Y:=(List Int)
abbrev schedule.X:=(List Int)
def schedule.out:schedule.X→aZ:=fun x=>⟨.d (.arr 64 (.int .u32)) x,[],[]⟩
def schedule.add:schedule.D→schedule.Y→schedule.X:=fun b y=>y
def wl(l:List W):List Int:=l.map vw
def mU(l:List W):List Int:=wl l++List.replicate (64 - l.length) 0
def mz(b:List Int)(k:Nat):List W:=if k≤16 then(words b).take k else BI (words b) (k - 16)
def schedule.L0.aC:schedule.L0.D→Prop:=fun(b,t8,n2)=>64≤b.length∧∃k:Nat,k≤64∧t8=k∧n2=mU (mz b k)
def schedule.L0.F:schedule.L0.D→schedule.L0.Y:=fun(b,t8,n2)=>wl (sched b)
def schedule.aC:schedule.D→Prop:=fun b=>64≤b.length
def schedule.F:schedule.D→schedule.Y:=fun b=>wl (sched b)
noncomputable def schedule.G:dQ:=eR (P:=Tryz.prog) [binary.sg,cw.sg]
noncomputable def schedule.L0.E:=bN.ct schedule.L0.st schedule.L0.aC schedule.L0.add schedule.L0.F schedule.L0.out
noncomputable def schedule.L0.call:schedule.L0.D→Option schedule.L0.X:=dh schedule.L0.E schedule.L0.st
noncomputable def schedule.an:eC:= {loops:=jJ [(2,{bm:=[0,2,8],sites:=[2]})],outs:=jI [(2,{bm:=[2],sites:=[2]},{bm:=[2]})],fG:=kh [(2,schedule.L0.E)]}
noncomputable def schedule.A:= @cH Tryz.prog schedule.G schedule.an 0 Tryz.f148 _ schedule.st
abbrev schedule.Ok:=cI @schedule.A schedule.aC schedule.add schedule.F schedule.out
noncomputable def schedule.L0.R:= @bX Tryz.prog schedule.G schedule.an 0 Tryz.f148 0 _ schedule.L0.st
abbrev schedule.L0.Ok:=eA Tryz.prog schedule.G schedule.an 0 Tryz.f148 0 schedule.L0.st schedule.L0.aC schedule.L0.add schedule.L0.F schedule.L0.out
theorem schedule.L0.run:bD schedule.L0.call schedule.L0.aC schedule.L0.add schedule.L0.F:=eG (eE [.d tB,.d ti,.d (.slice (.int .u32))] fun _=>by kernel_rfl)
theorem schedule.L0.aG:fR @schedule.L0.R schedule.L0.st schedule.L0.aC schedule.L0.add schedule.L0.F schedule.L0.bq schedule.L0.Ok:=fU
theorem schedule.L0.step{R:Type}(b_2:Bs)(t8:Int)(n2:(List Int))(kn:AS→Option R)(kx:Exit→AS→Option R):schedule.L0.R (b_2,t8,n2) kn kx=
  aK ((gb t8 (64:Int))) (
   aK ((gb t8 (16:Int))) (
    aK (inc (eS .i64 (4:Int) t8) (((List.length b_2):Nat):Int)) (
    aj (binary.call (cut b_2 (Int.toNat (eS .i64 (4:Int) t8)) ((List.length b_2) - (Int.toNat (eS .i64 (4:Int) t8))))) fun x1=>
    aK (eh t8 (64:Int)) (
    aK (decide ((Int.toNat t8) < (List.length n2))) (
    aK (decide ((((Int.toNat t8)*1)+0)=(0+((Int.toNat t8)*1)))) (
    aK (decide ((Int.toNat t8) < (List.length n2))) (
    kn (schedule.L0.st (b_2,(bK .i64 t8 (1:Int)),(List.set n2 (Int.toNat t8) x1)))) none) none) none) none) none) (
    aK (eh (de .i64 t8 (15:Int)) (64:Int)) (
    aK (decide ((Int.toNat (de .i64 t8 (15:Int))) < (List.length n2))) (
    aK (decide ((((Int.toNat (de .i64 t8 (15:Int)))*1)+0)=(0+((Int.toNat (de .i64 t8 (15:Int)))*1)))) (
    aK (eh (de .i64 t8 (2:Int)) (64:Int)) (
    aK (decide ((Int.toNat (de .i64 t8 (2:Int))) < (List.length n2))) (
    aK (decide ((((Int.toNat (de .i64 t8 (2:Int)))*1)+0)=(0+((Int.toNat (de .i64 t8 (2:Int)))*1)))) (
    aj (cw.call ((nth (.int .u32) n2 (Int.toNat (de .i64 t8 (15:Int)))),(-7:Int))) fun x2=>
    aj (cw.call ((nth (.int .u32) n2 (Int.toNat (de .i64 t8 (15:Int)))),(-18:Int))) fun x3=>
    aj (cw.call ((nth (.int .u32) n2 (Int.toNat (de .i64 t8 (2:Int)))),(-17:Int))) fun x4=>
    aj (cw.call ((nth (.int .u32) n2 (Int.toNat (de .i64 t8 (2:Int)))),(-19:Int))) fun x5=>
    aK (eh (de .i64 t8 (16:Int)) (64:Int)) (
    aK (decide ((Int.toNat (de .i64 t8 (16:Int))) < (List.length n2))) (
    aK (decide ((((Int.toNat (de .i64 t8 (16:Int)))*1)+0)=(0+((Int.toNat (de .i64 t8 (16:Int)))*1)))) (
    aK (eh (de .i64 t8 (7:Int)) (64:Int)) (
    aK (decide ((Int.toNat (de .i64 t8 (7:Int))) < (List.length n2))) (
    aK (decide ((((Int.toNat (de .i64 t8 (7:Int)))*1)+0)=(0+((Int.toNat (de .i64 t8 (7:Int)))*1)))) (
    aK (eh t8 (64:Int)) (
    aK (decide ((Int.toNat t8) < (List.length n2))) (
    aK (decide ((((Int.toNat t8)*1)+0)=(0+((Int.toNat t8)*1)))) (
    aK (decide ((Int.toNat t8) < (List.length n2))) (
    kn (schedule.L0.st (b_2,(bK .i64 t8 (1:Int)),(List.set n2 (Int.toNat t8) (bK .u32 (bK .u32 (bK .u32 (nth (.int .u32) n2 (Int.toNat (de .i64 t8 (16:Int)))) (cn .xor .u32 (cn .xor .u32 x2 x3) (bM .u32 (nth (.int .u32) n2 (Int.toNat (de .i64 t8 (15:Int)))) (3:Int)))) (nth (.int .u32) n2 (Int.toNat (de .i64 t8 (7:Int))))) (cn .xor .u32 (cn .xor .u32 x4 x5) (bM .u32 (nth (.int .u32) n2 (Int.toNat (de .i64 t8 (2:Int)))) (10:Int)))))))) none) none) none) none) none) none) none) none) none) none) none) none) none) none) none) none)) (
   kx (schedule.L0.bq n2).1 (schedule.L0.bq n2).2):=by kernel_rfl
theorem schedule.eq{R:Type}(b:Bs)(k:aZ→Option R):schedule.A b k=
 aj (schedule.L0.call (b,(0:Int),(List.replicate 64 (0:Int)))) fun x6=>
 k (schedule.out x6):=by kernel_rfl
theorem xe(b:List Int)(k:Nat)(h:k≤64):(mz b k).length=k:=by
 unfold mz
 split
 ·simp[ed];omega
 ·rw[kW,ed];omega
theorem Co(b:List Int):mz b 64=sched b:=rfl
theorem z9(b:List Int)(k:Nat)(h:k < 16):mz b (k+1)=mz b k++ [be b k]:=by
 unfold mz
 rw[if_pos (by omega),if_pos (by omega),List.take_succ_eq_append_getElem (by rw[ed];exact h)]
 simp[words]
theorem BD(b:List Int)(k:Nat)(h:16≤k):mz b (k+1)=ext (mz b k):=by
 unfold mz
 rw[if_neg (by omega)]
 by_cases h16:k=16
 ·subst h16
  rw[if_pos (by omega),List.take_of_length_le (by rw[ed];omega)]
  rfl
 ·rw[if_neg (by omega),show k+1 - 16=(k - 16)+1 by omega]
  rfl
theorem uh(l:List W)(h:l.length≤64):(mU l).length=64:=by simp[mU,wl];omega
theorem nI(l:List W)(i:Nat)(h:i < l.length):nth (.int .u32) (mU l) i=vw (l.getD i 0):=by
 unfold nth mU wl
 rw[List.getD_eq_getElem?_getD,List.getElem?_append_left (by simpa using h)]
 simp[h]
theorem tf(l:List W)(w:W)(h:l.length < 64):(mU l).set l.length (vw w)=mU (l++ [w]):=by
 unfold mU wl
 rw[List.set_append_right _ _ (by simp)]
 simp only[List.length_map,Nat.sub_self,List.map_append,List.length_append,List.length_cons,List.length_nil]
 rw[show 64 - l.length=(64 - (l.length+(0+1)))+1 by omega,List.replicate_succ,List.set_cons_zero]
 simp
theorem xm(l:List W)(h:l.length=64):mU l=wl l:=by simp[mU,h]
theorem CO(b:List Int)(k:Nat)(h:4*k+4≤b.length):DD ((cut b (4*k) (b.length - 4*k)).getD 0 0) ((cut b (4*k) (b.length - 4*k)).getD 1 0) ((cut b (4*k) (b.length - 4*k)).getD 2 0) ((cut b (4*k) (b.length - 4*k)).getD 3 0)=be b k:=by
 have e:∀j,j < 4→(cut b (4*k) (b.length - 4*k)).getD j 0=b.getD (4*k+j) 0:=fun j hj=>by
  unfold cut
  rw[List.getD_eq_getElem?_getD,List.getD_eq_getElem?_getD,List.getElem?_take_of_lt (by omega),List.getElem?_drop]
 unfold be
 rw[e 0 (by omega),e 1 (by omega),e 2 (by omega),e 3 (by omega),Nat.add_zero]
theorem schedule.L0.ok:schedule.L0.Ok:=by
 refine schedule.L0.aG (fun(b,t8,n2)=>64 - t8.toNat) ?_
 rintro⟨b,t8,n2⟩ ⟨hb,k,hk,rfl,rfl⟩
 have hwl:=xe b k hk
 have hal:=uh (mz b k) (by omega)
 by_cases h:k < 64
 ·left
  refine⟨(b,((k+1:Nat):Int),mU (mz b (k+1))),⟨hb,k+1,by omega,rfl,rfl⟩,by simp;omega,rfl,fun kn kx=> ?_⟩
  have e1:bK .i64 (k:Int) 1=((k+1:Nat):Int):=by rw[fW (by omega) (by omega)];omega
  have e2:Int.toNat (k:Int)=k:=by omega
  rw[schedule.L0.step,bw (by omega)]
  simp only[ax,e1,e2,hal,Nat.mul_one,Nat.zero_add,Nat.add_zero,decide_true]
  by_cases h16:k < 16
  ·have e3:eS .i64 4 (k:Int)=((4*k:Nat):Int):=by rw[o7 (by omega) (by omega)];omega
   have e4:Int.toNat ((4*k:Nat):Int)=4*k:=by omega
   rw[bw (by omega),e3,kH (by omega) (by omega),e4,bh (by omega) (by omega),aQ h]
   have hp:binary.aC (cut b (4*k) (b.length - 4*k)):=by
    show 4≤_
    rw[l9 (by omega)];omega
   simp only[ax,binary.run hp,ab]
   have e5:binary.add (cut b (4*k) (b.length - 4*k)) (binary.F (cut b (4*k) (b.length - 4*k)))=vw (be b k):=by
    show vw (DD _ _ _ _)=_
    rw[CO b k (by omega)]
   have e6:=tf (mz b k) (be b k) (by omega)
   rw[hwl]at e6
   rw[e5,e6,z9 b k h16]
  ·have a15:Int.toNat (de .i64 (k:Int) 15)=k - 15:=by rw[fx (by omega) (by omega)];omega
   have a2:Int.toNat (de .i64 (k:Int) 2)=k - 2:=by rw[fx (by omega) (by omega)];omega
   have a16:Int.toNat (de .i64 (k:Int) 16)=k - 16:=by rw[fx (by omega) (by omega)];omega
   have a7:Int.toNat (de .i64 (k:Int) 7)=k - 7:=by rw[fx (by omega) (by omega)];omega
   have i15:eh (de .i64 (k:Int) 15) 64=true:=bh (by rw[fx (by omega) (by omega)];omega) (by rw[fx (by omega) (by omega)];omega)
   have i2:eh (de .i64 (k:Int) 2) 64=true:=bh (by rw[fx (by omega) (by omega)];omega) (by rw[fx (by omega) (by omega)];omega)
   have i16:eh (de .i64 (k:Int) 16) 64=true:=bh (by rw[fx (by omega) (by omega)];omega) (by rw[fx (by omega) (by omega)];omega)
   have i7:eh (de .i64 (k:Int) 7) 64=true:=bh (by rw[fx (by omega) (by omega)];omega) (by rw[fx (by omega) (by omega)];omega)
   have i0:eh (k:Int) 64=true:=bh (by omega) (by omega)
   have d15:decide (k - 15 < 64)=true:=aQ (by omega)
   have d2:decide (k - 2 < 64)=true:=aQ (by omega)
   have d16:decide (k - 16 < 64)=true:=aQ (by omega)
   have d7:decide (k - 7 < 64)=true:=aQ (by omega)
   have d0:decide (k < 64)=true:=aQ h
   rw[bn (by omega)]
   simp only[ax,aw,a15,a2,a16,a7,i15,i2,i16,i7,i0,d15,d2,d16,d7,d0,nI (mz b k) (k - 15) (by omega),nI (mz b k) (k - 2) (by omega),nI (mz b k) (k - 16) (by omega),nI (mz b k) (k - 7) (by omega),cw.at,ab,hH,ni,lP]
   have e6:=tf (mz b k) (CB (mz b k) k) (by omega)
   rw[hwl]at e6
   rw[BD b k (by omega),ext,hwl,←e6]
   rfl
 ·right
  obtain rfl:k=64:=by omega
  intro R kn kx
  rw[schedule.L0.step,bn (by omega),xm _ hwl,Co]
  simp only[aw,schedule.L0.add,schedule.L0.F]
theorem schedule.ok:schedule.Ok:=by
 intro b hb
 have hp:schedule.L0.aC (b,0,List.replicate 64 0):=⟨hb,0,by omega,rfl,rfl⟩
 rw[schedule.eq,schedule.L0.run hp]
 simp only[ab,schedule.L0.add,schedule.L0.F,schedule.add,schedule.F]
noncomputable def schedule.E:=Entry.ct [some tB] schedule.st schedule.aC schedule.add schedule.F schedule.out
noncomputable def schedule.call:schedule.D→Option schedule.X:=bH schedule.E schedule.st
theorem schedule.run:bD schedule.call schedule.aC schedule.add schedule.F:=cO (cM [.d tB] fun _=>by kernel_rfl)
noncomputable def schedule.sg:SG Tryz.prog:=⟨148,aV,schedule.E,.fn 1 (by kernel_rfl) schedule.ok (And.intro (.ct schedule.L0.ok (by kernel_rfl)) trivial)⟩
set_option synthInstance.maxSize 5000
abbrev mix.L0.D:=(List Int)×Int×(List Int)×(List Int)×(List Int)×(List Int)
def mix.L0.st:mix.L0.D→AS:=fun(h_2,t18,n4,n5,n6,n7)=>⟨([.undef,.undef,.eB (.arr 8 (.int .u32)) h_2,.undef,.ptr (.new 4 0) 0 [] 0,.ptr (.new 5 0) 0 [] 0,.ptr (.new 6 0) 0 [] 0,.ptr (.new 7 0) 0 [] 0]++a9 10 ([.d ti t18]++a9 98 [])),[],(bJ 4 ([[.obj 0 false (.d (.arr 8 (.int .u32)) n4)],[.obj 0 false (.d (.arr 64 (.int .u32)) n5)],[.obj 0 false (.d (.arr 64 (.int .u32)) n6)],[.obj 0 false (.d (.arr 8 (.int .u32)) n7)]]++bJ 109 []))⟩
abbrev mix.L0.Y0:=(List Int)
abbrev mix.L0.X0:=((List Int)×(List Int))×((List Int))
def mix.L0.bq:mix.L0.X0→Exit×AS:=fun x=>(.exit 0,⟨([.undef,.undef,.eB (.arr 8 (.int .u32)) x.1.1,.undef,.ptr (.new 4 0) 0 [] 0,.undef,.undef,.ptr (.new 7 0) 0 [] 0]++a9 109 []),[],(bJ 4 ([[.obj 0 false (.d (.arr 8 (.int .u32)) x.1.2)],[],[],[.obj 0 false (.d (.arr 8 (.int .u32)) x.2)]]++bJ 109 []))⟩)
abbrev mix.L0.X:=mix.L0.X0
abbrev mix.L0.Y:=mix.L0.Y0
def mix.L0.out:mix.L0.X→Out (Exit×AS):=fun x=> .ok (mix.L0.bq x)
def mix.L0.add:mix.L0.D→mix.L0.Y→mix.L0.X:=fun(h_2,t18,n4,n5,n6,n7) y=>((h_2,n4),y)
abbrev mix.L1.D:=(List Int)×Int×(List Int)×(List Int)
def mix.L1.st:mix.L1.D→AS:=fun(h_3,t104,n4_2,n7_2)=>⟨([.undef,.undef,.eB (.arr 8 (.int .u32)) h_3,.undef,.ptr (.new 4 0) 0 [] 0,.undef,.undef,.ptr (.new 7 0) 0 [] 0]++a9 96 ([.d ti t104]++a9 12 [])),[],(bJ 4 ([[.obj 0 false (.d (.arr 8 (.int .u32)) n4_2)],[],[],[.obj 0 false (.d (.arr 8 (.int .u32)) n7_2)]]++bJ 109 []))⟩
abbrev mix.L1.Y0:=(List Int)
abbrev mix.L1.X0:=((List Int))×((List Int))
def mix.L1.bq:mix.L1.X0→Exit×AS:=fun x=>(.exit 2,⟨(a9 4 ([.ptr (.new 4 0) 0 [] 0,.undef,.undef,.ptr (.new 7 0) 0 [] 0]++a9 109 [])),[],(bJ 4 ([[.obj 0 false (.d (.arr 8 (.int .u32)) x.1)],[],[],[.obj 0 false (.d (.arr 8 (.int .u32)) x.2)]]++bJ 109 []))⟩)
abbrev mix.L1.X:=mix.L1.X0
abbrev mix.L1.Y:=mix.L1.Y0
def mix.L1.out:mix.L1.X→Out (Exit×AS):=fun x=> .ok (mix.L1.bq x)
def mix.L1.add:mix.L1.D→mix.L1.Y→mix.L1.X:=fun(h_3,t104,n4_2,n7_2) y=>(n4_2,y)
abbrev mix.D:=(List Int)×Bs
def mix.st:mix.D→SA:=fun(h,b)=>([.d (.arr 8 (.int .u32)) h,.d tB b],[])
abbrev mix.Y:=(List Int)
abbrev mix.X:=(List Int)
def mix.out:mix.X→aZ:=fun x=>⟨.d (.arr 8 (.int .u32)) x,[],[]⟩
def mix.add:mix.D→mix.Y→mix.X:=fun(h,b) y=>y
def u6(l:List Int):St:=⟨BitVec.ofInt 32 (l.getD 0 0),BitVec.ofInt 32 (l.getD 1 0),BitVec.ofInt 32 (l.getD 2 0),BitVec.ofInt 32 (l.getD 3 0),BitVec.ofInt 32 (l.getD 4 0),BitVec.ofInt 32 (l.getD 5 0),BitVec.ofInt 32 (l.getD 6 0),BitVec.ofInt 32 (l.getD 7 0)⟩
theorem gR(s:St):u6 s.l=s:=by
 obtain⟨a,b,c,d,e,f,g,h⟩:=s
 simp[u6,St.l,ji]
def Bx(l:List Int):List W:=l.map (BitVec.ofInt 32)
theorem mv(l:List W):Bx (wl l)=l:=by
 unfold Bx wl
 rw[List.map_map]
 have:(BitVec.ofInt 32∘vw)=(id:W→W):=by funext w;exact ji w
 rw[this,List.map_id]
def mix.L0.aC:mix.L0.D→Prop:=fun(h,t,n4,n5,n6,n7)=>∃(s:St) (ws:List W) (k:Nat),h=s.l∧n5=wl ws∧ws.length=64∧k≤64∧t=k∧n6=qa∧n7=(rounds ws s k).l
def mix.L0.F:mix.L0.D→mix.L0.Y:=fun(h,t,n4,n5,n6,n7)=>(rounds (Bx n5) (u6 h) 64).l
def mix.L1.aC:mix.L1.D→Prop:=fun(h,t,n4,n7)=>n7.length=8∧∃k:Nat,k≤8∧t=k
def mix.L1.F:mix.L1.D→mix.L1.Y:=fun(h,t,n4,n7)=>from_ (fun i x=>bK .u32 x (nth (.int .u32) h i)) t.toNat n7
def mix.aC:mix.D→Prop:=fun(h,b)=>(∃s:St,h=s.l)∧64≤b.length
def mix.F:mix.D→mix.Y:=fun(h,b)=>(qd (u6 h) b).l
noncomputable def mix.G:dQ:=eR (P:=Tryz.prog) [schedule.sg,table.sg,cw.sg]
noncomputable def mix.L0.E:=bN.ct mix.L0.st mix.L0.aC mix.L0.add mix.L0.F mix.L0.out
noncomputable def mix.L0.call:mix.L0.D→Option mix.L0.X:=dh mix.L0.E mix.L0.st
noncomputable def mix.L1.E:=bN.ct mix.L1.st mix.L1.aC mix.L1.add mix.L1.F mix.L1.out
noncomputable def mix.L1.call:mix.L1.D→Option mix.L1.X:=dh mix.L1.E mix.L1.st
noncomputable def mix.an:eC:= {loops:=jJ [(4,{bm:=[2,4,5,6,7,18],sites:=[4,5,6,7]}),(13,{bm:=[2,4,7,104],sites:=[4,7]})],outs:=jI [(4,{bm:=[2,4,7],sites:=[4,7]},{bm:=[4]}),(13,{bm:=[4,7],sites:=[4,7]},{bm:=[4]})],fG:=kh [(4,mix.L0.E),(13,mix.L1.E)]}
noncomputable def mix.A:= @cH Tryz.prog mix.G mix.an 0 Tryz.f111 _ mix.st
abbrev mix.Ok:=cI @mix.A mix.aC mix.add mix.F mix.out
noncomputable def mix.L0.R:= @bX Tryz.prog mix.G mix.an 0 Tryz.f111 0 _ mix.L0.st
abbrev mix.L0.Ok:=eA Tryz.prog mix.G mix.an 0 Tryz.f111 0 mix.L0.st mix.L0.aC mix.L0.add mix.L0.F mix.L0.out
noncomputable def mix.L1.R:= @bX Tryz.prog mix.G mix.an 0 Tryz.f111 1 _ mix.L1.st
abbrev mix.L1.Ok:=eA Tryz.prog mix.G mix.an 0 Tryz.f111 1 mix.L1.st mix.L1.aC mix.L1.add mix.L1.F mix.L1.out
theorem mix.L0.run:bD mix.L0.call mix.L0.aC mix.L0.add mix.L0.F:=eG (eE [.d (.arr 8 (.int .u32)),.d ti,.d (.slice (.int .u32)),.d (.slice (.int .u32)),.d (.slice (.int .u32)),.d (.slice (.int .u32))] fun _=>by kernel_rfl)
theorem mix.L0.aG:fR @mix.L0.R mix.L0.st mix.L0.aC mix.L0.add mix.L0.F mix.L0.bq mix.L0.Ok:=fU
theorem mix.L0.step{R:Type}(h_2:(List Int))(t18:Int)(n4:(List Int))(n5:(List Int))(n6:(List Int))(n7:(List Int))(kn:AS→Option R)(kx:Exit→AS→Option R):mix.L0.R (h_2,t18,n4,n5,n6,n7) kn kx=
  aK ((gb t18 (64:Int))) (
   aK (decide (4 < (List.length n7))) (
   aj (cw.call ((nth (.int .u32) n7 4),(-6:Int))) fun x1=>
   aK (decide (4 < (List.length n7))) (
   aj (cw.call ((nth (.int .u32) n7 4),(-11:Int))) fun x2=>
   aK (decide (4 < (List.length n7))) (
   aj (cw.call ((nth (.int .u32) n7 4),(-25:Int))) fun x3=>
   aK (decide (7 < (List.length n7))) (
   aK (decide (6 < (List.length n7))) (
   aK (decide (4 < (List.length n7))) (
   aK (decide (5 < (List.length n7))) (
   aK (decide (6 < (List.length n7))) (
   aK (eh t18 (64:Int)) (
   aK (decide ((Int.toNat t18) < (List.length n6))) (
   aK (decide ((((Int.toNat t18)*1)+0)=(0+((Int.toNat t18)*1)))) (
   aK (eh t18 (64:Int)) (
   aK (decide ((Int.toNat t18) < (List.length n5))) (
   aK (decide ((((Int.toNat t18)*1)+0)=(0+((Int.toNat t18)*1)))) (
   aK (decide (0 < (List.length n7))) (
   aj (cw.call ((nth (.int .u32) n7 0),(-2:Int))) fun x4=>
   aK (decide (0 < (List.length n7))) (
   aj (cw.call ((nth (.int .u32) n7 0),(-13:Int))) fun x5=>
   aK (decide (0 < (List.length n7))) (
   aj (cw.call ((nth (.int .u32) n7 0),(-22:Int))) fun x6=>
   aK (decide (0 < (List.length n7))) (
   aK (decide (1 < (List.length n7))) (
   aK (decide (2 < (List.length n7))) (
   aK (decide (0 < (List.length n7))) (
   aK (decide (1 < (List.length n7))) (
   aK (decide (0 < (List.length n7))) (
   aK (decide (1 < (List.length n7))) (
   aK (decide (2 < (List.length n7))) (
   aK (decide (3 < (List.length n7))) (
   aK (decide (4 < (List.length n7))) (
   aK (decide (5 < (List.length n7))) (
   aK (decide (6 < (List.length n7))) (
   kn (mix.L0.st (h_2,(bK .i64 t18 (1:Int)),n4,n5,n6,[(bK .u32 (bK .u32 (bK .u32 (bK .u32 (bK .u32 (bK .u32 (nth (.int .u32) n7 7) (cn .xor .u32 (cn .xor .u32 x1 x2) x3)) (cn .xor .u32 (nth (.int .u32) n7 6) (cn .and .u32 (nth (.int .u32) n7 4) (cn .xor .u32 (nth (.int .u32) n7 5) (nth (.int .u32) n7 6))))) (nth (.int .u32) n6 (Int.toNat t18))) (nth (.int .u32) n5 (Int.toNat t18))) (cn .xor .u32 (cn .xor .u32 x4 x5) x6)) (cn .or .u32 (cn .and .u32 (nth (.int .u32) n7 0) (nth (.int .u32) n7 1)) (cn .and .u32 (nth (.int .u32) n7 2) (cn .or .u32 (nth (.int .u32) n7 0) (nth (.int .u32) n7 1))))),(nth (.int .u32) n7 0),(nth (.int .u32) n7 1),(nth (.int .u32) n7 2),(bK .u32 (nth (.int .u32) n7 3) (bK .u32 (bK .u32 (bK .u32 (bK .u32 (nth (.int .u32) n7 7) (cn .xor .u32 (cn .xor .u32 x1 x2) x3)) (cn .xor .u32 (nth (.int .u32) n7 6) (cn .and .u32 (nth (.int .u32) n7 4) (cn .xor .u32 (nth (.int .u32) n7 5) (nth (.int .u32) n7 6))))) (nth (.int .u32) n6 (Int.toNat t18))) (nth (.int .u32) n5 (Int.toNat t18)))),(nth (.int .u32) n7 4),(nth (.int .u32) n7 5),(nth (.int .u32) n7 6)]))) none) none) none) none) none) none) none) none) none) none) none) none) none) none) none) none) none) none) none) none) none) none) none) none) none) none) none) none) none) (
   kx (mix.L0.bq ((h_2,n4),n7)).1 (mix.L0.bq ((h_2,n4),n7)).2):=by kernel_rfl
theorem mix.L1.run:bD mix.L1.call mix.L1.aC mix.L1.add mix.L1.F:=eG (eE [.d (.arr 8 (.int .u32)),.d ti,.d (.slice (.int .u32)),.d (.slice (.int .u32))] fun _=>by kernel_rfl)
theorem mix.L1.aG:fR @mix.L1.R mix.L1.st mix.L1.aC mix.L1.add mix.L1.F mix.L1.bq mix.L1.Ok:=fU
theorem mix.L1.step{R:Type}(h_3:(List Int))(t104:Int)(n4_2:(List Int))(n7_2:(List Int))(kn:AS→Option R)(kx:Exit→AS→Option R):mix.L1.R (h_3,t104,n4_2,n7_2) kn kx=
  aK ((gb t104 (8:Int))) (
   aK (eh t104 (8:Int)) (
   aK (decide ((Int.toNat t104) < (List.length n7_2))) (
   aK (decide ((((Int.toNat t104)*1)+0)=(0+((Int.toNat t104)*1)))) (
   aK (eh t104 (8:Int)) (
   aK (eh t104 (8:Int)) (
   aK (decide ((Int.toNat t104) < (List.length n7_2))) (
   aK (decide ((((Int.toNat t104)*1)+0)=(0+((Int.toNat t104)*1)))) (
   aK (decide ((Int.toNat t104) < (List.length n7_2))) (
   kn (mix.L1.st (h_3,(bK .i64 t104 (1:Int)),n4_2,(List.set n7_2 (Int.toNat t104) (bK .u32 (nth (.int .u32) n7_2 (Int.toNat t104)) (nth (.int .u32) h_3 (Int.toNat t104))))))) none) none) none) none) none) none) none) none) (
   kx (mix.L1.bq (n4_2,n7_2)).1 (mix.L1.bq (n4_2,n7_2)).2):=by kernel_rfl
theorem mix.eq{R:Type}(h:(List Int))(b:Bs)(k:aZ→Option R):mix.A (h,b) k=
 aj (schedule.call b) fun x1=>
 aj (table.call ()) fun x2=>
 aj (mix.L0.call (h,(0:Int),(List.replicate 8 (0:Int)),x1,x2,h)) fun x9=>
 aj (mix.L1.call (x9.1.1,(0:Int),x9.1.2,x9.2)) fun x10=>
 k (mix.out x10.2):=by kernel_rfl
theorem St.vY(s:St):s.l.length=8:=rfl
theorem qx:qa.length=64:=rfl
theorem vX(k:Nat)(h:k < 64):nth (.int .u32) qa k=vw (kw k):=by
 have hh:∀k:Fin 64,nth (.int .u32) qa k.val=vw (kw k.val):=by decide+kernel
 exact hh ⟨k,h⟩
theorem qt(ws:List W)(k:Nat)(h:k < ws.length):nth (.int .u32) (wl ws) k=vw (ws.getD k 0):=by
 unfold nth wl
 simp[h]
theorem E4(w:W):rl w ((-6:Int)%32).toNat=jy w 6:=rfl
theorem EF(w:W):rl w ((-11:Int)%32).toNat=jy w 11:=rfl
theorem EI(w:W):rl w ((-25:Int)%32).toNat=jy w 25:=rfl
theorem E3(w:W):rl w ((-2:Int)%32).toNat=jy w 2:=rfl
theorem EG(w:W):rl w ((-13:Int)%32).toNat=jy w 13:=rfl
theorem EH(w:W):rl w ((-22:Int)%32).toNat=jy w 22:=rfl
theorem n0(s:St):nth (.int .u32) s.l 0=vw s.a:=rfl
theorem n1(s:St):nth (.int .u32) s.l 1=vw s.b:=rfl
theorem n2(s:St):nth (.int .u32) s.l 2=vw s.c:=rfl
theorem n3(s:St):nth (.int .u32) s.l 3=vw s.d:=rfl
theorem n4(s:St):nth (.int .u32) s.l 4=vw s.e:=rfl
theorem n5(s:St):nth (.int .u32) s.l 5=vw s.f:=rfl
theorem n6(s:St):nth (.int .u32) s.l 6=vw s.g:=rfl
theorem n7(s:St):nth (.int .u32) s.l 7=vw s.h:=rfl
theorem mix.L0.ok:mix.L0.Ok:=by
 refine mix.L0.aG (fun(h,t,n4,n5,n6,n7)=>64 - t.toNat) ?_
 rintro⟨h,t,m4,m5,m6,m7⟩ ⟨s,ws,k,rfl,rfl,hw,hk,rfl,rfl,rfl⟩
 by_cases hlt:k < 64
 ·left
  refine⟨(s.l,((k+1:Nat):Int),m4,wl ws,qa,(rounds ws s (k+1)).l),⟨s,ws,k+1,rfl,rfl,hw,by omega,rfl,rfl,rfl⟩,by simp;omega,rfl,fun kn kx=> ?_⟩
  have e1:bK .i64 (k:Int) 1=((k+1:Nat):Int):=by rw[fW (by omega) (by omega)];omega
  have e2:Int.toNat (k:Int)=k:=by omega
  have hwl:(wl ws).length=64:=by simp[wl,hw]
  have d0:decide (k < 64)=true:=aQ hlt
  have i0:eh (k:Int) 64=true:=bh (by omega) (by omega)
  rw[mix.L0.step,bw (by omega)]
  generalize hv:rounds ws s k=v
  simp only[e1,e2,Nat.mul_one,Nat.zero_add,Nat.add_zero,decide_true,ax,St.vY,Nat.reduceLT,qx,hwl,d0,i0,n0,n1,n2,n3,n4,n5,n6,n7,cw.at,ab,vX k hlt,qt ws k (by omega),hH,lP,E4,EF,EI,E3,EG,EH]
  show kn _=kn (mix.L0.st (s.l,((k+1:Nat):Int),m4,wl ws,qa,(EJ (rounds ws s k) (kw k) (ws.getD k 0)).l))
  rw[hv]
  rfl
 ·right
  obtain rfl:k=64:=by omega
  intro R kn kx
  rw[mix.L0.step,bn (by omega)]
  simp only[aw,mix.L0.add,mix.L0.F,mv,gR]
theorem mix.L1.ok:mix.L1.Ok:=by
 refine mix.L1.aG (fun(h,t,n4,n7)=>8 - t.toNat) ?_
 rintro⟨h,t,m4,m7⟩ ⟨hl,k,hk,rfl⟩
 have hl:m7.length=8:=hl
 have e2:Int.toNat (k:Int)=k:=by omega
 have e3:Int.toNat ((k+1:Nat):Int)=k+1:=by omega
 by_cases hlt:k < 8
 ·left
  have e1:bK .i64 (k:Int) 1=((k+1:Nat):Int):=by rw[fW (by omega) (by omega)];omega
  have hn:nth (.int .u32) m7 k=m7[k]:=cj (t:= .int .u32) (by omega)
  refine⟨(h,((k+1:Nat):Int),m4,m7.set k (bK .u32 m7[k] (nth (.int .u32) h k))),⟨by simpa using hl,k+1,by omega,rfl⟩,by simp;omega,?_,fun kn kx=> ?_⟩
  ·simp only[mix.L1.add,mix.L1.F,e2,e3]
   rw[nL (fun i x=>bK .u32 x (nth (.int .u32) h i)) m7 k (by omega)]
  ·have d0:decide (k < 8)=true:=aQ hlt
   have i0:eh (k:Int) 8=true:=bh (by omega) (by omega)
   rw[mix.L1.step,bw (by omega)]
   simp only[e1,e2,Nat.mul_one,Nat.zero_add,Nat.add_zero,decide_true,ax,hl,d0,i0,hn]
 ·right
  obtain rfl:k=8:=by omega
  intro R kn kx
  rw[mix.L1.step,bn (by omega)]
  simp only[aw,mix.L1.add,mix.L1.F,e2]
  rw[o3 _ _ _ (by omega)]
theorem mix.ok:mix.Ok:=by
 rintro⟨h,b⟩ ⟨⟨s,rfl⟩,hb⟩
 have hs:schedule.aC b:=hb
 have hsl:(sched b).length=64:=by unfold sched;rw[kW,ed]
 have hp:mix.L0.aC (s.l,0,List.replicate 8 0,wl (sched b),qa,s.l):=⟨s,sched b,0,rfl,rfl,hsl,by omega,rfl,rfl,rfl⟩
 rw[mix.eq,schedule.run hs]
 simp only[ab,table.run (d:=()) trivial,schedule.add,schedule.F,table.add,table.F,mix.L0.run hp,mix.L0.add,mix.L0.F,mv,gR]
 have hp1:mix.L1.aC (s.l,0,List.replicate 8 0,(rounds (sched b) s 64).l):=⟨rfl,0,by omega,rfl⟩
 simp only[mix.L1.run hp1,ab,mix.L1.add,mix.L1.F,mix.add,mix.F,gR]
 unfold qd
 generalize rounds (sched b) s 64=v
 obtain⟨a1,b1,c1,d1,f1,g1,h1,i1⟩:=v
 simp only[St.l,from_,List.mapIdx_cons,List.mapIdx_nil,Int.toNat_zero,Nat.not_lt_zero,if_false,Nat.zero_add,Nat.reduceAdd]
 simp only[nth,List.getD_cons_zero,List.getD_cons_succ,lP]
noncomputable def mix.E:=Entry.ct [some (.arr 8 (.int .u32)),some tB] mix.st mix.aC mix.add mix.F mix.out
noncomputable def mix.call:mix.D→Option mix.X:=bH mix.E mix.st
theorem mix.run:bD mix.call mix.aC mix.add mix.F:=cO (cM [.d (.slice (.int .u32)),.d tB] fun _=>by kernel_rfl)
noncomputable def mix.sg:SG Tryz.prog:=⟨111,aV,mix.E,.fn 2 (by kernel_rfl) mix.ok (And.intro (.ct mix.L0.ok (by kernel_rfl)) (And.intro (.ct mix.L1.ok (by kernel_rfl)) trivial))⟩
set_option synthInstance.maxSize 5000
theorem iU(n:Int)(k:Int)(h0:0≤k)(h1:k≤64):dD .u8 (bM .i64 n k)=n / 2^k.toNat%256:=by
 rw[rM,fH,bM]
 have e:min k.toNat IntKind.i64.bits=k.toNat:=by simp only[IntKind.bits];omega
 rw[e,Int.fdiv_eq_ediv_of_nonneg _ (Int.le_of_lt (Int.pow_pos (by omega)))]
 rfl
theorem lU{n:Nat}(h:n≤140737488355328):dj n 1=true:=eF (by omega) (by omega)
abbrev cm.D:=Bs
def cm.st:cm.D→SA:=fun sv=>([.d tB sv],[])
abbrev cm.Y:=Nat×(List Int)
abbrev cm.X:=Nat×(List Int)
def cm.out:cm.X→aZ:=fun x=>⟨.cf (.new 0 0) 0 [] 0 0 x.1,[],[.obj 0 false (.vec 5 tb x.2)]⟩
def cm.add:cm.D→cm.Y→cm.X:=fun sv y=>y
def cm.aC:cm.D→Prop:=fun b=>b.length≤140737488355328
def cm.F:cm.D→cm.Y:=fun b=>(b.length,b)
noncomputable def cm.G:dQ:=eR (P:=Tryz.prog) []
noncomputable def cm.an:eC:= {bI:=[5],ix:=[⟨2,[],5,25⟩]}
noncomputable def cm.A:= @cH Tryz.prog cm.G cm.an 0 Tryz.f108 _ cm.st
abbrev cm.Ok:=cI @cm.A cm.aC cm.add cm.F cm.out
theorem cm.eq{R:Type}(sv:Bs)(k:aZ→Option R):cm.A sv k=
  aK (decide (0 < (List.length sv))) (
   aK (dj (0+(List.length sv)) 1) (
   k (cm.out ((0+(List.length sv)),((List.take 0 (List.replicate 0 (0:Int)))++sv)))) none) (
   nd (
    k (cm.out (0,([]:List Int)))) (
    aK (dj (0+(List.length sv)) 1) (
    k (cm.out ((0+(List.length sv)),((List.take 0 (List.replicate 0 (0:Int)))++sv)))) none)):=by kernel_rfl
theorem cm.ok:cm.Ok:=by
 intro b hb
 have hr:dj b.length 1=true:=lU hb
 rw[cm.eq]
 have e0:(List.take 0 (List.replicate 0 0):List Int)=[]:=rfl
 simp only[Nat.zero_add,hr,ax,e0,List.nil_append,cm.add,cm.F]
 by_cases h:0 < b.length
 ·simp only[aQ h,ax]
 ·have:b=[]:=List.eq_nil_of_length_eq_zero (by omega)
  subst this
  simp only[List.length_nil,nQ,aM (Nat.lt_irrefl 0),aw]
noncomputable def cm.E:=Entry.ct [some tB] cm.st cm.aC cm.add cm.F cm.out
noncomputable def cm.call:cm.D→Option cm.X:=bH cm.E cm.st
theorem cm.run:bD cm.call cm.aC cm.add cm.F:=cO (cM [.d tB] fun _=>by kernel_rfl)
noncomputable def cm.sg:SG Tryz.prog:=⟨108,aV,cm.E,.fn 0 (by kernel_rfl) cm.ok trivial⟩
abbrev dW.D:=Int
def dW.st:dW.D→SA:=fun n=>([.cV,.d ti n],[])
abbrev dW.Y:=Nat×(List Int)
abbrev dW.X:=Nat×(List Int)
def dW.out:dW.X→aZ:=fun x=>⟨.cf (.new 0 0) 0 [] 0 0 x.1,[],[.obj 0 false (.vec 5 tb x.2)]⟩
def dW.add:dW.D→dW.Y→dW.X:=fun n y=>y
def dW.aC:dW.D→Prop:=fun _=>True
def dW.F:dW.D→dW.Y:=fun n=>(8,fL n)
noncomputable def dW.G:dQ:=eR (P:=Tryz.prog) []
noncomputable def dW.an:eC:= {loops:=jJ [(2,{bm:=[0,1,5],sites:=[16]})],outs:=jI [(2,{bm:=[0],sites:=[16]},{bm:=[4],sites:=[16]})],ix:=[⟨4,[],16,25⟩]}
noncomputable def dW.A:= @cH Tryz.prog dW.G dW.an 12 Tryz.f109 _ dW.st
abbrev dW.Ok:=cI @dW.A dW.aC dW.add dW.F dW.out
theorem dW.eq{R:Type}(n:Int)(k:aZ→Option R):dW.A n k=
 k (dW.out (8,[(dD .u8 (bM .i64 n (56:Int))),(dD .u8 (bM .i64 n (48:Int))),(dD .u8 (bM .i64 n (40:Int))),(dD .u8 (bM .i64 n (32:Int))),(dD .u8 (bM .i64 n (24:Int))),(dD .u8 (bM .i64 n (16:Int))),(dD .u8 (bM .i64 n (8:Int))),(dD .u8 (bM .i64 n (0:Int)))])):=by kernel_rfl
theorem xn(n:Int): [dD .u8 (bM .i64 n 56),dD .u8 (bM .i64 n 48),dD .u8 (bM .i64 n 40),dD .u8 (bM .i64 n 32),dD .u8 (bM .i64 n 24),dD .u8 (bM .i64 n 16),dD .u8 (bM .i64 n 8),dD .u8 (bM .i64 n 0)]=fL n:=by
 rw[iU n 56 (by omega) (by omega),iU n 48 (by omega) (by omega),iU n 40 (by omega) (by omega),iU n 32 (by omega) (by omega),iU n 24 (by omega) (by omega),iU n 16 (by omega) (by omega),iU n 8 (by omega) (by omega),iU n 0 (by omega) (by omega)]
 simp[fL]
theorem dW.ok:dW.Ok:=by
 intro n _
 rw[dW.eq,xn]
 rfl
noncomputable def dW.E:=Entry.ct [none,some ti] dW.st dW.aC dW.add dW.F dW.out
noncomputable def dW.call:dW.D→Option dW.X:=bH dW.E dW.st
theorem dW.run:bD dW.call dW.aC dW.add dW.F:=cO (cM [.d ti] fun _=>by kernel_rfl)
noncomputable def dW.sg:SG Tryz.prog:=⟨109,zI,dW.E,.fn 1 (by kernel_rfl) dW.ok (And.intro (.none (by kernel_rfl)) trivial)⟩
abbrev dz.D:=Nat×Int×Bs
def dz.st:dz.D→SA:=fun(bL,n,o0)=>([.cf (.fE 0) 0 [] 0 0 bL,.d ti n],[.obj 0 false (.vec 5 tb o0)])
abbrev dz.Y:=Nat×(List Int)
abbrev dz.X:=Nat×(List Int)
def dz.out:dz.X→aZ:=fun x=>⟨.cf (.fE 0) 8 [] 0 0 x.1,[.obj 8 false (.vec 5 tb x.2)],[]⟩
def dz.add:dz.D→dz.Y→dz.X:=fun(bL,n,o0) y=>y
def dz.aC:dz.D→Prop:=fun(m,n,l)=>m=l.length∧l.length≤140737488355320
def dz.F:dz.D→dz.Y:=fun(m,n,l)=>(l.length+8,l++fL n)
noncomputable def dz.G:dQ:=eR (P:=Tryz.prog) []
noncomputable def dz.an:eC:= {loops:=jJ [(2,{bm:=[0,1,5],sites:=[16]})],outs:=jI [(2,{bm:=[0],sites:=[16]},{bm:=[4],sites:=[16]})]}
noncomputable def dz.A:= @cH Tryz.prog dz.G dz.an 12 Tryz.f109 _ dz.st
abbrev dz.Ok:=cI @dz.A dz.aC dz.add dz.F dz.out
theorem dz.eq{R:Type}(bL:Nat)(n:Int)(o0:Bs)(k:aZ→Option R):dz.A (bL,n,o0) k=
 aK (decide (bL≤(List.length o0))) (
 aK (dj (bL+1) 1) (
 aK (decide ((bL+1)≤(List.length ((List.take bL o0)++ [(dD .u8 (bM .i64 n (56:Int)))])))) (
 aK (dj ((bL+1)+1) 1) (
 aK (decide (((bL+1)+1)≤(List.length ((List.take (bL+1) ((List.take bL o0)++ [(dD .u8 (bM .i64 n (56:Int)))]))++ [(dD .u8 (bM .i64 n (48:Int)))])))) (
 aK (dj (((bL+1)+1)+1) 1) (
 aK (decide ((((bL+1)+1)+1)≤(List.length ((List.take ((bL+1)+1) ((List.take (bL+1) ((List.take bL o0)++ [(dD .u8 (bM .i64 n (56:Int)))]))++ [(dD .u8 (bM .i64 n (48:Int)))]))++ [(dD .u8 (bM .i64 n (40:Int)))])))) (
 aK (dj ((((bL+1)+1)+1)+1) 1) (
 aK (decide (((((bL+1)+1)+1)+1)≤(List.length ((List.take (((bL+1)+1)+1) ((List.take ((bL+1)+1) ((List.take (bL+1) ((List.take bL o0)++ [(dD .u8 (bM .i64 n (56:Int)))]))++ [(dD .u8 (bM .i64 n (48:Int)))]))++ [(dD .u8 (bM .i64 n (40:Int)))]))++ [(dD .u8 (bM .i64 n (32:Int)))])))) (
 aK (dj (((((bL+1)+1)+1)+1)+1) 1) (
 aK (decide ((((((bL+1)+1)+1)+1)+1)≤(List.length ((List.take ((((bL+1)+1)+1)+1) ((List.take (((bL+1)+1)+1) ((List.take ((bL+1)+1) ((List.take (bL+1) ((List.take bL o0)++ [(dD .u8 (bM .i64 n (56:Int)))]))++ [(dD .u8 (bM .i64 n (48:Int)))]))++ [(dD .u8 (bM .i64 n (40:Int)))]))++ [(dD .u8 (bM .i64 n (32:Int)))]))++ [(dD .u8 (bM .i64 n (24:Int)))])))) (
 aK (dj ((((((bL+1)+1)+1)+1)+1)+1) 1) (
 aK (decide (((((((bL+1)+1)+1)+1)+1)+1)≤(List.length ((List.take (((((bL+1)+1)+1)+1)+1) ((List.take ((((bL+1)+1)+1)+1) ((List.take (((bL+1)+1)+1) ((List.take ((bL+1)+1) ((List.take (bL+1) ((List.take bL o0)++ [(dD .u8 (bM .i64 n (56:Int)))]))++ [(dD .u8 (bM .i64 n (48:Int)))]))++ [(dD .u8 (bM .i64 n (40:Int)))]))++ [(dD .u8 (bM .i64 n (32:Int)))]))++ [(dD .u8 (bM .i64 n (24:Int)))]))++ [(dD .u8 (bM .i64 n (16:Int)))])))) (
 aK (dj (((((((bL+1)+1)+1)+1)+1)+1)+1) 1) (
 aK (decide ((((((((bL+1)+1)+1)+1)+1)+1)+1)≤(List.length ((List.take ((((((bL+1)+1)+1)+1)+1)+1) ((List.take (((((bL+1)+1)+1)+1)+1) ((List.take ((((bL+1)+1)+1)+1) ((List.take (((bL+1)+1)+1) ((List.take ((bL+1)+1) ((List.take (bL+1) ((List.take bL o0)++ [(dD .u8 (bM .i64 n (56:Int)))]))++ [(dD .u8 (bM .i64 n (48:Int)))]))++ [(dD .u8 (bM .i64 n (40:Int)))]))++ [(dD .u8 (bM .i64 n (32:Int)))]))++ [(dD .u8 (bM .i64 n (24:Int)))]))++ [(dD .u8 (bM .i64 n (16:Int)))]))++ [(dD .u8 (bM .i64 n (8:Int)))])))) (
 aK (dj ((((((((bL+1)+1)+1)+1)+1)+1)+1)+1) 1) (
 k (dz.out (((((((((bL+1)+1)+1)+1)+1)+1)+1)+1),((List.take (((((((bL+1)+1)+1)+1)+1)+1)+1) ((List.take ((((((bL+1)+1)+1)+1)+1)+1) ((List.take (((((bL+1)+1)+1)+1)+1) ((List.take ((((bL+1)+1)+1)+1) ((List.take (((bL+1)+1)+1) ((List.take ((bL+1)+1) ((List.take (bL+1) ((List.take bL o0)++ [(dD .u8 (bM .i64 n (56:Int)))]))++ [(dD .u8 (bM .i64 n (48:Int)))]))++ [(dD .u8 (bM .i64 n (40:Int)))]))++ [(dD .u8 (bM .i64 n (32:Int)))]))++ [(dD .u8 (bM .i64 n (24:Int)))]))++ [(dD .u8 (bM .i64 n (16:Int)))]))++ [(dD .u8 (bM .i64 n (8:Int)))]))++ [(dD .u8 (bM .i64 n (0:Int)))])))) none) none) none) none) none) none) none) none) none) none) none) none) none) none) none) none:=by kernel_rfl
theorem dz.ok:dz.Ok:=by
 rintro⟨m,n,l⟩ ⟨rfl,hl⟩
 have hl:l.length≤140737488355320:=hl
 rw[dz.eq]
 simp only[Nat.le_refl,decide_true,ax,List.take_of_length_le,List.length_append,List.length_cons,List.length_nil,Nat.zero_add]
 rw[lU (by omega),lU (by omega),lU (by omega),lU (by omega),lU (by omega),lU (by omega),lU (by omega),lU (by omega)]
 simp only[ax,dz.add,dz.F,←xn,List.append_assoc,List.cons_append,List.nil_append]
noncomputable def dz.E:=Entry.ct [none,some ti] dz.st dz.aC dz.add dz.F dz.out
noncomputable def dz.call:dz.D→Option dz.X:=bH dz.E dz.st
theorem dz.run:bD dz.call dz.aC dz.add dz.F:=cO (cM [.n,.d ti,.d tB] fun _=>by kernel_rfl)
noncomputable def dz.sg:SG Tryz.prog:=⟨109,zZ,dz.E,.fn 1 (by kernel_rfl) dz.ok (And.intro (.none (by kernel_rfl)) trivial)⟩
set_option synthInstance.maxSize 5000
abbrev aN.L0.D:=Bs×Nat×Bs×(List Int)
def aN.L0.st:aN.L0.D→AS:=fun(b_2,endL,n2,n14)=>⟨([.d tB b_2,.undef,.ptr (.new 2 0) 0 [] 0,.cf (.new 14 0) 0 [] 0 0 endL]++a9 61 []),[],([[],[],[.obj 0 false (.d tH n2)]]++bJ 11 ([[.obj 0 false (.vec 5 tb n14)]]++bJ 50 []))⟩
abbrev aN.L0.Y0:=Nat×(List Int)
abbrev aN.L0.X0:=(Bs×Bs)×(Nat×(List Int))
def aN.L0.bq:aN.L0.X0→Exit×AS:=fun x=>(.exit 0,⟨([.d tB x.1.1,.undef,.ptr (.new 2 0) 0 [] 0,.cf (.new 14 0) 0 [] 0 0 x.2.1]++a9 61 []),[],([[],[],[.obj 0 false (.d tH x.1.2)]]++bJ 11 ([[.obj 0 false (.vec 5 tb x.2.2)]]++bJ 50 []))⟩)
abbrev aN.L0.X:=aN.L0.X0
abbrev aN.L0.Y:=aN.L0.Y0
def aN.L0.out:aN.L0.X→Out (Exit×AS):=fun x=> .ok (aN.L0.bq x)
def aN.L0.add:aN.L0.D→aN.L0.Y→aN.L0.X:=fun(b_2,endL,n2,n14) y=>((b_2,n2),y)
abbrev aN.L1.D:=Bs×Nat×Bs×(List Int)×(List Int)
def aN.L1.st:aN.L1.D→AS:=fun(b_3,endL_2,n2_2,n4,n14_2)=>⟨([.d tB b_3,.undef,.ptr (.new 2 0) 0 [] 0,.cf (.new 14 0) 8 [] 0 0 endL_2,.ptr (.new 4 0) 0 [] 0]++a9 60 []),[],([[],[],[.obj 0 false (.d tH n2_2)],[],[.obj 0 false (.d (.arr 8 (.int .u32)) n4)]]++bJ 9 ([[.obj 8 false (.vec 5 tb n14_2)]]++bJ 50 []))⟩
abbrev aN.L1.Y0:=(List Int)
abbrev aN.L1.X0:=(Nat×Bs×(List Int))×((List Int))
def aN.L1.bq:aN.L1.X0→Exit×AS:=fun x=>(.exit 2,⟨([.undef,.undef,.ptr (.new 2 0) 0 [] 0,.cf (.new 14 0) 8 [] 0 0 x.1.1,.ptr (.new 4 0) 0 [] 0]++a9 60 []),[],([[],[],[.obj 0 false (.d tH x.1.2.1)],[],[.obj 0 false (.d (.arr 8 (.int .u32)) x.2)]]++bJ 9 ([[.obj 8 false (.vec 5 tb x.1.2.2)]]++bJ 50 []))⟩)
abbrev aN.L1.X:=aN.L1.X0
abbrev aN.L1.Y:=aN.L1.Y0
def aN.L1.out:aN.L1.X→Out (Exit×AS):=fun x=> .ok (aN.L1.bq x)
def aN.L1.add:aN.L1.D→aN.L1.Y→aN.L1.X:=fun(b_3,endL_2,n2_2,n4,n14_2) y=>((endL_2,n2_2,n14_2),y)
abbrev aN.L2.D:=Bs×Bs×(List Int)
def aN.L2.st:aN.L2.D→AS:=fun(endv,n2_3,n4_2)=>⟨([.undef,.undef,.ptr (.new 2 0) 0 [] 0,.d tB endv,.ptr (.new 4 0) 0 [] 0]++a9 60 []),[],([[],[],[.obj 0 false (.d tH n2_3)],[],[.obj 0 false (.d (.arr 8 (.int .u32)) n4_2)]]++bJ 60 [])⟩
abbrev aN.L2.Y0:=(List Int)
abbrev aN.L2.X0:=(Bs)×((List Int))
def aN.L2.bq:aN.L2.X0→Exit×AS:=fun x=>(.exit 4,⟨([.undef,.undef,.ptr (.new 2 0) 0 [] 0,.undef,.ptr (.new 4 0) 0 [] 0]++a9 60 []),[],([[],[],[.obj 0 false (.d tH x.1)],[],[.obj 0 false (.d (.arr 8 (.int .u32)) x.2)]]++bJ 60 [])⟩)
abbrev aN.L2.X:=aN.L2.X0
abbrev aN.L2.Y:=aN.L2.Y0
def aN.L2.out:aN.L2.X→Out (Exit×AS):=fun x=> .ok (aN.L2.bq x)
def aN.L2.add:aN.L2.D→aN.L2.Y→aN.L2.X:=fun(endv,n2_3,n4_2) y=>(n2_3,y)
abbrev aN.L3.D:=Int×Bs×(List Int)
def aN.L3.st:aN.L3.D→AS:=fun(t48,n2_4,n4_3)=>⟨([.undef,.undef,.ptr (.new 2 0) 0 [] 0,.undef,.ptr (.new 4 0) 0 [] 0]++a9 43 ([.d ti t48]++a9 16 [])),[],([[],[],[.obj 0 false (.d tH n2_4)],[],[.obj 0 false (.d (.arr 8 (.int .u32)) n4_3)]]++bJ 60 [])⟩
abbrev aN.L3.Y0:=Bs
abbrev aN.L3.X0:=Bs
def aN.L3.bq:aN.L3.X0→Exit×AS:=fun x=>(.exit 6,⟨([.undef,.undef,.ptr (.new 2 0) 0 [] 0]++a9 62 []),[],([[],[],[.obj 0 false (.d tH x)]]++bJ 62 [])⟩)
abbrev aN.L3.X:=aN.L3.X0
abbrev aN.L3.Y:=aN.L3.Y0
def aN.L3.out:aN.L3.X→Out (Exit×AS):=fun x=> .ok (aN.L3.bq x)
def aN.L3.add:aN.L3.D→aN.L3.Y→aN.L3.X:=fun(t48,n2_4,n4_3) y=>y
abbrev aN.D:=Bs
def aN.st:aN.D→SA:=fun b=>([.d tB b],[])
abbrev aN.Y:=Bs
abbrev aN.X:=Bs
def aN.out:aN.X→aZ:=fun x=>⟨.d tH x,[],[]⟩
def aN.add:aN.D→aN.Y→aN.X:=fun b y=>y
def zc(n:Nat):Nat:=(120 - n%64)%64
def aN.L0.aC:aN.L0.D→Prop:=fun(b,m,n2,l)=>m=l.length∧l.length+zc l.length≤140737488355328
def aN.L0.F:aN.L0.D→aN.L0.Y:=fun(b,m,n2,l)=>(l.length+zc l.length,l++List.replicate (zc l.length) 0)
def aN.L1.aC:aN.L1.D→Prop:=fun(b,m,n2,h,l)=>∃s:St,h=s.l
def aN.L1.F:aN.L1.D→aN.L1.Y:=fun(b,m,n2,h,l)=>(blocks (u6 h) b).l
def aN.L2.aC:aN.L2.D→Prop:=fun(b,n2,h)=>b.length%64=0∧∃s:St,h=s.l
def aN.L2.F:aN.L2.D→aN.L2.Y:=fun(b,n2,h)=>(blocks (u6 h) b).l
def nX(h:List Int)(i:Nat)(_:Int):Int:=dD .u8 (bM .u32 (nth (.int .u32) h (i / 4)) ((24 - 8*(i%4):Nat):Int))
def aN.L3.aC:aN.L3.D→Prop:=fun(t,n2,h)=>n2.length=32∧h.length=8∧∃k:Nat,k≤32∧t=k
def aN.L3.F:aN.L3.D→aN.L3.Y:=fun(t,n2,h)=>from_ (nX h) t.toNat n2
def aN.aC:aN.D→Prop:=fun b=>b.length≤140737488350000
def aN.F:aN.D→aN.Y:=fun b=>Df b
noncomputable def aN.G:dQ:=eR (P:=Tryz.prog) [cm.sg,dz.sg,first.sg,mix.sg]
noncomputable def aN.L0.E:=bN.ct aN.L0.st aN.L0.aC aN.L0.add aN.L0.F aN.L0.out
noncomputable def aN.L0.call:aN.L0.D→Option aN.L0.X:=dh aN.L0.E aN.L0.st
noncomputable def aN.L1.E:=bN.ct aN.L1.st aN.L1.aC aN.L1.add aN.L1.F aN.L1.out
noncomputable def aN.L1.call:aN.L1.D→Option aN.L1.X:=dh aN.L1.E aN.L1.st
noncomputable def aN.L2.E:=bN.ct aN.L2.st aN.L2.aC aN.L2.add aN.L2.F aN.L2.out
noncomputable def aN.L2.call:aN.L2.D→Option aN.L2.X:=dh aN.L2.E aN.L2.st
noncomputable def aN.L3.E:=bN.ct aN.L3.st aN.L3.aC aN.L3.add aN.L3.F aN.L3.out
noncomputable def aN.L3.call:aN.L3.D→Option aN.L3.X:=dh aN.L3.E aN.L3.st
noncomputable def aN.an:eC:= {loops:=jJ [(2,{bm:=[0,2,3],sites:=[2,14],ix:=[⟨3,[],14,25⟩]}),(6,{bm:=[0,2,3,4],sites:=[2,4,14]}),(9,{bm:=[2,3,4],sites:=[2,4],data:=[(3,tB)]}),(13,{bm:=[2,4,48],sites:=[2,4]})],outs:=jI [(2,{bm:=[0,2,3],sites:=[2,14]},{bm:=[2]}),(6,{bm:=[2,3,4],sites:=[2,4,14]},{bm:=[2]}),(9,{bm:=[2,4],sites:=[2,4]},{bm:=[2]}),(13,{bm:=[2],sites:=[2]},{bm:=[2]})],fG:=kh [(2,aN.L0.E),(6,aN.L1.E),(9,aN.L2.E),(13,aN.L3.E)]}
noncomputable def aN.A:= @cH Tryz.prog aN.G aN.an 0 Tryz.f51 _ aN.st
abbrev aN.Ok:=cI @aN.A aN.aC aN.add aN.F aN.out
noncomputable def aN.L0.R:= @bX Tryz.prog aN.G aN.an 0 Tryz.f51 0 _ aN.L0.st
abbrev aN.L0.Ok:=eA Tryz.prog aN.G aN.an 0 Tryz.f51 0 aN.L0.st aN.L0.aC aN.L0.add aN.L0.F aN.L0.out
noncomputable def aN.L1.R:= @bX Tryz.prog aN.G aN.an 0 Tryz.f51 1 _ aN.L1.st
abbrev aN.L1.Ok:=eA Tryz.prog aN.G aN.an 0 Tryz.f51 1 aN.L1.st aN.L1.aC aN.L1.add aN.L1.F aN.L1.out
noncomputable def aN.L2.R:= @bX Tryz.prog aN.G aN.an 0 Tryz.f51 2 _ aN.L2.st
abbrev aN.L2.Ok:=eA Tryz.prog aN.G aN.an 0 Tryz.f51 2 aN.L2.st aN.L2.aC aN.L2.add aN.L2.F aN.L2.out
noncomputable def aN.L3.R:= @bX Tryz.prog aN.G aN.an 0 Tryz.f51 3 _ aN.L3.st
abbrev aN.L3.Ok:=eA Tryz.prog aN.G aN.an 0 Tryz.f51 3 aN.L3.st aN.L3.aC aN.L3.add aN.L3.F aN.L3.out
theorem aN.L0.run:bD aN.L0.call aN.L0.aC aN.L0.add aN.L0.F:=eG (eE [.d tB,.n,.d tB,.d tB] fun _=>by kernel_rfl)
theorem aN.L0.aG:fR @aN.L0.R aN.L0.st aN.L0.aC aN.L0.add aN.L0.F aN.L0.bq aN.L0.Ok:=fU
theorem aN.L0.step{R:Type}(b_2:Bs)(endL:Nat)(n2:Bs)(n14:(List Int))(kn:AS→Option R)(kx:Exit→AS→Option R):aN.L0.R (b_2,endL,n2,n14) kn kx=
  aK ((jn (iX ((endL:Nat):Int) (64:Int)) (56:Int))) (
   aK (decide (endL≤(List.length n14))) (
   aK (dj (endL+1) 1) (
   kn (aN.L0.st (b_2,(endL+1),n2,((List.take endL n14)++ [(0:Int)])))) none) none) (
   kx (aN.L0.bq ((b_2,n2),(endL,n14))).1 (aN.L0.bq ((b_2,n2),(endL,n14))).2):=by kernel_rfl
theorem aN.L1.run:bD aN.L1.call aN.L1.aC aN.L1.add aN.L1.F:=eG (eE [.d tB,.n,.d tB,.d (.slice (.int .u32)),.d tB] fun _=>by kernel_rfl)
theorem aN.L1.aG:fR @aN.L1.R aN.L1.st aN.L1.aC aN.L1.add aN.L1.F aN.L1.bq aN.L1.Ok:=fU
theorem aN.L1.step{R:Type}(b_3:Bs)(endL_2:Nat)(n2_2:Bs)(n4:(List Int))(n14_2:(List Int))(kn:AS→Option R)(kx:Exit→AS→Option R):aN.L1.R (b_3,endL_2,n2_2,n4,n14_2) kn kx=
  aK ((mO (((List.length b_3):Nat):Int) (64:Int))) (
   aK (inc (64:Int) (((List.length b_3):Nat):Int)) (
   aj (mix.call (n4,(cut b_3 0 64))) fun x1=>
   aK (inc (64:Int) (((List.length b_3):Nat):Int)) (
   kn (aN.L1.st ((cut b_3 64 ((List.length b_3) - 64)),endL_2,n2_2,x1,n14_2))) none) none) (
   kx (aN.L1.bq ((endL_2,n2_2,n14_2),n4)).1 (aN.L1.bq ((endL_2,n2_2,n14_2),n4)).2):=by kernel_rfl
theorem aN.L2.run:bD aN.L2.call aN.L2.aC aN.L2.add aN.L2.F:=eG (eE [.d tB,.d tB,.d (.slice (.int .u32))] fun _=>by kernel_rfl)
theorem aN.L2.aG:fR @aN.L2.R aN.L2.st aN.L2.aC aN.L2.add aN.L2.F aN.L2.bq aN.L2.Ok:=fU
theorem aN.L2.step{R:Type}(endv:Bs)(n2_3:Bs)(n4_2:(List Int))(kn:AS→Option R)(kx:Exit→AS→Option R):aN.L2.R (endv,n2_3,n4_2) kn kx=
  aK ((mN (((List.length endv):Nat):Int) (0:Int))) (
   aK (inc (64:Int) (((List.length endv):Nat):Int)) (
   aj (mix.call (n4_2,(cut endv 0 64))) fun x1=>
   aK (inc (64:Int) (((List.length endv):Nat):Int)) (
   kn (aN.L2.st ((cut endv 64 ((List.length endv) - 64)),n2_3,x1))) none) none) (
   kx (aN.L2.bq (n2_3,n4_2)).1 (aN.L2.bq (n2_3,n4_2)).2):=by kernel_rfl
theorem aN.L3.run:bD aN.L3.call aN.L3.aC aN.L3.add aN.L3.F:=eG (eE [.d ti,.d tB,.d (.slice (.int .u32))] fun _=>by kernel_rfl)
theorem aN.L3.aG:fR @aN.L3.R aN.L3.st aN.L3.aC aN.L3.add aN.L3.F aN.L3.bq aN.L3.Ok:=fU
theorem aN.L3.step{R:Type}(t48:Int)(n2_4:Bs)(n4_3:(List Int))(kn:AS→Option R)(kx:Exit→AS→Option R):aN.L3.R (t48,n2_4,n4_3) kn kx=
  aK ((gb t48 (32:Int))) (
   aK (eh (kJ .i64 t48 (4:Int)) (8:Int)) (
   aK (decide ((Int.toNat (kJ .i64 t48 (4:Int))) < (List.length n4_3))) (
   aK (decide ((((Int.toNat (kJ .i64 t48 (4:Int)))*1)+0)=(0+((Int.toNat (kJ .i64 t48 (4:Int)))*1)))) (
   aK (gI (de .i64 (24:Int) (eS .i64 (8:Int) (iX t48 (4:Int))))) (
   aK (eh t48 (32:Int)) (
   aK (decide ((Int.toNat t48) < (List.length n2_4))) (
   aK (decide ((((Int.toNat t48)*1)+0)=(0+((Int.toNat t48)*1)))) (
   aK (decide ((Int.toNat t48) < (List.length n2_4))) (
   kn (aN.L3.st ((bK .i64 t48 (1:Int)),(List.set n2_4 (Int.toNat t48) (dD .u8 (bM .u32 (nth (.int .u32) n4_3 (Int.toNat (kJ .i64 t48 (4:Int)))) (de .i64 (24:Int) (eS .i64 (8:Int) (iX t48 (4:Int))))))),n4_3))) none) none) none) none) none) none) none) none) (
   kx (aN.L3.bq n2_4).1 (aN.L3.bq n2_4).2):=by kernel_rfl
theorem aN.eq{R:Type}(b:Bs)(k:aZ→Option R):aN.A b k=
 aK (inc (de .i64 (((List.length b):Nat):Int) (iX (((List.length b):Nat):Int) (64:Int))) (((List.length b):Nat):Int)) (
 aj (cm.call (cut b (Int.toNat (de .i64 (((List.length b):Nat):Int) (iX (((List.length b):Nat):Int) (64:Int)))) ((List.length b) - (Int.toNat (de .i64 (((List.length b):Nat):Int) (iX (((List.length b):Nat):Int) (64:Int))))))) fun x1=>
 aK (decide (x1.1≤(List.length x1.2))) (
 aK (dj (x1.1+1) 1) (
 aj (aN.L0.call (b,(x1.1+1),(List.replicate 32 (0:Int)),((List.take x1.1 x1.2)++ [(128:Int)]))) fun x2=>
 aj (dz.call (x2.2.1,(eS .i64 (8:Int) (((List.length x2.1.1):Nat):Int)),x2.2.2)) fun x3=>
 aj (first.call ()) fun x4=>
 aj (aN.L1.call (x2.1.1,x3.1,x2.1.2,x4,x3.2)) fun x6=>
 aK (decide (0=0∧(0+x6.1.1)≤(List.length x6.1.2.2))) (
 aj (aN.L2.call ((cut x6.1.2.2 0 x6.1.1),x6.1.2.1,x6.2)) fun x9=>
 aj (aN.L3.call ((0:Int),x9.1,x9.2)) fun x10=>
 k (aN.out x10)) none) none) none) none:=by kernel_rfl
theorem aN.L0.ok:aN.L0.Ok:=by
 refine aN.L0.aG (fun(b,m,n2,l)=>zc l.length) ?_
 rintro⟨b,m,n2,l⟩ ⟨rfl,hl⟩
 have hl:l.length+zc l.length≤140737488355328:=hl
 have hr:iX ((l.length:Nat):Int) 64=((l.length%64:Nat):Int):=by
  unfold iX
  rw[Int.tmod_eq_emod_of_nonneg (by omega)]
  omega
 by_cases h:l.length%64=56
 ·right
  intro R kn kx
  have hz:zc l.length=0:=by unfold zc;omega
  rw[aN.L0.step,hr,bP (by omega)]
  simp only[aw,aN.L0.add,aN.L0.F,hz,Nat.add_zero,List.replicate_zero,List.append_nil]
 ·left
  have hz:zc l.length=zc (l.length+1)+1:=by unfold zc;omega
  refine⟨(b,l.length+1,n2,l++ [0]),⟨by simp,by simp only[List.length_append,List.length_cons,List.length_nil,Nat.zero_add];omega⟩,by simp only[List.length_append,List.length_cons,List.length_nil,Nat.zero_add];omega,?_,fun kn kx=> ?_⟩
  ·simp only[aN.L0.add,aN.L0.F,List.length_append,List.length_cons,List.length_nil,Nat.zero_add,hz,List.append_assoc,List.cons_append,List.nil_append,List.replicate_succ]
   rw[show l.length+1+zc (l.length+1)=l.length+(zc (l.length+1)+1) by omega]
  ·rw[aN.L0.step,hr,dw (by omega),lU (by omega)]
   simp only[ax,Nat.le_refl,decide_true,List.take_length]
theorem aN.L1.ok:aN.L1.Ok:=by
 refine aN.L1.aG (fun(b,m,n2,h,l)=>b.length) ?_
 rintro⟨b,m,n2,h,l⟩ ⟨s,rfl⟩
 by_cases hb:64≤b.length
 ·left
  have e1:cut b 64 (b.length - 64)=b.drop 64:=by unfold cut;rw[List.take_of_length_le (by simp)]
  have e2:cut b 0 64=b.take 64:=rfl
  have hp:mix.aC (s.l,b.take 64):=⟨⟨s,rfl⟩,by simp;omega⟩
  refine⟨(b.drop 64,m,n2,(qd s (b.take 64)).l,l),⟨_,rfl⟩,by simp;omega,?_,fun kn kx=> ?_⟩
  ·simp only[aN.L1.add,aN.L1.F,gR]
   rw[mX s b hb]
  ·rw[aN.L1.step,fX (by omega),kH (by omega) (by omega),e1,e2]
   simp only[ax,mix.run hp,ab,mix.add,mix.F,gR]
 ·right
  intro R kn kx
  rw[aN.L1.step,eI (by omega)]
  simp only[aw,aN.L1.add,aN.L1.F,gR]
  rw[lZ s b (by omega)]
theorem aN.L2.ok:aN.L2.Ok:=by
 refine aN.L2.aG (fun(b,n2,h)=>b.length) ?_
 rintro⟨b,n2,h⟩ ⟨hm,s,rfl⟩
 have hm:b.length%64=0:=hm
 by_cases hb:0 < b.length
 ·left
  have e1:cut b 64 (b.length - 64)=b.drop 64:=by unfold cut;rw[List.take_of_length_le (by simp)]
  have e2:cut b 0 64=b.take 64:=rfl
  have hp:mix.aC (s.l,b.take 64):=⟨⟨s,rfl⟩,by simp;omega⟩
  refine⟨(b.drop 64,n2,(qd s (b.take 64)).l),⟨by simp;omega,_,rfl⟩,by simp;omega,?_,fun kn kx=> ?_⟩
  ·simp only[aN.L2.add,aN.L2.F,gR]
   rw[mX s b (by omega)]
  ·rw[aN.L2.step,dL (by omega),kH (by omega) (by omega),e1,e2]
   simp only[ax,mix.run hp,ab,mix.add,mix.F,gR]
 ·right
  intro R kn kx
  rw[aN.L2.step,dC (by omega)]
  simp only[aw,aN.L2.add,aN.L2.F,gR]
  rw[lZ s b (by omega)]
theorem aN.L3.ok:aN.L3.Ok:=by
 refine aN.L3.aG (fun(t,n2,h)=>32 - t.toNat) ?_
 rintro⟨t,m,h⟩ ⟨hl,h8,k,hk,rfl⟩
 have hl:m.length=32:=hl
 have h8:h.length=8:=h8
 have e2:Int.toNat (k:Int)=k:=by omega
 have e3:Int.toNat ((k+1:Nat):Int)=k+1:=by omega
 by_cases hlt:k < 32
 ·left
  have e1:bK .i64 (k:Int) 1=((k+1:Nat):Int):=by rw[fW (by omega) (by omega)];omega
  have q4:kJ .i64 (k:Int) 4=((k / 4:Nat):Int):=by
   have:(k:Int).tdiv 4=((k / 4:Nat):Int):=by rw[Int.tdiv_eq_ediv_of_nonneg (by omega)];omega
   unfold kJ
   rw[this,jd (by omega) (by omega)]
  have r4:iX (k:Int) 4=((k%4:Nat):Int):=by
   unfold iX
   rw[Int.tmod_eq_emod_of_nonneg (by omega)]
   omega
  have s4:de .i64 24 (eS .i64 8 ((k%4:Nat):Int))=((24 - 8*(k%4):Nat):Int):=by
   rw[o7 (by omega) (by omega),fx (by omega) (by omega)]
   omega
  have e4:Int.toNat ((k / 4:Nat):Int)=k / 4:=by omega
  refine⟨(((k+1:Nat):Int),m.set k (nX h k m[k]),h),⟨by simpa using hl,h8,k+1,by omega,rfl⟩,by simp;omega,?_,fun kn kx=> ?_⟩
  ·simp only[aN.L3.add,aN.L3.F,e2,e3]
   rw[nL (nX h) m k (by omega)]
  ·have d0:decide (k < 32)=true:=aQ hlt
   have d1:decide (k / 4 < 8)=true:=aQ (by omega)
   rw[aN.L3.step,bw (by omega),q4,r4,s4,bh (by omega) (by omega),bh (by omega) (by omega),jW (by omega)]
   simp only[e1,e2,e4,Nat.mul_one,Nat.zero_add,Nat.add_zero,decide_true,ax,hl,h8,d0,d1,nX]
 ·right
  obtain rfl:k=32:=by omega
  intro R kn kx
  rw[aN.L3.step,bn (by omega)]
  simp only[aw,aN.L3.add,aN.L3.F,e2]
  rw[o3 _ _ _ (by omega)]
theorem zM(w:W):BitVec.ofInt 8 (vw w)=w.setWidth 8:=by
 apply BitVec.eq_of_toNat_eq
 rw[BitVec.toNat_ofInt,BitVec.toNat_setWidth]
 unfold vw
 omega
theorem CV(w:W)(k:Int):dD .u8 (bM .u32 (vw w) k)=vw ((w >>> k.toNat).setWidth 8):=by
 rw[ni,rM,zM]
theorem yN(s:St):from_ (nX s.l) 0 (List.replicate 32 0)=Cd s:=by
 rw[rH]
 simp only[List.range_eq_range',List.range',List.map_cons,List.map_nil,nX,Nat.reduceAdd,Nat.reduceDiv,Nat.reduceMod,Nat.reduceMul,Nat.reduceSub,n0,n1,n2,n3,n4,n5,n6,n7,CV]
 rfl
theorem aN.ok:aN.Ok:=by
 intro b hb
 have hb:b.length≤140737488350000:=hb
 have hr:iX ((b.length:Nat):Int) 64=((b.length%64:Nat):Int):=by
  unfold iX
  rw[Int.tmod_eq_emod_of_nonneg (by omega)]
  omega
 have hs:de .i64 ((b.length:Nat):Int) ((b.length%64:Nat):Int)=((b.length - b.length%64:Nat):Int):=by
  rw[fx (by omega) (by omega)];omega
 have hn:Int.toNat ((b.length - b.length%64:Nat):Int)=b.length - b.length%64:=by omega
 have hm:eS .i64 8 ((b.length:Nat):Int)=8*(b.length:Int):=o7 (by omega) (by omega)
 generalize hq:b.length - b.length%64=q at hs hn
 have hc:cut b q (b.length - q)=b.drop q:=by unfold cut;rw[List.take_of_length_le (by simp)]
 have hcl:(b.drop q).length=b.length%64:=by simp;omega
 have p1:cm.aC (b.drop q):=by show(b.drop q).length≤_;omega
 rw[aN.eq,hr,hs,kH (by omega) (by omega),hn,hc]
 simp only[ax,cm.run p1,ab,cm.add,cm.F,Nat.le_refl,decide_true,List.take_length]
 have p2:aN.L0.aC (b,(b.drop q).length+1,List.replicate 32 0,b.drop q++ [128]):=by
  refine⟨by simp,?_⟩
  simp only[List.length_append,List.length_cons,List.length_nil,zc]
  omega
 have hz:zc (b.drop q++ [128]).length=kO b.length:=by
  simp only[List.length_append,List.length_cons,List.length_nil,zc,kO]
  omega
 rw[lU (by omega)]
 simp only[ax,aN.L0.run p2,ab,aN.L0.add,aN.L0.F,hm,hz]
 have hlen:(b.drop q++ [128]).length+kO b.length=(b.drop q++ [128]++List.replicate (kO b.length) 0).length:=by rw[@List.length_append _ (b.drop q++ [128]),List.length_replicate]
 have p3:dz.aC ((b.drop q++ [128]).length+kO b.length,8*(b.length:Int),b.drop q++ [128]++List.replicate (kO b.length) 0):=by
  refine⟨hlen,?_⟩
  simp only[List.length_append,List.length_cons,List.length_nil,List.length_replicate,kO]
  omega
 have p4:aN.L1.aC (b,(b.drop q++ [128]++List.replicate (kO b.length) 0).length+8,List.replicate 32 0,iH.l,b.drop q++ [128]++List.replicate (kO b.length) 0++fL (8*(b.length:Int))):=⟨iH,rfl⟩
 simp only[dz.run p3,ab,dz.add,dz.F,first.run (d:=()) trivial,first.add,first.F,aN.L1.run p4,aN.L1.add,aN.L1.F,gR]
 generalize he:b.drop q++ [128]++List.replicate (kO b.length) 0++fL (8*(b.length:Int))=e
 have hel:(b.drop q++ [128]++List.replicate (kO b.length) 0).length+8=e.length:=by rw[←he,@List.length_append _ _ (fL _),bO]
 have hem:e.length%64=0:=by
  rw[←hel]
  simp only[List.length_append,List.length_cons,List.length_nil,List.length_replicate,kO,hcl]
  omega
 have hce:cut e 0 ((b.drop q++ [128]++List.replicate (kO b.length) 0).length+8)=e:=by
  rw[hel];unfold cut;rw[List.drop_zero,List.take_length]
 rw[hce,hel,aQ ⟨trivial,by omega⟩]
 have p5:aN.L2.aC (e,List.replicate 32 0,(blocks iH b).l):=⟨hem,blocks iH b,rfl⟩
 have p6:aN.L3.aC (0,List.replicate 32 0,(blocks (blocks iH b) e).l):=⟨rfl,rfl,0,by omega,rfl⟩
 simp only[ax,aN.L2.run p5,ab,aN.L2.add,aN.L2.F,gR,aN.L3.run p6,aN.L3.add,aN.L3.F,aN.add,aN.F]
 rw[show Int.toNat 0=0 from rfl,yN]
 have hbl:blocks iH (pad b)=blocks (blocks iH b) e:=by
  have h1:pad b=b.take q++e:=by
   rw[←he]
   unfold pad
   rw[List.append_assoc,List.append_assoc,←List.append_assoc (b.take q),List.take_append_drop]
   rfl
  have h2:blocks iH b=blocks (blocks iH (b.take q)) (b.drop q):=by
   rw[←nW _ _ _ (by simp;omega),List.take_append_drop]
  rw[h1,nW _ _ _ (by simp;omega),h2,lZ _ (b.drop q) (by omega)]
 rw[Df,hbl]
noncomputable def aN.E:=Entry.ct [some tB] aN.st aN.aC aN.add aN.F aN.out
noncomputable def aN.call:aN.D→Option aN.X:=bH aN.E aN.st
theorem aN.run:bD aN.call aN.aC aN.add aN.F:=cO (cM [.d tB] fun _=>by kernel_rfl)
noncomputable def aN.sg:SG Tryz.prog:=⟨51,aV,aN.E,.fn 4 (by kernel_rfl) aN.ok (And.intro (.ct aN.L0.ok (by kernel_rfl)) (And.intro (.ct aN.L1.ok (by kernel_rfl)) (And.intro (.ct aN.L2.ok (by kernel_rfl)) (And.intro (.ct aN.L3.ok (by kernel_rfl)) trivial))))⟩
set_option synthInstance.maxSize 5000
abbrev bR.L0.D:=Nat×(List Bs)×Int×Int×Bs×(List Int)
def bR.L0.st:bR.L0.D→AS:=fun(bL,t13,t14,t15,n4,n10)=>⟨(a9 4 ([.ptr (.new 4 0) 0 [] 0,.cf (.new 10 0) 0 [] 0 0 bL]++a9 7 ([.d (.slice tB) t13,.d ti t14,.d ti t15]++a9 12 []))),[],(bJ 4 ([[.obj 0 false (.d tH n4)]]++bJ 5 ([[.obj 0 false (.vec 5 tb n10)]]++bJ 17 [])))⟩
abbrev bR.L0.Y0:=Nat×(List Int)
abbrev bR.L0.X0:=(Bs)×(Nat×(List Int))
def bR.L0.bq:bR.L0.X0→Exit×AS:=fun x=>(.exit 0,⟨(a9 4 ([.ptr (.new 4 0) 0 [] 0,.cf (.new 10 0) 0 [] 0 0 x.2.1]++a9 22 [])),[],(bJ 4 ([[.obj 0 false (.d tH x.1)]]++bJ 5 ([[.obj 0 false (.vec 5 tb x.2.2)]]++bJ 17 [])))⟩)
abbrev bR.L0.X:=bR.L0.X0
abbrev bR.L0.Y:=bR.L0.Y0
def bR.L0.out:bR.L0.X→Out (Exit×AS):=fun x=> .ok (bR.L0.bq x)
def bR.L0.add:bR.L0.D→bR.L0.Y→bR.L0.X:=fun(bL,t13,t14,t15,n4,n10) y=>(n4,y)
abbrev bR.D:=ByteArray×(List Bs)
def bR.st:bR.D→SA:=fun(name,parts)=>([.d .str name,.d (.slice tB) parts],[])
abbrev bR.Y:=Bs
abbrev bR.X:=Bs
def bR.out:bR.X→aZ:=fun x=>⟨.d tH x,[],[]⟩
def bR.add:bR.D→bR.Y→bR.X:=fun(name,parts) y=>y
def bR.L0.aC:bR.L0.D→Prop:=fun(m,ps,n,i,n4,l)=>m=l.length∧n=ps.length∧ps.length≤140737488350000∧∃k:Nat,k≤ps.length∧i=k∧l.length+(gV (ps.drop k)).length≤140737488350000
def bR.L0.F:bR.L0.D→bR.L0.Y:=fun(m,ps,n,i,n4,l)=>(l.length+(gV (ps.drop i.toNat)).length,l++gV (ps.drop i.toNat))
def bR.aC:bR.D→Prop:=fun(name,ps)=>(qo (bg name) ps).length≤140737488350000
def bR.F:bR.D→bR.Y:=fun(name,ps)=>tag (bg name) ps
noncomputable def bR.G:dQ:=eR (P:=Tryz.prog) [dW.sg,dz.sg,aN.sg]
noncomputable def bR.L0.E:=bN.ct bR.L0.st bR.L0.aC bR.L0.add bR.L0.F bR.L0.out
noncomputable def bR.L0.call:bR.L0.D→Option bR.L0.X:=dh bR.L0.E bR.L0.st
noncomputable def bR.an:eC:= {loops:=jJ [(3,{bm:=[4,5,13,14,15],sites:=[4,10],ix:=[⟨5,[],10,25⟩]})],outs:=jI [(3,{bm:=[4,5],sites:=[4,10]},{bm:=[4]})],fG:=kh [(3,bR.L0.E)]}
noncomputable def bR.A:= @cH Tryz.prog bR.G bR.an 0 Tryz.f54 _ bR.st
abbrev bR.Ok:=cI @bR.A bR.aC bR.add bR.F bR.out
noncomputable def bR.L0.R:= @bX Tryz.prog bR.G bR.an 0 Tryz.f54 0 _ bR.L0.st
abbrev bR.L0.Ok:=eA Tryz.prog bR.G bR.an 0 Tryz.f54 0 bR.L0.st bR.L0.aC bR.L0.add bR.L0.F bR.L0.out
theorem bR.L0.run:bD bR.L0.call bR.L0.aC bR.L0.add bR.L0.F:=eG (eE [.n,.d (.slice tB),.d ti,.d ti,.d tB,.d tB] fun _=>by kernel_rfl)
theorem bR.L0.aG:fR @bR.L0.R bR.L0.st bR.L0.aC bR.L0.add bR.L0.F bR.L0.bq bR.L0.Ok:=fU
theorem bR.L0.step{R:Type}(bL:Nat)(t13:(List Bs))(t14:Int)(t15:Int)(n4:Bs)(n10:(List Int))(kn:AS→Option R)(kx:Exit→AS→Option R):bR.L0.R (bL,t13,t14,t15,n4,n10) kn kx=
  aK ((gb t15 t14)) (
   aK (eh t15 (((List.length t13):Nat):Int)) (
   aj (dz.call (bL,(((List.length (nth tB t13 (Int.toNat t15))):Nat):Int),n10)) fun x1=>
   aK (decide (x1.1≤(List.length x1.2))) (
   aK (dj (x1.1+(List.length (nth tB t13 (Int.toNat t15)))) 1) (
   kn (bR.L0.st ((x1.1+(List.length (nth tB t13 (Int.toNat t15)))),t13,t14,(bK .i64 t15 (1:Int)),n4,((List.take x1.1 x1.2)++(nth tB t13 (Int.toNat t15)))))) none) none) none) (
   kx (bR.L0.bq (n4,(bL,n10))).1 (bR.L0.bq (n4,(bL,n10))).2):=by kernel_rfl
theorem bR.eq{R:Type}(name:ByteArray)(parts:(List Bs))(k:aZ→Option R):bR.A (name,parts) k=
 aj (dW.call (((ByteArray.size name):Nat):Int)) fun x1=>
 aK (decide (x1.1≤(List.length x1.2))) (
 aK (dj (x1.1+(List.length (bg name))) 1) (
 aj (bR.L0.call ((x1.1+(List.length (bg name))),parts,(((List.length parts):Nat):Int),(0:Int),(List.replicate 32 (0:Int)),((List.take x1.1 x1.2)++(bg name)))) fun x4=>
 aK (decide (0=0∧(0+x4.2.1)≤(List.length x4.2.2))) (
 aj (aN.call (cut x4.2.2 0 x4.2.1)) fun x5=>
 k (bR.out x5)) none) none) none:=by kernel_rfl
theorem tQ(p:List Int)(ps:List (List Int)):gV (p::ps)=fL p.length++p++gV ps:=by simp[gV]
theorem tR(ps:List (List Int))(k:Nat)(h:k < ps.length):gV (ps.drop k)=fL ps[k].length++ps[k]++gV (ps.drop (k+1)):=by
 rw[List.drop_eq_getElem_cons h,tQ]
theorem bR.L0.ok:bR.L0.Ok:=by
 refine bR.L0.aG (fun(m,ps,n,i,n4,l)=>ps.length - i.toNat) ?_
 rintro⟨m,ps,n,i,n4,l⟩ ⟨rfl,rfl,hpl,k,hk,rfl,hl⟩
 have hl:l.length+(gV (ps.drop k)).length≤140737488350000:=hl
 have hk:k≤ps.length:=hk
 have e2:Int.toNat (k:Int)=k:=by omega
 have e3:Int.toNat ((k+1:Nat):Int)=k+1:=by omega
 by_cases h:k < ps.length
 ·left
  have ht:=tR ps k h
  have hlen:(gV (ps.drop k)).length=8+ps[k].length+(gV (ps.drop (k+1))).length:=by rw[ht];simp only[List.length_append,bO]
  have hn:nth (.slice (.int .u8)) ps k=ps[k]:=cj (t:= .slice (.int .u8)) h
  have hpl:ps.length≤140737488350000:=hpl
  have e1:bK .i64 (k:Int) 1=((k+1:Nat):Int):=by rw[fW (by omega) (by omega)];omega
  refine⟨((l++fL ps[k].length++ps[k]).length,ps,(ps.length:Int),((k+1:Nat):Int),n4,l++fL ps[k].length++ps[k]),⟨rfl,rfl,hpl,k+1,by show k+1≤ps.length;omega,rfl,?_⟩,?_,?_,fun kn kx=> ?_⟩
  ·show(l++fL ps[k].length++ps[k]).length+(gV (ps.drop (k+1))).length≤_
   simp only[List.length_append,bO];omega
  ·show ps.length - Int.toNat ((k+1:Nat):Int) < ps.length - Int.toNat (k:Int)
   omega
  ·simp only[bR.L0.add,bR.L0.F,e2,e3,ht,List.append_assoc]
   simp only[List.length_append,bO,Nat.add_assoc]
  ·have p1:dz.aC (l.length,(ps[k].length:Int),l):=⟨rfl,by show l.length≤_;omega⟩
   rw[bR.L0.step,bw (by omega),bh (by omega) (by omega),e1,e2]
   simp only[ax,hn,dz.run p1,ab,dz.add,dz.F]
   have hlb:(l++fL ps[k].length).length=l.length+8:=by simp[bO]
   rw[hlb,aQ (Nat.le_refl _),lU (by omega)]
   simp only[ax]
   rw[List.take_of_length_le (by rw[hlb];omega)]
   simp only[List.length_append,bO,Nat.add_assoc]
 ·right
  obtain rfl:k=ps.length:=by omega
  intro R kn kx
  rw[bR.L0.step,bn (by omega)]
  simp only[aw,bR.L0.add,bR.L0.F,e2,List.drop_length]
  simp[gV]
theorem sF:∀ps:List (List Int),8*ps.length≤(gV ps).length
 |[]=>by simp[gV]
 |p::ps=>by
  rw[tQ]
  have:=sF ps
  simp only[List.length_append,bO,List.length_cons]
  omega
theorem gh(s:ByteArray):(bg s).length=s.size:=by simp only[bg,List.length_map,Array.length_toList];rfl
theorem bR.ok:bR.Ok:=by
 rintro⟨name,ps⟩ hp
 have hp:(fL (bg name).length++bg name++gV ps).length≤140737488350000:=hp
 have hl:(fL (bg name).length++bg name++gV ps).length=8+(bg name).length+(gV ps).length:=by simp only[List.length_append,bO]
 have hpl:=sF ps
 have hsz:((name.size:Nat):Int)=(((bg name).length:Nat):Int):=by rw[gh]
 rw[bR.eq,dW.run (d:=((name.size:Nat):Int)) trivial,hsz]
 simp only[ab,dW.add,dW.F,bO,Nat.le_refl,decide_true,ax]
 rw[lU (by omega),List.take_of_length_le (by rw[bO];omega)]
 have p2:bR.L0.aC (8+(bg name).length,ps,(ps.length:Int),0,List.replicate 32 0,fL ((bg name).length:Int)++bg name):=by
  refine⟨by simp only[List.length_append,bO],rfl,by show ps.length≤_;omega,0,Nat.zero_le _,rfl,?_⟩
  rw[List.drop_zero]
  simp only[List.length_append,bO]
  omega
 simp only[ax,bR.L0.run p2,ab,bR.L0.add,bR.L0.F,Int.toNat_zero,List.drop_zero]
 have hcut:cut (fL ((bg name).length:Int)++bg name++gV ps) 0 ((fL ((bg name).length:Int)++bg name).length+(gV ps).length)=qo (bg name) ps:=by
  unfold cut
  rw[List.drop_zero,List.take_of_length_le (by simp only[List.length_append];omega)]
  rfl
 have p3:aN.aC (qo (bg name) ps):=hp
 rw[aQ ⟨trivial,by simp only[List.length_append];omega⟩,hcut]
 simp only[ax,aN.run p3,ab,aN.add,aN.F,bR.add,bR.F,tag]
noncomputable def bR.E:=Entry.ct [some .str,some (.slice tB)] bR.st bR.aC bR.add bR.F bR.out
noncomputable def bR.call:bR.D→Option bR.X:=bH bR.E bR.st
theorem bR.run:bD bR.call bR.aC bR.add bR.F:=cO (cM [.d .str,.d (.slice tB)] fun _=>by kernel_rfl)
noncomputable def bR.sg:SG Tryz.prog:=⟨54,aV,bR.E,.fn 1 (by kernel_rfl) bR.ok (And.intro (.ct bR.L0.ok (by kernel_rfl)) trivial)⟩
set_option synthInstance.maxSize 5000
abbrev cY.D:=Int×Int
def cY.st:cY.D→SA:=fun(x,n)=>([.d (.int .u32) x,.d ti n],[])
abbrev cY.Y:=Int
abbrev cY.X:=Int
def cY.out:cY.X→aZ:=fun x=>⟨.d (.int .u32) x,[],[]⟩
def cY.add:cY.D→cY.Y→cY.X:=fun(x,n) y=>y
def cY.aC:cY.D→Prop:=fun(x,n)=>0≤x∧x < 4294967296∧0≤n∧n≤32
def cY.F:cY.D→cY.Y:=fun(x,n)=>vw (jy (BitVec.ofInt 32 x) n.toNat)
noncomputable def cY.G:dQ:=eR (P:=Tryz.prog) []
noncomputable def cY.an:eC:= {}
noncomputable def cY.A:= @cH Tryz.prog cY.G cY.an 0 Tryz.f173 _ cY.st
abbrev cY.Ok:=cI @cY.A cY.aC cY.add cY.F cY.out
theorem cY.eq{R:Type}(x:Int)(n:Int)(k:aZ→Option R):cY.A (x,n) k=
 aK (gI n) (
 aK (gI (de .i64 (32:Int) n)) (
 k (cY.out (cn .or .u32 (bM .u32 x n) (gq .u32 x (de .i64 (32:Int) n))))) none) none:=by kernel_rfl
theorem cY.ok:cY.Ok:=by
 rintro⟨x,n⟩ ⟨h1,h2,h3,h4⟩
 obtain⟨n,rfl⟩:=Int.eq_ofNat_of_zero_le h3
 have hx:x=vw (BitVec.ofInt 32 x):=by rw[fH];have h1:0≤x:=h1;have h2:x < 4294967296:=h2;omega
 have h4:(n:Int)≤32:=h4
 rw[cY.eq]
 simp(disch:=omega) only[↓S1,↓if_pos,↓if_neg,if_pos,if_neg,if_true,if_false,S2]
 have e2:cn .or .u32 (bM .u32 x (n:Int)) (gq .u32 x ((32 - n:Nat):Int))=vw (jy (BitVec.ofInt 32 x) n):=by
  conv=>lhs;rw[hx]
  rw[o9,ni,hH]
  simp only[jy,Int.toNat_natCast]
  rw[BitVec.or_comm]
 rw[e2]
 rfl
noncomputable def cY.E:=Entry.ct [some (.int .u32),some ti] cY.st cY.aC cY.add cY.F cY.out
noncomputable def cY.call:cY.D→Option cY.X:=bH cY.E cY.st
theorem cY.run:bD cY.call cY.aC cY.add cY.F:=cO (cM [.d (.int .u32),.d ti] fun _=>by kernel_rfl)
noncomputable def cY.sg:SG Tryz.prog:=⟨173,aV,cY.E,.fn 0 (by kernel_rfl) cY.ok trivial⟩
theorem cY.at(w:W){k:Int}(h:0≤k∧k≤32):cY.call (vw w,k)=some (vw (jy w k.toNat)):=by
 have h:cY.aC (vw w,k):=⟨qq w,by have:=Bz w;simpa using this,h.1,h.2⟩
 rw[cY.run h]
 show some (vw (jy (BitVec.ofInt 32 (vw w)) k.toNat))=_
 rw[ji]
abbrev cq.D:=Unit
def cq.st:cq.D→SA:=fun _=>([],[])
abbrev cq.Y:=(List Int)
abbrev cq.X:=(List Int)
def cq.out:cq.X→aZ:=fun x=>⟨.d (.slice (.int .u32)) x,[],[]⟩
def cq.add:cq.D→cq.Y→cq.X:=fun _ y=>y
def cq.aC:cq.D→Prop:=fun _=>True
def cq.F:cq.D→cq.Y:=fun _=>iH.l
noncomputable def cq.G:dQ:=eR (P:=Tryz.prog) []
noncomputable def cq.an:eC:= {bI:=[1],res:=[some (.slice (.int .u32))]}
noncomputable def cq.A:= @cH Tryz.prog cq.G cq.an 0 Tryz.f155 _ cq.st
abbrev cq.Ok:=cI @cq.A cq.aC cq.add cq.F cq.out
theorem cq.eq{R:Type}(k:aZ→Option R):cq.A () k=
 k (cq.out [(1779033703:Int),(3144134277:Int),(1013904242:Int),(2773480762:Int),(1359893119:Int),(2600822924:Int),(528734635:Int),(1541459225:Int)]):=by kernel_rfl
theorem cq.ok:cq.Ok:=by
 intro d _
 rw[cq.eq]
 rfl
noncomputable def cq.E:=Entry.ct [] cq.st cq.aC cq.add cq.F cq.out
noncomputable def cq.call:cq.D→Option cq.X:=bH cq.E cq.st
theorem cq.run:bD cq.call cq.aC cq.add cq.F:=cO (cM [] fun _=>by kernel_rfl)
noncomputable def cq.sg:SG Tryz.prog:=⟨155,aV,cq.E,.fn 0 (by kernel_rfl) cq.ok trivial⟩
abbrev dX.D:=Unit
def dX.st:dX.D→SA:=fun _=>([],[])
abbrev dX.Y:=(List Int)
abbrev dX.X:=(List Int)
def dX.out:dX.X→aZ:=fun x=>⟨.d (.slice (.int .u32)) x,[],[]⟩
def dX.add:dX.D→dX.Y→dX.X:=fun _ y=>y
def dX.aC:dX.D→Prop:=fun _=>True
def dX.F:dX.D→dX.Y:=fun _=>qa
noncomputable def dX.G:dQ:=eR (P:=Tryz.prog) []
noncomputable def dX.an:eC:= {bI:=[1],res:=[some (.slice (.int .u32))]}
noncomputable def dX.A:= @cH Tryz.prog dX.G dX.an 0 Tryz.f172 _ dX.st
abbrev dX.Ok:=cI @dX.A dX.aC dX.add dX.F dX.out
theorem dX.eq{R:Type}(k:aZ→Option R):dX.A () k=
 k (dX.out [(1116352408:Int),(1899447441:Int),(3049323471:Int),(3921009573:Int),(961987163:Int),(1508970993:Int),(2453635748:Int),(2870763221:Int),(3624381080:Int),(310598401:Int),(607225278:Int),(1426881987:Int),(1925078388:Int),(2162078206:Int),(2614888103:Int),(3248222580:Int),(3835390401:Int),(4022224774:Int),(264347078:Int),(604807628:Int),(770255983:Int),(1249150122:Int),(1555081692:Int),(1996064986:Int),(2554220882:Int),(2821834349:Int),(2952996808:Int),(3210313671:Int),(3336571891:Int),(3584528711:Int),(113926993:Int),(338241895:Int),(666307205:Int),(773529912:Int),(1294757372:Int),(1396182291:Int),(1695183700:Int),(1986661051:Int),(2177026350:Int),(2456956037:Int),(2730485921:Int),(2820302411:Int),(3259730800:Int),(3345764771:Int),(3516065817:Int),(3600352804:Int),(4094571909:Int),(275423344:Int),(430227734:Int),(506948616:Int),(659060556:Int),(883997877:Int),(958139571:Int),(1322822218:Int),(1537002063:Int),(1747873779:Int),(1955562222:Int),(2024104815:Int),(2227730452:Int),(2361852424:Int),(2428436474:Int),(2756734187:Int),(3204031479:Int),(3329325298:Int)]):=by kernel_rfl
theorem dX.ok:dX.Ok:=by
 intro d _
 rw[dX.eq]
 rfl
noncomputable def dX.E:=Entry.ct [] dX.st dX.aC dX.add dX.F dX.out
noncomputable def dX.call:dX.D→Option dX.X:=bH dX.E dX.st
theorem dX.run:bD dX.call dX.aC dX.add dX.F:=cO (cM [] fun _=>by kernel_rfl)
noncomputable def dX.sg:SG Tryz.prog:=⟨172,aV,dX.E,.fn 0 (by kernel_rfl) dX.ok trivial⟩
abbrev aA.L0.D:=Bs×Nat×(List Int)
def aA.L0.st:aA.L0.D→AS:=fun(b_2,outL,n6)=>⟨([.d tB b_2,.undef,.undef,.cf (.new 6 0) 0 [] 0 0 outL]++a9 31 []),[],(bJ 6 ([[.obj 0 false (.vec 5 tb n6)]]++bJ 28 []))⟩
abbrev aA.L0.Y0:=Nat×(List Int)
abbrev aA.L0.X0:=(Bs)×(Nat×(List Int))
def aA.L0.bq:aA.L0.X0→Exit×AS:=fun x=>(.exit 0,⟨([.d tB x.1,.undef,.undef,.cf (.new 6 0) 0 [] 0 0 x.2.1]++a9 31 []),[],(bJ 6 ([[.obj 0 false (.vec 5 tb x.2.2)]]++bJ 28 []))⟩)
abbrev aA.L0.X:=aA.L0.X0
abbrev aA.L0.Y:=aA.L0.Y0
def aA.L0.out:aA.L0.X→Out (Exit×AS):=fun x=> .ok (aA.L0.bq x)
def aA.L0.add:aA.L0.D→aA.L0.Y→aA.L0.X:=fun(b_2,outL,n6) y=>(b_2,y)
abbrev aA.L1.D:=Nat×Int×Int×(List Int)
def aA.L1.st:aA.L1.D→AS:=fun(outL_2,n,kv,n6_2)=>⟨([.undef,.undef,.undef,.cf (.new 6 0) 0 [] 0 0 outL_2,.d tu n,.d ti kv]++a9 29 []),[],(bJ 6 ([[.obj 0 false (.vec 5 tb n6_2)]]++bJ 28 []))⟩
abbrev aA.L1.Y0:=Nat×(List Int)
abbrev aA.L1.X0:=Nat×(List Int)
def aA.L1.bq:aA.L1.X0→Exit×AS:=fun x=>(.exit 2,⟨([.undef,.undef,.undef,.cf (.new 6 0) 0 [] 0 0 x.1]++a9 31 []),[],(bJ 6 ([[.obj 0 false (.vec 5 tb x.2)]]++bJ 28 []))⟩)
abbrev aA.L1.X:=aA.L1.X0
abbrev aA.L1.Y:=aA.L1.Y0
def aA.L1.out:aA.L1.X→Out (Exit×AS):=fun x=> .ok (aA.L1.bq x)
def aA.L1.add:aA.L1.D→aA.L1.Y→aA.L1.X:=fun(outL_2,n,kv,n6_2) y=>y
abbrev aA.D:=Bs
def aA.st:aA.D→SA:=fun b=>([.d tB b],[])
abbrev aA.Y:=Bs
abbrev aA.X:=Bs
def aA.out:aA.X→aZ:=fun x=>⟨.d tB x,[],[]⟩
def aA.add:aA.D→aA.Y→aA.X:=fun b y=>y
def aA.L0.aC:aA.L0.D→Prop:=fun(b,m,l)=>m=l.length∧l.length+zc l.length≤140737488355328
def aA.L0.F:aA.L0.D→aA.L0.Y:=fun(b,m,l)=>(l.length+zc l.length,l++List.replicate (zc l.length) 0)
def aA.L1.aC:aA.L1.D→Prop:=fun(m,n,kv,l)=>0≤n∧n < 18446744073709551616∧∃j:Nat,j≤8∧kv=56 - 8*(j:Int)∧m=l.length∧l.length≤140737488355320+j
def aA.L1.F:aA.L1.D→aA.L1.Y:=fun(m,n,kv,l)=>(l.length+(fL n).length - (7 - (kv / 8)).toNat,l++(fL n).drop (7 - (kv / 8)).toNat)
def aA.aC:aA.D→Prop:=fun b=>b.length≤140737488350000
def aA.F:aA.D→aA.Y:=fun b=>pad b
noncomputable def aA.G:dQ:=eR (P:=Tryz.prog) []
noncomputable def aA.L0.E:=bN.ct aA.L0.st aA.L0.aC aA.L0.add aA.L0.F aA.L0.out
noncomputable def aA.L0.call:aA.L0.D→Option aA.L0.X:=dh aA.L0.E aA.L0.st
noncomputable def aA.L1.E:=bN.ct aA.L1.st aA.L1.aC aA.L1.add aA.L1.F aA.L1.out
noncomputable def aA.L1.call:aA.L1.D→Option aA.L1.X:=dh aA.L1.E aA.L1.st
noncomputable def aA.an:eC:= {bI:=[6],loops:=jJ [(3,{bm:=[0,3],sites:=[6],ix:=[⟨3,[],6,25⟩]}),(7,{bm:=[3,4,5],sites:=[6],ix:=[⟨3,[],6,25⟩]})],outs:=jI [(3,{bm:=[0,3],sites:=[6]},{bm:=[2]}),(7,{bm:=[3],sites:=[6]},{bm:=[2]})],fG:=kh [(3,aA.L0.E),(7,aA.L1.E)],res:=[some tB]}
noncomputable def aA.A:= @cH Tryz.prog aA.G aA.an 0 Tryz.f154 _ aA.st
abbrev aA.Ok:=cI @aA.A aA.aC aA.add aA.F aA.out
noncomputable def aA.L0.R:= @bX Tryz.prog aA.G aA.an 0 Tryz.f154 0 _ aA.L0.st
abbrev aA.L0.Ok:=eA Tryz.prog aA.G aA.an 0 Tryz.f154 0 aA.L0.st aA.L0.aC aA.L0.add aA.L0.F aA.L0.out
noncomputable def aA.L1.R:= @bX Tryz.prog aA.G aA.an 0 Tryz.f154 1 _ aA.L1.st
abbrev aA.L1.Ok:=eA Tryz.prog aA.G aA.an 0 Tryz.f154 1 aA.L1.st aA.L1.aC aA.L1.add aA.L1.F aA.L1.out
theorem aA.L0.run:bD aA.L0.call aA.L0.aC aA.L0.add aA.L0.F:=eG (eE [.d tB,.n,.d tB] fun _=>by kernel_rfl)
theorem aA.L0.aG:fR @aA.L0.R aA.L0.st aA.L0.aC aA.L0.add aA.L0.F aA.L0.bq aA.L0.Ok:=fU
theorem aA.L0.step{R:Type}(b_2:Bs)(outL:Nat)(n6:(List Int))(kn:AS→Option R)(kx:Exit→AS→Option R):aA.L0.R (b_2,outL,n6) kn kx=
  aK ((jn (iX ((outL:Nat):Int) (64:Int)) (56:Int))) (
   aK (decide (outL≤(List.length n6))) (
   aK (dj (outL+1) 1) (
   kn (aA.L0.st (b_2,(outL+1),((List.take outL n6)++ [(0:Int)])))) none) none) (
   kx (aA.L0.bq (b_2,(outL,n6))).1 (aA.L0.bq (b_2,(outL,n6))).2):=by kernel_rfl
theorem aA.L1.run:bD aA.L1.call aA.L1.aC aA.L1.add aA.L1.F:=eG (eE [.n,.d tu,.d ti,.d tB] fun _=>by kernel_rfl)
theorem aA.L1.aG:fR @aA.L1.R aA.L1.st aA.L1.aC aA.L1.add aA.L1.F aA.L1.bq aA.L1.Ok:=fU
theorem aA.L1.step{R:Type}(outL_2:Nat)(n:Int)(kv:Int)(n6_2:(List Int))(kn:AS→Option R)(kx:Exit→AS→Option R):aA.L1.R (outL_2,n,kv,n6_2) kn kx=
  aK ((mO kv (0:Int))) (
   aK (gI kv) (
   aK (decide (outL_2≤(List.length n6_2))) (
   aK (dj (outL_2+1) 1) (
   kn (aA.L1.st ((outL_2+1),n,(de .i64 kv (8:Int)),((List.take outL_2 n6_2)++ [(dD .u8 (bM .u64 n kv))])))) none) none) none) (
   kx (aA.L1.bq (outL_2,n6_2)).1 (aA.L1.bq (outL_2,n6_2)).2):=by kernel_rfl
theorem aA.eq{R:Type}(b:Bs)(k:aZ→Option R):aA.A b k=
 aK (dj (0+(List.length b)) 1) (
 aK (decide ((0+(List.length b))≤(List.length ((List.take 0 (List.replicate 0 (0:Int)))++b)))) (
 aK (dj ((0+(List.length b))+1) 1) (
 aj (aA.L0.call (b,((0+(List.length b))+1),((List.take (0+(List.length b)) ((List.take 0 (List.replicate 0 (0:Int)))++b))++ [(128:Int)]))) fun x1=>
 aj (aA.L1.call (x1.2.1,(eS .u64 (8:Int) (dD .u64 (((List.length x1.1):Nat):Int))),(56:Int),x1.2.2)) fun x2=>
 aK (decide (0=0∧(0+x2.1)≤(List.length x2.2))) (
 k (aA.out (cut x2.2 0 x2.1))) none) none) none) none:=by kernel_rfl
theorem aA.L0.ok:aA.L0.Ok:=by
 refine aA.L0.aG (fun(b,m,l)=>zc l.length) ?_
 rintro⟨b,m,l⟩ ⟨rfl,hl⟩
 have hl:l.length+zc l.length≤140737488355328:=hl
 by_cases h:l.length%64=56
 ·right
  intro R kn kx
  have hz:zc l.length=0:=by unfold zc;omega
  rw[aA.L0.step]
  simp(disch:=omega) only[↓S1,↓if_pos,↓if_neg,if_pos,if_neg,if_true,if_false,S2,aA.L0.add,aA.L0.F,hz,Nat.add_zero,List.replicate_zero,List.append_nil]
 ·left
  have hz:zc l.length=zc (l.length+1)+1:=by unfold zc;omega
  refine⟨(b,l.length+1,l++ [0]),⟨by simp,by simp only[List.length_append,List.length_cons,List.length_nil,Nat.zero_add];omega⟩,by simp only[List.length_append,List.length_cons,List.length_nil,Nat.zero_add];omega,?_,fun kn kx=> ?_⟩
  ·simp only[aA.L0.add,aA.L0.F,List.length_append,List.length_cons,List.length_nil,Nat.zero_add,hz,List.append_assoc,List.cons_append,List.nil_append,List.replicate_succ]
   rw[show l.length+1+zc (l.length+1)=l.length+(zc (l.length+1)+1) by omega]
  ·rw[aA.L0.step]
   simp(disch:=omega) only[↓S1,↓if_pos,↓if_neg,if_pos,if_neg,if_true,if_false,S2,List.take_length]
theorem Ak(n:Int)(j:Nat)(h:j < 8):(fL n).drop j=n / 2^(56 - 8*j)%256::(fL n).drop (j+1):=by
 rcases(by omega:j=0∨j=1∨j=2∨j=3∨j=4∨j=5∨j=6∨j=7) with rfl | rfl | rfl | rfl | rfl | rfl | rfl | rfl <;> simp[fL]
theorem xc(n:Int)(k:Nat)(h1:k≤64):dD .u8 (bM .u64 n (k:Int))=n / 2^k%256:=by
 rw[rM,fH,bM]
 have e:min (k:Int).toNat IntKind.u64.bits=k:=by simp only[IntKind.bits];omega
 rw[e,Int.fdiv_eq_ediv_of_nonneg _ (Int.le_of_lt (Int.pow_pos (by omega)))]
 rfl
theorem aA.L1.ok:aA.L1.Ok:=by
 refine aA.L1.aG (fun(m,n,kv,l)=>(kv+8).toNat) ?_
 rintro⟨m,n,kv,l⟩ ⟨h1,h2,j,hj,rfl,rfl,hl⟩
 have hl:l.length≤140737488355320+j:=hl
 have e1:(7 - ((56 - 8*(j:Int)) / 8)).toNat=j:=by omega
 by_cases h:j < 8
 ·left
  have e2:de .i64 (56 - 8*(j:Int)) 8=56 - 8*((j+1:Nat):Int):=by rw[fx (by omega) (by omega)];omega
  have e3:(7 - ((56 - 8*((j+1:Nat):Int)) / 8)).toNat=j+1:=by omega
  have e4:(56 - 8*(j:Int))=((56 - 8*j:Nat):Int):=by omega
  refine⟨(l.length+1,n,56 - 8*((j+1:Nat):Int),l++ [n / 2^(56 - 8*j)%256]),⟨h1,h2,j+1,by omega,rfl,by simp,by simp only[List.length_append,List.length_cons,List.length_nil];omega⟩,by simp only;omega,?_,fun kn kx=> ?_⟩
  ·simp only[aA.L1.add,aA.L1.F,e1,e3,Ak n j h,List.length_append,List.length_cons,List.length_nil,List.append_assoc,List.cons_append,List.nil_append,bO]
   rw[show l.length+(0+1)+8 - (j+1)=l.length+8 - j by omega]
  ·rw[aA.L1.step,e2,e4,xc n _ (by omega)]
   simp(disch:=omega) only[↓S1,↓if_pos,↓if_neg,if_pos,if_neg,if_true,if_false,S2,List.take_length]
 ·right
  obtain rfl:j=8:=by omega
  intro R kn kx
  rw[aA.L1.step]
  simp(disch:=omega) only[↓S1,↓if_pos,↓if_neg,if_pos,if_neg,if_true,if_false,S2,aA.L1.add,aA.L1.F,e1]
  simp[fL]
theorem aA.ok:aA.Ok:=by
 intro b hb
 have hb:b.length≤140737488350000:=hb
 have hz:zc (b++ [128]).length=kO b.length:=by
  simp only[List.length_append,List.length_cons,List.length_nil,zc,kO]
  omega
 have hzb:kO b.length < 64:=by unfold kO;omega
 have p1:aA.L0.aC (b,b.length+1,b++ [128]):=⟨by simp,by rw[hz];simp only[List.length_append,List.length_cons,List.length_nil] <;> omega⟩
 have e1:dD .u64 ((b.length:Nat):Int)=((b.length:Nat):Int):=by rw[uD,fH];omega
 have e2:eS .u64 8 ((b.length:Nat):Int)=8*(b.length:Int):=by
  unfold eS;rw[wrap_u64,fH];omega
 have e3:List.take b.length b=b:=List.take_length
 rw[aA.eq]
 simp only[List.replicate_zero,List.take_nil,List.nil_append,Nat.zero_add,e1,e2,e3]
 simp(disch:=omega) only[↓S1,↓if_pos,↓if_neg,if_pos,if_neg,if_true,if_false,S2,aA.L0.run p1,aA.L0.add,aA.L0.F,hz]
 have p2:aA.L1.aC ((b++ [128]).length+kO b.length,8*(b.length:Int),56,b++ [128]++List.replicate (kO b.length) 0):=by
  refine⟨by omega,by omega,0,by omega,rfl,by simp only[List.length_append,List.length_cons,List.length_nil,List.length_replicate] <;> omega,?_⟩
  simp only[List.length_append,List.length_cons,List.length_nil,List.length_replicate]
  omega
 simp(disch:=omega) only[↓S1,↓if_pos,↓if_neg,if_pos,if_neg,if_true,if_false,S2,e1,e2,aA.L1.run p2,aA.L1.add,aA.L1.F]
 have e5:(7 - ((56:Int) / 8)).toNat=0:=by decide
 rw[e5,List.drop_zero]
 have e6:(b++ [128]++List.replicate (kO b.length) 0).length+(fL (8*(b.length:Int))).length - 0=(b++ [128]++List.replicate (kO b.length) 0++fL (8*(b.length:Int))).length:=by rw[@List.length_append _ _ (fL _)];omega
 rw[e6,if_pos (Nat.le_refl _)]
 unfold cut
 rw[List.drop_zero,List.take_length]
 simp only[aA.add,aA.F,pad,List.append_assoc,List.cons_append,List.nil_append]
noncomputable def aA.E:=Entry.ct [some tB] aA.st aA.aC aA.add aA.F aA.out
noncomputable def aA.call:aA.D→Option aA.X:=bH aA.E aA.st
theorem aA.run:bD aA.call aA.aC aA.add aA.F:=cO (cM [.d tB] fun _=>by kernel_rfl)
noncomputable def aA.sg:SG Tryz.prog:=⟨154,aV,aA.E,.fn 2 (by kernel_rfl) aA.ok (And.intro (.ct aA.L0.ok (by kernel_rfl)) (And.intro (.ct aA.L1.ok (by kernel_rfl)) trivial))⟩
set_option synthInstance.maxSize 5000
abbrev aJ.L0.D:=Bs×Nat×Int×(List Int)
def aJ.L0.st:aJ.L0.D→AS:=fun(b_2,wL,i,n49)=>⟨([.d tB b_2,.undef,.undef,.cf (.new 49 0) 0 [] 0 0 wL,.d ti i]++a9 94 []),[],(bJ 49 ([[.obj 0 false (.vec 127 (.int .u32) n49)]]++bJ 49 []))⟩
abbrev aJ.L0.Y0:=Nat×(List Int)
abbrev aJ.L0.X0:=Nat×(List Int)
def aJ.L0.bq:aJ.L0.X0→Exit×AS:=fun x=>(.exit 0,⟨([.undef,.undef,.undef,.cf (.new 49 0) 0 [] 0 0 x.1]++a9 95 []),[],(bJ 49 ([[.obj 0 false (.vec 127 (.int .u32) x.2)]]++bJ 49 []))⟩)
abbrev aJ.L0.X:=aJ.L0.X0
abbrev aJ.L0.Y:=aJ.L0.Y0
def aJ.L0.out:aJ.L0.X→Out (Exit×AS):=fun x=> .ok (aJ.L0.bq x)
def aJ.L0.add:aJ.L0.D→aJ.L0.Y→aJ.L0.X:=fun(b_2,wL,i,n49) y=>y
abbrev aJ.L1.D:=Nat×Int×(List Int)
def aJ.L1.st:aJ.L1.D→AS:=fun(wL_2,i_2,n49_2)=>⟨([.undef,.undef,.undef,.cf (.new 49 0) 0 [] 0 0 wL_2,.undef,.d ti i_2]++a9 93 []),[],(bJ 49 ([[.obj 0 false (.vec 127 (.int .u32) n49_2)]]++bJ 49 []))⟩
abbrev aJ.L1.Y0:=Nat×(List Int)
abbrev aJ.L1.X0:=Nat×(List Int)
def aJ.L1.bq:aJ.L1.X0→Exit×AS:=fun x=>(.exit 2,⟨([.undef,.undef,.undef,.cf (.new 49 0) 0 [] 0 0 x.1]++a9 95 []),[],(bJ 49 ([[.obj 0 false (.vec 127 (.int .u32) x.2)]]++bJ 49 []))⟩)
abbrev aJ.L1.X:=aJ.L1.X0
abbrev aJ.L1.Y:=aJ.L1.Y0
def aJ.L1.out:aJ.L1.X→Out (Exit×AS):=fun x=> .ok (aJ.L1.bq x)
def aJ.L1.add:aJ.L1.D→aJ.L1.Y→aJ.L1.X:=fun(wL_2,i_2,n49_2) y=>y
abbrev aJ.D:=Bs
def aJ.st:aJ.D→SA:=fun b=>([.d tB b],[])
abbrev aJ.Y:=(List Int)
abbrev aJ.X:=(List Int)
def aJ.out:aJ.X→aZ:=fun x=>⟨.d (.slice (.int .u32)) x,[],[]⟩
def aJ.add:aJ.D→aJ.Y→aJ.X:=fun b y=>y
def aJ.L0.aC:aJ.L0.D→Prop:=fun(b,m,i,l)=>64≤b.length∧∃k:Nat,k≤16∧i=k∧k=m∧l=wl ((words b).take k)
def aJ.L0.F:aJ.L0.D→aJ.L0.Y:=fun(b,m,i,l)=>(16,wl (words b))
def aJ.L1.aC:aJ.L1.D→Prop:=fun(m,i,l)=>∃ws:List W,16≤ws.length∧ws.length≤64∧l=wl ws∧m=ws.length∧i=(ws.length:Nat)
def aJ.L1.F:aJ.L1.D→aJ.L1.Y:=fun(m,i,l)=>(64,wl (BI (Bx l) (64 - l.length)))
def aJ.aC:aJ.D→Prop:=fun b=>64≤b.length
def aJ.F:aJ.D→aJ.Y:=fun b=>wl (sched b)
noncomputable def aJ.G:dQ:=eR (P:=Tryz.prog) [cY.sg]
noncomputable def aJ.L0.E:=bN.ct aJ.L0.st aJ.L0.aC aJ.L0.add aJ.L0.F aJ.L0.out
noncomputable def aJ.L0.call:aJ.L0.D→Option aJ.L0.X:=dh aJ.L0.E aJ.L0.st
noncomputable def aJ.L1.E:=bN.ct aJ.L1.st aJ.L1.aC aJ.L1.add aJ.L1.F aJ.L1.out
noncomputable def aJ.L1.call:aJ.L1.D→Option aJ.L1.X:=dh aJ.L1.E aJ.L1.st
noncomputable def aJ.an:eC:= {loops:=jJ [(3,{bm:=[0,3,4],sites:=[49],ix:=[⟨3,[],49,162⟩]}),(7,{bm:=[3,5],sites:=[49],ix:=[⟨3,[],49,162⟩]})],outs:=jI [(3,{bm:=[3],sites:=[49]},{bm:=[2]}),(7,{bm:=[3],sites:=[49]},{bm:=[2]})],fG:=kh [(3,aJ.L0.E),(7,aJ.L1.E)],res:=[some (.slice (.int .u32))]}
noncomputable def aJ.A:= @cH Tryz.prog aJ.G aJ.an 0 Tryz.f171 _ aJ.st
abbrev aJ.Ok:=cI @aJ.A aJ.aC aJ.add aJ.F aJ.out
noncomputable def aJ.L0.R:= @bX Tryz.prog aJ.G aJ.an 0 Tryz.f171 0 _ aJ.L0.st
abbrev aJ.L0.Ok:=eA Tryz.prog aJ.G aJ.an 0 Tryz.f171 0 aJ.L0.st aJ.L0.aC aJ.L0.add aJ.L0.F aJ.L0.out
noncomputable def aJ.L1.R:= @bX Tryz.prog aJ.G aJ.an 0 Tryz.f171 1 _ aJ.L1.st
abbrev aJ.L1.Ok:=eA Tryz.prog aJ.G aJ.an 0 Tryz.f171 1 aJ.L1.st aJ.L1.aC aJ.L1.add aJ.L1.F aJ.L1.out
theorem aJ.L0.run:bD aJ.L0.call aJ.L0.aC aJ.L0.add aJ.L0.F:=eG (eE [.d tB,.n,.d ti,.d (.slice (.int .u32))] fun _=>by kernel_rfl)
theorem aJ.L0.aG:fR @aJ.L0.R aJ.L0.st aJ.L0.aC aJ.L0.add aJ.L0.F aJ.L0.bq aJ.L0.Ok:=fU
theorem aJ.L0.step{R:Type}(b_2:Bs)(wL:Nat)(i:Int)(n49:(List Int))(kn:AS→Option R)(kx:Exit→AS→Option R):aJ.L0.R (b_2,wL,i,n49) kn kx=
  aK ((gb i (16:Int))) (
   aK (eh (eS .i64 (4:Int) i) (((List.length b_2):Nat):Int)) (
   aK (eh (bK .i64 (eS .i64 (4:Int) i) (1:Int)) (((List.length b_2):Nat):Int)) (
   aK (eh (bK .i64 (eS .i64 (4:Int) i) (2:Int)) (((List.length b_2):Nat):Int)) (
   aK (eh (bK .i64 (eS .i64 (4:Int) i) (3:Int)) (((List.length b_2):Nat):Int)) (
   aK (decide (wL≤(List.length n49))) (
   aK (dj (wL+1) 4) (
   kn (aJ.L0.st (b_2,(wL+1),(bK .i64 i (1:Int)),((List.take wL n49)++ [(cn .or .u32 (cn .or .u32 (cn .or .u32 (gq .u32 (dD .u32 (nth tb b_2 (Int.toNat (eS .i64 (4:Int) i)))) (24:Int)) (gq .u32 (dD .u32 (nth tb b_2 (Int.toNat (bK .i64 (eS .i64 (4:Int) i) (1:Int))))) (16:Int))) (gq .u32 (dD .u32 (nth tb b_2 (Int.toNat (bK .i64 (eS .i64 (4:Int) i) (2:Int))))) (8:Int))) (dD .u32 (nth tb b_2 (Int.toNat (bK .i64 (eS .i64 (4:Int) i) (3:Int))))))])))) none) none) none) none) none) none) (
   kx (aJ.L0.bq (wL,n49)).1 (aJ.L0.bq (wL,n49)).2):=by kernel_rfl
theorem aJ.L1.run:bD aJ.L1.call aJ.L1.aC aJ.L1.add aJ.L1.F:=eG (eE [.n,.d ti,.d (.slice (.int .u32))] fun _=>by kernel_rfl)
theorem aJ.L1.aG:fR @aJ.L1.R aJ.L1.st aJ.L1.aC aJ.L1.add aJ.L1.F aJ.L1.bq aJ.L1.Ok:=fU
theorem aJ.L1.step{R:Type}(wL_2:Nat)(i_2:Int)(n49_2:(List Int))(kn:AS→Option R)(kx:Exit→AS→Option R):aJ.L1.R (wL_2,i_2,n49_2) kn kx=
  aK ((gb i_2 (64:Int))) (
   aK (eh (de .i64 i_2 (15:Int)) ((wL_2:Nat):Int)) (
   aK (decide ((0+(Int.toNat (de .i64 i_2 (15:Int)))) < (List.length n49_2))) (
   aK (decide ((((0+(Int.toNat (de .i64 i_2 (15:Int))))*1)+0)=(0+((Int.toNat (de .i64 i_2 (15:Int)))*1)))) (
   aK (eh (de .i64 i_2 (2:Int)) ((wL_2:Nat):Int)) (
   aK (decide ((0+(Int.toNat (de .i64 i_2 (2:Int)))) < (List.length n49_2))) (
   aK (decide ((((0+(Int.toNat (de .i64 i_2 (2:Int))))*1)+0)=(0+((Int.toNat (de .i64 i_2 (2:Int)))*1)))) (
   aj (cY.call ((nth (.int .u32) n49_2 (0+(Int.toNat (de .i64 i_2 (15:Int))))),(7:Int))) fun x1=>
   aj (cY.call ((nth (.int .u32) n49_2 (0+(Int.toNat (de .i64 i_2 (15:Int))))),(18:Int))) fun x2=>
   aj (cY.call ((nth (.int .u32) n49_2 (0+(Int.toNat (de .i64 i_2 (2:Int))))),(17:Int))) fun x3=>
   aj (cY.call ((nth (.int .u32) n49_2 (0+(Int.toNat (de .i64 i_2 (2:Int))))),(19:Int))) fun x4=>
   aK (eh (de .i64 i_2 (16:Int)) ((wL_2:Nat):Int)) (
   aK (decide ((0+(Int.toNat (de .i64 i_2 (16:Int)))) < (List.length n49_2))) (
   aK (decide ((((0+(Int.toNat (de .i64 i_2 (16:Int))))*1)+0)=(0+((Int.toNat (de .i64 i_2 (16:Int)))*1)))) (
   aK (eh (de .i64 i_2 (7:Int)) ((wL_2:Nat):Int)) (
   aK (decide ((0+(Int.toNat (de .i64 i_2 (7:Int)))) < (List.length n49_2))) (
   aK (decide ((((0+(Int.toNat (de .i64 i_2 (7:Int))))*1)+0)=(0+((Int.toNat (de .i64 i_2 (7:Int)))*1)))) (
   aK (decide (wL_2≤(List.length n49_2))) (
   aK (dj (wL_2+1) 4) (
   kn (aJ.L1.st ((wL_2+1),(bK .i64 i_2 (1:Int)),((List.take wL_2 n49_2)++ [(bK .u32 (bK .u32 (bK .u32 (nth (.int .u32) n49_2 (0+(Int.toNat (de .i64 i_2 (16:Int))))) (cn .xor .u32 (cn .xor .u32 x1 x2) (bM .u32 (nth (.int .u32) n49_2 (0+(Int.toNat (de .i64 i_2 (15:Int))))) (3:Int)))) (nth (.int .u32) n49_2 (0+(Int.toNat (de .i64 i_2 (7:Int)))))) (cn .xor .u32 (cn .xor .u32 x3 x4) (bM .u32 (nth (.int .u32) n49_2 (0+(Int.toNat (de .i64 i_2 (2:Int))))) (10:Int))))])))) none) none) none) none) none) none) none) none) none) none) none) none) none) none) (
   kx (aJ.L1.bq (wL_2,n49_2)).1 (aJ.L1.bq (wL_2,n49_2)).2):=by kernel_rfl
theorem aJ.eq{R:Type}(b:Bs)(k:aZ→Option R):aJ.A b k=
 aj (aJ.L0.call (b,0,(0:Int),([]:List Int))) fun x1=>
 aj (aJ.L1.call (x1.1,(16:Int),x1.2)) fun x10=>
 aK (decide (0=0∧(0+x10.1)≤(List.length x10.2))) (
 k (aJ.out (cut x10.2 0 x10.1))) none:=by kernel_rfl
theorem kD(ws:List W):(wl ws).length=ws.length:=by simp[wl]
theorem y6(m:List W):∀n,BI (ext m) n=BI m (n+1)
 | 0=>rfl
 |n+1=>by rw[BI,y6 m n];rfl
theorem CP(b:List Int)(k:Nat)(h:4*k+3 < b.length):be b k=DD (nth (.int .u8) b (4*k)) (nth (.int .u8) b (4*k+1)) (nth (.int .u8) b (4*k+2)) (nth (.int .u8) b (4*k+3)):=rfl
theorem aJ.L0.ok:aJ.L0.Ok:=by
 refine aJ.L0.aG (fun(b,m,i,l)=>16 - m) ?_
 rintro⟨b,m,i,l⟩ ⟨hb,k,hk,rfl,rfl,rfl⟩
 have hb:64≤b.length:=hb
 have hl:(wl ((words b).take k)).length=k:=by rw[kD,List.length_take,ed];omega
 by_cases h:k < 16
 ·left
  refine⟨(b,k+1,((k+1:Nat):Int),wl ((words b).take (k+1))),⟨hb,k+1,by omega,rfl,rfl,rfl⟩,by simp only;omega,rfl,fun kn kx=> ?_⟩
  rw[aJ.L0.step]
  simp(disch:=omega) only[↓S1,↓if_pos,↓if_neg,if_pos,if_neg,if_true,if_false,S2,hl,List.take_of_length_le (Nat.le_of_eq hl)]
  rw[List.take_succ_eq_append_getElem (by rw[ed];exact h)]
  simp only[yB,o9,hH,wl,List.map_append,List.map_cons,List.map_nil]
  have e:(words b)[k]'(by rw[ed];exact h)=be b k:=by simp[words]
  rw[e,CP b k (by omega)]
  rfl
 ·right
  obtain rfl:k=16:=by omega
  intro R kn kx
  rw[aJ.L0.step]
  simp(disch:=omega) only[↓S1,↓if_pos,↓if_neg,if_pos,if_neg,if_true,if_false,S2,aJ.L0.add,aJ.L0.F]
  rw[List.take_of_length_le (by rw[ed];omega)]
theorem aJ.L1.ok:aJ.L1.Ok:=by
 refine aJ.L1.aG (fun(m,i,l)=>64 - m) ?_
 rintro⟨m,i,l⟩ ⟨ws,h1,h2,rfl,rfl,rfl⟩
 have hl:=kD ws
 by_cases h:ws.length < 64
 ·left
  refine⟨(ws.length+1,((ws.length+1:Nat):Int),wl (ext ws)),⟨ext ws,by rw[jt];omega,by rw[jt];omega,rfl,by rw[jt],by rw[jt]⟩,by simp only;omega,?_,fun kn kx=> ?_⟩
  ·simp only[aJ.L1.add,aJ.L1.F,mv,kD,jt]
   rw[y6,show 64 - (ws.length+1)+1=64 - ws.length by omega]
  ·rw[aJ.L1.step]
   simp(disch:=omega) only[↓S1,↓if_pos,↓if_neg,if_pos,if_neg,if_true,if_false,S2,hl,Nat.zero_add,Nat.mul_one,Nat.add_zero,qt ws _ (by omega:ws.length - 15 < ws.length),qt ws _ (by omega:ws.length - 2 < ws.length),qt ws _ (by omega:ws.length - 16 < ws.length),qt ws _ (by omega:ws.length - 7 < ws.length),cY.at,hH,ni,lP,List.take_of_length_le (Nat.le_of_eq hl)]
   unfold ext wl
   rw[List.map_append]
   rfl
 ·right
  have h64:ws.length=64:=by omega
  intro R kn kx
  rw[aJ.L1.step]
  simp(disch:=omega) only[↓S1,↓if_pos,↓if_neg,if_pos,if_neg,if_true,if_false,S2,aJ.L1.add,aJ.L1.F,hl,h64,mv,Nat.sub_self]
  rfl
theorem aJ.ok:aJ.Ok:=by
 intro b hb
 have p1:aJ.L0.aC (b,0,0,[]):=⟨hb,0,by omega,rfl,rfl,rfl⟩
 have p2:aJ.L1.aC (16,16,wl (words b)):=⟨words b,by rw[ed];omega,by rw[ed];omega,rfl,by rw[ed],by rw[ed];rfl⟩
 have hs:(sched b).length=64:=by unfold sched;rw[kW,ed]
 rw[aJ.eq]
 simp(disch:=omega) only[↓S1,↓if_pos,↓if_neg,if_pos,if_neg,if_true,if_false,S2,aJ.L0.run p1,aJ.L0.add,aJ.L0.F,aJ.L1.run p2,aJ.L1.add,aJ.L1.F,mv,kD,ed,Nat.zero_add,Nat.reduceSub]
 have e:BI (words b) 48=sched b:=rfl
 rw[e,hs,if_pos (Nat.le_refl _)]
 unfold cut
 rw[List.drop_zero,List.take_of_length_le (by rw[kD];omega)]
 simp only[aJ.add,aJ.F]
noncomputable def aJ.E:=Entry.ct [some tB] aJ.st aJ.aC aJ.add aJ.F aJ.out
noncomputable def aJ.call:aJ.D→Option aJ.X:=bH aJ.E aJ.st
theorem aJ.run:bD aJ.call aJ.aC aJ.add aJ.F:=cO (cM [.d tB] fun _=>by kernel_rfl)
noncomputable def aJ.sg:SG Tryz.prog:=⟨171,aV,aJ.E,.fn 2 (by kernel_rfl) aJ.ok (And.intro (.ct aJ.L0.ok (by kernel_rfl)) (And.intro (.ct aJ.L1.ok (by kernel_rfl)) trivial))⟩
set_option synthInstance.maxSize 5000
abbrev aI.L0.D:=(List Int)×(List Int)×(List Int)×Nat×Int×(List Int)
def aI.L0.st:aI.L0.D→AS:=fun(h_2,wv,kv,vL,i,n18)=>⟨([.d (.slice (.int .u32)) h_2]++a9 4 ([.d (.slice (.int .u32)) wv,.d (.slice (.int .u32)) kv,.cf (.new 18 0) 0 [] 0 0 vL,.d ti i]++a9 146 [])),[],(bJ 18 ([[.obj 0 false (.vec 127 (.int .u32) n18)]]++bJ 136 []))⟩
abbrev aI.L0.Y0:=Nat×(List Int)
abbrev aI.L0.X0:=((List Int))×(Nat×(List Int))
def aI.L0.bq:aI.L0.X0→Exit×AS:=fun x=>(.exit 0,⟨([.d (.slice (.int .u32)) x.1]++a9 6 ([.cf (.new 18 0) 0 [] 0 0 x.2.1]++a9 147 [])),[],(bJ 18 ([[.obj 0 false (.vec 127 (.int .u32) x.2.2)]]++bJ 136 []))⟩)
abbrev aI.L0.X:=aI.L0.X0
abbrev aI.L0.Y:=aI.L0.Y0
def aI.L0.out:aI.L0.X→Out (Exit×AS):=fun x=> .ok (aI.L0.bq x)
def aI.L0.add:aI.L0.D→aI.L0.Y→aI.L0.X:=fun(h_2,wv,kv,vL,i,n18) y=>(h_2,y)
abbrev aI.L1.D:=(List Int)×Nat×Int×(List Int)
def aI.L1.st:aI.L1.D→AS:=fun(h_3,vL_2,i_2,n18_2)=>⟨([.d (.slice (.int .u32)) h_3]++a9 6 ([.cf (.new 18 0) 0 [] 0 0 vL_2]++a9 6 ([.d ti i_2]++a9 140 []))),[],(bJ 18 ([[.obj 0 false (.vec 127 (.int .u32) n18_2)]]++bJ 136 []))⟩
abbrev aI.L1.Y0:=(List Int)
abbrev aI.L1.X0:=(Nat)×((List Int))
def aI.L1.bq:aI.L1.X0→Exit×AS:=fun x=>(.exit 2,⟨(a9 7 ([.cf (.new 18 0) 0 [] 0 0 x.1]++a9 147 [])),[],(bJ 18 ([[.obj 0 false (.vec 127 (.int .u32) x.2)]]++bJ 136 []))⟩)
abbrev aI.L1.X:=aI.L1.X0
abbrev aI.L1.Y:=aI.L1.Y0
def aI.L1.out:aI.L1.X→Out (Exit×AS):=fun x=> .ok (aI.L1.bq x)
def aI.L1.add:aI.L1.D→aI.L1.Y→aI.L1.X:=fun(h_3,vL_2,i_2,n18_2) y=>(vL_2,y)
abbrev aI.D:=(List Int)×Bs
def aI.st:aI.D→SA:=fun(h,b)=>([.d (.slice (.int .u32)) h,.d tB b],[])
abbrev aI.Y:=(List Int)
abbrev aI.X:=(List Int)
def aI.out:aI.X→aZ:=fun x=>⟨.d (.slice (.int .u32)) x,[],[]⟩
def aI.add:aI.D→aI.Y→aI.X:=fun(h,b) y=>y
def aI.L0.aC:aI.L0.D→Prop:=fun(h,wv,kv,m,i,l)=>∃(s:St) (ws:List W) (k:Nat),h=s.l∧wv=wl ws∧ws.length=64∧k≤64∧i=k∧kv=qa∧m=8∧l=(rounds ws s k).l
def aI.L0.F:aI.L0.D→aI.L0.Y:=fun(h,wv,kv,m,i,l)=>(8,(rounds (Bx wv) (u6 h) 64).l)
def aI.L1.aC:aI.L1.D→Prop:=fun(h,m,i,l)=>h.length=8∧l.length=8∧m=8∧∃k:Nat,k≤8∧i=k
def aI.L1.F:aI.L1.D→aI.L1.Y:=fun(h,m,i,l)=>from_ (fun i x=>bK .u32 x (nth (.int .u32) h i)) i.toNat l
def aI.aC:aI.D→Prop:=fun(h,b)=>(∃s:St,h=s.l)∧64≤b.length
def aI.F:aI.D→aI.Y:=fun(h,b)=>(qd (u6 h) b).l
noncomputable def aI.G:dQ:=eR (P:=Tryz.prog) [aJ.sg,dX.sg,cY.sg]
noncomputable def aI.L0.E:=bN.ct aI.L0.st aI.L0.aC aI.L0.add aI.L0.F aI.L0.out
noncomputable def aI.L0.call:aI.L0.D→Option aI.L0.X:=dh aI.L0.E aI.L0.st
noncomputable def aI.L1.E:=bN.ct aI.L1.st aI.L1.aC aI.L1.add aI.L1.F aI.L1.out
noncomputable def aI.L1.call:aI.L1.D→Option aI.L1.X:=dh aI.L1.E aI.L1.st
noncomputable def aI.an:eC:= {bI:=[18,137],loops:=jJ [(5,{bm:=[0,5,6,7,8],sites:=[18,137],ix:=[⟨7,[],18,0⟩]}),(14,{bm:=[0,7,14],sites:=[18]})],outs:=jI [(5,{bm:=[0,7],sites:=[18]},{bm:=[4]}),(14,{bm:=[7],sites:=[18]},{bm:=[4]})],fG:=kh [(5,aI.L0.E),(14,aI.L1.E)],res:=[some (.slice (.int .u32))]}
noncomputable def aI.A:= @cH Tryz.prog aI.G aI.an 0 Tryz.f156 _ aI.st
abbrev aI.Ok:=cI @aI.A aI.aC aI.add aI.F aI.out
noncomputable def aI.L0.R:= @bX Tryz.prog aI.G aI.an 0 Tryz.f156 0 _ aI.L0.st
abbrev aI.L0.Ok:=eA Tryz.prog aI.G aI.an 0 Tryz.f156 0 aI.L0.st aI.L0.aC aI.L0.add aI.L0.F aI.L0.out
noncomputable def aI.L1.R:= @bX Tryz.prog aI.G aI.an 0 Tryz.f156 1 _ aI.L1.st
abbrev aI.L1.Ok:=eA Tryz.prog aI.G aI.an 0 Tryz.f156 1 aI.L1.st aI.L1.aC aI.L1.add aI.L1.F aI.L1.out
theorem aI.L0.run:bD aI.L0.call aI.L0.aC aI.L0.add aI.L0.F:=eG (eE [.d (.slice (.int .u32)),.d (.slice (.int .u32)),.d (.slice (.int .u32)),.n,.d ti,.d (.slice (.int .u32))] fun _=>by kernel_rfl)
theorem aI.L0.aG:fR @aI.L0.R aI.L0.st aI.L0.aC aI.L0.add aI.L0.F aI.L0.bq aI.L0.Ok:=fU
theorem aI.L0.step{R:Type}(h_2:(List Int))(wv:(List Int))(kv:(List Int))(vL:Nat)(i:Int)(n18:(List Int))(kn:AS→Option R)(kx:Exit→AS→Option R):aI.L0.R (h_2,wv,kv,vL,i,n18) kn kx=
  aK ((gb i (64:Int))) (
   aK (eh (4:Int) ((vL:Nat):Int)) (
   aK (decide (4 < (List.length n18))) (
   aj (cY.call ((nth (.int .u32) n18 4),(6:Int))) fun x1=>
   aK (eh (4:Int) ((vL:Nat):Int)) (
   aK (decide (4 < (List.length n18))) (
   aj (cY.call ((nth (.int .u32) n18 4),(11:Int))) fun x2=>
   aK (eh (4:Int) ((vL:Nat):Int)) (
   aK (decide (4 < (List.length n18))) (
   aj (cY.call ((nth (.int .u32) n18 4),(25:Int))) fun x3=>
   aK (eh (4:Int) ((vL:Nat):Int)) (
   aK (decide (4 < (List.length n18))) (
   aK (eh (5:Int) ((vL:Nat):Int)) (
   aK (decide (5 < (List.length n18))) (
   aK (eh (4:Int) ((vL:Nat):Int)) (
   aK (decide (4 < (List.length n18))) (
   aK (eh (6:Int) ((vL:Nat):Int)) (
   aK (decide (6 < (List.length n18))) (
   aK (eh (7:Int) ((vL:Nat):Int)) (
   aK (decide (7 < (List.length n18))) (
   aK (eh i (((List.length kv):Nat):Int)) (
   aK (eh i (((List.length wv):Nat):Int)) (
   aK (eh (0:Int) ((vL:Nat):Int)) (
   aK (decide (0 < (List.length n18))) (
   aj (cY.call ((nth (.int .u32) n18 0),(2:Int))) fun x4=>
   aK (eh (0:Int) ((vL:Nat):Int)) (
   aK (decide (0 < (List.length n18))) (
   aj (cY.call ((nth (.int .u32) n18 0),(13:Int))) fun x5=>
   aK (eh (0:Int) ((vL:Nat):Int)) (
   aK (decide (0 < (List.length n18))) (
   aj (cY.call ((nth (.int .u32) n18 0),(22:Int))) fun x6=>
   aK (eh (0:Int) ((vL:Nat):Int)) (
   aK (decide (0 < (List.length n18))) (
   aK (eh (1:Int) ((vL:Nat):Int)) (
   aK (decide (1 < (List.length n18))) (
   aK (eh (0:Int) ((vL:Nat):Int)) (
   aK (decide (0 < (List.length n18))) (
   aK (eh (2:Int) ((vL:Nat):Int)) (
   aK (decide (2 < (List.length n18))) (
   aK (eh (1:Int) ((vL:Nat):Int)) (
   aK (decide (1 < (List.length n18))) (
   aK (eh (2:Int) ((vL:Nat):Int)) (
   aK (decide (2 < (List.length n18))) (
   aK (eh (0:Int) ((vL:Nat):Int)) (
   aK (decide (0 < (List.length n18))) (
   aK (eh (1:Int) ((vL:Nat):Int)) (
   aK (decide (1 < (List.length n18))) (
   aK (eh (2:Int) ((vL:Nat):Int)) (
   aK (decide (2 < (List.length n18))) (
   aK (eh (3:Int) ((vL:Nat):Int)) (
   aK (decide (3 < (List.length n18))) (
   aK (eh (4:Int) ((vL:Nat):Int)) (
   aK (decide (4 < (List.length n18))) (
   aK (eh (5:Int) ((vL:Nat):Int)) (
   aK (decide (5 < (List.length n18))) (
   aK (eh (6:Int) ((vL:Nat):Int)) (
   aK (decide (6 < (List.length n18))) (
   kn (aI.L0.st (h_2,wv,kv,8,(bK .i64 i (1:Int)),[(bK .u32 (bK .u32 (bK .u32 (bK .u32 (bK .u32 (bK .u32 (nth (.int .u32) n18 7) (cn .xor .u32 (cn .xor .u32 x1 x2) x3)) (cn .xor .u32 (cn .and .u32 (nth (.int .u32) n18 4) (nth (.int .u32) n18 5)) (cn .and .u32 (B3 .u32 (nth (.int .u32) n18 4)) (nth (.int .u32) n18 6)))) (nth (.int .u32) kv (Int.toNat i))) (nth (.int .u32) wv (Int.toNat i))) (cn .xor .u32 (cn .xor .u32 x4 x5) x6)) (cn .xor .u32 (cn .xor .u32 (cn .and .u32 (nth (.int .u32) n18 0) (nth (.int .u32) n18 1)) (cn .and .u32 (nth (.int .u32) n18 0) (nth (.int .u32) n18 2))) (cn .and .u32 (nth (.int .u32) n18 1) (nth (.int .u32) n18 2)))),(nth (.int .u32) n18 0),(nth (.int .u32) n18 1),(nth (.int .u32) n18 2),(bK .u32 (nth (.int .u32) n18 3) (bK .u32 (bK .u32 (bK .u32 (bK .u32 (nth (.int .u32) n18 7) (cn .xor .u32 (cn .xor .u32 x1 x2) x3)) (cn .xor .u32 (cn .and .u32 (nth (.int .u32) n18 4) (nth (.int .u32) n18 5)) (cn .and .u32 (B3 .u32 (nth (.int .u32) n18 4)) (nth (.int .u32) n18 6)))) (nth (.int .u32) kv (Int.toNat i))) (nth (.int .u32) wv (Int.toNat i)))),(nth (.int .u32) n18 4),(nth (.int .u32) n18 5),(nth (.int .u32) n18 6)]))) none) none) none) none) none) none) none) none) none) none) none) none) none) none) none) none) none) none) none) none) none) none) none) none) none) none) none) none) none) none) none) none) none) none) none) none) none) none) none) none) none) none) none) none) none) none) none) none) none) none) (
   kx (aI.L0.bq (h_2,(vL,n18))).1 (aI.L0.bq (h_2,(vL,n18))).2):=by kernel_rfl
theorem aI.L1.run:bD aI.L1.call aI.L1.aC aI.L1.add aI.L1.F:=eG (eE [.d (.slice (.int .u32)),.n,.d ti,.d (.slice (.int .u32))] fun _=>by kernel_rfl)
theorem aI.L1.aG:fR @aI.L1.R aI.L1.st aI.L1.aC aI.L1.add aI.L1.F aI.L1.bq aI.L1.Ok:=fU
theorem aI.L1.step{R:Type}(h_3:(List Int))(vL_2:Nat)(i_2:Int)(n18_2:(List Int))(kn:AS→Option R)(kx:Exit→AS→Option R):aI.L1.R (h_3,vL_2,i_2,n18_2) kn kx=
  aK ((gb i_2 (8:Int))) (
   aK (eh i_2 ((vL_2:Nat):Int)) (
   aK (decide ((0+(Int.toNat i_2)) < (List.length n18_2))) (
   aK (decide ((((0+(Int.toNat i_2))*1)+0)=(0+((Int.toNat i_2)*1)))) (
   aK (eh i_2 (((List.length h_3):Nat):Int)) (
   aK (eh i_2 ((vL_2:Nat):Int)) (
   aK (decide ((0+(Int.toNat i_2)) < (List.length n18_2))) (
   aK (decide ((((0+(Int.toNat i_2))*1)+0)=(0+((Int.toNat i_2)*1)))) (
   aK (decide ((0+(Int.toNat i_2)) < (List.length n18_2))) (
   kn (aI.L1.st (h_3,vL_2,(bK .i64 i_2 (1:Int)),(List.set n18_2 (0+(Int.toNat i_2)) (bK .u32 (nth (.int .u32) n18_2 (0+(Int.toNat i_2))) (nth (.int .u32) h_3 (Int.toNat i_2))))))) none) none) none) none) none) none) none) none) (
   kx (aI.L1.bq (vL_2,n18_2)).1 (aI.L1.bq (vL_2,n18_2)).2):=by kernel_rfl
theorem aI.eq{R:Type}(h:(List Int))(b:Bs)(k:aZ→Option R):aI.A (h,b) k=
 aj (aJ.call b) fun x1=>
 aj (dX.call ()) fun x2=>
 aK (dj (0+(List.length h)) 4) (
 aj (aI.L0.call (h,x1,x2,(0+(List.length h)),(0:Int),((List.take 0 (List.replicate 0 (0:Int)))++h))) fun x15=>
 aj (aI.L1.call (x15.1,x15.2.1,(0:Int),x15.2.2)) fun x16=>
 aK (decide (0=0∧(0+x16.1)≤(List.length x16.2))) (
 k (aI.out (cut x16.2 0 x16.1))) none) none:=by kernel_rfl
theorem AQ(w:W):B3 .u32 (vw w)=vw (~~~w):=by
 have e:(if IntKind.u32.signed then -1 else IntKind.u32.max:Int)=vw (BitVec.allOnes 32):=rfl
 unfold B3
 rw[e,hH]
 simp only[BitVec.allOnes_xor]
theorem DE(e f g:W):(e &&& f)^^^(~~~e &&& g)=g^^^(e &&& (f^^^g)):=by
 ext i hi
 simp only[BitVec.getElem_xor,BitVec.getElem_and,BitVec.getElem_not]
 cases e[i] <;> cases f[i] <;> cases g[i] <;> rfl
theorem C5(a b c:W):(a &&& b)^^^(a &&& c)^^^(b &&& c)=(a &&& b) ||| (c &&& (a ||| b)):=by
 ext i hi
 simp only[BitVec.getElem_xor,BitVec.getElem_and,BitVec.getElem_or]
 cases a[i] <;> cases b[i] <;> cases c[i] <;> rfl
theorem aI.L0.ok:aI.L0.Ok:=by
 refine aI.L0.aG (fun(h,wv,kv,m,i,l)=>64 - i.toNat) ?_
 rintro⟨h,wv,kv,m,i,l⟩ ⟨s,ws,k,rfl,rfl,hw,hk,rfl,rfl,rfl,rfl⟩
 by_cases hlt:k < 64
 ·left
  refine⟨(s.l,wl ws,qa,8,((k+1:Nat):Int),(rounds ws s (k+1)).l),⟨s,ws,k+1,rfl,rfl,hw,by omega,rfl,rfl,rfl,rfl⟩,by simp only;omega,rfl,fun kn kx=> ?_⟩
  rw[aI.L0.step]
  generalize hv:rounds ws s k=v
  have t1:∀w:W,cY.call (vw w,6)=some (vw (jy w 6)):=fun w=>cY.at w (by omega)
  have t2:∀w:W,cY.call (vw w,11)=some (vw (jy w 11)):=fun w=>cY.at w (by omega)
  have t3:∀w:W,cY.call (vw w,25)=some (vw (jy w 25)):=fun w=>cY.at w (by omega)
  have t4:∀w:W,cY.call (vw w,2)=some (vw (jy w 2)):=fun w=>cY.at w (by omega)
  have t5:∀w:W,cY.call (vw w,13)=some (vw (jy w 13)):=fun w=>cY.at w (by omega)
  have t6:∀w:W,cY.call (vw w,22)=some (vw (jy w 22)):=fun w=>cY.at w (by omega)
  rw[n0,n1,n2,n3,n4,n5,n6,n7,t1,ab,t2,ab,t3,ab,t4,ab,t5,ab,t6,ab]
  simp(disch:=omega) only[↓S1,↓if_pos,↓if_neg,if_pos,if_neg,if_true,if_false,S2,St.vY,qx,kD,hw,vX k hlt,qt ws k (by omega),hH,lP,AQ,DE,C5]
  show kn _=kn (aI.L0.st (s.l,wl ws,qa,8,((k+1:Nat):Int),(EJ (rounds ws s k) (kw k) (ws.getD k 0)).l))
  rw[hv]
  rfl
 ·right
  obtain rfl:k=64:=by omega
  intro R kn kx
  rw[aI.L0.step]
  simp(disch:=omega) only[↓S1,↓if_pos,↓if_neg,if_pos,if_neg,if_true,if_false,S2,aI.L0.add,aI.L0.F,mv,gR]
theorem aI.L1.ok:aI.L1.Ok:=by
 refine aI.L1.aG (fun(h,m,i,l)=>8 - i.toNat) ?_
 rintro⟨h,m,i,l⟩ ⟨hh,hl,rfl,k,hk,rfl⟩
 have hl:l.length=8:=hl
 have hh:h.length=8:=hh
 by_cases hlt:k < 8
 ·left
  have hn:nth (.int .u32) l k=l[k]:=cj (t:= .int .u32) (by omega)
  refine⟨(h,8,((k+1:Nat):Int),l.set k (bK .u32 l[k] (nth (.int .u32) h k))),⟨hh,by simpa using hl,rfl,k+1,by omega,rfl⟩,by simp only;omega,?_,fun kn kx=> ?_⟩
  ·simp only[aI.L1.add,aI.L1.F,Int.toNat_natCast]
   rw[nL (fun i x=>bK .u32 x (nth (.int .u32) h i)) l k (by omega)]
  ·rw[aI.L1.step]
   simp(disch:=omega) only[↓S1,↓if_pos,↓if_neg,if_pos,if_neg,if_true,if_false,S2,hl,hh,Nat.zero_add,Nat.mul_one,Nat.add_zero,hn]
 ·right
  obtain rfl:k=8:=by omega
  intro R kn kx
  rw[aI.L1.step]
  simp(disch:=omega) only[↓S1,↓if_pos,↓if_neg,if_pos,if_neg,if_true,if_false,S2,aI.L1.add,aI.L1.F]
  rw[o3 _ _ _ (by omega)]
theorem C6(s:St)(b:List Int):from_ (fun i x=>bK .u32 x (nth (.int .u32) s.l i)) 0 (rounds (sched b) s 64).l=(qd s b).l:=by
 unfold qd
 generalize rounds (sched b) s 64=v
 obtain⟨a1,b1,c1,d1,f1,g1,h1,i1⟩:=v
 simp only[St.l,from_,List.mapIdx_cons,List.mapIdx_nil,Nat.not_lt_zero,if_false,Nat.zero_add,Nat.reduceAdd]
 simp only[nth,List.getD_cons_zero,List.getD_cons_succ,lP]
theorem aI.ok:aI.Ok:=by
 rintro⟨h,b⟩ ⟨⟨s,rfl⟩,hb⟩
 have p0:aJ.aC b:=hb
 have hsl:(sched b).length=64:=by unfold sched;rw[kW,ed]
 have p1:aI.L0.aC (s.l,wl (sched b),qa,8,0,s.l):=⟨s,sched b,0,rfl,rfl,hsl,by omega,rfl,rfl,rfl,rfl⟩
 have p2:aI.L1.aC (s.l,8,0,(rounds (sched b) s 64).l):=⟨rfl,rfl,rfl,0,by omega,rfl⟩
 have e0:0+s.l.length=8:=rfl
 have e1:List.take 0 (List.replicate 0 (0:Int))++s.l=s.l:=rfl
 rw[aI.eq]
 simp(disch:=omega) only[↓S1,↓if_pos,↓if_neg,if_pos,if_neg,if_true,if_false,S2,aJ.run p0,aJ.add,aJ.F,dX.run (d:=()) trivial,dX.add,dX.F,e0,e1,aI.L0.run p1,aI.L0.add,aI.L0.F,mv,gR,aI.L1.run p2,aI.L1.add,aI.L1.F,Int.toNat_zero,C6]
 have e2:(qd s b).l.length=8:=rfl
 have e3:cut (qd s b).l 0 8=(qd s b).l:=rfl
 simp only[e2,Nat.zero_add,Nat.le_refl,if_true,e3,aI.add,aI.F,gR]
noncomputable def aI.E:=Entry.ct [some (.slice (.int .u32)),some tB] aI.st aI.aC aI.add aI.F aI.out
noncomputable def aI.call:aI.D→Option aI.X:=bH aI.E aI.st
theorem aI.run:bD aI.call aI.aC aI.add aI.F:=cO (cM [.d (.slice (.int .u32)),.d tB] fun _=>by kernel_rfl)
noncomputable def aI.sg:SG Tryz.prog:=⟨156,aV,aI.E,.fn 2 (by kernel_rfl) aI.ok (And.intro (.ct aI.L0.ok (by kernel_rfl)) (And.intro (.ct aI.L1.ok (by kernel_rfl)) trivial))⟩
set_option synthInstance.maxSize 5000
abbrev bA.L0.D:=Bs×(List Int)×Int×Bs
def bA.L0.st:bA.L0.D→AS:=fun(p,h,i,n2)=>⟨([.undef,.undef,.ptr (.new 2 0) 0 [] 0,.d tB p,.d (.slice (.int .u32)) h,.d ti i]++a9 36 []),[],([[],[],[.obj 0 false (.d tH n2)]]++bJ 39 [])⟩
abbrev bA.L0.Y0:=(List Int)
abbrev bA.L0.X0:=(Bs)×((List Int))
def bA.L0.bq:bA.L0.X0→Exit×AS:=fun x=>(.exit 0,⟨([.undef,.undef,.ptr (.new 2 0) 0 [] 0,.undef,.d (.slice (.int .u32)) x.2]++a9 37 []),[],([[],[],[.obj 0 false (.d tH x.1)]]++bJ 39 [])⟩)
abbrev bA.L0.X:=bA.L0.X0
abbrev bA.L0.Y:=bA.L0.Y0
def bA.L0.out:bA.L0.X→Out (Exit×AS):=fun x=> .ok (bA.L0.bq x)
def bA.L0.add:bA.L0.D→bA.L0.Y→bA.L0.X:=fun(p,h,i,n2) y=>(n2,y)
abbrev bA.L1.D:=(List Int)×Int×Bs×Bs
def bA.L1.st:bA.L1.D→AS:=fun(h_2,i_2,n2_2,n6)=>⟨([.undef,.undef,.ptr (.new 2 0) 0 [] 0,.undef,.d (.slice (.int .u32)) h_2,.undef,.ptr (.new 6 0) 0 [] 0,.d ti i_2]++a9 34 []),[],([[],[],[.obj 0 false (.d tH n2_2)],[],[],[],[.obj 0 false (.d tH n6)]]++bJ 35 [])⟩
abbrev bA.L1.Y0:=Bs
abbrev bA.L1.X0:=(Bs)×(Bs)
def bA.L1.bq:bA.L1.X0→Exit×AS:=fun x=>(.exit 2,⟨([.undef,.undef,.ptr (.new 2 0) 0 [] 0,.undef,.undef,.undef,.ptr (.new 6 0) 0 [] 0]++a9 35 []),[],([[],[],[.obj 0 false (.d tH x.1)],[],[],[],[.obj 0 false (.d tH x.2)]]++bJ 35 [])⟩)
abbrev bA.L1.X:=bA.L1.X0
abbrev bA.L1.Y:=bA.L1.Y0
def bA.L1.out:bA.L1.X→Out (Exit×AS):=fun x=> .ok (bA.L1.bq x)
def bA.L1.add:bA.L1.D→bA.L1.Y→bA.L1.X:=fun(h_2,i_2,n2_2,n6) y=>(n2_2,y)
abbrev bA.D:=Bs
def bA.st:bA.D→SA:=fun b=>([.d tB b],[])
abbrev bA.Y:=Bs
abbrev bA.X:=Bs
def bA.out:bA.X→aZ:=fun x=>⟨.d tH x,[],[]⟩
def bA.add:bA.D→bA.Y→bA.X:=fun b y=>y
def bA.L0.aC:bA.L0.D→Prop:=fun(p,h,i,n2)=>p.length%64=0∧p.length≤140737488355328∧∃(s:St) (k:Nat),h=s.l∧i=((64*k:Nat):Int)∧64*k≤p.length
def bA.L0.F:bA.L0.D→bA.L0.Y:=fun(p,h,i,n2)=>(blocks (u6 h) (p.drop i.toNat)).l
def bA.L1.aC:bA.L1.D→Prop:=fun(h,i,n2,l)=>h.length=8∧l.length=32∧∃k:Nat,k≤32∧i=k
def bA.L1.F:bA.L1.D→bA.L1.Y:=fun(h,i,n2,l)=>from_ (nX h) i.toNat l
def bA.aC:bA.D→Prop:=fun b=>b.length≤140737488350000
def bA.F:bA.D→bA.Y:=fun b=>Df b
noncomputable def bA.G:dQ:=eR (P:=Tryz.prog) [aA.sg,cq.sg,aI.sg]
noncomputable def bA.L0.E:=bN.ct bA.L0.st bA.L0.aC bA.L0.add bA.L0.F bA.L0.out
noncomputable def bA.L0.call:bA.L0.D→Option bA.L0.X:=dh bA.L0.E bA.L0.st
noncomputable def bA.L1.E:=bN.ct bA.L1.st bA.L1.aC bA.L1.add bA.L1.F bA.L1.out
noncomputable def bA.L1.call:bA.L1.D→Option bA.L1.X:=dh bA.L1.E bA.L1.st
noncomputable def bA.an:eC:= {loops:=jJ [(4,{bm:=[2,3,4,5],sites:=[2]}),(9,{bm:=[2,4,6,7],sites:=[2,6]})],outs:=jI [(4,{bm:=[2,4],sites:=[2]},{bm:=[2]}),(9,{bm:=[2,6],sites:=[2,6]},{bm:=[2]})],fG:=kh [(4,bA.L0.E),(9,bA.L1.E)]}
noncomputable def bA.A:= @cH Tryz.prog bA.G bA.an 0 Tryz.f123 _ bA.st
abbrev bA.Ok:=cI @bA.A bA.aC bA.add bA.F bA.out
noncomputable def bA.L0.R:= @bX Tryz.prog bA.G bA.an 0 Tryz.f123 0 _ bA.L0.st
abbrev bA.L0.Ok:=eA Tryz.prog bA.G bA.an 0 Tryz.f123 0 bA.L0.st bA.L0.aC bA.L0.add bA.L0.F bA.L0.out
noncomputable def bA.L1.R:= @bX Tryz.prog bA.G bA.an 0 Tryz.f123 1 _ bA.L1.st
abbrev bA.L1.Ok:=eA Tryz.prog bA.G bA.an 0 Tryz.f123 1 bA.L1.st bA.L1.aC bA.L1.add bA.L1.F bA.L1.out
theorem bA.L0.run:bD bA.L0.call bA.L0.aC bA.L0.add bA.L0.F:=eG (eE [.d tB,.d (.slice (.int .u32)),.d ti,.d tB] fun _=>by kernel_rfl)
theorem bA.L0.aG:fR @bA.L0.R bA.L0.st bA.L0.aC bA.L0.add bA.L0.F bA.L0.bq bA.L0.Ok:=fU
theorem bA.L0.step{R:Type}(p:Bs)(h:(List Int))(i:Int)(n2:Bs)(kn:AS→Option R)(kx:Exit→AS→Option R):bA.L0.R (p,h,i,n2) kn kx=
  aK ((gb i (((List.length p):Nat):Int))) (
   aK (inc (bK .i64 i (64:Int)) (((List.length p):Nat):Int)) (
   aK (inc i (((Int.toNat (bK .i64 i (64:Int))):Nat):Int)) (
   aj (aI.call (h,(cut p (Int.toNat i) ((Int.toNat (bK .i64 i (64:Int))) - (Int.toNat i))))) fun x1=>
   kn (bA.L0.st (p,x1,(bK .i64 i (64:Int)),n2))) none) none) (
   kx (bA.L0.bq (n2,h)).1 (bA.L0.bq (n2,h)).2):=by kernel_rfl
theorem bA.L1.run:bD bA.L1.call bA.L1.aC bA.L1.add bA.L1.F:=eG (eE [.d (.slice (.int .u32)),.d ti,.d tB,.d tB] fun _=>by kernel_rfl)
theorem bA.L1.aG:fR @bA.L1.R bA.L1.st bA.L1.aC bA.L1.add bA.L1.F bA.L1.bq bA.L1.Ok:=fU
theorem bA.L1.step{R:Type}(h_2:(List Int))(i_2:Int)(n2_2:Bs)(n6:Bs)(kn:AS→Option R)(kx:Exit→AS→Option R):bA.L1.R (h_2,i_2,n2_2,n6) kn kx=
  aK ((gb i_2 (32:Int))) (
   aK (eh (kJ .i64 i_2 (4:Int)) (((List.length h_2):Nat):Int)) (
   aK (gI (de .i64 (24:Int) (eS .i64 (8:Int) (iX i_2 (4:Int))))) (
   aK (eh i_2 (32:Int)) (
   aK (decide ((Int.toNat i_2) < (List.length n6))) (
   aK (decide ((((Int.toNat i_2)*1)+0)=(0+((Int.toNat i_2)*1)))) (
   aK (decide ((Int.toNat i_2) < (List.length n6))) (
   kn (bA.L1.st (h_2,(bK .i64 i_2 (1:Int)),n2_2,(List.set n6 (Int.toNat i_2) (dD .u8 (bM .u32 (nth (.int .u32) h_2 (Int.toNat (kJ .i64 i_2 (4:Int)))) (de .i64 (24:Int) (eS .i64 (8:Int) (iX i_2 (4:Int)))))))))) none) none) none) none) none) none) (
   kx (bA.L1.bq (n2_2,n6)).1 (bA.L1.bq (n2_2,n6)).2):=by kernel_rfl
theorem bA.eq{R:Type}(b:Bs)(k:aZ→Option R):bA.A b k=
 aj (aA.call b) fun x1=>
 aj (cq.call ()) fun x2=>
 aj (bA.L0.call (x1,x2,(0:Int),(List.replicate 32 (0:Int)))) fun x4=>
 aj (bA.L1.call (x4.2,(0:Int),x4.1,(List.replicate 32 (0:Int)))) fun x5=>
 k (bA.out x5.2):=by kernel_rfl
theorem bA.L0.ok:bA.L0.Ok:=by
 refine bA.L0.aG (fun(p,h,i,n2)=>p.length - i.toNat) ?_
 rintro⟨p,h,i,n2⟩ ⟨hm,hb,s,k,rfl,rfl,hk⟩
 have hm:p.length%64=0:=hm
 have hb:p.length≤140737488355328:=hb
 have hk:64*k≤p.length:=hk
 by_cases hlt:64*k < p.length
 ·left
  have e1:cut p (64*k) (64*k+64 - 64*k)=(p.drop (64*k)).take 64:=by unfold cut;rw[show 64*k+64 - 64*k=64 by omega]
  have e2:(p.drop (64*k)).drop 64=p.drop (64*(k+1)):=by rw[List.drop_drop];congr 1
  have e3:(64*(k+1):Nat)=64*k+64:=by omega
  have p1:aI.aC (s.l,(p.drop (64*k)).take 64):=⟨⟨s,rfl⟩,by simp;omega⟩
  refine⟨(p,(qd s ((p.drop (64*k)).take 64)).l,((64*(k+1):Nat):Int),n2),⟨hm,hb,_,k+1,rfl,rfl,by omega⟩,by simp only[Int.toNat_natCast];omega,?_,fun kn kx=> ?_⟩
  ·simp only[bA.L0.add,bA.L0.F,gR,Int.toNat_natCast]
   rw[mX s (p.drop (64*k)) (by simp;omega),e2]
  ·rw[bA.L0.step]
   simp(disch:=omega) only[↓S1,↓if_pos,↓if_neg,if_pos,if_neg,if_true,if_false,S2,e1,aI.run p1,aI.add,aI.F,gR,e3]
 ·right
  intro R kn kx
  rw[bA.L0.step]
  simp(disch:=omega) only[↓S1,↓if_pos,↓if_neg,if_pos,if_neg,if_true,if_false,S2,bA.L0.add,bA.L0.F,gR]
  rw[lZ s _ (by simp;omega)]
theorem bA.L1.ok:bA.L1.Ok:=by
 refine bA.L1.aG (fun(h,i,n2,l)=>32 - i.toNat) ?_
 rintro⟨h,i,n2,l⟩ ⟨h8,hl,k,hk,rfl⟩
 have hl:l.length=32:=hl
 have h8:h.length=8:=h8
 by_cases hlt:k < 32
 ·left
  refine⟨(h,((k+1:Nat):Int),n2,l.set k (nX h k l[k])),⟨h8,by simpa using hl,k+1,by omega,rfl⟩,by simp only[Int.toNat_natCast];omega,?_,fun kn kx=> ?_⟩
  ·simp only[bA.L1.add,bA.L1.F,Int.toNat_natCast]
   rw[nL (nX h) l k (by omega)]
  ·rw[bA.L1.step]
   simp(disch:=omega) only[↓S1,↓if_pos,↓if_neg,if_pos,if_neg,if_true,if_false,S2,hl,h8,Nat.mul_one,Nat.add_zero,Nat.zero_add,nX]
 ·right
  obtain rfl:k=32:=by omega
  intro R kn kx
  rw[bA.L1.step]
  simp(disch:=omega) only[↓S1,↓if_pos,↓if_neg,if_pos,if_neg,if_true,if_false,S2,bA.L1.add,bA.L1.F]
  rw[o3 _ _ _ (by omega)]
theorem xO(b:List Int):(pad b).length%64=0∧(pad b).length≤b.length+73:=by
 unfold pad
 simp only[List.length_append,List.length_cons,List.length_replicate,bO,kO]
 omega
theorem bA.ok:bA.Ok:=by
 intro b hb
 have hb:b.length≤140737488350000:=hb
 have p1:aA.aC b:=hb
 obtain⟨h1,h2⟩:=xO b
 have p2:bA.L0.aC (pad b,iH.l,0,List.replicate 32 0):=⟨h1,by omega,iH,0,rfl,rfl,by omega⟩
 have p3:bA.L1.aC ((blocks iH (pad b)).l,0,List.replicate 32 0,List.replicate 32 0):=⟨rfl,rfl,0,by omega,rfl⟩
 rw[bA.eq]
 simp(disch:=omega) only[↓S1,↓if_pos,↓if_neg,if_pos,if_neg,if_true,if_false,S2,aA.run p1,aA.add,aA.F,cq.run (d:=()) trivial,cq.add,cq.F,bA.L0.run p2,bA.L0.add,bA.L0.F,gR,Int.toNat_zero,List.drop_zero,bA.L1.run p3,bA.L1.add,bA.L1.F,yN]
 rfl
noncomputable def bA.E:=Entry.ct [some tB] bA.st bA.aC bA.add bA.F bA.out
noncomputable def bA.call:bA.D→Option bA.X:=bH bA.E bA.st
theorem bA.run:bD bA.call bA.aC bA.add bA.F:=cO (cM [.d tB] fun _=>by kernel_rfl)
noncomputable def bA.sg:SG Tryz.prog:=⟨123,aV,bA.E,.fn 2 (by kernel_rfl) bA.ok (And.intro (.ct bA.L0.ok (by kernel_rfl)) (And.intro (.ct bA.L1.ok (by kernel_rfl)) trivial))⟩
abbrev dO.D:=Int
def dO.st:dO.D→SA:=fun n=>([.d tu n],[])
abbrev dO.Y:=Nat×(List Int)
abbrev dO.X:=Nat×(List Int)
def dO.out:dO.X→aZ:=fun x=>⟨.cf (.new 0 0) 0 [] 0 0 x.1,[],[.obj 0 false (.vec 5 tb x.2)]⟩
def dO.add:dO.D→dO.Y→dO.X:=fun n y=>y
def dO.aC:dO.D→Prop:=fun n=>0≤n∧n < 18446744073709551616
def dO.F:dO.D→dO.Y:=fun n=>(8,fL n)
noncomputable def dO.G:dQ:=eR (P:=Tryz.prog) []
noncomputable def dO.an:eC:= {loops:=jJ [(3,{bm:=[0,3,4],sites:=[15]})],outs:=jI [(3,{bm:=[3],sites:=[15]},{bm:=[2],sites:=[15]})],ix:=[⟨2,[],15,25⟩]}
noncomputable def dO.A:= @cH Tryz.prog dO.G dO.an 10 Tryz.f122 _ dO.st
abbrev dO.Ok:=cI @dO.A dO.aC dO.add dO.F dO.out
theorem dO.eq{R:Type}(n:Int)(k:aZ→Option R):dO.A n k=
 k (dO.out (8,[(dD .u8 (bM .u64 n (56:Int))),(dD .u8 (bM .u64 n (48:Int))),(dD .u8 (bM .u64 n (40:Int))),(dD .u8 (bM .u64 n (32:Int))),(dD .u8 (bM .u64 n (24:Int))),(dD .u8 (bM .u64 n (16:Int))),(dD .u8 (bM .u64 n (8:Int))),(dD .u8 (bM .u64 n (0:Int)))])):=by kernel_rfl
theorem dO.ok:dO.Ok:=by
 intro n _
 have e:∀k:Nat,k≤64→dD .u8 (bM .u64 n (k:Int))=n / 2^k%256:=fun k hk=>xc n k hk
 rw[dO.eq]
 have e56:dD .u8 (bM .u64 n 56)=n / 2^56%256:=e 56 (by omega)
 have e48:dD .u8 (bM .u64 n 48)=n / 2^48%256:=e 48 (by omega)
 have e40:dD .u8 (bM .u64 n 40)=n / 2^40%256:=e 40 (by omega)
 have e32:dD .u8 (bM .u64 n 32)=n / 2^32%256:=e 32 (by omega)
 have e24:dD .u8 (bM .u64 n 24)=n / 2^24%256:=e 24 (by omega)
 have e16:dD .u8 (bM .u64 n 16)=n / 2^16%256:=e 16 (by omega)
 have e8:dD .u8 (bM .u64 n 8)=n / 2^8%256:=e 8 (by omega)
 have e0:=e 0 (by omega)
 rw[e56,e48,e40,e32,e24,e16,e8]
 have e0:dD .u8 (bM .u64 n 0)=n%256:=by rw[show(0:Int)=((0:Nat):Int) from rfl,e0];simp
 rw[e0]
 rfl
noncomputable def dO.E:=Entry.ct [some tu] dO.st dO.aC dO.add dO.F dO.out
noncomputable def dO.call:dO.D→Option dO.X:=bH dO.E dO.st
theorem dO.run:bD dO.call dO.aC dO.add dO.F:=cO (cM [.d tu] fun _=>by kernel_rfl)
noncomputable def dO.sg:SG Tryz.prog:=⟨122,aV,dO.E,.fn 1 (by kernel_rfl) dO.ok (And.intro (.none (by kernel_rfl)) trivial)⟩
abbrev cE.L0.D:=(List Bs)×Nat×Int×Bs×(List Int)
def cE.L0.st:cE.L0.D→AS:=fun(parts_2,bL,i,n4,n11)=>⟨([.undef,.d (.slice tB) parts_2,.undef,.undef,.ptr (.new 4 0) 0 [] 0,.cf (.new 11 0) 0 [] 0 0 bL,.d ti i]++a9 32 []),[],(bJ 4 ([[.obj 0 false (.d tH n4)]]++bJ 6 ([[.obj 0 false (.vec 5 tb n11)]]++bJ 27 [])))⟩
abbrev cE.L0.Y0:=Nat×(List Int)
abbrev cE.L0.X0:=(Bs)×(Nat×(List Int))
def cE.L0.bq:cE.L0.X0→Exit×AS:=fun x=>(.exit 0,⟨(a9 4 ([.ptr (.new 4 0) 0 [] 0,.cf (.new 11 0) 0 [] 0 0 x.2.1]++a9 33 [])),[],(bJ 4 ([[.obj 0 false (.d tH x.1)]]++bJ 6 ([[.obj 0 false (.vec 5 tb x.2.2)]]++bJ 27 [])))⟩)
abbrev cE.L0.X:=cE.L0.X0
abbrev cE.L0.Y:=cE.L0.Y0
def cE.L0.out:cE.L0.X→Out (Exit×AS):=fun x=> .ok (cE.L0.bq x)
def cE.L0.add:cE.L0.D→cE.L0.Y→cE.L0.X:=fun(parts_2,bL,i,n4,n11) y=>(n4,y)
abbrev cE.D:=ByteArray×(List Bs)
def cE.st:cE.D→SA:=fun(name,parts)=>([.d .str name,.d (.slice tB) parts],[])
abbrev cE.Y:=Bs
abbrev cE.X:=Bs
def cE.out:cE.X→aZ:=fun x=>⟨.d tH x,[],[]⟩
def cE.add:cE.D→cE.Y→cE.X:=fun(name,parts) y=>y
def cE.L0.aC:cE.L0.D→Prop:=fun(ps,m,i,n4,l)=>m=l.length∧∃k:Nat,k≤ps.length∧ps.length≤140737488350000∧i=k∧l.length+(gV (ps.drop k)).length≤140737488350000
def cE.L0.F:cE.L0.D→cE.L0.Y:=fun(ps,m,i,n4,l)=>(l.length+(gV (ps.drop i.toNat)).length,l++gV (ps.drop i.toNat))
def cE.aC:cE.D→Prop:=fun(name,ps)=>(qo (bg name) ps).length≤140737488350000
def cE.F:cE.D→cE.Y:=fun(name,ps)=>tag (bg name) ps
noncomputable def cE.G:dQ:=eR (P:=Tryz.prog) [dO.sg,bA.sg]
noncomputable def cE.L0.E:=bN.ct cE.L0.st cE.L0.aC cE.L0.add cE.L0.F cE.L0.out
noncomputable def cE.L0.call:cE.L0.D→Option cE.L0.X:=dh cE.L0.E cE.L0.st
noncomputable def cE.an:eC:= {loops:=jJ [(3,{bm:=[1,4,5,6],sites:=[4,11],ix:=[⟨5,[],11,25⟩]})],outs:=jI [(3,{bm:=[4,5],sites:=[4,11]},{bm:=[4]})],fG:=kh [(3,cE.L0.E)]}
noncomputable def cE.A:= @cH Tryz.prog cE.G cE.an 0 Tryz.f73 _ cE.st
abbrev cE.Ok:=cI @cE.A cE.aC cE.add cE.F cE.out
noncomputable def cE.L0.R:= @bX Tryz.prog cE.G cE.an 0 Tryz.f73 0 _ cE.L0.st
abbrev cE.L0.Ok:=eA Tryz.prog cE.G cE.an 0 Tryz.f73 0 cE.L0.st cE.L0.aC cE.L0.add cE.L0.F cE.L0.out
theorem cE.L0.run:bD cE.L0.call cE.L0.aC cE.L0.add cE.L0.F:=eG (eE [.d (.slice tB),.n,.d ti,.d tB,.d tB] fun _=>by kernel_rfl)
theorem cE.L0.aG:fR @cE.L0.R cE.L0.st cE.L0.aC cE.L0.add cE.L0.F cE.L0.bq cE.L0.Ok:=fU
theorem cE.L0.step{R:Type}(parts_2:(List Bs))(bL:Nat)(i:Int)(n4:Bs)(n11:(List Int))(kn:AS→Option R)(kx:Exit→AS→Option R):cE.L0.R (parts_2,bL,i,n4,n11) kn kx=
  aK ((gb i (((List.length parts_2):Nat):Int))) (
   aK (eh i (((List.length parts_2):Nat):Int)) (
   aj (dO.call (dD .u64 (((List.length (nth tB parts_2 (Int.toNat i))):Nat):Int))) fun x1=>
   aK (decide (0=0∧(0+x1.1)≤(List.length x1.2))) (
   aK (decide (bL≤(List.length n11))) (
   aK (dj (bL+(List.length (cut x1.2 0 x1.1))) 1) (
   aK (eh i (((List.length parts_2):Nat):Int)) (
   aK (decide ((bL+(List.length (cut x1.2 0 x1.1)))≤(List.length ((List.take bL n11)++(cut x1.2 0 x1.1))))) (
   aK (dj ((bL+(List.length (cut x1.2 0 x1.1)))+(List.length (nth tB parts_2 (Int.toNat i)))) 1) (
   kn (cE.L0.st (parts_2,((bL+(List.length (cut x1.2 0 x1.1)))+(List.length (nth tB parts_2 (Int.toNat i)))),(bK .i64 i (1:Int)),n4,((List.take (bL+(List.length (cut x1.2 0 x1.1))) ((List.take bL n11)++(cut x1.2 0 x1.1)))++(nth tB parts_2 (Int.toNat i)))))) none) none) none) none) none) none) none) (
   kx (cE.L0.bq (n4,(bL,n11))).1 (cE.L0.bq (n4,(bL,n11))).2):=by kernel_rfl
theorem cE.eq{R:Type}(name:ByteArray)(parts:(List Bs))(k:aZ→Option R):cE.A (name,parts) k=
 aj (dO.call (dD .u64 (((ByteArray.size name):Nat):Int))) fun x1=>
 aK (decide (x1.1≤(List.length x1.2))) (
 aK (dj (x1.1+(List.length (bg name))) 1) (
 aj (cE.L0.call (parts,(x1.1+(List.length (bg name))),(0:Int),(List.replicate 32 (0:Int)),((List.take x1.1 x1.2)++(bg name)))) fun x4=>
 aK (decide (0=0∧(0+x4.2.1)≤(List.length x4.2.2))) (
 aj (bA.call (cut x4.2.2 0 x4.2.1)) fun x5=>
 k (cE.out x5)) none) none) none:=by kernel_rfl
theorem y3{n:Nat}(h:n < 18446744073709551616):dD .u64 ((n:Nat):Int)=n:=by rw[uD,fH];omega
theorem dO.at{n:Nat}(h:n < 18446744073709551616):dO.call (n:Int)=some (8,fL (n:Int)):=dO.run (d:=(n:Int)) (show 0≤(n:Int)∧(n:Int) < 18446744073709551616 from⟨by omega,by omega⟩)
theorem DF{l:List Int}{n:Nat}(h:l.length=n):cut l 0 n=l:=by unfold cut;rw[List.drop_zero,List.take_of_length_le (by omega)]
theorem cE.L0.ok:cE.L0.Ok:=by
 refine cE.L0.aG (fun(ps,m,i,n4,l)=>ps.length - i.toNat) ?_
 rintro⟨ps,m,i,n4,l⟩ ⟨rfl,k,hk,hpl,rfl,hl⟩
 have hk:k≤ps.length:=hk
 have hpl:ps.length≤140737488350000:=hpl
 have hl:l.length+(gV (ps.drop k)).length≤140737488350000:=hl
 by_cases h:k < ps.length
 ·left
  have ht:=tR ps k h
  have hlen:(gV (ps.drop k)).length=8+ps[k].length+(gV (ps.drop (k+1))).length:=by rw[ht];simp only[List.length_append,bO]
  have hn:nth (.slice (.int .u8)) ps k=ps[k]:=cj (t:= .slice (.int .u8)) h
  have hlb:(l++fL (ps[k].length:Int)).length=l.length+8:=by simp[bO]
  refine⟨(ps,(l++fL ps[k].length++ps[k]).length,((k+1:Nat):Int),n4,l++fL ps[k].length++ps[k]),⟨rfl,k+1,by omega,hpl,rfl,?_⟩,by simp only[Int.toNat_natCast];omega,?_,fun kn kx=> ?_⟩
  ·simp only[List.length_append,bO];omega
  ·simp only[cE.L0.add,cE.L0.F,Int.toNat_natCast,ht,List.append_assoc]
   simp only[List.length_append,bO,Nat.add_assoc]
  ·have c8:cut (fL (ps[k].length:Int)) 0 8=fL (ps[k].length:Int):=DF (bO _)
   have h64:ps[k].length < 18446744073709551616:=by omega
   rw[cE.L0.step]
   simp(disch:=omega) only[↓S1,↓if_pos,↓if_neg,if_pos,if_neg,if_true,if_false,S2,hn,y3 h64,dO.at h64,bO,c8,List.take_length,hlb,Nat.zero_add,Nat.le_refl,and_self,if_true]
   rw[List.take_of_length_le (by rw[hlb];omega)]
   simp only[List.length_append,bO,Nat.add_assoc]
 ·right
  obtain rfl:k=ps.length:=by omega
  intro R kn kx
  rw[cE.L0.step]
  simp(disch:=omega) only[↓S1,↓if_pos,↓if_neg,if_pos,if_neg,if_true,if_false,S2,cE.L0.add,cE.L0.F,List.drop_length]
  simp[gV]
theorem cE.ok:cE.Ok:=by
 rintro⟨name,ps⟩ hp
 have hp:(fL (bg name).length++bg name++gV ps).length≤140737488350000:=hp
 have hl:(fL (bg name).length++bg name++gV ps).length=8+(bg name).length+(gV ps).length:=by simp only[List.length_append,bO]
 have hpl:=sF ps
 have hsz:name.size=(bg name).length:=by rw[gh]
 have h64:(bg name).length < 18446744073709551616:=by omega
 have p2:cE.L0.aC (ps,8+(bg name).length,0,List.replicate 32 0,fL ((bg name).length:Int)++bg name):=by
  refine⟨by simp only[List.length_append,bO],0,Nat.zero_le _,by omega,rfl,?_⟩
  rw[List.drop_zero]
  simp only[List.length_append,bO]
  omega
 rw[cE.eq,hsz]
 simp(disch:=omega) only[↓S1,↓if_pos,↓if_neg,if_pos,if_neg,if_true,if_false,S2,y3 h64,dO.at h64,bO,List.take_of_length_le (Nat.le_of_eq (bO _)),cE.L0.run p2,cE.L0.add,cE.L0.F,Int.toNat_zero,List.drop_zero,Nat.zero_add]
 have hcut:cut (fL ((bg name).length:Int)++bg name++gV ps) 0 ((fL ((bg name).length:Int)++bg name).length+(gV ps).length)=qo (bg name) ps:=DF (by simp only[List.length_append])
 have p3:bA.aC (qo (bg name) ps):=hp
 rw[if_pos (by simp only[List.length_append];omega),hcut,bA.run p3]
 rfl
noncomputable def cE.E:=Entry.ct [some .str,some (.slice tB)] cE.st cE.aC cE.add cE.F cE.out
noncomputable def cE.call:cE.D→Option cE.X:=bH cE.E cE.st
theorem cE.run:bD cE.call cE.aC cE.add cE.F:=cO (cM [.d .str,.d (.slice tB)] fun _=>by kernel_rfl)
noncomputable def cE.sg:SG Tryz.prog:=⟨73,aV,cE.E,.fn 1 (by kernel_rfl) cE.ok (And.intro (.ct cE.L0.ok (by kernel_rfl)) trivial)⟩
set_option synthInstance.maxSize 5000
theorem pN{n:Int}(h1:0≤n)(h2:n < 18446744073709551616):IntKind.u64.wrap n=n:=by
 rw[wrap_u64,fH];omega
theorem pM(n:Int):IntKind.u64.wrap n=n%18446744073709551616:=by
 rw[wrap_u64,fH];rfl
theorem ku(x y:Int):bK .u64 x y=(x+y)%18446744073709551616:=pM _
theorem q9(x y:Int):de .u64 x y=(x - y)%18446744073709551616:=pM _
theorem ky(x y:Int):eS .u64 x y=(x*y)%18446744073709551616:=pM _
theorem AN(x:Int):dD .u64 x=x%18446744073709551616:=pM _
theorem vm{x:Int}(h:0≤x)(h2:x < 18446744073709551616):cn .and .u64 x 4294967295=x%4294967296:=by
 obtain⟨n,rfl⟩:∃n:Nat,x=n:=⟨x.toNat,by omega⟩
 have e:(BitVec.ofInt 64 (n:Int) &&& BitVec.ofInt 64 4294967295).toNat=n%4294967296:=by
  rw[BitVec.toNat_and]
  have a:(BitVec.ofInt 64 (n:Int)).toNat=n:=by rw[BitVec.ofInt_natCast,BitVec.toNat_ofNat];omega
  have b:(BitVec.ofInt 64 4294967295).toNat=2^32 - 1:=by decide
  rw[a,b,Nat.and_two_pow_sub_one_eq_mod]
 show IntKind.u64.wrap ((BitVec.ofInt 64 (n:Int) &&& BitVec.ofInt 64 4294967295).toNat:Int)=_
 rw[e,pN (by omega) (by omega)];omega
theorem Es{x:Int}(h:0≤x)(h2:x < 18446744073709551616):cn .and .u64 x 1=x%2:=by
 obtain⟨n,rfl⟩:∃n:Nat,x=n:=⟨x.toNat,by omega⟩
 have e:(BitVec.ofInt 64 (n:Int) &&& BitVec.ofInt 64 1).toNat=n%2:=by
  rw[BitVec.toNat_and]
  have a:(BitVec.ofInt 64 (n:Int)).toNat=n:=by rw[BitVec.ofInt_natCast,BitVec.toNat_ofNat];omega
  have b:(BitVec.ofInt 64 1).toNat=2^1 - 1:=by decide
  rw[a,b,Nat.and_two_pow_sub_one_eq_mod]
 show IntKind.u64.wrap ((BitVec.ofInt 64 (n:Int) &&& BitVec.ofInt 64 1).toNat:Int)=_
 rw[e,pN (by omega) (by omega)];omega
theorem jN{x k:Int}(n:Nat)(hk:k=n)(hn:n≤64):bM .u64 x k=x / 2^n:=by
 subst hk
 rw[bM]
 have e:min (Int.toNat (n:Int)) IntKind.u64.bits=n:=by simp only[IntKind.bits];omega
 rw[e,Int.fdiv_eq_ediv_of_nonneg _ (Int.le_of_lt (Int.pow_pos (by omega)))]
theorem jM{x k:Int}(n:Nat)(hk:k=n)(hn:n≤64):gq .u64 x k=x*2^n%18446744073709551616:=by
 subst hk
 rw[gq,pM]
 have e:min (Int.toNat (n:Int)) IntKind.u64.bits=n:=by simp only[IntKind.bits];omega
 rw[e]
theorem pk{x y:Int}(k:Nat)(m:Int)(hm:m=2^k)(hx:x%m=0)(h0:0≤x)(h1:x < 18446744073709551616)(hy:0≤y)(hy2:y < m)(h2:x+y < 18446744073709551616):cn .or .u64 x y=x+y:=by
 subst hm
 obtain⟨n,rfl⟩:∃n:Nat,x=n:=⟨x.toNat,by omega⟩
 obtain⟨j,rfl⟩:∃j:Nat,y=j:=⟨y.toNat,by omega⟩
 have hx:n%2^k=0:=by
  have:((n%2^k:Nat):Int)=0:=by rw[Int.natCast_emod];simpa using hx
  omega
 have hj:j < 2^k:=by
  have:((j:Nat):Int) < ((2^k:Nat):Int):=by simpa using hy2
  omega
 obtain⟨q,rfl⟩:∃q,n=2^k*q:=⟨n / 2^k,by have:=Nat.div_add_mod n (2^k);omega⟩
 have e:(BitVec.ofInt 64 ((2^k*q:Nat):Int) ||| BitVec.ofInt 64 (j:Int)).toNat=2^k*q+j:=by
  rw[BitVec.toNat_or]
  have a:(BitVec.ofInt 64 ((2^k*q:Nat):Int)).toNat=2^k*q:=by rw[BitVec.ofInt_natCast,BitVec.toNat_ofNat];exact Nat.mod_eq_of_lt (by omega)
  have b:(BitVec.ofInt 64 (j:Int)).toNat=j:=by rw[BitVec.ofInt_natCast,BitVec.toNat_ofNat];exact Nat.mod_eq_of_lt (by omega)
  rw[a,b,Nat.two_pow_add_eq_or_of_lt hj]
 show IntKind.u64.wrap ((BitVec.ofInt 64 ((2^k*q:Nat):Int) ||| BitVec.ofInt 64 (j:Int)).toNat:Int)=_
 rw[e,pN (by omega) (by omega)];omega
theorem yE{x y:Int}(h:0≤x)(h1:0≤y)(h2:x < 18446744073709551616):kJ .u64 x y=x / y:=by
 rw[kJ,Int.tdiv_eq_ediv_of_nonneg h]
 exact pN (Int.ediv_nonneg h h1) (Int.lt_of_le_of_lt (Int.ediv_le_self _ h) h2)
theorem nN{x y:Int}(h:0≤x):iX x y=x%y:=by rw[iX,Int.tmod_eq_emod_of_nonneg h]
theorem k1{e u w r q:Int}(he:e=42260∨e=42264∨e=42272)(hu:0≤u)(hu2:u < 18446744073709551616 - e)(hw:0≤w)(hw2:w < 4294967296)(hr:0≤r)(hr2:r < 4294967296)
  (hq:q*4294967295+r=u) (hQ:(u*4294967296+w) / (18446744073709551616 - e)≤q):
  (4294967296≤q→(u*4294967296+w) / (18446744073709551616 - e)≤q - 1)∧
  (q < 4294967296→4294967296*r+w < q*(4294967296 - e)→(u*4294967296+w) / (18446744073709551616 - e)≤q - 1)∧
  (q < 4294967296→q*(4294967296 - e)≤4294967296*r+w→(u*4294967296+w) / (18446744073709551616 - e)=q)∧
  (4294967296≤r+4294967295→(u*4294967296+w) / (18446744073709551616 - e)≤q - 1→(u*4294967296+w) / (18446744073709551616 - e)=q - 1)∧0≤(u*4294967296+w) / (18446744073709551616 - e)∧q≤4294967297:=by
 rcases he with rfl | rfl | rfl
 ·refine⟨?_,?_,?_,?_,?_,?_⟩ <;> omega
 ·refine⟨?_,?_,?_,?_,?_,?_⟩ <;> omega
 ·refine⟨?_,?_,?_,?_,?_,?_⟩ <;> omega
theorem k0{e u w:Int}(he:e=42260∨e=42264∨e=42272)(hu:0≤u)(hu2:u < 18446744073709551616 - e)(hw:0≤w)(hw2:w < 4294967296):
  (u*4294967296+w) / (18446744073709551616 - e)≤u / 4294967295∧0≤u - u / 4294967295*4294967295∧u - u / 4294967295*4294967295 < 4294967296∧
  (u*4294967296+w) - (u*4294967296+w) / (18446744073709551616 - e)*(18446744073709551616 - e)=(u*4294967296+w)%(18446744073709551616 - e)∧
  0≤(u*4294967296+w)%(18446744073709551616 - e)∧(u*4294967296+w)%(18446744073709551616 - e) < 18446744073709551616 - e∧
  0≤(u*4294967296+w) / (18446744073709551616 - e)∧(u*4294967296+w) / (18446744073709551616 - e) < 4294967296:=by
 rcases he with rfl | rfl | rfl
 ·refine⟨?_,?_,?_,?_,?_,?_,?_,?_⟩ <;> omega
 ·refine⟨?_,?_,?_,?_,?_,?_,?_,?_⟩ <;> omega
 ·refine⟨?_,?_,?_,?_,?_,?_,?_,?_⟩ <;> omega
theorem kd(Y u w1 w0:Int)(hY:0 < Y)(h0:0≤w0)(h1:w0 < 4294967296):
  ((u*4294967296+w1)*4294967296+w0) / Y=(u*4294967296+w1) / Y*4294967296+((u*4294967296+w1)%Y*4294967296+w0) / Y∧
  ((u*4294967296+w1)*4294967296+w0)%Y=((u*4294967296+w1)%Y*4294967296+w0)%Y:=by
 generalize u*4294967296+w1=n
 have e:n*4294967296+w0=(n%Y*4294967296+w0)+Y*(n / Y*4294967296):=by
  have:=Int.emod_add_mul_ediv n Y
  have h:Y*(n / Y*4294967296)=(Y*(n / Y))*4294967296:=by rw[Int.mul_assoc]
  rw[h];omega
 rw[e,Int.add_mul_ediv_left _ _ (by omega),Int.add_mul_emod_self_left]
 exact⟨by omega,rfl⟩
abbrev dG.D:=Int
def dG.st:dG.D→SA:=fun x=>([.d tu x],[])
abbrev dG.Y:=Int
abbrev dG.X:=Int
def dG.out:dG.X→aZ:=fun x=>⟨.d ti x,[],[]⟩
def dG.add:dG.D→dG.Y→dG.X:=fun x y=>y
def DO(y:Int):Prop:=y=4611686018427377339∨y=2305843009213688669∨y=2305843009213688668
def dG.aC:dG.D→Prop:=DO
def dG.F:dG.D→dG.Y:=fun y=>if y=4611686018427377339 then 62 else 61
noncomputable def dG.G:dQ:=eR (P:=Tryz.prog) []
noncomputable def dG.an:eC:= {}
noncomputable def dG.A:= @cH Tryz.prog dG.G dG.an 0 Tryz.f183 _ dG.st
abbrev dG.Ok:=cI @dG.A dG.aC dG.add dG.F dG.out
theorem dG.eq{R:Type}(x:Int)(k:aZ→Option R):dG.A x k=
  aK ((mO x (4294967296:Int))) (
   aK ((mO (bM .u64 x (32:Int)) (65536:Int))) (
    aK ((mO (bM .u64 (bM .u64 x (32:Int)) (16:Int)) (256:Int))) (
     aK (eh (dD .u8 (bM .u64 (bM .u64 (bM .u64 x (32:Int)) (16:Int)) (8:Int))) (256:Int)) (
     k (dG.out (bK .i64 (56:Int) (dD .i64 (wQ (⟨#[0,1,2,2,3,3,3,3,4,4,4,4,4,4,4,4,5,5,5,5,5,5,5,5,5,5,5,5,5,5,5,5,6,6,6,6,6,6,6,6,6,6,6,6,6,6,6,6,6,6,6,6,6,6,6,6,6,6,6,6,6,6,6,6,7,7,7,7,7,7,7,7,7,7,7,7,7,7,7,7,7,7,7,7,7,7,7,7,7,7,7,7,7,7,7,7,7,7,7,7,7,7,7,7,7,7,7,7,7,7,7,7,7,7,7,7,7,7,7,7,7,7,7,7,7,7,7,7,8,8,8,8,8,8,8,8,8,8,8,8,8,8,8,8,8,8,8,8,8,8,8,8,8,8,8,8,8,8,8,8,8,8,8,8,8,8,8,8,8,8,8,8,8,8,8,8,8,8,8,8,8,8,8,8,8,8,8,8,8,8,8,8,8,8,8,8,8,8,8,8,8,8,8,8,8,8,8,8,8,8,8,8,8,8,8,8,8,8,8,8,8,8,8,8,8,8,8,8,8,8,8,8,8,8,8,8,8,8,8,8,8,8,8,8,8,8,8,8,8,8,8,8,8,8,8,8]⟩:ByteArray) (dD .u8 (bM .u64 (bM .u64 (bM .u64 x (32:Int)) (16:Int)) (8:Int)))))))) none) (
     aK (eh (dD .u8 (bM .u64 (bM .u64 x (32:Int)) (16:Int))) (256:Int)) (
     k (dG.out (bK .i64 (48:Int) (dD .i64 (wQ (⟨#[0,1,2,2,3,3,3,3,4,4,4,4,4,4,4,4,5,5,5,5,5,5,5,5,5,5,5,5,5,5,5,5,6,6,6,6,6,6,6,6,6,6,6,6,6,6,6,6,6,6,6,6,6,6,6,6,6,6,6,6,6,6,6,6,7,7,7,7,7,7,7,7,7,7,7,7,7,7,7,7,7,7,7,7,7,7,7,7,7,7,7,7,7,7,7,7,7,7,7,7,7,7,7,7,7,7,7,7,7,7,7,7,7,7,7,7,7,7,7,7,7,7,7,7,7,7,7,7,8,8,8,8,8,8,8,8,8,8,8,8,8,8,8,8,8,8,8,8,8,8,8,8,8,8,8,8,8,8,8,8,8,8,8,8,8,8,8,8,8,8,8,8,8,8,8,8,8,8,8,8,8,8,8,8,8,8,8,8,8,8,8,8,8,8,8,8,8,8,8,8,8,8,8,8,8,8,8,8,8,8,8,8,8,8,8,8,8,8,8,8,8,8,8,8,8,8,8,8,8,8,8,8,8,8,8,8,8,8,8,8,8,8,8,8,8,8,8,8,8,8,8,8,8,8,8,8]⟩:ByteArray) (dD .u8 (bM .u64 (bM .u64 x (32:Int)) (16:Int)))))))) none)) (
    aK ((mO (bM .u64 x (32:Int)) (256:Int))) (
     aK (eh (dD .u8 (bM .u64 (bM .u64 x (32:Int)) (8:Int))) (256:Int)) (
     k (dG.out (bK .i64 (40:Int) (dD .i64 (wQ (⟨#[0,1,2,2,3,3,3,3,4,4,4,4,4,4,4,4,5,5,5,5,5,5,5,5,5,5,5,5,5,5,5,5,6,6,6,6,6,6,6,6,6,6,6,6,6,6,6,6,6,6,6,6,6,6,6,6,6,6,6,6,6,6,6,6,7,7,7,7,7,7,7,7,7,7,7,7,7,7,7,7,7,7,7,7,7,7,7,7,7,7,7,7,7,7,7,7,7,7,7,7,7,7,7,7,7,7,7,7,7,7,7,7,7,7,7,7,7,7,7,7,7,7,7,7,7,7,7,7,8,8,8,8,8,8,8,8,8,8,8,8,8,8,8,8,8,8,8,8,8,8,8,8,8,8,8,8,8,8,8,8,8,8,8,8,8,8,8,8,8,8,8,8,8,8,8,8,8,8,8,8,8,8,8,8,8,8,8,8,8,8,8,8,8,8,8,8,8,8,8,8,8,8,8,8,8,8,8,8,8,8,8,8,8,8,8,8,8,8,8,8,8,8,8,8,8,8,8,8,8,8,8,8,8,8,8,8,8,8,8,8,8,8,8,8,8,8,8,8,8,8,8,8,8,8,8,8]⟩:ByteArray) (dD .u8 (bM .u64 (bM .u64 x (32:Int)) (8:Int)))))))) none) (
     aK (eh (dD .u8 (bM .u64 x (32:Int))) (256:Int)) (
     k (dG.out (bK .i64 (32:Int) (dD .i64 (wQ (⟨#[0,1,2,2,3,3,3,3,4,4,4,4,4,4,4,4,5,5,5,5,5,5,5,5,5,5,5,5,5,5,5,5,6,6,6,6,6,6,6,6,6,6,6,6,6,6,6,6,6,6,6,6,6,6,6,6,6,6,6,6,6,6,6,6,7,7,7,7,7,7,7,7,7,7,7,7,7,7,7,7,7,7,7,7,7,7,7,7,7,7,7,7,7,7,7,7,7,7,7,7,7,7,7,7,7,7,7,7,7,7,7,7,7,7,7,7,7,7,7,7,7,7,7,7,7,7,7,7,8,8,8,8,8,8,8,8,8,8,8,8,8,8,8,8,8,8,8,8,8,8,8,8,8,8,8,8,8,8,8,8,8,8,8,8,8,8,8,8,8,8,8,8,8,8,8,8,8,8,8,8,8,8,8,8,8,8,8,8,8,8,8,8,8,8,8,8,8,8,8,8,8,8,8,8,8,8,8,8,8,8,8,8,8,8,8,8,8,8,8,8,8,8,8,8,8,8,8,8,8,8,8,8,8,8,8,8,8,8,8,8,8,8,8,8,8,8,8,8,8,8,8,8,8,8,8,8]⟩:ByteArray) (dD .u8 (bM .u64 x (32:Int)))))))) none))) (
   aK ((mO x (65536:Int))) (
    aK ((mO (bM .u64 x (16:Int)) (256:Int))) (
     aK (eh (dD .u8 (bM .u64 (bM .u64 x (16:Int)) (8:Int))) (256:Int)) (
     k (dG.out (bK .i64 (24:Int) (dD .i64 (wQ (⟨#[0,1,2,2,3,3,3,3,4,4,4,4,4,4,4,4,5,5,5,5,5,5,5,5,5,5,5,5,5,5,5,5,6,6,6,6,6,6,6,6,6,6,6,6,6,6,6,6,6,6,6,6,6,6,6,6,6,6,6,6,6,6,6,6,7,7,7,7,7,7,7,7,7,7,7,7,7,7,7,7,7,7,7,7,7,7,7,7,7,7,7,7,7,7,7,7,7,7,7,7,7,7,7,7,7,7,7,7,7,7,7,7,7,7,7,7,7,7,7,7,7,7,7,7,7,7,7,7,8,8,8,8,8,8,8,8,8,8,8,8,8,8,8,8,8,8,8,8,8,8,8,8,8,8,8,8,8,8,8,8,8,8,8,8,8,8,8,8,8,8,8,8,8,8,8,8,8,8,8,8,8,8,8,8,8,8,8,8,8,8,8,8,8,8,8,8,8,8,8,8,8,8,8,8,8,8,8,8,8,8,8,8,8,8,8,8,8,8,8,8,8,8,8,8,8,8,8,8,8,8,8,8,8,8,8,8,8,8,8,8,8,8,8,8,8,8,8,8,8,8,8,8,8,8,8,8]⟩:ByteArray) (dD .u8 (bM .u64 (bM .u64 x (16:Int)) (8:Int)))))))) none) (
     aK (eh (dD .u8 (bM .u64 x (16:Int))) (256:Int)) (
     k (dG.out (bK .i64 (16:Int) (dD .i64 (wQ (⟨#[0,1,2,2,3,3,3,3,4,4,4,4,4,4,4,4,5,5,5,5,5,5,5,5,5,5,5,5,5,5,5,5,6,6,6,6,6,6,6,6,6,6,6,6,6,6,6,6,6,6,6,6,6,6,6,6,6,6,6,6,6,6,6,6,7,7,7,7,7,7,7,7,7,7,7,7,7,7,7,7,7,7,7,7,7,7,7,7,7,7,7,7,7,7,7,7,7,7,7,7,7,7,7,7,7,7,7,7,7,7,7,7,7,7,7,7,7,7,7,7,7,7,7,7,7,7,7,7,8,8,8,8,8,8,8,8,8,8,8,8,8,8,8,8,8,8,8,8,8,8,8,8,8,8,8,8,8,8,8,8,8,8,8,8,8,8,8,8,8,8,8,8,8,8,8,8,8,8,8,8,8,8,8,8,8,8,8,8,8,8,8,8,8,8,8,8,8,8,8,8,8,8,8,8,8,8,8,8,8,8,8,8,8,8,8,8,8,8,8,8,8,8,8,8,8,8,8,8,8,8,8,8,8,8,8,8,8,8,8,8,8,8,8,8,8,8,8,8,8,8,8,8,8,8,8,8]⟩:ByteArray) (dD .u8 (bM .u64 x (16:Int)))))))) none)) (
    aK ((mO x (256:Int))) (
     aK (eh (dD .u8 (bM .u64 x (8:Int))) (256:Int)) (
     k (dG.out (bK .i64 (8:Int) (dD .i64 (wQ (⟨#[0,1,2,2,3,3,3,3,4,4,4,4,4,4,4,4,5,5,5,5,5,5,5,5,5,5,5,5,5,5,5,5,6,6,6,6,6,6,6,6,6,6,6,6,6,6,6,6,6,6,6,6,6,6,6,6,6,6,6,6,6,6,6,6,7,7,7,7,7,7,7,7,7,7,7,7,7,7,7,7,7,7,7,7,7,7,7,7,7,7,7,7,7,7,7,7,7,7,7,7,7,7,7,7,7,7,7,7,7,7,7,7,7,7,7,7,7,7,7,7,7,7,7,7,7,7,7,7,8,8,8,8,8,8,8,8,8,8,8,8,8,8,8,8,8,8,8,8,8,8,8,8,8,8,8,8,8,8,8,8,8,8,8,8,8,8,8,8,8,8,8,8,8,8,8,8,8,8,8,8,8,8,8,8,8,8,8,8,8,8,8,8,8,8,8,8,8,8,8,8,8,8,8,8,8,8,8,8,8,8,8,8,8,8,8,8,8,8,8,8,8,8,8,8,8,8,8,8,8,8,8,8,8,8,8,8,8,8,8,8,8,8,8,8,8,8,8,8,8,8,8,8,8,8,8,8]⟩:ByteArray) (dD .u8 (bM .u64 x (8:Int)))))))) none) (
     aK (eh (dD .u8 x) (256:Int)) (
     k (dG.out (bK .i64 (0:Int) (dD .i64 (wQ (⟨#[0,1,2,2,3,3,3,3,4,4,4,4,4,4,4,4,5,5,5,5,5,5,5,5,5,5,5,5,5,5,5,5,6,6,6,6,6,6,6,6,6,6,6,6,6,6,6,6,6,6,6,6,6,6,6,6,6,6,6,6,6,6,6,6,7,7,7,7,7,7,7,7,7,7,7,7,7,7,7,7,7,7,7,7,7,7,7,7,7,7,7,7,7,7,7,7,7,7,7,7,7,7,7,7,7,7,7,7,7,7,7,7,7,7,7,7,7,7,7,7,7,7,7,7,7,7,7,7,8,8,8,8,8,8,8,8,8,8,8,8,8,8,8,8,8,8,8,8,8,8,8,8,8,8,8,8,8,8,8,8,8,8,8,8,8,8,8,8,8,8,8,8,8,8,8,8,8,8,8,8,8,8,8,8,8,8,8,8,8,8,8,8,8,8,8,8,8,8,8,8,8,8,8,8,8,8,8,8,8,8,8,8,8,8,8,8,8,8,8,8,8,8,8,8,8,8,8,8,8,8,8,8,8,8,8,8,8,8,8,8,8,8,8,8,8,8,8,8,8,8,8,8,8,8,8,8]⟩:ByteArray) (dD .u8 x)))))) none))):=by kernel_rfl
theorem dG.ok:dG.Ok:=by
 intro y h
 rw[dG.eq]
 obtain rfl | rfl | rfl:=h <;> kernel_rfl
noncomputable def dG.E:=Entry.ct [some tu] dG.st dG.aC dG.add dG.F dG.out
noncomputable def dG.call:dG.D→Option dG.X:=bH dG.E dG.st
theorem dG.run:bD dG.call dG.aC dG.add dG.F:=cO (cM [.d tu] fun _=>by kernel_rfl)
noncomputable def dG.sg:SG Tryz.prog:=⟨183,aV,dG.E,.fn 0 (by kernel_rfl) dG.ok trivial⟩
abbrev fq.D:=Int
def fq.st:fq.D→SA:=fun x=>([.d tu x],[])
abbrev fq.Y:=Int
abbrev fq.X:=Int
def fq.out:fq.X→aZ:=fun x=>⟨.d ti x,[],[]⟩
def fq.add:fq.D→fq.Y→fq.X:=fun x y=>y
def fq.aC:fq.D→Prop:=DO
def fq.F:fq.D→fq.Y:=fun y=>if y=4611686018427377339 then 2 else 3
noncomputable def fq.G:dQ:=eR (P:=Tryz.prog) [dG.sg]
noncomputable def fq.an:eC:= {}
noncomputable def fq.A:= @cH Tryz.prog fq.G fq.an 0 Tryz.f182 _ fq.st
abbrev fq.Ok:=cI @fq.A fq.aC fq.add fq.F fq.out
theorem fq.eq{R:Type}(x:Int)(k:aZ→Option R):fq.A x k=
 aj (dG.call x) fun x1=>
 k (fq.out (de .i64 (64:Int) x1)):=by kernel_rfl
theorem fq.ok:fq.Ok:=by
 intro y h
 rw[fq.eq,dG.run (d:=y) h]
 obtain rfl | rfl | rfl:=h <;> rfl
noncomputable def fq.E:=Entry.ct [some tu] fq.st fq.aC fq.add fq.F fq.out
noncomputable def fq.call:fq.D→Option fq.X:=bH fq.E fq.st
theorem fq.run:bD fq.call fq.aC fq.add fq.F:=cO (cM [.d tu] fun _=>by kernel_rfl)
noncomputable def fq.sg:SG Tryz.prog:=⟨182,aV,fq.E,.fn 0 (by kernel_rfl) fq.ok trivial⟩
set_option synthInstance.maxSize 5000
abbrev aR.L0.D:=Int×Int×Int×Int×Int×Int×Int×Int×Int
def aR.L0.st:aR.L0.D→AS:=fun(yv_2,sv,yn1,yn0,un32,un1,un0,q1,rhat)=>⟨([.undef,.undef,.d tu yv_2]++a9 5 ([.d tu sv,.d tu yn1,.d tu yn0,.d tu un32,.undef,.d tu un1,.d tu un0,.d tu q1,.d tu rhat]++a9 118 [])),[],(List.replicate 135 [])⟩
abbrev aR.L0.Y0:=Int
abbrev aR.L0.X0:=(Int×Int×Int×Int×Int×Int×Int)×(Int)
def aR.L0.bq:aR.L0.X0→Exit×AS:=fun x=>(.exit 0,⟨([.undef,.undef,.d tu x.1.1]++a9 5 ([.d tu x.1.2.1,.d tu x.1.2.2.1,.d tu x.1.2.2.2.1,.d tu x.1.2.2.2.2.1,.undef,.d tu x.1.2.2.2.2.2.1,.d tu x.1.2.2.2.2.2.2,.d tu x.2]++a9 119 [])),[],(List.replicate 135 [])⟩)
abbrev aR.L0.X:=aR.L0.X0
abbrev aR.L0.Y:=aR.L0.Y0
def aR.L0.out:aR.L0.X→Out (Exit×AS):=fun x=> .ok (aR.L0.bq x)
def aR.L0.add:aR.L0.D→aR.L0.Y→aR.L0.X:=fun(yv_2,sv,yn1,yn0,un32,un1,un0,q1,rhat) y=>((yv_2,sv,yn1,yn0,un32,un1,un0),y)
abbrev aR.L1.D:=Int×Int×Int×Int×Int×Int×Int×Int×Int
def aR.L1.st:aR.L1.D→AS:=fun(yv_3,sv_2,yn1_2,yn0_2,un0_2,q1_2,rhat_2,un21,q0)=>⟨([.undef,.undef,.d tu yv_3]++a9 5 ([.d tu sv_2,.d tu yn1_2,.d tu yn0_2,.undef,.undef,.undef,.d tu un0_2,.d tu q1_2,.d tu rhat_2,.d tu un21,.d tu q0]++a9 116 [])),[],(List.replicate 135 [])⟩
abbrev aR.L1.Y0:=Int
abbrev aR.L1.X0:=(Int×Int×Int×Int×Int)×(Int)
def aR.L1.bq:aR.L1.X0→Exit×AS:=fun x=>(.exit 2,⟨([.undef,.undef,.d tu x.1.1]++a9 5 ([.d tu x.1.2.1]++a9 5 ([.d tu x.1.2.2.1,.d tu x.1.2.2.2.1,.undef,.d tu x.1.2.2.2.2,.d tu x.2]++a9 116 []))),[],(List.replicate 135 [])⟩)
abbrev aR.L1.X:=aR.L1.X0
abbrev aR.L1.Y:=aR.L1.Y0
def aR.L1.out:aR.L1.X→Out (Exit×AS):=fun x=> .ok (aR.L1.bq x)
def aR.L1.add:aR.L1.D→aR.L1.Y→aR.L1.X:=fun(yv_3,sv_2,yn1_2,yn0_2,un0_2,q1_2,rhat_2,un21,q0) y=>((yv_3,sv_2,un0_2,q1_2,un21),y)
abbrev aR.D:=Int×Int×Int
def aR.st:aR.D→SA:=fun(hi,lo,yv)=>([.d tu hi,.d tu lo,.d tu yv],[])
abbrev aR.Y:=Int×Int
abbrev aR.X:=Int×Int
def aR.out:aR.X→aZ:=fun x=>⟨.cons (.d tu x.1) (.cons (.d tu x.2) (.nil)),[],[]⟩
def aR.add:aR.D→aR.Y→aR.X:=fun(hi,lo,yv) y=>y
def aR.L0.aC:aR.L0.D→Prop:=fun(y,sv,yn1,yn0,u,w,un0,q,r)=>∃e:Int,(e=42260∨e=42264∨e=42272)∧y=18446744073709551616 - e∧yn1=4294967295∧yn0=4294967296 - e∧0≤u∧u < 18446744073709551616 - e∧0≤w∧w < 4294967296∧0≤r∧r < 4294967296∧q*4294967295+r=u∧(u*4294967296+w) / (18446744073709551616 - e)≤q
def aR.L0.F:aR.L0.D→aR.L0.Y:=fun(y,sv,yn1,yn0,u,w,un0,q,r)=>(u*4294967296+w) / y
def aR.L1.aC:aR.L1.D→Prop:=fun(y,sv,yn1,yn0,w,q1,r,u,q)=>∃e:Int,(e=42260∨e=42264∨e=42272)∧y=18446744073709551616 - e∧yn1=4294967295∧yn0=4294967296 - e∧0≤u∧u < 18446744073709551616 - e∧0≤w∧w < 4294967296∧0≤r∧r < 4294967296∧q*4294967295+r=u∧(u*4294967296+w) / (18446744073709551616 - e)≤q
def aR.L1.F:aR.L1.D→aR.L1.Y:=fun(y,sv,yn1,yn0,w,q1,r,u,q)=>(u*4294967296+w) / y
def aR.aC:aR.D→Prop:=fun(hi,lo,y)=>DO y∧0≤hi∧hi < y∧0≤lo∧lo < 18446744073709551616
def aR.F:aR.D→aR.Y:=fun(hi,lo,y)=>((hi*18446744073709551616+lo) / y,(hi*18446744073709551616+lo)%y)
noncomputable def aR.G:dQ:=eR (P:=Tryz.prog) [fq.sg]
noncomputable def aR.L0.E:=bN.ct aR.L0.st aR.L0.aC aR.L0.add aR.L0.F aR.L0.out
noncomputable def aR.L0.call:aR.L0.D→Option aR.L0.X:=dh aR.L0.E aR.L0.st
noncomputable def aR.L1.E:=bN.ct aR.L1.st aR.L1.aC aR.L1.add aR.L1.F aR.L1.out
noncomputable def aR.L1.call:aR.L1.D→Option aR.L1.X:=dh aR.L1.E aR.L1.st
noncomputable def aR.an:eC:= {loops:=jJ [(17,{bm:=[2,8,9,10,11,13,14,15,16]}),(24,{bm:=[2,8,9,10,14,15,16,17,18]})],outs:=jI [(17,{bm:=[2,8,9,10,11,13,14,15]},{bm:=[6,7]}),(24,{bm:=[2,8,14,15,17,18]},{bm:=[6,7]})],fG:=kh [(17,aR.L0.E),(24,aR.L1.E)]}
noncomputable def aR.A:= @cH Tryz.prog aR.G aR.an 0 Tryz.f174 _ aR.st
abbrev aR.Ok:=cI @aR.A aR.aC aR.add aR.F aR.out
noncomputable def aR.L0.R:= @bX Tryz.prog aR.G aR.an 0 Tryz.f174 0 _ aR.L0.st
abbrev aR.L0.Ok:=eA Tryz.prog aR.G aR.an 0 Tryz.f174 0 aR.L0.st aR.L0.aC aR.L0.add aR.L0.F aR.L0.out
noncomputable def aR.L1.R:= @bX Tryz.prog aR.G aR.an 0 Tryz.f174 1 _ aR.L1.st
abbrev aR.L1.Ok:=eA Tryz.prog aR.G aR.an 0 Tryz.f174 1 aR.L1.st aR.L1.aC aR.L1.add aR.L1.F aR.L1.out
theorem aR.L0.run:bD aR.L0.call aR.L0.aC aR.L0.add aR.L0.F:=eG (eE [.d tu,.d tu,.d tu,.d tu,.d tu,.d tu,.d tu,.d tu,.d tu] fun _=>by kernel_rfl)
theorem aR.L0.aG:fR @aR.L0.R aR.L0.st aR.L0.aC aR.L0.add aR.L0.F aR.L0.bq aR.L0.Ok:=fU
theorem aR.L0.step{R:Type}(yv_2:Int)(sv:Int)(yn1:Int)(yn0:Int)(un32:Int)(un1:Int)(un0:Int)(q1:Int)(rhat:Int)(kn:AS→Option R)(kx:Exit→AS→Option R):aR.L0.R (yv_2,sv,yn1,yn0,un32,un1,un0,q1,rhat) kn kx=
  aK ((mO q1 (4294967296:Int))) (
   aK ((mO (bK .u64 rhat yn1) (4294967296:Int))) (
    kx (aR.L0.bq ((yv_2,sv,yn1,yn0,un32,un1,un0),(de .u64 q1 (1:Int)))).1 (aR.L0.bq ((yv_2,sv,yn1,yn0,un32,un1,un0),(de .u64 q1 (1:Int)))).2) (
    kn (aR.L0.st (yv_2,sv,yn1,yn0,un32,un1,un0,(de .u64 q1 (1:Int)),(bK .u64 rhat yn1))))) (
   aK ((mN (eS .u64 q1 yn0) (bK .u64 (eS .u64 (4294967296:Int) rhat) un1))) (
    aK ((mO (bK .u64 rhat yn1) (4294967296:Int))) (
     kx (aR.L0.bq ((yv_2,sv,yn1,yn0,un32,un1,un0),(de .u64 q1 (1:Int)))).1 (aR.L0.bq ((yv_2,sv,yn1,yn0,un32,un1,un0),(de .u64 q1 (1:Int)))).2) (
     kn (aR.L0.st (yv_2,sv,yn1,yn0,un32,un1,un0,(de .u64 q1 (1:Int)),(bK .u64 rhat yn1))))) (
    kx (aR.L0.bq ((yv_2,sv,yn1,yn0,un32,un1,un0),q1)).1 (aR.L0.bq ((yv_2,sv,yn1,yn0,un32,un1,un0),q1)).2)):=by kernel_rfl
theorem aR.L1.run:bD aR.L1.call aR.L1.aC aR.L1.add aR.L1.F:=eG (eE [.d tu,.d tu,.d tu,.d tu,.d tu,.d tu,.d tu,.d tu,.d tu] fun _=>by kernel_rfl)
theorem aR.L1.aG:fR @aR.L1.R aR.L1.st aR.L1.aC aR.L1.add aR.L1.F aR.L1.bq aR.L1.Ok:=fU
theorem aR.L1.step{R:Type}(yv_3:Int)(sv_2:Int)(yn1_2:Int)(yn0_2:Int)(un0_2:Int)(q1_2:Int)(rhat_2:Int)(un21:Int)(q0:Int)(kn:AS→Option R)(kx:Exit→AS→Option R):aR.L1.R (yv_3,sv_2,yn1_2,yn0_2,un0_2,q1_2,rhat_2,un21,q0) kn kx=
  aK ((mO q0 (4294967296:Int))) (
   aK ((mO (bK .u64 rhat_2 yn1_2) (4294967296:Int))) (
    kx (aR.L1.bq ((yv_3,sv_2,un0_2,q1_2,un21),(de .u64 q0 (1:Int)))).1 (aR.L1.bq ((yv_3,sv_2,un0_2,q1_2,un21),(de .u64 q0 (1:Int)))).2) (
    kn (aR.L1.st (yv_3,sv_2,yn1_2,yn0_2,un0_2,q1_2,(bK .u64 rhat_2 yn1_2),un21,(de .u64 q0 (1:Int)))))) (
   aK ((mN (eS .u64 q0 yn0_2) (bK .u64 (eS .u64 (4294967296:Int) rhat_2) un0_2))) (
    aK ((mO (bK .u64 rhat_2 yn1_2) (4294967296:Int))) (
     kx (aR.L1.bq ((yv_3,sv_2,un0_2,q1_2,un21),(de .u64 q0 (1:Int)))).1 (aR.L1.bq ((yv_3,sv_2,un0_2,q1_2,un21),(de .u64 q0 (1:Int)))).2) (
     kn (aR.L1.st (yv_3,sv_2,yn1_2,yn0_2,un0_2,q1_2,(bK .u64 rhat_2 yn1_2),un21,(de .u64 q0 (1:Int)))))) (
    kx (aR.L1.bq ((yv_3,sv_2,un0_2,q1_2,un21),q0)).1 (aR.L1.bq ((yv_3,sv_2,un0_2,q1_2,un21),q0)).2)):=by kernel_rfl
theorem aR.eq{R:Type}(hi:Int)(lo:Int)(yv:Int)(k:aZ→Option R):aR.A (hi,lo,yv) k=
  aK ((mM yv (0:Int))) (
   none) (
   aK ((zw yv hi)) (
    none) (
    aK ((mM hi (0:Int))) (
     aK (iE yv) (
     aK (iE yv) (
     k (aR.out ((kJ .u64 lo yv),(iX lo yv)))) none) none) (
     aj (fq.call yv) fun x1=>
     aK (gI (dD .u64 x1)) (
     aK (gI (dD .u64 x1)) (
     aK (gI (de .u64 (64:Int) (dD .u64 x1))) (
     aK (gI (dD .u64 x1)) (
     aK (iE (bM .u64 (gq .u64 yv (dD .u64 x1)) (32:Int))) (
     aj (aR.L0.call ((gq .u64 yv (dD .u64 x1)),(dD .u64 x1),(bM .u64 (gq .u64 yv (dD .u64 x1)) (32:Int)),(cn .and .u64 (gq .u64 yv (dD .u64 x1)) (4294967295:Int)),(cn .or .u64 (gq .u64 hi (dD .u64 x1)) (bM .u64 lo (de .u64 (64:Int) (dD .u64 x1)))),(bM .u64 (gq .u64 lo (dD .u64 x1)) (32:Int)),(cn .and .u64 (gq .u64 lo (dD .u64 x1)) (4294967295:Int)),(kJ .u64 (cn .or .u64 (gq .u64 hi (dD .u64 x1)) (bM .u64 lo (de .u64 (64:Int) (dD .u64 x1)))) (bM .u64 (gq .u64 yv (dD .u64 x1)) (32:Int))),(de .u64 (cn .or .u64 (gq .u64 hi (dD .u64 x1)) (bM .u64 lo (de .u64 (64:Int) (dD .u64 x1)))) (eS .u64 (kJ .u64 (cn .or .u64 (gq .u64 hi (dD .u64 x1)) (bM .u64 lo (de .u64 (64:Int) (dD .u64 x1)))) (bM .u64 (gq .u64 yv (dD .u64 x1)) (32:Int))) (bM .u64 (gq .u64 yv (dD .u64 x1)) (32:Int)))))) fun x2=>
     aK (iE x2.1.2.2.1) (
     aj (aR.L1.call (x2.1.1,x2.1.2.1,x2.1.2.2.1,x2.1.2.2.2.1,x2.1.2.2.2.2.2.2,x2.2,(de .u64 (de .u64 (bK .u64 (eS .u64 x2.1.2.2.2.2.1 (4294967296:Int)) x2.1.2.2.2.2.2.1) (eS .u64 x2.2 x2.1.1)) (eS .u64 (kJ .u64 (de .u64 (bK .u64 (eS .u64 x2.1.2.2.2.2.1 (4294967296:Int)) x2.1.2.2.2.2.2.1) (eS .u64 x2.2 x2.1.1)) x2.1.2.2.1) x2.1.2.2.1)),(de .u64 (bK .u64 (eS .u64 x2.1.2.2.2.2.1 (4294967296:Int)) x2.1.2.2.2.2.2.1) (eS .u64 x2.2 x2.1.1)),(kJ .u64 (de .u64 (bK .u64 (eS .u64 x2.1.2.2.2.2.1 (4294967296:Int)) x2.1.2.2.2.2.2.1) (eS .u64 x2.2 x2.1.1)) x2.1.2.2.1))) fun x3=>
     aK (gI x3.1.2.1) (
     k (aR.out ((bK .u64 (eS .u64 x3.1.2.2.2.1 (4294967296:Int)) x3.2),(bM .u64 (de .u64 (bK .u64 (eS .u64 x3.1.2.2.2.2 (4294967296:Int)) x3.1.2.2.1) (eS .u64 x3.2 x3.1.1)) x3.1.2.1)))) none) none) none) none) none) none) none))):=by kernel_rfl
theorem aR.L0.ok:aR.L0.Ok:=by
 refine aR.L0.aG (fun(y,sv,yn1,yn0,u,w,un0,q,r)=>q.toNat) ?_
 rintro⟨y,sv,yn1,yn0,u,w,un0,q,r⟩ ⟨e,he,rfl,rfl,rfl,hu,hu2,hw,hw2,hr,hr2,hq,hQ⟩
 have hu:0≤u:=hu
 have hu2:u < 18446744073709551616 - e:=hu2
 have hw:0≤w:=hw
 have hw2:w < 4294967296:=hw2
 have hr:0≤r:=hr
 have hr2:r < 4294967296:=hr2
 have hq:q*4294967295+r=u:=hq
 obtain⟨k1,k2,k3,k4,k5,k6⟩:=k1 he hu hu2 hw hw2 hr hr2 hq hQ
 have q0:0≤q:=Int.le_trans k5 hQ
 have a1:bK .u64 r 4294967295=r+4294967295:=by rw[ku];omega
 have a2:bK .u64 (eS .u64 4294967296 r) w=4294967296*r+w:=by rw[ky,ku];omega
 have a3:q < 4294967296→eS .u64 q (4294967296 - e)=q*(4294967296 - e):=by
  intro h;rw[ky];rcases he with rfl | rfl | rfl <;> omega
 have a4:0 < q→de .u64 q 1=q - 1:=by intro h;rw[q9];omega
 have pos:4294967296≤q∨(q < 4294967296∧4294967296*r+w < q*(4294967296 - e))→0 < q∧(u*4294967296+w) / (18446744073709551616 - e)≤q - 1:=by
  rintro(h | ⟨h,h2⟩)
  ·exact⟨by omega,k1 h⟩
  ·exact⟨by have:=k2 h h2;omega,k2 h h2⟩
 by_cases hc:4294967296≤q∨(q < 4294967296∧4294967296*r+w < q*(4294967296 - e))
 ·obtain⟨p1,p2⟩:=pos hc
  by_cases hb:4294967296≤r+4294967295
  ·right
   have hF:aR.L0.F (18446744073709551616 - e,sv,4294967295,4294967296 - e,u,w,un0,q,r)=q - 1:=k4 hb p2
   intro R kn kx
   rw[aR.L0.step,a1,a2,a4 p1,fX hb,hF]
   rcases hc with h | ⟨h,h2⟩
   ·rw[fX h];rfl
   ·rw[eI (by omega),a3 h,dL h2];rfl
  ·left
   refine⟨(18446744073709551616 - e,sv,4294967295,4294967296 - e,u,w,un0,q - 1,r+4294967295),⟨e,he,rfl,rfl,rfl,hu,hu2,hw,hw2,by omega,by omega,by omega,p2⟩,by simp only[];omega,rfl,fun kn kx=> ?_⟩
   rw[aR.L0.step,a1,a2,a4 p1,eI hb]
   rcases hc with h | ⟨h,h2⟩
   ·rw[fX h];rfl
   ·rw[eI (by omega),a3 h,dL h2];rfl
 ·right
  have h:q < 4294967296:=by omega
  have h2:¬4294967296*r+w < q*(4294967296 - e):=fun x=>hc (Or.inr ⟨h,x⟩)
  have hF:aR.L0.F (18446744073709551616 - e,sv,4294967295,4294967296 - e,u,w,un0,q,r)=q:=k3 h (by omega)
  intro R kn kx
  rw[aR.L0.step,a2,a3 h,eI (by omega),dC h2,hF]
  rfl
theorem aR.L1.ok:aR.L1.Ok:=by
 refine aR.L1.aG (fun(y,sv,yn1,yn0,w,q1,r,u,q)=>q.toNat) ?_
 rintro⟨y,sv,yn1,yn0,w,q1,r,u,q⟩ ⟨e,he,rfl,rfl,rfl,hu,hu2,hw,hw2,hr,hr2,hq,hQ⟩
 have hu:0≤u:=hu
 have hu2:u < 18446744073709551616 - e:=hu2
 have hw:0≤w:=hw
 have hw2:w < 4294967296:=hw2
 have hr:0≤r:=hr
 have hr2:r < 4294967296:=hr2
 have hq:q*4294967295+r=u:=hq
 obtain⟨k1,k2,k3,k4,k5,k6⟩:=k1 he hu hu2 hw hw2 hr hr2 hq hQ
 have q0:0≤q:=Int.le_trans k5 hQ
 have a1:bK .u64 r 4294967295=r+4294967295:=by rw[ku];omega
 have a2:bK .u64 (eS .u64 4294967296 r) w=4294967296*r+w:=by rw[ky,ku];omega
 have a3:q < 4294967296→eS .u64 q (4294967296 - e)=q*(4294967296 - e):=by
  intro h;rw[ky];rcases he with rfl | rfl | rfl <;> omega
 have a4:0 < q→de .u64 q 1=q - 1:=by intro h;rw[q9];omega
 have pos:4294967296≤q∨(q < 4294967296∧4294967296*r+w < q*(4294967296 - e))→0 < q∧(u*4294967296+w) / (18446744073709551616 - e)≤q - 1:=by
  rintro(h | ⟨h,h2⟩)
  ·exact⟨by omega,k1 h⟩
  ·exact⟨by have:=k2 h h2;omega,k2 h h2⟩
 by_cases hc:4294967296≤q∨(q < 4294967296∧4294967296*r+w < q*(4294967296 - e))
 ·obtain⟨p1,p2⟩:=pos hc
  by_cases hb:4294967296≤r+4294967295
  ·right
   have hF:aR.L1.F (18446744073709551616 - e,sv,4294967295,4294967296 - e,w,q1,r,u,q)=q - 1:=k4 hb p2
   intro R kn kx
   rw[aR.L1.step,a1,a2,a4 p1,fX hb,hF]
   rcases hc with h | ⟨h,h2⟩
   ·rw[fX h];rfl
   ·rw[eI (by omega),a3 h,dL h2];rfl
  ·left
   refine⟨(18446744073709551616 - e,sv,4294967295,4294967296 - e,w,q1,r+4294967295,u,q - 1),⟨e,he,rfl,rfl,rfl,hu,hu2,hw,hw2,by omega,by omega,by omega,p2⟩,by simp only[];omega,rfl,fun kn kx=> ?_⟩
   rw[aR.L1.step,a1,a2,a4 p1,eI hb]
   rcases hc with h | ⟨h,h2⟩
   ·rw[fX h];rfl
   ·rw[eI (by omega),a3 h,dL h2];rfl
 ·right
  have h:q < 4294967296:=by omega
  have h2:¬4294967296*r+w < q*(4294967296 - e):=fun x=>hc (Or.inr ⟨h,x⟩)
  have hF:aR.L1.F (18446744073709551616 - e,sv,4294967295,4294967296 - e,w,q1,r,u,q)=q:=k3 h (by omega)
  intro R kn kx
  rw[aR.L1.step,a2,a3 h,eI (by omega),dC h2,hF]
  rfl
theorem CY{y hi lo:Int}(hy:DO y)(h0:0≤hi)(h1:hi < y)(h2:0≤lo)(h3:lo < 18446744073709551616):∃(s:Nat) (e m:Int),fq.F y=s∧(s=2∨s=3)∧m=2^s∧(e=42260∨e=42264∨e=42272)∧y*m=18446744073709551616 - e∧
  gq .u64 y (s:Int)=18446744073709551616 - e∧
  cn .or .u64 (gq .u64 hi (s:Int)) (bM .u64 lo (de .u64 64 (s:Int)))=(hi*18446744073709551616+lo)*m / 18446744073709551616∧
  gq .u64 lo (s:Int)=(hi*18446744073709551616+lo)*m%18446744073709551616∧
  (hi*18446744073709551616+lo)*m / 18446744073709551616 < 18446744073709551616 - e∧
  (hi*18446744073709551616+lo)*m / (18446744073709551616 - e)=(hi*18446744073709551616+lo) / y∧
  (hi*18446744073709551616+lo)*m%(18446744073709551616 - e) / m=(hi*18446744073709551616+lo)%y:=by
 have e1:de .u64 64 ((2:Nat):Int)=((62:Nat):Int):=rfl
 have e2:de .u64 64 ((3:Nat):Int)=((61:Nat):Int):=rfl
 have p2:(2:Int)^2=4:=rfl
 have p3:(2:Int)^3=8:=rfl
 have p61:(2:Int)^61=2305843009213693952:=rfl
 have p62:(2:Int)^62=4611686018427387904:=rfl
 obtain rfl | rfl | rfl:=hy
 ·refine⟨2,42260,4,rfl,Or.inl rfl,rfl,Or.inl rfl,rfl,by rw[jM 2 (by rfl) (by omega),p2];omega,?_,?_,by omega,by omega,by omega⟩
  ·rw[e1,jM 2 (by rfl) (by omega),jN 62 (by rfl) (by omega),p2,p62,pk 2 4 rfl (by omega) (by omega) (by omega) (by omega) (by omega) (by omega)];omega
  ·rw[jM 2 (by rfl) (by omega),p2];omega
 ·refine⟨3,42264,8,rfl,Or.inr rfl,rfl,Or.inr (Or.inl rfl),rfl,by rw[jM 3 (by rfl) (by omega),p3];omega,?_,?_,by omega,by omega,by omega⟩
  ·rw[e2,jM 3 (by rfl) (by omega),jN 61 (by rfl) (by omega),p3,p61,pk 3 8 rfl (by omega) (by omega) (by omega) (by omega) (by omega) (by omega)];omega
  ·rw[jM 3 (by rfl) (by omega),p3];omega
 ·refine⟨3,42272,8,rfl,Or.inr rfl,rfl,Or.inr (Or.inr rfl),rfl,by rw[jM 3 (by rfl) (by omega),p3];omega,?_,?_,by omega,by omega,by omega⟩
  ·rw[e2,jM 3 (by rfl) (by omega),jN 61 (by rfl) (by omega),p3,p61,pk 3 8 rfl (by omega) (by omega) (by omega) (by omega) (by omega) (by omega)];omega
  ·rw[jM 3 (by rfl) (by omega),p3];omega
theorem Ev(a b c:Int):(((a%18446744073709551616+b)%18446744073709551616) - c%18446744073709551616)%18446744073709551616=(a+b - c)%18446744073709551616:=by omega
theorem aR.ok:aR.Ok:=by
 rintro⟨hi,lo,y⟩ ⟨hy,h0,h1,h2,h3⟩
 have h0:0≤hi:=h0
 have h1:hi < y:=h1
 have h2:0≤lo:=h2
 have h3:lo < 18446744073709551616:=h3
 have yb:0 < y∧y < 18446744073709551616:=by obtain rfl | rfl | rfl:=hy <;> omega
 rw[aR.eq,eP (by omega),kC (by omega)]
 simp only[aw]
 have z:iE y=true:=by simp[iE];omega
 by_cases hz:hi=0
 ·subst hz
  rw[dm rfl,z,yE h2 (by omega) h3,nN h2]
  simp only[ax,aR.F,aR.add,Int.zero_mul,Int.zero_add]
 ·obtain⟨s,e,m,hs,hs2,hm,he,hym,a1,a2,a3,a4,a5,a6⟩:=CY hy h0 h1 h2 h3
  have c1:dD .u64 (s:Int)=(s:Int):=by rw[AN];omega
  have c2:gI (s:Int)=true:=jW (by omega)
  have c3:gI (de .u64 64 (s:Int))=true:=by rcases hs2 with rfl | rfl <;> rfl
  rw[eP hz,fq.run (d:=y) hy]
  simp only[aw,ab,fq.add,hs,c1,c2,c3,ax,a1,a2,a3]
  have hN:0≤(hi*18446744073709551616+lo)*m:=Int.mul_nonneg (by omega) (by rcases hs2 with rfl | rfl <;> omega)
  revert a4 a5 a6
  generalize (hi*18446744073709551616+lo)*m=N at hN
  intro a4 a5 a6
  have u0:0≤N / 18446744073709551616:=by omega
  have t0:0≤N%18446744073709551616:=by omega
  have t1:N%18446744073709551616 < 18446744073709551616:=by omega
  have hd:N=(N / 18446744073709551616*4294967296+N%18446744073709551616 / 4294967296)*4294967296+N%18446744073709551616%4294967296:=by omega
  have w10:0≤N%18446744073709551616 / 4294967296:=by omega
  have w11:N%18446744073709551616 / 4294967296 < 4294967296:=by omega
  have w00:0≤N%18446744073709551616%4294967296:=by omega
  have w01:N%18446744073709551616%4294967296 < 4294967296:=by omega
  have p32:(2:Int)^32=4294967296:=rfl
  have b1:bM .u64 (18446744073709551616 - e) 32=4294967295:=by rw[jN 32 (by rfl) (by omega),p32];rcases he with rfl | rfl | rfl <;> rfl
  have b2:cn .and .u64 (18446744073709551616 - e) 4294967295=4294967296 - e:=by rw[vm (by omega) (by omega)];omega
  have b3:bM .u64 (N%18446744073709551616) 32=N%18446744073709551616 / 4294967296:=by rw[jN 32 (by rfl) (by omega),p32]
  have b4:cn .and .u64 (N%18446744073709551616) 4294967295=N%18446744073709551616%4294967296:=vm t0 t1
  have z2:iE 4294967295=true:=rfl
  simp only[b1,b2,b3,b4,z2,ax]
  clear a1 a2 a3 b1 b2 b3 b4
  have kdd:=kd (18446744073709551616 - e) (N / 18446744073709551616) (N%18446744073709551616 / 4294967296) (N%18446744073709551616%4294967296) (by omega) w00 w01
  rw[←hd,a5]at kdd
  revert a4 kdd
  generalize N / 18446744073709551616=u at u0
  generalize N%18446744073709551616 / 4294967296=w1 at w10 w11
  generalize N%18446744073709551616%4294967296=w0 at w00 w01
  intro a4 kdd
  have g:∀u w:Int,0≤u→u < 18446744073709551616 - e→0≤w→w < 4294967296→
    kJ .u64 u 4294967295=u / 4294967295∧de .u64 u (eS .u64 (u / 4294967295) 4294967295)=u - u / 4294967295*4294967295∧
    de .u64 (bK .u64 (eS .u64 u 4294967296) w) (eS .u64 ((u*4294967296+w) / (18446744073709551616 - e)) (18446744073709551616 - e))=(u*4294967296+w)%(18446744073709551616 - e):=by
   intro u w k1 k2 k3 k4
   obtain⟨q1,q2,q3,q4,q5,q6,q7,q8⟩:=k0 he k1 k2 k3 k4
   refine⟨yE k1 (by omega) (by omega),by rw[q9,ky];omega,?_⟩
   rw[q9,ku,ky,ky,Ev,q4]
   exact Int.emod_eq_of_lt q5 (by omega)
  obtain⟨f1,f2,f3⟩:=g u w1 u0 a4 w10 w11
  obtain⟨q1,q2,q3,q4,q5,q6,q7,q8⟩:=k0 he u0 a4 w10 w11
  have p1:aR.L0.aC (18446744073709551616 - e,(s:Int),4294967295,4294967296 - e,u,w1,w0,u / 4294967295,u - u / 4294967295*4294967295):=⟨e,he,rfl,rfl,rfl,u0,a4,w10,w11,q2,q3,by omega,q1⟩
  rw[f1,f2,aR.L0.run p1]
  simp only[ab,aR.L0.add,aR.L0.F,z2,ax,f3]
  revert f3 q1 kdd
  generalize (u*4294967296+w1)%(18446744073709551616 - e)=v at q4 q5 q6
  generalize (u*4294967296+w1) / (18446744073709551616 - e)=Q at q4 q7 q8
  intro kdd f3 q1
  obtain⟨g1,g2,g3⟩:=g v w0 q5 q6 w00 w01
  obtain⟨r1,r2,r3,r4,r5,r6,r7,r8⟩:=k0 he q5 q6 w00 w01
  have p2:aR.L1.aC (18446744073709551616 - e,(s:Int),4294967295,4294967296 - e,w0,Q,v - v / 4294967295*4294967295,v,v / 4294967295):=⟨e,he,rfl,rfl,rfl,q5,q6,w00,w01,r2,r3,by omega,r1⟩
  rw[g1,g2,aR.L1.run p2]
  simp only[ab,aR.L1.add,aR.L1.F,c2,ax,g3]
  rw[←kdd.2,jN s (by rfl) (by omega),←hm,a6,ky,ku]
  have e9:(Q*4294967296%18446744073709551616+(v*4294967296+w0) / (18446744073709551616 - e))%18446744073709551616=(hi*18446744073709551616+lo) / y:=by rw[kdd.1];omega
  rw[e9]
  rfl
noncomputable def aR.E:=Entry.ct [some tu,some tu,some tu] aR.st aR.aC aR.add aR.F aR.out
noncomputable def aR.call:aR.D→Option aR.X:=bH aR.E aR.st
theorem aR.run:bD aR.call aR.aC aR.add aR.F:=cO (cM [.d tu,.d tu,.d tu] fun _=>by kernel_rfl)
noncomputable def aR.sg:SG Tryz.prog:=⟨174,aV,aR.E,.fn 2 (by kernel_rfl) aR.ok (And.intro (.ct aR.L0.ok (by kernel_rfl)) (And.intro (.ct aR.L1.ok (by kernel_rfl)) trivial))⟩
abbrev dq.D:=Int×Int×Int
def dq.st:dq.D→SA:=fun(hi,lo,yv)=>([.d tu hi,.d tu lo,.d tu yv],[])
abbrev dq.Y:=Int
abbrev dq.X:=Int
def dq.out:dq.X→aZ:=fun x=>⟨.d tu x,[],[]⟩
def dq.add:dq.D→dq.Y→dq.X:=fun(hi,lo,yv) y=>y
def dq.aC:dq.D→Prop:=fun(hi,lo,y)=>DO y∧0≤hi∧hi < 18446744073709551616∧0≤lo∧lo < 18446744073709551616
def dq.F:dq.D→dq.Y:=fun(hi,lo,y)=>(hi*18446744073709551616+lo)%y
noncomputable def dq.G:dQ:=eR (P:=Tryz.prog) [aR.sg]
noncomputable def dq.an:eC:= {}
noncomputable def dq.A:= @cH Tryz.prog dq.G dq.an 0 Tryz.f157 _ dq.st
abbrev dq.Ok:=cI @dq.A dq.aC dq.add dq.F dq.out
theorem dq.eq{R:Type}(hi:Int)(lo:Int)(yv:Int)(k:aZ→Option R):dq.A (hi,lo,yv) k=
 aK (iE yv) (
 aj (aR.call ((iX hi yv),lo,yv)) fun x1=>
 k (dq.out x1.2)) none:=by kernel_rfl
theorem dq.ok:dq.Ok:=by
 rintro⟨hi,lo,y⟩ ⟨hy,h0,h1,h2,h3⟩
 have h0:0≤hi:=h0
 have yb:0 < y:=by obtain rfl | rfl | rfl:=hy <;> omega
 have z:iE y=true:=by simp[iE];omega
 have p:aR.aC (hi%y,lo,y):=⟨hy,Int.emod_nonneg _ (by omega),Int.emod_lt_of_pos _ yb,h2,h3⟩
 rw[dq.eq,z,nN h0,aR.run p]
 have e:(hi%y*18446744073709551616+lo)%y=(hi*18446744073709551616+lo)%y:=by
  rw[Int.add_emod,Int.mul_emod,Int.emod_emod_of_dvd _ (Int.dvd_refl y),←Int.mul_emod,←Int.add_emod]
 simp only[ax,ab,aR.add,aR.F,dq.add,dq.F,e]
noncomputable def dq.E:=Entry.ct [some tu,some tu,some tu] dq.st dq.aC dq.add dq.F dq.out
noncomputable def dq.call:dq.D→Option dq.X:=bH dq.E dq.st
theorem dq.run:bD dq.call dq.aC dq.add dq.F:=cO (cM [.d tu,.d tu,.d tu] fun _=>by kernel_rfl)
noncomputable def dq.sg:SG Tryz.prog:=⟨157,aV,dq.E,.fn 0 (by kernel_rfl) dq.ok trivial⟩
abbrev dA.D:=Int×Int
def dA.st:dA.D→SA:=fun(x,yv)=>([.d tu x,.d tu yv],[])
abbrev dA.Y:=Int×Int
abbrev dA.X:=Int×Int
def dA.out:dA.X→aZ:=fun x=>⟨.cons (.d tu x.1) (.cons (.d tu x.2) (.nil)),[],[]⟩
def dA.add:dA.D→dA.Y→dA.X:=fun(x,yv) y=>y
def dA.aC:dA.D→Prop:=fun(x,y)=>(0≤x∧x < 18446744073709551616)∧0≤y∧y < 18446744073709551616
def dA.F:dA.D→dA.Y:=fun(x,y)=>(x*y / 18446744073709551616,x*y%18446744073709551616)
noncomputable def dA.G:dQ:=eR (P:=Tryz.prog) []
noncomputable def dA.an:eC:= {}
noncomputable def dA.A:= @cH Tryz.prog dA.G dA.an 0 Tryz.f168 _ dA.st
abbrev dA.Ok:=cI @dA.A dA.aC dA.add dA.F dA.out
theorem dA.eq{R:Type}(x:Int)(yv:Int)(k:aZ→Option R):dA.A (x,yv) k=
 k (dA.out ((bK .u64 (bK .u64 (eS .u64 (bM .u64 x (32:Int)) (bM .u64 yv (32:Int))) (bM .u64 (bK .u64 (eS .u64 (bM .u64 x (32:Int)) (cn .and .u64 yv (4294967295:Int))) (bM .u64 (eS .u64 (cn .and .u64 x (4294967295:Int)) (cn .and .u64 yv (4294967295:Int))) (32:Int))) (32:Int))) (bM .u64 (bK .u64 (cn .and .u64 (bK .u64 (eS .u64 (bM .u64 x (32:Int)) (cn .and .u64 yv (4294967295:Int))) (bM .u64 (eS .u64 (cn .and .u64 x (4294967295:Int)) (cn .and .u64 yv (4294967295:Int))) (32:Int))) (4294967295:Int)) (eS .u64 (cn .and .u64 x (4294967295:Int)) (bM .u64 yv (32:Int)))) (32:Int))),(eS .u64 x yv))):=by kernel_rfl
theorem qe{a b m n:Int}(h0:0≤a)(h1:a≤m)(h2:0≤b)(h3:b≤n):0≤a*b∧a*b≤m*n:=
 ⟨Int.mul_nonneg h0 h2,Int.mul_le_mul h1 h3 h2 (Int.le_trans h0 h1)⟩
theorem dA.ok:dA.Ok:=by
 rintro⟨x,y⟩ ⟨⟨h0,h1⟩,h2,h3⟩
 have h0:0≤x:=h0
 have h1:x < 18446744073709551616:=h1
 have h2:0≤y:=h2
 have h3:y < 18446744073709551616:=h3
 rw[dA.eq]
 have p32:(2:Int)^32=4294967296:=rfl
 have s32:∀x:Int,bM .u64 x 32=x / 4294967296:=fun x=>by rw[jN 32 (by rfl) (by omega),p32]
 simp only[s32,vm h0 h1,vm h2 h3]
 obtain⟨a,b,rfl,a0,a1,b0,b1⟩:∃a b:Int,x=a*4294967296+b∧0≤a∧a≤4294967295∧0≤b∧b≤4294967295:=⟨x / 4294967296,x%4294967296,by omega,by omega,by omega,by omega,by omega⟩
 obtain⟨c,d,rfl,c0,c1,d0,d1⟩:∃a b:Int,y=a*4294967296+b∧0≤a∧a≤4294967295∧0≤b∧b≤4294967295:=⟨y / 4294967296,y%4294967296,by omega,by omega,by omega,by omega,by omega⟩
 have e1:(a*4294967296+b) / 4294967296=a:=by omega
 have e2:(a*4294967296+b)%4294967296=b:=by omega
 have e3:(c*4294967296+d) / 4294967296=c:=by omega
 have e4:(c*4294967296+d)%4294967296=d:=by omega
 have e5:(a*4294967296+b)*(c*4294967296+d)=a*c*18446744073709551616+(a*d+b*c)*4294967296+b*d:=by
  have q:(4294967296:Int)*4294967296=18446744073709551616:=rfl
  rw[Int.add_mul,Int.mul_add,Int.mul_add]
  have q1:a*4294967296*(c*4294967296)=a*c*18446744073709551616:=by rw[←q];ac_rfl
  have q2:a*4294967296*d=a*d*4294967296:=by ac_rfl
  have q3:b*(c*4294967296)=b*c*4294967296:=by ac_rfl
  rw[q1,q2,q3];omega
 obtain⟨m1,m2⟩:=qe a0 a1 c0 c1
 obtain⟨m3,m4⟩:=qe a0 a1 d0 d1
 obtain⟨m5,m6⟩:=qe b0 b1 c0 c1
 obtain⟨m7,m8⟩:=qe b0 b1 d0 d1
 have n:(4294967295:Int)*4294967295=18446744065119617025:=rfl
 rw[n]at m2 m4 m6 m8
 simp only[e1,e2,e3,e4,dA.add,dA.F,e5,ky,ku]
 revert m1 m2 m3 m4 m5 m6 m7 m8
 generalize a*c=ac
 generalize a*d=ad
 generalize b*c=bc
 generalize b*d=bd
 intro m1 m2 m3 m4 m5 m6 m7 m8
 have q1:bd%18446744073709551616=bd:=by omega
 have q2:ad%18446744073709551616=ad:=by omega
 have q3:bc%18446744073709551616=bc:=by omega
 have q4:ac%18446744073709551616=ac:=by omega
 rw[q1,q2,q3,q4]
 have q5:(ad+bd / 4294967296)%18446744073709551616=ad+bd / 4294967296:=by omega
 have q6:cn .and .u64 (ad+bd / 4294967296) 4294967295=(ad+bd / 4294967296)%4294967296:=vm (by omega) (by omega)
 rw[q5,q6]
 refine congrArg some (congrArg dA.out (Prod.ext ?_ ?_))
 ·show _=(_:Int)
  simp only[]
  omega
 ·rfl
noncomputable def dA.E:=Entry.ct [some tu,some tu] dA.st dA.aC dA.add dA.F dA.out
noncomputable def dA.call:dA.D→Option dA.X:=bH dA.E dA.st
theorem dA.run:bD dA.call dA.aC dA.add dA.F:=cO (cM [.d tu,.d tu] fun _=>by kernel_rfl)
noncomputable def dA.sg:SG Tryz.prog:=⟨168,aV,dA.E,.fn 0 (by kernel_rfl) dA.ok trivial⟩
set_option synthInstance.maxSize 5000
def Pn(x:Int):Prop:=0≤x∧x < 4611686018427377339
def g9(x:Int):Prop:=0≤x∧x < 18446744073709551616
theorem Pn.u{x:Int}(h:Pn x):g9 x:=⟨h.1,by have:=h.2;omega⟩
def jo(a b:Int):Int:=a*b%4611686018427377339
theorem lf(a b:Int):Pn (jo a b):=⟨Int.emod_nonneg _ (by omega),Int.emod_lt_of_pos _ (by omega)⟩
def yR:Nat→Int→Nat→Int→Int
 | 0,_,_,out=>out
 |f+1,a,n,out=>if n=0 then out else yR f (jo a a) (n / 2) (if n%2=1 then jo out a else out)
def pw(a:Int)(n:Nat):Int:=yR 64 a n 1
theorem lT(f:Nat)(a out:Int):yR f a 0 out=out:=by cases f <;> rfl
theorem wG:∀(f g:Nat) (a:Int) (n:Nat) (out:Int),n < 2^f→n < 2^g→yR f a n out=yR g a n out
 | 0,g,a,n,out,h,_=>by
  obtain rfl:n=0:=by omega
  rw[lT,lT]
 |f+1,0,a,n,out,_,h=>by
  obtain rfl:n=0:=by omega
  rw[lT,lT]
 |f+1,g+1,a,n,out,h,h'=>by
  have e:(2:Nat)^(f+1)=2^f*2:=Nat.pow_succ 2 f
  have e':(2:Nat)^(g+1)=2^g*2:=Nat.pow_succ 2 g
  unfold yR
  split
  ·rfl
  ·exact wG f g _ _ _ (by omega) (by omega)
theorem Bf:∀(f:Nat) (a:Int) (n:Nat) (out:Int),Pn out→Pn (yR f a n out)
 | 0,_,_,_,h=>h
 |f+1,a,n,out,h=>by
  unfold yR
  split
  ·exact h
  ·refine Bf f _ _ _ ?_
   split
   ·exact lf _ _
   ·exact h
theorem wH(a:Int)(n:Nat):Pn (pw a n):=Bf _ _ _ _ ⟨by omega,by omega⟩
abbrev cW.D:=Int×Int
def cW.st:cW.D→SA:=fun(a,b)=>([.d tu a,.d tu b],[])
abbrev cW.Y:=Int
abbrev cW.X:=Int
def cW.out:cW.X→aZ:=fun x=>⟨.d tu x,[],[]⟩
def cW.add:cW.D→cW.Y→cW.X:=fun(a,b) y=>y
def cW.aC:cW.D→Prop:=fun(a,b)=>g9 a∧g9 b
def cW.F:cW.D→cW.Y:=fun(a,b)=>jo a b
noncomputable def cW.G:dQ:=eR (P:=Tryz.prog) [dA.sg,dq.sg]
noncomputable def cW.an:eC:= {}
noncomputable def cW.A:= @cH Tryz.prog cW.G cW.an 0 Tryz.f151 _ cW.st
abbrev cW.Ok:=cI @cW.A cW.aC cW.add cW.F cW.out
theorem cW.eq{R:Type}(a:Int)(b:Int)(k:aZ→Option R):cW.A (a,b) k=
 aj (dA.call (a,b)) fun x1=>
 aj (dq.call (x1.1,x1.2,(4611686018427377339:Int))) fun x2=>
 k (cW.out x2):=by kernel_rfl
theorem sK(n:Int):n / 18446744073709551616*18446744073709551616+n%18446744073709551616=n:=by omega
theorem cW.ok:cW.Ok:=by
 rintro⟨a,b⟩ ⟨ha,hb⟩
 have ha:g9 a:=ha
 have hb:g9 b:=hb
 obtain⟨m1,m2⟩:=qe ha.1 (show a≤18446744073709551615 by have:=ha.2;omega) hb.1 (show b≤18446744073709551615 by have:=hb.2;omega)
 have n:(18446744073709551615:Int)*18446744073709551615=340282366920938463426481119284349108225:=rfl
 rw[n]at m2
 have p:dq.aC (a*b / 18446744073709551616,a*b%18446744073709551616,4611686018427377339):=⟨Or.inl rfl,by omega,by omega,by omega,by omega⟩
 rw[cW.eq,dA.run (d:=(a,b)) ⟨ha,hb⟩]
 simp only[ab,dA.add,dA.F]
 rw[dq.run p]
 simp only[ab,dq.add,dq.F,sK]
 rfl
noncomputable def cW.E:=Entry.ct [some tu,some tu] cW.st cW.aC cW.add cW.F cW.out
noncomputable def cW.call:cW.D→Option cW.X:=bH cW.E cW.st
theorem cW.run:bD cW.call cW.aC cW.add cW.F:=cO (cM [.d tu,.d tu] fun _=>by kernel_rfl)
noncomputable def cW.sg:SG Tryz.prog:=⟨151,aV,cW.E,.fn 0 (by kernel_rfl) cW.ok trivial⟩
abbrev aY.L0.D:=Int×Int×Int
def aY.L0.st:aY.L0.D→AS:=fun(a_2,n_2,outv)=>⟨([.d tu a_2,.d tu n_2,.undef,.undef,.undef,.d tu outv]++a9 14 []),[],(List.replicate 20 [])⟩
abbrev aY.L0.Y0:=Int
abbrev aY.L0.X0:=Int
def aY.L0.bq:aY.L0.X0→Exit×AS:=fun x=>(.exit 0,⟨(a9 5 ([.d tu x]++a9 14 [])),[],(List.replicate 20 [])⟩)
abbrev aY.L0.X:=aY.L0.X0
abbrev aY.L0.Y:=aY.L0.Y0
def aY.L0.out:aY.L0.X→Out (Exit×AS):=fun x=> .ok (aY.L0.bq x)
def aY.L0.add:aY.L0.D→aY.L0.Y→aY.L0.X:=fun(a_2,n_2,outv) y=>y
abbrev aY.D:=Int×Int
def aY.st:aY.D→SA:=fun(a,n)=>([.d tu a,.d tu n],[])
abbrev aY.Y:=Int
abbrev aY.X:=Int
def aY.out:aY.X→aZ:=fun x=>⟨.d tu x,[],[]⟩
def aY.add:aY.D→aY.Y→aY.X:=fun(a,n) y=>y
def aY.L0.aC:aY.L0.D→Prop:=fun(a,n,o)=>g9 a∧g9 n∧Pn o
def aY.L0.F:aY.L0.D→aY.L0.Y:=fun(a,n,o)=>yR 64 a n.toNat o
def aY.aC:aY.D→Prop:=fun(a,n)=>g9 a∧g9 n
def aY.F:aY.D→aY.Y:=fun(a,n)=>pw a n.toNat
noncomputable def aY.G:dQ:=eR (P:=Tryz.prog) [cW.sg]
noncomputable def aY.L0.E:=bN.ct aY.L0.st aY.L0.aC aY.L0.add aY.L0.F aY.L0.out
noncomputable def aY.L0.call:aY.L0.D→Option aY.L0.X:=dh aY.L0.E aY.L0.st
noncomputable def aY.an:eC:= {loops:=jJ [(2,{bm:=[0,1,5]})],outs:=jI [(2,{bm:=[5]},{bm:=[4]})],fG:=kh [(2,aY.L0.E)]}
noncomputable def aY.A:= @cH Tryz.prog aY.G aY.an 0 Tryz.f116 _ aY.st
abbrev aY.Ok:=cI @aY.A aY.aC aY.add aY.F aY.out
noncomputable def aY.L0.R:= @bX Tryz.prog aY.G aY.an 0 Tryz.f116 0 _ aY.L0.st
abbrev aY.L0.Ok:=eA Tryz.prog aY.G aY.an 0 Tryz.f116 0 aY.L0.st aY.L0.aC aY.L0.add aY.L0.F aY.L0.out
theorem aY.L0.run:bD aY.L0.call aY.L0.aC aY.L0.add aY.L0.F:=eG (eE [.d tu,.d tu,.d tu] fun _=>by kernel_rfl)
theorem aY.L0.aG:fR @aY.L0.R aY.L0.st aY.L0.aC aY.L0.add aY.L0.F aY.L0.bq aY.L0.Ok:=fU
theorem aY.L0.step{R:Type}(a_2:Int)(n_2:Int)(outv:Int)(kn:AS→Option R)(kx:Exit→AS→Option R):aY.L0.R (a_2,n_2,outv) kn kx=
  aK ((mN n_2 (0:Int))) (
   aK ((mM (cn .and .u64 n_2 (1:Int)) (1:Int))) (
    aj (cW.call (outv,a_2)) fun x1=>
    aj (cW.call (a_2,a_2)) fun x2=>
    kn (aY.L0.st (x2,(bM .u64 n_2 (1:Int)),x1))) (
    aj (cW.call (a_2,a_2)) fun x3=>
    kn (aY.L0.st (x3,(bM .u64 n_2 (1:Int)),outv)))) (
   kx (aY.L0.bq outv).1 (aY.L0.bq outv).2):=by kernel_rfl
theorem aY.eq{R:Type}(a:Int)(n:Int)(k:aZ→Option R):aY.A (a,n) k=
 aj (aY.L0.call (a,n,(1:Int))) fun x4=>
 k (aY.out x4):=by kernel_rfl
theorem EL{n:Int}(h:g9 n):bM .u64 n 1=n / 2:=jN 1 (by rfl) (by omega)
theorem aY.L0.ok:aY.L0.Ok:=by
 refine aY.L0.aG (fun(a,n,o)=>n.toNat) ?_
 rintro⟨a,n,o⟩ ⟨ha,hn,ho⟩
 have ha:g9 a:=ha
 have hn:g9 n:=hn
 have ho:Pn o:=ho
 have n0:=hn.1
 have n1:=hn.2
 by_cases h:0 < n
 ·left
  have e:aY.L0.F (a,n,o)=aY.L0.F (jo a a,n / 2,if n%2=1 then jo o a else o):=by
   show yR 64 a n.toNat o=yR 64 (jo a a) (n / 2).toNat _
   rw[wG 64 65 a n.toNat o (by omega) (by omega)]
   have t1:(n / 2).toNat=n.toNat / 2:=by omega
   have t2:(n%2=1)=(n.toNat%2=1):=by apply propext;omega
   rw[t1]
   simp only[t2]
   show(if n.toNat=0 then o else _)=_
   rw[if_neg (by omega)]
  refine⟨(jo a a,n / 2,if n%2=1 then jo o a else o),⟨(lf a a).u,⟨by omega,by omega⟩,?_⟩,by show(n / 2).toNat < n.toNat;omega,?_,fun kn kx=> ?_⟩
  ·show Pn (if n%2=1 then jo o a else o)
   split
   ·exact lf _ _
   ·exact ho
  ·exact congrArg _ e.symm
  ·rw[aY.L0.step,dL h,EL hn,Es n0 n1,cW.run (d:=(o,a)) ⟨ho.u,ha⟩,cW.run (d:=(a,a)) ⟨ha,ha⟩]
   by_cases h1:n%2=1
   ·rw[dm h1,if_pos h1];rfl
   ·rw[eP h1,if_neg h1];rfl
 ·right
  intro R kn kx
  obtain rfl:n=0:=by omega
  rw[aY.L0.step,dC (by omega)]
  simp only[aw,aY.L0.add,aY.L0.F]
  rw[show yR 64 a (Int.toNat 0) o=o from lT _ _ _]
theorem aY.ok:aY.Ok:=by
 rintro⟨a,n⟩ ⟨ha,hn⟩
 rw[aY.eq,aY.L0.run (d:=(a,n,1)) ⟨ha,hn,by omega,by omega⟩]
 rfl
noncomputable def aY.E:=Entry.ct [some tu,some tu] aY.st aY.aC aY.add aY.F aY.out
noncomputable def aY.call:aY.D→Option aY.X:=bH aY.E aY.st
theorem aY.run:bD aY.call aY.aC aY.add aY.F:=cO (cM [.d tu,.d tu] fun _=>by kernel_rfl)
noncomputable def aY.sg:SG Tryz.prog:=⟨116,aV,aY.E,.fn 1 (by kernel_rfl) aY.ok (And.intro (.ct aY.L0.ok (by kernel_rfl)) trivial)⟩
set_option synthInstance.maxSize 5000
def lX(p:Int):Bool:=decide (0 < p∧p < 4611686018427377339) && decide (pw p 2305843009213688669=1)
def tk(p:Int):Int:=if lX p then p else 1
theorem Bt(p:Int):Pn (tk p):=by
 unfold tk
 split
 ·rename_i h
  simp only[lX,Bool.and_eq_true,decide_eq_true_eq]at h
  exact⟨by omega,by omega⟩
 ·exact⟨by omega,by omega⟩
def mq(p k:Int):Int:=pw (tk p) (k%2305843009213688669).toNat
def gA(k:Int):Int:=mq 4 k
def wj(p:Int):Int:=pw (tk p) 2305843009213688668
def qT(l:List Int):Int:=l.foldl (fun o p=>jo o (tk p)) 1
theorem Ci(l:List Int)(o:Int)(h:Pn o):Pn (l.foldl (fun o p=>jo o (tk p)) o):=by
 induction l generalizing o with
 |nil=>exact h
 |cons p l ih=>exact ih _ (lf _ _)
theorem Cj(l:List Int):Pn (qT l):=Ci l 1 ⟨by omega,by omega⟩
abbrev ck.D:=Int
def ck.st:ck.D→SA:=fun p=>([.d tu p],[])
abbrev ck.Y:=Bool
abbrev ck.X:=Bool
def ck.out:ck.X→aZ:=fun x=>⟨.d .bool x,[],[]⟩
def ck.add:ck.D→ck.Y→ck.X:=fun p y=>y
def ck.aC:ck.D→Prop:=fun p=>g9 p
def ck.F:ck.D→ck.Y:=fun p=>lX p
noncomputable def ck.G:dQ:=eR (P:=Tryz.prog) [aY.sg]
noncomputable def ck.an:eC:= {}
noncomputable def ck.A:= @cH Tryz.prog ck.G ck.an 0 Tryz.f62 _ ck.st
abbrev ck.Ok:=cI @ck.A ck.aC ck.add ck.F ck.out
theorem ck.eq{R:Type}(p:Int)(k:aZ→Option R):ck.A p k=
  aK ((mN p (0:Int))) (
   aK ((gb p (4611686018427377339:Int))) (
    aj (aY.call (p,(2305843009213688669:Int))) fun x1=>
    k (ck.out (mM x1 (1:Int)))) (
    k (ck.out false))) (
   k (ck.out false)):=by kernel_rfl
theorem ck.ok:ck.Ok:=by
 intro p hp
 have hp:g9 p:=hp
 rw[ck.eq,aY.run (d:=(p,2305843009213688669)) ⟨hp,by constructor <;> decide⟩]
 simp only[ab,aY.add,aY.F,ck.add,ck.F,lX]
 by_cases h:0 < p
 ·rw[dL h,ax]
  by_cases h2:p < 4611686018427377339
  ·rw[bw h2,ax,aQ ⟨h,h2⟩,Bool.true_and]
   rfl
  ·rw[bn h2,aw,aM (fun x=>h2 x.2),Bool.false_and]
 ·rw[dC h,aw,aM (fun x=>h x.1),Bool.false_and]
noncomputable def ck.E:=Entry.ct [some tu] ck.st ck.aC ck.add ck.F ck.out
noncomputable def ck.call:ck.D→Option ck.X:=bH ck.E ck.st
theorem ck.run:bD ck.call ck.aC ck.add ck.F:=cO (cM [.d tu] fun _=>by kernel_rfl)
noncomputable def ck.sg:SG Tryz.prog:=⟨62,aV,ck.E,.fn 0 (by kernel_rfl) ck.ok trivial⟩
abbrev cv.D:=Int
def cv.st:cv.D→SA:=fun p=>([.d tu p],[])
abbrev cv.Y:=Int
abbrev cv.X:=Int
def cv.out:cv.X→aZ:=fun x=>⟨.d tu x,[],[]⟩
def cv.add:cv.D→cv.Y→cv.X:=fun p y=>y
def cv.aC:cv.D→Prop:=fun p=>g9 p
def cv.F:cv.D→cv.Y:=fun p=>tk p
noncomputable def cv.G:dQ:=eR (P:=Tryz.prog) [ck.sg]
noncomputable def cv.an:eC:= {}
noncomputable def cv.A:= @cH Tryz.prog cv.G cv.an 0 Tryz.f147 _ cv.st
abbrev cv.Ok:=cI @cv.A cv.aC cv.add cv.F cv.out
theorem cv.eq{R:Type}(p:Int)(k:aZ→Option R):cv.A p k=
  aj (ck.call p) fun x1=>
  aK (x1) (
   k (cv.out p)) (
   k (cv.out (1:Int))):=by kernel_rfl
theorem cv.ok:cv.Ok:=by
 intro p hp
 rw[cv.eq,ck.run (d:=p) hp]
 simp only[ab,ck.add,ck.F,cv.add,cv.F,tk]
 cases lX p <;> rfl
noncomputable def cv.E:=Entry.ct [some tu] cv.st cv.aC cv.add cv.F cv.out
noncomputable def cv.call:cv.D→Option cv.X:=bH cv.E cv.st
theorem cv.run:bD cv.call cv.aC cv.add cv.F:=cO (cM [.d tu] fun _=>by kernel_rfl)
noncomputable def cv.sg:SG Tryz.prog:=⟨147,aV,cv.E,.fn 0 (by kernel_rfl) cv.ok trivial⟩
abbrev cZ.D:=Int×Int
def cZ.st:cZ.D→SA:=fun(p,kv)=>([.d tu p,.d tu kv],[])
abbrev cZ.Y:=Int
abbrev cZ.X:=Int
def cZ.out:cZ.X→aZ:=fun x=>⟨.d tu x,[],[]⟩
def cZ.add:cZ.D→cZ.Y→cZ.X:=fun(p,kv) y=>y
def cZ.aC:cZ.D→Prop:=fun(p,k)=>g9 p∧g9 k
def cZ.F:cZ.D→cZ.Y:=fun(p,k)=>mq p k
noncomputable def cZ.G:dQ:=eR (P:=Tryz.prog) [cv.sg,aY.sg]
noncomputable def cZ.an:eC:= {}
noncomputable def cZ.A:= @cH Tryz.prog cZ.G cZ.an 0 Tryz.f106 _ cZ.st
abbrev cZ.Ok:=cI @cZ.A cZ.aC cZ.add cZ.F cZ.out
theorem cZ.eq{R:Type}(p:Int)(kv:Int)(k:aZ→Option R):cZ.A (p,kv) k=
 aj (cv.call p) fun x1=>
 aj (aY.call (x1,(iX kv (2305843009213688669:Int)))) fun x2=>
 k (cZ.out x2):=by kernel_rfl
theorem cZ.ok:cZ.Ok:=by
 rintro⟨p,k⟩ ⟨hp,hk⟩
 have hk:g9 k:=hk
 have e:=nN (y:=2305843009213688669) hk.1
 have b:g9 (k%2305843009213688669):=⟨by omega,by omega⟩
 rw[cZ.eq,cv.run (d:=p) hp,e]
 simp only[ab,cv.add,cv.F]
 rw[aY.run (d:=(tk p,k%2305843009213688669)) ⟨(Bt p).u,b⟩]
 rfl
noncomputable def cZ.E:=Entry.ct [some tu,some tu] cZ.st cZ.aC cZ.add cZ.F cZ.out
noncomputable def cZ.call:cZ.D→Option cZ.X:=bH cZ.E cZ.st
theorem cZ.run:bD cZ.call cZ.aC cZ.add cZ.F:=cO (cM [.d tu,.d tu] fun _=>by kernel_rfl)
noncomputable def cZ.sg:SG Tryz.prog:=⟨106,aV,cZ.E,.fn 0 (by kernel_rfl) cZ.ok trivial⟩
abbrev df.D:=Int
def df.st:df.D→SA:=fun kv=>([.d tu kv],[])
abbrev df.Y:=Int
abbrev df.X:=Int
def df.out:df.X→aZ:=fun x=>⟨.d tu x,[],[]⟩
def df.add:df.D→df.Y→df.X:=fun kv y=>y
def df.aC:df.D→Prop:=fun k=>g9 k
def df.F:df.D→df.Y:=fun k=>gA k
noncomputable def df.G:dQ:=eR (P:=Tryz.prog) [cZ.sg]
noncomputable def df.an:eC:= {}
noncomputable def df.A:= @cH Tryz.prog df.G df.an 0 Tryz.f44 _ df.st
abbrev df.Ok:=cI @df.A df.aC df.add df.F df.out
theorem df.eq{R:Type}(kv:Int)(k:aZ→Option R):df.A kv k=
 aj (cZ.call ((4:Int),kv)) fun x1=>
 k (df.out x1):=by kernel_rfl
theorem df.ok:df.Ok:=by
 intro k hk
 rw[df.eq,cZ.run (d:=(4,k)) ⟨⟨by omega,by omega⟩,hk⟩]
 rfl
noncomputable def df.E:=Entry.ct [some tu] df.st df.aC df.add df.F df.out
noncomputable def df.call:df.D→Option df.X:=bH df.E df.st
theorem df.run:bD df.call df.aC df.add df.F:=cO (cM [.d tu] fun _=>by kernel_rfl)
noncomputable def df.sg:SG Tryz.prog:=⟨44,aV,df.E,.fn 0 (by kernel_rfl) df.ok trivial⟩
abbrev fv.D:=Int
def fv.st:fv.D→SA:=fun p=>([.d tu p],[])
abbrev fv.Y:=Int
abbrev fv.X:=Int
def fv.out:fv.X→aZ:=fun x=>⟨.d tu x,[],[]⟩
def fv.add:fv.D→fv.Y→fv.X:=fun p y=>y
def fv.aC:fv.D→Prop:=fun p=>g9 p
def fv.F:fv.D→fv.Y:=fun p=>wj p
noncomputable def fv.G:dQ:=eR (P:=Tryz.prog) [cv.sg,aY.sg]
noncomputable def fv.an:eC:= {}
noncomputable def fv.A:= @cH Tryz.prog fv.G fv.an 0 Tryz.f146 _ fv.st
abbrev fv.Ok:=cI @fv.A fv.aC fv.add fv.F fv.out
theorem fv.eq{R:Type}(p:Int)(k:aZ→Option R):fv.A p k=
 aj (cv.call p) fun x1=>
 aj (aY.call (x1,(2305843009213688668:Int))) fun x2=>
 k (fv.out x2):=by kernel_rfl
theorem fv.ok:fv.Ok:=by
 intro p hp
 rw[fv.eq,cv.run (d:=p) hp]
 simp only[ab,cv.add,cv.F]
 rw[aY.run (d:=(tk p,2305843009213688668)) ⟨(Bt p).u,by constructor <;> decide⟩]
 rfl
noncomputable def fv.E:=Entry.ct [some tu] fv.st fv.aC fv.add fv.F fv.out
noncomputable def fv.call:fv.D→Option fv.X:=bH fv.E fv.st
theorem fv.run:bD fv.call fv.aC fv.add fv.F:=cO (cM [.d tu] fun _=>by kernel_rfl)
noncomputable def fv.sg:SG Tryz.prog:=⟨146,aV,fv.E,.fn 0 (by kernel_rfl) fv.ok trivial⟩
abbrev cC.L0.D:=Int×Bs×Int×Int
def cC.L0.st:cC.L0.D→AS:=fun(outv,t6,t7,t8)=>⟨([.undef,.undef,.undef,.d tu outv,.undef,.undef,.d tU t6,.d ti t7,.d ti t8]++a9 9 []),[],(List.replicate 18 [])⟩
abbrev cC.L0.Y0:=Int
abbrev cC.L0.X0:=Int
def cC.L0.bq:cC.L0.X0→Exit×AS:=fun x=>(.exit 0,⟨([.undef,.undef,.undef,.d tu x]++a9 14 []),[],(List.replicate 18 [])⟩)
abbrev cC.L0.X:=cC.L0.X0
abbrev cC.L0.Y:=cC.L0.Y0
def cC.L0.out:cC.L0.X→Out (Exit×AS):=fun x=> .ok (cC.L0.bq x)
def cC.L0.add:cC.L0.D→cC.L0.Y→cC.L0.X:=fun(outv,t6,t7,t8) y=>y
abbrev cC.D:=Bs
def cC.st:cC.D→SA:=fun l=>([.d tU l],[])
abbrev cC.Y:=Int
abbrev cC.X:=Int
def cC.out:cC.X→aZ:=fun x=>⟨.d tu x,[],[]⟩
def cC.add:cC.D→cC.Y→cC.X:=fun l y=>y
def cC.L0.aC:cC.L0.D→Prop:=fun(o,l,n,i)=>Pn o∧(∀x∈l,g9 x)∧l.length≤1000000000∧n=l.length∧∃k:Nat,k≤l.length∧i=k
def cC.L0.F:cC.L0.D→cC.L0.Y:=fun(o,l,n,i)=>(l.drop i.toNat).foldl (fun o p=>jo o (tk p)) o
def cC.aC:cC.D→Prop:=fun l=>(∀x∈l,g9 x)∧l.length≤1000000000
def cC.F:cC.D→cC.Y:=fun l=>qT l
noncomputable def cC.G:dQ:=eR (P:=Tryz.prog) [cv.sg,cW.sg]
noncomputable def cC.L0.E:=bN.ct cC.L0.st cC.L0.aC cC.L0.add cC.L0.F cC.L0.out
noncomputable def cC.L0.call:cC.L0.D→Option cC.L0.X:=dh cC.L0.E cC.L0.st
noncomputable def cC.an:eC:= {loops:=jJ [(3,{bm:=[3,6,7,8]})],outs:=jI [(3,{bm:=[3]},{bm:=[2]})],fG:=kh [(3,cC.L0.E)]}
noncomputable def cC.A:= @cH Tryz.prog cC.G cC.an 0 Tryz.f144 _ cC.st
abbrev cC.Ok:=cI @cC.A cC.aC cC.add cC.F cC.out
noncomputable def cC.L0.R:= @bX Tryz.prog cC.G cC.an 0 Tryz.f144 0 _ cC.L0.st
abbrev cC.L0.Ok:=eA Tryz.prog cC.G cC.an 0 Tryz.f144 0 cC.L0.st cC.L0.aC cC.L0.add cC.L0.F cC.L0.out
theorem cC.L0.run:bD cC.L0.call cC.L0.aC cC.L0.add cC.L0.F:=eG (eE [.d tu,.d tU,.d ti,.d ti] fun _=>by kernel_rfl)
theorem cC.L0.aG:fR @cC.L0.R cC.L0.st cC.L0.aC cC.L0.add cC.L0.F cC.L0.bq cC.L0.Ok:=fU
theorem cC.L0.step{R:Type}(outv:Int)(t6:Bs)(t7:Int)(t8:Int)(kn:AS→Option R)(kx:Exit→AS→Option R):cC.L0.R (outv,t6,t7,t8) kn kx=
  aK ((gb t8 t7)) (
   aK (eh t8 (((List.length t6):Nat):Int)) (
   aj (cv.call (nth tu t6 (Int.toNat t8))) fun x1=>
   aj (cW.call (outv,x1)) fun x2=>
   kn (cC.L0.st (x2,t6,t7,(bK .i64 t8 (1:Int))))) none) (
   kx (cC.L0.bq outv).1 (cC.L0.bq outv).2):=by kernel_rfl
theorem cC.eq{R:Type}(l:Bs)(k:aZ→Option R):cC.A l k=
 aj (cC.L0.call ((1:Int),l,(((List.length l):Nat):Int),(0:Int))) fun x3=>
 k (cC.out x3):=by kernel_rfl
theorem cC.L0.ok:cC.L0.Ok:=by
 refine cC.L0.aG (fun(o,l,n,i)=>l.length - i.toNat) ?_
 rintro⟨o,l,n,i⟩ ⟨ho,hl,hb,rfl,k,hk,rfl⟩
 have ho:Pn o:=ho
 have hb:l.length≤1000000000:=hb
 have hk:k≤l.length:=hk
 by_cases h:k < l.length
 ·left
  have hx:=hl _ (List.getElem_mem h)
  have n1:nth (.int .u64) l k=l[k]:=cj (t:= .int .u64) h
  refine⟨(jo o (tk l[k]),l,l.length,((k+1:Nat):Int)),⟨lf _ _,hl,hb,rfl,k+1,by omega,rfl⟩,by simp only[Int.toNat_natCast];omega,?_,fun kn kx=> ?_⟩
  ·simp only[cC.L0.add,cC.L0.F,Int.toNat_natCast]
   rw[List.drop_eq_getElem_cons h]
   rfl
  ·rw[cC.L0.step]
   simp(disch:=omega) only[↓S1,↓if_pos,↓if_neg,if_pos,if_neg,if_true,if_false,S2,n1]
   rw[cv.run (d:=l[k]) hx]
   simp only[ab,cv.add,cv.F]
   rw[cW.run (d:=(o,tk l[k])) ⟨ho.u,(Bt _).u⟩]
   rfl
 ·right
  obtain rfl:k=l.length:=by omega
  intro R kn kx
  rw[cC.L0.step]
  simp(disch:=omega) only[↓S1,↓if_pos,↓if_neg,if_pos,if_neg,if_true,if_false,S2,cC.L0.add,cC.L0.F,List.drop_length]
  rfl
theorem cC.ok:cC.Ok:=by
 rintro l ⟨hl,hb⟩
 rw[cC.eq,cC.L0.run (d:=(1,l,l.length,0)) ⟨⟨by omega,by omega⟩,hl,hb,rfl,0,by omega,rfl⟩]
 rfl
noncomputable def cC.E:=Entry.ct [some tU] cC.st cC.aC cC.add cC.F cC.out
noncomputable def cC.call:cC.D→Option cC.X:=bH cC.E cC.st
theorem cC.run:bD cC.call cC.aC cC.add cC.F:=cO (cM [.d tU] fun _=>by kernel_rfl)
noncomputable def cC.sg:SG Tryz.prog:=⟨144,aV,cC.E,.fn 1 (by kernel_rfl) cC.ok (And.intro (.ct cC.L0.ok (by kernel_rfl)) trivial)⟩
abbrev fu.D:=Int×Int
def fu.st:fu.D→SA:=fun(p,q)=>([.d tu p,.d tu q],[])
abbrev fu.Y:=Int
abbrev fu.X:=Int
def fu.out:fu.X→aZ:=fun x=>⟨.d tu x,[],[]⟩
def fu.add:fu.D→fu.Y→fu.X:=fun(p,q) y=>y
def fu.aC:fu.D→Prop:=fun(p,q)=>g9 p∧g9 q
def fu.F:fu.D→fu.Y:=fun(p,q)=>qT [p,q]
noncomputable def fu.G:dQ:=eR (P:=Tryz.prog) [cC.sg]
noncomputable def fu.an:eC:= {}
noncomputable def fu.A:= @cH Tryz.prog fu.G fu.an 0 Tryz.f158 _ fu.st
abbrev fu.Ok:=cI @fu.A fu.aC fu.add fu.F fu.out
theorem fu.eq{R:Type}(p:Int)(q:Int)(k:aZ→Option R):fu.A (p,q) k=
 aj (cC.call [p,q]) fun x1=>
 k (fu.out x1):=by kernel_rfl
theorem fu.ok:fu.Ok:=by
 rintro⟨p,q⟩ ⟨hp,hq⟩
 have h:cC.aC [p,q]:=⟨by intro x hx;simp only[List.mem_cons,List.not_mem_nil,or_false]at hx;rcases hx with rfl | rfl <;> assumption,by simp only[List.length_cons,List.length_nil];omega⟩
 rw[fu.eq,cC.run h]
 rfl
noncomputable def fu.E:=Entry.ct [some tu,some tu] fu.st fu.aC fu.add fu.F fu.out
noncomputable def fu.call:fu.D→Option fu.X:=bH fu.E fu.st
theorem fu.run:bD fu.call fu.aC fu.add fu.F:=cO (cM [.d tu,.d tu] fun _=>by kernel_rfl)
noncomputable def fu.sg:SG Tryz.prog:=⟨158,aV,fu.E,.fn 0 (by kernel_rfl) fu.ok trivial⟩
set_option synthInstance.maxSize 5000
def Qn(x:Int):Prop:=0≤x∧x < 2305843009213688669
theorem Qn.u{x:Int}(h:Qn x):g9 x:=⟨h.1,by have:=h.2;omega⟩
def A7(a:Int):Int:=a%2305843009213688669
theorem uQ(a:Int):Qn (A7 a):=⟨Int.emod_nonneg _ (by omega),Int.emod_lt_of_pos _ (by omega)⟩
def xk(a b:Int):Int:=(A7 a+A7 b)%2305843009213688669
def uN(a b:Int):Int:=A7 a*A7 b%2305843009213688669
def nf(h:List Int):Int:=h.foldl (fun n b=>(n*256+b)%2305843009213688668) 0+1
def Ad.b(n:Int):Prop:=0≤n∧n < 2305843009213688668
theorem vN(h:List Int)(n:Int)(hn:Ad.b n):Ad.b (h.foldl (fun n b=>(n*256+b)%2305843009213688668) n):=by
 induction h generalizing n with
 |nil=>exact hn
 |cons p l ih=>exact ih _ ⟨Int.emod_nonneg _ (by omega),Int.emod_lt_of_pos _ (by omega)⟩
theorem rG(h:List Int):0 < nf h∧nf h < 2305843009213688669:=by
 have:=vN h 0 ⟨by omega,by omega⟩
 have h1:=this.1
 have h2:=this.2
 unfold nf
 omega
theorem yn(a b:Int):Qn (xk a b):=⟨Int.emod_nonneg _ (by omega),Int.emod_lt_of_pos _ (by omega)⟩
theorem B8(a b:Int):Qn (uN a b):=⟨Int.emod_nonneg _ (by omega),Int.emod_lt_of_pos _ (by omega)⟩
abbrev cD.D:=Int
def cD.st:cD.D→SA:=fun a=>([.d tu a],[])
abbrev cD.Y:=Bool
abbrev cD.X:=Bool
def cD.out:cD.X→aZ:=fun x=>⟨.d .bool x,[],[]⟩
def cD.add:cD.D→cD.Y→cD.X:=fun a y=>y
def cD.aC:cD.D→Prop:=fun _=>True
def cD.F:cD.D→cD.Y:=fun a=>gb a 2305843009213688669
noncomputable def cD.G:dQ:=eR (P:=Tryz.prog) []
noncomputable def cD.an:eC:= {}
noncomputable def cD.A:= @cH Tryz.prog cD.G cD.an 0 Tryz.f88 _ cD.st
abbrev cD.Ok:=cI @cD.A cD.aC cD.add cD.F cD.out
theorem cD.eq{R:Type}(a:Int)(k:aZ→Option R):cD.A a k=
 k (cD.out (gb a (2305843009213688669:Int))):=by kernel_rfl
theorem cD.ok:cD.Ok:=by
 intro a _
 rw[cD.eq]
 rfl
noncomputable def cD.E:=Entry.ct [some tu] cD.st cD.aC cD.add cD.F cD.out
noncomputable def cD.call:cD.D→Option cD.X:=bH cD.E cD.st
theorem cD.run:bD cD.call cD.aC cD.add cD.F:=cO (cM [.d tu] fun _=>by kernel_rfl)
noncomputable def cD.sg:SG Tryz.prog:=⟨88,aV,cD.E,.fn 0 (by kernel_rfl) cD.ok trivial⟩
abbrev iq.D:=Int
def iq.st:iq.D→SA:=fun a=>([.d tu a],[])
abbrev iq.Y:=Int
abbrev iq.X:=Int
def iq.out:iq.X→aZ:=fun x=>⟨.d tu x,[],[]⟩
def iq.add:iq.D→iq.Y→iq.X:=fun a y=>y
def iq.aC:iq.D→Prop:=fun a=>g9 a
def iq.F:iq.D→iq.Y:=fun a=>A7 a
noncomputable def iq.G:dQ:=eR (P:=Tryz.prog) []
noncomputable def iq.an:eC:= {}
noncomputable def iq.A:= @cH Tryz.prog iq.G iq.an 0 Tryz.f175 _ iq.st
abbrev iq.Ok:=cI @iq.A iq.aC iq.add iq.F iq.out
theorem iq.eq{R:Type}(a:Int)(k:aZ→Option R):iq.A a k=
 k (iq.out (iX a (2305843009213688669:Int))):=by kernel_rfl
theorem iq.ok:iq.Ok:=by
 intro a ha
 rw[iq.eq,nN ha.1]
 rfl
noncomputable def iq.E:=Entry.ct [some tu] iq.st iq.aC iq.add iq.F iq.out
noncomputable def iq.call:iq.D→Option iq.X:=bH iq.E iq.st
theorem iq.run:bD iq.call iq.aC iq.add iq.F:=cO (cM [.d tu] fun _=>by kernel_rfl)
noncomputable def iq.sg:SG Tryz.prog:=⟨175,aV,iq.E,.fn 0 (by kernel_rfl) iq.ok trivial⟩
abbrev ee.D:=Int×Int
def ee.st:ee.D→SA:=fun(a,b)=>([.d tu a,.d tu b],[])
abbrev ee.Y:=Int
abbrev ee.X:=Int
def ee.out:ee.X→aZ:=fun x=>⟨.d tu x,[],[]⟩
def ee.add:ee.D→ee.Y→ee.X:=fun(a,b) y=>y
def ee.aC:ee.D→Prop:=fun(a,b)=>Qn a∧Qn b
def ee.F:ee.D→ee.Y:=fun(a,b)=>(a+b)%2305843009213688669
noncomputable def ee.G:dQ:=eR (P:=Tryz.prog) []
noncomputable def ee.an:eC:= {}
noncomputable def ee.A:= @cH Tryz.prog ee.G ee.an 0 Tryz.f176 _ ee.st
abbrev ee.Ok:=cI @ee.A ee.aC ee.add ee.F ee.out
theorem ee.eq{R:Type}(a:Int)(b:Int)(k:aZ→Option R):ee.A (a,b) k=
 k (ee.out (iX (bK .u64 a b) (2305843009213688669:Int))):=by kernel_rfl
theorem ee.ok:ee.Ok:=by
 rintro⟨a,b⟩ ⟨ha,hb⟩
 have ha:Qn a:=ha
 have hb:Qn b:=hb
 obtain⟨h1,h2⟩:=ha
 obtain⟨h3,h4⟩:=hb
 have e:bK .u64 a b=a+b:=by rw[ku];omega
 rw[ee.eq,e,nN (by omega)]
 rfl
noncomputable def ee.E:=Entry.ct [some tu,some tu] ee.st ee.aC ee.add ee.F ee.out
noncomputable def ee.call:ee.D→Option ee.X:=bH ee.E ee.st
theorem ee.run:bD ee.call ee.aC ee.add ee.F:=cO (cM [.d tu,.d tu] fun _=>by kernel_rfl)
noncomputable def ee.sg:SG Tryz.prog:=⟨176,aV,ee.E,.fn 0 (by kernel_rfl) ee.ok trivial⟩
abbrev dk.D:=Int×Int
def dk.st:dk.D→SA:=fun(a,b)=>([.d tu a,.d tu b],[])
abbrev dk.Y:=Int
abbrev dk.X:=Int
def dk.out:dk.X→aZ:=fun x=>⟨.d tu x,[],[]⟩
def dk.add:dk.D→dk.Y→dk.X:=fun(a,b) y=>y
def dk.aC:dk.D→Prop:=fun(a,b)=>Qn a∧Qn b
def dk.F:dk.D→dk.Y:=fun(a,b)=>a*b%2305843009213688669
noncomputable def dk.G:dQ:=eR (P:=Tryz.prog) [dA.sg,dq.sg]
noncomputable def dk.an:eC:= {}
noncomputable def dk.A:= @cH Tryz.prog dk.G dk.an 0 Tryz.f177 _ dk.st
abbrev dk.Ok:=cI @dk.A dk.aC dk.add dk.F dk.out
theorem dk.eq{R:Type}(a:Int)(b:Int)(k:aZ→Option R):dk.A (a,b) k=
 aj (dA.call (a,b)) fun x1=>
 aj (dq.call (x1.1,x1.2,(2305843009213688669:Int))) fun x2=>
 k (dk.out x2):=by kernel_rfl
theorem dk.ok:dk.Ok:=by
 rintro⟨a,b⟩ ⟨ha,hb⟩
 have ha:Qn a:=ha
 have hb:Qn b:=hb
 obtain⟨m1,m2⟩:=qe ha.1 (show a≤18446744073709551615 by have:=ha.2;omega) hb.1 (show b≤18446744073709551615 by have:=hb.2;omega)
 have n:(18446744073709551615:Int)*18446744073709551615=340282366920938463426481119284349108225:=rfl
 rw[n]at m2
 have p:dq.aC (a*b / 18446744073709551616,a*b%18446744073709551616,2305843009213688669):=⟨Or.inr (Or.inl rfl),by omega,by omega,by omega,by omega⟩
 rw[dk.eq,dA.run (d:=(a,b)) ⟨ha.u,hb.u⟩]
 simp only[ab,dA.add,dA.F]
 rw[dq.run p]
 simp only[ab,dq.add,dq.F,sK]
 rfl
noncomputable def dk.E:=Entry.ct [some tu,some tu] dk.st dk.aC dk.add dk.F dk.out
noncomputable def dk.call:dk.D→Option dk.X:=bH dk.E dk.st
theorem dk.run:bD dk.call dk.aC dk.add dk.F:=cO (cM [.d tu,.d tu] fun _=>by kernel_rfl)
noncomputable def dk.sg:SG Tryz.prog:=⟨177,aV,dk.E,.fn 0 (by kernel_rfl) dk.ok trivial⟩
abbrev fA.D:=Int×Int
def fA.st:fA.D→SA:=fun(a,b)=>([.d tu a,.d tu b],[])
abbrev fA.Y:=Int
abbrev fA.X:=Int
def fA.out:fA.X→aZ:=fun x=>⟨.d tu x,[],[]⟩
def fA.add:fA.D→fA.Y→fA.X:=fun(a,b) y=>y
def fA.aC:fA.D→Prop:=fun(a,b)=>g9 a∧g9 b
def fA.F:fA.D→fA.Y:=fun(a,b)=>xk a b
noncomputable def fA.G:dQ:=eR (P:=Tryz.prog) [iq.sg,ee.sg]
noncomputable def fA.an:eC:= {}
noncomputable def fA.A:= @cH Tryz.prog fA.G fA.an 0 Tryz.f159 _ fA.st
abbrev fA.Ok:=cI @fA.A fA.aC fA.add fA.F fA.out
theorem fA.eq{R:Type}(a:Int)(b:Int)(k:aZ→Option R):fA.A (a,b) k=
 aj (iq.call a) fun x1=>
 aj (iq.call b) fun x2=>
 aj (ee.call (x1,x2)) fun x3=>
 k (fA.out x3):=by kernel_rfl
theorem fA.ok:fA.Ok:=by
 rintro⟨a,b⟩ ⟨ha,hb⟩
 rw[fA.eq,iq.run (d:=a) ha,iq.run (d:=b) hb]
 simp only[ab,iq.add,iq.F]
 rw[ee.run (d:=(A7 a,A7 b)) ⟨uQ a,uQ b⟩]
 rfl
noncomputable def fA.E:=Entry.ct [some tu,some tu] fA.st fA.aC fA.add fA.F fA.out
noncomputable def fA.call:fA.D→Option fA.X:=bH fA.E fA.st
theorem fA.run:bD fA.call fA.aC fA.add fA.F:=cO (cM [.d tu,.d tu] fun _=>by kernel_rfl)
noncomputable def fA.sg:SG Tryz.prog:=⟨159,aV,fA.E,.fn 0 (by kernel_rfl) fA.ok trivial⟩
abbrev fp.D:=Int×Int
def fp.st:fp.D→SA:=fun(a,b)=>([.d tu a,.d tu b],[])
abbrev fp.Y:=Int
abbrev fp.X:=Int
def fp.out:fp.X→aZ:=fun x=>⟨.d tu x,[],[]⟩
def fp.add:fp.D→fp.Y→fp.X:=fun(a,b) y=>y
def fp.aC:fp.D→Prop:=fun(a,b)=>g9 a∧g9 b
def fp.F:fp.D→fp.Y:=fun(a,b)=>uN a b
noncomputable def fp.G:dQ:=eR (P:=Tryz.prog) [iq.sg,dk.sg]
noncomputable def fp.an:eC:= {}
noncomputable def fp.A:= @cH Tryz.prog fp.G fp.an 0 Tryz.f160 _ fp.st
abbrev fp.Ok:=cI @fp.A fp.aC fp.add fp.F fp.out
theorem fp.eq{R:Type}(a:Int)(b:Int)(k:aZ→Option R):fp.A (a,b) k=
 aj (iq.call a) fun x1=>
 aj (iq.call b) fun x2=>
 aj (dk.call (x1,x2)) fun x3=>
 k (fp.out x3):=by kernel_rfl
theorem fp.ok:fp.Ok:=by
 rintro⟨a,b⟩ ⟨ha,hb⟩
 rw[fp.eq,iq.run (d:=a) ha,iq.run (d:=b) hb]
 simp only[ab,iq.add,iq.F]
 rw[dk.run (d:=(A7 a,A7 b)) ⟨uQ a,uQ b⟩]
 rfl
noncomputable def fp.E:=Entry.ct [some tu,some tu] fp.st fp.aC fp.add fp.F fp.out
noncomputable def fp.call:fp.D→Option fp.X:=bH fp.E fp.st
theorem fp.run:bD fp.call fp.aC fp.add fp.F:=cO (cM [.d tu,.d tu] fun _=>by kernel_rfl)
noncomputable def fp.sg:SG Tryz.prog:=⟨160,aV,fp.E,.fn 0 (by kernel_rfl) fp.ok trivial⟩
abbrev bz.L0.D:=Int×Bs×Int
def bz.L0.st:bz.L0.D→AS:=fun(n,t6,t7)=>⟨([.undef,.undef,.undef,.d tu n,.undef,.undef,.d tH t6,.d ti t7]++a9 13 []),[],(List.replicate 21 [])⟩
abbrev bz.L0.Y0:=Int
abbrev bz.L0.X0:=Int
def bz.L0.bq:bz.L0.X0→Exit×AS:=fun x=>(.exit 0,⟨([.undef,.undef,.undef,.d tu x]++a9 17 []),[],(List.replicate 21 [])⟩)
abbrev bz.L0.X:=bz.L0.X0
abbrev bz.L0.Y:=bz.L0.Y0
def bz.L0.out:bz.L0.X→Out (Exit×AS):=fun x=> .ok (bz.L0.bq x)
def bz.L0.add:bz.L0.D→bz.L0.Y→bz.L0.X:=fun(n,t6,t7) y=>y
abbrev bz.D:=Bs
def bz.st:bz.D→SA:=fun h=>([.d tH h],[])
abbrev bz.Y:=Int
abbrev bz.X:=Int
def bz.out:bz.X→aZ:=fun x=>⟨.d tu x,[],[]⟩
def bz.add:bz.D→bz.Y→bz.X:=fun h y=>y
def bz.L0.aC:bz.L0.D→Prop:=fun(n,h,i)=>Ad.b n∧h.length=32∧Bytes h∧∃k:Nat,k≤32∧i=k
def bz.L0.F:bz.L0.D→bz.L0.Y:=fun(n,h,i)=>(h.drop i.toNat).foldl (fun n b=>(n*256+b)%2305843009213688668) n
def bz.aC:bz.D→Prop:=fun h=>h.length=32∧Bytes h
def bz.F:bz.D→bz.Y:=fun h=>nf h
noncomputable def bz.G:dQ:=eR (P:=Tryz.prog) [dq.sg]
noncomputable def bz.L0.E:=bN.ct bz.L0.st bz.L0.aC bz.L0.add bz.L0.F bz.L0.out
noncomputable def bz.L0.call:bz.L0.D→Option bz.L0.X:=dh bz.L0.E bz.L0.st
noncomputable def bz.an:eC:= {loops:=jJ [(3,{bm:=[3,6,7]})],outs:=jI [(3,{bm:=[3]},{bm:=[2]})],fG:=kh [(3,bz.L0.E)]}
noncomputable def bz.A:= @cH Tryz.prog bz.G bz.an 0 Tryz.f124 _ bz.st
abbrev bz.Ok:=cI @bz.A bz.aC bz.add bz.F bz.out
noncomputable def bz.L0.R:= @bX Tryz.prog bz.G bz.an 0 Tryz.f124 0 _ bz.L0.st
abbrev bz.L0.Ok:=eA Tryz.prog bz.G bz.an 0 Tryz.f124 0 bz.L0.st bz.L0.aC bz.L0.add bz.L0.F bz.L0.out
theorem bz.L0.run:bD bz.L0.call bz.L0.aC bz.L0.add bz.L0.F:=eG (eE [.d tu,.d tB,.d ti] fun _=>by kernel_rfl)
theorem bz.L0.aG:fR @bz.L0.R bz.L0.st bz.L0.aC bz.L0.add bz.L0.F bz.L0.bq bz.L0.Ok:=fU
theorem bz.L0.step{R:Type}(n:Int)(t6:Bs)(t7:Int)(kn:AS→Option R)(kx:Exit→AS→Option R):bz.L0.R (n,t6,t7) kn kx=
  aK ((gb t7 (32:Int))) (
   aK (eh t7 (32:Int)) (
   aj (dq.call ((bM .u64 n (56:Int)),(cn .or .u64 (gq .u64 n (8:Int)) (dD .u64 (nth tb t6 (Int.toNat t7)))),(2305843009213688668:Int))) fun x1=>
   kn (bz.L0.st (x1,t6,(bK .i64 t7 (1:Int))))) none) (
   kx (bz.L0.bq n).1 (bz.L0.bq n).2):=by kernel_rfl
theorem bz.eq{R:Type}(h:Bs)(k:aZ→Option R):bz.A h k=
 aj (bz.L0.call ((0:Int),h,(0:Int))) fun x2=>
 k (bz.out (bK .u64 x2 (1:Int))):=by kernel_rfl
theorem qv{n b:Int}(hn:Ad.b n)(hb:ua b):bM .u64 n 56*18446744073709551616+cn .or .u64 (gq .u64 n 8) (dD .u64 b)=n*256+b∧g9 (bM .u64 n 56)∧g9 (cn .or .u64 (gq .u64 n 8) (dD .u64 b)):=by
 obtain⟨h1,h2⟩:=hn
 obtain⟨h3,h4⟩:=hb
 have p56:(2:Int)^56=72057594037927936:=rfl
 have p8:(2:Int)^8=256:=rfl
 have e:dD .u64 b=b:=by rw[AN];omega
 rw[jN 56 (by rfl) (by omega),jM 8 (by rfl) (by omega),p56,p8,e,pk 8 256 rfl (by omega) (by omega) (by omega) (by omega) (by omega) (by omega)]
 exact⟨by omega,⟨by omega,by omega⟩,by omega,by omega⟩
theorem bz.L0.ok:bz.L0.Ok:=by
 refine bz.L0.aG (fun(n,h,i)=>32 - i.toNat) ?_
 rintro⟨n,h,i⟩ ⟨hn,hl,hb,k,hk,rfl⟩
 have hn:Ad.b n:=hn
 have hl:h.length=32:=hl
 have hb:Bytes h:=hb
 by_cases hlt:k < 32
 ·left
  have hx:ua (h[k]'(by omega)):=hb _ (List.getElem_mem _)
  have n1:nth (.int .u8) h k=h[k]'(by omega):=cj (t:= .int .u8) (by omega)
  obtain⟨d1,d2,d3⟩:=qv hn hx
  refine⟨((n*256+h[k]'(by omega))%2305843009213688668,h,((k+1:Nat):Int)),⟨⟨by omega,by omega⟩,hl,hb,k+1,by omega,rfl⟩,by simp only[Int.toNat_natCast];omega,?_,fun kn kx=> ?_⟩
  ·simp only[bz.L0.add,bz.L0.F,Int.toNat_natCast]
   rw[List.drop_eq_getElem_cons (by omega:k < h.length)]
   rfl
  ·rw[bz.L0.step]
   simp(disch:=omega) only[↓S1,↓if_pos,↓if_neg,if_pos,if_neg,if_true,if_false,S2,n1]
   rw[dq.run (d:=(_,_,2305843009213688668)) ⟨Or.inr (Or.inr rfl),d2.1,d2.2,d3.1,d3.2⟩]
   simp only[ab,dq.add,dq.F,d1]
 ·right
  obtain rfl:k=32:=by omega
  intro R kn kx
  rw[bz.L0.step]
  simp(disch:=omega) only[↓S1,↓if_pos,↓if_neg,if_pos,if_neg,if_true,if_false,S2,bz.L0.add,bz.L0.F]
  rw[List.drop_of_length_le (by omega)]
  rfl
theorem bz.ok:bz.Ok:=by
 rintro h ⟨hl,hb⟩
 have e:=vN h 0 ⟨by omega,by omega⟩
 have h1:=e.1
 have h2:=e.2
 rw[bz.eq,bz.L0.run (d:=(0,h,0)) ⟨⟨by omega,by omega⟩,hl,hb,0,by omega,rfl⟩]
 simp only[ab,bz.L0.add,bz.L0.F,bz.add,bz.F,nf,Int.toNat_zero,List.drop_zero]
 revert h1 h2
 generalize h.foldl (fun n b=>(n*256+b)%2305843009213688668) 0=m
 intro h1 h2
 have e:bK .u64 m 1=m+1:=by rw[ku];omega
 rw[e]
noncomputable def bz.E:=Entry.ct [some tH] bz.st bz.aC bz.add bz.F bz.out
noncomputable def bz.call:bz.D→Option bz.X:=bH bz.E bz.st
theorem bz.run:bD bz.call bz.aC bz.add bz.F:=cO (cM [.d tB] fun _=>by kernel_rfl)
noncomputable def bz.sg:SG Tryz.prog:=⟨124,aV,bz.E,.fn 1 (by kernel_rfl) bz.ok (And.intro (.ct bz.L0.ok (by kernel_rfl)) trivial)⟩
set_option synthInstance.maxSize 5000
theorem vq(n:Int): [dD .u8 (bM .u64 n 56),dD .u8 (bM .u64 n 48),dD .u8 (bM .u64 n 40),dD .u8 (bM .u64 n 32),dD .u8 (bM .u64 n 24),dD .u8 (bM .u64 n 16),dD .u8 (bM .u64 n 8),dD .u8 (bM .u64 n 0)]=fL n:=xn n
theorem fc{α:Type}{l:List α}{n:Nat}(h:l.length=n):cut l 0 n=l:=by subst h;simp[cut]
theorem Br{n:ByteArray}{a b c:List Int}(hn:n.size≤100)(ha:a.length≤1000000)(hb:b.length≤1000000)(hc:c.length≤1000000):bR.aC (n,[a,b,c]):=by
 show(qo _ [a,b,c]).length≤_
 rw[qo]
 simp only[gV,List.flatMap_cons,List.flatMap_nil,List.length_append,bO,gh,List.length_nil]
 omega
theorem Bq{n:ByteArray}{a b:List Int}(hn:n.size≤100)(ha:a.length≤1000000)(hb:b.length≤1000000):bR.aC (n,[a,b]):=by
 show(qo _ [a,b]).length≤_
 rw[qo]
 simp only[gV,List.flatMap_cons,List.flatMap_nil,List.length_append,bO,gh,List.length_nil]
 omega
theorem sE{n:ByteArray}{a:List Int}(hn:n.size≤100)(ha:a.length≤1000000):bR.aC (n,[a]):=by
 show(qo _ [a]).length≤_
 rw[qo]
 simp only[gV,List.flatMap_cons,List.flatMap_nil,List.length_append,bO,gh,List.length_nil]
 omega
def Sm(m:List Int):Prop:=m.length=32∧Bytes m
theorem Dk(b:List Int):Sm (Df b):=⟨xU b,zh b⟩
theorem uZ(n:List Int)(ps:List (List Int)):Sm (tag n ps):=Dk _
def w5(n:ByteArray)(ps:List (List Int)):List Int:=tag (bg n) ps
def DW:ByteArray:=⟨#[115,105,103]⟩
def xM:ByteArray:=⟨#[110,111,110,99,101]⟩
def mB(r p:Int)(m:List Int):Int:=nf (w5 DW [fL r,fL p,m])
theorem ru(r p:Int)(m:List Int):Qn (mB r p m):=by
 have:=rG (w5 DW [fL r,fL p,m])
 exact⟨by unfold mB;omega,by unfold mB;omega⟩
def CK(s:Sg):Prop:=g9 s.1∧g9 s.2.1
def ln(p:Int)(m:List Int)(t:Int)(s:Sg):Bool:=
 if p=1∨lX p=false∨lX t=false∨lX s.1=false∨¬s.2.1 < 2305843009213688669 then false
 else decide (gA s.2.1=qT [s.1,mq p (mB s.1 p m),wj t])
def uf(k nonce:Int)(m:List Int)(t:Int):Sg:=
 (qT [gA nonce,t],xk nonce (uN (mB (qT [gA nonce,t]) (gA k) m) k),())
def A5(k:Int)(m:List Int):Int:=nf (w5 xM [fL k,m])
def gv(k:Int)(m:List Int):Sg:=if k < 2305843009213688669∧k≠0 then uf k (A5 k m) m 1 else(0,0,())
abbrev cJ.D:=Int
def cJ.st:cJ.D→SA:=fun n=>([.d tu n],[])
abbrev cJ.Y:=Bs
abbrev cJ.X:=Bs
def cJ.out:cJ.X→aZ:=fun x=>⟨.d tB x,[],[]⟩
def cJ.add:cJ.D→cJ.Y→cJ.X:=fun n y=>y
def cJ.aC:cJ.D→Prop:=fun _=>True
def cJ.F:cJ.D→cJ.Y:=fun n=>fL n
noncomputable def cJ.G:dQ:=eR (P:=Tryz.prog) []
noncomputable def cJ.an:eC:= {loops:=jJ [(3,{bm:=[0,3,7,8],sites:=[5]})],outs:=jI [(3,{bm:=[3],sites:=[5]},{bm:=[2],sites:=[5]})],res:=[some tB]}
noncomputable def cJ.A:= @cH Tryz.prog cJ.G cJ.an 12 Tryz.f130 _ cJ.st
abbrev cJ.Ok:=cI @cJ.A cJ.aC cJ.add cJ.F cJ.out
theorem cJ.eq{R:Type}(n:Int)(k:aZ→Option R):cJ.A n k=
 k (cJ.out [(dD .u8 (bM .u64 n (56:Int))),(dD .u8 (bM .u64 n (48:Int))),(dD .u8 (bM .u64 n (40:Int))),(dD .u8 (bM .u64 n (32:Int))),(dD .u8 (bM .u64 n (24:Int))),(dD .u8 (bM .u64 n (16:Int))),(dD .u8 (bM .u64 n (8:Int))),(dD .u8 (bM .u64 n (0:Int)))]):=by kernel_rfl
theorem cJ.ok:cJ.Ok:=by
 intro n _
 rw[cJ.eq,vq]
 rfl
noncomputable def cJ.E:=Entry.ct [some tu] cJ.st cJ.aC cJ.add cJ.F cJ.out
noncomputable def cJ.call:cJ.D→Option cJ.X:=bH cJ.E cJ.st
theorem cJ.run:bD cJ.call cJ.aC cJ.add cJ.F:=cO (cM [.d tu] fun _=>by kernel_rfl)
noncomputable def cJ.sg:SG Tryz.prog:=⟨130,aV,cJ.E,.fn 1 (by kernel_rfl) cJ.ok (And.intro (.none (by kernel_rfl)) trivial)⟩
abbrev dF.D:=Int×Int×Bs
def dF.st:dF.D→SA:=fun(r,p,m)=>([.d tu r,.d tu p,.d tH m],[])
abbrev dF.Y:=Int
abbrev dF.X:=Int
def dF.out:dF.X→aZ:=fun x=>⟨.d tu x,[],[]⟩
def dF.add:dF.D→dF.Y→dF.X:=fun(r,p,m) y=>y
def dF.aC:dF.D→Prop:=fun(r,p,m)=>Sm m
def dF.F:dF.D→dF.Y:=fun(r,p,m)=>mB r p m
noncomputable def dF.G:dQ:=eR (P:=Tryz.prog) [cJ.sg,bR.sg,bz.sg]
noncomputable def dF.an:eC:= {}
noncomputable def dF.A:= @cH Tryz.prog dF.G dF.an 0 Tryz.f145 _ dF.st
abbrev dF.Ok:=cI @dF.A dF.aC dF.add dF.F dF.out
theorem dF.eq{R:Type}(r:Int)(p:Int)(m:Bs)(k:aZ→Option R):dF.A (r,p,m) k=
 aj (cJ.call r) fun x1=>
 aj (cJ.call p) fun x2=>
 aj (bR.call ((⟨#[115,105,103]⟩:ByteArray),[x1,x2,(cut m 0 32)])) fun x3=>
 aj (bz.call x3) fun x4=>
 k (dF.out x4):=by kernel_rfl
theorem dF.ok:dF.Ok:=by
 rintro⟨r,p,m⟩ hm
 have hm:Sm m:=hm
 rw[dF.eq,cJ.run (d:=r) trivial,cJ.run (d:=p) trivial]
 simp only[ab,cJ.add,cJ.F]
 rw[fc hm.1,bR.run (Br (by decide) (by rw[bO];omega) (by rw[bO];omega) (by rw[hm.1];omega))]
 simp only[ab,bR.add,bR.F]
 rw[bz.run (d:=tag (bg (⟨#[115,105,103]⟩:ByteArray)) [fL r,fL p,m]) (uZ _ _)]
 rfl
noncomputable def dF.E:=Entry.ct [some tu,some tu,some tH] dF.st dF.aC dF.add dF.F dF.out
noncomputable def dF.call:dF.D→Option dF.X:=bH dF.E dF.st
theorem dF.run:bD dF.call dF.aC dF.add dF.F:=cO (cM [.d tu,.d tu,.d tB] fun _=>by kernel_rfl)
noncomputable def dF.sg:SG Tryz.prog:=⟨145,aV,dF.E,.fn 0 (by kernel_rfl) dF.ok trivial⟩
abbrev bW.D:=Int×Bs×Int×Sg
def bW.st:bW.D→SA:=fun(p,m,t,pre)=>([.d tu p,.d tH m,.d tu t,.d iQ pre],[])
abbrev bW.Y:=Bool
abbrev bW.X:=Bool
def bW.out:bW.X→aZ:=fun x=>⟨.d .bool x,[],[]⟩
def bW.add:bW.D→bW.Y→bW.X:=fun(p,m,t,pre) y=>y
def bW.aC:bW.D→Prop:=fun(p,m,t,s)=>g9 p∧Sm m∧g9 t∧CK s
def bW.F:bW.D→bW.Y:=fun(p,m,t,s)=>ln p m t s
noncomputable def bW.G:dQ:=eR (P:=Tryz.prog) [ck.sg,cD.sg,dF.sg,cZ.sg,fv.sg,cC.sg,df.sg]
noncomputable def bW.an:eC:= {}
noncomputable def bW.A:= @cH Tryz.prog bW.G bW.an 0 Tryz.f105 _ bW.st
abbrev bW.Ok:=cI @bW.A bW.aC bW.add bW.F bW.out
theorem bW.eq{R:Type}(p:Int)(m:Bs)(t:Int)(pre:Sg)(k:aZ→Option R):bW.A (p,m,t,pre) k=
  aK ((mM p (1:Int))) (
   k (bW.out false)) (
   aj (ck.call p) fun x1=>
   aK ((!x1)) (
    k (bW.out false)) (
    aj (ck.call t) fun x2=>
    aK ((!x2)) (
     k (bW.out false)) (
     aj (ck.call pre.1) fun x3=>
     aK ((!x3)) (
      k (bW.out false)) (
      aj (cD.call pre.2.1) fun x4=>
      aK ((!x4)) (
       k (bW.out false)) (
       aj (dF.call (pre.1,p,m)) fun x5=>
       aj (cZ.call (p,x5)) fun x6=>
       aj (fv.call t) fun x7=>
       aj (cC.call [pre.1,x6,x7]) fun x8=>
       aj (df.call pre.2.1) fun x9=>
       k (bW.out (mM x9 x8))))))):=by kernel_rfl
theorem bW.ok:bW.Ok:=by
 rintro⟨p,m,t,s⟩ ⟨hp,hm,ht,hs⟩
 have hp:g9 p:=hp
 have ht:g9 t:=ht
 have hm:Sm m:=hm
 have hs:CK s:=hs
 rw[bW.eq,ck.run (d:=p) hp,ck.run (d:=t) ht,ck.run (d:=s.1) hs.1,cD.run (d:=s.2.1) trivial]
 simp only[ab,ck.add,ck.F,cD.add,cD.F,bW.add,bW.F,ln]
 by_cases h1:p=1
 ·rw[dm h1,ax,if_pos (Or.inl h1)]
 rw[eP h1,aw]
 cases h2:lX p
 ·rw[if_pos (Or.inr (Or.inl rfl))];rfl
 cases h3:lX t
 ·rw[if_pos (Or.inr (Or.inr (Or.inl rfl)))];rfl
 cases h4:lX s.1
 ·rw[if_pos (Or.inr (Or.inr (Or.inr (Or.inl rfl))))];rfl
 by_cases h5:s.2.1 < 2305843009213688669
 ·rw[bw h5,if_neg (by simp[h1,h5])]
  have hq:=ru s.1 p m
  rw[dF.run (d:=(s.1,p,m)) hm]
  simp only[Bool.not_true,aw,ab,dF.add,dF.F]
  rw[cZ.run (d:=(p,mB s.1 p m)) ⟨hp,hq.u⟩,fv.run (d:=t) ht]
  simp only[ab,cZ.add,cZ.F,fv.add,fv.F]
  have q:cC.aC [s.1,mq p (mB s.1 p m),wj t]:=⟨by
   intro x hx
   simp only[List.mem_cons,List.not_mem_nil,or_false]at hx
   rcases hx with rfl | rfl | rfl
   ·exact hs.1
   ·exact(wH _ _).u
   ·exact(wH _ _).u,by simp only[List.length_cons,List.length_nil];omega⟩
  rw[cC.run q,df.run (d:=s.2.1) hs.2]
  rfl
 ·rw[bn h5,if_pos (Or.inr (Or.inr (Or.inr (Or.inr h5))))];rfl
noncomputable def bW.E:=Entry.ct [some tu,some tH,some tu,some iQ] bW.st bW.aC bW.add bW.F bW.out
noncomputable def bW.call:bW.D→Option bW.X:=bH bW.E bW.st
theorem bW.run:bD bW.call bW.aC bW.add bW.F:=cO (cM [.d tu,.d tB,.d tu,.d iQ] fun _=>by kernel_rfl)
noncomputable def bW.sg:SG Tryz.prog:=⟨105,aV,bW.E,.fn 0 (by kernel_rfl) bW.ok trivial⟩
abbrev bQ.D:=Int×Bs×Sg
def bQ.st:bQ.D→SA:=fun(p,m,sv)=>([.d tu p,.d tH m,.d iQ sv],[])
abbrev bQ.Y:=Bool
abbrev bQ.X:=Bool
def bQ.out:bQ.X→aZ:=fun x=>⟨.d .bool x,[],[]⟩
def bQ.add:bQ.D→bQ.Y→bQ.X:=fun(p,m,sv) y=>y
def bQ.aC:bQ.D→Prop:=fun(p,m,s)=>g9 p∧Sm m∧CK s
def bQ.F:bQ.D→bQ.Y:=fun(p,m,s)=>ln p m 1 s
noncomputable def bQ.G:dQ:=eR (P:=Tryz.prog) [bW.sg]
noncomputable def bQ.an:eC:= {}
noncomputable def bQ.A:= @cH Tryz.prog bQ.G bQ.an 0 Tryz.f43 _ bQ.st
abbrev bQ.Ok:=cI @bQ.A bQ.aC bQ.add bQ.F bQ.out
theorem bQ.eq{R:Type}(p:Int)(m:Bs)(sv:Sg)(k:aZ→Option R):bQ.A (p,m,sv) k=
 aj (bW.call (p,m,(1:Int),sv)) fun x1=>
 k (bQ.out x1):=by kernel_rfl
theorem bQ.ok:bQ.Ok:=by
 rintro⟨p,m,s⟩ ⟨hp,hm,hs⟩
 rw[bQ.eq,bW.run (d:=(p,m,1,s)) ⟨hp,hm,⟨by omega,by omega⟩,hs⟩]
 rfl
noncomputable def bQ.E:=Entry.ct [some tu,some tH,some iQ] bQ.st bQ.aC bQ.add bQ.F bQ.out
noncomputable def bQ.call:bQ.D→Option bQ.X:=bH bQ.E bQ.st
theorem bQ.run:bD bQ.call bQ.aC bQ.add bQ.F:=cO (cM [.d tu,.d tB,.d iQ] fun _=>by kernel_rfl)
noncomputable def bQ.sg:SG Tryz.prog:=⟨43,aV,bQ.E,.fn 0 (by kernel_rfl) bQ.ok trivial⟩
abbrev fh.D:=Int
def fh.st:fh.D→SA:=fun kv=>([.d tu kv],[])
abbrev fh.Y:=Bool
abbrev fh.X:=Bool
def fh.out:fh.X→aZ:=fun x=>⟨.d .bool x,[],[]⟩
def fh.add:fh.D→fh.Y→fh.X:=fun kv y=>y
def fh.aC:fh.D→Prop:=fun _=>True
def fh.F:fh.D→fh.Y:=fun k=>decide (k < 2305843009213688669∧k≠0)
noncomputable def fh.G:dQ:=eR (P:=Tryz.prog) [cD.sg]
noncomputable def fh.an:eC:= {}
noncomputable def fh.A:= @cH Tryz.prog fh.G fh.an 0 Tryz.f128 _ fh.st
abbrev fh.Ok:=cI @fh.A fh.aC fh.add fh.F fh.out
theorem fh.eq{R:Type}(kv:Int)(k:aZ→Option R):fh.A kv k=
  aj (cD.call kv) fun x1=>
  aK (x1) (
   k (fh.out (jn kv (0:Int)))) (
   k (fh.out false)):=by kernel_rfl
theorem fh.ok:fh.Ok:=by
 intro k _
 rw[fh.eq,cD.run (d:=k) trivial]
 simp only[ab,cD.add,cD.F,fh.add,fh.F]
 by_cases h:k < 2305843009213688669
 ·rw[bw h,ax]
  by_cases h0:k=0
  ·rw[bP h0,aM (fun x=>x.2 h0)]
  ·rw[dw h0,aQ ⟨h,h0⟩]
 ·rw[bn h,aw,aM (fun x=>h x.1)]
noncomputable def fh.E:=Entry.ct [some tu] fh.st fh.aC fh.add fh.F fh.out
noncomputable def fh.call:fh.D→Option fh.X:=bH fh.E fh.st
theorem fh.run:bD fh.call fh.aC fh.add fh.F:=cO (cM [.d tu] fun _=>by kernel_rfl)
noncomputable def fh.sg:SG Tryz.prog:=⟨128,aV,fh.E,.fn 0 (by kernel_rfl) fh.ok trivial⟩
abbrev cz.D:=Int×Int×Bs×Int
def cz.st:cz.D→SA:=fun(kv,nonce,m,t)=>([.d tu kv,.d tu nonce,.d tH m,.d tu t],[])
abbrev cz.Y:=Sg
abbrev cz.X:=Sg
def cz.out:cz.X→aZ:=fun x=>⟨.d iQ x,[],[]⟩
def cz.add:cz.D→cz.Y→cz.X:=fun(kv,nonce,m,t) y=>y
def cz.aC:cz.D→Prop:=fun(k,n,m,t)=>g9 k∧g9 n∧Sm m∧g9 t
def cz.F:cz.D→cz.Y:=fun(k,n,m,t)=>uf k n m t
noncomputable def cz.G:dQ:=eR (P:=Tryz.prog) [df.sg,fu.sg,dF.sg,fp.sg,fA.sg]
noncomputable def cz.an:eC:= {}
noncomputable def cz.A:= @cH Tryz.prog cz.G cz.an 0 Tryz.f129 _ cz.st
abbrev cz.Ok:=cI @cz.A cz.aC cz.add cz.F cz.out
theorem cz.eq{R:Type}(kv:Int)(nonce:Int)(m:Bs)(t:Int)(k:aZ→Option R):cz.A (kv,nonce,m,t) k=
 aj (df.call nonce) fun x1=>
 aj (fu.call (x1,t)) fun x2=>
 aj (df.call kv) fun x3=>
 aj (dF.call (x2,x3,m)) fun x4=>
 aj (fp.call (x4,kv)) fun x5=>
 aj (fA.call (nonce,x5)) fun x6=>
 k (cz.out (x2,(x6,()))):=by kernel_rfl
theorem cz.ok:cz.Ok:=by
 rintro⟨k,n,m,t⟩ ⟨hk,hn,hm,ht⟩
 have hk:g9 k:=hk
 have hn:g9 n:=hn
 have hm:Sm m:=hm
 have ht:g9 t:=ht
 rw[cz.eq,df.run (d:=n) hn]
 simp only[ab,df.add,df.F]
 rw[fu.run (d:=(gA n,t)) ⟨(wH _ _).u,ht⟩,df.run (d:=k) hk]
 simp only[ab,df.add,df.F,fu.add,fu.F]
 rw[dF.run (d:=(qT [gA n,t],gA k,m)) hm]
 simp only[ab,dF.add,dF.F]
 rw[fp.run (d:=(mB (qT [gA n,t]) (gA k) m,k)) ⟨(ru _ _ _).u,hk⟩]
 simp only[ab,fp.add,fp.F]
 rw[fA.run (d:=(n,uN (mB (qT [gA n,t]) (gA k) m) k)) ⟨hn,(B8 _ _).u⟩]
 rfl
noncomputable def cz.E:=Entry.ct [some tu,some tu,some tH,some tu] cz.st cz.aC cz.add cz.F cz.out
noncomputable def cz.call:cz.D→Option cz.X:=bH cz.E cz.st
theorem cz.run:bD cz.call cz.aC cz.add cz.F:=cO (cM [.d tu,.d tu,.d tB,.d tu] fun _=>by kernel_rfl)
noncomputable def cz.sg:SG Tryz.prog:=⟨129,aV,cz.E,.fn 0 (by kernel_rfl) cz.ok trivial⟩
abbrev dB.D:=Int×Bs
def dB.st:dB.D→SA:=fun(kv,m)=>([.d tu kv,.d tH m],[])
abbrev dB.Y:=Sg
abbrev dB.X:=Sg
def dB.out:dB.X→aZ:=fun x=>⟨.d iQ x,[],[]⟩
def dB.add:dB.D→dB.Y→dB.X:=fun(kv,m) y=>y
def dB.aC:dB.D→Prop:=fun(k,m)=>g9 k∧Sm m
def dB.F:dB.D→dB.Y:=fun(k,m)=>gv k m
noncomputable def dB.G:dQ:=eR (P:=Tryz.prog) [fh.sg,cJ.sg,bR.sg,bz.sg,cz.sg]
noncomputable def dB.an:eC:= {}
noncomputable def dB.A:= @cH Tryz.prog dB.G dB.an 0 Tryz.f91 _ dB.st
abbrev dB.Ok:=cI @dB.A dB.aC dB.add dB.F dB.out
theorem dB.eq{R:Type}(kv:Int)(m:Bs)(k:aZ→Option R):dB.A (kv,m) k=
  aj (fh.call kv) fun x1=>
  aK ((!x1)) (
   k (dB.out ((0:Int),((0:Int),())))) (
   aj (cJ.call kv) fun x2=>
   aj (bR.call ((⟨#[110,111,110,99,101]⟩:ByteArray),[x2,(cut m 0 32)])) fun x3=>
   aj (bz.call x3) fun x4=>
   aj (cz.call (kv,x4,m,(1:Int))) fun x5=>
   k (dB.out x5)):=by kernel_rfl
theorem dB.ok:dB.Ok:=by
 rintro⟨k,m⟩ ⟨hk,hm⟩
 have hk:g9 k:=hk
 have hm:Sm m:=hm
 rw[dB.eq,fh.run (d:=k) trivial]
 simp only[ab,fh.add,fh.F,dB.add,dB.F,gv]
 by_cases h:k < 2305843009213688669∧k≠0
 ·rw[aQ h,if_pos h,cJ.run (d:=k) trivial,fc hm.1]
  simp only[Bool.not_true,aw,ab,cJ.add,cJ.F]
  rw[bR.run (Bq (by decide) (by rw[bO];omega) (by rw[hm.1];omega))]
  simp only[ab,bR.add,bR.F]
  rw[bz.run (d:=tag (bg (⟨#[110,111,110,99,101]⟩:ByteArray)) [fL k,m]) (uZ _ _)]
  simp only[ab,bz.add,bz.F]
  have q:=rG (tag (bg (⟨#[110,111,110,99,101]⟩:ByteArray)) [fL k,m])
  rw[cz.run (d:=(k,nf (tag (bg (⟨#[110,111,110,99,101]⟩:ByteArray)) [fL k,m]),m,1)) ⟨hk,⟨by omega,by omega⟩,hm,by omega,by omega⟩]
  rfl
 ·rw[aM h,if_neg h];rfl
noncomputable def dB.E:=Entry.ct [some tu,some tH] dB.st dB.aC dB.add dB.F dB.out
noncomputable def dB.call:dB.D→Option dB.X:=bH dB.E dB.st
theorem dB.run:bD dB.call dB.aC dB.add dB.F:=cO (cM [.d tu,.d tB] fun _=>by kernel_rfl)
noncomputable def dB.sg:SG Tryz.prog:=⟨91,aV,dB.E,.fn 0 (by kernel_rfl) dB.ok trivial⟩
set_option synthInstance.maxSize 5000
def mS(l:List Int):Prop:=∀x∈l,g9 x
def Cp(b:gf):Prop:=mS b.1∧g9 b.2.2.2.1
def yk(l:Lk):Prop:=∀b∈l.1,Cp b
def vR(n:Int):Bool:=decide (0≤n∧n≤1048576)
def oh(b:gf):Bool:=decide (b.1.length≤12) && (b.1.all lX && (vR b.2.1 && (vR b.2.2.1 && (decide (b.2.2.2.1=0) || lX b.2.2.2.1))))
def iN(l:Lk):Bool:=l.1.all oh && decide (0 < l.1.length∧l.1.length≤4)
def ko:List Int→Int→Int⊕Unit
 |[],_=> .inr ()
 |p::ps,i=>if lX p then ko ps (i+1) else .inl i
def yp(l:List Int):Int:=match ko l 0 with | .inl i=>i | .inr _=> -1
theorem qu:∀(l:List Int) (i:Int),0≤i→(match ko l i with | .inl i=>decide (i≥0) | .inr _=>false)= !(l.all lX)
 |[],_,_=>rfl
 |p::ps,i,h=>by
  rw[ko,List.all_cons]
  cases hp:lX p
  ·simp[h]
  ·simp only[if_true,Bool.true_and]
   exact qu ps (i+1) (by omega)
theorem y8(l:List Int):mO (yp l) 0= !(l.all lX):=by
 have:=qu l 0 (by omega)
 unfold yp mO
 cases h:ko l 0
 ·rw[h]at this;exact this
 ·rw[h]at this;rw[←this];rfl
abbrev eX.D:=Int
def eX.st:eX.D→SA:=fun p=>([.d tu p],[])
abbrev eX.Y:=Bool
abbrev eX.X:=Bool
def eX.out:eX.X→aZ:=fun x=>⟨.d .bool x,[],[]⟩
def eX.add:eX.D→eX.Y→eX.X:=fun p y=>y
def eX.aC:eX.D→Prop:=fun p=>g9 p
def eX.F:eX.D→eX.Y:=fun p=> !lX p
noncomputable def eX.G:dQ:=eR (P:=Tryz.prog) [ck.sg]
noncomputable def eX.an:eC:= {}
noncomputable def eX.A:= @cH Tryz.prog eX.G eX.an 0 Tryz.f61 _ eX.st
abbrev eX.Ok:=cI @eX.A eX.aC eX.add eX.F eX.out
theorem eX.eq{R:Type}(p:Int)(k:aZ→Option R):eX.A p k=
 aj (ck.call p) fun x1=>
 k (eX.out (!x1)):=by kernel_rfl
theorem eX.ok:eX.Ok:=by
 intro p hp
 rw[eX.eq,ck.run (d:=p) hp]
 rfl
noncomputable def eX.E:=Entry.ct [some tu] eX.st eX.aC eX.add eX.F eX.out
noncomputable def eX.call:eX.D→Option eX.X:=bH eX.E eX.st
theorem eX.run:bD eX.call eX.aC eX.add eX.F:=cO (cM [.d tu] fun _=>by kernel_rfl)
noncomputable def eX.sg:SG Tryz.prog:=⟨61,aV,eX.E,.fn 0 (by kernel_rfl) eX.ok trivial⟩
abbrev aX.L0.D:=Bs×Int×Int
def aX.L0.st:aX.L0.D→AS:=fun(sv_2,t7,t8)=>⟨([.d tU sv_2,.fn 61 (.nil)]++a9 5 ([.d ti t7,.d ti t8]++a9 10 [])),[],(List.replicate 19 [])⟩
abbrev aX.L0.Y0:=Int
abbrev aX.L0.X0:=Int
def aX.L0.bq:aX.L0.X0→Exit×AS:=fun x=>(.ret,⟨(a9 4 ([.d ti x]++a9 14 [])),[],(List.replicate 19 [])⟩)
abbrev aX.L0.Y1:=Unit
abbrev aX.L0.X1:=Unit
def aX.L0.eM:aX.L0.X1→Exit×AS:=fun x=>(.exit 0,⟨(a9 19 []),[],(List.replicate 19 [])⟩)
abbrev aX.L0.X:=(aX.L0.X0)⊕(aX.L0.X1)
abbrev aX.L0.Y:=(aX.L0.Y0)⊕(aX.L0.Y1)
def aX.L0.out:aX.L0.X→Out (Exit×AS):=fun x=> .br x.isLeft (.get x.getLeft? fun a=> .ok (aX.L0.bq a)) (.get x.getRight? fun b=> .ok (aX.L0.eM b))
def aX.L0.add:aX.L0.D→aX.L0.Y→aX.L0.X:=fun(sv_2,t7,t8) y=>match y with | .inl y=> .inl y | .inr z=> .inr (z)
abbrev aX.D:=Bs
def aX.st:aX.D→SA:=fun sv=>([.d tU sv,.fn 61 (.nil)],[])
abbrev aX.Y:=Int
abbrev aX.X:=Int
def aX.out:aX.X→aZ:=fun x=>⟨.d ti x,[],[]⟩
def aX.add:aX.D→aX.Y→aX.X:=fun sv y=>y
def aX.L0.aC:aX.L0.D→Prop:=fun(l,n,i)=>mS l∧l.length≤1000000000∧n=l.length∧∃k:Nat,k≤l.length∧i=k
def aX.L0.F:aX.L0.D→aX.L0.Y:=fun(l,n,i)=>ko (l.drop i.toNat) i
def aX.aC:aX.D→Prop:=fun l=>mS l∧l.length≤1000000000
def aX.F:aX.D→aX.Y:=fun l=>yp l
noncomputable def aX.G:dQ:=eR (P:=Tryz.prog) [eX.sg]
noncomputable def aX.L0.E:=bN.ct aX.L0.st aX.L0.aC aX.L0.add aX.L0.F aX.L0.out
noncomputable def aX.L0.call:aX.L0.D→Option aX.L0.X:=dh aX.L0.E aX.L0.st
noncomputable def aX.an:eC:= {loops:=jJ [(2,{bm:=[0,1,7,8]})],outs:=jI [(2,{},{bm:=[4]})],fG:=kh [(2,aX.L0.E)]}
noncomputable def aX.A:= @cH Tryz.prog aX.G aX.an 0 Tryz.f117 _ aX.st
abbrev aX.Ok:=cI @aX.A aX.aC aX.add aX.F aX.out
noncomputable def aX.L0.R:= @bX Tryz.prog aX.G aX.an 0 Tryz.f117 0 _ aX.L0.st
abbrev aX.L0.Ok:=eA Tryz.prog aX.G aX.an 0 Tryz.f117 0 aX.L0.st aX.L0.aC aX.L0.add aX.L0.F aX.L0.out
theorem aX.L0.run:bD aX.L0.call aX.L0.aC aX.L0.add aX.L0.F:=eG (eE [.d tU,.d ti,.d ti] fun _=>by kernel_rfl)
theorem aX.L0.aG:iZ @aX.L0.R aX.L0.st aX.L0.aC aX.L0.add aX.L0.F aX.L0.out aX.L0.Ok:=jm
theorem aX.L0.step{R:Type}(sv_2:Bs)(t7:Int)(t8:Int)(kn:AS→Option R)(kx:Exit→AS→Option R):aX.L0.R (sv_2,t7,t8) kn kx=
  aK ((gb t8 t7)) (
   aK (eh t8 (((List.length sv_2):Nat):Int)) (
   aj (eX.call (nth tu sv_2 (Int.toNat t8))) fun x1=>
   aK (x1) (
    kx (aX.L0.bq t8).1 (aX.L0.bq t8).2) (
    kn (aX.L0.st (sv_2,t7,(bK .i64 t8 (1:Int)))))) none) (
   kx (aX.L0.eM ()).1 (aX.L0.eM ()).2):=by kernel_rfl
theorem aX.eq{R:Type}(sv:Bs)(k:aZ→Option R):aX.A sv k=
  aj (aX.L0.call (sv,(((List.length sv):Nat):Int),(0:Int))) fun x2=>
  aK (x2.isLeft) (
   aj (x2.getLeft?) fun a3=>
   k (aX.out a3)) (
   aj (x2.getRight?) fun b4=>
   k (aX.out (-1:Int))):=by kernel_rfl
theorem aX.L0.ok:aX.L0.Ok:=by
 refine aX.L0.aG (fun(l,n,i)=>l.length - i.toNat) ?_
 rintro⟨l,n,i⟩ ⟨hl,hb,rfl,k,hk,rfl⟩
 have hb:l.length≤1000000000:=hb
 have hk:k≤l.length:=hk
 by_cases h:k < l.length
 ·have hx:=hl _ (List.getElem_mem h)
  have n1:nth (.int .u64) l k=l[k]:=cj (t:= .int .u64) h
  have hd:ko (l.drop k) k=if lX l[k] then ko (l.drop (k+1)) ((k+1:Nat):Int) else .inl (k:Int):=by rw[List.drop_eq_getElem_cons h];rfl
  cases hp:lX l[k]
  ·right
   refine⟨aX.L0.bq (k:Int),?_,fun kn kx=> ?_⟩
   ·simp only[aX.L0.add,aX.L0.F,Int.toNat_natCast,hd,hp,Bool.false_eq_true,if_false]
    rfl
   ·rw[aX.L0.step]
    simp(disch:=omega) only[↓S1,↓if_pos,↓if_neg,if_pos,if_neg,if_true,if_false,S2,n1]
    rw[eX.run (d:=l[k]) hx]
    simp only[ab,eX.add,eX.F,hp,Bool.not_false,ax]
  ·left
   refine⟨(l,l.length,((k+1:Nat):Int)),⟨hl,hb,rfl,k+1,by omega,rfl⟩,by simp only[Int.toNat_natCast];omega,?_,fun kn kx=> ?_⟩
   ·simp only[aX.L0.add,aX.L0.F,Int.toNat_natCast,hd,hp,if_true]
   ·rw[aX.L0.step]
    simp(disch:=omega) only[↓S1,↓if_pos,↓if_neg,if_pos,if_neg,if_true,if_false,S2,n1]
    rw[eX.run (d:=l[k]) hx]
    simp only[ab,eX.add,eX.F,hp,Bool.not_true,aw]
 ·right
  obtain rfl:k=l.length:=by omega
  refine⟨aX.L0.eM (),?_,fun kn kx=> ?_⟩
  ·simp only[aX.L0.add,aX.L0.F,Int.toNat_natCast,List.drop_length]
   rfl
  ·rw[aX.L0.step]
   simp(disch:=omega) only[↓S1,↓if_pos,↓if_neg,if_pos,if_neg,if_true,if_false,S2]
theorem aX.ok:aX.Ok:=by
 rintro l ⟨hl,hb⟩
 rw[aX.eq,aX.L0.run (d:=(l,l.length,0)) ⟨hl,hb,rfl,0,by omega,rfl⟩]
 simp only[ab,aX.L0.add,aX.L0.F,Int.toNat_zero,List.drop_zero,aX.add,aX.F,yp]
 cases ko l 0 <;> rfl
noncomputable def aX.E:=Entry.ct [some tU,none] aX.st aX.aC aX.add aX.F aX.out
noncomputable def aX.call:aX.D→Option aX.X:=bH aX.E aX.st
theorem aX.run:bD aX.call aX.aC aX.add aX.F:=cO (cM [.d tU] fun _=>by kernel_rfl)
noncomputable def aX.sg:SG Tryz.prog:=⟨117,aV,aX.E,.fn 1 (by kernel_rfl) aX.ok (And.intro (.ct aX.L0.ok (by kernel_rfl)) trivial)⟩
abbrev bE.D:=Bs
def bE.st:bE.D→SA:=fun sv=>([.d tU sv,.fn 61 (.nil)],[])
abbrev bE.Y:=Bool
abbrev bE.X:=Bool
def bE.out:bE.X→aZ:=fun x=>⟨.d .bool x,[],[]⟩
def bE.add:bE.D→bE.Y→bE.X:=fun sv y=>y
def bE.aC:bE.D→Prop:=fun l=>mS l∧l.length≤1000000000
def bE.F:bE.D→bE.Y:=fun l=> !(l.all lX)
noncomputable def bE.G:dQ:=eR (P:=Tryz.prog) [aX.sg]
noncomputable def bE.an:eC:= {}
noncomputable def bE.A:= @cH Tryz.prog bE.G bE.an 0 Tryz.f63 _ bE.st
abbrev bE.Ok:=cI @bE.A bE.aC bE.add bE.F bE.out
theorem bE.eq{R:Type}(sv:Bs)(k:aZ→Option R):bE.A sv k=
 aj (aX.call sv) fun x1=>
 k (bE.out (mO x1 (0:Int))):=by kernel_rfl
theorem bE.ok:bE.Ok:=by
 rintro l ⟨hl,hb⟩
 rw[bE.eq,aX.run (d:=l) ⟨hl,hb⟩]
 simp only[ab,aX.add,aX.F,y8]
 rfl
noncomputable def bE.E:=Entry.ct [some tU,none] bE.st bE.aC bE.add bE.F bE.out
noncomputable def bE.call:bE.D→Option bE.X:=bH bE.E bE.st
theorem bE.run:bD bE.call bE.aC bE.add bE.F:=cO (cM [.d tU] fun _=>by kernel_rfl)
noncomputable def bE.sg:SG Tryz.prog:=⟨63,aV,bE.E,.fn 0 (by kernel_rfl) bE.ok trivial⟩
abbrev bV.D:=Int
def bV.st:bV.D→SA:=fun n=>([.d ti n],[])
abbrev bV.Y:=Bool
abbrev bV.X:=Bool
def bV.out:bV.X→aZ:=fun x=>⟨.d .bool x,[],[]⟩
def bV.add:bV.D→bV.Y→bV.X:=fun n y=>y
def bV.aC:bV.D→Prop:=fun _=>True
def bV.F:bV.D→bV.Y:=fun n=>vR n
noncomputable def bV.G:dQ:=eR (P:=Tryz.prog) []
noncomputable def bV.an:eC:= {}
noncomputable def bV.A:= @cH Tryz.prog bV.G bV.an 0 Tryz.f64 _ bV.st
abbrev bV.Ok:=cI @bV.A bV.aC bV.add bV.F bV.out
theorem bV.eq{R:Type}(n:Int)(k:aZ→Option R):bV.A n k=
  aK ((mO n (0:Int))) (
   k (bV.out (zw n (1048576:Int)))) (
   k (bV.out false)):=by kernel_rfl
theorem bV.ok:bV.Ok:=by
 intro n _
 rw[bV.eq]
 simp only[bV.add,bV.F,vR]
 by_cases h:0≤n
 ·rw[fX h,ax]
  by_cases h2:n≤1048576
  ·rw[nh h2,aQ ⟨h,h2⟩]
  ·rw[kC h2,aM (fun x=>h2 x.2)]
 ·rw[eI h,aw,aM (fun x=>h x.1)]
noncomputable def bV.E:=Entry.ct [some ti] bV.st bV.aC bV.add bV.F bV.out
noncomputable def bV.call:bV.D→Option bV.X:=bH bV.E bV.st
theorem bV.run:bD bV.call bV.aC bV.add bV.F:=cO (cM [.d ti] fun _=>by kernel_rfl)
noncomputable def bV.sg:SG Tryz.prog:=⟨64,aV,bV.E,.fn 0 (by kernel_rfl) bV.ok trivial⟩
set_option synthInstance.maxSize 5000
abbrev aO.L0.D:=Lk×(List gf)×Int×Int
def aO.L0.st:aO.L0.D→AS:=fun(l_2,t7,t8,t9)=>⟨([.undef,.eB j7 l_2,.undef,.fn 61 (.nil),.undef,.undef,.undef,.d (.slice fg) t7,.d ti t8,.d ti t9]++a9 47 []),[],(List.replicate 57 [])⟩
abbrev aO.L0.Y0:=Unit
abbrev aO.L0.X0:=Unit
def aO.L0.bq:aO.L0.X0→Exit×AS:=fun x=>(.ret,⟨([.undef,.undef,.d .bool false]++a9 54 []),[],(List.replicate 57 [])⟩)
abbrev aO.L0.Y1:=Unit
abbrev aO.L0.X1:=Lk
def aO.L0.eM:aO.L0.X1→Exit×AS:=fun x=>(.exit 0,⟨([.undef,.eB j7 x]++a9 55 []),[],(List.replicate 57 [])⟩)
abbrev aO.L0.X:=(aO.L0.X0)⊕(aO.L0.X1)
abbrev aO.L0.Y:=(aO.L0.Y0)⊕(aO.L0.Y1)
def aO.L0.out:aO.L0.X→Out (Exit×AS):=fun x=> .br x.isLeft (.get x.getLeft? fun a=> .ok (aO.L0.bq a)) (.get x.getRight? fun b=> .ok (aO.L0.eM b))
def aO.L0.add:aO.L0.D→aO.L0.Y→aO.L0.X:=fun(l_2,t7,t8,t9) y=>match y with | .inl y=> .inl y | .inr z=> .inr (l_2)
abbrev aO.D:=Lk
def aO.st:aO.D→SA:=fun l=>([.d j7 l],[])
abbrev aO.Y:=Bool
abbrev aO.X:=Bool
def aO.out:aO.X→aZ:=fun x=>⟨.d .bool x,[],[]⟩
def aO.add:aO.D→aO.Y→aO.X:=fun l y=>y
def aO.L0.aC:aO.L0.D→Prop:=fun(l,bs,n,i)=>(∀b∈bs,Cp b)∧bs.length≤1000000000∧n=bs.length∧∃k:Nat,k≤bs.length∧i=k
def aO.L0.F:aO.L0.D→aO.L0.Y:=fun(l,bs,n,i)=>if(bs.drop i.toNat).all oh then .inr () else .inl ()
def aO.aC:aO.D→Prop:=fun l=>yk l∧l.1.length≤1000000000
def aO.F:aO.D→aO.Y:=fun l=>iN l
noncomputable def aO.G:dQ:=eR (P:=Tryz.prog) [bE.sg,bV.sg,eX.sg]
noncomputable def aO.L0.E:=bN.ct aO.L0.st aO.L0.aC aO.L0.add aO.L0.F aO.L0.out
noncomputable def aO.L0.call:aO.L0.D→Option aO.L0.X:=dh aO.L0.E aO.L0.st
noncomputable def aO.an:eC:= {loops:=jJ [(3,{bm:=[1,3,7,8,9]})],outs:=jI [(3,{bm:=[1]},{bm:=[2]})],fG:=kh [(3,aO.L0.E)]}
noncomputable def aO.A:= @cH Tryz.prog aO.G aO.an 0 Tryz.f13 _ aO.st
abbrev aO.Ok:=cI @aO.A aO.aC aO.add aO.F aO.out
noncomputable def aO.L0.R:= @bX Tryz.prog aO.G aO.an 0 Tryz.f13 0 _ aO.L0.st
abbrev aO.L0.Ok:=eA Tryz.prog aO.G aO.an 0 Tryz.f13 0 aO.L0.st aO.L0.aC aO.L0.add aO.L0.F aO.L0.out
theorem aO.L0.run:bD aO.L0.call aO.L0.aC aO.L0.add aO.L0.F:=eG (eE [.d j7,.d (.slice fg),.d ti,.d ti] fun _=>by kernel_rfl)
theorem aO.L0.aG:iZ @aO.L0.R aO.L0.st aO.L0.aC aO.L0.add aO.L0.F aO.L0.out aO.L0.Ok:=jm
theorem aO.L0.step{R:Type}(l_2:Lk)(t7:(List gf))(t8:Int)(t9:Int)(kn:AS→Option R)(kx:Exit→AS→Option R):aO.L0.R (l_2,t7,t8,t9) kn kx=
  aK ((gb t9 t8)) (
   aK (eh t9 (((List.length t7):Nat):Int)) (
   aK ((mN (((List.length (nth fg t7 (Int.toNat t9)).1):Nat):Int) (12:Int))) (
    kx (aO.L0.bq ()).1 (aO.L0.bq ()).2) (
    aj (bE.call (nth fg t7 (Int.toNat t9)).1) fun x1=>
    aK (x1) (
     kx (aO.L0.bq ()).1 (aO.L0.bq ()).2) (
     aj (bV.call (nth fg t7 (Int.toNat t9)).2.1) fun x2=>
     aK ((!x2)) (
      kx (aO.L0.bq ()).1 (aO.L0.bq ()).2) (
      aj (bV.call (nth fg t7 (Int.toNat t9)).2.2.1) fun x3=>
      aK ((!x3)) (
       kx (aO.L0.bq ()).1 (aO.L0.bq ()).2) (
       aK ((jn (nth fg t7 (Int.toNat t9)).2.2.2.1 (0:Int))) (
        aj (eX.call (nth fg t7 (Int.toNat t9)).2.2.2.1) fun x4=>
        aK (x4) (
         kx (aO.L0.bq ()).1 (aO.L0.bq ()).2) (
         kn (aO.L0.st (l_2,t7,t8,(bK .i64 t9 (1:Int)))))) (
        kn (aO.L0.st (l_2,t7,t8,(bK .i64 t9 (1:Int)))))))))) none) (
   kx (aO.L0.eM l_2).1 (aO.L0.eM l_2).2):=by kernel_rfl
theorem aO.eq{R:Type}(l:Lk)(k:aZ→Option R):aO.A l k=
  aj (aO.L0.call (l,l.1,(((List.length l.1):Nat):Int),(0:Int))) fun x5=>
  aK (x5.isLeft) (
   aj (x5.getLeft?) fun a6=>
   k (aO.out false)) (
   aj (x5.getRight?) fun b7=>
   aK ((mN (((List.length b7.1):Nat):Int) (0:Int))) (
    k (aO.out (zw (((List.length b7.1):Nat):Int) (4:Int)))) (
    k (aO.out false))):=by kernel_rfl
theorem aO.L0.ok:aO.L0.Ok:=by
 refine aO.L0.aG (fun(l,bs,n,i)=>bs.length - i.toNat) ?_
 rintro⟨l,bs,n,i⟩ ⟨hl,hb,rfl,k,hk,rfl⟩
 have hb:bs.length≤1000000000:=hb
 have hk:k≤bs.length:=hk
 by_cases h:k < bs.length
 ·have hx:Cp bs[k]:=hl _ (List.getElem_mem h)
  have n1:nth (.pair (.slice (.int .u64)) (.pair (.int .i64) (.pair (.int .i64) (.pair (.int .u64) .unit)))) bs k=bs[k]:=cj (t:=(.pair (.slice (.int .u64)) (.pair (.int .i64) (.pair (.int .i64) (.pair (.int .u64) .unit))))) h
  have hd:(bs.drop k).all oh=(oh bs[k] && (bs.drop (k+1)).all oh):=by rw[List.drop_eq_getElem_cons h,List.all_cons]
  have step:∀ {R:Type} (kn:AS→Option R) (kx:Exit→AS→Option R),aO.L0.R (l,bs,(bs.length:Int),(k:Int)) kn kx=aK (oh bs[k]) (kn (aO.L0.st (l,bs,(bs.length:Int),((k+1:Nat):Int)))) (kx (aO.L0.bq ()).1 (aO.L0.bq ()).2):=by
   intro R kn kx
   rw[aO.L0.step,bw (by omega),bh (by omega) (by omega),Int.toNat_natCast,n1,N.kk (by omega)]
   obtain⟨⟨ks,af,dl,sc,u⟩,hbk⟩:∃b,bs[k]=b:=⟨_,rfl⟩
   rw[hbk]at hx ⊢
   have h1:mS ks:=hx.1
   have h2:g9 sc:=hx.2
   simp only[ax,oh]
   by_cases hk:ks.length≤12
   ·rw[dC (by omega),bE.run (d:=ks) ⟨h1,by omega⟩,bV.run (d:=af) trivial,bV.run (d:=dl) trivial,eX.run (d:=sc) h2,aQ hk]
    simp only[aw,ab,bE.add,bE.F,bV.add,bV.F,eX.add,eX.F,Bool.true_and]
    cases ks.all lX
    ·rfl
    cases vR af
    ·rfl
    cases vR dl
    ·rfl
    by_cases hs:sc=0
    ·rw[bP hs,aQ hs];rfl
    ·rw[dw hs,aM hs]
     cases lX sc <;> rfl
   ·rw[dL (by omega),aM hk];rfl
  cases hp:oh bs[k]
  ·right
   refine⟨aO.L0.bq (),?_,fun kn kx=> ?_⟩
   ·simp only[aO.L0.add,aO.L0.F,Int.toNat_natCast,hd,hp,Bool.false_and,Bool.false_eq_true,if_false]
    rfl
   ·rw[step,hp,aw]
  ·left
   refine⟨(l,bs,bs.length,((k+1:Nat):Int)),⟨hl,hb,rfl,k+1,by omega,rfl⟩,by simp only[Int.toNat_natCast];omega,?_,fun kn kx=> ?_⟩
   ·simp only[aO.L0.add,aO.L0.F,Int.toNat_natCast,hd,hp,Bool.true_and]
   ·rw[step,hp,ax]
 ·right
  obtain rfl:k=bs.length:=by omega
  refine⟨aO.L0.eM l,?_,fun kn kx=> ?_⟩
  ·simp only[aO.L0.add,aO.L0.F,Int.toNat_natCast,List.drop_length]
   rfl
  ·rw[aO.L0.step]
   simp(disch:=omega) only[↓S1,↓if_pos,↓if_neg,if_pos,if_neg,if_true,if_false,S2]
theorem aO.ok:aO.Ok:=by
 rintro l ⟨hl,hb⟩
 have hb:l.1.length≤1000000000:=hb
 rw[aO.eq,aO.L0.run (d:=(l,l.1,l.1.length,0)) ⟨hl,hb,rfl,0,by omega,rfl⟩]
 simp only[ab,aO.L0.add,aO.L0.F,Int.toNat_zero,List.drop_zero,aO.add,aO.F,iN]
 cases l.1.all oh
 ·rfl
 ·simp only[if_true,Bool.true_and]
  show aK (mN _ _) _ _=_
  by_cases h0:0 < l.1.length
  ·rw[dL (by omega)]
   by_cases h4:l.1.length≤4
   ·rw[nh (by omega),aQ ⟨h0,h4⟩];rfl
   ·rw[kC (by omega),aM (fun x=>h4 x.2)];rfl
  ·rw[dC (by omega),aM (fun x=>h0 x.1)];rfl
noncomputable def aO.E:=Entry.ct [some j7] aO.st aO.aC aO.add aO.F aO.out
noncomputable def aO.call:aO.D→Option aO.X:=bH aO.E aO.st
theorem aO.run:bD aO.call aO.aC aO.add aO.F:=cO (cM [.d j7] fun _=>by kernel_rfl)
noncomputable def aO.sg:SG Tryz.prog:=⟨13,aV,aO.E,.fn 1 (by kernel_rfl) aO.ok (And.intro (.ct aO.L0.ok (by kernel_rfl)) trivial)⟩
def oP(m:List Int):List Int→List Sg→Bool
 |[],_=>true
 |p::ps,ss=>ln p m 1 (ss.headD (0,0,())) && oP m ps ss.tail
def CF(l:Lk)(w:lW)(m:List Int)(height age:Int):Int:=
 if iN l=false∨w.1 < 0∨w.1≥l.1.length then 1
 else
  let b:=nth (.pair (.slice (.int .u64)) (.pair (.int .i64) (.pair (.int .i64) (.pair (.int .u64) .unit)))) l.1 w.1.toNat
  if height < b.2.1∨age < b.2.2.1 then 11
  else if b.2.2.2.1≠0∧gA w.2.2.1≠b.2.2.2.1 then 23
  else if w.2.1.length≠b.1.length then 7
  else if oP m b.1 w.2.1 then 0 else 7
theorem z8(m:List Int)(ks:List Int)(ss:List Sg)(h:ss.length=ks.length)(k:Nat)(hk:k < ks.length):oP m (ks.drop k) (ss.drop k)=(ln ks[k] m 1 (ss[k]'(by omega)) && oP m (ks.drop (k+1)) (ss.drop (k+1))):=by
 rw[List.drop_eq_getElem_cons hk,List.drop_eq_getElem_cons (by omega:k < ss.length)]
 rfl
def qM(w:lW):Prop:=(∀s∈w.2.1,CK s)∧g9 w.2.2.1
abbrev bj.L0.D:=lW×Bs×Bs×Int×Int
def bj.L0.st:bj.L0.D→AS:=fun(wv_2,m_2,t68,t69,t70)=>⟨(a9 6 ([.eB ri wv_2,.eB tH m_2]++a9 60 ([.d tU t68,.d ti t69,.d ti t70]++a9 14 []))),[],(List.replicate 85 [])⟩
abbrev bj.L0.Y0:=Unit
abbrev bj.L0.X0:=Unit
def bj.L0.bq:bj.L0.X0→Exit×AS:=fun x=>(.ret,⟨(a9 10 ([.d ti (7:Int)]++a9 74 [])),[],(List.replicate 85 [])⟩)
abbrev bj.L0.Y1:=Unit
abbrev bj.L0.X1:=Unit
def bj.L0.eM:bj.L0.X1→Exit×AS:=fun x=>(.exit 1,⟨(a9 85 []),[],(List.replicate 85 [])⟩)
abbrev bj.L0.X:=(bj.L0.X0)⊕(bj.L0.X1)
abbrev bj.L0.Y:=(bj.L0.Y0)⊕(bj.L0.Y1)
def bj.L0.out:bj.L0.X→Out (Exit×AS):=fun x=> .br x.isLeft (.get x.getLeft? fun a=> .ok (bj.L0.bq a)) (.get x.getRight? fun b=> .ok (bj.L0.eM b))
def bj.L0.add:bj.L0.D→bj.L0.Y→bj.L0.X:=fun(wv_2,m_2,t68,t69,t70) y=>match y with | .inl y=> .inl y | .inr z=> .inr (z)
abbrev bj.D:=Lk×lW×Bs×Int×Int
def bj.st:bj.D→SA:=fun(l,wv,m,height,age)=>([.d j7 l,.d ri wv,.d tH m,.d ti height,.d ti age],[])
abbrev bj.Y:=Int
abbrev bj.X:=Int
def bj.out:bj.X→aZ:=fun x=>⟨.d ti x,[],[]⟩
def bj.add:bj.D→bj.Y→bj.X:=fun(l,wv,m,height,age) y=>y
def bj.L0.aC:bj.L0.D→Prop:=fun(w,m,ks,n,i)=>qM w∧Sm m∧mS ks∧ks.length≤1000000000∧w.2.1.length=ks.length∧n=ks.length∧∃k:Nat,k≤ks.length∧i=k
def bj.L0.F:bj.L0.D→bj.L0.Y:=fun(w,m,ks,n,i)=>if oP m (ks.drop i.toNat) (w.2.1.drop i.toNat) then .inr () else .inl ()
def bj.aC:bj.D→Prop:=fun(l,w,m,h,a)=>yk l∧l.1.length≤1000000000∧qM w∧Sm m
def bj.F:bj.D→bj.Y:=fun(l,w,m,h,a)=>CF l w m h a
noncomputable def bj.G:dQ:=eR (P:=Tryz.prog) [aO.sg,df.sg,bQ.sg]
noncomputable def bj.L0.E:=bN.ct bj.L0.st bj.L0.aC bj.L0.add bj.L0.F bj.L0.out
noncomputable def bj.L0.call:bj.L0.D→Option bj.L0.X:=dh bj.L0.E bj.L0.st
noncomputable def bj.an:eC:= {loops:=jJ [(11,{bm:=[6,7,68,69,70]})],outs:=jI [(11,{},{bm:=[10]})],fG:=kh [(11,bj.L0.E)]}
noncomputable def bj.A:= @cH Tryz.prog bj.G bj.an 0 Tryz.f47 _ bj.st
abbrev bj.Ok:=cI @bj.A bj.aC bj.add bj.F bj.out
noncomputable def bj.L0.R:= @bX Tryz.prog bj.G bj.an 0 Tryz.f47 0 _ bj.L0.st
abbrev bj.L0.Ok:=eA Tryz.prog bj.G bj.an 0 Tryz.f47 0 bj.L0.st bj.L0.aC bj.L0.add bj.L0.F bj.L0.out
theorem bj.L0.run:bD bj.L0.call bj.L0.aC bj.L0.add bj.L0.F:=eG (eE [.d ri,.d tH,.d tU,.d ti,.d ti] fun _=>by kernel_rfl)
theorem bj.L0.aG:iZ @bj.L0.R bj.L0.st bj.L0.aC bj.L0.add bj.L0.F bj.L0.out bj.L0.Ok:=jm
theorem bj.L0.step{R:Type}(wv_2:lW)(m_2:Bs)(t68:Bs)(t69:Int)(t70:Int)(kn:AS→Option R)(kx:Exit→AS→Option R):bj.L0.R (wv_2,m_2,t68,t69,t70) kn kx=
  aK ((gb t70 t69)) (
   aK (eh t70 (((List.length t68):Nat):Int)) (
   aK (eh t70 (((List.length wv_2.2.1):Nat):Int)) (
   aj (bQ.call ((nth tu t68 (Int.toNat t70)),m_2,(nth iQ wv_2.2.1 (Int.toNat t70)))) fun x1=>
   aK ((!x1)) (
    kx (bj.L0.bq ()).1 (bj.L0.bq ()).2) (
    kn (bj.L0.st (wv_2,m_2,t68,t69,(bK .i64 t70 (1:Int)))))) none) none) (
   kx (bj.L0.eM ()).1 (bj.L0.eM ()).2):=by kernel_rfl
theorem bj.eq{R:Type}(l:Lk)(wv:lW)(m:Bs)(height:Int)(age:Int)(k:aZ→Option R):bj.A (l,wv,m,height,age) k=
  aj (aO.call l) fun x1=>
  aK ((!x1)) (
   k (bj.out (1:Int))) (
   aK ((gb wv.1 (0:Int))) (
    k (bj.out (1:Int))) (
    aK ((mO wv.1 (((List.length l.1):Nat):Int))) (
     k (bj.out (1:Int))) (
     aK (eh wv.1 (((List.length l.1):Nat):Int)) (
     aK ((gb height (nth fg l.1 (Int.toNat wv.1)).2.1)) (
      k (bj.out (11:Int))) (
      aK ((gb age (nth fg l.1 (Int.toNat wv.1)).2.2.1)) (
       k (bj.out (11:Int))) (
       aK ((jn (nth fg l.1 (Int.toNat wv.1)).2.2.2.1 (0:Int))) (
        aj (df.call wv.2.2.1) fun x2=>
        aK ((jn x2 (nth fg l.1 (Int.toNat wv.1)).2.2.2.1)) (
         k (bj.out (23:Int))) (
         aK ((jn (((List.length wv.2.1):Nat):Int) (((List.length (nth fg l.1 (Int.toNat wv.1)).1):Nat):Int))) (
          k (bj.out (7:Int))) (
          aj (bj.L0.call (wv,m,(nth fg l.1 (Int.toNat wv.1)).1,(((List.length (nth fg l.1 (Int.toNat wv.1)).1):Nat):Int),(0:Int))) fun x4=>
          aK (x4.isLeft) (
           aj (x4.getLeft?) fun a5=>
           k (bj.out (7:Int))) (
           aj (x4.getRight?) fun b6=>
           k (bj.out (0:Int)))))) (
        aK ((jn (((List.length wv.2.1):Nat):Int) (((List.length (nth fg l.1 (Int.toNat wv.1)).1):Nat):Int))) (
         k (bj.out (7:Int))) (
         aj (bj.L0.call (wv,m,(nth fg l.1 (Int.toNat wv.1)).1,(((List.length (nth fg l.1 (Int.toNat wv.1)).1):Nat):Int),(0:Int))) fun x7=>
         aK (x7.isLeft) (
          aj (x7.getLeft?) fun a8=>
          k (bj.out (7:Int))) (
          aj (x7.getRight?) fun b9=>
          k (bj.out (0:Int)))))))) none))):=by kernel_rfl
theorem bj.L0.ok:bj.L0.Ok:=by
 refine bj.L0.aG (fun(w,m,ks,n,i)=>ks.length - i.toNat) ?_
 rintro⟨w,m,ks,n,i⟩ ⟨hw,hm,hl,hb,hs,rfl,k,hk,rfl⟩
 have hb:ks.length≤1000000000:=hb
 have hk:k≤ks.length:=hk
 have hs:w.2.1.length=ks.length:=hs
 by_cases h:k < ks.length
 ·have hx:=hl _ (List.getElem_mem h)
  have hy:=hw.1 _ (List.getElem_mem (by omega:k < w.2.1.length))
  have n1:nth (.int .u64) ks k=ks[k]:=cj (t:= .int .u64) h
  have n2:nth (.pair (.int .u64) (.pair (.int .u64) .unit)) w.2.1 k=w.2.1[k]'(by omega):=cj (t:=(.pair (.int .u64) (.pair (.int .u64) .unit))) (by omega)
  have hd:=z8 m ks w.2.1 hs k h
  have step:∀ {R:Type} (kn:AS→Option R) (kx:Exit→AS→Option R),bj.L0.R (w,m,ks,(ks.length:Int),(k:Int)) kn kx=aK (ln ks[k] m 1 (w.2.1[k]'(by omega))) (kn (bj.L0.st (w,m,ks,(ks.length:Int),((k+1:Nat):Int)))) (kx (bj.L0.bq ()).1 (bj.L0.bq ()).2):=by
   intro R kn kx
   rw[bj.L0.step,bw (by omega),bh (by omega) (by omega),bh (by omega) (by omega),Int.toNat_natCast,n1,n2,N.kk (by omega),bQ.run (d:=(ks[k],m,w.2.1[k]'(by omega))) ⟨hx,hm,hy⟩]
   simp only[ax,ab,bQ.add,bQ.F]
   cases ln ks[k] m 1 (w.2.1[k]'(by omega)) <;> rfl
  cases hp:ln ks[k] m 1 (w.2.1[k]'(by omega))
  ·right
   refine⟨bj.L0.bq (),?_,fun kn kx=> ?_⟩
   ·simp only[bj.L0.add,bj.L0.F,Int.toNat_natCast,hd,hp,Bool.false_and,Bool.false_eq_true,if_false]
    rfl
   ·rw[step,hp,aw]
  ·left
   refine⟨(w,m,ks,ks.length,((k+1:Nat):Int)),⟨hw,hm,hl,hb,hs,rfl,k+1,by omega,rfl⟩,by simp only[Int.toNat_natCast];omega,?_,fun kn kx=> ?_⟩
   ·simp only[bj.L0.add,bj.L0.F,Int.toNat_natCast,hd,hp,Bool.true_and]
   ·rw[step,hp,ax]
 ·right
  obtain rfl:k=ks.length:=by omega
  refine⟨bj.L0.eM (),?_,fun kn kx=> ?_⟩
  ·simp only[bj.L0.add,bj.L0.F,Int.toNat_natCast,List.drop_length]
   rfl
  ·rw[bj.L0.step]
   simp(disch:=omega) only[↓S1,↓if_pos,↓if_neg,if_pos,if_neg,if_true,if_false,S2]
theorem zD{l:Lk}(h:iN l=true){b:gf}(hb:b∈l.1):b.1.length≤12:=by
 unfold iN at h
 rw[Bool.and_eq_true,List.all_eq_true]at h
 have:=h.1 b hb
 unfold oh at this
 rw[Bool.and_eq_true]at this
 simpa using this.1
theorem bj.ok:bj.Ok:=by
  rintro⟨l,w,m,h,a⟩ ⟨hl,hb,hw,hm⟩
  have hl:yk l:=hl
  have hb:l.1.length≤1000000000:=hb
  have hw:qM w:=hw
  have hm:Sm m:=hm
  rw[bj.eq,aO.run (d:=l) ⟨hl,hb⟩]
  simp only[ab,aO.add,aO.F,bj.add,bj.F,CF]
  cases hok:iN l
  · rw[if_pos (Or.inl rfl)];rfl
  by_cases h0:w.1 < 0
  · rw[bw h0,if_pos (Or.inr (Or.inl h0))];rfl
  by_cases h1:w.1≥l.1.length
  · rw[bn h0,fX h1,if_pos (Or.inr (Or.inr h1))];rfl
  rw[bn h0,eI h1,bh (by omega) (by omega),if_neg (by simp[h0];omega)]
  have hn:w.1.toNat < l.1.length:=by omega
  have n1:nth (.pair (.slice (.int .u64)) (.pair (.int .i64) (.pair (.int .i64) (.pair (.int .u64) .unit)))) l.1 w.1.toNat=l.1[w.1.toNat]:=cj (t:=(.pair (.slice (.int .u64)) (.pair (.int .i64) (.pair (.int .i64) (.pair (.int .u64) .unit))))) hn
  rw[n1]
  have hx:Cp l.1[w.1.toNat]:=hl _ (List.getElem_mem hn)
  have hkl:=zD hok (List.getElem_mem hn)
  obtain⟨⟨ks,af,dl,sc,u⟩,hbk⟩:∃b,l.1[w.1.toNat]=b:=⟨_,rfl⟩
  rw[hbk]at hx hkl ⊢
  have hks:mS ks:=hx.1
  have hkl:ks.length≤12:=hkl
  simp only[Bool.not_true,aw,ax]
  by_cases e1:h < af
  · rw[bw e1,if_pos (Or.inl e1)];rfl
  by_cases e2:a < dl
  · rw[bn e1,bw e2,if_pos (Or.inr e2)];rfl
  rw[bn e1,bn e2,if_neg (by simp[e1,e2]),df.run (d:=w.2.2.1) hw.2]
  simp only[aw,ab,df.add,df.F]
  have last:aK (jn ((w.2.1.length:Nat):Int) ((ks.length:Nat):Int)) (some (bj.out (7:Int))) (
          aj (bj.L0.call (w,m,ks,((ks.length:Nat):Int),(0:Int))) fun x4=>
          aK (x4.isLeft) (aj (x4.getLeft?) fun a5=>some (bj.out (7:Int))) (aj (x4.getRight?) fun b6=>some (bj.out (0:Int))))=some (bj.out (if w.2.1.length≠ks.length then 7 else if oP m ks w.2.1 then 0 else 7)):=by
    by_cases e3:w.2.1.length=ks.length
    · rw[bP (by omega),if_neg (by simp[e3]),aw,bj.L0.run (d:=(w,m,ks,ks.length,0)) ⟨hw,hm,hks,by show ks.length≤1000000000;omega,e3,rfl,0,by omega,rfl⟩]
      simp only[ab,bj.L0.add,bj.L0.F,Int.toNat_zero,List.drop_zero]
      cases oP m ks w.2.1 <;> rfl
    · rw[dw (by omega),if_pos e3];rfl
  by_cases e4:sc=0
  · rw[bP e4,if_neg (by simp[e4]),aw]
    exact last
  · rw[dw e4,ax]
    by_cases e5:gA w.2.2.1=sc
    · rw[bP e5,if_neg (by simp[e5]),aw]
      exact last
    · rw[dw e5,if_pos ⟨e4,e5⟩];rfl
noncomputable def bj.E:=Entry.ct [some j7,some ri,some tH,some ti,some ti] bj.st bj.aC bj.add bj.F bj.out
noncomputable def bj.call:bj.D→Option bj.X:=bH bj.E bj.st
theorem bj.run:bD bj.call bj.aC bj.add bj.F:=cO (cM [.d j7,.d ri,.d tB,.d ti,.d ti] fun _=>by kernel_rfl)
noncomputable def bj.sg:SG Tryz.prog:=⟨47,aV,bj.E,.fn 1 (by kernel_rfl) bj.ok (And.intro (.ct bj.L0.ok (by kernel_rfl)) trivial)⟩
set_option synthInstance.maxSize 5000
abbrev dT.D:=Int
def dT.st:dT.D→SA:=fun n=>([.cV,.d ti n],[])
abbrev dT.Y:=Nat×(List Int)
abbrev dT.X:=Nat×(List Int)
def dT.out:dT.X→aZ:=fun x=>⟨.cf (.new 0 0) 0 [] 0 0 x.1,[],[.obj 0 false (.vec 5 tb x.2)]⟩
def dT.add:dT.D→dT.Y→dT.X:=fun n y=>y
def dT.aC:dT.D→Prop:=fun n=>∃k:Nat,n=k∧k≤100000000
def dT.F:dT.D→dT.Y:=fun n=>(0,List.replicate n.toNat 0)
noncomputable def dT.G:dQ:=eR (P:=Tryz.prog) []
noncomputable def dT.an:eC:= {ix:=[⟨4,[],22,25⟩]}
noncomputable def dT.A:= @cH Tryz.prog dT.G dT.an 0 Tryz.f170 _ dT.st
abbrev dT.Ok:=cI @dT.A dT.aC dT.add dT.F dT.out
theorem dT.eq{R:Type}(n:Int)(k:aZ→Option R):dT.A n k=
  aK ((gb n (0:Int))) (
   none) (
   aK ((mN (de .i64 n (0:Int)) (0:Int))) (
    aK (decide (0 < (de .i64 n (0:Int))) && dj (Int.toNat (de .i64 n (0:Int))) 1) (
    aK (inc (0:Int) (((Int.toNat (de .i64 n (0:Int))):Nat):Int)) (
    k (dT.out (0,(List.replicate (Int.toNat (de .i64 n (0:Int))) (0:Int))))) none) none) (
    k (dT.out (0,([]:List Int))))):=by kernel_rfl
theorem dT.ok:dT.Ok:=by
 rintro n ⟨k,rfl,hk⟩
 have e:de .i64 (k:Int) 0=(k:Int):=by rw[fx (by omega) (by omega)];omega
 rw[dT.eq,e,bn (by omega),aw]
 by_cases h:0 < k
 ·rw[dL (by omega),Int.toNat_natCast,aQ (by omega),eF (by omega) (by omega),kH (by omega) (by omega)]
  rfl
 ·obtain rfl:k=0:=by omega
  rfl
noncomputable def dT.E:=Entry.ct [none,some ti] dT.st dT.aC dT.add dT.F dT.out
noncomputable def dT.call:dT.D→Option dT.X:=bH dT.E dT.st
theorem dT.run:bD dT.call dT.aC dT.add dT.F:=cO (cM [.d ti] fun _=>by kernel_rfl)
noncomputable def dT.sg:SG Tryz.prog:=⟨170,aV,dT.E,.fn 0 (by kernel_rfl) dT.ok trivial⟩
def je(l:List (List Int)):Nat:=l.flatten.length
def sP(n:Nat)(l:List Int):List (List Int)→Nat×List Int
 |[]=>(n,l)
 |s::r=>(n+(s::r).flatten.length,l.take n++(s::r).flatten)
theorem zj(n:Nat)(l s:List Int)(r:List (List Int))(h:n≤l.length):sP n l (s::r)=sP (n+s.length) (l.take n++s) r:=by
 have hl:(l.take n++s).length=n+s.length:=by rw[List.length_append,List.length_take];omega
 cases r with
 |nil=>simp[sP]
 |cons t r=>
  simp only[sP]
  rw[List.take_of_length_le (Nat.le_of_eq hl)]
  simp only[List.flatten_cons,List.length_append,List.append_assoc,Nat.add_assoc]
theorem BR(n:Nat)(z:List Int)(r:List (List Int)):(sP 0 z r).1≤(sP 0 z r).2.length∧cut (sP 0 z r).2 0 (sP 0 z r).1=r.flatten:=by
 cases r with
 |nil=>exact⟨Nat.zero_le _,rfl⟩
 |cons s r=>
  simp only[sP,List.take_zero,List.nil_append,Nat.zero_add]
  exact⟨Nat.le_refl _,by show List.take _ (List.drop 0 _)=_;rw[List.drop_zero,List.take_length]⟩
abbrev az.L0.D:=(List Bs)×Int×(List Bs)×Int×Int
def az.L0.st:az.L0.D→AS:=fun(slices_2,size,t9,t10,t11)=>⟨([.d (.slice tB) slices_2,.undef,.undef,.d ti size]++a9 5 ([.d (.slice tB) t9,.d ti t10,.d ti t11]++a9 24 [])),[],(List.replicate 36 [])⟩
abbrev az.L0.Y0:=Int
abbrev az.L0.X0:=((List Bs))×(Int)
def az.L0.bq:az.L0.X0→Exit×AS:=fun x=>(.exit 0,⟨([.d (.slice tB) x.1,.undef,.undef,.d ti x.2]++a9 32 []),[],(List.replicate 36 [])⟩)
abbrev az.L0.X:=az.L0.X0
abbrev az.L0.Y:=az.L0.Y0
def az.L0.out:az.L0.X→Out (Exit×AS):=fun x=> .ok (az.L0.bq x)
def az.L0.add:az.L0.D→az.L0.Y→az.L0.X:=fun(slices_2,size,t9,t10,t11) y=>(slices_2,y)
abbrev az.L1.D:=Nat×(List Bs)×Int×Int×(List Int)
def az.L1.st:az.L1.D→AS:=fun(newsliceL,t25,t26,t27,n24)=>⟨(a9 6 ([.cf (.new 24 0) 0 [] 0 0 newsliceL]++a9 18 ([.d (.slice tB) t25,.d ti t26,.d ti t27]++a9 8 []))),[],(bJ 24 ([[.obj 0 false (.vec 5 tb n24)]]++bJ 11 []))⟩
abbrev az.L1.Y0:=Nat×(List Int)
abbrev az.L1.X0:=Nat×(List Int)
def az.L1.bq:az.L1.X0→Exit×AS:=fun x=>(.exit 2,⟨(a9 6 ([.cf (.new 24 0) 0 [] 0 0 x.1]++a9 29 [])),[],(bJ 24 ([[.obj 0 false (.vec 5 tb x.2)]]++bJ 11 []))⟩)
abbrev az.L1.X:=az.L1.X0
abbrev az.L1.Y:=az.L1.Y0
def az.L1.out:az.L1.X→Out (Exit×AS):=fun x=> .ok (az.L1.bq x)
def az.L1.add:az.L1.D→az.L1.Y→az.L1.X:=fun(newsliceL,t25,t26,t27,n24) y=>y
abbrev az.D:=(List Bs)
def az.st:az.D→SA:=fun slices=>([.d (.slice tB) slices],[])
abbrev az.Y:=Bs
abbrev az.X:=Bs
def az.out:az.X→aZ:=fun x=>⟨.d tB x,[],[]⟩
def az.add:az.D→az.Y→az.X:=fun slices y=>y
def az.L0.aC:az.L0.D→Prop:=fun(s,size,t,n,i)=>s.length≤1000000∧t=s∧n=s.length∧∃k z:Nat,k≤s.length∧i=k∧size=z∧z+je (s.drop k)≤100000000
def az.L0.F:az.L0.D→az.L0.Y:=fun(s,size,t,n,i)=>((size:Int)+((je (s.drop i.toNat):Nat):Int):Int)
def az.L1.aC:az.L1.D→Prop:=fun(n,s,t,i,l)=>s.length≤1000000∧n≤l.length∧t=s.length∧∃k:Nat,k≤s.length∧i=k∧n+je (s.drop k)≤100000000
def az.L1.F:az.L1.D→az.L1.Y:=fun(n,s,t,i,l)=>sP n l (s.drop i.toNat)
def az.aC:az.D→Prop:=fun s=>s.length≤1000000∧je s≤100000000
def az.F:az.D→az.Y:=fun s=>s.flatten
noncomputable def az.G:dQ:=eR (P:=Tryz.prog) [dT.sg]
noncomputable def az.L0.E:=bN.ct az.L0.st az.L0.aC az.L0.add az.L0.F az.L0.out
noncomputable def az.L0.call:az.L0.D→Option az.L0.X:=dh az.L0.E az.L0.st
noncomputable def az.L1.E:=bN.ct az.L1.st az.L1.aC az.L1.add az.L1.F az.L1.out
noncomputable def az.L1.call:az.L1.D→Option az.L1.X:=dh az.L1.E az.L1.st
noncomputable def az.an:eC:= {loops:=jJ [(3,{bm:=[0,3,9,10,11]}),(11,{bm:=[6,25,26,27],sites:=[24],ix:=[⟨6,[],24,25⟩]})],outs:=jI [(3,{bm:=[0,3]},{bm:=[2]}),(11,{bm:=[6],sites:=[24]},{bm:=[2]})],fG:=kh [(3,az.L0.E),(11,az.L1.E)],res:=[some tB]}
noncomputable def az.A:= @cH Tryz.prog az.G az.an 0 Tryz.f153 _ az.st
abbrev az.Ok:=cI @az.A az.aC az.add az.F az.out
noncomputable def az.L0.R:= @bX Tryz.prog az.G az.an 0 Tryz.f153 0 _ az.L0.st
abbrev az.L0.Ok:=eA Tryz.prog az.G az.an 0 Tryz.f153 0 az.L0.st az.L0.aC az.L0.add az.L0.F az.L0.out
noncomputable def az.L1.R:= @bX Tryz.prog az.G az.an 0 Tryz.f153 1 _ az.L1.st
abbrev az.L1.Ok:=eA Tryz.prog az.G az.an 0 Tryz.f153 1 az.L1.st az.L1.aC az.L1.add az.L1.F az.L1.out
theorem az.L0.run:bD az.L0.call az.L0.aC az.L0.add az.L0.F:=eG (eE [.d (.slice tB),.d ti,.d (.slice tB),.d ti,.d ti] fun _=>by kernel_rfl)
theorem az.L0.aG:fR @az.L0.R az.L0.st az.L0.aC az.L0.add az.L0.F az.L0.bq az.L0.Ok:=fU
theorem az.L0.step{R:Type}(slices_2:(List Bs))(size:Int)(t9:(List Bs))(t10:Int)(t11:Int)(kn:AS→Option R)(kx:Exit→AS→Option R):az.L0.R (slices_2,size,t9,t10,t11) kn kx=
  aK ((gb t11 t10)) (
   aK (eh t11 (((List.length t9):Nat):Int)) (
   aK ((gb (bK .i64 size (((List.length (nth tB t9 (Int.toNat t11))):Nat):Int)) (0:Int))) (
    none) (
    kn (az.L0.st (slices_2,(bK .i64 size (((List.length (nth tB t9 (Int.toNat t11))):Nat):Int)),t9,t10,(bK .i64 t11 (1:Int)))))) none) (
   kx (az.L0.bq (slices_2,size)).1 (az.L0.bq (slices_2,size)).2):=by kernel_rfl
theorem az.L1.run:bD az.L1.call az.L1.aC az.L1.add az.L1.F:=eG (eE [.n,.d (.slice tB),.d ti,.d ti,.d tB] fun _=>by kernel_rfl)
theorem az.L1.aG:fR @az.L1.R az.L1.st az.L1.aC az.L1.add az.L1.F az.L1.bq az.L1.Ok:=fU
theorem az.L1.step{R:Type}(newsliceL:Nat)(t25:(List Bs))(t26:Int)(t27:Int)(n24:(List Int))(kn:AS→Option R)(kx:Exit→AS→Option R):az.L1.R (newsliceL,t25,t26,t27,n24) kn kx=
  aK ((gb t27 t26)) (
   aK (eh t27 (((List.length t25):Nat):Int)) (
   aK (decide (newsliceL≤(List.length n24))) (
   aK (dj (newsliceL+(List.length (nth tB t25 (Int.toNat t27)))) 1) (
   kn (az.L1.st ((newsliceL+(List.length (nth tB t25 (Int.toNat t27)))),t25,t26,(bK .i64 t27 (1:Int)),((List.take newsliceL n24)++(nth tB t25 (Int.toNat t27)))))) none) none) none) (
   kx (az.L1.bq (newsliceL,n24)).1 (az.L1.bq (newsliceL,n24)).2):=by kernel_rfl
theorem az.eq{R:Type}(slices:(List Bs))(k:aZ→Option R):az.A slices k=
 aj (az.L0.call (slices,(0:Int),slices,(((List.length slices):Nat):Int),(0:Int))) fun x1=>
 aj (dT.call x1.2) fun x2=>
 aj (az.L1.call (x2.1,x1.1,(((List.length x1.1):Nat):Int),(0:Int),x2.2)) fun x3=>
 aK (decide (0=0∧(0+x3.1)≤(List.length x3.2))) (
 k (az.out (cut x3.2 0 x3.1))) none:=by kernel_rfl
theorem yH(s:List (List Int))(k:Nat)(h:k < s.length):je (s.drop k)=s[k].length+je (s.drop (k+1)):=by
 unfold je
 rw[List.drop_eq_getElem_cons h,List.flatten_cons,List.length_append]
theorem az.L0.ok:az.L0.Ok:=by
 refine az.L0.aG (fun(s,size,t,n,i)=>s.length - i.toNat) ?_
 rintro⟨s,size,t,n,i⟩ ⟨hs,rfl,rfl,k,z,hk,rfl,rfl,hz⟩
 have hs:t.length≤1000000:=hs
 have hk:k≤t.length:=hk
 have hz:z+je (t.drop k)≤100000000:=hz
 by_cases h:k < t.length
 ·left
  have n1:nth (.slice (.int .u8)) t k=t[k]:=cj (t:= .slice (.int .u8)) h
  have hd:=yH t k h
  refine⟨(t,((z+t[k].length:Nat):Int),t,t.length,((k+1:Nat):Int)),⟨hs,rfl,rfl,k+1,z+t[k].length,by omega,rfl,rfl,by omega⟩,by simp only[Int.toNat_natCast];omega,?_,fun kn kx=> ?_⟩
  ·simp only[az.L0.add,az.L0.F,Int.toNat_natCast]
   rw[hd]
   refine congrArg _ ?_
   omega
  ·rw[az.L0.step]
   simp(disch:=omega) only[↓S1,↓if_pos,↓if_neg,if_pos,if_neg,if_true,if_false,S2,n1]
 ·right
  obtain rfl:k=t.length:=by omega
  intro R kn kx
  rw[az.L0.step]
  simp(disch:=omega) only[↓S1,↓if_pos,↓if_neg,if_pos,if_neg,if_true,if_false,S2,az.L0.add,az.L0.F,List.drop_length]
  simp only[je,List.flatten_nil,List.length_nil,Int.natCast_zero,Int.add_zero]
theorem az.L1.ok:az.L1.Ok:=by
 refine az.L1.aG (fun(n,s,t,i,l)=>s.length - i.toNat) ?_
 rintro⟨n,s,t,i,l⟩ ⟨hs,hn,rfl,k,hk,rfl,hz⟩
 have hs:s.length≤1000000:=hs
 have hn:n≤l.length:=hn
 have hk:k≤s.length:=hk
 have hz:n+je (s.drop k)≤100000000:=hz
 by_cases h:k < s.length
 ·left
  have n1:nth (.slice (.int .u8)) s k=s[k]:=cj (t:= .slice (.int .u8)) h
  have hd:=yH s k h
  refine⟨(n+s[k].length,s,s.length,((k+1:Nat):Int),l.take n++s[k]),⟨hs,by rw[List.length_append,List.length_take];omega,rfl,k+1,by omega,rfl,by omega⟩,by simp only[Int.toNat_natCast];omega,?_,fun kn kx=> ?_⟩
  ·simp only[az.L1.add,az.L1.F,Int.toNat_natCast]
   rw[List.drop_eq_getElem_cons h,zj _ _ _ _ hn]
  ·rw[az.L1.step]
   simp(disch:=omega) only[↓S1,↓if_pos,↓if_neg,if_pos,if_neg,if_true,if_false,S2,n1]
 ·right
  obtain rfl:k=s.length:=by omega
  intro R kn kx
  rw[az.L1.step]
  simp(disch:=omega) only[↓S1,↓if_pos,↓if_neg,if_pos,if_neg,if_true,if_false,S2,az.L1.add,az.L1.F,List.drop_length]
  rfl
theorem az.ok:az.Ok:=by
 rintro s ⟨hs,hz⟩
 have hs:s.length≤1000000:=hs
 have hz:je s≤100000000:=hz
 have p1:az.L0.aC (s,0,s,s.length,0):=⟨hs,rfl,rfl,0,0,by omega,rfl,rfl,by rw[List.drop_zero];omega⟩
 have p2:az.L1.aC (0,s,s.length,0,List.replicate (je s) 0):=⟨hs,by omega,rfl,0,by omega,rfl,by rw[List.drop_zero];omega⟩
 rw[az.eq,az.L0.run p1]
 simp only[ab,az.L0.add,az.L0.F,Int.toNat_zero,List.drop_zero,Int.zero_add]
 rw[dT.run (d:=((je s:Nat):Int)) ⟨je s,rfl,hz⟩]
 simp only[ab,dT.add,dT.F,Int.toNat_natCast]
 rw[az.L1.run p2]
 simp only[ab,az.L1.add,az.L1.F,Int.toNat_zero,List.drop_zero]
 obtain⟨c1,c2⟩:=BR 0 (List.replicate (je s) 0) s
 simp only[Nat.zero_add,c1,and_self,decide_true,ax,c2]
 rfl
noncomputable def az.E:=Entry.ct [some (.slice tB)] az.st az.aC az.add az.F az.out
noncomputable def az.call:az.D→Option az.X:=bH az.E az.st
theorem az.run:bD az.call az.aC az.add az.F:=cO (cM [.d (.slice tB)] fun _=>by kernel_rfl)
noncomputable def az.sg:SG Tryz.prog:=⟨153,aV,az.E,.fn 2 (by kernel_rfl) az.ok (And.intro (.ct az.L0.ok (by kernel_rfl)) (And.intro (.ct az.L1.ok (by kernel_rfl)) trivial))⟩
abbrev dr.D:=Bs×Bs
def dr.st:dr.D→SA:=fun(b,more)=>([.d tB b,.d tB more],[])
abbrev dr.Y:=Bs
abbrev dr.X:=Bs
def dr.out:dr.X→aZ:=fun x=>⟨.d tB x,[],[]⟩
def dr.add:dr.D→dr.Y→dr.X:=fun(b,more) y=>y
def dr.aC:dr.D→Prop:=fun(a,b)=>a.length+b.length≤100000000
def dr.F:dr.D→dr.Y:=fun(a,b)=>a++b
noncomputable def dr.G:dQ:=eR (P:=Tryz.prog) [az.sg]
noncomputable def dr.an:eC:= {}
noncomputable def dr.A:= @cH Tryz.prog dr.G dr.an 0 Tryz.f119 _ dr.st
abbrev dr.Ok:=cI @dr.A dr.aC dr.add dr.F dr.out
theorem dr.eq{R:Type}(b:Bs)(more:Bs)(k:aZ→Option R):dr.A (b,more) k=
 aj (az.call [b,more]) fun x1=>
 k (dr.out x1):=by kernel_rfl
theorem dr.ok:dr.Ok:=by
 rintro⟨a,b⟩ h
 have h:a.length+b.length≤100000000:=h
 rw[dr.eq,az.run (d:=[a,b]) ⟨by show [a,b].length≤_;simp,by show je [a,b]≤_;simp only[je,List.flatten_cons,List.flatten_nil,List.append_nil,List.length_append];omega⟩]
 simp only[ab,az.add,az.F,dr.add,dr.F,List.flatten_cons,List.flatten_nil,List.append_nil]
noncomputable def dr.E:=Entry.ct [some tB,some tB] dr.st dr.aC dr.add dr.F dr.out
noncomputable def dr.call:dr.D→Option dr.X:=bH dr.E dr.st
theorem dr.run:bD dr.call dr.aC dr.add dr.F:=cO (cM [.d tB,.d tB] fun _=>by kernel_rfl)
noncomputable def dr.sg:SG Tryz.prog:=⟨119,aV,dr.E,.fn 0 (by kernel_rfl) dr.ok trivial⟩
set_option synthInstance.maxSize 5000
def eZ:Nat→Int→List Int×Int
 | 0,n=>([],n)
 |f+1,n=>if 128≤n then((n%128+128)::(eZ f (n / 128)).1,(eZ f (n / 128)).2) else([],n)
def fj(n:Int):List Int:=(eZ 10 n).1++ [(eZ 10 n).2]
theorem nS:∀(f g:Nat) (n:Int),n < 128^(f+1)→n < 128^(g+1)→eZ f n=eZ g n
 | 0,0,n,_,_=>rfl
 | 0,g+1,n,h,_=>by
  have h:n < 128:=h
  rw[eZ,eZ,if_neg (by omega)]
 |f+1,0,n,_,h=>by
  have h:n < 128:=h
  rw[eZ,eZ,if_neg (by omega)]
 |f+1,g+1,n,h,h'=>by
  rw[eZ,eZ]
  split
  ·have e:(128:Int)^(f+1+1)=128^(f+1)*128:=Int.pow_succ 128 (f+1)
   have e':(128:Int)^(g+1+1)=128^(g+1)*128:=Int.pow_succ 128 (g+1)
   rw[nS f g (n / 128) (by omega) (by omega)]
  ·rfl
theorem so:∀(f:Nat) (n:Int),(eZ f n).1.length≤f
 | 0,_=>Nat.le_refl _
 |f+1,n=>by
  rw[eZ]
  split
  ·have:=so f (n / 128)
   simp only[List.length_cons];omega
  ·exact Nat.zero_le _
theorem tM:∀(f:Nat) (n:Int),0≤n→n < 128^(f+1)→0≤(eZ f n).2∧(eZ f n).2 < 128
 | 0,n,h,h'=>by have h':n < 128:=h';exact⟨h,h'⟩
 |f+1,n,h,h'=>by
  rw[eZ]
  have e:(128:Int)^(f+1+1)=128^(f+1)*128:=Int.pow_succ 128 (f+1)
  split
  ·exact tM f (n / 128) (by omega) (by omega)
  ·exact⟨h,by omega⟩
theorem zU{n:Int}(h:128≤n)(h2:n≤9223372036854775807):eZ 10 n=((n%128+128)::(eZ 10 (n / 128)).1,(eZ 10 (n / 128)).2):=by
 have e:(128:Int)^(9+1)=1180591620717411303424:=rfl
 have e2:(128:Int)^(10+1)=151115727451828646838272:=rfl
 rw[eZ,if_pos h,nS 9 10 (n / 128) (by rw[e];omega) (by rw[e2];omega)]
theorem gJ(n:Int):(fj n).length≤11:=by
 have:=so 10 n
 unfold fj
 simp only[List.length_append,List.length_cons,List.length_nil];omega
def mK(n:Int):Prop:=0≤n∧n≤9223372036854775807
abbrev cr.L0.D:=Int×Nat×(List Int)
def cr.L0.st:cr.L0.D→AS:=fun(n_2,outL,n14)=>⟨([.d ti n_2,.undef,.undef,.cf (.new 14 0) 0 [] 0 0 outL]++a9 16 []),[],(bJ 14 ([[.obj 0 false (.vec 5 tb n14)]]++bJ 5 []))⟩
abbrev cr.L0.Y0:=Int×Nat×(List Int)
abbrev cr.L0.X0:=Int×Nat×(List Int)
def cr.L0.bq:cr.L0.X0→Exit×AS:=fun x=>(.exit 0,⟨([.d ti x.1,.undef,.undef,.cf (.new 14 0) 0 [] 0 0 x.2.1]++a9 16 []),[],(bJ 14 ([[.obj 0 false (.vec 5 tb x.2.2)]]++bJ 5 []))⟩)
abbrev cr.L0.X:=cr.L0.X0
abbrev cr.L0.Y:=cr.L0.Y0
def cr.L0.out:cr.L0.X→Out (Exit×AS):=fun x=> .ok (cr.L0.bq x)
def cr.L0.add:cr.L0.D→cr.L0.Y→cr.L0.X:=fun(n_2,outL,n14) y=>y
abbrev cr.D:=Int
def cr.st:cr.D→SA:=fun n=>([.d ti n],[])
abbrev cr.Y:=Bs
abbrev cr.X:=Bs
def cr.out:cr.X→aZ:=fun x=>⟨.d tB x,[],[]⟩
def cr.add:cr.D→cr.Y→cr.X:=fun n y=>y
def cr.L0.aC:cr.L0.D→Prop:=fun(n,m,l)=>mK n∧m=l.length∧l.length≤1000+0*n.toNat∧l.length+(eZ 10 n).1.length≤100
def cr.L0.F:cr.L0.D→cr.L0.Y:=fun(n,m,l)=>((eZ 10 n).2,(l++(eZ 10 n).1).length,l++(eZ 10 n).1)
def cr.aC:cr.D→Prop:=fun n=>mK n
def cr.F:cr.D→cr.Y:=fun n=>fj n
noncomputable def cr.G:dQ:=eR (P:=Tryz.prog) []
noncomputable def cr.L0.E:=bN.ct cr.L0.st cr.L0.aC cr.L0.add cr.L0.F cr.L0.out
noncomputable def cr.L0.call:cr.L0.D→Option cr.L0.X:=dh cr.L0.E cr.L0.st
noncomputable def cr.an:eC:= {loops:=jJ [(2,{bm:=[0,3],sites:=[14],ix:=[⟨3,[],14,25⟩]})],outs:=jI [(2,{bm:=[0,3],sites:=[14]},{bm:=[2]})],fG:=kh [(2,cr.L0.E)],res:=[some tB]}
noncomputable def cr.A:= @cH Tryz.prog cr.G cr.an 0 Tryz.f120 _ cr.st
abbrev cr.Ok:=cI @cr.A cr.aC cr.add cr.F cr.out
noncomputable def cr.L0.R:= @bX Tryz.prog cr.G cr.an 0 Tryz.f120 0 _ cr.L0.st
abbrev cr.L0.Ok:=eA Tryz.prog cr.G cr.an 0 Tryz.f120 0 cr.L0.st cr.L0.aC cr.L0.add cr.L0.F cr.L0.out
theorem cr.L0.run:bD cr.L0.call cr.L0.aC cr.L0.add cr.L0.F:=eG (eE [.d ti,.n,.d tB] fun _=>by kernel_rfl)
theorem cr.L0.aG:fR @cr.L0.R cr.L0.st cr.L0.aC cr.L0.add cr.L0.F cr.L0.bq cr.L0.Ok:=fU
theorem cr.L0.step{R:Type}(n_2:Int)(outL:Nat)(n14:(List Int))(kn:AS→Option R)(kx:Exit→AS→Option R):cr.L0.R (n_2,outL,n14) kn kx=
  aK ((mO n_2 (128:Int))) (
   aK (decide (outL≤(List.length n14))) (
   aK (dj (outL+1) 1) (
   kn (cr.L0.st ((kJ .i64 n_2 (128:Int)),(outL+1),((List.take outL n14)++ [(dD .u8 (bK .i64 (iX n_2 (128:Int)) (128:Int)))])))) none) none) (
   kx (cr.L0.bq (n_2,outL,n14)).1 (cr.L0.bq (n_2,outL,n14)).2):=by kernel_rfl
theorem cr.eq{R:Type}(n:Int)(k:aZ→Option R):cr.A n k=
 aj (cr.L0.call (n,0,([]:List Int))) fun x1=>
 aK (decide (x1.2.1≤(List.length x1.2.2))) (
 aK (dj (x1.2.1+1) 1) (
 aK (decide (0=0∧(0+(x1.2.1+1))≤(List.length ((List.take x1.2.1 x1.2.2)++ [(dD .u8 x1.1)])))) (
 k (cr.out (cut ((List.take x1.2.1 x1.2.2)++ [(dD .u8 x1.1)]) 0 (x1.2.1+1)))) none) none) none:=by kernel_rfl
theorem Az{n:Int}(h:mK n):dD .u8 (bK .i64 (iX n 128) 128)=n%128+128:=by
 have h1:=h.1
 rw[nN h.1,fW (by omega) (by omega),rM,fH]
 omega
theorem cr.L0.ok:cr.L0.Ok:=by
 refine cr.L0.aG (fun(n,m,l)=>n.toNat) ?_
 rintro⟨n,m,l⟩ ⟨hn,rfl,hl,hz⟩
 have hn:mK n:=hn
 have hz:l.length+(eZ 10 n).1.length≤100:=hz
 have h1:=hn.1
 have h2:=hn.2
 by_cases h:128≤n
 ·left
  have e:=zU h h2
  have hq:kJ .i64 n 128=n / 128:=by
   rw[kJ,Int.tdiv_eq_ediv_of_nonneg h1]
   exact jd (by omega) (by omega)
  have el:((n%128+128)::(eZ 10 (n / 128)).1).length=(eZ 10 (n / 128)).1.length+1:=List.length_cons
  rw[e]at hz
  have hz:l.length+((n%128+128)::(eZ 10 (n / 128)).1).length≤100:=hz
  rw[el]at hz
  refine⟨(n / 128,l.length+1,l++ [n%128+128]),⟨⟨by omega,by omega⟩,by rw[List.length_append];rfl,by rw[List.length_append];simp only[List.length_cons,List.length_nil];omega,by rw[List.length_append];simp only[List.length_cons,List.length_nil];omega⟩,by simp only[];omega,?_,fun kn kx=> ?_⟩
  ·simp only[cr.L0.add,cr.L0.F,e,List.append_assoc,List.cons_append,List.nil_append]
  ·rw[cr.L0.step,fX h,Az hn,hq]
   simp(disch:=omega) only[↓S1,↓if_pos,↓if_neg,if_pos,if_neg,if_true,if_false,S2,Nat.le_refl,List.take_length]
 ·right
  have e:eZ 10 n=([],n):=by rw[eZ,if_neg h]
  intro R kn kx
  rw[cr.L0.step,eI h]
  simp only[aw,cr.L0.add,cr.L0.F,e,List.append_nil]
theorem cr.ok:cr.Ok:=by
 intro n hn
 have hn:mK n:=hn
 have hl:=so 10 n
 have e2:(128:Int)^(10+1)=151115727451828646838272:=rfl
 have hd:=tM 10 n hn.1 (by have:=hn.2;rw[e2];omega)
 have p:cr.L0.aC (n,0,[]):=⟨hn,rfl,by simp,by simp only[List.length_nil];omega⟩
 have hi:dD .u8 (eZ 10 n).2=(eZ 10 n).2:=by rw[rM,fH];omega
 rw[cr.eq,cr.L0.run p]
 simp only[ab,cr.L0.add,cr.L0.F,List.nil_append,hi,List.take_length,Nat.le_refl,decide_true,ax]
 rw[eF (by omega) (by omega)]
 simp only[ax,Nat.zero_add,List.length_append,List.length_cons,List.length_nil,Nat.le_refl,and_self,decide_true]
 rw[fc (by rw[List.length_append];rfl)]
 rfl
noncomputable def cr.E:=Entry.ct [some ti] cr.st cr.aC cr.add cr.F cr.out
noncomputable def cr.call:cr.D→Option cr.X:=bH cr.E cr.st
theorem cr.run:bD cr.call cr.aC cr.add cr.F:=cO (cM [.d ti] fun _=>by kernel_rfl)
noncomputable def cr.sg:SG Tryz.prog:=⟨120,aV,cr.E,.fn 1 (by kernel_rfl) cr.ok (And.intro (.ct cr.L0.ok (by kernel_rfl)) trivial)⟩
def ea(b:List Int)(n:Int):List Int:=if n < 0 then b else b++fj n
theorem fb(b:List Int)(n:Int):(ea b n).length≤b.length+11:=by
 unfold ea
 have:=gJ n
 split
 ·omega
 ·rw[List.length_append];omega
abbrev dy.D:=Bs×Int
def dy.st:dy.D→SA:=fun(b,n)=>([.d tB b,.d ti n],[])
abbrev dy.Y:=Bs
abbrev dy.X:=Bs
def dy.out:dy.X→aZ:=fun x=>⟨.d tB x,[],[]⟩
def dy.add:dy.D→dy.Y→dy.X:=fun(b,n) y=>y
def dy.aC:dy.D→Prop:=fun(b,n)=>b.length≤90000000∧n≤9223372036854775807
def dy.F:dy.D→dy.Y:=fun(b,n)=>ea b n
noncomputable def dy.G:dQ:=eR (P:=Tryz.prog) [dr.sg,cr.sg]
noncomputable def dy.an:eC:= {}
noncomputable def dy.A:= @cH Tryz.prog dy.G dy.an 0 Tryz.f69 _ dy.st
abbrev dy.Ok:=cI @dy.A dy.aC dy.add dy.F dy.out
theorem dy.eq{R:Type}(b:Bs)(n:Int)(k:aZ→Option R):dy.A (b,n) k=
  aK ((gb n (0:Int))) (
   aj (dr.call (b,([]:List Int))) fun x1=>
   k (dy.out x1)) (
   aj (cr.call n) fun x2=>
   aj (dr.call (b,x2)) fun x3=>
   k (dy.out x3)):=by kernel_rfl
theorem dy.ok:dy.Ok:=by
 rintro⟨b,n⟩ ⟨hb,hn⟩
 have hb:b.length≤90000000:=hb
 have hn:n≤9223372036854775807:=hn
 rw[dy.eq]
 simp only[dy.add,dy.F,ea]
 by_cases h:n < 0
 ·rw[bw h,if_pos h,ax,dr.run (d:=(b,[])) (by show b.length+([]:List Int).length≤_;simp only[List.length_nil];omega)]
  simp only[ab,dr.add,dr.F,List.append_nil]
 ·have hl:=gJ n
  rw[bn h,if_neg h,aw,cr.run (d:=n) ⟨by omega,hn⟩]
  simp only[ab,cr.add,cr.F]
  rw[dr.run (d:=(b,fj n)) (by show b.length+(fj n).length≤_;omega)]
  rfl
noncomputable def dy.E:=Entry.ct [some tB,some ti] dy.st dy.aC dy.add dy.F dy.out
noncomputable def dy.call:dy.D→Option dy.X:=bH dy.E dy.st
theorem dy.run:bD dy.call dy.aC dy.add dy.F:=cO (cM [.d tB,.d ti] fun _=>by kernel_rfl)
noncomputable def dy.sg:SG Tryz.prog:=⟨69,aV,dy.E,.fn 0 (by kernel_rfl) dy.ok trivial⟩
abbrev dp.D:=Bs×Int
def dp.st:dp.D→SA:=fun(b,n)=>([.d tB b,.d tu n],[])
abbrev dp.Y:=Bs
abbrev dp.X:=Bs
def dp.out:dp.X→aZ:=fun x=>⟨.d tB x,[],[]⟩
def dp.add:dp.D→dp.Y→dp.X:=fun(b,n) y=>y
def dp.aC:dp.D→Prop:=fun(b,n)=>b.length≤90000000
def dp.F:dp.D→dp.Y:=fun(b,n)=>b++fL n
noncomputable def dp.G:dQ:=eR (P:=Tryz.prog) [dr.sg]
noncomputable def dp.an:eC:= {loops:=jJ [(3,{bm:=[0,1,5,7],sites:=[5,21]})],outs:=jI [(3,{bm:=[0,5],sites:=[5,21]},{bm:=[4],sites:=[5,21]})]}
noncomputable def dp.A:= @cH Tryz.prog dp.G dp.an 12 Tryz.f70 _ dp.st
abbrev dp.Ok:=cI @dp.A dp.aC dp.add dp.F dp.out
theorem dp.eq{R:Type}(b:Bs)(n:Int)(k:aZ→Option R):dp.A (b,n) k=
 aj (dr.call (b,[(dD .u8 (bM .u64 n (56:Int))),(dD .u8 (bM .u64 n (48:Int))),(dD .u8 (bM .u64 n (40:Int))),(dD .u8 (bM .u64 n (32:Int))),(dD .u8 (bM .u64 n (24:Int))),(dD .u8 (bM .u64 n (16:Int))),(dD .u8 (bM .u64 n (8:Int))),(dD .u8 (bM .u64 n (0:Int)))])) fun x1=>
 k (dp.out x1):=by kernel_rfl
theorem dp.ok:dp.Ok:=by
 rintro⟨b,n⟩ hb
 have hb:b.length≤90000000:=hb
 have p:dr.aC (b,fL n):=by show b.length+(fL n).length≤_;rw[bO];omega
 have e:dr.call (b,[dD .u8 (bM .u64 n 56),dD .u8 (bM .u64 n 48),dD .u8 (bM .u64 n 40),dD .u8 (bM .u64 n 32),dD .u8 (bM .u64 n 24),dD .u8 (bM .u64 n 16),dD .u8 (bM .u64 n 8),dD .u8 (bM .u64 n 0)])=some (b++fL n):=by
  rw[vq];exact dr.run p
 rw[dp.eq]
 refine Eq.trans (congrArg (fun x=>aj x _) e) ?_
 rfl
noncomputable def dp.E:=Entry.ct [some tB,some tu] dp.st dp.aC dp.add dp.F dp.out
noncomputable def dp.call:dp.D→Option dp.X:=bH dp.E dp.st
theorem dp.run:bD dp.call dp.aC dp.add dp.F:=cO (cM [.d tB,.d tu] fun _=>by kernel_rfl)
noncomputable def dp.sg:SG Tryz.prog:=⟨70,aV,dp.E,.fn 1 (by kernel_rfl) dp.ok (And.intro (.none (by kernel_rfl)) trivial)⟩
set_option synthInstance.maxSize 5000
def lV(w:lW):Bool:=decide (0≤w.1∧w.1 < 4) && decide (w.2.1.length≤12)
def rN(x:eU):Bool:=decide (0≤x.1.2.1∧x.1.2.1 < 64) && lV x.2.1
def rL(m:List (j8×Bool))(x:eU):Bool:=(nZ kA x.1 m).getD false
def qP:List (j8×Bool)→List eU→Bool
 |_,[]=>true
 |m,x::l=>(!(rL m x) && rN x) && qP (oa kA x.1 true m) l
def m9(a:Int):Bool:=decide (0≤a∧a≤1125899906842624)
def oT(a b:Int):Bool:=m9 a && (m9 b && decide (a+b≤1125899906842624))
def mj:Int→List fM→Bool
 |_,[]=>true
 |s,o::l=>(oT s o.1 && iN o.2.1) && mj (s+o.1) l
def u9(t:eH):Bool:=decide (1≤t.1.length∧t.1.length≤64∧t.2.1.length≤64∧0≤t.2.2.1)
def fC(t:eH):Bool:=u9 t && (qP [] t.1 && mj 0 t.2.1)
def CJ(l:Lk):Prop:=yk l∧l.1.length≤1000000000
def Ee(t:eH):Prop:=(∀o∈t.2.1,CJ o.2.1)∧t.1.length≤1000000000∧t.2.1.length≤1000000000
abbrev eT.D:=lW
def eT.st:eT.D→SA:=fun wv=>([.d ri wv],[])
abbrev eT.Y:=Bool
abbrev eT.X:=Bool
def eT.out:eT.X→aZ:=fun x=>⟨.d .bool x,[],[]⟩
def eT.add:eT.D→eT.Y→eT.X:=fun wv y=>y
def eT.aC:eT.D→Prop:=fun _=>True
def eT.F:eT.D→eT.Y:=fun w=>lV w
noncomputable def eT.G:dQ:=eR (P:=Tryz.prog) []
noncomputable def eT.an:eC:= {}
noncomputable def eT.A:= @cH Tryz.prog eT.G eT.an 0 Tryz.f89 _ eT.st
abbrev eT.Ok:=cI @eT.A eT.aC eT.add eT.F eT.out
theorem eT.eq{R:Type}(wv:lW)(k:aZ→Option R):eT.A wv k=
  aK ((mO wv.1 (0:Int))) (
   aK ((gb wv.1 (4:Int))) (
    k (eT.out (zw (((List.length wv.2.1):Nat):Int) (12:Int)))) (
    k (eT.out false))) (
   k (eT.out false)):=by kernel_rfl
theorem eT.ok:eT.Ok:=by
 rintro⟨b,ss,sc,u⟩ _
 rw[eT.eq]
 simp only[eT.add,eT.F,lV]
 by_cases h:0≤b
 ·rw[fX h,ax]
  by_cases h2:b < 4
  ·rw[bw h2,ax,aQ ⟨h,h2⟩]
   by_cases h3:ss.length≤12
   ·rw[nh (by omega),aQ h3];rfl
   ·rw[kC (by omega),aM h3];rfl
  ·rw[bn h2,aw,aM (fun x=>h2 x.2)];rfl
 ·rw[eI h,aw,aM (fun x=>h x.1)];rfl
noncomputable def eT.E:=Entry.ct [some ri] eT.st eT.aC eT.add eT.F eT.out
noncomputable def eT.call:eT.D→Option eT.X:=bH eT.E eT.st
theorem eT.run:bD eT.call eT.aC eT.add eT.F:=cO (cM [.d ri] fun _=>by kernel_rfl)
noncomputable def eT.sg:SG Tryz.prog:=⟨89,aV,eT.E,.fn 0 (by kernel_rfl) eT.ok trivial⟩
abbrev cS.D:=Int
def cS.st:cS.D→SA:=fun a=>([.d ti a],[])
abbrev cS.Y:=Bool
abbrev cS.X:=Bool
def cS.out:cS.X→aZ:=fun x=>⟨.d .bool x,[],[]⟩
def cS.add:cS.D→cS.Y→cS.X:=fun a y=>y
def cS.aC:cS.D→Prop:=fun _=>True
def cS.F:cS.D→cS.Y:=fun a=>m9 a
noncomputable def cS.G:dQ:=eR (P:=Tryz.prog) []
noncomputable def cS.an:eC:= {}
noncomputable def cS.A:= @cH Tryz.prog cS.G cS.an 0 Tryz.f139 _ cS.st
abbrev cS.Ok:=cI @cS.A cS.aC cS.add cS.F cS.out
theorem cS.eq{R:Type}(a:Int)(k:aZ→Option R):cS.A a k=
  aK ((mO a (0:Int))) (
   k (cS.out (zw a (1125899906842624:Int)))) (
   k (cS.out false)):=by kernel_rfl
theorem cS.ok:cS.Ok:=by
 intro(a:Int) _
 rw[cS.eq]
 simp only[cS.add,cS.F,m9]
 by_cases h:0≤a
 ·rw[fX h,ax]
  by_cases h2:a≤1125899906842624
  ·rw[nh h2,aQ ⟨h,h2⟩]
  ·rw[kC h2,aM (fun x=>h2 x.2)]
 ·rw[eI h,aw,aM (fun x=>h x.1)]
noncomputable def cS.E:=Entry.ct [some ti] cS.st cS.aC cS.add cS.F cS.out
noncomputable def cS.call:cS.D→Option cS.X:=bH cS.E cS.st
theorem cS.run:bD cS.call cS.aC cS.add cS.F:=cO (cM [.d ti] fun _=>by kernel_rfl)
noncomputable def cS.sg:SG Tryz.prog:=⟨139,aV,cS.E,.fn 0 (by kernel_rfl) cS.ok trivial⟩
abbrev fa.D:=Int×Int
def fa.st:fa.D→SA:=fun(a,b)=>([.d ti a,.d ti b],[])
abbrev fa.Y:=Int×Bool
abbrev fa.X:=Int×Bool
def fa.out:fa.X→aZ:=fun x=>⟨.cons (.d ti x.1) (.cons (.d .bool x.2) (.nil)),[],[]⟩
def fa.add:fa.D→fa.Y→fa.X:=fun(a,b) y=>y
def fa.aC:fa.D→Prop:=fun _=>True
def fa.F:fa.D→fa.Y:=fun(a,b)=>(bif oT a b then a+b else 0,oT a b)
noncomputable def fa.G:dQ:=eR (P:=Tryz.prog) [cS.sg]
noncomputable def fa.an:eC:= {}
noncomputable def fa.A:= @cH Tryz.prog fa.G fa.an 0 Tryz.f95 _ fa.st
abbrev fa.Ok:=cI @fa.A fa.aC fa.add fa.F fa.out
theorem fa.eq{R:Type}(a:Int)(b:Int)(k:aZ→Option R):fa.A (a,b) k=
  aj (cS.call a) fun x1=>
  aK ((!x1)) (
   k (fa.out ((0:Int),false))) (
   aj (cS.call b) fun x2=>
   aK ((!x2)) (
    k (fa.out ((0:Int),false))) (
    aK ((mN a (de .i64 (1125899906842624:Int) b))) (
     k (fa.out ((0:Int),false))) (
     k (fa.out ((bK .i64 a b),true))))):=by kernel_rfl
theorem fa.ok:fa.Ok:=by
 rintro⟨a,b⟩ _
 rw[fa.eq,cS.run (d:=a) trivial,cS.run (d:=b) trivial]
 simp only[ab,cS.add,cS.F,fa.add,fa.F,oT]
 cases ha:m9 a
 ·rfl
 ·cases hb:m9 b
  ·rfl
  ·simp only[m9,decide_eq_true_eq]at ha hb
   simp only[Bool.not_true,aw,Bool.true_and]
   rw[fx (by omega) (by omega)]
   by_cases h:a+b≤1125899906842624
   ·rw[dC (by omega),aw,aQ h,fW (by omega) (by omega)];rfl
   ·rw[dL (by omega),ax,aM h];rfl
noncomputable def fa.E:=Entry.ct [some ti,some ti] fa.st fa.aC fa.add fa.F fa.out
noncomputable def fa.call:fa.D→Option fa.X:=bH fa.E fa.st
theorem fa.run:bD fa.call fa.aC fa.add fa.F:=cO (cM [.d ti,.d ti] fun _=>by kernel_rfl)
noncomputable def fa.sg:SG Tryz.prog:=⟨95,aV,fa.E,.fn 0 (by kernel_rfl) fa.ok trivial⟩
abbrev al.L0.D:=eH×(List eU)×Int×Int×(List (j8×Bool))
def al.L0.st:al.L0.D→AS:=fun(t_2,t33,t34,t35,n31)=>⟨([.undef,.eB fD t_2,.undef,.jf (.new 31 0) 0]++a9 29 ([.d (.slice eg) t33,.d ti t34,.d ti t35]++a9 52 [])),[],(bJ 31 ([[.obj 0 false (.mp kA .bool n31)]]++bJ 56 []))⟩
abbrev al.L0.Y0:=Unit
abbrev al.L0.X0:=Unit
def al.L0.bq:al.L0.X0→Exit×AS:=fun x=>(.ret,⟨([.undef,.undef,.d .bool false]++a9 85 []),[],(List.replicate 88 [])⟩)
abbrev al.L0.Y1:=Unit
abbrev al.L0.X1:=eH
def al.L0.eM:al.L0.X1→Exit×AS:=fun x=>(.exit 0,⟨([.undef,.eB fD x]++a9 86 []),[],(List.replicate 88 [])⟩)
abbrev al.L0.X:=(al.L0.X0)⊕(al.L0.X1)
abbrev al.L0.Y:=(al.L0.Y0)⊕(al.L0.Y1)
def al.L0.out:al.L0.X→Out (Exit×AS):=fun x=> .br x.isLeft (.get x.getLeft? fun a=> .ok (al.L0.bq a)) (.get x.getRight? fun b=> .ok (al.L0.eM b))
def al.L0.add:al.L0.D→al.L0.Y→al.L0.X:=fun(t_2,t33,t34,t35,n31) y=>match y with | .inl y=> .inl y | .inr z=> .inr (t_2)
abbrev al.L1.D:=Int×(List fM)×Int×Int
def al.L1.st:al.L1.D→AS:=fun(sum,t66,t67,t68)=>⟨(a9 6 ([.d ti sum]++a9 59 ([.d (.slice eV) t66,.d ti t67,.d ti t68]++a9 19 []))),[],(List.replicate 88 [])⟩
abbrev al.L1.Y0:=Unit
abbrev al.L1.X0:=Unit
def al.L1.bq:al.L1.X0→Exit×AS:=fun x=>(.ret,⟨([.undef,.undef,.d .bool false]++a9 85 []),[],(List.replicate 88 [])⟩)
abbrev al.L1.Y1:=Unit
abbrev al.L1.X1:=Unit
def al.L1.eM:al.L1.X1→Exit×AS:=fun x=>(.exit 2,⟨(a9 88 []),[],(List.replicate 88 [])⟩)
abbrev al.L1.X:=(al.L1.X0)⊕(al.L1.X1)
abbrev al.L1.Y:=(al.L1.Y0)⊕(al.L1.Y1)
def al.L1.out:al.L1.X→Out (Exit×AS):=fun x=> .br x.isLeft (.get x.getLeft? fun a=> .ok (al.L1.bq a)) (.get x.getRight? fun b=> .ok (al.L1.eM b))
def al.L1.add:al.L1.D→al.L1.Y→al.L1.X:=fun(sum,t66,t67,t68) y=>match y with | .inl y=> .inl y | .inr z=> .inr (z)
abbrev al.D:=eH
def al.st:al.D→SA:=fun t=>([.d fD t],[])
abbrev al.Y:=Bool
abbrev al.X:=Bool
def al.out:al.X→aZ:=fun x=>⟨.d .bool x,[],[]⟩
def al.add:al.D→al.Y→al.X:=fun t y=>y
def al.L0.aC:al.L0.D→Prop:=fun(t,l,n,i,m)=>l.length≤1000000000∧n=l.length∧∃k:Nat,k≤l.length∧i=k
def al.L0.F:al.L0.D→al.L0.Y:=fun(t,l,n,i,m)=>if qP m (l.drop i.toNat) then .inr () else .inl ()
def al.L1.aC:al.L1.D→Prop:=fun(s,l,n,i)=>(∀o∈l,CJ o.2.1)∧l.length≤1000000000∧n=l.length∧∃k:Nat,k≤l.length∧i=k
def al.L1.F:al.L1.D→al.L1.Y:=fun(s,l,n,i)=>if mj s (l.drop i.toNat) then .inr () else .inl ()
def al.aC:al.D→Prop:=fun t=>Ee t
def al.F:al.D→al.Y:=fun t=>fC t
noncomputable def al.G:dQ:=eR (P:=Tryz.prog) [eT.sg,fa.sg,aO.sg]
noncomputable def al.L0.E:=bN.ct al.L0.st al.L0.aC al.L0.add al.L0.F al.L0.out
noncomputable def al.L0.call:al.L0.D→Option al.L0.X:=dh al.L0.E al.L0.st
noncomputable def al.L1.E:=bN.ct al.L1.st al.L1.aC al.L1.add al.L1.F al.L1.out
noncomputable def al.L1.call:al.L1.D→Option al.L1.X:=dh al.L1.E al.L1.st
noncomputable def al.an:eC:= {loops:=jJ [(5,{bm:=[1,3,33,34,35],sites:=[31]}),(13,{bm:=[6,66,67,68]})],outs:=jI [(5,{bm:=[1]},{bm:=[2]}),(13,{},{bm:=[2]})],fG:=kh [(5,al.L0.E),(13,al.L1.E)]}
noncomputable def al.A:= @cH Tryz.prog al.G al.an 0 Tryz.f29 _ al.st
abbrev al.Ok:=cI @al.A al.aC al.add al.F al.out
noncomputable def al.L0.R:= @bX Tryz.prog al.G al.an 0 Tryz.f29 0 _ al.L0.st
abbrev al.L0.Ok:=eA Tryz.prog al.G al.an 0 Tryz.f29 0 al.L0.st al.L0.aC al.L0.add al.L0.F al.L0.out
noncomputable def al.L1.R:= @bX Tryz.prog al.G al.an 0 Tryz.f29 1 _ al.L1.st
abbrev al.L1.Ok:=eA Tryz.prog al.G al.an 0 Tryz.f29 1 al.L1.st al.L1.aC al.L1.add al.L1.F al.L1.out
theorem al.L0.run:bD al.L0.call al.L0.aC al.L0.add al.L0.F:=eG (eE [.d fD,.d (.slice eg),.d ti,.d ti,.d (.slice (.pair kA .bool))] fun _=>by kernel_rfl)
theorem al.L0.aG:iZ @al.L0.R al.L0.st al.L0.aC al.L0.add al.L0.F al.L0.out al.L0.Ok:=jm
theorem al.L0.step{R:Type}(t_2:eH)(t33:(List eU))(t34:Int)(t35:Int)(n31:(List (j8×Bool)))(kn:AS→Option R)(kx:Exit→AS→Option R):al.L0.R (t_2,t33,t34,t35,n31) kn kx=
  aK ((gb t35 t34)) (
   aK (eh t35 (((List.length t33):Nat):Int)) (
   aK (((nZ kA (nth eg t33 (Int.toNat t35)).1 n31).getD false)) (
    kx (al.L0.bq ()).1 (al.L0.bq ()).2) (
    aK ((gb (nth eg t33 (Int.toNat t35)).1.2.1 (0:Int))) (
     kx (al.L0.bq ()).1 (al.L0.bq ()).2) (
     aK ((mO (nth eg t33 (Int.toNat t35)).1.2.1 (64:Int))) (
      kx (al.L0.bq ()).1 (al.L0.bq ()).2) (
      aj (eT.call (nth eg t33 (Int.toNat t35)).2.1) fun x8=>
      aK ((!x8)) (
       kx (al.L0.bq ()).1 (al.L0.bq ()).2) (
       kn (al.L0.st (t_2,t33,t34,(bK .i64 t35 (1:Int)),(oa kA (nth eg t33 (Int.toNat t35)).1 true n31)))))))) none) (
   kx (al.L0.eM t_2).1 (al.L0.eM t_2).2):=by kernel_rfl
theorem al.L1.run:bD al.L1.call al.L1.aC al.L1.add al.L1.F:=eG (eE [.d ti,.d (.slice eV),.d ti,.d ti] fun _=>by kernel_rfl)
theorem al.L1.aG:iZ @al.L1.R al.L1.st al.L1.aC al.L1.add al.L1.F al.L1.out al.L1.Ok:=jm
theorem al.L1.step{R:Type}(sum:Int)(t66:(List fM))(t67:Int)(t68:Int)(kn:AS→Option R)(kx:Exit→AS→Option R):al.L1.R (sum,t66,t67,t68) kn kx=
  aK ((gb t68 t67)) (
   aK (eh t68 (((List.length t66):Nat):Int)) (
   aj (fa.call (sum,(nth eV t66 (Int.toNat t68)).1)) fun x10=>
   aK ((!x10.2)) (
    kx (al.L1.bq ()).1 (al.L1.bq ()).2) (
    aj (aO.call (nth eV t66 (Int.toNat t68)).2.1) fun x12=>
    aK ((!x12)) (
     kx (al.L1.bq ()).1 (al.L1.bq ()).2) (
     kn (al.L1.st (x10.1,t66,t67,(bK .i64 t68 (1:Int))))))) none) (
   kx (al.L1.eM ()).1 (al.L1.eM ()).2):=by kernel_rfl
theorem al.eq{R:Type}(t:eH)(k:aZ→Option R):al.A t k=
  aK ((gb (((List.length t.1):Nat):Int) (1:Int))) (
   k (al.out false)) (
   aK ((mN (((List.length t.1):Nat):Int) (64:Int))) (
    k (al.out false)) (
    aK ((mN (((List.length t.2.1):Nat):Int) (64:Int))) (
     k (al.out false)) (
     aK ((gb t.2.2.1 (0:Int))) (
      k (al.out false)) (
      aj (al.L0.call (t,t.1,(((List.length t.1):Nat):Int),(0:Int),([]:List (j8×Bool)))) fun x12=>
      aK (x12.isLeft) (
       aj (x12.getLeft?) fun a13=>
       k (al.out false)) (
       aj (x12.getRight?) fun b14=>
       aj (al.L1.call ((0:Int),b14.2.1,(((List.length b14.2.1):Nat):Int),(0:Int))) fun x30=>
       aK (x30.isLeft) (
        aj (x30.getLeft?) fun a31=>
        k (al.out false)) (
        aj (x30.getRight?) fun b32=>
        k (al.out true))))))):=by kernel_rfl
theorem al.L0.ok:al.L0.Ok:=by
 refine al.L0.aG (fun(t,l,n,i,m)=>l.length - i.toNat) ?_
 rintro⟨t,l,n,i,m⟩ ⟨hb,rfl,k,hk,rfl⟩
 have hb:l.length≤1000000000:=hb
 have hk:k≤l.length:=hk
 by_cases h:k < l.length
 ·have n1:nth eg l k=l[k]:=cj (t:=eg) h
  have hd:qP m (l.drop k)=((!(rL m l[k]) && rN l[k]) && qP (oa kA l[k].1 true m) (l.drop (k+1))):=by rw[List.drop_eq_getElem_cons h];rfl
  have step:∀ {R:Type} (kn:AS→Option R) (kx:Exit→AS→Option R),al.L0.R (t,l,(l.length:Int),(k:Int),m) kn kx=aK (!(rL m l[k]) && rN l[k]) (kn (al.L0.st (t,l,(l.length:Int),((k+1:Nat):Int),oa kA l[k].1 true m))) (kx (al.L0.bq ()).1 (al.L0.bq ()).2):=by
   intro R kn kx
   rw[al.L0.step,bw (by omega),bh (by omega) (by omega),Int.toNat_natCast,n1,N.kk (by omega),eT.run (d:=l[k].2.1) trivial]
   simp only[ax,ab,eT.add,eT.F]
   have e:(nZ kA l[k].1 m).getD false=rL m l[k]:=rfl
   rw[e]
   cases rL m l[k]
   ·simp only[Bool.not_false,Bool.true_and,aw,rN]
    by_cases h1:l[k].1.2.1 < 0
    ·rw[bw h1,ax,aM (fun x=>by omega)];rfl
    ·rw[bn h1,aw]
     by_cases h2:64≤l[k].1.2.1
     ·rw[fX h2,ax,aM (fun x=>by omega)];rfl
     ·rw[eI h2,aw,aQ ⟨by omega,by omega⟩]
      cases lV l[k].2.1 <;> rfl
   ·rfl
  cases hp:(!(rL m l[k]) && rN l[k])
  ·right
   refine⟨al.L0.bq (),?_,fun kn kx=> ?_⟩
   ·simp only[al.L0.add,al.L0.F,Int.toNat_natCast,hd,hp,Bool.false_and,Bool.false_eq_true,if_false]
    rfl
   ·rw[step,hp,aw]
  ·left
   refine⟨(t,l,l.length,((k+1:Nat):Int),oa kA l[k].1 true m),⟨hb,rfl,k+1,by omega,rfl⟩,by simp only[Int.toNat_natCast];omega,?_,fun kn kx=> ?_⟩
   ·simp only[al.L0.add,al.L0.F,Int.toNat_natCast,hd,hp,Bool.true_and]
   ·rw[step,hp,ax]
 ·right
  obtain rfl:k=l.length:=by omega
  refine⟨al.L0.eM t,?_,fun kn kx=> ?_⟩
  ·simp only[al.L0.add,al.L0.F,Int.toNat_natCast,List.drop_length]
   rfl
  ·rw[al.L0.step]
   simp(disch:=omega) only[↓S1,↓if_pos,↓if_neg,if_pos,if_neg,if_true,if_false,S2]
theorem al.L1.ok:al.L1.Ok:=by
 refine al.L1.aG (fun(s,l,n,i)=>l.length - i.toNat) ?_
 rintro⟨s,l,n,i⟩ ⟨hl,hb,rfl,k,hk,rfl⟩
 have hb:l.length≤1000000000:=hb
 have hk:k≤l.length:=hk
 by_cases h:k < l.length
 ·have hx:CJ l[k].2.1:=hl _ (List.getElem_mem h)
  have n1:nth eV l k=l[k]:=cj (t:=eV) h
  have hd:mj s (l.drop k)=((oT s l[k].1 && iN l[k].2.1) && mj (s+l[k].1) (l.drop (k+1))):=by rw[List.drop_eq_getElem_cons h];rfl
  have step:∀ {R:Type} (kn:AS→Option R) (kx:Exit→AS→Option R),al.L1.R (s,l,(l.length:Int),(k:Int)) kn kx=aK (oT s l[k].1 && iN l[k].2.1) (kn (al.L1.st (s+l[k].1,l,(l.length:Int),((k+1:Nat):Int)))) (kx (al.L1.bq ()).1 (al.L1.bq ()).2):=by
   intro R kn kx
   rw[al.L1.step,bw (by omega),bh (by omega) (by omega),Int.toNat_natCast,n1,N.kk (by omega),fa.run (d:=(s,l[k].1)) trivial,aO.run (d:=l[k].2.1) hx]
   simp only[ax,ab,fa.add,fa.F,aO.add,aO.F]
   cases oT s l[k].1
   ·rfl
   ·cases iN l[k].2.1 <;> rfl
  cases hp:(oT s l[k].1 && iN l[k].2.1)
  ·right
   refine⟨al.L1.bq (),?_,fun kn kx=> ?_⟩
   ·simp only[al.L1.add,al.L1.F,Int.toNat_natCast,hd,hp,Bool.false_and,Bool.false_eq_true,if_false]
    rfl
   ·rw[step,hp,aw]
  ·left
   refine⟨(s+l[k].1,l,l.length,((k+1:Nat):Int)),⟨hl,hb,rfl,k+1,by omega,rfl⟩,by simp only[Int.toNat_natCast];omega,?_,fun kn kx=> ?_⟩
   ·simp only[al.L1.add,al.L1.F,Int.toNat_natCast,hd,hp,Bool.true_and]
   ·rw[step,hp,ax]
 ·right
  obtain rfl:k=l.length:=by omega
  refine⟨al.L1.eM (),?_,fun kn kx=> ?_⟩
  ·simp only[al.L1.add,al.L1.F,Int.toNat_natCast,List.drop_length]
   rfl
  ·rw[al.L1.step]
   simp(disch:=omega) only[↓S1,↓if_pos,↓if_neg,if_pos,if_neg,if_true,if_false,S2]
theorem al.ok:al.Ok:=by
 rintro⟨is,os,nt,u⟩ ⟨hl,h1,h2⟩
 have h1:is.length≤1000000000:=h1
 have h2:os.length≤1000000000:=h2
 rw[al.eq,al.L0.run (d:=((is,os,nt,u),is,is.length,0,[])) ⟨h1,rfl,0,by omega,rfl⟩]
 simp only[ab,al.L0.add,al.L0.F,Int.toNat_zero,List.drop_zero,al.add,al.F,fC,u9]
 by_cases a1:is.length < 1
 ·rw[bw (by omega),ax,aM (fun x=>by omega)];rfl
 rw[bn (by omega),aw]
 by_cases a2:64 < is.length
 ·rw[dL (by omega),ax,aM (fun x=>by omega)];rfl
 rw[dC (by omega),aw]
 by_cases a3:64 < os.length
 ·rw[dL (by omega),ax,aM (fun x=>by omega)];rfl
 rw[dC (by omega),aw]
 by_cases a4:nt < 0
 ·rw[bw (by omega),ax,aM (fun x=>by omega)];rfl
 rw[bn (by omega),aw,aQ ⟨by omega,by omega,by omega,by omega⟩]
 cases qP [] is
 ·rfl
 ·simp only[if_true,Bool.true_and]
  show aj (al.L1.call (0,os,(os.length:Int),0)) _=_
  rw[al.L1.run (d:=(0,os,os.length,0)) ⟨hl,h2,rfl,0,by omega,rfl⟩]
  simp only[ab,al.L1.add,al.L1.F,Int.toNat_zero,List.drop_zero]
  cases mj 0 os <;> rfl
noncomputable def al.E:=Entry.ct [some fD] al.st al.aC al.add al.F al.out
noncomputable def al.call:al.D→Option al.X:=bH al.E al.st
theorem al.run:bD al.call al.aC al.add al.F:=cO (cM [.d fD] fun _=>by kernel_rfl)
noncomputable def al.sg:SG Tryz.prog:=⟨29,aV,al.E,.fn 2 (by kernel_rfl) al.ok (And.intro (.ct al.L0.ok (by kernel_rfl)) (And.intro (.ct al.L1.ok (by kernel_rfl)) trivial))⟩
end Go.Ab
