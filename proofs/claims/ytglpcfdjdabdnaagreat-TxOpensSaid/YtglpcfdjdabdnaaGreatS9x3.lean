/-
  Made short by a program of mine (wip/tools/mini.py).
-/
import Derived.Test.YtglpcfdjdabdnaaGreatS9x2
import Derived.Test.YtglpcfdjdabdnaaGreatProg
set_option linter.unusedVariables false
set_option linter.unusedSimpArgs false
namespace Go.Ab
open Go.Proofs
set_option maxRecDepth 100000
set_option linter.unusedVariables false
set_option linter.unusedSimpArgs false
set_option synthInstance.maxSize 5000
abbrev binary.D:=Bs
def binary.st:binary.D→SA:=fun b=>([.d tB b],[])
abbrev binary.Y:=Int
abbrev binary.X:=Int
def binary.out:binary.X→a9:=fun x=>⟨.d (.int .u32) x,[],[]⟩
def binary.add:binary.D→binary.Y→binary.X:=fun b y=>y
def binary.aB:binary.D→Prop:=fun b=>4≤b.length
def binary.F:binary.D→binary.Y:=fun b=>vw (D3 (b.getD 0 0) (b.getD 1 0) (b.getD 2 0) (b.getD 3 0))
noncomputable def binary.G:dS:=eR (P:=Tryz.prog) []
noncomputable def binary.an:eA:= {}
noncomputable def binary.A:= @cJ Tryz.prog binary.G binary.an 0 Tryz.f167 _ binary.st
abbrev binary.Ok:=cK @binary.A binary.aB binary.add binary.F binary.out
theorem binary.eq{R:Type}(b:Bs)(k:a9→Option R):binary.A b k=
 aJ (ei (0:Int) (((List.length b):Nat):Int)) (
 aJ (ei (1:Int) (((List.length b):Nat):Int)) (
 aJ (ei (2:Int) (((List.length b):Nat):Int)) (
 aJ (ei (3:Int) (((List.length b):Nat):Int)) (
 k (binary.out (cn .or .u32 (cn .or .u32 (cn .or .u32 (gw .u32 (dD .u32 (nth tb b 0)) (24:Int)) (gw .u32 (dD .u32 (nth tb b 1)) (16:Int))) (gw .u32 (dD .u32 (nth tb b 2)) (8:Int))) (dD .u32 (nth tb b 3))))) none) none) none) none:=by kernel_rfl
theorem binary.ok:binary.Ok:=by
 intro b h
 have h:4≤b.length:=h
 rw[binary.eq,bo (by omega) (by omega),bo (by omega) (by omega),bo (by omega) (by omega),bo (by omega) (by omega)]
 simp only[av,yT,pt,hM]
 rfl
noncomputable def binary.E:=Entry.cz [some tB] binary.st binary.aB binary.add binary.F binary.out
noncomputable def binary.call:binary.D→Option binary.X:=bH binary.E binary.st
theorem binary.run:bC binary.call binary.aB binary.add binary.F:=cQ (cP [.d tB] fun _=>by kernel_rfl)
noncomputable def binary.sg:SG Tryz.prog:=⟨167,aU,binary.E,.fn 0 (by kernel_rfl) binary.ok trivial⟩
abbrev cw.D:=Int×Int
def cw.st:cw.D→SA:=fun(x,kv)=>([.d (.int .u32) x,.d ti kv],[])
abbrev cw.Y:=Int
abbrev cw.X:=Int
def cw.out:cw.X→a9:=fun x=>⟨.d (.int .u32) x,[],[]⟩
def cw.add:cw.D→cw.Y→cw.X:=fun(x,kv) y=>y
def rl(w:W)(k:Nat):W:=w <<< k ||| w >>> (32 - k)
def cw.aB:cw.D→Prop:=fun(x,k)=>0≤x∧x < 4294967296
def cw.F:cw.D→cw.Y:=fun(x,k)=>vw (rl (BitVec.ofInt 32 x) (k%32).toNat)
noncomputable def cw.G:dS:=eR (P:=Tryz.prog) []
noncomputable def cw.an:eA:= {}
noncomputable def cw.A:= @cJ Tryz.prog cw.G cw.an 0 Tryz.f150 _ cw.st
abbrev cw.Ok:=cK @cw.A cw.aB cw.add cw.F cw.out
theorem cw.eq{R:Type}(x:Int)(kv:Int)(k:a9→Option R):cw.A (x,kv) k=
 aJ (gJ (cn .and .u64 (dD .u64 kv) (31:Int))) (
 aJ (gJ (dg .u64 (32:Int) (cn .and .u64 (dD .u64 kv) (31:Int)))) (
 k (cw.out (cn .or .u32 (gw .u32 x (cn .and .u64 (dD .u64 kv) (31:Int))) (bJ .u32 x (dg .u64 (32:Int) (cn .and .u64 (dD .u64 kv) (31:Int))))))) none) none:=by kernel_rfl
theorem D2(k:Int):cn .and .u64 (dD .u64 k) 31=k%32:=by
 have e:(31:Int)=vw (31:BitVec 64):=rfl
 rw[uX,e,zu]
 simp only
 have:(31:BitVec 64)=BitVec.ofNat 64 (2^5 - 1):=rfl
 unfold vw
 rw[BitVec.toNat_and,BitVec.toNat_ofInt,show(31:BitVec 64).toNat=2^5 - 1 from rfl,Nat.and_two_pow_sub_one_eq_mod]
 omega
theorem cw.ok:cw.Ok:=by
 rintro⟨x,k⟩ ⟨h1,h2⟩
 have e1:dg .u64 32 (k%32)=32 - k%32:=by
  unfold dg
  rw[wrap_u64,fI]
  omega
 have hx:x=vw (BitVec.ofInt 32 x):=by rw[fI];omega
 rw[cw.eq,D2,e1,j3 (by omega),j3 (by omega)]
 simp only[av]
 have e2:cn .or .u32 (gw .u32 x (k%32)) (bJ .u32 x (32 - k%32))=vw (rl (BitVec.ofInt 32 x) (k%32).toNat):=by
  conv=>lhs;rw[hx]
  rw[pt,nv,hM]
  simp only[rl]
  congr 3
  omega
 rw[e2]
 rfl
noncomputable def cw.E:=Entry.cz [some (.int .u32),some ti] cw.st cw.aB cw.add cw.F cw.out
noncomputable def cw.call:cw.D→Option cw.X:=bH cw.E cw.st
theorem cw.run:bC cw.call cw.aB cw.add cw.F:=cQ (cP [.d (.int .u32),.d ti] fun _=>by kernel_rfl)
noncomputable def cw.sg:SG Tryz.prog:=⟨150,aU,cw.E,.fn 0 (by kernel_rfl) cw.ok trivial⟩
theorem cw.at(w:W)(k:Int):cw.call (vw w,k)=some (vw (rl w (k%32).toNat)):=by
 have h:cw.aB (vw w,k):=⟨qJ w,by have:=B2 w;simpa using this⟩
 rw[cw.run h]
 show some (vw (rl (BitVec.ofInt 32 (vw w)) (k%32).toNat))=_
 rw[jj]
abbrev table.D:=Unit
def table.st:table.D→SA:=fun _=>([],[])
abbrev table.Y:=(List Int)
abbrev table.X:=(List Int)
def table.out:table.X→a9:=fun x=>⟨.d (.arr 64 (.int .u32)) x,[],[]⟩
def table.add:table.D→table.Y→table.X:=fun _ y=>y
def table.aB:table.D→Prop:=fun _=>True
def table.F:table.D→table.Y:=fun _=>qs
noncomputable def table.G:dS:=eR (P:=Tryz.prog) []
noncomputable def table.an:eA:= {}
noncomputable def table.A:= @cJ Tryz.prog table.G table.an 0 Tryz.f149 _ table.st
abbrev table.Ok:=cK @table.A table.aB table.add table.F table.out
theorem table.eq{R:Type}(k:a9→Option R):table.A () k=
 k (table.out [(1116352408:Int),(1899447441:Int),(3049323471:Int),(3921009573:Int),(961987163:Int),(1508970993:Int),(2453635748:Int),(2870763221:Int),(3624381080:Int),(310598401:Int),(607225278:Int),(1426881987:Int),(1925078388:Int),(2162078206:Int),(2614888103:Int),(3248222580:Int),(3835390401:Int),(4022224774:Int),(264347078:Int),(604807628:Int),(770255983:Int),(1249150122:Int),(1555081692:Int),(1996064986:Int),(2554220882:Int),(2821834349:Int),(2952996808:Int),(3210313671:Int),(3336571891:Int),(3584528711:Int),(113926993:Int),(338241895:Int),(666307205:Int),(773529912:Int),(1294757372:Int),(1396182291:Int),(1695183700:Int),(1986661051:Int),(2177026350:Int),(2456956037:Int),(2730485921:Int),(2820302411:Int),(3259730800:Int),(3345764771:Int),(3516065817:Int),(3600352804:Int),(4094571909:Int),(275423344:Int),(430227734:Int),(506948616:Int),(659060556:Int),(883997877:Int),(958139571:Int),(1322822218:Int),(1537002063:Int),(1747873779:Int),(1955562222:Int),(2024104815:Int),(2227730452:Int),(2361852424:Int),(2428436474:Int),(2756734187:Int),(3204031479:Int),(3329325298:Int)]):=by kernel_rfl
theorem table.ok:table.Ok:=by
 intro d _
 rw[table.eq]
 rfl
noncomputable def table.E:=Entry.cz [] table.st table.aB table.add table.F table.out
noncomputable def table.call:table.D→Option table.X:=bH table.E table.st
theorem table.run:bC table.call table.aB table.add table.F:=cQ (cP [] fun _=>by kernel_rfl)
noncomputable def table.sg:SG Tryz.prog:=⟨149,aU,table.E,.fn 0 (by kernel_rfl) table.ok trivial⟩
abbrev first.D:=Unit
def first.st:first.D→SA:=fun _=>([],[])
abbrev first.Y:=(List Int)
abbrev first.X:=(List Int)
def first.out:first.X→a9:=fun x=>⟨.d (.arr 8 (.int .u32)) x,[],[]⟩
def first.add:first.D→first.Y→first.X:=fun _ y=>y
def first.aB:first.D→Prop:=fun _=>True
def first.F:first.D→first.Y:=fun _=>iJ.l
noncomputable def first.G:dS:=eR (P:=Tryz.prog) []
noncomputable def first.an:eA:= {}
noncomputable def first.A:= @cJ Tryz.prog first.G first.an 0 Tryz.f110 _ first.st
abbrev first.Ok:=cK @first.A first.aB first.add first.F first.out
theorem first.eq{R:Type}(k:a9→Option R):first.A () k=
 k (first.out [(1779033703:Int),(3144134277:Int),(1013904242:Int),(2773480762:Int),(1359893119:Int),(2600822924:Int),(528734635:Int),(1541459225:Int)]):=by kernel_rfl
theorem first.ok:first.Ok:=by
 intro d _
 rw[first.eq]
 rfl
noncomputable def first.E:=Entry.cz [] first.st first.aB first.add first.F first.out
noncomputable def first.call:first.D→Option first.X:=bH first.E first.st
theorem first.run:bC first.call first.aB first.add first.F:=cQ (cP [] fun _=>by kernel_rfl)
noncomputable def first.sg:SG Tryz.prog:=⟨110,aU,first.E,.fn 0 (by kernel_rfl) first.ok trivial⟩
set_option synthInstance.maxSize 5000
abbrev schedule.L0.D:=Bs×Int×(List Int)
def schedule.L0.st:schedule.L0.D→AS:=fun(b_2,t8,n2)=>⟨([.d tB b_2,.undef,.ptr (.new 2 0) 0 [] 0]++bg 5 ([.d ti t8]++bg 52 [])),[],([[],[],[.obj 0 false (.d (.arr 64 (.int .u32)) n2)]]++bN 58 [])⟩
abbrev schedule.L0.Y0:=(List Int)
abbrev schedule.L0.X0:=(List Int)
def schedule.L0.bt:schedule.L0.X0→Exit×AS:=fun x=>(.exit 0,⟨([.undef,.undef,.ptr (.new 2 0) 0 [] 0]++bg 58 []),[],([[],[],[.obj 0 false (.d (.arr 64 (.int .u32)) x)]]++bN 58 [])⟩)
abbrev schedule.L0.X:=schedule.L0.X0
abbrev schedule.L0.Y:=schedule.L0.Y0
def schedule.L0.out:schedule.L0.X→Out (Exit×AS):=fun x=> .ok (schedule.L0.bt x)
def schedule.L0.add:schedule.L0.D→schedule.L0.Y→schedule.L0.X:=fun(b_2,t8,n2) y=>y
abbrev schedule.D:=Bs
def schedule.st:schedule.D→SA:=fun b=>([.d tB b],[])
abbrev schedule.Y:=(List Int)
abbrev schedule.X:=(List Int)
def schedule.out:schedule.X→a9:=fun x=>⟨.d (.arr 64 (.int .u32)) x,[],[]⟩
def schedule.add:schedule.D→schedule.Y→schedule.X:=fun b y=>y
def wl(l:List W):List Int:=l.map vw
def m9(l:List W):List Int:=wl l++List.replicate (64 - l.length) 0
def mF(b:List Int)(k:Nat):List W:=if k≤16 then(words b).take k else Ca (words b) (k - 16)
def schedule.L0.aB:schedule.L0.D→Prop:=fun(b,t8,n2)=>64≤b.length∧∃k:Nat,k≤64∧t8=k∧n2=m9 (mF b k)
def schedule.L0.F:schedule.L0.D→schedule.L0.Y:=fun(b,t8,n2)=>wl (sched b)
def schedule.aB:schedule.D→Prop:=fun b=>64≤b.length
def schedule.F:schedule.D→schedule.Y:=fun b=>wl (sched b)
noncomputable def schedule.G:dS:=eR (P:=Tryz.prog) [binary.sg,cw.sg]
noncomputable def schedule.L0.E:=bO.cz schedule.L0.st schedule.L0.aB schedule.L0.add schedule.L0.F schedule.L0.out
noncomputable def schedule.L0.call:schedule.L0.D→Option schedule.L0.X:=dk schedule.L0.E schedule.L0.st
noncomputable def schedule.an:eA:= {loops:=jY [(2,{bm:=[0,2,8],sites:=[2]})],outs:=jX [(2,{bm:=[2],sites:=[2]},{bm:=[2]})],fJ:=kF [(2,schedule.L0.E)]}
noncomputable def schedule.A:= @cJ Tryz.prog schedule.G schedule.an 0 Tryz.f148 _ schedule.st
abbrev schedule.Ok:=cK @schedule.A schedule.aB schedule.add schedule.F schedule.out
noncomputable def schedule.L0.R:= @cg Tryz.prog schedule.G schedule.an 0 Tryz.f148 0 _ schedule.L0.st
abbrev schedule.L0.Ok:=eB Tryz.prog schedule.G schedule.an 0 Tryz.f148 0 schedule.L0.st schedule.L0.aB schedule.L0.add schedule.L0.F schedule.L0.out
theorem schedule.L0.run:bC schedule.L0.call schedule.L0.aB schedule.L0.add schedule.L0.F:=eI (eD [.d tB,.d ti,.d (.slice (.int .u32))] fun _=>by kernel_rfl)
theorem schedule.L0.aG:fR @schedule.L0.R schedule.L0.st schedule.L0.aB schedule.L0.add schedule.L0.F schedule.L0.bt schedule.L0.Ok:=fV
theorem schedule.L0.step{R:Type}(b_2:Bs)(t8:Int)(n2:(List Int))(kn:AS→Option R)(kx:Exit→AS→Option R):schedule.L0.R (b_2,t8,n2) kn kx=
  aJ ((fZ t8 (64:Int))) (
   aJ ((fZ t8 (16:Int))) (
    aJ (inc (eW .i64 (4:Int) t8) (((List.length b_2):Nat):Int)) (
    ah (binary.call (cut b_2 (Int.toNat (eW .i64 (4:Int) t8)) ((List.length b_2) - (Int.toNat (eW .i64 (4:Int) t8))))) fun x1=>
    aJ (ei t8 (64:Int)) (
    aJ (decide ((Int.toNat t8) < (List.length n2))) (
    aJ (decide ((((Int.toNat t8)*1)+0)=(0+((Int.toNat t8)*1)))) (
    aJ (decide ((Int.toNat t8) < (List.length n2))) (
    kn (schedule.L0.st (b_2,(bM .i64 t8 (1:Int)),(List.set n2 (Int.toNat t8) x1)))) none) none) none) none) none) (
    aJ (ei (dg .i64 t8 (15:Int)) (64:Int)) (
    aJ (decide ((Int.toNat (dg .i64 t8 (15:Int))) < (List.length n2))) (
    aJ (decide ((((Int.toNat (dg .i64 t8 (15:Int)))*1)+0)=(0+((Int.toNat (dg .i64 t8 (15:Int)))*1)))) (
    aJ (ei (dg .i64 t8 (2:Int)) (64:Int)) (
    aJ (decide ((Int.toNat (dg .i64 t8 (2:Int))) < (List.length n2))) (
    aJ (decide ((((Int.toNat (dg .i64 t8 (2:Int)))*1)+0)=(0+((Int.toNat (dg .i64 t8 (2:Int)))*1)))) (
    ah (cw.call ((nth (.int .u32) n2 (Int.toNat (dg .i64 t8 (15:Int)))),(-7:Int))) fun x2=>
    ah (cw.call ((nth (.int .u32) n2 (Int.toNat (dg .i64 t8 (15:Int)))),(-18:Int))) fun x3=>
    ah (cw.call ((nth (.int .u32) n2 (Int.toNat (dg .i64 t8 (2:Int)))),(-17:Int))) fun x4=>
    ah (cw.call ((nth (.int .u32) n2 (Int.toNat (dg .i64 t8 (2:Int)))),(-19:Int))) fun x5=>
    aJ (ei (dg .i64 t8 (16:Int)) (64:Int)) (
    aJ (decide ((Int.toNat (dg .i64 t8 (16:Int))) < (List.length n2))) (
    aJ (decide ((((Int.toNat (dg .i64 t8 (16:Int)))*1)+0)=(0+((Int.toNat (dg .i64 t8 (16:Int)))*1)))) (
    aJ (ei (dg .i64 t8 (7:Int)) (64:Int)) (
    aJ (decide ((Int.toNat (dg .i64 t8 (7:Int))) < (List.length n2))) (
    aJ (decide ((((Int.toNat (dg .i64 t8 (7:Int)))*1)+0)=(0+((Int.toNat (dg .i64 t8 (7:Int)))*1)))) (
    aJ (ei t8 (64:Int)) (
    aJ (decide ((Int.toNat t8) < (List.length n2))) (
    aJ (decide ((((Int.toNat t8)*1)+0)=(0+((Int.toNat t8)*1)))) (
    aJ (decide ((Int.toNat t8) < (List.length n2))) (
    kn (schedule.L0.st (b_2,(bM .i64 t8 (1:Int)),(List.set n2 (Int.toNat t8) (bM .u32 (bM .u32 (bM .u32 (nth (.int .u32) n2 (Int.toNat (dg .i64 t8 (16:Int)))) (cn .xor .u32 (cn .xor .u32 x2 x3) (bJ .u32 (nth (.int .u32) n2 (Int.toNat (dg .i64 t8 (15:Int)))) (3:Int)))) (nth (.int .u32) n2 (Int.toNat (dg .i64 t8 (7:Int))))) (cn .xor .u32 (cn .xor .u32 x4 x5) (bJ .u32 (nth (.int .u32) n2 (Int.toNat (dg .i64 t8 (2:Int)))) (10:Int)))))))) none) none) none) none) none) none) none) none) none) none) none) none) none) none) none) none)) (
   kx (schedule.L0.bt n2).1 (schedule.L0.bt n2).2):=by kernel_rfl
theorem schedule.eq{R:Type}(b:Bs)(k:a9→Option R):schedule.A b k=
 ah (schedule.L0.call (b,(0:Int),(List.replicate 64 (0:Int)))) fun x6=>
 k (schedule.out x6):=by kernel_rfl
theorem xA(b:List Int)(k:Nat)(h:k≤64):(mF b k).length=k:=by
 unfold mF
 split
 ·simp[eg];omega
 ·rw[ld,eg];omega
theorem CR(b:List Int):mF b 64=sched b:=rfl
theorem Au(b:List Int)(k:Nat)(h:k < 16):mF b (k+1)=mF b k++ [be b k]:=by
 unfold mF
 rw[if_pos (by omega),if_pos (by omega),List.take_succ_eq_append_getElem (by rw[eg];exact h)]
 simp[words]
theorem B5(b:List Int)(k:Nat)(h:16≤k):mF b (k+1)=ext (mF b k):=by
 unfold mF
 rw[if_neg (by omega)]
 by_cases h16:k=16
 ·subst h16
  rw[if_pos (by omega),List.take_of_length_le (by rw[eg];omega)]
  rfl
 ·rw[if_neg (by omega),show k+1 - 16=(k - 16)+1 by omega]
  rfl
theorem uH(l:List W)(h:l.length≤64):(m9 l).length=64:=by simp[m9,wl];omega
theorem nN(l:List W)(i:Nat)(h:i < l.length):nth (.int .u32) (m9 l) i=vw (l.getD i 0):=by
 unfold nth m9 wl
 rw[List.getD_eq_getElem?_getD,List.getElem?_append_left (by simpa using h)]
 simp[h]
theorem tD(l:List W)(w:W)(h:l.length < 64):(m9 l).set l.length (vw w)=m9 (l++ [w]):=by
 unfold m9 wl
 rw[List.set_append_right _ _ (by simp)]
 simp only[List.length_map,Nat.sub_self,List.map_append,List.length_append,List.length_cons,List.length_nil]
 rw[show 64 - l.length=(64 - (l.length+(0+1)))+1 by omega,List.replicate_succ,List.set_cons_zero]
 simp
theorem xH(l:List W)(h:l.length=64):m9 l=wl l:=by simp[m9,h]
theorem Di(b:List Int)(k:Nat)(h:4*k+4≤b.length):D3 ((cut b (4*k) (b.length - 4*k)).getD 0 0) ((cut b (4*k) (b.length - 4*k)).getD 1 0) ((cut b (4*k) (b.length - 4*k)).getD 2 0) ((cut b (4*k) (b.length - 4*k)).getD 3 0)=be b k:=by
 have e:∀j,j < 4→(cut b (4*k) (b.length - 4*k)).getD j 0=b.getD (4*k+j) 0:=fun j hj=>by
  unfold cut
  rw[List.getD_eq_getElem?_getD,List.getD_eq_getElem?_getD,List.getElem?_take_of_lt (by omega),List.getElem?_drop]
 unfold be
 rw[e 0 (by omega),e 1 (by omega),e 2 (by omega),e 3 (by omega),Nat.add_zero]
theorem schedule.L0.ok:schedule.L0.Ok:=by
 refine schedule.L0.aG (fun(b,t8,n2)=>64 - t8.toNat) ?_
 rintro⟨b,t8,n2⟩ ⟨hb,k,hk,rfl,rfl⟩
 have hwl:=xA b k hk
 have hal:=uH (mF b k) (by omega)
 by_cases h:k < 64
 ·left
  refine⟨(b,((k+1:Nat):Int),m9 (mF b (k+1))),⟨hb,k+1,by omega,rfl,rfl⟩,by simp;omega,rfl,fun kn kx=> ?_⟩
  have e1:bM .i64 (k:Int) 1=((k+1:Nat):Int):=by rw[gL (by omega) (by omega)];omega
  have e2:Int.toNat (k:Int)=k:=by omega
  rw[schedule.L0.step,bu (by omega)]
  simp only[av,e1,e2,hal,Nat.mul_one,Nat.zero_add,Nat.add_zero,decide_true]
  by_cases h16:k < 16
  ·have e3:eW .i64 4 (k:Int)=((4*k:Nat):Int):=by rw[pn (by omega) (by omega)];omega
   have e4:Int.toNat ((4*k:Nat):Int)=4*k:=by omega
   rw[bu (by omega),e3,kQ (by omega) (by omega),e4,bo (by omega) (by omega),aO h]
   have hp:binary.aB (cut b (4*k) (b.length - 4*k)):=by
    show 4≤_
    rw[mf (by omega)];omega
   simp only[av,binary.run hp,aa]
   have e5:binary.add (cut b (4*k) (b.length - 4*k)) (binary.F (cut b (4*k) (b.length - 4*k)))=vw (be b k):=by
    show vw (D3 _ _ _ _)=_
    rw[Di b k (by omega)]
   have e6:=tD (mF b k) (be b k) (by omega)
   rw[hwl]at e6
   rw[e5,e6,Au b k h16]
  ·have a15:Int.toNat (dg .i64 (k:Int) 15)=k - 15:=by rw[fC (by omega) (by omega)];omega
   have a2:Int.toNat (dg .i64 (k:Int) 2)=k - 2:=by rw[fC (by omega) (by omega)];omega
   have a16:Int.toNat (dg .i64 (k:Int) 16)=k - 16:=by rw[fC (by omega) (by omega)];omega
   have a7:Int.toNat (dg .i64 (k:Int) 7)=k - 7:=by rw[fC (by omega) (by omega)];omega
   have i15:ei (dg .i64 (k:Int) 15) 64=true:=bo (by rw[fC (by omega) (by omega)];omega) (by rw[fC (by omega) (by omega)];omega)
   have i2:ei (dg .i64 (k:Int) 2) 64=true:=bo (by rw[fC (by omega) (by omega)];omega) (by rw[fC (by omega) (by omega)];omega)
   have i16:ei (dg .i64 (k:Int) 16) 64=true:=bo (by rw[fC (by omega) (by omega)];omega) (by rw[fC (by omega) (by omega)];omega)
   have i7:ei (dg .i64 (k:Int) 7) 64=true:=bo (by rw[fC (by omega) (by omega)];omega) (by rw[fC (by omega) (by omega)];omega)
   have i0:ei (k:Int) 64=true:=bo (by omega) (by omega)
   have d15:decide (k - 15 < 64)=true:=aO (by omega)
   have d2:decide (k - 2 < 64)=true:=aO (by omega)
   have d16:decide (k - 16 < 64)=true:=aO (by omega)
   have d7:decide (k - 7 < 64)=true:=aO (by omega)
   have d0:decide (k < 64)=true:=aO h
   rw[bj (by omega)]
   simp only[av,ay,a15,a2,a16,a7,i15,i2,i16,i7,i0,d15,d2,d16,d7,d0,nN (mF b k) (k - 15) (by omega),nN (mF b k) (k - 2) (by omega),nN (mF b k) (k - 16) (by omega),nN (mF b k) (k - 7) (by omega),cw.at,aa,hM,nv,lV]
   have e6:=tD (mF b k) (C8 (mF b k) k) (by omega)
   rw[hwl]at e6
   rw[B5 b k (by omega),ext,hwl,←e6]
   rfl
 ·right
  obtain rfl:k=64:=by omega
  intro R kn kx
  rw[schedule.L0.step,bj (by omega),xH _ hwl,CR]
  simp only[ay,schedule.L0.add,schedule.L0.F]
theorem schedule.ok:schedule.Ok:=by
 intro b hb
 have hp:schedule.L0.aB (b,0,List.replicate 64 0):=⟨hb,0,by omega,rfl,rfl⟩
 rw[schedule.eq,schedule.L0.run hp]
 simp only[aa,schedule.L0.add,schedule.L0.F,schedule.add,schedule.F]
noncomputable def schedule.E:=Entry.cz [some tB] schedule.st schedule.aB schedule.add schedule.F schedule.out
noncomputable def schedule.call:schedule.D→Option schedule.X:=bH schedule.E schedule.st
theorem schedule.run:bC schedule.call schedule.aB schedule.add schedule.F:=cQ (cP [.d tB] fun _=>by kernel_rfl)
noncomputable def schedule.sg:SG Tryz.prog:=⟨148,aU,schedule.E,.fn 1 (by kernel_rfl) schedule.ok (And.intro (.cz schedule.L0.ok (by kernel_rfl)) trivial)⟩
set_option synthInstance.maxSize 5000
abbrev mix.L0.D:=(List Int)×Int×(List Int)×(List Int)×(List Int)×(List Int)
def mix.L0.st:mix.L0.D→AS:=fun(h_2,t18,n4,n5,n6,n7)=>⟨([.undef,.undef,.eG (.arr 8 (.int .u32)) h_2,.undef,.ptr (.new 4 0) 0 [] 0,.ptr (.new 5 0) 0 [] 0,.ptr (.new 6 0) 0 [] 0,.ptr (.new 7 0) 0 [] 0]++bg 10 ([.d ti t18]++bg 98 [])),[],(bN 4 ([[.obj 0 false (.d (.arr 8 (.int .u32)) n4)],[.obj 0 false (.d (.arr 64 (.int .u32)) n5)],[.obj 0 false (.d (.arr 64 (.int .u32)) n6)],[.obj 0 false (.d (.arr 8 (.int .u32)) n7)]]++bN 109 []))⟩
abbrev mix.L0.Y0:=(List Int)
abbrev mix.L0.X0:=((List Int)×(List Int))×((List Int))
def mix.L0.bt:mix.L0.X0→Exit×AS:=fun x=>(.exit 0,⟨([.undef,.undef,.eG (.arr 8 (.int .u32)) x.1.1,.undef,.ptr (.new 4 0) 0 [] 0,.undef,.undef,.ptr (.new 7 0) 0 [] 0]++bg 109 []),[],(bN 4 ([[.obj 0 false (.d (.arr 8 (.int .u32)) x.1.2)],[],[],[.obj 0 false (.d (.arr 8 (.int .u32)) x.2)]]++bN 109 []))⟩)
abbrev mix.L0.X:=mix.L0.X0
abbrev mix.L0.Y:=mix.L0.Y0
def mix.L0.out:mix.L0.X→Out (Exit×AS):=fun x=> .ok (mix.L0.bt x)
def mix.L0.add:mix.L0.D→mix.L0.Y→mix.L0.X:=fun(h_2,t18,n4,n5,n6,n7) y=>((h_2,n4),y)
abbrev mix.L1.D:=(List Int)×Int×(List Int)×(List Int)
def mix.L1.st:mix.L1.D→AS:=fun(h_3,t104,n4_2,n7_2)=>⟨([.undef,.undef,.eG (.arr 8 (.int .u32)) h_3,.undef,.ptr (.new 4 0) 0 [] 0,.undef,.undef,.ptr (.new 7 0) 0 [] 0]++bg 96 ([.d ti t104]++bg 12 [])),[],(bN 4 ([[.obj 0 false (.d (.arr 8 (.int .u32)) n4_2)],[],[],[.obj 0 false (.d (.arr 8 (.int .u32)) n7_2)]]++bN 109 []))⟩
abbrev mix.L1.Y0:=(List Int)
abbrev mix.L1.X0:=((List Int))×((List Int))
def mix.L1.bt:mix.L1.X0→Exit×AS:=fun x=>(.exit 2,⟨(bg 4 ([.ptr (.new 4 0) 0 [] 0,.undef,.undef,.ptr (.new 7 0) 0 [] 0]++bg 109 [])),[],(bN 4 ([[.obj 0 false (.d (.arr 8 (.int .u32)) x.1)],[],[],[.obj 0 false (.d (.arr 8 (.int .u32)) x.2)]]++bN 109 []))⟩)
abbrev mix.L1.X:=mix.L1.X0
abbrev mix.L1.Y:=mix.L1.Y0
def mix.L1.out:mix.L1.X→Out (Exit×AS):=fun x=> .ok (mix.L1.bt x)
def mix.L1.add:mix.L1.D→mix.L1.Y→mix.L1.X:=fun(h_3,t104,n4_2,n7_2) y=>(n4_2,y)
abbrev mix.D:=(List Int)×Bs
def mix.st:mix.D→SA:=fun(h,b)=>([.d (.arr 8 (.int .u32)) h,.d tB b],[])
abbrev mix.Y:=(List Int)
abbrev mix.X:=(List Int)
def mix.out:mix.X→a9:=fun x=>⟨.d (.arr 8 (.int .u32)) x,[],[]⟩
def mix.add:mix.D→mix.Y→mix.X:=fun(h,b) y=>y
def vy(l:List Int):St:=⟨BitVec.ofInt 32 (l.getD 0 0),BitVec.ofInt 32 (l.getD 1 0),BitVec.ofInt 32 (l.getD 2 0),BitVec.ofInt 32 (l.getD 3 0),BitVec.ofInt 32 (l.getD 4 0),BitVec.ofInt 32 (l.getD 5 0),BitVec.ofInt 32 (l.getD 6 0),BitVec.ofInt 32 (l.getD 7 0)⟩
theorem gV(s:St):vy s.l=s:=by
 obtain⟨a,b,c,d,e,f,g,h⟩:=s
 simp[vy,St.l,jj]
def B0(l:List Int):List W:=l.map (BitVec.ofInt 32)
theorem mD(l:List W):B0 (wl l)=l:=by
 unfold B0 wl
 rw[List.map_map]
 have:(BitVec.ofInt 32∘vw)=(id:W→W):=by funext w;exact jj w
 rw[this,List.map_id]
def mix.L0.aB:mix.L0.D→Prop:=fun(h,t,n4,n5,n6,n7)=>∃(s:St) (ws:List W) (k:Nat),h=s.l∧n5=wl ws∧ws.length=64∧k≤64∧t=k∧n6=qs∧n7=(rounds ws s k).l
def mix.L0.F:mix.L0.D→mix.L0.Y:=fun(h,t,n4,n5,n6,n7)=>(rounds (B0 n5) (vy h) 64).l
def mix.L1.aB:mix.L1.D→Prop:=fun(h,t,n4,n7)=>n7.length=8∧∃k:Nat,k≤8∧t=k
def mix.L1.F:mix.L1.D→mix.L1.Y:=fun(h,t,n4,n7)=>from_ (fun i x=>bM .u32 x (nth (.int .u32) h i)) t.toNat n7
def mix.aB:mix.D→Prop:=fun(h,b)=>(∃s:St,h=s.l)∧64≤b.length
def mix.F:mix.D→mix.Y:=fun(h,b)=>(qv (vy h) b).l
noncomputable def mix.G:dS:=eR (P:=Tryz.prog) [schedule.sg,table.sg,cw.sg]
noncomputable def mix.L0.E:=bO.cz mix.L0.st mix.L0.aB mix.L0.add mix.L0.F mix.L0.out
noncomputable def mix.L0.call:mix.L0.D→Option mix.L0.X:=dk mix.L0.E mix.L0.st
noncomputable def mix.L1.E:=bO.cz mix.L1.st mix.L1.aB mix.L1.add mix.L1.F mix.L1.out
noncomputable def mix.L1.call:mix.L1.D→Option mix.L1.X:=dk mix.L1.E mix.L1.st
noncomputable def mix.an:eA:= {loops:=jY [(4,{bm:=[2,4,5,6,7,18],sites:=[4,5,6,7]}),(13,{bm:=[2,4,7,104],sites:=[4,7]})],outs:=jX [(4,{bm:=[2,4,7],sites:=[4,7]},{bm:=[4]}),(13,{bm:=[4,7],sites:=[4,7]},{bm:=[4]})],fJ:=kF [(4,mix.L0.E),(13,mix.L1.E)]}
noncomputable def mix.A:= @cJ Tryz.prog mix.G mix.an 0 Tryz.f111 _ mix.st
abbrev mix.Ok:=cK @mix.A mix.aB mix.add mix.F mix.out
noncomputable def mix.L0.R:= @cg Tryz.prog mix.G mix.an 0 Tryz.f111 0 _ mix.L0.st
abbrev mix.L0.Ok:=eB Tryz.prog mix.G mix.an 0 Tryz.f111 0 mix.L0.st mix.L0.aB mix.L0.add mix.L0.F mix.L0.out
noncomputable def mix.L1.R:= @cg Tryz.prog mix.G mix.an 0 Tryz.f111 1 _ mix.L1.st
abbrev mix.L1.Ok:=eB Tryz.prog mix.G mix.an 0 Tryz.f111 1 mix.L1.st mix.L1.aB mix.L1.add mix.L1.F mix.L1.out
theorem mix.L0.run:bC mix.L0.call mix.L0.aB mix.L0.add mix.L0.F:=eI (eD [.d (.arr 8 (.int .u32)),.d ti,.d (.slice (.int .u32)),.d (.slice (.int .u32)),.d (.slice (.int .u32)),.d (.slice (.int .u32))] fun _=>by kernel_rfl)
theorem mix.L0.aG:fR @mix.L0.R mix.L0.st mix.L0.aB mix.L0.add mix.L0.F mix.L0.bt mix.L0.Ok:=fV
theorem mix.L0.step{R:Type}(h_2:(List Int))(t18:Int)(n4:(List Int))(n5:(List Int))(n6:(List Int))(n7:(List Int))(kn:AS→Option R)(kx:Exit→AS→Option R):mix.L0.R (h_2,t18,n4,n5,n6,n7) kn kx=
  aJ ((fZ t18 (64:Int))) (
   aJ (decide (4 < (List.length n7))) (
   ah (cw.call ((nth (.int .u32) n7 4),(-6:Int))) fun x1=>
   aJ (decide (4 < (List.length n7))) (
   ah (cw.call ((nth (.int .u32) n7 4),(-11:Int))) fun x2=>
   aJ (decide (4 < (List.length n7))) (
   ah (cw.call ((nth (.int .u32) n7 4),(-25:Int))) fun x3=>
   aJ (decide (7 < (List.length n7))) (
   aJ (decide (6 < (List.length n7))) (
   aJ (decide (4 < (List.length n7))) (
   aJ (decide (5 < (List.length n7))) (
   aJ (decide (6 < (List.length n7))) (
   aJ (ei t18 (64:Int)) (
   aJ (decide ((Int.toNat t18) < (List.length n6))) (
   aJ (decide ((((Int.toNat t18)*1)+0)=(0+((Int.toNat t18)*1)))) (
   aJ (ei t18 (64:Int)) (
   aJ (decide ((Int.toNat t18) < (List.length n5))) (
   aJ (decide ((((Int.toNat t18)*1)+0)=(0+((Int.toNat t18)*1)))) (
   aJ (decide (0 < (List.length n7))) (
   ah (cw.call ((nth (.int .u32) n7 0),(-2:Int))) fun x4=>
   aJ (decide (0 < (List.length n7))) (
   ah (cw.call ((nth (.int .u32) n7 0),(-13:Int))) fun x5=>
   aJ (decide (0 < (List.length n7))) (
   ah (cw.call ((nth (.int .u32) n7 0),(-22:Int))) fun x6=>
   aJ (decide (0 < (List.length n7))) (
   aJ (decide (1 < (List.length n7))) (
   aJ (decide (2 < (List.length n7))) (
   aJ (decide (0 < (List.length n7))) (
   aJ (decide (1 < (List.length n7))) (
   aJ (decide (0 < (List.length n7))) (
   aJ (decide (1 < (List.length n7))) (
   aJ (decide (2 < (List.length n7))) (
   aJ (decide (3 < (List.length n7))) (
   aJ (decide (4 < (List.length n7))) (
   aJ (decide (5 < (List.length n7))) (
   aJ (decide (6 < (List.length n7))) (
   kn (mix.L0.st (h_2,(bM .i64 t18 (1:Int)),n4,n5,n6,[(bM .u32 (bM .u32 (bM .u32 (bM .u32 (bM .u32 (bM .u32 (nth (.int .u32) n7 7) (cn .xor .u32 (cn .xor .u32 x1 x2) x3)) (cn .xor .u32 (nth (.int .u32) n7 6) (cn .and .u32 (nth (.int .u32) n7 4) (cn .xor .u32 (nth (.int .u32) n7 5) (nth (.int .u32) n7 6))))) (nth (.int .u32) n6 (Int.toNat t18))) (nth (.int .u32) n5 (Int.toNat t18))) (cn .xor .u32 (cn .xor .u32 x4 x5) x6)) (cn .or .u32 (cn .and .u32 (nth (.int .u32) n7 0) (nth (.int .u32) n7 1)) (cn .and .u32 (nth (.int .u32) n7 2) (cn .or .u32 (nth (.int .u32) n7 0) (nth (.int .u32) n7 1))))),(nth (.int .u32) n7 0),(nth (.int .u32) n7 1),(nth (.int .u32) n7 2),(bM .u32 (nth (.int .u32) n7 3) (bM .u32 (bM .u32 (bM .u32 (bM .u32 (nth (.int .u32) n7 7) (cn .xor .u32 (cn .xor .u32 x1 x2) x3)) (cn .xor .u32 (nth (.int .u32) n7 6) (cn .and .u32 (nth (.int .u32) n7 4) (cn .xor .u32 (nth (.int .u32) n7 5) (nth (.int .u32) n7 6))))) (nth (.int .u32) n6 (Int.toNat t18))) (nth (.int .u32) n5 (Int.toNat t18)))),(nth (.int .u32) n7 4),(nth (.int .u32) n7 5),(nth (.int .u32) n7 6)]))) none) none) none) none) none) none) none) none) none) none) none) none) none) none) none) none) none) none) none) none) none) none) none) none) none) none) none) none) none) (
   kx (mix.L0.bt ((h_2,n4),n7)).1 (mix.L0.bt ((h_2,n4),n7)).2):=by kernel_rfl
theorem mix.L1.run:bC mix.L1.call mix.L1.aB mix.L1.add mix.L1.F:=eI (eD [.d (.arr 8 (.int .u32)),.d ti,.d (.slice (.int .u32)),.d (.slice (.int .u32))] fun _=>by kernel_rfl)
theorem mix.L1.aG:fR @mix.L1.R mix.L1.st mix.L1.aB mix.L1.add mix.L1.F mix.L1.bt mix.L1.Ok:=fV
theorem mix.L1.step{R:Type}(h_3:(List Int))(t104:Int)(n4_2:(List Int))(n7_2:(List Int))(kn:AS→Option R)(kx:Exit→AS→Option R):mix.L1.R (h_3,t104,n4_2,n7_2) kn kx=
  aJ ((fZ t104 (8:Int))) (
   aJ (ei t104 (8:Int)) (
   aJ (decide ((Int.toNat t104) < (List.length n7_2))) (
   aJ (decide ((((Int.toNat t104)*1)+0)=(0+((Int.toNat t104)*1)))) (
   aJ (ei t104 (8:Int)) (
   aJ (ei t104 (8:Int)) (
   aJ (decide ((Int.toNat t104) < (List.length n7_2))) (
   aJ (decide ((((Int.toNat t104)*1)+0)=(0+((Int.toNat t104)*1)))) (
   aJ (decide ((Int.toNat t104) < (List.length n7_2))) (
   kn (mix.L1.st (h_3,(bM .i64 t104 (1:Int)),n4_2,(List.set n7_2 (Int.toNat t104) (bM .u32 (nth (.int .u32) n7_2 (Int.toNat t104)) (nth (.int .u32) h_3 (Int.toNat t104))))))) none) none) none) none) none) none) none) none) (
   kx (mix.L1.bt (n4_2,n7_2)).1 (mix.L1.bt (n4_2,n7_2)).2):=by kernel_rfl
theorem mix.eq{R:Type}(h:(List Int))(b:Bs)(k:a9→Option R):mix.A (h,b) k=
 ah (schedule.call b) fun x1=>
 ah (table.call ()) fun x2=>
 ah (mix.L0.call (h,(0:Int),(List.replicate 8 (0:Int)),x1,x2,h)) fun x9=>
 ah (mix.L1.call (x9.1.1,(0:Int),x9.1.2,x9.2)) fun x10=>
 k (mix.out x10.2):=by kernel_rfl
theorem St.wq(s:St):s.l.length=8:=rfl
theorem qP:qs.length=64:=rfl
theorem wo(k:Nat)(h:k < 64):nth (.int .u32) qs k=vw (kw k):=by
 have hh:∀k:Fin 64,nth (.int .u32) qs k.val=vw (kw k.val):=by decide+kernel
 exact hh ⟨k,h⟩
theorem qL(ws:List W)(k:Nat)(h:k < ws.length):nth (.int .u32) (wl ws) k=vw (ws.getD k 0):=by
 unfold nth wl
 simp[h]
theorem FG(w:W):rl w ((-6:Int)%32).toNat=jB w 6:=rfl
theorem Fe(w:W):rl w ((-11:Int)%32).toNat=jB w 11:=rfl
theorem Fh(w:W):rl w ((-25:Int)%32).toNat=jB w 25:=rfl
theorem FF(w:W):rl w ((-2:Int)%32).toNat=jB w 2:=rfl
theorem Ff(w:W):rl w ((-13:Int)%32).toNat=jB w 13:=rfl
theorem Fg(w:W):rl w ((-22:Int)%32).toNat=jB w 22:=rfl
theorem n0(s:St):nth (.int .u32) s.l 0=vw s.a:=rfl
theorem n1(s:St):nth (.int .u32) s.l 1=vw s.b:=rfl
theorem n2(s:St):nth (.int .u32) s.l 2=vw s.c:=rfl
theorem n3(s:St):nth (.int .u32) s.l 3=vw s.d:=rfl
theorem n4(s:St):nth (.int .u32) s.l 4=vw s.e:=rfl
theorem n5(s:St):nth (.int .u32) s.l 5=vw s.f:=rfl
theorem n6(s:St):nth (.int .u32) s.l 6=vw s.g:=rfl
theorem n7(s:St):nth (.int .u32) s.l 7=vw s.h:=rfl
theorem mix.L0.ok:mix.L0.Ok:=by
 refine mix.L0.aG (fun(h,t,n4,n5,n6,n7)=>64 - t.toNat) ?_
 rintro⟨h,t,m4,m5,m6,m7⟩ ⟨s,ws,k,rfl,rfl,hw,hk,rfl,rfl,rfl⟩
 by_cases hlt:k < 64
 ·left
  refine⟨(s.l,((k+1:Nat):Int),m4,wl ws,qs,(rounds ws s (k+1)).l),⟨s,ws,k+1,rfl,rfl,hw,by omega,rfl,rfl,rfl⟩,by simp;omega,rfl,fun kn kx=> ?_⟩
  have e1:bM .i64 (k:Int) 1=((k+1:Nat):Int):=by rw[gL (by omega) (by omega)];omega
  have e2:Int.toNat (k:Int)=k:=by omega
  have hwl:(wl ws).length=64:=by simp[wl,hw]
  have d0:decide (k < 64)=true:=aO hlt
  have i0:ei (k:Int) 64=true:=bo (by omega) (by omega)
  rw[mix.L0.step,bu (by omega)]
  generalize hv:rounds ws s k=v
  simp only[e1,e2,Nat.mul_one,Nat.zero_add,Nat.add_zero,decide_true,av,St.wq,Nat.reduceLT,qP,hwl,d0,i0,n0,n1,n2,n3,n4,n5,n6,n7,cw.at,aa,wo k hlt,qL ws k (by omega),hM,lV,FG,Fe,Fh,FF,Ff,Fg]
  show kn _=kn (mix.L0.st (s.l,((k+1:Nat):Int),m4,wl ws,qs,(Fi (rounds ws s k) (kw k) (ws.getD k 0)).l))
  rw[hv]
  rfl
 ·right
  obtain rfl:k=64:=by omega
  intro R kn kx
  rw[mix.L0.step,bj (by omega)]
  simp only[ay,mix.L0.add,mix.L0.F,mD,gV]
theorem mix.L1.ok:mix.L1.Ok:=by
 refine mix.L1.aG (fun(h,t,n4,n7)=>8 - t.toNat) ?_
 rintro⟨h,t,m4,m7⟩ ⟨hl,k,hk,rfl⟩
 have hl:m7.length=8:=hl
 have e2:Int.toNat (k:Int)=k:=by omega
 have e3:Int.toNat ((k+1:Nat):Int)=k+1:=by omega
 by_cases hlt:k < 8
 ·left
  have e1:bM .i64 (k:Int) 1=((k+1:Nat):Int):=by rw[gL (by omega) (by omega)];omega
  have hn:nth (.int .u32) m7 k=m7[k]:=cC (t:= .int .u32) (by omega)
  refine⟨(h,((k+1:Nat):Int),m4,m7.set k (bM .u32 m7[k] (nth (.int .u32) h k))),⟨by simpa using hl,k+1,by omega,rfl⟩,by simp;omega,?_,fun kn kx=> ?_⟩
  ·simp only[mix.L1.add,mix.L1.F,e2,e3]
   rw[nQ (fun i x=>bM .u32 x (nth (.int .u32) h i)) m7 k (by omega)]
  ·have d0:decide (k < 8)=true:=aO hlt
   have i0:ei (k:Int) 8=true:=bo (by omega) (by omega)
   rw[mix.L1.step,bu (by omega)]
   simp only[e1,e2,Nat.mul_one,Nat.zero_add,Nat.add_zero,decide_true,av,hl,d0,i0,hn]
 ·right
  obtain rfl:k=8:=by omega
  intro R kn kx
  rw[mix.L1.step,bj (by omega)]
  simp only[ay,mix.L1.add,mix.L1.F,e2]
  rw[pj _ _ _ (by omega)]
theorem mix.ok:mix.Ok:=by
 rintro⟨h,b⟩ ⟨⟨s,rfl⟩,hb⟩
 have hs:schedule.aB b:=hb
 have hsl:(sched b).length=64:=by unfold sched;rw[ld,eg]
 have hp:mix.L0.aB (s.l,0,List.replicate 8 0,wl (sched b),qs,s.l):=⟨s,sched b,0,rfl,rfl,hsl,by omega,rfl,rfl,rfl⟩
 rw[mix.eq,schedule.run hs]
 simp only[aa,table.run (d:=()) trivial,schedule.add,schedule.F,table.add,table.F,mix.L0.run hp,mix.L0.add,mix.L0.F,mD,gV]
 have hp1:mix.L1.aB (s.l,0,List.replicate 8 0,(rounds (sched b) s 64).l):=⟨rfl,0,by omega,rfl⟩
 simp only[mix.L1.run hp1,aa,mix.L1.add,mix.L1.F,mix.add,mix.F,gV]
 unfold qv
 generalize rounds (sched b) s 64=v
 obtain⟨a1,b1,c1,d1,f1,g1,h1,i1⟩:=v
 simp only[St.l,from_,List.mapIdx_cons,List.mapIdx_nil,Int.toNat_zero,Nat.not_lt_zero,if_false,Nat.zero_add,Nat.reduceAdd]
 simp only[nth,List.getD_cons_zero,List.getD_cons_succ,lV]
noncomputable def mix.E:=Entry.cz [some (.arr 8 (.int .u32)),some tB] mix.st mix.aB mix.add mix.F mix.out
noncomputable def mix.call:mix.D→Option mix.X:=bH mix.E mix.st
theorem mix.run:bC mix.call mix.aB mix.add mix.F:=cQ (cP [.d (.slice (.int .u32)),.d tB] fun _=>by kernel_rfl)
noncomputable def mix.sg:SG Tryz.prog:=⟨111,aU,mix.E,.fn 2 (by kernel_rfl) mix.ok (And.intro (.cz mix.L0.ok (by kernel_rfl)) (And.intro (.cz mix.L1.ok (by kernel_rfl)) trivial))⟩
set_option synthInstance.maxSize 5000
theorem iW(n:Int)(k:Int)(h0:0≤k)(h1:k≤64):dD .u8 (bJ .i64 n k)=n / 2^k.toNat%256:=by
 rw[sh,fI,bJ]
 have e:min k.toNat IntKind.i64.bits=k.toNat:=by simp only[IntKind.bits];omega
 rw[e,Int.fdiv_eq_ediv_of_nonneg _ (Int.le_of_lt (Int.pow_pos (by omega)))]
 rfl
theorem l5{n:Nat}(h:n≤140737488355328):dm n 1=true:=eE (by omega) (by omega)
abbrev cm.D:=Bs
def cm.st:cm.D→SA:=fun sv=>([.d tB sv],[])
abbrev cm.Y:=Nat×(List Int)
abbrev cm.X:=Nat×(List Int)
def cm.out:cm.X→a9:=fun x=>⟨.cf (.new 0 0) 0 [] 0 0 x.1,[],[.obj 0 false (.vec 5 tb x.2)]⟩
def cm.add:cm.D→cm.Y→cm.X:=fun sv y=>y
def cm.aB:cm.D→Prop:=fun b=>b.length≤140737488355328
def cm.F:cm.D→cm.Y:=fun b=>(b.length,b)
noncomputable def cm.G:dS:=eR (P:=Tryz.prog) []
noncomputable def cm.an:eA:= {bI:=[5],ix:=[⟨2,[],5,25⟩]}
noncomputable def cm.A:= @cJ Tryz.prog cm.G cm.an 0 Tryz.f108 _ cm.st
abbrev cm.Ok:=cK @cm.A cm.aB cm.add cm.F cm.out
theorem cm.eq{R:Type}(sv:Bs)(k:a9→Option R):cm.A sv k=
  aJ (decide (0 < (List.length sv))) (
   aJ (dm (0+(List.length sv)) 1) (
   k (cm.out ((0+(List.length sv)),((List.take 0 (List.replicate 0 (0:Int)))++sv)))) none) (
   nd (
    k (cm.out (0,([]:List Int)))) (
    aJ (dm (0+(List.length sv)) 1) (
    k (cm.out ((0+(List.length sv)),((List.take 0 (List.replicate 0 (0:Int)))++sv)))) none)):=by kernel_rfl
theorem cm.ok:cm.Ok:=by
 intro b hb
 have hr:dm b.length 1=true:=l5 hb
 rw[cm.eq]
 have e0:(List.take 0 (List.replicate 0 0):List Int)=[]:=rfl
 simp only[Nat.zero_add,hr,av,e0,List.nil_append,cm.add,cm.F]
 by_cases h:0 < b.length
 ·simp only[aO h,av]
 ·have:b=[]:=List.eq_nil_of_length_eq_zero (by omega)
  subst this
  simp only[List.length_nil,nU,aM (Nat.lt_irrefl 0),ay]
noncomputable def cm.E:=Entry.cz [some tB] cm.st cm.aB cm.add cm.F cm.out
noncomputable def cm.call:cm.D→Option cm.X:=bH cm.E cm.st
theorem cm.run:bC cm.call cm.aB cm.add cm.F:=cQ (cP [.d tB] fun _=>by kernel_rfl)
noncomputable def cm.sg:SG Tryz.prog:=⟨108,aU,cm.E,.fn 0 (by kernel_rfl) cm.ok trivial⟩
abbrev dY.D:=Int
def dY.st:dY.D→SA:=fun n=>([.cY,.d ti n],[])
abbrev dY.Y:=Nat×(List Int)
abbrev dY.X:=Nat×(List Int)
def dY.out:dY.X→a9:=fun x=>⟨.cf (.new 0 0) 0 [] 0 0 x.1,[],[.obj 0 false (.vec 5 tb x.2)]⟩
def dY.add:dY.D→dY.Y→dY.X:=fun n y=>y
def dY.aB:dY.D→Prop:=fun _=>True
def dY.F:dY.D→dY.Y:=fun n=>(8,fM n)
noncomputable def dY.G:dS:=eR (P:=Tryz.prog) []
noncomputable def dY.an:eA:= {loops:=jY [(2,{bm:=[0,1,5],sites:=[16]})],outs:=jX [(2,{bm:=[0],sites:=[16]},{bm:=[4],sites:=[16]})],ix:=[⟨4,[],16,25⟩]}
noncomputable def dY.A:= @cJ Tryz.prog dY.G dY.an 12 Tryz.f109 _ dY.st
abbrev dY.Ok:=cK @dY.A dY.aB dY.add dY.F dY.out
theorem dY.eq{R:Type}(n:Int)(k:a9→Option R):dY.A n k=
 k (dY.out (8,[(dD .u8 (bJ .i64 n (56:Int))),(dD .u8 (bJ .i64 n (48:Int))),(dD .u8 (bJ .i64 n (40:Int))),(dD .u8 (bJ .i64 n (32:Int))),(dD .u8 (bJ .i64 n (24:Int))),(dD .u8 (bJ .i64 n (16:Int))),(dD .u8 (bJ .i64 n (8:Int))),(dD .u8 (bJ .i64 n (0:Int)))])):=by kernel_rfl
theorem xI(n:Int): [dD .u8 (bJ .i64 n 56),dD .u8 (bJ .i64 n 48),dD .u8 (bJ .i64 n 40),dD .u8 (bJ .i64 n 32),dD .u8 (bJ .i64 n 24),dD .u8 (bJ .i64 n 16),dD .u8 (bJ .i64 n 8),dD .u8 (bJ .i64 n 0)]=fM n:=by
 rw[iW n 56 (by omega) (by omega),iW n 48 (by omega) (by omega),iW n 40 (by omega) (by omega),iW n 32 (by omega) (by omega),iW n 24 (by omega) (by omega),iW n 16 (by omega) (by omega),iW n 8 (by omega) (by omega),iW n 0 (by omega) (by omega)]
 simp[fM]
theorem dY.ok:dY.Ok:=by
 intro n _
 rw[dY.eq,xI]
 rfl
noncomputable def dY.E:=Entry.cz [none,some ti] dY.st dY.aB dY.add dY.F dY.out
noncomputable def dY.call:dY.D→Option dY.X:=bH dY.E dY.st
theorem dY.run:bC dY.call dY.aB dY.add dY.F:=cQ (cP [.d ti] fun _=>by kernel_rfl)
noncomputable def dY.sg:SG Tryz.prog:=⟨109,z6,dY.E,.fn 1 (by kernel_rfl) dY.ok (And.intro (.none (by kernel_rfl)) trivial)⟩
abbrev dz.D:=Nat×Int×Bs
def dz.st:dz.D→SA:=fun(bL,n,o0)=>([.cf (.fG 0) 0 [] 0 0 bL,.d ti n],[.obj 0 false (.vec 5 tb o0)])
abbrev dz.Y:=Nat×(List Int)
abbrev dz.X:=Nat×(List Int)
def dz.out:dz.X→a9:=fun x=>⟨.cf (.fG 0) 8 [] 0 0 x.1,[.obj 8 false (.vec 5 tb x.2)],[]⟩
def dz.add:dz.D→dz.Y→dz.X:=fun(bL,n,o0) y=>y
def dz.aB:dz.D→Prop:=fun(m,n,l)=>m=l.length∧l.length≤140737488355320
def dz.F:dz.D→dz.Y:=fun(m,n,l)=>(l.length+8,l++fM n)
noncomputable def dz.G:dS:=eR (P:=Tryz.prog) []
noncomputable def dz.an:eA:= {loops:=jY [(2,{bm:=[0,1,5],sites:=[16]})],outs:=jX [(2,{bm:=[0],sites:=[16]},{bm:=[4],sites:=[16]})]}
noncomputable def dz.A:= @cJ Tryz.prog dz.G dz.an 12 Tryz.f109 _ dz.st
abbrev dz.Ok:=cK @dz.A dz.aB dz.add dz.F dz.out
theorem dz.eq{R:Type}(bL:Nat)(n:Int)(o0:Bs)(k:a9→Option R):dz.A (bL,n,o0) k=
 aJ (decide (bL≤(List.length o0))) (
 aJ (dm (bL+1) 1) (
 aJ (decide ((bL+1)≤(List.length ((List.take bL o0)++ [(dD .u8 (bJ .i64 n (56:Int)))])))) (
 aJ (dm ((bL+1)+1) 1) (
 aJ (decide (((bL+1)+1)≤(List.length ((List.take (bL+1) ((List.take bL o0)++ [(dD .u8 (bJ .i64 n (56:Int)))]))++ [(dD .u8 (bJ .i64 n (48:Int)))])))) (
 aJ (dm (((bL+1)+1)+1) 1) (
 aJ (decide ((((bL+1)+1)+1)≤(List.length ((List.take ((bL+1)+1) ((List.take (bL+1) ((List.take bL o0)++ [(dD .u8 (bJ .i64 n (56:Int)))]))++ [(dD .u8 (bJ .i64 n (48:Int)))]))++ [(dD .u8 (bJ .i64 n (40:Int)))])))) (
 aJ (dm ((((bL+1)+1)+1)+1) 1) (
 aJ (decide (((((bL+1)+1)+1)+1)≤(List.length ((List.take (((bL+1)+1)+1) ((List.take ((bL+1)+1) ((List.take (bL+1) ((List.take bL o0)++ [(dD .u8 (bJ .i64 n (56:Int)))]))++ [(dD .u8 (bJ .i64 n (48:Int)))]))++ [(dD .u8 (bJ .i64 n (40:Int)))]))++ [(dD .u8 (bJ .i64 n (32:Int)))])))) (
 aJ (dm (((((bL+1)+1)+1)+1)+1) 1) (
 aJ (decide ((((((bL+1)+1)+1)+1)+1)≤(List.length ((List.take ((((bL+1)+1)+1)+1) ((List.take (((bL+1)+1)+1) ((List.take ((bL+1)+1) ((List.take (bL+1) ((List.take bL o0)++ [(dD .u8 (bJ .i64 n (56:Int)))]))++ [(dD .u8 (bJ .i64 n (48:Int)))]))++ [(dD .u8 (bJ .i64 n (40:Int)))]))++ [(dD .u8 (bJ .i64 n (32:Int)))]))++ [(dD .u8 (bJ .i64 n (24:Int)))])))) (
 aJ (dm ((((((bL+1)+1)+1)+1)+1)+1) 1) (
 aJ (decide (((((((bL+1)+1)+1)+1)+1)+1)≤(List.length ((List.take (((((bL+1)+1)+1)+1)+1) ((List.take ((((bL+1)+1)+1)+1) ((List.take (((bL+1)+1)+1) ((List.take ((bL+1)+1) ((List.take (bL+1) ((List.take bL o0)++ [(dD .u8 (bJ .i64 n (56:Int)))]))++ [(dD .u8 (bJ .i64 n (48:Int)))]))++ [(dD .u8 (bJ .i64 n (40:Int)))]))++ [(dD .u8 (bJ .i64 n (32:Int)))]))++ [(dD .u8 (bJ .i64 n (24:Int)))]))++ [(dD .u8 (bJ .i64 n (16:Int)))])))) (
 aJ (dm (((((((bL+1)+1)+1)+1)+1)+1)+1) 1) (
 aJ (decide ((((((((bL+1)+1)+1)+1)+1)+1)+1)≤(List.length ((List.take ((((((bL+1)+1)+1)+1)+1)+1) ((List.take (((((bL+1)+1)+1)+1)+1) ((List.take ((((bL+1)+1)+1)+1) ((List.take (((bL+1)+1)+1) ((List.take ((bL+1)+1) ((List.take (bL+1) ((List.take bL o0)++ [(dD .u8 (bJ .i64 n (56:Int)))]))++ [(dD .u8 (bJ .i64 n (48:Int)))]))++ [(dD .u8 (bJ .i64 n (40:Int)))]))++ [(dD .u8 (bJ .i64 n (32:Int)))]))++ [(dD .u8 (bJ .i64 n (24:Int)))]))++ [(dD .u8 (bJ .i64 n (16:Int)))]))++ [(dD .u8 (bJ .i64 n (8:Int)))])))) (
 aJ (dm ((((((((bL+1)+1)+1)+1)+1)+1)+1)+1) 1) (
 k (dz.out (((((((((bL+1)+1)+1)+1)+1)+1)+1)+1),((List.take (((((((bL+1)+1)+1)+1)+1)+1)+1) ((List.take ((((((bL+1)+1)+1)+1)+1)+1) ((List.take (((((bL+1)+1)+1)+1)+1) ((List.take ((((bL+1)+1)+1)+1) ((List.take (((bL+1)+1)+1) ((List.take ((bL+1)+1) ((List.take (bL+1) ((List.take bL o0)++ [(dD .u8 (bJ .i64 n (56:Int)))]))++ [(dD .u8 (bJ .i64 n (48:Int)))]))++ [(dD .u8 (bJ .i64 n (40:Int)))]))++ [(dD .u8 (bJ .i64 n (32:Int)))]))++ [(dD .u8 (bJ .i64 n (24:Int)))]))++ [(dD .u8 (bJ .i64 n (16:Int)))]))++ [(dD .u8 (bJ .i64 n (8:Int)))]))++ [(dD .u8 (bJ .i64 n (0:Int)))])))) none) none) none) none) none) none) none) none) none) none) none) none) none) none) none) none:=by kernel_rfl
theorem dz.ok:dz.Ok:=by
 rintro⟨m,n,l⟩ ⟨rfl,hl⟩
 have hl:l.length≤140737488355320:=hl
 rw[dz.eq]
 simp only[Nat.le_refl,decide_true,av,List.take_of_length_le,List.length_append,List.length_cons,List.length_nil,Nat.zero_add]
 rw[l5 (by omega),l5 (by omega),l5 (by omega),l5 (by omega),l5 (by omega),l5 (by omega),l5 (by omega),l5 (by omega)]
 simp only[av,dz.add,dz.F,←xI,List.append_assoc,List.cons_append,List.nil_append]
noncomputable def dz.E:=Entry.cz [none,some ti] dz.st dz.aB dz.add dz.F dz.out
noncomputable def dz.call:dz.D→Option dz.X:=bH dz.E dz.st
theorem dz.run:bC dz.call dz.aB dz.add dz.F:=cQ (cP [.n,.d ti,.d tB] fun _=>by kernel_rfl)
noncomputable def dz.sg:SG Tryz.prog:=⟨109,An,dz.E,.fn 1 (by kernel_rfl) dz.ok (And.intro (.none (by kernel_rfl)) trivial)⟩
set_option synthInstance.maxSize 5000
abbrev aL.L0.D:=Bs×Nat×Bs×(List Int)
def aL.L0.st:aL.L0.D→AS:=fun(b_2,endL,n2,n14)=>⟨([.d tB b_2,.undef,.ptr (.new 2 0) 0 [] 0,.cf (.new 14 0) 0 [] 0 0 endL]++bg 61 []),[],([[],[],[.obj 0 false (.d tH n2)]]++bN 11 ([[.obj 0 false (.vec 5 tb n14)]]++bN 50 []))⟩
abbrev aL.L0.Y0:=Nat×(List Int)
abbrev aL.L0.X0:=(Bs×Bs)×(Nat×(List Int))
def aL.L0.bt:aL.L0.X0→Exit×AS:=fun x=>(.exit 0,⟨([.d tB x.1.1,.undef,.ptr (.new 2 0) 0 [] 0,.cf (.new 14 0) 0 [] 0 0 x.2.1]++bg 61 []),[],([[],[],[.obj 0 false (.d tH x.1.2)]]++bN 11 ([[.obj 0 false (.vec 5 tb x.2.2)]]++bN 50 []))⟩)
abbrev aL.L0.X:=aL.L0.X0
abbrev aL.L0.Y:=aL.L0.Y0
def aL.L0.out:aL.L0.X→Out (Exit×AS):=fun x=> .ok (aL.L0.bt x)
def aL.L0.add:aL.L0.D→aL.L0.Y→aL.L0.X:=fun(b_2,endL,n2,n14) y=>((b_2,n2),y)
abbrev aL.L1.D:=Bs×Nat×Bs×(List Int)×(List Int)
def aL.L1.st:aL.L1.D→AS:=fun(b_3,endL_2,n2_2,n4,n14_2)=>⟨([.d tB b_3,.undef,.ptr (.new 2 0) 0 [] 0,.cf (.new 14 0) 8 [] 0 0 endL_2,.ptr (.new 4 0) 0 [] 0]++bg 60 []),[],([[],[],[.obj 0 false (.d tH n2_2)],[],[.obj 0 false (.d (.arr 8 (.int .u32)) n4)]]++bN 9 ([[.obj 8 false (.vec 5 tb n14_2)]]++bN 50 []))⟩
abbrev aL.L1.Y0:=(List Int)
abbrev aL.L1.X0:=(Nat×Bs×(List Int))×((List Int))
def aL.L1.bt:aL.L1.X0→Exit×AS:=fun x=>(.exit 2,⟨([.undef,.undef,.ptr (.new 2 0) 0 [] 0,.cf (.new 14 0) 8 [] 0 0 x.1.1,.ptr (.new 4 0) 0 [] 0]++bg 60 []),[],([[],[],[.obj 0 false (.d tH x.1.2.1)],[],[.obj 0 false (.d (.arr 8 (.int .u32)) x.2)]]++bN 9 ([[.obj 8 false (.vec 5 tb x.1.2.2)]]++bN 50 []))⟩)
abbrev aL.L1.X:=aL.L1.X0
abbrev aL.L1.Y:=aL.L1.Y0
def aL.L1.out:aL.L1.X→Out (Exit×AS):=fun x=> .ok (aL.L1.bt x)
def aL.L1.add:aL.L1.D→aL.L1.Y→aL.L1.X:=fun(b_3,endL_2,n2_2,n4,n14_2) y=>((endL_2,n2_2,n14_2),y)
abbrev aL.L2.D:=Bs×Bs×(List Int)
def aL.L2.st:aL.L2.D→AS:=fun(endv,n2_3,n4_2)=>⟨([.undef,.undef,.ptr (.new 2 0) 0 [] 0,.d tB endv,.ptr (.new 4 0) 0 [] 0]++bg 60 []),[],([[],[],[.obj 0 false (.d tH n2_3)],[],[.obj 0 false (.d (.arr 8 (.int .u32)) n4_2)]]++bN 60 [])⟩
abbrev aL.L2.Y0:=(List Int)
abbrev aL.L2.X0:=(Bs)×((List Int))
def aL.L2.bt:aL.L2.X0→Exit×AS:=fun x=>(.exit 4,⟨([.undef,.undef,.ptr (.new 2 0) 0 [] 0,.undef,.ptr (.new 4 0) 0 [] 0]++bg 60 []),[],([[],[],[.obj 0 false (.d tH x.1)],[],[.obj 0 false (.d (.arr 8 (.int .u32)) x.2)]]++bN 60 [])⟩)
abbrev aL.L2.X:=aL.L2.X0
abbrev aL.L2.Y:=aL.L2.Y0
def aL.L2.out:aL.L2.X→Out (Exit×AS):=fun x=> .ok (aL.L2.bt x)
def aL.L2.add:aL.L2.D→aL.L2.Y→aL.L2.X:=fun(endv,n2_3,n4_2) y=>(n2_3,y)
abbrev aL.L3.D:=Int×Bs×(List Int)
def aL.L3.st:aL.L3.D→AS:=fun(t48,n2_4,n4_3)=>⟨([.undef,.undef,.ptr (.new 2 0) 0 [] 0,.undef,.ptr (.new 4 0) 0 [] 0]++bg 43 ([.d ti t48]++bg 16 [])),[],([[],[],[.obj 0 false (.d tH n2_4)],[],[.obj 0 false (.d (.arr 8 (.int .u32)) n4_3)]]++bN 60 [])⟩
abbrev aL.L3.Y0:=Bs
abbrev aL.L3.X0:=Bs
def aL.L3.bt:aL.L3.X0→Exit×AS:=fun x=>(.exit 6,⟨([.undef,.undef,.ptr (.new 2 0) 0 [] 0]++bg 62 []),[],([[],[],[.obj 0 false (.d tH x)]]++bN 62 [])⟩)
abbrev aL.L3.X:=aL.L3.X0
abbrev aL.L3.Y:=aL.L3.Y0
def aL.L3.out:aL.L3.X→Out (Exit×AS):=fun x=> .ok (aL.L3.bt x)
def aL.L3.add:aL.L3.D→aL.L3.Y→aL.L3.X:=fun(t48,n2_4,n4_3) y=>y
abbrev aL.D:=Bs
def aL.st:aL.D→SA:=fun b=>([.d tB b],[])
abbrev aL.Y:=Bs
abbrev aL.X:=Bs
def aL.out:aL.X→a9:=fun x=>⟨.d tH x,[],[]⟩
def aL.add:aL.D→aL.Y→aL.X:=fun b y=>y
def zc(n:Nat):Nat:=(120 - n%64)%64
def aL.L0.aB:aL.L0.D→Prop:=fun(b,m,n2,l)=>m=l.length∧l.length+zc l.length≤140737488355328
def aL.L0.F:aL.L0.D→aL.L0.Y:=fun(b,m,n2,l)=>(l.length+zc l.length,l++List.replicate (zc l.length) 0)
def aL.L1.aB:aL.L1.D→Prop:=fun(b,m,n2,h,l)=>∃s:St,h=s.l
def aL.L1.F:aL.L1.D→aL.L1.Y:=fun(b,m,n2,h,l)=>(blocks (vy h) b).l
def aL.L2.aB:aL.L2.D→Prop:=fun(b,n2,h)=>b.length%64=0∧∃s:St,h=s.l
def aL.L2.F:aL.L2.D→aL.L2.Y:=fun(b,n2,h)=>(blocks (vy h) b).l
def og(h:List Int)(i:Nat)(_:Int):Int:=dD .u8 (bJ .u32 (nth (.int .u32) h (i / 4)) ((24 - 8*(i%4):Nat):Int))
def aL.L3.aB:aL.L3.D→Prop:=fun(t,n2,h)=>n2.length=32∧h.length=8∧∃k:Nat,k≤32∧t=k
def aL.L3.F:aL.L3.D→aL.L3.Y:=fun(t,n2,h)=>from_ (og h) t.toNat n2
def aL.aB:aL.D→Prop:=fun b=>b.length≤140737488350000
def aL.F:aL.D→aL.Y:=fun b=>CJ b
noncomputable def aL.G:dS:=eR (P:=Tryz.prog) [cm.sg,dz.sg,first.sg,mix.sg]
noncomputable def aL.L0.E:=bO.cz aL.L0.st aL.L0.aB aL.L0.add aL.L0.F aL.L0.out
noncomputable def aL.L0.call:aL.L0.D→Option aL.L0.X:=dk aL.L0.E aL.L0.st
noncomputable def aL.L1.E:=bO.cz aL.L1.st aL.L1.aB aL.L1.add aL.L1.F aL.L1.out
noncomputable def aL.L1.call:aL.L1.D→Option aL.L1.X:=dk aL.L1.E aL.L1.st
noncomputable def aL.L2.E:=bO.cz aL.L2.st aL.L2.aB aL.L2.add aL.L2.F aL.L2.out
noncomputable def aL.L2.call:aL.L2.D→Option aL.L2.X:=dk aL.L2.E aL.L2.st
noncomputable def aL.L3.E:=bO.cz aL.L3.st aL.L3.aB aL.L3.add aL.L3.F aL.L3.out
noncomputable def aL.L3.call:aL.L3.D→Option aL.L3.X:=dk aL.L3.E aL.L3.st
noncomputable def aL.an:eA:= {loops:=jY [(2,{bm:=[0,2,3],sites:=[2,14],ix:=[⟨3,[],14,25⟩]}),(6,{bm:=[0,2,3,4],sites:=[2,4,14]}),(9,{bm:=[2,3,4],sites:=[2,4],data:=[(3,tB)]}),(13,{bm:=[2,4,48],sites:=[2,4]})],outs:=jX [(2,{bm:=[0,2,3],sites:=[2,14]},{bm:=[2]}),(6,{bm:=[2,3,4],sites:=[2,4,14]},{bm:=[2]}),(9,{bm:=[2,4],sites:=[2,4]},{bm:=[2]}),(13,{bm:=[2],sites:=[2]},{bm:=[2]})],fJ:=kF [(2,aL.L0.E),(6,aL.L1.E),(9,aL.L2.E),(13,aL.L3.E)]}
noncomputable def aL.A:= @cJ Tryz.prog aL.G aL.an 0 Tryz.f51 _ aL.st
abbrev aL.Ok:=cK @aL.A aL.aB aL.add aL.F aL.out
noncomputable def aL.L0.R:= @cg Tryz.prog aL.G aL.an 0 Tryz.f51 0 _ aL.L0.st
abbrev aL.L0.Ok:=eB Tryz.prog aL.G aL.an 0 Tryz.f51 0 aL.L0.st aL.L0.aB aL.L0.add aL.L0.F aL.L0.out
noncomputable def aL.L1.R:= @cg Tryz.prog aL.G aL.an 0 Tryz.f51 1 _ aL.L1.st
abbrev aL.L1.Ok:=eB Tryz.prog aL.G aL.an 0 Tryz.f51 1 aL.L1.st aL.L1.aB aL.L1.add aL.L1.F aL.L1.out
noncomputable def aL.L2.R:= @cg Tryz.prog aL.G aL.an 0 Tryz.f51 2 _ aL.L2.st
abbrev aL.L2.Ok:=eB Tryz.prog aL.G aL.an 0 Tryz.f51 2 aL.L2.st aL.L2.aB aL.L2.add aL.L2.F aL.L2.out
noncomputable def aL.L3.R:= @cg Tryz.prog aL.G aL.an 0 Tryz.f51 3 _ aL.L3.st
abbrev aL.L3.Ok:=eB Tryz.prog aL.G aL.an 0 Tryz.f51 3 aL.L3.st aL.L3.aB aL.L3.add aL.L3.F aL.L3.out
theorem aL.L0.run:bC aL.L0.call aL.L0.aB aL.L0.add aL.L0.F:=eI (eD [.d tB,.n,.d tB,.d tB] fun _=>by kernel_rfl)
theorem aL.L0.aG:fR @aL.L0.R aL.L0.st aL.L0.aB aL.L0.add aL.L0.F aL.L0.bt aL.L0.Ok:=fV
theorem aL.L0.step{R:Type}(b_2:Bs)(endL:Nat)(n2:Bs)(n14:(List Int))(kn:AS→Option R)(kx:Exit→AS→Option R):aL.L0.R (b_2,endL,n2,n14) kn kx=
  aJ ((jw (iZ ((endL:Nat):Int) (64:Int)) (56:Int))) (
   aJ (decide (endL≤(List.length n14))) (
   aJ (dm (endL+1) 1) (
   kn (aL.L0.st (b_2,(endL+1),n2,((List.take endL n14)++ [(0:Int)])))) none) none) (
   kx (aL.L0.bt ((b_2,n2),(endL,n14))).1 (aL.L0.bt ((b_2,n2),(endL,n14))).2):=by kernel_rfl
theorem aL.L1.run:bC aL.L1.call aL.L1.aB aL.L1.add aL.L1.F:=eI (eD [.d tB,.n,.d tB,.d (.slice (.int .u32)),.d tB] fun _=>by kernel_rfl)
theorem aL.L1.aG:fR @aL.L1.R aL.L1.st aL.L1.aB aL.L1.add aL.L1.F aL.L1.bt aL.L1.Ok:=fV
theorem aL.L1.step{R:Type}(b_3:Bs)(endL_2:Nat)(n2_2:Bs)(n4:(List Int))(n14_2:(List Int))(kn:AS→Option R)(kx:Exit→AS→Option R):aL.L1.R (b_3,endL_2,n2_2,n4,n14_2) kn kx=
  aJ ((mU (((List.length b_3):Nat):Int) (64:Int))) (
   aJ (inc (64:Int) (((List.length b_3):Nat):Int)) (
   ah (mix.call (n4,(cut b_3 0 64))) fun x1=>
   aJ (inc (64:Int) (((List.length b_3):Nat):Int)) (
   kn (aL.L1.st ((cut b_3 64 ((List.length b_3) - 64)),endL_2,n2_2,x1,n14_2))) none) none) (
   kx (aL.L1.bt ((endL_2,n2_2,n14_2),n4)).1 (aL.L1.bt ((endL_2,n2_2,n14_2),n4)).2):=by kernel_rfl
theorem aL.L2.run:bC aL.L2.call aL.L2.aB aL.L2.add aL.L2.F:=eI (eD [.d tB,.d tB,.d (.slice (.int .u32))] fun _=>by kernel_rfl)
theorem aL.L2.aG:fR @aL.L2.R aL.L2.st aL.L2.aB aL.L2.add aL.L2.F aL.L2.bt aL.L2.Ok:=fV
theorem aL.L2.step{R:Type}(endv:Bs)(n2_3:Bs)(n4_2:(List Int))(kn:AS→Option R)(kx:Exit→AS→Option R):aL.L2.R (endv,n2_3,n4_2) kn kx=
  aJ ((oJ (((List.length endv):Nat):Int) (0:Int))) (
   aJ (inc (64:Int) (((List.length endv):Nat):Int)) (
   ah (mix.call (n4_2,(cut endv 0 64))) fun x1=>
   aJ (inc (64:Int) (((List.length endv):Nat):Int)) (
   kn (aL.L2.st ((cut endv 64 ((List.length endv) - 64)),n2_3,x1))) none) none) (
   kx (aL.L2.bt (n2_3,n4_2)).1 (aL.L2.bt (n2_3,n4_2)).2):=by kernel_rfl
theorem aL.L3.run:bC aL.L3.call aL.L3.aB aL.L3.add aL.L3.F:=eI (eD [.d ti,.d tB,.d (.slice (.int .u32))] fun _=>by kernel_rfl)
theorem aL.L3.aG:fR @aL.L3.R aL.L3.st aL.L3.aB aL.L3.add aL.L3.F aL.L3.bt aL.L3.Ok:=fV
theorem aL.L3.step{R:Type}(t48:Int)(n2_4:Bs)(n4_3:(List Int))(kn:AS→Option R)(kx:Exit→AS→Option R):aL.L3.R (t48,n2_4,n4_3) kn kx=
  aJ ((fZ t48 (32:Int))) (
   aJ (ei (kS .i64 t48 (4:Int)) (8:Int)) (
   aJ (decide ((Int.toNat (kS .i64 t48 (4:Int))) < (List.length n4_3))) (
   aJ (decide ((((Int.toNat (kS .i64 t48 (4:Int)))*1)+0)=(0+((Int.toNat (kS .i64 t48 (4:Int)))*1)))) (
   aJ (gJ (dg .i64 (24:Int) (eW .i64 (8:Int) (iZ t48 (4:Int))))) (
   aJ (ei t48 (32:Int)) (
   aJ (decide ((Int.toNat t48) < (List.length n2_4))) (
   aJ (decide ((((Int.toNat t48)*1)+0)=(0+((Int.toNat t48)*1)))) (
   aJ (decide ((Int.toNat t48) < (List.length n2_4))) (
   kn (aL.L3.st ((bM .i64 t48 (1:Int)),(List.set n2_4 (Int.toNat t48) (dD .u8 (bJ .u32 (nth (.int .u32) n4_3 (Int.toNat (kS .i64 t48 (4:Int)))) (dg .i64 (24:Int) (eW .i64 (8:Int) (iZ t48 (4:Int))))))),n4_3))) none) none) none) none) none) none) none) none) (
   kx (aL.L3.bt n2_4).1 (aL.L3.bt n2_4).2):=by kernel_rfl
theorem aL.eq{R:Type}(b:Bs)(k:a9→Option R):aL.A b k=
 aJ (inc (dg .i64 (((List.length b):Nat):Int) (iZ (((List.length b):Nat):Int) (64:Int))) (((List.length b):Nat):Int)) (
 ah (cm.call (cut b (Int.toNat (dg .i64 (((List.length b):Nat):Int) (iZ (((List.length b):Nat):Int) (64:Int)))) ((List.length b) - (Int.toNat (dg .i64 (((List.length b):Nat):Int) (iZ (((List.length b):Nat):Int) (64:Int))))))) fun x1=>
 aJ (decide (x1.1≤(List.length x1.2))) (
 aJ (dm (x1.1+1) 1) (
 ah (aL.L0.call (b,(x1.1+1),(List.replicate 32 (0:Int)),((List.take x1.1 x1.2)++ [(128:Int)]))) fun x2=>
 ah (dz.call (x2.2.1,(eW .i64 (8:Int) (((List.length x2.1.1):Nat):Int)),x2.2.2)) fun x3=>
 ah (first.call ()) fun x4=>
 ah (aL.L1.call (x2.1.1,x3.1,x2.1.2,x4,x3.2)) fun x6=>
 aJ (decide (0=0∧(0+x6.1.1)≤(List.length x6.1.2.2))) (
 ah (aL.L2.call ((cut x6.1.2.2 0 x6.1.1),x6.1.2.1,x6.2)) fun x9=>
 ah (aL.L3.call ((0:Int),x9.1,x9.2)) fun x10=>
 k (aL.out x10)) none) none) none) none:=by kernel_rfl
theorem aL.L0.ok:aL.L0.Ok:=by
 refine aL.L0.aG (fun(b,m,n2,l)=>zc l.length) ?_
 rintro⟨b,m,n2,l⟩ ⟨rfl,hl⟩
 have hl:l.length+zc l.length≤140737488355328:=hl
 have hr:iZ ((l.length:Nat):Int) 64=((l.length%64:Nat):Int):=by
  unfold iZ
  rw[Int.tmod_eq_emod_of_nonneg (by omega)]
  omega
 by_cases h:l.length%64=56
 ·right
  intro R kn kx
  have hz:zc l.length=0:=by unfold zc;omega
  rw[aL.L0.step,hr,bR (by omega)]
  simp only[ay,aL.L0.add,aL.L0.F,hz,Nat.add_zero,List.replicate_zero,List.append_nil]
 ·left
  have hz:zc l.length=zc (l.length+1)+1:=by unfold zc;omega
  refine⟨(b,l.length+1,n2,l++ [0]),⟨by simp,by simp only[List.length_append,List.length_cons,List.length_nil,Nat.zero_add];omega⟩,by simp only[List.length_append,List.length_cons,List.length_nil,Nat.zero_add];omega,?_,fun kn kx=> ?_⟩
  ·simp only[aL.L0.add,aL.L0.F,List.length_append,List.length_cons,List.length_nil,Nat.zero_add,hz,List.append_assoc,List.cons_append,List.nil_append,List.replicate_succ]
   rw[show l.length+1+zc (l.length+1)=l.length+(zc (l.length+1)+1) by omega]
  ·rw[aL.L0.step,hr,dA (by omega),l5 (by omega)]
   simp only[av,Nat.le_refl,decide_true,List.take_length]
theorem aL.L1.ok:aL.L1.Ok:=by
 refine aL.L1.aG (fun(b,m,n2,h,l)=>b.length) ?_
 rintro⟨b,m,n2,h,l⟩ ⟨s,rfl⟩
 by_cases hb:64≤b.length
 ·left
  have e1:cut b 64 (b.length - 64)=b.drop 64:=by unfold cut;rw[List.take_of_length_le (by simp)]
  have e2:cut b 0 64=b.take 64:=rfl
  have hp:mix.aB (s.l,b.take 64):=⟨⟨s,rfl⟩,by simp;omega⟩
  refine⟨(b.drop 64,m,n2,(qv s (b.take 64)).l,l),⟨_,rfl⟩,by simp;omega,?_,fun kn kx=> ?_⟩
  ·simp only[aL.L1.add,aL.L1.F,gV]
   rw[nc s b hb]
  ·rw[aL.L1.step,fX (by omega),kQ (by omega) (by omega),e1,e2]
   simp only[av,mix.run hp,aa,mix.add,mix.F,gV]
 ·right
  intro R kn kx
  rw[aL.L1.step,eJ (by omega)]
  simp only[ay,aL.L1.add,aL.L1.F,gV]
  rw[ma s b (by omega)]
theorem aL.L2.ok:aL.L2.Ok:=by
 refine aL.L2.aG (fun(b,n2,h)=>b.length) ?_
 rintro⟨b,n2,h⟩ ⟨hm,s,rfl⟩
 have hm:b.length%64=0:=hm
 by_cases hb:0 < b.length
 ·left
  have e1:cut b 64 (b.length - 64)=b.drop 64:=by unfold cut;rw[List.take_of_length_le (by simp)]
  have e2:cut b 0 64=b.take 64:=rfl
  have hp:mix.aB (s.l,b.take 64):=⟨⟨s,rfl⟩,by simp;omega⟩
  refine⟨(b.drop 64,n2,(qv s (b.take 64)).l),⟨by simp;omega,_,rfl⟩,by simp;omega,?_,fun kn kx=> ?_⟩
  ·simp only[aL.L2.add,aL.L2.F,gV]
   rw[nc s b (by omega)]
  ·rw[aL.L2.step,ek (by omega),kQ (by omega) (by omega),e1,e2]
   simp only[av,mix.run hp,aa,mix.add,mix.F,gV]
 ·right
  intro R kn kx
  rw[aL.L2.step,dR (by omega)]
  simp only[ay,aL.L2.add,aL.L2.F,gV]
  rw[ma s b (by omega)]
theorem aL.L3.ok:aL.L3.Ok:=by
 refine aL.L3.aG (fun(t,n2,h)=>32 - t.toNat) ?_
 rintro⟨t,m,h⟩ ⟨hl,h8,k,hk,rfl⟩
 have hl:m.length=32:=hl
 have h8:h.length=8:=h8
 have e2:Int.toNat (k:Int)=k:=by omega
 have e3:Int.toNat ((k+1:Nat):Int)=k+1:=by omega
 by_cases hlt:k < 32
 ·left
  have e1:bM .i64 (k:Int) 1=((k+1:Nat):Int):=by rw[gL (by omega) (by omega)];omega
  have q4:kS .i64 (k:Int) 4=((k / 4:Nat):Int):=by
   have:(k:Int).tdiv 4=((k / 4:Nat):Int):=by rw[Int.tdiv_eq_ediv_of_nonneg (by omega)];omega
   unfold kS
   rw[this,je (by omega) (by omega)]
  have r4:iZ (k:Int) 4=((k%4:Nat):Int):=by
   unfold iZ
   rw[Int.tmod_eq_emod_of_nonneg (by omega)]
   omega
  have s4:dg .i64 24 (eW .i64 8 ((k%4:Nat):Int))=((24 - 8*(k%4):Nat):Int):=by
   rw[pn (by omega) (by omega),fC (by omega) (by omega)]
   omega
  have e4:Int.toNat ((k / 4:Nat):Int)=k / 4:=by omega
  refine⟨(((k+1:Nat):Int),m.set k (og h k m[k]),h),⟨by simpa using hl,h8,k+1,by omega,rfl⟩,by simp;omega,?_,fun kn kx=> ?_⟩
  ·simp only[aL.L3.add,aL.L3.F,e2,e3]
   rw[nQ (og h) m k (by omega)]
  ·have d0:decide (k < 32)=true:=aO hlt
   have d1:decide (k / 4 < 8)=true:=aO (by omega)
   rw[aL.L3.step,bu (by omega),q4,r4,s4,bo (by omega) (by omega),bo (by omega) (by omega),j3 (by omega)]
   simp only[e1,e2,e4,Nat.mul_one,Nat.zero_add,Nat.add_zero,decide_true,av,hl,h8,d0,d1,og]
 ·right
  obtain rfl:k=32:=by omega
  intro R kn kx
  rw[aL.L3.step,bj (by omega)]
  simp only[ay,aL.L3.add,aL.L3.F,e2]
  rw[pj _ _ _ (by omega)]
theorem Aa(w:W):BitVec.ofInt 8 (vw w)=w.setWidth 8:=by
 apply BitVec.eq_of_toNat_eq
 rw[BitVec.toNat_ofInt,BitVec.toNat_setWidth]
 unfold vw
 omega
theorem Dp(w:W)(k:Int):dD .u8 (bJ .u32 (vw w) k)=vw ((w >>> k.toNat).setWidth 8):=by
 rw[nv,sh,Aa]
theorem y8(s:St):from_ (og s.l) 0 (List.replicate 32 0)=CE s:=by
 rw[rZ]
 simp only[List.range_eq_range',List.range',List.map_cons,List.map_nil,og,Nat.reduceAdd,Nat.reduceDiv,Nat.reduceMod,Nat.reduceMul,Nat.reduceSub,n0,n1,n2,n3,n4,n5,n6,n7,Dp]
 rfl
theorem aL.ok:aL.Ok:=by
 intro b hb
 have hb:b.length≤140737488350000:=hb
 have hr:iZ ((b.length:Nat):Int) 64=((b.length%64:Nat):Int):=by
  unfold iZ
  rw[Int.tmod_eq_emod_of_nonneg (by omega)]
  omega
 have hs:dg .i64 ((b.length:Nat):Int) ((b.length%64:Nat):Int)=((b.length - b.length%64:Nat):Int):=by
  rw[fC (by omega) (by omega)];omega
 have hn:Int.toNat ((b.length - b.length%64:Nat):Int)=b.length - b.length%64:=by omega
 have hm:eW .i64 8 ((b.length:Nat):Int)=8*(b.length:Int):=pn (by omega) (by omega)
 generalize hq:b.length - b.length%64=q at hs hn
 have hc:cut b q (b.length - q)=b.drop q:=by unfold cut;rw[List.take_of_length_le (by simp)]
 have hcl:(b.drop q).length=b.length%64:=by simp;omega
 have p1:cm.aB (b.drop q):=by show(b.drop q).length≤_;omega
 rw[aL.eq,hr,hs,kQ (by omega) (by omega),hn,hc]
 simp only[av,cm.run p1,aa,cm.add,cm.F,Nat.le_refl,decide_true,List.take_length]
 have p2:aL.L0.aB (b,(b.drop q).length+1,List.replicate 32 0,b.drop q++ [128]):=by
  refine⟨by simp,?_⟩
  simp only[List.length_append,List.length_cons,List.length_nil,zc]
  omega
 have hz:zc (b.drop q++ [128]).length=kW b.length:=by
  simp only[List.length_append,List.length_cons,List.length_nil,zc,kW]
  omega
 rw[l5 (by omega)]
 simp only[av,aL.L0.run p2,aa,aL.L0.add,aL.L0.F,hm,hz]
 have hlen:(b.drop q++ [128]).length+kW b.length=(b.drop q++ [128]++List.replicate (kW b.length) 0).length:=by rw[@List.length_append _ (b.drop q++ [128]),List.length_replicate]
 have p3:dz.aB ((b.drop q++ [128]).length+kW b.length,8*(b.length:Int),b.drop q++ [128]++List.replicate (kW b.length) 0):=by
  refine⟨hlen,?_⟩
  simp only[List.length_append,List.length_cons,List.length_nil,List.length_replicate,kW]
  omega
 have p4:aL.L1.aB (b,(b.drop q++ [128]++List.replicate (kW b.length) 0).length+8,List.replicate 32 0,iJ.l,b.drop q++ [128]++List.replicate (kW b.length) 0++fM (8*(b.length:Int))):=⟨iJ,rfl⟩
 simp only[dz.run p3,aa,dz.add,dz.F,first.run (d:=()) trivial,first.add,first.F,aL.L1.run p4,aL.L1.add,aL.L1.F,gV]
 generalize he:b.drop q++ [128]++List.replicate (kW b.length) 0++fM (8*(b.length:Int))=e
 have hel:(b.drop q++ [128]++List.replicate (kW b.length) 0).length+8=e.length:=by rw[←he,@List.length_append _ _ (fM _),bK]
 have hem:e.length%64=0:=by
  rw[←hel]
  simp only[List.length_append,List.length_cons,List.length_nil,List.length_replicate,kW,hcl]
  omega
 have hce:cut e 0 ((b.drop q++ [128]++List.replicate (kW b.length) 0).length+8)=e:=by
  rw[hel];unfold cut;rw[List.drop_zero,List.take_length]
 rw[hce,hel,aO ⟨trivial,by omega⟩]
 have p5:aL.L2.aB (e,List.replicate 32 0,(blocks iJ b).l):=⟨hem,blocks iJ b,rfl⟩
 have p6:aL.L3.aB (0,List.replicate 32 0,(blocks (blocks iJ b) e).l):=⟨rfl,rfl,0,by omega,rfl⟩
 simp only[av,aL.L2.run p5,aa,aL.L2.add,aL.L2.F,gV,aL.L3.run p6,aL.L3.add,aL.L3.F,aL.add,aL.F]
 rw[show Int.toNat 0=0 from rfl,y8]
 have hbl:blocks iJ (pad b)=blocks (blocks iJ b) e:=by
  have h1:pad b=b.take q++e:=by
   rw[←he]
   unfold pad
   rw[List.append_assoc,List.append_assoc,←List.append_assoc (b.take q),List.take_append_drop]
   rfl
  have h2:blocks iJ b=blocks (blocks iJ (b.take q)) (b.drop q):=by
   rw[←oe _ _ _ (by simp;omega),List.take_append_drop]
  rw[h1,oe _ _ _ (by simp;omega),h2,ma _ (b.drop q) (by omega)]
 rw[CJ,hbl]
noncomputable def aL.E:=Entry.cz [some tB] aL.st aL.aB aL.add aL.F aL.out
noncomputable def aL.call:aL.D→Option aL.X:=bH aL.E aL.st
theorem aL.run:bC aL.call aL.aB aL.add aL.F:=cQ (cP [.d tB] fun _=>by kernel_rfl)
noncomputable def aL.sg:SG Tryz.prog:=⟨51,aU,aL.E,.fn 4 (by kernel_rfl) aL.ok (And.intro (.cz aL.L0.ok (by kernel_rfl)) (And.intro (.cz aL.L1.ok (by kernel_rfl)) (And.intro (.cz aL.L2.ok (by kernel_rfl)) (And.intro (.cz aL.L3.ok (by kernel_rfl)) trivial))))⟩
set_option synthInstance.maxSize 5000
abbrev bQ.L0.D:=Nat×(List Bs)×Int×Int×Bs×(List Int)
def bQ.L0.st:bQ.L0.D→AS:=fun(bL,t13,t14,t15,n4,n10)=>⟨(bg 4 ([.ptr (.new 4 0) 0 [] 0,.cf (.new 10 0) 0 [] 0 0 bL]++bg 7 ([.d (.slice tB) t13,.d ti t14,.d ti t15]++bg 12 []))),[],(bN 4 ([[.obj 0 false (.d tH n4)]]++bN 5 ([[.obj 0 false (.vec 5 tb n10)]]++bN 17 [])))⟩
abbrev bQ.L0.Y0:=Nat×(List Int)
abbrev bQ.L0.X0:=(Bs)×(Nat×(List Int))
def bQ.L0.bt:bQ.L0.X0→Exit×AS:=fun x=>(.exit 0,⟨(bg 4 ([.ptr (.new 4 0) 0 [] 0,.cf (.new 10 0) 0 [] 0 0 x.2.1]++bg 22 [])),[],(bN 4 ([[.obj 0 false (.d tH x.1)]]++bN 5 ([[.obj 0 false (.vec 5 tb x.2.2)]]++bN 17 [])))⟩)
abbrev bQ.L0.X:=bQ.L0.X0
abbrev bQ.L0.Y:=bQ.L0.Y0
def bQ.L0.out:bQ.L0.X→Out (Exit×AS):=fun x=> .ok (bQ.L0.bt x)
def bQ.L0.add:bQ.L0.D→bQ.L0.Y→bQ.L0.X:=fun(bL,t13,t14,t15,n4,n10) y=>(n4,y)
abbrev bQ.D:=ByteArray×(List Bs)
def bQ.st:bQ.D→SA:=fun(name,parts)=>([.d .str name,.d (.slice tB) parts],[])
abbrev bQ.Y:=Bs
abbrev bQ.X:=Bs
def bQ.out:bQ.X→a9:=fun x=>⟨.d tH x,[],[]⟩
def bQ.add:bQ.D→bQ.Y→bQ.X:=fun(name,parts) y=>y
def bQ.L0.aB:bQ.L0.D→Prop:=fun(m,ps,n,i,n4,l)=>m=l.length∧n=ps.length∧ps.length≤140737488350000∧∃k:Nat,k≤ps.length∧i=k∧l.length+(gX (ps.drop k)).length≤140737488350000
def bQ.L0.F:bQ.L0.D→bQ.L0.Y:=fun(m,ps,n,i,n4,l)=>(l.length+(gX (ps.drop i.toNat)).length,l++gX (ps.drop i.toNat))
def bQ.aB:bQ.D→Prop:=fun(name,ps)=>(qH (bh name) ps).length≤140737488350000
def bQ.F:bQ.D→bQ.Y:=fun(name,ps)=>tag (bh name) ps
noncomputable def bQ.G:dS:=eR (P:=Tryz.prog) [dY.sg,dz.sg,aL.sg]
noncomputable def bQ.L0.E:=bO.cz bQ.L0.st bQ.L0.aB bQ.L0.add bQ.L0.F bQ.L0.out
noncomputable def bQ.L0.call:bQ.L0.D→Option bQ.L0.X:=dk bQ.L0.E bQ.L0.st
noncomputable def bQ.an:eA:= {loops:=jY [(3,{bm:=[4,5,13,14,15],sites:=[4,10],ix:=[⟨5,[],10,25⟩]})],outs:=jX [(3,{bm:=[4,5],sites:=[4,10]},{bm:=[4]})],fJ:=kF [(3,bQ.L0.E)]}
noncomputable def bQ.A:= @cJ Tryz.prog bQ.G bQ.an 0 Tryz.f54 _ bQ.st
abbrev bQ.Ok:=cK @bQ.A bQ.aB bQ.add bQ.F bQ.out
noncomputable def bQ.L0.R:= @cg Tryz.prog bQ.G bQ.an 0 Tryz.f54 0 _ bQ.L0.st
abbrev bQ.L0.Ok:=eB Tryz.prog bQ.G bQ.an 0 Tryz.f54 0 bQ.L0.st bQ.L0.aB bQ.L0.add bQ.L0.F bQ.L0.out
theorem bQ.L0.run:bC bQ.L0.call bQ.L0.aB bQ.L0.add bQ.L0.F:=eI (eD [.n,.d (.slice tB),.d ti,.d ti,.d tB,.d tB] fun _=>by kernel_rfl)
theorem bQ.L0.aG:fR @bQ.L0.R bQ.L0.st bQ.L0.aB bQ.L0.add bQ.L0.F bQ.L0.bt bQ.L0.Ok:=fV
theorem bQ.L0.step{R:Type}(bL:Nat)(t13:(List Bs))(t14:Int)(t15:Int)(n4:Bs)(n10:(List Int))(kn:AS→Option R)(kx:Exit→AS→Option R):bQ.L0.R (bL,t13,t14,t15,n4,n10) kn kx=
  aJ ((fZ t15 t14)) (
   aJ (ei t15 (((List.length t13):Nat):Int)) (
   ah (dz.call (bL,(((List.length (nth tB t13 (Int.toNat t15))):Nat):Int),n10)) fun x1=>
   aJ (decide (x1.1≤(List.length x1.2))) (
   aJ (dm (x1.1+(List.length (nth tB t13 (Int.toNat t15)))) 1) (
   kn (bQ.L0.st ((x1.1+(List.length (nth tB t13 (Int.toNat t15)))),t13,t14,(bM .i64 t15 (1:Int)),n4,((List.take x1.1 x1.2)++(nth tB t13 (Int.toNat t15)))))) none) none) none) (
   kx (bQ.L0.bt (n4,(bL,n10))).1 (bQ.L0.bt (n4,(bL,n10))).2):=by kernel_rfl
theorem bQ.eq{R:Type}(name:ByteArray)(parts:(List Bs))(k:a9→Option R):bQ.A (name,parts) k=
 ah (dY.call (((ByteArray.size name):Nat):Int)) fun x1=>
 aJ (decide (x1.1≤(List.length x1.2))) (
 aJ (dm (x1.1+(List.length (bh name))) 1) (
 ah (bQ.L0.call ((x1.1+(List.length (bh name))),parts,(((List.length parts):Nat):Int),(0:Int),(List.replicate 32 (0:Int)),((List.take x1.1 x1.2)++(bh name)))) fun x4=>
 aJ (decide (0=0∧(0+x4.2.1)≤(List.length x4.2.2))) (
 ah (aL.call (cut x4.2.2 0 x4.2.1)) fun x5=>
 k (bQ.out x5)) none) none) none:=by kernel_rfl
theorem um(p:List Int)(ps:List (List Int)):gX (p::ps)=fM p.length++p++gX ps:=by simp[gX]
theorem uo(ps:List (List Int))(k:Nat)(h:k < ps.length):gX (ps.drop k)=fM ps[k].length++ps[k]++gX (ps.drop (k+1)):=by
 rw[List.drop_eq_getElem_cons h,um]
theorem bQ.L0.ok:bQ.L0.Ok:=by
 refine bQ.L0.aG (fun(m,ps,n,i,n4,l)=>ps.length - i.toNat) ?_
 rintro⟨m,ps,n,i,n4,l⟩ ⟨rfl,rfl,hpl,k,hk,rfl,hl⟩
 have hl:l.length+(gX (ps.drop k)).length≤140737488350000:=hl
 have hk:k≤ps.length:=hk
 have e2:Int.toNat (k:Int)=k:=by omega
 have e3:Int.toNat ((k+1:Nat):Int)=k+1:=by omega
 by_cases h:k < ps.length
 ·left
  have ht:=uo ps k h
  have hlen:(gX (ps.drop k)).length=8+ps[k].length+(gX (ps.drop (k+1))).length:=by rw[ht];simp only[List.length_append,bK]
  have hn:nth (.slice (.int .u8)) ps k=ps[k]:=cC (t:= .slice (.int .u8)) h
  have hpl:ps.length≤140737488350000:=hpl
  have e1:bM .i64 (k:Int) 1=((k+1:Nat):Int):=by rw[gL (by omega) (by omega)];omega
  refine⟨((l++fM ps[k].length++ps[k]).length,ps,(ps.length:Int),((k+1:Nat):Int),n4,l++fM ps[k].length++ps[k]),⟨rfl,rfl,hpl,k+1,by show k+1≤ps.length;omega,rfl,?_⟩,?_,?_,fun kn kx=> ?_⟩
  ·show(l++fM ps[k].length++ps[k]).length+(gX (ps.drop (k+1))).length≤_
   simp only[List.length_append,bK];omega
  ·show ps.length - Int.toNat ((k+1:Nat):Int) < ps.length - Int.toNat (k:Int)
   omega
  ·simp only[bQ.L0.add,bQ.L0.F,e2,e3,ht,List.append_assoc]
   simp only[List.length_append,bK,Nat.add_assoc]
  ·have p1:dz.aB (l.length,(ps[k].length:Int),l):=⟨rfl,by show l.length≤_;omega⟩
   rw[bQ.L0.step,bu (by omega),bo (by omega) (by omega),e1,e2]
   simp only[av,hn,dz.run p1,aa,dz.add,dz.F]
   have hlb:(l++fM ps[k].length).length=l.length+8:=by simp[bK]
   rw[hlb,aO (Nat.le_refl _),l5 (by omega)]
   simp only[av]
   rw[List.take_of_length_le (by rw[hlb];omega)]
   simp only[List.length_append,bK,Nat.add_assoc]
 ·right
  obtain rfl:k=ps.length:=by omega
  intro R kn kx
  rw[bQ.L0.step,bj (by omega)]
  simp only[ay,bQ.L0.add,bQ.L0.F,e2,List.drop_length]
  simp[gX]
theorem sT:∀ps:List (List Int),8*ps.length≤(gX ps).length
 |[]=>by simp[gX]
 |p::ps=>by
  rw[um]
  have:=sT ps
  simp only[List.length_append,bK,List.length_cons]
  omega
theorem gj(s:ByteArray):(bh s).length=s.size:=by simp only[bh,List.length_map,Array.length_toList];rfl
theorem bQ.ok:bQ.Ok:=by
 rintro⟨name,ps⟩ hp
 have hp:(fM (bh name).length++bh name++gX ps).length≤140737488350000:=hp
 have hl:(fM (bh name).length++bh name++gX ps).length=8+(bh name).length+(gX ps).length:=by simp only[List.length_append,bK]
 have hpl:=sT ps
 have hsz:((name.size:Nat):Int)=(((bh name).length:Nat):Int):=by rw[gj]
 rw[bQ.eq,dY.run (d:=((name.size:Nat):Int)) trivial,hsz]
 simp only[aa,dY.add,dY.F,bK,Nat.le_refl,decide_true,av]
 rw[l5 (by omega),List.take_of_length_le (by rw[bK];omega)]
 have p2:bQ.L0.aB (8+(bh name).length,ps,(ps.length:Int),0,List.replicate 32 0,fM ((bh name).length:Int)++bh name):=by
  refine⟨by simp only[List.length_append,bK],rfl,by show ps.length≤_;omega,0,Nat.zero_le _,rfl,?_⟩
  rw[List.drop_zero]
  simp only[List.length_append,bK]
  omega
 simp only[av,bQ.L0.run p2,aa,bQ.L0.add,bQ.L0.F,Int.toNat_zero,List.drop_zero]
 have hcut:cut (fM ((bh name).length:Int)++bh name++gX ps) 0 ((fM ((bh name).length:Int)++bh name).length+(gX ps).length)=qH (bh name) ps:=by
  unfold cut
  rw[List.drop_zero,List.take_of_length_le (by simp only[List.length_append];omega)]
  rfl
 have p3:aL.aB (qH (bh name) ps):=hp
 rw[aO ⟨trivial,by simp only[List.length_append];omega⟩,hcut]
 simp only[av,aL.run p3,aa,aL.add,aL.F,bQ.add,bQ.F,tag]
noncomputable def bQ.E:=Entry.cz [some .str,some (.slice tB)] bQ.st bQ.aB bQ.add bQ.F bQ.out
noncomputable def bQ.call:bQ.D→Option bQ.X:=bH bQ.E bQ.st
theorem bQ.run:bC bQ.call bQ.aB bQ.add bQ.F:=cQ (cP [.d .str,.d (.slice tB)] fun _=>by kernel_rfl)
noncomputable def bQ.sg:SG Tryz.prog:=⟨54,aU,bQ.E,.fn 1 (by kernel_rfl) bQ.ok (And.intro (.cz bQ.L0.ok (by kernel_rfl)) trivial)⟩
set_option synthInstance.maxSize 5000
abbrev da.D:=Int×Int
def da.st:da.D→SA:=fun(x,n)=>([.d (.int .u32) x,.d ti n],[])
abbrev da.Y:=Int
abbrev da.X:=Int
def da.out:da.X→a9:=fun x=>⟨.d (.int .u32) x,[],[]⟩
def da.add:da.D→da.Y→da.X:=fun(x,n) y=>y
def da.aB:da.D→Prop:=fun(x,n)=>0≤x∧x < 4294967296∧0≤n∧n≤32
def da.F:da.D→da.Y:=fun(x,n)=>vw (jB (BitVec.ofInt 32 x) n.toNat)
noncomputable def da.G:dS:=eR (P:=Tryz.prog) []
noncomputable def da.an:eA:= {}
noncomputable def da.A:= @cJ Tryz.prog da.G da.an 0 Tryz.f173 _ da.st
abbrev da.Ok:=cK @da.A da.aB da.add da.F da.out
theorem da.eq{R:Type}(x:Int)(n:Int)(k:a9→Option R):da.A (x,n) k=
 aJ (gJ n) (
 aJ (gJ (dg .i64 (32:Int) n)) (
 k (da.out (cn .or .u32 (bJ .u32 x n) (gw .u32 x (dg .i64 (32:Int) n))))) none) none:=by kernel_rfl
theorem da.ok:da.Ok:=by
 rintro⟨x,n⟩ ⟨h1,h2,h3,h4⟩
 obtain⟨n,rfl⟩:=Int.eq_ofNat_of_zero_le h3
 have hx:x=vw (BitVec.ofInt 32 x):=by rw[fI];have h1:0≤x:=h1;have h2:x < 4294967296:=h2;omega
 have h4:(n:Int)≤32:=h4
 rw[da.eq]
 simp(disch:=omega) only[↓S1,↓if_pos,↓if_neg,if_pos,if_neg,if_true,if_false,S2]
 have e2:cn .or .u32 (bJ .u32 x (n:Int)) (gw .u32 x ((32 - n:Nat):Int))=vw (jB (BitVec.ofInt 32 x) n):=by
  conv=>lhs;rw[hx]
  rw[pt,nv,hM]
  simp only[jB,Int.toNat_natCast]
  rw[BitVec.or_comm]
 rw[e2]
 rfl
noncomputable def da.E:=Entry.cz [some (.int .u32),some ti] da.st da.aB da.add da.F da.out
noncomputable def da.call:da.D→Option da.X:=bH da.E da.st
theorem da.run:bC da.call da.aB da.add da.F:=cQ (cP [.d (.int .u32),.d ti] fun _=>by kernel_rfl)
noncomputable def da.sg:SG Tryz.prog:=⟨173,aU,da.E,.fn 0 (by kernel_rfl) da.ok trivial⟩
theorem da.at(w:W){k:Int}(h:0≤k∧k≤32):da.call (vw w,k)=some (vw (jB w k.toNat)):=by
 have h:da.aB (vw w,k):=⟨qJ w,by have:=B2 w;simpa using this,h.1,h.2⟩
 rw[da.run h]
 show some (vw (jB (BitVec.ofInt 32 (vw w)) k.toNat))=_
 rw[jj]
abbrev cr.D:=Unit
def cr.st:cr.D→SA:=fun _=>([],[])
abbrev cr.Y:=(List Int)
abbrev cr.X:=(List Int)
def cr.out:cr.X→a9:=fun x=>⟨.d (.slice (.int .u32)) x,[],[]⟩
def cr.add:cr.D→cr.Y→cr.X:=fun _ y=>y
def cr.aB:cr.D→Prop:=fun _=>True
def cr.F:cr.D→cr.Y:=fun _=>iJ.l
noncomputable def cr.G:dS:=eR (P:=Tryz.prog) []
noncomputable def cr.an:eA:= {bI:=[1],res:=[some (.slice (.int .u32))]}
noncomputable def cr.A:= @cJ Tryz.prog cr.G cr.an 0 Tryz.f155 _ cr.st
abbrev cr.Ok:=cK @cr.A cr.aB cr.add cr.F cr.out
theorem cr.eq{R:Type}(k:a9→Option R):cr.A () k=
 k (cr.out [(1779033703:Int),(3144134277:Int),(1013904242:Int),(2773480762:Int),(1359893119:Int),(2600822924:Int),(528734635:Int),(1541459225:Int)]):=by kernel_rfl
theorem cr.ok:cr.Ok:=by
 intro d _
 rw[cr.eq]
 rfl
noncomputable def cr.E:=Entry.cz [] cr.st cr.aB cr.add cr.F cr.out
noncomputable def cr.call:cr.D→Option cr.X:=bH cr.E cr.st
theorem cr.run:bC cr.call cr.aB cr.add cr.F:=cQ (cP [] fun _=>by kernel_rfl)
noncomputable def cr.sg:SG Tryz.prog:=⟨155,aU,cr.E,.fn 0 (by kernel_rfl) cr.ok trivial⟩
abbrev dZ.D:=Unit
def dZ.st:dZ.D→SA:=fun _=>([],[])
abbrev dZ.Y:=(List Int)
abbrev dZ.X:=(List Int)
def dZ.out:dZ.X→a9:=fun x=>⟨.d (.slice (.int .u32)) x,[],[]⟩
def dZ.add:dZ.D→dZ.Y→dZ.X:=fun _ y=>y
def dZ.aB:dZ.D→Prop:=fun _=>True
def dZ.F:dZ.D→dZ.Y:=fun _=>qs
noncomputable def dZ.G:dS:=eR (P:=Tryz.prog) []
noncomputable def dZ.an:eA:= {bI:=[1],res:=[some (.slice (.int .u32))]}
noncomputable def dZ.A:= @cJ Tryz.prog dZ.G dZ.an 0 Tryz.f172 _ dZ.st
abbrev dZ.Ok:=cK @dZ.A dZ.aB dZ.add dZ.F dZ.out
theorem dZ.eq{R:Type}(k:a9→Option R):dZ.A () k=
 k (dZ.out [(1116352408:Int),(1899447441:Int),(3049323471:Int),(3921009573:Int),(961987163:Int),(1508970993:Int),(2453635748:Int),(2870763221:Int),(3624381080:Int),(310598401:Int),(607225278:Int),(1426881987:Int),(1925078388:Int),(2162078206:Int),(2614888103:Int),(3248222580:Int),(3835390401:Int),(4022224774:Int),(264347078:Int),(604807628:Int),(770255983:Int),(1249150122:Int),(1555081692:Int),(1996064986:Int),(2554220882:Int),(2821834349:Int),(2952996808:Int),(3210313671:Int),(3336571891:Int),(3584528711:Int),(113926993:Int),(338241895:Int),(666307205:Int),(773529912:Int),(1294757372:Int),(1396182291:Int),(1695183700:Int),(1986661051:Int),(2177026350:Int),(2456956037:Int),(2730485921:Int),(2820302411:Int),(3259730800:Int),(3345764771:Int),(3516065817:Int),(3600352804:Int),(4094571909:Int),(275423344:Int),(430227734:Int),(506948616:Int),(659060556:Int),(883997877:Int),(958139571:Int),(1322822218:Int),(1537002063:Int),(1747873779:Int),(1955562222:Int),(2024104815:Int),(2227730452:Int),(2361852424:Int),(2428436474:Int),(2756734187:Int),(3204031479:Int),(3329325298:Int)]):=by kernel_rfl
theorem dZ.ok:dZ.Ok:=by
 intro d _
 rw[dZ.eq]
 rfl
noncomputable def dZ.E:=Entry.cz [] dZ.st dZ.aB dZ.add dZ.F dZ.out
noncomputable def dZ.call:dZ.D→Option dZ.X:=bH dZ.E dZ.st
theorem dZ.run:bC dZ.call dZ.aB dZ.add dZ.F:=cQ (cP [] fun _=>by kernel_rfl)
noncomputable def dZ.sg:SG Tryz.prog:=⟨172,aU,dZ.E,.fn 0 (by kernel_rfl) dZ.ok trivial⟩
abbrev ax.L0.D:=Bs×Nat×(List Int)
def ax.L0.st:ax.L0.D→AS:=fun(b_2,outL,n6)=>⟨([.d tB b_2,.undef,.undef,.cf (.new 6 0) 0 [] 0 0 outL]++bg 31 []),[],(bN 6 ([[.obj 0 false (.vec 5 tb n6)]]++bN 28 []))⟩
abbrev ax.L0.Y0:=Nat×(List Int)
abbrev ax.L0.X0:=(Bs)×(Nat×(List Int))
def ax.L0.bt:ax.L0.X0→Exit×AS:=fun x=>(.exit 0,⟨([.d tB x.1,.undef,.undef,.cf (.new 6 0) 0 [] 0 0 x.2.1]++bg 31 []),[],(bN 6 ([[.obj 0 false (.vec 5 tb x.2.2)]]++bN 28 []))⟩)
abbrev ax.L0.X:=ax.L0.X0
abbrev ax.L0.Y:=ax.L0.Y0
def ax.L0.out:ax.L0.X→Out (Exit×AS):=fun x=> .ok (ax.L0.bt x)
def ax.L0.add:ax.L0.D→ax.L0.Y→ax.L0.X:=fun(b_2,outL,n6) y=>(b_2,y)
abbrev ax.L1.D:=Nat×Int×Int×(List Int)
def ax.L1.st:ax.L1.D→AS:=fun(outL_2,n,kv,n6_2)=>⟨([.undef,.undef,.undef,.cf (.new 6 0) 0 [] 0 0 outL_2,.d tu n,.d ti kv]++bg 29 []),[],(bN 6 ([[.obj 0 false (.vec 5 tb n6_2)]]++bN 28 []))⟩
abbrev ax.L1.Y0:=Nat×(List Int)
abbrev ax.L1.X0:=Nat×(List Int)
def ax.L1.bt:ax.L1.X0→Exit×AS:=fun x=>(.exit 2,⟨([.undef,.undef,.undef,.cf (.new 6 0) 0 [] 0 0 x.1]++bg 31 []),[],(bN 6 ([[.obj 0 false (.vec 5 tb x.2)]]++bN 28 []))⟩)
abbrev ax.L1.X:=ax.L1.X0
abbrev ax.L1.Y:=ax.L1.Y0
def ax.L1.out:ax.L1.X→Out (Exit×AS):=fun x=> .ok (ax.L1.bt x)
def ax.L1.add:ax.L1.D→ax.L1.Y→ax.L1.X:=fun(outL_2,n,kv,n6_2) y=>y
abbrev ax.D:=Bs
def ax.st:ax.D→SA:=fun b=>([.d tB b],[])
abbrev ax.Y:=Bs
abbrev ax.X:=Bs
def ax.out:ax.X→a9:=fun x=>⟨.d tB x,[],[]⟩
def ax.add:ax.D→ax.Y→ax.X:=fun b y=>y
def ax.L0.aB:ax.L0.D→Prop:=fun(b,m,l)=>m=l.length∧l.length+zc l.length≤140737488355328
def ax.L0.F:ax.L0.D→ax.L0.Y:=fun(b,m,l)=>(l.length+zc l.length,l++List.replicate (zc l.length) 0)
def ax.L1.aB:ax.L1.D→Prop:=fun(m,n,kv,l)=>0≤n∧n < 18446744073709551616∧∃j:Nat,j≤8∧kv=56 - 8*(j:Int)∧m=l.length∧l.length≤140737488355320+j
def ax.L1.F:ax.L1.D→ax.L1.Y:=fun(m,n,kv,l)=>(l.length+(fM n).length - (7 - (kv / 8)).toNat,l++(fM n).drop (7 - (kv / 8)).toNat)
def ax.aB:ax.D→Prop:=fun b=>b.length≤140737488350000
def ax.F:ax.D→ax.Y:=fun b=>pad b
noncomputable def ax.G:dS:=eR (P:=Tryz.prog) []
noncomputable def ax.L0.E:=bO.cz ax.L0.st ax.L0.aB ax.L0.add ax.L0.F ax.L0.out
noncomputable def ax.L0.call:ax.L0.D→Option ax.L0.X:=dk ax.L0.E ax.L0.st
noncomputable def ax.L1.E:=bO.cz ax.L1.st ax.L1.aB ax.L1.add ax.L1.F ax.L1.out
noncomputable def ax.L1.call:ax.L1.D→Option ax.L1.X:=dk ax.L1.E ax.L1.st
noncomputable def ax.an:eA:= {bI:=[6],loops:=jY [(3,{bm:=[0,3],sites:=[6],ix:=[⟨3,[],6,25⟩]}),(7,{bm:=[3,4,5],sites:=[6],ix:=[⟨3,[],6,25⟩]})],outs:=jX [(3,{bm:=[0,3],sites:=[6]},{bm:=[2]}),(7,{bm:=[3],sites:=[6]},{bm:=[2]})],fJ:=kF [(3,ax.L0.E),(7,ax.L1.E)],res:=[some tB]}
noncomputable def ax.A:= @cJ Tryz.prog ax.G ax.an 0 Tryz.f154 _ ax.st
abbrev ax.Ok:=cK @ax.A ax.aB ax.add ax.F ax.out
noncomputable def ax.L0.R:= @cg Tryz.prog ax.G ax.an 0 Tryz.f154 0 _ ax.L0.st
abbrev ax.L0.Ok:=eB Tryz.prog ax.G ax.an 0 Tryz.f154 0 ax.L0.st ax.L0.aB ax.L0.add ax.L0.F ax.L0.out
noncomputable def ax.L1.R:= @cg Tryz.prog ax.G ax.an 0 Tryz.f154 1 _ ax.L1.st
abbrev ax.L1.Ok:=eB Tryz.prog ax.G ax.an 0 Tryz.f154 1 ax.L1.st ax.L1.aB ax.L1.add ax.L1.F ax.L1.out
theorem ax.L0.run:bC ax.L0.call ax.L0.aB ax.L0.add ax.L0.F:=eI (eD [.d tB,.n,.d tB] fun _=>by kernel_rfl)
theorem ax.L0.aG:fR @ax.L0.R ax.L0.st ax.L0.aB ax.L0.add ax.L0.F ax.L0.bt ax.L0.Ok:=fV
theorem ax.L0.step{R:Type}(b_2:Bs)(outL:Nat)(n6:(List Int))(kn:AS→Option R)(kx:Exit→AS→Option R):ax.L0.R (b_2,outL,n6) kn kx=
  aJ ((jw (iZ ((outL:Nat):Int) (64:Int)) (56:Int))) (
   aJ (decide (outL≤(List.length n6))) (
   aJ (dm (outL+1) 1) (
   kn (ax.L0.st (b_2,(outL+1),((List.take outL n6)++ [(0:Int)])))) none) none) (
   kx (ax.L0.bt (b_2,(outL,n6))).1 (ax.L0.bt (b_2,(outL,n6))).2):=by kernel_rfl
theorem ax.L1.run:bC ax.L1.call ax.L1.aB ax.L1.add ax.L1.F:=eI (eD [.n,.d tu,.d ti,.d tB] fun _=>by kernel_rfl)
theorem ax.L1.aG:fR @ax.L1.R ax.L1.st ax.L1.aB ax.L1.add ax.L1.F ax.L1.bt ax.L1.Ok:=fV
theorem ax.L1.step{R:Type}(outL_2:Nat)(n:Int)(kv:Int)(n6_2:(List Int))(kn:AS→Option R)(kx:Exit→AS→Option R):ax.L1.R (outL_2,n,kv,n6_2) kn kx=
  aJ ((mU kv (0:Int))) (
   aJ (gJ kv) (
   aJ (decide (outL_2≤(List.length n6_2))) (
   aJ (dm (outL_2+1) 1) (
   kn (ax.L1.st ((outL_2+1),n,(dg .i64 kv (8:Int)),((List.take outL_2 n6_2)++ [(dD .u8 (bJ .u64 n kv))])))) none) none) none) (
   kx (ax.L1.bt (outL_2,n6_2)).1 (ax.L1.bt (outL_2,n6_2)).2):=by kernel_rfl
theorem ax.eq{R:Type}(b:Bs)(k:a9→Option R):ax.A b k=
 aJ (dm (0+(List.length b)) 1) (
 aJ (decide ((0+(List.length b))≤(List.length ((List.take 0 (List.replicate 0 (0:Int)))++b)))) (
 aJ (dm ((0+(List.length b))+1) 1) (
 ah (ax.L0.call (b,((0+(List.length b))+1),((List.take (0+(List.length b)) ((List.take 0 (List.replicate 0 (0:Int)))++b))++ [(128:Int)]))) fun x1=>
 ah (ax.L1.call (x1.2.1,(eW .u64 (8:Int) (dD .u64 (((List.length x1.1):Nat):Int))),(56:Int),x1.2.2)) fun x2=>
 aJ (decide (0=0∧(0+x2.1)≤(List.length x2.2))) (
 k (ax.out (cut x2.2 0 x2.1))) none) none) none) none:=by kernel_rfl
theorem ax.L0.ok:ax.L0.Ok:=by
 refine ax.L0.aG (fun(b,m,l)=>zc l.length) ?_
 rintro⟨b,m,l⟩ ⟨rfl,hl⟩
 have hl:l.length+zc l.length≤140737488355328:=hl
 by_cases h:l.length%64=56
 ·right
  intro R kn kx
  have hz:zc l.length=0:=by unfold zc;omega
  rw[ax.L0.step]
  simp(disch:=omega) only[↓S1,↓if_pos,↓if_neg,if_pos,if_neg,if_true,if_false,S2,ax.L0.add,ax.L0.F,hz,Nat.add_zero,List.replicate_zero,List.append_nil]
 ·left
  have hz:zc l.length=zc (l.length+1)+1:=by unfold zc;omega
  refine⟨(b,l.length+1,l++ [0]),⟨by simp,by simp only[List.length_append,List.length_cons,List.length_nil,Nat.zero_add];omega⟩,by simp only[List.length_append,List.length_cons,List.length_nil,Nat.zero_add];omega,?_,fun kn kx=> ?_⟩
  ·simp only[ax.L0.add,ax.L0.F,List.length_append,List.length_cons,List.length_nil,Nat.zero_add,hz,List.append_assoc,List.cons_append,List.nil_append,List.replicate_succ]
   rw[show l.length+1+zc (l.length+1)=l.length+(zc (l.length+1)+1) by omega]
  ·rw[ax.L0.step]
   simp(disch:=omega) only[↓S1,↓if_pos,↓if_neg,if_pos,if_neg,if_true,if_false,S2,List.take_length]
theorem AF(n:Int)(j:Nat)(h:j < 8):(fM n).drop j=n / 2^(56 - 8*j)%256::(fM n).drop (j+1):=by
 rcases(by omega:j=0∨j=1∨j=2∨j=3∨j=4∨j=5∨j=6∨j=7) with rfl | rfl | rfl | rfl | rfl | rfl | rfl | rfl <;> simp[fM]
theorem xy(n:Int)(k:Nat)(h1:k≤64):dD .u8 (bJ .u64 n (k:Int))=n / 2^k%256:=by
 rw[sh,fI,bJ]
 have e:min (k:Int).toNat IntKind.u64.bits=k:=by simp only[IntKind.bits];omega
 rw[e,Int.fdiv_eq_ediv_of_nonneg _ (Int.le_of_lt (Int.pow_pos (by omega)))]
 rfl
theorem ax.L1.ok:ax.L1.Ok:=by
 refine ax.L1.aG (fun(m,n,kv,l)=>(kv+8).toNat) ?_
 rintro⟨m,n,kv,l⟩ ⟨h1,h2,j,hj,rfl,rfl,hl⟩
 have hl:l.length≤140737488355320+j:=hl
 have e1:(7 - ((56 - 8*(j:Int)) / 8)).toNat=j:=by omega
 by_cases h:j < 8
 ·left
  have e2:dg .i64 (56 - 8*(j:Int)) 8=56 - 8*((j+1:Nat):Int):=by rw[fC (by omega) (by omega)];omega
  have e3:(7 - ((56 - 8*((j+1:Nat):Int)) / 8)).toNat=j+1:=by omega
  have e4:(56 - 8*(j:Int))=((56 - 8*j:Nat):Int):=by omega
  refine⟨(l.length+1,n,56 - 8*((j+1:Nat):Int),l++ [n / 2^(56 - 8*j)%256]),⟨h1,h2,j+1,by omega,rfl,by simp,by simp only[List.length_append,List.length_cons,List.length_nil];omega⟩,by simp only;omega,?_,fun kn kx=> ?_⟩
  ·simp only[ax.L1.add,ax.L1.F,e1,e3,AF n j h,List.length_append,List.length_cons,List.length_nil,List.append_assoc,List.cons_append,List.nil_append,bK]
   rw[show l.length+(0+1)+8 - (j+1)=l.length+8 - j by omega]
  ·rw[ax.L1.step,e2,e4,xy n _ (by omega)]
   simp(disch:=omega) only[↓S1,↓if_pos,↓if_neg,if_pos,if_neg,if_true,if_false,S2,List.take_length]
 ·right
  obtain rfl:j=8:=by omega
  intro R kn kx
  rw[ax.L1.step]
  simp(disch:=omega) only[↓S1,↓if_pos,↓if_neg,if_pos,if_neg,if_true,if_false,S2,ax.L1.add,ax.L1.F,e1]
  simp[fM]
theorem ax.ok:ax.Ok:=by
 intro b hb
 have hb:b.length≤140737488350000:=hb
 have hz:zc (b++ [128]).length=kW b.length:=by
  simp only[List.length_append,List.length_cons,List.length_nil,zc,kW]
  omega
 have hzb:kW b.length < 64:=by unfold kW;omega
 have p1:ax.L0.aB (b,b.length+1,b++ [128]):=⟨by simp,by rw[hz];simp only[List.length_append,List.length_cons,List.length_nil] <;> omega⟩
 have e1:dD .u64 ((b.length:Nat):Int)=((b.length:Nat):Int):=by rw[uX,fI];omega
 have e2:eW .u64 8 ((b.length:Nat):Int)=8*(b.length:Int):=by
  unfold eW;rw[wrap_u64,fI];omega
 have e3:List.take b.length b=b:=List.take_length
 rw[ax.eq]
 simp only[List.replicate_zero,List.take_nil,List.nil_append,Nat.zero_add,e1,e2,e3]
 simp(disch:=omega) only[↓S1,↓if_pos,↓if_neg,if_pos,if_neg,if_true,if_false,S2,ax.L0.run p1,ax.L0.add,ax.L0.F,hz]
 have p2:ax.L1.aB ((b++ [128]).length+kW b.length,8*(b.length:Int),56,b++ [128]++List.replicate (kW b.length) 0):=by
  refine⟨by omega,by omega,0,by omega,rfl,by simp only[List.length_append,List.length_cons,List.length_nil,List.length_replicate] <;> omega,?_⟩
  simp only[List.length_append,List.length_cons,List.length_nil,List.length_replicate]
  omega
 simp(disch:=omega) only[↓S1,↓if_pos,↓if_neg,if_pos,if_neg,if_true,if_false,S2,e1,e2,ax.L1.run p2,ax.L1.add,ax.L1.F]
 have e5:(7 - ((56:Int) / 8)).toNat=0:=by decide
 rw[e5,List.drop_zero]
 have e6:(b++ [128]++List.replicate (kW b.length) 0).length+(fM (8*(b.length:Int))).length - 0=(b++ [128]++List.replicate (kW b.length) 0++fM (8*(b.length:Int))).length:=by rw[@List.length_append _ _ (fM _)];omega
 rw[e6,if_pos (Nat.le_refl _)]
 unfold cut
 rw[List.drop_zero,List.take_length]
 simp only[ax.add,ax.F,pad,List.append_assoc,List.cons_append,List.nil_append]
noncomputable def ax.E:=Entry.cz [some tB] ax.st ax.aB ax.add ax.F ax.out
noncomputable def ax.call:ax.D→Option ax.X:=bH ax.E ax.st
theorem ax.run:bC ax.call ax.aB ax.add ax.F:=cQ (cP [.d tB] fun _=>by kernel_rfl)
noncomputable def ax.sg:SG Tryz.prog:=⟨154,aU,ax.E,.fn 2 (by kernel_rfl) ax.ok (And.intro (.cz ax.L0.ok (by kernel_rfl)) (And.intro (.cz ax.L1.ok (by kernel_rfl)) trivial))⟩
set_option synthInstance.maxSize 5000
abbrev aH.L0.D:=Bs×Nat×Int×(List Int)
def aH.L0.st:aH.L0.D→AS:=fun(b_2,wL,i,n49)=>⟨([.d tB b_2,.undef,.undef,.cf (.new 49 0) 0 [] 0 0 wL,.d ti i]++bg 94 []),[],(bN 49 ([[.obj 0 false (.vec 127 (.int .u32) n49)]]++bN 49 []))⟩
abbrev aH.L0.Y0:=Nat×(List Int)
abbrev aH.L0.X0:=Nat×(List Int)
def aH.L0.bt:aH.L0.X0→Exit×AS:=fun x=>(.exit 0,⟨([.undef,.undef,.undef,.cf (.new 49 0) 0 [] 0 0 x.1]++bg 95 []),[],(bN 49 ([[.obj 0 false (.vec 127 (.int .u32) x.2)]]++bN 49 []))⟩)
abbrev aH.L0.X:=aH.L0.X0
abbrev aH.L0.Y:=aH.L0.Y0
def aH.L0.out:aH.L0.X→Out (Exit×AS):=fun x=> .ok (aH.L0.bt x)
def aH.L0.add:aH.L0.D→aH.L0.Y→aH.L0.X:=fun(b_2,wL,i,n49) y=>y
abbrev aH.L1.D:=Nat×Int×(List Int)
def aH.L1.st:aH.L1.D→AS:=fun(wL_2,i_2,n49_2)=>⟨([.undef,.undef,.undef,.cf (.new 49 0) 0 [] 0 0 wL_2,.undef,.d ti i_2]++bg 93 []),[],(bN 49 ([[.obj 0 false (.vec 127 (.int .u32) n49_2)]]++bN 49 []))⟩
abbrev aH.L1.Y0:=Nat×(List Int)
abbrev aH.L1.X0:=Nat×(List Int)
def aH.L1.bt:aH.L1.X0→Exit×AS:=fun x=>(.exit 2,⟨([.undef,.undef,.undef,.cf (.new 49 0) 0 [] 0 0 x.1]++bg 95 []),[],(bN 49 ([[.obj 0 false (.vec 127 (.int .u32) x.2)]]++bN 49 []))⟩)
abbrev aH.L1.X:=aH.L1.X0
abbrev aH.L1.Y:=aH.L1.Y0
def aH.L1.out:aH.L1.X→Out (Exit×AS):=fun x=> .ok (aH.L1.bt x)
def aH.L1.add:aH.L1.D→aH.L1.Y→aH.L1.X:=fun(wL_2,i_2,n49_2) y=>y
abbrev aH.D:=Bs
def aH.st:aH.D→SA:=fun b=>([.d tB b],[])
abbrev aH.Y:=(List Int)
abbrev aH.X:=(List Int)
def aH.out:aH.X→a9:=fun x=>⟨.d (.slice (.int .u32)) x,[],[]⟩
def aH.add:aH.D→aH.Y→aH.X:=fun b y=>y
def aH.L0.aB:aH.L0.D→Prop:=fun(b,m,i,l)=>64≤b.length∧∃k:Nat,k≤16∧i=k∧k=m∧l=wl ((words b).take k)
def aH.L0.F:aH.L0.D→aH.L0.Y:=fun(b,m,i,l)=>(16,wl (words b))
def aH.L1.aB:aH.L1.D→Prop:=fun(m,i,l)=>∃ws:List W,16≤ws.length∧ws.length≤64∧l=wl ws∧m=ws.length∧i=(ws.length:Nat)
def aH.L1.F:aH.L1.D→aH.L1.Y:=fun(m,i,l)=>(64,wl (Ca (B0 l) (64 - l.length)))
def aH.aB:aH.D→Prop:=fun b=>64≤b.length
def aH.F:aH.D→aH.Y:=fun b=>wl (sched b)
noncomputable def aH.G:dS:=eR (P:=Tryz.prog) [da.sg]
noncomputable def aH.L0.E:=bO.cz aH.L0.st aH.L0.aB aH.L0.add aH.L0.F aH.L0.out
noncomputable def aH.L0.call:aH.L0.D→Option aH.L0.X:=dk aH.L0.E aH.L0.st
noncomputable def aH.L1.E:=bO.cz aH.L1.st aH.L1.aB aH.L1.add aH.L1.F aH.L1.out
noncomputable def aH.L1.call:aH.L1.D→Option aH.L1.X:=dk aH.L1.E aH.L1.st
noncomputable def aH.an:eA:= {loops:=jY [(3,{bm:=[0,3,4],sites:=[49],ix:=[⟨3,[],49,162⟩]}),(7,{bm:=[3,5],sites:=[49],ix:=[⟨3,[],49,162⟩]})],outs:=jX [(3,{bm:=[3],sites:=[49]},{bm:=[2]}),(7,{bm:=[3],sites:=[49]},{bm:=[2]})],fJ:=kF [(3,aH.L0.E),(7,aH.L1.E)],res:=[some (.slice (.int .u32))]}
noncomputable def aH.A:= @cJ Tryz.prog aH.G aH.an 0 Tryz.f171 _ aH.st
abbrev aH.Ok:=cK @aH.A aH.aB aH.add aH.F aH.out
noncomputable def aH.L0.R:= @cg Tryz.prog aH.G aH.an 0 Tryz.f171 0 _ aH.L0.st
abbrev aH.L0.Ok:=eB Tryz.prog aH.G aH.an 0 Tryz.f171 0 aH.L0.st aH.L0.aB aH.L0.add aH.L0.F aH.L0.out
noncomputable def aH.L1.R:= @cg Tryz.prog aH.G aH.an 0 Tryz.f171 1 _ aH.L1.st
abbrev aH.L1.Ok:=eB Tryz.prog aH.G aH.an 0 Tryz.f171 1 aH.L1.st aH.L1.aB aH.L1.add aH.L1.F aH.L1.out
theorem aH.L0.run:bC aH.L0.call aH.L0.aB aH.L0.add aH.L0.F:=eI (eD [.d tB,.n,.d ti,.d (.slice (.int .u32))] fun _=>by kernel_rfl)
theorem aH.L0.aG:fR @aH.L0.R aH.L0.st aH.L0.aB aH.L0.add aH.L0.F aH.L0.bt aH.L0.Ok:=fV
theorem aH.L0.step{R:Type}(b_2:Bs)(wL:Nat)(i:Int)(n49:(List Int))(kn:AS→Option R)(kx:Exit→AS→Option R):aH.L0.R (b_2,wL,i,n49) kn kx=
  aJ ((fZ i (16:Int))) (
   aJ (ei (eW .i64 (4:Int) i) (((List.length b_2):Nat):Int)) (
   aJ (ei (bM .i64 (eW .i64 (4:Int) i) (1:Int)) (((List.length b_2):Nat):Int)) (
   aJ (ei (bM .i64 (eW .i64 (4:Int) i) (2:Int)) (((List.length b_2):Nat):Int)) (
   aJ (ei (bM .i64 (eW .i64 (4:Int) i) (3:Int)) (((List.length b_2):Nat):Int)) (
   aJ (decide (wL≤(List.length n49))) (
   aJ (dm (wL+1) 4) (
   kn (aH.L0.st (b_2,(wL+1),(bM .i64 i (1:Int)),((List.take wL n49)++ [(cn .or .u32 (cn .or .u32 (cn .or .u32 (gw .u32 (dD .u32 (nth tb b_2 (Int.toNat (eW .i64 (4:Int) i)))) (24:Int)) (gw .u32 (dD .u32 (nth tb b_2 (Int.toNat (bM .i64 (eW .i64 (4:Int) i) (1:Int))))) (16:Int))) (gw .u32 (dD .u32 (nth tb b_2 (Int.toNat (bM .i64 (eW .i64 (4:Int) i) (2:Int))))) (8:Int))) (dD .u32 (nth tb b_2 (Int.toNat (bM .i64 (eW .i64 (4:Int) i) (3:Int))))))])))) none) none) none) none) none) none) (
   kx (aH.L0.bt (wL,n49)).1 (aH.L0.bt (wL,n49)).2):=by kernel_rfl
theorem aH.L1.run:bC aH.L1.call aH.L1.aB aH.L1.add aH.L1.F:=eI (eD [.n,.d ti,.d (.slice (.int .u32))] fun _=>by kernel_rfl)
theorem aH.L1.aG:fR @aH.L1.R aH.L1.st aH.L1.aB aH.L1.add aH.L1.F aH.L1.bt aH.L1.Ok:=fV
theorem aH.L1.step{R:Type}(wL_2:Nat)(i_2:Int)(n49_2:(List Int))(kn:AS→Option R)(kx:Exit→AS→Option R):aH.L1.R (wL_2,i_2,n49_2) kn kx=
  aJ ((fZ i_2 (64:Int))) (
   aJ (ei (dg .i64 i_2 (15:Int)) ((wL_2:Nat):Int)) (
   aJ (decide ((0+(Int.toNat (dg .i64 i_2 (15:Int)))) < (List.length n49_2))) (
   aJ (decide ((((0+(Int.toNat (dg .i64 i_2 (15:Int))))*1)+0)=(0+((Int.toNat (dg .i64 i_2 (15:Int)))*1)))) (
   aJ (ei (dg .i64 i_2 (2:Int)) ((wL_2:Nat):Int)) (
   aJ (decide ((0+(Int.toNat (dg .i64 i_2 (2:Int)))) < (List.length n49_2))) (
   aJ (decide ((((0+(Int.toNat (dg .i64 i_2 (2:Int))))*1)+0)=(0+((Int.toNat (dg .i64 i_2 (2:Int)))*1)))) (
   ah (da.call ((nth (.int .u32) n49_2 (0+(Int.toNat (dg .i64 i_2 (15:Int))))),(7:Int))) fun x1=>
   ah (da.call ((nth (.int .u32) n49_2 (0+(Int.toNat (dg .i64 i_2 (15:Int))))),(18:Int))) fun x2=>
   ah (da.call ((nth (.int .u32) n49_2 (0+(Int.toNat (dg .i64 i_2 (2:Int))))),(17:Int))) fun x3=>
   ah (da.call ((nth (.int .u32) n49_2 (0+(Int.toNat (dg .i64 i_2 (2:Int))))),(19:Int))) fun x4=>
   aJ (ei (dg .i64 i_2 (16:Int)) ((wL_2:Nat):Int)) (
   aJ (decide ((0+(Int.toNat (dg .i64 i_2 (16:Int)))) < (List.length n49_2))) (
   aJ (decide ((((0+(Int.toNat (dg .i64 i_2 (16:Int))))*1)+0)=(0+((Int.toNat (dg .i64 i_2 (16:Int)))*1)))) (
   aJ (ei (dg .i64 i_2 (7:Int)) ((wL_2:Nat):Int)) (
   aJ (decide ((0+(Int.toNat (dg .i64 i_2 (7:Int)))) < (List.length n49_2))) (
   aJ (decide ((((0+(Int.toNat (dg .i64 i_2 (7:Int))))*1)+0)=(0+((Int.toNat (dg .i64 i_2 (7:Int)))*1)))) (
   aJ (decide (wL_2≤(List.length n49_2))) (
   aJ (dm (wL_2+1) 4) (
   kn (aH.L1.st ((wL_2+1),(bM .i64 i_2 (1:Int)),((List.take wL_2 n49_2)++ [(bM .u32 (bM .u32 (bM .u32 (nth (.int .u32) n49_2 (0+(Int.toNat (dg .i64 i_2 (16:Int))))) (cn .xor .u32 (cn .xor .u32 x1 x2) (bJ .u32 (nth (.int .u32) n49_2 (0+(Int.toNat (dg .i64 i_2 (15:Int))))) (3:Int)))) (nth (.int .u32) n49_2 (0+(Int.toNat (dg .i64 i_2 (7:Int)))))) (cn .xor .u32 (cn .xor .u32 x3 x4) (bJ .u32 (nth (.int .u32) n49_2 (0+(Int.toNat (dg .i64 i_2 (2:Int))))) (10:Int))))])))) none) none) none) none) none) none) none) none) none) none) none) none) none) none) (
   kx (aH.L1.bt (wL_2,n49_2)).1 (aH.L1.bt (wL_2,n49_2)).2):=by kernel_rfl
theorem aH.eq{R:Type}(b:Bs)(k:a9→Option R):aH.A b k=
 ah (aH.L0.call (b,0,(0:Int),([]:List Int))) fun x1=>
 ah (aH.L1.call (x1.1,(16:Int),x1.2)) fun x10=>
 aJ (decide (0=0∧(0+x10.1)≤(List.length x10.2))) (
 k (aH.out (cut x10.2 0 x10.1))) none:=by kernel_rfl
theorem kL(ws:List W):(wl ws).length=ws.length:=by simp[wl]
theorem zr(m:List W):∀n,Ca (ext m) n=Ca m (n+1)
 | 0=>rfl
 |n+1=>by rw[Ca,zr m n];rfl
theorem Dj(b:List Int)(k:Nat)(h:4*k+3 < b.length):be b k=D3 (nth (.int .u8) b (4*k)) (nth (.int .u8) b (4*k+1)) (nth (.int .u8) b (4*k+2)) (nth (.int .u8) b (4*k+3)):=rfl
theorem aH.L0.ok:aH.L0.Ok:=by
 refine aH.L0.aG (fun(b,m,i,l)=>16 - m) ?_
 rintro⟨b,m,i,l⟩ ⟨hb,k,hk,rfl,rfl,rfl⟩
 have hb:64≤b.length:=hb
 have hl:(wl ((words b).take k)).length=k:=by rw[kL,List.length_take,eg];omega
 by_cases h:k < 16
 ·left
  refine⟨(b,k+1,((k+1:Nat):Int),wl ((words b).take (k+1))),⟨hb,k+1,by omega,rfl,rfl,rfl⟩,by simp only;omega,rfl,fun kn kx=> ?_⟩
  rw[aH.L0.step]
  simp(disch:=omega) only[↓S1,↓if_pos,↓if_neg,if_pos,if_neg,if_true,if_false,S2,hl,List.take_of_length_le (Nat.le_of_eq hl)]
  rw[List.take_succ_eq_append_getElem (by rw[eg];exact h)]
  simp only[yT,pt,hM,wl,List.map_append,List.map_cons,List.map_nil]
  have e:(words b)[k]'(by rw[eg];exact h)=be b k:=by simp[words]
  rw[e,Dj b k (by omega)]
  rfl
 ·right
  obtain rfl:k=16:=by omega
  intro R kn kx
  rw[aH.L0.step]
  simp(disch:=omega) only[↓S1,↓if_pos,↓if_neg,if_pos,if_neg,if_true,if_false,S2,aH.L0.add,aH.L0.F]
  rw[List.take_of_length_le (by rw[eg];omega)]
theorem aH.L1.ok:aH.L1.Ok:=by
 refine aH.L1.aG (fun(m,i,l)=>64 - m) ?_
 rintro⟨m,i,l⟩ ⟨ws,h1,h2,rfl,rfl,rfl⟩
 have hl:=kL ws
 by_cases h:ws.length < 64
 ·left
  refine⟨(ws.length+1,((ws.length+1:Nat):Int),wl (ext ws)),⟨ext ws,by rw[jv];omega,by rw[jv];omega,rfl,by rw[jv],by rw[jv]⟩,by simp only;omega,?_,fun kn kx=> ?_⟩
  ·simp only[aH.L1.add,aH.L1.F,mD,kL,jv]
   rw[zr,show 64 - (ws.length+1)+1=64 - ws.length by omega]
  ·rw[aH.L1.step]
   simp(disch:=omega) only[↓S1,↓if_pos,↓if_neg,if_pos,if_neg,if_true,if_false,S2,hl,Nat.zero_add,Nat.mul_one,Nat.add_zero,qL ws _ (by omega:ws.length - 15 < ws.length),qL ws _ (by omega:ws.length - 2 < ws.length),qL ws _ (by omega:ws.length - 16 < ws.length),qL ws _ (by omega:ws.length - 7 < ws.length),da.at,hM,nv,lV,List.take_of_length_le (Nat.le_of_eq hl)]
   unfold ext wl
   rw[List.map_append]
   rfl
 ·right
  have h64:ws.length=64:=by omega
  intro R kn kx
  rw[aH.L1.step]
  simp(disch:=omega) only[↓S1,↓if_pos,↓if_neg,if_pos,if_neg,if_true,if_false,S2,aH.L1.add,aH.L1.F,hl,h64,mD,Nat.sub_self]
  rfl
theorem aH.ok:aH.Ok:=by
 intro b hb
 have p1:aH.L0.aB (b,0,0,[]):=⟨hb,0,by omega,rfl,rfl,rfl⟩
 have p2:aH.L1.aB (16,16,wl (words b)):=⟨words b,by rw[eg];omega,by rw[eg];omega,rfl,by rw[eg],by rw[eg];rfl⟩
 have hs:(sched b).length=64:=by unfold sched;rw[ld,eg]
 rw[aH.eq]
 simp(disch:=omega) only[↓S1,↓if_pos,↓if_neg,if_pos,if_neg,if_true,if_false,S2,aH.L0.run p1,aH.L0.add,aH.L0.F,aH.L1.run p2,aH.L1.add,aH.L1.F,mD,kL,eg,Nat.zero_add,Nat.reduceSub]
 have e:Ca (words b) 48=sched b:=rfl
 rw[e,hs,if_pos (Nat.le_refl _)]
 unfold cut
 rw[List.drop_zero,List.take_of_length_le (by rw[kL];omega)]
 simp only[aH.add,aH.F]
noncomputable def aH.E:=Entry.cz [some tB] aH.st aH.aB aH.add aH.F aH.out
noncomputable def aH.call:aH.D→Option aH.X:=bH aH.E aH.st
theorem aH.run:bC aH.call aH.aB aH.add aH.F:=cQ (cP [.d tB] fun _=>by kernel_rfl)
noncomputable def aH.sg:SG Tryz.prog:=⟨171,aU,aH.E,.fn 2 (by kernel_rfl) aH.ok (And.intro (.cz aH.L0.ok (by kernel_rfl)) (And.intro (.cz aH.L1.ok (by kernel_rfl)) trivial))⟩
set_option synthInstance.maxSize 5000
abbrev aF.L0.D:=(List Int)×(List Int)×(List Int)×Nat×Int×(List Int)
def aF.L0.st:aF.L0.D→AS:=fun(h_2,wv,kv,vL,i,n18)=>⟨([.d (.slice (.int .u32)) h_2]++bg 4 ([.d (.slice (.int .u32)) wv,.d (.slice (.int .u32)) kv,.cf (.new 18 0) 0 [] 0 0 vL,.d ti i]++bg 146 [])),[],(bN 18 ([[.obj 0 false (.vec 127 (.int .u32) n18)]]++bN 136 []))⟩
abbrev aF.L0.Y0:=Nat×(List Int)
abbrev aF.L0.X0:=((List Int))×(Nat×(List Int))
def aF.L0.bt:aF.L0.X0→Exit×AS:=fun x=>(.exit 0,⟨([.d (.slice (.int .u32)) x.1]++bg 6 ([.cf (.new 18 0) 0 [] 0 0 x.2.1]++bg 147 [])),[],(bN 18 ([[.obj 0 false (.vec 127 (.int .u32) x.2.2)]]++bN 136 []))⟩)
abbrev aF.L0.X:=aF.L0.X0
abbrev aF.L0.Y:=aF.L0.Y0
def aF.L0.out:aF.L0.X→Out (Exit×AS):=fun x=> .ok (aF.L0.bt x)
def aF.L0.add:aF.L0.D→aF.L0.Y→aF.L0.X:=fun(h_2,wv,kv,vL,i,n18) y=>(h_2,y)
abbrev aF.L1.D:=(List Int)×Nat×Int×(List Int)
def aF.L1.st:aF.L1.D→AS:=fun(h_3,vL_2,i_2,n18_2)=>⟨([.d (.slice (.int .u32)) h_3]++bg 6 ([.cf (.new 18 0) 0 [] 0 0 vL_2]++bg 6 ([.d ti i_2]++bg 140 []))),[],(bN 18 ([[.obj 0 false (.vec 127 (.int .u32) n18_2)]]++bN 136 []))⟩
abbrev aF.L1.Y0:=(List Int)
abbrev aF.L1.X0:=(Nat)×((List Int))
def aF.L1.bt:aF.L1.X0→Exit×AS:=fun x=>(.exit 2,⟨(bg 7 ([.cf (.new 18 0) 0 [] 0 0 x.1]++bg 147 [])),[],(bN 18 ([[.obj 0 false (.vec 127 (.int .u32) x.2)]]++bN 136 []))⟩)
abbrev aF.L1.X:=aF.L1.X0
abbrev aF.L1.Y:=aF.L1.Y0
def aF.L1.out:aF.L1.X→Out (Exit×AS):=fun x=> .ok (aF.L1.bt x)
def aF.L1.add:aF.L1.D→aF.L1.Y→aF.L1.X:=fun(h_3,vL_2,i_2,n18_2) y=>(vL_2,y)
abbrev aF.D:=(List Int)×Bs
def aF.st:aF.D→SA:=fun(h,b)=>([.d (.slice (.int .u32)) h,.d tB b],[])
abbrev aF.Y:=(List Int)
abbrev aF.X:=(List Int)
def aF.out:aF.X→a9:=fun x=>⟨.d (.slice (.int .u32)) x,[],[]⟩
def aF.add:aF.D→aF.Y→aF.X:=fun(h,b) y=>y
def aF.L0.aB:aF.L0.D→Prop:=fun(h,wv,kv,m,i,l)=>∃(s:St) (ws:List W) (k:Nat),h=s.l∧wv=wl ws∧ws.length=64∧k≤64∧i=k∧kv=qs∧m=8∧l=(rounds ws s k).l
def aF.L0.F:aF.L0.D→aF.L0.Y:=fun(h,wv,kv,m,i,l)=>(8,(rounds (B0 wv) (vy h) 64).l)
def aF.L1.aB:aF.L1.D→Prop:=fun(h,m,i,l)=>h.length=8∧l.length=8∧m=8∧∃k:Nat,k≤8∧i=k
def aF.L1.F:aF.L1.D→aF.L1.Y:=fun(h,m,i,l)=>from_ (fun i x=>bM .u32 x (nth (.int .u32) h i)) i.toNat l
def aF.aB:aF.D→Prop:=fun(h,b)=>(∃s:St,h=s.l)∧64≤b.length
def aF.F:aF.D→aF.Y:=fun(h,b)=>(qv (vy h) b).l
noncomputable def aF.G:dS:=eR (P:=Tryz.prog) [aH.sg,dZ.sg,da.sg]
noncomputable def aF.L0.E:=bO.cz aF.L0.st aF.L0.aB aF.L0.add aF.L0.F aF.L0.out
noncomputable def aF.L0.call:aF.L0.D→Option aF.L0.X:=dk aF.L0.E aF.L0.st
noncomputable def aF.L1.E:=bO.cz aF.L1.st aF.L1.aB aF.L1.add aF.L1.F aF.L1.out
noncomputable def aF.L1.call:aF.L1.D→Option aF.L1.X:=dk aF.L1.E aF.L1.st
noncomputable def aF.an:eA:= {bI:=[18,137],loops:=jY [(5,{bm:=[0,5,6,7,8],sites:=[18,137],ix:=[⟨7,[],18,0⟩]}),(14,{bm:=[0,7,14],sites:=[18]})],outs:=jX [(5,{bm:=[0,7],sites:=[18]},{bm:=[4]}),(14,{bm:=[7],sites:=[18]},{bm:=[4]})],fJ:=kF [(5,aF.L0.E),(14,aF.L1.E)],res:=[some (.slice (.int .u32))]}
noncomputable def aF.A:= @cJ Tryz.prog aF.G aF.an 0 Tryz.f156 _ aF.st
abbrev aF.Ok:=cK @aF.A aF.aB aF.add aF.F aF.out
noncomputable def aF.L0.R:= @cg Tryz.prog aF.G aF.an 0 Tryz.f156 0 _ aF.L0.st
abbrev aF.L0.Ok:=eB Tryz.prog aF.G aF.an 0 Tryz.f156 0 aF.L0.st aF.L0.aB aF.L0.add aF.L0.F aF.L0.out
noncomputable def aF.L1.R:= @cg Tryz.prog aF.G aF.an 0 Tryz.f156 1 _ aF.L1.st
abbrev aF.L1.Ok:=eB Tryz.prog aF.G aF.an 0 Tryz.f156 1 aF.L1.st aF.L1.aB aF.L1.add aF.L1.F aF.L1.out
theorem aF.L0.run:bC aF.L0.call aF.L0.aB aF.L0.add aF.L0.F:=eI (eD [.d (.slice (.int .u32)),.d (.slice (.int .u32)),.d (.slice (.int .u32)),.n,.d ti,.d (.slice (.int .u32))] fun _=>by kernel_rfl)
theorem aF.L0.aG:fR @aF.L0.R aF.L0.st aF.L0.aB aF.L0.add aF.L0.F aF.L0.bt aF.L0.Ok:=fV
theorem aF.L0.step{R:Type}(h_2:(List Int))(wv:(List Int))(kv:(List Int))(vL:Nat)(i:Int)(n18:(List Int))(kn:AS→Option R)(kx:Exit→AS→Option R):aF.L0.R (h_2,wv,kv,vL,i,n18) kn kx=
  aJ ((fZ i (64:Int))) (
   aJ (ei (4:Int) ((vL:Nat):Int)) (
   aJ (decide (4 < (List.length n18))) (
   ah (da.call ((nth (.int .u32) n18 4),(6:Int))) fun x1=>
   aJ (ei (4:Int) ((vL:Nat):Int)) (
   aJ (decide (4 < (List.length n18))) (
   ah (da.call ((nth (.int .u32) n18 4),(11:Int))) fun x2=>
   aJ (ei (4:Int) ((vL:Nat):Int)) (
   aJ (decide (4 < (List.length n18))) (
   ah (da.call ((nth (.int .u32) n18 4),(25:Int))) fun x3=>
   aJ (ei (4:Int) ((vL:Nat):Int)) (
   aJ (decide (4 < (List.length n18))) (
   aJ (ei (5:Int) ((vL:Nat):Int)) (
   aJ (decide (5 < (List.length n18))) (
   aJ (ei (4:Int) ((vL:Nat):Int)) (
   aJ (decide (4 < (List.length n18))) (
   aJ (ei (6:Int) ((vL:Nat):Int)) (
   aJ (decide (6 < (List.length n18))) (
   aJ (ei (7:Int) ((vL:Nat):Int)) (
   aJ (decide (7 < (List.length n18))) (
   aJ (ei i (((List.length kv):Nat):Int)) (
   aJ (ei i (((List.length wv):Nat):Int)) (
   aJ (ei (0:Int) ((vL:Nat):Int)) (
   aJ (decide (0 < (List.length n18))) (
   ah (da.call ((nth (.int .u32) n18 0),(2:Int))) fun x4=>
   aJ (ei (0:Int) ((vL:Nat):Int)) (
   aJ (decide (0 < (List.length n18))) (
   ah (da.call ((nth (.int .u32) n18 0),(13:Int))) fun x5=>
   aJ (ei (0:Int) ((vL:Nat):Int)) (
   aJ (decide (0 < (List.length n18))) (
   ah (da.call ((nth (.int .u32) n18 0),(22:Int))) fun x6=>
   aJ (ei (0:Int) ((vL:Nat):Int)) (
   aJ (decide (0 < (List.length n18))) (
   aJ (ei (1:Int) ((vL:Nat):Int)) (
   aJ (decide (1 < (List.length n18))) (
   aJ (ei (0:Int) ((vL:Nat):Int)) (
   aJ (decide (0 < (List.length n18))) (
   aJ (ei (2:Int) ((vL:Nat):Int)) (
   aJ (decide (2 < (List.length n18))) (
   aJ (ei (1:Int) ((vL:Nat):Int)) (
   aJ (decide (1 < (List.length n18))) (
   aJ (ei (2:Int) ((vL:Nat):Int)) (
   aJ (decide (2 < (List.length n18))) (
   aJ (ei (0:Int) ((vL:Nat):Int)) (
   aJ (decide (0 < (List.length n18))) (
   aJ (ei (1:Int) ((vL:Nat):Int)) (
   aJ (decide (1 < (List.length n18))) (
   aJ (ei (2:Int) ((vL:Nat):Int)) (
   aJ (decide (2 < (List.length n18))) (
   aJ (ei (3:Int) ((vL:Nat):Int)) (
   aJ (decide (3 < (List.length n18))) (
   aJ (ei (4:Int) ((vL:Nat):Int)) (
   aJ (decide (4 < (List.length n18))) (
   aJ (ei (5:Int) ((vL:Nat):Int)) (
   aJ (decide (5 < (List.length n18))) (
   aJ (ei (6:Int) ((vL:Nat):Int)) (
   aJ (decide (6 < (List.length n18))) (
   kn (aF.L0.st (h_2,wv,kv,8,(bM .i64 i (1:Int)),[(bM .u32 (bM .u32 (bM .u32 (bM .u32 (bM .u32 (bM .u32 (nth (.int .u32) n18 7) (cn .xor .u32 (cn .xor .u32 x1 x2) x3)) (cn .xor .u32 (cn .and .u32 (nth (.int .u32) n18 4) (nth (.int .u32) n18 5)) (cn .and .u32 (Cu .u32 (nth (.int .u32) n18 4)) (nth (.int .u32) n18 6)))) (nth (.int .u32) kv (Int.toNat i))) (nth (.int .u32) wv (Int.toNat i))) (cn .xor .u32 (cn .xor .u32 x4 x5) x6)) (cn .xor .u32 (cn .xor .u32 (cn .and .u32 (nth (.int .u32) n18 0) (nth (.int .u32) n18 1)) (cn .and .u32 (nth (.int .u32) n18 0) (nth (.int .u32) n18 2))) (cn .and .u32 (nth (.int .u32) n18 1) (nth (.int .u32) n18 2)))),(nth (.int .u32) n18 0),(nth (.int .u32) n18 1),(nth (.int .u32) n18 2),(bM .u32 (nth (.int .u32) n18 3) (bM .u32 (bM .u32 (bM .u32 (bM .u32 (nth (.int .u32) n18 7) (cn .xor .u32 (cn .xor .u32 x1 x2) x3)) (cn .xor .u32 (cn .and .u32 (nth (.int .u32) n18 4) (nth (.int .u32) n18 5)) (cn .and .u32 (Cu .u32 (nth (.int .u32) n18 4)) (nth (.int .u32) n18 6)))) (nth (.int .u32) kv (Int.toNat i))) (nth (.int .u32) wv (Int.toNat i)))),(nth (.int .u32) n18 4),(nth (.int .u32) n18 5),(nth (.int .u32) n18 6)]))) none) none) none) none) none) none) none) none) none) none) none) none) none) none) none) none) none) none) none) none) none) none) none) none) none) none) none) none) none) none) none) none) none) none) none) none) none) none) none) none) none) none) none) none) none) none) none) none) none) none) (
   kx (aF.L0.bt (h_2,(vL,n18))).1 (aF.L0.bt (h_2,(vL,n18))).2):=by kernel_rfl
theorem aF.L1.run:bC aF.L1.call aF.L1.aB aF.L1.add aF.L1.F:=eI (eD [.d (.slice (.int .u32)),.n,.d ti,.d (.slice (.int .u32))] fun _=>by kernel_rfl)
theorem aF.L1.aG:fR @aF.L1.R aF.L1.st aF.L1.aB aF.L1.add aF.L1.F aF.L1.bt aF.L1.Ok:=fV
theorem aF.L1.step{R:Type}(h_3:(List Int))(vL_2:Nat)(i_2:Int)(n18_2:(List Int))(kn:AS→Option R)(kx:Exit→AS→Option R):aF.L1.R (h_3,vL_2,i_2,n18_2) kn kx=
  aJ ((fZ i_2 (8:Int))) (
   aJ (ei i_2 ((vL_2:Nat):Int)) (
   aJ (decide ((0+(Int.toNat i_2)) < (List.length n18_2))) (
   aJ (decide ((((0+(Int.toNat i_2))*1)+0)=(0+((Int.toNat i_2)*1)))) (
   aJ (ei i_2 (((List.length h_3):Nat):Int)) (
   aJ (ei i_2 ((vL_2:Nat):Int)) (
   aJ (decide ((0+(Int.toNat i_2)) < (List.length n18_2))) (
   aJ (decide ((((0+(Int.toNat i_2))*1)+0)=(0+((Int.toNat i_2)*1)))) (
   aJ (decide ((0+(Int.toNat i_2)) < (List.length n18_2))) (
   kn (aF.L1.st (h_3,vL_2,(bM .i64 i_2 (1:Int)),(List.set n18_2 (0+(Int.toNat i_2)) (bM .u32 (nth (.int .u32) n18_2 (0+(Int.toNat i_2))) (nth (.int .u32) h_3 (Int.toNat i_2))))))) none) none) none) none) none) none) none) none) (
   kx (aF.L1.bt (vL_2,n18_2)).1 (aF.L1.bt (vL_2,n18_2)).2):=by kernel_rfl
theorem aF.eq{R:Type}(h:(List Int))(b:Bs)(k:a9→Option R):aF.A (h,b) k=
 ah (aH.call b) fun x1=>
 ah (dZ.call ()) fun x2=>
 aJ (dm (0+(List.length h)) 4) (
 ah (aF.L0.call (h,x1,x2,(0+(List.length h)),(0:Int),((List.take 0 (List.replicate 0 (0:Int)))++h))) fun x15=>
 ah (aF.L1.call (x15.1,x15.2.1,(0:Int),x15.2.2)) fun x16=>
 aJ (decide (0=0∧(0+x16.1)≤(List.length x16.2))) (
 k (aF.out (cut x16.2 0 x16.1))) none) none:=by kernel_rfl
theorem Bc(w:W):Cu .u32 (vw w)=vw (~~~w):=by
 have e:(if IntKind.u32.signed then -1 else IntKind.u32.max:Int)=vw (BitVec.allOnes 32):=rfl
 unfold Cu
 rw[e,hM]
 simp only[BitVec.allOnes_xor]
theorem D5(e f g:W):(e &&& f)^^^(~~~e &&& g)=g^^^(e &&& (f^^^g)):=by
 ext i hi
 simp only[BitVec.getElem_xor,BitVec.getElem_and,BitVec.getElem_not]
 cases e[i] <;> cases f[i] <;> cases g[i] <;> rfl
theorem DA(a b c:W):(a &&& b)^^^(a &&& c)^^^(b &&& c)=(a &&& b) ||| (c &&& (a ||| b)):=by
 ext i hi
 simp only[BitVec.getElem_xor,BitVec.getElem_and,BitVec.getElem_or]
 cases a[i] <;> cases b[i] <;> cases c[i] <;> rfl
theorem aF.L0.ok:aF.L0.Ok:=by
 refine aF.L0.aG (fun(h,wv,kv,m,i,l)=>64 - i.toNat) ?_
 rintro⟨h,wv,kv,m,i,l⟩ ⟨s,ws,k,rfl,rfl,hw,hk,rfl,rfl,rfl,rfl⟩
 by_cases hlt:k < 64
 ·left
  refine⟨(s.l,wl ws,qs,8,((k+1:Nat):Int),(rounds ws s (k+1)).l),⟨s,ws,k+1,rfl,rfl,hw,by omega,rfl,rfl,rfl,rfl⟩,by simp only;omega,rfl,fun kn kx=> ?_⟩
  rw[aF.L0.step]
  generalize hv:rounds ws s k=v
  have t1:∀w:W,da.call (vw w,6)=some (vw (jB w 6)):=fun w=>da.at w (by omega)
  have t2:∀w:W,da.call (vw w,11)=some (vw (jB w 11)):=fun w=>da.at w (by omega)
  have t3:∀w:W,da.call (vw w,25)=some (vw (jB w 25)):=fun w=>da.at w (by omega)
  have t4:∀w:W,da.call (vw w,2)=some (vw (jB w 2)):=fun w=>da.at w (by omega)
  have t5:∀w:W,da.call (vw w,13)=some (vw (jB w 13)):=fun w=>da.at w (by omega)
  have t6:∀w:W,da.call (vw w,22)=some (vw (jB w 22)):=fun w=>da.at w (by omega)
  rw[n0,n1,n2,n3,n4,n5,n6,n7,t1,aa,t2,aa,t3,aa,t4,aa,t5,aa,t6,aa]
  simp(disch:=omega) only[↓S1,↓if_pos,↓if_neg,if_pos,if_neg,if_true,if_false,S2,St.wq,qP,kL,hw,wo k hlt,qL ws k (by omega),hM,lV,Bc,D5,DA]
  show kn _=kn (aF.L0.st (s.l,wl ws,qs,8,((k+1:Nat):Int),(Fi (rounds ws s k) (kw k) (ws.getD k 0)).l))
  rw[hv]
  rfl
 ·right
  obtain rfl:k=64:=by omega
  intro R kn kx
  rw[aF.L0.step]
  simp(disch:=omega) only[↓S1,↓if_pos,↓if_neg,if_pos,if_neg,if_true,if_false,S2,aF.L0.add,aF.L0.F,mD,gV]
theorem aF.L1.ok:aF.L1.Ok:=by
 refine aF.L1.aG (fun(h,m,i,l)=>8 - i.toNat) ?_
 rintro⟨h,m,i,l⟩ ⟨hh,hl,rfl,k,hk,rfl⟩
 have hl:l.length=8:=hl
 have hh:h.length=8:=hh
 by_cases hlt:k < 8
 ·left
  have hn:nth (.int .u32) l k=l[k]:=cC (t:= .int .u32) (by omega)
  refine⟨(h,8,((k+1:Nat):Int),l.set k (bM .u32 l[k] (nth (.int .u32) h k))),⟨hh,by simpa using hl,rfl,k+1,by omega,rfl⟩,by simp only;omega,?_,fun kn kx=> ?_⟩
  ·simp only[aF.L1.add,aF.L1.F,Int.toNat_natCast]
   rw[nQ (fun i x=>bM .u32 x (nth (.int .u32) h i)) l k (by omega)]
  ·rw[aF.L1.step]
   simp(disch:=omega) only[↓S1,↓if_pos,↓if_neg,if_pos,if_neg,if_true,if_false,S2,hl,hh,Nat.zero_add,Nat.mul_one,Nat.add_zero,hn]
 ·right
  obtain rfl:k=8:=by omega
  intro R kn kx
  rw[aF.L1.step]
  simp(disch:=omega) only[↓S1,↓if_pos,↓if_neg,if_pos,if_neg,if_true,if_false,S2,aF.L1.add,aF.L1.F]
  rw[pj _ _ _ (by omega)]
theorem DB(s:St)(b:List Int):from_ (fun i x=>bM .u32 x (nth (.int .u32) s.l i)) 0 (rounds (sched b) s 64).l=(qv s b).l:=by
 unfold qv
 generalize rounds (sched b) s 64=v
 obtain⟨a1,b1,c1,d1,f1,g1,h1,i1⟩:=v
 simp only[St.l,from_,List.mapIdx_cons,List.mapIdx_nil,Nat.not_lt_zero,if_false,Nat.zero_add,Nat.reduceAdd]
 simp only[nth,List.getD_cons_zero,List.getD_cons_succ,lV]
theorem aF.ok:aF.Ok:=by
 rintro⟨h,b⟩ ⟨⟨s,rfl⟩,hb⟩
 have p0:aH.aB b:=hb
 have hsl:(sched b).length=64:=by unfold sched;rw[ld,eg]
 have p1:aF.L0.aB (s.l,wl (sched b),qs,8,0,s.l):=⟨s,sched b,0,rfl,rfl,hsl,by omega,rfl,rfl,rfl,rfl⟩
 have p2:aF.L1.aB (s.l,8,0,(rounds (sched b) s 64).l):=⟨rfl,rfl,rfl,0,by omega,rfl⟩
 have e0:0+s.l.length=8:=rfl
 have e1:List.take 0 (List.replicate 0 (0:Int))++s.l=s.l:=rfl
 rw[aF.eq]
 simp(disch:=omega) only[↓S1,↓if_pos,↓if_neg,if_pos,if_neg,if_true,if_false,S2,aH.run p0,aH.add,aH.F,dZ.run (d:=()) trivial,dZ.add,dZ.F,e0,e1,aF.L0.run p1,aF.L0.add,aF.L0.F,mD,gV,aF.L1.run p2,aF.L1.add,aF.L1.F,Int.toNat_zero,DB]
 have e2:(qv s b).l.length=8:=rfl
 have e3:cut (qv s b).l 0 8=(qv s b).l:=rfl
 simp only[e2,Nat.zero_add,Nat.le_refl,if_true,e3,aF.add,aF.F,gV]
noncomputable def aF.E:=Entry.cz [some (.slice (.int .u32)),some tB] aF.st aF.aB aF.add aF.F aF.out
noncomputable def aF.call:aF.D→Option aF.X:=bH aF.E aF.st
theorem aF.run:bC aF.call aF.aB aF.add aF.F:=cQ (cP [.d (.slice (.int .u32)),.d tB] fun _=>by kernel_rfl)
noncomputable def aF.sg:SG Tryz.prog:=⟨156,aU,aF.E,.fn 2 (by kernel_rfl) aF.ok (And.intro (.cz aF.L0.ok (by kernel_rfl)) (And.intro (.cz aF.L1.ok (by kernel_rfl)) trivial))⟩
set_option synthInstance.maxSize 5000
abbrev bz.L0.D:=Bs×(List Int)×Int×Bs
def bz.L0.st:bz.L0.D→AS:=fun(p,h,i,n2)=>⟨([.undef,.undef,.ptr (.new 2 0) 0 [] 0,.d tB p,.d (.slice (.int .u32)) h,.d ti i]++bg 36 []),[],([[],[],[.obj 0 false (.d tH n2)]]++bN 39 [])⟩
abbrev bz.L0.Y0:=(List Int)
abbrev bz.L0.X0:=(Bs)×((List Int))
def bz.L0.bt:bz.L0.X0→Exit×AS:=fun x=>(.exit 0,⟨([.undef,.undef,.ptr (.new 2 0) 0 [] 0,.undef,.d (.slice (.int .u32)) x.2]++bg 37 []),[],([[],[],[.obj 0 false (.d tH x.1)]]++bN 39 [])⟩)
abbrev bz.L0.X:=bz.L0.X0
abbrev bz.L0.Y:=bz.L0.Y0
def bz.L0.out:bz.L0.X→Out (Exit×AS):=fun x=> .ok (bz.L0.bt x)
def bz.L0.add:bz.L0.D→bz.L0.Y→bz.L0.X:=fun(p,h,i,n2) y=>(n2,y)
abbrev bz.L1.D:=(List Int)×Int×Bs×Bs
def bz.L1.st:bz.L1.D→AS:=fun(h_2,i_2,n2_2,n6)=>⟨([.undef,.undef,.ptr (.new 2 0) 0 [] 0,.undef,.d (.slice (.int .u32)) h_2,.undef,.ptr (.new 6 0) 0 [] 0,.d ti i_2]++bg 34 []),[],([[],[],[.obj 0 false (.d tH n2_2)],[],[],[],[.obj 0 false (.d tH n6)]]++bN 35 [])⟩
abbrev bz.L1.Y0:=Bs
abbrev bz.L1.X0:=(Bs)×(Bs)
def bz.L1.bt:bz.L1.X0→Exit×AS:=fun x=>(.exit 2,⟨([.undef,.undef,.ptr (.new 2 0) 0 [] 0,.undef,.undef,.undef,.ptr (.new 6 0) 0 [] 0]++bg 35 []),[],([[],[],[.obj 0 false (.d tH x.1)],[],[],[],[.obj 0 false (.d tH x.2)]]++bN 35 [])⟩)
abbrev bz.L1.X:=bz.L1.X0
abbrev bz.L1.Y:=bz.L1.Y0
def bz.L1.out:bz.L1.X→Out (Exit×AS):=fun x=> .ok (bz.L1.bt x)
def bz.L1.add:bz.L1.D→bz.L1.Y→bz.L1.X:=fun(h_2,i_2,n2_2,n6) y=>(n2_2,y)
abbrev bz.D:=Bs
def bz.st:bz.D→SA:=fun b=>([.d tB b],[])
abbrev bz.Y:=Bs
abbrev bz.X:=Bs
def bz.out:bz.X→a9:=fun x=>⟨.d tH x,[],[]⟩
def bz.add:bz.D→bz.Y→bz.X:=fun b y=>y
def bz.L0.aB:bz.L0.D→Prop:=fun(p,h,i,n2)=>p.length%64=0∧p.length≤140737488355328∧∃(s:St) (k:Nat),h=s.l∧i=((64*k:Nat):Int)∧64*k≤p.length
def bz.L0.F:bz.L0.D→bz.L0.Y:=fun(p,h,i,n2)=>(blocks (vy h) (p.drop i.toNat)).l
def bz.L1.aB:bz.L1.D→Prop:=fun(h,i,n2,l)=>h.length=8∧l.length=32∧∃k:Nat,k≤32∧i=k
def bz.L1.F:bz.L1.D→bz.L1.Y:=fun(h,i,n2,l)=>from_ (og h) i.toNat l
def bz.aB:bz.D→Prop:=fun b=>b.length≤140737488350000
def bz.F:bz.D→bz.Y:=fun b=>CJ b
noncomputable def bz.G:dS:=eR (P:=Tryz.prog) [ax.sg,cr.sg,aF.sg]
noncomputable def bz.L0.E:=bO.cz bz.L0.st bz.L0.aB bz.L0.add bz.L0.F bz.L0.out
noncomputable def bz.L0.call:bz.L0.D→Option bz.L0.X:=dk bz.L0.E bz.L0.st
noncomputable def bz.L1.E:=bO.cz bz.L1.st bz.L1.aB bz.L1.add bz.L1.F bz.L1.out
noncomputable def bz.L1.call:bz.L1.D→Option bz.L1.X:=dk bz.L1.E bz.L1.st
noncomputable def bz.an:eA:= {loops:=jY [(4,{bm:=[2,3,4,5],sites:=[2]}),(9,{bm:=[2,4,6,7],sites:=[2,6]})],outs:=jX [(4,{bm:=[2,4],sites:=[2]},{bm:=[2]}),(9,{bm:=[2,6],sites:=[2,6]},{bm:=[2]})],fJ:=kF [(4,bz.L0.E),(9,bz.L1.E)]}
noncomputable def bz.A:= @cJ Tryz.prog bz.G bz.an 0 Tryz.f123 _ bz.st
abbrev bz.Ok:=cK @bz.A bz.aB bz.add bz.F bz.out
noncomputable def bz.L0.R:= @cg Tryz.prog bz.G bz.an 0 Tryz.f123 0 _ bz.L0.st
abbrev bz.L0.Ok:=eB Tryz.prog bz.G bz.an 0 Tryz.f123 0 bz.L0.st bz.L0.aB bz.L0.add bz.L0.F bz.L0.out
noncomputable def bz.L1.R:= @cg Tryz.prog bz.G bz.an 0 Tryz.f123 1 _ bz.L1.st
abbrev bz.L1.Ok:=eB Tryz.prog bz.G bz.an 0 Tryz.f123 1 bz.L1.st bz.L1.aB bz.L1.add bz.L1.F bz.L1.out
theorem bz.L0.run:bC bz.L0.call bz.L0.aB bz.L0.add bz.L0.F:=eI (eD [.d tB,.d (.slice (.int .u32)),.d ti,.d tB] fun _=>by kernel_rfl)
theorem bz.L0.aG:fR @bz.L0.R bz.L0.st bz.L0.aB bz.L0.add bz.L0.F bz.L0.bt bz.L0.Ok:=fV
theorem bz.L0.step{R:Type}(p:Bs)(h:(List Int))(i:Int)(n2:Bs)(kn:AS→Option R)(kx:Exit→AS→Option R):bz.L0.R (p,h,i,n2) kn kx=
  aJ ((fZ i (((List.length p):Nat):Int))) (
   aJ (inc (bM .i64 i (64:Int)) (((List.length p):Nat):Int)) (
   aJ (inc i (((Int.toNat (bM .i64 i (64:Int))):Nat):Int)) (
   ah (aF.call (h,(cut p (Int.toNat i) ((Int.toNat (bM .i64 i (64:Int))) - (Int.toNat i))))) fun x1=>
   kn (bz.L0.st (p,x1,(bM .i64 i (64:Int)),n2))) none) none) (
   kx (bz.L0.bt (n2,h)).1 (bz.L0.bt (n2,h)).2):=by kernel_rfl
theorem bz.L1.run:bC bz.L1.call bz.L1.aB bz.L1.add bz.L1.F:=eI (eD [.d (.slice (.int .u32)),.d ti,.d tB,.d tB] fun _=>by kernel_rfl)
theorem bz.L1.aG:fR @bz.L1.R bz.L1.st bz.L1.aB bz.L1.add bz.L1.F bz.L1.bt bz.L1.Ok:=fV
theorem bz.L1.step{R:Type}(h_2:(List Int))(i_2:Int)(n2_2:Bs)(n6:Bs)(kn:AS→Option R)(kx:Exit→AS→Option R):bz.L1.R (h_2,i_2,n2_2,n6) kn kx=
  aJ ((fZ i_2 (32:Int))) (
   aJ (ei (kS .i64 i_2 (4:Int)) (((List.length h_2):Nat):Int)) (
   aJ (gJ (dg .i64 (24:Int) (eW .i64 (8:Int) (iZ i_2 (4:Int))))) (
   aJ (ei i_2 (32:Int)) (
   aJ (decide ((Int.toNat i_2) < (List.length n6))) (
   aJ (decide ((((Int.toNat i_2)*1)+0)=(0+((Int.toNat i_2)*1)))) (
   aJ (decide ((Int.toNat i_2) < (List.length n6))) (
   kn (bz.L1.st (h_2,(bM .i64 i_2 (1:Int)),n2_2,(List.set n6 (Int.toNat i_2) (dD .u8 (bJ .u32 (nth (.int .u32) h_2 (Int.toNat (kS .i64 i_2 (4:Int)))) (dg .i64 (24:Int) (eW .i64 (8:Int) (iZ i_2 (4:Int)))))))))) none) none) none) none) none) none) (
   kx (bz.L1.bt (n2_2,n6)).1 (bz.L1.bt (n2_2,n6)).2):=by kernel_rfl
theorem bz.eq{R:Type}(b:Bs)(k:a9→Option R):bz.A b k=
 ah (ax.call b) fun x1=>
 ah (cr.call ()) fun x2=>
 ah (bz.L0.call (x1,x2,(0:Int),(List.replicate 32 (0:Int)))) fun x4=>
 ah (bz.L1.call (x4.2,(0:Int),x4.1,(List.replicate 32 (0:Int)))) fun x5=>
 k (bz.out x5.2):=by kernel_rfl
theorem bz.L0.ok:bz.L0.Ok:=by
 refine bz.L0.aG (fun(p,h,i,n2)=>p.length - i.toNat) ?_
 rintro⟨p,h,i,n2⟩ ⟨hm,hb,s,k,rfl,rfl,hk⟩
 have hm:p.length%64=0:=hm
 have hb:p.length≤140737488355328:=hb
 have hk:64*k≤p.length:=hk
 by_cases hlt:64*k < p.length
 ·left
  have e1:cut p (64*k) (64*k+64 - 64*k)=(p.drop (64*k)).take 64:=by unfold cut;rw[show 64*k+64 - 64*k=64 by omega]
  have e2:(p.drop (64*k)).drop 64=p.drop (64*(k+1)):=by rw[List.drop_drop];congr 1
  have e3:(64*(k+1):Nat)=64*k+64:=by omega
  have p1:aF.aB (s.l,(p.drop (64*k)).take 64):=⟨⟨s,rfl⟩,by simp;omega⟩
  refine⟨(p,(qv s ((p.drop (64*k)).take 64)).l,((64*(k+1):Nat):Int),n2),⟨hm,hb,_,k+1,rfl,rfl,by omega⟩,by simp only[Int.toNat_natCast];omega,?_,fun kn kx=> ?_⟩
  ·simp only[bz.L0.add,bz.L0.F,gV,Int.toNat_natCast]
   rw[nc s (p.drop (64*k)) (by simp;omega),e2]
  ·rw[bz.L0.step]
   simp(disch:=omega) only[↓S1,↓if_pos,↓if_neg,if_pos,if_neg,if_true,if_false,S2,e1,aF.run p1,aF.add,aF.F,gV,e3]
 ·right
  intro R kn kx
  rw[bz.L0.step]
  simp(disch:=omega) only[↓S1,↓if_pos,↓if_neg,if_pos,if_neg,if_true,if_false,S2,bz.L0.add,bz.L0.F,gV]
  rw[ma s _ (by simp;omega)]
theorem bz.L1.ok:bz.L1.Ok:=by
 refine bz.L1.aG (fun(h,i,n2,l)=>32 - i.toNat) ?_
 rintro⟨h,i,n2,l⟩ ⟨h8,hl,k,hk,rfl⟩
 have hl:l.length=32:=hl
 have h8:h.length=8:=h8
 by_cases hlt:k < 32
 ·left
  refine⟨(h,((k+1:Nat):Int),n2,l.set k (og h k l[k])),⟨h8,by simpa using hl,k+1,by omega,rfl⟩,by simp only[Int.toNat_natCast];omega,?_,fun kn kx=> ?_⟩
  ·simp only[bz.L1.add,bz.L1.F,Int.toNat_natCast]
   rw[nQ (og h) l k (by omega)]
  ·rw[bz.L1.step]
   simp(disch:=omega) only[↓S1,↓if_pos,↓if_neg,if_pos,if_neg,if_true,if_false,S2,hl,h8,Nat.mul_one,Nat.add_zero,Nat.zero_add,og]
 ·right
  obtain rfl:k=32:=by omega
  intro R kn kx
  rw[bz.L1.step]
  simp(disch:=omega) only[↓S1,↓if_pos,↓if_neg,if_pos,if_neg,if_true,if_false,S2,bz.L1.add,bz.L1.F]
  rw[pj _ _ _ (by omega)]
theorem yk(b:List Int):(pad b).length%64=0∧(pad b).length≤b.length+73:=by
 unfold pad
 simp only[List.length_append,List.length_cons,List.length_replicate,bK,kW]
 omega
theorem bz.ok:bz.Ok:=by
 intro b hb
 have hb:b.length≤140737488350000:=hb
 have p1:ax.aB b:=hb
 obtain⟨h1,h2⟩:=yk b
 have p2:bz.L0.aB (pad b,iJ.l,0,List.replicate 32 0):=⟨h1,by omega,iJ,0,rfl,rfl,by omega⟩
 have p3:bz.L1.aB ((blocks iJ (pad b)).l,0,List.replicate 32 0,List.replicate 32 0):=⟨rfl,rfl,0,by omega,rfl⟩
 rw[bz.eq]
 simp(disch:=omega) only[↓S1,↓if_pos,↓if_neg,if_pos,if_neg,if_true,if_false,S2,ax.run p1,ax.add,ax.F,cr.run (d:=()) trivial,cr.add,cr.F,bz.L0.run p2,bz.L0.add,bz.L0.F,gV,Int.toNat_zero,List.drop_zero,bz.L1.run p3,bz.L1.add,bz.L1.F,y8]
 rfl
noncomputable def bz.E:=Entry.cz [some tB] bz.st bz.aB bz.add bz.F bz.out
noncomputable def bz.call:bz.D→Option bz.X:=bH bz.E bz.st
theorem bz.run:bC bz.call bz.aB bz.add bz.F:=cQ (cP [.d tB] fun _=>by kernel_rfl)
noncomputable def bz.sg:SG Tryz.prog:=⟨123,aU,bz.E,.fn 2 (by kernel_rfl) bz.ok (And.intro (.cz bz.L0.ok (by kernel_rfl)) (And.intro (.cz bz.L1.ok (by kernel_rfl)) trivial))⟩
abbrev dP.D:=Int
def dP.st:dP.D→SA:=fun n=>([.d tu n],[])
abbrev dP.Y:=Nat×(List Int)
abbrev dP.X:=Nat×(List Int)
def dP.out:dP.X→a9:=fun x=>⟨.cf (.new 0 0) 0 [] 0 0 x.1,[],[.obj 0 false (.vec 5 tb x.2)]⟩
def dP.add:dP.D→dP.Y→dP.X:=fun n y=>y
def dP.aB:dP.D→Prop:=fun n=>0≤n∧n < 18446744073709551616
def dP.F:dP.D→dP.Y:=fun n=>(8,fM n)
noncomputable def dP.G:dS:=eR (P:=Tryz.prog) []
noncomputable def dP.an:eA:= {loops:=jY [(3,{bm:=[0,3,4],sites:=[15]})],outs:=jX [(3,{bm:=[3],sites:=[15]},{bm:=[2],sites:=[15]})],ix:=[⟨2,[],15,25⟩]}
noncomputable def dP.A:= @cJ Tryz.prog dP.G dP.an 10 Tryz.f122 _ dP.st
abbrev dP.Ok:=cK @dP.A dP.aB dP.add dP.F dP.out
theorem dP.eq{R:Type}(n:Int)(k:a9→Option R):dP.A n k=
 k (dP.out (8,[(dD .u8 (bJ .u64 n (56:Int))),(dD .u8 (bJ .u64 n (48:Int))),(dD .u8 (bJ .u64 n (40:Int))),(dD .u8 (bJ .u64 n (32:Int))),(dD .u8 (bJ .u64 n (24:Int))),(dD .u8 (bJ .u64 n (16:Int))),(dD .u8 (bJ .u64 n (8:Int))),(dD .u8 (bJ .u64 n (0:Int)))])):=by kernel_rfl
theorem dP.ok:dP.Ok:=by
 intro n _
 have e:∀k:Nat,k≤64→dD .u8 (bJ .u64 n (k:Int))=n / 2^k%256:=fun k hk=>xy n k hk
 rw[dP.eq]
 have e56:dD .u8 (bJ .u64 n 56)=n / 2^56%256:=e 56 (by omega)
 have e48:dD .u8 (bJ .u64 n 48)=n / 2^48%256:=e 48 (by omega)
 have e40:dD .u8 (bJ .u64 n 40)=n / 2^40%256:=e 40 (by omega)
 have e32:dD .u8 (bJ .u64 n 32)=n / 2^32%256:=e 32 (by omega)
 have e24:dD .u8 (bJ .u64 n 24)=n / 2^24%256:=e 24 (by omega)
 have e16:dD .u8 (bJ .u64 n 16)=n / 2^16%256:=e 16 (by omega)
 have e8:dD .u8 (bJ .u64 n 8)=n / 2^8%256:=e 8 (by omega)
 have e0:=e 0 (by omega)
 rw[e56,e48,e40,e32,e24,e16,e8]
 have e0:dD .u8 (bJ .u64 n 0)=n%256:=by rw[show(0:Int)=((0:Nat):Int) from rfl,e0];simp
 rw[e0]
 rfl
noncomputable def dP.E:=Entry.cz [some tu] dP.st dP.aB dP.add dP.F dP.out
noncomputable def dP.call:dP.D→Option dP.X:=bH dP.E dP.st
theorem dP.run:bC dP.call dP.aB dP.add dP.F:=cQ (cP [.d tu] fun _=>by kernel_rfl)
noncomputable def dP.sg:SG Tryz.prog:=⟨122,aU,dP.E,.fn 1 (by kernel_rfl) dP.ok (And.intro (.none (by kernel_rfl)) trivial)⟩
abbrev cG.L0.D:=(List Bs)×Nat×Int×Bs×(List Int)
def cG.L0.st:cG.L0.D→AS:=fun(parts_2,bL,i,n4,n11)=>⟨([.undef,.d (.slice tB) parts_2,.undef,.undef,.ptr (.new 4 0) 0 [] 0,.cf (.new 11 0) 0 [] 0 0 bL,.d ti i]++bg 32 []),[],(bN 4 ([[.obj 0 false (.d tH n4)]]++bN 6 ([[.obj 0 false (.vec 5 tb n11)]]++bN 27 [])))⟩
abbrev cG.L0.Y0:=Nat×(List Int)
abbrev cG.L0.X0:=(Bs)×(Nat×(List Int))
def cG.L0.bt:cG.L0.X0→Exit×AS:=fun x=>(.exit 0,⟨(bg 4 ([.ptr (.new 4 0) 0 [] 0,.cf (.new 11 0) 0 [] 0 0 x.2.1]++bg 33 [])),[],(bN 4 ([[.obj 0 false (.d tH x.1)]]++bN 6 ([[.obj 0 false (.vec 5 tb x.2.2)]]++bN 27 [])))⟩)
abbrev cG.L0.X:=cG.L0.X0
abbrev cG.L0.Y:=cG.L0.Y0
def cG.L0.out:cG.L0.X→Out (Exit×AS):=fun x=> .ok (cG.L0.bt x)
def cG.L0.add:cG.L0.D→cG.L0.Y→cG.L0.X:=fun(parts_2,bL,i,n4,n11) y=>(n4,y)
abbrev cG.D:=ByteArray×(List Bs)
def cG.st:cG.D→SA:=fun(name,parts)=>([.d .str name,.d (.slice tB) parts],[])
abbrev cG.Y:=Bs
abbrev cG.X:=Bs
def cG.out:cG.X→a9:=fun x=>⟨.d tH x,[],[]⟩
def cG.add:cG.D→cG.Y→cG.X:=fun(name,parts) y=>y
def cG.L0.aB:cG.L0.D→Prop:=fun(ps,m,i,n4,l)=>m=l.length∧∃k:Nat,k≤ps.length∧ps.length≤140737488350000∧i=k∧l.length+(gX (ps.drop k)).length≤140737488350000
def cG.L0.F:cG.L0.D→cG.L0.Y:=fun(ps,m,i,n4,l)=>(l.length+(gX (ps.drop i.toNat)).length,l++gX (ps.drop i.toNat))
def cG.aB:cG.D→Prop:=fun(name,ps)=>(qH (bh name) ps).length≤140737488350000
def cG.F:cG.D→cG.Y:=fun(name,ps)=>tag (bh name) ps
noncomputable def cG.G:dS:=eR (P:=Tryz.prog) [dP.sg,bz.sg]
noncomputable def cG.L0.E:=bO.cz cG.L0.st cG.L0.aB cG.L0.add cG.L0.F cG.L0.out
noncomputable def cG.L0.call:cG.L0.D→Option cG.L0.X:=dk cG.L0.E cG.L0.st
noncomputable def cG.an:eA:= {loops:=jY [(3,{bm:=[1,4,5,6],sites:=[4,11],ix:=[⟨5,[],11,25⟩]})],outs:=jX [(3,{bm:=[4,5],sites:=[4,11]},{bm:=[4]})],fJ:=kF [(3,cG.L0.E)]}
noncomputable def cG.A:= @cJ Tryz.prog cG.G cG.an 0 Tryz.f73 _ cG.st
abbrev cG.Ok:=cK @cG.A cG.aB cG.add cG.F cG.out
noncomputable def cG.L0.R:= @cg Tryz.prog cG.G cG.an 0 Tryz.f73 0 _ cG.L0.st
abbrev cG.L0.Ok:=eB Tryz.prog cG.G cG.an 0 Tryz.f73 0 cG.L0.st cG.L0.aB cG.L0.add cG.L0.F cG.L0.out
theorem cG.L0.run:bC cG.L0.call cG.L0.aB cG.L0.add cG.L0.F:=eI (eD [.d (.slice tB),.n,.d ti,.d tB,.d tB] fun _=>by kernel_rfl)
theorem cG.L0.aG:fR @cG.L0.R cG.L0.st cG.L0.aB cG.L0.add cG.L0.F cG.L0.bt cG.L0.Ok:=fV
theorem cG.L0.step{R:Type}(parts_2:(List Bs))(bL:Nat)(i:Int)(n4:Bs)(n11:(List Int))(kn:AS→Option R)(kx:Exit→AS→Option R):cG.L0.R (parts_2,bL,i,n4,n11) kn kx=
  aJ ((fZ i (((List.length parts_2):Nat):Int))) (
   aJ (ei i (((List.length parts_2):Nat):Int)) (
   ah (dP.call (dD .u64 (((List.length (nth tB parts_2 (Int.toNat i))):Nat):Int))) fun x1=>
   aJ (decide (0=0∧(0+x1.1)≤(List.length x1.2))) (
   aJ (decide (bL≤(List.length n11))) (
   aJ (dm (bL+(List.length (cut x1.2 0 x1.1))) 1) (
   aJ (ei i (((List.length parts_2):Nat):Int)) (
   aJ (decide ((bL+(List.length (cut x1.2 0 x1.1)))≤(List.length ((List.take bL n11)++(cut x1.2 0 x1.1))))) (
   aJ (dm ((bL+(List.length (cut x1.2 0 x1.1)))+(List.length (nth tB parts_2 (Int.toNat i)))) 1) (
   kn (cG.L0.st (parts_2,((bL+(List.length (cut x1.2 0 x1.1)))+(List.length (nth tB parts_2 (Int.toNat i)))),(bM .i64 i (1:Int)),n4,((List.take (bL+(List.length (cut x1.2 0 x1.1))) ((List.take bL n11)++(cut x1.2 0 x1.1)))++(nth tB parts_2 (Int.toNat i)))))) none) none) none) none) none) none) none) (
   kx (cG.L0.bt (n4,(bL,n11))).1 (cG.L0.bt (n4,(bL,n11))).2):=by kernel_rfl
theorem cG.eq{R:Type}(name:ByteArray)(parts:(List Bs))(k:a9→Option R):cG.A (name,parts) k=
 ah (dP.call (dD .u64 (((ByteArray.size name):Nat):Int))) fun x1=>
 aJ (decide (x1.1≤(List.length x1.2))) (
 aJ (dm (x1.1+(List.length (bh name))) 1) (
 ah (cG.L0.call (parts,(x1.1+(List.length (bh name))),(0:Int),(List.replicate 32 (0:Int)),((List.take x1.1 x1.2)++(bh name)))) fun x4=>
 aJ (decide (0=0∧(0+x4.2.1)≤(List.length x4.2.2))) (
 ah (bz.call (cut x4.2.2 0 x4.2.1)) fun x5=>
 k (cG.out x5)) none) none) none:=by kernel_rfl
theorem zm{n:Nat}(h:n < 18446744073709551616):dD .u64 ((n:Nat):Int)=n:=by rw[uX,fI];omega
theorem dP.at{n:Nat}(h:n < 18446744073709551616):dP.call (n:Int)=some (8,fM (n:Int)):=dP.run (d:=(n:Int)) (show 0≤(n:Int)∧(n:Int) < 18446744073709551616 from⟨by omega,by omega⟩)
theorem D6{l:List Int}{n:Nat}(h:l.length=n):cut l 0 n=l:=by unfold cut;rw[List.drop_zero,List.take_of_length_le (by omega)]
theorem cG.L0.ok:cG.L0.Ok:=by
 refine cG.L0.aG (fun(ps,m,i,n4,l)=>ps.length - i.toNat) ?_
 rintro⟨ps,m,i,n4,l⟩ ⟨rfl,k,hk,hpl,rfl,hl⟩
 have hk:k≤ps.length:=hk
 have hpl:ps.length≤140737488350000:=hpl
 have hl:l.length+(gX (ps.drop k)).length≤140737488350000:=hl
 by_cases h:k < ps.length
 ·left
  have ht:=uo ps k h
  have hlen:(gX (ps.drop k)).length=8+ps[k].length+(gX (ps.drop (k+1))).length:=by rw[ht];simp only[List.length_append,bK]
  have hn:nth (.slice (.int .u8)) ps k=ps[k]:=cC (t:= .slice (.int .u8)) h
  have hlb:(l++fM (ps[k].length:Int)).length=l.length+8:=by simp[bK]
  refine⟨(ps,(l++fM ps[k].length++ps[k]).length,((k+1:Nat):Int),n4,l++fM ps[k].length++ps[k]),⟨rfl,k+1,by omega,hpl,rfl,?_⟩,by simp only[Int.toNat_natCast];omega,?_,fun kn kx=> ?_⟩
  ·simp only[List.length_append,bK];omega
  ·simp only[cG.L0.add,cG.L0.F,Int.toNat_natCast,ht,List.append_assoc]
   simp only[List.length_append,bK,Nat.add_assoc]
  ·have c8:cut (fM (ps[k].length:Int)) 0 8=fM (ps[k].length:Int):=D6 (bK _)
   have h64:ps[k].length < 18446744073709551616:=by omega
   rw[cG.L0.step]
   simp(disch:=omega) only[↓S1,↓if_pos,↓if_neg,if_pos,if_neg,if_true,if_false,S2,hn,zm h64,dP.at h64,bK,c8,List.take_length,hlb,Nat.zero_add,Nat.le_refl,and_self,if_true]
   rw[List.take_of_length_le (by rw[hlb];omega)]
   simp only[List.length_append,bK,Nat.add_assoc]
 ·right
  obtain rfl:k=ps.length:=by omega
  intro R kn kx
  rw[cG.L0.step]
  simp(disch:=omega) only[↓S1,↓if_pos,↓if_neg,if_pos,if_neg,if_true,if_false,S2,cG.L0.add,cG.L0.F,List.drop_length]
  simp[gX]
theorem cG.ok:cG.Ok:=by
 rintro⟨name,ps⟩ hp
 have hp:(fM (bh name).length++bh name++gX ps).length≤140737488350000:=hp
 have hl:(fM (bh name).length++bh name++gX ps).length=8+(bh name).length+(gX ps).length:=by simp only[List.length_append,bK]
 have hpl:=sT ps
 have hsz:name.size=(bh name).length:=by rw[gj]
 have h64:(bh name).length < 18446744073709551616:=by omega
 have p2:cG.L0.aB (ps,8+(bh name).length,0,List.replicate 32 0,fM ((bh name).length:Int)++bh name):=by
  refine⟨by simp only[List.length_append,bK],0,Nat.zero_le _,by omega,rfl,?_⟩
  rw[List.drop_zero]
  simp only[List.length_append,bK]
  omega
 rw[cG.eq,hsz]
 simp(disch:=omega) only[↓S1,↓if_pos,↓if_neg,if_pos,if_neg,if_true,if_false,S2,zm h64,dP.at h64,bK,List.take_of_length_le (Nat.le_of_eq (bK _)),cG.L0.run p2,cG.L0.add,cG.L0.F,Int.toNat_zero,List.drop_zero,Nat.zero_add]
 have hcut:cut (fM ((bh name).length:Int)++bh name++gX ps) 0 ((fM ((bh name).length:Int)++bh name).length+(gX ps).length)=qH (bh name) ps:=D6 (by simp only[List.length_append])
 have p3:bz.aB (qH (bh name) ps):=hp
 rw[if_pos (by simp only[List.length_append];omega),hcut,bz.run p3]
 rfl
noncomputable def cG.E:=Entry.cz [some .str,some (.slice tB)] cG.st cG.aB cG.add cG.F cG.out
noncomputable def cG.call:cG.D→Option cG.X:=bH cG.E cG.st
theorem cG.run:bC cG.call cG.aB cG.add cG.F:=cQ (cP [.d .str,.d (.slice tB)] fun _=>by kernel_rfl)
noncomputable def cG.sg:SG Tryz.prog:=⟨73,aU,cG.E,.fn 1 (by kernel_rfl) cG.ok (And.intro (.cz cG.L0.ok (by kernel_rfl)) trivial)⟩
set_option synthInstance.maxSize 5000
theorem qb{n:Int}(h1:0≤n)(h2:n < 18446744073709551616):IntKind.u64.wrap n=n:=by
 rw[wrap_u64,fI];omega
theorem qa(n:Int):IntKind.u64.wrap n=n%18446744073709551616:=by
 rw[wrap_u64,fI];rfl
theorem kC(x y:Int):bM .u64 x y=(x+y)%18446744073709551616:=qa _
theorem rz(x y:Int):dg .u64 x y=(x - y)%18446744073709551616:=qa _
theorem kD(x y:Int):eW .u64 x y=(x*y)%18446744073709551616:=qa _
theorem A9(x:Int):dD .u64 x=x%18446744073709551616:=qa _
theorem vO{x:Int}(h:0≤x)(h2:x < 18446744073709551616):cn .and .u64 x 4294967295=x%4294967296:=by
 obtain⟨n,rfl⟩:∃n:Nat,x=n:=⟨x.toNat,by omega⟩
 have e:(BitVec.ofInt 64 (n:Int) &&& BitVec.ofInt 64 4294967295).toNat=n%4294967296:=by
  rw[BitVec.toNat_and]
  have a:(BitVec.ofInt 64 (n:Int)).toNat=n:=by rw[BitVec.ofInt_natCast,BitVec.toNat_ofNat];omega
  have b:(BitVec.ofInt 64 4294967295).toNat=2^32 - 1:=by decide
  rw[a,b,Nat.and_two_pow_sub_one_eq_mod]
 show IntKind.u64.wrap ((BitVec.ofInt 64 (n:Int) &&& BitVec.ofInt 64 4294967295).toNat:Int)=_
 rw[e,qb (by omega) (by omega)];omega
theorem EY{x:Int}(h:0≤x)(h2:x < 18446744073709551616):cn .and .u64 x 1=x%2:=by
 obtain⟨n,rfl⟩:∃n:Nat,x=n:=⟨x.toNat,by omega⟩
 have e:(BitVec.ofInt 64 (n:Int) &&& BitVec.ofInt 64 1).toNat=n%2:=by
  rw[BitVec.toNat_and]
  have a:(BitVec.ofInt 64 (n:Int)).toNat=n:=by rw[BitVec.ofInt_natCast,BitVec.toNat_ofNat];omega
  have b:(BitVec.ofInt 64 1).toNat=2^1 - 1:=by decide
  rw[a,b,Nat.and_two_pow_sub_one_eq_mod]
 show IntKind.u64.wrap ((BitVec.ofInt 64 (n:Int) &&& BitVec.ofInt 64 1).toNat:Int)=_
 rw[e,qb (by omega) (by omega)];omega
theorem jP{x k:Int}(n:Nat)(hk:k=n)(hn:n≤64):bJ .u64 x k=x / 2^n:=by
 subst hk
 rw[bJ]
 have e:min (Int.toNat (n:Int)) IntKind.u64.bits=n:=by simp only[IntKind.bits];omega
 rw[e,Int.fdiv_eq_ediv_of_nonneg _ (Int.le_of_lt (Int.pow_pos (by omega)))]
theorem jO{x k:Int}(n:Nat)(hk:k=n)(hn:n≤64):gw .u64 x k=x*2^n%18446744073709551616:=by
 subst hk
 rw[gw,qa]
 have e:min (Int.toNat (n:Int)) IntKind.u64.bits=n:=by simp only[IntKind.bits];omega
 rw[e]
theorem pF{x y:Int}(k:Nat)(m:Int)(hm:m=2^k)(hx:x%m=0)(h0:0≤x)(h1:x < 18446744073709551616)(hy:0≤y)(hy2:y < m)(h2:x+y < 18446744073709551616):cn .or .u64 x y=x+y:=by
 subst hm
 obtain⟨n,rfl⟩:∃n:Nat,x=n:=⟨x.toNat,by omega⟩
 obtain⟨j,rfl⟩:∃j:Nat,y=j:=⟨y.toNat,by omega⟩
 have hx:n%2^k=0:=by
  have:((n%2^k:Nat):Int)=0:=by rw[Int.natCast_emod];simpa using hx
  omega
 have hj:j < 2^k:=by
  have:((j:Nat):Int) < ((2^k:Nat):Int):=by simpa using hy2
  omega
 obtain⟨q,rfl⟩:∃q,n=2^k*q:=⟨n / 2^k,by have:=Nat.div_add_mod n (2^k);omega⟩
 have e:(BitVec.ofInt 64 ((2^k*q:Nat):Int) ||| BitVec.ofInt 64 (j:Int)).toNat=2^k*q+j:=by
  rw[BitVec.toNat_or]
  have a:(BitVec.ofInt 64 ((2^k*q:Nat):Int)).toNat=2^k*q:=by rw[BitVec.ofInt_natCast,BitVec.toNat_ofNat];exact Nat.mod_eq_of_lt (by omega)
  have b:(BitVec.ofInt 64 (j:Int)).toNat=j:=by rw[BitVec.ofInt_natCast,BitVec.toNat_ofNat];exact Nat.mod_eq_of_lt (by omega)
  rw[a,b,Nat.two_pow_add_eq_or_of_lt hj]
 show IntKind.u64.wrap ((BitVec.ofInt 64 ((2^k*q:Nat):Int) ||| BitVec.ofInt 64 (j:Int)).toNat:Int)=_
 rw[e,qb (by omega) (by omega)];omega
theorem yW{x y:Int}(h:0≤x)(h1:0≤y)(h2:x < 18446744073709551616):kS .u64 x y=x / y:=by
 rw[kS,Int.tdiv_eq_ediv_of_nonneg h]
 exact qb (Int.ediv_nonneg h h1) (Int.lt_of_le_of_lt (Int.ediv_le_self _ h) h2)
theorem nS{x y:Int}(h:0≤x):iZ x y=x%y:=by rw[iZ,Int.tmod_eq_emod_of_nonneg h]
theorem k1{e u w r q:Int}(he:e=42260∨e=42264∨e=42272)(hu:0≤u)(hu2:u < 18446744073709551616 - e)(hw:0≤w)(hw2:w < 4294967296)(hr:0≤r)(hr2:r < 4294967296)
  (hq:q*4294967295+r=u) (hQ:(u*4294967296+w) / (18446744073709551616 - e)≤q):
  (4294967296≤q→(u*4294967296+w) / (18446744073709551616 - e)≤q - 1)∧
  (q < 4294967296→4294967296*r+w < q*(4294967296 - e)→(u*4294967296+w) / (18446744073709551616 - e)≤q - 1)∧
  (q < 4294967296→q*(4294967296 - e)≤4294967296*r+w→(u*4294967296+w) / (18446744073709551616 - e)=q)∧
  (4294967296≤r+4294967295→(u*4294967296+w) / (18446744073709551616 - e)≤q - 1→(u*4294967296+w) / (18446744073709551616 - e)=q - 1)∧0≤(u*4294967296+w) / (18446744073709551616 - e)∧q≤4294967297:=by
 rcases he with rfl | rfl | rfl
 ·refine⟨?_,?_,?_,?_,?_,?_⟩ <;> omega
 ·refine⟨?_,?_,?_,?_,?_,?_⟩ <;> omega
 ·refine⟨?_,?_,?_,?_,?_,?_⟩ <;> omega
theorem k0{e u w:Int}(he:e=42260∨e=42264∨e=42272)(hu:0≤u)(hu2:u < 18446744073709551616 - e)(hw:0≤w)(hw2:w < 4294967296):
  (u*4294967296+w) / (18446744073709551616 - e)≤u / 4294967295∧0≤u - u / 4294967295*4294967295∧u - u / 4294967295*4294967295 < 4294967296∧
  (u*4294967296+w) - (u*4294967296+w) / (18446744073709551616 - e)*(18446744073709551616 - e)=(u*4294967296+w)%(18446744073709551616 - e)∧
  0≤(u*4294967296+w)%(18446744073709551616 - e)∧(u*4294967296+w)%(18446744073709551616 - e) < 18446744073709551616 - e∧
  0≤(u*4294967296+w) / (18446744073709551616 - e)∧(u*4294967296+w) / (18446744073709551616 - e) < 4294967296:=by
 rcases he with rfl | rfl | rfl
 ·refine⟨?_,?_,?_,?_,?_,?_,?_,?_⟩ <;> omega
 ·refine⟨?_,?_,?_,?_,?_,?_,?_,?_⟩ <;> omega
 ·refine⟨?_,?_,?_,?_,?_,?_,?_,?_⟩ <;> omega
theorem kd(Y u w1 w0:Int)(hY:0 < Y)(h0:0≤w0)(h1:w0 < 4294967296):
  ((u*4294967296+w1)*4294967296+w0) / Y=(u*4294967296+w1) / Y*4294967296+((u*4294967296+w1)%Y*4294967296+w0) / Y∧
  ((u*4294967296+w1)*4294967296+w0)%Y=((u*4294967296+w1)%Y*4294967296+w0)%Y:=by
 generalize u*4294967296+w1=n
 have e:n*4294967296+w0=(n%Y*4294967296+w0)+Y*(n / Y*4294967296):=by
  have:=Int.emod_add_mul_ediv n Y
  have h:Y*(n / Y*4294967296)=(Y*(n / Y))*4294967296:=by rw[Int.mul_assoc]
  rw[h];omega
 rw[e,Int.add_mul_ediv_left _ _ (by omega),Int.add_mul_emod_self_left]
 exact⟨by omega,rfl⟩
abbrev dH.D:=Int
def dH.st:dH.D→SA:=fun x=>([.d tu x],[])
abbrev dH.Y:=Int
abbrev dH.X:=Int
def dH.out:dH.X→a9:=fun x=>⟨.d ti x,[],[]⟩
def dH.add:dH.D→dH.Y→dH.X:=fun x y=>y
def Ef(y:Int):Prop:=y=4611686018427377339∨y=2305843009213688669∨y=2305843009213688668
def dH.aB:dH.D→Prop:=Ef
def dH.F:dH.D→dH.Y:=fun y=>if y=4611686018427377339 then 62 else 61
noncomputable def dH.G:dS:=eR (P:=Tryz.prog) []
noncomputable def dH.an:eA:= {}
noncomputable def dH.A:= @cJ Tryz.prog dH.G dH.an 0 Tryz.f183 _ dH.st
abbrev dH.Ok:=cK @dH.A dH.aB dH.add dH.F dH.out
theorem dH.eq{R:Type}(x:Int)(k:a9→Option R):dH.A x k=
  aJ ((mU x (4294967296:Int))) (
   aJ ((mU (bJ .u64 x (32:Int)) (65536:Int))) (
    aJ ((mU (bJ .u64 (bJ .u64 x (32:Int)) (16:Int)) (256:Int))) (
     aJ (ei (dD .u8 (bJ .u64 (bJ .u64 (bJ .u64 x (32:Int)) (16:Int)) (8:Int))) (256:Int)) (
     k (dH.out (bM .i64 (56:Int) (dD .i64 (xj (⟨#[0,1,2,2,3,3,3,3,4,4,4,4,4,4,4,4,5,5,5,5,5,5,5,5,5,5,5,5,5,5,5,5,6,6,6,6,6,6,6,6,6,6,6,6,6,6,6,6,6,6,6,6,6,6,6,6,6,6,6,6,6,6,6,6,7,7,7,7,7,7,7,7,7,7,7,7,7,7,7,7,7,7,7,7,7,7,7,7,7,7,7,7,7,7,7,7,7,7,7,7,7,7,7,7,7,7,7,7,7,7,7,7,7,7,7,7,7,7,7,7,7,7,7,7,7,7,7,7,8,8,8,8,8,8,8,8,8,8,8,8,8,8,8,8,8,8,8,8,8,8,8,8,8,8,8,8,8,8,8,8,8,8,8,8,8,8,8,8,8,8,8,8,8,8,8,8,8,8,8,8,8,8,8,8,8,8,8,8,8,8,8,8,8,8,8,8,8,8,8,8,8,8,8,8,8,8,8,8,8,8,8,8,8,8,8,8,8,8,8,8,8,8,8,8,8,8,8,8,8,8,8,8,8,8,8,8,8,8,8,8,8,8,8,8,8,8,8,8,8,8,8,8,8,8,8,8]⟩:ByteArray) (dD .u8 (bJ .u64 (bJ .u64 (bJ .u64 x (32:Int)) (16:Int)) (8:Int)))))))) none) (
     aJ (ei (dD .u8 (bJ .u64 (bJ .u64 x (32:Int)) (16:Int))) (256:Int)) (
     k (dH.out (bM .i64 (48:Int) (dD .i64 (xj (⟨#[0,1,2,2,3,3,3,3,4,4,4,4,4,4,4,4,5,5,5,5,5,5,5,5,5,5,5,5,5,5,5,5,6,6,6,6,6,6,6,6,6,6,6,6,6,6,6,6,6,6,6,6,6,6,6,6,6,6,6,6,6,6,6,6,7,7,7,7,7,7,7,7,7,7,7,7,7,7,7,7,7,7,7,7,7,7,7,7,7,7,7,7,7,7,7,7,7,7,7,7,7,7,7,7,7,7,7,7,7,7,7,7,7,7,7,7,7,7,7,7,7,7,7,7,7,7,7,7,8,8,8,8,8,8,8,8,8,8,8,8,8,8,8,8,8,8,8,8,8,8,8,8,8,8,8,8,8,8,8,8,8,8,8,8,8,8,8,8,8,8,8,8,8,8,8,8,8,8,8,8,8,8,8,8,8,8,8,8,8,8,8,8,8,8,8,8,8,8,8,8,8,8,8,8,8,8,8,8,8,8,8,8,8,8,8,8,8,8,8,8,8,8,8,8,8,8,8,8,8,8,8,8,8,8,8,8,8,8,8,8,8,8,8,8,8,8,8,8,8,8,8,8,8,8,8,8]⟩:ByteArray) (dD .u8 (bJ .u64 (bJ .u64 x (32:Int)) (16:Int)))))))) none)) (
    aJ ((mU (bJ .u64 x (32:Int)) (256:Int))) (
     aJ (ei (dD .u8 (bJ .u64 (bJ .u64 x (32:Int)) (8:Int))) (256:Int)) (
     k (dH.out (bM .i64 (40:Int) (dD .i64 (xj (⟨#[0,1,2,2,3,3,3,3,4,4,4,4,4,4,4,4,5,5,5,5,5,5,5,5,5,5,5,5,5,5,5,5,6,6,6,6,6,6,6,6,6,6,6,6,6,6,6,6,6,6,6,6,6,6,6,6,6,6,6,6,6,6,6,6,7,7,7,7,7,7,7,7,7,7,7,7,7,7,7,7,7,7,7,7,7,7,7,7,7,7,7,7,7,7,7,7,7,7,7,7,7,7,7,7,7,7,7,7,7,7,7,7,7,7,7,7,7,7,7,7,7,7,7,7,7,7,7,7,8,8,8,8,8,8,8,8,8,8,8,8,8,8,8,8,8,8,8,8,8,8,8,8,8,8,8,8,8,8,8,8,8,8,8,8,8,8,8,8,8,8,8,8,8,8,8,8,8,8,8,8,8,8,8,8,8,8,8,8,8,8,8,8,8,8,8,8,8,8,8,8,8,8,8,8,8,8,8,8,8,8,8,8,8,8,8,8,8,8,8,8,8,8,8,8,8,8,8,8,8,8,8,8,8,8,8,8,8,8,8,8,8,8,8,8,8,8,8,8,8,8,8,8,8,8,8,8]⟩:ByteArray) (dD .u8 (bJ .u64 (bJ .u64 x (32:Int)) (8:Int)))))))) none) (
     aJ (ei (dD .u8 (bJ .u64 x (32:Int))) (256:Int)) (
     k (dH.out (bM .i64 (32:Int) (dD .i64 (xj (⟨#[0,1,2,2,3,3,3,3,4,4,4,4,4,4,4,4,5,5,5,5,5,5,5,5,5,5,5,5,5,5,5,5,6,6,6,6,6,6,6,6,6,6,6,6,6,6,6,6,6,6,6,6,6,6,6,6,6,6,6,6,6,6,6,6,7,7,7,7,7,7,7,7,7,7,7,7,7,7,7,7,7,7,7,7,7,7,7,7,7,7,7,7,7,7,7,7,7,7,7,7,7,7,7,7,7,7,7,7,7,7,7,7,7,7,7,7,7,7,7,7,7,7,7,7,7,7,7,7,8,8,8,8,8,8,8,8,8,8,8,8,8,8,8,8,8,8,8,8,8,8,8,8,8,8,8,8,8,8,8,8,8,8,8,8,8,8,8,8,8,8,8,8,8,8,8,8,8,8,8,8,8,8,8,8,8,8,8,8,8,8,8,8,8,8,8,8,8,8,8,8,8,8,8,8,8,8,8,8,8,8,8,8,8,8,8,8,8,8,8,8,8,8,8,8,8,8,8,8,8,8,8,8,8,8,8,8,8,8,8,8,8,8,8,8,8,8,8,8,8,8,8,8,8,8,8,8]⟩:ByteArray) (dD .u8 (bJ .u64 x (32:Int)))))))) none))) (
   aJ ((mU x (65536:Int))) (
    aJ ((mU (bJ .u64 x (16:Int)) (256:Int))) (
     aJ (ei (dD .u8 (bJ .u64 (bJ .u64 x (16:Int)) (8:Int))) (256:Int)) (
     k (dH.out (bM .i64 (24:Int) (dD .i64 (xj (⟨#[0,1,2,2,3,3,3,3,4,4,4,4,4,4,4,4,5,5,5,5,5,5,5,5,5,5,5,5,5,5,5,5,6,6,6,6,6,6,6,6,6,6,6,6,6,6,6,6,6,6,6,6,6,6,6,6,6,6,6,6,6,6,6,6,7,7,7,7,7,7,7,7,7,7,7,7,7,7,7,7,7,7,7,7,7,7,7,7,7,7,7,7,7,7,7,7,7,7,7,7,7,7,7,7,7,7,7,7,7,7,7,7,7,7,7,7,7,7,7,7,7,7,7,7,7,7,7,7,8,8,8,8,8,8,8,8,8,8,8,8,8,8,8,8,8,8,8,8,8,8,8,8,8,8,8,8,8,8,8,8,8,8,8,8,8,8,8,8,8,8,8,8,8,8,8,8,8,8,8,8,8,8,8,8,8,8,8,8,8,8,8,8,8,8,8,8,8,8,8,8,8,8,8,8,8,8,8,8,8,8,8,8,8,8,8,8,8,8,8,8,8,8,8,8,8,8,8,8,8,8,8,8,8,8,8,8,8,8,8,8,8,8,8,8,8,8,8,8,8,8,8,8,8,8,8,8]⟩:ByteArray) (dD .u8 (bJ .u64 (bJ .u64 x (16:Int)) (8:Int)))))))) none) (
     aJ (ei (dD .u8 (bJ .u64 x (16:Int))) (256:Int)) (
     k (dH.out (bM .i64 (16:Int) (dD .i64 (xj (⟨#[0,1,2,2,3,3,3,3,4,4,4,4,4,4,4,4,5,5,5,5,5,5,5,5,5,5,5,5,5,5,5,5,6,6,6,6,6,6,6,6,6,6,6,6,6,6,6,6,6,6,6,6,6,6,6,6,6,6,6,6,6,6,6,6,7,7,7,7,7,7,7,7,7,7,7,7,7,7,7,7,7,7,7,7,7,7,7,7,7,7,7,7,7,7,7,7,7,7,7,7,7,7,7,7,7,7,7,7,7,7,7,7,7,7,7,7,7,7,7,7,7,7,7,7,7,7,7,7,8,8,8,8,8,8,8,8,8,8,8,8,8,8,8,8,8,8,8,8,8,8,8,8,8,8,8,8,8,8,8,8,8,8,8,8,8,8,8,8,8,8,8,8,8,8,8,8,8,8,8,8,8,8,8,8,8,8,8,8,8,8,8,8,8,8,8,8,8,8,8,8,8,8,8,8,8,8,8,8,8,8,8,8,8,8,8,8,8,8,8,8,8,8,8,8,8,8,8,8,8,8,8,8,8,8,8,8,8,8,8,8,8,8,8,8,8,8,8,8,8,8,8,8,8,8,8,8]⟩:ByteArray) (dD .u8 (bJ .u64 x (16:Int)))))))) none)) (
    aJ ((mU x (256:Int))) (
     aJ (ei (dD .u8 (bJ .u64 x (8:Int))) (256:Int)) (
     k (dH.out (bM .i64 (8:Int) (dD .i64 (xj (⟨#[0,1,2,2,3,3,3,3,4,4,4,4,4,4,4,4,5,5,5,5,5,5,5,5,5,5,5,5,5,5,5,5,6,6,6,6,6,6,6,6,6,6,6,6,6,6,6,6,6,6,6,6,6,6,6,6,6,6,6,6,6,6,6,6,7,7,7,7,7,7,7,7,7,7,7,7,7,7,7,7,7,7,7,7,7,7,7,7,7,7,7,7,7,7,7,7,7,7,7,7,7,7,7,7,7,7,7,7,7,7,7,7,7,7,7,7,7,7,7,7,7,7,7,7,7,7,7,7,8,8,8,8,8,8,8,8,8,8,8,8,8,8,8,8,8,8,8,8,8,8,8,8,8,8,8,8,8,8,8,8,8,8,8,8,8,8,8,8,8,8,8,8,8,8,8,8,8,8,8,8,8,8,8,8,8,8,8,8,8,8,8,8,8,8,8,8,8,8,8,8,8,8,8,8,8,8,8,8,8,8,8,8,8,8,8,8,8,8,8,8,8,8,8,8,8,8,8,8,8,8,8,8,8,8,8,8,8,8,8,8,8,8,8,8,8,8,8,8,8,8,8,8,8,8,8,8]⟩:ByteArray) (dD .u8 (bJ .u64 x (8:Int)))))))) none) (
     aJ (ei (dD .u8 x) (256:Int)) (
     k (dH.out (bM .i64 (0:Int) (dD .i64 (xj (⟨#[0,1,2,2,3,3,3,3,4,4,4,4,4,4,4,4,5,5,5,5,5,5,5,5,5,5,5,5,5,5,5,5,6,6,6,6,6,6,6,6,6,6,6,6,6,6,6,6,6,6,6,6,6,6,6,6,6,6,6,6,6,6,6,6,7,7,7,7,7,7,7,7,7,7,7,7,7,7,7,7,7,7,7,7,7,7,7,7,7,7,7,7,7,7,7,7,7,7,7,7,7,7,7,7,7,7,7,7,7,7,7,7,7,7,7,7,7,7,7,7,7,7,7,7,7,7,7,7,8,8,8,8,8,8,8,8,8,8,8,8,8,8,8,8,8,8,8,8,8,8,8,8,8,8,8,8,8,8,8,8,8,8,8,8,8,8,8,8,8,8,8,8,8,8,8,8,8,8,8,8,8,8,8,8,8,8,8,8,8,8,8,8,8,8,8,8,8,8,8,8,8,8,8,8,8,8,8,8,8,8,8,8,8,8,8,8,8,8,8,8,8,8,8,8,8,8,8,8,8,8,8,8,8,8,8,8,8,8,8,8,8,8,8,8,8,8,8,8,8,8,8,8,8,8,8,8]⟩:ByteArray) (dD .u8 x)))))) none))):=by kernel_rfl
theorem dH.ok:dH.Ok:=by
 intro y h
 rw[dH.eq]
 obtain rfl | rfl | rfl:=h <;> kernel_rfl
noncomputable def dH.E:=Entry.cz [some tu] dH.st dH.aB dH.add dH.F dH.out
noncomputable def dH.call:dH.D→Option dH.X:=bH dH.E dH.st
theorem dH.run:bC dH.call dH.aB dH.add dH.F:=cQ (cP [.d tu] fun _=>by kernel_rfl)
noncomputable def dH.sg:SG Tryz.prog:=⟨183,aU,dH.E,.fn 0 (by kernel_rfl) dH.ok trivial⟩
abbrev fw.D:=Int
def fw.st:fw.D→SA:=fun x=>([.d tu x],[])
abbrev fw.Y:=Int
abbrev fw.X:=Int
def fw.out:fw.X→a9:=fun x=>⟨.d ti x,[],[]⟩
def fw.add:fw.D→fw.Y→fw.X:=fun x y=>y
def fw.aB:fw.D→Prop:=Ef
def fw.F:fw.D→fw.Y:=fun y=>if y=4611686018427377339 then 2 else 3
noncomputable def fw.G:dS:=eR (P:=Tryz.prog) [dH.sg]
noncomputable def fw.an:eA:= {}
noncomputable def fw.A:= @cJ Tryz.prog fw.G fw.an 0 Tryz.f182 _ fw.st
abbrev fw.Ok:=cK @fw.A fw.aB fw.add fw.F fw.out
theorem fw.eq{R:Type}(x:Int)(k:a9→Option R):fw.A x k=
 ah (dH.call x) fun x1=>
 k (fw.out (dg .i64 (64:Int) x1)):=by kernel_rfl
theorem fw.ok:fw.Ok:=by
 intro y h
 rw[fw.eq,dH.run (d:=y) h]
 obtain rfl | rfl | rfl:=h <;> rfl
noncomputable def fw.E:=Entry.cz [some tu] fw.st fw.aB fw.add fw.F fw.out
noncomputable def fw.call:fw.D→Option fw.X:=bH fw.E fw.st
theorem fw.run:bC fw.call fw.aB fw.add fw.F:=cQ (cP [.d tu] fun _=>by kernel_rfl)
noncomputable def fw.sg:SG Tryz.prog:=⟨182,aU,fw.E,.fn 0 (by kernel_rfl) fw.ok trivial⟩
set_option synthInstance.maxSize 5000
abbrev aR.L0.D:=Int×Int×Int×Int×Int×Int×Int×Int×Int
def aR.L0.st:aR.L0.D→AS:=fun(yv_2,sv,yn1,yn0,un32,un1,un0,q1,rhat)=>⟨([.undef,.undef,.d tu yv_2]++bg 5 ([.d tu sv,.d tu yn1,.d tu yn0,.d tu un32,.undef,.d tu un1,.d tu un0,.d tu q1,.d tu rhat]++bg 118 [])),[],(List.replicate 135 [])⟩
abbrev aR.L0.Y0:=Int
abbrev aR.L0.X0:=(Int×Int×Int×Int×Int×Int×Int)×(Int)
def aR.L0.bt:aR.L0.X0→Exit×AS:=fun x=>(.exit 0,⟨([.undef,.undef,.d tu x.1.1]++bg 5 ([.d tu x.1.2.1,.d tu x.1.2.2.1,.d tu x.1.2.2.2.1,.d tu x.1.2.2.2.2.1,.undef,.d tu x.1.2.2.2.2.2.1,.d tu x.1.2.2.2.2.2.2,.d tu x.2]++bg 119 [])),[],(List.replicate 135 [])⟩)
abbrev aR.L0.X:=aR.L0.X0
abbrev aR.L0.Y:=aR.L0.Y0
def aR.L0.out:aR.L0.X→Out (Exit×AS):=fun x=> .ok (aR.L0.bt x)
def aR.L0.add:aR.L0.D→aR.L0.Y→aR.L0.X:=fun(yv_2,sv,yn1,yn0,un32,un1,un0,q1,rhat) y=>((yv_2,sv,yn1,yn0,un32,un1,un0),y)
abbrev aR.L1.D:=Int×Int×Int×Int×Int×Int×Int×Int×Int
def aR.L1.st:aR.L1.D→AS:=fun(yv_3,sv_2,yn1_2,yn0_2,un0_2,q1_2,rhat_2,un21,q0)=>⟨([.undef,.undef,.d tu yv_3]++bg 5 ([.d tu sv_2,.d tu yn1_2,.d tu yn0_2,.undef,.undef,.undef,.d tu un0_2,.d tu q1_2,.d tu rhat_2,.d tu un21,.d tu q0]++bg 116 [])),[],(List.replicate 135 [])⟩
abbrev aR.L1.Y0:=Int
abbrev aR.L1.X0:=(Int×Int×Int×Int×Int)×(Int)
def aR.L1.bt:aR.L1.X0→Exit×AS:=fun x=>(.exit 2,⟨([.undef,.undef,.d tu x.1.1]++bg 5 ([.d tu x.1.2.1]++bg 5 ([.d tu x.1.2.2.1,.d tu x.1.2.2.2.1,.undef,.d tu x.1.2.2.2.2,.d tu x.2]++bg 116 []))),[],(List.replicate 135 [])⟩)
abbrev aR.L1.X:=aR.L1.X0
abbrev aR.L1.Y:=aR.L1.Y0
def aR.L1.out:aR.L1.X→Out (Exit×AS):=fun x=> .ok (aR.L1.bt x)
def aR.L1.add:aR.L1.D→aR.L1.Y→aR.L1.X:=fun(yv_3,sv_2,yn1_2,yn0_2,un0_2,q1_2,rhat_2,un21,q0) y=>((yv_3,sv_2,un0_2,q1_2,un21),y)
abbrev aR.D:=Int×Int×Int
def aR.st:aR.D→SA:=fun(hi,lo,yv)=>([.d tu hi,.d tu lo,.d tu yv],[])
abbrev aR.Y:=Int×Int
abbrev aR.X:=Int×Int
def aR.out:aR.X→a9:=fun x=>⟨.cons (.d tu x.1) (.cons (.d tu x.2) (.nil)),[],[]⟩
def aR.add:aR.D→aR.Y→aR.X:=fun(hi,lo,yv) y=>y
def aR.L0.aB:aR.L0.D→Prop:=fun(y,sv,yn1,yn0,u,w,un0,q,r)=>∃e:Int,(e=42260∨e=42264∨e=42272)∧y=18446744073709551616 - e∧yn1=4294967295∧yn0=4294967296 - e∧0≤u∧u < 18446744073709551616 - e∧0≤w∧w < 4294967296∧0≤r∧r < 4294967296∧q*4294967295+r=u∧(u*4294967296+w) / (18446744073709551616 - e)≤q
def aR.L0.F:aR.L0.D→aR.L0.Y:=fun(y,sv,yn1,yn0,u,w,un0,q,r)=>(u*4294967296+w) / y
def aR.L1.aB:aR.L1.D→Prop:=fun(y,sv,yn1,yn0,w,q1,r,u,q)=>∃e:Int,(e=42260∨e=42264∨e=42272)∧y=18446744073709551616 - e∧yn1=4294967295∧yn0=4294967296 - e∧0≤u∧u < 18446744073709551616 - e∧0≤w∧w < 4294967296∧0≤r∧r < 4294967296∧q*4294967295+r=u∧(u*4294967296+w) / (18446744073709551616 - e)≤q
def aR.L1.F:aR.L1.D→aR.L1.Y:=fun(y,sv,yn1,yn0,w,q1,r,u,q)=>(u*4294967296+w) / y
def aR.aB:aR.D→Prop:=fun(hi,lo,y)=>Ef y∧0≤hi∧hi < y∧0≤lo∧lo < 18446744073709551616
def aR.F:aR.D→aR.Y:=fun(hi,lo,y)=>((hi*18446744073709551616+lo) / y,(hi*18446744073709551616+lo)%y)
noncomputable def aR.G:dS:=eR (P:=Tryz.prog) [fw.sg]
noncomputable def aR.L0.E:=bO.cz aR.L0.st aR.L0.aB aR.L0.add aR.L0.F aR.L0.out
noncomputable def aR.L0.call:aR.L0.D→Option aR.L0.X:=dk aR.L0.E aR.L0.st
noncomputable def aR.L1.E:=bO.cz aR.L1.st aR.L1.aB aR.L1.add aR.L1.F aR.L1.out
noncomputable def aR.L1.call:aR.L1.D→Option aR.L1.X:=dk aR.L1.E aR.L1.st
noncomputable def aR.an:eA:= {loops:=jY [(17,{bm:=[2,8,9,10,11,13,14,15,16]}),(24,{bm:=[2,8,9,10,14,15,16,17,18]})],outs:=jX [(17,{bm:=[2,8,9,10,11,13,14,15]},{bm:=[6,7]}),(24,{bm:=[2,8,14,15,17,18]},{bm:=[6,7]})],fJ:=kF [(17,aR.L0.E),(24,aR.L1.E)]}
noncomputable def aR.A:= @cJ Tryz.prog aR.G aR.an 0 Tryz.f174 _ aR.st
abbrev aR.Ok:=cK @aR.A aR.aB aR.add aR.F aR.out
noncomputable def aR.L0.R:= @cg Tryz.prog aR.G aR.an 0 Tryz.f174 0 _ aR.L0.st
abbrev aR.L0.Ok:=eB Tryz.prog aR.G aR.an 0 Tryz.f174 0 aR.L0.st aR.L0.aB aR.L0.add aR.L0.F aR.L0.out
noncomputable def aR.L1.R:= @cg Tryz.prog aR.G aR.an 0 Tryz.f174 1 _ aR.L1.st
abbrev aR.L1.Ok:=eB Tryz.prog aR.G aR.an 0 Tryz.f174 1 aR.L1.st aR.L1.aB aR.L1.add aR.L1.F aR.L1.out
theorem aR.L0.run:bC aR.L0.call aR.L0.aB aR.L0.add aR.L0.F:=eI (eD [.d tu,.d tu,.d tu,.d tu,.d tu,.d tu,.d tu,.d tu,.d tu] fun _=>by kernel_rfl)
theorem aR.L0.aG:fR @aR.L0.R aR.L0.st aR.L0.aB aR.L0.add aR.L0.F aR.L0.bt aR.L0.Ok:=fV
theorem aR.L0.step{R:Type}(yv_2:Int)(sv:Int)(yn1:Int)(yn0:Int)(un32:Int)(un1:Int)(un0:Int)(q1:Int)(rhat:Int)(kn:AS→Option R)(kx:Exit→AS→Option R):aR.L0.R (yv_2,sv,yn1,yn0,un32,un1,un0,q1,rhat) kn kx=
  aJ ((mU q1 (4294967296:Int))) (
   aJ ((mU (bM .u64 rhat yn1) (4294967296:Int))) (
    kx (aR.L0.bt ((yv_2,sv,yn1,yn0,un32,un1,un0),(dg .u64 q1 (1:Int)))).1 (aR.L0.bt ((yv_2,sv,yn1,yn0,un32,un1,un0),(dg .u64 q1 (1:Int)))).2) (
    kn (aR.L0.st (yv_2,sv,yn1,yn0,un32,un1,un0,(dg .u64 q1 (1:Int)),(bM .u64 rhat yn1))))) (
   aJ ((oJ (eW .u64 q1 yn0) (bM .u64 (eW .u64 (4294967296:Int) rhat) un1))) (
    aJ ((mU (bM .u64 rhat yn1) (4294967296:Int))) (
     kx (aR.L0.bt ((yv_2,sv,yn1,yn0,un32,un1,un0),(dg .u64 q1 (1:Int)))).1 (aR.L0.bt ((yv_2,sv,yn1,yn0,un32,un1,un0),(dg .u64 q1 (1:Int)))).2) (
     kn (aR.L0.st (yv_2,sv,yn1,yn0,un32,un1,un0,(dg .u64 q1 (1:Int)),(bM .u64 rhat yn1))))) (
    kx (aR.L0.bt ((yv_2,sv,yn1,yn0,un32,un1,un0),q1)).1 (aR.L0.bt ((yv_2,sv,yn1,yn0,un32,un1,un0),q1)).2)):=by kernel_rfl
theorem aR.L1.run:bC aR.L1.call aR.L1.aB aR.L1.add aR.L1.F:=eI (eD [.d tu,.d tu,.d tu,.d tu,.d tu,.d tu,.d tu,.d tu,.d tu] fun _=>by kernel_rfl)
theorem aR.L1.aG:fR @aR.L1.R aR.L1.st aR.L1.aB aR.L1.add aR.L1.F aR.L1.bt aR.L1.Ok:=fV
theorem aR.L1.step{R:Type}(yv_3:Int)(sv_2:Int)(yn1_2:Int)(yn0_2:Int)(un0_2:Int)(q1_2:Int)(rhat_2:Int)(un21:Int)(q0:Int)(kn:AS→Option R)(kx:Exit→AS→Option R):aR.L1.R (yv_3,sv_2,yn1_2,yn0_2,un0_2,q1_2,rhat_2,un21,q0) kn kx=
  aJ ((mU q0 (4294967296:Int))) (
   aJ ((mU (bM .u64 rhat_2 yn1_2) (4294967296:Int))) (
    kx (aR.L1.bt ((yv_3,sv_2,un0_2,q1_2,un21),(dg .u64 q0 (1:Int)))).1 (aR.L1.bt ((yv_3,sv_2,un0_2,q1_2,un21),(dg .u64 q0 (1:Int)))).2) (
    kn (aR.L1.st (yv_3,sv_2,yn1_2,yn0_2,un0_2,q1_2,(bM .u64 rhat_2 yn1_2),un21,(dg .u64 q0 (1:Int)))))) (
   aJ ((oJ (eW .u64 q0 yn0_2) (bM .u64 (eW .u64 (4294967296:Int) rhat_2) un0_2))) (
    aJ ((mU (bM .u64 rhat_2 yn1_2) (4294967296:Int))) (
     kx (aR.L1.bt ((yv_3,sv_2,un0_2,q1_2,un21),(dg .u64 q0 (1:Int)))).1 (aR.L1.bt ((yv_3,sv_2,un0_2,q1_2,un21),(dg .u64 q0 (1:Int)))).2) (
     kn (aR.L1.st (yv_3,sv_2,yn1_2,yn0_2,un0_2,q1_2,(bM .u64 rhat_2 yn1_2),un21,(dg .u64 q0 (1:Int)))))) (
    kx (aR.L1.bt ((yv_3,sv_2,un0_2,q1_2,un21),q0)).1 (aR.L1.bt ((yv_3,sv_2,un0_2,q1_2,un21),q0)).2)):=by kernel_rfl
theorem aR.eq{R:Type}(hi:Int)(lo:Int)(yv:Int)(k:a9→Option R):aR.A (hi,lo,yv) k=
  aJ ((kI yv (0:Int))) (
   none) (
   aJ ((zP yv hi)) (
    none) (
    aJ ((kI hi (0:Int))) (
     aJ (iE yv) (
     aJ (iE yv) (
     k (aR.out ((kS .u64 lo yv),(iZ lo yv)))) none) none) (
     ah (fw.call yv) fun x1=>
     aJ (gJ (dD .u64 x1)) (
     aJ (gJ (dD .u64 x1)) (
     aJ (gJ (dg .u64 (64:Int) (dD .u64 x1))) (
     aJ (gJ (dD .u64 x1)) (
     aJ (iE (bJ .u64 (gw .u64 yv (dD .u64 x1)) (32:Int))) (
     ah (aR.L0.call ((gw .u64 yv (dD .u64 x1)),(dD .u64 x1),(bJ .u64 (gw .u64 yv (dD .u64 x1)) (32:Int)),(cn .and .u64 (gw .u64 yv (dD .u64 x1)) (4294967295:Int)),(cn .or .u64 (gw .u64 hi (dD .u64 x1)) (bJ .u64 lo (dg .u64 (64:Int) (dD .u64 x1)))),(bJ .u64 (gw .u64 lo (dD .u64 x1)) (32:Int)),(cn .and .u64 (gw .u64 lo (dD .u64 x1)) (4294967295:Int)),(kS .u64 (cn .or .u64 (gw .u64 hi (dD .u64 x1)) (bJ .u64 lo (dg .u64 (64:Int) (dD .u64 x1)))) (bJ .u64 (gw .u64 yv (dD .u64 x1)) (32:Int))),(dg .u64 (cn .or .u64 (gw .u64 hi (dD .u64 x1)) (bJ .u64 lo (dg .u64 (64:Int) (dD .u64 x1)))) (eW .u64 (kS .u64 (cn .or .u64 (gw .u64 hi (dD .u64 x1)) (bJ .u64 lo (dg .u64 (64:Int) (dD .u64 x1)))) (bJ .u64 (gw .u64 yv (dD .u64 x1)) (32:Int))) (bJ .u64 (gw .u64 yv (dD .u64 x1)) (32:Int)))))) fun x2=>
     aJ (iE x2.1.2.2.1) (
     ah (aR.L1.call (x2.1.1,x2.1.2.1,x2.1.2.2.1,x2.1.2.2.2.1,x2.1.2.2.2.2.2.2,x2.2,(dg .u64 (dg .u64 (bM .u64 (eW .u64 x2.1.2.2.2.2.1 (4294967296:Int)) x2.1.2.2.2.2.2.1) (eW .u64 x2.2 x2.1.1)) (eW .u64 (kS .u64 (dg .u64 (bM .u64 (eW .u64 x2.1.2.2.2.2.1 (4294967296:Int)) x2.1.2.2.2.2.2.1) (eW .u64 x2.2 x2.1.1)) x2.1.2.2.1) x2.1.2.2.1)),(dg .u64 (bM .u64 (eW .u64 x2.1.2.2.2.2.1 (4294967296:Int)) x2.1.2.2.2.2.2.1) (eW .u64 x2.2 x2.1.1)),(kS .u64 (dg .u64 (bM .u64 (eW .u64 x2.1.2.2.2.2.1 (4294967296:Int)) x2.1.2.2.2.2.2.1) (eW .u64 x2.2 x2.1.1)) x2.1.2.2.1))) fun x3=>
     aJ (gJ x3.1.2.1) (
     k (aR.out ((bM .u64 (eW .u64 x3.1.2.2.2.1 (4294967296:Int)) x3.2),(bJ .u64 (dg .u64 (bM .u64 (eW .u64 x3.1.2.2.2.2 (4294967296:Int)) x3.1.2.2.1) (eW .u64 x3.2 x3.1.1)) x3.1.2.1)))) none) none) none) none) none) none) none))):=by kernel_rfl
theorem aR.L0.ok:aR.L0.Ok:=by
 refine aR.L0.aG (fun(y,sv,yn1,yn0,u,w,un0,q,r)=>q.toNat) ?_
 rintro⟨y,sv,yn1,yn0,u,w,un0,q,r⟩ ⟨e,he,rfl,rfl,rfl,hu,hu2,hw,hw2,hr,hr2,hq,hQ⟩
 have hu:0≤u:=hu
 have hu2:u < 18446744073709551616 - e:=hu2
 have hw:0≤w:=hw
 have hw2:w < 4294967296:=hw2
 have hr:0≤r:=hr
 have hr2:r < 4294967296:=hr2
 have hq:q*4294967295+r=u:=hq
 obtain⟨k1,k2,k3,k4,k5,k6⟩:=k1 he hu hu2 hw hw2 hr hr2 hq hQ
 have q0:0≤q:=Int.le_trans k5 hQ
 have a1:bM .u64 r 4294967295=r+4294967295:=by rw[kC];omega
 have a2:bM .u64 (eW .u64 4294967296 r) w=4294967296*r+w:=by rw[kD,kC];omega
 have a3:q < 4294967296→eW .u64 q (4294967296 - e)=q*(4294967296 - e):=by
  intro h;rw[kD];rcases he with rfl | rfl | rfl <;> omega
 have a4:0 < q→dg .u64 q 1=q - 1:=by intro h;rw[rz];omega
 have pos:4294967296≤q∨(q < 4294967296∧4294967296*r+w < q*(4294967296 - e))→0 < q∧(u*4294967296+w) / (18446744073709551616 - e)≤q - 1:=by
  rintro(h | ⟨h,h2⟩)
  ·exact⟨by omega,k1 h⟩
  ·exact⟨by have:=k2 h h2;omega,k2 h h2⟩
 by_cases hc:4294967296≤q∨(q < 4294967296∧4294967296*r+w < q*(4294967296 - e))
 ·obtain⟨p1,p2⟩:=pos hc
  by_cases hb:4294967296≤r+4294967295
  ·right
   have hF:aR.L0.F (18446744073709551616 - e,sv,4294967295,4294967296 - e,u,w,un0,q,r)=q - 1:=k4 hb p2
   intro R kn kx
   rw[aR.L0.step,a1,a2,a4 p1,fX hb,hF]
   rcases hc with h | ⟨h,h2⟩
   ·rw[fX h];rfl
   ·rw[eJ (by omega),a3 h,ek h2];rfl
  ·left
   refine⟨(18446744073709551616 - e,sv,4294967295,4294967296 - e,u,w,un0,q - 1,r+4294967295),⟨e,he,rfl,rfl,rfl,hu,hu2,hw,hw2,by omega,by omega,by omega,p2⟩,by simp only[];omega,rfl,fun kn kx=> ?_⟩
   rw[aR.L0.step,a1,a2,a4 p1,eJ hb]
   rcases hc with h | ⟨h,h2⟩
   ·rw[fX h];rfl
   ·rw[eJ (by omega),a3 h,ek h2];rfl
 ·right
  have h:q < 4294967296:=by omega
  have h2:¬4294967296*r+w < q*(4294967296 - e):=fun x=>hc (Or.inr ⟨h,x⟩)
  have hF:aR.L0.F (18446744073709551616 - e,sv,4294967295,4294967296 - e,u,w,un0,q,r)=q:=k3 h (by omega)
  intro R kn kx
  rw[aR.L0.step,a2,a3 h,eJ (by omega),dR h2,hF]
  rfl
theorem aR.L1.ok:aR.L1.Ok:=by
 refine aR.L1.aG (fun(y,sv,yn1,yn0,w,q1,r,u,q)=>q.toNat) ?_
 rintro⟨y,sv,yn1,yn0,w,q1,r,u,q⟩ ⟨e,he,rfl,rfl,rfl,hu,hu2,hw,hw2,hr,hr2,hq,hQ⟩
 have hu:0≤u:=hu
 have hu2:u < 18446744073709551616 - e:=hu2
 have hw:0≤w:=hw
 have hw2:w < 4294967296:=hw2
 have hr:0≤r:=hr
 have hr2:r < 4294967296:=hr2
 have hq:q*4294967295+r=u:=hq
 obtain⟨k1,k2,k3,k4,k5,k6⟩:=k1 he hu hu2 hw hw2 hr hr2 hq hQ
 have q0:0≤q:=Int.le_trans k5 hQ
 have a1:bM .u64 r 4294967295=r+4294967295:=by rw[kC];omega
 have a2:bM .u64 (eW .u64 4294967296 r) w=4294967296*r+w:=by rw[kD,kC];omega
 have a3:q < 4294967296→eW .u64 q (4294967296 - e)=q*(4294967296 - e):=by
  intro h;rw[kD];rcases he with rfl | rfl | rfl <;> omega
 have a4:0 < q→dg .u64 q 1=q - 1:=by intro h;rw[rz];omega
 have pos:4294967296≤q∨(q < 4294967296∧4294967296*r+w < q*(4294967296 - e))→0 < q∧(u*4294967296+w) / (18446744073709551616 - e)≤q - 1:=by
  rintro(h | ⟨h,h2⟩)
  ·exact⟨by omega,k1 h⟩
  ·exact⟨by have:=k2 h h2;omega,k2 h h2⟩
 by_cases hc:4294967296≤q∨(q < 4294967296∧4294967296*r+w < q*(4294967296 - e))
 ·obtain⟨p1,p2⟩:=pos hc
  by_cases hb:4294967296≤r+4294967295
  ·right
   have hF:aR.L1.F (18446744073709551616 - e,sv,4294967295,4294967296 - e,w,q1,r,u,q)=q - 1:=k4 hb p2
   intro R kn kx
   rw[aR.L1.step,a1,a2,a4 p1,fX hb,hF]
   rcases hc with h | ⟨h,h2⟩
   ·rw[fX h];rfl
   ·rw[eJ (by omega),a3 h,ek h2];rfl
  ·left
   refine⟨(18446744073709551616 - e,sv,4294967295,4294967296 - e,w,q1,r+4294967295,u,q - 1),⟨e,he,rfl,rfl,rfl,hu,hu2,hw,hw2,by omega,by omega,by omega,p2⟩,by simp only[];omega,rfl,fun kn kx=> ?_⟩
   rw[aR.L1.step,a1,a2,a4 p1,eJ hb]
   rcases hc with h | ⟨h,h2⟩
   ·rw[fX h];rfl
   ·rw[eJ (by omega),a3 h,ek h2];rfl
 ·right
  have h:q < 4294967296:=by omega
  have h2:¬4294967296*r+w < q*(4294967296 - e):=fun x=>hc (Or.inr ⟨h,x⟩)
  have hF:aR.L1.F (18446744073709551616 - e,sv,4294967295,4294967296 - e,w,q1,r,u,q)=q:=k3 h (by omega)
  intro R kn kx
  rw[aR.L1.step,a2,a3 h,eJ (by omega),dR h2,hF]
  rfl
theorem Ds{y hi lo:Int}(hy:Ef y)(h0:0≤hi)(h1:hi < y)(h2:0≤lo)(h3:lo < 18446744073709551616):∃(s:Nat) (e m:Int),fw.F y=s∧(s=2∨s=3)∧m=2^s∧(e=42260∨e=42264∨e=42272)∧y*m=18446744073709551616 - e∧
  gw .u64 y (s:Int)=18446744073709551616 - e∧
  cn .or .u64 (gw .u64 hi (s:Int)) (bJ .u64 lo (dg .u64 64 (s:Int)))=(hi*18446744073709551616+lo)*m / 18446744073709551616∧
  gw .u64 lo (s:Int)=(hi*18446744073709551616+lo)*m%18446744073709551616∧
  (hi*18446744073709551616+lo)*m / 18446744073709551616 < 18446744073709551616 - e∧
  (hi*18446744073709551616+lo)*m / (18446744073709551616 - e)=(hi*18446744073709551616+lo) / y∧
  (hi*18446744073709551616+lo)*m%(18446744073709551616 - e) / m=(hi*18446744073709551616+lo)%y:=by
 have e1:dg .u64 64 ((2:Nat):Int)=((62:Nat):Int):=rfl
 have e2:dg .u64 64 ((3:Nat):Int)=((61:Nat):Int):=rfl
 have p2:(2:Int)^2=4:=rfl
 have p3:(2:Int)^3=8:=rfl
 have p61:(2:Int)^61=2305843009213693952:=rfl
 have p62:(2:Int)^62=4611686018427387904:=rfl
 obtain rfl | rfl | rfl:=hy
 ·refine⟨2,42260,4,rfl,Or.inl rfl,rfl,Or.inl rfl,rfl,by rw[jO 2 (by rfl) (by omega),p2];omega,?_,?_,by omega,by omega,by omega⟩
  ·rw[e1,jO 2 (by rfl) (by omega),jP 62 (by rfl) (by omega),p2,p62,pF 2 4 rfl (by omega) (by omega) (by omega) (by omega) (by omega) (by omega)];omega
  ·rw[jO 2 (by rfl) (by omega),p2];omega
 ·refine⟨3,42264,8,rfl,Or.inr rfl,rfl,Or.inr (Or.inl rfl),rfl,by rw[jO 3 (by rfl) (by omega),p3];omega,?_,?_,by omega,by omega,by omega⟩
  ·rw[e2,jO 3 (by rfl) (by omega),jP 61 (by rfl) (by omega),p3,p61,pF 3 8 rfl (by omega) (by omega) (by omega) (by omega) (by omega) (by omega)];omega
  ·rw[jO 3 (by rfl) (by omega),p3];omega
 ·refine⟨3,42272,8,rfl,Or.inr rfl,rfl,Or.inr (Or.inr rfl),rfl,by rw[jO 3 (by rfl) (by omega),p3];omega,?_,?_,by omega,by omega,by omega⟩
  ·rw[e2,jO 3 (by rfl) (by omega),jP 61 (by rfl) (by omega),p3,p61,pF 3 8 rfl (by omega) (by omega) (by omega) (by omega) (by omega) (by omega)];omega
  ·rw[jO 3 (by rfl) (by omega),p3];omega
theorem E3(a b c:Int):(((a%18446744073709551616+b)%18446744073709551616) - c%18446744073709551616)%18446744073709551616=(a+b - c)%18446744073709551616:=by omega
theorem aR.ok:aR.Ok:=by
 rintro⟨hi,lo,y⟩ ⟨hy,h0,h1,h2,h3⟩
 have h0:0≤hi:=h0
 have h1:hi < y:=h1
 have h2:0≤lo:=h2
 have h3:lo < 18446744073709551616:=h3
 have yb:0 < y∧y < 18446744073709551616:=by obtain rfl | rfl | rfl:=hy <;> omega
 rw[aR.eq,eP (by omega),kJ (by omega)]
 simp only[ay]
 have z:iE y=true:=by simp[iE];omega
 by_cases hz:hi=0
 ·subst hz
  rw[cl rfl,z,yW h2 (by omega) h3,nS h2]
  simp only[av,aR.F,aR.add,Int.zero_mul,Int.zero_add]
 ·obtain⟨s,e,m,hs,hs2,hm,he,hym,a1,a2,a3,a4,a5,a6⟩:=Ds hy h0 h1 h2 h3
  have c1:dD .u64 (s:Int)=(s:Int):=by rw[A9];omega
  have c2:gJ (s:Int)=true:=j3 (by omega)
  have c3:gJ (dg .u64 64 (s:Int))=true:=by rcases hs2 with rfl | rfl <;> rfl
  rw[eP hz,fw.run (d:=y) hy]
  simp only[ay,aa,fw.add,hs,c1,c2,c3,av,a1,a2,a3]
  have hN:0≤(hi*18446744073709551616+lo)*m:=Int.mul_nonneg (by omega) (by rcases hs2 with rfl | rfl <;> omega)
  revert a4 a5 a6
  generalize (hi*18446744073709551616+lo)*m=N at hN
  intro a4 a5 a6
  have u0:0≤N / 18446744073709551616:=by omega
  have t0:0≤N%18446744073709551616:=by omega
  have t1:N%18446744073709551616 < 18446744073709551616:=by omega
  have hd:N=(N / 18446744073709551616*4294967296+N%18446744073709551616 / 4294967296)*4294967296+N%18446744073709551616%4294967296:=by omega
  have w10:0≤N%18446744073709551616 / 4294967296:=by omega
  have w11:N%18446744073709551616 / 4294967296 < 4294967296:=by omega
  have w00:0≤N%18446744073709551616%4294967296:=by omega
  have w01:N%18446744073709551616%4294967296 < 4294967296:=by omega
  have p32:(2:Int)^32=4294967296:=rfl
  have b1:bJ .u64 (18446744073709551616 - e) 32=4294967295:=by rw[jP 32 (by rfl) (by omega),p32];rcases he with rfl | rfl | rfl <;> rfl
  have b2:cn .and .u64 (18446744073709551616 - e) 4294967295=4294967296 - e:=by rw[vO (by omega) (by omega)];omega
  have b3:bJ .u64 (N%18446744073709551616) 32=N%18446744073709551616 / 4294967296:=by rw[jP 32 (by rfl) (by omega),p32]
  have b4:cn .and .u64 (N%18446744073709551616) 4294967295=N%18446744073709551616%4294967296:=vO t0 t1
  have z2:iE 4294967295=true:=rfl
  simp only[b1,b2,b3,b4,z2,av]
  clear a1 a2 a3 b1 b2 b3 b4
  have kdd:=kd (18446744073709551616 - e) (N / 18446744073709551616) (N%18446744073709551616 / 4294967296) (N%18446744073709551616%4294967296) (by omega) w00 w01
  rw[←hd,a5]at kdd
  revert a4 kdd
  generalize N / 18446744073709551616=u at u0
  generalize N%18446744073709551616 / 4294967296=w1 at w10 w11
  generalize N%18446744073709551616%4294967296=w0 at w00 w01
  intro a4 kdd
  have g:∀u w:Int,0≤u→u < 18446744073709551616 - e→0≤w→w < 4294967296→
    kS .u64 u 4294967295=u / 4294967295∧dg .u64 u (eW .u64 (u / 4294967295) 4294967295)=u - u / 4294967295*4294967295∧
    dg .u64 (bM .u64 (eW .u64 u 4294967296) w) (eW .u64 ((u*4294967296+w) / (18446744073709551616 - e)) (18446744073709551616 - e))=(u*4294967296+w)%(18446744073709551616 - e):=by
   intro u w k1 k2 k3 k4
   obtain⟨q1,q2,q3,q4,q5,q6,q7,q8⟩:=k0 he k1 k2 k3 k4
   refine⟨yW k1 (by omega) (by omega),by rw[rz,kD];omega,?_⟩
   rw[rz,kC,kD,kD,E3,q4]
   exact Int.emod_eq_of_lt q5 (by omega)
  obtain⟨f1,f2,f3⟩:=g u w1 u0 a4 w10 w11
  obtain⟨q1,q2,q3,q4,q5,q6,q7,q8⟩:=k0 he u0 a4 w10 w11
  have p1:aR.L0.aB (18446744073709551616 - e,(s:Int),4294967295,4294967296 - e,u,w1,w0,u / 4294967295,u - u / 4294967295*4294967295):=⟨e,he,rfl,rfl,rfl,u0,a4,w10,w11,q2,q3,by omega,q1⟩
  rw[f1,f2,aR.L0.run p1]
  simp only[aa,aR.L0.add,aR.L0.F,z2,av,f3]
  revert f3 q1 kdd
  generalize (u*4294967296+w1)%(18446744073709551616 - e)=v at q4 q5 q6
  generalize (u*4294967296+w1) / (18446744073709551616 - e)=Q at q4 q7 q8
  intro kdd f3 q1
  obtain⟨g1,g2,g3⟩:=g v w0 q5 q6 w00 w01
  obtain⟨r1,r2,r3,r4,r5,r6,r7,r8⟩:=k0 he q5 q6 w00 w01
  have p2:aR.L1.aB (18446744073709551616 - e,(s:Int),4294967295,4294967296 - e,w0,Q,v - v / 4294967295*4294967295,v,v / 4294967295):=⟨e,he,rfl,rfl,rfl,q5,q6,w00,w01,r2,r3,by omega,r1⟩
  rw[g1,g2,aR.L1.run p2]
  simp only[aa,aR.L1.add,aR.L1.F,c2,av,g3]
  rw[←kdd.2,jP s (by rfl) (by omega),←hm,a6,kD,kC]
  have e9:(Q*4294967296%18446744073709551616+(v*4294967296+w0) / (18446744073709551616 - e))%18446744073709551616=(hi*18446744073709551616+lo) / y:=by rw[kdd.1];omega
  rw[e9]
  rfl
noncomputable def aR.E:=Entry.cz [some tu,some tu,some tu] aR.st aR.aB aR.add aR.F aR.out
noncomputable def aR.call:aR.D→Option aR.X:=bH aR.E aR.st
theorem aR.run:bC aR.call aR.aB aR.add aR.F:=cQ (cP [.d tu,.d tu,.d tu] fun _=>by kernel_rfl)
noncomputable def aR.sg:SG Tryz.prog:=⟨174,aU,aR.E,.fn 2 (by kernel_rfl) aR.ok (And.intro (.cz aR.L0.ok (by kernel_rfl)) (And.intro (.cz aR.L1.ok (by kernel_rfl)) trivial))⟩
abbrev dr.D:=Int×Int×Int
def dr.st:dr.D→SA:=fun(hi,lo,yv)=>([.d tu hi,.d tu lo,.d tu yv],[])
abbrev dr.Y:=Int
abbrev dr.X:=Int
def dr.out:dr.X→a9:=fun x=>⟨.d tu x,[],[]⟩
def dr.add:dr.D→dr.Y→dr.X:=fun(hi,lo,yv) y=>y
def dr.aB:dr.D→Prop:=fun(hi,lo,y)=>Ef y∧0≤hi∧hi < 18446744073709551616∧0≤lo∧lo < 18446744073709551616
def dr.F:dr.D→dr.Y:=fun(hi,lo,y)=>(hi*18446744073709551616+lo)%y
noncomputable def dr.G:dS:=eR (P:=Tryz.prog) [aR.sg]
noncomputable def dr.an:eA:= {}
noncomputable def dr.A:= @cJ Tryz.prog dr.G dr.an 0 Tryz.f157 _ dr.st
abbrev dr.Ok:=cK @dr.A dr.aB dr.add dr.F dr.out
theorem dr.eq{R:Type}(hi:Int)(lo:Int)(yv:Int)(k:a9→Option R):dr.A (hi,lo,yv) k=
 aJ (iE yv) (
 ah (aR.call ((iZ hi yv),lo,yv)) fun x1=>
 k (dr.out x1.2)) none:=by kernel_rfl
theorem dr.ok:dr.Ok:=by
 rintro⟨hi,lo,y⟩ ⟨hy,h0,h1,h2,h3⟩
 have h0:0≤hi:=h0
 have yb:0 < y:=by obtain rfl | rfl | rfl:=hy <;> omega
 have z:iE y=true:=by simp[iE];omega
 have p:aR.aB (hi%y,lo,y):=⟨hy,Int.emod_nonneg _ (by omega),Int.emod_lt_of_pos _ yb,h2,h3⟩
 rw[dr.eq,z,nS h0,aR.run p]
 have e:(hi%y*18446744073709551616+lo)%y=(hi*18446744073709551616+lo)%y:=by
  rw[Int.add_emod,Int.mul_emod,Int.emod_emod_of_dvd _ (Int.dvd_refl y),←Int.mul_emod,←Int.add_emod]
 simp only[av,aa,aR.add,aR.F,dr.add,dr.F,e]
noncomputable def dr.E:=Entry.cz [some tu,some tu,some tu] dr.st dr.aB dr.add dr.F dr.out
noncomputable def dr.call:dr.D→Option dr.X:=bH dr.E dr.st
theorem dr.run:bC dr.call dr.aB dr.add dr.F:=cQ (cP [.d tu,.d tu,.d tu] fun _=>by kernel_rfl)
noncomputable def dr.sg:SG Tryz.prog:=⟨157,aU,dr.E,.fn 0 (by kernel_rfl) dr.ok trivial⟩
abbrev dB.D:=Int×Int
def dB.st:dB.D→SA:=fun(x,yv)=>([.d tu x,.d tu yv],[])
abbrev dB.Y:=Int×Int
abbrev dB.X:=Int×Int
def dB.out:dB.X→a9:=fun x=>⟨.cons (.d tu x.1) (.cons (.d tu x.2) (.nil)),[],[]⟩
def dB.add:dB.D→dB.Y→dB.X:=fun(x,yv) y=>y
def dB.aB:dB.D→Prop:=fun(x,y)=>(0≤x∧x < 18446744073709551616)∧0≤y∧y < 18446744073709551616
def dB.F:dB.D→dB.Y:=fun(x,y)=>(x*y / 18446744073709551616,x*y%18446744073709551616)
noncomputable def dB.G:dS:=eR (P:=Tryz.prog) []
noncomputable def dB.an:eA:= {}
noncomputable def dB.A:= @cJ Tryz.prog dB.G dB.an 0 Tryz.f168 _ dB.st
abbrev dB.Ok:=cK @dB.A dB.aB dB.add dB.F dB.out
theorem dB.eq{R:Type}(x:Int)(yv:Int)(k:a9→Option R):dB.A (x,yv) k=
 k (dB.out ((bM .u64 (bM .u64 (eW .u64 (bJ .u64 x (32:Int)) (bJ .u64 yv (32:Int))) (bJ .u64 (bM .u64 (eW .u64 (bJ .u64 x (32:Int)) (cn .and .u64 yv (4294967295:Int))) (bJ .u64 (eW .u64 (cn .and .u64 x (4294967295:Int)) (cn .and .u64 yv (4294967295:Int))) (32:Int))) (32:Int))) (bJ .u64 (bM .u64 (cn .and .u64 (bM .u64 (eW .u64 (bJ .u64 x (32:Int)) (cn .and .u64 yv (4294967295:Int))) (bJ .u64 (eW .u64 (cn .and .u64 x (4294967295:Int)) (cn .and .u64 yv (4294967295:Int))) (32:Int))) (4294967295:Int)) (eW .u64 (cn .and .u64 x (4294967295:Int)) (bJ .u64 yv (32:Int)))) (32:Int))),(eW .u64 x yv))):=by kernel_rfl
theorem qw{a b m n:Int}(h0:0≤a)(h1:a≤m)(h2:0≤b)(h3:b≤n):0≤a*b∧a*b≤m*n:=
 ⟨Int.mul_nonneg h0 h2,Int.mul_le_mul h1 h3 h2 (Int.le_trans h0 h1)⟩
theorem dB.ok:dB.Ok:=by
 rintro⟨x,y⟩ ⟨⟨h0,h1⟩,h2,h3⟩
 have h0:0≤x:=h0
 have h1:x < 18446744073709551616:=h1
 have h2:0≤y:=h2
 have h3:y < 18446744073709551616:=h3
 rw[dB.eq]
 have p32:(2:Int)^32=4294967296:=rfl
 have s32:∀x:Int,bJ .u64 x 32=x / 4294967296:=fun x=>by rw[jP 32 (by rfl) (by omega),p32]
 simp only[s32,vO h0 h1,vO h2 h3]
 obtain⟨a,b,rfl,a0,a1,b0,b1⟩:∃a b:Int,x=a*4294967296+b∧0≤a∧a≤4294967295∧0≤b∧b≤4294967295:=⟨x / 4294967296,x%4294967296,by omega,by omega,by omega,by omega,by omega⟩
 obtain⟨c,d,rfl,c0,c1,d0,d1⟩:∃a b:Int,y=a*4294967296+b∧0≤a∧a≤4294967295∧0≤b∧b≤4294967295:=⟨y / 4294967296,y%4294967296,by omega,by omega,by omega,by omega,by omega⟩
 have e1:(a*4294967296+b) / 4294967296=a:=by omega
 have e2:(a*4294967296+b)%4294967296=b:=by omega
 have e3:(c*4294967296+d) / 4294967296=c:=by omega
 have e4:(c*4294967296+d)%4294967296=d:=by omega
 have e5:(a*4294967296+b)*(c*4294967296+d)=a*c*18446744073709551616+(a*d+b*c)*4294967296+b*d:=by
  have q:(4294967296:Int)*4294967296=18446744073709551616:=rfl
  rw[Int.add_mul,Int.mul_add,Int.mul_add]
  have q1:a*4294967296*(c*4294967296)=a*c*18446744073709551616:=by rw[←q];ac_rfl
  have q2:a*4294967296*d=a*d*4294967296:=by ac_rfl
  have q3:b*(c*4294967296)=b*c*4294967296:=by ac_rfl
  rw[q1,q2,q3];omega
 obtain⟨m1,m2⟩:=qw a0 a1 c0 c1
 obtain⟨m3,m4⟩:=qw a0 a1 d0 d1
 obtain⟨m5,m6⟩:=qw b0 b1 c0 c1
 obtain⟨m7,m8⟩:=qw b0 b1 d0 d1
 have n:(4294967295:Int)*4294967295=18446744065119617025:=rfl
 rw[n]at m2 m4 m6 m8
 simp only[e1,e2,e3,e4,dB.add,dB.F,e5,kD,kC]
 revert m1 m2 m3 m4 m5 m6 m7 m8
 generalize a*c=ac
 generalize a*d=ad
 generalize b*c=bc
 generalize b*d=bd
 intro m1 m2 m3 m4 m5 m6 m7 m8
 have q1:bd%18446744073709551616=bd:=by omega
 have q2:ad%18446744073709551616=ad:=by omega
 have q3:bc%18446744073709551616=bc:=by omega
 have q4:ac%18446744073709551616=ac:=by omega
 rw[q1,q2,q3,q4]
 have q5:(ad+bd / 4294967296)%18446744073709551616=ad+bd / 4294967296:=by omega
 have q6:cn .and .u64 (ad+bd / 4294967296) 4294967295=(ad+bd / 4294967296)%4294967296:=vO (by omega) (by omega)
 rw[q5,q6]
 refine congrArg some (congrArg dB.out (Prod.ext ?_ ?_))
 ·show _=(_:Int)
  simp only[]
  omega
 ·rfl
noncomputable def dB.E:=Entry.cz [some tu,some tu] dB.st dB.aB dB.add dB.F dB.out
noncomputable def dB.call:dB.D→Option dB.X:=bH dB.E dB.st
theorem dB.run:bC dB.call dB.aB dB.add dB.F:=cQ (cP [.d tu,.d tu] fun _=>by kernel_rfl)
noncomputable def dB.sg:SG Tryz.prog:=⟨168,aU,dB.E,.fn 0 (by kernel_rfl) dB.ok trivial⟩
set_option synthInstance.maxSize 5000
def Pn(x:Int):Prop:=0≤x∧x < 4611686018427377339
def gm(x:Int):Prop:=0≤x∧x < 18446744073709551616
theorem Pn.u{x:Int}(h:Pn x):gm x:=⟨h.1,by have:=h.2;omega⟩
def jq(a b:Int):Int:=a*b%4611686018427377339
theorem lq(a b:Int):Pn (jq a b):=⟨Int.emod_nonneg _ (by omega),Int.emod_lt_of_pos _ (by omega)⟩
def zd:Nat→Int→Nat→Int→Int
 | 0,_,_,out=>out
 |f+1,a,n,out=>if n=0 then out else zd f (jq a a) (n / 2) (if n%2=1 then jq out a else out)
def pw(a:Int)(n:Nat):Int:=zd 64 a n 1
theorem lZ(f:Nat)(a out:Int):zd f a 0 out=out:=by cases f <;> rfl
theorem w8:∀(f g:Nat) (a:Int) (n:Nat) (out:Int),n < 2^f→n < 2^g→zd f a n out=zd g a n out
 | 0,g,a,n,out,h,_=>by
  obtain rfl:n=0:=by omega
  rw[lZ,lZ]
 |f+1,0,a,n,out,_,h=>by
  obtain rfl:n=0:=by omega
  rw[lZ,lZ]
 |f+1,g+1,a,n,out,h,h'=>by
  have e:(2:Nat)^(f+1)=2^f*2:=Nat.pow_succ 2 f
  have e':(2:Nat)^(g+1)=2^g*2:=Nat.pow_succ 2 g
  unfold zd
  split
  ·rfl
  ·exact w8 f g _ _ _ (by omega) (by omega)
theorem BC:∀(f:Nat) (a:Int) (n:Nat) (out:Int),Pn out→Pn (zd f a n out)
 | 0,_,_,_,h=>h
 |f+1,a,n,out,h=>by
  unfold zd
  split
  ·exact h
  ·refine BC f _ _ _ ?_
   split
   ·exact lq _ _
   ·exact h
theorem ue(a:Int)(n:Nat):Pn (pw a n):=BC _ _ _ _ ⟨by omega,by omega⟩
abbrev cZ.D:=Int×Int
def cZ.st:cZ.D→SA:=fun(a,b)=>([.d tu a,.d tu b],[])
abbrev cZ.Y:=Int
abbrev cZ.X:=Int
def cZ.out:cZ.X→a9:=fun x=>⟨.d tu x,[],[]⟩
def cZ.add:cZ.D→cZ.Y→cZ.X:=fun(a,b) y=>y
def cZ.aB:cZ.D→Prop:=fun(a,b)=>gm a∧gm b
def cZ.F:cZ.D→cZ.Y:=fun(a,b)=>jq a b
noncomputable def cZ.G:dS:=eR (P:=Tryz.prog) [dB.sg,dr.sg]
noncomputable def cZ.an:eA:= {}
noncomputable def cZ.A:= @cJ Tryz.prog cZ.G cZ.an 0 Tryz.f151 _ cZ.st
abbrev cZ.Ok:=cK @cZ.A cZ.aB cZ.add cZ.F cZ.out
theorem cZ.eq{R:Type}(a:Int)(b:Int)(k:a9→Option R):cZ.A (a,b) k=
 ah (dB.call (a,b)) fun x1=>
 ah (dr.call (x1.1,x1.2,(4611686018427377339:Int))) fun x2=>
 k (cZ.out x2):=by kernel_rfl
theorem sY(n:Int):n / 18446744073709551616*18446744073709551616+n%18446744073709551616=n:=by omega
theorem cZ.ok:cZ.Ok:=by
 rintro⟨a,b⟩ ⟨ha,hb⟩
 have ha:gm a:=ha
 have hb:gm b:=hb
 obtain⟨m1,m2⟩:=qw ha.1 (show a≤18446744073709551615 by have:=ha.2;omega) hb.1 (show b≤18446744073709551615 by have:=hb.2;omega)
 have n:(18446744073709551615:Int)*18446744073709551615=340282366920938463426481119284349108225:=rfl
 rw[n]at m2
 have p:dr.aB (a*b / 18446744073709551616,a*b%18446744073709551616,4611686018427377339):=⟨Or.inl rfl,by omega,by omega,by omega,by omega⟩
 rw[cZ.eq,dB.run (d:=(a,b)) ⟨ha,hb⟩]
 simp only[aa,dB.add,dB.F]
 rw[dr.run p]
 simp only[aa,dr.add,dr.F,sY]
 rfl
noncomputable def cZ.E:=Entry.cz [some tu,some tu] cZ.st cZ.aB cZ.add cZ.F cZ.out
noncomputable def cZ.call:cZ.D→Option cZ.X:=bH cZ.E cZ.st
theorem cZ.run:bC cZ.call cZ.aB cZ.add cZ.F:=cQ (cP [.d tu,.d tu] fun _=>by kernel_rfl)
noncomputable def cZ.sg:SG Tryz.prog:=⟨151,aU,cZ.E,.fn 0 (by kernel_rfl) cZ.ok trivial⟩
abbrev aZ.L0.D:=Int×Int×Int
def aZ.L0.st:aZ.L0.D→AS:=fun(a_2,n_2,outv)=>⟨([.d tu a_2,.d tu n_2,.undef,.undef,.undef,.d tu outv]++bg 14 []),[],(List.replicate 20 [])⟩
abbrev aZ.L0.Y0:=Int
abbrev aZ.L0.X0:=Int
def aZ.L0.bt:aZ.L0.X0→Exit×AS:=fun x=>(.exit 0,⟨(bg 5 ([.d tu x]++bg 14 [])),[],(List.replicate 20 [])⟩)
abbrev aZ.L0.X:=aZ.L0.X0
abbrev aZ.L0.Y:=aZ.L0.Y0
def aZ.L0.out:aZ.L0.X→Out (Exit×AS):=fun x=> .ok (aZ.L0.bt x)
def aZ.L0.add:aZ.L0.D→aZ.L0.Y→aZ.L0.X:=fun(a_2,n_2,outv) y=>y
abbrev aZ.D:=Int×Int
def aZ.st:aZ.D→SA:=fun(a,n)=>([.d tu a,.d tu n],[])
abbrev aZ.Y:=Int
abbrev aZ.X:=Int
def aZ.out:aZ.X→a9:=fun x=>⟨.d tu x,[],[]⟩
def aZ.add:aZ.D→aZ.Y→aZ.X:=fun(a,n) y=>y
def aZ.L0.aB:aZ.L0.D→Prop:=fun(a,n,o)=>gm a∧gm n∧Pn o
def aZ.L0.F:aZ.L0.D→aZ.L0.Y:=fun(a,n,o)=>zd 64 a n.toNat o
def aZ.aB:aZ.D→Prop:=fun(a,n)=>gm a∧gm n
def aZ.F:aZ.D→aZ.Y:=fun(a,n)=>pw a n.toNat
noncomputable def aZ.G:dS:=eR (P:=Tryz.prog) [cZ.sg]
noncomputable def aZ.L0.E:=bO.cz aZ.L0.st aZ.L0.aB aZ.L0.add aZ.L0.F aZ.L0.out
noncomputable def aZ.L0.call:aZ.L0.D→Option aZ.L0.X:=dk aZ.L0.E aZ.L0.st
noncomputable def aZ.an:eA:= {loops:=jY [(2,{bm:=[0,1,5]})],outs:=jX [(2,{bm:=[5]},{bm:=[4]})],fJ:=kF [(2,aZ.L0.E)]}
noncomputable def aZ.A:= @cJ Tryz.prog aZ.G aZ.an 0 Tryz.f116 _ aZ.st
abbrev aZ.Ok:=cK @aZ.A aZ.aB aZ.add aZ.F aZ.out
noncomputable def aZ.L0.R:= @cg Tryz.prog aZ.G aZ.an 0 Tryz.f116 0 _ aZ.L0.st
abbrev aZ.L0.Ok:=eB Tryz.prog aZ.G aZ.an 0 Tryz.f116 0 aZ.L0.st aZ.L0.aB aZ.L0.add aZ.L0.F aZ.L0.out
theorem aZ.L0.run:bC aZ.L0.call aZ.L0.aB aZ.L0.add aZ.L0.F:=eI (eD [.d tu,.d tu,.d tu] fun _=>by kernel_rfl)
theorem aZ.L0.aG:fR @aZ.L0.R aZ.L0.st aZ.L0.aB aZ.L0.add aZ.L0.F aZ.L0.bt aZ.L0.Ok:=fV
theorem aZ.L0.step{R:Type}(a_2:Int)(n_2:Int)(outv:Int)(kn:AS→Option R)(kx:Exit→AS→Option R):aZ.L0.R (a_2,n_2,outv) kn kx=
  aJ ((oJ n_2 (0:Int))) (
   aJ ((kI (cn .and .u64 n_2 (1:Int)) (1:Int))) (
    ah (cZ.call (outv,a_2)) fun x1=>
    ah (cZ.call (a_2,a_2)) fun x2=>
    kn (aZ.L0.st (x2,(bJ .u64 n_2 (1:Int)),x1))) (
    ah (cZ.call (a_2,a_2)) fun x3=>
    kn (aZ.L0.st (x3,(bJ .u64 n_2 (1:Int)),outv)))) (
   kx (aZ.L0.bt outv).1 (aZ.L0.bt outv).2):=by kernel_rfl
theorem aZ.eq{R:Type}(a:Int)(n:Int)(k:a9→Option R):aZ.A (a,n) k=
 ah (aZ.L0.call (a,n,(1:Int))) fun x4=>
 k (aZ.out x4):=by kernel_rfl
theorem Fk{n:Int}(h:gm n):bJ .u64 n 1=n / 2:=jP 1 (by rfl) (by omega)
theorem aZ.L0.ok:aZ.L0.Ok:=by
 refine aZ.L0.aG (fun(a,n,o)=>n.toNat) ?_
 rintro⟨a,n,o⟩ ⟨ha,hn,ho⟩
 have ha:gm a:=ha
 have hn:gm n:=hn
 have ho:Pn o:=ho
 have n0:=hn.1
 have n1:=hn.2
 by_cases h:0 < n
 ·left
  have e:aZ.L0.F (a,n,o)=aZ.L0.F (jq a a,n / 2,if n%2=1 then jq o a else o):=by
   show zd 64 a n.toNat o=zd 64 (jq a a) (n / 2).toNat _
   rw[w8 64 65 a n.toNat o (by omega) (by omega)]
   have t1:(n / 2).toNat=n.toNat / 2:=by omega
   have t2:(n%2=1)=(n.toNat%2=1):=by apply propext;omega
   rw[t1]
   simp only[t2]
   show(if n.toNat=0 then o else _)=_
   rw[if_neg (by omega)]
  refine⟨(jq a a,n / 2,if n%2=1 then jq o a else o),⟨(lq a a).u,⟨by omega,by omega⟩,?_⟩,by show(n / 2).toNat < n.toNat;omega,?_,fun kn kx=> ?_⟩
  ·show Pn (if n%2=1 then jq o a else o)
   split
   ·exact lq _ _
   ·exact ho
  ·exact congrArg _ e.symm
  ·rw[aZ.L0.step,ek h,Fk hn,EY n0 n1,cZ.run (d:=(o,a)) ⟨ho.u,ha⟩,cZ.run (d:=(a,a)) ⟨ha,ha⟩]
   by_cases h1:n%2=1
   ·rw[cl h1,if_pos h1];rfl
   ·rw[eP h1,if_neg h1];rfl
 ·right
  intro R kn kx
  obtain rfl:n=0:=by omega
  rw[aZ.L0.step,dR (by omega)]
  simp only[ay,aZ.L0.add,aZ.L0.F]
  rw[show zd 64 a (Int.toNat 0) o=o from lZ _ _ _]
theorem aZ.ok:aZ.Ok:=by
 rintro⟨a,n⟩ ⟨ha,hn⟩
 rw[aZ.eq,aZ.L0.run (d:=(a,n,1)) ⟨ha,hn,by omega,by omega⟩]
 rfl
noncomputable def aZ.E:=Entry.cz [some tu,some tu] aZ.st aZ.aB aZ.add aZ.F aZ.out
noncomputable def aZ.call:aZ.D→Option aZ.X:=bH aZ.E aZ.st
theorem aZ.run:bC aZ.call aZ.aB aZ.add aZ.F:=cQ (cP [.d tu,.d tu] fun _=>by kernel_rfl)
noncomputable def aZ.sg:SG Tryz.prog:=⟨116,aU,aZ.E,.fn 1 (by kernel_rfl) aZ.ok (And.intro (.cz aZ.L0.ok (by kernel_rfl)) trivial)⟩
set_option synthInstance.maxSize 5000
def lh(p:Int):Bool:=decide (0 < p∧p < 4611686018427377339) && decide (pw p 2305843009213688669=1)
def tk(p:Int):Int:=if lh p then p else 1
theorem BU(p:Int):Pn (tk p):=by
 unfold tk
 split
 ·rename_i h
  simp only[lh,Bool.and_eq_true,decide_eq_true_eq]at h
  exact⟨by omega,by omega⟩
 ·exact⟨by omega,by omega⟩
def mA(p k:Int):Int:=pw (tk p) (k%2305843009213688669).toNat
def cS(k:Int):Int:=mA 4 k
def wJ(p:Int):Int:=pw (tk p) 2305843009213688668
def rk(l:List Int):Int:=l.foldl (fun o p=>jq o (tk p)) 1
theorem CM(l:List Int)(o:Int)(h:Pn o):Pn (l.foldl (fun o p=>jq o (tk p)) o):=by
 induction l generalizing o with
 |nil=>exact h
 |cons p l ih=>exact ih _ (lq _ _)
theorem zk(l:List Int):Pn (rk l):=CM l 1 ⟨by omega,by omega⟩
abbrev cj.D:=Int
def cj.st:cj.D→SA:=fun p=>([.d tu p],[])
abbrev cj.Y:=Bool
abbrev cj.X:=Bool
def cj.out:cj.X→a9:=fun x=>⟨.d .bool x,[],[]⟩
def cj.add:cj.D→cj.Y→cj.X:=fun p y=>y
def cj.aB:cj.D→Prop:=fun p=>gm p
def cj.F:cj.D→cj.Y:=fun p=>lh p
noncomputable def cj.G:dS:=eR (P:=Tryz.prog) [aZ.sg]
noncomputable def cj.an:eA:= {}
noncomputable def cj.A:= @cJ Tryz.prog cj.G cj.an 0 Tryz.f62 _ cj.st
abbrev cj.Ok:=cK @cj.A cj.aB cj.add cj.F cj.out
theorem cj.eq{R:Type}(p:Int)(k:a9→Option R):cj.A p k=
  aJ ((oJ p (0:Int))) (
   aJ ((fZ p (4611686018427377339:Int))) (
    ah (aZ.call (p,(2305843009213688669:Int))) fun x1=>
    k (cj.out (kI x1 (1:Int)))) (
    k (cj.out false))) (
   k (cj.out false)):=by kernel_rfl
theorem cj.ok:cj.Ok:=by
 intro p hp
 have hp:gm p:=hp
 rw[cj.eq,aZ.run (d:=(p,2305843009213688669)) ⟨hp,by constructor <;> decide⟩]
 simp only[aa,aZ.add,aZ.F,cj.add,cj.F,lh]
 by_cases h:0 < p
 ·rw[ek h,av]
  by_cases h2:p < 4611686018427377339
  ·rw[bu h2,av,aO ⟨h,h2⟩,Bool.true_and]
   rfl
  ·rw[bj h2,ay,aM (fun x=>h2 x.2),Bool.false_and]
 ·rw[dR h,ay,aM (fun x=>h x.1),Bool.false_and]
noncomputable def cj.E:=Entry.cz [some tu] cj.st cj.aB cj.add cj.F cj.out
noncomputable def cj.call:cj.D→Option cj.X:=bH cj.E cj.st
theorem cj.run:bC cj.call cj.aB cj.add cj.F:=cQ (cP [.d tu] fun _=>by kernel_rfl)
noncomputable def cj.sg:SG Tryz.prog:=⟨62,aU,cj.E,.fn 0 (by kernel_rfl) cj.ok trivial⟩
abbrev cv.D:=Int
def cv.st:cv.D→SA:=fun p=>([.d tu p],[])
abbrev cv.Y:=Int
abbrev cv.X:=Int
def cv.out:cv.X→a9:=fun x=>⟨.d tu x,[],[]⟩
def cv.add:cv.D→cv.Y→cv.X:=fun p y=>y
def cv.aB:cv.D→Prop:=fun p=>gm p
def cv.F:cv.D→cv.Y:=fun p=>tk p
noncomputable def cv.G:dS:=eR (P:=Tryz.prog) [cj.sg]
noncomputable def cv.an:eA:= {}
noncomputable def cv.A:= @cJ Tryz.prog cv.G cv.an 0 Tryz.f147 _ cv.st
abbrev cv.Ok:=cK @cv.A cv.aB cv.add cv.F cv.out
theorem cv.eq{R:Type}(p:Int)(k:a9→Option R):cv.A p k=
  ah (cj.call p) fun x1=>
  aJ (x1) (
   k (cv.out p)) (
   k (cv.out (1:Int))):=by kernel_rfl
theorem cv.ok:cv.Ok:=by
 intro p hp
 rw[cv.eq,cj.run (d:=p) hp]
 simp only[aa,cj.add,cj.F,cv.add,cv.F,tk]
 cases lh p <;> rfl
noncomputable def cv.E:=Entry.cz [some tu] cv.st cv.aB cv.add cv.F cv.out
noncomputable def cv.call:cv.D→Option cv.X:=bH cv.E cv.st
theorem cv.run:bC cv.call cv.aB cv.add cv.F:=cQ (cP [.d tu] fun _=>by kernel_rfl)
noncomputable def cv.sg:SG Tryz.prog:=⟨147,aU,cv.E,.fn 0 (by kernel_rfl) cv.ok trivial⟩
abbrev db.D:=Int×Int
def db.st:db.D→SA:=fun(p,kv)=>([.d tu p,.d tu kv],[])
abbrev db.Y:=Int
abbrev db.X:=Int
def db.out:db.X→a9:=fun x=>⟨.d tu x,[],[]⟩
def db.add:db.D→db.Y→db.X:=fun(p,kv) y=>y
def db.aB:db.D→Prop:=fun(p,k)=>gm p∧gm k
def db.F:db.D→db.Y:=fun(p,k)=>mA p k
noncomputable def db.G:dS:=eR (P:=Tryz.prog) [cv.sg,aZ.sg]
noncomputable def db.an:eA:= {}
noncomputable def db.A:= @cJ Tryz.prog db.G db.an 0 Tryz.f106 _ db.st
abbrev db.Ok:=cK @db.A db.aB db.add db.F db.out
theorem db.eq{R:Type}(p:Int)(kv:Int)(k:a9→Option R):db.A (p,kv) k=
 ah (cv.call p) fun x1=>
 ah (aZ.call (x1,(iZ kv (2305843009213688669:Int)))) fun x2=>
 k (db.out x2):=by kernel_rfl
theorem db.ok:db.Ok:=by
 rintro⟨p,k⟩ ⟨hp,hk⟩
 have hk:gm k:=hk
 have e:=nS (y:=2305843009213688669) hk.1
 have b:gm (k%2305843009213688669):=⟨by omega,by omega⟩
 rw[db.eq,cv.run (d:=p) hp,e]
 simp only[aa,cv.add,cv.F]
 rw[aZ.run (d:=(tk p,k%2305843009213688669)) ⟨(BU p).u,b⟩]
 rfl
noncomputable def db.E:=Entry.cz [some tu,some tu] db.st db.aB db.add db.F db.out
noncomputable def db.call:db.D→Option db.X:=bH db.E db.st
theorem db.run:bC db.call db.aB db.add db.F:=cQ (cP [.d tu,.d tu] fun _=>by kernel_rfl)
noncomputable def db.sg:SG Tryz.prog:=⟨106,aU,db.E,.fn 0 (by kernel_rfl) db.ok trivial⟩
abbrev cH.D:=Int
def cH.st:cH.D→SA:=fun kv=>([.d tu kv],[])
abbrev cH.Y:=Int
abbrev cH.X:=Int
def cH.out:cH.X→a9:=fun x=>⟨.d tu x,[],[]⟩
def cH.add:cH.D→cH.Y→cH.X:=fun kv y=>y
def cH.aB:cH.D→Prop:=fun k=>gm k
def cH.F:cH.D→cH.Y:=fun k=>cS k
noncomputable def cH.G:dS:=eR (P:=Tryz.prog) [db.sg]
noncomputable def cH.an:eA:= {}
noncomputable def cH.A:= @cJ Tryz.prog cH.G cH.an 0 Tryz.f44 _ cH.st
abbrev cH.Ok:=cK @cH.A cH.aB cH.add cH.F cH.out
theorem cH.eq{R:Type}(kv:Int)(k:a9→Option R):cH.A kv k=
 ah (db.call ((4:Int),kv)) fun x1=>
 k (cH.out x1):=by kernel_rfl
theorem cH.ok:cH.Ok:=by
 intro k hk
 rw[cH.eq,db.run (d:=(4,k)) ⟨⟨by omega,by omega⟩,hk⟩]
 rfl
noncomputable def cH.E:=Entry.cz [some tu] cH.st cH.aB cH.add cH.F cH.out
noncomputable def cH.call:cH.D→Option cH.X:=bH cH.E cH.st
theorem cH.run:bC cH.call cH.aB cH.add cH.F:=cQ (cP [.d tu] fun _=>by kernel_rfl)
noncomputable def cH.sg:SG Tryz.prog:=⟨44,aU,cH.E,.fn 0 (by kernel_rfl) cH.ok trivial⟩
abbrev fy.D:=Int
def fy.st:fy.D→SA:=fun p=>([.d tu p],[])
abbrev fy.Y:=Int
abbrev fy.X:=Int
def fy.out:fy.X→a9:=fun x=>⟨.d tu x,[],[]⟩
def fy.add:fy.D→fy.Y→fy.X:=fun p y=>y
def fy.aB:fy.D→Prop:=fun p=>gm p
def fy.F:fy.D→fy.Y:=fun p=>wJ p
noncomputable def fy.G:dS:=eR (P:=Tryz.prog) [cv.sg,aZ.sg]
noncomputable def fy.an:eA:= {}
noncomputable def fy.A:= @cJ Tryz.prog fy.G fy.an 0 Tryz.f146 _ fy.st
abbrev fy.Ok:=cK @fy.A fy.aB fy.add fy.F fy.out
theorem fy.eq{R:Type}(p:Int)(k:a9→Option R):fy.A p k=
 ah (cv.call p) fun x1=>
 ah (aZ.call (x1,(2305843009213688668:Int))) fun x2=>
 k (fy.out x2):=by kernel_rfl
theorem fy.ok:fy.Ok:=by
 intro p hp
 rw[fy.eq,cv.run (d:=p) hp]
 simp only[aa,cv.add,cv.F]
 rw[aZ.run (d:=(tk p,2305843009213688668)) ⟨(BU p).u,by constructor <;> decide⟩]
 rfl
noncomputable def fy.E:=Entry.cz [some tu] fy.st fy.aB fy.add fy.F fy.out
noncomputable def fy.call:fy.D→Option fy.X:=bH fy.E fy.st
theorem fy.run:bC fy.call fy.aB fy.add fy.F:=cQ (cP [.d tu] fun _=>by kernel_rfl)
noncomputable def fy.sg:SG Tryz.prog:=⟨146,aU,fy.E,.fn 0 (by kernel_rfl) fy.ok trivial⟩
abbrev cE.L0.D:=Int×Bs×Int×Int
def cE.L0.st:cE.L0.D→AS:=fun(outv,t6,t7,t8)=>⟨([.undef,.undef,.undef,.d tu outv,.undef,.undef,.d tU t6,.d ti t7,.d ti t8]++bg 9 []),[],(List.replicate 18 [])⟩
abbrev cE.L0.Y0:=Int
abbrev cE.L0.X0:=Int
def cE.L0.bt:cE.L0.X0→Exit×AS:=fun x=>(.exit 0,⟨([.undef,.undef,.undef,.d tu x]++bg 14 []),[],(List.replicate 18 [])⟩)
abbrev cE.L0.X:=cE.L0.X0
abbrev cE.L0.Y:=cE.L0.Y0
def cE.L0.out:cE.L0.X→Out (Exit×AS):=fun x=> .ok (cE.L0.bt x)
def cE.L0.add:cE.L0.D→cE.L0.Y→cE.L0.X:=fun(outv,t6,t7,t8) y=>y
abbrev cE.D:=Bs
def cE.st:cE.D→SA:=fun l=>([.d tU l],[])
abbrev cE.Y:=Int
abbrev cE.X:=Int
def cE.out:cE.X→a9:=fun x=>⟨.d tu x,[],[]⟩
def cE.add:cE.D→cE.Y→cE.X:=fun l y=>y
def cE.L0.aB:cE.L0.D→Prop:=fun(o,l,n,i)=>Pn o∧(∀x∈l,gm x)∧l.length≤1000000000∧n=l.length∧∃k:Nat,k≤l.length∧i=k
def cE.L0.F:cE.L0.D→cE.L0.Y:=fun(o,l,n,i)=>(l.drop i.toNat).foldl (fun o p=>jq o (tk p)) o
def cE.aB:cE.D→Prop:=fun l=>(∀x∈l,gm x)∧l.length≤1000000000
def cE.F:cE.D→cE.Y:=fun l=>rk l
noncomputable def cE.G:dS:=eR (P:=Tryz.prog) [cv.sg,cZ.sg]
noncomputable def cE.L0.E:=bO.cz cE.L0.st cE.L0.aB cE.L0.add cE.L0.F cE.L0.out
noncomputable def cE.L0.call:cE.L0.D→Option cE.L0.X:=dk cE.L0.E cE.L0.st
noncomputable def cE.an:eA:= {loops:=jY [(3,{bm:=[3,6,7,8]})],outs:=jX [(3,{bm:=[3]},{bm:=[2]})],fJ:=kF [(3,cE.L0.E)]}
noncomputable def cE.A:= @cJ Tryz.prog cE.G cE.an 0 Tryz.f144 _ cE.st
abbrev cE.Ok:=cK @cE.A cE.aB cE.add cE.F cE.out
noncomputable def cE.L0.R:= @cg Tryz.prog cE.G cE.an 0 Tryz.f144 0 _ cE.L0.st
abbrev cE.L0.Ok:=eB Tryz.prog cE.G cE.an 0 Tryz.f144 0 cE.L0.st cE.L0.aB cE.L0.add cE.L0.F cE.L0.out
theorem cE.L0.run:bC cE.L0.call cE.L0.aB cE.L0.add cE.L0.F:=eI (eD [.d tu,.d tU,.d ti,.d ti] fun _=>by kernel_rfl)
theorem cE.L0.aG:fR @cE.L0.R cE.L0.st cE.L0.aB cE.L0.add cE.L0.F cE.L0.bt cE.L0.Ok:=fV
theorem cE.L0.step{R:Type}(outv:Int)(t6:Bs)(t7:Int)(t8:Int)(kn:AS→Option R)(kx:Exit→AS→Option R):cE.L0.R (outv,t6,t7,t8) kn kx=
  aJ ((fZ t8 t7)) (
   aJ (ei t8 (((List.length t6):Nat):Int)) (
   ah (cv.call (nth tu t6 (Int.toNat t8))) fun x1=>
   ah (cZ.call (outv,x1)) fun x2=>
   kn (cE.L0.st (x2,t6,t7,(bM .i64 t8 (1:Int))))) none) (
   kx (cE.L0.bt outv).1 (cE.L0.bt outv).2):=by kernel_rfl
theorem cE.eq{R:Type}(l:Bs)(k:a9→Option R):cE.A l k=
 ah (cE.L0.call ((1:Int),l,(((List.length l):Nat):Int),(0:Int))) fun x3=>
 k (cE.out x3):=by kernel_rfl
theorem cE.L0.ok:cE.L0.Ok:=by
 refine cE.L0.aG (fun(o,l,n,i)=>l.length - i.toNat) ?_
 rintro⟨o,l,n,i⟩ ⟨ho,hl,hb,rfl,k,hk,rfl⟩
 have ho:Pn o:=ho
 have hb:l.length≤1000000000:=hb
 have hk:k≤l.length:=hk
 by_cases h:k < l.length
 ·left
  have hx:=hl _ (List.getElem_mem h)
  have n1:nth (.int .u64) l k=l[k]:=cC (t:= .int .u64) h
  refine⟨(jq o (tk l[k]),l,l.length,((k+1:Nat):Int)),⟨lq _ _,hl,hb,rfl,k+1,by omega,rfl⟩,by simp only[Int.toNat_natCast];omega,?_,fun kn kx=> ?_⟩
  ·simp only[cE.L0.add,cE.L0.F,Int.toNat_natCast]
   rw[List.drop_eq_getElem_cons h]
   rfl
  ·rw[cE.L0.step]
   simp(disch:=omega) only[↓S1,↓if_pos,↓if_neg,if_pos,if_neg,if_true,if_false,S2,n1]
   rw[cv.run (d:=l[k]) hx]
   simp only[aa,cv.add,cv.F]
   rw[cZ.run (d:=(o,tk l[k])) ⟨ho.u,(BU _).u⟩]
   rfl
 ·right
  obtain rfl:k=l.length:=by omega
  intro R kn kx
  rw[cE.L0.step]
  simp(disch:=omega) only[↓S1,↓if_pos,↓if_neg,if_pos,if_neg,if_true,if_false,S2,cE.L0.add,cE.L0.F,List.drop_length]
  rfl
theorem cE.ok:cE.Ok:=by
 rintro l ⟨hl,hb⟩
 rw[cE.eq,cE.L0.run (d:=(1,l,l.length,0)) ⟨⟨by omega,by omega⟩,hl,hb,rfl,0,by omega,rfl⟩]
 rfl
noncomputable def cE.E:=Entry.cz [some tU] cE.st cE.aB cE.add cE.F cE.out
noncomputable def cE.call:cE.D→Option cE.X:=bH cE.E cE.st
theorem cE.run:bC cE.call cE.aB cE.add cE.F:=cQ (cP [.d tU] fun _=>by kernel_rfl)
noncomputable def cE.sg:SG Tryz.prog:=⟨144,aU,cE.E,.fn 1 (by kernel_rfl) cE.ok (And.intro (.cz cE.L0.ok (by kernel_rfl)) trivial)⟩
abbrev fx.D:=Int×Int
def fx.st:fx.D→SA:=fun(p,q)=>([.d tu p,.d tu q],[])
abbrev fx.Y:=Int
abbrev fx.X:=Int
def fx.out:fx.X→a9:=fun x=>⟨.d tu x,[],[]⟩
def fx.add:fx.D→fx.Y→fx.X:=fun(p,q) y=>y
def fx.aB:fx.D→Prop:=fun(p,q)=>gm p∧gm q
def fx.F:fx.D→fx.Y:=fun(p,q)=>rk [p,q]
noncomputable def fx.G:dS:=eR (P:=Tryz.prog) [cE.sg]
noncomputable def fx.an:eA:= {}
noncomputable def fx.A:= @cJ Tryz.prog fx.G fx.an 0 Tryz.f158 _ fx.st
abbrev fx.Ok:=cK @fx.A fx.aB fx.add fx.F fx.out
theorem fx.eq{R:Type}(p:Int)(q:Int)(k:a9→Option R):fx.A (p,q) k=
 ah (cE.call [p,q]) fun x1=>
 k (fx.out x1):=by kernel_rfl
theorem fx.ok:fx.Ok:=by
 rintro⟨p,q⟩ ⟨hp,hq⟩
 have h:cE.aB [p,q]:=⟨by intro x hx;simp only[List.mem_cons,List.not_mem_nil,or_false]at hx;rcases hx with rfl | rfl <;> assumption,by simp only[List.length_cons,List.length_nil];omega⟩
 rw[fx.eq,cE.run h]
 rfl
noncomputable def fx.E:=Entry.cz [some tu,some tu] fx.st fx.aB fx.add fx.F fx.out
noncomputable def fx.call:fx.D→Option fx.X:=bH fx.E fx.st
theorem fx.run:bC fx.call fx.aB fx.add fx.F:=cQ (cP [.d tu,.d tu] fun _=>by kernel_rfl)
noncomputable def fx.sg:SG Tryz.prog:=⟨158,aU,fx.E,.fn 0 (by kernel_rfl) fx.ok trivial⟩
set_option synthInstance.maxSize 5000
def Qn(x:Int):Prop:=0≤x∧x < 2305843009213688669
theorem Qn.u{x:Int}(h:Qn x):gm x:=⟨h.1,by have:=h.2;omega⟩
def Bu(a:Int):Int:=a%2305843009213688669
theorem vj(a:Int):Qn (Bu a):=⟨Int.emod_nonneg _ (by omega),Int.emod_lt_of_pos _ (by omega)⟩
def xF(a b:Int):Int:=(Bu a+Bu b)%2305843009213688669
def vg(a b:Int):Int:=Bu a*Bu b%2305843009213688669
def nq(h:List Int):Int:=h.foldl (fun n b=>(n*256+b)%2305843009213688668) 0+1
def Ax.b(n:Int):Prop:=0≤n∧n < 2305843009213688668
theorem wc(h:List Int)(n:Int)(hn:Ax.b n):Ax.b (h.foldl (fun n b=>(n*256+b)%2305843009213688668) n):=by
 induction h generalizing n with
 |nil=>exact hn
 |cons p l ih=>exact ih _ ⟨Int.emod_nonneg _ (by omega),Int.emod_lt_of_pos _ (by omega)⟩
theorem rY(h:List Int):0 < nq h∧nq h < 2305843009213688669:=by
 have:=wc h 0 ⟨by omega,by omega⟩
 have h1:=this.1
 have h2:=this.2
 unfold nq
 omega
theorem uD(a b:Int):Qn (xF a b):=⟨Int.emod_nonneg _ (by omega),Int.emod_lt_of_pos _ (by omega)⟩
theorem Cz(a b:Int):Qn (vg a b):=⟨Int.emod_nonneg _ (by omega),Int.emod_lt_of_pos _ (by omega)⟩
abbrev cF.D:=Int
def cF.st:cF.D→SA:=fun a=>([.d tu a],[])
abbrev cF.Y:=Bool
abbrev cF.X:=Bool
def cF.out:cF.X→a9:=fun x=>⟨.d .bool x,[],[]⟩
def cF.add:cF.D→cF.Y→cF.X:=fun a y=>y
def cF.aB:cF.D→Prop:=fun _=>True
def cF.F:cF.D→cF.Y:=fun a=>fZ a 2305843009213688669
noncomputable def cF.G:dS:=eR (P:=Tryz.prog) []
noncomputable def cF.an:eA:= {}
noncomputable def cF.A:= @cJ Tryz.prog cF.G cF.an 0 Tryz.f88 _ cF.st
abbrev cF.Ok:=cK @cF.A cF.aB cF.add cF.F cF.out
theorem cF.eq{R:Type}(a:Int)(k:a9→Option R):cF.A a k=
 k (cF.out (fZ a (2305843009213688669:Int))):=by kernel_rfl
theorem cF.ok:cF.Ok:=by
 intro a _
 rw[cF.eq]
 rfl
noncomputable def cF.E:=Entry.cz [some tu] cF.st cF.aB cF.add cF.F cF.out
noncomputable def cF.call:cF.D→Option cF.X:=bH cF.E cF.st
theorem cF.run:bC cF.call cF.aB cF.add cF.F:=cQ (cP [.d tu] fun _=>by kernel_rfl)
noncomputable def cF.sg:SG Tryz.prog:=⟨88,aU,cF.E,.fn 0 (by kernel_rfl) cF.ok trivial⟩
abbrev iq.D:=Int
def iq.st:iq.D→SA:=fun a=>([.d tu a],[])
abbrev iq.Y:=Int
abbrev iq.X:=Int
def iq.out:iq.X→a9:=fun x=>⟨.d tu x,[],[]⟩
def iq.add:iq.D→iq.Y→iq.X:=fun a y=>y
def iq.aB:iq.D→Prop:=fun a=>gm a
def iq.F:iq.D→iq.Y:=fun a=>Bu a
noncomputable def iq.G:dS:=eR (P:=Tryz.prog) []
noncomputable def iq.an:eA:= {}
noncomputable def iq.A:= @cJ Tryz.prog iq.G iq.an 0 Tryz.f175 _ iq.st
abbrev iq.Ok:=cK @iq.A iq.aB iq.add iq.F iq.out
theorem iq.eq{R:Type}(a:Int)(k:a9→Option R):iq.A a k=
 k (iq.out (iZ a (2305843009213688669:Int))):=by kernel_rfl
theorem iq.ok:iq.Ok:=by
 intro a ha
 rw[iq.eq,nS ha.1]
 rfl
noncomputable def iq.E:=Entry.cz [some tu] iq.st iq.aB iq.add iq.F iq.out
noncomputable def iq.call:iq.D→Option iq.X:=bH iq.E iq.st
theorem iq.run:bC iq.call iq.aB iq.add iq.F:=cQ (cP [.d tu] fun _=>by kernel_rfl)
noncomputable def iq.sg:SG Tryz.prog:=⟨175,aU,iq.E,.fn 0 (by kernel_rfl) iq.ok trivial⟩
abbrev eh.D:=Int×Int
def eh.st:eh.D→SA:=fun(a,b)=>([.d tu a,.d tu b],[])
abbrev eh.Y:=Int
abbrev eh.X:=Int
def eh.out:eh.X→a9:=fun x=>⟨.d tu x,[],[]⟩
def eh.add:eh.D→eh.Y→eh.X:=fun(a,b) y=>y
def eh.aB:eh.D→Prop:=fun(a,b)=>Qn a∧Qn b
def eh.F:eh.D→eh.Y:=fun(a,b)=>(a+b)%2305843009213688669
noncomputable def eh.G:dS:=eR (P:=Tryz.prog) []
noncomputable def eh.an:eA:= {}
noncomputable def eh.A:= @cJ Tryz.prog eh.G eh.an 0 Tryz.f176 _ eh.st
abbrev eh.Ok:=cK @eh.A eh.aB eh.add eh.F eh.out
theorem eh.eq{R:Type}(a:Int)(b:Int)(k:a9→Option R):eh.A (a,b) k=
 k (eh.out (iZ (bM .u64 a b) (2305843009213688669:Int))):=by kernel_rfl
theorem eh.ok:eh.Ok:=by
 rintro⟨a,b⟩ ⟨ha,hb⟩
 have ha:Qn a:=ha
 have hb:Qn b:=hb
 obtain⟨h1,h2⟩:=ha
 obtain⟨h3,h4⟩:=hb
 have e:bM .u64 a b=a+b:=by rw[kC];omega
 rw[eh.eq,e,nS (by omega)]
 rfl
noncomputable def eh.E:=Entry.cz [some tu,some tu] eh.st eh.aB eh.add eh.F eh.out
noncomputable def eh.call:eh.D→Option eh.X:=bH eh.E eh.st
theorem eh.run:bC eh.call eh.aB eh.add eh.F:=cQ (cP [.d tu,.d tu] fun _=>by kernel_rfl)
noncomputable def eh.sg:SG Tryz.prog:=⟨176,aU,eh.E,.fn 0 (by kernel_rfl) eh.ok trivial⟩
abbrev dp.D:=Int×Int
def dp.st:dp.D→SA:=fun(a,b)=>([.d tu a,.d tu b],[])
abbrev dp.Y:=Int
abbrev dp.X:=Int
def dp.out:dp.X→a9:=fun x=>⟨.d tu x,[],[]⟩
def dp.add:dp.D→dp.Y→dp.X:=fun(a,b) y=>y
def dp.aB:dp.D→Prop:=fun(a,b)=>Qn a∧Qn b
def dp.F:dp.D→dp.Y:=fun(a,b)=>a*b%2305843009213688669
noncomputable def dp.G:dS:=eR (P:=Tryz.prog) [dB.sg,dr.sg]
noncomputable def dp.an:eA:= {}
noncomputable def dp.A:= @cJ Tryz.prog dp.G dp.an 0 Tryz.f177 _ dp.st
abbrev dp.Ok:=cK @dp.A dp.aB dp.add dp.F dp.out
theorem dp.eq{R:Type}(a:Int)(b:Int)(k:a9→Option R):dp.A (a,b) k=
 ah (dB.call (a,b)) fun x1=>
 ah (dr.call (x1.1,x1.2,(2305843009213688669:Int))) fun x2=>
 k (dp.out x2):=by kernel_rfl
theorem dp.ok:dp.Ok:=by
 rintro⟨a,b⟩ ⟨ha,hb⟩
 have ha:Qn a:=ha
 have hb:Qn b:=hb
 obtain⟨m1,m2⟩:=qw ha.1 (show a≤18446744073709551615 by have:=ha.2;omega) hb.1 (show b≤18446744073709551615 by have:=hb.2;omega)
 have n:(18446744073709551615:Int)*18446744073709551615=340282366920938463426481119284349108225:=rfl
 rw[n]at m2
 have p:dr.aB (a*b / 18446744073709551616,a*b%18446744073709551616,2305843009213688669):=⟨Or.inr (Or.inl rfl),by omega,by omega,by omega,by omega⟩
 rw[dp.eq,dB.run (d:=(a,b)) ⟨ha.u,hb.u⟩]
 simp only[aa,dB.add,dB.F]
 rw[dr.run p]
 simp only[aa,dr.add,dr.F,sY]
 rfl
noncomputable def dp.E:=Entry.cz [some tu,some tu] dp.st dp.aB dp.add dp.F dp.out
noncomputable def dp.call:dp.D→Option dp.X:=bH dp.E dp.st
theorem dp.run:bC dp.call dp.aB dp.add dp.F:=cQ (cP [.d tu,.d tu] fun _=>by kernel_rfl)
noncomputable def dp.sg:SG Tryz.prog:=⟨177,aU,dp.E,.fn 0 (by kernel_rfl) dp.ok trivial⟩
abbrev fF.D:=Int×Int
def fF.st:fF.D→SA:=fun(a,b)=>([.d tu a,.d tu b],[])
abbrev fF.Y:=Int
abbrev fF.X:=Int
def fF.out:fF.X→a9:=fun x=>⟨.d tu x,[],[]⟩
def fF.add:fF.D→fF.Y→fF.X:=fun(a,b) y=>y
def fF.aB:fF.D→Prop:=fun(a,b)=>gm a∧gm b
def fF.F:fF.D→fF.Y:=fun(a,b)=>xF a b
noncomputable def fF.G:dS:=eR (P:=Tryz.prog) [iq.sg,eh.sg]
noncomputable def fF.an:eA:= {}
noncomputable def fF.A:= @cJ Tryz.prog fF.G fF.an 0 Tryz.f159 _ fF.st
abbrev fF.Ok:=cK @fF.A fF.aB fF.add fF.F fF.out
theorem fF.eq{R:Type}(a:Int)(b:Int)(k:a9→Option R):fF.A (a,b) k=
 ah (iq.call a) fun x1=>
 ah (iq.call b) fun x2=>
 ah (eh.call (x1,x2)) fun x3=>
 k (fF.out x3):=by kernel_rfl
theorem fF.ok:fF.Ok:=by
 rintro⟨a,b⟩ ⟨ha,hb⟩
 rw[fF.eq,iq.run (d:=a) ha,iq.run (d:=b) hb]
 simp only[aa,iq.add,iq.F]
 rw[eh.run (d:=(Bu a,Bu b)) ⟨vj a,vj b⟩]
 rfl
noncomputable def fF.E:=Entry.cz [some tu,some tu] fF.st fF.aB fF.add fF.F fF.out
noncomputable def fF.call:fF.D→Option fF.X:=bH fF.E fF.st
theorem fF.run:bC fF.call fF.aB fF.add fF.F:=cQ (cP [.d tu,.d tu] fun _=>by kernel_rfl)
noncomputable def fF.sg:SG Tryz.prog:=⟨159,aU,fF.E,.fn 0 (by kernel_rfl) fF.ok trivial⟩
abbrev fv.D:=Int×Int
def fv.st:fv.D→SA:=fun(a,b)=>([.d tu a,.d tu b],[])
abbrev fv.Y:=Int
abbrev fv.X:=Int
def fv.out:fv.X→a9:=fun x=>⟨.d tu x,[],[]⟩
def fv.add:fv.D→fv.Y→fv.X:=fun(a,b) y=>y
def fv.aB:fv.D→Prop:=fun(a,b)=>gm a∧gm b
def fv.F:fv.D→fv.Y:=fun(a,b)=>vg a b
noncomputable def fv.G:dS:=eR (P:=Tryz.prog) [iq.sg,dp.sg]
noncomputable def fv.an:eA:= {}
noncomputable def fv.A:= @cJ Tryz.prog fv.G fv.an 0 Tryz.f160 _ fv.st
abbrev fv.Ok:=cK @fv.A fv.aB fv.add fv.F fv.out
theorem fv.eq{R:Type}(a:Int)(b:Int)(k:a9→Option R):fv.A (a,b) k=
 ah (iq.call a) fun x1=>
 ah (iq.call b) fun x2=>
 ah (dp.call (x1,x2)) fun x3=>
 k (fv.out x3):=by kernel_rfl
theorem fv.ok:fv.Ok:=by
 rintro⟨a,b⟩ ⟨ha,hb⟩
 rw[fv.eq,iq.run (d:=a) ha,iq.run (d:=b) hb]
 simp only[aa,iq.add,iq.F]
 rw[dp.run (d:=(Bu a,Bu b)) ⟨vj a,vj b⟩]
 rfl
noncomputable def fv.E:=Entry.cz [some tu,some tu] fv.st fv.aB fv.add fv.F fv.out
noncomputable def fv.call:fv.D→Option fv.X:=bH fv.E fv.st
theorem fv.run:bC fv.call fv.aB fv.add fv.F:=cQ (cP [.d tu,.d tu] fun _=>by kernel_rfl)
noncomputable def fv.sg:SG Tryz.prog:=⟨160,aU,fv.E,.fn 0 (by kernel_rfl) fv.ok trivial⟩
abbrev bw.L0.D:=Int×Bs×Int
def bw.L0.st:bw.L0.D→AS:=fun(n,t6,t7)=>⟨([.undef,.undef,.undef,.d tu n,.undef,.undef,.d tH t6,.d ti t7]++bg 13 []),[],(List.replicate 21 [])⟩
abbrev bw.L0.Y0:=Int
abbrev bw.L0.X0:=Int
def bw.L0.bt:bw.L0.X0→Exit×AS:=fun x=>(.exit 0,⟨([.undef,.undef,.undef,.d tu x]++bg 17 []),[],(List.replicate 21 [])⟩)
abbrev bw.L0.X:=bw.L0.X0
abbrev bw.L0.Y:=bw.L0.Y0
def bw.L0.out:bw.L0.X→Out (Exit×AS):=fun x=> .ok (bw.L0.bt x)
def bw.L0.add:bw.L0.D→bw.L0.Y→bw.L0.X:=fun(n,t6,t7) y=>y
abbrev bw.D:=Bs
def bw.st:bw.D→SA:=fun h=>([.d tH h],[])
abbrev bw.Y:=Int
abbrev bw.X:=Int
def bw.out:bw.X→a9:=fun x=>⟨.d tu x,[],[]⟩
def bw.add:bw.D→bw.Y→bw.X:=fun h y=>y
def bw.L0.aB:bw.L0.D→Prop:=fun(n,h,i)=>Ax.b n∧h.length=32∧Bytes h∧∃k:Nat,k≤32∧i=k
def bw.L0.F:bw.L0.D→bw.L0.Y:=fun(n,h,i)=>(h.drop i.toNat).foldl (fun n b=>(n*256+b)%2305843009213688668) n
def bw.aB:bw.D→Prop:=fun h=>h.length=32∧Bytes h
def bw.F:bw.D→bw.Y:=fun h=>nq h
noncomputable def bw.G:dS:=eR (P:=Tryz.prog) [dr.sg]
noncomputable def bw.L0.E:=bO.cz bw.L0.st bw.L0.aB bw.L0.add bw.L0.F bw.L0.out
noncomputable def bw.L0.call:bw.L0.D→Option bw.L0.X:=dk bw.L0.E bw.L0.st
noncomputable def bw.an:eA:= {loops:=jY [(3,{bm:=[3,6,7]})],outs:=jX [(3,{bm:=[3]},{bm:=[2]})],fJ:=kF [(3,bw.L0.E)]}
noncomputable def bw.A:= @cJ Tryz.prog bw.G bw.an 0 Tryz.f124 _ bw.st
abbrev bw.Ok:=cK @bw.A bw.aB bw.add bw.F bw.out
noncomputable def bw.L0.R:= @cg Tryz.prog bw.G bw.an 0 Tryz.f124 0 _ bw.L0.st
abbrev bw.L0.Ok:=eB Tryz.prog bw.G bw.an 0 Tryz.f124 0 bw.L0.st bw.L0.aB bw.L0.add bw.L0.F bw.L0.out
theorem bw.L0.run:bC bw.L0.call bw.L0.aB bw.L0.add bw.L0.F:=eI (eD [.d tu,.d tB,.d ti] fun _=>by kernel_rfl)
theorem bw.L0.aG:fR @bw.L0.R bw.L0.st bw.L0.aB bw.L0.add bw.L0.F bw.L0.bt bw.L0.Ok:=fV
theorem bw.L0.step{R:Type}(n:Int)(t6:Bs)(t7:Int)(kn:AS→Option R)(kx:Exit→AS→Option R):bw.L0.R (n,t6,t7) kn kx=
  aJ ((fZ t7 (32:Int))) (
   aJ (ei t7 (32:Int)) (
   ah (dr.call ((bJ .u64 n (56:Int)),(cn .or .u64 (gw .u64 n (8:Int)) (dD .u64 (nth tb t6 (Int.toNat t7)))),(2305843009213688668:Int))) fun x1=>
   kn (bw.L0.st (x1,t6,(bM .i64 t7 (1:Int))))) none) (
   kx (bw.L0.bt n).1 (bw.L0.bt n).2):=by kernel_rfl
theorem bw.eq{R:Type}(h:Bs)(k:a9→Option R):bw.A h k=
 ah (bw.L0.call ((0:Int),h,(0:Int))) fun x2=>
 k (bw.out (bM .u64 x2 (1:Int))):=by kernel_rfl
theorem qN{n b:Int}(hn:Ax.b n)(hb:uz b):bJ .u64 n 56*18446744073709551616+cn .or .u64 (gw .u64 n 8) (dD .u64 b)=n*256+b∧gm (bJ .u64 n 56)∧gm (cn .or .u64 (gw .u64 n 8) (dD .u64 b)):=by
 obtain⟨h1,h2⟩:=hn
 obtain⟨h3,h4⟩:=hb
 have p56:(2:Int)^56=72057594037927936:=rfl
 have p8:(2:Int)^8=256:=rfl
 have e:dD .u64 b=b:=by rw[A9];omega
 rw[jP 56 (by rfl) (by omega),jO 8 (by rfl) (by omega),p56,p8,e,pF 8 256 rfl (by omega) (by omega) (by omega) (by omega) (by omega) (by omega)]
 exact⟨by omega,⟨by omega,by omega⟩,by omega,by omega⟩
theorem bw.L0.ok:bw.L0.Ok:=by
 refine bw.L0.aG (fun(n,h,i)=>32 - i.toNat) ?_
 rintro⟨n,h,i⟩ ⟨hn,hl,hb,k,hk,rfl⟩
 have hn:Ax.b n:=hn
 have hl:h.length=32:=hl
 have hb:Bytes h:=hb
 by_cases hlt:k < 32
 ·left
  have hx:uz (h[k]'(by omega)):=hb _ (List.getElem_mem _)
  have n1:nth (.int .u8) h k=h[k]'(by omega):=cC (t:= .int .u8) (by omega)
  obtain⟨d1,d2,d3⟩:=qN hn hx
  refine⟨((n*256+h[k]'(by omega))%2305843009213688668,h,((k+1:Nat):Int)),⟨⟨by omega,by omega⟩,hl,hb,k+1,by omega,rfl⟩,by simp only[Int.toNat_natCast];omega,?_,fun kn kx=> ?_⟩
  ·simp only[bw.L0.add,bw.L0.F,Int.toNat_natCast]
   rw[List.drop_eq_getElem_cons (by omega:k < h.length)]
   rfl
  ·rw[bw.L0.step]
   simp(disch:=omega) only[↓S1,↓if_pos,↓if_neg,if_pos,if_neg,if_true,if_false,S2,n1]
   rw[dr.run (d:=(_,_,2305843009213688668)) ⟨Or.inr (Or.inr rfl),d2.1,d2.2,d3.1,d3.2⟩]
   simp only[aa,dr.add,dr.F,d1]
 ·right
  obtain rfl:k=32:=by omega
  intro R kn kx
  rw[bw.L0.step]
  simp(disch:=omega) only[↓S1,↓if_pos,↓if_neg,if_pos,if_neg,if_true,if_false,S2,bw.L0.add,bw.L0.F]
  rw[List.drop_of_length_le (by omega)]
  rfl
theorem bw.ok:bw.Ok:=by
 rintro h ⟨hl,hb⟩
 have e:=wc h 0 ⟨by omega,by omega⟩
 have h1:=e.1
 have h2:=e.2
 rw[bw.eq,bw.L0.run (d:=(0,h,0)) ⟨⟨by omega,by omega⟩,hl,hb,0,by omega,rfl⟩]
 simp only[aa,bw.L0.add,bw.L0.F,bw.add,bw.F,nq,Int.toNat_zero,List.drop_zero]
 revert h1 h2
 generalize h.foldl (fun n b=>(n*256+b)%2305843009213688668) 0=m
 intro h1 h2
 have e:bM .u64 m 1=m+1:=by rw[kC];omega
 rw[e]
noncomputable def bw.E:=Entry.cz [some tH] bw.st bw.aB bw.add bw.F bw.out
noncomputable def bw.call:bw.D→Option bw.X:=bH bw.E bw.st
theorem bw.run:bC bw.call bw.aB bw.add bw.F:=cQ (cP [.d tB] fun _=>by kernel_rfl)
noncomputable def bw.sg:SG Tryz.prog:=⟨124,aU,bw.E,.fn 1 (by kernel_rfl) bw.ok (And.intro (.cz bw.L0.ok (by kernel_rfl)) trivial)⟩
set_option synthInstance.maxSize 5000
theorem vR(n:Int): [dD .u8 (bJ .u64 n 56),dD .u8 (bJ .u64 n 48),dD .u8 (bJ .u64 n 40),dD .u8 (bJ .u64 n 32),dD .u8 (bJ .u64 n 24),dD .u8 (bJ .u64 n 16),dD .u8 (bJ .u64 n 8),dD .u8 (bJ .u64 n 0)]=fM n:=xI n
theorem fg{α:Type}{l:List α}{n:Nat}(h:l.length=n):cut l 0 n=l:=by subst h;simp[cut]
theorem BT{n:ByteArray}{a b c:List Int}(hn:n.size≤100)(ha:a.length≤1000000)(hb:b.length≤1000000)(hc:c.length≤1000000):bQ.aB (n,[a,b,c]):=by
 show(qH _ [a,b,c]).length≤_
 rw[qH]
 simp only[gX,List.flatMap_cons,List.flatMap_nil,List.length_append,bK,gj,List.length_nil]
 omega
theorem BS{n:ByteArray}{a b:List Int}(hn:n.size≤100)(ha:a.length≤1000000)(hb:b.length≤1000000):bQ.aB (n,[a,b]):=by
 show(qH _ [a,b]).length≤_
 rw[qH]
 simp only[gX,List.flatMap_cons,List.flatMap_nil,List.length_append,bK,gj,List.length_nil]
 omega
theorem pZ{n:ByteArray}{a:List Int}(hn:n.size≤100)(ha:a.length≤1000000):bQ.aB (n,[a]):=by
 show(qH _ [a]).length≤_
 rw[qH]
 simp only[gX,List.flatMap_cons,List.flatMap_nil,List.length_append,bK,gj,List.length_nil]
 omega
def Sm(m:List Int):Prop:=m.length=32∧Bytes m
theorem BO(b:List Int):Sm (CJ b):=⟨yt b,zC b⟩
theorem vr(n:List Int)(ps:List (List Int)):Sm (tag n ps):=BO _
def xt(n:ByteArray)(ps:List (List Int)):List Int:=tag (bh n) ps
def En:ByteArray:=⟨#[115,105,103]⟩
def yg:ByteArray:=⟨#[110,111,110,99,101]⟩
def mH(r p:Int)(m:List Int):Int:=nq (xt En [fM r,fM p,m])
theorem rO(r p:Int)(m:List Int):Qn (mH r p m):=by
 have:=rY (xt En [fM r,fM p,m])
 exact⟨by unfold mH;omega,by unfold mH;omega⟩
def CU(s:Sg):Prop:=gm s.1∧gm s.2.1
def kO(p:Int)(m:List Int)(t:Int)(s:Sg):Bool:=
 if p=1∨lh p=false∨lh t=false∨lh s.1=false∨¬s.2.1 < 2305843009213688669 then false
 else decide (cS s.2.1=rk [s.1,mA p (mH s.1 p m),wJ t])
def uF(k nonce:Int)(m:List Int)(t:Int):Sg:=
 (rk [cS nonce,t],xF nonce (vg (mH (rk [cS nonce,t]) (cS k) m) k),())
def Br(k:Int)(m:List Int):Int:=nq (xt yg [fM k,m])
def eF(k:Int)(m:List Int):Sg:=if k < 2305843009213688669∧k≠0 then uF k (Br k m) m 1 else(0,0,())
abbrev cM.D:=Int
def cM.st:cM.D→SA:=fun n=>([.d tu n],[])
abbrev cM.Y:=Bs
abbrev cM.X:=Bs
def cM.out:cM.X→a9:=fun x=>⟨.d tB x,[],[]⟩
def cM.add:cM.D→cM.Y→cM.X:=fun n y=>y
def cM.aB:cM.D→Prop:=fun _=>True
def cM.F:cM.D→cM.Y:=fun n=>fM n
noncomputable def cM.G:dS:=eR (P:=Tryz.prog) []
noncomputable def cM.an:eA:= {loops:=jY [(3,{bm:=[0,3,7,8],sites:=[5]})],outs:=jX [(3,{bm:=[3],sites:=[5]},{bm:=[2],sites:=[5]})],res:=[some tB]}
noncomputable def cM.A:= @cJ Tryz.prog cM.G cM.an 12 Tryz.f130 _ cM.st
abbrev cM.Ok:=cK @cM.A cM.aB cM.add cM.F cM.out
theorem cM.eq{R:Type}(n:Int)(k:a9→Option R):cM.A n k=
 k (cM.out [(dD .u8 (bJ .u64 n (56:Int))),(dD .u8 (bJ .u64 n (48:Int))),(dD .u8 (bJ .u64 n (40:Int))),(dD .u8 (bJ .u64 n (32:Int))),(dD .u8 (bJ .u64 n (24:Int))),(dD .u8 (bJ .u64 n (16:Int))),(dD .u8 (bJ .u64 n (8:Int))),(dD .u8 (bJ .u64 n (0:Int)))]):=by kernel_rfl
theorem cM.ok:cM.Ok:=by
 intro n _
 rw[cM.eq,vR]
 rfl
noncomputable def cM.E:=Entry.cz [some tu] cM.st cM.aB cM.add cM.F cM.out
noncomputable def cM.call:cM.D→Option cM.X:=bH cM.E cM.st
theorem cM.run:bC cM.call cM.aB cM.add cM.F:=cQ (cP [.d tu] fun _=>by kernel_rfl)
noncomputable def cM.sg:SG Tryz.prog:=⟨130,aU,cM.E,.fn 1 (by kernel_rfl) cM.ok (And.intro (.none (by kernel_rfl)) trivial)⟩
abbrev dF.D:=Int×Int×Bs
def dF.st:dF.D→SA:=fun(r,p,m)=>([.d tu r,.d tu p,.d tH m],[])
abbrev dF.Y:=Int
abbrev dF.X:=Int
def dF.out:dF.X→a9:=fun x=>⟨.d tu x,[],[]⟩
def dF.add:dF.D→dF.Y→dF.X:=fun(r,p,m) y=>y
def dF.aB:dF.D→Prop:=fun(r,p,m)=>Sm m
def dF.F:dF.D→dF.Y:=fun(r,p,m)=>mH r p m
noncomputable def dF.G:dS:=eR (P:=Tryz.prog) [cM.sg,bQ.sg,bw.sg]
noncomputable def dF.an:eA:= {}
noncomputable def dF.A:= @cJ Tryz.prog dF.G dF.an 0 Tryz.f145 _ dF.st
abbrev dF.Ok:=cK @dF.A dF.aB dF.add dF.F dF.out
theorem dF.eq{R:Type}(r:Int)(p:Int)(m:Bs)(k:a9→Option R):dF.A (r,p,m) k=
 ah (cM.call r) fun x1=>
 ah (cM.call p) fun x2=>
 ah (bQ.call ((⟨#[115,105,103]⟩:ByteArray),[x1,x2,(cut m 0 32)])) fun x3=>
 ah (bw.call x3) fun x4=>
 k (dF.out x4):=by kernel_rfl
theorem dF.ok:dF.Ok:=by
 rintro⟨r,p,m⟩ hm
 have hm:Sm m:=hm
 rw[dF.eq,cM.run (d:=r) trivial,cM.run (d:=p) trivial]
 simp only[aa,cM.add,cM.F]
 rw[fg hm.1,bQ.run (BT (by decide) (by rw[bK];omega) (by rw[bK];omega) (by rw[hm.1];omega))]
 simp only[aa,bQ.add,bQ.F]
 rw[bw.run (d:=tag (bh (⟨#[115,105,103]⟩:ByteArray)) [fM r,fM p,m]) (vr _ _)]
 rfl
noncomputable def dF.E:=Entry.cz [some tu,some tu,some tH] dF.st dF.aB dF.add dF.F dF.out
noncomputable def dF.call:dF.D→Option dF.X:=bH dF.E dF.st
theorem dF.run:bC dF.call dF.aB dF.add dF.F:=cQ (cP [.d tu,.d tu,.d tB] fun _=>by kernel_rfl)
noncomputable def dF.sg:SG Tryz.prog:=⟨145,aU,dF.E,.fn 0 (by kernel_rfl) dF.ok trivial⟩
abbrev bX.D:=Int×Bs×Int×Sg
def bX.st:bX.D→SA:=fun(p,m,t,pre)=>([.d tu p,.d tH m,.d tu t,.d jm pre],[])
abbrev bX.Y:=Bool
abbrev bX.X:=Bool
def bX.out:bX.X→a9:=fun x=>⟨.d .bool x,[],[]⟩
def bX.add:bX.D→bX.Y→bX.X:=fun(p,m,t,pre) y=>y
def bX.aB:bX.D→Prop:=fun(p,m,t,s)=>gm p∧Sm m∧gm t∧CU s
def bX.F:bX.D→bX.Y:=fun(p,m,t,s)=>kO p m t s
noncomputable def bX.G:dS:=eR (P:=Tryz.prog) [cj.sg,cF.sg,dF.sg,db.sg,fy.sg,cE.sg,cH.sg]
noncomputable def bX.an:eA:= {}
noncomputable def bX.A:= @cJ Tryz.prog bX.G bX.an 0 Tryz.f105 _ bX.st
abbrev bX.Ok:=cK @bX.A bX.aB bX.add bX.F bX.out
theorem bX.eq{R:Type}(p:Int)(m:Bs)(t:Int)(pre:Sg)(k:a9→Option R):bX.A (p,m,t,pre) k=
  aJ ((kI p (1:Int))) (
   k (bX.out false)) (
   ah (cj.call p) fun x1=>
   aJ ((!x1)) (
    k (bX.out false)) (
    ah (cj.call t) fun x2=>
    aJ ((!x2)) (
     k (bX.out false)) (
     ah (cj.call pre.1) fun x3=>
     aJ ((!x3)) (
      k (bX.out false)) (
      ah (cF.call pre.2.1) fun x4=>
      aJ ((!x4)) (
       k (bX.out false)) (
       ah (dF.call (pre.1,p,m)) fun x5=>
       ah (db.call (p,x5)) fun x6=>
       ah (fy.call t) fun x7=>
       ah (cE.call [pre.1,x6,x7]) fun x8=>
       ah (cH.call pre.2.1) fun x9=>
       k (bX.out (kI x9 x8))))))):=by kernel_rfl
theorem bX.ok:bX.Ok:=by
 rintro⟨p,m,t,s⟩ ⟨hp,hm,ht,hs⟩
 have hp:gm p:=hp
 have ht:gm t:=ht
 have hm:Sm m:=hm
 have hs:CU s:=hs
 rw[bX.eq,cj.run (d:=p) hp,cj.run (d:=t) ht,cj.run (d:=s.1) hs.1,cF.run (d:=s.2.1) trivial]
 simp only[aa,cj.add,cj.F,cF.add,cF.F,bX.add,bX.F,kO]
 by_cases h1:p=1
 ·rw[cl h1,av,if_pos (Or.inl h1)]
 rw[eP h1,ay]
 cases h2:lh p
 ·rw[if_pos (Or.inr (Or.inl rfl))];rfl
 cases h3:lh t
 ·rw[if_pos (Or.inr (Or.inr (Or.inl rfl)))];rfl
 cases h4:lh s.1
 ·rw[if_pos (Or.inr (Or.inr (Or.inr (Or.inl rfl))))];rfl
 by_cases h5:s.2.1 < 2305843009213688669
 ·rw[bu h5,if_neg (by simp[h1,h5])]
  have hq:=rO s.1 p m
  rw[dF.run (d:=(s.1,p,m)) hm]
  simp only[Bool.not_true,ay,aa,dF.add,dF.F]
  rw[db.run (d:=(p,mH s.1 p m)) ⟨hp,hq.u⟩,fy.run (d:=t) ht]
  simp only[aa,db.add,db.F,fy.add,fy.F]
  have q:cE.aB [s.1,mA p (mH s.1 p m),wJ t]:=⟨by
   intro x hx
   simp only[List.mem_cons,List.not_mem_nil,or_false]at hx
   rcases hx with rfl | rfl | rfl
   ·exact hs.1
   ·exact(ue _ _).u
   ·exact(ue _ _).u,by simp only[List.length_cons,List.length_nil];omega⟩
  rw[cE.run q,cH.run (d:=s.2.1) hs.2]
  rfl
 ·rw[bj h5,if_pos (Or.inr (Or.inr (Or.inr (Or.inr h5))))];rfl
noncomputable def bX.E:=Entry.cz [some tu,some tH,some tu,some jm] bX.st bX.aB bX.add bX.F bX.out
noncomputable def bX.call:bX.D→Option bX.X:=bH bX.E bX.st
theorem bX.run:bC bX.call bX.aB bX.add bX.F:=cQ (cP [.d tu,.d tB,.d tu,.d jm] fun _=>by kernel_rfl)
noncomputable def bX.sg:SG Tryz.prog:=⟨105,aU,bX.E,.fn 0 (by kernel_rfl) bX.ok trivial⟩
abbrev bS.D:=Int×Bs×Sg
def bS.st:bS.D→SA:=fun(p,m,sv)=>([.d tu p,.d tH m,.d jm sv],[])
abbrev bS.Y:=Bool
abbrev bS.X:=Bool
def bS.out:bS.X→a9:=fun x=>⟨.d .bool x,[],[]⟩
def bS.add:bS.D→bS.Y→bS.X:=fun(p,m,sv) y=>y
def bS.aB:bS.D→Prop:=fun(p,m,s)=>gm p∧Sm m∧CU s
def bS.F:bS.D→bS.Y:=fun(p,m,s)=>kO p m 1 s
noncomputable def bS.G:dS:=eR (P:=Tryz.prog) [bX.sg]
noncomputable def bS.an:eA:= {}
noncomputable def bS.A:= @cJ Tryz.prog bS.G bS.an 0 Tryz.f43 _ bS.st
abbrev bS.Ok:=cK @bS.A bS.aB bS.add bS.F bS.out
theorem bS.eq{R:Type}(p:Int)(m:Bs)(sv:Sg)(k:a9→Option R):bS.A (p,m,sv) k=
 ah (bX.call (p,m,(1:Int),sv)) fun x1=>
 k (bS.out x1):=by kernel_rfl
theorem bS.ok:bS.Ok:=by
 rintro⟨p,m,s⟩ ⟨hp,hm,hs⟩
 rw[bS.eq,bX.run (d:=(p,m,1,s)) ⟨hp,hm,⟨by omega,by omega⟩,hs⟩]
 rfl
noncomputable def bS.E:=Entry.cz [some tu,some tH,some jm] bS.st bS.aB bS.add bS.F bS.out
noncomputable def bS.call:bS.D→Option bS.X:=bH bS.E bS.st
theorem bS.run:bC bS.call bS.aB bS.add bS.F:=cQ (cP [.d tu,.d tB,.d jm] fun _=>by kernel_rfl)
noncomputable def bS.sg:SG Tryz.prog:=⟨43,aU,bS.E,.fn 0 (by kernel_rfl) bS.ok trivial⟩
abbrev fm.D:=Int
def fm.st:fm.D→SA:=fun kv=>([.d tu kv],[])
abbrev fm.Y:=Bool
abbrev fm.X:=Bool
def fm.out:fm.X→a9:=fun x=>⟨.d .bool x,[],[]⟩
def fm.add:fm.D→fm.Y→fm.X:=fun kv y=>y
def fm.aB:fm.D→Prop:=fun _=>True
def fm.F:fm.D→fm.Y:=fun k=>decide (k < 2305843009213688669∧k≠0)
noncomputable def fm.G:dS:=eR (P:=Tryz.prog) [cF.sg]
noncomputable def fm.an:eA:= {}
noncomputable def fm.A:= @cJ Tryz.prog fm.G fm.an 0 Tryz.f128 _ fm.st
abbrev fm.Ok:=cK @fm.A fm.aB fm.add fm.F fm.out
theorem fm.eq{R:Type}(kv:Int)(k:a9→Option R):fm.A kv k=
  ah (cF.call kv) fun x1=>
  aJ (x1) (
   k (fm.out (jw kv (0:Int)))) (
   k (fm.out false)):=by kernel_rfl
theorem fm.ok:fm.Ok:=by
 intro k _
 rw[fm.eq,cF.run (d:=k) trivial]
 simp only[aa,cF.add,cF.F,fm.add,fm.F]
 by_cases h:k < 2305843009213688669
 ·rw[bu h,av]
  by_cases h0:k=0
  ·rw[bR h0,aM (fun x=>x.2 h0)]
  ·rw[dA h0,aO ⟨h,h0⟩]
 ·rw[bj h,ay,aM (fun x=>h x.1)]
noncomputable def fm.E:=Entry.cz [some tu] fm.st fm.aB fm.add fm.F fm.out
noncomputable def fm.call:fm.D→Option fm.X:=bH fm.E fm.st
theorem fm.run:bC fm.call fm.aB fm.add fm.F:=cQ (cP [.d tu] fun _=>by kernel_rfl)
noncomputable def fm.sg:SG Tryz.prog:=⟨128,aU,fm.E,.fn 0 (by kernel_rfl) fm.ok trivial⟩
abbrev cD.D:=Int×Int×Bs×Int
def cD.st:cD.D→SA:=fun(kv,nonce,m,t)=>([.d tu kv,.d tu nonce,.d tH m,.d tu t],[])
abbrev cD.Y:=Sg
abbrev cD.X:=Sg
def cD.out:cD.X→a9:=fun x=>⟨.d jm x,[],[]⟩
def cD.add:cD.D→cD.Y→cD.X:=fun(kv,nonce,m,t) y=>y
def cD.aB:cD.D→Prop:=fun(k,n,m,t)=>gm k∧gm n∧Sm m∧gm t
def cD.F:cD.D→cD.Y:=fun(k,n,m,t)=>uF k n m t
noncomputable def cD.G:dS:=eR (P:=Tryz.prog) [cH.sg,fx.sg,dF.sg,fv.sg,fF.sg]
noncomputable def cD.an:eA:= {}
noncomputable def cD.A:= @cJ Tryz.prog cD.G cD.an 0 Tryz.f129 _ cD.st
abbrev cD.Ok:=cK @cD.A cD.aB cD.add cD.F cD.out
theorem cD.eq{R:Type}(kv:Int)(nonce:Int)(m:Bs)(t:Int)(k:a9→Option R):cD.A (kv,nonce,m,t) k=
 ah (cH.call nonce) fun x1=>
 ah (fx.call (x1,t)) fun x2=>
 ah (cH.call kv) fun x3=>
 ah (dF.call (x2,x3,m)) fun x4=>
 ah (fv.call (x4,kv)) fun x5=>
 ah (fF.call (nonce,x5)) fun x6=>
 k (cD.out (x2,(x6,()))):=by kernel_rfl
theorem cD.ok:cD.Ok:=by
 rintro⟨k,n,m,t⟩ ⟨hk,hn,hm,ht⟩
 have hk:gm k:=hk
 have hn:gm n:=hn
 have hm:Sm m:=hm
 have ht:gm t:=ht
 rw[cD.eq,cH.run (d:=n) hn]
 simp only[aa,cH.add,cH.F]
 rw[fx.run (d:=(cS n,t)) ⟨(ue _ _).u,ht⟩,cH.run (d:=k) hk]
 simp only[aa,cH.add,cH.F,fx.add,fx.F]
 rw[dF.run (d:=(rk [cS n,t],cS k,m)) hm]
 simp only[aa,dF.add,dF.F]
 rw[fv.run (d:=(mH (rk [cS n,t]) (cS k) m,k)) ⟨(rO _ _ _).u,hk⟩]
 simp only[aa,fv.add,fv.F]
 rw[fF.run (d:=(n,vg (mH (rk [cS n,t]) (cS k) m) k)) ⟨hn,(Cz _ _).u⟩]
 rfl
noncomputable def cD.E:=Entry.cz [some tu,some tu,some tH,some tu] cD.st cD.aB cD.add cD.F cD.out
noncomputable def cD.call:cD.D→Option cD.X:=bH cD.E cD.st
theorem cD.run:bC cD.call cD.aB cD.add cD.F:=cQ (cP [.d tu,.d tu,.d tB,.d tu] fun _=>by kernel_rfl)
noncomputable def cD.sg:SG Tryz.prog:=⟨129,aU,cD.E,.fn 0 (by kernel_rfl) cD.ok trivial⟩
abbrev dC.D:=Int×Bs
def dC.st:dC.D→SA:=fun(kv,m)=>([.d tu kv,.d tH m],[])
abbrev dC.Y:=Sg
abbrev dC.X:=Sg
def dC.out:dC.X→a9:=fun x=>⟨.d jm x,[],[]⟩
def dC.add:dC.D→dC.Y→dC.X:=fun(kv,m) y=>y
def dC.aB:dC.D→Prop:=fun(k,m)=>gm k∧Sm m
def dC.F:dC.D→dC.Y:=fun(k,m)=>eF k m
noncomputable def dC.G:dS:=eR (P:=Tryz.prog) [fm.sg,cM.sg,bQ.sg,bw.sg,cD.sg]
noncomputable def dC.an:eA:= {}
noncomputable def dC.A:= @cJ Tryz.prog dC.G dC.an 0 Tryz.f91 _ dC.st
abbrev dC.Ok:=cK @dC.A dC.aB dC.add dC.F dC.out
theorem dC.eq{R:Type}(kv:Int)(m:Bs)(k:a9→Option R):dC.A (kv,m) k=
  ah (fm.call kv) fun x1=>
  aJ ((!x1)) (
   k (dC.out ((0:Int),((0:Int),())))) (
   ah (cM.call kv) fun x2=>
   ah (bQ.call ((⟨#[110,111,110,99,101]⟩:ByteArray),[x2,(cut m 0 32)])) fun x3=>
   ah (bw.call x3) fun x4=>
   ah (cD.call (kv,x4,m,(1:Int))) fun x5=>
   k (dC.out x5)):=by kernel_rfl
theorem dC.ok:dC.Ok:=by
 rintro⟨k,m⟩ ⟨hk,hm⟩
 have hk:gm k:=hk
 have hm:Sm m:=hm
 rw[dC.eq,fm.run (d:=k) trivial]
 simp only[aa,fm.add,fm.F,dC.add,dC.F,eF]
 by_cases h:k < 2305843009213688669∧k≠0
 ·rw[aO h,if_pos h,cM.run (d:=k) trivial,fg hm.1]
  simp only[Bool.not_true,ay,aa,cM.add,cM.F]
  rw[bQ.run (BS (by decide) (by rw[bK];omega) (by rw[hm.1];omega))]
  simp only[aa,bQ.add,bQ.F]
  rw[bw.run (d:=tag (bh (⟨#[110,111,110,99,101]⟩:ByteArray)) [fM k,m]) (vr _ _)]
  simp only[aa,bw.add,bw.F]
  have q:=rY (tag (bh (⟨#[110,111,110,99,101]⟩:ByteArray)) [fM k,m])
  rw[cD.run (d:=(k,nq (tag (bh (⟨#[110,111,110,99,101]⟩:ByteArray)) [fM k,m]),m,1)) ⟨hk,⟨by omega,by omega⟩,hm,by omega,by omega⟩]
  rfl
 ·rw[aM h,if_neg h];rfl
noncomputable def dC.E:=Entry.cz [some tu,some tH] dC.st dC.aB dC.add dC.F dC.out
noncomputable def dC.call:dC.D→Option dC.X:=bH dC.E dC.st
theorem dC.run:bC dC.call dC.aB dC.add dC.F:=cQ (cP [.d tu,.d tB] fun _=>by kernel_rfl)
noncomputable def dC.sg:SG Tryz.prog:=⟨91,aU,dC.E,.fn 0 (by kernel_rfl) dC.ok trivial⟩
set_option synthInstance.maxSize 5000
def iS(l:List Int):Prop:=∀x∈l,gm x
def CS(b:fU):Prop:=iS b.1∧gm b.2.2.2.1
def qd(l:Lk):Prop:=∀b∈l.1,CS b
def pk(n:Int):Bool:=decide (0≤n∧n≤1048576)
def lQ(b:fU):Bool:=decide (b.1.length≤12) && (b.1.all lh && (pk b.2.1 && (pk b.2.2.1 && (decide (b.2.2.2.1=0) || lh b.2.2.2.1))))
def gb(l:Lk):Bool:=l.1.all lQ && decide (0 < l.1.length∧l.1.length≤4)
def ky:List Int→Int→Int⊕Unit
 |[],_=> .inr ()
 |p::ps,i=>if lh p then ky ps (i+1) else .inl i
def yJ(l:List Int):Int:=match ky l 0 with | .inl i=>i | .inr _=> -1
theorem qM:∀(l:List Int) (i:Int),0≤i→(match ky l i with | .inl i=>decide (i≥0) | .inr _=>false)= !(l.all lh)
 |[],_,_=>rfl
 |p::ps,i,h=>by
  rw[ky,List.all_cons]
  cases hp:lh p
  ·simp[h]
  ·simp only[if_true,Bool.true_and]
   exact qM ps (i+1) (by omega)
theorem zt(l:List Int):mU (yJ l) 0= !(l.all lh):=by
 have:=qM l 0 (by omega)
 unfold yJ mU
 cases h:ky l 0
 ·rw[h]at this;exact this
 ·rw[h]at this;rw[←this];rfl
abbrev eX.D:=Int
def eX.st:eX.D→SA:=fun p=>([.d tu p],[])
abbrev eX.Y:=Bool
abbrev eX.X:=Bool
def eX.out:eX.X→a9:=fun x=>⟨.d .bool x,[],[]⟩
def eX.add:eX.D→eX.Y→eX.X:=fun p y=>y
def eX.aB:eX.D→Prop:=fun p=>gm p
def eX.F:eX.D→eX.Y:=fun p=> !lh p
noncomputable def eX.G:dS:=eR (P:=Tryz.prog) [cj.sg]
noncomputable def eX.an:eA:= {}
noncomputable def eX.A:= @cJ Tryz.prog eX.G eX.an 0 Tryz.f61 _ eX.st
abbrev eX.Ok:=cK @eX.A eX.aB eX.add eX.F eX.out
theorem eX.eq{R:Type}(p:Int)(k:a9→Option R):eX.A p k=
 ah (cj.call p) fun x1=>
 k (eX.out (!x1)):=by kernel_rfl
theorem eX.ok:eX.Ok:=by
 intro p hp
 rw[eX.eq,cj.run (d:=p) hp]
 rfl
noncomputable def eX.E:=Entry.cz [some tu] eX.st eX.aB eX.add eX.F eX.out
noncomputable def eX.call:eX.D→Option eX.X:=bH eX.E eX.st
theorem eX.run:bC eX.call eX.aB eX.add eX.F:=cQ (cP [.d tu] fun _=>by kernel_rfl)
noncomputable def eX.sg:SG Tryz.prog:=⟨61,aU,eX.E,.fn 0 (by kernel_rfl) eX.ok trivial⟩
abbrev aW.L0.D:=Bs×Int×Int
def aW.L0.st:aW.L0.D→AS:=fun(sv_2,t7,t8)=>⟨([.d tU sv_2,.fn 61 (.nil)]++bg 5 ([.d ti t7,.d ti t8]++bg 10 [])),[],(List.replicate 19 [])⟩
abbrev aW.L0.Y0:=Int
abbrev aW.L0.X0:=Int
def aW.L0.bt:aW.L0.X0→Exit×AS:=fun x=>(.ret,⟨(bg 4 ([.d ti x]++bg 14 [])),[],(List.replicate 19 [])⟩)
abbrev aW.L0.Y1:=Unit
abbrev aW.L0.X1:=Unit
def aW.L0.eS:aW.L0.X1→Exit×AS:=fun x=>(.exit 0,⟨(bg 19 []),[],(List.replicate 19 [])⟩)
abbrev aW.L0.X:=(aW.L0.X0)⊕(aW.L0.X1)
abbrev aW.L0.Y:=(aW.L0.Y0)⊕(aW.L0.Y1)
def aW.L0.out:aW.L0.X→Out (Exit×AS):=fun x=> .br x.isLeft (.get x.getLeft? fun a=> .ok (aW.L0.bt a)) (.get x.getRight? fun b=> .ok (aW.L0.eS b))
def aW.L0.add:aW.L0.D→aW.L0.Y→aW.L0.X:=fun(sv_2,t7,t8) y=>match y with | .inl y=> .inl y | .inr z=> .inr (z)
abbrev aW.D:=Bs
def aW.st:aW.D→SA:=fun sv=>([.d tU sv,.fn 61 (.nil)],[])
abbrev aW.Y:=Int
abbrev aW.X:=Int
def aW.out:aW.X→a9:=fun x=>⟨.d ti x,[],[]⟩
def aW.add:aW.D→aW.Y→aW.X:=fun sv y=>y
def aW.L0.aB:aW.L0.D→Prop:=fun(l,n,i)=>iS l∧l.length≤1000000000∧n=l.length∧∃k:Nat,k≤l.length∧i=k
def aW.L0.F:aW.L0.D→aW.L0.Y:=fun(l,n,i)=>ky (l.drop i.toNat) i
def aW.aB:aW.D→Prop:=fun l=>iS l∧l.length≤1000000000
def aW.F:aW.D→aW.Y:=fun l=>yJ l
noncomputable def aW.G:dS:=eR (P:=Tryz.prog) [eX.sg]
noncomputable def aW.L0.E:=bO.cz aW.L0.st aW.L0.aB aW.L0.add aW.L0.F aW.L0.out
noncomputable def aW.L0.call:aW.L0.D→Option aW.L0.X:=dk aW.L0.E aW.L0.st
noncomputable def aW.an:eA:= {loops:=jY [(2,{bm:=[0,1,7,8]})],outs:=jX [(2,{},{bm:=[4]})],fJ:=kF [(2,aW.L0.E)]}
noncomputable def aW.A:= @cJ Tryz.prog aW.G aW.an 0 Tryz.f117 _ aW.st
abbrev aW.Ok:=cK @aW.A aW.aB aW.add aW.F aW.out
noncomputable def aW.L0.R:= @cg Tryz.prog aW.G aW.an 0 Tryz.f117 0 _ aW.L0.st
abbrev aW.L0.Ok:=eB Tryz.prog aW.G aW.an 0 Tryz.f117 0 aW.L0.st aW.L0.aB aW.L0.add aW.L0.F aW.L0.out
theorem aW.L0.run:bC aW.L0.call aW.L0.aB aW.L0.add aW.L0.F:=eI (eD [.d tU,.d ti,.d ti] fun _=>by kernel_rfl)
theorem aW.L0.aG:jt @aW.L0.R aW.L0.st aW.L0.aB aW.L0.add aW.L0.F aW.L0.out aW.L0.Ok:=jV
theorem aW.L0.step{R:Type}(sv_2:Bs)(t7:Int)(t8:Int)(kn:AS→Option R)(kx:Exit→AS→Option R):aW.L0.R (sv_2,t7,t8) kn kx=
  aJ ((fZ t8 t7)) (
   aJ (ei t8 (((List.length sv_2):Nat):Int)) (
   ah (eX.call (nth tu sv_2 (Int.toNat t8))) fun x1=>
   aJ (x1) (
    kx (aW.L0.bt t8).1 (aW.L0.bt t8).2) (
    kn (aW.L0.st (sv_2,t7,(bM .i64 t8 (1:Int)))))) none) (
   kx (aW.L0.eS ()).1 (aW.L0.eS ()).2):=by kernel_rfl
theorem aW.eq{R:Type}(sv:Bs)(k:a9→Option R):aW.A sv k=
  ah (aW.L0.call (sv,(((List.length sv):Nat):Int),(0:Int))) fun x2=>
  aJ (x2.isLeft) (
   ah (x2.getLeft?) fun a3=>
   k (aW.out a3)) (
   ah (x2.getRight?) fun b4=>
   k (aW.out (-1:Int))):=by kernel_rfl
theorem aW.L0.ok:aW.L0.Ok:=by
 refine aW.L0.aG (fun(l,n,i)=>l.length - i.toNat) ?_
 rintro⟨l,n,i⟩ ⟨hl,hb,rfl,k,hk,rfl⟩
 have hb:l.length≤1000000000:=hb
 have hk:k≤l.length:=hk
 by_cases h:k < l.length
 ·have hx:=hl _ (List.getElem_mem h)
  have n1:nth (.int .u64) l k=l[k]:=cC (t:= .int .u64) h
  have hd:ky (l.drop k) k=if lh l[k] then ky (l.drop (k+1)) ((k+1:Nat):Int) else .inl (k:Int):=by rw[List.drop_eq_getElem_cons h];rfl
  cases hp:lh l[k]
  ·right
   refine⟨aW.L0.bt (k:Int),?_,fun kn kx=> ?_⟩
   ·simp only[aW.L0.add,aW.L0.F,Int.toNat_natCast,hd,hp,Bool.false_eq_true,if_false]
    rfl
   ·rw[aW.L0.step]
    simp(disch:=omega) only[↓S1,↓if_pos,↓if_neg,if_pos,if_neg,if_true,if_false,S2,n1]
    rw[eX.run (d:=l[k]) hx]
    simp only[aa,eX.add,eX.F,hp,Bool.not_false,av]
  ·left
   refine⟨(l,l.length,((k+1:Nat):Int)),⟨hl,hb,rfl,k+1,by omega,rfl⟩,by simp only[Int.toNat_natCast];omega,?_,fun kn kx=> ?_⟩
   ·simp only[aW.L0.add,aW.L0.F,Int.toNat_natCast,hd,hp,if_true]
   ·rw[aW.L0.step]
    simp(disch:=omega) only[↓S1,↓if_pos,↓if_neg,if_pos,if_neg,if_true,if_false,S2,n1]
    rw[eX.run (d:=l[k]) hx]
    simp only[aa,eX.add,eX.F,hp,Bool.not_true,ay]
 ·right
  obtain rfl:k=l.length:=by omega
  refine⟨aW.L0.eS (),?_,fun kn kx=> ?_⟩
  ·simp only[aW.L0.add,aW.L0.F,Int.toNat_natCast,List.drop_length]
   rfl
  ·rw[aW.L0.step]
   simp(disch:=omega) only[↓S1,↓if_pos,↓if_neg,if_pos,if_neg,if_true,if_false,S2]
theorem aW.ok:aW.Ok:=by
 rintro l ⟨hl,hb⟩
 rw[aW.eq,aW.L0.run (d:=(l,l.length,0)) ⟨hl,hb,rfl,0,by omega,rfl⟩]
 simp only[aa,aW.L0.add,aW.L0.F,Int.toNat_zero,List.drop_zero,aW.add,aW.F,yJ]
 cases ky l 0 <;> rfl
noncomputable def aW.E:=Entry.cz [some tU,none] aW.st aW.aB aW.add aW.F aW.out
noncomputable def aW.call:aW.D→Option aW.X:=bH aW.E aW.st
theorem aW.run:bC aW.call aW.aB aW.add aW.F:=cQ (cP [.d tU] fun _=>by kernel_rfl)
noncomputable def aW.sg:SG Tryz.prog:=⟨117,aU,aW.E,.fn 1 (by kernel_rfl) aW.ok (And.intro (.cz aW.L0.ok (by kernel_rfl)) trivial)⟩
abbrev bD.D:=Bs
def bD.st:bD.D→SA:=fun sv=>([.d tU sv,.fn 61 (.nil)],[])
abbrev bD.Y:=Bool
abbrev bD.X:=Bool
def bD.out:bD.X→a9:=fun x=>⟨.d .bool x,[],[]⟩
def bD.add:bD.D→bD.Y→bD.X:=fun sv y=>y
def bD.aB:bD.D→Prop:=fun l=>iS l∧l.length≤1000000000
def bD.F:bD.D→bD.Y:=fun l=> !(l.all lh)
noncomputable def bD.G:dS:=eR (P:=Tryz.prog) [aW.sg]
noncomputable def bD.an:eA:= {}
noncomputable def bD.A:= @cJ Tryz.prog bD.G bD.an 0 Tryz.f63 _ bD.st
abbrev bD.Ok:=cK @bD.A bD.aB bD.add bD.F bD.out
theorem bD.eq{R:Type}(sv:Bs)(k:a9→Option R):bD.A sv k=
 ah (aW.call sv) fun x1=>
 k (bD.out (mU x1 (0:Int))):=by kernel_rfl
theorem bD.ok:bD.Ok:=by
 rintro l ⟨hl,hb⟩
 rw[bD.eq,aW.run (d:=l) ⟨hl,hb⟩]
 simp only[aa,aW.add,aW.F,zt]
 rfl
noncomputable def bD.E:=Entry.cz [some tU,none] bD.st bD.aB bD.add bD.F bD.out
noncomputable def bD.call:bD.D→Option bD.X:=bH bD.E bD.st
theorem bD.run:bC bD.call bD.aB bD.add bD.F:=cQ (cP [.d tU] fun _=>by kernel_rfl)
noncomputable def bD.sg:SG Tryz.prog:=⟨63,aU,bD.E,.fn 0 (by kernel_rfl) bD.ok trivial⟩
abbrev bW.D:=Int
def bW.st:bW.D→SA:=fun n=>([.d ti n],[])
abbrev bW.Y:=Bool
abbrev bW.X:=Bool
def bW.out:bW.X→a9:=fun x=>⟨.d .bool x,[],[]⟩
def bW.add:bW.D→bW.Y→bW.X:=fun n y=>y
def bW.aB:bW.D→Prop:=fun _=>True
def bW.F:bW.D→bW.Y:=fun n=>pk n
noncomputable def bW.G:dS:=eR (P:=Tryz.prog) []
noncomputable def bW.an:eA:= {}
noncomputable def bW.A:= @cJ Tryz.prog bW.G bW.an 0 Tryz.f64 _ bW.st
abbrev bW.Ok:=cK @bW.A bW.aB bW.add bW.F bW.out
theorem bW.eq{R:Type}(n:Int)(k:a9→Option R):bW.A n k=
  aJ ((mU n (0:Int))) (
   k (bW.out (zP n (1048576:Int)))) (
   k (bW.out false)):=by kernel_rfl
theorem bW.ok:bW.Ok:=by
 intro n _
 rw[bW.eq]
 simp only[bW.add,bW.F,pk]
 by_cases h:0≤n
 ·rw[fX h,av]
  by_cases h2:n≤1048576
  ·rw[nu h2,aO ⟨h,h2⟩]
  ·rw[kJ h2,aM (fun x=>h2 x.2)]
 ·rw[eJ h,ay,aM (fun x=>h x.1)]
noncomputable def bW.E:=Entry.cz [some ti] bW.st bW.aB bW.add bW.F bW.out
noncomputable def bW.call:bW.D→Option bW.X:=bH bW.E bW.st
theorem bW.run:bC bW.call bW.aB bW.add bW.F:=cQ (cP [.d ti] fun _=>by kernel_rfl)
noncomputable def bW.sg:SG Tryz.prog:=⟨64,aU,bW.E,.fn 0 (by kernel_rfl) bW.ok trivial⟩
set_option synthInstance.maxSize 5000
abbrev aK.L0.D:=Lk×(List fU)×Int×Int
def aK.L0.st:aK.L0.D→AS:=fun(l_2,t7,t8,t9)=>⟨([.undef,.eG jo l_2,.undef,.fn 61 (.nil),.undef,.undef,.undef,.d (.slice fk) t7,.d ti t8,.d ti t9]++bg 47 []),[],(List.replicate 57 [])⟩
abbrev aK.L0.Y0:=Unit
abbrev aK.L0.X0:=Unit
def aK.L0.bt:aK.L0.X0→Exit×AS:=fun x=>(.ret,⟨([.undef,.undef,.d .bool false]++bg 54 []),[],(List.replicate 57 [])⟩)
abbrev aK.L0.Y1:=Unit
abbrev aK.L0.X1:=Lk
def aK.L0.eS:aK.L0.X1→Exit×AS:=fun x=>(.exit 0,⟨([.undef,.eG jo x]++bg 55 []),[],(List.replicate 57 [])⟩)
abbrev aK.L0.X:=(aK.L0.X0)⊕(aK.L0.X1)
abbrev aK.L0.Y:=(aK.L0.Y0)⊕(aK.L0.Y1)
def aK.L0.out:aK.L0.X→Out (Exit×AS):=fun x=> .br x.isLeft (.get x.getLeft? fun a=> .ok (aK.L0.bt a)) (.get x.getRight? fun b=> .ok (aK.L0.eS b))
def aK.L0.add:aK.L0.D→aK.L0.Y→aK.L0.X:=fun(l_2,t7,t8,t9) y=>match y with | .inl y=> .inl y | .inr z=> .inr (l_2)
abbrev aK.D:=Lk
def aK.st:aK.D→SA:=fun l=>([.d jo l],[])
abbrev aK.Y:=Bool
abbrev aK.X:=Bool
def aK.out:aK.X→a9:=fun x=>⟨.d .bool x,[],[]⟩
def aK.add:aK.D→aK.Y→aK.X:=fun l y=>y
def aK.L0.aB:aK.L0.D→Prop:=fun(l,bs,n,i)=>(∀b∈bs,CS b)∧bs.length≤1000000000∧n=bs.length∧∃k:Nat,k≤bs.length∧i=k
def aK.L0.F:aK.L0.D→aK.L0.Y:=fun(l,bs,n,i)=>if(bs.drop i.toNat).all lQ then .inr () else .inl ()
def aK.aB:aK.D→Prop:=fun l=>qd l∧l.1.length≤1000000000
def aK.F:aK.D→aK.Y:=fun l=>gb l
noncomputable def aK.G:dS:=eR (P:=Tryz.prog) [bD.sg,bW.sg,eX.sg]
noncomputable def aK.L0.E:=bO.cz aK.L0.st aK.L0.aB aK.L0.add aK.L0.F aK.L0.out
noncomputable def aK.L0.call:aK.L0.D→Option aK.L0.X:=dk aK.L0.E aK.L0.st
noncomputable def aK.an:eA:= {loops:=jY [(3,{bm:=[1,3,7,8,9]})],outs:=jX [(3,{bm:=[1]},{bm:=[2]})],fJ:=kF [(3,aK.L0.E)]}
noncomputable def aK.A:= @cJ Tryz.prog aK.G aK.an 0 Tryz.f13 _ aK.st
abbrev aK.Ok:=cK @aK.A aK.aB aK.add aK.F aK.out
noncomputable def aK.L0.R:= @cg Tryz.prog aK.G aK.an 0 Tryz.f13 0 _ aK.L0.st
abbrev aK.L0.Ok:=eB Tryz.prog aK.G aK.an 0 Tryz.f13 0 aK.L0.st aK.L0.aB aK.L0.add aK.L0.F aK.L0.out
theorem aK.L0.run:bC aK.L0.call aK.L0.aB aK.L0.add aK.L0.F:=eI (eD [.d jo,.d (.slice fk),.d ti,.d ti] fun _=>by kernel_rfl)
theorem aK.L0.aG:jt @aK.L0.R aK.L0.st aK.L0.aB aK.L0.add aK.L0.F aK.L0.out aK.L0.Ok:=jV
theorem aK.L0.step{R:Type}(l_2:Lk)(t7:(List fU))(t8:Int)(t9:Int)(kn:AS→Option R)(kx:Exit→AS→Option R):aK.L0.R (l_2,t7,t8,t9) kn kx=
  aJ ((fZ t9 t8)) (
   aJ (ei t9 (((List.length t7):Nat):Int)) (
   aJ ((oJ (((List.length (nth fk t7 (Int.toNat t9)).1):Nat):Int) (12:Int))) (
    kx (aK.L0.bt ()).1 (aK.L0.bt ()).2) (
    ah (bD.call (nth fk t7 (Int.toNat t9)).1) fun x1=>
    aJ (x1) (
     kx (aK.L0.bt ()).1 (aK.L0.bt ()).2) (
     ah (bW.call (nth fk t7 (Int.toNat t9)).2.1) fun x2=>
     aJ ((!x2)) (
      kx (aK.L0.bt ()).1 (aK.L0.bt ()).2) (
      ah (bW.call (nth fk t7 (Int.toNat t9)).2.2.1) fun x3=>
      aJ ((!x3)) (
       kx (aK.L0.bt ()).1 (aK.L0.bt ()).2) (
       aJ ((jw (nth fk t7 (Int.toNat t9)).2.2.2.1 (0:Int))) (
        ah (eX.call (nth fk t7 (Int.toNat t9)).2.2.2.1) fun x4=>
        aJ (x4) (
         kx (aK.L0.bt ()).1 (aK.L0.bt ()).2) (
         kn (aK.L0.st (l_2,t7,t8,(bM .i64 t9 (1:Int)))))) (
        kn (aK.L0.st (l_2,t7,t8,(bM .i64 t9 (1:Int)))))))))) none) (
   kx (aK.L0.eS l_2).1 (aK.L0.eS l_2).2):=by kernel_rfl
theorem aK.eq{R:Type}(l:Lk)(k:a9→Option R):aK.A l k=
  ah (aK.L0.call (l,l.1,(((List.length l.1):Nat):Int),(0:Int))) fun x5=>
  aJ (x5.isLeft) (
   ah (x5.getLeft?) fun a6=>
   k (aK.out false)) (
   ah (x5.getRight?) fun b7=>
   aJ ((oJ (((List.length b7.1):Nat):Int) (0:Int))) (
    k (aK.out (zP (((List.length b7.1):Nat):Int) (4:Int)))) (
    k (aK.out false))):=by kernel_rfl
theorem aK.L0.ok:aK.L0.Ok:=by
 refine aK.L0.aG (fun(l,bs,n,i)=>bs.length - i.toNat) ?_
 rintro⟨l,bs,n,i⟩ ⟨hl,hb,rfl,k,hk,rfl⟩
 have hb:bs.length≤1000000000:=hb
 have hk:k≤bs.length:=hk
 by_cases h:k < bs.length
 ·have hx:CS bs[k]:=hl _ (List.getElem_mem h)
  have n1:nth (.pair (.slice (.int .u64)) (.pair (.int .i64) (.pair (.int .i64) (.pair (.int .u64) .unit)))) bs k=bs[k]:=cC (t:=(.pair (.slice (.int .u64)) (.pair (.int .i64) (.pair (.int .i64) (.pair (.int .u64) .unit))))) h
  have hd:(bs.drop k).all lQ=(lQ bs[k] && (bs.drop (k+1)).all lQ):=by rw[List.drop_eq_getElem_cons h,List.all_cons]
  have step:∀ {R:Type} (kn:AS→Option R) (kx:Exit→AS→Option R),aK.L0.R (l,bs,(bs.length:Int),(k:Int)) kn kx=aJ (lQ bs[k]) (kn (aK.L0.st (l,bs,(bs.length:Int),((k+1:Nat):Int)))) (kx (aK.L0.bt ()).1 (aK.L0.bt ()).2):=by
   intro R kn kx
   rw[aK.L0.step,bu (by omega),bo (by omega) (by omega),Int.toNat_natCast,n1,N.kM (by omega)]
   obtain⟨⟨ks,af,dl,sc,u⟩,hbk⟩:∃b,bs[k]=b:=⟨_,rfl⟩
   rw[hbk]at hx ⊢
   have h1:iS ks:=hx.1
   have h2:gm sc:=hx.2
   simp only[av,lQ]
   by_cases hk:ks.length≤12
   ·rw[dR (by omega),bD.run (d:=ks) ⟨h1,by omega⟩,bW.run (d:=af) trivial,bW.run (d:=dl) trivial,eX.run (d:=sc) h2,aO hk]
    simp only[ay,aa,bD.add,bD.F,bW.add,bW.F,eX.add,eX.F,Bool.true_and]
    cases ks.all lh
    ·rfl
    cases pk af
    ·rfl
    cases pk dl
    ·rfl
    by_cases hs:sc=0
    ·rw[bR hs,aO hs];rfl
    ·rw[dA hs,aM hs]
     cases lh sc <;> rfl
   ·rw[ek (by omega),aM hk];rfl
  cases hp:lQ bs[k]
  ·right
   refine⟨aK.L0.bt (),?_,fun kn kx=> ?_⟩
   ·simp only[aK.L0.add,aK.L0.F,Int.toNat_natCast,hd,hp,Bool.false_and,Bool.false_eq_true,if_false]
    rfl
   ·rw[step,hp,ay]
  ·left
   refine⟨(l,bs,bs.length,((k+1:Nat):Int)),⟨hl,hb,rfl,k+1,by omega,rfl⟩,by simp only[Int.toNat_natCast];omega,?_,fun kn kx=> ?_⟩
   ·simp only[aK.L0.add,aK.L0.F,Int.toNat_natCast,hd,hp,Bool.true_and]
   ·rw[step,hp,av]
 ·right
  obtain rfl:k=bs.length:=by omega
  refine⟨aK.L0.eS l,?_,fun kn kx=> ?_⟩
  ·simp only[aK.L0.add,aK.L0.F,Int.toNat_natCast,List.drop_length]
   rfl
  ·rw[aK.L0.step]
   simp(disch:=omega) only[↓S1,↓if_pos,↓if_neg,if_pos,if_neg,if_true,if_false,S2]
theorem aK.ok:aK.Ok:=by
 rintro l ⟨hl,hb⟩
 have hb:l.1.length≤1000000000:=hb
 rw[aK.eq,aK.L0.run (d:=(l,l.1,l.1.length,0)) ⟨hl,hb,rfl,0,by omega,rfl⟩]
 simp only[aa,aK.L0.add,aK.L0.F,Int.toNat_zero,List.drop_zero,aK.add,aK.F,gb]
 cases l.1.all lQ
 ·rfl
 ·simp only[if_true,Bool.true_and]
  show aJ (oJ _ _) _ _=_
  by_cases h0:0 < l.1.length
  ·rw[ek (by omega)]
   by_cases h4:l.1.length≤4
   ·rw[nu (by omega),aO ⟨h0,h4⟩];rfl
   ·rw[kJ (by omega),aM (fun x=>h4 x.2)];rfl
  ·rw[dR (by omega),aM (fun x=>h0 x.1)];rfl
noncomputable def aK.E:=Entry.cz [some jo] aK.st aK.aB aK.add aK.F aK.out
noncomputable def aK.call:aK.D→Option aK.X:=bH aK.E aK.st
theorem aK.run:bC aK.call aK.aB aK.add aK.F:=cQ (cP [.d jo] fun _=>by kernel_rfl)
noncomputable def aK.sg:SG Tryz.prog:=⟨13,aU,aK.E,.fn 1 (by kernel_rfl) aK.ok (And.intro (.cz aK.L0.ok (by kernel_rfl)) trivial)⟩
def jF(m:List Int):List Int→List Sg→Bool
 |[],_=>true
 |p::ps,ss=>kO p m 1 (ss.headD (0,0,())) && jF m ps ss.tail
def j5(l:Lk)(w:l7)(m:List Int)(height age:Int):Int:=
 if gb l=false∨w.1 < 0∨w.1≥l.1.length then 1
 else
  let b:=nth (.pair (.slice (.int .u64)) (.pair (.int .i64) (.pair (.int .i64) (.pair (.int .u64) .unit)))) l.1 w.1.toNat
  if height < b.2.1∨age < b.2.2.1 then 11
  else if b.2.2.2.1≠0∧cS w.2.2.1≠b.2.2.2.1 then 23
  else if w.2.1.length≠b.1.length then 7
  else if jF m b.1 w.2.1 then 0 else 7
theorem At(m:List Int)(ks:List Int)(ss:List Sg)(h:ss.length=ks.length)(k:Nat)(hk:k < ks.length):jF m (ks.drop k) (ss.drop k)=(kO ks[k] m 1 (ss[k]'(by omega)) && jF m (ks.drop (k+1)) (ss.drop (k+1))):=by
 rw[List.drop_eq_getElem_cons hk,List.drop_eq_getElem_cons (by omega:k < ss.length)]
 rfl
def l9(w:l7):Prop:=(∀s∈w.2.1,CU s)∧gm w.2.2.1
abbrev aY.L0.D:=l7×Bs×Bs×Int×Int
def aY.L0.st:aY.L0.D→AS:=fun(wv_2,m_2,t68,t69,t70)=>⟨(bg 6 ([.eG s7 wv_2,.eG tH m_2]++bg 60 ([.d tU t68,.d ti t69,.d ti t70]++bg 14 []))),[],(List.replicate 85 [])⟩
abbrev aY.L0.Y0:=Unit
abbrev aY.L0.X0:=Unit
def aY.L0.bt:aY.L0.X0→Exit×AS:=fun x=>(.ret,⟨(bg 10 ([.d ti (7:Int)]++bg 74 [])),[],(List.replicate 85 [])⟩)
abbrev aY.L0.Y1:=Unit
abbrev aY.L0.X1:=Unit
def aY.L0.eS:aY.L0.X1→Exit×AS:=fun x=>(.exit 1,⟨(bg 85 []),[],(List.replicate 85 [])⟩)
abbrev aY.L0.X:=(aY.L0.X0)⊕(aY.L0.X1)
abbrev aY.L0.Y:=(aY.L0.Y0)⊕(aY.L0.Y1)
def aY.L0.out:aY.L0.X→Out (Exit×AS):=fun x=> .br x.isLeft (.get x.getLeft? fun a=> .ok (aY.L0.bt a)) (.get x.getRight? fun b=> .ok (aY.L0.eS b))
def aY.L0.add:aY.L0.D→aY.L0.Y→aY.L0.X:=fun(wv_2,m_2,t68,t69,t70) y=>match y with | .inl y=> .inl y | .inr z=> .inr (z)
abbrev aY.D:=Lk×l7×Bs×Int×Int
def aY.st:aY.D→SA:=fun(l,wv,m,height,age)=>([.d jo l,.d s7 wv,.d tH m,.d ti height,.d ti age],[])
abbrev aY.Y:=Int
abbrev aY.X:=Int
def aY.out:aY.X→a9:=fun x=>⟨.d ti x,[],[]⟩
def aY.add:aY.D→aY.Y→aY.X:=fun(l,wv,m,height,age) y=>y
def aY.L0.aB:aY.L0.D→Prop:=fun(w,m,ks,n,i)=>l9 w∧Sm m∧iS ks∧ks.length≤1000000000∧w.2.1.length=ks.length∧n=ks.length∧∃k:Nat,k≤ks.length∧i=k
def aY.L0.F:aY.L0.D→aY.L0.Y:=fun(w,m,ks,n,i)=>if jF m (ks.drop i.toNat) (w.2.1.drop i.toNat) then .inr () else .inl ()
def aY.aB:aY.D→Prop:=fun(l,w,m,h,a)=>qd l∧l.1.length≤1000000000∧l9 w∧Sm m
def aY.F:aY.D→aY.Y:=fun(l,w,m,h,a)=>j5 l w m h a
noncomputable def aY.G:dS:=eR (P:=Tryz.prog) [aK.sg,cH.sg,bS.sg]
noncomputable def aY.L0.E:=bO.cz aY.L0.st aY.L0.aB aY.L0.add aY.L0.F aY.L0.out
noncomputable def aY.L0.call:aY.L0.D→Option aY.L0.X:=dk aY.L0.E aY.L0.st
noncomputable def aY.an:eA:= {loops:=jY [(11,{bm:=[6,7,68,69,70]})],outs:=jX [(11,{},{bm:=[10]})],fJ:=kF [(11,aY.L0.E)]}
noncomputable def aY.A:= @cJ Tryz.prog aY.G aY.an 0 Tryz.f47 _ aY.st
abbrev aY.Ok:=cK @aY.A aY.aB aY.add aY.F aY.out
noncomputable def aY.L0.R:= @cg Tryz.prog aY.G aY.an 0 Tryz.f47 0 _ aY.L0.st
abbrev aY.L0.Ok:=eB Tryz.prog aY.G aY.an 0 Tryz.f47 0 aY.L0.st aY.L0.aB aY.L0.add aY.L0.F aY.L0.out
theorem aY.L0.run:bC aY.L0.call aY.L0.aB aY.L0.add aY.L0.F:=eI (eD [.d s7,.d tH,.d tU,.d ti,.d ti] fun _=>by kernel_rfl)
theorem aY.L0.aG:jt @aY.L0.R aY.L0.st aY.L0.aB aY.L0.add aY.L0.F aY.L0.out aY.L0.Ok:=jV
theorem aY.L0.step{R:Type}(wv_2:l7)(m_2:Bs)(t68:Bs)(t69:Int)(t70:Int)(kn:AS→Option R)(kx:Exit→AS→Option R):aY.L0.R (wv_2,m_2,t68,t69,t70) kn kx=
  aJ ((fZ t70 t69)) (
   aJ (ei t70 (((List.length t68):Nat):Int)) (
   aJ (ei t70 (((List.length wv_2.2.1):Nat):Int)) (
   ah (bS.call ((nth tu t68 (Int.toNat t70)),m_2,(nth jm wv_2.2.1 (Int.toNat t70)))) fun x1=>
   aJ ((!x1)) (
    kx (aY.L0.bt ()).1 (aY.L0.bt ()).2) (
    kn (aY.L0.st (wv_2,m_2,t68,t69,(bM .i64 t70 (1:Int)))))) none) none) (
   kx (aY.L0.eS ()).1 (aY.L0.eS ()).2):=by kernel_rfl
theorem aY.eq{R:Type}(l:Lk)(wv:l7)(m:Bs)(height:Int)(age:Int)(k:a9→Option R):aY.A (l,wv,m,height,age) k=
  ah (aK.call l) fun x1=>
  aJ ((!x1)) (
   k (aY.out (1:Int))) (
   aJ ((fZ wv.1 (0:Int))) (
    k (aY.out (1:Int))) (
    aJ ((mU wv.1 (((List.length l.1):Nat):Int))) (
     k (aY.out (1:Int))) (
     aJ (ei wv.1 (((List.length l.1):Nat):Int)) (
     aJ ((fZ height (nth fk l.1 (Int.toNat wv.1)).2.1)) (
      k (aY.out (11:Int))) (
      aJ ((fZ age (nth fk l.1 (Int.toNat wv.1)).2.2.1)) (
       k (aY.out (11:Int))) (
       aJ ((jw (nth fk l.1 (Int.toNat wv.1)).2.2.2.1 (0:Int))) (
        ah (cH.call wv.2.2.1) fun x2=>
        aJ ((jw x2 (nth fk l.1 (Int.toNat wv.1)).2.2.2.1)) (
         k (aY.out (23:Int))) (
         aJ ((jw (((List.length wv.2.1):Nat):Int) (((List.length (nth fk l.1 (Int.toNat wv.1)).1):Nat):Int))) (
          k (aY.out (7:Int))) (
          ah (aY.L0.call (wv,m,(nth fk l.1 (Int.toNat wv.1)).1,(((List.length (nth fk l.1 (Int.toNat wv.1)).1):Nat):Int),(0:Int))) fun x4=>
          aJ (x4.isLeft) (
           ah (x4.getLeft?) fun a5=>
           k (aY.out (7:Int))) (
           ah (x4.getRight?) fun b6=>
           k (aY.out (0:Int)))))) (
        aJ ((jw (((List.length wv.2.1):Nat):Int) (((List.length (nth fk l.1 (Int.toNat wv.1)).1):Nat):Int))) (
         k (aY.out (7:Int))) (
         ah (aY.L0.call (wv,m,(nth fk l.1 (Int.toNat wv.1)).1,(((List.length (nth fk l.1 (Int.toNat wv.1)).1):Nat):Int),(0:Int))) fun x7=>
         aJ (x7.isLeft) (
          ah (x7.getLeft?) fun a8=>
          k (aY.out (7:Int))) (
          ah (x7.getRight?) fun b9=>
          k (aY.out (0:Int)))))))) none))):=by kernel_rfl
theorem aY.L0.ok:aY.L0.Ok:=by
 refine aY.L0.aG (fun(w,m,ks,n,i)=>ks.length - i.toNat) ?_
 rintro⟨w,m,ks,n,i⟩ ⟨hw,hm,hl,hb,hs,rfl,k,hk,rfl⟩
 have hb:ks.length≤1000000000:=hb
 have hk:k≤ks.length:=hk
 have hs:w.2.1.length=ks.length:=hs
 by_cases h:k < ks.length
 ·have hx:=hl _ (List.getElem_mem h)
  have hy:=hw.1 _ (List.getElem_mem (by omega:k < w.2.1.length))
  have n1:nth (.int .u64) ks k=ks[k]:=cC (t:= .int .u64) h
  have n2:nth (.pair (.int .u64) (.pair (.int .u64) .unit)) w.2.1 k=w.2.1[k]'(by omega):=cC (t:=(.pair (.int .u64) (.pair (.int .u64) .unit))) (by omega)
  have hd:=At m ks w.2.1 hs k h
  have step:∀ {R:Type} (kn:AS→Option R) (kx:Exit→AS→Option R),aY.L0.R (w,m,ks,(ks.length:Int),(k:Int)) kn kx=aJ (kO ks[k] m 1 (w.2.1[k]'(by omega))) (kn (aY.L0.st (w,m,ks,(ks.length:Int),((k+1:Nat):Int)))) (kx (aY.L0.bt ()).1 (aY.L0.bt ()).2):=by
   intro R kn kx
   rw[aY.L0.step,bu (by omega),bo (by omega) (by omega),bo (by omega) (by omega),Int.toNat_natCast,n1,n2,N.kM (by omega),bS.run (d:=(ks[k],m,w.2.1[k]'(by omega))) ⟨hx,hm,hy⟩]
   simp only[av,aa,bS.add,bS.F]
   cases kO ks[k] m 1 (w.2.1[k]'(by omega)) <;> rfl
  cases hp:kO ks[k] m 1 (w.2.1[k]'(by omega))
  ·right
   refine⟨aY.L0.bt (),?_,fun kn kx=> ?_⟩
   ·simp only[aY.L0.add,aY.L0.F,Int.toNat_natCast,hd,hp,Bool.false_and,Bool.false_eq_true,if_false]
    rfl
   ·rw[step,hp,ay]
  ·left
   refine⟨(w,m,ks,ks.length,((k+1:Nat):Int)),⟨hw,hm,hl,hb,hs,rfl,k+1,by omega,rfl⟩,by simp only[Int.toNat_natCast];omega,?_,fun kn kx=> ?_⟩
   ·simp only[aY.L0.add,aY.L0.F,Int.toNat_natCast,hd,hp,Bool.true_and]
   ·rw[step,hp,av]
 ·right
  obtain rfl:k=ks.length:=by omega
  refine⟨aY.L0.eS (),?_,fun kn kx=> ?_⟩
  ·simp only[aY.L0.add,aY.L0.F,Int.toNat_natCast,List.drop_length]
   rfl
  ·rw[aY.L0.step]
   simp(disch:=omega) only[↓S1,↓if_pos,↓if_neg,if_pos,if_neg,if_true,if_false,S2]
theorem zW{l:Lk}(h:gb l=true){b:fU}(hb:b∈l.1):b.1.length≤12:=by
 unfold gb at h
 rw[Bool.and_eq_true,List.all_eq_true]at h
 have:=h.1 b hb
 unfold lQ at this
 rw[Bool.and_eq_true]at this
 simpa using this.1
theorem aY.ok:aY.Ok:=by
  rintro⟨l,w,m,h,a⟩ ⟨hl,hb,hw,hm⟩
  have hl:qd l:=hl
  have hb:l.1.length≤1000000000:=hb
  have hw:l9 w:=hw
  have hm:Sm m:=hm
  rw[aY.eq,aK.run (d:=l) ⟨hl,hb⟩]
  simp only[aa,aK.add,aK.F,aY.add,aY.F,j5]
  cases hok:gb l
  · rw[if_pos (Or.inl rfl)];rfl
  by_cases h0:w.1 < 0
  · rw[bu h0,if_pos (Or.inr (Or.inl h0))];rfl
  by_cases h1:w.1≥l.1.length
  · rw[bj h0,fX h1,if_pos (Or.inr (Or.inr h1))];rfl
  rw[bj h0,eJ h1,bo (by omega) (by omega),if_neg (by simp[h0];omega)]
  have hn:w.1.toNat < l.1.length:=by omega
  have n1:nth (.pair (.slice (.int .u64)) (.pair (.int .i64) (.pair (.int .i64) (.pair (.int .u64) .unit)))) l.1 w.1.toNat=l.1[w.1.toNat]:=cC (t:=(.pair (.slice (.int .u64)) (.pair (.int .i64) (.pair (.int .i64) (.pair (.int .u64) .unit))))) hn
  rw[n1]
  have hx:CS l.1[w.1.toNat]:=hl _ (List.getElem_mem hn)
  have hkl:=zW hok (List.getElem_mem hn)
  obtain⟨⟨ks,af,dl,sc,u⟩,hbk⟩:∃b,l.1[w.1.toNat]=b:=⟨_,rfl⟩
  rw[hbk]at hx hkl ⊢
  have hks:iS ks:=hx.1
  have hkl:ks.length≤12:=hkl
  simp only[Bool.not_true,ay,av]
  by_cases e1:h < af
  · rw[bu e1,if_pos (Or.inl e1)];rfl
  by_cases e2:a < dl
  · rw[bj e1,bu e2,if_pos (Or.inr e2)];rfl
  rw[bj e1,bj e2,if_neg (by simp[e1,e2]),cH.run (d:=w.2.2.1) hw.2]
  simp only[ay,aa,cH.add,cH.F]
  have last:aJ (jw ((w.2.1.length:Nat):Int) ((ks.length:Nat):Int)) (some (aY.out (7:Int))) (
          ah (aY.L0.call (w,m,ks,((ks.length:Nat):Int),(0:Int))) fun x4=>
          aJ (x4.isLeft) (ah (x4.getLeft?) fun a5=>some (aY.out (7:Int))) (ah (x4.getRight?) fun b6=>some (aY.out (0:Int))))=some (aY.out (if w.2.1.length≠ks.length then 7 else if jF m ks w.2.1 then 0 else 7)):=by
    by_cases e3:w.2.1.length=ks.length
    · rw[bR (by omega),if_neg (by simp[e3]),ay,aY.L0.run (d:=(w,m,ks,ks.length,0)) ⟨hw,hm,hks,by show ks.length≤1000000000;omega,e3,rfl,0,by omega,rfl⟩]
      simp only[aa,aY.L0.add,aY.L0.F,Int.toNat_zero,List.drop_zero]
      cases jF m ks w.2.1 <;> rfl
    · rw[dA (by omega),if_pos e3];rfl
  by_cases e4:sc=0
  · rw[bR e4,if_neg (by simp[e4]),ay]
    exact last
  · rw[dA e4,av]
    by_cases e5:cS w.2.2.1=sc
    · rw[bR e5,if_neg (by simp[e5]),ay]
      exact last
    · rw[dA e5,if_pos ⟨e4,e5⟩];rfl
noncomputable def aY.E:=Entry.cz [some jo,some s7,some tH,some ti,some ti] aY.st aY.aB aY.add aY.F aY.out
noncomputable def aY.call:aY.D→Option aY.X:=bH aY.E aY.st
theorem aY.run:bC aY.call aY.aB aY.add aY.F:=cQ (cP [.d jo,.d s7,.d tB,.d ti,.d ti] fun _=>by kernel_rfl)
noncomputable def aY.sg:SG Tryz.prog:=⟨47,aU,aY.E,.fn 1 (by kernel_rfl) aY.ok (And.intro (.cz aY.L0.ok (by kernel_rfl)) trivial)⟩
set_option synthInstance.maxSize 5000
abbrev dV.D:=Int
def dV.st:dV.D→SA:=fun n=>([.cY,.d ti n],[])
abbrev dV.Y:=Nat×(List Int)
abbrev dV.X:=Nat×(List Int)
def dV.out:dV.X→a9:=fun x=>⟨.cf (.new 0 0) 0 [] 0 0 x.1,[],[.obj 0 false (.vec 5 tb x.2)]⟩
def dV.add:dV.D→dV.Y→dV.X:=fun n y=>y
def dV.aB:dV.D→Prop:=fun n=>∃k:Nat,n=k∧k≤100000000
def dV.F:dV.D→dV.Y:=fun n=>(0,List.replicate n.toNat 0)
noncomputable def dV.G:dS:=eR (P:=Tryz.prog) []
noncomputable def dV.an:eA:= {ix:=[⟨4,[],22,25⟩]}
noncomputable def dV.A:= @cJ Tryz.prog dV.G dV.an 0 Tryz.f170 _ dV.st
abbrev dV.Ok:=cK @dV.A dV.aB dV.add dV.F dV.out
theorem dV.eq{R:Type}(n:Int)(k:a9→Option R):dV.A n k=
  aJ ((fZ n (0:Int))) (
   none) (
   aJ ((oJ (dg .i64 n (0:Int)) (0:Int))) (
    aJ (decide (0 < (dg .i64 n (0:Int))) && dm (Int.toNat (dg .i64 n (0:Int))) 1) (
    aJ (inc (0:Int) (((Int.toNat (dg .i64 n (0:Int))):Nat):Int)) (
    k (dV.out (0,(List.replicate (Int.toNat (dg .i64 n (0:Int))) (0:Int))))) none) none) (
    k (dV.out (0,([]:List Int))))):=by kernel_rfl
theorem dV.ok:dV.Ok:=by
 rintro n ⟨k,rfl,hk⟩
 have e:dg .i64 (k:Int) 0=(k:Int):=by rw[fC (by omega) (by omega)];omega
 rw[dV.eq,e,bj (by omega),ay]
 by_cases h:0 < k
 ·rw[ek (by omega),Int.toNat_natCast,aO (by omega),eE (by omega) (by omega),kQ (by omega) (by omega)]
  rfl
 ·obtain rfl:k=0:=by omega
  rfl
noncomputable def dV.E:=Entry.cz [none,some ti] dV.st dV.aB dV.add dV.F dV.out
noncomputable def dV.call:dV.D→Option dV.X:=bH dV.E dV.st
theorem dV.run:bC dV.call dV.aB dV.add dV.F:=cQ (cP [.d ti] fun _=>by kernel_rfl)
noncomputable def dV.sg:SG Tryz.prog:=⟨170,aU,dV.E,.fn 0 (by kernel_rfl) dV.ok trivial⟩
def jf(l:List (List Int)):Nat:=l.flatten.length
def s9(n:Nat)(l:List Int):List (List Int)→Nat×List Int
 |[]=>(n,l)
 |s::r=>(n+(s::r).flatten.length,l.take n++(s::r).flatten)
theorem zE(n:Nat)(l s:List Int)(r:List (List Int))(h:n≤l.length):s9 n l (s::r)=s9 (n+s.length) (l.take n++s) r:=by
 have hl:(l.take n++s).length=n+s.length:=by rw[List.length_append,List.length_take];omega
 cases r with
 |nil=>simp[s9]
 |cons t r=>
  simp only[s9]
  rw[List.take_of_length_le (Nat.le_of_eq hl)]
  simp only[List.flatten_cons,List.length_append,List.append_assoc,Nat.add_assoc]
theorem Ci(n:Nat)(z:List Int)(r:List (List Int)):(s9 0 z r).1≤(s9 0 z r).2.length∧cut (s9 0 z r).2 0 (s9 0 z r).1=r.flatten:=by
 cases r with
 |nil=>exact⟨Nat.zero_le _,rfl⟩
 |cons s r=>
  simp only[s9,List.take_zero,List.nil_append,Nat.zero_add]
  exact⟨Nat.le_refl _,by show List.take _ (List.drop 0 _)=_;rw[List.drop_zero,List.take_length]⟩
abbrev aw.L0.D:=(List Bs)×Int×(List Bs)×Int×Int
def aw.L0.st:aw.L0.D→AS:=fun(slices_2,size,t9,t10,t11)=>⟨([.d (.slice tB) slices_2,.undef,.undef,.d ti size]++bg 5 ([.d (.slice tB) t9,.d ti t10,.d ti t11]++bg 24 [])),[],(List.replicate 36 [])⟩
abbrev aw.L0.Y0:=Int
abbrev aw.L0.X0:=((List Bs))×(Int)
def aw.L0.bt:aw.L0.X0→Exit×AS:=fun x=>(.exit 0,⟨([.d (.slice tB) x.1,.undef,.undef,.d ti x.2]++bg 32 []),[],(List.replicate 36 [])⟩)
abbrev aw.L0.X:=aw.L0.X0
abbrev aw.L0.Y:=aw.L0.Y0
def aw.L0.out:aw.L0.X→Out (Exit×AS):=fun x=> .ok (aw.L0.bt x)
def aw.L0.add:aw.L0.D→aw.L0.Y→aw.L0.X:=fun(slices_2,size,t9,t10,t11) y=>(slices_2,y)
abbrev aw.L1.D:=Nat×(List Bs)×Int×Int×(List Int)
def aw.L1.st:aw.L1.D→AS:=fun(newsliceL,t25,t26,t27,n24)=>⟨(bg 6 ([.cf (.new 24 0) 0 [] 0 0 newsliceL]++bg 18 ([.d (.slice tB) t25,.d ti t26,.d ti t27]++bg 8 []))),[],(bN 24 ([[.obj 0 false (.vec 5 tb n24)]]++bN 11 []))⟩
abbrev aw.L1.Y0:=Nat×(List Int)
abbrev aw.L1.X0:=Nat×(List Int)
def aw.L1.bt:aw.L1.X0→Exit×AS:=fun x=>(.exit 2,⟨(bg 6 ([.cf (.new 24 0) 0 [] 0 0 x.1]++bg 29 [])),[],(bN 24 ([[.obj 0 false (.vec 5 tb x.2)]]++bN 11 []))⟩)
abbrev aw.L1.X:=aw.L1.X0
abbrev aw.L1.Y:=aw.L1.Y0
def aw.L1.out:aw.L1.X→Out (Exit×AS):=fun x=> .ok (aw.L1.bt x)
def aw.L1.add:aw.L1.D→aw.L1.Y→aw.L1.X:=fun(newsliceL,t25,t26,t27,n24) y=>y
abbrev aw.D:=(List Bs)
def aw.st:aw.D→SA:=fun slices=>([.d (.slice tB) slices],[])
abbrev aw.Y:=Bs
abbrev aw.X:=Bs
def aw.out:aw.X→a9:=fun x=>⟨.d tB x,[],[]⟩
def aw.add:aw.D→aw.Y→aw.X:=fun slices y=>y
def aw.L0.aB:aw.L0.D→Prop:=fun(s,size,t,n,i)=>s.length≤1000000∧t=s∧n=s.length∧∃k z:Nat,k≤s.length∧i=k∧size=z∧z+jf (s.drop k)≤100000000
def aw.L0.F:aw.L0.D→aw.L0.Y:=fun(s,size,t,n,i)=>((size:Int)+((jf (s.drop i.toNat):Nat):Int):Int)
def aw.L1.aB:aw.L1.D→Prop:=fun(n,s,t,i,l)=>s.length≤1000000∧n≤l.length∧t=s.length∧∃k:Nat,k≤s.length∧i=k∧n+jf (s.drop k)≤100000000
def aw.L1.F:aw.L1.D→aw.L1.Y:=fun(n,s,t,i,l)=>s9 n l (s.drop i.toNat)
def aw.aB:aw.D→Prop:=fun s=>s.length≤1000000∧jf s≤100000000
def aw.F:aw.D→aw.Y:=fun s=>s.flatten
noncomputable def aw.G:dS:=eR (P:=Tryz.prog) [dV.sg]
noncomputable def aw.L0.E:=bO.cz aw.L0.st aw.L0.aB aw.L0.add aw.L0.F aw.L0.out
noncomputable def aw.L0.call:aw.L0.D→Option aw.L0.X:=dk aw.L0.E aw.L0.st
noncomputable def aw.L1.E:=bO.cz aw.L1.st aw.L1.aB aw.L1.add aw.L1.F aw.L1.out
noncomputable def aw.L1.call:aw.L1.D→Option aw.L1.X:=dk aw.L1.E aw.L1.st
noncomputable def aw.an:eA:= {loops:=jY [(3,{bm:=[0,3,9,10,11]}),(11,{bm:=[6,25,26,27],sites:=[24],ix:=[⟨6,[],24,25⟩]})],outs:=jX [(3,{bm:=[0,3]},{bm:=[2]}),(11,{bm:=[6],sites:=[24]},{bm:=[2]})],fJ:=kF [(3,aw.L0.E),(11,aw.L1.E)],res:=[some tB]}
noncomputable def aw.A:= @cJ Tryz.prog aw.G aw.an 0 Tryz.f153 _ aw.st
abbrev aw.Ok:=cK @aw.A aw.aB aw.add aw.F aw.out
noncomputable def aw.L0.R:= @cg Tryz.prog aw.G aw.an 0 Tryz.f153 0 _ aw.L0.st
abbrev aw.L0.Ok:=eB Tryz.prog aw.G aw.an 0 Tryz.f153 0 aw.L0.st aw.L0.aB aw.L0.add aw.L0.F aw.L0.out
noncomputable def aw.L1.R:= @cg Tryz.prog aw.G aw.an 0 Tryz.f153 1 _ aw.L1.st
abbrev aw.L1.Ok:=eB Tryz.prog aw.G aw.an 0 Tryz.f153 1 aw.L1.st aw.L1.aB aw.L1.add aw.L1.F aw.L1.out
theorem aw.L0.run:bC aw.L0.call aw.L0.aB aw.L0.add aw.L0.F:=eI (eD [.d (.slice tB),.d ti,.d (.slice tB),.d ti,.d ti] fun _=>by kernel_rfl)
theorem aw.L0.aG:fR @aw.L0.R aw.L0.st aw.L0.aB aw.L0.add aw.L0.F aw.L0.bt aw.L0.Ok:=fV
theorem aw.L0.step{R:Type}(slices_2:(List Bs))(size:Int)(t9:(List Bs))(t10:Int)(t11:Int)(kn:AS→Option R)(kx:Exit→AS→Option R):aw.L0.R (slices_2,size,t9,t10,t11) kn kx=
  aJ ((fZ t11 t10)) (
   aJ (ei t11 (((List.length t9):Nat):Int)) (
   aJ ((fZ (bM .i64 size (((List.length (nth tB t9 (Int.toNat t11))):Nat):Int)) (0:Int))) (
    none) (
    kn (aw.L0.st (slices_2,(bM .i64 size (((List.length (nth tB t9 (Int.toNat t11))):Nat):Int)),t9,t10,(bM .i64 t11 (1:Int)))))) none) (
   kx (aw.L0.bt (slices_2,size)).1 (aw.L0.bt (slices_2,size)).2):=by kernel_rfl
theorem aw.L1.run:bC aw.L1.call aw.L1.aB aw.L1.add aw.L1.F:=eI (eD [.n,.d (.slice tB),.d ti,.d ti,.d tB] fun _=>by kernel_rfl)
theorem aw.L1.aG:fR @aw.L1.R aw.L1.st aw.L1.aB aw.L1.add aw.L1.F aw.L1.bt aw.L1.Ok:=fV
theorem aw.L1.step{R:Type}(newsliceL:Nat)(t25:(List Bs))(t26:Int)(t27:Int)(n24:(List Int))(kn:AS→Option R)(kx:Exit→AS→Option R):aw.L1.R (newsliceL,t25,t26,t27,n24) kn kx=
  aJ ((fZ t27 t26)) (
   aJ (ei t27 (((List.length t25):Nat):Int)) (
   aJ (decide (newsliceL≤(List.length n24))) (
   aJ (dm (newsliceL+(List.length (nth tB t25 (Int.toNat t27)))) 1) (
   kn (aw.L1.st ((newsliceL+(List.length (nth tB t25 (Int.toNat t27)))),t25,t26,(bM .i64 t27 (1:Int)),((List.take newsliceL n24)++(nth tB t25 (Int.toNat t27)))))) none) none) none) (
   kx (aw.L1.bt (newsliceL,n24)).1 (aw.L1.bt (newsliceL,n24)).2):=by kernel_rfl
theorem aw.eq{R:Type}(slices:(List Bs))(k:a9→Option R):aw.A slices k=
 ah (aw.L0.call (slices,(0:Int),slices,(((List.length slices):Nat):Int),(0:Int))) fun x1=>
 ah (dV.call x1.2) fun x2=>
 ah (aw.L1.call (x2.1,x1.1,(((List.length x1.1):Nat):Int),(0:Int),x2.2)) fun x3=>
 aJ (decide (0=0∧(0+x3.1)≤(List.length x3.2))) (
 k (aw.out (cut x3.2 0 x3.1))) none:=by kernel_rfl
theorem yZ(s:List (List Int))(k:Nat)(h:k < s.length):jf (s.drop k)=s[k].length+jf (s.drop (k+1)):=by
 unfold jf
 rw[List.drop_eq_getElem_cons h,List.flatten_cons,List.length_append]
theorem aw.L0.ok:aw.L0.Ok:=by
 refine aw.L0.aG (fun(s,size,t,n,i)=>s.length - i.toNat) ?_
 rintro⟨s,size,t,n,i⟩ ⟨hs,rfl,rfl,k,z,hk,rfl,rfl,hz⟩
 have hs:t.length≤1000000:=hs
 have hk:k≤t.length:=hk
 have hz:z+jf (t.drop k)≤100000000:=hz
 by_cases h:k < t.length
 ·left
  have n1:nth (.slice (.int .u8)) t k=t[k]:=cC (t:= .slice (.int .u8)) h
  have hd:=yZ t k h
  refine⟨(t,((z+t[k].length:Nat):Int),t,t.length,((k+1:Nat):Int)),⟨hs,rfl,rfl,k+1,z+t[k].length,by omega,rfl,rfl,by omega⟩,by simp only[Int.toNat_natCast];omega,?_,fun kn kx=> ?_⟩
  ·simp only[aw.L0.add,aw.L0.F,Int.toNat_natCast]
   rw[hd]
   refine congrArg _ ?_
   omega
  ·rw[aw.L0.step]
   simp(disch:=omega) only[↓S1,↓if_pos,↓if_neg,if_pos,if_neg,if_true,if_false,S2,n1]
 ·right
  obtain rfl:k=t.length:=by omega
  intro R kn kx
  rw[aw.L0.step]
  simp(disch:=omega) only[↓S1,↓if_pos,↓if_neg,if_pos,if_neg,if_true,if_false,S2,aw.L0.add,aw.L0.F,List.drop_length]
  simp only[jf,List.flatten_nil,List.length_nil,Int.natCast_zero,Int.add_zero]
theorem aw.L1.ok:aw.L1.Ok:=by
 refine aw.L1.aG (fun(n,s,t,i,l)=>s.length - i.toNat) ?_
 rintro⟨n,s,t,i,l⟩ ⟨hs,hn,rfl,k,hk,rfl,hz⟩
 have hs:s.length≤1000000:=hs
 have hn:n≤l.length:=hn
 have hk:k≤s.length:=hk
 have hz:n+jf (s.drop k)≤100000000:=hz
 by_cases h:k < s.length
 ·left
  have n1:nth (.slice (.int .u8)) s k=s[k]:=cC (t:= .slice (.int .u8)) h
  have hd:=yZ s k h
  refine⟨(n+s[k].length,s,s.length,((k+1:Nat):Int),l.take n++s[k]),⟨hs,by rw[List.length_append,List.length_take];omega,rfl,k+1,by omega,rfl,by omega⟩,by simp only[Int.toNat_natCast];omega,?_,fun kn kx=> ?_⟩
  ·simp only[aw.L1.add,aw.L1.F,Int.toNat_natCast]
   rw[List.drop_eq_getElem_cons h,zE _ _ _ _ hn]
  ·rw[aw.L1.step]
   simp(disch:=omega) only[↓S1,↓if_pos,↓if_neg,if_pos,if_neg,if_true,if_false,S2,n1]
 ·right
  obtain rfl:k=s.length:=by omega
  intro R kn kx
  rw[aw.L1.step]
  simp(disch:=omega) only[↓S1,↓if_pos,↓if_neg,if_pos,if_neg,if_true,if_false,S2,aw.L1.add,aw.L1.F,List.drop_length]
  rfl
theorem aw.ok:aw.Ok:=by
 rintro s ⟨hs,hz⟩
 have hs:s.length≤1000000:=hs
 have hz:jf s≤100000000:=hz
 have p1:aw.L0.aB (s,0,s,s.length,0):=⟨hs,rfl,rfl,0,0,by omega,rfl,rfl,by rw[List.drop_zero];omega⟩
 have p2:aw.L1.aB (0,s,s.length,0,List.replicate (jf s) 0):=⟨hs,by omega,rfl,0,by omega,rfl,by rw[List.drop_zero];omega⟩
 rw[aw.eq,aw.L0.run p1]
 simp only[aa,aw.L0.add,aw.L0.F,Int.toNat_zero,List.drop_zero,Int.zero_add]
 rw[dV.run (d:=((jf s:Nat):Int)) ⟨jf s,rfl,hz⟩]
 simp only[aa,dV.add,dV.F,Int.toNat_natCast]
 rw[aw.L1.run p2]
 simp only[aa,aw.L1.add,aw.L1.F,Int.toNat_zero,List.drop_zero]
 obtain⟨c1,c2⟩:=Ci 0 (List.replicate (jf s) 0) s
 simp only[Nat.zero_add,c1,and_self,decide_true,av,c2]
 rfl
noncomputable def aw.E:=Entry.cz [some (.slice tB)] aw.st aw.aB aw.add aw.F aw.out
noncomputable def aw.call:aw.D→Option aw.X:=bH aw.E aw.st
theorem aw.run:bC aw.call aw.aB aw.add aw.F:=cQ (cP [.d (.slice tB)] fun _=>by kernel_rfl)
noncomputable def aw.sg:SG Tryz.prog:=⟨153,aU,aw.E,.fn 2 (by kernel_rfl) aw.ok (And.intro (.cz aw.L0.ok (by kernel_rfl)) (And.intro (.cz aw.L1.ok (by kernel_rfl)) trivial))⟩
abbrev du.D:=Bs×Bs
def du.st:du.D→SA:=fun(b,more)=>([.d tB b,.d tB more],[])
abbrev du.Y:=Bs
abbrev du.X:=Bs
def du.out:du.X→a9:=fun x=>⟨.d tB x,[],[]⟩
def du.add:du.D→du.Y→du.X:=fun(b,more) y=>y
def du.aB:du.D→Prop:=fun(a,b)=>a.length+b.length≤100000000
def du.F:du.D→du.Y:=fun(a,b)=>a++b
noncomputable def du.G:dS:=eR (P:=Tryz.prog) [aw.sg]
noncomputable def du.an:eA:= {}
noncomputable def du.A:= @cJ Tryz.prog du.G du.an 0 Tryz.f119 _ du.st
abbrev du.Ok:=cK @du.A du.aB du.add du.F du.out
theorem du.eq{R:Type}(b:Bs)(more:Bs)(k:a9→Option R):du.A (b,more) k=
 ah (aw.call [b,more]) fun x1=>
 k (du.out x1):=by kernel_rfl
theorem du.ok:du.Ok:=by
 rintro⟨a,b⟩ h
 have h:a.length+b.length≤100000000:=h
 rw[du.eq,aw.run (d:=[a,b]) ⟨by show [a,b].length≤_;simp,by show jf [a,b]≤_;simp only[jf,List.flatten_cons,List.flatten_nil,List.append_nil,List.length_append];omega⟩]
 simp only[aa,aw.add,aw.F,du.add,du.F,List.flatten_cons,List.flatten_nil,List.append_nil]
noncomputable def du.E:=Entry.cz [some tB,some tB] du.st du.aB du.add du.F du.out
noncomputable def du.call:du.D→Option du.X:=bH du.E du.st
theorem du.run:bC du.call du.aB du.add du.F:=cQ (cP [.d tB,.d tB] fun _=>by kernel_rfl)
noncomputable def du.sg:SG Tryz.prog:=⟨119,aU,du.E,.fn 0 (by kernel_rfl) du.ok trivial⟩
set_option synthInstance.maxSize 5000
def eZ:Nat→Int→List Int×Int
 | 0,n=>([],n)
 |f+1,n=>if 128≤n then((n%128+128)::(eZ f (n / 128)).1,(eZ f (n / 128)).2) else([],n)
def fB(n:Int):List Int:=(eZ 10 n).1++ [(eZ 10 n).2]
theorem nW:∀(f g:Nat) (n:Int),n < 128^(f+1)→n < 128^(g+1)→eZ f n=eZ g n
 | 0,0,n,_,_=>rfl
 | 0,g+1,n,h,_=>by
  have h:n < 128:=h
  rw[eZ,eZ,if_neg (by omega)]
 |f+1,0,n,_,h=>by
  have h:n < 128:=h
  rw[eZ,eZ,if_neg (by omega)]
 |f+1,g+1,n,h,h'=>by
  rw[eZ,eZ]
  split
  ·have e:(128:Int)^(f+1+1)=128^(f+1)*128:=Int.pow_succ 128 (f+1)
   have e':(128:Int)^(g+1+1)=128^(g+1)*128:=Int.pow_succ 128 (g+1)
   rw[nW f g (n / 128) (by omega) (by omega)]
  ·rfl
theorem sK:∀(f:Nat) (n:Int),(eZ f n).1.length≤f
 | 0,_=>Nat.le_refl _
 |f+1,n=>by
  rw[eZ]
  split
  ·have:=sK f (n / 128)
   simp only[List.length_cons];omega
  ·exact Nat.zero_le _
theorem ui:∀(f:Nat) (n:Int),0≤n→n < 128^(f+1)→0≤(eZ f n).2∧(eZ f n).2 < 128
 | 0,n,h,h'=>by have h':n < 128:=h';exact⟨h,h'⟩
 |f+1,n,h,h'=>by
  rw[eZ]
  have e:(128:Int)^(f+1+1)=128^(f+1)*128:=Int.pow_succ 128 (f+1)
  split
  ·exact ui f (n / 128) (by omega) (by omega)
  ·exact⟨h,by omega⟩
theorem Ah{n:Int}(h:128≤n)(h2:n≤9223372036854775807):eZ 10 n=((n%128+128)::(eZ 10 (n / 128)).1,(eZ 10 (n / 128)).2):=by
 have e:(128:Int)^(9+1)=1180591620717411303424:=rfl
 have e2:(128:Int)^(10+1)=151115727451828646838272:=rfl
 rw[eZ,if_pos h,nW 9 10 (n / 128) (by rw[e];omega) (by rw[e2];omega)]
theorem gN(n:Int):(fB n).length≤11:=by
 have:=sK 10 n
 unfold fB
 simp only[List.length_append,List.length_cons,List.length_nil];omega
def mR(n:Int):Prop:=0≤n∧n≤9223372036854775807
abbrev ct.L0.D:=Int×Nat×(List Int)
def ct.L0.st:ct.L0.D→AS:=fun(n_2,outL,n14)=>⟨([.d ti n_2,.undef,.undef,.cf (.new 14 0) 0 [] 0 0 outL]++bg 16 []),[],(bN 14 ([[.obj 0 false (.vec 5 tb n14)]]++bN 5 []))⟩
abbrev ct.L0.Y0:=Int×Nat×(List Int)
abbrev ct.L0.X0:=Int×Nat×(List Int)
def ct.L0.bt:ct.L0.X0→Exit×AS:=fun x=>(.exit 0,⟨([.d ti x.1,.undef,.undef,.cf (.new 14 0) 0 [] 0 0 x.2.1]++bg 16 []),[],(bN 14 ([[.obj 0 false (.vec 5 tb x.2.2)]]++bN 5 []))⟩)
abbrev ct.L0.X:=ct.L0.X0
abbrev ct.L0.Y:=ct.L0.Y0
def ct.L0.out:ct.L0.X→Out (Exit×AS):=fun x=> .ok (ct.L0.bt x)
def ct.L0.add:ct.L0.D→ct.L0.Y→ct.L0.X:=fun(n_2,outL,n14) y=>y
abbrev ct.D:=Int
def ct.st:ct.D→SA:=fun n=>([.d ti n],[])
abbrev ct.Y:=Bs
abbrev ct.X:=Bs
def ct.out:ct.X→a9:=fun x=>⟨.d tB x,[],[]⟩
def ct.add:ct.D→ct.Y→ct.X:=fun n y=>y
def ct.L0.aB:ct.L0.D→Prop:=fun(n,m,l)=>mR n∧m=l.length∧l.length≤1000+0*n.toNat∧l.length+(eZ 10 n).1.length≤100
def ct.L0.F:ct.L0.D→ct.L0.Y:=fun(n,m,l)=>((eZ 10 n).2,(l++(eZ 10 n).1).length,l++(eZ 10 n).1)
def ct.aB:ct.D→Prop:=fun n=>mR n
def ct.F:ct.D→ct.Y:=fun n=>fB n
noncomputable def ct.G:dS:=eR (P:=Tryz.prog) []
noncomputable def ct.L0.E:=bO.cz ct.L0.st ct.L0.aB ct.L0.add ct.L0.F ct.L0.out
noncomputable def ct.L0.call:ct.L0.D→Option ct.L0.X:=dk ct.L0.E ct.L0.st
noncomputable def ct.an:eA:= {loops:=jY [(2,{bm:=[0,3],sites:=[14],ix:=[⟨3,[],14,25⟩]})],outs:=jX [(2,{bm:=[0,3],sites:=[14]},{bm:=[2]})],fJ:=kF [(2,ct.L0.E)],res:=[some tB]}
noncomputable def ct.A:= @cJ Tryz.prog ct.G ct.an 0 Tryz.f120 _ ct.st
abbrev ct.Ok:=cK @ct.A ct.aB ct.add ct.F ct.out
noncomputable def ct.L0.R:= @cg Tryz.prog ct.G ct.an 0 Tryz.f120 0 _ ct.L0.st
abbrev ct.L0.Ok:=eB Tryz.prog ct.G ct.an 0 Tryz.f120 0 ct.L0.st ct.L0.aB ct.L0.add ct.L0.F ct.L0.out
theorem ct.L0.run:bC ct.L0.call ct.L0.aB ct.L0.add ct.L0.F:=eI (eD [.d ti,.n,.d tB] fun _=>by kernel_rfl)
theorem ct.L0.aG:fR @ct.L0.R ct.L0.st ct.L0.aB ct.L0.add ct.L0.F ct.L0.bt ct.L0.Ok:=fV
theorem ct.L0.step{R:Type}(n_2:Int)(outL:Nat)(n14:(List Int))(kn:AS→Option R)(kx:Exit→AS→Option R):ct.L0.R (n_2,outL,n14) kn kx=
  aJ ((mU n_2 (128:Int))) (
   aJ (decide (outL≤(List.length n14))) (
   aJ (dm (outL+1) 1) (
   kn (ct.L0.st ((kS .i64 n_2 (128:Int)),(outL+1),((List.take outL n14)++ [(dD .u8 (bM .i64 (iZ n_2 (128:Int)) (128:Int)))])))) none) none) (
   kx (ct.L0.bt (n_2,outL,n14)).1 (ct.L0.bt (n_2,outL,n14)).2):=by kernel_rfl
theorem ct.eq{R:Type}(n:Int)(k:a9→Option R):ct.A n k=
 ah (ct.L0.call (n,0,([]:List Int))) fun x1=>
 aJ (decide (x1.2.1≤(List.length x1.2.2))) (
 aJ (dm (x1.2.1+1) 1) (
 aJ (decide (0=0∧(0+(x1.2.1+1))≤(List.length ((List.take x1.2.1 x1.2.2)++ [(dD .u8 x1.1)])))) (
 k (ct.out (cut ((List.take x1.2.1 x1.2.2)++ [(dD .u8 x1.1)]) 0 (x1.2.1+1)))) none) none) none:=by kernel_rfl
theorem AV{n:Int}(h:mR n):dD .u8 (bM .i64 (iZ n 128) 128)=n%128+128:=by
 have h1:=h.1
 rw[nS h.1,gL (by omega) (by omega),sh,fI]
 omega
theorem ct.L0.ok:ct.L0.Ok:=by
 refine ct.L0.aG (fun(n,m,l)=>n.toNat) ?_
 rintro⟨n,m,l⟩ ⟨hn,rfl,hl,hz⟩
 have hn:mR n:=hn
 have hz:l.length+(eZ 10 n).1.length≤100:=hz
 have h1:=hn.1
 have h2:=hn.2
 by_cases h:128≤n
 ·left
  have e:=Ah h h2
  have hq:kS .i64 n 128=n / 128:=by
   rw[kS,Int.tdiv_eq_ediv_of_nonneg h1]
   exact je (by omega) (by omega)
  have el:((n%128+128)::(eZ 10 (n / 128)).1).length=(eZ 10 (n / 128)).1.length+1:=List.length_cons
  rw[e]at hz
  have hz:l.length+((n%128+128)::(eZ 10 (n / 128)).1).length≤100:=hz
  rw[el]at hz
  refine⟨(n / 128,l.length+1,l++ [n%128+128]),⟨⟨by omega,by omega⟩,by rw[List.length_append];rfl,by rw[List.length_append];simp only[List.length_cons,List.length_nil];omega,by rw[List.length_append];simp only[List.length_cons,List.length_nil];omega⟩,by simp only[];omega,?_,fun kn kx=> ?_⟩
  ·simp only[ct.L0.add,ct.L0.F,e,List.append_assoc,List.cons_append,List.nil_append]
  ·rw[ct.L0.step,fX h,AV hn,hq]
   simp(disch:=omega) only[↓S1,↓if_pos,↓if_neg,if_pos,if_neg,if_true,if_false,S2,Nat.le_refl,List.take_length]
 ·right
  have e:eZ 10 n=([],n):=by rw[eZ,if_neg h]
  intro R kn kx
  rw[ct.L0.step,eJ h]
  simp only[ay,ct.L0.add,ct.L0.F,e,List.append_nil]
theorem ct.ok:ct.Ok:=by
 intro n hn
 have hn:mR n:=hn
 have hl:=sK 10 n
 have e2:(128:Int)^(10+1)=151115727451828646838272:=rfl
 have hd:=ui 10 n hn.1 (by have:=hn.2;rw[e2];omega)
 have p:ct.L0.aB (n,0,[]):=⟨hn,rfl,by simp,by simp only[List.length_nil];omega⟩
 have hi:dD .u8 (eZ 10 n).2=(eZ 10 n).2:=by rw[sh,fI];omega
 rw[ct.eq,ct.L0.run p]
 simp only[aa,ct.L0.add,ct.L0.F,List.nil_append,hi,List.take_length,Nat.le_refl,decide_true,av]
 rw[eE (by omega) (by omega)]
 simp only[av,Nat.zero_add,List.length_append,List.length_cons,List.length_nil,Nat.le_refl,and_self,decide_true]
 rw[fg (by rw[List.length_append];rfl)]
 rfl
noncomputable def ct.E:=Entry.cz [some ti] ct.st ct.aB ct.add ct.F ct.out
noncomputable def ct.call:ct.D→Option ct.X:=bH ct.E ct.st
theorem ct.run:bC ct.call ct.aB ct.add ct.F:=cQ (cP [.d ti] fun _=>by kernel_rfl)
noncomputable def ct.sg:SG Tryz.prog:=⟨120,aU,ct.E,.fn 1 (by kernel_rfl) ct.ok (And.intro (.cz ct.L0.ok (by kernel_rfl)) trivial)⟩
def ee(b:List Int)(n:Int):List Int:=if n < 0 then b else b++fB n
theorem ff(b:List Int)(n:Int):(ee b n).length≤b.length+11:=by
 unfold ee
 have:=gN n
 split
 ·omega
 ·rw[List.length_append];omega
abbrev dy.D:=Bs×Int
def dy.st:dy.D→SA:=fun(b,n)=>([.d tB b,.d ti n],[])
abbrev dy.Y:=Bs
abbrev dy.X:=Bs
def dy.out:dy.X→a9:=fun x=>⟨.d tB x,[],[]⟩
def dy.add:dy.D→dy.Y→dy.X:=fun(b,n) y=>y
def dy.aB:dy.D→Prop:=fun(b,n)=>b.length≤90000000∧n≤9223372036854775807
def dy.F:dy.D→dy.Y:=fun(b,n)=>ee b n
noncomputable def dy.G:dS:=eR (P:=Tryz.prog) [du.sg,ct.sg]
noncomputable def dy.an:eA:= {}
noncomputable def dy.A:= @cJ Tryz.prog dy.G dy.an 0 Tryz.f69 _ dy.st
abbrev dy.Ok:=cK @dy.A dy.aB dy.add dy.F dy.out
theorem dy.eq{R:Type}(b:Bs)(n:Int)(k:a9→Option R):dy.A (b,n) k=
  aJ ((fZ n (0:Int))) (
   ah (du.call (b,([]:List Int))) fun x1=>
   k (dy.out x1)) (
   ah (ct.call n) fun x2=>
   ah (du.call (b,x2)) fun x3=>
   k (dy.out x3)):=by kernel_rfl
theorem dy.ok:dy.Ok:=by
 rintro⟨b,n⟩ ⟨hb,hn⟩
 have hb:b.length≤90000000:=hb
 have hn:n≤9223372036854775807:=hn
 rw[dy.eq]
 simp only[dy.add,dy.F,ee]
 by_cases h:n < 0
 ·rw[bu h,if_pos h,av,du.run (d:=(b,[])) (by show b.length+([]:List Int).length≤_;simp only[List.length_nil];omega)]
  simp only[aa,du.add,du.F,List.append_nil]
 ·have hl:=gN n
  rw[bj h,if_neg h,ay,ct.run (d:=n) ⟨by omega,hn⟩]
  simp only[aa,ct.add,ct.F]
  rw[du.run (d:=(b,fB n)) (by show b.length+(fB n).length≤_;omega)]
  rfl
noncomputable def dy.E:=Entry.cz [some tB,some ti] dy.st dy.aB dy.add dy.F dy.out
noncomputable def dy.call:dy.D→Option dy.X:=bH dy.E dy.st
theorem dy.run:bC dy.call dy.aB dy.add dy.F:=cQ (cP [.d tB,.d ti] fun _=>by kernel_rfl)
noncomputable def dy.sg:SG Tryz.prog:=⟨69,aU,dy.E,.fn 0 (by kernel_rfl) dy.ok trivial⟩
abbrev dq.D:=Bs×Int
def dq.st:dq.D→SA:=fun(b,n)=>([.d tB b,.d tu n],[])
abbrev dq.Y:=Bs
abbrev dq.X:=Bs
def dq.out:dq.X→a9:=fun x=>⟨.d tB x,[],[]⟩
def dq.add:dq.D→dq.Y→dq.X:=fun(b,n) y=>y
def dq.aB:dq.D→Prop:=fun(b,n)=>b.length≤90000000
def dq.F:dq.D→dq.Y:=fun(b,n)=>b++fM n
noncomputable def dq.G:dS:=eR (P:=Tryz.prog) [du.sg]
noncomputable def dq.an:eA:= {loops:=jY [(3,{bm:=[0,1,5,7],sites:=[5,21]})],outs:=jX [(3,{bm:=[0,5],sites:=[5,21]},{bm:=[4],sites:=[5,21]})]}
noncomputable def dq.A:= @cJ Tryz.prog dq.G dq.an 12 Tryz.f70 _ dq.st
abbrev dq.Ok:=cK @dq.A dq.aB dq.add dq.F dq.out
theorem dq.eq{R:Type}(b:Bs)(n:Int)(k:a9→Option R):dq.A (b,n) k=
 ah (du.call (b,[(dD .u8 (bJ .u64 n (56:Int))),(dD .u8 (bJ .u64 n (48:Int))),(dD .u8 (bJ .u64 n (40:Int))),(dD .u8 (bJ .u64 n (32:Int))),(dD .u8 (bJ .u64 n (24:Int))),(dD .u8 (bJ .u64 n (16:Int))),(dD .u8 (bJ .u64 n (8:Int))),(dD .u8 (bJ .u64 n (0:Int)))])) fun x1=>
 k (dq.out x1):=by kernel_rfl
theorem dq.ok:dq.Ok:=by
 rintro⟨b,n⟩ hb
 have hb:b.length≤90000000:=hb
 have p:du.aB (b,fM n):=by show b.length+(fM n).length≤_;rw[bK];omega
 have e:du.call (b,[dD .u8 (bJ .u64 n 56),dD .u8 (bJ .u64 n 48),dD .u8 (bJ .u64 n 40),dD .u8 (bJ .u64 n 32),dD .u8 (bJ .u64 n 24),dD .u8 (bJ .u64 n 16),dD .u8 (bJ .u64 n 8),dD .u8 (bJ .u64 n 0)])=some (b++fM n):=by
  rw[vR];exact du.run p
 rw[dq.eq]
 refine Eq.trans (congrArg (fun x=>ah x _) e) ?_
 rfl
noncomputable def dq.E:=Entry.cz [some tB,some tu] dq.st dq.aB dq.add dq.F dq.out
noncomputable def dq.call:dq.D→Option dq.X:=bH dq.E dq.st
theorem dq.run:bC dq.call dq.aB dq.add dq.F:=cQ (cP [.d tB,.d tu] fun _=>by kernel_rfl)
noncomputable def dq.sg:SG Tryz.prog:=⟨70,aU,dq.E,.fn 1 (by kernel_rfl) dq.ok (And.intro (.none (by kernel_rfl)) trivial)⟩
set_option synthInstance.maxSize 5000
def mO(w:l7):Bool:=decide (0≤w.1∧w.1 < 4) && decide (w.2.1.length≤12)
def si(x:fD):Bool:=decide (0≤x.1.2.1∧x.1.2.1 < 64) && mO x.2.1
def se(m:List (kg×Bool))(x:fD):Bool:=(oo kG x.1 m).getD false
def rf:List (kg×Bool)→List fD→Bool
 |_,[]=>true
 |m,x::l=>(!(se m x) && si x) && rf (oq kG x.1 true m) l
def ni(a:Int):Bool:=decide (0≤a∧a≤1125899906842624)
def oZ(a b:Int):Bool:=ni a && (ni b && decide (a+b≤1125899906842624))
def mv:Int→List gh→Bool
 |_,[]=>true
 |s,o::l=>(oZ s o.1 && gb o.2.1) && mv (s+o.1) l
def vz(t:fb):Bool:=decide (1≤t.1.length∧t.1.length≤64∧t.2.1.length≤64∧0≤t.2.2.1)
def gn(t:fb):Bool:=vz t && (rf [] t.1 && mv 0 t.2.1)
def Df(l:Lk):Prop:=qd l∧l.1.length≤1000000000
def EG(t:fb):Prop:=(∀o∈t.2.1,Df o.2.1)∧t.1.length≤1000000000∧t.2.1.length≤1000000000
abbrev eT.D:=l7
def eT.st:eT.D→SA:=fun wv=>([.d s7 wv],[])
abbrev eT.Y:=Bool
abbrev eT.X:=Bool
def eT.out:eT.X→a9:=fun x=>⟨.d .bool x,[],[]⟩
def eT.add:eT.D→eT.Y→eT.X:=fun wv y=>y
def eT.aB:eT.D→Prop:=fun _=>True
def eT.F:eT.D→eT.Y:=fun w=>mO w
noncomputable def eT.G:dS:=eR (P:=Tryz.prog) []
noncomputable def eT.an:eA:= {}
noncomputable def eT.A:= @cJ Tryz.prog eT.G eT.an 0 Tryz.f89 _ eT.st
abbrev eT.Ok:=cK @eT.A eT.aB eT.add eT.F eT.out
theorem eT.eq{R:Type}(wv:l7)(k:a9→Option R):eT.A wv k=
  aJ ((mU wv.1 (0:Int))) (
   aJ ((fZ wv.1 (4:Int))) (
    k (eT.out (zP (((List.length wv.2.1):Nat):Int) (12:Int)))) (
    k (eT.out false))) (
   k (eT.out false)):=by kernel_rfl
theorem eT.ok:eT.Ok:=by
 rintro⟨b,ss,sc,u⟩ _
 rw[eT.eq]
 simp only[eT.add,eT.F,mO]
 by_cases h:0≤b
 ·rw[fX h,av]
  by_cases h2:b < 4
  ·rw[bu h2,av,aO ⟨h,h2⟩]
   by_cases h3:ss.length≤12
   ·rw[nu (by omega),aO h3];rfl
   ·rw[kJ (by omega),aM h3];rfl
  ·rw[bj h2,ay,aM (fun x=>h2 x.2)];rfl
 ·rw[eJ h,ay,aM (fun x=>h x.1)];rfl
noncomputable def eT.E:=Entry.cz [some s7] eT.st eT.aB eT.add eT.F eT.out
noncomputable def eT.call:eT.D→Option eT.X:=bH eT.E eT.st
theorem eT.run:bC eT.call eT.aB eT.add eT.F:=cQ (cP [.d s7] fun _=>by kernel_rfl)
noncomputable def eT.sg:SG Tryz.prog:=⟨89,aU,eT.E,.fn 0 (by kernel_rfl) eT.ok trivial⟩
abbrev cV.D:=Int
def cV.st:cV.D→SA:=fun a=>([.d ti a],[])
abbrev cV.Y:=Bool
abbrev cV.X:=Bool
def cV.out:cV.X→a9:=fun x=>⟨.d .bool x,[],[]⟩
def cV.add:cV.D→cV.Y→cV.X:=fun a y=>y
def cV.aB:cV.D→Prop:=fun _=>True
def cV.F:cV.D→cV.Y:=fun a=>ni a
noncomputable def cV.G:dS:=eR (P:=Tryz.prog) []
noncomputable def cV.an:eA:= {}
noncomputable def cV.A:= @cJ Tryz.prog cV.G cV.an 0 Tryz.f139 _ cV.st
abbrev cV.Ok:=cK @cV.A cV.aB cV.add cV.F cV.out
theorem cV.eq{R:Type}(a:Int)(k:a9→Option R):cV.A a k=
  aJ ((mU a (0:Int))) (
   k (cV.out (zP a (1125899906842624:Int)))) (
   k (cV.out false)):=by kernel_rfl
theorem cV.ok:cV.Ok:=by
 intro(a:Int) _
 rw[cV.eq]
 simp only[cV.add,cV.F,ni]
 by_cases h:0≤a
 ·rw[fX h,av]
  by_cases h2:a≤1125899906842624
  ·rw[nu h2,aO ⟨h,h2⟩]
  ·rw[kJ h2,aM (fun x=>h2 x.2)]
 ·rw[eJ h,ay,aM (fun x=>h x.1)]
noncomputable def cV.E:=Entry.cz [some ti] cV.st cV.aB cV.add cV.F cV.out
noncomputable def cV.call:cV.D→Option cV.X:=bH cV.E cV.st
theorem cV.run:bC cV.call cV.aB cV.add cV.F:=cQ (cP [.d ti] fun _=>by kernel_rfl)
noncomputable def cV.sg:SG Tryz.prog:=⟨139,aU,cV.E,.fn 0 (by kernel_rfl) cV.ok trivial⟩
abbrev fe.D:=Int×Int
def fe.st:fe.D→SA:=fun(a,b)=>([.d ti a,.d ti b],[])
abbrev fe.Y:=Int×Bool
abbrev fe.X:=Int×Bool
def fe.out:fe.X→a9:=fun x=>⟨.cons (.d ti x.1) (.cons (.d .bool x.2) (.nil)),[],[]⟩
def fe.add:fe.D→fe.Y→fe.X:=fun(a,b) y=>y
def fe.aB:fe.D→Prop:=fun _=>True
def fe.F:fe.D→fe.Y:=fun(a,b)=>(bif oZ a b then a+b else 0,oZ a b)
noncomputable def fe.G:dS:=eR (P:=Tryz.prog) [cV.sg]
noncomputable def fe.an:eA:= {}
noncomputable def fe.A:= @cJ Tryz.prog fe.G fe.an 0 Tryz.f95 _ fe.st
abbrev fe.Ok:=cK @fe.A fe.aB fe.add fe.F fe.out
theorem fe.eq{R:Type}(a:Int)(b:Int)(k:a9→Option R):fe.A (a,b) k=
  ah (cV.call a) fun x1=>
  aJ ((!x1)) (
   k (fe.out ((0:Int),false))) (
   ah (cV.call b) fun x2=>
   aJ ((!x2)) (
    k (fe.out ((0:Int),false))) (
    aJ ((oJ a (dg .i64 (1125899906842624:Int) b))) (
     k (fe.out ((0:Int),false))) (
     k (fe.out ((bM .i64 a b),true))))):=by kernel_rfl
theorem fe.ok:fe.Ok:=by
 rintro⟨a,b⟩ _
 rw[fe.eq,cV.run (d:=a) trivial,cV.run (d:=b) trivial]
 simp only[aa,cV.add,cV.F,fe.add,fe.F,oZ]
 cases ha:ni a
 ·rfl
 ·cases hb:ni b
  ·rfl
  ·simp only[ni,decide_eq_true_eq]at ha hb
   simp only[Bool.not_true,ay,Bool.true_and]
   rw[fC (by omega) (by omega)]
   by_cases h:a+b≤1125899906842624
   ·rw[dR (by omega),ay,aO h,gL (by omega) (by omega)];rfl
   ·rw[ek (by omega),av,aM h];rfl
noncomputable def fe.E:=Entry.cz [some ti,some ti] fe.st fe.aB fe.add fe.F fe.out
noncomputable def fe.call:fe.D→Option fe.X:=bH fe.E fe.st
theorem fe.run:bC fe.call fe.aB fe.add fe.F:=cQ (cP [.d ti,.d ti] fun _=>by kernel_rfl)
noncomputable def fe.sg:SG Tryz.prog:=⟨95,aU,fe.E,.fn 0 (by kernel_rfl) fe.ok trivial⟩
abbrev aq.L0.D:=fb×(List fD)×Int×Int×(List (kg×Bool))
def aq.L0.st:aq.L0.D→AS:=fun(t_2,t33,t34,t35,n31)=>⟨([.undef,.eG gg t_2,.undef,.jg (.new 31 0) 0]++bg 29 ([.d (.slice eH) t33,.d ti t34,.d ti t35]++bg 52 [])),[],(bN 31 ([[.obj 0 false (.mp kG .bool n31)]]++bN 56 []))⟩
abbrev aq.L0.Y0:=Unit
abbrev aq.L0.X0:=Unit
def aq.L0.bt:aq.L0.X0→Exit×AS:=fun x=>(.ret,⟨([.undef,.undef,.d .bool false]++bg 85 []),[],(List.replicate 88 [])⟩)
abbrev aq.L0.Y1:=Unit
abbrev aq.L0.X1:=fb
def aq.L0.eS:aq.L0.X1→Exit×AS:=fun x=>(.exit 0,⟨([.undef,.eG gg x]++bg 86 []),[],(List.replicate 88 [])⟩)
abbrev aq.L0.X:=(aq.L0.X0)⊕(aq.L0.X1)
abbrev aq.L0.Y:=(aq.L0.Y0)⊕(aq.L0.Y1)
def aq.L0.out:aq.L0.X→Out (Exit×AS):=fun x=> .br x.isLeft (.get x.getLeft? fun a=> .ok (aq.L0.bt a)) (.get x.getRight? fun b=> .ok (aq.L0.eS b))
def aq.L0.add:aq.L0.D→aq.L0.Y→aq.L0.X:=fun(t_2,t33,t34,t35,n31) y=>match y with | .inl y=> .inl y | .inr z=> .inr (t_2)
abbrev aq.L1.D:=Int×(List gh)×Int×Int
def aq.L1.st:aq.L1.D→AS:=fun(sum,t66,t67,t68)=>⟨(bg 6 ([.d ti sum]++bg 59 ([.d (.slice eU) t66,.d ti t67,.d ti t68]++bg 19 []))),[],(List.replicate 88 [])⟩
abbrev aq.L1.Y0:=Unit
abbrev aq.L1.X0:=Unit
def aq.L1.bt:aq.L1.X0→Exit×AS:=fun x=>(.ret,⟨([.undef,.undef,.d .bool false]++bg 85 []),[],(List.replicate 88 [])⟩)
abbrev aq.L1.Y1:=Unit
abbrev aq.L1.X1:=Unit
def aq.L1.eS:aq.L1.X1→Exit×AS:=fun x=>(.exit 2,⟨(bg 88 []),[],(List.replicate 88 [])⟩)
abbrev aq.L1.X:=(aq.L1.X0)⊕(aq.L1.X1)
abbrev aq.L1.Y:=(aq.L1.Y0)⊕(aq.L1.Y1)
def aq.L1.out:aq.L1.X→Out (Exit×AS):=fun x=> .br x.isLeft (.get x.getLeft? fun a=> .ok (aq.L1.bt a)) (.get x.getRight? fun b=> .ok (aq.L1.eS b))
def aq.L1.add:aq.L1.D→aq.L1.Y→aq.L1.X:=fun(sum,t66,t67,t68) y=>match y with | .inl y=> .inl y | .inr z=> .inr (z)
abbrev aq.D:=fb
def aq.st:aq.D→SA:=fun t=>([.d gg t],[])
abbrev aq.Y:=Bool
abbrev aq.X:=Bool
def aq.out:aq.X→a9:=fun x=>⟨.d .bool x,[],[]⟩
def aq.add:aq.D→aq.Y→aq.X:=fun t y=>y
def aq.L0.aB:aq.L0.D→Prop:=fun(t,l,n,i,m)=>l.length≤1000000000∧n=l.length∧∃k:Nat,k≤l.length∧i=k
def aq.L0.F:aq.L0.D→aq.L0.Y:=fun(t,l,n,i,m)=>if rf m (l.drop i.toNat) then .inr () else .inl ()
def aq.L1.aB:aq.L1.D→Prop:=fun(s,l,n,i)=>(∀o∈l,Df o.2.1)∧l.length≤1000000000∧n=l.length∧∃k:Nat,k≤l.length∧i=k
def aq.L1.F:aq.L1.D→aq.L1.Y:=fun(s,l,n,i)=>if mv s (l.drop i.toNat) then .inr () else .inl ()
def aq.aB:aq.D→Prop:=fun t=>EG t
def aq.F:aq.D→aq.Y:=fun t=>gn t
noncomputable def aq.G:dS:=eR (P:=Tryz.prog) [eT.sg,fe.sg,aK.sg]
noncomputable def aq.L0.E:=bO.cz aq.L0.st aq.L0.aB aq.L0.add aq.L0.F aq.L0.out
noncomputable def aq.L0.call:aq.L0.D→Option aq.L0.X:=dk aq.L0.E aq.L0.st
noncomputable def aq.L1.E:=bO.cz aq.L1.st aq.L1.aB aq.L1.add aq.L1.F aq.L1.out
noncomputable def aq.L1.call:aq.L1.D→Option aq.L1.X:=dk aq.L1.E aq.L1.st
noncomputable def aq.an:eA:= {loops:=jY [(5,{bm:=[1,3,33,34,35],sites:=[31]}),(13,{bm:=[6,66,67,68]})],outs:=jX [(5,{bm:=[1]},{bm:=[2]}),(13,{},{bm:=[2]})],fJ:=kF [(5,aq.L0.E),(13,aq.L1.E)]}
noncomputable def aq.A:= @cJ Tryz.prog aq.G aq.an 0 Tryz.f29 _ aq.st
abbrev aq.Ok:=cK @aq.A aq.aB aq.add aq.F aq.out
noncomputable def aq.L0.R:= @cg Tryz.prog aq.G aq.an 0 Tryz.f29 0 _ aq.L0.st
abbrev aq.L0.Ok:=eB Tryz.prog aq.G aq.an 0 Tryz.f29 0 aq.L0.st aq.L0.aB aq.L0.add aq.L0.F aq.L0.out
noncomputable def aq.L1.R:= @cg Tryz.prog aq.G aq.an 0 Tryz.f29 1 _ aq.L1.st
abbrev aq.L1.Ok:=eB Tryz.prog aq.G aq.an 0 Tryz.f29 1 aq.L1.st aq.L1.aB aq.L1.add aq.L1.F aq.L1.out
theorem aq.L0.run:bC aq.L0.call aq.L0.aB aq.L0.add aq.L0.F:=eI (eD [.d gg,.d (.slice eH),.d ti,.d ti,.d (.slice (.pair kG .bool))] fun _=>by kernel_rfl)
theorem aq.L0.aG:jt @aq.L0.R aq.L0.st aq.L0.aB aq.L0.add aq.L0.F aq.L0.out aq.L0.Ok:=jV
theorem aq.L0.step{R:Type}(t_2:fb)(t33:(List fD))(t34:Int)(t35:Int)(n31:(List (kg×Bool)))(kn:AS→Option R)(kx:Exit→AS→Option R):aq.L0.R (t_2,t33,t34,t35,n31) kn kx=
  aJ ((fZ t35 t34)) (
   aJ (ei t35 (((List.length t33):Nat):Int)) (
   aJ (((oo kG (nth eH t33 (Int.toNat t35)).1 n31).getD false)) (
    kx (aq.L0.bt ()).1 (aq.L0.bt ()).2) (
    aJ ((fZ (nth eH t33 (Int.toNat t35)).1.2.1 (0:Int))) (
     kx (aq.L0.bt ()).1 (aq.L0.bt ()).2) (
     aJ ((mU (nth eH t33 (Int.toNat t35)).1.2.1 (64:Int))) (
      kx (aq.L0.bt ()).1 (aq.L0.bt ()).2) (
      ah (eT.call (nth eH t33 (Int.toNat t35)).2.1) fun x8=>
      aJ ((!x8)) (
       kx (aq.L0.bt ()).1 (aq.L0.bt ()).2) (
       kn (aq.L0.st (t_2,t33,t34,(bM .i64 t35 (1:Int)),(oq kG (nth eH t33 (Int.toNat t35)).1 true n31)))))))) none) (
   kx (aq.L0.eS t_2).1 (aq.L0.eS t_2).2):=by kernel_rfl
theorem aq.L1.run:bC aq.L1.call aq.L1.aB aq.L1.add aq.L1.F:=eI (eD [.d ti,.d (.slice eU),.d ti,.d ti] fun _=>by kernel_rfl)
theorem aq.L1.aG:jt @aq.L1.R aq.L1.st aq.L1.aB aq.L1.add aq.L1.F aq.L1.out aq.L1.Ok:=jV
theorem aq.L1.step{R:Type}(sum:Int)(t66:(List gh))(t67:Int)(t68:Int)(kn:AS→Option R)(kx:Exit→AS→Option R):aq.L1.R (sum,t66,t67,t68) kn kx=
  aJ ((fZ t68 t67)) (
   aJ (ei t68 (((List.length t66):Nat):Int)) (
   ah (fe.call (sum,(nth eU t66 (Int.toNat t68)).1)) fun x10=>
   aJ ((!x10.2)) (
    kx (aq.L1.bt ()).1 (aq.L1.bt ()).2) (
    ah (aK.call (nth eU t66 (Int.toNat t68)).2.1) fun x12=>
    aJ ((!x12)) (
     kx (aq.L1.bt ()).1 (aq.L1.bt ()).2) (
     kn (aq.L1.st (x10.1,t66,t67,(bM .i64 t68 (1:Int))))))) none) (
   kx (aq.L1.eS ()).1 (aq.L1.eS ()).2):=by kernel_rfl
theorem aq.eq{R:Type}(t:fb)(k:a9→Option R):aq.A t k=
  aJ ((fZ (((List.length t.1):Nat):Int) (1:Int))) (
   k (aq.out false)) (
   aJ ((oJ (((List.length t.1):Nat):Int) (64:Int))) (
    k (aq.out false)) (
    aJ ((oJ (((List.length t.2.1):Nat):Int) (64:Int))) (
     k (aq.out false)) (
     aJ ((fZ t.2.2.1 (0:Int))) (
      k (aq.out false)) (
      ah (aq.L0.call (t,t.1,(((List.length t.1):Nat):Int),(0:Int),([]:List (kg×Bool)))) fun x12=>
      aJ (x12.isLeft) (
       ah (x12.getLeft?) fun a13=>
       k (aq.out false)) (
       ah (x12.getRight?) fun b14=>
       ah (aq.L1.call ((0:Int),b14.2.1,(((List.length b14.2.1):Nat):Int),(0:Int))) fun x30=>
       aJ (x30.isLeft) (
        ah (x30.getLeft?) fun a31=>
        k (aq.out false)) (
        ah (x30.getRight?) fun b32=>
        k (aq.out true))))))):=by kernel_rfl
theorem aq.L0.ok:aq.L0.Ok:=by
 refine aq.L0.aG (fun(t,l,n,i,m)=>l.length - i.toNat) ?_
 rintro⟨t,l,n,i,m⟩ ⟨hb,rfl,k,hk,rfl⟩
 have hb:l.length≤1000000000:=hb
 have hk:k≤l.length:=hk
 by_cases h:k < l.length
 ·have n1:nth eH l k=l[k]:=cC (t:=eH) h
  have hd:rf m (l.drop k)=((!(se m l[k]) && si l[k]) && rf (oq kG l[k].1 true m) (l.drop (k+1))):=by rw[List.drop_eq_getElem_cons h];rfl
  have step:∀ {R:Type} (kn:AS→Option R) (kx:Exit→AS→Option R),aq.L0.R (t,l,(l.length:Int),(k:Int),m) kn kx=aJ (!(se m l[k]) && si l[k]) (kn (aq.L0.st (t,l,(l.length:Int),((k+1:Nat):Int),oq kG l[k].1 true m))) (kx (aq.L0.bt ()).1 (aq.L0.bt ()).2):=by
   intro R kn kx
   rw[aq.L0.step,bu (by omega),bo (by omega) (by omega),Int.toNat_natCast,n1,N.kM (by omega),eT.run (d:=l[k].2.1) trivial]
   simp only[av,aa,eT.add,eT.F]
   have e:(oo kG l[k].1 m).getD false=se m l[k]:=rfl
   rw[e]
   cases se m l[k]
   ·simp only[Bool.not_false,Bool.true_and,ay,si]
    by_cases h1:l[k].1.2.1 < 0
    ·rw[bu h1,av,aM (fun x=>by omega)];rfl
    ·rw[bj h1,ay]
     by_cases h2:64≤l[k].1.2.1
     ·rw[fX h2,av,aM (fun x=>by omega)];rfl
     ·rw[eJ h2,ay,aO ⟨by omega,by omega⟩]
      cases mO l[k].2.1 <;> rfl
   ·rfl
  cases hp:(!(se m l[k]) && si l[k])
  ·right
   refine⟨aq.L0.bt (),?_,fun kn kx=> ?_⟩
   ·simp only[aq.L0.add,aq.L0.F,Int.toNat_natCast,hd,hp,Bool.false_and,Bool.false_eq_true,if_false]
    rfl
   ·rw[step,hp,ay]
  ·left
   refine⟨(t,l,l.length,((k+1:Nat):Int),oq kG l[k].1 true m),⟨hb,rfl,k+1,by omega,rfl⟩,by simp only[Int.toNat_natCast];omega,?_,fun kn kx=> ?_⟩
   ·simp only[aq.L0.add,aq.L0.F,Int.toNat_natCast,hd,hp,Bool.true_and]
   ·rw[step,hp,av]
 ·right
  obtain rfl:k=l.length:=by omega
  refine⟨aq.L0.eS t,?_,fun kn kx=> ?_⟩
  ·simp only[aq.L0.add,aq.L0.F,Int.toNat_natCast,List.drop_length]
   rfl
  ·rw[aq.L0.step]
   simp(disch:=omega) only[↓S1,↓if_pos,↓if_neg,if_pos,if_neg,if_true,if_false,S2]
theorem aq.L1.ok:aq.L1.Ok:=by
 refine aq.L1.aG (fun(s,l,n,i)=>l.length - i.toNat) ?_
 rintro⟨s,l,n,i⟩ ⟨hl,hb,rfl,k,hk,rfl⟩
 have hb:l.length≤1000000000:=hb
 have hk:k≤l.length:=hk
 by_cases h:k < l.length
 ·have hx:Df l[k].2.1:=hl _ (List.getElem_mem h)
  have n1:nth eU l k=l[k]:=cC (t:=eU) h
  have hd:mv s (l.drop k)=((oZ s l[k].1 && gb l[k].2.1) && mv (s+l[k].1) (l.drop (k+1))):=by rw[List.drop_eq_getElem_cons h];rfl
  have step:∀ {R:Type} (kn:AS→Option R) (kx:Exit→AS→Option R),aq.L1.R (s,l,(l.length:Int),(k:Int)) kn kx=aJ (oZ s l[k].1 && gb l[k].2.1) (kn (aq.L1.st (s+l[k].1,l,(l.length:Int),((k+1:Nat):Int)))) (kx (aq.L1.bt ()).1 (aq.L1.bt ()).2):=by
   intro R kn kx
   rw[aq.L1.step,bu (by omega),bo (by omega) (by omega),Int.toNat_natCast,n1,N.kM (by omega),fe.run (d:=(s,l[k].1)) trivial,aK.run (d:=l[k].2.1) hx]
   simp only[av,aa,fe.add,fe.F,aK.add,aK.F]
   cases oZ s l[k].1
   ·rfl
   ·cases gb l[k].2.1 <;> rfl
  cases hp:(oZ s l[k].1 && gb l[k].2.1)
  ·right
   refine⟨aq.L1.bt (),?_,fun kn kx=> ?_⟩
   ·simp only[aq.L1.add,aq.L1.F,Int.toNat_natCast,hd,hp,Bool.false_and,Bool.false_eq_true,if_false]
    rfl
   ·rw[step,hp,ay]
  ·left
   refine⟨(s+l[k].1,l,l.length,((k+1:Nat):Int)),⟨hl,hb,rfl,k+1,by omega,rfl⟩,by simp only[Int.toNat_natCast];omega,?_,fun kn kx=> ?_⟩
   ·simp only[aq.L1.add,aq.L1.F,Int.toNat_natCast,hd,hp,Bool.true_and]
   ·rw[step,hp,av]
 ·right
  obtain rfl:k=l.length:=by omega
  refine⟨aq.L1.eS (),?_,fun kn kx=> ?_⟩
  ·simp only[aq.L1.add,aq.L1.F,Int.toNat_natCast,List.drop_length]
   rfl
  ·rw[aq.L1.step]
   simp(disch:=omega) only[↓S1,↓if_pos,↓if_neg,if_pos,if_neg,if_true,if_false,S2]
theorem aq.ok:aq.Ok:=by
 rintro⟨is,os,nt,u⟩ ⟨hl,h1,h2⟩
 have h1:is.length≤1000000000:=h1
 have h2:os.length≤1000000000:=h2
 rw[aq.eq,aq.L0.run (d:=((is,os,nt,u),is,is.length,0,[])) ⟨h1,rfl,0,by omega,rfl⟩]
 simp only[aa,aq.L0.add,aq.L0.F,Int.toNat_zero,List.drop_zero,aq.add,aq.F,gn,vz]
 by_cases a1:is.length < 1
 ·rw[bu (by omega),av,aM (fun x=>by omega)];rfl
 rw[bj (by omega),ay]
 by_cases a2:64 < is.length
 ·rw[ek (by omega),av,aM (fun x=>by omega)];rfl
 rw[dR (by omega),ay]
 by_cases a3:64 < os.length
 ·rw[ek (by omega),av,aM (fun x=>by omega)];rfl
 rw[dR (by omega),ay]
 by_cases a4:nt < 0
 ·rw[bu (by omega),av,aM (fun x=>by omega)];rfl
 rw[bj (by omega),ay,aO ⟨by omega,by omega,by omega,by omega⟩]
 cases rf [] is
 ·rfl
 ·simp only[if_true,Bool.true_and]
  show ah (aq.L1.call (0,os,(os.length:Int),0)) _=_
  rw[aq.L1.run (d:=(0,os,os.length,0)) ⟨hl,h2,rfl,0,by omega,rfl⟩]
  simp only[aa,aq.L1.add,aq.L1.F,Int.toNat_zero,List.drop_zero]
  cases mv 0 os <;> rfl
noncomputable def aq.E:=Entry.cz [some gg] aq.st aq.aB aq.add aq.F aq.out
noncomputable def aq.call:aq.D→Option aq.X:=bH aq.E aq.st
theorem aq.run:bC aq.call aq.aB aq.add aq.F:=cQ (cP [.d gg] fun _=>by kernel_rfl)
noncomputable def aq.sg:SG Tryz.prog:=⟨29,aU,aq.E,.fn 2 (by kernel_rfl) aq.ok (And.intro (.cz aq.L0.ok (by kernel_rfl)) (And.intro (.cz aq.L1.ok (by kernel_rfl)) trivial))⟩
end Go.Ab
