/-
  Made short by a program of mine (wip/tools/mini.py).
-/
import Derived.Test.YtcdokckdlaegdaaGreatS17x3
import Derived.Test.YtcdokckdlaegdaaGreatProg
set_option linter.unusedVariables false
set_option linter.unusedSimpArgs false
namespace Go.Ab
open Go.Proofs
set_option maxRecDepth 100000
set_option linter.unusedVariables false
set_option linter.unusedSimpArgs false
set_option synthInstance.maxSize 5000
abbrev binary.D:=Bs
def binary.st:binary.D→SA:=fun b=>([.d tB b],[])
abbrev binary.Y:=Int
abbrev binary.X:=Int
def binary.out:binary.X→aT:=fun x=>⟨.d (.int .u32) x,[],[]⟩
def binary.add:binary.D→binary.Y→binary.X:=fun b y=>y
def binary.aq:binary.D→Prop:=fun b=>4≤b.length
def binary.F:binary.D→binary.Y:=fun b=>vw (HR (b.getD 0 0) (b.getD 1 0) (b.getD 2 0) (b.getD 3 0))
noncomputable def binary.G:dU:=eZ (P:=Tryz.prog) []
noncomputable def binary.an:eu:= {}
noncomputable def binary.A:= @cq Tryz.prog binary.G binary.an 0 Tryz.f184 _ binary.st
abbrev binary.Ok:=cr @binary.A binary.aq binary.add binary.F binary.out
theorem binary.eq{R:Type}(b:Bs)(k:aT→Option R):binary.A b k=
 aD (dZ (0:Int) (((List.length b):Nat):Int)) (
 aD (dZ (1:Int) (((List.length b):Nat):Int)) (
 aD (dZ (2:Int) (((List.length b):Nat):Int)) (
 aD (dZ (3:Int) (((List.length b):Nat):Int)) (
 k (binary.out (ct .or .u32 (ct .or .u32 (ct .or .u32 (jx .u32 (dG .u32 (nth tb b 0)) (24:Int)) (jx .u32 (dG .u32 (nth tb b 1)) (16:Int))) (jx .u32 (dG .u32 (nth tb b 2)) (8:Int))) (dG .u32 (nth tb b 3))))) none) none) none) none:=by kernel_rfl
theorem binary.ok:binary.Ok:=by
 intro b h
 have h:4≤b.length:=h
 rw[binary.eq,bz (by omega) (by omega),bz (by omega) (by omega),bz (by omega) (by omega),bz (by omega) (by omega)]
 simp only[ah,BR,rf,jr]
 rfl
noncomputable def binary.E:=Entry.cD [some tB] binary.st binary.aq binary.add binary.F binary.out
noncomputable def binary.call:binary.D→Option binary.X:=bC binary.E binary.st
theorem binary.run:bD binary.call binary.aq binary.add binary.F:=cw (cv [.d tB] fun _=>by kernel_rfl)
noncomputable def binary.sg:SG Tryz.prog:=⟨184,aK,binary.E,.fn 0 (by kernel_rfl) binary.ok trivial⟩
abbrev de.D:=Int×Int
def de.st:de.D→SA:=fun(x,kv)=>([.d (.int .u32) x,.d ti kv],[])
abbrev de.Y:=Int
abbrev de.X:=Int
def de.out:de.X→aT:=fun x=>⟨.d (.int .u32) x,[],[]⟩
def de.add:de.D→de.Y→de.X:=fun(x,kv) y=>y
def rl(w:W)(k:Nat):W:=w <<< k ||| w >>> (32 - k)
def de.aq:de.D→Prop:=fun(x,k)=>0≤x∧x < 4294967296
def de.F:de.D→de.Y:=fun(x,k)=>vw (rl (BitVec.ofInt 32 x) (k%32).toNat)
noncomputable def de.G:dU:=eZ (P:=Tryz.prog) []
noncomputable def de.an:eu:= {}
noncomputable def de.A:= @cq Tryz.prog de.G de.an 0 Tryz.f175 _ de.st
abbrev de.Ok:=cr @de.A de.aq de.add de.F de.out
theorem de.eq{R:Type}(x:Int)(kv:Int)(k:aT→Option R):de.A (x,kv) k=
 aD (iU (ct .and .u64 (dG .u64 kv) (31:Int))) (
 aD (iU (bV .u64 (32:Int) (ct .and .u64 (dG .u64 kv) (31:Int)))) (
 k (de.out (ct .or .u32 (jx .u32 x (ct .and .u64 (dG .u64 kv) (31:Int))) (bW .u32 x (bV .u64 (32:Int) (ct .and .u64 (dG .u64 kv) (31:Int))))))) none) none:=by kernel_rfl
theorem HQ(k:Int):ct .and .u64 (dG .u64 k) 31=k%32:=by
 have e:(31:Int)=vw (31:BitVec 64):=rfl
 rw[xJ,e,Cw]
 simp only
 have:(31:BitVec 64)=BitVec.ofNat 64 (2^5 - 1):=rfl
 unfold vw
 rw[BitVec.toNat_and,BitVec.toNat_ofInt,show(31:BitVec 64).toNat=2^5 - 1 from rfl,Nat.and_two_pow_sub_one_eq_mod]
 omega
theorem de.ok:de.Ok:=by
 rintro⟨x,k⟩ ⟨h1,h2⟩
 have e1:bV .u64 32 (k%32)=32 - k%32:=by
  unfold bV
  rw[wrap_u64,gL]
  omega
 have hx:x=vw (BitVec.ofInt 32 x):=by rw[gL];omega
 rw[de.eq,HQ,e1,nb (by omega),nb (by omega)]
 simp only[ah]
 have e2:ct .or .u32 (jx .u32 x (k%32)) (bW .u32 x (32 - k%32))=vw (rl (BitVec.ofInt 32 x) (k%32).toNat):=by
  conv=>lhs;rw[hx]
  rw[rf,pc,jr]
  simp only[rl]
  congr 3
  omega
 rw[e2]
 rfl
noncomputable def de.E:=Entry.cD [some (.int .u32),some ti] de.st de.aq de.add de.F de.out
noncomputable def de.call:de.D→Option de.X:=bC de.E de.st
theorem de.run:bD de.call de.aq de.add de.F:=cw (cv [.d (.int .u32),.d ti] fun _=>by kernel_rfl)
noncomputable def de.sg:SG Tryz.prog:=⟨175,aK,de.E,.fn 0 (by kernel_rfl) de.ok trivial⟩
theorem de.at(w:W)(k:Int):de.call (vw w,k)=some (vw (rl w (k%32).toNat)):=by
 have h:de.aq (vw w,k):=⟨s7 w,by have:=Fc w;simpa using this⟩
 rw[de.run h]
 show some (vw (rl (BitVec.ofInt 32 (vw w)) (k%32).toNat))=_
 rw[kD]
abbrev table.D:=Unit
def table.st:table.D→SA:=fun _=>([],[])
abbrev table.Y:=(List Int)
abbrev table.X:=(List Int)
def table.out:table.X→aT:=fun x=>⟨.d (.arr 64 (.int .u32)) x,[],[]⟩
def table.add:table.D→table.Y→table.X:=fun _ y=>y
def table.aq:table.D→Prop:=fun _=>True
def table.F:table.D→table.Y:=fun _=>sH
noncomputable def table.G:dU:=eZ (P:=Tryz.prog) []
noncomputable def table.an:eu:= {}
noncomputable def table.A:= @cq Tryz.prog table.G table.an 0 Tryz.f174 _ table.st
abbrev table.Ok:=cr @table.A table.aq table.add table.F table.out
theorem table.eq{R:Type}(k:aT→Option R):table.A () k=
 k (table.out [(1116352408:Int),(1899447441:Int),(3049323471:Int),(3921009573:Int),(961987163:Int),(1508970993:Int),(2453635748:Int),(2870763221:Int),(3624381080:Int),(310598401:Int),(607225278:Int),(1426881987:Int),(1925078388:Int),(2162078206:Int),(2614888103:Int),(3248222580:Int),(3835390401:Int),(4022224774:Int),(264347078:Int),(604807628:Int),(770255983:Int),(1249150122:Int),(1555081692:Int),(1996064986:Int),(2554220882:Int),(2821834349:Int),(2952996808:Int),(3210313671:Int),(3336571891:Int),(3584528711:Int),(113926993:Int),(338241895:Int),(666307205:Int),(773529912:Int),(1294757372:Int),(1396182291:Int),(1695183700:Int),(1986661051:Int),(2177026350:Int),(2456956037:Int),(2730485921:Int),(2820302411:Int),(3259730800:Int),(3345764771:Int),(3516065817:Int),(3600352804:Int),(4094571909:Int),(275423344:Int),(430227734:Int),(506948616:Int),(659060556:Int),(883997877:Int),(958139571:Int),(1322822218:Int),(1537002063:Int),(1747873779:Int),(1955562222:Int),(2024104815:Int),(2227730452:Int),(2361852424:Int),(2428436474:Int),(2756734187:Int),(3204031479:Int),(3329325298:Int)]):=by kernel_rfl
theorem table.ok:table.Ok:=by
 intro d _
 rw[table.eq]
 rfl
noncomputable def table.E:=Entry.cD [] table.st table.aq table.add table.F table.out
noncomputable def table.call:table.D→Option table.X:=bC table.E table.st
theorem table.run:bD table.call table.aq table.add table.F:=cw (cv [] fun _=>by kernel_rfl)
noncomputable def table.sg:SG Tryz.prog:=⟨174,aK,table.E,.fn 0 (by kernel_rfl) table.ok trivial⟩
abbrev first.D:=Unit
def first.st:first.D→SA:=fun _=>([],[])
abbrev first.Y:=(List Int)
abbrev first.X:=(List Int)
def first.out:first.X→aT:=fun x=>⟨.d (.arr 8 (.int .u32)) x,[],[]⟩
def first.add:first.D→first.Y→first.X:=fun _ y=>y
def first.aq:first.D→Prop:=fun _=>True
def first.F:first.D→first.Y:=fun _=>jV.l
noncomputable def first.G:dU:=eZ (P:=Tryz.prog) []
noncomputable def first.an:eu:= {}
noncomputable def first.A:= @cq Tryz.prog first.G first.an 0 Tryz.f147 _ first.st
abbrev first.Ok:=cr @first.A first.aq first.add first.F first.out
theorem first.eq{R:Type}(k:aT→Option R):first.A () k=
 k (first.out [(1779033703:Int),(3144134277:Int),(1013904242:Int),(2773480762:Int),(1359893119:Int),(2600822924:Int),(528734635:Int),(1541459225:Int)]):=by kernel_rfl
theorem first.ok:first.Ok:=by
 intro d _
 rw[first.eq]
 rfl
noncomputable def first.E:=Entry.cD [] first.st first.aq first.add first.F first.out
noncomputable def first.call:first.D→Option first.X:=bC first.E first.st
theorem first.run:bD first.call first.aq first.add first.F:=cw (cv [] fun _=>by kernel_rfl)
noncomputable def first.sg:SG Tryz.prog:=⟨147,aK,first.E,.fn 0 (by kernel_rfl) first.ok trivial⟩
set_option synthInstance.maxSize 5000
abbrev schedule.L0.D:=Bs×Int×(List Int)
def schedule.L0.st:schedule.L0.D→AS:=fun(b_2,t8,n2)=>⟨([.d tB b_2,.undef,.ptr (.new 2 0) 0 [] 0]++bw 5 ([.d ti t8]++bw 52 [])),[],([[],[],[.obj 0 false (.d (.arr 64 (.int .u32)) n2)]]++cC 58 [])⟩
abbrev schedule.L0.Y0:=(List Int)
abbrev schedule.L0.X0:=(List Int)
def schedule.L0.bK:schedule.L0.X0→Exit×AS:=fun x=>(.exit 0,⟨([.undef,.undef,.ptr (.new 2 0) 0 [] 0]++bw 58 []),[],([[],[],[.obj 0 false (.d (.arr 64 (.int .u32)) x)]]++cC 58 [])⟩)
abbrev schedule.L0.X:=schedule.L0.X0
abbrev schedule.L0.Y:=schedule.L0.Y0
def schedule.L0.out:schedule.L0.X→Out (Exit×AS):=fun x=> .ok (schedule.L0.bK x)
def schedule.L0.add:schedule.L0.D→schedule.L0.Y→schedule.L0.X:=fun(b_2,t8,n2) y=>y
abbrev schedule.D:=Bs
def schedule.st:schedule.D→SA:=fun b=>([.d tB b],[])
abbrev schedule.Y:=(List Int)
abbrev schedule.X:=(List Int)
def schedule.out:schedule.X→aT:=fun x=>⟨.d (.arr 64 (.int .u32)) x,[],[]⟩
def schedule.add:schedule.D→schedule.Y→schedule.X:=fun b y=>y
def wl(l:List W):List Int:=l.map vw
def oR(l:List W):List Int:=wl l++List.replicate (64 - l.length) 0
def oz(b:List Int)(k:Nat):List W:=if k≤16 then(words b).take k else Fm (words b) (k - 16)
def schedule.L0.aq:schedule.L0.D→Prop:=fun(b,t8,n2)=>64≤b.length∧∃k:Nat,k≤64∧t8=k∧n2=oR (oz b k)
def schedule.L0.F:schedule.L0.D→schedule.L0.Y:=fun(b,t8,n2)=>wl (sched b)
def schedule.aq:schedule.D→Prop:=fun b=>64≤b.length
def schedule.F:schedule.D→schedule.Y:=fun b=>wl (sched b)
noncomputable def schedule.G:dU:=eZ (P:=Tryz.prog) [binary.sg,de.sg]
noncomputable def schedule.L0.E:=cf.cD schedule.L0.st schedule.L0.aq schedule.L0.add schedule.L0.F schedule.L0.out
noncomputable def schedule.L0.call:schedule.L0.D→Option schedule.L0.X:=dL schedule.L0.E schedule.L0.st
noncomputable def schedule.an:eu:= {loops:=ki [(2,{bu:=[0,2,8],sites:=[2]})],outs:=kh [(2,{bu:=[2],sites:=[2]},{bu:=[2]})],gq:=lv [(2,schedule.L0.E)]}
noncomputable def schedule.A:= @cq Tryz.prog schedule.G schedule.an 0 Tryz.f173 _ schedule.st
abbrev schedule.Ok:=cr @schedule.A schedule.aq schedule.add schedule.F schedule.out
noncomputable def schedule.L0.R:= @cM Tryz.prog schedule.G schedule.an 0 Tryz.f173 0 _ schedule.L0.st
abbrev schedule.L0.Ok:=fk Tryz.prog schedule.G schedule.an 0 Tryz.f173 0 schedule.L0.st schedule.L0.aq schedule.L0.add schedule.L0.F schedule.L0.out
theorem schedule.L0.run:bD schedule.L0.call schedule.L0.aq schedule.L0.add schedule.L0.F:=fy (fx [.d tB,.d ti,.d (.slice (.int .u32))] fun _=>by kernel_rfl)
theorem schedule.L0.aE:fY @schedule.L0.R schedule.L0.st schedule.L0.aq schedule.L0.add schedule.L0.F schedule.L0.bK schedule.L0.Ok:=gj
theorem schedule.L0.step{R:Type}(b_2:Bs)(t8:Int)(n2:(List Int))(kn:AS→Option R)(kx:Exit→AS→Option R):schedule.L0.R (b_2,t8,n2) kn kx=
  aD ((gM t8 (64:Int))) (
   aD ((gM t8 (16:Int))) (
    aD (inc (eK .i64 (4:Int) t8) (((List.length b_2):Nat):Int)) (
    ab (binary.call (cut b_2 (Int.toNat (eK .i64 (4:Int) t8)) ((List.length b_2) - (Int.toNat (eK .i64 (4:Int) t8))))) fun x1=>
    aD (dZ t8 (64:Int)) (
    aD (decide ((Int.toNat t8) < (List.length n2))) (
    aD (decide ((((Int.toNat t8)*1)+0)=(0+((Int.toNat t8)*1)))) (
    aD (decide ((Int.toNat t8) < (List.length n2))) (
    kn (schedule.L0.st (b_2,(bo .i64 t8 (1:Int)),(List.set n2 (Int.toNat t8) x1)))) none) none) none) none) none) (
    aD (dZ (bV .i64 t8 (15:Int)) (64:Int)) (
    aD (decide ((Int.toNat (bV .i64 t8 (15:Int))) < (List.length n2))) (
    aD (decide ((((Int.toNat (bV .i64 t8 (15:Int)))*1)+0)=(0+((Int.toNat (bV .i64 t8 (15:Int)))*1)))) (
    aD (dZ (bV .i64 t8 (2:Int)) (64:Int)) (
    aD (decide ((Int.toNat (bV .i64 t8 (2:Int))) < (List.length n2))) (
    aD (decide ((((Int.toNat (bV .i64 t8 (2:Int)))*1)+0)=(0+((Int.toNat (bV .i64 t8 (2:Int)))*1)))) (
    ab (de.call ((nth (.int .u32) n2 (Int.toNat (bV .i64 t8 (15:Int)))),(-7:Int))) fun x2=>
    ab (de.call ((nth (.int .u32) n2 (Int.toNat (bV .i64 t8 (15:Int)))),(-18:Int))) fun x3=>
    ab (de.call ((nth (.int .u32) n2 (Int.toNat (bV .i64 t8 (2:Int)))),(-17:Int))) fun x4=>
    ab (de.call ((nth (.int .u32) n2 (Int.toNat (bV .i64 t8 (2:Int)))),(-19:Int))) fun x5=>
    aD (dZ (bV .i64 t8 (16:Int)) (64:Int)) (
    aD (decide ((Int.toNat (bV .i64 t8 (16:Int))) < (List.length n2))) (
    aD (decide ((((Int.toNat (bV .i64 t8 (16:Int)))*1)+0)=(0+((Int.toNat (bV .i64 t8 (16:Int)))*1)))) (
    aD (dZ (bV .i64 t8 (7:Int)) (64:Int)) (
    aD (decide ((Int.toNat (bV .i64 t8 (7:Int))) < (List.length n2))) (
    aD (decide ((((Int.toNat (bV .i64 t8 (7:Int)))*1)+0)=(0+((Int.toNat (bV .i64 t8 (7:Int)))*1)))) (
    aD (dZ t8 (64:Int)) (
    aD (decide ((Int.toNat t8) < (List.length n2))) (
    aD (decide ((((Int.toNat t8)*1)+0)=(0+((Int.toNat t8)*1)))) (
    aD (decide ((Int.toNat t8) < (List.length n2))) (
    kn (schedule.L0.st (b_2,(bo .i64 t8 (1:Int)),(List.set n2 (Int.toNat t8) (bo .u32 (bo .u32 (bo .u32 (nth (.int .u32) n2 (Int.toNat (bV .i64 t8 (16:Int)))) (ct .xor .u32 (ct .xor .u32 x2 x3) (bW .u32 (nth (.int .u32) n2 (Int.toNat (bV .i64 t8 (15:Int)))) (3:Int)))) (nth (.int .u32) n2 (Int.toNat (bV .i64 t8 (7:Int))))) (ct .xor .u32 (ct .xor .u32 x4 x5) (bW .u32 (nth (.int .u32) n2 (Int.toNat (bV .i64 t8 (2:Int)))) (10:Int)))))))) none) none) none) none) none) none) none) none) none) none) none) none) none) none) none) none)) (
   kx (schedule.L0.bK n2).1 (schedule.L0.bK n2).2):=by kernel_rfl
theorem schedule.eq{R:Type}(b:Bs)(k:aT→Option R):schedule.A b k=
 ab (schedule.L0.call (b,(0:Int),(List.replicate 64 (0:Int)))) fun x6=>
 k (schedule.out x6):=by kernel_rfl
theorem An(b:List Int)(k:Nat)(h:k≤64):(oz b k).length=k:=by
 unfold oz
 split
 ·simp[fb];omega
 ·rw[mP,fb];omega
theorem F4(b:List Int):oz b 64=sched b:=rfl
theorem Dt(b:List Int)(k:Nat)(h:k < 16):oz b (k+1)=oz b k++ [be b k]:=by
 unfold oz
 rw[if_pos (by omega),if_pos (by omega),List.take_succ_eq_append_getElem (by rw[fb];exact h)]
 simp[words]
theorem Fg(b:List Int)(k:Nat)(h:16≤k):oz b (k+1)=ext (oz b k):=by
 unfold oz
 rw[if_neg (by omega)]
 by_cases h16:k=16
 ·subst h16
  rw[if_pos (by omega),List.take_of_length_le (by rw[fb];omega)]
  rfl
 ·rw[if_neg (by omega),show k+1 - 16=(k - 16)+1 by omega]
  rfl
theorem xx(l:List W)(h:l.length≤64):(oR l).length=64:=by simp[oR,wl];omega
theorem pF(l:List W)(i:Nat)(h:i < l.length):nth (.int .u32) (oR l) i=vw (l.getD i 0):=by
 unfold nth oR wl
 rw[List.getD_eq_getElem?_getD,List.getElem?_append_left (by simpa using h)]
 simp[h]
theorem wz(l:List W)(w:W)(h:l.length < 64):(oR l).set l.length (vw w)=oR (l++ [w]):=by
 unfold oR wl
 rw[List.set_append_right _ _ (by simp)]
 simp only[List.length_map,Nat.sub_self,List.map_append,List.length_append,List.length_cons,List.length_nil]
 rw[show 64 - l.length=(64 - (l.length+(0+1)))+1 by omega,List.replicate_succ,List.set_cons_zero]
 simp
theorem Aw(l:List W)(h:l.length=64):oR l=wl l:=by simp[oR,h]
theorem GG(b:List Int)(k:Nat)(h:4*k+4≤b.length):HR ((cut b (4*k) (b.length - 4*k)).getD 0 0) ((cut b (4*k) (b.length - 4*k)).getD 1 0) ((cut b (4*k) (b.length - 4*k)).getD 2 0) ((cut b (4*k) (b.length - 4*k)).getD 3 0)=be b k:=by
 have e:∀j,j < 4→(cut b (4*k) (b.length - 4*k)).getD j 0=b.getD (4*k+j) 0:=fun j hj=>by
  unfold cut
  rw[List.getD_eq_getElem?_getD,List.getD_eq_getElem?_getD,List.getElem?_take_of_lt (by omega),List.getElem?_drop]
 unfold be
 rw[e 0 (by omega),e 1 (by omega),e 2 (by omega),e 3 (by omega),Nat.add_zero]
theorem schedule.L0.ok:schedule.L0.Ok:=by
 refine schedule.L0.aE (fun(b,t8,n2)=>64 - t8.toNat) ?_
 rintro⟨b,t8,n2⟩ ⟨hb,k,hk,rfl,rfl⟩
 have hwl:=An b k hk
 have hal:=xx (oz b k) (by omega)
 by_cases h:k < 64
 ·left
  refine⟨(b,((k+1:Nat):Int),oR (oz b (k+1))),⟨hb,k+1,by omega,rfl,rfl⟩,by simp;omega,rfl,fun kn kx=> ?_⟩
  have e1:bo .i64 (k:Int) 1=((k+1:Nat):Int):=by rw[cR (by omega) (by omega)];omega
  have e2:Int.toNat (k:Int)=k:=by omega
  rw[schedule.L0.step,bB (by omega)]
  simp only[ah,e1,e2,hal,Nat.mul_one,Nat.zero_add,Nat.add_zero,decide_true]
  by_cases h16:k < 16
  ·have e3:eK .i64 4 (k:Int)=((4*k:Nat):Int):=by rw[iw (by omega) (by omega)];omega
   have e4:Int.toNat ((4*k:Nat):Int)=4*k:=by omega
   rw[bB (by omega),e3,ko (by omega) (by omega),e4,bz (by omega) (by omega),aL h]
   have hp:binary.aq (cut b (4*k) (b.length - 4*k)):=by
    show 4≤_
    rw[nY (by omega)];omega
   simp only[ah,binary.run hp,aa]
   have e5:binary.add (cut b (4*k) (b.length - 4*k)) (binary.F (cut b (4*k) (b.length - 4*k)))=vw (be b k):=by
    show vw (HR _ _ _ _)=_
    rw[GG b k (by omega)]
   have e6:=wz (oz b k) (be b k) (by omega)
   rw[hwl]at e6
   rw[e5,e6,Dt b k h16]
  ·have a15:Int.toNat (bV .i64 (k:Int) 15)=k - 15:=by rw[fi (by omega) (by omega)];omega
   have a2:Int.toNat (bV .i64 (k:Int) 2)=k - 2:=by rw[fi (by omega) (by omega)];omega
   have a16:Int.toNat (bV .i64 (k:Int) 16)=k - 16:=by rw[fi (by omega) (by omega)];omega
   have a7:Int.toNat (bV .i64 (k:Int) 7)=k - 7:=by rw[fi (by omega) (by omega)];omega
   have i15:dZ (bV .i64 (k:Int) 15) 64=true:=bz (by rw[fi (by omega) (by omega)];omega) (by rw[fi (by omega) (by omega)];omega)
   have i2:dZ (bV .i64 (k:Int) 2) 64=true:=bz (by rw[fi (by omega) (by omega)];omega) (by rw[fi (by omega) (by omega)];omega)
   have i16:dZ (bV .i64 (k:Int) 16) 64=true:=bz (by rw[fi (by omega) (by omega)];omega) (by rw[fi (by omega) (by omega)];omega)
   have i7:dZ (bV .i64 (k:Int) 7) 64=true:=bz (by rw[fi (by omega) (by omega)];omega) (by rw[fi (by omega) (by omega)];omega)
   have i0:dZ (k:Int) 64=true:=bz (by omega) (by omega)
   have d15:decide (k - 15 < 64)=true:=aL (by omega)
   have d2:decide (k - 2 < 64)=true:=aL (by omega)
   have d16:decide (k - 16 < 64)=true:=aL (by omega)
   have d7:decide (k - 7 < 64)=true:=aL (by omega)
   have d0:decide (k < 64)=true:=aL h
   rw[bk (by omega)]
   simp only[ah,ae,a15,a2,a16,a7,i15,i2,i16,i7,i0,d15,d2,d16,d7,d0,pF (oz b k) (k - 15) (by omega),pF (oz b k) (k - 2) (by omega),pF (oz b k) (k - 16) (by omega),pF (oz b k) (k - 7) (by omega),de.at,aa,jr,pc,nM]
   have e6:=wz (oz b k) (Gp (oz b k) k) (by omega)
   rw[hwl]at e6
   rw[Fg b k (by omega),ext,hwl,←e6]
   rfl
 ·right
  obtain rfl:k=64:=by omega
  intro R kn kx
  rw[schedule.L0.step,bk (by omega),Aw _ hwl,F4]
  simp only[ae,schedule.L0.add,schedule.L0.F]
theorem schedule.ok:schedule.Ok:=by
 intro b hb
 have hp:schedule.L0.aq (b,0,List.replicate 64 0):=⟨hb,0,by omega,rfl,rfl⟩
 rw[schedule.eq,schedule.L0.run hp]
 simp only[aa,schedule.L0.add,schedule.L0.F,schedule.add,schedule.F]
noncomputable def schedule.E:=Entry.cD [some tB] schedule.st schedule.aq schedule.add schedule.F schedule.out
noncomputable def schedule.call:schedule.D→Option schedule.X:=bC schedule.E schedule.st
theorem schedule.run:bD schedule.call schedule.aq schedule.add schedule.F:=cw (cv [.d tB] fun _=>by kernel_rfl)
noncomputable def schedule.sg:SG Tryz.prog:=⟨173,aK,schedule.E,.fn 1 (by kernel_rfl) schedule.ok (And.intro (.cD schedule.L0.ok (by kernel_rfl)) trivial)⟩
set_option synthInstance.maxSize 5000
abbrev mix.L0.D:=(List Int)×Int×(List Int)×(List Int)×(List Int)×(List Int)
def mix.L0.st:mix.L0.D→AS:=fun(h_2,t18,n4,n5,n6,n7)=>⟨([.undef,.undef,.fj (.arr 8 (.int .u32)) h_2,.undef,.ptr (.new 4 0) 0 [] 0,.ptr (.new 5 0) 0 [] 0,.ptr (.new 6 0) 0 [] 0,.ptr (.new 7 0) 0 [] 0]++bw 10 ([.d ti t18]++bw 98 [])),[],(cC 4 ([[.obj 0 false (.d (.arr 8 (.int .u32)) n4)],[.obj 0 false (.d (.arr 64 (.int .u32)) n5)],[.obj 0 false (.d (.arr 64 (.int .u32)) n6)],[.obj 0 false (.d (.arr 8 (.int .u32)) n7)]]++cC 109 []))⟩
abbrev mix.L0.Y0:=(List Int)
abbrev mix.L0.X0:=((List Int)×(List Int))×((List Int))
def mix.L0.bK:mix.L0.X0→Exit×AS:=fun x=>(.exit 0,⟨([.undef,.undef,.fj (.arr 8 (.int .u32)) x.1.1,.undef,.ptr (.new 4 0) 0 [] 0,.undef,.undef,.ptr (.new 7 0) 0 [] 0]++bw 109 []),[],(cC 4 ([[.obj 0 false (.d (.arr 8 (.int .u32)) x.1.2)],[],[],[.obj 0 false (.d (.arr 8 (.int .u32)) x.2)]]++cC 109 []))⟩)
abbrev mix.L0.X:=mix.L0.X0
abbrev mix.L0.Y:=mix.L0.Y0
def mix.L0.out:mix.L0.X→Out (Exit×AS):=fun x=> .ok (mix.L0.bK x)
def mix.L0.add:mix.L0.D→mix.L0.Y→mix.L0.X:=fun(h_2,t18,n4,n5,n6,n7) y=>((h_2,n4),y)
abbrev mix.L1.D:=(List Int)×Int×(List Int)×(List Int)
def mix.L1.st:mix.L1.D→AS:=fun(h_3,t104,n4_2,n7_2)=>⟨([.undef,.undef,.fj (.arr 8 (.int .u32)) h_3,.undef,.ptr (.new 4 0) 0 [] 0,.undef,.undef,.ptr (.new 7 0) 0 [] 0]++bw 96 ([.d ti t104]++bw 12 [])),[],(cC 4 ([[.obj 0 false (.d (.arr 8 (.int .u32)) n4_2)],[],[],[.obj 0 false (.d (.arr 8 (.int .u32)) n7_2)]]++cC 109 []))⟩
abbrev mix.L1.Y0:=(List Int)
abbrev mix.L1.X0:=((List Int))×((List Int))
def mix.L1.bK:mix.L1.X0→Exit×AS:=fun x=>(.exit 2,⟨(bw 4 ([.ptr (.new 4 0) 0 [] 0,.undef,.undef,.ptr (.new 7 0) 0 [] 0]++bw 109 [])),[],(cC 4 ([[.obj 0 false (.d (.arr 8 (.int .u32)) x.1)],[],[],[.obj 0 false (.d (.arr 8 (.int .u32)) x.2)]]++cC 109 []))⟩)
abbrev mix.L1.X:=mix.L1.X0
abbrev mix.L1.Y:=mix.L1.Y0
def mix.L1.out:mix.L1.X→Out (Exit×AS):=fun x=> .ok (mix.L1.bK x)
def mix.L1.add:mix.L1.D→mix.L1.Y→mix.L1.X:=fun(h_3,t104,n4_2,n7_2) y=>(n4_2,y)
abbrev mix.D:=(List Int)×Bs
def mix.st:mix.D→SA:=fun(h,b)=>([.d (.arr 8 (.int .u32)) h,.d tB b],[])
abbrev mix.Y:=(List Int)
abbrev mix.X:=(List Int)
def mix.out:mix.X→aT:=fun x=>⟨.d (.arr 8 (.int .u32)) x,[],[]⟩
def mix.add:mix.D→mix.Y→mix.X:=fun(h,b) y=>y
def yo(l:List Int):St:=⟨BitVec.ofInt 32 (l.getD 0 0),BitVec.ofInt 32 (l.getD 1 0),BitVec.ofInt 32 (l.getD 2 0),BitVec.ofInt 32 (l.getD 3 0),BitVec.ofInt 32 (l.getD 4 0),BitVec.ofInt 32 (l.getD 5 0),BitVec.ofInt 32 (l.getD 6 0),BitVec.ofInt 32 (l.getD 7 0)⟩
theorem iV(s:St):yo s.l=s:=by
 obtain⟨a,b,c,d,e,f,g,h⟩:=s
 simp[yo,St.l,kD]
def Fa(l:List Int):List W:=l.map (BitVec.ofInt 32)
theorem ow(l:List W):Fa (wl l)=l:=by
 unfold Fa wl
 rw[List.map_map]
 have:(BitVec.ofInt 32∘vw)=(id:W→W):=by funext w;exact kD w
 rw[this,List.map_id]
def mix.L0.aq:mix.L0.D→Prop:=fun(h,t,n4,n5,n6,n7)=>∃(s:St) (ws:List W) (k:Nat),h=s.l∧n5=wl ws∧ws.length=64∧k≤64∧t=k∧n6=sH∧n7=(rounds ws s k).l
def mix.L0.F:mix.L0.D→mix.L0.Y:=fun(h,t,n4,n5,n6,n7)=>(rounds (Fa n5) (yo h) 64).l
def mix.L1.aq:mix.L1.D→Prop:=fun(h,t,n4,n7)=>n7.length=8∧∃k:Nat,k≤8∧t=k
def mix.L1.F:mix.L1.D→mix.L1.Y:=fun(h,t,n4,n7)=>from_ (fun i x=>bo .u32 x (nth (.int .u32) h i)) t.toNat n7
def mix.aq:mix.D→Prop:=fun(h,b)=>(∃s:St,h=s.l)∧64≤b.length
def mix.F:mix.D→mix.Y:=fun(h,b)=>(sL (yo h) b).l
noncomputable def mix.G:dU:=eZ (P:=Tryz.prog) [schedule.sg,table.sg,de.sg]
noncomputable def mix.L0.E:=cf.cD mix.L0.st mix.L0.aq mix.L0.add mix.L0.F mix.L0.out
noncomputable def mix.L0.call:mix.L0.D→Option mix.L0.X:=dL mix.L0.E mix.L0.st
noncomputable def mix.L1.E:=cf.cD mix.L1.st mix.L1.aq mix.L1.add mix.L1.F mix.L1.out
noncomputable def mix.L1.call:mix.L1.D→Option mix.L1.X:=dL mix.L1.E mix.L1.st
noncomputable def mix.an:eu:= {loops:=ki [(4,{bu:=[2,4,5,6,7,18],sites:=[4,5,6,7]}),(13,{bu:=[2,4,7,104],sites:=[4,7]})],outs:=kh [(4,{bu:=[2,4,7],sites:=[4,7]},{bu:=[4]}),(13,{bu:=[4,7],sites:=[4,7]},{bu:=[4]})],gq:=lv [(4,mix.L0.E),(13,mix.L1.E)]}
noncomputable def mix.A:= @cq Tryz.prog mix.G mix.an 0 Tryz.f148 _ mix.st
abbrev mix.Ok:=cr @mix.A mix.aq mix.add mix.F mix.out
noncomputable def mix.L0.R:= @cM Tryz.prog mix.G mix.an 0 Tryz.f148 0 _ mix.L0.st
abbrev mix.L0.Ok:=fk Tryz.prog mix.G mix.an 0 Tryz.f148 0 mix.L0.st mix.L0.aq mix.L0.add mix.L0.F mix.L0.out
noncomputable def mix.L1.R:= @cM Tryz.prog mix.G mix.an 0 Tryz.f148 1 _ mix.L1.st
abbrev mix.L1.Ok:=fk Tryz.prog mix.G mix.an 0 Tryz.f148 1 mix.L1.st mix.L1.aq mix.L1.add mix.L1.F mix.L1.out
theorem mix.L0.run:bD mix.L0.call mix.L0.aq mix.L0.add mix.L0.F:=fy (fx [.d (.arr 8 (.int .u32)),.d ti,.d (.slice (.int .u32)),.d (.slice (.int .u32)),.d (.slice (.int .u32)),.d (.slice (.int .u32))] fun _=>by kernel_rfl)
theorem mix.L0.aE:fY @mix.L0.R mix.L0.st mix.L0.aq mix.L0.add mix.L0.F mix.L0.bK mix.L0.Ok:=gj
theorem mix.L0.step{R:Type}(h_2:(List Int))(t18:Int)(n4:(List Int))(n5:(List Int))(n6:(List Int))(n7:(List Int))(kn:AS→Option R)(kx:Exit→AS→Option R):mix.L0.R (h_2,t18,n4,n5,n6,n7) kn kx=
  aD ((gM t18 (64:Int))) (
   aD (decide (4 < (List.length n7))) (
   ab (de.call ((nth (.int .u32) n7 4),(-6:Int))) fun x1=>
   aD (decide (4 < (List.length n7))) (
   ab (de.call ((nth (.int .u32) n7 4),(-11:Int))) fun x2=>
   aD (decide (4 < (List.length n7))) (
   ab (de.call ((nth (.int .u32) n7 4),(-25:Int))) fun x3=>
   aD (decide (7 < (List.length n7))) (
   aD (decide (6 < (List.length n7))) (
   aD (decide (4 < (List.length n7))) (
   aD (decide (5 < (List.length n7))) (
   aD (decide (6 < (List.length n7))) (
   aD (dZ t18 (64:Int)) (
   aD (decide ((Int.toNat t18) < (List.length n6))) (
   aD (decide ((((Int.toNat t18)*1)+0)=(0+((Int.toNat t18)*1)))) (
   aD (dZ t18 (64:Int)) (
   aD (decide ((Int.toNat t18) < (List.length n5))) (
   aD (decide ((((Int.toNat t18)*1)+0)=(0+((Int.toNat t18)*1)))) (
   aD (decide (0 < (List.length n7))) (
   ab (de.call ((nth (.int .u32) n7 0),(-2:Int))) fun x4=>
   aD (decide (0 < (List.length n7))) (
   ab (de.call ((nth (.int .u32) n7 0),(-13:Int))) fun x5=>
   aD (decide (0 < (List.length n7))) (
   ab (de.call ((nth (.int .u32) n7 0),(-22:Int))) fun x6=>
   aD (decide (0 < (List.length n7))) (
   aD (decide (1 < (List.length n7))) (
   aD (decide (2 < (List.length n7))) (
   aD (decide (0 < (List.length n7))) (
   aD (decide (1 < (List.length n7))) (
   aD (decide (0 < (List.length n7))) (
   aD (decide (1 < (List.length n7))) (
   aD (decide (2 < (List.length n7))) (
   aD (decide (3 < (List.length n7))) (
   aD (decide (4 < (List.length n7))) (
   aD (decide (5 < (List.length n7))) (
   aD (decide (6 < (List.length n7))) (
   kn (mix.L0.st (h_2,(bo .i64 t18 (1:Int)),n4,n5,n6,[(bo .u32 (bo .u32 (bo .u32 (bo .u32 (bo .u32 (bo .u32 (nth (.int .u32) n7 7) (ct .xor .u32 (ct .xor .u32 x1 x2) x3)) (ct .xor .u32 (nth (.int .u32) n7 6) (ct .and .u32 (nth (.int .u32) n7 4) (ct .xor .u32 (nth (.int .u32) n7 5) (nth (.int .u32) n7 6))))) (nth (.int .u32) n6 (Int.toNat t18))) (nth (.int .u32) n5 (Int.toNat t18))) (ct .xor .u32 (ct .xor .u32 x4 x5) x6)) (ct .or .u32 (ct .and .u32 (nth (.int .u32) n7 0) (nth (.int .u32) n7 1)) (ct .and .u32 (nth (.int .u32) n7 2) (ct .or .u32 (nth (.int .u32) n7 0) (nth (.int .u32) n7 1))))),(nth (.int .u32) n7 0),(nth (.int .u32) n7 1),(nth (.int .u32) n7 2),(bo .u32 (nth (.int .u32) n7 3) (bo .u32 (bo .u32 (bo .u32 (bo .u32 (nth (.int .u32) n7 7) (ct .xor .u32 (ct .xor .u32 x1 x2) x3)) (ct .xor .u32 (nth (.int .u32) n7 6) (ct .and .u32 (nth (.int .u32) n7 4) (ct .xor .u32 (nth (.int .u32) n7 5) (nth (.int .u32) n7 6))))) (nth (.int .u32) n6 (Int.toNat t18))) (nth (.int .u32) n5 (Int.toNat t18)))),(nth (.int .u32) n7 4),(nth (.int .u32) n7 5),(nth (.int .u32) n7 6)]))) none) none) none) none) none) none) none) none) none) none) none) none) none) none) none) none) none) none) none) none) none) none) none) none) none) none) none) none) none) (
   kx (mix.L0.bK ((h_2,n4),n7)).1 (mix.L0.bK ((h_2,n4),n7)).2):=by kernel_rfl
theorem mix.L1.run:bD mix.L1.call mix.L1.aq mix.L1.add mix.L1.F:=fy (fx [.d (.arr 8 (.int .u32)),.d ti,.d (.slice (.int .u32)),.d (.slice (.int .u32))] fun _=>by kernel_rfl)
theorem mix.L1.aE:fY @mix.L1.R mix.L1.st mix.L1.aq mix.L1.add mix.L1.F mix.L1.bK mix.L1.Ok:=gj
theorem mix.L1.step{R:Type}(h_3:(List Int))(t104:Int)(n4_2:(List Int))(n7_2:(List Int))(kn:AS→Option R)(kx:Exit→AS→Option R):mix.L1.R (h_3,t104,n4_2,n7_2) kn kx=
  aD ((gM t104 (8:Int))) (
   aD (dZ t104 (8:Int)) (
   aD (decide ((Int.toNat t104) < (List.length n7_2))) (
   aD (decide ((((Int.toNat t104)*1)+0)=(0+((Int.toNat t104)*1)))) (
   aD (dZ t104 (8:Int)) (
   aD (dZ t104 (8:Int)) (
   aD (decide ((Int.toNat t104) < (List.length n7_2))) (
   aD (decide ((((Int.toNat t104)*1)+0)=(0+((Int.toNat t104)*1)))) (
   aD (decide ((Int.toNat t104) < (List.length n7_2))) (
   kn (mix.L1.st (h_3,(bo .i64 t104 (1:Int)),n4_2,(List.set n7_2 (Int.toNat t104) (bo .u32 (nth (.int .u32) n7_2 (Int.toNat t104)) (nth (.int .u32) h_3 (Int.toNat t104))))))) none) none) none) none) none) none) none) none) (
   kx (mix.L1.bK (n4_2,n7_2)).1 (mix.L1.bK (n4_2,n7_2)).2):=by kernel_rfl
theorem mix.eq{R:Type}(h:(List Int))(b:Bs)(k:aT→Option R):mix.A (h,b) k=
 ab (schedule.call b) fun x1=>
 ab (table.call ()) fun x2=>
 ab (mix.L0.call (h,(0:Int),(List.replicate 8 (0:Int)),x1,x2,h)) fun x9=>
 ab (mix.L1.call (x9.1.1,(0:Int),x9.1.2,x9.2)) fun x10=>
 k (mix.out x10.2):=by kernel_rfl
theorem St.zg(s:St):s.l.length=8:=rfl
theorem th:sH.length=64:=rfl
theorem zf(k:Nat)(h:k < 64):nth (.int .u32) sH k=vw (kw k):=by
 have hh:∀k:Fin 64,nth (.int .u32) sH k.val=vw (kw k.val):=by decide+kernel
 exact hh ⟨k,h⟩
theorem s9(ws:List W)(k:Nat)(h:k < ws.length):nth (.int .u32) (wl ws) k=vw (ws.getD k 0):=by
 unfold nth wl
 simp[h]
theorem JE(w:W):rl w ((-6:Int)%32).toNat=ld w 6:=rfl
theorem I1(w:W):rl w ((-11:Int)%32).toNat=ld w 11:=rfl
theorem I4(w:W):rl w ((-25:Int)%32).toNat=ld w 25:=rfl
theorem JD(w:W):rl w ((-2:Int)%32).toNat=ld w 2:=rfl
theorem I2(w:W):rl w ((-13:Int)%32).toNat=ld w 13:=rfl
theorem I3(w:W):rl w ((-22:Int)%32).toNat=ld w 22:=rfl
theorem n0(s:St):nth (.int .u32) s.l 0=vw s.a:=rfl
theorem n1(s:St):nth (.int .u32) s.l 1=vw s.b:=rfl
theorem n2(s:St):nth (.int .u32) s.l 2=vw s.c:=rfl
theorem n3(s:St):nth (.int .u32) s.l 3=vw s.d:=rfl
theorem n4(s:St):nth (.int .u32) s.l 4=vw s.e:=rfl
theorem n5(s:St):nth (.int .u32) s.l 5=vw s.f:=rfl
theorem n6(s:St):nth (.int .u32) s.l 6=vw s.g:=rfl
theorem n7(s:St):nth (.int .u32) s.l 7=vw s.h:=rfl
theorem mix.L0.ok:mix.L0.Ok:=by
 refine mix.L0.aE (fun(h,t,n4,n5,n6,n7)=>64 - t.toNat) ?_
 rintro⟨h,t,m4,m5,m6,m7⟩ ⟨s,ws,k,rfl,rfl,hw,hk,rfl,rfl,rfl⟩
 by_cases hlt:k < 64
 ·left
  refine⟨(s.l,((k+1:Nat):Int),m4,wl ws,sH,(rounds ws s (k+1)).l),⟨s,ws,k+1,rfl,rfl,hw,by omega,rfl,rfl,rfl⟩,by simp;omega,rfl,fun kn kx=> ?_⟩
  have e1:bo .i64 (k:Int) 1=((k+1:Nat):Int):=by rw[cR (by omega) (by omega)];omega
  have e2:Int.toNat (k:Int)=k:=by omega
  have hwl:(wl ws).length=64:=by simp[wl,hw]
  have d0:decide (k < 64)=true:=aL hlt
  have i0:dZ (k:Int) 64=true:=bz (by omega) (by omega)
  rw[mix.L0.step,bB (by omega)]
  generalize hv:rounds ws s k=v
  simp only[e1,e2,Nat.mul_one,Nat.zero_add,Nat.add_zero,decide_true,ah,St.zg,Nat.reduceLT,th,hwl,d0,i0,n0,n1,n2,n3,n4,n5,n6,n7,de.at,aa,zf k hlt,s9 ws k (by omega),jr,nM,JE,I1,I4,JD,I2,I3]
  show kn _=kn (mix.L0.st (s.l,((k+1:Nat):Int),m4,wl ws,sH,(I5 (rounds ws s k) (kw k) (ws.getD k 0)).l))
  rw[hv]
  rfl
 ·right
  obtain rfl:k=64:=by omega
  intro R kn kx
  rw[mix.L0.step,bk (by omega)]
  simp only[ae,mix.L0.add,mix.L0.F,ow,iV]
theorem mix.L1.ok:mix.L1.Ok:=by
 refine mix.L1.aE (fun(h,t,n4,n7)=>8 - t.toNat) ?_
 rintro⟨h,t,m4,m7⟩ ⟨hl,k,hk,rfl⟩
 have hl:m7.length=8:=hl
 have e2:Int.toNat (k:Int)=k:=by omega
 have e3:Int.toNat ((k+1:Nat):Int)=k+1:=by omega
 by_cases hlt:k < 8
 ·left
  have e1:bo .i64 (k:Int) 1=((k+1:Nat):Int):=by rw[cR (by omega) (by omega)];omega
  have hn:nth (.int .u32) m7 k=m7[k]:=dS (t:= .int .u32) (by omega)
  refine⟨(h,((k+1:Nat):Int),m4,m7.set k (bo .u32 m7[k] (nth (.int .u32) h k))),⟨by simpa using hl,k+1,by omega,rfl⟩,by simp;omega,?_,fun kn kx=> ?_⟩
  ·simp only[mix.L1.add,mix.L1.F,e2,e3]
   rw[pI (fun i x=>bo .u32 x (nth (.int .u32) h i)) m7 k (by omega)]
  ·have d0:decide (k < 8)=true:=aL hlt
   have i0:dZ (k:Int) 8=true:=bz (by omega) (by omega)
   rw[mix.L1.step,bB (by omega)]
   simp only[e1,e2,Nat.mul_one,Nat.zero_add,Nat.add_zero,decide_true,ah,hl,d0,i0,hn]
 ·right
  obtain rfl:k=8:=by omega
  intro R kn kx
  rw[mix.L1.step,bk (by omega)]
  simp only[ae,mix.L1.add,mix.L1.F,e2]
  rw[qZ _ _ _ (by omega)]
theorem mix.ok:mix.Ok:=by
 rintro⟨h,b⟩ ⟨⟨s,rfl⟩,hb⟩
 have hs:schedule.aq b:=hb
 have hsl:(sched b).length=64:=by unfold sched;rw[mP,fb]
 have hp:mix.L0.aq (s.l,0,List.replicate 8 0,wl (sched b),sH,s.l):=⟨s,sched b,0,rfl,rfl,hsl,by omega,rfl,rfl,rfl⟩
 rw[mix.eq,schedule.run hs]
 simp only[aa,table.run (d:=()) trivial,schedule.add,schedule.F,table.add,table.F,mix.L0.run hp,mix.L0.add,mix.L0.F,ow,iV]
 have hp1:mix.L1.aq (s.l,0,List.replicate 8 0,(rounds (sched b) s 64).l):=⟨rfl,0,by omega,rfl⟩
 simp only[mix.L1.run hp1,aa,mix.L1.add,mix.L1.F,mix.add,mix.F,iV]
 unfold sL
 generalize rounds (sched b) s 64=v
 obtain⟨a1,b1,c1,d1,f1,g1,h1,i1⟩:=v
 simp only[St.l,from_,List.mapIdx_cons,List.mapIdx_nil,Int.toNat_zero,Nat.not_lt_zero,if_false,Nat.zero_add,Nat.reduceAdd]
 simp only[nth,List.getD_cons_zero,List.getD_cons_succ,nM]
noncomputable def mix.E:=Entry.cD [some (.arr 8 (.int .u32)),some tB] mix.st mix.aq mix.add mix.F mix.out
noncomputable def mix.call:mix.D→Option mix.X:=bC mix.E mix.st
theorem mix.run:bD mix.call mix.aq mix.add mix.F:=cw (cv [.d (.slice (.int .u32)),.d tB] fun _=>by kernel_rfl)
noncomputable def mix.sg:SG Tryz.prog:=⟨148,aK,mix.E,.fn 2 (by kernel_rfl) mix.ok (And.intro (.cD mix.L0.ok (by kernel_rfl)) (And.intro (.cD mix.L1.ok (by kernel_rfl)) trivial))⟩
set_option synthInstance.maxSize 5000
theorem j9(n:Int)(k:Int)(h0:0≤k)(h1:k≤64):dG .u8 (bW .i64 n k)=n / 2^k.toNat%256:=by
 rw[uH,gL,bW]
 have e:min k.toNat IntKind.i64.bits=k.toNat:=by simp only[IntKind.bits];omega
 rw[e,Int.fdiv_eq_ediv_of_nonneg _ (Int.le_of_lt (Int.pow_pos (by omega)))]
 rfl
theorem nQ{n:Nat}(h:n≤140737488355328):dK n 1=true:=eR (by omega) (by omega)
abbrev dx.D:=Bs
def dx.st:dx.D→SA:=fun sv=>([.d tB sv],[])
abbrev dx.Y:=Nat×(List Int)
abbrev dx.X:=Nat×(List Int)
def dx.out:dx.X→aT:=fun x=>⟨.cT (.new 0 0) 0 [] 0 0 x.1,[],[.obj 0 false (.vec 5 tb x.2)]⟩
def dx.add:dx.D→dx.Y→dx.X:=fun sv y=>y
def dx.aq:dx.D→Prop:=fun b=>b.length≤140737488355328
def dx.F:dx.D→dx.Y:=fun b=>(b.length,b)
noncomputable def dx.G:dU:=eZ (P:=Tryz.prog) []
noncomputable def dx.an:eu:= {bZ:=[5],j6:=[⟨2,[],5,135⟩]}
noncomputable def dx.A:= @cq Tryz.prog dx.G dx.an 0 Tryz.f146 _ dx.st
abbrev dx.Ok:=cr @dx.A dx.aq dx.add dx.F dx.out
theorem dx.eq{R:Type}(sv:Bs)(k:aT→Option R):dx.A sv k=
  aD (decide (0 < (List.length sv))) (
   aD (dK (0+(List.length sv)) 1) (
   k (dx.out ((0+(List.length sv)),((List.take 0 (List.replicate 0 (0:Int)))++sv)))) none) (
   nd (
    k (dx.out (0,([]:List Int)))) (
    aD (dK (0+(List.length sv)) 1) (
    k (dx.out ((0+(List.length sv)),((List.take 0 (List.replicate 0 (0:Int)))++sv)))) none)):=by kernel_rfl
theorem dx.ok:dx.Ok:=by
 intro b hb
 have hr:dK b.length 1=true:=nQ hb
 rw[dx.eq]
 have e0:(List.take 0 (List.replicate 0 0):List Int)=[]:=rfl
 simp only[Nat.zero_add,hr,ah,e0,List.nil_append,dx.add,dx.F]
 by_cases h:0 < b.length
 ·simp only[aL h,ah]
 ·have:b=[]:=List.eq_nil_of_length_eq_zero (by omega)
  subst this
  simp only[List.length_nil,pO,bN (Nat.lt_irrefl 0),ae]
noncomputable def dx.E:=Entry.cD [some tB] dx.st dx.aq dx.add dx.F dx.out
noncomputable def dx.call:dx.D→Option dx.X:=bC dx.E dx.st
theorem dx.run:bD dx.call dx.aq dx.add dx.F:=cw (cv [.d tB] fun _=>by kernel_rfl)
noncomputable def dx.sg:SG Tryz.prog:=⟨146,aK,dx.E,.fn 0 (by kernel_rfl) dx.ok trivial⟩
abbrev eV.D:=Int
def eV.st:eV.D→SA:=fun n=>([.dQ,.d ti n],[])
abbrev eV.Y:=Nat×(List Int)
abbrev eV.X:=Nat×(List Int)
def eV.out:eV.X→aT:=fun x=>⟨.cT (.new 0 0) 0 [] 0 0 x.1,[],[.obj 0 false (.vec 5 tb x.2)]⟩
def eV.add:eV.D→eV.Y→eV.X:=fun n y=>y
def eV.aq:eV.D→Prop:=fun _=>True
def eV.F:eV.D→eV.Y:=fun n=>(8,iA n)
noncomputable def eV.G:dU:=eZ (P:=Tryz.prog) []
noncomputable def eV.an:eu:= {loops:=ki [(2,{bu:=[0,1,5],sites:=[16]})],outs:=kh [(2,{bu:=[0],sites:=[16]},{bu:=[4],sites:=[16]})],j6:=[⟨4,[],16,135⟩]}
noncomputable def eV.A:= @cq Tryz.prog eV.G eV.an 12 Tryz.f105 _ eV.st
abbrev eV.Ok:=cr @eV.A eV.aq eV.add eV.F eV.out
theorem eV.eq{R:Type}(n:Int)(k:aT→Option R):eV.A n k=
 k (eV.out (8,[(dG .u8 (bW .i64 n (56:Int))),(dG .u8 (bW .i64 n (48:Int))),(dG .u8 (bW .i64 n (40:Int))),(dG .u8 (bW .i64 n (32:Int))),(dG .u8 (bW .i64 n (24:Int))),(dG .u8 (bW .i64 n (16:Int))),(dG .u8 (bW .i64 n (8:Int))),(dG .u8 (bW .i64 n (0:Int)))])):=by kernel_rfl
theorem Ax(n:Int): [dG .u8 (bW .i64 n 56),dG .u8 (bW .i64 n 48),dG .u8 (bW .i64 n 40),dG .u8 (bW .i64 n 32),dG .u8 (bW .i64 n 24),dG .u8 (bW .i64 n 16),dG .u8 (bW .i64 n 8),dG .u8 (bW .i64 n 0)]=iA n:=by
 rw[j9 n 56 (by omega) (by omega),j9 n 48 (by omega) (by omega),j9 n 40 (by omega) (by omega),j9 n 32 (by omega) (by omega),j9 n 24 (by omega) (by omega),j9 n 16 (by omega) (by omega),j9 n 8 (by omega) (by omega),j9 n 0 (by omega) (by omega)]
 simp[iA]
theorem eV.ok:eV.Ok:=by
 intro n _
 rw[eV.eq,Ax]
 rfl
noncomputable def eV.E:=Entry.cD [none,some ti] eV.st eV.aq eV.add eV.F eV.out
noncomputable def eV.call:eV.D→Option eV.X:=bC eV.E eV.st
theorem eV.run:bD eV.call eV.aq eV.add eV.F:=cw (cv [.d ti] fun _=>by kernel_rfl)
noncomputable def eV.sg:SG Tryz.prog:=⟨105,C6,eV.E,.fn 1 (by kernel_rfl) eV.ok (And.intro (.none (by kernel_rfl)) trivial)⟩
abbrev eh.D:=Nat×Int×Bs
def eh.st:eh.D→SA:=fun(bL,n,o0)=>([.cT (.dI 0) 0 [] 0 0 bL,.d ti n],[.obj 0 false (.vec 5 tb o0)])
abbrev eh.Y:=Nat×(List Int)
abbrev eh.X:=Nat×(List Int)
def eh.out:eh.X→aT:=fun x=>⟨.cT (.dI 0) 8 [] 0 0 x.1,[.obj 8 false (.vec 5 tb x.2)],[]⟩
def eh.add:eh.D→eh.Y→eh.X:=fun(bL,n,o0) y=>y
def eh.aq:eh.D→Prop:=fun(m,n,l)=>m=l.length∧l.length≤140737488355320
def eh.F:eh.D→eh.Y:=fun(m,n,l)=>(l.length+8,l++iA n)
noncomputable def eh.G:dU:=eZ (P:=Tryz.prog) []
noncomputable def eh.an:eu:= {loops:=ki [(2,{bu:=[0,1,5],sites:=[16]})],outs:=kh [(2,{bu:=[0],sites:=[16]},{bu:=[4],sites:=[16]})]}
noncomputable def eh.A:= @cq Tryz.prog eh.G eh.an 12 Tryz.f105 _ eh.st
abbrev eh.Ok:=cr @eh.A eh.aq eh.add eh.F eh.out
theorem eh.eq{R:Type}(bL:Nat)(n:Int)(o0:Bs)(k:aT→Option R):eh.A (bL,n,o0) k=
 aD (decide (bL≤(List.length o0))) (
 aD (dK (bL+1) 1) (
 aD (decide ((bL+1)≤(List.length ((List.take bL o0)++ [(dG .u8 (bW .i64 n (56:Int)))])))) (
 aD (dK ((bL+1)+1) 1) (
 aD (decide (((bL+1)+1)≤(List.length ((List.take (bL+1) ((List.take bL o0)++ [(dG .u8 (bW .i64 n (56:Int)))]))++ [(dG .u8 (bW .i64 n (48:Int)))])))) (
 aD (dK (((bL+1)+1)+1) 1) (
 aD (decide ((((bL+1)+1)+1)≤(List.length ((List.take ((bL+1)+1) ((List.take (bL+1) ((List.take bL o0)++ [(dG .u8 (bW .i64 n (56:Int)))]))++ [(dG .u8 (bW .i64 n (48:Int)))]))++ [(dG .u8 (bW .i64 n (40:Int)))])))) (
 aD (dK ((((bL+1)+1)+1)+1) 1) (
 aD (decide (((((bL+1)+1)+1)+1)≤(List.length ((List.take (((bL+1)+1)+1) ((List.take ((bL+1)+1) ((List.take (bL+1) ((List.take bL o0)++ [(dG .u8 (bW .i64 n (56:Int)))]))++ [(dG .u8 (bW .i64 n (48:Int)))]))++ [(dG .u8 (bW .i64 n (40:Int)))]))++ [(dG .u8 (bW .i64 n (32:Int)))])))) (
 aD (dK (((((bL+1)+1)+1)+1)+1) 1) (
 aD (decide ((((((bL+1)+1)+1)+1)+1)≤(List.length ((List.take ((((bL+1)+1)+1)+1) ((List.take (((bL+1)+1)+1) ((List.take ((bL+1)+1) ((List.take (bL+1) ((List.take bL o0)++ [(dG .u8 (bW .i64 n (56:Int)))]))++ [(dG .u8 (bW .i64 n (48:Int)))]))++ [(dG .u8 (bW .i64 n (40:Int)))]))++ [(dG .u8 (bW .i64 n (32:Int)))]))++ [(dG .u8 (bW .i64 n (24:Int)))])))) (
 aD (dK ((((((bL+1)+1)+1)+1)+1)+1) 1) (
 aD (decide (((((((bL+1)+1)+1)+1)+1)+1)≤(List.length ((List.take (((((bL+1)+1)+1)+1)+1) ((List.take ((((bL+1)+1)+1)+1) ((List.take (((bL+1)+1)+1) ((List.take ((bL+1)+1) ((List.take (bL+1) ((List.take bL o0)++ [(dG .u8 (bW .i64 n (56:Int)))]))++ [(dG .u8 (bW .i64 n (48:Int)))]))++ [(dG .u8 (bW .i64 n (40:Int)))]))++ [(dG .u8 (bW .i64 n (32:Int)))]))++ [(dG .u8 (bW .i64 n (24:Int)))]))++ [(dG .u8 (bW .i64 n (16:Int)))])))) (
 aD (dK (((((((bL+1)+1)+1)+1)+1)+1)+1) 1) (
 aD (decide ((((((((bL+1)+1)+1)+1)+1)+1)+1)≤(List.length ((List.take ((((((bL+1)+1)+1)+1)+1)+1) ((List.take (((((bL+1)+1)+1)+1)+1) ((List.take ((((bL+1)+1)+1)+1) ((List.take (((bL+1)+1)+1) ((List.take ((bL+1)+1) ((List.take (bL+1) ((List.take bL o0)++ [(dG .u8 (bW .i64 n (56:Int)))]))++ [(dG .u8 (bW .i64 n (48:Int)))]))++ [(dG .u8 (bW .i64 n (40:Int)))]))++ [(dG .u8 (bW .i64 n (32:Int)))]))++ [(dG .u8 (bW .i64 n (24:Int)))]))++ [(dG .u8 (bW .i64 n (16:Int)))]))++ [(dG .u8 (bW .i64 n (8:Int)))])))) (
 aD (dK ((((((((bL+1)+1)+1)+1)+1)+1)+1)+1) 1) (
 k (eh.out (((((((((bL+1)+1)+1)+1)+1)+1)+1)+1),((List.take (((((((bL+1)+1)+1)+1)+1)+1)+1) ((List.take ((((((bL+1)+1)+1)+1)+1)+1) ((List.take (((((bL+1)+1)+1)+1)+1) ((List.take ((((bL+1)+1)+1)+1) ((List.take (((bL+1)+1)+1) ((List.take ((bL+1)+1) ((List.take (bL+1) ((List.take bL o0)++ [(dG .u8 (bW .i64 n (56:Int)))]))++ [(dG .u8 (bW .i64 n (48:Int)))]))++ [(dG .u8 (bW .i64 n (40:Int)))]))++ [(dG .u8 (bW .i64 n (32:Int)))]))++ [(dG .u8 (bW .i64 n (24:Int)))]))++ [(dG .u8 (bW .i64 n (16:Int)))]))++ [(dG .u8 (bW .i64 n (8:Int)))]))++ [(dG .u8 (bW .i64 n (0:Int)))])))) none) none) none) none) none) none) none) none) none) none) none) none) none) none) none) none:=by kernel_rfl
theorem eh.ok:eh.Ok:=by
 rintro⟨m,n,l⟩ ⟨rfl,hl⟩
 have hl:l.length≤140737488355320:=hl
 rw[eh.eq]
 simp only[Nat.le_refl,decide_true,ah,List.take_of_length_le,List.length_append,List.length_cons,List.length_nil,Nat.zero_add]
 rw[nQ (by omega),nQ (by omega),nQ (by omega),nQ (by omega),nQ (by omega),nQ (by omega),nQ (by omega),nQ (by omega)]
 simp only[ah,eh.add,eh.F,←Ax,List.append_assoc,List.cons_append,List.nil_append]
noncomputable def eh.E:=Entry.cD [none,some ti] eh.st eh.aq eh.add eh.F eh.out
noncomputable def eh.call:eh.D→Option eh.X:=bC eh.E eh.st
theorem eh.run:bD eh.call eh.aq eh.add eh.F:=cw (cv [.n,.d ti,.d tB] fun _=>by kernel_rfl)
noncomputable def eh.sg:SG Tryz.prog:=⟨105,Dm,eh.E,.fn 1 (by kernel_rfl) eh.ok (And.intro (.none (by kernel_rfl)) trivial)⟩
set_option synthInstance.maxSize 5000
abbrev aO.L0.D:=Bs×Nat×Bs×(List Int)
def aO.L0.st:aO.L0.D→AS:=fun(b_2,endL,n2,n14)=>⟨([.d tB b_2,.undef,.ptr (.new 2 0) 0 [] 0,.cT (.new 14 0) 0 [] 0 0 endL]++bw 61 []),[],([[],[],[.obj 0 false (.d tH n2)]]++cC 11 ([[.obj 0 false (.vec 5 tb n14)]]++cC 50 []))⟩
abbrev aO.L0.Y0:=Nat×(List Int)
abbrev aO.L0.X0:=(Bs×Bs)×(Nat×(List Int))
def aO.L0.bK:aO.L0.X0→Exit×AS:=fun x=>(.exit 0,⟨([.d tB x.1.1,.undef,.ptr (.new 2 0) 0 [] 0,.cT (.new 14 0) 0 [] 0 0 x.2.1]++bw 61 []),[],([[],[],[.obj 0 false (.d tH x.1.2)]]++cC 11 ([[.obj 0 false (.vec 5 tb x.2.2)]]++cC 50 []))⟩)
abbrev aO.L0.X:=aO.L0.X0
abbrev aO.L0.Y:=aO.L0.Y0
def aO.L0.out:aO.L0.X→Out (Exit×AS):=fun x=> .ok (aO.L0.bK x)
def aO.L0.add:aO.L0.D→aO.L0.Y→aO.L0.X:=fun(b_2,endL,n2,n14) y=>((b_2,n2),y)
abbrev aO.L1.D:=Bs×Nat×Bs×(List Int)×(List Int)
def aO.L1.st:aO.L1.D→AS:=fun(b_3,endL_2,n2_2,n4,n14_2)=>⟨([.d tB b_3,.undef,.ptr (.new 2 0) 0 [] 0,.cT (.new 14 0) 8 [] 0 0 endL_2,.ptr (.new 4 0) 0 [] 0]++bw 60 []),[],([[],[],[.obj 0 false (.d tH n2_2)],[],[.obj 0 false (.d (.arr 8 (.int .u32)) n4)]]++cC 9 ([[.obj 8 false (.vec 5 tb n14_2)]]++cC 50 []))⟩
abbrev aO.L1.Y0:=(List Int)
abbrev aO.L1.X0:=(Nat×Bs×(List Int))×((List Int))
def aO.L1.bK:aO.L1.X0→Exit×AS:=fun x=>(.exit 2,⟨([.undef,.undef,.ptr (.new 2 0) 0 [] 0,.cT (.new 14 0) 8 [] 0 0 x.1.1,.ptr (.new 4 0) 0 [] 0]++bw 60 []),[],([[],[],[.obj 0 false (.d tH x.1.2.1)],[],[.obj 0 false (.d (.arr 8 (.int .u32)) x.2)]]++cC 9 ([[.obj 8 false (.vec 5 tb x.1.2.2)]]++cC 50 []))⟩)
abbrev aO.L1.X:=aO.L1.X0
abbrev aO.L1.Y:=aO.L1.Y0
def aO.L1.out:aO.L1.X→Out (Exit×AS):=fun x=> .ok (aO.L1.bK x)
def aO.L1.add:aO.L1.D→aO.L1.Y→aO.L1.X:=fun(b_3,endL_2,n2_2,n4,n14_2) y=>((endL_2,n2_2,n14_2),y)
abbrev aO.L2.D:=Bs×Bs×(List Int)
def aO.L2.st:aO.L2.D→AS:=fun(endv,n2_3,n4_2)=>⟨([.undef,.undef,.ptr (.new 2 0) 0 [] 0,.d tB endv,.ptr (.new 4 0) 0 [] 0]++bw 60 []),[],([[],[],[.obj 0 false (.d tH n2_3)],[],[.obj 0 false (.d (.arr 8 (.int .u32)) n4_2)]]++cC 60 [])⟩
abbrev aO.L2.Y0:=(List Int)
abbrev aO.L2.X0:=(Bs)×((List Int))
def aO.L2.bK:aO.L2.X0→Exit×AS:=fun x=>(.exit 4,⟨([.undef,.undef,.ptr (.new 2 0) 0 [] 0,.undef,.ptr (.new 4 0) 0 [] 0]++bw 60 []),[],([[],[],[.obj 0 false (.d tH x.1)],[],[.obj 0 false (.d (.arr 8 (.int .u32)) x.2)]]++cC 60 [])⟩)
abbrev aO.L2.X:=aO.L2.X0
abbrev aO.L2.Y:=aO.L2.Y0
def aO.L2.out:aO.L2.X→Out (Exit×AS):=fun x=> .ok (aO.L2.bK x)
def aO.L2.add:aO.L2.D→aO.L2.Y→aO.L2.X:=fun(endv,n2_3,n4_2) y=>(n2_3,y)
abbrev aO.L3.D:=Int×Bs×(List Int)
def aO.L3.st:aO.L3.D→AS:=fun(t48,n2_4,n4_3)=>⟨([.undef,.undef,.ptr (.new 2 0) 0 [] 0,.undef,.ptr (.new 4 0) 0 [] 0]++bw 43 ([.d ti t48]++bw 16 [])),[],([[],[],[.obj 0 false (.d tH n2_4)],[],[.obj 0 false (.d (.arr 8 (.int .u32)) n4_3)]]++cC 60 [])⟩
abbrev aO.L3.Y0:=Bs
abbrev aO.L3.X0:=Bs
def aO.L3.bK:aO.L3.X0→Exit×AS:=fun x=>(.exit 6,⟨([.undef,.undef,.ptr (.new 2 0) 0 [] 0]++bw 62 []),[],([[],[],[.obj 0 false (.d tH x)]]++cC 62 [])⟩)
abbrev aO.L3.X:=aO.L3.X0
abbrev aO.L3.Y:=aO.L3.Y0
def aO.L3.out:aO.L3.X→Out (Exit×AS):=fun x=> .ok (aO.L3.bK x)
def aO.L3.add:aO.L3.D→aO.L3.Y→aO.L3.X:=fun(t48,n2_4,n4_3) y=>y
abbrev aO.D:=Bs
def aO.st:aO.D→SA:=fun b=>([.d tB b],[])
abbrev aO.Y:=Bs
abbrev aO.X:=Bs
def aO.out:aO.X→aT:=fun x=>⟨.d tH x,[],[]⟩
def aO.add:aO.D→aO.Y→aO.X:=fun b y=>y
def zc(n:Nat):Nat:=(120 - n%64)%64
def aO.L0.aq:aO.L0.D→Prop:=fun(b,m,n2,l)=>m=l.length∧l.length+zc l.length≤140737488355328
def aO.L0.F:aO.L0.D→aO.L0.Y:=fun(b,m,n2,l)=>(l.length+zc l.length,l++List.replicate (zc l.length) 0)
def aO.L1.aq:aO.L1.D→Prop:=fun(b,m,n2,h,l)=>∃s:St,h=s.l
def aO.L1.F:aO.L1.D→aO.L1.Y:=fun(b,m,n2,h,l)=>(blocks (yo h) b).l
def aO.L2.aq:aO.L2.D→Prop:=fun(b,n2,h)=>b.length%64=0∧∃s:St,h=s.l
def aO.L2.F:aO.L2.D→aO.L2.Y:=fun(b,n2,h)=>(blocks (yo h) b).l
def qd(h:List Int)(i:Nat)(_:Int):Int:=dG .u8 (bW .u32 (nth (.int .u32) h (i / 4)) ((24 - 8*(i%4):Nat):Int))
def aO.L3.aq:aO.L3.D→Prop:=fun(t,n2,h)=>n2.length=32∧h.length=8∧∃k:Nat,k≤32∧t=k
def aO.L3.F:aO.L3.D→aO.L3.Y:=fun(t,n2,h)=>from_ (qd h) t.toNat n2
def aO.aq:aO.D→Prop:=fun b=>b.length≤140737488350000
def aO.F:aO.D→aO.Y:=fun b=>Hs b
noncomputable def aO.G:dU:=eZ (P:=Tryz.prog) [dx.sg,eh.sg,first.sg,mix.sg]
noncomputable def aO.L0.E:=cf.cD aO.L0.st aO.L0.aq aO.L0.add aO.L0.F aO.L0.out
noncomputable def aO.L0.call:aO.L0.D→Option aO.L0.X:=dL aO.L0.E aO.L0.st
noncomputable def aO.L1.E:=cf.cD aO.L1.st aO.L1.aq aO.L1.add aO.L1.F aO.L1.out
noncomputable def aO.L1.call:aO.L1.D→Option aO.L1.X:=dL aO.L1.E aO.L1.st
noncomputable def aO.L2.E:=cf.cD aO.L2.st aO.L2.aq aO.L2.add aO.L2.F aO.L2.out
noncomputable def aO.L2.call:aO.L2.D→Option aO.L2.X:=dL aO.L2.E aO.L2.st
noncomputable def aO.L3.E:=cf.cD aO.L3.st aO.L3.aq aO.L3.add aO.L3.F aO.L3.out
noncomputable def aO.L3.call:aO.L3.D→Option aO.L3.X:=dL aO.L3.E aO.L3.st
noncomputable def aO.an:eu:= {loops:=ki [(2,{bu:=[0,2,3],sites:=[2,14],j6:=[⟨3,[],14,135⟩]}),(6,{bu:=[0,2,3,4],sites:=[2,4,14]}),(9,{bu:=[2,3,4],sites:=[2,4],data:=[(3,tB)]}),(13,{bu:=[2,4,48],sites:=[2,4]})],outs:=kh [(2,{bu:=[0,2,3],sites:=[2,14]},{bu:=[2]}),(6,{bu:=[2,3,4],sites:=[2,4,14]},{bu:=[2]}),(9,{bu:=[2,4],sites:=[2,4]},{bu:=[2]}),(13,{bu:=[2],sites:=[2]},{bu:=[2]})],gq:=lv [(2,aO.L0.E),(6,aO.L1.E),(9,aO.L2.E),(13,aO.L3.E)]}
noncomputable def aO.A:= @cq Tryz.prog aO.G aO.an 0 Tryz.f106 _ aO.st
abbrev aO.Ok:=cr @aO.A aO.aq aO.add aO.F aO.out
noncomputable def aO.L0.R:= @cM Tryz.prog aO.G aO.an 0 Tryz.f106 0 _ aO.L0.st
abbrev aO.L0.Ok:=fk Tryz.prog aO.G aO.an 0 Tryz.f106 0 aO.L0.st aO.L0.aq aO.L0.add aO.L0.F aO.L0.out
noncomputable def aO.L1.R:= @cM Tryz.prog aO.G aO.an 0 Tryz.f106 1 _ aO.L1.st
abbrev aO.L1.Ok:=fk Tryz.prog aO.G aO.an 0 Tryz.f106 1 aO.L1.st aO.L1.aq aO.L1.add aO.L1.F aO.L1.out
noncomputable def aO.L2.R:= @cM Tryz.prog aO.G aO.an 0 Tryz.f106 2 _ aO.L2.st
abbrev aO.L2.Ok:=fk Tryz.prog aO.G aO.an 0 Tryz.f106 2 aO.L2.st aO.L2.aq aO.L2.add aO.L2.F aO.L2.out
noncomputable def aO.L3.R:= @cM Tryz.prog aO.G aO.an 0 Tryz.f106 3 _ aO.L3.st
abbrev aO.L3.Ok:=fk Tryz.prog aO.G aO.an 0 Tryz.f106 3 aO.L3.st aO.L3.aq aO.L3.add aO.L3.F aO.L3.out
theorem aO.L0.run:bD aO.L0.call aO.L0.aq aO.L0.add aO.L0.F:=fy (fx [.d tB,.n,.d tB,.d tB] fun _=>by kernel_rfl)
theorem aO.L0.aE:fY @aO.L0.R aO.L0.st aO.L0.aq aO.L0.add aO.L0.F aO.L0.bK aO.L0.Ok:=gj
theorem aO.L0.step{R:Type}(b_2:Bs)(endL:Nat)(n2:Bs)(n14:(List Int))(kn:AS→Option R)(kx:Exit→AS→Option R):aO.L0.R (b_2,endL,n2,n14) kn kx=
  aD ((qQ (fI ((endL:Nat):Int) (64:Int)) (56:Int))) (
   aD (decide (endL≤(List.length n14))) (
   aD (dK (endL+1) 1) (
   kn (aO.L0.st (b_2,(endL+1),n2,((List.take endL n14)++ [(0:Int)])))) none) none) (
   kx (aO.L0.bK ((b_2,n2),(endL,n14))).1 (aO.L0.bK ((b_2,n2),(endL,n14))).2):=by kernel_rfl
theorem aO.L1.run:bD aO.L1.call aO.L1.aq aO.L1.add aO.L1.F:=fy (fx [.d tB,.n,.d tB,.d (.slice (.int .u32)),.d tB] fun _=>by kernel_rfl)
theorem aO.L1.aE:fY @aO.L1.R aO.L1.st aO.L1.aq aO.L1.add aO.L1.F aO.L1.bK aO.L1.Ok:=gj
theorem aO.L1.step{R:Type}(b_3:Bs)(endL_2:Nat)(n2_2:Bs)(n4:(List Int))(n14_2:(List Int))(kn:AS→Option R)(kx:Exit→AS→Option R):aO.L1.R (b_3,endL_2,n2_2,n4,n14_2) kn kx=
  aD ((lk (((List.length b_3):Nat):Int) (64:Int))) (
   aD (inc (64:Int) (((List.length b_3):Nat):Int)) (
   ab (mix.call (n4,(cut b_3 0 64))) fun x1=>
   aD (inc (64:Int) (((List.length b_3):Nat):Int)) (
   kn (aO.L1.st ((cut b_3 64 ((List.length b_3) - 64)),endL_2,n2_2,x1,n14_2))) none) none) (
   kx (aO.L1.bK ((endL_2,n2_2,n14_2),n4)).1 (aO.L1.bK ((endL_2,n2_2,n14_2),n4)).2):=by kernel_rfl
theorem aO.L2.run:bD aO.L2.call aO.L2.aq aO.L2.add aO.L2.F:=fy (fx [.d tB,.d tB,.d (.slice (.int .u32))] fun _=>by kernel_rfl)
theorem aO.L2.aE:fY @aO.L2.R aO.L2.st aO.L2.aq aO.L2.add aO.L2.F aO.L2.bK aO.L2.Ok:=gj
theorem aO.L2.step{R:Type}(endv:Bs)(n2_3:Bs)(n4_2:(List Int))(kn:AS→Option R)(kx:Exit→AS→Option R):aO.L2.R (endv,n2_3,n4_2) kn kx=
  aD ((mX (((List.length endv):Nat):Int) (0:Int))) (
   aD (inc (64:Int) (((List.length endv):Nat):Int)) (
   ab (mix.call (n4_2,(cut endv 0 64))) fun x1=>
   aD (inc (64:Int) (((List.length endv):Nat):Int)) (
   kn (aO.L2.st ((cut endv 64 ((List.length endv) - 64)),n2_3,x1))) none) none) (
   kx (aO.L2.bK (n2_3,n4_2)).1 (aO.L2.bK (n2_3,n4_2)).2):=by kernel_rfl
theorem aO.L3.run:bD aO.L3.call aO.L3.aq aO.L3.add aO.L3.F:=fy (fx [.d ti,.d tB,.d (.slice (.int .u32))] fun _=>by kernel_rfl)
theorem aO.L3.aE:fY @aO.L3.R aO.L3.st aO.L3.aq aO.L3.add aO.L3.F aO.L3.bK aO.L3.Ok:=gj
theorem aO.L3.step{R:Type}(t48:Int)(n2_4:Bs)(n4_3:(List Int))(kn:AS→Option R)(kx:Exit→AS→Option R):aO.L3.R (t48,n2_4,n4_3) kn kx=
  aD ((gM t48 (32:Int))) (
   aD (dZ (kM .i64 t48 (4:Int)) (8:Int)) (
   aD (decide ((Int.toNat (kM .i64 t48 (4:Int))) < (List.length n4_3))) (
   aD (decide ((((Int.toNat (kM .i64 t48 (4:Int)))*1)+0)=(0+((Int.toNat (kM .i64 t48 (4:Int)))*1)))) (
   aD (iU (bV .i64 (24:Int) (eK .i64 (8:Int) (fI t48 (4:Int))))) (
   aD (dZ t48 (32:Int)) (
   aD (decide ((Int.toNat t48) < (List.length n2_4))) (
   aD (decide ((((Int.toNat t48)*1)+0)=(0+((Int.toNat t48)*1)))) (
   aD (decide ((Int.toNat t48) < (List.length n2_4))) (
   kn (aO.L3.st ((bo .i64 t48 (1:Int)),(List.set n2_4 (Int.toNat t48) (dG .u8 (bW .u32 (nth (.int .u32) n4_3 (Int.toNat (kM .i64 t48 (4:Int)))) (bV .i64 (24:Int) (eK .i64 (8:Int) (fI t48 (4:Int))))))),n4_3))) none) none) none) none) none) none) none) none) (
   kx (aO.L3.bK n2_4).1 (aO.L3.bK n2_4).2):=by kernel_rfl
theorem aO.eq{R:Type}(b:Bs)(k:aT→Option R):aO.A b k=
 aD (inc (bV .i64 (((List.length b):Nat):Int) (fI (((List.length b):Nat):Int) (64:Int))) (((List.length b):Nat):Int)) (
 ab (dx.call (cut b (Int.toNat (bV .i64 (((List.length b):Nat):Int) (fI (((List.length b):Nat):Int) (64:Int)))) ((List.length b) - (Int.toNat (bV .i64 (((List.length b):Nat):Int) (fI (((List.length b):Nat):Int) (64:Int))))))) fun x1=>
 aD (decide (x1.1≤(List.length x1.2))) (
 aD (dK (x1.1+1) 1) (
 ab (aO.L0.call (b,(x1.1+1),(List.replicate 32 (0:Int)),((List.take x1.1 x1.2)++ [(128:Int)]))) fun x2=>
 ab (eh.call (x2.2.1,(eK .i64 (8:Int) (((List.length x2.1.1):Nat):Int)),x2.2.2)) fun x3=>
 ab (first.call ()) fun x4=>
 ab (aO.L1.call (x2.1.1,x3.1,x2.1.2,x4,x3.2)) fun x6=>
 aD (decide (0=0∧(0+x6.1.1)≤(List.length x6.1.2.2))) (
 ab (aO.L2.call ((cut x6.1.2.2 0 x6.1.1),x6.1.2.1,x6.2)) fun x9=>
 ab (aO.L3.call ((0:Int),x9.1,x9.2)) fun x10=>
 k (aO.out x10)) none) none) none) none:=by kernel_rfl
theorem aO.L0.ok:aO.L0.Ok:=by
 refine aO.L0.aE (fun(b,m,n2,l)=>zc l.length) ?_
 rintro⟨b,m,n2,l⟩ ⟨rfl,hl⟩
 have hl:l.length+zc l.length≤140737488355328:=hl
 have hr:fI ((l.length:Nat):Int) 64=((l.length%64:Nat):Int):=by
  unfold fI
  rw[Int.tmod_eq_emod_of_nonneg (by omega)]
  omega
 by_cases h:l.length%64=56
 ·right
  intro R kn kx
  have hz:zc l.length=0:=by unfold zc;omega
  rw[aO.L0.step,hr,gO (by omega)]
  simp only[ae,aO.L0.add,aO.L0.F,hz,Nat.add_zero,List.replicate_zero,List.append_nil]
 ·left
  have hz:zc l.length=zc (l.length+1)+1:=by unfold zc;omega
  refine⟨(b,l.length+1,n2,l++ [0]),⟨by simp,by simp only[List.length_append,List.length_cons,List.length_nil,Nat.zero_add];omega⟩,by simp only[List.length_append,List.length_cons,List.length_nil,Nat.zero_add];omega,?_,fun kn kx=> ?_⟩
  ·simp only[aO.L0.add,aO.L0.F,List.length_append,List.length_cons,List.length_nil,Nat.zero_add,hz,List.append_assoc,List.cons_append,List.nil_append,List.replicate_succ]
   rw[show l.length+1+zc (l.length+1)=l.length+(zc (l.length+1)+1) by omega]
  ·rw[aO.L0.step,hr,iM (by omega),nQ (by omega)]
   simp only[ah,Nat.le_refl,decide_true,List.take_length]
theorem aO.L1.ok:aO.L1.Ok:=by
 refine aO.L1.aE (fun(b,m,n2,h,l)=>b.length) ?_
 rintro⟨b,m,n2,h,l⟩ ⟨s,rfl⟩
 by_cases hb:64≤b.length
 ·left
  have e1:cut b 64 (b.length - 64)=b.drop 64:=by unfold cut;rw[List.take_of_length_le (by simp)]
  have e2:cut b 0 64=b.take 64:=rfl
  have hp:mix.aq (s.l,b.take 64):=⟨⟨s,rfl⟩,by simp;omega⟩
  refine⟨(b.drop 64,m,n2,(sL s (b.take 64)).l,l),⟨_,rfl⟩,by simp;omega,?_,fun kn kx=> ?_⟩
  ·simp only[aO.L1.add,aO.L1.F,iV]
   rw[oW s b hb]
  ·rw[aO.L1.step,ij (by omega),ko (by omega) (by omega),e1,e2]
   simp only[ah,mix.run hp,aa,mix.add,mix.F,iV]
 ·right
  intro R kn kx
  rw[aO.L1.step,fR (by omega)]
  simp only[ae,aO.L1.add,aO.L1.F,iV]
  rw[nV s b (by omega)]
theorem aO.L2.ok:aO.L2.Ok:=by
 refine aO.L2.aE (fun(b,n2,h)=>b.length) ?_
 rintro⟨b,n2,h⟩ ⟨hm,s,rfl⟩
 have hm:b.length%64=0:=hm
 by_cases hb:0 < b.length
 ·left
  have e1:cut b 64 (b.length - 64)=b.drop 64:=by unfold cut;rw[List.take_of_length_le (by simp)]
  have e2:cut b 0 64=b.take 64:=rfl
  have hp:mix.aq (s.l,b.take 64):=⟨⟨s,rfl⟩,by simp;omega⟩
  refine⟨(b.drop 64,n2,(sL s (b.take 64)).l),⟨by simp;omega,_,rfl⟩,by simp;omega,?_,fun kn kx=> ?_⟩
  ·simp only[aO.L2.add,aO.L2.F,iV]
   rw[oW s b (by omega)]
  ·rw[aO.L2.step,ee (by omega),ko (by omega) (by omega),e1,e2]
   simp only[ah,mix.run hp,aa,mix.add,mix.F,iV]
 ·right
  intro R kn kx
  rw[aO.L2.step,dj (by omega)]
  simp only[ae,aO.L2.add,aO.L2.F,iV]
  rw[nV s b (by omega)]
theorem aO.L3.ok:aO.L3.Ok:=by
 refine aO.L3.aE (fun(t,n2,h)=>32 - t.toNat) ?_
 rintro⟨t,m,h⟩ ⟨hl,h8,k,hk,rfl⟩
 have hl:m.length=32:=hl
 have h8:h.length=8:=h8
 have e2:Int.toNat (k:Int)=k:=by omega
 have e3:Int.toNat ((k+1:Nat):Int)=k+1:=by omega
 by_cases hlt:k < 32
 ·left
  have e1:bo .i64 (k:Int) 1=((k+1:Nat):Int):=by rw[cR (by omega) (by omega)];omega
  have q4:kM .i64 (k:Int) 4=((k / 4:Nat):Int):=by
   have:(k:Int).tdiv 4=((k / 4:Nat):Int):=by rw[Int.tdiv_eq_ediv_of_nonneg (by omega)];omega
   unfold kM
   rw[this,lG (by omega) (by omega)]
  have r4:fI (k:Int) 4=((k%4:Nat):Int):=by
   unfold fI
   rw[Int.tmod_eq_emod_of_nonneg (by omega)]
   omega
  have s4:bV .i64 24 (eK .i64 8 ((k%4:Nat):Int))=((24 - 8*(k%4):Nat):Int):=by
   rw[iw (by omega) (by omega),fi (by omega) (by omega)]
   omega
  have e4:Int.toNat ((k / 4:Nat):Int)=k / 4:=by omega
  refine⟨(((k+1:Nat):Int),m.set k (qd h k m[k]),h),⟨by simpa using hl,h8,k+1,by omega,rfl⟩,by simp;omega,?_,fun kn kx=> ?_⟩
  ·simp only[aO.L3.add,aO.L3.F,e2,e3]
   rw[pI (qd h) m k (by omega)]
  ·have d0:decide (k < 32)=true:=aL hlt
   have d1:decide (k / 4 < 8)=true:=aL (by omega)
   rw[aO.L3.step,bB (by omega),q4,r4,s4,bz (by omega) (by omega),bz (by omega) (by omega),nb (by omega)]
   simp only[e1,e2,e4,Nat.mul_one,Nat.zero_add,Nat.add_zero,decide_true,ah,hl,h8,d0,d1,qd]
 ·right
  obtain rfl:k=32:=by omega
  intro R kn kx
  rw[aO.L3.step,bk (by omega)]
  simp only[ae,aO.L3.add,aO.L3.F,e2]
  rw[qZ _ _ _ (by omega)]
theorem C9(w:W):BitVec.ofInt 8 (vw w)=w.setWidth 8:=by
 apply BitVec.eq_of_toNat_eq
 rw[BitVec.toNat_ofInt,BitVec.toNat_setWidth]
 unfold vw
 omega
theorem GL(w:W)(k:Int):dG .u8 (bW .u32 (vw w) k)=vw ((w >>> k.toNat).setWidth 8):=by
 rw[pc,uH,C9]
theorem B6(s:St):from_ (qd s.l) 0 (List.replicate 32 0)=FQ s:=by
 rw[uE]
 simp only[List.range_eq_range',List.range',List.map_cons,List.map_nil,qd,Nat.reduceAdd,Nat.reduceDiv,Nat.reduceMod,Nat.reduceMul,Nat.reduceSub,n0,n1,n2,n3,n4,n5,n6,n7,GL]
 rfl
theorem aO.ok:aO.Ok:=by
 intro b hb
 have hb:b.length≤140737488350000:=hb
 have hr:fI ((b.length:Nat):Int) 64=((b.length%64:Nat):Int):=by
  unfold fI
  rw[Int.tmod_eq_emod_of_nonneg (by omega)]
  omega
 have hs:bV .i64 ((b.length:Nat):Int) ((b.length%64:Nat):Int)=((b.length - b.length%64:Nat):Int):=by
  rw[fi (by omega) (by omega)];omega
 have hn:Int.toNat ((b.length - b.length%64:Nat):Int)=b.length - b.length%64:=by omega
 have hm:eK .i64 8 ((b.length:Nat):Int)=8*(b.length:Int):=iw (by omega) (by omega)
 generalize hq:b.length - b.length%64=q at hs hn
 have hc:cut b q (b.length - q)=b.drop q:=by unfold cut;rw[List.take_of_length_le (by simp)]
 have hcl:(b.drop q).length=b.length%64:=by simp;omega
 have p1:dx.aq (b.drop q):=by show(b.drop q).length≤_;omega
 rw[aO.eq,hr,hs,ko (by omega) (by omega),hn,hc]
 simp only[ah,dx.run p1,aa,dx.add,dx.F,Nat.le_refl,decide_true,List.take_length]
 have p2:aO.L0.aq (b,(b.drop q).length+1,List.replicate 32 0,b.drop q++ [128]):=by
  refine⟨by simp,?_⟩
  simp only[List.length_append,List.length_cons,List.length_nil,zc]
  omega
 have hz:zc (b.drop q++ [128]).length=mD b.length:=by
  simp only[List.length_append,List.length_cons,List.length_nil,zc,mD]
  omega
 rw[nQ (by omega)]
 simp only[ah,aO.L0.run p2,aa,aO.L0.add,aO.L0.F,hm,hz]
 have hlen:(b.drop q++ [128]).length+mD b.length=(b.drop q++ [128]++List.replicate (mD b.length) 0).length:=by rw[@List.length_append _ (b.drop q++ [128]),List.length_replicate]
 have p3:eh.aq ((b.drop q++ [128]).length+mD b.length,8*(b.length:Int),b.drop q++ [128]++List.replicate (mD b.length) 0):=by
  refine⟨hlen,?_⟩
  simp only[List.length_append,List.length_cons,List.length_nil,List.length_replicate,mD]
  omega
 have p4:aO.L1.aq (b,(b.drop q++ [128]++List.replicate (mD b.length) 0).length+8,List.replicate 32 0,jV.l,b.drop q++ [128]++List.replicate (mD b.length) 0++iA (8*(b.length:Int))):=⟨jV,rfl⟩
 simp only[eh.run p3,aa,eh.add,eh.F,first.run (d:=()) trivial,first.add,first.F,aO.L1.run p4,aO.L1.add,aO.L1.F,iV]
 generalize he:b.drop q++ [128]++List.replicate (mD b.length) 0++iA (8*(b.length:Int))=e
 have hel:(b.drop q++ [128]++List.replicate (mD b.length) 0).length+8=e.length:=by rw[←he,@List.length_append _ _ (iA _),cO]
 have hem:e.length%64=0:=by
  rw[←hel]
  simp only[List.length_append,List.length_cons,List.length_nil,List.length_replicate,mD,hcl]
  omega
 have hce:cut e 0 ((b.drop q++ [128]++List.replicate (mD b.length) 0).length+8)=e:=by
  rw[hel];unfold cut;rw[List.drop_zero,List.take_length]
 rw[hce,hel,aL ⟨trivial,by omega⟩]
 have p5:aO.L2.aq (e,List.replicate 32 0,(blocks jV b).l):=⟨hem,blocks jV b,rfl⟩
 have p6:aO.L3.aq (0,List.replicate 32 0,(blocks (blocks jV b) e).l):=⟨rfl,rfl,0,by omega,rfl⟩
 simp only[ah,aO.L2.run p5,aa,aO.L2.add,aO.L2.F,iV,aO.L3.run p6,aO.L3.add,aO.L3.F,aO.add,aO.F]
 rw[show Int.toNat 0=0 from rfl,B6]
 have hbl:blocks jV (pad b)=blocks (blocks jV b) e:=by
  have h1:pad b=b.take q++e:=by
   rw[←he]
   unfold pad
   rw[List.append_assoc,List.append_assoc,←List.append_assoc (b.take q),List.take_append_drop]
   rfl
  have h2:blocks jV b=blocks (blocks jV (b.take q)) (b.drop q):=by
   rw[←qc _ _ _ (by simp;omega),List.take_append_drop]
  rw[h1,qc _ _ _ (by simp;omega),h2,nV _ (b.drop q) (by omega)]
 rw[Hs,hbl]
noncomputable def aO.E:=Entry.cD [some tB] aO.st aO.aq aO.add aO.F aO.out
noncomputable def aO.call:aO.D→Option aO.X:=bC aO.E aO.st
theorem aO.run:bD aO.call aO.aq aO.add aO.F:=cw (cv [.d tB] fun _=>by kernel_rfl)
noncomputable def aO.sg:SG Tryz.prog:=⟨106,aK,aO.E,.fn 4 (by kernel_rfl) aO.ok (And.intro (.cD aO.L0.ok (by kernel_rfl)) (And.intro (.cD aO.L1.ok (by kernel_rfl)) (And.intro (.cD aO.L2.ok (by kernel_rfl)) (And.intro (.cD aO.L3.ok (by kernel_rfl)) trivial))))⟩
set_option synthInstance.maxSize 5000
abbrev cG.L0.D:=Nat×(List Bs)×Int×Int×Bs×(List Int)
def cG.L0.st:cG.L0.D→AS:=fun(bL,t13,t14,t15,n4,n10)=>⟨(bw 4 ([.ptr (.new 4 0) 0 [] 0,.cT (.new 10 0) 0 [] 0 0 bL]++bw 7 ([.d (.slice tB) t13,.d ti t14,.d ti t15]++bw 12 []))),[],(cC 4 ([[.obj 0 false (.d tH n4)]]++cC 5 ([[.obj 0 false (.vec 5 tb n10)]]++cC 17 [])))⟩
abbrev cG.L0.Y0:=Nat×(List Int)
abbrev cG.L0.X0:=(Bs)×(Nat×(List Int))
def cG.L0.bK:cG.L0.X0→Exit×AS:=fun x=>(.exit 0,⟨(bw 4 ([.ptr (.new 4 0) 0 [] 0,.cT (.new 10 0) 0 [] 0 0 x.2.1]++bw 22 [])),[],(cC 4 ([[.obj 0 false (.d tH x.1)]]++cC 5 ([[.obj 0 false (.vec 5 tb x.2.2)]]++cC 17 [])))⟩)
abbrev cG.L0.X:=cG.L0.X0
abbrev cG.L0.Y:=cG.L0.Y0
def cG.L0.out:cG.L0.X→Out (Exit×AS):=fun x=> .ok (cG.L0.bK x)
def cG.L0.add:cG.L0.D→cG.L0.Y→cG.L0.X:=fun(bL,t13,t14,t15,n4,n10) y=>(n4,y)
abbrev cG.D:=ByteArray×(List Bs)
def cG.st:cG.D→SA:=fun(name,parts)=>([.d .str name,.d (.slice tB) parts],[])
abbrev cG.Y:=Bs
abbrev cG.X:=Bs
def cG.out:cG.X→aT:=fun x=>⟨.d tH x,[],[]⟩
def cG.add:cG.D→cG.Y→cG.X:=fun(name,parts) y=>y
def cG.L0.aq:cG.L0.D→Prop:=fun(m,ps,n,i,n4,l)=>m=l.length∧n=ps.length∧ps.length≤140737488350000∧∃k:Nat,k≤ps.length∧i=k∧l.length+(iZ (ps.drop k)).length≤140737488350000
def cG.L0.F:cG.L0.D→cG.L0.Y:=fun(m,ps,n,i,n4,l)=>(l.length+(iZ (ps.drop i.toNat)).length,l++iZ (ps.drop i.toNat))
def cG.aq:cG.D→Prop:=fun(name,ps)=>(s6 (bA name) ps).length≤140737488350000
def cG.F:cG.D→cG.Y:=fun(name,ps)=>tag (bA name) ps
noncomputable def cG.G:dU:=eZ (P:=Tryz.prog) [eV.sg,eh.sg,aO.sg]
noncomputable def cG.L0.E:=cf.cD cG.L0.st cG.L0.aq cG.L0.add cG.L0.F cG.L0.out
noncomputable def cG.L0.call:cG.L0.D→Option cG.L0.X:=dL cG.L0.E cG.L0.st
noncomputable def cG.an:eu:= {loops:=ki [(3,{bu:=[4,5,13,14,15],sites:=[4,10],j6:=[⟨5,[],10,135⟩]})],outs:=kh [(3,{bu:=[4,5],sites:=[4,10]},{bu:=[4]})],gq:=lv [(3,cG.L0.E)]}
noncomputable def cG.A:= @cq Tryz.prog cG.G cG.an 0 Tryz.f51 _ cG.st
abbrev cG.Ok:=cr @cG.A cG.aq cG.add cG.F cG.out
noncomputable def cG.L0.R:= @cM Tryz.prog cG.G cG.an 0 Tryz.f51 0 _ cG.L0.st
abbrev cG.L0.Ok:=fk Tryz.prog cG.G cG.an 0 Tryz.f51 0 cG.L0.st cG.L0.aq cG.L0.add cG.L0.F cG.L0.out
theorem cG.L0.run:bD cG.L0.call cG.L0.aq cG.L0.add cG.L0.F:=fy (fx [.n,.d (.slice tB),.d ti,.d ti,.d tB,.d tB] fun _=>by kernel_rfl)
theorem cG.L0.aE:fY @cG.L0.R cG.L0.st cG.L0.aq cG.L0.add cG.L0.F cG.L0.bK cG.L0.Ok:=gj
theorem cG.L0.step{R:Type}(bL:Nat)(t13:(List Bs))(t14:Int)(t15:Int)(n4:Bs)(n10:(List Int))(kn:AS→Option R)(kx:Exit→AS→Option R):cG.L0.R (bL,t13,t14,t15,n4,n10) kn kx=
  aD ((gM t15 t14)) (
   aD (dZ t15 (((List.length t13):Nat):Int)) (
   ab (eh.call (bL,(((List.length (nth tB t13 (Int.toNat t15))):Nat):Int),n10)) fun x1=>
   aD (decide (x1.1≤(List.length x1.2))) (
   aD (dK (x1.1+(List.length (nth tB t13 (Int.toNat t15)))) 1) (
   kn (cG.L0.st ((x1.1+(List.length (nth tB t13 (Int.toNat t15)))),t13,t14,(bo .i64 t15 (1:Int)),n4,((List.take x1.1 x1.2)++(nth tB t13 (Int.toNat t15)))))) none) none) none) (
   kx (cG.L0.bK (n4,(bL,n10))).1 (cG.L0.bK (n4,(bL,n10))).2):=by kernel_rfl
theorem cG.eq{R:Type}(name:ByteArray)(parts:(List Bs))(k:aT→Option R):cG.A (name,parts) k=
 ab (eV.call (((ByteArray.size name):Nat):Int)) fun x1=>
 aD (decide (x1.1≤(List.length x1.2))) (
 aD (dK (x1.1+(List.length (bA name))) 1) (
 ab (cG.L0.call ((x1.1+(List.length (bA name))),parts,(((List.length parts):Nat):Int),(0:Int),(List.replicate 32 (0:Int)),((List.take x1.1 x1.2)++(bA name)))) fun x4=>
 aD (decide (0=0∧(0+x4.2.1)≤(List.length x4.2.2))) (
 ab (aO.call (cut x4.2.2 0 x4.2.1)) fun x5=>
 k (cG.out x5)) none) none) none:=by kernel_rfl
theorem xe(p:List Int)(ps:List (List Int)):iZ (p::ps)=iA p.length++p++iZ ps:=by simp[iZ]
theorem xf(ps:List (List Int))(k:Nat)(h:k < ps.length):iZ (ps.drop k)=iA ps[k].length++ps[k]++iZ (ps.drop (k+1)):=by
 rw[List.drop_eq_getElem_cons h,xe]
theorem cG.L0.ok:cG.L0.Ok:=by
 refine cG.L0.aE (fun(m,ps,n,i,n4,l)=>ps.length - i.toNat) ?_
 rintro⟨m,ps,n,i,n4,l⟩ ⟨rfl,rfl,hpl,k,hk,rfl,hl⟩
 have hl:l.length+(iZ (ps.drop k)).length≤140737488350000:=hl
 have hk:k≤ps.length:=hk
 have e2:Int.toNat (k:Int)=k:=by omega
 have e3:Int.toNat ((k+1:Nat):Int)=k+1:=by omega
 by_cases h:k < ps.length
 ·left
  have ht:=xf ps k h
  have hlen:(iZ (ps.drop k)).length=8+ps[k].length+(iZ (ps.drop (k+1))).length:=by rw[ht];simp only[List.length_append,cO]
  have hn:nth (.slice (.int .u8)) ps k=ps[k]:=dS (t:= .slice (.int .u8)) h
  have hpl:ps.length≤140737488350000:=hpl
  have e1:bo .i64 (k:Int) 1=((k+1:Nat):Int):=by rw[cR (by omega) (by omega)];omega
  refine⟨((l++iA ps[k].length++ps[k]).length,ps,(ps.length:Int),((k+1:Nat):Int),n4,l++iA ps[k].length++ps[k]),⟨rfl,rfl,hpl,k+1,by show k+1≤ps.length;omega,rfl,?_⟩,?_,?_,fun kn kx=> ?_⟩
  ·show(l++iA ps[k].length++ps[k]).length+(iZ (ps.drop (k+1))).length≤_
   simp only[List.length_append,cO];omega
  ·show ps.length - Int.toNat ((k+1:Nat):Int) < ps.length - Int.toNat (k:Int)
   omega
  ·simp only[cG.L0.add,cG.L0.F,e2,e3,ht,List.append_assoc]
   simp only[List.length_append,cO,Nat.add_assoc]
  ·have p1:eh.aq (l.length,(ps[k].length:Int),l):=⟨rfl,by show l.length≤_;omega⟩
   rw[cG.L0.step,bB (by omega),bz (by omega) (by omega),e1,e2]
   simp only[ah,hn,eh.run p1,aa,eh.add,eh.F]
   have hlb:(l++iA ps[k].length).length=l.length+8:=by simp[cO]
   rw[hlb,aL (Nat.le_refl _),nQ (by omega)]
   simp only[ah]
   rw[List.take_of_length_le (by rw[hlb];omega)]
   simp only[List.length_append,cO,Nat.add_assoc]
 ·right
  obtain rfl:k=ps.length:=by omega
  intro R kn kx
  rw[cG.L0.step,bk (by omega)]
  simp only[ae,cG.L0.add,cG.L0.F,e2,List.drop_length]
  simp[iZ]
theorem vD:∀ps:List (List Int),8*ps.length≤(iZ ps).length
 |[]=>by simp[iZ]
 |p::ps=>by
  rw[xe]
  have:=vD ps
  simp only[List.length_append,cO,List.length_cons]
  omega
theorem ia(s:ByteArray):(bA s).length=s.size:=by simp only[bA,List.length_map,Array.length_toList];rfl
theorem cG.ok:cG.Ok:=by
 rintro⟨name,ps⟩ hp
 have hp:(iA (bA name).length++bA name++iZ ps).length≤140737488350000:=hp
 have hl:(iA (bA name).length++bA name++iZ ps).length=8+(bA name).length+(iZ ps).length:=by simp only[List.length_append,cO]
 have hpl:=vD ps
 have hsz:((name.size:Nat):Int)=(((bA name).length:Nat):Int):=by rw[ia]
 rw[cG.eq,eV.run (d:=((name.size:Nat):Int)) trivial,hsz]
 simp only[aa,eV.add,eV.F,cO,Nat.le_refl,decide_true,ah]
 rw[nQ (by omega),List.take_of_length_le (by rw[cO];omega)]
 have p2:cG.L0.aq (8+(bA name).length,ps,(ps.length:Int),0,List.replicate 32 0,iA ((bA name).length:Int)++bA name):=by
  refine⟨by simp only[List.length_append,cO],rfl,by show ps.length≤_;omega,0,Nat.zero_le _,rfl,?_⟩
  rw[List.drop_zero]
  simp only[List.length_append,cO]
  omega
 simp only[ah,cG.L0.run p2,aa,cG.L0.add,cG.L0.F,Int.toNat_zero,List.drop_zero]
 have hcut:cut (iA ((bA name).length:Int)++bA name++iZ ps) 0 ((iA ((bA name).length:Int)++bA name).length+(iZ ps).length)=s6 (bA name) ps:=by
  unfold cut
  rw[List.drop_zero,List.take_of_length_le (by simp only[List.length_append];omega)]
  rfl
 have p3:aO.aq (s6 (bA name) ps):=hp
 rw[aL ⟨trivial,by simp only[List.length_append];omega⟩,hcut]
 simp only[ah,aO.run p3,aa,aO.add,aO.F,cG.add,cG.F,tag]
noncomputable def cG.E:=Entry.cD [some .str,some (.slice tB)] cG.st cG.aq cG.add cG.F cG.out
noncomputable def cG.call:cG.D→Option cG.X:=bC cG.E cG.st
theorem cG.run:bD cG.call cG.aq cG.add cG.F:=cw (cv [.d .str,.d (.slice tB)] fun _=>by kernel_rfl)
noncomputable def cG.sg:SG Tryz.prog:=⟨51,aK,cG.E,.fn 1 (by kernel_rfl) cG.ok (And.intro (.cD cG.L0.ok (by kernel_rfl)) trivial)⟩
set_option synthInstance.maxSize 5000
abbrev dH.D:=Int×Int
def dH.st:dH.D→SA:=fun(x,n)=>([.d (.int .u32) x,.d ti n],[])
abbrev dH.Y:=Int
abbrev dH.X:=Int
def dH.out:dH.X→aT:=fun x=>⟨.d (.int .u32) x,[],[]⟩
def dH.add:dH.D→dH.Y→dH.X:=fun(x,n) y=>y
def dH.aq:dH.D→Prop:=fun(x,n)=>0≤x∧x < 4294967296∧0≤n∧n≤32
def dH.F:dH.D→dH.Y:=fun(x,n)=>vw (ld (BitVec.ofInt 32 x) n.toNat)
noncomputable def dH.G:dU:=eZ (P:=Tryz.prog) []
noncomputable def dH.an:eu:= {}
noncomputable def dH.A:= @cq Tryz.prog dH.G dH.an 0 Tryz.f187 _ dH.st
abbrev dH.Ok:=cr @dH.A dH.aq dH.add dH.F dH.out
theorem dH.eq{R:Type}(x:Int)(n:Int)(k:aT→Option R):dH.A (x,n) k=
 aD (iU n) (
 aD (iU (bV .i64 (32:Int) n)) (
 k (dH.out (ct .or .u32 (bW .u32 x n) (jx .u32 x (bV .i64 (32:Int) n))))) none) none:=by kernel_rfl
theorem dH.ok:dH.Ok:=by
 rintro⟨x,n⟩ ⟨h1,h2,h3,h4⟩
 obtain⟨n,rfl⟩:=Int.eq_ofNat_of_zero_le h3
 have hx:x=vw (BitVec.ofInt 32 x):=by rw[gL];have h1:0≤x:=h1;have h2:x < 4294967296:=h2;omega
 have h4:(n:Int)≤32:=h4
 rw[dH.eq]
 simp(disch:=omega) only[↓S1,↓if_pos,↓if_neg,if_pos,if_neg,if_true,if_false,S2]
 have e2:ct .or .u32 (bW .u32 x (n:Int)) (jx .u32 x ((32 - n:Nat):Int))=vw (ld (BitVec.ofInt 32 x) n):=by
  conv=>lhs;rw[hx]
  rw[rf,pc,jr]
  simp only[ld,Int.toNat_natCast]
  rw[BitVec.or_comm]
 rw[e2]
 rfl
noncomputable def dH.E:=Entry.cD [some (.int .u32),some ti] dH.st dH.aq dH.add dH.F dH.out
noncomputable def dH.call:dH.D→Option dH.X:=bC dH.E dH.st
theorem dH.run:bD dH.call dH.aq dH.add dH.F:=cw (cv [.d (.int .u32),.d ti] fun _=>by kernel_rfl)
noncomputable def dH.sg:SG Tryz.prog:=⟨187,aK,dH.E,.fn 0 (by kernel_rfl) dH.ok trivial⟩
theorem dH.at(w:W){k:Int}(h:0≤k∧k≤32):dH.call (vw w,k)=some (vw (ld w k.toNat)):=by
 have h:dH.aq (vw w,k):=⟨s7 w,by have:=Fc w;simpa using this,h.1,h.2⟩
 rw[dH.run h]
 show some (vw (ld (BitVec.ofInt 32 (vw w)) k.toNat))=_
 rw[kD]
abbrev cX.D:=Unit
def cX.st:cX.D→SA:=fun _=>([],[])
abbrev cX.Y:=(List Int)
abbrev cX.X:=(List Int)
def cX.out:cX.X→aT:=fun x=>⟨.d (.slice (.int .u32)) x,[],[]⟩
def cX.add:cX.D→cX.Y→cX.X:=fun _ y=>y
def cX.aq:cX.D→Prop:=fun _=>True
def cX.F:cX.D→cX.Y:=fun _=>jV.l
noncomputable def cX.G:dU:=eZ (P:=Tryz.prog) []
noncomputable def cX.an:eu:= {bZ:=[1],res:=[some (.slice (.int .u32))]}
noncomputable def cX.A:= @cq Tryz.prog cX.G cX.an 0 Tryz.f179 _ cX.st
abbrev cX.Ok:=cr @cX.A cX.aq cX.add cX.F cX.out
theorem cX.eq{R:Type}(k:aT→Option R):cX.A () k=
 k (cX.out [(1779033703:Int),(3144134277:Int),(1013904242:Int),(2773480762:Int),(1359893119:Int),(2600822924:Int),(528734635:Int),(1541459225:Int)]):=by kernel_rfl
theorem cX.ok:cX.Ok:=by
 intro d _
 rw[cX.eq]
 rfl
noncomputable def cX.E:=Entry.cD [] cX.st cX.aq cX.add cX.F cX.out
noncomputable def cX.call:cX.D→Option cX.X:=bC cX.E cX.st
theorem cX.run:bD cX.call cX.aq cX.add cX.F:=cw (cv [] fun _=>by kernel_rfl)
noncomputable def cX.sg:SG Tryz.prog:=⟨179,aK,cX.E,.fn 0 (by kernel_rfl) cX.ok trivial⟩
abbrev eX.D:=Unit
def eX.st:eX.D→SA:=fun _=>([],[])
abbrev eX.Y:=(List Int)
abbrev eX.X:=(List Int)
def eX.out:eX.X→aT:=fun x=>⟨.d (.slice (.int .u32)) x,[],[]⟩
def eX.add:eX.D→eX.Y→eX.X:=fun _ y=>y
def eX.aq:eX.D→Prop:=fun _=>True
def eX.F:eX.D→eX.Y:=fun _=>sH
noncomputable def eX.G:dU:=eZ (P:=Tryz.prog) []
noncomputable def eX.an:eu:= {bZ:=[1],res:=[some (.slice (.int .u32))]}
noncomputable def eX.A:= @cq Tryz.prog eX.G eX.an 0 Tryz.f186 _ eX.st
abbrev eX.Ok:=cr @eX.A eX.aq eX.add eX.F eX.out
theorem eX.eq{R:Type}(k:aT→Option R):eX.A () k=
 k (eX.out [(1116352408:Int),(1899447441:Int),(3049323471:Int),(3921009573:Int),(961987163:Int),(1508970993:Int),(2453635748:Int),(2870763221:Int),(3624381080:Int),(310598401:Int),(607225278:Int),(1426881987:Int),(1925078388:Int),(2162078206:Int),(2614888103:Int),(3248222580:Int),(3835390401:Int),(4022224774:Int),(264347078:Int),(604807628:Int),(770255983:Int),(1249150122:Int),(1555081692:Int),(1996064986:Int),(2554220882:Int),(2821834349:Int),(2952996808:Int),(3210313671:Int),(3336571891:Int),(3584528711:Int),(113926993:Int),(338241895:Int),(666307205:Int),(773529912:Int),(1294757372:Int),(1396182291:Int),(1695183700:Int),(1986661051:Int),(2177026350:Int),(2456956037:Int),(2730485921:Int),(2820302411:Int),(3259730800:Int),(3345764771:Int),(3516065817:Int),(3600352804:Int),(4094571909:Int),(275423344:Int),(430227734:Int),(506948616:Int),(659060556:Int),(883997877:Int),(958139571:Int),(1322822218:Int),(1537002063:Int),(1747873779:Int),(1955562222:Int),(2024104815:Int),(2227730452:Int),(2361852424:Int),(2428436474:Int),(2756734187:Int),(3204031479:Int),(3329325298:Int)]):=by kernel_rfl
theorem eX.ok:eX.Ok:=by
 intro d _
 rw[eX.eq]
 rfl
noncomputable def eX.E:=Entry.cD [] eX.st eX.aq eX.add eX.F eX.out
noncomputable def eX.call:eX.D→Option eX.X:=bC eX.E eX.st
theorem eX.run:bD eX.call eX.aq eX.add eX.F:=cw (cv [] fun _=>by kernel_rfl)
noncomputable def eX.sg:SG Tryz.prog:=⟨186,aK,eX.E,.fn 0 (by kernel_rfl) eX.ok trivial⟩
abbrev aw.L0.D:=Bs×Nat×(List Int)
def aw.L0.st:aw.L0.D→AS:=fun(b_2,outL,n6)=>⟨([.d tB b_2,.undef,.undef,.cT (.new 6 0) 0 [] 0 0 outL]++bw 31 []),[],(cC 6 ([[.obj 0 false (.vec 5 tb n6)]]++cC 28 []))⟩
abbrev aw.L0.Y0:=Nat×(List Int)
abbrev aw.L0.X0:=(Bs)×(Nat×(List Int))
def aw.L0.bK:aw.L0.X0→Exit×AS:=fun x=>(.exit 0,⟨([.d tB x.1,.undef,.undef,.cT (.new 6 0) 0 [] 0 0 x.2.1]++bw 31 []),[],(cC 6 ([[.obj 0 false (.vec 5 tb x.2.2)]]++cC 28 []))⟩)
abbrev aw.L0.X:=aw.L0.X0
abbrev aw.L0.Y:=aw.L0.Y0
def aw.L0.out:aw.L0.X→Out (Exit×AS):=fun x=> .ok (aw.L0.bK x)
def aw.L0.add:aw.L0.D→aw.L0.Y→aw.L0.X:=fun(b_2,outL,n6) y=>(b_2,y)
abbrev aw.L1.D:=Nat×Int×Int×(List Int)
def aw.L1.st:aw.L1.D→AS:=fun(outL_2,n,kv,n6_2)=>⟨([.undef,.undef,.undef,.cT (.new 6 0) 0 [] 0 0 outL_2,.d tu n,.d ti kv]++bw 29 []),[],(cC 6 ([[.obj 0 false (.vec 5 tb n6_2)]]++cC 28 []))⟩
abbrev aw.L1.Y0:=Nat×(List Int)
abbrev aw.L1.X0:=Nat×(List Int)
def aw.L1.bK:aw.L1.X0→Exit×AS:=fun x=>(.exit 2,⟨([.undef,.undef,.undef,.cT (.new 6 0) 0 [] 0 0 x.1]++bw 31 []),[],(cC 6 ([[.obj 0 false (.vec 5 tb x.2)]]++cC 28 []))⟩)
abbrev aw.L1.X:=aw.L1.X0
abbrev aw.L1.Y:=aw.L1.Y0
def aw.L1.out:aw.L1.X→Out (Exit×AS):=fun x=> .ok (aw.L1.bK x)
def aw.L1.add:aw.L1.D→aw.L1.Y→aw.L1.X:=fun(outL_2,n,kv,n6_2) y=>y
abbrev aw.D:=Bs
def aw.st:aw.D→SA:=fun b=>([.d tB b],[])
abbrev aw.Y:=Bs
abbrev aw.X:=Bs
def aw.out:aw.X→aT:=fun x=>⟨.d tB x,[],[]⟩
def aw.add:aw.D→aw.Y→aw.X:=fun b y=>y
def aw.L0.aq:aw.L0.D→Prop:=fun(b,m,l)=>m=l.length∧l.length+zc l.length≤140737488355328
def aw.L0.F:aw.L0.D→aw.L0.Y:=fun(b,m,l)=>(l.length+zc l.length,l++List.replicate (zc l.length) 0)
def aw.L1.aq:aw.L1.D→Prop:=fun(m,n,kv,l)=>0≤n∧n < 18446744073709551616∧∃j:Nat,j≤8∧kv=56 - 8*(j:Int)∧m=l.length∧l.length≤140737488355320+j
def aw.L1.F:aw.L1.D→aw.L1.Y:=fun(m,n,kv,l)=>(l.length+(iA n).length - (7 - (kv / 8)).toNat,l++(iA n).drop (7 - (kv / 8)).toNat)
def aw.aq:aw.D→Prop:=fun b=>b.length≤140737488350000
def aw.F:aw.D→aw.Y:=fun b=>pad b
noncomputable def aw.G:dU:=eZ (P:=Tryz.prog) []
noncomputable def aw.L0.E:=cf.cD aw.L0.st aw.L0.aq aw.L0.add aw.L0.F aw.L0.out
noncomputable def aw.L0.call:aw.L0.D→Option aw.L0.X:=dL aw.L0.E aw.L0.st
noncomputable def aw.L1.E:=cf.cD aw.L1.st aw.L1.aq aw.L1.add aw.L1.F aw.L1.out
noncomputable def aw.L1.call:aw.L1.D→Option aw.L1.X:=dL aw.L1.E aw.L1.st
noncomputable def aw.an:eu:= {bZ:=[6],loops:=ki [(3,{bu:=[0,3],sites:=[6],j6:=[⟨3,[],6,135⟩]}),(7,{bu:=[3,4,5],sites:=[6],j6:=[⟨3,[],6,135⟩]})],outs:=kh [(3,{bu:=[0,3],sites:=[6]},{bu:=[2]}),(7,{bu:=[3],sites:=[6]},{bu:=[2]})],gq:=lv [(3,aw.L0.E),(7,aw.L1.E)],res:=[some tB]}
noncomputable def aw.A:= @cq Tryz.prog aw.G aw.an 0 Tryz.f178 _ aw.st
abbrev aw.Ok:=cr @aw.A aw.aq aw.add aw.F aw.out
noncomputable def aw.L0.R:= @cM Tryz.prog aw.G aw.an 0 Tryz.f178 0 _ aw.L0.st
abbrev aw.L0.Ok:=fk Tryz.prog aw.G aw.an 0 Tryz.f178 0 aw.L0.st aw.L0.aq aw.L0.add aw.L0.F aw.L0.out
noncomputable def aw.L1.R:= @cM Tryz.prog aw.G aw.an 0 Tryz.f178 1 _ aw.L1.st
abbrev aw.L1.Ok:=fk Tryz.prog aw.G aw.an 0 Tryz.f178 1 aw.L1.st aw.L1.aq aw.L1.add aw.L1.F aw.L1.out
theorem aw.L0.run:bD aw.L0.call aw.L0.aq aw.L0.add aw.L0.F:=fy (fx [.d tB,.n,.d tB] fun _=>by kernel_rfl)
theorem aw.L0.aE:fY @aw.L0.R aw.L0.st aw.L0.aq aw.L0.add aw.L0.F aw.L0.bK aw.L0.Ok:=gj
theorem aw.L0.step{R:Type}(b_2:Bs)(outL:Nat)(n6:(List Int))(kn:AS→Option R)(kx:Exit→AS→Option R):aw.L0.R (b_2,outL,n6) kn kx=
  aD ((qQ (fI ((outL:Nat):Int) (64:Int)) (56:Int))) (
   aD (decide (outL≤(List.length n6))) (
   aD (dK (outL+1) 1) (
   kn (aw.L0.st (b_2,(outL+1),((List.take outL n6)++ [(0:Int)])))) none) none) (
   kx (aw.L0.bK (b_2,(outL,n6))).1 (aw.L0.bK (b_2,(outL,n6))).2):=by kernel_rfl
theorem aw.L1.run:bD aw.L1.call aw.L1.aq aw.L1.add aw.L1.F:=fy (fx [.n,.d tu,.d ti,.d tB] fun _=>by kernel_rfl)
theorem aw.L1.aE:fY @aw.L1.R aw.L1.st aw.L1.aq aw.L1.add aw.L1.F aw.L1.bK aw.L1.Ok:=gj
theorem aw.L1.step{R:Type}(outL_2:Nat)(n:Int)(kv:Int)(n6_2:(List Int))(kn:AS→Option R)(kx:Exit→AS→Option R):aw.L1.R (outL_2,n,kv,n6_2) kn kx=
  aD ((lk kv (0:Int))) (
   aD (iU kv) (
   aD (decide (outL_2≤(List.length n6_2))) (
   aD (dK (outL_2+1) 1) (
   kn (aw.L1.st ((outL_2+1),n,(bV .i64 kv (8:Int)),((List.take outL_2 n6_2)++ [(dG .u8 (bW .u64 n kv))])))) none) none) none) (
   kx (aw.L1.bK (outL_2,n6_2)).1 (aw.L1.bK (outL_2,n6_2)).2):=by kernel_rfl
theorem aw.eq{R:Type}(b:Bs)(k:aT→Option R):aw.A b k=
 aD (dK (0+(List.length b)) 1) (
 aD (decide ((0+(List.length b))≤(List.length ((List.take 0 (List.replicate 0 (0:Int)))++b)))) (
 aD (dK ((0+(List.length b))+1) 1) (
 ab (aw.L0.call (b,((0+(List.length b))+1),((List.take (0+(List.length b)) ((List.take 0 (List.replicate 0 (0:Int)))++b))++ [(128:Int)]))) fun x1=>
 ab (aw.L1.call (x1.2.1,(eK .u64 (8:Int) (dG .u64 (((List.length x1.1):Nat):Int))),(56:Int),x1.2.2)) fun x2=>
 aD (decide (0=0∧(0+x2.1)≤(List.length x2.2))) (
 k (aw.out (cut x2.2 0 x2.1))) none) none) none) none:=by kernel_rfl
theorem aw.L0.ok:aw.L0.Ok:=by
 refine aw.L0.aE (fun(b,m,l)=>zc l.length) ?_
 rintro⟨b,m,l⟩ ⟨rfl,hl⟩
 have hl:l.length+zc l.length≤140737488355328:=hl
 by_cases h:l.length%64=56
 ·right
  intro R kn kx
  have hz:zc l.length=0:=by unfold zc;omega
  rw[aw.L0.step]
  simp(disch:=omega) only[↓S1,↓if_pos,↓if_neg,if_pos,if_neg,if_true,if_false,S2,aw.L0.add,aw.L0.F,hz,Nat.add_zero,List.replicate_zero,List.append_nil]
 ·left
  have hz:zc l.length=zc (l.length+1)+1:=by unfold zc;omega
  refine⟨(b,l.length+1,l++ [0]),⟨by simp,by simp only[List.length_append,List.length_cons,List.length_nil,Nat.zero_add];omega⟩,by simp only[List.length_append,List.length_cons,List.length_nil,Nat.zero_add];omega,?_,fun kn kx=> ?_⟩
  ·simp only[aw.L0.add,aw.L0.F,List.length_append,List.length_cons,List.length_nil,Nat.zero_add,hz,List.append_assoc,List.cons_append,List.nil_append,List.replicate_succ]
   rw[show l.length+1+zc (l.length+1)=l.length+(zc (l.length+1)+1) by omega]
  ·rw[aw.L0.step]
   simp(disch:=omega) only[↓S1,↓if_pos,↓if_neg,if_pos,if_neg,if_true,if_false,S2,List.take_length]
theorem DD(n:Int)(j:Nat)(h:j < 8):(iA n).drop j=n / 2^(56 - 8*j)%256::(iA n).drop (j+1):=by
 rcases(by omega:j=0∨j=1∨j=2∨j=3∨j=4∨j=5∨j=6∨j=7) with rfl | rfl | rfl | rfl | rfl | rfl | rfl | rfl <;> simp[iA]
theorem Am(n:Int)(k:Nat)(h1:k≤64):dG .u8 (bW .u64 n (k:Int))=n / 2^k%256:=by
 rw[uH,gL,bW]
 have e:min (k:Int).toNat IntKind.u64.bits=k:=by simp only[IntKind.bits];omega
 rw[e,Int.fdiv_eq_ediv_of_nonneg _ (Int.le_of_lt (Int.pow_pos (by omega)))]
 rfl
theorem aw.L1.ok:aw.L1.Ok:=by
 refine aw.L1.aE (fun(m,n,kv,l)=>(kv+8).toNat) ?_
 rintro⟨m,n,kv,l⟩ ⟨h1,h2,j,hj,rfl,rfl,hl⟩
 have hl:l.length≤140737488355320+j:=hl
 have e1:(7 - ((56 - 8*(j:Int)) / 8)).toNat=j:=by omega
 by_cases h:j < 8
 ·left
  have e2:bV .i64 (56 - 8*(j:Int)) 8=56 - 8*((j+1:Nat):Int):=by rw[fi (by omega) (by omega)];omega
  have e3:(7 - ((56 - 8*((j+1:Nat):Int)) / 8)).toNat=j+1:=by omega
  have e4:(56 - 8*(j:Int))=((56 - 8*j:Nat):Int):=by omega
  refine⟨(l.length+1,n,56 - 8*((j+1:Nat):Int),l++ [n / 2^(56 - 8*j)%256]),⟨h1,h2,j+1,by omega,rfl,by simp,by simp only[List.length_append,List.length_cons,List.length_nil];omega⟩,by simp only;omega,?_,fun kn kx=> ?_⟩
  ·simp only[aw.L1.add,aw.L1.F,e1,e3,DD n j h,List.length_append,List.length_cons,List.length_nil,List.append_assoc,List.cons_append,List.nil_append,cO]
   rw[show l.length+(0+1)+8 - (j+1)=l.length+8 - j by omega]
  ·rw[aw.L1.step,e2,e4,Am n _ (by omega)]
   simp(disch:=omega) only[↓S1,↓if_pos,↓if_neg,if_pos,if_neg,if_true,if_false,S2,List.take_length]
 ·right
  obtain rfl:j=8:=by omega
  intro R kn kx
  rw[aw.L1.step]
  simp(disch:=omega) only[↓S1,↓if_pos,↓if_neg,if_pos,if_neg,if_true,if_false,S2,aw.L1.add,aw.L1.F,e1]
  simp[iA]
theorem aw.ok:aw.Ok:=by
 intro b hb
 have hb:b.length≤140737488350000:=hb
 have hz:zc (b++ [128]).length=mD b.length:=by
  simp only[List.length_append,List.length_cons,List.length_nil,zc,mD]
  omega
 have hzb:mD b.length < 64:=by unfold mD;omega
 have p1:aw.L0.aq (b,b.length+1,b++ [128]):=⟨by simp,by rw[hz];simp only[List.length_append,List.length_cons,List.length_nil] <;> omega⟩
 have e1:dG .u64 ((b.length:Nat):Int)=((b.length:Nat):Int):=by rw[xJ,gL];omega
 have e2:eK .u64 8 ((b.length:Nat):Int)=8*(b.length:Int):=by
  unfold eK;rw[wrap_u64,gL];omega
 have e3:List.take b.length b=b:=List.take_length
 rw[aw.eq]
 simp only[List.replicate_zero,List.take_nil,List.nil_append,Nat.zero_add,e1,e2,e3]
 simp(disch:=omega) only[↓S1,↓if_pos,↓if_neg,if_pos,if_neg,if_true,if_false,S2,aw.L0.run p1,aw.L0.add,aw.L0.F,hz]
 have p2:aw.L1.aq ((b++ [128]).length+mD b.length,8*(b.length:Int),56,b++ [128]++List.replicate (mD b.length) 0):=by
  refine⟨by omega,by omega,0,by omega,rfl,by simp only[List.length_append,List.length_cons,List.length_nil,List.length_replicate] <;> omega,?_⟩
  simp only[List.length_append,List.length_cons,List.length_nil,List.length_replicate]
  omega
 simp(disch:=omega) only[↓S1,↓if_pos,↓if_neg,if_pos,if_neg,if_true,if_false,S2,e1,e2,aw.L1.run p2,aw.L1.add,aw.L1.F]
 have e5:(7 - ((56:Int) / 8)).toNat=0:=by decide
 rw[e5,List.drop_zero]
 have e6:(b++ [128]++List.replicate (mD b.length) 0).length+(iA (8*(b.length:Int))).length - 0=(b++ [128]++List.replicate (mD b.length) 0++iA (8*(b.length:Int))).length:=by rw[@List.length_append _ _ (iA _)];omega
 rw[e6,if_pos (Nat.le_refl _)]
 unfold cut
 rw[List.drop_zero,List.take_length]
 simp only[aw.add,aw.F,pad,List.append_assoc,List.cons_append,List.nil_append]
noncomputable def aw.E:=Entry.cD [some tB] aw.st aw.aq aw.add aw.F aw.out
noncomputable def aw.call:aw.D→Option aw.X:=bC aw.E aw.st
theorem aw.run:bD aw.call aw.aq aw.add aw.F:=cw (cv [.d tB] fun _=>by kernel_rfl)
noncomputable def aw.sg:SG Tryz.prog:=⟨178,aK,aw.E,.fn 2 (by kernel_rfl) aw.ok (And.intro (.cD aw.L0.ok (by kernel_rfl)) (And.intro (.cD aw.L1.ok (by kernel_rfl)) trivial))⟩
set_option synthInstance.maxSize 5000
abbrev aI.L0.D:=Bs×Nat×Int×(List Int)
def aI.L0.st:aI.L0.D→AS:=fun(b_2,wL,i,n49)=>⟨([.d tB b_2,.undef,.undef,.cT (.new 49 0) 0 [] 0 0 wL,.d ti i]++bw 94 []),[],(cC 49 ([[.obj 0 false (.vec 25 (.int .u32) n49)]]++cC 49 []))⟩
abbrev aI.L0.Y0:=Nat×(List Int)
abbrev aI.L0.X0:=Nat×(List Int)
def aI.L0.bK:aI.L0.X0→Exit×AS:=fun x=>(.exit 0,⟨([.undef,.undef,.undef,.cT (.new 49 0) 0 [] 0 0 x.1]++bw 95 []),[],(cC 49 ([[.obj 0 false (.vec 25 (.int .u32) x.2)]]++cC 49 []))⟩)
abbrev aI.L0.X:=aI.L0.X0
abbrev aI.L0.Y:=aI.L0.Y0
def aI.L0.out:aI.L0.X→Out (Exit×AS):=fun x=> .ok (aI.L0.bK x)
def aI.L0.add:aI.L0.D→aI.L0.Y→aI.L0.X:=fun(b_2,wL,i,n49) y=>y
abbrev aI.L1.D:=Nat×Int×(List Int)
def aI.L1.st:aI.L1.D→AS:=fun(wL_2,i_2,n49_2)=>⟨([.undef,.undef,.undef,.cT (.new 49 0) 0 [] 0 0 wL_2,.undef,.d ti i_2]++bw 93 []),[],(cC 49 ([[.obj 0 false (.vec 25 (.int .u32) n49_2)]]++cC 49 []))⟩
abbrev aI.L1.Y0:=Nat×(List Int)
abbrev aI.L1.X0:=Nat×(List Int)
def aI.L1.bK:aI.L1.X0→Exit×AS:=fun x=>(.exit 2,⟨([.undef,.undef,.undef,.cT (.new 49 0) 0 [] 0 0 x.1]++bw 95 []),[],(cC 49 ([[.obj 0 false (.vec 25 (.int .u32) x.2)]]++cC 49 []))⟩)
abbrev aI.L1.X:=aI.L1.X0
abbrev aI.L1.Y:=aI.L1.Y0
def aI.L1.out:aI.L1.X→Out (Exit×AS):=fun x=> .ok (aI.L1.bK x)
def aI.L1.add:aI.L1.D→aI.L1.Y→aI.L1.X:=fun(wL_2,i_2,n49_2) y=>y
abbrev aI.D:=Bs
def aI.st:aI.D→SA:=fun b=>([.d tB b],[])
abbrev aI.Y:=(List Int)
abbrev aI.X:=(List Int)
def aI.out:aI.X→aT:=fun x=>⟨.d (.slice (.int .u32)) x,[],[]⟩
def aI.add:aI.D→aI.Y→aI.X:=fun b y=>y
def aI.L0.aq:aI.L0.D→Prop:=fun(b,m,i,l)=>64≤b.length∧∃k:Nat,k≤16∧i=k∧k=m∧l=wl ((words b).take k)
def aI.L0.F:aI.L0.D→aI.L0.Y:=fun(b,m,i,l)=>(16,wl (words b))
def aI.L1.aq:aI.L1.D→Prop:=fun(m,i,l)=>∃ws:List W,16≤ws.length∧ws.length≤64∧l=wl ws∧m=ws.length∧i=(ws.length:Nat)
def aI.L1.F:aI.L1.D→aI.L1.Y:=fun(m,i,l)=>(64,wl (Fm (Fa l) (64 - l.length)))
def aI.aq:aI.D→Prop:=fun b=>64≤b.length
def aI.F:aI.D→aI.Y:=fun b=>wl (sched b)
noncomputable def aI.G:dU:=eZ (P:=Tryz.prog) [dH.sg]
noncomputable def aI.L0.E:=cf.cD aI.L0.st aI.L0.aq aI.L0.add aI.L0.F aI.L0.out
noncomputable def aI.L0.call:aI.L0.D→Option aI.L0.X:=dL aI.L0.E aI.L0.st
noncomputable def aI.L1.E:=cf.cD aI.L1.st aI.L1.aq aI.L1.add aI.L1.F aI.L1.out
noncomputable def aI.L1.call:aI.L1.D→Option aI.L1.X:=dL aI.L1.E aI.L1.st
noncomputable def aI.an:eu:= {loops:=ki [(3,{bu:=[0,3,4],sites:=[49],j6:=[⟨3,[],49,253⟩]}),(7,{bu:=[3,5],sites:=[49],j6:=[⟨3,[],49,253⟩]})],outs:=kh [(3,{bu:=[3],sites:=[49]},{bu:=[2]}),(7,{bu:=[3],sites:=[49]},{bu:=[2]})],gq:=lv [(3,aI.L0.E),(7,aI.L1.E)],res:=[some (.slice (.int .u32))]}
noncomputable def aI.A:= @cq Tryz.prog aI.G aI.an 0 Tryz.f185 _ aI.st
abbrev aI.Ok:=cr @aI.A aI.aq aI.add aI.F aI.out
noncomputable def aI.L0.R:= @cM Tryz.prog aI.G aI.an 0 Tryz.f185 0 _ aI.L0.st
abbrev aI.L0.Ok:=fk Tryz.prog aI.G aI.an 0 Tryz.f185 0 aI.L0.st aI.L0.aq aI.L0.add aI.L0.F aI.L0.out
noncomputable def aI.L1.R:= @cM Tryz.prog aI.G aI.an 0 Tryz.f185 1 _ aI.L1.st
abbrev aI.L1.Ok:=fk Tryz.prog aI.G aI.an 0 Tryz.f185 1 aI.L1.st aI.L1.aq aI.L1.add aI.L1.F aI.L1.out
theorem aI.L0.run:bD aI.L0.call aI.L0.aq aI.L0.add aI.L0.F:=fy (fx [.d tB,.n,.d ti,.d (.slice (.int .u32))] fun _=>by kernel_rfl)
theorem aI.L0.aE:fY @aI.L0.R aI.L0.st aI.L0.aq aI.L0.add aI.L0.F aI.L0.bK aI.L0.Ok:=gj
theorem aI.L0.step{R:Type}(b_2:Bs)(wL:Nat)(i:Int)(n49:(List Int))(kn:AS→Option R)(kx:Exit→AS→Option R):aI.L0.R (b_2,wL,i,n49) kn kx=
  aD ((gM i (16:Int))) (
   aD (dZ (eK .i64 (4:Int) i) (((List.length b_2):Nat):Int)) (
   aD (dZ (bo .i64 (eK .i64 (4:Int) i) (1:Int)) (((List.length b_2):Nat):Int)) (
   aD (dZ (bo .i64 (eK .i64 (4:Int) i) (2:Int)) (((List.length b_2):Nat):Int)) (
   aD (dZ (bo .i64 (eK .i64 (4:Int) i) (3:Int)) (((List.length b_2):Nat):Int)) (
   aD (decide (wL≤(List.length n49))) (
   aD (dK (wL+1) 4) (
   kn (aI.L0.st (b_2,(wL+1),(bo .i64 i (1:Int)),((List.take wL n49)++ [(ct .or .u32 (ct .or .u32 (ct .or .u32 (jx .u32 (dG .u32 (nth tb b_2 (Int.toNat (eK .i64 (4:Int) i)))) (24:Int)) (jx .u32 (dG .u32 (nth tb b_2 (Int.toNat (bo .i64 (eK .i64 (4:Int) i) (1:Int))))) (16:Int))) (jx .u32 (dG .u32 (nth tb b_2 (Int.toNat (bo .i64 (eK .i64 (4:Int) i) (2:Int))))) (8:Int))) (dG .u32 (nth tb b_2 (Int.toNat (bo .i64 (eK .i64 (4:Int) i) (3:Int))))))])))) none) none) none) none) none) none) (
   kx (aI.L0.bK (wL,n49)).1 (aI.L0.bK (wL,n49)).2):=by kernel_rfl
theorem aI.L1.run:bD aI.L1.call aI.L1.aq aI.L1.add aI.L1.F:=fy (fx [.n,.d ti,.d (.slice (.int .u32))] fun _=>by kernel_rfl)
theorem aI.L1.aE:fY @aI.L1.R aI.L1.st aI.L1.aq aI.L1.add aI.L1.F aI.L1.bK aI.L1.Ok:=gj
theorem aI.L1.step{R:Type}(wL_2:Nat)(i_2:Int)(n49_2:(List Int))(kn:AS→Option R)(kx:Exit→AS→Option R):aI.L1.R (wL_2,i_2,n49_2) kn kx=
  aD ((gM i_2 (64:Int))) (
   aD (dZ (bV .i64 i_2 (15:Int)) ((wL_2:Nat):Int)) (
   aD (decide ((0+(Int.toNat (bV .i64 i_2 (15:Int)))) < (List.length n49_2))) (
   aD (decide ((((0+(Int.toNat (bV .i64 i_2 (15:Int))))*1)+0)=(0+((Int.toNat (bV .i64 i_2 (15:Int)))*1)))) (
   aD (dZ (bV .i64 i_2 (2:Int)) ((wL_2:Nat):Int)) (
   aD (decide ((0+(Int.toNat (bV .i64 i_2 (2:Int)))) < (List.length n49_2))) (
   aD (decide ((((0+(Int.toNat (bV .i64 i_2 (2:Int))))*1)+0)=(0+((Int.toNat (bV .i64 i_2 (2:Int)))*1)))) (
   ab (dH.call ((nth (.int .u32) n49_2 (0+(Int.toNat (bV .i64 i_2 (15:Int))))),(7:Int))) fun x1=>
   ab (dH.call ((nth (.int .u32) n49_2 (0+(Int.toNat (bV .i64 i_2 (15:Int))))),(18:Int))) fun x2=>
   ab (dH.call ((nth (.int .u32) n49_2 (0+(Int.toNat (bV .i64 i_2 (2:Int))))),(17:Int))) fun x3=>
   ab (dH.call ((nth (.int .u32) n49_2 (0+(Int.toNat (bV .i64 i_2 (2:Int))))),(19:Int))) fun x4=>
   aD (dZ (bV .i64 i_2 (16:Int)) ((wL_2:Nat):Int)) (
   aD (decide ((0+(Int.toNat (bV .i64 i_2 (16:Int)))) < (List.length n49_2))) (
   aD (decide ((((0+(Int.toNat (bV .i64 i_2 (16:Int))))*1)+0)=(0+((Int.toNat (bV .i64 i_2 (16:Int)))*1)))) (
   aD (dZ (bV .i64 i_2 (7:Int)) ((wL_2:Nat):Int)) (
   aD (decide ((0+(Int.toNat (bV .i64 i_2 (7:Int)))) < (List.length n49_2))) (
   aD (decide ((((0+(Int.toNat (bV .i64 i_2 (7:Int))))*1)+0)=(0+((Int.toNat (bV .i64 i_2 (7:Int)))*1)))) (
   aD (decide (wL_2≤(List.length n49_2))) (
   aD (dK (wL_2+1) 4) (
   kn (aI.L1.st ((wL_2+1),(bo .i64 i_2 (1:Int)),((List.take wL_2 n49_2)++ [(bo .u32 (bo .u32 (bo .u32 (nth (.int .u32) n49_2 (0+(Int.toNat (bV .i64 i_2 (16:Int))))) (ct .xor .u32 (ct .xor .u32 x1 x2) (bW .u32 (nth (.int .u32) n49_2 (0+(Int.toNat (bV .i64 i_2 (15:Int))))) (3:Int)))) (nth (.int .u32) n49_2 (0+(Int.toNat (bV .i64 i_2 (7:Int)))))) (ct .xor .u32 (ct .xor .u32 x3 x4) (bW .u32 (nth (.int .u32) n49_2 (0+(Int.toNat (bV .i64 i_2 (2:Int))))) (10:Int))))])))) none) none) none) none) none) none) none) none) none) none) none) none) none) none) (
   kx (aI.L1.bK (wL_2,n49_2)).1 (aI.L1.bK (wL_2,n49_2)).2):=by kernel_rfl
theorem aI.eq{R:Type}(b:Bs)(k:aT→Option R):aI.A b k=
 ab (aI.L0.call (b,0,(0:Int),([]:List Int))) fun x1=>
 ab (aI.L1.call (x1.1,(16:Int),x1.2)) fun x10=>
 aD (decide (0=0∧(0+x10.1)≤(List.length x10.2))) (
 k (aI.out (cut x10.2 0 x10.1))) none:=by kernel_rfl
theorem mr(ws:List W):(wl ws).length=ws.length:=by simp[wl]
theorem Cm(m:List W):∀n,Fm (ext m) n=Fm m (n+1)
 | 0=>rfl
 |n+1=>by rw[Fm,Cm m n];rfl
theorem GH(b:List Int)(k:Nat)(h:4*k+3 < b.length):be b k=HR (nth (.int .u8) b (4*k)) (nth (.int .u8) b (4*k+1)) (nth (.int .u8) b (4*k+2)) (nth (.int .u8) b (4*k+3)):=rfl
theorem aI.L0.ok:aI.L0.Ok:=by
 refine aI.L0.aE (fun(b,m,i,l)=>16 - m) ?_
 rintro⟨b,m,i,l⟩ ⟨hb,k,hk,rfl,rfl,rfl⟩
 have hb:64≤b.length:=hb
 have hl:(wl ((words b).take k)).length=k:=by rw[mr,List.length_take,fb];omega
 by_cases h:k < 16
 ·left
  refine⟨(b,k+1,((k+1:Nat):Int),wl ((words b).take (k+1))),⟨hb,k+1,by omega,rfl,rfl,rfl⟩,by simp only;omega,rfl,fun kn kx=> ?_⟩
  rw[aI.L0.step]
  simp(disch:=omega) only[↓S1,↓if_pos,↓if_neg,if_pos,if_neg,if_true,if_false,S2,hl,List.take_of_length_le (Nat.le_of_eq hl)]
  rw[List.take_succ_eq_append_getElem (by rw[fb];exact h)]
  simp only[BR,rf,jr,wl,List.map_append,List.map_cons,List.map_nil]
  have e:(words b)[k]'(by rw[fb];exact h)=be b k:=by simp[words]
  rw[e,GH b k (by omega)]
  rfl
 ·right
  obtain rfl:k=16:=by omega
  intro R kn kx
  rw[aI.L0.step]
  simp(disch:=omega) only[↓S1,↓if_pos,↓if_neg,if_pos,if_neg,if_true,if_false,S2,aI.L0.add,aI.L0.F]
  rw[List.take_of_length_le (by rw[fb];omega)]
theorem aI.L1.ok:aI.L1.Ok:=by
 refine aI.L1.aE (fun(m,i,l)=>64 - m) ?_
 rintro⟨m,i,l⟩ ⟨ws,h1,h2,rfl,rfl,rfl⟩
 have hl:=mr ws
 by_cases h:ws.length < 64
 ·left
  refine⟨(ws.length+1,((ws.length+1:Nat):Int),wl (ext ws)),⟨ext ws,by rw[kU];omega,by rw[kU];omega,rfl,by rw[kU],by rw[kU]⟩,by simp only;omega,?_,fun kn kx=> ?_⟩
  ·simp only[aI.L1.add,aI.L1.F,ow,mr,kU]
   rw[Cm,show 64 - (ws.length+1)+1=64 - ws.length by omega]
  ·rw[aI.L1.step]
   simp(disch:=omega) only[↓S1,↓if_pos,↓if_neg,if_pos,if_neg,if_true,if_false,S2,hl,Nat.zero_add,Nat.mul_one,Nat.add_zero,s9 ws _ (by omega:ws.length - 15 < ws.length),s9 ws _ (by omega:ws.length - 2 < ws.length),s9 ws _ (by omega:ws.length - 16 < ws.length),s9 ws _ (by omega:ws.length - 7 < ws.length),dH.at,jr,pc,nM,List.take_of_length_le (Nat.le_of_eq hl)]
   unfold ext wl
   rw[List.map_append]
   rfl
 ·right
  have h64:ws.length=64:=by omega
  intro R kn kx
  rw[aI.L1.step]
  simp(disch:=omega) only[↓S1,↓if_pos,↓if_neg,if_pos,if_neg,if_true,if_false,S2,aI.L1.add,aI.L1.F,hl,h64,ow,Nat.sub_self]
  rfl
theorem aI.ok:aI.Ok:=by
 intro b hb
 have p1:aI.L0.aq (b,0,0,[]):=⟨hb,0,by omega,rfl,rfl,rfl⟩
 have p2:aI.L1.aq (16,16,wl (words b)):=⟨words b,by rw[fb];omega,by rw[fb];omega,rfl,by rw[fb],by rw[fb];rfl⟩
 have hs:(sched b).length=64:=by unfold sched;rw[mP,fb]
 rw[aI.eq]
 simp(disch:=omega) only[↓S1,↓if_pos,↓if_neg,if_pos,if_neg,if_true,if_false,S2,aI.L0.run p1,aI.L0.add,aI.L0.F,aI.L1.run p2,aI.L1.add,aI.L1.F,ow,mr,fb,Nat.zero_add,Nat.reduceSub]
 have e:Fm (words b) 48=sched b:=rfl
 rw[e,hs,if_pos (Nat.le_refl _)]
 unfold cut
 rw[List.drop_zero,List.take_of_length_le (by rw[mr];omega)]
 simp only[aI.add,aI.F]
noncomputable def aI.E:=Entry.cD [some tB] aI.st aI.aq aI.add aI.F aI.out
noncomputable def aI.call:aI.D→Option aI.X:=bC aI.E aI.st
theorem aI.run:bD aI.call aI.aq aI.add aI.F:=cw (cv [.d tB] fun _=>by kernel_rfl)
noncomputable def aI.sg:SG Tryz.prog:=⟨185,aK,aI.E,.fn 2 (by kernel_rfl) aI.ok (And.intro (.cD aI.L0.ok (by kernel_rfl)) (And.intro (.cD aI.L1.ok (by kernel_rfl)) trivial))⟩
set_option synthInstance.maxSize 5000
abbrev aH.L0.D:=(List Int)×(List Int)×(List Int)×Nat×Int×(List Int)
def aH.L0.st:aH.L0.D→AS:=fun(h_2,wv,kv,vL,i,n18)=>⟨([.d (.slice (.int .u32)) h_2]++bw 4 ([.d (.slice (.int .u32)) wv,.d (.slice (.int .u32)) kv,.cT (.new 18 0) 0 [] 0 0 vL,.d ti i]++bw 146 [])),[],(cC 18 ([[.obj 0 false (.vec 25 (.int .u32) n18)]]++cC 136 []))⟩
abbrev aH.L0.Y0:=Nat×(List Int)
abbrev aH.L0.X0:=((List Int))×(Nat×(List Int))
def aH.L0.bK:aH.L0.X0→Exit×AS:=fun x=>(.exit 0,⟨([.d (.slice (.int .u32)) x.1]++bw 6 ([.cT (.new 18 0) 0 [] 0 0 x.2.1]++bw 147 [])),[],(cC 18 ([[.obj 0 false (.vec 25 (.int .u32) x.2.2)]]++cC 136 []))⟩)
abbrev aH.L0.X:=aH.L0.X0
abbrev aH.L0.Y:=aH.L0.Y0
def aH.L0.out:aH.L0.X→Out (Exit×AS):=fun x=> .ok (aH.L0.bK x)
def aH.L0.add:aH.L0.D→aH.L0.Y→aH.L0.X:=fun(h_2,wv,kv,vL,i,n18) y=>(h_2,y)
abbrev aH.L1.D:=(List Int)×Nat×Int×(List Int)
def aH.L1.st:aH.L1.D→AS:=fun(h_3,vL_2,i_2,n18_2)=>⟨([.d (.slice (.int .u32)) h_3]++bw 6 ([.cT (.new 18 0) 0 [] 0 0 vL_2]++bw 6 ([.d ti i_2]++bw 140 []))),[],(cC 18 ([[.obj 0 false (.vec 25 (.int .u32) n18_2)]]++cC 136 []))⟩
abbrev aH.L1.Y0:=(List Int)
abbrev aH.L1.X0:=(Nat)×((List Int))
def aH.L1.bK:aH.L1.X0→Exit×AS:=fun x=>(.exit 2,⟨(bw 7 ([.cT (.new 18 0) 0 [] 0 0 x.1]++bw 147 [])),[],(cC 18 ([[.obj 0 false (.vec 25 (.int .u32) x.2)]]++cC 136 []))⟩)
abbrev aH.L1.X:=aH.L1.X0
abbrev aH.L1.Y:=aH.L1.Y0
def aH.L1.out:aH.L1.X→Out (Exit×AS):=fun x=> .ok (aH.L1.bK x)
def aH.L1.add:aH.L1.D→aH.L1.Y→aH.L1.X:=fun(h_3,vL_2,i_2,n18_2) y=>(vL_2,y)
abbrev aH.D:=(List Int)×Bs
def aH.st:aH.D→SA:=fun(h,b)=>([.d (.slice (.int .u32)) h,.d tB b],[])
abbrev aH.Y:=(List Int)
abbrev aH.X:=(List Int)
def aH.out:aH.X→aT:=fun x=>⟨.d (.slice (.int .u32)) x,[],[]⟩
def aH.add:aH.D→aH.Y→aH.X:=fun(h,b) y=>y
def aH.L0.aq:aH.L0.D→Prop:=fun(h,wv,kv,m,i,l)=>∃(s:St) (ws:List W) (k:Nat),h=s.l∧wv=wl ws∧ws.length=64∧k≤64∧i=k∧kv=sH∧m=8∧l=(rounds ws s k).l
def aH.L0.F:aH.L0.D→aH.L0.Y:=fun(h,wv,kv,m,i,l)=>(8,(rounds (Fa wv) (yo h) 64).l)
def aH.L1.aq:aH.L1.D→Prop:=fun(h,m,i,l)=>h.length=8∧l.length=8∧m=8∧∃k:Nat,k≤8∧i=k
def aH.L1.F:aH.L1.D→aH.L1.Y:=fun(h,m,i,l)=>from_ (fun i x=>bo .u32 x (nth (.int .u32) h i)) i.toNat l
def aH.aq:aH.D→Prop:=fun(h,b)=>(∃s:St,h=s.l)∧64≤b.length
def aH.F:aH.D→aH.Y:=fun(h,b)=>(sL (yo h) b).l
noncomputable def aH.G:dU:=eZ (P:=Tryz.prog) [aI.sg,eX.sg,dH.sg]
noncomputable def aH.L0.E:=cf.cD aH.L0.st aH.L0.aq aH.L0.add aH.L0.F aH.L0.out
noncomputable def aH.L0.call:aH.L0.D→Option aH.L0.X:=dL aH.L0.E aH.L0.st
noncomputable def aH.L1.E:=cf.cD aH.L1.st aH.L1.aq aH.L1.add aH.L1.F aH.L1.out
noncomputable def aH.L1.call:aH.L1.D→Option aH.L1.X:=dL aH.L1.E aH.L1.st
noncomputable def aH.an:eu:= {bZ:=[18,137],loops:=ki [(5,{bu:=[0,5,6,7,8],sites:=[18,137],j6:=[⟨7,[],18,0⟩]}),(14,{bu:=[0,7,14],sites:=[18]})],outs:=kh [(5,{bu:=[0,7],sites:=[18]},{bu:=[4]}),(14,{bu:=[7],sites:=[18]},{bu:=[4]})],gq:=lv [(5,aH.L0.E),(14,aH.L1.E)],res:=[some (.slice (.int .u32))]}
noncomputable def aH.A:= @cq Tryz.prog aH.G aH.an 0 Tryz.f180 _ aH.st
abbrev aH.Ok:=cr @aH.A aH.aq aH.add aH.F aH.out
noncomputable def aH.L0.R:= @cM Tryz.prog aH.G aH.an 0 Tryz.f180 0 _ aH.L0.st
abbrev aH.L0.Ok:=fk Tryz.prog aH.G aH.an 0 Tryz.f180 0 aH.L0.st aH.L0.aq aH.L0.add aH.L0.F aH.L0.out
noncomputable def aH.L1.R:= @cM Tryz.prog aH.G aH.an 0 Tryz.f180 1 _ aH.L1.st
abbrev aH.L1.Ok:=fk Tryz.prog aH.G aH.an 0 Tryz.f180 1 aH.L1.st aH.L1.aq aH.L1.add aH.L1.F aH.L1.out
theorem aH.L0.run:bD aH.L0.call aH.L0.aq aH.L0.add aH.L0.F:=fy (fx [.d (.slice (.int .u32)),.d (.slice (.int .u32)),.d (.slice (.int .u32)),.n,.d ti,.d (.slice (.int .u32))] fun _=>by kernel_rfl)
theorem aH.L0.aE:fY @aH.L0.R aH.L0.st aH.L0.aq aH.L0.add aH.L0.F aH.L0.bK aH.L0.Ok:=gj
theorem aH.L0.step{R:Type}(h_2:(List Int))(wv:(List Int))(kv:(List Int))(vL:Nat)(i:Int)(n18:(List Int))(kn:AS→Option R)(kx:Exit→AS→Option R):aH.L0.R (h_2,wv,kv,vL,i,n18) kn kx=
  aD ((gM i (64:Int))) (
   aD (dZ (4:Int) ((vL:Nat):Int)) (
   aD (decide (4 < (List.length n18))) (
   ab (dH.call ((nth (.int .u32) n18 4),(6:Int))) fun x1=>
   aD (dZ (4:Int) ((vL:Nat):Int)) (
   aD (decide (4 < (List.length n18))) (
   ab (dH.call ((nth (.int .u32) n18 4),(11:Int))) fun x2=>
   aD (dZ (4:Int) ((vL:Nat):Int)) (
   aD (decide (4 < (List.length n18))) (
   ab (dH.call ((nth (.int .u32) n18 4),(25:Int))) fun x3=>
   aD (dZ (4:Int) ((vL:Nat):Int)) (
   aD (decide (4 < (List.length n18))) (
   aD (dZ (5:Int) ((vL:Nat):Int)) (
   aD (decide (5 < (List.length n18))) (
   aD (dZ (4:Int) ((vL:Nat):Int)) (
   aD (decide (4 < (List.length n18))) (
   aD (dZ (6:Int) ((vL:Nat):Int)) (
   aD (decide (6 < (List.length n18))) (
   aD (dZ (7:Int) ((vL:Nat):Int)) (
   aD (decide (7 < (List.length n18))) (
   aD (dZ i (((List.length kv):Nat):Int)) (
   aD (dZ i (((List.length wv):Nat):Int)) (
   aD (dZ (0:Int) ((vL:Nat):Int)) (
   aD (decide (0 < (List.length n18))) (
   ab (dH.call ((nth (.int .u32) n18 0),(2:Int))) fun x4=>
   aD (dZ (0:Int) ((vL:Nat):Int)) (
   aD (decide (0 < (List.length n18))) (
   ab (dH.call ((nth (.int .u32) n18 0),(13:Int))) fun x5=>
   aD (dZ (0:Int) ((vL:Nat):Int)) (
   aD (decide (0 < (List.length n18))) (
   ab (dH.call ((nth (.int .u32) n18 0),(22:Int))) fun x6=>
   aD (dZ (0:Int) ((vL:Nat):Int)) (
   aD (decide (0 < (List.length n18))) (
   aD (dZ (1:Int) ((vL:Nat):Int)) (
   aD (decide (1 < (List.length n18))) (
   aD (dZ (0:Int) ((vL:Nat):Int)) (
   aD (decide (0 < (List.length n18))) (
   aD (dZ (2:Int) ((vL:Nat):Int)) (
   aD (decide (2 < (List.length n18))) (
   aD (dZ (1:Int) ((vL:Nat):Int)) (
   aD (decide (1 < (List.length n18))) (
   aD (dZ (2:Int) ((vL:Nat):Int)) (
   aD (decide (2 < (List.length n18))) (
   aD (dZ (0:Int) ((vL:Nat):Int)) (
   aD (decide (0 < (List.length n18))) (
   aD (dZ (1:Int) ((vL:Nat):Int)) (
   aD (decide (1 < (List.length n18))) (
   aD (dZ (2:Int) ((vL:Nat):Int)) (
   aD (decide (2 < (List.length n18))) (
   aD (dZ (3:Int) ((vL:Nat):Int)) (
   aD (decide (3 < (List.length n18))) (
   aD (dZ (4:Int) ((vL:Nat):Int)) (
   aD (decide (4 < (List.length n18))) (
   aD (dZ (5:Int) ((vL:Nat):Int)) (
   aD (decide (5 < (List.length n18))) (
   aD (dZ (6:Int) ((vL:Nat):Int)) (
   aD (decide (6 < (List.length n18))) (
   kn (aH.L0.st (h_2,wv,kv,8,(bo .i64 i (1:Int)),[(bo .u32 (bo .u32 (bo .u32 (bo .u32 (bo .u32 (bo .u32 (nth (.int .u32) n18 7) (ct .xor .u32 (ct .xor .u32 x1 x2) x3)) (ct .xor .u32 (ct .and .u32 (nth (.int .u32) n18 4) (nth (.int .u32) n18 5)) (ct .and .u32 (FH .u32 (nth (.int .u32) n18 4)) (nth (.int .u32) n18 6)))) (nth (.int .u32) kv (Int.toNat i))) (nth (.int .u32) wv (Int.toNat i))) (ct .xor .u32 (ct .xor .u32 x4 x5) x6)) (ct .xor .u32 (ct .xor .u32 (ct .and .u32 (nth (.int .u32) n18 0) (nth (.int .u32) n18 1)) (ct .and .u32 (nth (.int .u32) n18 0) (nth (.int .u32) n18 2))) (ct .and .u32 (nth (.int .u32) n18 1) (nth (.int .u32) n18 2)))),(nth (.int .u32) n18 0),(nth (.int .u32) n18 1),(nth (.int .u32) n18 2),(bo .u32 (nth (.int .u32) n18 3) (bo .u32 (bo .u32 (bo .u32 (bo .u32 (nth (.int .u32) n18 7) (ct .xor .u32 (ct .xor .u32 x1 x2) x3)) (ct .xor .u32 (ct .and .u32 (nth (.int .u32) n18 4) (nth (.int .u32) n18 5)) (ct .and .u32 (FH .u32 (nth (.int .u32) n18 4)) (nth (.int .u32) n18 6)))) (nth (.int .u32) kv (Int.toNat i))) (nth (.int .u32) wv (Int.toNat i)))),(nth (.int .u32) n18 4),(nth (.int .u32) n18 5),(nth (.int .u32) n18 6)]))) none) none) none) none) none) none) none) none) none) none) none) none) none) none) none) none) none) none) none) none) none) none) none) none) none) none) none) none) none) none) none) none) none) none) none) none) none) none) none) none) none) none) none) none) none) none) none) none) none) none) (
   kx (aH.L0.bK (h_2,(vL,n18))).1 (aH.L0.bK (h_2,(vL,n18))).2):=by kernel_rfl
theorem aH.L1.run:bD aH.L1.call aH.L1.aq aH.L1.add aH.L1.F:=fy (fx [.d (.slice (.int .u32)),.n,.d ti,.d (.slice (.int .u32))] fun _=>by kernel_rfl)
theorem aH.L1.aE:fY @aH.L1.R aH.L1.st aH.L1.aq aH.L1.add aH.L1.F aH.L1.bK aH.L1.Ok:=gj
theorem aH.L1.step{R:Type}(h_3:(List Int))(vL_2:Nat)(i_2:Int)(n18_2:(List Int))(kn:AS→Option R)(kx:Exit→AS→Option R):aH.L1.R (h_3,vL_2,i_2,n18_2) kn kx=
  aD ((gM i_2 (8:Int))) (
   aD (dZ i_2 ((vL_2:Nat):Int)) (
   aD (decide ((0+(Int.toNat i_2)) < (List.length n18_2))) (
   aD (decide ((((0+(Int.toNat i_2))*1)+0)=(0+((Int.toNat i_2)*1)))) (
   aD (dZ i_2 (((List.length h_3):Nat):Int)) (
   aD (dZ i_2 ((vL_2:Nat):Int)) (
   aD (decide ((0+(Int.toNat i_2)) < (List.length n18_2))) (
   aD (decide ((((0+(Int.toNat i_2))*1)+0)=(0+((Int.toNat i_2)*1)))) (
   aD (decide ((0+(Int.toNat i_2)) < (List.length n18_2))) (
   kn (aH.L1.st (h_3,vL_2,(bo .i64 i_2 (1:Int)),(List.set n18_2 (0+(Int.toNat i_2)) (bo .u32 (nth (.int .u32) n18_2 (0+(Int.toNat i_2))) (nth (.int .u32) h_3 (Int.toNat i_2))))))) none) none) none) none) none) none) none) none) (
   kx (aH.L1.bK (vL_2,n18_2)).1 (aH.L1.bK (vL_2,n18_2)).2):=by kernel_rfl
theorem aH.eq{R:Type}(h:(List Int))(b:Bs)(k:aT→Option R):aH.A (h,b) k=
 ab (aI.call b) fun x1=>
 ab (eX.call ()) fun x2=>
 aD (dK (0+(List.length h)) 4) (
 ab (aH.L0.call (h,x1,x2,(0+(List.length h)),(0:Int),((List.take 0 (List.replicate 0 (0:Int)))++h))) fun x15=>
 ab (aH.L1.call (x15.1,x15.2.1,(0:Int),x15.2.2)) fun x16=>
 aD (decide (0=0∧(0+x16.1)≤(List.length x16.2))) (
 k (aH.out (cut x16.2 0 x16.1))) none) none:=by kernel_rfl
theorem D6(w:W):FH .u32 (vw w)=vw (~~~w):=by
 have e:(if IntKind.u32.signed then -1 else IntKind.u32.max:Int)=vw (BitVec.allOnes 32):=rfl
 unfold FH
 rw[e,jr]
 simp only[BitVec.allOnes_xor]
theorem HU(e f g:W):(e &&& f)^^^(~~~e &&& g)=g^^^(e &&& (f^^^g)):=by
 ext i hi
 simp only[BitVec.getElem_xor,BitVec.getElem_and,BitVec.getElem_not]
 cases e[i] <;> cases f[i] <;> cases g[i] <;> rfl
theorem Hd(a b c:W):(a &&& b)^^^(a &&& c)^^^(b &&& c)=(a &&& b) ||| (c &&& (a ||| b)):=by
 ext i hi
 simp only[BitVec.getElem_xor,BitVec.getElem_and,BitVec.getElem_or]
 cases a[i] <;> cases b[i] <;> cases c[i] <;> rfl
theorem aH.L0.ok:aH.L0.Ok:=by
 refine aH.L0.aE (fun(h,wv,kv,m,i,l)=>64 - i.toNat) ?_
 rintro⟨h,wv,kv,m,i,l⟩ ⟨s,ws,k,rfl,rfl,hw,hk,rfl,rfl,rfl,rfl⟩
 by_cases hlt:k < 64
 ·left
  refine⟨(s.l,wl ws,sH,8,((k+1:Nat):Int),(rounds ws s (k+1)).l),⟨s,ws,k+1,rfl,rfl,hw,by omega,rfl,rfl,rfl,rfl⟩,by simp only;omega,rfl,fun kn kx=> ?_⟩
  rw[aH.L0.step]
  generalize hv:rounds ws s k=v
  have t1:∀w:W,dH.call (vw w,6)=some (vw (ld w 6)):=fun w=>dH.at w (by omega)
  have t2:∀w:W,dH.call (vw w,11)=some (vw (ld w 11)):=fun w=>dH.at w (by omega)
  have t3:∀w:W,dH.call (vw w,25)=some (vw (ld w 25)):=fun w=>dH.at w (by omega)
  have t4:∀w:W,dH.call (vw w,2)=some (vw (ld w 2)):=fun w=>dH.at w (by omega)
  have t5:∀w:W,dH.call (vw w,13)=some (vw (ld w 13)):=fun w=>dH.at w (by omega)
  have t6:∀w:W,dH.call (vw w,22)=some (vw (ld w 22)):=fun w=>dH.at w (by omega)
  rw[n0,n1,n2,n3,n4,n5,n6,n7,t1,aa,t2,aa,t3,aa,t4,aa,t5,aa,t6,aa]
  simp(disch:=omega) only[↓S1,↓if_pos,↓if_neg,if_pos,if_neg,if_true,if_false,S2,St.zg,th,mr,hw,zf k hlt,s9 ws k (by omega),jr,nM,D6,HU,Hd]
  show kn _=kn (aH.L0.st (s.l,wl ws,sH,8,((k+1:Nat):Int),(I5 (rounds ws s k) (kw k) (ws.getD k 0)).l))
  rw[hv]
  rfl
 ·right
  obtain rfl:k=64:=by omega
  intro R kn kx
  rw[aH.L0.step]
  simp(disch:=omega) only[↓S1,↓if_pos,↓if_neg,if_pos,if_neg,if_true,if_false,S2,aH.L0.add,aH.L0.F,ow,iV]
theorem aH.L1.ok:aH.L1.Ok:=by
 refine aH.L1.aE (fun(h,m,i,l)=>8 - i.toNat) ?_
 rintro⟨h,m,i,l⟩ ⟨hh,hl,rfl,k,hk,rfl⟩
 have hl:l.length=8:=hl
 have hh:h.length=8:=hh
 by_cases hlt:k < 8
 ·left
  have hn:nth (.int .u32) l k=l[k]:=dS (t:= .int .u32) (by omega)
  refine⟨(h,8,((k+1:Nat):Int),l.set k (bo .u32 l[k] (nth (.int .u32) h k))),⟨hh,by simpa using hl,rfl,k+1,by omega,rfl⟩,by simp only;omega,?_,fun kn kx=> ?_⟩
  ·simp only[aH.L1.add,aH.L1.F,Int.toNat_natCast]
   rw[pI (fun i x=>bo .u32 x (nth (.int .u32) h i)) l k (by omega)]
  ·rw[aH.L1.step]
   simp(disch:=omega) only[↓S1,↓if_pos,↓if_neg,if_pos,if_neg,if_true,if_false,S2,hl,hh,Nat.zero_add,Nat.mul_one,Nat.add_zero,hn]
 ·right
  obtain rfl:k=8:=by omega
  intro R kn kx
  rw[aH.L1.step]
  simp(disch:=omega) only[↓S1,↓if_pos,↓if_neg,if_pos,if_neg,if_true,if_false,S2,aH.L1.add,aH.L1.F]
  rw[qZ _ _ _ (by omega)]
theorem He(s:St)(b:List Int):from_ (fun i x=>bo .u32 x (nth (.int .u32) s.l i)) 0 (rounds (sched b) s 64).l=(sL s b).l:=by
 unfold sL
 generalize rounds (sched b) s 64=v
 obtain⟨a1,b1,c1,d1,f1,g1,h1,i1⟩:=v
 simp only[St.l,from_,List.mapIdx_cons,List.mapIdx_nil,Nat.not_lt_zero,if_false,Nat.zero_add,Nat.reduceAdd]
 simp only[nth,List.getD_cons_zero,List.getD_cons_succ,nM]
theorem aH.ok:aH.Ok:=by
 rintro⟨h,b⟩ ⟨⟨s,rfl⟩,hb⟩
 have p0:aI.aq b:=hb
 have hsl:(sched b).length=64:=by unfold sched;rw[mP,fb]
 have p1:aH.L0.aq (s.l,wl (sched b),sH,8,0,s.l):=⟨s,sched b,0,rfl,rfl,hsl,by omega,rfl,rfl,rfl,rfl⟩
 have p2:aH.L1.aq (s.l,8,0,(rounds (sched b) s 64).l):=⟨rfl,rfl,rfl,0,by omega,rfl⟩
 have e0:0+s.l.length=8:=rfl
 have e1:List.take 0 (List.replicate 0 (0:Int))++s.l=s.l:=rfl
 rw[aH.eq]
 simp(disch:=omega) only[↓S1,↓if_pos,↓if_neg,if_pos,if_neg,if_true,if_false,S2,aI.run p0,aI.add,aI.F,eX.run (d:=()) trivial,eX.add,eX.F,e0,e1,aH.L0.run p1,aH.L0.add,aH.L0.F,ow,iV,aH.L1.run p2,aH.L1.add,aH.L1.F,Int.toNat_zero,He]
 have e2:(sL s b).l.length=8:=rfl
 have e3:cut (sL s b).l 0 8=(sL s b).l:=rfl
 simp only[e2,Nat.zero_add,Nat.le_refl,if_true,e3,aH.add,aH.F,iV]
noncomputable def aH.E:=Entry.cD [some (.slice (.int .u32)),some tB] aH.st aH.aq aH.add aH.F aH.out
noncomputable def aH.call:aH.D→Option aH.X:=bC aH.E aH.st
theorem aH.run:bD aH.call aH.aq aH.add aH.F:=cw (cv [.d (.slice (.int .u32)),.d tB] fun _=>by kernel_rfl)
noncomputable def aH.sg:SG Tryz.prog:=⟨180,aK,aH.E,.fn 2 (by kernel_rfl) aH.ok (And.intro (.cD aH.L0.ok (by kernel_rfl)) (And.intro (.cD aH.L1.ok (by kernel_rfl)) trivial))⟩
set_option synthInstance.maxSize 5000
abbrev bP.L0.D:=Bs×(List Int)×Int×Bs
def bP.L0.st:bP.L0.D→AS:=fun(p,h,i,n2)=>⟨([.undef,.undef,.ptr (.new 2 0) 0 [] 0,.d tB p,.d (.slice (.int .u32)) h,.d ti i]++bw 36 []),[],([[],[],[.obj 0 false (.d tH n2)]]++cC 39 [])⟩
abbrev bP.L0.Y0:=(List Int)
abbrev bP.L0.X0:=(Bs)×((List Int))
def bP.L0.bK:bP.L0.X0→Exit×AS:=fun x=>(.exit 0,⟨([.undef,.undef,.ptr (.new 2 0) 0 [] 0,.undef,.d (.slice (.int .u32)) x.2]++bw 37 []),[],([[],[],[.obj 0 false (.d tH x.1)]]++cC 39 [])⟩)
abbrev bP.L0.X:=bP.L0.X0
abbrev bP.L0.Y:=bP.L0.Y0
def bP.L0.out:bP.L0.X→Out (Exit×AS):=fun x=> .ok (bP.L0.bK x)
def bP.L0.add:bP.L0.D→bP.L0.Y→bP.L0.X:=fun(p,h,i,n2) y=>(n2,y)
abbrev bP.L1.D:=(List Int)×Int×Bs×Bs
def bP.L1.st:bP.L1.D→AS:=fun(h_2,i_2,n2_2,n6)=>⟨([.undef,.undef,.ptr (.new 2 0) 0 [] 0,.undef,.d (.slice (.int .u32)) h_2,.undef,.ptr (.new 6 0) 0 [] 0,.d ti i_2]++bw 34 []),[],([[],[],[.obj 0 false (.d tH n2_2)],[],[],[],[.obj 0 false (.d tH n6)]]++cC 35 [])⟩
abbrev bP.L1.Y0:=Bs
abbrev bP.L1.X0:=(Bs)×(Bs)
def bP.L1.bK:bP.L1.X0→Exit×AS:=fun x=>(.exit 2,⟨([.undef,.undef,.ptr (.new 2 0) 0 [] 0,.undef,.undef,.undef,.ptr (.new 6 0) 0 [] 0]++bw 35 []),[],([[],[],[.obj 0 false (.d tH x.1)],[],[],[],[.obj 0 false (.d tH x.2)]]++cC 35 [])⟩)
abbrev bP.L1.X:=bP.L1.X0
abbrev bP.L1.Y:=bP.L1.Y0
def bP.L1.out:bP.L1.X→Out (Exit×AS):=fun x=> .ok (bP.L1.bK x)
def bP.L1.add:bP.L1.D→bP.L1.Y→bP.L1.X:=fun(h_2,i_2,n2_2,n6) y=>(n2_2,y)
abbrev bP.D:=Bs
def bP.st:bP.D→SA:=fun b=>([.d tB b],[])
abbrev bP.Y:=Bs
abbrev bP.X:=Bs
def bP.out:bP.X→aT:=fun x=>⟨.d tH x,[],[]⟩
def bP.add:bP.D→bP.Y→bP.X:=fun b y=>y
def bP.L0.aq:bP.L0.D→Prop:=fun(p,h,i,n2)=>p.length%64=0∧p.length≤140737488355328∧∃(s:St) (k:Nat),h=s.l∧i=((64*k:Nat):Int)∧64*k≤p.length
def bP.L0.F:bP.L0.D→bP.L0.Y:=fun(p,h,i,n2)=>(blocks (yo h) (p.drop i.toNat)).l
def bP.L1.aq:bP.L1.D→Prop:=fun(h,i,n2,l)=>h.length=8∧l.length=32∧∃k:Nat,k≤32∧i=k
def bP.L1.F:bP.L1.D→bP.L1.Y:=fun(h,i,n2,l)=>from_ (qd h) i.toNat l
def bP.aq:bP.D→Prop:=fun b=>b.length≤140737488350000
def bP.F:bP.D→bP.Y:=fun b=>Hs b
noncomputable def bP.G:dU:=eZ (P:=Tryz.prog) [aw.sg,cX.sg,aH.sg]
noncomputable def bP.L0.E:=cf.cD bP.L0.st bP.L0.aq bP.L0.add bP.L0.F bP.L0.out
noncomputable def bP.L0.call:bP.L0.D→Option bP.L0.X:=dL bP.L0.E bP.L0.st
noncomputable def bP.L1.E:=cf.cD bP.L1.st bP.L1.aq bP.L1.add bP.L1.F bP.L1.out
noncomputable def bP.L1.call:bP.L1.D→Option bP.L1.X:=dL bP.L1.E bP.L1.st
noncomputable def bP.an:eu:= {loops:=ki [(4,{bu:=[2,3,4,5],sites:=[2]}),(9,{bu:=[2,4,6,7],sites:=[2,6]})],outs:=kh [(4,{bu:=[2,4],sites:=[2]},{bu:=[2]}),(9,{bu:=[2,6],sites:=[2,6]},{bu:=[2]})],gq:=lv [(4,bP.L0.E),(9,bP.L1.E)]}
noncomputable def bP.A:= @cq Tryz.prog bP.G bP.an 0 Tryz.f155 _ bP.st
abbrev bP.Ok:=cr @bP.A bP.aq bP.add bP.F bP.out
noncomputable def bP.L0.R:= @cM Tryz.prog bP.G bP.an 0 Tryz.f155 0 _ bP.L0.st
abbrev bP.L0.Ok:=fk Tryz.prog bP.G bP.an 0 Tryz.f155 0 bP.L0.st bP.L0.aq bP.L0.add bP.L0.F bP.L0.out
noncomputable def bP.L1.R:= @cM Tryz.prog bP.G bP.an 0 Tryz.f155 1 _ bP.L1.st
abbrev bP.L1.Ok:=fk Tryz.prog bP.G bP.an 0 Tryz.f155 1 bP.L1.st bP.L1.aq bP.L1.add bP.L1.F bP.L1.out
theorem bP.L0.run:bD bP.L0.call bP.L0.aq bP.L0.add bP.L0.F:=fy (fx [.d tB,.d (.slice (.int .u32)),.d ti,.d tB] fun _=>by kernel_rfl)
theorem bP.L0.aE:fY @bP.L0.R bP.L0.st bP.L0.aq bP.L0.add bP.L0.F bP.L0.bK bP.L0.Ok:=gj
theorem bP.L0.step{R:Type}(p:Bs)(h:(List Int))(i:Int)(n2:Bs)(kn:AS→Option R)(kx:Exit→AS→Option R):bP.L0.R (p,h,i,n2) kn kx=
  aD ((gM i (((List.length p):Nat):Int))) (
   aD (inc (bo .i64 i (64:Int)) (((List.length p):Nat):Int)) (
   aD (inc i (((Int.toNat (bo .i64 i (64:Int))):Nat):Int)) (
   ab (aH.call (h,(cut p (Int.toNat i) ((Int.toNat (bo .i64 i (64:Int))) - (Int.toNat i))))) fun x1=>
   kn (bP.L0.st (p,x1,(bo .i64 i (64:Int)),n2))) none) none) (
   kx (bP.L0.bK (n2,h)).1 (bP.L0.bK (n2,h)).2):=by kernel_rfl
theorem bP.L1.run:bD bP.L1.call bP.L1.aq bP.L1.add bP.L1.F:=fy (fx [.d (.slice (.int .u32)),.d ti,.d tB,.d tB] fun _=>by kernel_rfl)
theorem bP.L1.aE:fY @bP.L1.R bP.L1.st bP.L1.aq bP.L1.add bP.L1.F bP.L1.bK bP.L1.Ok:=gj
theorem bP.L1.step{R:Type}(h_2:(List Int))(i_2:Int)(n2_2:Bs)(n6:Bs)(kn:AS→Option R)(kx:Exit→AS→Option R):bP.L1.R (h_2,i_2,n2_2,n6) kn kx=
  aD ((gM i_2 (32:Int))) (
   aD (dZ (kM .i64 i_2 (4:Int)) (((List.length h_2):Nat):Int)) (
   aD (iU (bV .i64 (24:Int) (eK .i64 (8:Int) (fI i_2 (4:Int))))) (
   aD (dZ i_2 (32:Int)) (
   aD (decide ((Int.toNat i_2) < (List.length n6))) (
   aD (decide ((((Int.toNat i_2)*1)+0)=(0+((Int.toNat i_2)*1)))) (
   aD (decide ((Int.toNat i_2) < (List.length n6))) (
   kn (bP.L1.st (h_2,(bo .i64 i_2 (1:Int)),n2_2,(List.set n6 (Int.toNat i_2) (dG .u8 (bW .u32 (nth (.int .u32) h_2 (Int.toNat (kM .i64 i_2 (4:Int)))) (bV .i64 (24:Int) (eK .i64 (8:Int) (fI i_2 (4:Int)))))))))) none) none) none) none) none) none) (
   kx (bP.L1.bK (n2_2,n6)).1 (bP.L1.bK (n2_2,n6)).2):=by kernel_rfl
theorem bP.eq{R:Type}(b:Bs)(k:aT→Option R):bP.A b k=
 ab (aw.call b) fun x1=>
 ab (cX.call ()) fun x2=>
 ab (bP.L0.call (x1,x2,(0:Int),(List.replicate 32 (0:Int)))) fun x4=>
 ab (bP.L1.call (x4.2,(0:Int),x4.1,(List.replicate 32 (0:Int)))) fun x5=>
 k (bP.out x5.2):=by kernel_rfl
theorem bP.L0.ok:bP.L0.Ok:=by
 refine bP.L0.aE (fun(p,h,i,n2)=>p.length - i.toNat) ?_
 rintro⟨p,h,i,n2⟩ ⟨hm,hb,s,k,rfl,rfl,hk⟩
 have hm:p.length%64=0:=hm
 have hb:p.length≤140737488355328:=hb
 have hk:64*k≤p.length:=hk
 by_cases hlt:64*k < p.length
 ·left
  have e1:cut p (64*k) (64*k+64 - 64*k)=(p.drop (64*k)).take 64:=by unfold cut;rw[show 64*k+64 - 64*k=64 by omega]
  have e2:(p.drop (64*k)).drop 64=p.drop (64*(k+1)):=by rw[List.drop_drop];congr 1
  have e3:(64*(k+1):Nat)=64*k+64:=by omega
  have p1:aH.aq (s.l,(p.drop (64*k)).take 64):=⟨⟨s,rfl⟩,by simp;omega⟩
  refine⟨(p,(sL s ((p.drop (64*k)).take 64)).l,((64*(k+1):Nat):Int),n2),⟨hm,hb,_,k+1,rfl,rfl,by omega⟩,by simp only[Int.toNat_natCast];omega,?_,fun kn kx=> ?_⟩
  ·simp only[bP.L0.add,bP.L0.F,iV,Int.toNat_natCast]
   rw[oW s (p.drop (64*k)) (by simp;omega),e2]
  ·rw[bP.L0.step]
   simp(disch:=omega) only[↓S1,↓if_pos,↓if_neg,if_pos,if_neg,if_true,if_false,S2,e1,aH.run p1,aH.add,aH.F,iV,e3]
 ·right
  intro R kn kx
  rw[bP.L0.step]
  simp(disch:=omega) only[↓S1,↓if_pos,↓if_neg,if_pos,if_neg,if_true,if_false,S2,bP.L0.add,bP.L0.F,iV]
  rw[nV s _ (by simp;omega)]
theorem bP.L1.ok:bP.L1.Ok:=by
 refine bP.L1.aE (fun(h,i,n2,l)=>32 - i.toNat) ?_
 rintro⟨h,i,n2,l⟩ ⟨h8,hl,k,hk,rfl⟩
 have hl:l.length=32:=hl
 have h8:h.length=8:=h8
 by_cases hlt:k < 32
 ·left
  refine⟨(h,((k+1:Nat):Int),n2,l.set k (qd h k l[k])),⟨h8,by simpa using hl,k+1,by omega,rfl⟩,by simp only[Int.toNat_natCast];omega,?_,fun kn kx=> ?_⟩
  ·simp only[bP.L1.add,bP.L1.F,Int.toNat_natCast]
   rw[pI (qd h) l k (by omega)]
  ·rw[bP.L1.step]
   simp(disch:=omega) only[↓S1,↓if_pos,↓if_neg,if_pos,if_neg,if_true,if_false,S2,hl,h8,Nat.mul_one,Nat.add_zero,Nat.zero_add,qd]
 ·right
  obtain rfl:k=32:=by omega
  intro R kn kx
  rw[bP.L1.step]
  simp(disch:=omega) only[↓S1,↓if_pos,↓if_neg,if_pos,if_neg,if_true,if_false,S2,bP.L1.add,bP.L1.F]
  rw[qZ _ _ _ (by omega)]
theorem A8(b:List Int):(pad b).length%64=0∧(pad b).length≤b.length+73:=by
 unfold pad
 simp only[List.length_append,List.length_cons,List.length_replicate,cO,mD]
 omega
theorem bP.ok:bP.Ok:=by
 intro b hb
 have hb:b.length≤140737488350000:=hb
 have p1:aw.aq b:=hb
 obtain⟨h1,h2⟩:=A8 b
 have p2:bP.L0.aq (pad b,jV.l,0,List.replicate 32 0):=⟨h1,by omega,jV,0,rfl,rfl,by omega⟩
 have p3:bP.L1.aq ((blocks jV (pad b)).l,0,List.replicate 32 0,List.replicate 32 0):=⟨rfl,rfl,0,by omega,rfl⟩
 rw[bP.eq]
 simp(disch:=omega) only[↓S1,↓if_pos,↓if_neg,if_pos,if_neg,if_true,if_false,S2,aw.run p1,aw.add,aw.F,cX.run (d:=()) trivial,cX.add,cX.F,bP.L0.run p2,bP.L0.add,bP.L0.F,iV,Int.toNat_zero,List.drop_zero,bP.L1.run p3,bP.L1.add,bP.L1.F,B6]
 rfl
noncomputable def bP.E:=Entry.cD [some tB] bP.st bP.aq bP.add bP.F bP.out
noncomputable def bP.call:bP.D→Option bP.X:=bC bP.E bP.st
theorem bP.run:bD bP.call bP.aq bP.add bP.F:=cw (cv [.d tB] fun _=>by kernel_rfl)
noncomputable def bP.sg:SG Tryz.prog:=⟨155,aK,bP.E,.fn 2 (by kernel_rfl) bP.ok (And.intro (.cD bP.L0.ok (by kernel_rfl)) (And.intro (.cD bP.L1.ok (by kernel_rfl)) trivial))⟩
abbrev eH.D:=Int
def eH.st:eH.D→SA:=fun n=>([.d tu n],[])
abbrev eH.Y:=Nat×(List Int)
abbrev eH.X:=Nat×(List Int)
def eH.out:eH.X→aT:=fun x=>⟨.cT (.new 0 0) 0 [] 0 0 x.1,[],[.obj 0 false (.vec 5 tb x.2)]⟩
def eH.add:eH.D→eH.Y→eH.X:=fun n y=>y
def eH.aq:eH.D→Prop:=fun n=>0≤n∧n < 18446744073709551616
def eH.F:eH.D→eH.Y:=fun n=>(8,iA n)
noncomputable def eH.G:dU:=eZ (P:=Tryz.prog) []
noncomputable def eH.an:eu:= {loops:=ki [(3,{bu:=[0,3,4],sites:=[15]})],outs:=kh [(3,{bu:=[3],sites:=[15]},{bu:=[2],sites:=[15]})],j6:=[⟨2,[],15,135⟩]}
noncomputable def eH.A:= @cq Tryz.prog eH.G eH.an 10 Tryz.f154 _ eH.st
abbrev eH.Ok:=cr @eH.A eH.aq eH.add eH.F eH.out
theorem eH.eq{R:Type}(n:Int)(k:aT→Option R):eH.A n k=
 k (eH.out (8,[(dG .u8 (bW .u64 n (56:Int))),(dG .u8 (bW .u64 n (48:Int))),(dG .u8 (bW .u64 n (40:Int))),(dG .u8 (bW .u64 n (32:Int))),(dG .u8 (bW .u64 n (24:Int))),(dG .u8 (bW .u64 n (16:Int))),(dG .u8 (bW .u64 n (8:Int))),(dG .u8 (bW .u64 n (0:Int)))])):=by kernel_rfl
theorem eH.ok:eH.Ok:=by
 intro n _
 have e:∀k:Nat,k≤64→dG .u8 (bW .u64 n (k:Int))=n / 2^k%256:=fun k hk=>Am n k hk
 rw[eH.eq]
 have e56:dG .u8 (bW .u64 n 56)=n / 2^56%256:=e 56 (by omega)
 have e48:dG .u8 (bW .u64 n 48)=n / 2^48%256:=e 48 (by omega)
 have e40:dG .u8 (bW .u64 n 40)=n / 2^40%256:=e 40 (by omega)
 have e32:dG .u8 (bW .u64 n 32)=n / 2^32%256:=e 32 (by omega)
 have e24:dG .u8 (bW .u64 n 24)=n / 2^24%256:=e 24 (by omega)
 have e16:dG .u8 (bW .u64 n 16)=n / 2^16%256:=e 16 (by omega)
 have e8:dG .u8 (bW .u64 n 8)=n / 2^8%256:=e 8 (by omega)
 have e0:=e 0 (by omega)
 rw[e56,e48,e40,e32,e24,e16,e8]
 have e0:dG .u8 (bW .u64 n 0)=n%256:=by rw[show(0:Int)=((0:Nat):Int) from rfl,e0];simp
 rw[e0]
 rfl
noncomputable def eH.E:=Entry.cD [some tu] eH.st eH.aq eH.add eH.F eH.out
noncomputable def eH.call:eH.D→Option eH.X:=bC eH.E eH.st
theorem eH.run:bD eH.call eH.aq eH.add eH.F:=cw (cv [.d tu] fun _=>by kernel_rfl)
noncomputable def eH.sg:SG Tryz.prog:=⟨154,aK,eH.E,.fn 1 (by kernel_rfl) eH.ok (And.intro (.none (by kernel_rfl)) trivial)⟩
abbrev di.L0.D:=(List Bs)×Nat×Int×Bs×(List Int)
def di.L0.st:di.L0.D→AS:=fun(parts_2,bL,i,n4,n11)=>⟨([.undef,.d (.slice tB) parts_2,.undef,.undef,.ptr (.new 4 0) 0 [] 0,.cT (.new 11 0) 0 [] 0 0 bL,.d ti i]++bw 32 []),[],(cC 4 ([[.obj 0 false (.d tH n4)]]++cC 6 ([[.obj 0 false (.vec 5 tb n11)]]++cC 27 [])))⟩
abbrev di.L0.Y0:=Nat×(List Int)
abbrev di.L0.X0:=(Bs)×(Nat×(List Int))
def di.L0.bK:di.L0.X0→Exit×AS:=fun x=>(.exit 0,⟨(bw 4 ([.ptr (.new 4 0) 0 [] 0,.cT (.new 11 0) 0 [] 0 0 x.2.1]++bw 33 [])),[],(cC 4 ([[.obj 0 false (.d tH x.1)]]++cC 6 ([[.obj 0 false (.vec 5 tb x.2.2)]]++cC 27 [])))⟩)
abbrev di.L0.X:=di.L0.X0
abbrev di.L0.Y:=di.L0.Y0
def di.L0.out:di.L0.X→Out (Exit×AS):=fun x=> .ok (di.L0.bK x)
def di.L0.add:di.L0.D→di.L0.Y→di.L0.X:=fun(parts_2,bL,i,n4,n11) y=>(n4,y)
abbrev di.D:=ByteArray×(List Bs)
def di.st:di.D→SA:=fun(name,parts)=>([.d .str name,.d (.slice tB) parts],[])
abbrev di.Y:=Bs
abbrev di.X:=Bs
def di.out:di.X→aT:=fun x=>⟨.d tH x,[],[]⟩
def di.add:di.D→di.Y→di.X:=fun(name,parts) y=>y
def di.L0.aq:di.L0.D→Prop:=fun(ps,m,i,n4,l)=>m=l.length∧∃k:Nat,k≤ps.length∧ps.length≤140737488350000∧i=k∧l.length+(iZ (ps.drop k)).length≤140737488350000
def di.L0.F:di.L0.D→di.L0.Y:=fun(ps,m,i,n4,l)=>(l.length+(iZ (ps.drop i.toNat)).length,l++iZ (ps.drop i.toNat))
def di.aq:di.D→Prop:=fun(name,ps)=>(s6 (bA name) ps).length≤140737488350000
def di.F:di.D→di.Y:=fun(name,ps)=>tag (bA name) ps
noncomputable def di.G:dU:=eZ (P:=Tryz.prog) [eH.sg,bP.sg]
noncomputable def di.L0.E:=cf.cD di.L0.st di.L0.aq di.L0.add di.L0.F di.L0.out
noncomputable def di.L0.call:di.L0.D→Option di.L0.X:=dL di.L0.E di.L0.st
noncomputable def di.an:eu:= {loops:=ki [(3,{bu:=[1,4,5,6],sites:=[4,11],j6:=[⟨5,[],11,135⟩]})],outs:=kh [(3,{bu:=[4,5],sites:=[4,11]},{bu:=[4]})],gq:=lv [(3,di.L0.E)]}
noncomputable def di.A:= @cq Tryz.prog di.G di.an 0 Tryz.f113 _ di.st
abbrev di.Ok:=cr @di.A di.aq di.add di.F di.out
noncomputable def di.L0.R:= @cM Tryz.prog di.G di.an 0 Tryz.f113 0 _ di.L0.st
abbrev di.L0.Ok:=fk Tryz.prog di.G di.an 0 Tryz.f113 0 di.L0.st di.L0.aq di.L0.add di.L0.F di.L0.out
theorem di.L0.run:bD di.L0.call di.L0.aq di.L0.add di.L0.F:=fy (fx [.d (.slice tB),.n,.d ti,.d tB,.d tB] fun _=>by kernel_rfl)
theorem di.L0.aE:fY @di.L0.R di.L0.st di.L0.aq di.L0.add di.L0.F di.L0.bK di.L0.Ok:=gj
theorem di.L0.step{R:Type}(parts_2:(List Bs))(bL:Nat)(i:Int)(n4:Bs)(n11:(List Int))(kn:AS→Option R)(kx:Exit→AS→Option R):di.L0.R (parts_2,bL,i,n4,n11) kn kx=
  aD ((gM i (((List.length parts_2):Nat):Int))) (
   aD (dZ i (((List.length parts_2):Nat):Int)) (
   ab (eH.call (dG .u64 (((List.length (nth tB parts_2 (Int.toNat i))):Nat):Int))) fun x1=>
   aD (decide (0=0∧(0+x1.1)≤(List.length x1.2))) (
   aD (decide (bL≤(List.length n11))) (
   aD (dK (bL+(List.length (cut x1.2 0 x1.1))) 1) (
   aD (dZ i (((List.length parts_2):Nat):Int)) (
   aD (decide ((bL+(List.length (cut x1.2 0 x1.1)))≤(List.length ((List.take bL n11)++(cut x1.2 0 x1.1))))) (
   aD (dK ((bL+(List.length (cut x1.2 0 x1.1)))+(List.length (nth tB parts_2 (Int.toNat i)))) 1) (
   kn (di.L0.st (parts_2,((bL+(List.length (cut x1.2 0 x1.1)))+(List.length (nth tB parts_2 (Int.toNat i)))),(bo .i64 i (1:Int)),n4,((List.take (bL+(List.length (cut x1.2 0 x1.1))) ((List.take bL n11)++(cut x1.2 0 x1.1)))++(nth tB parts_2 (Int.toNat i)))))) none) none) none) none) none) none) none) (
   kx (di.L0.bK (n4,(bL,n11))).1 (di.L0.bK (n4,(bL,n11))).2):=by kernel_rfl
theorem di.eq{R:Type}(name:ByteArray)(parts:(List Bs))(k:aT→Option R):di.A (name,parts) k=
 ab (eH.call (dG .u64 (((ByteArray.size name):Nat):Int))) fun x1=>
 aD (decide (x1.1≤(List.length x1.2))) (
 aD (dK (x1.1+(List.length (bA name))) 1) (
 ab (di.L0.call (parts,(x1.1+(List.length (bA name))),(0:Int),(List.replicate 32 (0:Int)),((List.take x1.1 x1.2)++(bA name)))) fun x4=>
 aD (decide (0=0∧(0+x4.2.1)≤(List.length x4.2.2))) (
 ab (bP.call (cut x4.2.2 0 x4.2.1)) fun x5=>
 k (di.out x5)) none) none) none:=by kernel_rfl
theorem Cl{n:Nat}(h:n < 18446744073709551616):dG .u64 ((n:Nat):Int)=n:=by rw[xJ,gL];omega
theorem eH.at{n:Nat}(h:n < 18446744073709551616):eH.call (n:Int)=some (8,iA (n:Int)):=eH.run (d:=(n:Int)) (show 0≤(n:Int)∧(n:Int) < 18446744073709551616 from⟨by omega,by omega⟩)
theorem HV{l:List Int}{n:Nat}(h:l.length=n):cut l 0 n=l:=by unfold cut;rw[List.drop_zero,List.take_of_length_le (by omega)]
theorem di.L0.ok:di.L0.Ok:=by
 refine di.L0.aE (fun(ps,m,i,n4,l)=>ps.length - i.toNat) ?_
 rintro⟨ps,m,i,n4,l⟩ ⟨rfl,k,hk,hpl,rfl,hl⟩
 have hk:k≤ps.length:=hk
 have hpl:ps.length≤140737488350000:=hpl
 have hl:l.length+(iZ (ps.drop k)).length≤140737488350000:=hl
 by_cases h:k < ps.length
 ·left
  have ht:=xf ps k h
  have hlen:(iZ (ps.drop k)).length=8+ps[k].length+(iZ (ps.drop (k+1))).length:=by rw[ht];simp only[List.length_append,cO]
  have hn:nth (.slice (.int .u8)) ps k=ps[k]:=dS (t:= .slice (.int .u8)) h
  have hlb:(l++iA (ps[k].length:Int)).length=l.length+8:=by simp[cO]
  refine⟨(ps,(l++iA ps[k].length++ps[k]).length,((k+1:Nat):Int),n4,l++iA ps[k].length++ps[k]),⟨rfl,k+1,by omega,hpl,rfl,?_⟩,by simp only[Int.toNat_natCast];omega,?_,fun kn kx=> ?_⟩
  ·simp only[List.length_append,cO];omega
  ·simp only[di.L0.add,di.L0.F,Int.toNat_natCast,ht,List.append_assoc]
   simp only[List.length_append,cO,Nat.add_assoc]
  ·have c8:cut (iA (ps[k].length:Int)) 0 8=iA (ps[k].length:Int):=HV (cO _)
   have h64:ps[k].length < 18446744073709551616:=by omega
   rw[di.L0.step]
   simp(disch:=omega) only[↓S1,↓if_pos,↓if_neg,if_pos,if_neg,if_true,if_false,S2,hn,Cl h64,eH.at h64,cO,c8,List.take_length,hlb,Nat.zero_add,Nat.le_refl,and_self,if_true]
   rw[List.take_of_length_le (by rw[hlb];omega)]
   simp only[List.length_append,cO,Nat.add_assoc]
 ·right
  obtain rfl:k=ps.length:=by omega
  intro R kn kx
  rw[di.L0.step]
  simp(disch:=omega) only[↓S1,↓if_pos,↓if_neg,if_pos,if_neg,if_true,if_false,S2,di.L0.add,di.L0.F,List.drop_length]
  simp[iZ]
theorem di.ok:di.Ok:=by
 rintro⟨name,ps⟩ hp
 have hp:(iA (bA name).length++bA name++iZ ps).length≤140737488350000:=hp
 have hl:(iA (bA name).length++bA name++iZ ps).length=8+(bA name).length+(iZ ps).length:=by simp only[List.length_append,cO]
 have hpl:=vD ps
 have hsz:name.size=(bA name).length:=by rw[ia]
 have h64:(bA name).length < 18446744073709551616:=by omega
 have p2:di.L0.aq (ps,8+(bA name).length,0,List.replicate 32 0,iA ((bA name).length:Int)++bA name):=by
  refine⟨by simp only[List.length_append,cO],0,Nat.zero_le _,by omega,rfl,?_⟩
  rw[List.drop_zero]
  simp only[List.length_append,cO]
  omega
 rw[di.eq,hsz]
 simp(disch:=omega) only[↓S1,↓if_pos,↓if_neg,if_pos,if_neg,if_true,if_false,S2,Cl h64,eH.at h64,cO,List.take_of_length_le (Nat.le_of_eq (cO _)),di.L0.run p2,di.L0.add,di.L0.F,Int.toNat_zero,List.drop_zero,Nat.zero_add]
 have hcut:cut (iA ((bA name).length:Int)++bA name++iZ ps) 0 ((iA ((bA name).length:Int)++bA name).length+(iZ ps).length)=s6 (bA name) ps:=HV (by simp only[List.length_append])
 have p3:bP.aq (s6 (bA name) ps):=hp
 rw[if_pos (by simp only[List.length_append];omega),hcut,bP.run p3]
 rfl
noncomputable def di.E:=Entry.cD [some .str,some (.slice tB)] di.st di.aq di.add di.F di.out
noncomputable def di.call:di.D→Option di.X:=bC di.E di.st
theorem di.run:bD di.call di.aq di.add di.F:=cw (cv [.d .str,.d (.slice tB)] fun _=>by kernel_rfl)
noncomputable def di.sg:SG Tryz.prog:=⟨113,aK,di.E,.fn 1 (by kernel_rfl) di.ok (And.intro (.cD di.L0.ok (by kernel_rfl)) trivial)⟩
set_option synthInstance.maxSize 5000
theorem rX{n:Int}(h1:0≤n)(h2:n < 18446744073709551616):IntKind.u64.wrap n=n:=by
 rw[wrap_u64,gL];omega
theorem rW(n:Int):IntKind.u64.wrap n=n%18446744073709551616:=by
 rw[wrap_u64,gL];rfl
theorem iX(x y:Int):bo .u64 x y=(x+y)%18446744073709551616:=rW _
theorem tR(x y:Int):bV .u64 x y=(x - y)%18446744073709551616:=rW _
theorem ln(x y:Int):eK .u64 x y=(x*y)%18446744073709551616:=rW _
theorem AT(x:Int):dG .u64 x=x%18446744073709551616:=rW _
theorem yK{x:Int}(h:0≤x)(h2:x < 18446744073709551616):ct .and .u64 x 4294967295=x%4294967296:=by
 obtain⟨n,rfl⟩:∃n:Nat,x=n:=⟨x.toNat,by omega⟩
 have e:(BitVec.ofInt 64 (n:Int) &&& BitVec.ofInt 64 4294967295).toNat=n%4294967296:=by
  rw[BitVec.toNat_and]
  have a:(BitVec.ofInt 64 (n:Int)).toNat=n:=by rw[BitVec.ofInt_natCast,BitVec.toNat_ofNat];omega
  have b:(BitVec.ofInt 64 4294967295).toNat=2^32 - 1:=by decide
  rw[a,b,Nat.and_two_pow_sub_one_eq_mod]
 show IntKind.u64.wrap ((BitVec.ofInt 64 (n:Int) &&& BitVec.ofInt 64 4294967295).toNat:Int)=_
 rw[e,rX (by omega) (by omega)];omega
theorem HP{x:Int}(h:0≤x)(h2:x < 18446744073709551616):ct .and .u64 x 1=x%2:=by
 obtain⟨n,rfl⟩:∃n:Nat,x=n:=⟨x.toNat,by omega⟩
 have e:(BitVec.ofInt 64 (n:Int) &&& BitVec.ofInt 64 1).toNat=n%2:=by
  rw[BitVec.toNat_and]
  have a:(BitVec.ofInt 64 (n:Int)).toNat=n:=by rw[BitVec.ofInt_natCast,BitVec.toNat_ofNat];omega
  have b:(BitVec.ofInt 64 1).toNat=2^1 - 1:=by decide
  rw[a,b,Nat.and_two_pow_sub_one_eq_mod]
 show IntKind.u64.wrap ((BitVec.ofInt 64 (n:Int) &&& BitVec.ofInt 64 1).toNat:Int)=_
 rw[e,rX (by omega) (by omega)];omega
theorem lB{x k:Int}(n:Nat)(hk:k=n)(hn:n≤64):bW .u64 x k=x / 2^n:=by
 subst hk
 rw[bW]
 have e:min (Int.toNat (n:Int)) IntKind.u64.bits=n:=by simp only[IntKind.bits];omega
 rw[e,Int.fdiv_eq_ediv_of_nonneg _ (Int.le_of_lt (Int.pow_pos (by omega)))]
theorem lA{x k:Int}(n:Nat)(hk:k=n)(hn:n≤64):jx .u64 x k=x*2^n%18446744073709551616:=by
 subst hk
 rw[jx,rW]
 have e:min (Int.toNat (n:Int)) IntKind.u64.bits=n:=by simp only[IntKind.bits];omega
 rw[e]
theorem rv{x y:Int}(k:Nat)(m:Int)(hm:m=2^k)(hx:x%m=0)(h0:0≤x)(h1:x < 18446744073709551616)(hy:0≤y)(hy2:y < m)(h2:x+y < 18446744073709551616):ct .or .u64 x y=x+y:=by
 subst hm
 obtain⟨n,rfl⟩:∃n:Nat,x=n:=⟨x.toNat,by omega⟩
 obtain⟨j,rfl⟩:∃j:Nat,y=j:=⟨y.toNat,by omega⟩
 have hx:n%2^k=0:=by
  have:((n%2^k:Nat):Int)=0:=by rw[Int.natCast_emod];simpa using hx
  omega
 have hj:j < 2^k:=by
  have:((j:Nat):Int) < ((2^k:Nat):Int):=by simpa using hy2
  omega
 obtain⟨q,rfl⟩:∃q,n=2^k*q:=⟨n / 2^k,by have:=Nat.div_add_mod n (2^k);omega⟩
 have e:(BitVec.ofInt 64 ((2^k*q:Nat):Int) ||| BitVec.ofInt 64 (j:Int)).toNat=2^k*q+j:=by
  rw[BitVec.toNat_or]
  have a:(BitVec.ofInt 64 ((2^k*q:Nat):Int)).toNat=2^k*q:=by rw[BitVec.ofInt_natCast,BitVec.toNat_ofNat];exact Nat.mod_eq_of_lt (by omega)
  have b:(BitVec.ofInt 64 (j:Int)).toNat=j:=by rw[BitVec.ofInt_natCast,BitVec.toNat_ofNat];exact Nat.mod_eq_of_lt (by omega)
  rw[a,b,Nat.two_pow_add_eq_or_of_lt hj]
 show IntKind.u64.wrap ((BitVec.ofInt 64 ((2^k*q:Nat):Int) ||| BitVec.ofInt 64 (j:Int)).toNat:Int)=_
 rw[e,rX (by omega) (by omega)];omega
theorem xN{x y:Int}(h:0≤x)(h1:0≤y)(h2:x < 18446744073709551616):kM .u64 x y=x / y:=by
 rw[kM,Int.tdiv_eq_ediv_of_nonneg h]
 exact rX (Int.ediv_nonneg h h1) (Int.lt_of_le_of_lt (Int.ediv_le_self _ h) h2)
theorem gS{x y:Int}(h:0≤x):fI x y=x%y:=by rw[fI,Int.tmod_eq_emod_of_nonneg h]
theorem k1{e u w r q:Int}(he:e=42260∨e=42264∨e=42272)(hu:0≤u)(hu2:u < 18446744073709551616 - e)(hw:0≤w)(hw2:w < 4294967296)(hr:0≤r)(hr2:r < 4294967296)
  (hq:q*4294967295+r=u) (hQ:(u*4294967296+w) / (18446744073709551616 - e)≤q):
  (4294967296≤q→(u*4294967296+w) / (18446744073709551616 - e)≤q - 1)∧
  (q < 4294967296→4294967296*r+w < q*(4294967296 - e)→(u*4294967296+w) / (18446744073709551616 - e)≤q - 1)∧
  (q < 4294967296→q*(4294967296 - e)≤4294967296*r+w→(u*4294967296+w) / (18446744073709551616 - e)=q)∧
  (4294967296≤r+4294967295→(u*4294967296+w) / (18446744073709551616 - e)≤q - 1→(u*4294967296+w) / (18446744073709551616 - e)=q - 1)∧0≤(u*4294967296+w) / (18446744073709551616 - e)∧q≤4294967297:=by
 rcases he with rfl | rfl | rfl
 ·refine⟨?_,?_,?_,?_,?_,?_⟩ <;> omega
 ·refine⟨?_,?_,?_,?_,?_,?_⟩ <;> omega
 ·refine⟨?_,?_,?_,?_,?_,?_⟩ <;> omega
theorem k0{e u w:Int}(he:e=42260∨e=42264∨e=42272)(hu:0≤u)(hu2:u < 18446744073709551616 - e)(hw:0≤w)(hw2:w < 4294967296):
  (u*4294967296+w) / (18446744073709551616 - e)≤u / 4294967295∧0≤u - u / 4294967295*4294967295∧u - u / 4294967295*4294967295 < 4294967296∧
  (u*4294967296+w) - (u*4294967296+w) / (18446744073709551616 - e)*(18446744073709551616 - e)=(u*4294967296+w)%(18446744073709551616 - e)∧
  0≤(u*4294967296+w)%(18446744073709551616 - e)∧(u*4294967296+w)%(18446744073709551616 - e) < 18446744073709551616 - e∧
  0≤(u*4294967296+w) / (18446744073709551616 - e)∧(u*4294967296+w) / (18446744073709551616 - e) < 4294967296:=by
 rcases he with rfl | rfl | rfl
 ·refine⟨?_,?_,?_,?_,?_,?_,?_,?_⟩ <;> omega
 ·refine⟨?_,?_,?_,?_,?_,?_,?_,?_⟩ <;> omega
 ·refine⟨?_,?_,?_,?_,?_,?_,?_,?_⟩ <;> omega
theorem kd(Y u w1 w0:Int)(hY:0 < Y)(h0:0≤w0)(h1:w0 < 4294967296):
  ((u*4294967296+w1)*4294967296+w0) / Y=(u*4294967296+w1) / Y*4294967296+((u*4294967296+w1)%Y*4294967296+w0) / Y∧
  ((u*4294967296+w1)*4294967296+w0)%Y=((u*4294967296+w1)%Y*4294967296+w0)%Y:=by
 generalize u*4294967296+w1=n
 have e:n*4294967296+w0=(n%Y*4294967296+w0)+Y*(n / Y*4294967296):=by
  have:=Int.emod_add_mul_ediv n Y
  have h:Y*(n / Y*4294967296)=(Y*(n / Y))*4294967296:=by rw[Int.mul_assoc]
  rw[h];omega
 rw[e,Int.add_mul_ediv_left _ _ (by omega),Int.add_mul_emod_self_left]
 exact⟨by omega,rfl⟩
abbrev ew.D:=Int
def ew.st:ew.D→SA:=fun x=>([.d tu x],[])
abbrev ew.Y:=Int
abbrev ew.X:=Int
def ew.out:ew.X→aT:=fun x=>⟨.d ti x,[],[]⟩
def ew.add:ew.D→ew.Y→ew.X:=fun x y=>y
def H6(y:Int):Prop:=y=4611686018427377339∨y=2305843009213688669∨y=2305843009213688668
def ew.aq:ew.D→Prop:=H6
def ew.F:ew.D→ew.Y:=fun y=>if y=4611686018427377339 then 62 else 61
noncomputable def ew.G:dU:=eZ (P:=Tryz.prog) []
noncomputable def ew.an:eu:= {}
noncomputable def ew.A:= @cq Tryz.prog ew.G ew.an 0 Tryz.f189 _ ew.st
abbrev ew.Ok:=cr @ew.A ew.aq ew.add ew.F ew.out
theorem ew.eq{R:Type}(x:Int)(k:aT→Option R):ew.A x k=
  aD ((lk x (4294967296:Int))) (
   aD ((lk (bW .u64 x (32:Int)) (65536:Int))) (
    aD ((lk (bW .u64 (bW .u64 x (32:Int)) (16:Int)) (256:Int))) (
     aD (dZ (dG .u8 (bW .u64 (bW .u64 (bW .u64 x (32:Int)) (16:Int)) (8:Int))) (256:Int)) (
     k (ew.out (bo .i64 (56:Int) (dG .i64 (zS (⟨#[0,1,2,2,3,3,3,3,4,4,4,4,4,4,4,4,5,5,5,5,5,5,5,5,5,5,5,5,5,5,5,5,6,6,6,6,6,6,6,6,6,6,6,6,6,6,6,6,6,6,6,6,6,6,6,6,6,6,6,6,6,6,6,6,7,7,7,7,7,7,7,7,7,7,7,7,7,7,7,7,7,7,7,7,7,7,7,7,7,7,7,7,7,7,7,7,7,7,7,7,7,7,7,7,7,7,7,7,7,7,7,7,7,7,7,7,7,7,7,7,7,7,7,7,7,7,7,7,8,8,8,8,8,8,8,8,8,8,8,8,8,8,8,8,8,8,8,8,8,8,8,8,8,8,8,8,8,8,8,8,8,8,8,8,8,8,8,8,8,8,8,8,8,8,8,8,8,8,8,8,8,8,8,8,8,8,8,8,8,8,8,8,8,8,8,8,8,8,8,8,8,8,8,8,8,8,8,8,8,8,8,8,8,8,8,8,8,8,8,8,8,8,8,8,8,8,8,8,8,8,8,8,8,8,8,8,8,8,8,8,8,8,8,8,8,8,8,8,8,8,8,8,8,8,8,8]⟩:ByteArray) (dG .u8 (bW .u64 (bW .u64 (bW .u64 x (32:Int)) (16:Int)) (8:Int)))))))) none) (
     aD (dZ (dG .u8 (bW .u64 (bW .u64 x (32:Int)) (16:Int))) (256:Int)) (
     k (ew.out (bo .i64 (48:Int) (dG .i64 (zS (⟨#[0,1,2,2,3,3,3,3,4,4,4,4,4,4,4,4,5,5,5,5,5,5,5,5,5,5,5,5,5,5,5,5,6,6,6,6,6,6,6,6,6,6,6,6,6,6,6,6,6,6,6,6,6,6,6,6,6,6,6,6,6,6,6,6,7,7,7,7,7,7,7,7,7,7,7,7,7,7,7,7,7,7,7,7,7,7,7,7,7,7,7,7,7,7,7,7,7,7,7,7,7,7,7,7,7,7,7,7,7,7,7,7,7,7,7,7,7,7,7,7,7,7,7,7,7,7,7,7,8,8,8,8,8,8,8,8,8,8,8,8,8,8,8,8,8,8,8,8,8,8,8,8,8,8,8,8,8,8,8,8,8,8,8,8,8,8,8,8,8,8,8,8,8,8,8,8,8,8,8,8,8,8,8,8,8,8,8,8,8,8,8,8,8,8,8,8,8,8,8,8,8,8,8,8,8,8,8,8,8,8,8,8,8,8,8,8,8,8,8,8,8,8,8,8,8,8,8,8,8,8,8,8,8,8,8,8,8,8,8,8,8,8,8,8,8,8,8,8,8,8,8,8,8,8,8,8]⟩:ByteArray) (dG .u8 (bW .u64 (bW .u64 x (32:Int)) (16:Int)))))))) none)) (
    aD ((lk (bW .u64 x (32:Int)) (256:Int))) (
     aD (dZ (dG .u8 (bW .u64 (bW .u64 x (32:Int)) (8:Int))) (256:Int)) (
     k (ew.out (bo .i64 (40:Int) (dG .i64 (zS (⟨#[0,1,2,2,3,3,3,3,4,4,4,4,4,4,4,4,5,5,5,5,5,5,5,5,5,5,5,5,5,5,5,5,6,6,6,6,6,6,6,6,6,6,6,6,6,6,6,6,6,6,6,6,6,6,6,6,6,6,6,6,6,6,6,6,7,7,7,7,7,7,7,7,7,7,7,7,7,7,7,7,7,7,7,7,7,7,7,7,7,7,7,7,7,7,7,7,7,7,7,7,7,7,7,7,7,7,7,7,7,7,7,7,7,7,7,7,7,7,7,7,7,7,7,7,7,7,7,7,8,8,8,8,8,8,8,8,8,8,8,8,8,8,8,8,8,8,8,8,8,8,8,8,8,8,8,8,8,8,8,8,8,8,8,8,8,8,8,8,8,8,8,8,8,8,8,8,8,8,8,8,8,8,8,8,8,8,8,8,8,8,8,8,8,8,8,8,8,8,8,8,8,8,8,8,8,8,8,8,8,8,8,8,8,8,8,8,8,8,8,8,8,8,8,8,8,8,8,8,8,8,8,8,8,8,8,8,8,8,8,8,8,8,8,8,8,8,8,8,8,8,8,8,8,8,8,8]⟩:ByteArray) (dG .u8 (bW .u64 (bW .u64 x (32:Int)) (8:Int)))))))) none) (
     aD (dZ (dG .u8 (bW .u64 x (32:Int))) (256:Int)) (
     k (ew.out (bo .i64 (32:Int) (dG .i64 (zS (⟨#[0,1,2,2,3,3,3,3,4,4,4,4,4,4,4,4,5,5,5,5,5,5,5,5,5,5,5,5,5,5,5,5,6,6,6,6,6,6,6,6,6,6,6,6,6,6,6,6,6,6,6,6,6,6,6,6,6,6,6,6,6,6,6,6,7,7,7,7,7,7,7,7,7,7,7,7,7,7,7,7,7,7,7,7,7,7,7,7,7,7,7,7,7,7,7,7,7,7,7,7,7,7,7,7,7,7,7,7,7,7,7,7,7,7,7,7,7,7,7,7,7,7,7,7,7,7,7,7,8,8,8,8,8,8,8,8,8,8,8,8,8,8,8,8,8,8,8,8,8,8,8,8,8,8,8,8,8,8,8,8,8,8,8,8,8,8,8,8,8,8,8,8,8,8,8,8,8,8,8,8,8,8,8,8,8,8,8,8,8,8,8,8,8,8,8,8,8,8,8,8,8,8,8,8,8,8,8,8,8,8,8,8,8,8,8,8,8,8,8,8,8,8,8,8,8,8,8,8,8,8,8,8,8,8,8,8,8,8,8,8,8,8,8,8,8,8,8,8,8,8,8,8,8,8,8,8]⟩:ByteArray) (dG .u8 (bW .u64 x (32:Int)))))))) none))) (
   aD ((lk x (65536:Int))) (
    aD ((lk (bW .u64 x (16:Int)) (256:Int))) (
     aD (dZ (dG .u8 (bW .u64 (bW .u64 x (16:Int)) (8:Int))) (256:Int)) (
     k (ew.out (bo .i64 (24:Int) (dG .i64 (zS (⟨#[0,1,2,2,3,3,3,3,4,4,4,4,4,4,4,4,5,5,5,5,5,5,5,5,5,5,5,5,5,5,5,5,6,6,6,6,6,6,6,6,6,6,6,6,6,6,6,6,6,6,6,6,6,6,6,6,6,6,6,6,6,6,6,6,7,7,7,7,7,7,7,7,7,7,7,7,7,7,7,7,7,7,7,7,7,7,7,7,7,7,7,7,7,7,7,7,7,7,7,7,7,7,7,7,7,7,7,7,7,7,7,7,7,7,7,7,7,7,7,7,7,7,7,7,7,7,7,7,8,8,8,8,8,8,8,8,8,8,8,8,8,8,8,8,8,8,8,8,8,8,8,8,8,8,8,8,8,8,8,8,8,8,8,8,8,8,8,8,8,8,8,8,8,8,8,8,8,8,8,8,8,8,8,8,8,8,8,8,8,8,8,8,8,8,8,8,8,8,8,8,8,8,8,8,8,8,8,8,8,8,8,8,8,8,8,8,8,8,8,8,8,8,8,8,8,8,8,8,8,8,8,8,8,8,8,8,8,8,8,8,8,8,8,8,8,8,8,8,8,8,8,8,8,8,8,8]⟩:ByteArray) (dG .u8 (bW .u64 (bW .u64 x (16:Int)) (8:Int)))))))) none) (
     aD (dZ (dG .u8 (bW .u64 x (16:Int))) (256:Int)) (
     k (ew.out (bo .i64 (16:Int) (dG .i64 (zS (⟨#[0,1,2,2,3,3,3,3,4,4,4,4,4,4,4,4,5,5,5,5,5,5,5,5,5,5,5,5,5,5,5,5,6,6,6,6,6,6,6,6,6,6,6,6,6,6,6,6,6,6,6,6,6,6,6,6,6,6,6,6,6,6,6,6,7,7,7,7,7,7,7,7,7,7,7,7,7,7,7,7,7,7,7,7,7,7,7,7,7,7,7,7,7,7,7,7,7,7,7,7,7,7,7,7,7,7,7,7,7,7,7,7,7,7,7,7,7,7,7,7,7,7,7,7,7,7,7,7,8,8,8,8,8,8,8,8,8,8,8,8,8,8,8,8,8,8,8,8,8,8,8,8,8,8,8,8,8,8,8,8,8,8,8,8,8,8,8,8,8,8,8,8,8,8,8,8,8,8,8,8,8,8,8,8,8,8,8,8,8,8,8,8,8,8,8,8,8,8,8,8,8,8,8,8,8,8,8,8,8,8,8,8,8,8,8,8,8,8,8,8,8,8,8,8,8,8,8,8,8,8,8,8,8,8,8,8,8,8,8,8,8,8,8,8,8,8,8,8,8,8,8,8,8,8,8,8]⟩:ByteArray) (dG .u8 (bW .u64 x (16:Int)))))))) none)) (
    aD ((lk x (256:Int))) (
     aD (dZ (dG .u8 (bW .u64 x (8:Int))) (256:Int)) (
     k (ew.out (bo .i64 (8:Int) (dG .i64 (zS (⟨#[0,1,2,2,3,3,3,3,4,4,4,4,4,4,4,4,5,5,5,5,5,5,5,5,5,5,5,5,5,5,5,5,6,6,6,6,6,6,6,6,6,6,6,6,6,6,6,6,6,6,6,6,6,6,6,6,6,6,6,6,6,6,6,6,7,7,7,7,7,7,7,7,7,7,7,7,7,7,7,7,7,7,7,7,7,7,7,7,7,7,7,7,7,7,7,7,7,7,7,7,7,7,7,7,7,7,7,7,7,7,7,7,7,7,7,7,7,7,7,7,7,7,7,7,7,7,7,7,8,8,8,8,8,8,8,8,8,8,8,8,8,8,8,8,8,8,8,8,8,8,8,8,8,8,8,8,8,8,8,8,8,8,8,8,8,8,8,8,8,8,8,8,8,8,8,8,8,8,8,8,8,8,8,8,8,8,8,8,8,8,8,8,8,8,8,8,8,8,8,8,8,8,8,8,8,8,8,8,8,8,8,8,8,8,8,8,8,8,8,8,8,8,8,8,8,8,8,8,8,8,8,8,8,8,8,8,8,8,8,8,8,8,8,8,8,8,8,8,8,8,8,8,8,8,8,8]⟩:ByteArray) (dG .u8 (bW .u64 x (8:Int)))))))) none) (
     aD (dZ (dG .u8 x) (256:Int)) (
     k (ew.out (bo .i64 (0:Int) (dG .i64 (zS (⟨#[0,1,2,2,3,3,3,3,4,4,4,4,4,4,4,4,5,5,5,5,5,5,5,5,5,5,5,5,5,5,5,5,6,6,6,6,6,6,6,6,6,6,6,6,6,6,6,6,6,6,6,6,6,6,6,6,6,6,6,6,6,6,6,6,7,7,7,7,7,7,7,7,7,7,7,7,7,7,7,7,7,7,7,7,7,7,7,7,7,7,7,7,7,7,7,7,7,7,7,7,7,7,7,7,7,7,7,7,7,7,7,7,7,7,7,7,7,7,7,7,7,7,7,7,7,7,7,7,8,8,8,8,8,8,8,8,8,8,8,8,8,8,8,8,8,8,8,8,8,8,8,8,8,8,8,8,8,8,8,8,8,8,8,8,8,8,8,8,8,8,8,8,8,8,8,8,8,8,8,8,8,8,8,8,8,8,8,8,8,8,8,8,8,8,8,8,8,8,8,8,8,8,8,8,8,8,8,8,8,8,8,8,8,8,8,8,8,8,8,8,8,8,8,8,8,8,8,8,8,8,8,8,8,8,8,8,8,8,8,8,8,8,8,8,8,8,8,8,8,8,8,8,8,8,8,8]⟩:ByteArray) (dG .u8 x)))))) none))):=by kernel_rfl
theorem ew.ok:ew.Ok:=by
 intro y h
 rw[ew.eq]
 obtain rfl | rfl | rfl:=h <;> kernel_rfl
noncomputable def ew.E:=Entry.cD [some tu] ew.st ew.aq ew.add ew.F ew.out
noncomputable def ew.call:ew.D→Option ew.X:=bC ew.E ew.st
theorem ew.run:bD ew.call ew.aq ew.add ew.F:=cw (cv [.d tu] fun _=>by kernel_rfl)
noncomputable def ew.sg:SG Tryz.prog:=⟨189,aK,ew.E,.fn 0 (by kernel_rfl) ew.ok trivial⟩
abbrev gA.D:=Int
def gA.st:gA.D→SA:=fun x=>([.d tu x],[])
abbrev gA.Y:=Int
abbrev gA.X:=Int
def gA.out:gA.X→aT:=fun x=>⟨.d ti x,[],[]⟩
def gA.add:gA.D→gA.Y→gA.X:=fun x y=>y
def gA.aq:gA.D→Prop:=H6
def gA.F:gA.D→gA.Y:=fun y=>if y=4611686018427377339 then 2 else 3
noncomputable def gA.G:dU:=eZ (P:=Tryz.prog) [ew.sg]
noncomputable def gA.an:eu:= {}
noncomputable def gA.A:= @cq Tryz.prog gA.G gA.an 0 Tryz.f183 _ gA.st
abbrev gA.Ok:=cr @gA.A gA.aq gA.add gA.F gA.out
theorem gA.eq{R:Type}(x:Int)(k:aT→Option R):gA.A x k=
 ab (ew.call x) fun x1=>
 k (gA.out (bV .i64 (64:Int) x1)):=by kernel_rfl
theorem gA.ok:gA.Ok:=by
 intro y h
 rw[gA.eq,ew.run (d:=y) h]
 obtain rfl | rfl | rfl:=h <;> rfl
noncomputable def gA.E:=Entry.cD [some tu] gA.st gA.aq gA.add gA.F gA.out
noncomputable def gA.call:gA.D→Option gA.X:=bC gA.E gA.st
theorem gA.run:bD gA.call gA.aq gA.add gA.F:=cw (cv [.d tu] fun _=>by kernel_rfl)
noncomputable def gA.sg:SG Tryz.prog:=⟨183,aK,gA.E,.fn 0 (by kernel_rfl) gA.ok trivial⟩
set_option synthInstance.maxSize 5000
abbrev aW.L0.D:=Int×Int×Int×Int×Int×Int×Int×Int×Int
def aW.L0.st:aW.L0.D→AS:=fun(yv_2,sv,yn1,yn0,un32,un1,un0,q1,rhat)=>⟨([.undef,.undef,.d tu yv_2]++bw 5 ([.d tu sv,.d tu yn1,.d tu yn0,.d tu un32,.undef,.d tu un1,.d tu un0,.d tu q1,.d tu rhat]++bw 118 [])),[],(List.replicate 135 [])⟩
abbrev aW.L0.Y0:=Int
abbrev aW.L0.X0:=(Int×Int×Int×Int×Int×Int×Int)×(Int)
def aW.L0.bK:aW.L0.X0→Exit×AS:=fun x=>(.exit 0,⟨([.undef,.undef,.d tu x.1.1]++bw 5 ([.d tu x.1.2.1,.d tu x.1.2.2.1,.d tu x.1.2.2.2.1,.d tu x.1.2.2.2.2.1,.undef,.d tu x.1.2.2.2.2.2.1,.d tu x.1.2.2.2.2.2.2,.d tu x.2]++bw 119 [])),[],(List.replicate 135 [])⟩)
abbrev aW.L0.X:=aW.L0.X0
abbrev aW.L0.Y:=aW.L0.Y0
def aW.L0.out:aW.L0.X→Out (Exit×AS):=fun x=> .ok (aW.L0.bK x)
def aW.L0.add:aW.L0.D→aW.L0.Y→aW.L0.X:=fun(yv_2,sv,yn1,yn0,un32,un1,un0,q1,rhat) y=>((yv_2,sv,yn1,yn0,un32,un1,un0),y)
abbrev aW.L1.D:=Int×Int×Int×Int×Int×Int×Int×Int×Int
def aW.L1.st:aW.L1.D→AS:=fun(yv_3,sv_2,yn1_2,yn0_2,un0_2,q1_2,rhat_2,un21,q0)=>⟨([.undef,.undef,.d tu yv_3]++bw 5 ([.d tu sv_2,.d tu yn1_2,.d tu yn0_2,.undef,.undef,.undef,.d tu un0_2,.d tu q1_2,.d tu rhat_2,.d tu un21,.d tu q0]++bw 116 [])),[],(List.replicate 135 [])⟩
abbrev aW.L1.Y0:=Int
abbrev aW.L1.X0:=(Int×Int×Int×Int×Int)×(Int)
def aW.L1.bK:aW.L1.X0→Exit×AS:=fun x=>(.exit 2,⟨([.undef,.undef,.d tu x.1.1]++bw 5 ([.d tu x.1.2.1]++bw 5 ([.d tu x.1.2.2.1,.d tu x.1.2.2.2.1,.undef,.d tu x.1.2.2.2.2,.d tu x.2]++bw 116 []))),[],(List.replicate 135 [])⟩)
abbrev aW.L1.X:=aW.L1.X0
abbrev aW.L1.Y:=aW.L1.Y0
def aW.L1.out:aW.L1.X→Out (Exit×AS):=fun x=> .ok (aW.L1.bK x)
def aW.L1.add:aW.L1.D→aW.L1.Y→aW.L1.X:=fun(yv_3,sv_2,yn1_2,yn0_2,un0_2,q1_2,rhat_2,un21,q0) y=>((yv_3,sv_2,un0_2,q1_2,un21),y)
abbrev aW.D:=Int×Int×Int
def aW.st:aW.D→SA:=fun(hi,lo,yv)=>([.d tu hi,.d tu lo,.d tu yv],[])
abbrev aW.Y:=Int×Int
abbrev aW.X:=Int×Int
def aW.out:aW.X→aT:=fun x=>⟨.cons (.d tu x.1) (.cons (.d tu x.2) (.nil)),[],[]⟩
def aW.add:aW.D→aW.Y→aW.X:=fun(hi,lo,yv) y=>y
def aW.L0.aq:aW.L0.D→Prop:=fun(y,sv,yn1,yn0,u,w,un0,q,r)=>∃e:Int,(e=42260∨e=42264∨e=42272)∧y=18446744073709551616 - e∧yn1=4294967295∧yn0=4294967296 - e∧0≤u∧u < 18446744073709551616 - e∧0≤w∧w < 4294967296∧0≤r∧r < 4294967296∧q*4294967295+r=u∧(u*4294967296+w) / (18446744073709551616 - e)≤q
def aW.L0.F:aW.L0.D→aW.L0.Y:=fun(y,sv,yn1,yn0,u,w,un0,q,r)=>(u*4294967296+w) / y
def aW.L1.aq:aW.L1.D→Prop:=fun(y,sv,yn1,yn0,w,q1,r,u,q)=>∃e:Int,(e=42260∨e=42264∨e=42272)∧y=18446744073709551616 - e∧yn1=4294967295∧yn0=4294967296 - e∧0≤u∧u < 18446744073709551616 - e∧0≤w∧w < 4294967296∧0≤r∧r < 4294967296∧q*4294967295+r=u∧(u*4294967296+w) / (18446744073709551616 - e)≤q
def aW.L1.F:aW.L1.D→aW.L1.Y:=fun(y,sv,yn1,yn0,w,q1,r,u,q)=>(u*4294967296+w) / y
def aW.aq:aW.D→Prop:=fun(hi,lo,y)=>H6 y∧0≤hi∧hi < y∧0≤lo∧lo < 18446744073709551616
def aW.F:aW.D→aW.Y:=fun(hi,lo,y)=>((hi*18446744073709551616+lo) / y,(hi*18446744073709551616+lo)%y)
noncomputable def aW.G:dU:=eZ (P:=Tryz.prog) [gA.sg]
noncomputable def aW.L0.E:=cf.cD aW.L0.st aW.L0.aq aW.L0.add aW.L0.F aW.L0.out
noncomputable def aW.L0.call:aW.L0.D→Option aW.L0.X:=dL aW.L0.E aW.L0.st
noncomputable def aW.L1.E:=cf.cD aW.L1.st aW.L1.aq aW.L1.add aW.L1.F aW.L1.out
noncomputable def aW.L1.call:aW.L1.D→Option aW.L1.X:=dL aW.L1.E aW.L1.st
noncomputable def aW.an:eu:= {loops:=ki [(17,{bu:=[2,8,9,10,11,13,14,15,16]}),(24,{bu:=[2,8,9,10,14,15,16,17,18]})],outs:=kh [(17,{bu:=[2,8,9,10,11,13,14,15]},{bu:=[6,7]}),(24,{bu:=[2,8,14,15,17,18]},{bu:=[6,7]})],gq:=lv [(17,aW.L0.E),(24,aW.L1.E)]}
noncomputable def aW.A:= @cq Tryz.prog aW.G aW.an 0 Tryz.f171 _ aW.st
abbrev aW.Ok:=cr @aW.A aW.aq aW.add aW.F aW.out
noncomputable def aW.L0.R:= @cM Tryz.prog aW.G aW.an 0 Tryz.f171 0 _ aW.L0.st
abbrev aW.L0.Ok:=fk Tryz.prog aW.G aW.an 0 Tryz.f171 0 aW.L0.st aW.L0.aq aW.L0.add aW.L0.F aW.L0.out
noncomputable def aW.L1.R:= @cM Tryz.prog aW.G aW.an 0 Tryz.f171 1 _ aW.L1.st
abbrev aW.L1.Ok:=fk Tryz.prog aW.G aW.an 0 Tryz.f171 1 aW.L1.st aW.L1.aq aW.L1.add aW.L1.F aW.L1.out
theorem aW.L0.run:bD aW.L0.call aW.L0.aq aW.L0.add aW.L0.F:=fy (fx [.d tu,.d tu,.d tu,.d tu,.d tu,.d tu,.d tu,.d tu,.d tu] fun _=>by kernel_rfl)
theorem aW.L0.aE:fY @aW.L0.R aW.L0.st aW.L0.aq aW.L0.add aW.L0.F aW.L0.bK aW.L0.Ok:=gj
theorem aW.L0.step{R:Type}(yv_2:Int)(sv:Int)(yn1:Int)(yn0:Int)(un32:Int)(un1:Int)(un0:Int)(q1:Int)(rhat:Int)(kn:AS→Option R)(kx:Exit→AS→Option R):aW.L0.R (yv_2,sv,yn1,yn0,un32,un1,un0,q1,rhat) kn kx=
  aD ((lk q1 (4294967296:Int))) (
   aD ((lk (bo .u64 rhat yn1) (4294967296:Int))) (
    kx (aW.L0.bK ((yv_2,sv,yn1,yn0,un32,un1,un0),(bV .u64 q1 (1:Int)))).1 (aW.L0.bK ((yv_2,sv,yn1,yn0,un32,un1,un0),(bV .u64 q1 (1:Int)))).2) (
    kn (aW.L0.st (yv_2,sv,yn1,yn0,un32,un1,un0,(bV .u64 q1 (1:Int)),(bo .u64 rhat yn1))))) (
   aD ((mX (eK .u64 q1 yn0) (bo .u64 (eK .u64 (4294967296:Int) rhat) un1))) (
    aD ((lk (bo .u64 rhat yn1) (4294967296:Int))) (
     kx (aW.L0.bK ((yv_2,sv,yn1,yn0,un32,un1,un0),(bV .u64 q1 (1:Int)))).1 (aW.L0.bK ((yv_2,sv,yn1,yn0,un32,un1,un0),(bV .u64 q1 (1:Int)))).2) (
     kn (aW.L0.st (yv_2,sv,yn1,yn0,un32,un1,un0,(bV .u64 q1 (1:Int)),(bo .u64 rhat yn1))))) (
    kx (aW.L0.bK ((yv_2,sv,yn1,yn0,un32,un1,un0),q1)).1 (aW.L0.bK ((yv_2,sv,yn1,yn0,un32,un1,un0),q1)).2)):=by kernel_rfl
theorem aW.L1.run:bD aW.L1.call aW.L1.aq aW.L1.add aW.L1.F:=fy (fx [.d tu,.d tu,.d tu,.d tu,.d tu,.d tu,.d tu,.d tu,.d tu] fun _=>by kernel_rfl)
theorem aW.L1.aE:fY @aW.L1.R aW.L1.st aW.L1.aq aW.L1.add aW.L1.F aW.L1.bK aW.L1.Ok:=gj
theorem aW.L1.step{R:Type}(yv_3:Int)(sv_2:Int)(yn1_2:Int)(yn0_2:Int)(un0_2:Int)(q1_2:Int)(rhat_2:Int)(un21:Int)(q0:Int)(kn:AS→Option R)(kx:Exit→AS→Option R):aW.L1.R (yv_3,sv_2,yn1_2,yn0_2,un0_2,q1_2,rhat_2,un21,q0) kn kx=
  aD ((lk q0 (4294967296:Int))) (
   aD ((lk (bo .u64 rhat_2 yn1_2) (4294967296:Int))) (
    kx (aW.L1.bK ((yv_3,sv_2,un0_2,q1_2,un21),(bV .u64 q0 (1:Int)))).1 (aW.L1.bK ((yv_3,sv_2,un0_2,q1_2,un21),(bV .u64 q0 (1:Int)))).2) (
    kn (aW.L1.st (yv_3,sv_2,yn1_2,yn0_2,un0_2,q1_2,(bo .u64 rhat_2 yn1_2),un21,(bV .u64 q0 (1:Int)))))) (
   aD ((mX (eK .u64 q0 yn0_2) (bo .u64 (eK .u64 (4294967296:Int) rhat_2) un0_2))) (
    aD ((lk (bo .u64 rhat_2 yn1_2) (4294967296:Int))) (
     kx (aW.L1.bK ((yv_3,sv_2,un0_2,q1_2,un21),(bV .u64 q0 (1:Int)))).1 (aW.L1.bK ((yv_3,sv_2,un0_2,q1_2,un21),(bV .u64 q0 (1:Int)))).2) (
     kn (aW.L1.st (yv_3,sv_2,yn1_2,yn0_2,un0_2,q1_2,(bo .u64 rhat_2 yn1_2),un21,(bV .u64 q0 (1:Int)))))) (
    kx (aW.L1.bK ((yv_3,sv_2,un0_2,q1_2,un21),q0)).1 (aW.L1.bK ((yv_3,sv_2,un0_2,q1_2,un21),q0)).2)):=by kernel_rfl
theorem aW.eq{R:Type}(hi:Int)(lo:Int)(yv:Int)(k:aT→Option R):aW.A (hi,lo,yv) k=
  aD ((jO yv (0:Int))) (
   none) (
   aD ((yz yv hi)) (
    none) (
    aD ((jO hi (0:Int))) (
     aD (iK yv) (
     aD (iK yv) (
     k (aW.out ((kM .u64 lo yv),(fI lo yv)))) none) none) (
     ab (gA.call yv) fun x1=>
     aD (iU (dG .u64 x1)) (
     aD (iU (dG .u64 x1)) (
     aD (iU (bV .u64 (64:Int) (dG .u64 x1))) (
     aD (iU (dG .u64 x1)) (
     aD (iK (bW .u64 (jx .u64 yv (dG .u64 x1)) (32:Int))) (
     ab (aW.L0.call ((jx .u64 yv (dG .u64 x1)),(dG .u64 x1),(bW .u64 (jx .u64 yv (dG .u64 x1)) (32:Int)),(ct .and .u64 (jx .u64 yv (dG .u64 x1)) (4294967295:Int)),(ct .or .u64 (jx .u64 hi (dG .u64 x1)) (bW .u64 lo (bV .u64 (64:Int) (dG .u64 x1)))),(bW .u64 (jx .u64 lo (dG .u64 x1)) (32:Int)),(ct .and .u64 (jx .u64 lo (dG .u64 x1)) (4294967295:Int)),(kM .u64 (ct .or .u64 (jx .u64 hi (dG .u64 x1)) (bW .u64 lo (bV .u64 (64:Int) (dG .u64 x1)))) (bW .u64 (jx .u64 yv (dG .u64 x1)) (32:Int))),(bV .u64 (ct .or .u64 (jx .u64 hi (dG .u64 x1)) (bW .u64 lo (bV .u64 (64:Int) (dG .u64 x1)))) (eK .u64 (kM .u64 (ct .or .u64 (jx .u64 hi (dG .u64 x1)) (bW .u64 lo (bV .u64 (64:Int) (dG .u64 x1)))) (bW .u64 (jx .u64 yv (dG .u64 x1)) (32:Int))) (bW .u64 (jx .u64 yv (dG .u64 x1)) (32:Int)))))) fun x2=>
     aD (iK x2.1.2.2.1) (
     ab (aW.L1.call (x2.1.1,x2.1.2.1,x2.1.2.2.1,x2.1.2.2.2.1,x2.1.2.2.2.2.2.2,x2.2,(bV .u64 (bV .u64 (bo .u64 (eK .u64 x2.1.2.2.2.2.1 (4294967296:Int)) x2.1.2.2.2.2.2.1) (eK .u64 x2.2 x2.1.1)) (eK .u64 (kM .u64 (bV .u64 (bo .u64 (eK .u64 x2.1.2.2.2.2.1 (4294967296:Int)) x2.1.2.2.2.2.2.1) (eK .u64 x2.2 x2.1.1)) x2.1.2.2.1) x2.1.2.2.1)),(bV .u64 (bo .u64 (eK .u64 x2.1.2.2.2.2.1 (4294967296:Int)) x2.1.2.2.2.2.2.1) (eK .u64 x2.2 x2.1.1)),(kM .u64 (bV .u64 (bo .u64 (eK .u64 x2.1.2.2.2.2.1 (4294967296:Int)) x2.1.2.2.2.2.2.1) (eK .u64 x2.2 x2.1.1)) x2.1.2.2.1))) fun x3=>
     aD (iU x3.1.2.1) (
     k (aW.out ((bo .u64 (eK .u64 x3.1.2.2.2.1 (4294967296:Int)) x3.2),(bW .u64 (bV .u64 (bo .u64 (eK .u64 x3.1.2.2.2.2 (4294967296:Int)) x3.1.2.2.1) (eK .u64 x3.2 x3.1.1)) x3.1.2.1)))) none) none) none) none) none) none) none))):=by kernel_rfl
theorem aW.L0.ok:aW.L0.Ok:=by
 refine aW.L0.aE (fun(y,sv,yn1,yn0,u,w,un0,q,r)=>q.toNat) ?_
 rintro⟨y,sv,yn1,yn0,u,w,un0,q,r⟩ ⟨e,he,rfl,rfl,rfl,hu,hu2,hw,hw2,hr,hr2,hq,hQ⟩
 have hu:0≤u:=hu
 have hu2:u < 18446744073709551616 - e:=hu2
 have hw:0≤w:=hw
 have hw2:w < 4294967296:=hw2
 have hr:0≤r:=hr
 have hr2:r < 4294967296:=hr2
 have hq:q*4294967295+r=u:=hq
 obtain⟨k1,k2,k3,k4,k5,k6⟩:=k1 he hu hu2 hw hw2 hr hr2 hq hQ
 have q0:0≤q:=Int.le_trans k5 hQ
 have a1:bo .u64 r 4294967295=r+4294967295:=by rw[iX];omega
 have a2:bo .u64 (eK .u64 4294967296 r) w=4294967296*r+w:=by rw[ln,iX];omega
 have a3:q < 4294967296→eK .u64 q (4294967296 - e)=q*(4294967296 - e):=by
  intro h;rw[ln];rcases he with rfl | rfl | rfl <;> omega
 have a4:0 < q→bV .u64 q 1=q - 1:=by intro h;rw[tR];omega
 have pos:4294967296≤q∨(q < 4294967296∧4294967296*r+w < q*(4294967296 - e))→0 < q∧(u*4294967296+w) / (18446744073709551616 - e)≤q - 1:=by
  rintro(h | ⟨h,h2⟩)
  ·exact⟨by omega,k1 h⟩
  ·exact⟨by have:=k2 h h2;omega,k2 h h2⟩
 by_cases hc:4294967296≤q∨(q < 4294967296∧4294967296*r+w < q*(4294967296 - e))
 ·obtain⟨p1,p2⟩:=pos hc
  by_cases hb:4294967296≤r+4294967295
  ·right
   have hF:aW.L0.F (18446744073709551616 - e,sv,4294967295,4294967296 - e,u,w,un0,q,r)=q - 1:=k4 hb p2
   intro R kn kx
   rw[aW.L0.step,a1,a2,a4 p1,ij hb,hF]
   rcases hc with h | ⟨h,h2⟩
   ·rw[ij h];rfl
   ·rw[fR (by omega),a3 h,ee h2];rfl
  ·left
   refine⟨(18446744073709551616 - e,sv,4294967295,4294967296 - e,u,w,un0,q - 1,r+4294967295),⟨e,he,rfl,rfl,rfl,hu,hu2,hw,hw2,by omega,by omega,by omega,p2⟩,by simp only[];omega,rfl,fun kn kx=> ?_⟩
   rw[aW.L0.step,a1,a2,a4 p1,fR hb]
   rcases hc with h | ⟨h,h2⟩
   ·rw[ij h];rfl
   ·rw[fR (by omega),a3 h,ee h2];rfl
 ·right
  have h:q < 4294967296:=by omega
  have h2:¬4294967296*r+w < q*(4294967296 - e):=fun x=>hc (Or.inr ⟨h,x⟩)
  have hF:aW.L0.F (18446744073709551616 - e,sv,4294967295,4294967296 - e,u,w,un0,q,r)=q:=k3 h (by omega)
  intro R kn kx
  rw[aW.L0.step,a2,a3 h,fR (by omega),dj h2,hF]
  rfl
theorem aW.L1.ok:aW.L1.Ok:=by
 refine aW.L1.aE (fun(y,sv,yn1,yn0,w,q1,r,u,q)=>q.toNat) ?_
 rintro⟨y,sv,yn1,yn0,w,q1,r,u,q⟩ ⟨e,he,rfl,rfl,rfl,hu,hu2,hw,hw2,hr,hr2,hq,hQ⟩
 have hu:0≤u:=hu
 have hu2:u < 18446744073709551616 - e:=hu2
 have hw:0≤w:=hw
 have hw2:w < 4294967296:=hw2
 have hr:0≤r:=hr
 have hr2:r < 4294967296:=hr2
 have hq:q*4294967295+r=u:=hq
 obtain⟨k1,k2,k3,k4,k5,k6⟩:=k1 he hu hu2 hw hw2 hr hr2 hq hQ
 have q0:0≤q:=Int.le_trans k5 hQ
 have a1:bo .u64 r 4294967295=r+4294967295:=by rw[iX];omega
 have a2:bo .u64 (eK .u64 4294967296 r) w=4294967296*r+w:=by rw[ln,iX];omega
 have a3:q < 4294967296→eK .u64 q (4294967296 - e)=q*(4294967296 - e):=by
  intro h;rw[ln];rcases he with rfl | rfl | rfl <;> omega
 have a4:0 < q→bV .u64 q 1=q - 1:=by intro h;rw[tR];omega
 have pos:4294967296≤q∨(q < 4294967296∧4294967296*r+w < q*(4294967296 - e))→0 < q∧(u*4294967296+w) / (18446744073709551616 - e)≤q - 1:=by
  rintro(h | ⟨h,h2⟩)
  ·exact⟨by omega,k1 h⟩
  ·exact⟨by have:=k2 h h2;omega,k2 h h2⟩
 by_cases hc:4294967296≤q∨(q < 4294967296∧4294967296*r+w < q*(4294967296 - e))
 ·obtain⟨p1,p2⟩:=pos hc
  by_cases hb:4294967296≤r+4294967295
  ·right
   have hF:aW.L1.F (18446744073709551616 - e,sv,4294967295,4294967296 - e,w,q1,r,u,q)=q - 1:=k4 hb p2
   intro R kn kx
   rw[aW.L1.step,a1,a2,a4 p1,ij hb,hF]
   rcases hc with h | ⟨h,h2⟩
   ·rw[ij h];rfl
   ·rw[fR (by omega),a3 h,ee h2];rfl
  ·left
   refine⟨(18446744073709551616 - e,sv,4294967295,4294967296 - e,w,q1,r+4294967295,u,q - 1),⟨e,he,rfl,rfl,rfl,hu,hu2,hw,hw2,by omega,by omega,by omega,p2⟩,by simp only[];omega,rfl,fun kn kx=> ?_⟩
   rw[aW.L1.step,a1,a2,a4 p1,fR hb]
   rcases hc with h | ⟨h,h2⟩
   ·rw[ij h];rfl
   ·rw[fR (by omega),a3 h,ee h2];rfl
 ·right
  have h:q < 4294967296:=by omega
  have h2:¬4294967296*r+w < q*(4294967296 - e):=fun x=>hc (Or.inr ⟨h,x⟩)
  have hF:aW.L1.F (18446744073709551616 - e,sv,4294967295,4294967296 - e,w,q1,r,u,q)=q:=k3 h (by omega)
  intro R kn kx
  rw[aW.L1.step,a2,a3 h,fR (by omega),dj h2,hF]
  rfl
theorem GO{y hi lo:Int}(hy:H6 y)(h0:0≤hi)(h1:hi < y)(h2:0≤lo)(h3:lo < 18446744073709551616):∃(s:Nat) (e m:Int),gA.F y=s∧(s=2∨s=3)∧m=2^s∧(e=42260∨e=42264∨e=42272)∧y*m=18446744073709551616 - e∧
  jx .u64 y (s:Int)=18446744073709551616 - e∧
  ct .or .u64 (jx .u64 hi (s:Int)) (bW .u64 lo (bV .u64 64 (s:Int)))=(hi*18446744073709551616+lo)*m / 18446744073709551616∧
  jx .u64 lo (s:Int)=(hi*18446744073709551616+lo)*m%18446744073709551616∧
  (hi*18446744073709551616+lo)*m / 18446744073709551616 < 18446744073709551616 - e∧
  (hi*18446744073709551616+lo)*m / (18446744073709551616 - e)=(hi*18446744073709551616+lo) / y∧
  (hi*18446744073709551616+lo)*m%(18446744073709551616 - e) / m=(hi*18446744073709551616+lo)%y:=by
 have e1:bV .u64 64 ((2:Nat):Int)=((62:Nat):Int):=rfl
 have e2:bV .u64 64 ((3:Nat):Int)=((61:Nat):Int):=rfl
 have p2:(2:Int)^2=4:=rfl
 have p3:(2:Int)^3=8:=rfl
 have p61:(2:Int)^61=2305843009213693952:=rfl
 have p62:(2:Int)^62=4611686018427387904:=rfl
 obtain rfl | rfl | rfl:=hy
 ·refine⟨2,42260,4,rfl,Or.inl rfl,rfl,Or.inl rfl,rfl,by rw[lA 2 (by rfl) (by omega),p2];omega,?_,?_,by omega,by omega,by omega⟩
  ·rw[e1,lA 2 (by rfl) (by omega),lB 62 (by rfl) (by omega),p2,p62,rv 2 4 rfl (by omega) (by omega) (by omega) (by omega) (by omega) (by omega)];omega
  ·rw[lA 2 (by rfl) (by omega),p2];omega
 ·refine⟨3,42264,8,rfl,Or.inr rfl,rfl,Or.inr (Or.inl rfl),rfl,by rw[lA 3 (by rfl) (by omega),p3];omega,?_,?_,by omega,by omega,by omega⟩
  ·rw[e2,lA 3 (by rfl) (by omega),lB 61 (by rfl) (by omega),p3,p61,rv 3 8 rfl (by omega) (by omega) (by omega) (by omega) (by omega) (by omega)];omega
  ·rw[lA 3 (by rfl) (by omega),p3];omega
 ·refine⟨3,42272,8,rfl,Or.inr rfl,rfl,Or.inr (Or.inr rfl),rfl,by rw[lA 3 (by rfl) (by omega),p3];omega,?_,?_,by omega,by omega,by omega⟩
  ·rw[e2,lA 3 (by rfl) (by omega),lB 61 (by rfl) (by omega),p3,p61,rv 3 8 rfl (by omega) (by omega) (by omega) (by omega) (by omega) (by omega)];omega
  ·rw[lA 3 (by rfl) (by omega),p3];omega
theorem IQ(a b c:Int):(((a%18446744073709551616+b)%18446744073709551616) - c%18446744073709551616)%18446744073709551616=(a+b - c)%18446744073709551616:=by omega
theorem aW.ok:aW.Ok:=by
 rintro⟨hi,lo,y⟩ ⟨hy,h0,h1,h2,h3⟩
 have h0:0≤hi:=h0
 have h1:hi < y:=h1
 have h2:0≤lo:=h2
 have h3:lo < 18446744073709551616:=h3
 have yb:0 < y∧y < 18446744073709551616:=by obtain rfl | rfl | rfl:=hy <;> omega
 rw[aW.eq,eo (by omega),kV (by omega)]
 simp only[ae]
 have z:iK y=true:=by simp[iK];omega
 by_cases hz:hi=0
 ·subst hz
  rw[fg rfl,z,xN h2 (by omega) h3,gS h2]
  simp only[ah,aW.F,aW.add,Int.zero_mul,Int.zero_add]
 ·obtain⟨s,e,m,hs,hs2,hm,he,hym,a1,a2,a3,a4,a5,a6⟩:=GO hy h0 h1 h2 h3
  have c1:dG .u64 (s:Int)=(s:Int):=by rw[AT];omega
  have c2:iU (s:Int)=true:=nb (by omega)
  have c3:iU (bV .u64 64 (s:Int))=true:=by rcases hs2 with rfl | rfl <;> rfl
  rw[eo hz,gA.run (d:=y) hy]
  simp only[ae,aa,gA.add,hs,c1,c2,c3,ah,a1,a2,a3]
  have hN:0≤(hi*18446744073709551616+lo)*m:=Int.mul_nonneg (by omega) (by rcases hs2 with rfl | rfl <;> omega)
  revert a4 a5 a6
  generalize (hi*18446744073709551616+lo)*m=N at hN
  intro a4 a5 a6
  have u0:0≤N / 18446744073709551616:=by omega
  have t0:0≤N%18446744073709551616:=by omega
  have t1:N%18446744073709551616 < 18446744073709551616:=by omega
  have hd:N=(N / 18446744073709551616*4294967296+N%18446744073709551616 / 4294967296)*4294967296+N%18446744073709551616%4294967296:=by omega
  have w10:0≤N%18446744073709551616 / 4294967296:=by omega
  have w11:N%18446744073709551616 / 4294967296 < 4294967296:=by omega
  have w00:0≤N%18446744073709551616%4294967296:=by omega
  have w01:N%18446744073709551616%4294967296 < 4294967296:=by omega
  have p32:(2:Int)^32=4294967296:=rfl
  have b1:bW .u64 (18446744073709551616 - e) 32=4294967295:=by rw[lB 32 (by rfl) (by omega),p32];rcases he with rfl | rfl | rfl <;> rfl
  have b2:ct .and .u64 (18446744073709551616 - e) 4294967295=4294967296 - e:=by rw[yK (by omega) (by omega)];omega
  have b3:bW .u64 (N%18446744073709551616) 32=N%18446744073709551616 / 4294967296:=by rw[lB 32 (by rfl) (by omega),p32]
  have b4:ct .and .u64 (N%18446744073709551616) 4294967295=N%18446744073709551616%4294967296:=yK t0 t1
  have z2:iK 4294967295=true:=rfl
  simp only[b1,b2,b3,b4,z2,ah]
  clear a1 a2 a3 b1 b2 b3 b4
  have kdd:=kd (18446744073709551616 - e) (N / 18446744073709551616) (N%18446744073709551616 / 4294967296) (N%18446744073709551616%4294967296) (by omega) w00 w01
  rw[←hd,a5]at kdd
  revert a4 kdd
  generalize N / 18446744073709551616=u at u0
  generalize N%18446744073709551616 / 4294967296=w1 at w10 w11
  generalize N%18446744073709551616%4294967296=w0 at w00 w01
  intro a4 kdd
  have g:∀u w:Int,0≤u→u < 18446744073709551616 - e→0≤w→w < 4294967296→
    kM .u64 u 4294967295=u / 4294967295∧bV .u64 u (eK .u64 (u / 4294967295) 4294967295)=u - u / 4294967295*4294967295∧
    bV .u64 (bo .u64 (eK .u64 u 4294967296) w) (eK .u64 ((u*4294967296+w) / (18446744073709551616 - e)) (18446744073709551616 - e))=(u*4294967296+w)%(18446744073709551616 - e):=by
   intro u w k1 k2 k3 k4
   obtain⟨q1,q2,q3,q4,q5,q6,q7,q8⟩:=k0 he k1 k2 k3 k4
   refine⟨xN k1 (by omega) (by omega),by rw[tR,ln];omega,?_⟩
   rw[tR,iX,ln,ln,IQ,q4]
   exact Int.emod_eq_of_lt q5 (by omega)
  obtain⟨f1,f2,f3⟩:=g u w1 u0 a4 w10 w11
  obtain⟨q1,q2,q3,q4,q5,q6,q7,q8⟩:=k0 he u0 a4 w10 w11
  have p1:aW.L0.aq (18446744073709551616 - e,(s:Int),4294967295,4294967296 - e,u,w1,w0,u / 4294967295,u - u / 4294967295*4294967295):=⟨e,he,rfl,rfl,rfl,u0,a4,w10,w11,q2,q3,by omega,q1⟩
  rw[f1,f2,aW.L0.run p1]
  simp only[aa,aW.L0.add,aW.L0.F,z2,ah,f3]
  revert f3 q1 kdd
  generalize (u*4294967296+w1)%(18446744073709551616 - e)=v at q4 q5 q6
  generalize (u*4294967296+w1) / (18446744073709551616 - e)=Q at q4 q7 q8
  intro kdd f3 q1
  obtain⟨g1,g2,g3⟩:=g v w0 q5 q6 w00 w01
  obtain⟨r1,r2,r3,r4,r5,r6,r7,r8⟩:=k0 he q5 q6 w00 w01
  have p2:aW.L1.aq (18446744073709551616 - e,(s:Int),4294967295,4294967296 - e,w0,Q,v - v / 4294967295*4294967295,v,v / 4294967295):=⟨e,he,rfl,rfl,rfl,q5,q6,w00,w01,r2,r3,by omega,r1⟩
  rw[g1,g2,aW.L1.run p2]
  simp only[aa,aW.L1.add,aW.L1.F,c2,ah,g3]
  rw[←kdd.2,lB s (by rfl) (by omega),←hm,a6,ln,iX]
  have e9:(Q*4294967296%18446744073709551616+(v*4294967296+w0) / (18446744073709551616 - e))%18446744073709551616=(hi*18446744073709551616+lo) / y:=by rw[kdd.1];omega
  rw[e9]
  rfl
noncomputable def aW.E:=Entry.cD [some tu,some tu,some tu] aW.st aW.aq aW.add aW.F aW.out
noncomputable def aW.call:aW.D→Option aW.X:=bC aW.E aW.st
theorem aW.run:bD aW.call aW.aq aW.add aW.F:=cw (cv [.d tu,.d tu,.d tu] fun _=>by kernel_rfl)
noncomputable def aW.sg:SG Tryz.prog:=⟨171,aK,aW.E,.fn 2 (by kernel_rfl) aW.ok (And.intro (.cD aW.L0.ok (by kernel_rfl)) (And.intro (.cD aW.L1.ok (by kernel_rfl)) trivial))⟩
abbrev dX.D:=Int×Int×Int
def dX.st:dX.D→SA:=fun(hi,lo,yv)=>([.d tu hi,.d tu lo,.d tu yv],[])
abbrev dX.Y:=Int
abbrev dX.X:=Int
def dX.out:dX.X→aT:=fun x=>⟨.d tu x,[],[]⟩
def dX.add:dX.D→dX.Y→dX.X:=fun(hi,lo,yv) y=>y
def dX.aq:dX.D→Prop:=fun(hi,lo,y)=>H6 y∧0≤hi∧hi < 18446744073709551616∧0≤lo∧lo < 18446744073709551616
def dX.F:dX.D→dX.Y:=fun(hi,lo,y)=>(hi*18446744073709551616+lo)%y
noncomputable def dX.G:dU:=eZ (P:=Tryz.prog) [aW.sg]
noncomputable def dX.an:eu:= {}
noncomputable def dX.A:= @cq Tryz.prog dX.G dX.an 0 Tryz.f138 _ dX.st
abbrev dX.Ok:=cr @dX.A dX.aq dX.add dX.F dX.out
theorem dX.eq{R:Type}(hi:Int)(lo:Int)(yv:Int)(k:aT→Option R):dX.A (hi,lo,yv) k=
 aD (iK yv) (
 ab (aW.call ((fI hi yv),lo,yv)) fun x1=>
 k (dX.out x1.2)) none:=by kernel_rfl
theorem dX.ok:dX.Ok:=by
 rintro⟨hi,lo,y⟩ ⟨hy,h0,h1,h2,h3⟩
 have h0:0≤hi:=h0
 have yb:0 < y:=by obtain rfl | rfl | rfl:=hy <;> omega
 have z:iK y=true:=by simp[iK];omega
 have p:aW.aq (hi%y,lo,y):=⟨hy,Int.emod_nonneg _ (by omega),Int.emod_lt_of_pos _ yb,h2,h3⟩
 rw[dX.eq,z,gS h0,aW.run p]
 have e:(hi%y*18446744073709551616+lo)%y=(hi*18446744073709551616+lo)%y:=by
  rw[Int.add_emod,Int.mul_emod,Int.emod_emod_of_dvd _ (Int.dvd_refl y),←Int.mul_emod,←Int.add_emod]
 simp only[ah,aa,aW.add,aW.F,dX.add,dX.F,e]
noncomputable def dX.E:=Entry.cD [some tu,some tu,some tu] dX.st dX.aq dX.add dX.F dX.out
noncomputable def dX.call:dX.D→Option dX.X:=bC dX.E dX.st
theorem dX.run:bD dX.call dX.aq dX.add dX.F:=cw (cv [.d tu,.d tu,.d tu] fun _=>by kernel_rfl)
noncomputable def dX.sg:SG Tryz.prog:=⟨138,aK,dX.E,.fn 0 (by kernel_rfl) dX.ok trivial⟩
abbrev ek.D:=Int×Int
def ek.st:ek.D→SA:=fun(x,yv)=>([.d tu x,.d tu yv],[])
abbrev ek.Y:=Int×Int
abbrev ek.X:=Int×Int
def ek.out:ek.X→aT:=fun x=>⟨.cons (.d tu x.1) (.cons (.d tu x.2) (.nil)),[],[]⟩
def ek.add:ek.D→ek.Y→ek.X:=fun(x,yv) y=>y
def ek.aq:ek.D→Prop:=fun(x,y)=>(0≤x∧x < 18446744073709551616)∧0≤y∧y < 18446744073709551616
def ek.F:ek.D→ek.Y:=fun(x,y)=>(x*y / 18446744073709551616,x*y%18446744073709551616)
noncomputable def ek.G:dU:=eZ (P:=Tryz.prog) []
noncomputable def ek.an:eu:= {}
noncomputable def ek.A:= @cq Tryz.prog ek.G ek.an 0 Tryz.f164 _ ek.st
abbrev ek.Ok:=cr @ek.A ek.aq ek.add ek.F ek.out
theorem ek.eq{R:Type}(x:Int)(yv:Int)(k:aT→Option R):ek.A (x,yv) k=
 k (ek.out ((bo .u64 (bo .u64 (eK .u64 (bW .u64 x (32:Int)) (bW .u64 yv (32:Int))) (bW .u64 (bo .u64 (eK .u64 (bW .u64 x (32:Int)) (ct .and .u64 yv (4294967295:Int))) (bW .u64 (eK .u64 (ct .and .u64 x (4294967295:Int)) (ct .and .u64 yv (4294967295:Int))) (32:Int))) (32:Int))) (bW .u64 (bo .u64 (ct .and .u64 (bo .u64 (eK .u64 (bW .u64 x (32:Int)) (ct .and .u64 yv (4294967295:Int))) (bW .u64 (eK .u64 (ct .and .u64 x (4294967295:Int)) (ct .and .u64 yv (4294967295:Int))) (32:Int))) (4294967295:Int)) (eK .u64 (ct .and .u64 x (4294967295:Int)) (bW .u64 yv (32:Int)))) (32:Int))),(eK .u64 x yv))):=by kernel_rfl
theorem sN{a b m n:Int}(h0:0≤a)(h1:a≤m)(h2:0≤b)(h3:b≤n):0≤a*b∧a*b≤m*n:=
 ⟨Int.mul_nonneg h0 h2,Int.mul_le_mul h1 h3 h2 (Int.le_trans h0 h1)⟩
theorem ek.ok:ek.Ok:=by
 rintro⟨x,y⟩ ⟨⟨h0,h1⟩,h2,h3⟩
 have h0:0≤x:=h0
 have h1:x < 18446744073709551616:=h1
 have h2:0≤y:=h2
 have h3:y < 18446744073709551616:=h3
 rw[ek.eq]
 have p32:(2:Int)^32=4294967296:=rfl
 have s32:∀x:Int,bW .u64 x 32=x / 4294967296:=fun x=>by rw[lB 32 (by rfl) (by omega),p32]
 simp only[s32,yK h0 h1,yK h2 h3]
 obtain⟨a,b,rfl,a0,a1,b0,b1⟩:∃a b:Int,x=a*4294967296+b∧0≤a∧a≤4294967295∧0≤b∧b≤4294967295:=⟨x / 4294967296,x%4294967296,by omega,by omega,by omega,by omega,by omega⟩
 obtain⟨c,d,rfl,c0,c1,d0,d1⟩:∃a b:Int,y=a*4294967296+b∧0≤a∧a≤4294967295∧0≤b∧b≤4294967295:=⟨y / 4294967296,y%4294967296,by omega,by omega,by omega,by omega,by omega⟩
 have e1:(a*4294967296+b) / 4294967296=a:=by omega
 have e2:(a*4294967296+b)%4294967296=b:=by omega
 have e3:(c*4294967296+d) / 4294967296=c:=by omega
 have e4:(c*4294967296+d)%4294967296=d:=by omega
 have e5:(a*4294967296+b)*(c*4294967296+d)=a*c*18446744073709551616+(a*d+b*c)*4294967296+b*d:=by
  have q:(4294967296:Int)*4294967296=18446744073709551616:=rfl
  rw[Int.add_mul,Int.mul_add,Int.mul_add]
  have q1:a*4294967296*(c*4294967296)=a*c*18446744073709551616:=by rw[←q];ac_rfl
  have q2:a*4294967296*d=a*d*4294967296:=by ac_rfl
  have q3:b*(c*4294967296)=b*c*4294967296:=by ac_rfl
  rw[q1,q2,q3];omega
 obtain⟨m1,m2⟩:=sN a0 a1 c0 c1
 obtain⟨m3,m4⟩:=sN a0 a1 d0 d1
 obtain⟨m5,m6⟩:=sN b0 b1 c0 c1
 obtain⟨m7,m8⟩:=sN b0 b1 d0 d1
 have n:(4294967295:Int)*4294967295=18446744065119617025:=rfl
 rw[n]at m2 m4 m6 m8
 simp only[e1,e2,e3,e4,ek.add,ek.F,e5,ln,iX]
 revert m1 m2 m3 m4 m5 m6 m7 m8
 generalize a*c=ac
 generalize a*d=ad
 generalize b*c=bc
 generalize b*d=bd
 intro m1 m2 m3 m4 m5 m6 m7 m8
 have q1:bd%18446744073709551616=bd:=by omega
 have q2:ad%18446744073709551616=ad:=by omega
 have q3:bc%18446744073709551616=bc:=by omega
 have q4:ac%18446744073709551616=ac:=by omega
 rw[q1,q2,q3,q4]
 have q5:(ad+bd / 4294967296)%18446744073709551616=ad+bd / 4294967296:=by omega
 have q6:ct .and .u64 (ad+bd / 4294967296) 4294967295=(ad+bd / 4294967296)%4294967296:=yK (by omega) (by omega)
 rw[q5,q6]
 refine congrArg some (congrArg ek.out (Prod.ext ?_ ?_))
 ·show _=(_:Int)
  simp only[]
  omega
 ·rfl
noncomputable def ek.E:=Entry.cD [some tu,some tu] ek.st ek.aq ek.add ek.F ek.out
noncomputable def ek.call:ek.D→Option ek.X:=bC ek.E ek.st
theorem ek.run:bD ek.call ek.aq ek.add ek.F:=cw (cv [.d tu,.d tu] fun _=>by kernel_rfl)
noncomputable def ek.sg:SG Tryz.prog:=⟨164,aK,ek.E,.fn 0 (by kernel_rfl) ek.ok trivial⟩
set_option synthInstance.maxSize 5000
def Pn(x:Int):Prop:=0≤x∧x < 4611686018427377339
def fo(x:Int):Prop:=0≤x∧x < 18446744073709551616
theorem Pn.u{x:Int}(h:Pn x):fo x:=⟨h.1,by have:=h.2;omega⟩
def kY(a b:Int):Int:=a*b%4611686018427377339
theorem mo(a b:Int):Pn (kY a b):=⟨Int.emod_nonneg _ (by omega),Int.emod_lt_of_pos _ (by omega)⟩
def yA:Nat→Int→Nat→Int→Int
 | 0,_,_,out=>out
 |f+1,a,n,out=>if n=0 then out else yA f (kY a a) (n / 2) (if n%2=1 then kY out a else out)
def pw(a:Int)(n:Nat):Int:=yA 64 a n 1
theorem mE(f:Nat)(a out:Int):yA f a 0 out=out:=by cases f <;> rfl
theorem vc:∀(f g:Nat) (a:Int) (n:Nat) (out:Int),n < 2^f→n < 2^g→yA f a n out=yA g a n out
 | 0,g,a,n,out,h,_=>by
  obtain rfl:n=0:=by omega
  rw[mE,mE]
 |f+1,0,a,n,out,_,h=>by
  obtain rfl:n=0:=by omega
  rw[mE,mE]
 |f+1,g+1,a,n,out,h,h'=>by
  have e:(2:Nat)^(f+1)=2^f*2:=Nat.pow_succ 2 f
  have e':(2:Nat)^(g+1)=2^g*2:=Nat.pow_succ 2 g
  unfold yA
  split
  ·rfl
  ·exact vc f g _ _ _ (by omega) (by omega)
theorem EG:∀(f:Nat) (a:Int) (n:Nat) (out:Int),Pn out→Pn (yA f a n out)
 | 0,_,_,_,h=>h
 |f+1,a,n,out,h=>by
  unfold yA
  split
  ·exact h
  ·refine EG f _ _ _ ?_
   split
   ·exact mo _ _
   ·exact h
theorem Ca(a:Int)(n:Nat):Pn (pw a n):=EG _ _ _ _ ⟨by omega,by omega⟩
abbrev dE.D:=Int×Int
def dE.st:dE.D→SA:=fun(a,b)=>([.d tu a,.d tu b],[])
abbrev dE.Y:=Int
abbrev dE.X:=Int
def dE.out:dE.X→aT:=fun x=>⟨.d tu x,[],[]⟩
def dE.add:dE.D→dE.Y→dE.X:=fun(a,b) y=>y
def dE.aq:dE.D→Prop:=fun(a,b)=>fo a∧fo b
def dE.F:dE.D→dE.Y:=fun(a,b)=>kY a b
noncomputable def dE.G:dU:=eZ (P:=Tryz.prog) [ek.sg,dX.sg]
noncomputable def dE.an:eu:= {}
noncomputable def dE.A:= @cq Tryz.prog dE.G dE.an 0 Tryz.f129 _ dE.st
abbrev dE.Ok:=cr @dE.A dE.aq dE.add dE.F dE.out
theorem dE.eq{R:Type}(a:Int)(b:Int)(k:aT→Option R):dE.A (a,b) k=
 ab (ek.call (a,b)) fun x1=>
 ab (dX.call (x1.1,x1.2,(4611686018427377339:Int))) fun x2=>
 k (dE.out x2):=by kernel_rfl
theorem vG(n:Int):n / 18446744073709551616*18446744073709551616+n%18446744073709551616=n:=by omega
theorem dE.ok:dE.Ok:=by
 rintro⟨a,b⟩ ⟨ha,hb⟩
 have ha:fo a:=ha
 have hb:fo b:=hb
 obtain⟨m1,m2⟩:=sN ha.1 (show a≤18446744073709551615 by have:=ha.2;omega) hb.1 (show b≤18446744073709551615 by have:=hb.2;omega)
 have n:(18446744073709551615:Int)*18446744073709551615=340282366920938463426481119284349108225:=rfl
 rw[n]at m2
 have p:dX.aq (a*b / 18446744073709551616,a*b%18446744073709551616,4611686018427377339):=⟨Or.inl rfl,by omega,by omega,by omega,by omega⟩
 rw[dE.eq,ek.run (d:=(a,b)) ⟨ha,hb⟩]
 simp only[aa,ek.add,ek.F]
 rw[dX.run p]
 simp only[aa,dX.add,dX.F,vG]
 rfl
noncomputable def dE.E:=Entry.cD [some tu,some tu] dE.st dE.aq dE.add dE.F dE.out
noncomputable def dE.call:dE.D→Option dE.X:=bC dE.E dE.st
theorem dE.run:bD dE.call dE.aq dE.add dE.F:=cw (cv [.d tu,.d tu] fun _=>by kernel_rfl)
noncomputable def dE.sg:SG Tryz.prog:=⟨129,aK,dE.E,.fn 0 (by kernel_rfl) dE.ok trivial⟩
abbrev bm.L0.D:=Int×Int×Int
def bm.L0.st:bm.L0.D→AS:=fun(a_2,n_2,outv)=>⟨([.d tu a_2,.d tu n_2,.undef,.undef,.undef,.d tu outv]++bw 14 []),[],(List.replicate 20 [])⟩
abbrev bm.L0.Y0:=Int
abbrev bm.L0.X0:=Int
def bm.L0.bK:bm.L0.X0→Exit×AS:=fun x=>(.exit 0,⟨(bw 5 ([.d tu x]++bw 14 [])),[],(List.replicate 20 [])⟩)
abbrev bm.L0.X:=bm.L0.X0
abbrev bm.L0.Y:=bm.L0.Y0
def bm.L0.out:bm.L0.X→Out (Exit×AS):=fun x=> .ok (bm.L0.bK x)
def bm.L0.add:bm.L0.D→bm.L0.Y→bm.L0.X:=fun(a_2,n_2,outv) y=>y
abbrev bm.D:=Int×Int
def bm.st:bm.D→SA:=fun(a,n)=>([.d tu a,.d tu n],[])
abbrev bm.Y:=Int
abbrev bm.X:=Int
def bm.out:bm.X→aT:=fun x=>⟨.d tu x,[],[]⟩
def bm.add:bm.D→bm.Y→bm.X:=fun(a,n) y=>y
def bm.L0.aq:bm.L0.D→Prop:=fun(a,n,o)=>fo a∧fo n∧Pn o
def bm.L0.F:bm.L0.D→bm.L0.Y:=fun(a,n,o)=>yA 64 a n.toNat o
def bm.aq:bm.D→Prop:=fun(a,n)=>fo a∧fo n
def bm.F:bm.D→bm.Y:=fun(a,n)=>pw a n.toNat
noncomputable def bm.G:dU:=eZ (P:=Tryz.prog) [dE.sg]
noncomputable def bm.L0.E:=cf.cD bm.L0.st bm.L0.aq bm.L0.add bm.L0.F bm.L0.out
noncomputable def bm.L0.call:bm.L0.D→Option bm.L0.X:=dL bm.L0.E bm.L0.st
noncomputable def bm.an:eu:= {loops:=ki [(2,{bu:=[0,1,5]})],outs:=kh [(2,{bu:=[5]},{bu:=[4]})],gq:=lv [(2,bm.L0.E)]}
noncomputable def bm.A:= @cq Tryz.prog bm.G bm.an 0 Tryz.f76 _ bm.st
abbrev bm.Ok:=cr @bm.A bm.aq bm.add bm.F bm.out
noncomputable def bm.L0.R:= @cM Tryz.prog bm.G bm.an 0 Tryz.f76 0 _ bm.L0.st
abbrev bm.L0.Ok:=fk Tryz.prog bm.G bm.an 0 Tryz.f76 0 bm.L0.st bm.L0.aq bm.L0.add bm.L0.F bm.L0.out
theorem bm.L0.run:bD bm.L0.call bm.L0.aq bm.L0.add bm.L0.F:=fy (fx [.d tu,.d tu,.d tu] fun _=>by kernel_rfl)
theorem bm.L0.aE:fY @bm.L0.R bm.L0.st bm.L0.aq bm.L0.add bm.L0.F bm.L0.bK bm.L0.Ok:=gj
theorem bm.L0.step{R:Type}(a_2:Int)(n_2:Int)(outv:Int)(kn:AS→Option R)(kx:Exit→AS→Option R):bm.L0.R (a_2,n_2,outv) kn kx=
  aD ((mX n_2 (0:Int))) (
   aD ((jO (ct .and .u64 n_2 (1:Int)) (1:Int))) (
    ab (dE.call (outv,a_2)) fun x1=>
    ab (dE.call (a_2,a_2)) fun x2=>
    kn (bm.L0.st (x2,(bW .u64 n_2 (1:Int)),x1))) (
    ab (dE.call (a_2,a_2)) fun x3=>
    kn (bm.L0.st (x3,(bW .u64 n_2 (1:Int)),outv)))) (
   kx (bm.L0.bK outv).1 (bm.L0.bK outv).2):=by kernel_rfl
theorem bm.eq{R:Type}(a:Int)(n:Int)(k:aT→Option R):bm.A (a,n) k=
 ab (bm.L0.call (a,n,(1:Int))) fun x4=>
 k (bm.out x4):=by kernel_rfl
theorem I7{n:Int}(h:fo n):bW .u64 n 1=n / 2:=lB 1 (by rfl) (by omega)
theorem bm.L0.ok:bm.L0.Ok:=by
 refine bm.L0.aE (fun(a,n,o)=>n.toNat) ?_
 rintro⟨a,n,o⟩ ⟨ha,hn,ho⟩
 have ha:fo a:=ha
 have hn:fo n:=hn
 have ho:Pn o:=ho
 have n0:=hn.1
 have n1:=hn.2
 by_cases h:0 < n
 ·left
  have e:bm.L0.F (a,n,o)=bm.L0.F (kY a a,n / 2,if n%2=1 then kY o a else o):=by
   show yA 64 a n.toNat o=yA 64 (kY a a) (n / 2).toNat _
   rw[vc 64 65 a n.toNat o (by omega) (by omega)]
   have t1:(n / 2).toNat=n.toNat / 2:=by omega
   have t2:(n%2=1)=(n.toNat%2=1):=by apply propext;omega
   rw[t1]
   simp only[t2]
   show(if n.toNat=0 then o else _)=_
   rw[if_neg (by omega)]
  refine⟨(kY a a,n / 2,if n%2=1 then kY o a else o),⟨(mo a a).u,⟨by omega,by omega⟩,?_⟩,by show(n / 2).toNat < n.toNat;omega,?_,fun kn kx=> ?_⟩
  ·show Pn (if n%2=1 then kY o a else o)
   split
   ·exact mo _ _
   ·exact ho
  ·exact congrArg _ e.symm
  ·rw[bm.L0.step,ee h,I7 hn,HP n0 n1,dE.run (d:=(o,a)) ⟨ho.u,ha⟩,dE.run (d:=(a,a)) ⟨ha,ha⟩]
   by_cases h1:n%2=1
   ·rw[fg h1,if_pos h1];rfl
   ·rw[eo h1,if_neg h1];rfl
 ·right
  intro R kn kx
  obtain rfl:n=0:=by omega
  rw[bm.L0.step,dj (by omega)]
  simp only[ae,bm.L0.add,bm.L0.F]
  rw[show yA 64 a (Int.toNat 0) o=o from mE _ _ _]
theorem bm.ok:bm.Ok:=by
 rintro⟨a,n⟩ ⟨ha,hn⟩
 rw[bm.eq,bm.L0.run (d:=(a,n,1)) ⟨ha,hn,by omega,by omega⟩]
 rfl
noncomputable def bm.E:=Entry.cD [some tu,some tu] bm.st bm.aq bm.add bm.F bm.out
noncomputable def bm.call:bm.D→Option bm.X:=bC bm.E bm.st
theorem bm.run:bD bm.call bm.aq bm.add bm.F:=cw (cv [.d tu,.d tu] fun _=>by kernel_rfl)
noncomputable def bm.sg:SG Tryz.prog:=⟨76,aK,bm.E,.fn 1 (by kernel_rfl) bm.ok (And.intro (.cD bm.L0.ok (by kernel_rfl)) trivial)⟩
set_option synthInstance.maxSize 5000
def lq(p:Int):Bool:=decide (0 < p∧p < 4611686018427377339) && decide (pw p 2305843009213688669=1)
def tk(p:Int):Int:=if lq p then p else 1
theorem E2(p:Int):Pn (tk p):=by
 unfold tk
 split
 ·rename_i h
  simp only[lq,Bool.and_eq_true,decide_eq_true_eq]at h
  exact⟨by omega,by omega⟩
 ·exact⟨by omega,by omega⟩
def nA(p k:Int):Int:=pw (tk p) (k%2305843009213688669).toNat
def gu(k:Int):Int:=nA 4 k
def rU(l:List Int):Int:=l.foldl (fun o p=>kY o (tk p)) 1
theorem F1(l:List Int)(o:Int)(h:Pn o):Pn (l.foldl (fun o p=>kY o (tk p)) o):=by
 induction l generalizing o with
 |nil=>exact h
 |cons p l ih=>exact ih _ (mo _ _)
theorem Ch(l:List Int):Pn (rU l):=F1 l 1 ⟨by omega,by omega⟩
abbrev cP.D:=Int
def cP.st:cP.D→SA:=fun p=>([.d tu p],[])
abbrev cP.Y:=Bool
abbrev cP.X:=Bool
def cP.out:cP.X→aT:=fun x=>⟨.d .bool x,[],[]⟩
def cP.add:cP.D→cP.Y→cP.X:=fun p y=>y
def cP.aq:cP.D→Prop:=fun p=>fo p
def cP.F:cP.D→cP.Y:=fun p=>lq p
noncomputable def cP.G:dU:=eZ (P:=Tryz.prog) [bm.sg]
noncomputable def cP.an:eu:= {}
noncomputable def cP.A:= @cq Tryz.prog cP.G cP.an 0 Tryz.f34 _ cP.st
abbrev cP.Ok:=cr @cP.A cP.aq cP.add cP.F cP.out
theorem cP.eq{R:Type}(p:Int)(k:aT→Option R):cP.A p k=
  aD ((mX p (0:Int))) (
   aD ((gM p (4611686018427377339:Int))) (
    ab (bm.call (p,(2305843009213688669:Int))) fun x1=>
    k (cP.out (jO x1 (1:Int)))) (
    k (cP.out false))) (
   k (cP.out false)):=by kernel_rfl
theorem cP.ok:cP.Ok:=by
 intro p hp
 have hp:fo p:=hp
 rw[cP.eq,bm.run (d:=(p,2305843009213688669)) ⟨hp,by constructor <;> decide⟩]
 simp only[aa,bm.add,bm.F,cP.add,cP.F,lq]
 by_cases h:0 < p
 ·rw[ee h,ah]
  by_cases h2:p < 4611686018427377339
  ·rw[bB h2,ah,aL ⟨h,h2⟩,Bool.true_and]
   rfl
  ·rw[bk h2,ae,bN (fun x=>h2 x.2),Bool.false_and]
 ·rw[dj h,ae,bN (fun x=>h x.1),Bool.false_and]
noncomputable def cP.E:=Entry.cD [some tu] cP.st cP.aq cP.add cP.F cP.out
noncomputable def cP.call:cP.D→Option cP.X:=bC cP.E cP.st
theorem cP.run:bD cP.call cP.aq cP.add cP.F:=cw (cv [.d tu] fun _=>by kernel_rfl)
noncomputable def cP.sg:SG Tryz.prog:=⟨34,aK,cP.E,.fn 0 (by kernel_rfl) cP.ok trivial⟩
abbrev dn.D:=Int
def dn.st:dn.D→SA:=fun p=>([.d tu p],[])
abbrev dn.Y:=Int
abbrev dn.X:=Int
def dn.out:dn.X→aT:=fun x=>⟨.d tu x,[],[]⟩
def dn.add:dn.D→dn.Y→dn.X:=fun p y=>y
def dn.aq:dn.D→Prop:=fun p=>fo p
def dn.F:dn.D→dn.Y:=fun p=>tk p
noncomputable def dn.G:dU:=eZ (P:=Tryz.prog) [cP.sg]
noncomputable def dn.an:eu:= {}
noncomputable def dn.A:= @cq Tryz.prog dn.G dn.an 0 Tryz.f121 _ dn.st
abbrev dn.Ok:=cr @dn.A dn.aq dn.add dn.F dn.out
theorem dn.eq{R:Type}(p:Int)(k:aT→Option R):dn.A p k=
  ab (cP.call p) fun x1=>
  aD (x1) (
   k (dn.out p)) (
   k (dn.out (1:Int))):=by kernel_rfl
theorem dn.ok:dn.Ok:=by
 intro p hp
 rw[dn.eq,cP.run (d:=p) hp]
 simp only[aa,cP.add,cP.F,dn.add,dn.F,tk]
 cases lq p <;> rfl
noncomputable def dn.E:=Entry.cD [some tu] dn.st dn.aq dn.add dn.F dn.out
noncomputable def dn.call:dn.D→Option dn.X:=bC dn.E dn.st
theorem dn.run:bD dn.call dn.aq dn.add dn.F:=cw (cv [.d tu] fun _=>by kernel_rfl)
noncomputable def dn.sg:SG Tryz.prog:=⟨121,aK,dn.E,.fn 0 (by kernel_rfl) dn.ok trivial⟩
abbrev dw.D:=Int×Int
def dw.st:dw.D→SA:=fun(p,kv)=>([.d tu p,.d tu kv],[])
abbrev dw.Y:=Int
abbrev dw.X:=Int
def dw.out:dw.X→aT:=fun x=>⟨.d tu x,[],[]⟩
def dw.add:dw.D→dw.Y→dw.X:=fun(p,kv) y=>y
def dw.aq:dw.D→Prop:=fun(p,k)=>fo p∧fo k
def dw.F:dw.D→dw.Y:=fun(p,k)=>nA p k
noncomputable def dw.G:dU:=eZ (P:=Tryz.prog) [dn.sg,bm.sg]
noncomputable def dw.an:eu:= {}
noncomputable def dw.A:= @cq Tryz.prog dw.G dw.an 0 Tryz.f70 _ dw.st
abbrev dw.Ok:=cr @dw.A dw.aq dw.add dw.F dw.out
theorem dw.eq{R:Type}(p:Int)(kv:Int)(k:aT→Option R):dw.A (p,kv) k=
 ab (dn.call p) fun x1=>
 ab (bm.call (x1,(fI kv (2305843009213688669:Int)))) fun x2=>
 k (dw.out x2):=by kernel_rfl
theorem dw.ok:dw.Ok:=by
 rintro⟨p,k⟩ ⟨hp,hk⟩
 have hk:fo k:=hk
 have e:=gS (y:=2305843009213688669) hk.1
 have b:fo (k%2305843009213688669):=⟨by omega,by omega⟩
 rw[dw.eq,dn.run (d:=p) hp,e]
 simp only[aa,dn.add,dn.F]
 rw[bm.run (d:=(tk p,k%2305843009213688669)) ⟨(E2 p).u,b⟩]
 rfl
noncomputable def dw.E:=Entry.cD [some tu,some tu] dw.st dw.aq dw.add dw.F dw.out
noncomputable def dw.call:dw.D→Option dw.X:=bC dw.E dw.st
theorem dw.run:bD dw.call dw.aq dw.add dw.F:=cw (cv [.d tu,.d tu] fun _=>by kernel_rfl)
noncomputable def dw.sg:SG Tryz.prog:=⟨70,aK,dw.E,.fn 0 (by kernel_rfl) dw.ok trivial⟩
abbrev dk.D:=Int
def dk.st:dk.D→SA:=fun kv=>([.d tu kv],[])
abbrev dk.Y:=Int
abbrev dk.X:=Int
def dk.out:dk.X→aT:=fun x=>⟨.d tu x,[],[]⟩
def dk.add:dk.D→dk.Y→dk.X:=fun kv y=>y
def dk.aq:dk.D→Prop:=fun k=>fo k
def dk.F:dk.D→dk.Y:=fun k=>gu k
noncomputable def dk.G:dU:=eZ (P:=Tryz.prog) [dw.sg]
noncomputable def dk.an:eu:= {}
noncomputable def dk.A:= @cq Tryz.prog dk.G dk.an 0 Tryz.f28 _ dk.st
abbrev dk.Ok:=cr @dk.A dk.aq dk.add dk.F dk.out
theorem dk.eq{R:Type}(kv:Int)(k:aT→Option R):dk.A kv k=
 ab (dw.call ((4:Int),kv)) fun x1=>
 k (dk.out x1):=by kernel_rfl
theorem dk.ok:dk.Ok:=by
 intro k hk
 rw[dk.eq,dw.run (d:=(4,k)) ⟨⟨by omega,by omega⟩,hk⟩]
 rfl
noncomputable def dk.E:=Entry.cD [some tu] dk.st dk.aq dk.add dk.F dk.out
noncomputable def dk.call:dk.D→Option dk.X:=bC dk.E dk.st
theorem dk.run:bD dk.call dk.aq dk.add dk.F:=cw (cv [.d tu] fun _=>by kernel_rfl)
noncomputable def dk.sg:SG Tryz.prog:=⟨28,aK,dk.E,.fn 0 (by kernel_rfl) dk.ok trivial⟩
abbrev dm.L0.D:=Int×Bs×Int×Int
def dm.L0.st:dm.L0.D→AS:=fun(outv,t6,t7,t8)=>⟨([.undef,.undef,.undef,.d tu outv,.undef,.undef,.d tU t6,.d ti t7,.d ti t8]++bw 9 []),[],(List.replicate 18 [])⟩
abbrev dm.L0.Y0:=Int
abbrev dm.L0.X0:=Int
def dm.L0.bK:dm.L0.X0→Exit×AS:=fun x=>(.exit 0,⟨([.undef,.undef,.undef,.d tu x]++bw 14 []),[],(List.replicate 18 [])⟩)
abbrev dm.L0.X:=dm.L0.X0
abbrev dm.L0.Y:=dm.L0.Y0
def dm.L0.out:dm.L0.X→Out (Exit×AS):=fun x=> .ok (dm.L0.bK x)
def dm.L0.add:dm.L0.D→dm.L0.Y→dm.L0.X:=fun(outv,t6,t7,t8) y=>y
abbrev dm.D:=Bs
def dm.st:dm.D→SA:=fun l=>([.d tU l],[])
abbrev dm.Y:=Int
abbrev dm.X:=Int
def dm.out:dm.X→aT:=fun x=>⟨.d tu x,[],[]⟩
def dm.add:dm.D→dm.Y→dm.X:=fun l y=>y
def dm.L0.aq:dm.L0.D→Prop:=fun(o,l,n,i)=>Pn o∧(∀x∈l,fo x)∧l.length≤1000000000∧n=l.length∧∃k:Nat,k≤l.length∧i=k
def dm.L0.F:dm.L0.D→dm.L0.Y:=fun(o,l,n,i)=>(l.drop i.toNat).foldl (fun o p=>kY o (tk p)) o
def dm.aq:dm.D→Prop:=fun l=>(∀x∈l,fo x)∧l.length≤1000000000
def dm.F:dm.D→dm.Y:=fun l=>rU l
noncomputable def dm.G:dU:=eZ (P:=Tryz.prog) [dn.sg,dE.sg]
noncomputable def dm.L0.E:=cf.cD dm.L0.st dm.L0.aq dm.L0.add dm.L0.F dm.L0.out
noncomputable def dm.L0.call:dm.L0.D→Option dm.L0.X:=dL dm.L0.E dm.L0.st
noncomputable def dm.an:eu:= {loops:=ki [(3,{bu:=[3,6,7,8]})],outs:=kh [(3,{bu:=[3]},{bu:=[2]})],gq:=lv [(3,dm.L0.E)]}
noncomputable def dm.A:= @cq Tryz.prog dm.G dm.an 0 Tryz.f165 _ dm.st
abbrev dm.Ok:=cr @dm.A dm.aq dm.add dm.F dm.out
noncomputable def dm.L0.R:= @cM Tryz.prog dm.G dm.an 0 Tryz.f165 0 _ dm.L0.st
abbrev dm.L0.Ok:=fk Tryz.prog dm.G dm.an 0 Tryz.f165 0 dm.L0.st dm.L0.aq dm.L0.add dm.L0.F dm.L0.out
theorem dm.L0.run:bD dm.L0.call dm.L0.aq dm.L0.add dm.L0.F:=fy (fx [.d tu,.d tU,.d ti,.d ti] fun _=>by kernel_rfl)
theorem dm.L0.aE:fY @dm.L0.R dm.L0.st dm.L0.aq dm.L0.add dm.L0.F dm.L0.bK dm.L0.Ok:=gj
theorem dm.L0.step{R:Type}(outv:Int)(t6:Bs)(t7:Int)(t8:Int)(kn:AS→Option R)(kx:Exit→AS→Option R):dm.L0.R (outv,t6,t7,t8) kn kx=
  aD ((gM t8 t7)) (
   aD (dZ t8 (((List.length t6):Nat):Int)) (
   ab (dn.call (nth tu t6 (Int.toNat t8))) fun x1=>
   ab (dE.call (outv,x1)) fun x2=>
   kn (dm.L0.st (x2,t6,t7,(bo .i64 t8 (1:Int))))) none) (
   kx (dm.L0.bK outv).1 (dm.L0.bK outv).2):=by kernel_rfl
theorem dm.eq{R:Type}(l:Bs)(k:aT→Option R):dm.A l k=
 ab (dm.L0.call ((1:Int),l,(((List.length l):Nat):Int),(0:Int))) fun x3=>
 k (dm.out x3):=by kernel_rfl
theorem dm.L0.ok:dm.L0.Ok:=by
 refine dm.L0.aE (fun(o,l,n,i)=>l.length - i.toNat) ?_
 rintro⟨o,l,n,i⟩ ⟨ho,hl,hb,rfl,k,hk,rfl⟩
 have ho:Pn o:=ho
 have hb:l.length≤1000000000:=hb
 have hk:k≤l.length:=hk
 by_cases h:k < l.length
 ·left
  have hx:=hl _ (List.getElem_mem h)
  have n1:nth (.int .u64) l k=l[k]:=dS (t:= .int .u64) h
  refine⟨(kY o (tk l[k]),l,l.length,((k+1:Nat):Int)),⟨mo _ _,hl,hb,rfl,k+1,by omega,rfl⟩,by simp only[Int.toNat_natCast];omega,?_,fun kn kx=> ?_⟩
  ·simp only[dm.L0.add,dm.L0.F,Int.toNat_natCast]
   rw[List.drop_eq_getElem_cons h]
   rfl
  ·rw[dm.L0.step]
   simp(disch:=omega) only[↓S1,↓if_pos,↓if_neg,if_pos,if_neg,if_true,if_false,S2,n1]
   rw[dn.run (d:=l[k]) hx]
   simp only[aa,dn.add,dn.F]
   rw[dE.run (d:=(o,tk l[k])) ⟨ho.u,(E2 _).u⟩]
   rfl
 ·right
  obtain rfl:k=l.length:=by omega
  intro R kn kx
  rw[dm.L0.step]
  simp(disch:=omega) only[↓S1,↓if_pos,↓if_neg,if_pos,if_neg,if_true,if_false,S2,dm.L0.add,dm.L0.F,List.drop_length]
  rfl
theorem dm.ok:dm.Ok:=by
 rintro l ⟨hl,hb⟩
 rw[dm.eq,dm.L0.run (d:=(1,l,l.length,0)) ⟨⟨by omega,by omega⟩,hl,hb,rfl,0,by omega,rfl⟩]
 rfl
noncomputable def dm.E:=Entry.cD [some tU] dm.st dm.aq dm.add dm.F dm.out
noncomputable def dm.call:dm.D→Option dm.X:=bC dm.E dm.st
theorem dm.run:bD dm.call dm.aq dm.add dm.F:=cw (cv [.d tU] fun _=>by kernel_rfl)
noncomputable def dm.sg:SG Tryz.prog:=⟨165,aK,dm.E,.fn 1 (by kernel_rfl) dm.ok (And.intro (.cD dm.L0.ok (by kernel_rfl)) trivial)⟩
abbrev fO.D:=Int×Int
def fO.st:fO.D→SA:=fun(p,q)=>([.d tu p,.d tu q],[])
abbrev fO.Y:=Int
abbrev fO.X:=Int
def fO.out:fO.X→aT:=fun x=>⟨.d tu x,[],[]⟩
def fO.add:fO.D→fO.Y→fO.X:=fun(p,q) y=>y
def fO.aq:fO.D→Prop:=fun(p,q)=>fo p∧fo q
def fO.F:fO.D→fO.Y:=fun(p,q)=>rU [p,q]
noncomputable def fO.G:dU:=eZ (P:=Tryz.prog) [dm.sg]
noncomputable def fO.an:eu:= {}
noncomputable def fO.A:= @cq Tryz.prog fO.G fO.an 0 Tryz.f130 _ fO.st
abbrev fO.Ok:=cr @fO.A fO.aq fO.add fO.F fO.out
theorem fO.eq{R:Type}(p:Int)(q:Int)(k:aT→Option R):fO.A (p,q) k=
 ab (dm.call [p,q]) fun x1=>
 k (fO.out x1):=by kernel_rfl
theorem fO.ok:fO.Ok:=by
 rintro⟨p,q⟩ ⟨hp,hq⟩
 have h:dm.aq [p,q]:=⟨by intro x hx;simp only[List.mem_cons,List.not_mem_nil,or_false]at hx;rcases hx with rfl | rfl <;> assumption,by simp only[List.length_cons,List.length_nil];omega⟩
 rw[fO.eq,dm.run h]
 rfl
noncomputable def fO.E:=Entry.cD [some tu,some tu] fO.st fO.aq fO.add fO.F fO.out
noncomputable def fO.call:fO.D→Option fO.X:=bC fO.E fO.st
theorem fO.run:bD fO.call fO.aq fO.add fO.F:=cw (cv [.d tu,.d tu] fun _=>by kernel_rfl)
noncomputable def fO.sg:SG Tryz.prog:=⟨130,aK,fO.E,.fn 0 (by kernel_rfl) fO.ok trivial⟩
set_option synthInstance.maxSize 5000
def Qn(x:Int):Prop:=0≤x∧x < 2305843009213688669
theorem Qn.u{x:Int}(h:Qn x):fo x:=⟨h.1,by have:=h.2;omega⟩
def Fj(a:Int):Int:=a%2305843009213688669
theorem yd(a:Int):Qn (Fj a):=⟨Int.emod_nonneg _ (by omega),Int.emod_lt_of_pos _ (by omega)⟩
def DB(a b:Int):Int:=(Fj a+Fj b)%2305843009213688669
def A5(a b:Int):Int:=Fj a*Fj b%2305843009213688669
def gV(h:List Int):Int:=h.foldl (fun n b=>(n*256+b)%2305843009213688668) 0+1
def xm.b(n:Int):Prop:=0≤n∧n < 2305843009213688668
theorem uD(h:List Int)(n:Int)(hn:xm.b n):xm.b (h.foldl (fun n b=>(n*256+b)%2305843009213688668) n):=by
 induction h generalizing n with
 |nil=>exact hn
 |cons p l ih=>exact ih _ ⟨Int.emod_nonneg _ (by omega),Int.emod_lt_of_pos _ (by omega)⟩
theorem nL(h:List Int):0 < gV h∧gV h < 2305843009213688669:=by
 have:=uD h 0 ⟨by omega,by omega⟩
 have h1:=this.1
 have h2:=this.2
 unfold gV
 omega
theorem xr(a b:Int):Qn (DB a b):=⟨Int.emod_nonneg _ (by omega),Int.emod_lt_of_pos _ (by omega)⟩
theorem xX(a b:Int):Qn (A5 a b):=⟨Int.emod_nonneg _ (by omega),Int.emod_lt_of_pos _ (by omega)⟩
abbrev dz.D:=Int
def dz.st:dz.D→SA:=fun a=>([.d tu a],[])
abbrev dz.Y:=Bool
abbrev dz.X:=Bool
def dz.out:dz.X→aT:=fun x=>⟨.d .bool x,[],[]⟩
def dz.add:dz.D→dz.Y→dz.X:=fun a y=>y
def dz.aq:dz.D→Prop:=fun _=>True
def dz.F:dz.D→dz.Y:=fun a=>gM a 2305843009213688669
noncomputable def dz.G:dU:=eZ (P:=Tryz.prog) []
noncomputable def dz.an:eu:= {}
noncomputable def dz.A:= @cq Tryz.prog dz.G dz.an 0 Tryz.f126 _ dz.st
abbrev dz.Ok:=cr @dz.A dz.aq dz.add dz.F dz.out
theorem dz.eq{R:Type}(a:Int)(k:aT→Option R):dz.A a k=
 k (dz.out (gM a (2305843009213688669:Int))):=by kernel_rfl
theorem dz.ok:dz.Ok:=by
 intro a _
 rw[dz.eq]
 rfl
noncomputable def dz.E:=Entry.cD [some tu] dz.st dz.aq dz.add dz.F dz.out
noncomputable def dz.call:dz.D→Option dz.X:=bC dz.E dz.st
theorem dz.run:bD dz.call dz.aq dz.add dz.F:=cw (cv [.d tu] fun _=>by kernel_rfl)
noncomputable def dz.sg:SG Tryz.prog:=⟨126,aK,dz.E,.fn 0 (by kernel_rfl) dz.ok trivial⟩
abbrev jD.D:=Int
def jD.st:jD.D→SA:=fun a=>([.d tu a],[])
abbrev jD.Y:=Int
abbrev jD.X:=Int
def jD.out:jD.X→aT:=fun x=>⟨.d tu x,[],[]⟩
def jD.add:jD.D→jD.Y→jD.X:=fun a y=>y
def jD.aq:jD.D→Prop:=fun a=>fo a
def jD.F:jD.D→jD.Y:=fun a=>Fj a
noncomputable def jD.G:dU:=eZ (P:=Tryz.prog) []
noncomputable def jD.an:eu:= {}
noncomputable def jD.A:= @cq Tryz.prog jD.G jD.an 0 Tryz.f159 _ jD.st
abbrev jD.Ok:=cr @jD.A jD.aq jD.add jD.F jD.out
theorem jD.eq{R:Type}(a:Int)(k:aT→Option R):jD.A a k=
 k (jD.out (fI a (2305843009213688669:Int))):=by kernel_rfl
theorem jD.ok:jD.Ok:=by
 intro a ha
 rw[jD.eq,gS ha.1]
 rfl
noncomputable def jD.E:=Entry.cD [some tu] jD.st jD.aq jD.add jD.F jD.out
noncomputable def jD.call:jD.D→Option jD.X:=bC jD.E jD.st
theorem jD.run:bD jD.call jD.aq jD.add jD.F:=cw (cv [.d tu] fun _=>by kernel_rfl)
noncomputable def jD.sg:SG Tryz.prog:=⟨159,aK,jD.E,.fn 0 (by kernel_rfl) jD.ok trivial⟩
abbrev ff.D:=Int×Int
def ff.st:ff.D→SA:=fun(a,b)=>([.d tu a,.d tu b],[])
abbrev ff.Y:=Int
abbrev ff.X:=Int
def ff.out:ff.X→aT:=fun x=>⟨.d tu x,[],[]⟩
def ff.add:ff.D→ff.Y→ff.X:=fun(a,b) y=>y
def ff.aq:ff.D→Prop:=fun(a,b)=>Qn a∧Qn b
def ff.F:ff.D→ff.Y:=fun(a,b)=>(a+b)%2305843009213688669
noncomputable def ff.G:dU:=eZ (P:=Tryz.prog) []
noncomputable def ff.an:eu:= {}
noncomputable def ff.A:= @cq Tryz.prog ff.G ff.an 0 Tryz.f160 _ ff.st
abbrev ff.Ok:=cr @ff.A ff.aq ff.add ff.F ff.out
theorem ff.eq{R:Type}(a:Int)(b:Int)(k:aT→Option R):ff.A (a,b) k=
 k (ff.out (fI (bo .u64 a b) (2305843009213688669:Int))):=by kernel_rfl
theorem ff.ok:ff.Ok:=by
 rintro⟨a,b⟩ ⟨ha,hb⟩
 have ha:Qn a:=ha
 have hb:Qn b:=hb
 obtain⟨h1,h2⟩:=ha
 obtain⟨h3,h4⟩:=hb
 have e:bo .u64 a b=a+b:=by rw[iX];omega
 rw[ff.eq,e,gS (by omega)]
 rfl
noncomputable def ff.E:=Entry.cD [some tu,some tu] ff.st ff.aq ff.add ff.F ff.out
noncomputable def ff.call:ff.D→Option ff.X:=bC ff.E ff.st
theorem ff.run:bD ff.call ff.aq ff.add ff.F:=cw (cv [.d tu,.d tu] fun _=>by kernel_rfl)
noncomputable def ff.sg:SG Tryz.prog:=⟨160,aK,ff.E,.fn 0 (by kernel_rfl) ff.ok trivial⟩
abbrev dR.D:=Int×Int
def dR.st:dR.D→SA:=fun(a,b)=>([.d tu a,.d tu b],[])
abbrev dR.Y:=Int
abbrev dR.X:=Int
def dR.out:dR.X→aT:=fun x=>⟨.d tu x,[],[]⟩
def dR.add:dR.D→dR.Y→dR.X:=fun(a,b) y=>y
def dR.aq:dR.D→Prop:=fun(a,b)=>Qn a∧Qn b
def dR.F:dR.D→dR.Y:=fun(a,b)=>a*b%2305843009213688669
noncomputable def dR.G:dU:=eZ (P:=Tryz.prog) [ek.sg,dX.sg]
noncomputable def dR.an:eu:= {}
noncomputable def dR.A:= @cq Tryz.prog dR.G dR.an 0 Tryz.f161 _ dR.st
abbrev dR.Ok:=cr @dR.A dR.aq dR.add dR.F dR.out
theorem dR.eq{R:Type}(a:Int)(b:Int)(k:aT→Option R):dR.A (a,b) k=
 ab (ek.call (a,b)) fun x1=>
 ab (dX.call (x1.1,x1.2,(2305843009213688669:Int))) fun x2=>
 k (dR.out x2):=by kernel_rfl
theorem dR.ok:dR.Ok:=by
 rintro⟨a,b⟩ ⟨ha,hb⟩
 have ha:Qn a:=ha
 have hb:Qn b:=hb
 obtain⟨m1,m2⟩:=sN ha.1 (show a≤18446744073709551615 by have:=ha.2;omega) hb.1 (show b≤18446744073709551615 by have:=hb.2;omega)
 have n:(18446744073709551615:Int)*18446744073709551615=340282366920938463426481119284349108225:=rfl
 rw[n]at m2
 have p:dX.aq (a*b / 18446744073709551616,a*b%18446744073709551616,2305843009213688669):=⟨Or.inr (Or.inl rfl),by omega,by omega,by omega,by omega⟩
 rw[dR.eq,ek.run (d:=(a,b)) ⟨ha.u,hb.u⟩]
 simp only[aa,ek.add,ek.F]
 rw[dX.run p]
 simp only[aa,dX.add,dX.F,vG]
 rfl
noncomputable def dR.E:=Entry.cD [some tu,some tu] dR.st dR.aq dR.add dR.F dR.out
noncomputable def dR.call:dR.D→Option dR.X:=bC dR.E dR.st
theorem dR.run:bD dR.call dR.aq dR.add dR.F:=cw (cv [.d tu,.d tu] fun _=>by kernel_rfl)
noncomputable def dR.sg:SG Tryz.prog:=⟨161,aK,dR.E,.fn 0 (by kernel_rfl) dR.ok trivial⟩
abbrev gd.D:=Int×Int
def gd.st:gd.D→SA:=fun(a,b)=>([.d tu a,.d tu b],[])
abbrev gd.Y:=Int
abbrev gd.X:=Int
def gd.out:gd.X→aT:=fun x=>⟨.d tu x,[],[]⟩
def gd.add:gd.D→gd.Y→gd.X:=fun(a,b) y=>y
def gd.aq:gd.D→Prop:=fun(a,b)=>fo a∧fo b
def gd.F:gd.D→gd.Y:=fun(a,b)=>DB a b
noncomputable def gd.G:dU:=eZ (P:=Tryz.prog) [jD.sg,ff.sg]
noncomputable def gd.an:eu:= {}
noncomputable def gd.A:= @cq Tryz.prog gd.G gd.an 0 Tryz.f122 _ gd.st
abbrev gd.Ok:=cr @gd.A gd.aq gd.add gd.F gd.out
theorem gd.eq{R:Type}(a:Int)(b:Int)(k:aT→Option R):gd.A (a,b) k=
 ab (jD.call a) fun x1=>
 ab (jD.call b) fun x2=>
 ab (ff.call (x1,x2)) fun x3=>
 k (gd.out x3):=by kernel_rfl
theorem gd.ok:gd.Ok:=by
 rintro⟨a,b⟩ ⟨ha,hb⟩
 rw[gd.eq,jD.run (d:=a) ha,jD.run (d:=b) hb]
 simp only[aa,jD.add,jD.F]
 rw[ff.run (d:=(Fj a,Fj b)) ⟨yd a,yd b⟩]
 rfl
noncomputable def gd.E:=Entry.cD [some tu,some tu] gd.st gd.aq gd.add gd.F gd.out
noncomputable def gd.call:gd.D→Option gd.X:=bC gd.E gd.st
theorem gd.run:bD gd.call gd.aq gd.add gd.F:=cw (cv [.d tu,.d tu] fun _=>by kernel_rfl)
noncomputable def gd.sg:SG Tryz.prog:=⟨122,aK,gd.E,.fn 0 (by kernel_rfl) gd.ok trivial⟩
abbrev fS.D:=Int×Int
def fS.st:fS.D→SA:=fun(a,b)=>([.d tu a,.d tu b],[])
abbrev fS.Y:=Int
abbrev fS.X:=Int
def fS.out:fS.X→aT:=fun x=>⟨.d tu x,[],[]⟩
def fS.add:fS.D→fS.Y→fS.X:=fun(a,b) y=>y
def fS.aq:fS.D→Prop:=fun(a,b)=>fo a∧fo b
def fS.F:fS.D→fS.Y:=fun(a,b)=>A5 a b
noncomputable def fS.G:dU:=eZ (P:=Tryz.prog) [jD.sg,dR.sg]
noncomputable def fS.an:eu:= {}
noncomputable def fS.A:= @cq Tryz.prog fS.G fS.an 0 Tryz.f123 _ fS.st
abbrev fS.Ok:=cr @fS.A fS.aq fS.add fS.F fS.out
theorem fS.eq{R:Type}(a:Int)(b:Int)(k:aT→Option R):fS.A (a,b) k=
 ab (jD.call a) fun x1=>
 ab (jD.call b) fun x2=>
 ab (dR.call (x1,x2)) fun x3=>
 k (fS.out x3):=by kernel_rfl
theorem fS.ok:fS.Ok:=by
 rintro⟨a,b⟩ ⟨ha,hb⟩
 rw[fS.eq,jD.run (d:=a) ha,jD.run (d:=b) hb]
 simp only[aa,jD.add,jD.F]
 rw[dR.run (d:=(Fj a,Fj b)) ⟨yd a,yd b⟩]
 rfl
noncomputable def fS.E:=Entry.cD [some tu,some tu] fS.st fS.aq fS.add fS.F fS.out
noncomputable def fS.call:fS.D→Option fS.X:=bC fS.E fS.st
theorem fS.run:bD fS.call fS.aq fS.add fS.F:=cw (cv [.d tu,.d tu] fun _=>by kernel_rfl)
noncomputable def fS.sg:SG Tryz.prog:=⟨123,aK,fS.E,.fn 0 (by kernel_rfl) fS.ok trivial⟩
abbrev bG.L0.D:=Int×Bs×Int
def bG.L0.st:bG.L0.D→AS:=fun(n,t6,t7)=>⟨([.undef,.undef,.undef,.d tu n,.undef,.undef,.d tH t6,.d ti t7]++bw 13 []),[],(List.replicate 21 [])⟩
abbrev bG.L0.Y0:=Int
abbrev bG.L0.X0:=Int
def bG.L0.bK:bG.L0.X0→Exit×AS:=fun x=>(.exit 0,⟨([.undef,.undef,.undef,.d tu x]++bw 17 []),[],(List.replicate 21 [])⟩)
abbrev bG.L0.X:=bG.L0.X0
abbrev bG.L0.Y:=bG.L0.Y0
def bG.L0.out:bG.L0.X→Out (Exit×AS):=fun x=> .ok (bG.L0.bK x)
def bG.L0.add:bG.L0.D→bG.L0.Y→bG.L0.X:=fun(n,t6,t7) y=>y
abbrev bG.D:=Bs
def bG.st:bG.D→SA:=fun h=>([.d tH h],[])
abbrev bG.Y:=Int
abbrev bG.X:=Int
def bG.out:bG.X→aT:=fun x=>⟨.d tu x,[],[]⟩
def bG.add:bG.D→bG.Y→bG.X:=fun h y=>y
def bG.L0.aq:bG.L0.D→Prop:=fun(n,h,i)=>xm.b n∧h.length=32∧Bytes h∧∃k:Nat,k≤32∧i=k
def bG.L0.F:bG.L0.D→bG.L0.Y:=fun(n,h,i)=>(h.drop i.toNat).foldl (fun n b=>(n*256+b)%2305843009213688668) n
def bG.aq:bG.D→Prop:=fun h=>h.length=32∧Bytes h
def bG.F:bG.D→bG.Y:=fun h=>gV h
noncomputable def bG.G:dU:=eZ (P:=Tryz.prog) [dX.sg]
noncomputable def bG.L0.E:=cf.cD bG.L0.st bG.L0.aq bG.L0.add bG.L0.F bG.L0.out
noncomputable def bG.L0.call:bG.L0.D→Option bG.L0.X:=dL bG.L0.E bG.L0.st
noncomputable def bG.an:eu:= {loops:=ki [(3,{bu:=[3,6,7]})],outs:=kh [(3,{bu:=[3]},{bu:=[2]})],gq:=lv [(3,bG.L0.E)]}
noncomputable def bG.A:= @cq Tryz.prog bG.G bG.an 0 Tryz.f99 _ bG.st
abbrev bG.Ok:=cr @bG.A bG.aq bG.add bG.F bG.out
noncomputable def bG.L0.R:= @cM Tryz.prog bG.G bG.an 0 Tryz.f99 0 _ bG.L0.st
abbrev bG.L0.Ok:=fk Tryz.prog bG.G bG.an 0 Tryz.f99 0 bG.L0.st bG.L0.aq bG.L0.add bG.L0.F bG.L0.out
theorem bG.L0.run:bD bG.L0.call bG.L0.aq bG.L0.add bG.L0.F:=fy (fx [.d tu,.d tB,.d ti] fun _=>by kernel_rfl)
theorem bG.L0.aE:fY @bG.L0.R bG.L0.st bG.L0.aq bG.L0.add bG.L0.F bG.L0.bK bG.L0.Ok:=gj
theorem bG.L0.step{R:Type}(n:Int)(t6:Bs)(t7:Int)(kn:AS→Option R)(kx:Exit→AS→Option R):bG.L0.R (n,t6,t7) kn kx=
  aD ((gM t7 (32:Int))) (
   aD (dZ t7 (32:Int)) (
   ab (dX.call ((bW .u64 n (56:Int)),(ct .or .u64 (jx .u64 n (8:Int)) (dG .u64 (nth tb t6 (Int.toNat t7)))),(2305843009213688668:Int))) fun x1=>
   kn (bG.L0.st (x1,t6,(bo .i64 t7 (1:Int))))) none) (
   kx (bG.L0.bK n).1 (bG.L0.bK n).2):=by kernel_rfl
theorem bG.eq{R:Type}(h:Bs)(k:aT→Option R):bG.A h k=
 ab (bG.L0.call ((0:Int),h,(0:Int))) fun x2=>
 k (bG.out (bo .u64 x2 (1:Int))):=by kernel_rfl
theorem y4{n b:Int}(hn:xm.b n)(hb:vK b):bW .u64 n 56*18446744073709551616+ct .or .u64 (jx .u64 n 8) (dG .u64 b)=n*256+b∧fo (bW .u64 n 56)∧fo (ct .or .u64 (jx .u64 n 8) (dG .u64 b)):=by
 obtain⟨h1,h2⟩:=hn
 obtain⟨h3,h4⟩:=hb
 have p56:(2:Int)^56=72057594037927936:=rfl
 have p8:(2:Int)^8=256:=rfl
 have e:dG .u64 b=b:=by rw[AT];omega
 rw[lB 56 (by rfl) (by omega),lA 8 (by rfl) (by omega),p56,p8,e,rv 8 256 rfl (by omega) (by omega) (by omega) (by omega) (by omega) (by omega)]
 exact⟨by omega,⟨by omega,by omega⟩,by omega,by omega⟩
theorem bG.L0.ok:bG.L0.Ok:=by
 refine bG.L0.aE (fun(n,h,i)=>32 - i.toNat) ?_
 rintro⟨n,h,i⟩ ⟨hn,hl,hb,k,hk,rfl⟩
 have hn:xm.b n:=hn
 have hl:h.length=32:=hl
 have hb:Bytes h:=hb
 by_cases hlt:k < 32
 ·left
  have hx:vK (h[k]'(by omega)):=hb _ (List.getElem_mem _)
  have n1:nth (.int .u8) h k=h[k]'(by omega):=dS (t:= .int .u8) (by omega)
  obtain⟨d1,d2,d3⟩:=y4 hn hx
  refine⟨((n*256+h[k]'(by omega))%2305843009213688668,h,((k+1:Nat):Int)),⟨⟨by omega,by omega⟩,hl,hb,k+1,by omega,rfl⟩,by simp only[Int.toNat_natCast];omega,?_,fun kn kx=> ?_⟩
  ·simp only[bG.L0.add,bG.L0.F,Int.toNat_natCast]
   rw[List.drop_eq_getElem_cons (by omega:k < h.length)]
   rfl
  ·rw[bG.L0.step]
   simp(disch:=omega) only[↓S1,↓if_pos,↓if_neg,if_pos,if_neg,if_true,if_false,S2,n1]
   rw[dX.run (d:=(_,_,2305843009213688668)) ⟨Or.inr (Or.inr rfl),d2.1,d2.2,d3.1,d3.2⟩]
   simp only[aa,dX.add,dX.F,d1]
 ·right
  obtain rfl:k=32:=by omega
  intro R kn kx
  rw[bG.L0.step]
  simp(disch:=omega) only[↓S1,↓if_pos,↓if_neg,if_pos,if_neg,if_true,if_false,S2,bG.L0.add,bG.L0.F]
  rw[List.drop_of_length_le (by omega)]
  rfl
theorem bG.ok:bG.Ok:=by
 rintro h ⟨hl,hb⟩
 have e:=uD h 0 ⟨by omega,by omega⟩
 have h1:=e.1
 have h2:=e.2
 rw[bG.eq,bG.L0.run (d:=(0,h,0)) ⟨⟨by omega,by omega⟩,hl,hb,0,by omega,rfl⟩]
 simp only[aa,bG.L0.add,bG.L0.F,bG.add,bG.F,gV,Int.toNat_zero,List.drop_zero]
 revert h1 h2
 generalize h.foldl (fun n b=>(n*256+b)%2305843009213688668) 0=m
 intro h1 h2
 have e:bo .u64 m 1=m+1:=by rw[iX];omega
 rw[e]
noncomputable def bG.E:=Entry.cD [some tH] bG.st bG.aq bG.add bG.F bG.out
noncomputable def bG.call:bG.D→Option bG.X:=bC bG.E bG.st
theorem bG.run:bD bG.call bG.aq bG.add bG.F:=cw (cv [.d tB] fun _=>by kernel_rfl)
noncomputable def bG.sg:SG Tryz.prog:=⟨99,aK,bG.E,.fn 1 (by kernel_rfl) bG.ok (And.intro (.cD bG.L0.ok (by kernel_rfl)) trivial)⟩
set_option synthInstance.maxSize 5000
theorem uh(n:Int): [dG .u8 (bW .u64 n 56),dG .u8 (bW .u64 n 48),dG .u8 (bW .u64 n 40),dG .u8 (bW .u64 n 32),dG .u8 (bW .u64 n 24),dG .u8 (bW .u64 n 16),dG .u8 (bW .u64 n 8),dG .u8 (bW .u64 n 0)]=iA n:=Ax n
theorem gI{α:Type}{l:List α}{n:Nat}(h:l.length=n):cut l 0 n=l:=by subst h;simp[cut]
theorem EZ{n:ByteArray}{a b c:List Int}(hn:n.size≤100)(ha:a.length≤1000000)(hb:b.length≤1000000)(hc:c.length≤1000000):cG.aq (n,[a,b,c]):=by
 show(s6 _ [a,b,c]).length≤_
 rw[s6]
 simp only[iZ,List.flatMap_cons,List.flatMap_nil,List.length_append,cO,ia,List.length_nil]
 omega
theorem vC{n:ByteArray}{a b:List Int}(hn:n.size≤100)(ha:a.length≤1000000)(hb:b.length≤1000000):cG.aq (n,[a,b]):=by
 show(s6 _ [a,b]).length≤_
 rw[s6]
 simp only[iZ,List.flatMap_cons,List.flatMap_nil,List.length_append,cO,ia,List.length_nil]
 omega
theorem Af{n:ByteArray}{a:List Int}(hn:n.size≤100)(ha:a.length≤1000000):cG.aq (n,[a]):=by
 show(s6 _ [a]).length≤_
 rw[s6]
 simp only[iZ,List.flatMap_cons,List.flatMap_nil,List.length_append,cO,ia,List.length_nil]
 omega
def Sm(m:List Int):Prop:=m.length=32∧Bytes m
theorem Hx(b:List Int):Sm (Hs b):=⟨Bj b,CC b⟩
theorem vA(n:List Int)(ps:List (List Int)):Sm (tag n ps):=Hx _
def ym(n:ByteArray)(ps:List (List Int)):List Int:=tag (bA n) ps
def Ib:ByteArray:=⟨#[115,105,103]⟩
def Hf:ByteArray:=⟨#[110,111,110,99,101]⟩
def um(r p:Int)(m:List Int):Int:=gV (ym Ib [iA r,iA p,m])
theorem DO(r p:Int)(m:List Int):Qn (um r p m):=by
 have:=nL (ym Ib [iA r,iA p,m])
 exact⟨by unfold um;omega,by unfold um;omega⟩
def Je(s:Sg):Prop:=fo s.1∧fo s.2.1
def BB(k nonce:Int)(m:List Int)(t:Int):Sg:=
 (rU [gu nonce,t],DB nonce (A5 (um (rU [gu nonce,t]) (gu k) m) k),())
def Hh(k:Int)(m:List Int):Int:=gV (ym Hf [iA k,m])
def pq(k:Int)(m:List Int):Sg:=if k < 2305843009213688669∧k≠0 then BB k (Hh k m) m 1 else(0,0,())
abbrev dp.D:=Int
def dp.st:dp.D→SA:=fun n=>([.d tu n],[])
abbrev dp.Y:=Bs
abbrev dp.X:=Bs
def dp.out:dp.X→aT:=fun x=>⟨.d tB x,[],[]⟩
def dp.add:dp.D→dp.Y→dp.X:=fun n y=>y
def dp.aq:dp.D→Prop:=fun _=>True
def dp.F:dp.D→dp.Y:=fun n=>iA n
noncomputable def dp.G:dU:=eZ (P:=Tryz.prog) []
noncomputable def dp.an:eu:= {loops:=ki [(3,{bu:=[0,3,7,8],sites:=[5]})],outs:=kh [(3,{bu:=[3],sites:=[5]},{bu:=[2],sites:=[5]})],res:=[some tB]}
noncomputable def dp.A:= @cq Tryz.prog dp.G dp.an 12 Tryz.f144 _ dp.st
abbrev dp.Ok:=cr @dp.A dp.aq dp.add dp.F dp.out
theorem dp.eq{R:Type}(n:Int)(k:aT→Option R):dp.A n k=
 k (dp.out [(dG .u8 (bW .u64 n (56:Int))),(dG .u8 (bW .u64 n (48:Int))),(dG .u8 (bW .u64 n (40:Int))),(dG .u8 (bW .u64 n (32:Int))),(dG .u8 (bW .u64 n (24:Int))),(dG .u8 (bW .u64 n (16:Int))),(dG .u8 (bW .u64 n (8:Int))),(dG .u8 (bW .u64 n (0:Int)))]):=by kernel_rfl
theorem dp.ok:dp.Ok:=by
 intro n _
 rw[dp.eq,uh]
 rfl
noncomputable def dp.E:=Entry.cD [some tu] dp.st dp.aq dp.add dp.F dp.out
noncomputable def dp.call:dp.D→Option dp.X:=bC dp.E dp.st
theorem dp.run:bD dp.call dp.aq dp.add dp.F:=cw (cv [.d tu] fun _=>by kernel_rfl)
noncomputable def dp.sg:SG Tryz.prog:=⟨144,aK,dp.E,.fn 1 (by kernel_rfl) dp.ok (And.intro (.none (by kernel_rfl)) trivial)⟩
abbrev eT.D:=Int×Int×Bs
def eT.st:eT.D→SA:=fun(r,p,m)=>([.d tu r,.d tu p,.d tH m],[])
abbrev eT.Y:=Int
abbrev eT.X:=Int
def eT.out:eT.X→aT:=fun x=>⟨.d tu x,[],[]⟩
def eT.add:eT.D→eT.Y→eT.X:=fun(r,p,m) y=>y
def eT.aq:eT.D→Prop:=fun(r,p,m)=>Sm m
def eT.F:eT.D→eT.Y:=fun(r,p,m)=>um r p m
noncomputable def eT.G:dU:=eZ (P:=Tryz.prog) [dp.sg,cG.sg,bG.sg]
noncomputable def eT.an:eu:= {}
noncomputable def eT.A:= @cq Tryz.prog eT.G eT.an 0 Tryz.f172 _ eT.st
abbrev eT.Ok:=cr @eT.A eT.aq eT.add eT.F eT.out
theorem eT.eq{R:Type}(r:Int)(p:Int)(m:Bs)(k:aT→Option R):eT.A (r,p,m) k=
 ab (dp.call r) fun x1=>
 ab (dp.call p) fun x2=>
 ab (cG.call ((⟨#[115,105,103]⟩:ByteArray),[x1,x2,(cut m 0 32)])) fun x3=>
 ab (bG.call x3) fun x4=>
 k (eT.out x4):=by kernel_rfl
theorem eT.ok:eT.Ok:=by
 rintro⟨r,p,m⟩ hm
 have hm:Sm m:=hm
 rw[eT.eq,dp.run (d:=r) trivial,dp.run (d:=p) trivial]
 simp only[aa,dp.add,dp.F]
 rw[gI hm.1,cG.run (EZ (by decide) (by rw[cO];omega) (by rw[cO];omega) (by rw[hm.1];omega))]
 simp only[aa,cG.add,cG.F]
 rw[bG.run (d:=tag (bA (⟨#[115,105,103]⟩:ByteArray)) [iA r,iA p,m]) (vA _ _)]
 rfl
noncomputable def eT.E:=Entry.cD [some tu,some tu,some tH] eT.st eT.aq eT.add eT.F eT.out
noncomputable def eT.call:eT.D→Option eT.X:=bC eT.E eT.st
theorem eT.run:bD eT.call eT.aq eT.add eT.F:=cw (cv [.d tu,.d tu,.d tB] fun _=>by kernel_rfl)
noncomputable def eT.sg:SG Tryz.prog:=⟨172,aK,eT.E,.fn 0 (by kernel_rfl) eT.ok trivial⟩
abbrev gk.D:=Int
def gk.st:gk.D→SA:=fun kv=>([.d tu kv],[])
abbrev gk.Y:=Bool
abbrev gk.X:=Bool
def gk.out:gk.X→aT:=fun x=>⟨.d .bool x,[],[]⟩
def gk.add:gk.D→gk.Y→gk.X:=fun kv y=>y
def gk.aq:gk.D→Prop:=fun _=>True
def gk.F:gk.D→gk.Y:=fun k=>decide (k < 2305843009213688669∧k≠0)
noncomputable def gk.G:dU:=eZ (P:=Tryz.prog) [dz.sg]
noncomputable def gk.an:eu:= {}
noncomputable def gk.A:= @cq Tryz.prog gk.G gk.an 0 Tryz.f142 _ gk.st
abbrev gk.Ok:=cr @gk.A gk.aq gk.add gk.F gk.out
theorem gk.eq{R:Type}(kv:Int)(k:aT→Option R):gk.A kv k=
  ab (dz.call kv) fun x1=>
  aD (x1) (
   k (gk.out (qQ kv (0:Int)))) (
   k (gk.out false)):=by kernel_rfl
theorem gk.ok:gk.Ok:=by
 intro k _
 rw[gk.eq,dz.run (d:=k) trivial]
 simp only[aa,dz.add,dz.F,gk.add,gk.F]
 by_cases h:k < 2305843009213688669
 ·rw[bB h,ah]
  by_cases h0:k=0
  ·rw[gO h0,bN (fun x=>x.2 h0)]
  ·rw[iM h0,aL ⟨h,h0⟩]
 ·rw[bk h,ae,bN (fun x=>h x.1)]
noncomputable def gk.E:=Entry.cD [some tu] gk.st gk.aq gk.add gk.F gk.out
noncomputable def gk.call:gk.D→Option gk.X:=bC gk.E gk.st
theorem gk.run:bD gk.call gk.aq gk.add gk.F:=cw (cv [.d tu] fun _=>by kernel_rfl)
noncomputable def gk.sg:SG Tryz.prog:=⟨142,aK,gk.E,.fn 0 (by kernel_rfl) gk.ok trivial⟩
abbrev dh.D:=Int×Int×Bs×Int
def dh.st:dh.D→SA:=fun(kv,nonce,m,t)=>([.d tu kv,.d tu nonce,.d tH m,.d tu t],[])
abbrev dh.Y:=Sg
abbrev dh.X:=Sg
def dh.out:dh.X→aT:=fun x=>⟨.d Dq x,[],[]⟩
def dh.add:dh.D→dh.Y→dh.X:=fun(kv,nonce,m,t) y=>y
def dh.aq:dh.D→Prop:=fun(k,n,m,t)=>fo k∧fo n∧Sm m∧fo t
def dh.F:dh.D→dh.Y:=fun(k,n,m,t)=>BB k n m t
noncomputable def dh.G:dU:=eZ (P:=Tryz.prog) [dk.sg,fO.sg,eT.sg,fS.sg,gd.sg]
noncomputable def dh.an:eu:= {}
noncomputable def dh.A:= @cq Tryz.prog dh.G dh.an 0 Tryz.f143 _ dh.st
abbrev dh.Ok:=cr @dh.A dh.aq dh.add dh.F dh.out
theorem dh.eq{R:Type}(kv:Int)(nonce:Int)(m:Bs)(t:Int)(k:aT→Option R):dh.A (kv,nonce,m,t) k=
 ab (dk.call nonce) fun x1=>
 ab (fO.call (x1,t)) fun x2=>
 ab (dk.call kv) fun x3=>
 ab (eT.call (x2,x3,m)) fun x4=>
 ab (fS.call (x4,kv)) fun x5=>
 ab (gd.call (nonce,x5)) fun x6=>
 k (dh.out (x2,(x6,()))):=by kernel_rfl
theorem dh.ok:dh.Ok:=by
 rintro⟨k,n,m,t⟩ ⟨hk,hn,hm,ht⟩
 have hk:fo k:=hk
 have hn:fo n:=hn
 have hm:Sm m:=hm
 have ht:fo t:=ht
 rw[dh.eq,dk.run (d:=n) hn]
 simp only[aa,dk.add,dk.F]
 rw[fO.run (d:=(gu n,t)) ⟨(Ca _ _).u,ht⟩,dk.run (d:=k) hk]
 simp only[aa,dk.add,dk.F,fO.add,fO.F]
 rw[eT.run (d:=(rU [gu n,t],gu k,m)) hm]
 simp only[aa,eT.add,eT.F]
 rw[fS.run (d:=(um (rU [gu n,t]) (gu k) m,k)) ⟨(DO _ _ _).u,hk⟩]
 simp only[aa,fS.add,fS.F]
 rw[gd.run (d:=(n,A5 (um (rU [gu n,t]) (gu k) m) k)) ⟨hn,(xX _ _).u⟩]
 rfl
noncomputable def dh.E:=Entry.cD [some tu,some tu,some tH,some tu] dh.st dh.aq dh.add dh.F dh.out
noncomputable def dh.call:dh.D→Option dh.X:=bC dh.E dh.st
theorem dh.run:bD dh.call dh.aq dh.add dh.F:=cw (cv [.d tu,.d tu,.d tB,.d tu] fun _=>by kernel_rfl)
noncomputable def dh.sg:SG Tryz.prog:=⟨143,aK,dh.E,.fn 0 (by kernel_rfl) dh.ok trivial⟩
abbrev eI.D:=Int×Bs
def eI.st:eI.D→SA:=fun(kv,m)=>([.d tu kv,.d tH m],[])
abbrev eI.Y:=Sg
abbrev eI.X:=Sg
def eI.out:eI.X→aT:=fun x=>⟨.d Dq x,[],[]⟩
def eI.add:eI.D→eI.Y→eI.X:=fun(kv,m) y=>y
def eI.aq:eI.D→Prop:=fun(k,m)=>fo k∧Sm m
def eI.F:eI.D→eI.Y:=fun(k,m)=>pq k m
noncomputable def eI.G:dU:=eZ (P:=Tryz.prog) [gk.sg,dp.sg,cG.sg,bG.sg,dh.sg]
noncomputable def eI.an:eu:= {}
noncomputable def eI.A:= @cq Tryz.prog eI.G eI.an 0 Tryz.f102 _ eI.st
abbrev eI.Ok:=cr @eI.A eI.aq eI.add eI.F eI.out
theorem eI.eq{R:Type}(kv:Int)(m:Bs)(k:aT→Option R):eI.A (kv,m) k=
  ab (gk.call kv) fun x1=>
  aD ((!x1)) (
   k (eI.out ((0:Int),((0:Int),())))) (
   ab (dp.call kv) fun x2=>
   ab (cG.call ((⟨#[110,111,110,99,101]⟩:ByteArray),[x2,(cut m 0 32)])) fun x3=>
   ab (bG.call x3) fun x4=>
   ab (dh.call (kv,x4,m,(1:Int))) fun x5=>
   k (eI.out x5)):=by kernel_rfl
theorem eI.ok:eI.Ok:=by
 rintro⟨k,m⟩ ⟨hk,hm⟩
 have hk:fo k:=hk
 have hm:Sm m:=hm
 rw[eI.eq,gk.run (d:=k) trivial]
 simp only[aa,gk.add,gk.F,eI.add,eI.F,pq]
 by_cases h:k < 2305843009213688669∧k≠0
 ·rw[aL h,if_pos h,dp.run (d:=k) trivial,gI hm.1]
  simp only[Bool.not_true,ae,aa,dp.add,dp.F]
  rw[cG.run (vC (by decide) (by rw[cO];omega) (by rw[hm.1];omega))]
  simp only[aa,cG.add,cG.F]
  rw[bG.run (d:=tag (bA (⟨#[110,111,110,99,101]⟩:ByteArray)) [iA k,m]) (vA _ _)]
  simp only[aa,bG.add,bG.F]
  have q:=nL (tag (bA (⟨#[110,111,110,99,101]⟩:ByteArray)) [iA k,m])
  rw[dh.run (d:=(k,gV (tag (bA (⟨#[110,111,110,99,101]⟩:ByteArray)) [iA k,m]),m,1)) ⟨hk,⟨by omega,by omega⟩,hm,by omega,by omega⟩]
  rfl
 ·rw[bN h,if_neg h];rfl
noncomputable def eI.E:=Entry.cD [some tu,some tH] eI.st eI.aq eI.add eI.F eI.out
noncomputable def eI.call:eI.D→Option eI.X:=bC eI.E eI.st
theorem eI.run:bD eI.call eI.aq eI.add eI.F:=cw (cv [.d tu,.d tB] fun _=>by kernel_rfl)
noncomputable def eI.sg:SG Tryz.prog:=⟨102,aK,eI.E,.fn 0 (by kernel_rfl) eI.ok trivial⟩
set_option synthInstance.maxSize 5000
def yB(l:List Int):Prop:=∀x∈l,fo x
def HL(b:oK):Prop:=yB b.1∧fo b.2.2.2.1
def GB(l:Lk):Prop:=∀b∈l.1,HL b
def xI(n:Int):Bool:=decide (0≤n∧n≤1048576)
def nj(b:oK):Bool:=decide (b.1.length≤12) && (b.1.all lq && (xI b.2.1 && (xI b.2.2.1 && (decide (b.2.2.2.1=0) || lq b.2.2.2.1))))
def jz(l:Lk):Bool:=l.1.all nj && decide (0 < l.1.length∧l.1.length≤4)
def mh:List Int→Int→Int⊕Unit
 |[],_=> .inr ()
 |p::ps,i=>if lq p then mh ps (i+1) else .inl i
def BD(l:List Int):Int:=match mh l 0 with | .inl i=>i | .inr _=> -1
theorem td:∀(l:List Int) (i:Int),0≤i→(match mh l i with | .inl i=>decide (i≥0) | .inr _=>false)= !(l.all lq)
 |[],_,_=>rfl
 |p::ps,i,h=>by
  rw[mh,List.all_cons]
  cases hp:lq p
  ·simp[h]
  ·simp only[if_true,Bool.true_and]
   exact td ps (i+1) (by omega)
theorem Cv(l:List Int):lk (BD l) 0= !(l.all lq):=by
 have:=td l 0 (by omega)
 unfold BD lk
 cases h:mh l 0
 ·rw[h]at this;exact this
 ·rw[h]at this;rw[←this];rfl
abbrev fT.D:=Int
def fT.st:fT.D→SA:=fun p=>([.d tu p],[])
abbrev fT.Y:=Bool
abbrev fT.X:=Bool
def fT.out:fT.X→aT:=fun x=>⟨.d .bool x,[],[]⟩
def fT.add:fT.D→fT.Y→fT.X:=fun p y=>y
def fT.aq:fT.D→Prop:=fun p=>fo p
def fT.F:fT.D→fT.Y:=fun p=> !lq p
noncomputable def fT.G:dU:=eZ (P:=Tryz.prog) [cP.sg]
noncomputable def fT.an:eu:= {}
noncomputable def fT.A:= @cq Tryz.prog fT.G fT.an 0 Tryz.f33 _ fT.st
abbrev fT.Ok:=cr @fT.A fT.aq fT.add fT.F fT.out
theorem fT.eq{R:Type}(p:Int)(k:aT→Option R):fT.A p k=
 ab (cP.call p) fun x1=>
 k (fT.out (!x1)):=by kernel_rfl
theorem fT.ok:fT.Ok:=by
 intro p hp
 rw[fT.eq,cP.run (d:=p) hp]
 rfl
noncomputable def fT.E:=Entry.cD [some tu] fT.st fT.aq fT.add fT.F fT.out
noncomputable def fT.call:fT.D→Option fT.X:=bC fT.E fT.st
theorem fT.run:bD fT.call fT.aq fT.add fT.F:=cw (cv [.d tu] fun _=>by kernel_rfl)
noncomputable def fT.sg:SG Tryz.prog:=⟨33,aK,fT.E,.fn 0 (by kernel_rfl) fT.ok trivial⟩
abbrev bg.L0.D:=Bs×Int×Int
def bg.L0.st:bg.L0.D→AS:=fun(sv_2,t7,t8)=>⟨([.d tU sv_2,.fn 33 (.nil)]++bw 5 ([.d ti t7,.d ti t8]++bw 10 [])),[],(List.replicate 19 [])⟩
abbrev bg.L0.Y0:=Int
abbrev bg.L0.X0:=Int
def bg.L0.bK:bg.L0.X0→Exit×AS:=fun x=>(.ret,⟨(bw 4 ([.d ti x]++bw 14 [])),[],(List.replicate 19 [])⟩)
abbrev bg.L0.Y1:=Unit
abbrev bg.L0.X1:=Unit
def bg.L0.iW:bg.L0.X1→Exit×AS:=fun x=>(.exit 0,⟨(bw 19 []),[],(List.replicate 19 [])⟩)
abbrev bg.L0.X:=(bg.L0.X0)⊕(bg.L0.X1)
abbrev bg.L0.Y:=(bg.L0.Y0)⊕(bg.L0.Y1)
def bg.L0.out:bg.L0.X→Out (Exit×AS):=fun x=> .br x.isLeft (.get x.getLeft? fun a=> .ok (bg.L0.bK a)) (.get x.getRight? fun b=> .ok (bg.L0.iW b))
def bg.L0.add:bg.L0.D→bg.L0.Y→bg.L0.X:=fun(sv_2,t7,t8) y=>match y with | .inl y=> .inl y | .inr z=> .inr (z)
abbrev bg.D:=Bs
def bg.st:bg.D→SA:=fun sv=>([.d tU sv,.fn 33 (.nil)],[])
abbrev bg.Y:=Int
abbrev bg.X:=Int
def bg.out:bg.X→aT:=fun x=>⟨.d ti x,[],[]⟩
def bg.add:bg.D→bg.Y→bg.X:=fun sv y=>y
def bg.L0.aq:bg.L0.D→Prop:=fun(l,n,i)=>yB l∧l.length≤1000000000∧n=l.length∧∃k:Nat,k≤l.length∧i=k
def bg.L0.F:bg.L0.D→bg.L0.Y:=fun(l,n,i)=>mh (l.drop i.toNat) i
def bg.aq:bg.D→Prop:=fun l=>yB l∧l.length≤1000000000
def bg.F:bg.D→bg.Y:=fun l=>BD l
noncomputable def bg.G:dU:=eZ (P:=Tryz.prog) [fT.sg]
noncomputable def bg.L0.E:=cf.cD bg.L0.st bg.L0.aq bg.L0.add bg.L0.F bg.L0.out
noncomputable def bg.L0.call:bg.L0.D→Option bg.L0.X:=dL bg.L0.E bg.L0.st
noncomputable def bg.an:eu:= {loops:=ki [(2,{bu:=[0,1,7,8]})],outs:=kh [(2,{},{bu:=[4]})],gq:=lv [(2,bg.L0.E)]}
noncomputable def bg.A:= @cq Tryz.prog bg.G bg.an 0 Tryz.f77 _ bg.st
abbrev bg.Ok:=cr @bg.A bg.aq bg.add bg.F bg.out
noncomputable def bg.L0.R:= @cM Tryz.prog bg.G bg.an 0 Tryz.f77 0 _ bg.L0.st
abbrev bg.L0.Ok:=fk Tryz.prog bg.G bg.an 0 Tryz.f77 0 bg.L0.st bg.L0.aq bg.L0.add bg.L0.F bg.L0.out
theorem bg.L0.run:bD bg.L0.call bg.L0.aq bg.L0.add bg.L0.F:=fy (fx [.d tU,.d ti,.d ti] fun _=>by kernel_rfl)
theorem bg.L0.aE:pT @bg.L0.R bg.L0.st bg.L0.aq bg.L0.add bg.L0.F bg.L0.out bg.L0.Ok:=qo
theorem bg.L0.step{R:Type}(sv_2:Bs)(t7:Int)(t8:Int)(kn:AS→Option R)(kx:Exit→AS→Option R):bg.L0.R (sv_2,t7,t8) kn kx=
  aD ((gM t8 t7)) (
   aD (dZ t8 (((List.length sv_2):Nat):Int)) (
   ab (fT.call (nth tu sv_2 (Int.toNat t8))) fun x1=>
   aD (x1) (
    kx (bg.L0.bK t8).1 (bg.L0.bK t8).2) (
    kn (bg.L0.st (sv_2,t7,(bo .i64 t8 (1:Int)))))) none) (
   kx (bg.L0.iW ()).1 (bg.L0.iW ()).2):=by kernel_rfl
theorem bg.eq{R:Type}(sv:Bs)(k:aT→Option R):bg.A sv k=
  ab (bg.L0.call (sv,(((List.length sv):Nat):Int),(0:Int))) fun x2=>
  aD (x2.isLeft) (
   ab (x2.getLeft?) fun a3=>
   k (bg.out a3)) (
   ab (x2.getRight?) fun b4=>
   k (bg.out (-1:Int))):=by kernel_rfl
theorem bg.L0.ok:bg.L0.Ok:=by
 refine bg.L0.aE (fun(l,n,i)=>l.length - i.toNat) ?_
 rintro⟨l,n,i⟩ ⟨hl,hb,rfl,k,hk,rfl⟩
 have hb:l.length≤1000000000:=hb
 have hk:k≤l.length:=hk
 by_cases h:k < l.length
 ·have hx:=hl _ (List.getElem_mem h)
  have n1:nth (.int .u64) l k=l[k]:=dS (t:= .int .u64) h
  have hd:mh (l.drop k) k=if lq l[k] then mh (l.drop (k+1)) ((k+1:Nat):Int) else .inl (k:Int):=by rw[List.drop_eq_getElem_cons h];rfl
  cases hp:lq l[k]
  ·right
   refine⟨bg.L0.bK (k:Int),?_,fun kn kx=> ?_⟩
   ·simp only[bg.L0.add,bg.L0.F,Int.toNat_natCast,hd,hp,Bool.false_eq_true,if_false]
    rfl
   ·rw[bg.L0.step]
    simp(disch:=omega) only[↓S1,↓if_pos,↓if_neg,if_pos,if_neg,if_true,if_false,S2,n1]
    rw[fT.run (d:=l[k]) hx]
    simp only[aa,fT.add,fT.F,hp,Bool.not_false,ah]
  ·left
   refine⟨(l,l.length,((k+1:Nat):Int)),⟨hl,hb,rfl,k+1,by omega,rfl⟩,by simp only[Int.toNat_natCast];omega,?_,fun kn kx=> ?_⟩
   ·simp only[bg.L0.add,bg.L0.F,Int.toNat_natCast,hd,hp,if_true]
   ·rw[bg.L0.step]
    simp(disch:=omega) only[↓S1,↓if_pos,↓if_neg,if_pos,if_neg,if_true,if_false,S2,n1]
    rw[fT.run (d:=l[k]) hx]
    simp only[aa,fT.add,fT.F,hp,Bool.not_true,ae]
 ·right
  obtain rfl:k=l.length:=by omega
  refine⟨bg.L0.iW (),?_,fun kn kx=> ?_⟩
  ·simp only[bg.L0.add,bg.L0.F,Int.toNat_natCast,List.drop_length]
   rfl
  ·rw[bg.L0.step]
   simp(disch:=omega) only[↓S1,↓if_pos,↓if_neg,if_pos,if_neg,if_true,if_false,S2]
theorem bg.ok:bg.Ok:=by
 rintro l ⟨hl,hb⟩
 rw[bg.eq,bg.L0.run (d:=(l,l.length,0)) ⟨hl,hb,rfl,0,by omega,rfl⟩]
 simp only[aa,bg.L0.add,bg.L0.F,Int.toNat_zero,List.drop_zero,bg.add,bg.F,BD]
 cases mh l 0 <;> rfl
noncomputable def bg.E:=Entry.cD [some tU,none] bg.st bg.aq bg.add bg.F bg.out
noncomputable def bg.call:bg.D→Option bg.X:=bC bg.E bg.st
theorem bg.run:bD bg.call bg.aq bg.add bg.F:=cw (cv [.d tU] fun _=>by kernel_rfl)
noncomputable def bg.sg:SG Tryz.prog:=⟨77,aK,bg.E,.fn 1 (by kernel_rfl) bg.ok (And.intro (.cD bg.L0.ok (by kernel_rfl)) trivial)⟩
abbrev bX.D:=Bs
def bX.st:bX.D→SA:=fun sv=>([.d tU sv,.fn 33 (.nil)],[])
abbrev bX.Y:=Bool
abbrev bX.X:=Bool
def bX.out:bX.X→aT:=fun x=>⟨.d .bool x,[],[]⟩
def bX.add:bX.D→bX.Y→bX.X:=fun sv y=>y
def bX.aq:bX.D→Prop:=fun l=>yB l∧l.length≤1000000000
def bX.F:bX.D→bX.Y:=fun l=> !(l.all lq)
noncomputable def bX.G:dU:=eZ (P:=Tryz.prog) [bg.sg]
noncomputable def bX.an:eu:= {}
noncomputable def bX.A:= @cq Tryz.prog bX.G bX.an 0 Tryz.f35 _ bX.st
abbrev bX.Ok:=cr @bX.A bX.aq bX.add bX.F bX.out
theorem bX.eq{R:Type}(sv:Bs)(k:aT→Option R):bX.A sv k=
 ab (bg.call sv) fun x1=>
 k (bX.out (lk x1 (0:Int))):=by kernel_rfl
theorem bX.ok:bX.Ok:=by
 rintro l ⟨hl,hb⟩
 rw[bX.eq,bg.run (d:=l) ⟨hl,hb⟩]
 simp only[aa,bg.add,bg.F,Cv]
 rfl
noncomputable def bX.E:=Entry.cD [some tU,none] bX.st bX.aq bX.add bX.F bX.out
noncomputable def bX.call:bX.D→Option bX.X:=bC bX.E bX.st
theorem bX.run:bD bX.call bX.aq bX.add bX.F:=cw (cv [.d tU] fun _=>by kernel_rfl)
noncomputable def bX.sg:SG Tryz.prog:=⟨35,aK,bX.E,.fn 0 (by kernel_rfl) bX.ok trivial⟩
abbrev cI.D:=Int
def cI.st:cI.D→SA:=fun n=>([.d ti n],[])
abbrev cI.Y:=Bool
abbrev cI.X:=Bool
def cI.out:cI.X→aT:=fun x=>⟨.d .bool x,[],[]⟩
def cI.add:cI.D→cI.Y→cI.X:=fun n y=>y
def cI.aq:cI.D→Prop:=fun _=>True
def cI.F:cI.D→cI.Y:=fun n=>xI n
noncomputable def cI.G:dU:=eZ (P:=Tryz.prog) []
noncomputable def cI.an:eu:= {}
noncomputable def cI.A:= @cq Tryz.prog cI.G cI.an 0 Tryz.f36 _ cI.st
abbrev cI.Ok:=cr @cI.A cI.aq cI.add cI.F cI.out
theorem cI.eq{R:Type}(n:Int)(k:aT→Option R):cI.A n k=
  aD ((lk n (0:Int))) (
   k (cI.out (yz n (1048576:Int)))) (
   k (cI.out false)):=by kernel_rfl
theorem cI.ok:cI.Ok:=by
 intro n _
 rw[cI.eq]
 simp only[cI.add,cI.F,xI]
 by_cases h:0≤n
 ·rw[ij h,ah]
  by_cases h2:n≤1048576
  ·rw[pa h2,aL ⟨h,h2⟩]
  ·rw[kV h2,bN (fun x=>h2 x.2)]
 ·rw[fR h,ae,bN (fun x=>h x.1)]
noncomputable def cI.E:=Entry.cD [some ti] cI.st cI.aq cI.add cI.F cI.out
noncomputable def cI.call:cI.D→Option cI.X:=bC cI.E cI.st
theorem cI.run:bD cI.call cI.aq cI.add cI.F:=cw (cv [.d ti] fun _=>by kernel_rfl)
noncomputable def cI.sg:SG Tryz.prog:=⟨36,aK,cI.E,.fn 0 (by kernel_rfl) cI.ok trivial⟩
set_option synthInstance.maxSize 5000
abbrev aS.L0.D:=Lk×(List oK)×Int×Int
def aS.L0.st:aS.L0.D→AS:=fun(l_2,t7,t8,t9)=>⟨([.undef,.fj nS l_2,.undef,.fn 33 (.nil),.undef,.undef,.undef,.d (.slice pR) t7,.d ti t8,.d ti t9]++bw 47 []),[],(List.replicate 57 [])⟩
abbrev aS.L0.Y0:=Unit
abbrev aS.L0.X0:=Unit
def aS.L0.bK:aS.L0.X0→Exit×AS:=fun x=>(.ret,⟨([.undef,.undef,.d .bool false]++bw 54 []),[],(List.replicate 57 [])⟩)
abbrev aS.L0.Y1:=Unit
abbrev aS.L0.X1:=Lk
def aS.L0.iW:aS.L0.X1→Exit×AS:=fun x=>(.exit 0,⟨([.undef,.fj nS x]++bw 55 []),[],(List.replicate 57 [])⟩)
abbrev aS.L0.X:=(aS.L0.X0)⊕(aS.L0.X1)
abbrev aS.L0.Y:=(aS.L0.Y0)⊕(aS.L0.Y1)
def aS.L0.out:aS.L0.X→Out (Exit×AS):=fun x=> .br x.isLeft (.get x.getLeft? fun a=> .ok (aS.L0.bK a)) (.get x.getRight? fun b=> .ok (aS.L0.iW b))
def aS.L0.add:aS.L0.D→aS.L0.Y→aS.L0.X:=fun(l_2,t7,t8,t9) y=>match y with | .inl y=> .inl y | .inr z=> .inr (l_2)
abbrev aS.D:=Lk
def aS.st:aS.D→SA:=fun l=>([.d nS l],[])
abbrev aS.Y:=Bool
abbrev aS.X:=Bool
def aS.out:aS.X→aT:=fun x=>⟨.d .bool x,[],[]⟩
def aS.add:aS.D→aS.Y→aS.X:=fun l y=>y
def aS.L0.aq:aS.L0.D→Prop:=fun(l,bs,n,i)=>(∀b∈bs,HL b)∧bs.length≤9223372036854775807∧n=bs.length∧∃k:Nat,k≤bs.length∧i=k
def aS.L0.F:aS.L0.D→aS.L0.Y:=fun(l,bs,n,i)=>if(bs.drop i.toNat).all nj then .inr () else .inl ()
def aS.aq:aS.D→Prop:=fun l=>GB l∧l.1.length≤9223372036854775807
def aS.F:aS.D→aS.Y:=fun l=>jz l
noncomputable def aS.G:dU:=eZ (P:=Tryz.prog) [bX.sg,cI.sg,fT.sg]
noncomputable def aS.L0.E:=cf.cD aS.L0.st aS.L0.aq aS.L0.add aS.L0.F aS.L0.out
noncomputable def aS.L0.call:aS.L0.D→Option aS.L0.X:=dL aS.L0.E aS.L0.st
noncomputable def aS.an:eu:= {loops:=ki [(3,{bu:=[1,3,7,8,9]})],outs:=kh [(3,{bu:=[1]},{bu:=[2]})],gq:=lv [(3,aS.L0.E)]}
noncomputable def aS.A:= @cq Tryz.prog aS.G aS.an 0 Tryz.f11 _ aS.st
abbrev aS.Ok:=cr @aS.A aS.aq aS.add aS.F aS.out
noncomputable def aS.L0.R:= @cM Tryz.prog aS.G aS.an 0 Tryz.f11 0 _ aS.L0.st
abbrev aS.L0.Ok:=fk Tryz.prog aS.G aS.an 0 Tryz.f11 0 aS.L0.st aS.L0.aq aS.L0.add aS.L0.F aS.L0.out
theorem aS.L0.run:bD aS.L0.call aS.L0.aq aS.L0.add aS.L0.F:=fy (fx [.d nS,.d (.slice pR),.d ti,.d ti] fun _=>by kernel_rfl)
theorem aS.L0.aE:pT @aS.L0.R aS.L0.st aS.L0.aq aS.L0.add aS.L0.F aS.L0.out aS.L0.Ok:=qo
theorem aS.L0.step{R:Type}(l_2:Lk)(t7:(List oK))(t8:Int)(t9:Int)(kn:AS→Option R)(kx:Exit→AS→Option R):aS.L0.R (l_2,t7,t8,t9) kn kx=
  aD ((gM t9 t8)) (
   aD (dZ t9 (((List.length t7):Nat):Int)) (
   aD ((mX (((List.length (nth pR t7 (Int.toNat t9)).1):Nat):Int) (12:Int))) (
    kx (aS.L0.bK ()).1 (aS.L0.bK ()).2) (
    ab (bX.call (nth pR t7 (Int.toNat t9)).1) fun x1=>
    aD (x1) (
     kx (aS.L0.bK ()).1 (aS.L0.bK ()).2) (
     ab (cI.call (nth pR t7 (Int.toNat t9)).2.1) fun x2=>
     aD ((!x2)) (
      kx (aS.L0.bK ()).1 (aS.L0.bK ()).2) (
      ab (cI.call (nth pR t7 (Int.toNat t9)).2.2.1) fun x3=>
      aD ((!x3)) (
       kx (aS.L0.bK ()).1 (aS.L0.bK ()).2) (
       aD ((qQ (nth pR t7 (Int.toNat t9)).2.2.2.1 (0:Int))) (
        ab (fT.call (nth pR t7 (Int.toNat t9)).2.2.2.1) fun x4=>
        aD (x4) (
         kx (aS.L0.bK ()).1 (aS.L0.bK ()).2) (
         kn (aS.L0.st (l_2,t7,t8,(bo .i64 t9 (1:Int)))))) (
        kn (aS.L0.st (l_2,t7,t8,(bo .i64 t9 (1:Int)))))))))) none) (
   kx (aS.L0.iW l_2).1 (aS.L0.iW l_2).2):=by kernel_rfl
theorem aS.eq{R:Type}(l:Lk)(k:aT→Option R):aS.A l k=
  ab (aS.L0.call (l,l.1,(((List.length l.1):Nat):Int),(0:Int))) fun x5=>
  aD (x5.isLeft) (
   ab (x5.getLeft?) fun a6=>
   k (aS.out false)) (
   ab (x5.getRight?) fun b7=>
   aD ((mX (((List.length b7.1):Nat):Int) (0:Int))) (
    k (aS.out (yz (((List.length b7.1):Nat):Int) (4:Int)))) (
    k (aS.out false))):=by kernel_rfl
theorem aS.L0.ok:aS.L0.Ok:=by
 refine aS.L0.aE (fun(l,bs,n,i)=>bs.length - i.toNat) ?_
 rintro⟨l,bs,n,i⟩ ⟨hl,hb,rfl,k,hk,rfl⟩
 have hb:bs.length≤9223372036854775807:=hb
 have hk:k≤bs.length:=hk
 by_cases h:k < bs.length
 ·have hx:HL bs[k]:=hl _ (List.getElem_mem h)
  have n1:nth (.pair (.slice (.int .u64)) (.pair (.int .i64) (.pair (.int .i64) (.pair (.int .u64) .unit)))) bs k=bs[k]:=dS (t:=(.pair (.slice (.int .u64)) (.pair (.int .i64) (.pair (.int .i64) (.pair (.int .u64) .unit))))) h
  have hd:(bs.drop k).all nj=(nj bs[k] && (bs.drop (k+1)).all nj):=by rw[List.drop_eq_getElem_cons h,List.all_cons]
  have step:∀ {R:Type} (kn:AS→Option R) (kx:Exit→AS→Option R),aS.L0.R (l,bs,(bs.length:Int),(k:Int)) kn kx=aD (nj bs[k]) (kn (aS.L0.st (l,bs,(bs.length:Int),((k+1:Nat):Int)))) (kx (aS.L0.bK ()).1 (aS.L0.bK ()).2):=by
   intro R kn kx
   rw[aS.L0.step,bB (by omega),bz (by omega) (by omega),Int.toNat_natCast,n1,N.mq (by omega)]
   obtain⟨⟨ks,af,dl,sc,u⟩,hbk⟩:∃b,bs[k]=b:=⟨_,rfl⟩
   rw[hbk]at hx ⊢
   have h1:yB ks:=hx.1
   have h2:fo sc:=hx.2
   simp only[ah,nj]
   by_cases hk:ks.length≤12
   ·rw[dj (by omega),bX.run (d:=ks) ⟨h1,by omega⟩,cI.run (d:=af) trivial,cI.run (d:=dl) trivial,fT.run (d:=sc) h2,aL hk]
    simp only[ae,aa,bX.add,bX.F,cI.add,cI.F,fT.add,fT.F,Bool.true_and]
    cases ks.all lq
    ·rfl
    cases xI af
    ·rfl
    cases xI dl
    ·rfl
    by_cases hs:sc=0
    ·rw[gO hs,aL hs];rfl
    ·rw[iM hs,bN hs]
     cases lq sc <;> rfl
   ·rw[ee (by omega),bN hk];rfl
  cases hp:nj bs[k]
  ·right
   refine⟨aS.L0.bK (),?_,fun kn kx=> ?_⟩
   ·simp only[aS.L0.add,aS.L0.F,Int.toNat_natCast,hd,hp,Bool.false_and,Bool.false_eq_true,if_false]
    rfl
   ·rw[step,hp,ae]
  ·left
   refine⟨(l,bs,bs.length,((k+1:Nat):Int)),⟨hl,hb,rfl,k+1,by omega,rfl⟩,by simp only[Int.toNat_natCast];omega,?_,fun kn kx=> ?_⟩
   ·simp only[aS.L0.add,aS.L0.F,Int.toNat_natCast,hd,hp,Bool.true_and]
   ·rw[step,hp,ah]
 ·right
  obtain rfl:k=bs.length:=by omega
  refine⟨aS.L0.iW l,?_,fun kn kx=> ?_⟩
  ·simp only[aS.L0.add,aS.L0.F,Int.toNat_natCast,List.drop_length]
   rfl
  ·rw[aS.L0.step]
   simp(disch:=omega) only[↓S1,↓if_pos,↓if_neg,if_pos,if_neg,if_true,if_false,S2]
theorem aS.ok:aS.Ok:=by
 rintro l ⟨hl,hb⟩
 have hb:l.1.length≤9223372036854775807:=hb
 rw[aS.eq,aS.L0.run (d:=(l,l.1,l.1.length,0)) ⟨hl,hb,rfl,0,by omega,rfl⟩]
 simp only[aa,aS.L0.add,aS.L0.F,Int.toNat_zero,List.drop_zero,aS.add,aS.F,jz]
 cases l.1.all nj
 ·rfl
 ·simp only[if_true,Bool.true_and]
  show aD (mX _ _) _ _=_
  by_cases h0:0 < l.1.length
  ·rw[ee (by omega)]
   by_cases h4:l.1.length≤4
   ·rw[pa (by omega),aL ⟨h0,h4⟩];rfl
   ·rw[kV (by omega),bN (fun x=>h4 x.2)];rfl
  ·rw[dj (by omega),bN (fun x=>h0 x.1)];rfl
noncomputable def aS.E:=Entry.cD [some nS] aS.st aS.aq aS.add aS.F aS.out
noncomputable def aS.call:aS.D→Option aS.X:=bC aS.E aS.st
theorem aS.run:bD aS.call aS.aq aS.add aS.F:=cw (cv [.d nS] fun _=>by kernel_rfl)
noncomputable def aS.sg:SG Tryz.prog:=⟨11,aK,aS.E,.fn 1 (by kernel_rfl) aS.ok (And.intro (.cD aS.L0.ok (by kernel_rfl)) trivial)⟩
def GD(w:At):Prop:=(∀s∈w.2.1,Je s)∧fo w.2.2.1
set_option synthInstance.maxSize 5000
abbrev eO.D:=Int
def eO.st:eO.D→SA:=fun n=>([.dQ,.d ti n],[])
abbrev eO.Y:=Nat×(List Int)
abbrev eO.X:=Nat×(List Int)
def eO.out:eO.X→aT:=fun x=>⟨.cT (.new 0 0) 0 [] 0 0 x.1,[],[.obj 0 false (.vec 5 tb x.2)]⟩
def eO.add:eO.D→eO.Y→eO.X:=fun n y=>y
def eO.aq:eO.D→Prop:=fun n=>∃k:Nat,n=k∧k≤100000000
def eO.F:eO.D→eO.Y:=fun n=>(0,List.replicate n.toNat 0)
noncomputable def eO.G:dU:=eZ (P:=Tryz.prog) []
noncomputable def eO.an:eu:= {j6:=[⟨4,[],22,135⟩]}
noncomputable def eO.A:= @cq Tryz.prog eO.G eO.an 0 Tryz.f176 _ eO.st
abbrev eO.Ok:=cr @eO.A eO.aq eO.add eO.F eO.out
theorem eO.eq{R:Type}(n:Int)(k:aT→Option R):eO.A n k=
  aD ((gM n (0:Int))) (
   none) (
   aD ((mX (bV .i64 n (0:Int)) (0:Int))) (
    aD (decide (0 < (bV .i64 n (0:Int))) && dK (Int.toNat (bV .i64 n (0:Int))) 1) (
    aD (inc (0:Int) (((Int.toNat (bV .i64 n (0:Int))):Nat):Int)) (
    k (eO.out (0,(List.replicate (Int.toNat (bV .i64 n (0:Int))) (0:Int))))) none) none) (
    k (eO.out (0,([]:List Int))))):=by kernel_rfl
theorem eO.ok:eO.Ok:=by
 rintro n ⟨k,rfl,hk⟩
 have e:bV .i64 (k:Int) 0=(k:Int):=by rw[fi (by omega) (by omega)];omega
 rw[eO.eq,e,bk (by omega),ae]
 by_cases h:0 < k
 ·rw[ee (by omega),Int.toNat_natCast,aL (by omega),eR (by omega) (by omega),ko (by omega) (by omega)]
  rfl
 ·obtain rfl:k=0:=by omega
  rfl
noncomputable def eO.E:=Entry.cD [none,some ti] eO.st eO.aq eO.add eO.F eO.out
noncomputable def eO.call:eO.D→Option eO.X:=bC eO.E eO.st
theorem eO.run:bD eO.call eO.aq eO.add eO.F:=cw (cv [.d ti] fun _=>by kernel_rfl)
noncomputable def eO.sg:SG Tryz.prog:=⟨176,aK,eO.E,.fn 0 (by kernel_rfl) eO.ok trivial⟩
def kr(l:List (List Int)):Nat:=l.flatten.length
def vQ(n:Nat)(l:List Int):List (List Int)→Nat×List Int
 |[]=>(n,l)
 |s::r=>(n+(s::r).flatten.length,l.take n++(s::r).flatten)
theorem CE(n:Nat)(l s:List Int)(r:List (List Int))(h:n≤l.length):vQ n l (s::r)=vQ (n+s.length) (l.take n++s) r:=by
 have hl:(l.take n++s).length=n+s.length:=by rw[List.length_append,List.length_take];omega
 cases r with
 |nil=>simp[vQ]
 |cons t r=>
  simp only[vQ]
  rw[List.take_of_length_le (Nat.le_of_eq hl)]
  simp only[List.flatten_cons,List.length_append,List.append_assoc,Nat.add_assoc]
theorem Fy(n:Nat)(z:List Int)(r:List (List Int)):(vQ 0 z r).1≤(vQ 0 z r).2.length∧cut (vQ 0 z r).2 0 (vQ 0 z r).1=r.flatten:=by
 cases r with
 |nil=>exact⟨Nat.zero_le _,rfl⟩
 |cons s r=>
  simp only[vQ,List.take_zero,List.nil_append,Nat.zero_add]
  exact⟨Nat.le_refl _,by show List.take _ (List.drop 0 _)=_;rw[List.drop_zero,List.take_length]⟩
abbrev av.L0.D:=(List Bs)×Int×(List Bs)×Int×Int
def av.L0.st:av.L0.D→AS:=fun(slices_2,size,t9,t10,t11)=>⟨([.d (.slice tB) slices_2,.undef,.undef,.d ti size]++bw 5 ([.d (.slice tB) t9,.d ti t10,.d ti t11]++bw 24 [])),[],(List.replicate 36 [])⟩
abbrev av.L0.Y0:=Int
abbrev av.L0.X0:=((List Bs))×(Int)
def av.L0.bK:av.L0.X0→Exit×AS:=fun x=>(.exit 0,⟨([.d (.slice tB) x.1,.undef,.undef,.d ti x.2]++bw 32 []),[],(List.replicate 36 [])⟩)
abbrev av.L0.X:=av.L0.X0
abbrev av.L0.Y:=av.L0.Y0
def av.L0.out:av.L0.X→Out (Exit×AS):=fun x=> .ok (av.L0.bK x)
def av.L0.add:av.L0.D→av.L0.Y→av.L0.X:=fun(slices_2,size,t9,t10,t11) y=>(slices_2,y)
abbrev av.L1.D:=Nat×(List Bs)×Int×Int×(List Int)
def av.L1.st:av.L1.D→AS:=fun(newsliceL,t25,t26,t27,n24)=>⟨(bw 6 ([.cT (.new 24 0) 0 [] 0 0 newsliceL]++bw 18 ([.d (.slice tB) t25,.d ti t26,.d ti t27]++bw 8 []))),[],(cC 24 ([[.obj 0 false (.vec 5 tb n24)]]++cC 11 []))⟩
abbrev av.L1.Y0:=Nat×(List Int)
abbrev av.L1.X0:=Nat×(List Int)
def av.L1.bK:av.L1.X0→Exit×AS:=fun x=>(.exit 2,⟨(bw 6 ([.cT (.new 24 0) 0 [] 0 0 x.1]++bw 29 [])),[],(cC 24 ([[.obj 0 false (.vec 5 tb x.2)]]++cC 11 []))⟩)
abbrev av.L1.X:=av.L1.X0
abbrev av.L1.Y:=av.L1.Y0
def av.L1.out:av.L1.X→Out (Exit×AS):=fun x=> .ok (av.L1.bK x)
def av.L1.add:av.L1.D→av.L1.Y→av.L1.X:=fun(newsliceL,t25,t26,t27,n24) y=>y
abbrev av.D:=(List Bs)
def av.st:av.D→SA:=fun slices=>([.d (.slice tB) slices],[])
abbrev av.Y:=Bs
abbrev av.X:=Bs
def av.out:av.X→aT:=fun x=>⟨.d tB x,[],[]⟩
def av.add:av.D→av.Y→av.X:=fun slices y=>y
def av.L0.aq:av.L0.D→Prop:=fun(s,size,t,n,i)=>s.length≤1000000∧t=s∧n=s.length∧∃k z:Nat,k≤s.length∧i=k∧size=z∧z+kr (s.drop k)≤100000000
def av.L0.F:av.L0.D→av.L0.Y:=fun(s,size,t,n,i)=>((size:Int)+((kr (s.drop i.toNat):Nat):Int):Int)
def av.L1.aq:av.L1.D→Prop:=fun(n,s,t,i,l)=>s.length≤1000000∧n≤l.length∧t=s.length∧∃k:Nat,k≤s.length∧i=k∧n+kr (s.drop k)≤100000000
def av.L1.F:av.L1.D→av.L1.Y:=fun(n,s,t,i,l)=>vQ n l (s.drop i.toNat)
def av.aq:av.D→Prop:=fun s=>s.length≤1000000∧kr s≤100000000
def av.F:av.D→av.Y:=fun s=>s.flatten
noncomputable def av.G:dU:=eZ (P:=Tryz.prog) [eO.sg]
noncomputable def av.L0.E:=cf.cD av.L0.st av.L0.aq av.L0.add av.L0.F av.L0.out
noncomputable def av.L0.call:av.L0.D→Option av.L0.X:=dL av.L0.E av.L0.st
noncomputable def av.L1.E:=cf.cD av.L1.st av.L1.aq av.L1.add av.L1.F av.L1.out
noncomputable def av.L1.call:av.L1.D→Option av.L1.X:=dL av.L1.E av.L1.st
noncomputable def av.an:eu:= {loops:=ki [(3,{bu:=[0,3,9,10,11]}),(11,{bu:=[6,25,26,27],sites:=[24],j6:=[⟨6,[],24,135⟩]})],outs:=kh [(3,{bu:=[0,3]},{bu:=[2]}),(11,{bu:=[6],sites:=[24]},{bu:=[2]})],gq:=lv [(3,av.L0.E),(11,av.L1.E)],res:=[some tB]}
noncomputable def av.A:= @cq Tryz.prog av.G av.an 0 Tryz.f151 _ av.st
abbrev av.Ok:=cr @av.A av.aq av.add av.F av.out
noncomputable def av.L0.R:= @cM Tryz.prog av.G av.an 0 Tryz.f151 0 _ av.L0.st
abbrev av.L0.Ok:=fk Tryz.prog av.G av.an 0 Tryz.f151 0 av.L0.st av.L0.aq av.L0.add av.L0.F av.L0.out
noncomputable def av.L1.R:= @cM Tryz.prog av.G av.an 0 Tryz.f151 1 _ av.L1.st
abbrev av.L1.Ok:=fk Tryz.prog av.G av.an 0 Tryz.f151 1 av.L1.st av.L1.aq av.L1.add av.L1.F av.L1.out
theorem av.L0.run:bD av.L0.call av.L0.aq av.L0.add av.L0.F:=fy (fx [.d (.slice tB),.d ti,.d (.slice tB),.d ti,.d ti] fun _=>by kernel_rfl)
theorem av.L0.aE:fY @av.L0.R av.L0.st av.L0.aq av.L0.add av.L0.F av.L0.bK av.L0.Ok:=gj
theorem av.L0.step{R:Type}(slices_2:(List Bs))(size:Int)(t9:(List Bs))(t10:Int)(t11:Int)(kn:AS→Option R)(kx:Exit→AS→Option R):av.L0.R (slices_2,size,t9,t10,t11) kn kx=
  aD ((gM t11 t10)) (
   aD (dZ t11 (((List.length t9):Nat):Int)) (
   aD ((gM (bo .i64 size (((List.length (nth tB t9 (Int.toNat t11))):Nat):Int)) (0:Int))) (
    none) (
    kn (av.L0.st (slices_2,(bo .i64 size (((List.length (nth tB t9 (Int.toNat t11))):Nat):Int)),t9,t10,(bo .i64 t11 (1:Int)))))) none) (
   kx (av.L0.bK (slices_2,size)).1 (av.L0.bK (slices_2,size)).2):=by kernel_rfl
theorem av.L1.run:bD av.L1.call av.L1.aq av.L1.add av.L1.F:=fy (fx [.n,.d (.slice tB),.d ti,.d ti,.d tB] fun _=>by kernel_rfl)
theorem av.L1.aE:fY @av.L1.R av.L1.st av.L1.aq av.L1.add av.L1.F av.L1.bK av.L1.Ok:=gj
theorem av.L1.step{R:Type}(newsliceL:Nat)(t25:(List Bs))(t26:Int)(t27:Int)(n24:(List Int))(kn:AS→Option R)(kx:Exit→AS→Option R):av.L1.R (newsliceL,t25,t26,t27,n24) kn kx=
  aD ((gM t27 t26)) (
   aD (dZ t27 (((List.length t25):Nat):Int)) (
   aD (decide (newsliceL≤(List.length n24))) (
   aD (dK (newsliceL+(List.length (nth tB t25 (Int.toNat t27)))) 1) (
   kn (av.L1.st ((newsliceL+(List.length (nth tB t25 (Int.toNat t27)))),t25,t26,(bo .i64 t27 (1:Int)),((List.take newsliceL n24)++(nth tB t25 (Int.toNat t27)))))) none) none) none) (
   kx (av.L1.bK (newsliceL,n24)).1 (av.L1.bK (newsliceL,n24)).2):=by kernel_rfl
theorem av.eq{R:Type}(slices:(List Bs))(k:aT→Option R):av.A slices k=
 ab (av.L0.call (slices,(0:Int),slices,(((List.length slices):Nat):Int),(0:Int))) fun x1=>
 ab (eO.call x1.2) fun x2=>
 ab (av.L1.call (x2.1,x1.1,(((List.length x1.1):Nat):Int),(0:Int),x2.2)) fun x3=>
 aD (decide (0=0∧(0+x3.1)≤(List.length x3.2))) (
 k (av.out (cut x3.2 0 x3.1))) none:=by kernel_rfl
theorem B0(s:List (List Int))(k:Nat)(h:k < s.length):kr (s.drop k)=s[k].length+kr (s.drop (k+1)):=by
 unfold kr
 rw[List.drop_eq_getElem_cons h,List.flatten_cons,List.length_append]
theorem av.L0.ok:av.L0.Ok:=by
 refine av.L0.aE (fun(s,size,t,n,i)=>s.length - i.toNat) ?_
 rintro⟨s,size,t,n,i⟩ ⟨hs,rfl,rfl,k,z,hk,rfl,rfl,hz⟩
 have hs:t.length≤1000000:=hs
 have hk:k≤t.length:=hk
 have hz:z+kr (t.drop k)≤100000000:=hz
 by_cases h:k < t.length
 ·left
  have n1:nth (.slice (.int .u8)) t k=t[k]:=dS (t:= .slice (.int .u8)) h
  have hd:=B0 t k h
  refine⟨(t,((z+t[k].length:Nat):Int),t,t.length,((k+1:Nat):Int)),⟨hs,rfl,rfl,k+1,z+t[k].length,by omega,rfl,rfl,by omega⟩,by simp only[Int.toNat_natCast];omega,?_,fun kn kx=> ?_⟩
  ·simp only[av.L0.add,av.L0.F,Int.toNat_natCast]
   rw[hd]
   refine congrArg _ ?_
   omega
  ·rw[av.L0.step]
   simp(disch:=omega) only[↓S1,↓if_pos,↓if_neg,if_pos,if_neg,if_true,if_false,S2,n1]
 ·right
  obtain rfl:k=t.length:=by omega
  intro R kn kx
  rw[av.L0.step]
  simp(disch:=omega) only[↓S1,↓if_pos,↓if_neg,if_pos,if_neg,if_true,if_false,S2,av.L0.add,av.L0.F,List.drop_length]
  simp only[kr,List.flatten_nil,List.length_nil,Int.natCast_zero,Int.add_zero]
theorem av.L1.ok:av.L1.Ok:=by
 refine av.L1.aE (fun(n,s,t,i,l)=>s.length - i.toNat) ?_
 rintro⟨n,s,t,i,l⟩ ⟨hs,hn,rfl,k,hk,rfl,hz⟩
 have hs:s.length≤1000000:=hs
 have hn:n≤l.length:=hn
 have hk:k≤s.length:=hk
 have hz:n+kr (s.drop k)≤100000000:=hz
 by_cases h:k < s.length
 ·left
  have n1:nth (.slice (.int .u8)) s k=s[k]:=dS (t:= .slice (.int .u8)) h
  have hd:=B0 s k h
  refine⟨(n+s[k].length,s,s.length,((k+1:Nat):Int),l.take n++s[k]),⟨hs,by rw[List.length_append,List.length_take];omega,rfl,k+1,by omega,rfl,by omega⟩,by simp only[Int.toNat_natCast];omega,?_,fun kn kx=> ?_⟩
  ·simp only[av.L1.add,av.L1.F,Int.toNat_natCast]
   rw[List.drop_eq_getElem_cons h,CE _ _ _ _ hn]
  ·rw[av.L1.step]
   simp(disch:=omega) only[↓S1,↓if_pos,↓if_neg,if_pos,if_neg,if_true,if_false,S2,n1]
 ·right
  obtain rfl:k=s.length:=by omega
  intro R kn kx
  rw[av.L1.step]
  simp(disch:=omega) only[↓S1,↓if_pos,↓if_neg,if_pos,if_neg,if_true,if_false,S2,av.L1.add,av.L1.F,List.drop_length]
  rfl
theorem av.ok:av.Ok:=by
 rintro s ⟨hs,hz⟩
 have hs:s.length≤1000000:=hs
 have hz:kr s≤100000000:=hz
 have p1:av.L0.aq (s,0,s,s.length,0):=⟨hs,rfl,rfl,0,0,by omega,rfl,rfl,by rw[List.drop_zero];omega⟩
 have p2:av.L1.aq (0,s,s.length,0,List.replicate (kr s) 0):=⟨hs,by omega,rfl,0,by omega,rfl,by rw[List.drop_zero];omega⟩
 rw[av.eq,av.L0.run p1]
 simp only[aa,av.L0.add,av.L0.F,Int.toNat_zero,List.drop_zero,Int.zero_add]
 rw[eO.run (d:=((kr s:Nat):Int)) ⟨kr s,rfl,hz⟩]
 simp only[aa,eO.add,eO.F,Int.toNat_natCast]
 rw[av.L1.run p2]
 simp only[aa,av.L1.add,av.L1.F,Int.toNat_zero,List.drop_zero]
 obtain⟨c1,c2⟩:=Fy 0 (List.replicate (kr s) 0) s
 simp only[Nat.zero_add,c1,and_self,decide_true,ah,c2]
 rfl
noncomputable def av.E:=Entry.cD [some (.slice tB)] av.st av.aq av.add av.F av.out
noncomputable def av.call:av.D→Option av.X:=bC av.E av.st
theorem av.run:bD av.call av.aq av.add av.F:=cw (cv [.d (.slice tB)] fun _=>by kernel_rfl)
noncomputable def av.sg:SG Tryz.prog:=⟨151,aK,av.E,.fn 2 (by kernel_rfl) av.ok (And.intro (.cD av.L0.ok (by kernel_rfl)) (And.intro (.cD av.L1.ok (by kernel_rfl)) trivial))⟩
abbrev eb.D:=Bs×Bs
def eb.st:eb.D→SA:=fun(b,more)=>([.d tB b,.d tB more],[])
abbrev eb.Y:=Bs
abbrev eb.X:=Bs
def eb.out:eb.X→aT:=fun x=>⟨.d tB x,[],[]⟩
def eb.add:eb.D→eb.Y→eb.X:=fun(b,more) y=>y
def eb.aq:eb.D→Prop:=fun(a,b)=>a.length+b.length≤100000000
def eb.F:eb.D→eb.Y:=fun(a,b)=>a++b
noncomputable def eb.G:dU:=eZ (P:=Tryz.prog) [av.sg]
noncomputable def eb.an:eu:= {}
noncomputable def eb.A:= @cq Tryz.prog eb.G eb.an 0 Tryz.f149 _ eb.st
abbrev eb.Ok:=cr @eb.A eb.aq eb.add eb.F eb.out
theorem eb.eq{R:Type}(b:Bs)(more:Bs)(k:aT→Option R):eb.A (b,more) k=
 ab (av.call [b,more]) fun x1=>
 k (eb.out x1):=by kernel_rfl
theorem eb.ok:eb.Ok:=by
 rintro⟨a,b⟩ h
 have h:a.length+b.length≤100000000:=h
 rw[eb.eq,av.run (d:=[a,b]) ⟨by show [a,b].length≤_;simp,by show kr [a,b]≤_;simp only[kr,List.flatten_cons,List.flatten_nil,List.append_nil,List.length_append];omega⟩]
 simp only[aa,av.add,av.F,eb.add,eb.F,List.flatten_cons,List.flatten_nil,List.append_nil]
noncomputable def eb.E:=Entry.cD [some tB,some tB] eb.st eb.aq eb.add eb.F eb.out
noncomputable def eb.call:eb.D→Option eb.X:=bC eb.E eb.st
theorem eb.run:bD eb.call eb.aq eb.add eb.F:=cw (cv [.d tB,.d tB] fun _=>by kernel_rfl)
noncomputable def eb.sg:SG Tryz.prog:=⟨149,aK,eb.E,.fn 0 (by kernel_rfl) eb.ok trivial⟩
set_option synthInstance.maxSize 5000
def jB:Nat→Int→List Int×Int
 | 0,n=>([],n)
 |f+1,n=>if 128≤n then((n%128+128)::(jB f (n / 128)).1,(jB f (n / 128)).2) else([],n)
def vk(n:Int):List Int:=(jB 10 n).1++ [(jB 10 n).2]
theorem w8:∀(f g:Nat) (n:Int),n < 128^(f+1)→n < 128^(g+1)→jB f n=jB g n
 | 0,0,n,_,_=>rfl
 | 0,g+1,n,h,_=>by
  have h:n < 128:=h
  rw[jB,jB,if_neg (by omega)]
 |f+1,0,n,_,h=>by
  have h:n < 128:=h
  rw[jB,jB,if_neg (by omega)]
 |f+1,g+1,n,h,h'=>by
  rw[jB,jB]
  split
  ·have e:(128:Int)^(f+1+1)=128^(f+1)*128:=Int.pow_succ 128 (f+1)
   have e':(128:Int)^(g+1+1)=128^(g+1)*128:=Int.pow_succ 128 (g+1)
   rw[w8 f g (n / 128) (by omega) (by omega)]
  ·rfl
theorem vj:∀(f:Nat) (n:Int),(jB f n).1.length≤f
 | 0,_=>Nat.le_refl _
 |f+1,n=>by
  rw[jB]
  split
  ·have:=vj f (n / 128)
   simp only[List.length_cons];omega
  ·exact Nat.zero_le _
theorem w7:∀(f:Nat) (n:Int),0≤n→n < 128^(f+1)→0≤(jB f n).2∧(jB f n).2 < 128
 | 0,n,h,h'=>by have h':n < 128:=h';exact⟨h,h'⟩
 |f+1,n,h,h'=>by
  rw[jB]
  have e:(128:Int)^(f+1+1)=128^(f+1)*128:=Int.pow_succ 128 (f+1)
  split
  ·exact w7 f (n / 128) (by omega) (by omega)
  ·exact⟨h,by omega⟩
theorem De{n:Int}(h:128≤n)(h2:n≤9223372036854775807):jB 10 n=((n%128+128)::(jB 10 (n / 128)).1,(jB 10 (n / 128)).2):=by
 have e:(128:Int)^(9+1)=1180591620717411303424:=rfl
 have e2:(128:Int)^(10+1)=151115727451828646838272:=rfl
 rw[jB,if_pos h,w8 9 10 (n / 128) (by rw[e];omega) (by rw[e2];omega)]
theorem rI(n:Int):(vk n).length≤11:=by
 have:=vj 10 n
 unfold vk
 simp only[List.length_append,List.length_cons,List.length_nil];omega
def Dv(n:Int):Prop:=0≤n∧n≤9223372036854775807
abbrev cZ.L0.D:=Int×Nat×(List Int)
def cZ.L0.st:cZ.L0.D→AS:=fun(n_2,outL,n14)=>⟨([.d ti n_2,.undef,.undef,.cT (.new 14 0) 0 [] 0 0 outL]++bw 16 []),[],(cC 14 ([[.obj 0 false (.vec 5 tb n14)]]++cC 5 []))⟩
abbrev cZ.L0.Y0:=Int×Nat×(List Int)
abbrev cZ.L0.X0:=Int×Nat×(List Int)
def cZ.L0.bK:cZ.L0.X0→Exit×AS:=fun x=>(.exit 0,⟨([.d ti x.1,.undef,.undef,.cT (.new 14 0) 0 [] 0 0 x.2.1]++bw 16 []),[],(cC 14 ([[.obj 0 false (.vec 5 tb x.2.2)]]++cC 5 []))⟩)
abbrev cZ.L0.X:=cZ.L0.X0
abbrev cZ.L0.Y:=cZ.L0.Y0
def cZ.L0.out:cZ.L0.X→Out (Exit×AS):=fun x=> .ok (cZ.L0.bK x)
def cZ.L0.add:cZ.L0.D→cZ.L0.Y→cZ.L0.X:=fun(n_2,outL,n14) y=>y
abbrev cZ.D:=Int
def cZ.st:cZ.D→SA:=fun n=>([.d ti n],[])
abbrev cZ.Y:=Bs
abbrev cZ.X:=Bs
def cZ.out:cZ.X→aT:=fun x=>⟨.d tB x,[],[]⟩
def cZ.add:cZ.D→cZ.Y→cZ.X:=fun n y=>y
def cZ.L0.aq:cZ.L0.D→Prop:=fun(n,m,l)=>Dv n∧m=l.length∧l.length≤1000+0*n.toNat∧l.length+(jB 10 n).1.length≤100
def cZ.L0.F:cZ.L0.D→cZ.L0.Y:=fun(n,m,l)=>((jB 10 n).2,(l++(jB 10 n).1).length,l++(jB 10 n).1)
def cZ.aq:cZ.D→Prop:=fun n=>Dv n
def cZ.F:cZ.D→cZ.Y:=fun n=>vk n
noncomputable def cZ.G:dU:=eZ (P:=Tryz.prog) []
noncomputable def cZ.L0.E:=cf.cD cZ.L0.st cZ.L0.aq cZ.L0.add cZ.L0.F cZ.L0.out
noncomputable def cZ.L0.call:cZ.L0.D→Option cZ.L0.X:=dL cZ.L0.E cZ.L0.st
noncomputable def cZ.an:eu:= {loops:=ki [(2,{bu:=[0,3],sites:=[14],j6:=[⟨3,[],14,135⟩]})],outs:=kh [(2,{bu:=[0,3],sites:=[14]},{bu:=[2]})],gq:=lv [(2,cZ.L0.E)],res:=[some tB]}
noncomputable def cZ.A:= @cq Tryz.prog cZ.G cZ.an 0 Tryz.f150 _ cZ.st
abbrev cZ.Ok:=cr @cZ.A cZ.aq cZ.add cZ.F cZ.out
noncomputable def cZ.L0.R:= @cM Tryz.prog cZ.G cZ.an 0 Tryz.f150 0 _ cZ.L0.st
abbrev cZ.L0.Ok:=fk Tryz.prog cZ.G cZ.an 0 Tryz.f150 0 cZ.L0.st cZ.L0.aq cZ.L0.add cZ.L0.F cZ.L0.out
theorem cZ.L0.run:bD cZ.L0.call cZ.L0.aq cZ.L0.add cZ.L0.F:=fy (fx [.d ti,.n,.d tB] fun _=>by kernel_rfl)
theorem cZ.L0.aE:fY @cZ.L0.R cZ.L0.st cZ.L0.aq cZ.L0.add cZ.L0.F cZ.L0.bK cZ.L0.Ok:=gj
theorem cZ.L0.step{R:Type}(n_2:Int)(outL:Nat)(n14:(List Int))(kn:AS→Option R)(kx:Exit→AS→Option R):cZ.L0.R (n_2,outL,n14) kn kx=
  aD ((lk n_2 (128:Int))) (
   aD (decide (outL≤(List.length n14))) (
   aD (dK (outL+1) 1) (
   kn (cZ.L0.st ((kM .i64 n_2 (128:Int)),(outL+1),((List.take outL n14)++ [(dG .u8 (bo .i64 (fI n_2 (128:Int)) (128:Int)))])))) none) none) (
   kx (cZ.L0.bK (n_2,outL,n14)).1 (cZ.L0.bK (n_2,outL,n14)).2):=by kernel_rfl
theorem cZ.eq{R:Type}(n:Int)(k:aT→Option R):cZ.A n k=
 ab (cZ.L0.call (n,0,([]:List Int))) fun x1=>
 aD (decide (x1.2.1≤(List.length x1.2.2))) (
 aD (dK (x1.2.1+1) 1) (
 aD (decide (0=0∧(0+(x1.2.1+1))≤(List.length ((List.take x1.2.1 x1.2.2)++ [(dG .u8 x1.1)])))) (
 k (cZ.out (cut ((List.take x1.2.1 x1.2.2)++ [(dG .u8 x1.1)]) 0 (x1.2.1+1)))) none) none) none:=by kernel_rfl
theorem DT{n:Int}(h:Dv n):dG .u8 (bo .i64 (fI n 128) 128)=n%128+128:=by
 have h1:=h.1
 rw[gS h.1,cR (by omega) (by omega),uH,gL]
 omega
theorem cZ.L0.ok:cZ.L0.Ok:=by
 refine cZ.L0.aE (fun(n,m,l)=>n.toNat) ?_
 rintro⟨n,m,l⟩ ⟨hn,rfl,hl,hz⟩
 have hn:Dv n:=hn
 have hz:l.length+(jB 10 n).1.length≤100:=hz
 have h1:=hn.1
 have h2:=hn.2
 by_cases h:128≤n
 ·left
  have e:=De h h2
  have hq:kM .i64 n 128=n / 128:=by
   rw[kM,Int.tdiv_eq_ediv_of_nonneg h1]
   exact lG (by omega) (by omega)
  have el:((n%128+128)::(jB 10 (n / 128)).1).length=(jB 10 (n / 128)).1.length+1:=List.length_cons
  rw[e]at hz
  have hz:l.length+((n%128+128)::(jB 10 (n / 128)).1).length≤100:=hz
  rw[el]at hz
  refine⟨(n / 128,l.length+1,l++ [n%128+128]),⟨⟨by omega,by omega⟩,by rw[List.length_append];rfl,by rw[List.length_append];simp only[List.length_cons,List.length_nil];omega,by rw[List.length_append];simp only[List.length_cons,List.length_nil];omega⟩,by simp only[];omega,?_,fun kn kx=> ?_⟩
  ·simp only[cZ.L0.add,cZ.L0.F,e,List.append_assoc,List.cons_append,List.nil_append]
  ·rw[cZ.L0.step,ij h,DT hn,hq]
   simp(disch:=omega) only[↓S1,↓if_pos,↓if_neg,if_pos,if_neg,if_true,if_false,S2,Nat.le_refl,List.take_length]
 ·right
  have e:jB 10 n=([],n):=by rw[jB,if_neg h]
  intro R kn kx
  rw[cZ.L0.step,fR h]
  simp only[ae,cZ.L0.add,cZ.L0.F,e,List.append_nil]
theorem cZ.ok:cZ.Ok:=by
 intro n hn
 have hn:Dv n:=hn
 have hl:=vj 10 n
 have e2:(128:Int)^(10+1)=151115727451828646838272:=rfl
 have hd:=w7 10 n hn.1 (by have:=hn.2;rw[e2];omega)
 have p:cZ.L0.aq (n,0,[]):=⟨hn,rfl,by simp,by simp only[List.length_nil];omega⟩
 have hi:dG .u8 (jB 10 n).2=(jB 10 n).2:=by rw[uH,gL];omega
 rw[cZ.eq,cZ.L0.run p]
 simp only[aa,cZ.L0.add,cZ.L0.F,List.nil_append,hi,List.take_length,Nat.le_refl,decide_true,ah]
 rw[eR (by omega) (by omega)]
 simp only[ah,Nat.zero_add,List.length_append,List.length_cons,List.length_nil,Nat.le_refl,and_self,decide_true]
 rw[gI (by rw[List.length_append];rfl)]
 rfl
noncomputable def cZ.E:=Entry.cD [some ti] cZ.st cZ.aq cZ.add cZ.F cZ.out
noncomputable def cZ.call:cZ.D→Option cZ.X:=bC cZ.E cZ.st
theorem cZ.run:bD cZ.call cZ.aq cZ.add cZ.F:=cw (cv [.d ti] fun _=>by kernel_rfl)
noncomputable def cZ.sg:SG Tryz.prog:=⟨150,aK,cZ.E,.fn 1 (by kernel_rfl) cZ.ok (And.intro (.cD cZ.L0.ok (by kernel_rfl)) trivial)⟩
def fX(b:List Int)(n:Int):List Int:=if n < 0 then b else b++vk n
theorem gQ(b:List Int)(n:Int):(fX b n).length≤b.length+11:=by
 unfold fX
 have:=rI n
 split
 ·omega
 ·rw[List.length_append];omega
abbrev eE.D:=Bs×Int
def eE.st:eE.D→SA:=fun(b,n)=>([.d tB b,.d ti n],[])
abbrev eE.Y:=Bs
abbrev eE.X:=Bs
def eE.out:eE.X→aT:=fun x=>⟨.d tB x,[],[]⟩
def eE.add:eE.D→eE.Y→eE.X:=fun(b,n) y=>y
def eE.aq:eE.D→Prop:=fun(b,n)=>b.length≤90000000∧n≤9223372036854775807
def eE.F:eE.D→eE.Y:=fun(b,n)=>fX b n
noncomputable def eE.G:dU:=eZ (P:=Tryz.prog) [eb.sg,cZ.sg]
noncomputable def eE.an:eu:= {}
noncomputable def eE.A:= @cq Tryz.prog eE.G eE.an 0 Tryz.f107 _ eE.st
abbrev eE.Ok:=cr @eE.A eE.aq eE.add eE.F eE.out
theorem eE.eq{R:Type}(b:Bs)(n:Int)(k:aT→Option R):eE.A (b,n) k=
  aD ((gM n (0:Int))) (
   ab (eb.call (b,([]:List Int))) fun x1=>
   k (eE.out x1)) (
   ab (cZ.call n) fun x2=>
   ab (eb.call (b,x2)) fun x3=>
   k (eE.out x3)):=by kernel_rfl
theorem eE.ok:eE.Ok:=by
 rintro⟨b,n⟩ ⟨hb,hn⟩
 have hb:b.length≤90000000:=hb
 have hn:n≤9223372036854775807:=hn
 rw[eE.eq]
 simp only[eE.add,eE.F,fX]
 by_cases h:n < 0
 ·rw[bB h,if_pos h,ah,eb.run (d:=(b,[])) (by show b.length+([]:List Int).length≤_;simp only[List.length_nil];omega)]
  simp only[aa,eb.add,eb.F,List.append_nil]
 ·have hl:=rI n
  rw[bk h,if_neg h,ae,cZ.run (d:=n) ⟨by omega,hn⟩]
  simp only[aa,cZ.add,cZ.F]
  rw[eb.run (d:=(b,vk n)) (by show b.length+(vk n).length≤_;omega)]
  rfl
noncomputable def eE.E:=Entry.cD [some tB,some ti] eE.st eE.aq eE.add eE.F eE.out
noncomputable def eE.call:eE.D→Option eE.X:=bC eE.E eE.st
theorem eE.run:bD eE.call eE.aq eE.add eE.F:=cw (cv [.d tB,.d ti] fun _=>by kernel_rfl)
noncomputable def eE.sg:SG Tryz.prog:=⟨107,aK,eE.E,.fn 0 (by kernel_rfl) eE.ok trivial⟩
abbrev eM.D:=Bs×Int
def eM.st:eM.D→SA:=fun(b,n)=>([.d tB b,.d tu n],[])
abbrev eM.Y:=Bs
abbrev eM.X:=Bs
def eM.out:eM.X→aT:=fun x=>⟨.d tB x,[],[]⟩
def eM.add:eM.D→eM.Y→eM.X:=fun(b,n) y=>y
def eM.aq:eM.D→Prop:=fun(b,n)=>b.length≤90000000
def eM.F:eM.D→eM.Y:=fun(b,n)=>b++iA n
noncomputable def eM.G:dU:=eZ (P:=Tryz.prog) [eb.sg]
noncomputable def eM.an:eu:= {loops:=ki [(3,{bu:=[0,1,5,7],sites:=[5,21]})],outs:=kh [(3,{bu:=[0,5],sites:=[5,21]},{bu:=[4],sites:=[5,21]})]}
noncomputable def eM.A:= @cq Tryz.prog eM.G eM.an 12 Tryz.f152 _ eM.st
abbrev eM.Ok:=cr @eM.A eM.aq eM.add eM.F eM.out
theorem eM.eq{R:Type}(b:Bs)(n:Int)(k:aT→Option R):eM.A (b,n) k=
 ab (eb.call (b,[(dG .u8 (bW .u64 n (56:Int))),(dG .u8 (bW .u64 n (48:Int))),(dG .u8 (bW .u64 n (40:Int))),(dG .u8 (bW .u64 n (32:Int))),(dG .u8 (bW .u64 n (24:Int))),(dG .u8 (bW .u64 n (16:Int))),(dG .u8 (bW .u64 n (8:Int))),(dG .u8 (bW .u64 n (0:Int)))])) fun x1=>
 k (eM.out x1):=by kernel_rfl
theorem eM.ok:eM.Ok:=by
 rintro⟨b,n⟩ hb
 have hb:b.length≤90000000:=hb
 have p:eb.aq (b,iA n):=by show b.length+(iA n).length≤_;rw[cO];omega
 have e:eb.call (b,[dG .u8 (bW .u64 n 56),dG .u8 (bW .u64 n 48),dG .u8 (bW .u64 n 40),dG .u8 (bW .u64 n 32),dG .u8 (bW .u64 n 24),dG .u8 (bW .u64 n 16),dG .u8 (bW .u64 n 8),dG .u8 (bW .u64 n 0)])=some (b++iA n):=by
  rw[uh];exact eb.run p
 rw[eM.eq]
 refine Eq.trans (congrArg (fun x=>ab x _) e) ?_
 rfl
noncomputable def eM.E:=Entry.cD [some tB,some tu] eM.st eM.aq eM.add eM.F eM.out
noncomputable def eM.call:eM.D→Option eM.X:=bC eM.E eM.st
theorem eM.run:bD eM.call eM.aq eM.add eM.F:=cw (cv [.d tB,.d tu] fun _=>by kernel_rfl)
noncomputable def eM.sg:SG Tryz.prog:=⟨152,aK,eM.E,.fn 1 (by kernel_rfl) eM.ok (And.intro (.none (by kernel_rfl)) trivial)⟩
set_option synthInstance.maxSize 5000
def oJ(w:At):Bool:=decide (0≤w.1∧w.1 < 4) && decide (w.2.1.length≤12)
def sz(x:ja):Bool:=decide (0≤x.1.2.1∧x.1.2.1 < 64) && oJ x.2.1
def q9(m:List (oL×Bool))(x:ja):Bool:=(kc p9 x.1 m).getD false
def oe:List (oL×Bool)→List ja→Bool
 |_,[]=>true
 |m,x::l=>(!(q9 m x) && sz x) && oe (kA p9 x.1 true m) l
def np(a:Int):Bool:=decide (0≤a∧a≤1125899906842624)
def nH(a b:Int):Bool:=np a && (np b && decide (a+b≤1125899906842624))
def kE:Int→List jw→Bool
 |_,[]=>true
 |s,o::l=>(nH s o.1 && jz o.2.1) && kE (s+o.1) l
def qJ(t:hP):Bool:=decide (1≤t.1.length∧t.1.length≤64∧t.2.1.length≤64∧0≤t.2.2.1)
def iq(t:hP):Bool:=qJ t && (oe [] t.1 && kE 0 t.2.1)
def oM(l:Lk):Prop:=GB l∧l.1.length≤9223372036854775807
def Jf(t:hP):Prop:=(∀o∈t.2.1,oM o.2.1)∧t.1.length≤9223372036854775807∧t.2.1.length≤9223372036854775807
abbrev fP.D:=At
def fP.st:fP.D→SA:=fun wv=>([.d Il wv],[])
abbrev fP.Y:=Bool
abbrev fP.X:=Bool
def fP.out:fP.X→aT:=fun x=>⟨.d .bool x,[],[]⟩
def fP.add:fP.D→fP.Y→fP.X:=fun wv y=>y
def fP.aq:fP.D→Prop:=fun _=>True
def fP.F:fP.D→fP.Y:=fun w=>oJ w
noncomputable def fP.G:dU:=eZ (P:=Tryz.prog) []
noncomputable def fP.an:eu:= {}
noncomputable def fP.A:= @cq Tryz.prog fP.G fP.an 0 Tryz.f103 _ fP.st
abbrev fP.Ok:=cr @fP.A fP.aq fP.add fP.F fP.out
theorem fP.eq{R:Type}(wv:At)(k:aT→Option R):fP.A wv k=
  aD ((lk wv.1 (0:Int))) (
   aD ((gM wv.1 (4:Int))) (
    k (fP.out (yz (((List.length wv.2.1):Nat):Int) (12:Int)))) (
    k (fP.out false))) (
   k (fP.out false)):=by kernel_rfl
theorem fP.ok:fP.Ok:=by
 rintro⟨b,ss,sc,u⟩ _
 rw[fP.eq]
 simp only[fP.add,fP.F,oJ]
 by_cases h:0≤b
 ·rw[ij h,ah]
  by_cases h2:b < 4
  ·rw[bB h2,ah,aL ⟨h,h2⟩]
   by_cases h3:ss.length≤12
   ·rw[pa (by omega),aL h3];rfl
   ·rw[kV (by omega),bN h3];rfl
  ·rw[bk h2,ae,bN (fun x=>h2 x.2)];rfl
 ·rw[fR h,ae,bN (fun x=>h x.1)];rfl
noncomputable def fP.E:=Entry.cD [some Il] fP.st fP.aq fP.add fP.F fP.out
noncomputable def fP.call:fP.D→Option fP.X:=bC fP.E fP.st
theorem fP.run:bD fP.call fP.aq fP.add fP.F:=cw (cv [.d Il] fun _=>by kernel_rfl)
noncomputable def fP.sg:SG Tryz.prog:=⟨103,aK,fP.E,.fn 0 (by kernel_rfl) fP.ok trivial⟩
abbrev dA.D:=Int
def dA.st:dA.D→SA:=fun a=>([.d ti a],[])
abbrev dA.Y:=Bool
abbrev dA.X:=Bool
def dA.out:dA.X→aT:=fun x=>⟨.d .bool x,[],[]⟩
def dA.add:dA.D→dA.Y→dA.X:=fun a y=>y
def dA.aq:dA.D→Prop:=fun _=>True
def dA.F:dA.D→dA.Y:=fun a=>np a
noncomputable def dA.G:dU:=eZ (P:=Tryz.prog) []
noncomputable def dA.an:eu:= {}
noncomputable def dA.A:= @cq Tryz.prog dA.G dA.an 0 Tryz.f145 _ dA.st
abbrev dA.Ok:=cr @dA.A dA.aq dA.add dA.F dA.out
theorem dA.eq{R:Type}(a:Int)(k:aT→Option R):dA.A a k=
  aD ((lk a (0:Int))) (
   k (dA.out (yz a (1125899906842624:Int)))) (
   k (dA.out false)):=by kernel_rfl
theorem dA.ok:dA.Ok:=by
 intro(a:Int) _
 rw[dA.eq]
 simp only[dA.add,dA.F,np]
 by_cases h:0≤a
 ·rw[ij h,ah]
  by_cases h2:a≤1125899906842624
  ·rw[pa h2,aL ⟨h,h2⟩]
  ·rw[kV h2,bN (fun x=>h2 x.2)]
 ·rw[fR h,ae,bN (fun x=>h x.1)]
noncomputable def dA.E:=Entry.cD [some ti] dA.st dA.aq dA.add dA.F dA.out
noncomputable def dA.call:dA.D→Option dA.X:=bC dA.E dA.st
theorem dA.run:bD dA.call dA.aq dA.add dA.F:=cw (cv [.d ti] fun _=>by kernel_rfl)
noncomputable def dA.sg:SG Tryz.prog:=⟨145,aK,dA.E,.fn 0 (by kernel_rfl) dA.ok trivial⟩
abbrev fM.D:=Int×Int
def fM.st:fM.D→SA:=fun(a,b)=>([.d ti a,.d ti b],[])
abbrev fM.Y:=Int×Bool
abbrev fM.X:=Int×Bool
def fM.out:fM.X→aT:=fun x=>⟨.cons (.d ti x.1) (.cons (.d .bool x.2) (.nil)),[],[]⟩
def fM.add:fM.D→fM.Y→fM.X:=fun(a,b) y=>y
def fM.aq:fM.D→Prop:=fun _=>True
def fM.F:fM.D→fM.Y:=fun(a,b)=>(bif nH a b then a+b else 0,nH a b)
noncomputable def fM.G:dU:=eZ (P:=Tryz.prog) [dA.sg]
noncomputable def fM.an:eu:= {}
noncomputable def fM.A:= @cq Tryz.prog fM.G fM.an 0 Tryz.f104 _ fM.st
abbrev fM.Ok:=cr @fM.A fM.aq fM.add fM.F fM.out
theorem fM.eq{R:Type}(a:Int)(b:Int)(k:aT→Option R):fM.A (a,b) k=
  ab (dA.call a) fun x1=>
  aD ((!x1)) (
   k (fM.out ((0:Int),false))) (
   ab (dA.call b) fun x2=>
   aD ((!x2)) (
    k (fM.out ((0:Int),false))) (
    aD ((mX a (bV .i64 (1125899906842624:Int) b))) (
     k (fM.out ((0:Int),false))) (
     k (fM.out ((bo .i64 a b),true))))):=by kernel_rfl
theorem fM.ok:fM.Ok:=by
 rintro⟨a,b⟩ _
 rw[fM.eq,dA.run (d:=a) trivial,dA.run (d:=b) trivial]
 simp only[aa,dA.add,dA.F,fM.add,fM.F,nH]
 cases ha:np a
 ·rfl
 ·cases hb:np b
  ·rfl
  ·simp only[np,decide_eq_true_eq]at ha hb
   simp only[Bool.not_true,ae,Bool.true_and]
   rw[fi (by omega) (by omega)]
   by_cases h:a+b≤1125899906842624
   ·rw[dj (by omega),ae,aL h,cR (by omega) (by omega)];rfl
   ·rw[ee (by omega),ah,bN h];rfl
noncomputable def fM.E:=Entry.cD [some ti,some ti] fM.st fM.aq fM.add fM.F fM.out
noncomputable def fM.call:fM.D→Option fM.X:=bC fM.E fM.st
theorem fM.run:bD fM.call fM.aq fM.add fM.F:=cw (cv [.d ti,.d ti] fun _=>by kernel_rfl)
noncomputable def fM.sg:SG Tryz.prog:=⟨104,aK,fM.E,.fn 0 (by kernel_rfl) fM.ok trivial⟩
abbrev au.L0.D:=hP×(List ja)×Int×Int×(List (oL×Bool))
def au.L0.st:au.L0.D→AS:=fun(t_2,t33,t34,t35,n31)=>⟨([.undef,.fj kN t_2,.undef,.kB (.new 31 0) 0]++bw 29 ([.d (.slice jR) t33,.d ti t34,.d ti t35]++bw 52 [])),[],(cC 31 ([[.obj 0 false (.mp p9 .bool n31)]]++cC 56 []))⟩
abbrev au.L0.Y0:=Unit
abbrev au.L0.X0:=Unit
def au.L0.bK:au.L0.X0→Exit×AS:=fun x=>(.ret,⟨([.undef,.undef,.d .bool false]++bw 85 []),[],(List.replicate 88 [])⟩)
abbrev au.L0.Y1:=Unit
abbrev au.L0.X1:=hP
def au.L0.iW:au.L0.X1→Exit×AS:=fun x=>(.exit 0,⟨([.undef,.fj kN x]++bw 86 []),[],(List.replicate 88 [])⟩)
abbrev au.L0.X:=(au.L0.X0)⊕(au.L0.X1)
abbrev au.L0.Y:=(au.L0.Y0)⊕(au.L0.Y1)
def au.L0.out:au.L0.X→Out (Exit×AS):=fun x=> .br x.isLeft (.get x.getLeft? fun a=> .ok (au.L0.bK a)) (.get x.getRight? fun b=> .ok (au.L0.iW b))
def au.L0.add:au.L0.D→au.L0.Y→au.L0.X:=fun(t_2,t33,t34,t35,n31) y=>match y with | .inl y=> .inl y | .inr z=> .inr (t_2)
abbrev au.L1.D:=Int×(List jw)×Int×Int
def au.L1.st:au.L1.D→AS:=fun(sum,t66,t67,t68)=>⟨(bw 6 ([.d ti sum]++bw 59 ([.d (.slice mR) t66,.d ti t67,.d ti t68]++bw 19 []))),[],(List.replicate 88 [])⟩
abbrev au.L1.Y0:=Unit
abbrev au.L1.X0:=Unit
def au.L1.bK:au.L1.X0→Exit×AS:=fun x=>(.ret,⟨([.undef,.undef,.d .bool false]++bw 85 []),[],(List.replicate 88 [])⟩)
abbrev au.L1.Y1:=Unit
abbrev au.L1.X1:=Unit
def au.L1.iW:au.L1.X1→Exit×AS:=fun x=>(.exit 2,⟨(bw 88 []),[],(List.replicate 88 [])⟩)
abbrev au.L1.X:=(au.L1.X0)⊕(au.L1.X1)
abbrev au.L1.Y:=(au.L1.Y0)⊕(au.L1.Y1)
def au.L1.out:au.L1.X→Out (Exit×AS):=fun x=> .br x.isLeft (.get x.getLeft? fun a=> .ok (au.L1.bK a)) (.get x.getRight? fun b=> .ok (au.L1.iW b))
def au.L1.add:au.L1.D→au.L1.Y→au.L1.X:=fun(sum,t66,t67,t68) y=>match y with | .inl y=> .inl y | .inr z=> .inr (z)
abbrev au.D:=hP
def au.st:au.D→SA:=fun t=>([.d kN t],[])
abbrev au.Y:=Bool
abbrev au.X:=Bool
def au.out:au.X→aT:=fun x=>⟨.d .bool x,[],[]⟩
def au.add:au.D→au.Y→au.X:=fun t y=>y
def au.L0.aq:au.L0.D→Prop:=fun(t,l,n,i,m)=>l.length≤9223372036854775807∧n=l.length∧∃k:Nat,k≤l.length∧i=k
def au.L0.F:au.L0.D→au.L0.Y:=fun(t,l,n,i,m)=>if oe m (l.drop i.toNat) then .inr () else .inl ()
def au.L1.aq:au.L1.D→Prop:=fun(s,l,n,i)=>(∀o∈l,oM o.2.1)∧l.length≤9223372036854775807∧n=l.length∧∃k:Nat,k≤l.length∧i=k
def au.L1.F:au.L1.D→au.L1.Y:=fun(s,l,n,i)=>if kE s (l.drop i.toNat) then .inr () else .inl ()
def au.aq:au.D→Prop:=fun t=>Jf t
def au.F:au.D→au.Y:=fun t=>iq t
noncomputable def au.G:dU:=eZ (P:=Tryz.prog) [fP.sg,fM.sg,aS.sg]
noncomputable def au.L0.E:=cf.cD au.L0.st au.L0.aq au.L0.add au.L0.F au.L0.out
noncomputable def au.L0.call:au.L0.D→Option au.L0.X:=dL au.L0.E au.L0.st
noncomputable def au.L1.E:=cf.cD au.L1.st au.L1.aq au.L1.add au.L1.F au.L1.out
noncomputable def au.L1.call:au.L1.D→Option au.L1.X:=dL au.L1.E au.L1.st
noncomputable def au.an:eu:= {loops:=ki [(5,{bu:=[1,3,33,34,35],sites:=[31]}),(13,{bu:=[6,66,67,68]})],outs:=kh [(5,{bu:=[1]},{bu:=[2]}),(13,{},{bu:=[2]})],gq:=lv [(5,au.L0.E),(13,au.L1.E)]}
noncomputable def au.A:= @cq Tryz.prog au.G au.an 0 Tryz.f50 _ au.st
abbrev au.Ok:=cr @au.A au.aq au.add au.F au.out
noncomputable def au.L0.R:= @cM Tryz.prog au.G au.an 0 Tryz.f50 0 _ au.L0.st
abbrev au.L0.Ok:=fk Tryz.prog au.G au.an 0 Tryz.f50 0 au.L0.st au.L0.aq au.L0.add au.L0.F au.L0.out
noncomputable def au.L1.R:= @cM Tryz.prog au.G au.an 0 Tryz.f50 1 _ au.L1.st
abbrev au.L1.Ok:=fk Tryz.prog au.G au.an 0 Tryz.f50 1 au.L1.st au.L1.aq au.L1.add au.L1.F au.L1.out
theorem au.L0.run:bD au.L0.call au.L0.aq au.L0.add au.L0.F:=fy (fx [.d kN,.d (.slice jR),.d ti,.d ti,.d (.slice (.pair p9 .bool))] fun _=>by kernel_rfl)
theorem au.L0.aE:pT @au.L0.R au.L0.st au.L0.aq au.L0.add au.L0.F au.L0.out au.L0.Ok:=qo
theorem au.L0.step{R:Type}(t_2:hP)(t33:(List ja))(t34:Int)(t35:Int)(n31:(List (oL×Bool)))(kn:AS→Option R)(kx:Exit→AS→Option R):au.L0.R (t_2,t33,t34,t35,n31) kn kx=
  aD ((gM t35 t34)) (
   aD (dZ t35 (((List.length t33):Nat):Int)) (
   aD (((kc p9 (nth jR t33 (Int.toNat t35)).1 n31).getD false)) (
    kx (au.L0.bK ()).1 (au.L0.bK ()).2) (
    aD ((gM (nth jR t33 (Int.toNat t35)).1.2.1 (0:Int))) (
     kx (au.L0.bK ()).1 (au.L0.bK ()).2) (
     aD ((lk (nth jR t33 (Int.toNat t35)).1.2.1 (64:Int))) (
      kx (au.L0.bK ()).1 (au.L0.bK ()).2) (
      ab (fP.call (nth jR t33 (Int.toNat t35)).2.1) fun x8=>
      aD ((!x8)) (
       kx (au.L0.bK ()).1 (au.L0.bK ()).2) (
       kn (au.L0.st (t_2,t33,t34,(bo .i64 t35 (1:Int)),(kA p9 (nth jR t33 (Int.toNat t35)).1 true n31)))))))) none) (
   kx (au.L0.iW t_2).1 (au.L0.iW t_2).2):=by kernel_rfl
theorem au.L1.run:bD au.L1.call au.L1.aq au.L1.add au.L1.F:=fy (fx [.d ti,.d (.slice mR),.d ti,.d ti] fun _=>by kernel_rfl)
theorem au.L1.aE:pT @au.L1.R au.L1.st au.L1.aq au.L1.add au.L1.F au.L1.out au.L1.Ok:=qo
theorem au.L1.step{R:Type}(sum:Int)(t66:(List jw))(t67:Int)(t68:Int)(kn:AS→Option R)(kx:Exit→AS→Option R):au.L1.R (sum,t66,t67,t68) kn kx=
  aD ((gM t68 t67)) (
   aD (dZ t68 (((List.length t66):Nat):Int)) (
   ab (fM.call (sum,(nth mR t66 (Int.toNat t68)).1)) fun x10=>
   aD ((!x10.2)) (
    kx (au.L1.bK ()).1 (au.L1.bK ()).2) (
    ab (aS.call (nth mR t66 (Int.toNat t68)).2.1) fun x12=>
    aD ((!x12)) (
     kx (au.L1.bK ()).1 (au.L1.bK ()).2) (
     kn (au.L1.st (x10.1,t66,t67,(bo .i64 t68 (1:Int))))))) none) (
   kx (au.L1.iW ()).1 (au.L1.iW ()).2):=by kernel_rfl
theorem au.eq{R:Type}(t:hP)(k:aT→Option R):au.A t k=
  aD ((gM (((List.length t.1):Nat):Int) (1:Int))) (
   k (au.out false)) (
   aD ((mX (((List.length t.1):Nat):Int) (64:Int))) (
    k (au.out false)) (
    aD ((mX (((List.length t.2.1):Nat):Int) (64:Int))) (
     k (au.out false)) (
     aD ((gM t.2.2.1 (0:Int))) (
      k (au.out false)) (
      ab (au.L0.call (t,t.1,(((List.length t.1):Nat):Int),(0:Int),([]:List (oL×Bool)))) fun x12=>
      aD (x12.isLeft) (
       ab (x12.getLeft?) fun a13=>
       k (au.out false)) (
       ab (x12.getRight?) fun b14=>
       ab (au.L1.call ((0:Int),b14.2.1,(((List.length b14.2.1):Nat):Int),(0:Int))) fun x30=>
       aD (x30.isLeft) (
        ab (x30.getLeft?) fun a31=>
        k (au.out false)) (
        ab (x30.getRight?) fun b32=>
        k (au.out true))))))):=by kernel_rfl
theorem au.L0.ok:au.L0.Ok:=by
 refine au.L0.aE (fun(t,l,n,i,m)=>l.length - i.toNat) ?_
 rintro⟨t,l,n,i,m⟩ ⟨hb,rfl,k,hk,rfl⟩
 have hb:l.length≤9223372036854775807:=hb
 have hk:k≤l.length:=hk
 by_cases h:k < l.length
 ·have n1:nth jR l k=l[k]:=dS (t:=jR) h
  have hd:oe m (l.drop k)=((!(q9 m l[k]) && sz l[k]) && oe (kA p9 l[k].1 true m) (l.drop (k+1))):=by rw[List.drop_eq_getElem_cons h];rfl
  have step:∀ {R:Type} (kn:AS→Option R) (kx:Exit→AS→Option R),au.L0.R (t,l,(l.length:Int),(k:Int),m) kn kx=aD (!(q9 m l[k]) && sz l[k]) (kn (au.L0.st (t,l,(l.length:Int),((k+1:Nat):Int),kA p9 l[k].1 true m))) (kx (au.L0.bK ()).1 (au.L0.bK ()).2):=by
   intro R kn kx
   rw[au.L0.step,bB (by omega),bz (by omega) (by omega),Int.toNat_natCast,n1,N.mq (by omega),fP.run (d:=l[k].2.1) trivial]
   simp only[ah,aa,fP.add,fP.F]
   have e:(kc p9 l[k].1 m).getD false=q9 m l[k]:=rfl
   rw[e]
   cases q9 m l[k]
   ·simp only[Bool.not_false,Bool.true_and,ae,sz]
    by_cases h1:l[k].1.2.1 < 0
    ·rw[bB h1,ah,bN (fun x=>by omega)];rfl
    ·rw[bk h1,ae]
     by_cases h2:64≤l[k].1.2.1
     ·rw[ij h2,ah,bN (fun x=>by omega)];rfl
     ·rw[fR h2,ae,aL ⟨by omega,by omega⟩]
      cases oJ l[k].2.1 <;> rfl
   ·rfl
  cases hp:(!(q9 m l[k]) && sz l[k])
  ·right
   refine⟨au.L0.bK (),?_,fun kn kx=> ?_⟩
   ·simp only[au.L0.add,au.L0.F,Int.toNat_natCast,hd,hp,Bool.false_and,Bool.false_eq_true,if_false]
    rfl
   ·rw[step,hp,ae]
  ·left
   refine⟨(t,l,l.length,((k+1:Nat):Int),kA p9 l[k].1 true m),⟨hb,rfl,k+1,by omega,rfl⟩,by simp only[Int.toNat_natCast];omega,?_,fun kn kx=> ?_⟩
   ·simp only[au.L0.add,au.L0.F,Int.toNat_natCast,hd,hp,Bool.true_and]
   ·rw[step,hp,ah]
 ·right
  obtain rfl:k=l.length:=by omega
  refine⟨au.L0.iW t,?_,fun kn kx=> ?_⟩
  ·simp only[au.L0.add,au.L0.F,Int.toNat_natCast,List.drop_length]
   rfl
  ·rw[au.L0.step]
   simp(disch:=omega) only[↓S1,↓if_pos,↓if_neg,if_pos,if_neg,if_true,if_false,S2]
theorem au.L1.ok:au.L1.Ok:=by
 refine au.L1.aE (fun(s,l,n,i)=>l.length - i.toNat) ?_
 rintro⟨s,l,n,i⟩ ⟨hl,hb,rfl,k,hk,rfl⟩
 have hb:l.length≤9223372036854775807:=hb
 have hk:k≤l.length:=hk
 by_cases h:k < l.length
 ·have hx:oM l[k].2.1:=hl _ (List.getElem_mem h)
  have n1:nth mR l k=l[k]:=dS (t:=mR) h
  have hd:kE s (l.drop k)=((nH s l[k].1 && jz l[k].2.1) && kE (s+l[k].1) (l.drop (k+1))):=by rw[List.drop_eq_getElem_cons h];rfl
  have step:∀ {R:Type} (kn:AS→Option R) (kx:Exit→AS→Option R),au.L1.R (s,l,(l.length:Int),(k:Int)) kn kx=aD (nH s l[k].1 && jz l[k].2.1) (kn (au.L1.st (s+l[k].1,l,(l.length:Int),((k+1:Nat):Int)))) (kx (au.L1.bK ()).1 (au.L1.bK ()).2):=by
   intro R kn kx
   rw[au.L1.step,bB (by omega),bz (by omega) (by omega),Int.toNat_natCast,n1,N.mq (by omega),fM.run (d:=(s,l[k].1)) trivial,aS.run (d:=l[k].2.1) hx]
   simp only[ah,aa,fM.add,fM.F,aS.add,aS.F]
   cases nH s l[k].1
   ·rfl
   ·cases jz l[k].2.1 <;> rfl
  cases hp:(nH s l[k].1 && jz l[k].2.1)
  ·right
   refine⟨au.L1.bK (),?_,fun kn kx=> ?_⟩
   ·simp only[au.L1.add,au.L1.F,Int.toNat_natCast,hd,hp,Bool.false_and,Bool.false_eq_true,if_false]
    rfl
   ·rw[step,hp,ae]
  ·left
   refine⟨(s+l[k].1,l,l.length,((k+1:Nat):Int)),⟨hl,hb,rfl,k+1,by omega,rfl⟩,by simp only[Int.toNat_natCast];omega,?_,fun kn kx=> ?_⟩
   ·simp only[au.L1.add,au.L1.F,Int.toNat_natCast,hd,hp,Bool.true_and]
   ·rw[step,hp,ah]
 ·right
  obtain rfl:k=l.length:=by omega
  refine⟨au.L1.iW (),?_,fun kn kx=> ?_⟩
  ·simp only[au.L1.add,au.L1.F,Int.toNat_natCast,List.drop_length]
   rfl
  ·rw[au.L1.step]
   simp(disch:=omega) only[↓S1,↓if_pos,↓if_neg,if_pos,if_neg,if_true,if_false,S2]
theorem au.ok:au.Ok:=by
 rintro⟨is,os,nt,u⟩ ⟨hl,h1,h2⟩
 have h1:is.length≤9223372036854775807:=h1
 have h2:os.length≤9223372036854775807:=h2
 rw[au.eq,au.L0.run (d:=((is,os,nt,u),is,is.length,0,[])) ⟨h1,rfl,0,by omega,rfl⟩]
 simp only[aa,au.L0.add,au.L0.F,Int.toNat_zero,List.drop_zero,au.add,au.F,iq,qJ]
 by_cases a1:is.length < 1
 ·rw[bB (by omega),ah,bN (fun x=>by omega)];rfl
 rw[bk (by omega),ae]
 by_cases a2:64 < is.length
 ·rw[ee (by omega),ah,bN (fun x=>by omega)];rfl
 rw[dj (by omega),ae]
 by_cases a3:64 < os.length
 ·rw[ee (by omega),ah,bN (fun x=>by omega)];rfl
 rw[dj (by omega),ae]
 by_cases a4:nt < 0
 ·rw[bB (by omega),ah,bN (fun x=>by omega)];rfl
 rw[bk (by omega),ae,aL ⟨by omega,by omega,by omega,by omega⟩]
 cases oe [] is
 ·rfl
 ·simp only[if_true,Bool.true_and]
  show ab (au.L1.call (0,os,(os.length:Int),0)) _=_
  rw[au.L1.run (d:=(0,os,os.length,0)) ⟨hl,h2,rfl,0,by omega,rfl⟩]
  simp only[aa,au.L1.add,au.L1.F,Int.toNat_zero,List.drop_zero]
  cases kE 0 os <;> rfl
noncomputable def au.E:=Entry.cD [some kN] au.st au.aq au.add au.F au.out
noncomputable def au.call:au.D→Option au.X:=bC au.E au.st
theorem au.run:bD au.call au.aq au.add au.F:=cw (cv [.d kN] fun _=>by kernel_rfl)
noncomputable def au.sg:SG Tryz.prog:=⟨50,aK,au.E,.fn 2 (by kernel_rfl) au.ok (And.intro (.cD au.L0.ok (by kernel_rfl)) (And.intro (.cD au.L1.ok (by kernel_rfl)) trivial))⟩
set_option synthInstance.maxSize 5000
abbrev dq.D:=Bs
def dq.st:dq.D→SA:=fun sv=>([.d tU sv],[])
abbrev dq.Y:=Bs
abbrev dq.X:=Bs
def dq.out:dq.X→aT:=fun x=>⟨.d tU x,[],[]⟩
def dq.add:dq.D→dq.Y→dq.X:=fun sv y=>y
def dq.aq:dq.D→Prop:=fun l=>l.length≤1000000
def dq.F:dq.D→dq.Y:=fun l=>l
noncomputable def dq.G:dU:=eZ (P:=Tryz.prog) []
noncomputable def dq.an:eu:= {bZ:=[5],res:=[some tU]}
noncomputable def dq.A:= @cq Tryz.prog dq.G dq.an 0 Tryz.f98 _ dq.st
abbrev dq.Ok:=cr @dq.A dq.aq dq.add dq.F dq.out
theorem dq.eq{R:Type}(sv:Bs)(k:aT→Option R):dq.A sv k=
  aD (decide (0 < (List.length sv))) (
   aD (dK (0+(List.length sv)) 8) (
   aD (decide (0=0∧(0+(0+(List.length sv)))≤(List.length ((List.take 0 (List.replicate 0 (0:Int)))++sv)))) (
   k (dq.out (cut ((List.take 0 (List.replicate 0 (0:Int)))++sv) 0 (0+(List.length sv))))) none) none) (
   nd (
    k (dq.out ([]:List Int))) (
    aD (dK (0+(List.length sv)) 8) (
    aD (decide (0=0∧(0+(0+(List.length sv)))≤(List.length ((List.take 0 (List.replicate 0 (0:Int)))++sv)))) (
    k (dq.out (cut ((List.take 0 (List.replicate 0 (0:Int)))++sv) 0 (0+(List.length sv))))) none) none)):=by kernel_rfl
theorem dq.ok:dq.Ok:=by
 intro l hl
 have hl:l.length≤1000000:=hl
 have hr:dK l.length 8=true:=eR (by omega) (by omega)
 have e0:(List.take 0 (List.replicate 0 0):List Int)=[]:=rfl
 rw[dq.eq]
 simp only[Nat.zero_add,hr,ah,e0,List.nil_append,Nat.le_refl,and_self,decide_true,gI,dq.add,dq.F]
 by_cases h:0 < l.length
 ·simp only[aL h,ah]
 ·have:l=[]:=List.eq_nil_of_length_eq_zero (by omega)
  subst this
  simp only[List.length_nil,pO,bN (Nat.lt_irrefl 0),ae]
noncomputable def dq.E:=Entry.cD [some tU] dq.st dq.aq dq.add dq.F dq.out
noncomputable def dq.call:dq.D→Option dq.X:=bC dq.E dq.st
theorem dq.run:bD dq.call dq.aq dq.add dq.F:=cw (cv [.d tU] fun _=>by kernel_rfl)
noncomputable def dq.sg:SG Tryz.prog:=⟨98,aK,dq.E,.fn 0 (by kernel_rfl) dq.ok trivial⟩
def xt(l:List Int):Lk:=([(l,0,0,0,())],())
def uN(own rev delay:Int):Lk:=([([rev],0,0,0,()),([own],0,delay,0,())],())
def nU(own:Int):Lk:=([([own],0,0,0,()),([],0,16,0,())],())
abbrev gE.D:=Bs
def gE.st:gE.D→SA:=fun l=>([.d tU l],[])
abbrev gE.Y:=Lk
abbrev gE.X:=Lk
def gE.out:gE.X→aT:=fun x=>⟨.d nS x,[],[]⟩
def gE.add:gE.D→gE.Y→gE.X:=fun l y=>y
def gE.aq:gE.D→Prop:=fun l=>l.length≤1000000
def gE.F:gE.D→gE.Y:=fun l=>xt l
noncomputable def gE.G:dU:=eZ (P:=Tryz.prog) [dq.sg]
noncomputable def gE.an:eu:= {}
noncomputable def gE.A:= @cq Tryz.prog gE.G gE.an 0 Tryz.f44 _ gE.st
abbrev gE.Ok:=cr @gE.A gE.aq gE.add gE.F gE.out
theorem gE.eq{R:Type}(l:Bs)(k:aT→Option R):gE.A l k=
 ab (dq.call l) fun x1=>
 k (gE.out ([(x1,((0:Int),((0:Int),((0:Int),()))))],())):=by kernel_rfl
theorem gE.ok:gE.Ok:=by
 intro l hl
 rw[gE.eq,dq.run (d:=l) hl]
 rfl
noncomputable def gE.E:=Entry.cD [some tU] gE.st gE.aq gE.add gE.F gE.out
noncomputable def gE.call:gE.D→Option gE.X:=bC gE.E gE.st
theorem gE.run:bD gE.call gE.aq gE.add gE.F:=cw (cv [.d tU] fun _=>by kernel_rfl)
noncomputable def gE.sg:SG Tryz.prog:=⟨44,aK,gE.E,.fn 0 (by kernel_rfl) gE.ok trivial⟩
abbrev gf.D:=Int
def gf.st:gf.D→SA:=fun p=>([.d tu p],[])
abbrev gf.Y:=Lk
abbrev gf.X:=Lk
def gf.out:gf.X→aT:=fun x=>⟨.d nS x,[],[]⟩
def gf.add:gf.D→gf.Y→gf.X:=fun p y=>y
def gf.aq:gf.D→Prop:=fun _=>True
def gf.F:gf.D→gf.Y:=fun p=>xt [p]
noncomputable def gf.G:dU:=eZ (P:=Tryz.prog) [gE.sg]
noncomputable def gf.an:eu:= {}
noncomputable def gf.A:= @cq Tryz.prog gf.G gf.an 0 Tryz.f17 _ gf.st
abbrev gf.Ok:=cr @gf.A gf.aq gf.add gf.F gf.out
theorem gf.eq{R:Type}(p:Int)(k:aT→Option R):gf.A p k=
 ab (gE.call [p]) fun x1=>
 k (gf.out x1):=by kernel_rfl
theorem gf.ok:gf.Ok:=by
 intro p _
 rw[gf.eq,gE.run (d:=[p]) (by show [p].length≤_;simp)]
 rfl
noncomputable def gf.E:=Entry.cD [some tu] gf.st gf.aq gf.add gf.F gf.out
noncomputable def gf.call:gf.D→Option gf.X:=bC gf.E gf.st
theorem gf.run:bD gf.call gf.aq gf.add gf.F:=cw (cv [.d tu] fun _=>by kernel_rfl)
noncomputable def gf.sg:SG Tryz.prog:=⟨17,aK,gf.E,.fn 0 (by kernel_rfl) gf.ok trivial⟩
abbrev fa.D:=Int×Int×Int
def fa.st:fa.D→SA:=fun(own,rev,delay)=>([.d tu own,.d tu rev,.d ti delay],[])
abbrev fa.Y:=Lk
abbrev fa.X:=Lk
def fa.out:fa.X→aT:=fun x=>⟨.d nS x,[],[]⟩
def fa.add:fa.D→fa.Y→fa.X:=fun(own,rev,delay) y=>y
def fa.aq:fa.D→Prop:=fun _=>True
def fa.F:fa.D→fa.Y:=fun(o,r,d)=>uN o r d
noncomputable def fa.G:dU:=eZ (P:=Tryz.prog) []
noncomputable def fa.an:eu:= {}
noncomputable def fa.A:= @cq Tryz.prog fa.G fa.an 0 Tryz.f82 _ fa.st
abbrev fa.Ok:=cr @fa.A fa.aq fa.add fa.F fa.out
theorem fa.eq{R:Type}(own:Int)(rev:Int)(delay:Int)(k:aT→Option R):fa.A (own,rev,delay) k=
 k (fa.out ([([rev],((0:Int),((0:Int),((0:Int),())))),([own],((0:Int),(delay,((0:Int),()))))],())):=by kernel_rfl
theorem fa.ok:fa.Ok:=by
 rintro⟨o,r,d⟩ _
 rw[fa.eq]
 rfl
noncomputable def fa.E:=Entry.cD [some tu,some tu,some ti] fa.st fa.aq fa.add fa.F fa.out
noncomputable def fa.call:fa.D→Option fa.X:=bC fa.E fa.st
theorem fa.run:bD fa.call fa.aq fa.add fa.F:=cw (cv [.d tu,.d tu,.d ti] fun _=>by kernel_rfl)
noncomputable def fa.sg:SG Tryz.prog:=⟨82,aK,fa.E,.fn 0 (by kernel_rfl) fa.ok trivial⟩
abbrev cF.D:=Int
def cF.st:cF.D→SA:=fun own=>([.d tu own],[])
abbrev cF.Y:=Lk
abbrev cF.X:=Lk
def cF.out:cF.X→aT:=fun x=>⟨.d nS x,[],[]⟩
def cF.add:cF.D→cF.Y→cF.X:=fun own y=>y
def cF.aq:cF.D→Prop:=fun _=>True
def cF.F:cF.D→cF.Y:=fun o=>nU o
noncomputable def cF.G:dU:=eZ (P:=Tryz.prog) []
noncomputable def cF.an:eu:= {}
noncomputable def cF.A:= @cq Tryz.prog cF.G cF.an 0 Tryz.f83 _ cF.st
abbrev cF.Ok:=cr @cF.A cF.aq cF.add cF.F cF.out
theorem cF.eq{R:Type}(own:Int)(k:aT→Option R):cF.A own k=
 k (cF.out ([([own],((0:Int),((0:Int),((0:Int),())))),(([]:List Int),((0:Int),((16:Int),((0:Int),()))))],())):=by kernel_rfl
theorem cF.ok:cF.Ok:=by
 intro o _
 rw[cF.eq]
 rfl
noncomputable def cF.E:=Entry.cD [some tu] cF.st cF.aq cF.add cF.F cF.out
noncomputable def cF.call:cF.D→Option cF.X:=bC cF.E cF.st
theorem cF.run:bD cF.call cF.aq cF.add cF.F:=cw (cv [.d tu] fun _=>by kernel_rfl)
noncomputable def cF.sg:SG Tryz.prog:=⟨83,aK,cF.E,.fn 0 (by kernel_rfl) cF.ok trivial⟩
set_option synthInstance.maxSize 5000
set_option synthInstance.maxSize 5000
def l7(o:List Int)(ks:List Int):List Int:=ks.foldl (fun o p=>o++iA p) o
def GJ(o:List Int)(b:oK):List Int:=fX (fX (l7 (fX o b.1.length) b.1) b.2.1) b.2.2.1++iA b.2.2.2.1
def Eg(l:Lk):List Int:=if jz l then l.1.foldl GJ (fX [] l.1.length) else []
theorem sG:∀(ks:List Int) (o:List Int),(l7 o ks).length=o.length+8*ks.length
 |[],o=>rfl
 |k::ks,o=>by
  show(l7 (o++iA k) ks).length=_
  rw[sG ks,List.length_append,cO,List.length_cons];omega
theorem BI(o:List Int)(b:oK)(h:b.1.length≤12):(GJ o b).length≤o.length+200:=by
 unfold GJ
 have h1:=gQ o b.1.length
 have h2:=sG b.1 (fX o b.1.length)
 have h3:=gQ (l7 (fX o b.1.length) b.1) b.2.1
 have h4:=gQ (fX (l7 (fX o b.1.length) b.1) b.2.1) b.2.2.1
 rw[List.length_append,cO];omega
def Fo(n:Int):Prop:=n≤9223372036854775807
def Ir(b:oK):Prop:=b.1.length≤12∧Fo b.2.1∧Fo b.2.2.1
theorem GK{b:oK}(h:nj b=true):Ir b:=by
 unfold nj xI at h
 simp only[Bool.and_eq_true,decide_eq_true_eq]at h
 obtain⟨h1,_,h2,h3,_⟩:=h
 exact⟨h1,by unfold Fo;omega,by unfold Fo;omega⟩
theorem AX(o:List Int)(ks:List Int)(k:Nat)(h:k < ks.length):l7 o (ks.drop k)=l7 (o++iA ks[k]) (ks.drop (k+1)):=by rw[List.drop_eq_getElem_cons h];rfl
abbrev aG.L0.D:=Bs×(List oK)×Int×Int
def aG.L0.st:aG.L0.D→AS:=fun(outv,t16,t17,t18)=>⟨([.undef,.undef,.undef,.d tB outv]++bw 12 ([.d (.slice pR) t16,.d ti t17,.d ti t18]++bw 31 [])),[],(List.replicate 50 [])⟩
abbrev aG.L0.Y0:=Bs
abbrev aG.L0.X0:=Bs
def aG.L0.bK:aG.L0.X0→Exit×AS:=fun x=>(.exit 0,⟨([.undef,.undef,.undef,.d tB x]++bw 46 []),[],(List.replicate 50 [])⟩)
abbrev aG.L0.X:=aG.L0.X0
abbrev aG.L0.Y:=aG.L0.Y0
def aG.L0.out:aG.L0.X→Out (Exit×AS):=fun x=> .ok (aG.L0.bK x)
def aG.L0.add:aG.L0.D→aG.L0.Y→aG.L0.X:=fun(outv,t16,t17,t18) y=>y
abbrev aG.L1.D:=Bs×(List oK)×Int×Int×Bs×Int×Int×oK
def aG.L1.st:aG.L1.D→AS:=fun(outv_2,t16_2,t17_2,t18_2,t28,t29,t30,n5)=>⟨([.undef,.undef,.undef,.d tB outv_2,.undef,.ptr (.new 5 0) 0 [] 0]++bw 10 ([.d (.slice pR) t16_2,.d ti t17_2,.d ti t18_2]++bw 9 ([.d tU t28,.d ti t29,.d ti t30]++bw 19 []))),[],(cC 5 ([[.obj 0 false (.d pR n5)]]++cC 44 []))⟩
abbrev aG.L1.Y0:=Bs
abbrev aG.L1.X0:=((List oK)×Int×Int×oK)×(Bs)
def aG.L1.bK:aG.L1.X0→Exit×AS:=fun x=>(.exit 2,⟨([.undef,.undef,.undef,.d tB x.2,.undef,.ptr (.new 5 0) 0 [] 0]++bw 10 ([.d (.slice pR) x.1.1,.d ti x.1.2.1,.d ti x.1.2.2.1]++bw 31 [])),[],(cC 5 ([[.obj 0 false (.d pR x.1.2.2.2)]]++cC 44 []))⟩)
abbrev aG.L1.X:=aG.L1.X0
abbrev aG.L1.Y:=aG.L1.Y0
def aG.L1.out:aG.L1.X→Out (Exit×AS):=fun x=> .ok (aG.L1.bK x)
def aG.L1.add:aG.L1.D→aG.L1.Y→aG.L1.X:=fun(outv_2,t16_2,t17_2,t18_2,t28,t29,t30,n5) y=>((t16_2,t17_2,t18_2,n5),y)
abbrev aG.D:=Lk
def aG.st:aG.D→SA:=fun l=>([.d nS l],[])
abbrev aG.Y:=Bs
abbrev aG.X:=Bs
def aG.out:aG.X→aT:=fun x=>⟨.d tB x,[],[]⟩
def aG.add:aG.D→aG.Y→aG.X:=fun l y=>y
def aG.L1.aq:aG.L1.D→Prop:=fun(o,bs,n,i,ks,m,j,b)=>ks.length≤12∧o.length+8*ks.length≤80000000+8*j.toNat∧m=ks.length∧∃k:Nat,k≤ks.length∧j=k
def aG.L1.F:aG.L1.D→aG.L1.Y:=fun(o,bs,n,i,ks,m,j,b)=>l7 o (ks.drop j.toNat)
def aG.L0.aq:aG.L0.D→Prop:=fun(o,bs,n,i)=>(∀b∈bs,Ir b)∧bs.length≤4∧o.length≤1000+200*i.toNat∧n=bs.length∧∃k:Nat,k≤bs.length∧i=k
def aG.L0.F:aG.L0.D→aG.L0.Y:=fun(o,bs,n,i)=>(bs.drop i.toNat).foldl GJ o
def aG.aq:aG.D→Prop:=fun l=>GB l∧l.1.length≤9223372036854775807
def aG.F:aG.D→aG.Y:=fun l=>Eg l
noncomputable def aG.G:dU:=eZ (P:=Tryz.prog) [aS.sg,eE.sg,eM.sg]
noncomputable def aG.L0.E:=cf.cD aG.L0.st aG.L0.aq aG.L0.add aG.L0.F aG.L0.out
noncomputable def aG.L0.call:aG.L0.D→Option aG.L0.X:=dL aG.L0.E aG.L0.st
noncomputable def aG.L1.E:=cf.cD aG.L1.st aG.L1.aq aG.L1.add aG.L1.F aG.L1.out
noncomputable def aG.L1.call:aG.L1.D→Option aG.L1.X:=dL aG.L1.E aG.L1.st
noncomputable def aG.an:eu:= {loops:=ki [(5,{bu:=[3,16,17,18]}),(9,{bu:=[3,5,16,17,18,28,29,30],sites:=[5]})],outs:=kh [(5,{bu:=[3]},{bu:=[2]}),(9,{bu:=[3,5,16,17,18],sites:=[5]},{bu:=[2]})],gq:=lv [(5,aG.L0.E),(9,aG.L1.E)],res:=[some tB]}
noncomputable def aG.A:= @cq Tryz.prog aG.G aG.an 0 Tryz.f110 _ aG.st
abbrev aG.Ok:=cr @aG.A aG.aq aG.add aG.F aG.out
noncomputable def aG.L0.R:= @cM Tryz.prog aG.G aG.an 0 Tryz.f110 0 _ aG.L0.st
abbrev aG.L0.Ok:=fk Tryz.prog aG.G aG.an 0 Tryz.f110 0 aG.L0.st aG.L0.aq aG.L0.add aG.L0.F aG.L0.out
noncomputable def aG.L1.R:= @cM Tryz.prog aG.G aG.an 0 Tryz.f110 1 _ aG.L1.st
abbrev aG.L1.Ok:=fk Tryz.prog aG.G aG.an 0 Tryz.f110 1 aG.L1.st aG.L1.aq aG.L1.add aG.L1.F aG.L1.out
theorem aG.L0.run:bD aG.L0.call aG.L0.aq aG.L0.add aG.L0.F:=fy (fx [.d tB,.d (.slice pR),.d ti,.d ti] fun _=>by kernel_rfl)
theorem aG.L0.aE:fY @aG.L0.R aG.L0.st aG.L0.aq aG.L0.add aG.L0.F aG.L0.bK aG.L0.Ok:=gj
theorem aG.L0.step{R:Type}(outv:Bs)(t16:(List oK))(t17:Int)(t18:Int)(kn:AS→Option R)(kx:Exit→AS→Option R):aG.L0.R (outv,t16,t17,t18) kn kx=
  aD ((gM t18 t17)) (
   aD (dZ t18 (((List.length t16):Nat):Int)) (
   ab (eE.call (outv,(((List.length (nth pR t16 (Int.toNat t18)).1):Nat):Int))) fun x1=>
   ab (aG.L1.call (x1,t16,t17,t18,(nth pR t16 (Int.toNat t18)).1,(((List.length (nth pR t16 (Int.toNat t18)).1):Nat):Int),(0:Int),(nth pR t16 (Int.toNat t18)))) fun x2=>
   ab (eE.call (x2.2,x2.1.2.2.2.2.1)) fun x3=>
   ab (eE.call (x3,x2.1.2.2.2.2.2.1)) fun x4=>
   ab (eM.call (x4,x2.1.2.2.2.2.2.2.1)) fun x5=>
   kn (aG.L0.st (x5,x2.1.1,x2.1.2.1,(bo .i64 x2.1.2.2.1 (1:Int))))) none) (
   kx (aG.L0.bK outv).1 (aG.L0.bK outv).2):=by kernel_rfl
theorem aG.L1.run:bD aG.L1.call aG.L1.aq aG.L1.add aG.L1.F:=fy (fx [.d tB,.d (.slice pR),.d ti,.d ti,.d tU,.d ti,.d ti,.d pR] fun _=>by kernel_rfl)
theorem aG.L1.aE:fY @aG.L1.R aG.L1.st aG.L1.aq aG.L1.add aG.L1.F aG.L1.bK aG.L1.Ok:=gj
theorem aG.L1.step{R:Type}(outv_2:Bs)(t16_2:(List oK))(t17_2:Int)(t18_2:Int)(t28:Bs)(t29:Int)(t30:Int)(n5:oK)(kn:AS→Option R)(kx:Exit→AS→Option R):aG.L1.R (outv_2,t16_2,t17_2,t18_2,t28,t29,t30,n5) kn kx=
  aD ((gM t30 t29)) (
   aD (dZ t30 (((List.length t28):Nat):Int)) (
   ab (eM.call (outv_2,(nth tu t28 (Int.toNat t30)))) fun x1=>
   kn (aG.L1.st (x1,t16_2,t17_2,t18_2,t28,t29,(bo .i64 t30 (1:Int)),n5))) none) (
   kx (aG.L1.bK ((t16_2,t17_2,t18_2,n5),outv_2)).1 (aG.L1.bK ((t16_2,t17_2,t18_2,n5),outv_2)).2):=by kernel_rfl
theorem aG.eq{R:Type}(l:Lk)(k:aT→Option R):aG.A l k=
  ab (aS.call l) fun x1=>
  aD ((!x1)) (
   k (aG.out ([]:List Int))) (
   ab (eE.call (([]:List Int),(((List.length l.1):Nat):Int))) fun x2=>
   ab (aG.L0.call (x2,l.1,(((List.length l.1):Nat):Int),(0:Int))) fun x9=>
   k (aG.out x9)):=by kernel_rfl
theorem aG.L1.ok:aG.L1.Ok:=by
 refine aG.L1.aE (fun(o,bs,n,i,ks,m,j,b)=>ks.length - j.toNat) ?_
 rintro⟨o,bs,n,i,ks,m,j,b⟩ ⟨hk12,hl,rfl,k,hk,rfl⟩
 have hk12:ks.length≤12:=hk12
 have hk:k≤ks.length:=hk
 have hl:o.length+8*ks.length≤80000000+8*(k:Int).toNat:=hl
 rw[Int.toNat_natCast]at hl
 by_cases h:k < ks.length
 ·left
  have n1:nth (.int .u64) ks k=ks[k]:=dS (t:= .int .u64) h
  refine⟨(o++iA ks[k],bs,n,i,ks,ks.length,((k+1:Nat):Int),b),⟨hk12,by rw[List.length_append,cO,Int.toNat_natCast];omega,rfl,k+1,by omega,rfl⟩,by simp only[Int.toNat_natCast];omega,?_,fun kn kx=> ?_⟩
  ·simp only[aG.L1.add,aG.L1.F,Int.toNat_natCast]
   rw[AX _ _ _ h]
  ·rw[aG.L1.step]
   simp(disch:=omega) only[↓S1,↓if_pos,↓if_neg,if_pos,if_neg,if_true,if_false,S2,n1]
   rw[eM.run (d:=(o,ks[k])) (by show o.length≤90000000;omega)]
   rfl
 ·right
  obtain rfl:k=ks.length:=by omega
  intro R kn kx
  rw[aG.L1.step]
  simp(disch:=omega) only[↓S1,↓if_pos,↓if_neg,if_pos,if_neg,if_true,if_false,S2,aG.L1.add,aG.L1.F,List.drop_length]
  rfl
theorem aG.L0.ok:aG.L0.Ok:=by
 refine aG.L0.aE (fun(o,bs,n,i)=>bs.length - i.toNat) ?_
 rintro⟨o,bs,n,i⟩ ⟨hb,h4,hl,rfl,k,hk,rfl⟩
 have h4:bs.length≤4:=h4
 have hk:k≤bs.length:=hk
 have hl:o.length≤1000+200*(k:Int).toNat:=hl
 rw[Int.toNat_natCast]at hl
 by_cases h:k < bs.length
 ·left
  have hx:=hb _ (List.getElem_mem h)
  have n1:nth (.pair (.slice (.int .u64)) (.pair (.int .i64) (.pair (.int .i64) (.pair (.int .u64) .unit)))) bs k=bs[k]:=dS (t:=(.pair (.slice (.int .u64)) (.pair (.int .i64) (.pair (.int .i64) (.pair (.int .u64) .unit))))) h
  have e0:=BI o bs[k] hx.1
  refine⟨(GJ o bs[k],bs,bs.length,((k+1:Nat):Int)),⟨hb,h4,by rw[Int.toNat_natCast];omega,rfl,k+1,by omega,rfl⟩,by simp only[Int.toNat_natCast];omega,?_,fun kn kx=> ?_⟩
  ·simp only[aG.L0.add,aG.L0.F,Int.toNat_natCast]
   rw[List.drop_eq_getElem_cons h]
   rfl
  ·rw[aG.L0.step,bB (by omega),bz (by omega) (by omega),Int.toNat_natCast,n1]
   obtain⟨⟨ks,af,dl,sc,u⟩,hbk⟩:∃b,bs[k]=b:=⟨_,rfl⟩
   rw[hbk]at hx e0 ⊢
   obtain⟨h12,ha,hd⟩:=hx
   have h12:ks.length≤12:=h12
   have ha:af≤9223372036854775807:=ha
   have hd:dl≤9223372036854775807:=hd
   have l1:=gQ o ks.length
   have l2:=sG ks (fX o ks.length)
   have l3:=gQ (l7 (fX o ks.length) ks) af
   have l4:=gQ (fX (l7 (fX o ks.length) ks) af) dl
   simp only[ah]
   rw[eE.run (d:=(o,(ks.length:Int))) ⟨by show o.length≤90000000;omega,by show(ks.length:Int)≤9223372036854775807;omega⟩]
   simp only[aa,eE.add,eE.F]
   rw[aG.L1.run (d:=(fX o ks.length,bs,bs.length,k,ks,ks.length,0,(ks,af,dl,sc,u))) ⟨h12,by show(fX o ks.length).length+8*ks.length≤_;omega,rfl,0,by omega,rfl⟩]
   simp only[aa,aG.L1.add,aG.L1.F,Int.toNat_zero,List.drop_zero]
   rw[eE.run (d:=(l7 (fX o ks.length) ks,af)) ⟨by show(l7 (fX o ks.length) ks).length≤90000000;omega,ha⟩]
   simp only[aa,eE.add,eE.F]
   rw[eE.run (d:=(fX (l7 (fX o ks.length) ks) af,dl)) ⟨by show(fX (l7 (fX o ks.length) ks) af).length≤90000000;omega,hd⟩]
   simp only[aa,eE.add,eE.F]
   rw[eM.run (d:=(fX (fX (l7 (fX o ks.length) ks) af) dl,sc)) (by show(fX (fX (l7 (fX o ks.length) ks) af) dl).length≤90000000;omega)]
   simp only[aa,eM.add,eM.F]
   rw[N.mq (by omega)]
   rfl
 ·right
  obtain rfl:k=bs.length:=by omega
  intro R kn kx
  rw[aG.L0.step]
  simp(disch:=omega) only[↓S1,↓if_pos,↓if_neg,if_pos,if_neg,if_true,if_false,S2,aG.L0.add,aG.L0.F,List.drop_length]
  rfl
theorem Ei{l:Lk}(h:jz l=true):(∀b∈l.1,Ir b)∧0 < l.1.length∧l.1.length≤4:=by
 unfold jz at h
 simp only[Bool.and_eq_true,List.all_eq_true,decide_eq_true_eq]at h
 exact⟨fun b hb=>GK (h.1 b hb),h.2⟩
theorem aG.ok:aG.Ok:=by
 rintro l ⟨hl,hb⟩
 have hl:GB l:=hl
 rw[aG.eq,aS.run (d:=l) ⟨hl,hb⟩]
 simp only[aa,aS.add,aS.F,aG.add,aG.F,Eg]
 cases hok:jz l
 ·rfl
 ·obtain⟨h1,h2,h3⟩:=Ei hok
  have l1:=gQ [] l.1.length
  have l0:([]:List Int).length=0:=rfl
  simp only[Bool.not_true,ae,if_true]
  rw[eE.run (d:=([],(l.1.length:Int))) ⟨by show([]:List Int).length≤90000000;omega,by show(l.1.length:Int)≤9223372036854775807;omega⟩]
  simp only[aa,eE.add,eE.F]
  rw[aG.L0.run (d:=(fX [] l.1.length,l.1,l.1.length,0)) ⟨h1,h3,by show(fX [] l.1.length).length≤_;omega,rfl,0,by omega,rfl⟩]
  rfl
theorem xQ(l:Lk):(Eg l).length≤1000:=by
 unfold Eg
 split
 ·rename_i h
  obtain⟨h1,h2,h3⟩:=Ei h
  have key:∀(bs:List oK) (o:List Int),(∀b∈bs,Ir b)→(bs.foldl GJ o).length≤o.length+200*bs.length:=by
   intro bs
   induction bs with
   |nil=>intro o _;exact Nat.le_refl _
   |cons b bs ih=>
    intro o hb
    have e1:=ih (GJ o b) fun x hx=>hb x (List.mem_cons_of_mem _ hx)
    have e2:=BI o b (hb b List.mem_cons_self).1
    rw[List.foldl_cons,List.length_cons];omega
  have e:=key l.1 (fX [] l.1.length) h1
  have e2:=gQ [] l.1.length
  have l0:([]:List Int).length=0:=rfl
  omega
 ·exact Nat.zero_le _
def Ia:ByteArray:=⟨#[108,111,99,107]⟩
def Ix(l:Lk):List Int:=if jz l then ym Ia [Eg l] else List.replicate 32 0
noncomputable def aG.E:=Entry.cD [some nS] aG.st aG.aq aG.add aG.F aG.out
noncomputable def aG.call:aG.D→Option aG.X:=bC aG.E aG.st
theorem aG.run:bD aG.call aG.aq aG.add aG.F:=cw (cv [.d nS] fun _=>by kernel_rfl)
noncomputable def aG.sg:SG Tryz.prog:=⟨110,aK,aG.E,.fn 2 (by kernel_rfl) aG.ok (And.intro (.cD aG.L0.ok (by kernel_rfl)) (And.intro (.cD aG.L1.ok (by kernel_rfl)) trivial))⟩
abbrev fN.D:=Lk
def fN.st:fN.D→SA:=fun l=>([.d nS l],[])
abbrev fN.Y:=Bs
abbrev fN.X:=Bs
def fN.out:fN.X→aT:=fun x=>⟨.d tH x,[],[]⟩
def fN.add:fN.D→fN.Y→fN.X:=fun l y=>y
def fN.aq:fN.D→Prop:=fun l=>GB l∧l.1.length≤9223372036854775807
def fN.F:fN.D→fN.Y:=fun l=>Ix l
noncomputable def fN.G:dU:=eZ (P:=Tryz.prog) [aS.sg,aG.sg,cG.sg]
noncomputable def fN.an:eu:= {}
noncomputable def fN.A:= @cq Tryz.prog fN.G fN.an 0 Tryz.f81 _ fN.st
abbrev fN.Ok:=cr @fN.A fN.aq fN.add fN.F fN.out
theorem fN.eq{R:Type}(l:Lk)(k:aT→Option R):fN.A l k=
  ab (aS.call l) fun x1=>
  aD ((!x1)) (
   k (fN.out (List.replicate 32 (0:Int)))) (
   ab (aG.call l) fun x2=>
   ab (cG.call ((⟨#[108,111,99,107]⟩:ByteArray),[x2])) fun x3=>
   k (fN.out x3)):=by kernel_rfl
theorem fN.ok:fN.Ok:=by
 rintro l ⟨hl,hb⟩
 have hl:GB l:=hl
 have hlen:=xQ l
 rw[fN.eq,aS.run (d:=l) ⟨hl,hb⟩,aG.run (d:=l) ⟨hl,hb⟩]
 simp only[aa,aS.add,aS.F,aG.add,aG.F,fN.add,fN.F,Ix]
 rw[cG.run (d:=((⟨#[108,111,99,107]⟩:ByteArray),[Eg l])) (Af (by decide) (by omega))]
 cases jz l <;> rfl
noncomputable def fN.E:=Entry.cD [some nS] fN.st fN.aq fN.add fN.F fN.out
noncomputable def fN.call:fN.D→Option fN.X:=bC fN.E fN.st
theorem fN.run:bD fN.call fN.aq fN.add fN.F:=cw (cv [.d nS] fun _=>by kernel_rfl)
noncomputable def fN.sg:SG Tryz.prog:=⟨81,aK,fN.E,.fn 0 (by kernel_rfl) fN.ok trivial⟩
end Go.Ab
