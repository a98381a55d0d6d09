/-
  Made short by a program of mine (wip/tools/mini.py).
-/
import Derived.Test.YtcdokckdlaegdaaGreatS18x3
import Derived.Test.YtcdokckdlaegdaaGreatProg
set_option linter.unusedVariables false
set_option linter.unusedSimpArgs false
namespace Go.Ab
open Go.Proofs
set_option maxRecDepth 100000
set_option linter.unusedVariables false
set_option linter.unusedSimpArgs false
set_option synthInstance.maxSize 5000
abbrev binary.D:=Bs
def binary.st:binary.D→SA:=fun b=>([.d tB b],[])
abbrev binary.Y:=Int
abbrev binary.X:=Int
def binary.out:binary.X→aT:=fun x=>⟨.d (.int .u32) x,[],[]⟩
def binary.add:binary.D→binary.Y→binary.X:=fun b y=>y
def binary.aq:binary.D→Prop:=fun b=>4≤b.length
def binary.F:binary.D→binary.Y:=fun b=>vw (HY (b.getD 0 0) (b.getD 1 0) (b.getD 2 0) (b.getD 3 0))
noncomputable def binary.G:dX:=eX (P:=Tryz.prog) []
noncomputable def binary.an:ej:= {}
noncomputable def binary.A:= @cq Tryz.prog binary.G binary.an 0 Tryz.f184 _ binary.st
abbrev binary.Ok:=cr @binary.A binary.aq binary.add binary.F binary.out
theorem binary.eq{R:Type}(b:Bs)(k:aT→Option R):binary.A b k=
 aC (dY (0:Int) (((List.length b):Nat):Int)) (
 aC (dY (1:Int) (((List.length b):Nat):Int)) (
 aC (dY (2:Int) (((List.length b):Nat):Int)) (
 aC (dY (3:Int) (((List.length b):Nat):Int)) (
 k (binary.out (ct .or .u32 (ct .or .u32 (ct .or .u32 (jC .u32 (dI .u32 (nth tb b 0)) (24:Int)) (jC .u32 (dI .u32 (nth tb b 1)) (16:Int))) (jC .u32 (dI .u32 (nth tb b 2)) (8:Int))) (dI .u32 (nth tb b 3))))) none) none) none) none:=by kernel_rfl
theorem binary.ok:binary.Ok:=by
 intro b h
 have h:4≤b.length:=h
 rw[binary.eq,bz (by omega) (by omega),bz (by omega) (by omega),bz (by omega) (by omega),bz (by omega) (by omega)]
 simp only[ah,BU,ri,ju]
 rfl
noncomputable def binary.E:=Entry.cF [some tB] binary.st binary.aq binary.add binary.F binary.out
noncomputable def binary.call:binary.D→Option binary.X:=bC binary.E binary.st
theorem binary.run:bD binary.call binary.aq binary.add binary.F:=cz (cv [.d tB] fun _=>by kernel_rfl)
noncomputable def binary.sg:SG Tryz.prog:=⟨184,aK,binary.E,.fn 0 (by kernel_rfl) binary.ok trivial⟩
abbrev de.D:=Int×Int
def de.st:de.D→SA:=fun(x,kv)=>([.d (.int .u32) x,.d ti kv],[])
abbrev de.Y:=Int
abbrev de.X:=Int
def de.out:de.X→aT:=fun x=>⟨.d (.int .u32) x,[],[]⟩
def de.add:de.D→de.Y→de.X:=fun(x,kv) y=>y
def rl(w:W)(k:Nat):W:=w <<< k ||| w >>> (32 - k)
def de.aq:de.D→Prop:=fun(x,k)=>0≤x∧x < 4294967296
def de.F:de.D→de.Y:=fun(x,k)=>vw (rl (BitVec.ofInt 32 x) (k%32).toNat)
noncomputable def de.G:dX:=eX (P:=Tryz.prog) []
noncomputable def de.an:ej:= {}
noncomputable def de.A:= @cq Tryz.prog de.G de.an 0 Tryz.f175 _ de.st
abbrev de.Ok:=cr @de.A de.aq de.add de.F de.out
theorem de.eq{R:Type}(x:Int)(kv:Int)(k:aT→Option R):de.A (x,kv) k=
 aC (iW (ct .and .u64 (dI .u64 kv) (31:Int))) (
 aC (iW (bS .u64 (32:Int) (ct .and .u64 (dI .u64 kv) (31:Int)))) (
 k (de.out (ct .or .u32 (jC .u32 x (ct .and .u64 (dI .u64 kv) (31:Int))) (bW .u32 x (bS .u64 (32:Int) (ct .and .u64 (dI .u64 kv) (31:Int))))))) none) none:=by kernel_rfl
theorem HX(k:Int):ct .and .u64 (dI .u64 k) 31=k%32:=by
 have e:(31:Int)=vw (31:BitVec 64):=rfl
 rw[xN,e,Cx]
 simp only
 have:(31:BitVec 64)=BitVec.ofNat 64 (2^5 - 1):=rfl
 unfold vw
 rw[BitVec.toNat_and,BitVec.toNat_ofInt,show(31:BitVec 64).toNat=2^5 - 1 from rfl,Nat.and_two_pow_sub_one_eq_mod]
 omega
theorem de.ok:de.Ok:=by
 rintro⟨x,k⟩ ⟨h1,h2⟩
 have e1:bS .u64 32 (k%32)=32 - k%32:=by
  unfold bS
  rw[wrap_u64,gL]
  omega
 have hx:x=vw (BitVec.ofInt 32 x):=by rw[gL];omega
 rw[de.eq,HX,e1,nj (by omega),nj (by omega)]
 simp only[ah]
 have e2:ct .or .u32 (jC .u32 x (k%32)) (bW .u32 x (32 - k%32))=vw (rl (BitVec.ofInt 32 x) (k%32).toNat):=by
  conv=>lhs;rw[hx]
  rw[ri,pj,ju]
  simp only[rl]
  congr 3
  omega
 rw[e2]
 rfl
noncomputable def de.E:=Entry.cF [some (.int .u32),some ti] de.st de.aq de.add de.F de.out
noncomputable def de.call:de.D→Option de.X:=bC de.E de.st
theorem de.run:bD de.call de.aq de.add de.F:=cz (cv [.d (.int .u32),.d ti] fun _=>by kernel_rfl)
noncomputable def de.sg:SG Tryz.prog:=⟨175,aK,de.E,.fn 0 (by kernel_rfl) de.ok trivial⟩
theorem de.at(w:W)(k:Int):de.call (vw w,k)=some (vw (rl w (k%32).toNat)):=by
 have h:de.aq (vw w,k):=⟨tc w,by have:=Fg w;simpa using this⟩
 rw[de.run h]
 show some (vw (rl (BitVec.ofInt 32 (vw w)) (k%32).toNat))=_
 rw[kN]
abbrev table.D:=Unit
def table.st:table.D→SA:=fun _=>([],[])
abbrev table.Y:=(List Int)
abbrev table.X:=(List Int)
def table.out:table.X→aT:=fun x=>⟨.d (.arr 64 (.int .u32)) x,[],[]⟩
def table.add:table.D→table.Y→table.X:=fun _ y=>y
def table.aq:table.D→Prop:=fun _=>True
def table.F:table.D→table.Y:=fun _=>sJ
noncomputable def table.G:dX:=eX (P:=Tryz.prog) []
noncomputable def table.an:ej:= {}
noncomputable def table.A:= @cq Tryz.prog table.G table.an 0 Tryz.f174 _ table.st
abbrev table.Ok:=cr @table.A table.aq table.add table.F table.out
theorem table.eq{R:Type}(k:aT→Option R):table.A () k=
 k (table.out [(1116352408:Int),(1899447441:Int),(3049323471:Int),(3921009573:Int),(961987163:Int),(1508970993:Int),(2453635748:Int),(2870763221:Int),(3624381080:Int),(310598401:Int),(607225278:Int),(1426881987:Int),(1925078388:Int),(2162078206:Int),(2614888103:Int),(3248222580:Int),(3835390401:Int),(4022224774:Int),(264347078:Int),(604807628:Int),(770255983:Int),(1249150122:Int),(1555081692:Int),(1996064986:Int),(2554220882:Int),(2821834349:Int),(2952996808:Int),(3210313671:Int),(3336571891:Int),(3584528711:Int),(113926993:Int),(338241895:Int),(666307205:Int),(773529912:Int),(1294757372:Int),(1396182291:Int),(1695183700:Int),(1986661051:Int),(2177026350:Int),(2456956037:Int),(2730485921:Int),(2820302411:Int),(3259730800:Int),(3345764771:Int),(3516065817:Int),(3600352804:Int),(4094571909:Int),(275423344:Int),(430227734:Int),(506948616:Int),(659060556:Int),(883997877:Int),(958139571:Int),(1322822218:Int),(1537002063:Int),(1747873779:Int),(1955562222:Int),(2024104815:Int),(2227730452:Int),(2361852424:Int),(2428436474:Int),(2756734187:Int),(3204031479:Int),(3329325298:Int)]):=by kernel_rfl
theorem table.ok:table.Ok:=by
 intro d _
 rw[table.eq]
 rfl
noncomputable def table.E:=Entry.cF [] table.st table.aq table.add table.F table.out
noncomputable def table.call:table.D→Option table.X:=bC table.E table.st
theorem table.run:bD table.call table.aq table.add table.F:=cz (cv [] fun _=>by kernel_rfl)
noncomputable def table.sg:SG Tryz.prog:=⟨174,aK,table.E,.fn 0 (by kernel_rfl) table.ok trivial⟩
abbrev first.D:=Unit
def first.st:first.D→SA:=fun _=>([],[])
abbrev first.Y:=(List Int)
abbrev first.X:=(List Int)
def first.out:first.X→aT:=fun x=>⟨.d (.arr 8 (.int .u32)) x,[],[]⟩
def first.add:first.D→first.Y→first.X:=fun _ y=>y
def first.aq:first.D→Prop:=fun _=>True
def first.F:first.D→first.Y:=fun _=>j4.l
noncomputable def first.G:dX:=eX (P:=Tryz.prog) []
noncomputable def first.an:ej:= {}
noncomputable def first.A:= @cq Tryz.prog first.G first.an 0 Tryz.f147 _ first.st
abbrev first.Ok:=cr @first.A first.aq first.add first.F first.out
theorem first.eq{R:Type}(k:aT→Option R):first.A () k=
 k (first.out [(1779033703:Int),(3144134277:Int),(1013904242:Int),(2773480762:Int),(1359893119:Int),(2600822924:Int),(528734635:Int),(1541459225:Int)]):=by kernel_rfl
theorem first.ok:first.Ok:=by
 intro d _
 rw[first.eq]
 rfl
noncomputable def first.E:=Entry.cF [] first.st first.aq first.add first.F first.out
noncomputable def first.call:first.D→Option first.X:=bC first.E first.st
theorem first.run:bD first.call first.aq first.add first.F:=cz (cv [] fun _=>by kernel_rfl)
noncomputable def first.sg:SG Tryz.prog:=⟨147,aK,first.E,.fn 0 (by kernel_rfl) first.ok trivial⟩
set_option synthInstance.maxSize 5000
abbrev schedule.L0.D:=Bs×Int×(List Int)
def schedule.L0.st:schedule.L0.D→AS:=fun(b_2,t8,n2)=>⟨([.d tB b_2,.undef,.ptr (.new 2 0) 0 [] 0]++bu 5 ([.d ti t8]++bu 52 [])),[],([[],[],[.obj 0 false (.d (.arr 64 (.int .u32)) n2)]]++cw 58 [])⟩
abbrev schedule.L0.Y0:=(List Int)
abbrev schedule.L0.X0:=(List Int)
def schedule.L0.bM:schedule.L0.X0→Exit×AS:=fun x=>(.exit 0,⟨([.undef,.undef,.ptr (.new 2 0) 0 [] 0]++bu 58 []),[],([[],[],[.obj 0 false (.d (.arr 64 (.int .u32)) x)]]++cw 58 [])⟩)
abbrev schedule.L0.X:=schedule.L0.X0
abbrev schedule.L0.Y:=schedule.L0.Y0
def schedule.L0.out:schedule.L0.X→Out (Exit×AS):=fun x=> .ok (schedule.L0.bM x)
def schedule.L0.add:schedule.L0.D→schedule.L0.Y→schedule.L0.X:=fun(b_2,t8,n2) y=>y
abbrev schedule.D:=Bs
def schedule.st:schedule.D→SA:=fun b=>([.d tB b],[])
abbrev schedule.Y:=(List Int)
abbrev schedule.X:=(List Int)
def schedule.out:schedule.X→aT:=fun x=>⟨.d (.arr 64 (.int .u32)) x,[],[]⟩
def schedule.add:schedule.D→schedule.Y→schedule.X:=fun b y=>y
def wl(l:List W):List Int:=l.map vw
def oY(l:List W):List Int:=wl l++List.replicate (64 - l.length) 0
def oE(b:List Int)(k:Nat):List W:=if k≤16 then(words b).take k else Fq (words b) (k - 16)
def schedule.L0.aq:schedule.L0.D→Prop:=fun(b,t8,n2)=>64≤b.length∧∃k:Nat,k≤64∧t8=k∧n2=oY (oE b k)
def schedule.L0.F:schedule.L0.D→schedule.L0.Y:=fun(b,t8,n2)=>wl (sched b)
def schedule.aq:schedule.D→Prop:=fun b=>64≤b.length
def schedule.F:schedule.D→schedule.Y:=fun b=>wl (sched b)
noncomputable def schedule.G:dX:=eX (P:=Tryz.prog) [binary.sg,de.sg]
noncomputable def schedule.L0.E:=cf.cF schedule.L0.st schedule.L0.aq schedule.L0.add schedule.L0.F schedule.L0.out
noncomputable def schedule.L0.call:schedule.L0.D→Option schedule.L0.X:=dO schedule.L0.E schedule.L0.st
noncomputable def schedule.an:ej:= {loops:=ky [(2,{bt:=[0,2,8],sites:=[2]})],outs:=kr [(2,{bt:=[2],sites:=[2]},{bt:=[2]})],gk:=kY [(2,schedule.L0.E)]}
noncomputable def schedule.A:= @cq Tryz.prog schedule.G schedule.an 0 Tryz.f173 _ schedule.st
abbrev schedule.Ok:=cr @schedule.A schedule.aq schedule.add schedule.F schedule.out
noncomputable def schedule.L0.R:= @cP Tryz.prog schedule.G schedule.an 0 Tryz.f173 0 _ schedule.L0.st
abbrev schedule.L0.Ok:=fg Tryz.prog schedule.G schedule.an 0 Tryz.f173 0 schedule.L0.st schedule.L0.aq schedule.L0.add schedule.L0.F schedule.L0.out
theorem schedule.L0.run:bD schedule.L0.call schedule.L0.aq schedule.L0.add schedule.L0.F:=fw (fk [.d tB,.d ti,.d (.slice (.int .u32))] fun _=>by kernel_rfl)
theorem schedule.L0.aF:gg @schedule.L0.R schedule.L0.st schedule.L0.aq schedule.L0.add schedule.L0.F schedule.L0.bM schedule.L0.Ok:=gj
theorem schedule.L0.step{R:Type}(b_2:Bs)(t8:Int)(n2:(List Int))(kn:AS→Option R)(kx:Exit→AS→Option R):schedule.L0.R (b_2,t8,n2) kn kx=
  aC ((gM t8 (64:Int))) (
   aC ((gM t8 (16:Int))) (
    aC (inc (eS .i64 (4:Int) t8) (((List.length b_2):Nat):Int)) (
    ab (binary.call (cut b_2 (Int.toNat (eS .i64 (4:Int) t8)) ((List.length b_2) - (Int.toNat (eS .i64 (4:Int) t8))))) fun x1=>
    aC (dY t8 (64:Int)) (
    aC (decide ((Int.toNat t8) < (List.length n2))) (
    aC (decide ((((Int.toNat t8)*1)+0)=(0+((Int.toNat t8)*1)))) (
    aC (decide ((Int.toNat t8) < (List.length n2))) (
    kn (schedule.L0.st (b_2,(bw .i64 t8 (1:Int)),(List.set n2 (Int.toNat t8) x1)))) none) none) none) none) none) (
    aC (dY (bS .i64 t8 (15:Int)) (64:Int)) (
    aC (decide ((Int.toNat (bS .i64 t8 (15:Int))) < (List.length n2))) (
    aC (decide ((((Int.toNat (bS .i64 t8 (15:Int)))*1)+0)=(0+((Int.toNat (bS .i64 t8 (15:Int)))*1)))) (
    aC (dY (bS .i64 t8 (2:Int)) (64:Int)) (
    aC (decide ((Int.toNat (bS .i64 t8 (2:Int))) < (List.length n2))) (
    aC (decide ((((Int.toNat (bS .i64 t8 (2:Int)))*1)+0)=(0+((Int.toNat (bS .i64 t8 (2:Int)))*1)))) (
    ab (de.call ((nth (.int .u32) n2 (Int.toNat (bS .i64 t8 (15:Int)))),(-7:Int))) fun x2=>
    ab (de.call ((nth (.int .u32) n2 (Int.toNat (bS .i64 t8 (15:Int)))),(-18:Int))) fun x3=>
    ab (de.call ((nth (.int .u32) n2 (Int.toNat (bS .i64 t8 (2:Int)))),(-17:Int))) fun x4=>
    ab (de.call ((nth (.int .u32) n2 (Int.toNat (bS .i64 t8 (2:Int)))),(-19:Int))) fun x5=>
    aC (dY (bS .i64 t8 (16:Int)) (64:Int)) (
    aC (decide ((Int.toNat (bS .i64 t8 (16:Int))) < (List.length n2))) (
    aC (decide ((((Int.toNat (bS .i64 t8 (16:Int)))*1)+0)=(0+((Int.toNat (bS .i64 t8 (16:Int)))*1)))) (
    aC (dY (bS .i64 t8 (7:Int)) (64:Int)) (
    aC (decide ((Int.toNat (bS .i64 t8 (7:Int))) < (List.length n2))) (
    aC (decide ((((Int.toNat (bS .i64 t8 (7:Int)))*1)+0)=(0+((Int.toNat (bS .i64 t8 (7:Int)))*1)))) (
    aC (dY t8 (64:Int)) (
    aC (decide ((Int.toNat t8) < (List.length n2))) (
    aC (decide ((((Int.toNat t8)*1)+0)=(0+((Int.toNat t8)*1)))) (
    aC (decide ((Int.toNat t8) < (List.length n2))) (
    kn (schedule.L0.st (b_2,(bw .i64 t8 (1:Int)),(List.set n2 (Int.toNat t8) (bw .u32 (bw .u32 (bw .u32 (nth (.int .u32) n2 (Int.toNat (bS .i64 t8 (16:Int)))) (ct .xor .u32 (ct .xor .u32 x2 x3) (bW .u32 (nth (.int .u32) n2 (Int.toNat (bS .i64 t8 (15:Int)))) (3:Int)))) (nth (.int .u32) n2 (Int.toNat (bS .i64 t8 (7:Int))))) (ct .xor .u32 (ct .xor .u32 x4 x5) (bW .u32 (nth (.int .u32) n2 (Int.toNat (bS .i64 t8 (2:Int)))) (10:Int)))))))) none) none) none) none) none) none) none) none) none) none) none) none) none) none) none) none)) (
   kx (schedule.L0.bM n2).1 (schedule.L0.bM n2).2):=by kernel_rfl
theorem schedule.eq{R:Type}(b:Bs)(k:aT→Option R):schedule.A b k=
 ab (schedule.L0.call (b,(0:Int),(List.replicate 64 (0:Int)))) fun x6=>
 k (schedule.out x6):=by kernel_rfl
theorem An(b:List Int)(k:Nat)(h:k≤64):(oE b k).length=k:=by
 unfold oE
 split
 ·simp[eZ];omega
 ·rw[mY,eZ];omega
theorem F7(b:List Int):oE b 64=sched b:=rfl
theorem Du(b:List Int)(k:Nat)(h:k < 16):oE b (k+1)=oE b k++ [be b k]:=by
 unfold oE
 rw[if_pos (by omega),if_pos (by omega),List.take_succ_eq_append_getElem (by rw[eZ];exact h)]
 simp[words]
theorem Fj(b:List Int)(k:Nat)(h:16≤k):oE b (k+1)=ext (oE b k):=by
 unfold oE
 rw[if_neg (by omega)]
 by_cases h16:k=16
 ·subst h16
  rw[if_pos (by omega),List.take_of_length_le (by rw[eZ];omega)]
  rfl
 ·rw[if_neg (by omega),show k+1 - 16=(k - 16)+1 by omega]
  rfl
theorem xA(l:List W)(h:l.length≤64):(oY l).length=64:=by simp[oY,wl];omega
theorem pM(l:List W)(i:Nat)(h:i < l.length):nth (.int .u32) (oY l) i=vw (l.getD i 0):=by
 unfold nth oY wl
 rw[List.getD_eq_getElem?_getD,List.getElem?_append_left (by simpa using h)]
 simp[h]
theorem wG(l:List W)(w:W)(h:l.length < 64):(oY l).set l.length (vw w)=oY (l++ [w]):=by
 unfold oY wl
 rw[List.set_append_right _ _ (by simp)]
 simp only[List.length_map,Nat.sub_self,List.map_append,List.length_append,List.length_cons,List.length_nil]
 rw[show 64 - l.length=(64 - (l.length+(0+1)))+1 by omega,List.replicate_succ,List.set_cons_zero]
 simp
theorem Aw(l:List W)(h:l.length=64):oY l=wl l:=by simp[oY,h]
theorem GM(b:List Int)(k:Nat)(h:4*k+4≤b.length):HY ((cut b (4*k) (b.length - 4*k)).getD 0 0) ((cut b (4*k) (b.length - 4*k)).getD 1 0) ((cut b (4*k) (b.length - 4*k)).getD 2 0) ((cut b (4*k) (b.length - 4*k)).getD 3 0)=be b k:=by
 have e:∀j,j < 4→(cut b (4*k) (b.length - 4*k)).getD j 0=b.getD (4*k+j) 0:=fun j hj=>by
  unfold cut
  rw[List.getD_eq_getElem?_getD,List.getD_eq_getElem?_getD,List.getElem?_take_of_lt (by omega),List.getElem?_drop]
 unfold be
 rw[e 0 (by omega),e 1 (by omega),e 2 (by omega),e 3 (by omega),Nat.add_zero]
theorem schedule.L0.ok:schedule.L0.Ok:=by
 refine schedule.L0.aF (fun(b,t8,n2)=>64 - t8.toNat) ?_
 rintro⟨b,t8,n2⟩ ⟨hb,k,hk,rfl,rfl⟩
 have hwl:=An b k hk
 have hal:=xA (oE b k) (by omega)
 by_cases h:k < 64
 ·left
  refine⟨(b,((k+1:Nat):Int),oY (oE b (k+1))),⟨hb,k+1,by omega,rfl,rfl⟩,by simp;omega,rfl,fun kn kx=> ?_⟩
  have e1:bw .i64 (k:Int) 1=((k+1:Nat):Int):=by rw[dL (by omega) (by omega)];omega
  have e2:Int.toNat (k:Int)=k:=by omega
  rw[schedule.L0.step,bB (by omega)]
  simp only[ah,e1,e2,hal,Nat.mul_one,Nat.zero_add,Nat.add_zero,decide_true]
  by_cases h16:k < 16
  ·have e3:eS .i64 4 (k:Int)=((4*k:Nat):Int):=by rw[jk (by omega) (by omega)];omega
   have e4:Int.toNat ((4*k:Nat):Int)=4*k:=by omega
   rw[bB (by omega),e3,kE (by omega) (by omega),e4,bz (by omega) (by omega),aD h]
   have hp:binary.aq (cut b (4*k) (b.length - 4*k)):=by
    show 4≤_
    rw[oe (by omega)];omega
   simp only[ah,binary.run hp,aa]
   have e5:binary.add (cut b (4*k) (b.length - 4*k)) (binary.F (cut b (4*k) (b.length - 4*k)))=vw (be b k):=by
    show vw (HY _ _ _ _)=_
    rw[GM b k (by omega)]
   have e6:=wG (oE b k) (be b k) (by omega)
   rw[hwl]at e6
   rw[e5,e6,Du b k h16]
  ·have a15:Int.toNat (bS .i64 (k:Int) 15)=k - 15:=by rw[fe (by omega) (by omega)];omega
   have a2:Int.toNat (bS .i64 (k:Int) 2)=k - 2:=by rw[fe (by omega) (by omega)];omega
   have a16:Int.toNat (bS .i64 (k:Int) 16)=k - 16:=by rw[fe (by omega) (by omega)];omega
   have a7:Int.toNat (bS .i64 (k:Int) 7)=k - 7:=by rw[fe (by omega) (by omega)];omega
   have i15:dY (bS .i64 (k:Int) 15) 64=true:=bz (by rw[fe (by omega) (by omega)];omega) (by rw[fe (by omega) (by omega)];omega)
   have i2:dY (bS .i64 (k:Int) 2) 64=true:=bz (by rw[fe (by omega) (by omega)];omega) (by rw[fe (by omega) (by omega)];omega)
   have i16:dY (bS .i64 (k:Int) 16) 64=true:=bz (by rw[fe (by omega) (by omega)];omega) (by rw[fe (by omega) (by omega)];omega)
   have i7:dY (bS .i64 (k:Int) 7) 64=true:=bz (by rw[fe (by omega) (by omega)];omega) (by rw[fe (by omega) (by omega)];omega)
   have i0:dY (k:Int) 64=true:=bz (by omega) (by omega)
   have d15:decide (k - 15 < 64)=true:=aD (by omega)
   have d2:decide (k - 2 < 64)=true:=aD (by omega)
   have d16:decide (k - 16 < 64)=true:=aD (by omega)
   have d7:decide (k - 7 < 64)=true:=aD (by omega)
   have d0:decide (k < 64)=true:=aD h
   rw[bm (by omega)]
   simp only[ah,ae,a15,a2,a16,a7,i15,i2,i16,i7,i0,d15,d2,d16,d7,d0,pM (oE b k) (k - 15) (by omega),pM (oE b k) (k - 2) (by omega),pM (oE b k) (k - 16) (by omega),pM (oE b k) (k - 7) (by omega),de.at,aa,ju,pj,nS]
   have e6:=wG (oE b k) (Gw (oE b k) k) (by omega)
   rw[hwl]at e6
   rw[Fj b k (by omega),ext,hwl,←e6]
   rfl
 ·right
  obtain rfl:k=64:=by omega
  intro R kn kx
  rw[schedule.L0.step,bm (by omega),Aw _ hwl,F7]
  simp only[ae,schedule.L0.add,schedule.L0.F]
theorem schedule.ok:schedule.Ok:=by
 intro b hb
 have hp:schedule.L0.aq (b,0,List.replicate 64 0):=⟨hb,0,by omega,rfl,rfl⟩
 rw[schedule.eq,schedule.L0.run hp]
 simp only[aa,schedule.L0.add,schedule.L0.F,schedule.add,schedule.F]
noncomputable def schedule.E:=Entry.cF [some tB] schedule.st schedule.aq schedule.add schedule.F schedule.out
noncomputable def schedule.call:schedule.D→Option schedule.X:=bC schedule.E schedule.st
theorem schedule.run:bD schedule.call schedule.aq schedule.add schedule.F:=cz (cv [.d tB] fun _=>by kernel_rfl)
noncomputable def schedule.sg:SG Tryz.prog:=⟨173,aK,schedule.E,.fn 1 (by kernel_rfl) schedule.ok (And.intro (.cF schedule.L0.ok (by kernel_rfl)) trivial)⟩
set_option synthInstance.maxSize 5000
abbrev mix.L0.D:=(List Int)×Int×(List Int)×(List Int)×(List Int)×(List Int)
def mix.L0.st:mix.L0.D→AS:=fun(h_2,t18,n4,n5,n6,n7)=>⟨([.undef,.undef,.eI (.arr 8 (.int .u32)) h_2,.undef,.ptr (.new 4 0) 0 [] 0,.ptr (.new 5 0) 0 [] 0,.ptr (.new 6 0) 0 [] 0,.ptr (.new 7 0) 0 [] 0]++bu 10 ([.d ti t18]++bu 98 [])),[],(cw 4 ([[.obj 0 false (.d (.arr 8 (.int .u32)) n4)],[.obj 0 false (.d (.arr 64 (.int .u32)) n5)],[.obj 0 false (.d (.arr 64 (.int .u32)) n6)],[.obj 0 false (.d (.arr 8 (.int .u32)) n7)]]++cw 109 []))⟩
abbrev mix.L0.Y0:=(List Int)
abbrev mix.L0.X0:=((List Int)×(List Int))×((List Int))
def mix.L0.bM:mix.L0.X0→Exit×AS:=fun x=>(.exit 0,⟨([.undef,.undef,.eI (.arr 8 (.int .u32)) x.1.1,.undef,.ptr (.new 4 0) 0 [] 0,.undef,.undef,.ptr (.new 7 0) 0 [] 0]++bu 109 []),[],(cw 4 ([[.obj 0 false (.d (.arr 8 (.int .u32)) x.1.2)],[],[],[.obj 0 false (.d (.arr 8 (.int .u32)) x.2)]]++cw 109 []))⟩)
abbrev mix.L0.X:=mix.L0.X0
abbrev mix.L0.Y:=mix.L0.Y0
def mix.L0.out:mix.L0.X→Out (Exit×AS):=fun x=> .ok (mix.L0.bM x)
def mix.L0.add:mix.L0.D→mix.L0.Y→mix.L0.X:=fun(h_2,t18,n4,n5,n6,n7) y=>((h_2,n4),y)
abbrev mix.L1.D:=(List Int)×Int×(List Int)×(List Int)
def mix.L1.st:mix.L1.D→AS:=fun(h_3,t104,n4_2,n7_2)=>⟨([.undef,.undef,.eI (.arr 8 (.int .u32)) h_3,.undef,.ptr (.new 4 0) 0 [] 0,.undef,.undef,.ptr (.new 7 0) 0 [] 0]++bu 96 ([.d ti t104]++bu 12 [])),[],(cw 4 ([[.obj 0 false (.d (.arr 8 (.int .u32)) n4_2)],[],[],[.obj 0 false (.d (.arr 8 (.int .u32)) n7_2)]]++cw 109 []))⟩
abbrev mix.L1.Y0:=(List Int)
abbrev mix.L1.X0:=((List Int))×((List Int))
def mix.L1.bM:mix.L1.X0→Exit×AS:=fun x=>(.exit 2,⟨(bu 4 ([.ptr (.new 4 0) 0 [] 0,.undef,.undef,.ptr (.new 7 0) 0 [] 0]++bu 109 [])),[],(cw 4 ([[.obj 0 false (.d (.arr 8 (.int .u32)) x.1)],[],[],[.obj 0 false (.d (.arr 8 (.int .u32)) x.2)]]++cw 109 []))⟩)
abbrev mix.L1.X:=mix.L1.X0
abbrev mix.L1.Y:=mix.L1.Y0
def mix.L1.out:mix.L1.X→Out (Exit×AS):=fun x=> .ok (mix.L1.bM x)
def mix.L1.add:mix.L1.D→mix.L1.Y→mix.L1.X:=fun(h_3,t104,n4_2,n7_2) y=>(n4_2,y)
abbrev mix.D:=(List Int)×Bs
def mix.st:mix.D→SA:=fun(h,b)=>([.d (.arr 8 (.int .u32)) h,.d tB b],[])
abbrev mix.Y:=(List Int)
abbrev mix.X:=(List Int)
def mix.out:mix.X→aT:=fun x=>⟨.d (.arr 8 (.int .u32)) x,[],[]⟩
def mix.add:mix.D→mix.Y→mix.X:=fun(h,b) y=>y
def yp(l:List Int):St:=⟨BitVec.ofInt 32 (l.getD 0 0),BitVec.ofInt 32 (l.getD 1 0),BitVec.ofInt 32 (l.getD 2 0),BitVec.ofInt 32 (l.getD 3 0),BitVec.ofInt 32 (l.getD 4 0),BitVec.ofInt 32 (l.getD 5 0),BitVec.ofInt 32 (l.getD 6 0),BitVec.ofInt 32 (l.getD 7 0)⟩
theorem iX(s:St):yp s.l=s:=by
 obtain⟨a,b,c,d,e,f,g,h⟩:=s
 simp[yp,St.l,kN]
def Fe(l:List Int):List W:=l.map (BitVec.ofInt 32)
theorem oD(l:List W):Fe (wl l)=l:=by
 unfold Fe wl
 rw[List.map_map]
 have:(BitVec.ofInt 32∘vw)=(id:W→W):=by funext w;exact kN w
 rw[this,List.map_id]
def mix.L0.aq:mix.L0.D→Prop:=fun(h,t,n4,n5,n6,n7)=>∃(s:St) (ws:List W) (k:Nat),h=s.l∧n5=wl ws∧ws.length=64∧k≤64∧t=k∧n6=sJ∧n7=(rounds ws s k).l
def mix.L0.F:mix.L0.D→mix.L0.Y:=fun(h,t,n4,n5,n6,n7)=>(rounds (Fe n5) (yp h) 64).l
def mix.L1.aq:mix.L1.D→Prop:=fun(h,t,n4,n7)=>n7.length=8∧∃k:Nat,k≤8∧t=k
def mix.L1.F:mix.L1.D→mix.L1.Y:=fun(h,t,n4,n7)=>from_ (fun i x=>bw .u32 x (nth (.int .u32) h i)) t.toNat n7
def mix.aq:mix.D→Prop:=fun(h,b)=>(∃s:St,h=s.l)∧64≤b.length
def mix.F:mix.D→mix.Y:=fun(h,b)=>(sO (yp h) b).l
noncomputable def mix.G:dX:=eX (P:=Tryz.prog) [schedule.sg,table.sg,de.sg]
noncomputable def mix.L0.E:=cf.cF mix.L0.st mix.L0.aq mix.L0.add mix.L0.F mix.L0.out
noncomputable def mix.L0.call:mix.L0.D→Option mix.L0.X:=dO mix.L0.E mix.L0.st
noncomputable def mix.L1.E:=cf.cF mix.L1.st mix.L1.aq mix.L1.add mix.L1.F mix.L1.out
noncomputable def mix.L1.call:mix.L1.D→Option mix.L1.X:=dO mix.L1.E mix.L1.st
noncomputable def mix.an:ej:= {loops:=ky [(4,{bt:=[2,4,5,6,7,18],sites:=[4,5,6,7]}),(13,{bt:=[2,4,7,104],sites:=[4,7]})],outs:=kr [(4,{bt:=[2,4,7],sites:=[4,7]},{bt:=[4]}),(13,{bt:=[4,7],sites:=[4,7]},{bt:=[4]})],gk:=kY [(4,mix.L0.E),(13,mix.L1.E)]}
noncomputable def mix.A:= @cq Tryz.prog mix.G mix.an 0 Tryz.f148 _ mix.st
abbrev mix.Ok:=cr @mix.A mix.aq mix.add mix.F mix.out
noncomputable def mix.L0.R:= @cP Tryz.prog mix.G mix.an 0 Tryz.f148 0 _ mix.L0.st
abbrev mix.L0.Ok:=fg Tryz.prog mix.G mix.an 0 Tryz.f148 0 mix.L0.st mix.L0.aq mix.L0.add mix.L0.F mix.L0.out
noncomputable def mix.L1.R:= @cP Tryz.prog mix.G mix.an 0 Tryz.f148 1 _ mix.L1.st
abbrev mix.L1.Ok:=fg Tryz.prog mix.G mix.an 0 Tryz.f148 1 mix.L1.st mix.L1.aq mix.L1.add mix.L1.F mix.L1.out
theorem mix.L0.run:bD mix.L0.call mix.L0.aq mix.L0.add mix.L0.F:=fw (fk [.d (.arr 8 (.int .u32)),.d ti,.d (.slice (.int .u32)),.d (.slice (.int .u32)),.d (.slice (.int .u32)),.d (.slice (.int .u32))] fun _=>by kernel_rfl)
theorem mix.L0.aF:gg @mix.L0.R mix.L0.st mix.L0.aq mix.L0.add mix.L0.F mix.L0.bM mix.L0.Ok:=gj
theorem mix.L0.step{R:Type}(h_2:(List Int))(t18:Int)(n4:(List Int))(n5:(List Int))(n6:(List Int))(n7:(List Int))(kn:AS→Option R)(kx:Exit→AS→Option R):mix.L0.R (h_2,t18,n4,n5,n6,n7) kn kx=
  aC ((gM t18 (64:Int))) (
   aC (decide (4 < (List.length n7))) (
   ab (de.call ((nth (.int .u32) n7 4),(-6:Int))) fun x1=>
   aC (decide (4 < (List.length n7))) (
   ab (de.call ((nth (.int .u32) n7 4),(-11:Int))) fun x2=>
   aC (decide (4 < (List.length n7))) (
   ab (de.call ((nth (.int .u32) n7 4),(-25:Int))) fun x3=>
   aC (decide (7 < (List.length n7))) (
   aC (decide (6 < (List.length n7))) (
   aC (decide (4 < (List.length n7))) (
   aC (decide (5 < (List.length n7))) (
   aC (decide (6 < (List.length n7))) (
   aC (dY t18 (64:Int)) (
   aC (decide ((Int.toNat t18) < (List.length n6))) (
   aC (decide ((((Int.toNat t18)*1)+0)=(0+((Int.toNat t18)*1)))) (
   aC (dY t18 (64:Int)) (
   aC (decide ((Int.toNat t18) < (List.length n5))) (
   aC (decide ((((Int.toNat t18)*1)+0)=(0+((Int.toNat t18)*1)))) (
   aC (decide (0 < (List.length n7))) (
   ab (de.call ((nth (.int .u32) n7 0),(-2:Int))) fun x4=>
   aC (decide (0 < (List.length n7))) (
   ab (de.call ((nth (.int .u32) n7 0),(-13:Int))) fun x5=>
   aC (decide (0 < (List.length n7))) (
   ab (de.call ((nth (.int .u32) n7 0),(-22:Int))) fun x6=>
   aC (decide (0 < (List.length n7))) (
   aC (decide (1 < (List.length n7))) (
   aC (decide (2 < (List.length n7))) (
   aC (decide (0 < (List.length n7))) (
   aC (decide (1 < (List.length n7))) (
   aC (decide (0 < (List.length n7))) (
   aC (decide (1 < (List.length n7))) (
   aC (decide (2 < (List.length n7))) (
   aC (decide (3 < (List.length n7))) (
   aC (decide (4 < (List.length n7))) (
   aC (decide (5 < (List.length n7))) (
   aC (decide (6 < (List.length n7))) (
   kn (mix.L0.st (h_2,(bw .i64 t18 (1:Int)),n4,n5,n6,[(bw .u32 (bw .u32 (bw .u32 (bw .u32 (bw .u32 (bw .u32 (nth (.int .u32) n7 7) (ct .xor .u32 (ct .xor .u32 x1 x2) x3)) (ct .xor .u32 (nth (.int .u32) n7 6) (ct .and .u32 (nth (.int .u32) n7 4) (ct .xor .u32 (nth (.int .u32) n7 5) (nth (.int .u32) n7 6))))) (nth (.int .u32) n6 (Int.toNat t18))) (nth (.int .u32) n5 (Int.toNat t18))) (ct .xor .u32 (ct .xor .u32 x4 x5) x6)) (ct .or .u32 (ct .and .u32 (nth (.int .u32) n7 0) (nth (.int .u32) n7 1)) (ct .and .u32 (nth (.int .u32) n7 2) (ct .or .u32 (nth (.int .u32) n7 0) (nth (.int .u32) n7 1))))),(nth (.int .u32) n7 0),(nth (.int .u32) n7 1),(nth (.int .u32) n7 2),(bw .u32 (nth (.int .u32) n7 3) (bw .u32 (bw .u32 (bw .u32 (bw .u32 (nth (.int .u32) n7 7) (ct .xor .u32 (ct .xor .u32 x1 x2) x3)) (ct .xor .u32 (nth (.int .u32) n7 6) (ct .and .u32 (nth (.int .u32) n7 4) (ct .xor .u32 (nth (.int .u32) n7 5) (nth (.int .u32) n7 6))))) (nth (.int .u32) n6 (Int.toNat t18))) (nth (.int .u32) n5 (Int.toNat t18)))),(nth (.int .u32) n7 4),(nth (.int .u32) n7 5),(nth (.int .u32) n7 6)]))) none) none) none) none) none) none) none) none) none) none) none) none) none) none) none) none) none) none) none) none) none) none) none) none) none) none) none) none) none) (
   kx (mix.L0.bM ((h_2,n4),n7)).1 (mix.L0.bM ((h_2,n4),n7)).2):=by kernel_rfl
theorem mix.L1.run:bD mix.L1.call mix.L1.aq mix.L1.add mix.L1.F:=fw (fk [.d (.arr 8 (.int .u32)),.d ti,.d (.slice (.int .u32)),.d (.slice (.int .u32))] fun _=>by kernel_rfl)
theorem mix.L1.aF:gg @mix.L1.R mix.L1.st mix.L1.aq mix.L1.add mix.L1.F mix.L1.bM mix.L1.Ok:=gj
theorem mix.L1.step{R:Type}(h_3:(List Int))(t104:Int)(n4_2:(List Int))(n7_2:(List Int))(kn:AS→Option R)(kx:Exit→AS→Option R):mix.L1.R (h_3,t104,n4_2,n7_2) kn kx=
  aC ((gM t104 (8:Int))) (
   aC (dY t104 (8:Int)) (
   aC (decide ((Int.toNat t104) < (List.length n7_2))) (
   aC (decide ((((Int.toNat t104)*1)+0)=(0+((Int.toNat t104)*1)))) (
   aC (dY t104 (8:Int)) (
   aC (dY t104 (8:Int)) (
   aC (decide ((Int.toNat t104) < (List.length n7_2))) (
   aC (decide ((((Int.toNat t104)*1)+0)=(0+((Int.toNat t104)*1)))) (
   aC (decide ((Int.toNat t104) < (List.length n7_2))) (
   kn (mix.L1.st (h_3,(bw .i64 t104 (1:Int)),n4_2,(List.set n7_2 (Int.toNat t104) (bw .u32 (nth (.int .u32) n7_2 (Int.toNat t104)) (nth (.int .u32) h_3 (Int.toNat t104))))))) none) none) none) none) none) none) none) none) (
   kx (mix.L1.bM (n4_2,n7_2)).1 (mix.L1.bM (n4_2,n7_2)).2):=by kernel_rfl
theorem mix.eq{R:Type}(h:(List Int))(b:Bs)(k:aT→Option R):mix.A (h,b) k=
 ab (schedule.call b) fun x1=>
 ab (table.call ()) fun x2=>
 ab (mix.L0.call (h,(0:Int),(List.replicate 8 (0:Int)),x1,x2,h)) fun x9=>
 ab (mix.L1.call (x9.1.1,(0:Int),x9.1.2,x9.2)) fun x10=>
 k (mix.out x10.2):=by kernel_rfl
theorem St.zd(s:St):s.l.length=8:=rfl
theorem tm:sJ.length=64:=rfl
theorem zb(k:Nat)(h:k < 64):nth (.int .u32) sJ k=vw (kw k):=by
 have hh:∀k:Fin 64,nth (.int .u32) sJ k.val=vw (kw k.val):=by decide+kernel
 exact hh ⟨k,h⟩
theorem tf(ws:List W)(k:Nat)(h:k < ws.length):nth (.int .u32) (wl ws) k=vw (ws.getD k 0):=by
 unfold nth wl
 simp[h]
theorem JK(w:W):rl w ((-6:Int)%32).toNat=lq w 6:=rfl
theorem I6(w:W):rl w ((-11:Int)%32).toNat=lq w 11:=rfl
theorem I9(w:W):rl w ((-25:Int)%32).toNat=lq w 25:=rfl
theorem JJ(w:W):rl w ((-2:Int)%32).toNat=lq w 2:=rfl
theorem I7(w:W):rl w ((-13:Int)%32).toNat=lq w 13:=rfl
theorem I8(w:W):rl w ((-22:Int)%32).toNat=lq w 22:=rfl
theorem n0(s:St):nth (.int .u32) s.l 0=vw s.a:=rfl
theorem n1(s:St):nth (.int .u32) s.l 1=vw s.b:=rfl
theorem n2(s:St):nth (.int .u32) s.l 2=vw s.c:=rfl
theorem n3(s:St):nth (.int .u32) s.l 3=vw s.d:=rfl
theorem n4(s:St):nth (.int .u32) s.l 4=vw s.e:=rfl
theorem n5(s:St):nth (.int .u32) s.l 5=vw s.f:=rfl
theorem n6(s:St):nth (.int .u32) s.l 6=vw s.g:=rfl
theorem n7(s:St):nth (.int .u32) s.l 7=vw s.h:=rfl
theorem mix.L0.ok:mix.L0.Ok:=by
 refine mix.L0.aF (fun(h,t,n4,n5,n6,n7)=>64 - t.toNat) ?_
 rintro⟨h,t,m4,m5,m6,m7⟩ ⟨s,ws,k,rfl,rfl,hw,hk,rfl,rfl,rfl⟩
 by_cases hlt:k < 64
 ·left
  refine⟨(s.l,((k+1:Nat):Int),m4,wl ws,sJ,(rounds ws s (k+1)).l),⟨s,ws,k+1,rfl,rfl,hw,by omega,rfl,rfl,rfl⟩,by simp;omega,rfl,fun kn kx=> ?_⟩
  have e1:bw .i64 (k:Int) 1=((k+1:Nat):Int):=by rw[dL (by omega) (by omega)];omega
  have e2:Int.toNat (k:Int)=k:=by omega
  have hwl:(wl ws).length=64:=by simp[wl,hw]
  have d0:decide (k < 64)=true:=aD hlt
  have i0:dY (k:Int) 64=true:=bz (by omega) (by omega)
  rw[mix.L0.step,bB (by omega)]
  generalize hv:rounds ws s k=v
  simp only[e1,e2,Nat.mul_one,Nat.zero_add,Nat.add_zero,decide_true,ah,St.zd,Nat.reduceLT,tm,hwl,d0,i0,n0,n1,n2,n3,n4,n5,n6,n7,de.at,aa,zb k hlt,tf ws k (by omega),ju,nS,JK,I6,I9,JJ,I7,I8]
  show kn _=kn (mix.L0.st (s.l,((k+1:Nat):Int),m4,wl ws,sJ,(Ja (rounds ws s k) (kw k) (ws.getD k 0)).l))
  rw[hv]
  rfl
 ·right
  obtain rfl:k=64:=by omega
  intro R kn kx
  rw[mix.L0.step,bm (by omega)]
  simp only[ae,mix.L0.add,mix.L0.F,oD,iX]
theorem mix.L1.ok:mix.L1.Ok:=by
 refine mix.L1.aF (fun(h,t,n4,n7)=>8 - t.toNat) ?_
 rintro⟨h,t,m4,m7⟩ ⟨hl,k,hk,rfl⟩
 have hl:m7.length=8:=hl
 have e2:Int.toNat (k:Int)=k:=by omega
 have e3:Int.toNat ((k+1:Nat):Int)=k+1:=by omega
 by_cases hlt:k < 8
 ·left
  have e1:bw .i64 (k:Int) 1=((k+1:Nat):Int):=by rw[dL (by omega) (by omega)];omega
  have hn:nth (.int .u32) m7 k=m7[k]:=dT (t:= .int .u32) (by omega)
  refine⟨(h,((k+1:Nat):Int),m4,m7.set k (bw .u32 m7[k] (nth (.int .u32) h k))),⟨by simpa using hl,k+1,by omega,rfl⟩,by simp;omega,?_,fun kn kx=> ?_⟩
  ·simp only[mix.L1.add,mix.L1.F,e2,e3]
   rw[pP (fun i x=>bw .u32 x (nth (.int .u32) h i)) m7 k (by omega)]
  ·have d0:decide (k < 8)=true:=aD hlt
   have i0:dY (k:Int) 8=true:=bz (by omega) (by omega)
   rw[mix.L1.step,bB (by omega)]
   simp only[e1,e2,Nat.mul_one,Nat.zero_add,Nat.add_zero,decide_true,ah,hl,d0,i0,hn]
 ·right
  obtain rfl:k=8:=by omega
  intro R kn kx
  rw[mix.L1.step,bm (by omega)]
  simp only[ae,mix.L1.add,mix.L1.F,e2]
  rw[ra _ _ _ (by omega)]
theorem mix.ok:mix.Ok:=by
 rintro⟨h,b⟩ ⟨⟨s,rfl⟩,hb⟩
 have hs:schedule.aq b:=hb
 have hsl:(sched b).length=64:=by unfold sched;rw[mY,eZ]
 have hp:mix.L0.aq (s.l,0,List.replicate 8 0,wl (sched b),sJ,s.l):=⟨s,sched b,0,rfl,rfl,hsl,by omega,rfl,rfl,rfl⟩
 rw[mix.eq,schedule.run hs]
 simp only[aa,table.run (d:=()) trivial,schedule.add,schedule.F,table.add,table.F,mix.L0.run hp,mix.L0.add,mix.L0.F,oD,iX]
 have hp1:mix.L1.aq (s.l,0,List.replicate 8 0,(rounds (sched b) s 64).l):=⟨rfl,0,by omega,rfl⟩
 simp only[mix.L1.run hp1,aa,mix.L1.add,mix.L1.F,mix.add,mix.F,iX]
 unfold sO
 generalize rounds (sched b) s 64=v
 obtain⟨a1,b1,c1,d1,f1,g1,h1,i1⟩:=v
 simp only[St.l,from_,List.mapIdx_cons,List.mapIdx_nil,Int.toNat_zero,Nat.not_lt_zero,if_false,Nat.zero_add,Nat.reduceAdd]
 simp only[nth,List.getD_cons_zero,List.getD_cons_succ,nS]
noncomputable def mix.E:=Entry.cF [some (.arr 8 (.int .u32)),some tB] mix.st mix.aq mix.add mix.F mix.out
noncomputable def mix.call:mix.D→Option mix.X:=bC mix.E mix.st
theorem mix.run:bD mix.call mix.aq mix.add mix.F:=cz (cv [.d (.slice (.int .u32)),.d tB] fun _=>by kernel_rfl)
noncomputable def mix.sg:SG Tryz.prog:=⟨148,aK,mix.E,.fn 2 (by kernel_rfl) mix.ok (And.intro (.cF mix.L0.ok (by kernel_rfl)) (And.intro (.cF mix.L1.ok (by kernel_rfl)) trivial))⟩
set_option synthInstance.maxSize 5000
theorem kh(n:Int)(k:Int)(h0:0≤k)(h1:k≤64):dI .u8 (bW .i64 n k)=n / 2^k.toNat%256:=by
 rw[uO,gL,bW]
 have e:min k.toNat IntKind.i64.bits=k.toNat:=by simp only[IntKind.bits];omega
 rw[e,Int.fdiv_eq_ediv_of_nonneg _ (Int.le_of_lt (Int.pow_pos (by omega)))]
 rfl
theorem nW{n:Nat}(h:n≤140737488355328):dK n 1=true:=eO (by omega) (by omega)
abbrev dx.D:=Bs
def dx.st:dx.D→SA:=fun sv=>([.d tB sv],[])
abbrev dx.Y:=Nat×(List Int)
abbrev dx.X:=Nat×(List Int)
def dx.out:dx.X→aT:=fun x=>⟨.cT (.new 0 0) 0 [] 0 0 x.1,[],[.obj 0 false (.vec 5 tb x.2)]⟩
def dx.add:dx.D→dx.Y→dx.X:=fun sv y=>y
def dx.aq:dx.D→Prop:=fun b=>b.length≤140737488355328
def dx.F:dx.D→dx.Y:=fun b=>(b.length,b)
noncomputable def dx.G:dX:=eX (P:=Tryz.prog) []
noncomputable def dx.an:ej:= {bZ:=[5],kc:=[⟨2,[],5,135⟩]}
noncomputable def dx.A:= @cq Tryz.prog dx.G dx.an 0 Tryz.f146 _ dx.st
abbrev dx.Ok:=cr @dx.A dx.aq dx.add dx.F dx.out
theorem dx.eq{R:Type}(sv:Bs)(k:aT→Option R):dx.A sv k=
  aC (decide (0 < (List.length sv))) (
   aC (dK (0+(List.length sv)) 1) (
   k (dx.out ((0+(List.length sv)),((List.take 0 (List.replicate 0 (0:Int)))++sv)))) none) (
   nd (
    k (dx.out (0,([]:List Int)))) (
    aC (dK (0+(List.length sv)) 1) (
    k (dx.out ((0+(List.length sv)),((List.take 0 (List.replicate 0 (0:Int)))++sv)))) none)):=by kernel_rfl
theorem dx.ok:dx.Ok:=by
 intro b hb
 have hr:dK b.length 1=true:=nW hb
 rw[dx.eq]
 have e0:(List.take 0 (List.replicate 0 0):List Int)=[]:=rfl
 simp only[Nat.zero_add,hr,ah,e0,List.nil_append,dx.add,dx.F]
 by_cases h:0 < b.length
 ·simp only[aD h,ah]
 ·have:b=[]:=List.eq_nil_of_length_eq_zero (by omega)
  subst this
  simp only[List.length_nil,pV,bN (Nat.lt_irrefl 0),ae]
noncomputable def dx.E:=Entry.cF [some tB] dx.st dx.aq dx.add dx.F dx.out
noncomputable def dx.call:dx.D→Option dx.X:=bC dx.E dx.st
theorem dx.run:bD dx.call dx.aq dx.add dx.F:=cz (cv [.d tB] fun _=>by kernel_rfl)
noncomputable def dx.sg:SG Tryz.prog:=⟨146,aK,dx.E,.fn 0 (by kernel_rfl) dx.ok trivial⟩
abbrev eT.D:=Int
def eT.st:eT.D→SA:=fun n=>([.dP,.d ti n],[])
abbrev eT.Y:=Nat×(List Int)
abbrev eT.X:=Nat×(List Int)
def eT.out:eT.X→aT:=fun x=>⟨.cT (.new 0 0) 0 [] 0 0 x.1,[],[.obj 0 false (.vec 5 tb x.2)]⟩
def eT.add:eT.D→eT.Y→eT.X:=fun n y=>y
def eT.aq:eT.D→Prop:=fun _=>True
def eT.F:eT.D→eT.Y:=fun n=>(8,iy n)
noncomputable def eT.G:dX:=eX (P:=Tryz.prog) []
noncomputable def eT.an:ej:= {loops:=ky [(2,{bt:=[0,1,5],sites:=[16]})],outs:=kr [(2,{bt:=[0],sites:=[16]},{bt:=[4],sites:=[16]})],kc:=[⟨4,[],16,135⟩]}
noncomputable def eT.A:= @cq Tryz.prog eT.G eT.an 12 Tryz.f105 _ eT.st
abbrev eT.Ok:=cr @eT.A eT.aq eT.add eT.F eT.out
theorem eT.eq{R:Type}(n:Int)(k:aT→Option R):eT.A n k=
 k (eT.out (8,[(dI .u8 (bW .i64 n (56:Int))),(dI .u8 (bW .i64 n (48:Int))),(dI .u8 (bW .i64 n (40:Int))),(dI .u8 (bW .i64 n (32:Int))),(dI .u8 (bW .i64 n (24:Int))),(dI .u8 (bW .i64 n (16:Int))),(dI .u8 (bW .i64 n (8:Int))),(dI .u8 (bW .i64 n (0:Int)))])):=by kernel_rfl
theorem Ax(n:Int): [dI .u8 (bW .i64 n 56),dI .u8 (bW .i64 n 48),dI .u8 (bW .i64 n 40),dI .u8 (bW .i64 n 32),dI .u8 (bW .i64 n 24),dI .u8 (bW .i64 n 16),dI .u8 (bW .i64 n 8),dI .u8 (bW .i64 n 0)]=iy n:=by
 rw[kh n 56 (by omega) (by omega),kh n 48 (by omega) (by omega),kh n 40 (by omega) (by omega),kh n 32 (by omega) (by omega),kh n 24 (by omega) (by omega),kh n 16 (by omega) (by omega),kh n 8 (by omega) (by omega),kh n 0 (by omega) (by omega)]
 simp[iy]
theorem eT.ok:eT.Ok:=by
 intro n _
 rw[eT.eq,Ax]
 rfl
noncomputable def eT.E:=Entry.cF [none,some ti] eT.st eT.aq eT.add eT.F eT.out
noncomputable def eT.call:eT.D→Option eT.X:=bC eT.E eT.st
theorem eT.run:bD eT.call eT.aq eT.add eT.F:=cz (cv [.d ti] fun _=>by kernel_rfl)
noncomputable def eT.sg:SG Tryz.prog:=⟨105,C5,eT.E,.fn 1 (by kernel_rfl) eT.ok (And.intro (.none (by kernel_rfl)) trivial)⟩
abbrev ed.D:=Nat×Int×Bs
def ed.st:ed.D→SA:=fun(bL,n,o0)=>([.cT (.dH 0) 0 [] 0 0 bL,.d ti n],[.obj 0 false (.vec 5 tb o0)])
abbrev ed.Y:=Nat×(List Int)
abbrev ed.X:=Nat×(List Int)
def ed.out:ed.X→aT:=fun x=>⟨.cT (.dH 0) 8 [] 0 0 x.1,[.obj 8 false (.vec 5 tb x.2)],[]⟩
def ed.add:ed.D→ed.Y→ed.X:=fun(bL,n,o0) y=>y
def ed.aq:ed.D→Prop:=fun(m,n,l)=>m=l.length∧l.length≤140737488355320
def ed.F:ed.D→ed.Y:=fun(m,n,l)=>(l.length+8,l++iy n)
noncomputable def ed.G:dX:=eX (P:=Tryz.prog) []
noncomputable def ed.an:ej:= {loops:=ky [(2,{bt:=[0,1,5],sites:=[16]})],outs:=kr [(2,{bt:=[0],sites:=[16]},{bt:=[4],sites:=[16]})]}
noncomputable def ed.A:= @cq Tryz.prog ed.G ed.an 12 Tryz.f105 _ ed.st
abbrev ed.Ok:=cr @ed.A ed.aq ed.add ed.F ed.out
theorem ed.eq{R:Type}(bL:Nat)(n:Int)(o0:Bs)(k:aT→Option R):ed.A (bL,n,o0) k=
 aC (decide (bL≤(List.length o0))) (
 aC (dK (bL+1) 1) (
 aC (decide ((bL+1)≤(List.length ((List.take bL o0)++ [(dI .u8 (bW .i64 n (56:Int)))])))) (
 aC (dK ((bL+1)+1) 1) (
 aC (decide (((bL+1)+1)≤(List.length ((List.take (bL+1) ((List.take bL o0)++ [(dI .u8 (bW .i64 n (56:Int)))]))++ [(dI .u8 (bW .i64 n (48:Int)))])))) (
 aC (dK (((bL+1)+1)+1) 1) (
 aC (decide ((((bL+1)+1)+1)≤(List.length ((List.take ((bL+1)+1) ((List.take (bL+1) ((List.take bL o0)++ [(dI .u8 (bW .i64 n (56:Int)))]))++ [(dI .u8 (bW .i64 n (48:Int)))]))++ [(dI .u8 (bW .i64 n (40:Int)))])))) (
 aC (dK ((((bL+1)+1)+1)+1) 1) (
 aC (decide (((((bL+1)+1)+1)+1)≤(List.length ((List.take (((bL+1)+1)+1) ((List.take ((bL+1)+1) ((List.take (bL+1) ((List.take bL o0)++ [(dI .u8 (bW .i64 n (56:Int)))]))++ [(dI .u8 (bW .i64 n (48:Int)))]))++ [(dI .u8 (bW .i64 n (40:Int)))]))++ [(dI .u8 (bW .i64 n (32:Int)))])))) (
 aC (dK (((((bL+1)+1)+1)+1)+1) 1) (
 aC (decide ((((((bL+1)+1)+1)+1)+1)≤(List.length ((List.take ((((bL+1)+1)+1)+1) ((List.take (((bL+1)+1)+1) ((List.take ((bL+1)+1) ((List.take (bL+1) ((List.take bL o0)++ [(dI .u8 (bW .i64 n (56:Int)))]))++ [(dI .u8 (bW .i64 n (48:Int)))]))++ [(dI .u8 (bW .i64 n (40:Int)))]))++ [(dI .u8 (bW .i64 n (32:Int)))]))++ [(dI .u8 (bW .i64 n (24:Int)))])))) (
 aC (dK ((((((bL+1)+1)+1)+1)+1)+1) 1) (
 aC (decide (((((((bL+1)+1)+1)+1)+1)+1)≤(List.length ((List.take (((((bL+1)+1)+1)+1)+1) ((List.take ((((bL+1)+1)+1)+1) ((List.take (((bL+1)+1)+1) ((List.take ((bL+1)+1) ((List.take (bL+1) ((List.take bL o0)++ [(dI .u8 (bW .i64 n (56:Int)))]))++ [(dI .u8 (bW .i64 n (48:Int)))]))++ [(dI .u8 (bW .i64 n (40:Int)))]))++ [(dI .u8 (bW .i64 n (32:Int)))]))++ [(dI .u8 (bW .i64 n (24:Int)))]))++ [(dI .u8 (bW .i64 n (16:Int)))])))) (
 aC (dK (((((((bL+1)+1)+1)+1)+1)+1)+1) 1) (
 aC (decide ((((((((bL+1)+1)+1)+1)+1)+1)+1)≤(List.length ((List.take ((((((bL+1)+1)+1)+1)+1)+1) ((List.take (((((bL+1)+1)+1)+1)+1) ((List.take ((((bL+1)+1)+1)+1) ((List.take (((bL+1)+1)+1) ((List.take ((bL+1)+1) ((List.take (bL+1) ((List.take bL o0)++ [(dI .u8 (bW .i64 n (56:Int)))]))++ [(dI .u8 (bW .i64 n (48:Int)))]))++ [(dI .u8 (bW .i64 n (40:Int)))]))++ [(dI .u8 (bW .i64 n (32:Int)))]))++ [(dI .u8 (bW .i64 n (24:Int)))]))++ [(dI .u8 (bW .i64 n (16:Int)))]))++ [(dI .u8 (bW .i64 n (8:Int)))])))) (
 aC (dK ((((((((bL+1)+1)+1)+1)+1)+1)+1)+1) 1) (
 k (ed.out (((((((((bL+1)+1)+1)+1)+1)+1)+1)+1),((List.take (((((((bL+1)+1)+1)+1)+1)+1)+1) ((List.take ((((((bL+1)+1)+1)+1)+1)+1) ((List.take (((((bL+1)+1)+1)+1)+1) ((List.take ((((bL+1)+1)+1)+1) ((List.take (((bL+1)+1)+1) ((List.take ((bL+1)+1) ((List.take (bL+1) ((List.take bL o0)++ [(dI .u8 (bW .i64 n (56:Int)))]))++ [(dI .u8 (bW .i64 n (48:Int)))]))++ [(dI .u8 (bW .i64 n (40:Int)))]))++ [(dI .u8 (bW .i64 n (32:Int)))]))++ [(dI .u8 (bW .i64 n (24:Int)))]))++ [(dI .u8 (bW .i64 n (16:Int)))]))++ [(dI .u8 (bW .i64 n (8:Int)))]))++ [(dI .u8 (bW .i64 n (0:Int)))])))) none) none) none) none) none) none) none) none) none) none) none) none) none) none) none) none:=by kernel_rfl
theorem ed.ok:ed.Ok:=by
 rintro⟨m,n,l⟩ ⟨rfl,hl⟩
 have hl:l.length≤140737488355320:=hl
 rw[ed.eq]
 simp only[Nat.le_refl,decide_true,ah,List.take_of_length_le,List.length_append,List.length_cons,List.length_nil,Nat.zero_add]
 rw[nW (by omega),nW (by omega),nW (by omega),nW (by omega),nW (by omega),nW (by omega),nW (by omega),nW (by omega)]
 simp only[ah,ed.add,ed.F,←Ax,List.append_assoc,List.cons_append,List.nil_append]
noncomputable def ed.E:=Entry.cF [none,some ti] ed.st ed.aq ed.add ed.F ed.out
noncomputable def ed.call:ed.D→Option ed.X:=bC ed.E ed.st
theorem ed.run:bD ed.call ed.aq ed.add ed.F:=cz (cv [.n,.d ti,.d tB] fun _=>by kernel_rfl)
noncomputable def ed.sg:SG Tryz.prog:=⟨105,Dn,ed.E,.fn 1 (by kernel_rfl) ed.ok (And.intro (.none (by kernel_rfl)) trivial)⟩
set_option synthInstance.maxSize 5000
abbrev aN.L0.D:=Bs×Nat×Bs×(List Int)
def aN.L0.st:aN.L0.D→AS:=fun(b_2,endL,n2,n14)=>⟨([.d tB b_2,.undef,.ptr (.new 2 0) 0 [] 0,.cT (.new 14 0) 0 [] 0 0 endL]++bu 61 []),[],([[],[],[.obj 0 false (.d tH n2)]]++cw 11 ([[.obj 0 false (.vec 5 tb n14)]]++cw 50 []))⟩
abbrev aN.L0.Y0:=Nat×(List Int)
abbrev aN.L0.X0:=(Bs×Bs)×(Nat×(List Int))
def aN.L0.bM:aN.L0.X0→Exit×AS:=fun x=>(.exit 0,⟨([.d tB x.1.1,.undef,.ptr (.new 2 0) 0 [] 0,.cT (.new 14 0) 0 [] 0 0 x.2.1]++bu 61 []),[],([[],[],[.obj 0 false (.d tH x.1.2)]]++cw 11 ([[.obj 0 false (.vec 5 tb x.2.2)]]++cw 50 []))⟩)
abbrev aN.L0.X:=aN.L0.X0
abbrev aN.L0.Y:=aN.L0.Y0
def aN.L0.out:aN.L0.X→Out (Exit×AS):=fun x=> .ok (aN.L0.bM x)
def aN.L0.add:aN.L0.D→aN.L0.Y→aN.L0.X:=fun(b_2,endL,n2,n14) y=>((b_2,n2),y)
abbrev aN.L1.D:=Bs×Nat×Bs×(List Int)×(List Int)
def aN.L1.st:aN.L1.D→AS:=fun(b_3,endL_2,n2_2,n4,n14_2)=>⟨([.d tB b_3,.undef,.ptr (.new 2 0) 0 [] 0,.cT (.new 14 0) 8 [] 0 0 endL_2,.ptr (.new 4 0) 0 [] 0]++bu 60 []),[],([[],[],[.obj 0 false (.d tH n2_2)],[],[.obj 0 false (.d (.arr 8 (.int .u32)) n4)]]++cw 9 ([[.obj 8 false (.vec 5 tb n14_2)]]++cw 50 []))⟩
abbrev aN.L1.Y0:=(List Int)
abbrev aN.L1.X0:=(Nat×Bs×(List Int))×((List Int))
def aN.L1.bM:aN.L1.X0→Exit×AS:=fun x=>(.exit 2,⟨([.undef,.undef,.ptr (.new 2 0) 0 [] 0,.cT (.new 14 0) 8 [] 0 0 x.1.1,.ptr (.new 4 0) 0 [] 0]++bu 60 []),[],([[],[],[.obj 0 false (.d tH x.1.2.1)],[],[.obj 0 false (.d (.arr 8 (.int .u32)) x.2)]]++cw 9 ([[.obj 8 false (.vec 5 tb x.1.2.2)]]++cw 50 []))⟩)
abbrev aN.L1.X:=aN.L1.X0
abbrev aN.L1.Y:=aN.L1.Y0
def aN.L1.out:aN.L1.X→Out (Exit×AS):=fun x=> .ok (aN.L1.bM x)
def aN.L1.add:aN.L1.D→aN.L1.Y→aN.L1.X:=fun(b_3,endL_2,n2_2,n4,n14_2) y=>((endL_2,n2_2,n14_2),y)
abbrev aN.L2.D:=Bs×Bs×(List Int)
def aN.L2.st:aN.L2.D→AS:=fun(endv,n2_3,n4_2)=>⟨([.undef,.undef,.ptr (.new 2 0) 0 [] 0,.d tB endv,.ptr (.new 4 0) 0 [] 0]++bu 60 []),[],([[],[],[.obj 0 false (.d tH n2_3)],[],[.obj 0 false (.d (.arr 8 (.int .u32)) n4_2)]]++cw 60 [])⟩
abbrev aN.L2.Y0:=(List Int)
abbrev aN.L2.X0:=(Bs)×((List Int))
def aN.L2.bM:aN.L2.X0→Exit×AS:=fun x=>(.exit 4,⟨([.undef,.undef,.ptr (.new 2 0) 0 [] 0,.undef,.ptr (.new 4 0) 0 [] 0]++bu 60 []),[],([[],[],[.obj 0 false (.d tH x.1)],[],[.obj 0 false (.d (.arr 8 (.int .u32)) x.2)]]++cw 60 [])⟩)
abbrev aN.L2.X:=aN.L2.X0
abbrev aN.L2.Y:=aN.L2.Y0
def aN.L2.out:aN.L2.X→Out (Exit×AS):=fun x=> .ok (aN.L2.bM x)
def aN.L2.add:aN.L2.D→aN.L2.Y→aN.L2.X:=fun(endv,n2_3,n4_2) y=>(n2_3,y)
abbrev aN.L3.D:=Int×Bs×(List Int)
def aN.L3.st:aN.L3.D→AS:=fun(t48,n2_4,n4_3)=>⟨([.undef,.undef,.ptr (.new 2 0) 0 [] 0,.undef,.ptr (.new 4 0) 0 [] 0]++bu 43 ([.d ti t48]++bu 16 [])),[],([[],[],[.obj 0 false (.d tH n2_4)],[],[.obj 0 false (.d (.arr 8 (.int .u32)) n4_3)]]++cw 60 [])⟩
abbrev aN.L3.Y0:=Bs
abbrev aN.L3.X0:=Bs
def aN.L3.bM:aN.L3.X0→Exit×AS:=fun x=>(.exit 6,⟨([.undef,.undef,.ptr (.new 2 0) 0 [] 0]++bu 62 []),[],([[],[],[.obj 0 false (.d tH x)]]++cw 62 [])⟩)
abbrev aN.L3.X:=aN.L3.X0
abbrev aN.L3.Y:=aN.L3.Y0
def aN.L3.out:aN.L3.X→Out (Exit×AS):=fun x=> .ok (aN.L3.bM x)
def aN.L3.add:aN.L3.D→aN.L3.Y→aN.L3.X:=fun(t48,n2_4,n4_3) y=>y
abbrev aN.D:=Bs
def aN.st:aN.D→SA:=fun b=>([.d tB b],[])
abbrev aN.Y:=Bs
abbrev aN.X:=Bs
def aN.out:aN.X→aT:=fun x=>⟨.d tH x,[],[]⟩
def aN.add:aN.D→aN.Y→aN.X:=fun b y=>y
def zc(n:Nat):Nat:=(120 - n%64)%64
def aN.L0.aq:aN.L0.D→Prop:=fun(b,m,n2,l)=>m=l.length∧l.length+zc l.length≤140737488355328
def aN.L0.F:aN.L0.D→aN.L0.Y:=fun(b,m,n2,l)=>(l.length+zc l.length,l++List.replicate (zc l.length) 0)
def aN.L1.aq:aN.L1.D→Prop:=fun(b,m,n2,h,l)=>∃s:St,h=s.l
def aN.L1.F:aN.L1.D→aN.L1.Y:=fun(b,m,n2,h,l)=>(blocks (yp h) b).l
def aN.L2.aq:aN.L2.D→Prop:=fun(b,n2,h)=>b.length%64=0∧∃s:St,h=s.l
def aN.L2.F:aN.L2.D→aN.L2.Y:=fun(b,n2,h)=>(blocks (yp h) b).l
def qj(h:List Int)(i:Nat)(_:Int):Int:=dI .u8 (bW .u32 (nth (.int .u32) h (i / 4)) ((24 - 8*(i%4):Nat):Int))
def aN.L3.aq:aN.L3.D→Prop:=fun(t,n2,h)=>n2.length=32∧h.length=8∧∃k:Nat,k≤32∧t=k
def aN.L3.F:aN.L3.D→aN.L3.Y:=fun(t,n2,h)=>from_ (qj h) t.toNat n2
def aN.aq:aN.D→Prop:=fun b=>b.length≤140737488350000
def aN.F:aN.D→aN.Y:=fun b=>Hz b
noncomputable def aN.G:dX:=eX (P:=Tryz.prog) [dx.sg,ed.sg,first.sg,mix.sg]
noncomputable def aN.L0.E:=cf.cF aN.L0.st aN.L0.aq aN.L0.add aN.L0.F aN.L0.out
noncomputable def aN.L0.call:aN.L0.D→Option aN.L0.X:=dO aN.L0.E aN.L0.st
noncomputable def aN.L1.E:=cf.cF aN.L1.st aN.L1.aq aN.L1.add aN.L1.F aN.L1.out
noncomputable def aN.L1.call:aN.L1.D→Option aN.L1.X:=dO aN.L1.E aN.L1.st
noncomputable def aN.L2.E:=cf.cF aN.L2.st aN.L2.aq aN.L2.add aN.L2.F aN.L2.out
noncomputable def aN.L2.call:aN.L2.D→Option aN.L2.X:=dO aN.L2.E aN.L2.st
noncomputable def aN.L3.E:=cf.cF aN.L3.st aN.L3.aq aN.L3.add aN.L3.F aN.L3.out
noncomputable def aN.L3.call:aN.L3.D→Option aN.L3.X:=dO aN.L3.E aN.L3.st
noncomputable def aN.an:ej:= {loops:=ky [(2,{bt:=[0,2,3],sites:=[2,14],kc:=[⟨3,[],14,135⟩]}),(6,{bt:=[0,2,3,4],sites:=[2,4,14]}),(9,{bt:=[2,3,4],sites:=[2,4],data:=[(3,tB)]}),(13,{bt:=[2,4,48],sites:=[2,4]})],outs:=kr [(2,{bt:=[0,2,3],sites:=[2,14]},{bt:=[2]}),(6,{bt:=[2,3,4],sites:=[2,4,14]},{bt:=[2]}),(9,{bt:=[2,4],sites:=[2,4]},{bt:=[2]}),(13,{bt:=[2],sites:=[2]},{bt:=[2]})],gk:=kY [(2,aN.L0.E),(6,aN.L1.E),(9,aN.L2.E),(13,aN.L3.E)]}
noncomputable def aN.A:= @cq Tryz.prog aN.G aN.an 0 Tryz.f106 _ aN.st
abbrev aN.Ok:=cr @aN.A aN.aq aN.add aN.F aN.out
noncomputable def aN.L0.R:= @cP Tryz.prog aN.G aN.an 0 Tryz.f106 0 _ aN.L0.st
abbrev aN.L0.Ok:=fg Tryz.prog aN.G aN.an 0 Tryz.f106 0 aN.L0.st aN.L0.aq aN.L0.add aN.L0.F aN.L0.out
noncomputable def aN.L1.R:= @cP Tryz.prog aN.G aN.an 0 Tryz.f106 1 _ aN.L1.st
abbrev aN.L1.Ok:=fg Tryz.prog aN.G aN.an 0 Tryz.f106 1 aN.L1.st aN.L1.aq aN.L1.add aN.L1.F aN.L1.out
noncomputable def aN.L2.R:= @cP Tryz.prog aN.G aN.an 0 Tryz.f106 2 _ aN.L2.st
abbrev aN.L2.Ok:=fg Tryz.prog aN.G aN.an 0 Tryz.f106 2 aN.L2.st aN.L2.aq aN.L2.add aN.L2.F aN.L2.out
noncomputable def aN.L3.R:= @cP Tryz.prog aN.G aN.an 0 Tryz.f106 3 _ aN.L3.st
abbrev aN.L3.Ok:=fg Tryz.prog aN.G aN.an 0 Tryz.f106 3 aN.L3.st aN.L3.aq aN.L3.add aN.L3.F aN.L3.out
theorem aN.L0.run:bD aN.L0.call aN.L0.aq aN.L0.add aN.L0.F:=fw (fk [.d tB,.n,.d tB,.d tB] fun _=>by kernel_rfl)
theorem aN.L0.aF:gg @aN.L0.R aN.L0.st aN.L0.aq aN.L0.add aN.L0.F aN.L0.bM aN.L0.Ok:=gj
theorem aN.L0.step{R:Type}(b_2:Bs)(endL:Nat)(n2:Bs)(n14:(List Int))(kn:AS→Option R)(kx:Exit→AS→Option R):aN.L0.R (b_2,endL,n2,n14) kn kx=
  aC ((qS (gd ((endL:Nat):Int) (64:Int)) (56:Int))) (
   aC (decide (endL≤(List.length n14))) (
   aC (dK (endL+1) 1) (
   kn (aN.L0.st (b_2,(endL+1),n2,((List.take endL n14)++ [(0:Int)])))) none) none) (
   kx (aN.L0.bM ((b_2,n2),(endL,n14))).1 (aN.L0.bM ((b_2,n2),(endL,n14))).2):=by kernel_rfl
theorem aN.L1.run:bD aN.L1.call aN.L1.aq aN.L1.add aN.L1.F:=fw (fk [.d tB,.n,.d tB,.d (.slice (.int .u32)),.d tB] fun _=>by kernel_rfl)
theorem aN.L1.aF:gg @aN.L1.R aN.L1.st aN.L1.aq aN.L1.add aN.L1.F aN.L1.bM aN.L1.Ok:=gj
theorem aN.L1.step{R:Type}(b_3:Bs)(endL_2:Nat)(n2_2:Bs)(n4:(List Int))(n14_2:(List Int))(kn:AS→Option R)(kx:Exit→AS→Option R):aN.L1.R (b_3,endL_2,n2_2,n4,n14_2) kn kx=
  aC ((kX (((List.length b_3):Nat):Int) (64:Int))) (
   aC (inc (64:Int) (((List.length b_3):Nat):Int)) (
   ab (mix.call (n4,(cut b_3 0 64))) fun x1=>
   aC (inc (64:Int) (((List.length b_3):Nat):Int)) (
   kn (aN.L1.st ((cut b_3 64 ((List.length b_3) - 64)),endL_2,n2_2,x1,n14_2))) none) none) (
   kx (aN.L1.bM ((endL_2,n2_2,n14_2),n4)).1 (aN.L1.bM ((endL_2,n2_2,n14_2),n4)).2):=by kernel_rfl
theorem aN.L2.run:bD aN.L2.call aN.L2.aq aN.L2.add aN.L2.F:=fw (fk [.d tB,.d tB,.d (.slice (.int .u32))] fun _=>by kernel_rfl)
theorem aN.L2.aF:gg @aN.L2.R aN.L2.st aN.L2.aq aN.L2.add aN.L2.F aN.L2.bM aN.L2.Ok:=gj
theorem aN.L2.step{R:Type}(endv:Bs)(n2_3:Bs)(n4_2:(List Int))(kn:AS→Option R)(kx:Exit→AS→Option R):aN.L2.R (endv,n2_3,n4_2) kn kx=
  aC ((na (((List.length endv):Nat):Int) (0:Int))) (
   aC (inc (64:Int) (((List.length endv):Nat):Int)) (
   ab (mix.call (n4_2,(cut endv 0 64))) fun x1=>
   aC (inc (64:Int) (((List.length endv):Nat):Int)) (
   kn (aN.L2.st ((cut endv 64 ((List.length endv) - 64)),n2_3,x1))) none) none) (
   kx (aN.L2.bM (n2_3,n4_2)).1 (aN.L2.bM (n2_3,n4_2)).2):=by kernel_rfl
theorem aN.L3.run:bD aN.L3.call aN.L3.aq aN.L3.add aN.L3.F:=fw (fk [.d ti,.d tB,.d (.slice (.int .u32))] fun _=>by kernel_rfl)
theorem aN.L3.aF:gg @aN.L3.R aN.L3.st aN.L3.aq aN.L3.add aN.L3.F aN.L3.bM aN.L3.Ok:=gj
theorem aN.L3.step{R:Type}(t48:Int)(n2_4:Bs)(n4_3:(List Int))(kn:AS→Option R)(kx:Exit→AS→Option R):aN.L3.R (t48,n2_4,n4_3) kn kx=
  aC ((gM t48 (32:Int))) (
   aC (dY (kV .i64 t48 (4:Int)) (8:Int)) (
   aC (decide ((Int.toNat (kV .i64 t48 (4:Int))) < (List.length n4_3))) (
   aC (decide ((((Int.toNat (kV .i64 t48 (4:Int)))*1)+0)=(0+((Int.toNat (kV .i64 t48 (4:Int)))*1)))) (
   aC (iW (bS .i64 (24:Int) (eS .i64 (8:Int) (gd t48 (4:Int))))) (
   aC (dY t48 (32:Int)) (
   aC (decide ((Int.toNat t48) < (List.length n2_4))) (
   aC (decide ((((Int.toNat t48)*1)+0)=(0+((Int.toNat t48)*1)))) (
   aC (decide ((Int.toNat t48) < (List.length n2_4))) (
   kn (aN.L3.st ((bw .i64 t48 (1:Int)),(List.set n2_4 (Int.toNat t48) (dI .u8 (bW .u32 (nth (.int .u32) n4_3 (Int.toNat (kV .i64 t48 (4:Int)))) (bS .i64 (24:Int) (eS .i64 (8:Int) (gd t48 (4:Int))))))),n4_3))) none) none) none) none) none) none) none) none) (
   kx (aN.L3.bM n2_4).1 (aN.L3.bM n2_4).2):=by kernel_rfl
theorem aN.eq{R:Type}(b:Bs)(k:aT→Option R):aN.A b k=
 aC (inc (bS .i64 (((List.length b):Nat):Int) (gd (((List.length b):Nat):Int) (64:Int))) (((List.length b):Nat):Int)) (
 ab (dx.call (cut b (Int.toNat (bS .i64 (((List.length b):Nat):Int) (gd (((List.length b):Nat):Int) (64:Int)))) ((List.length b) - (Int.toNat (bS .i64 (((List.length b):Nat):Int) (gd (((List.length b):Nat):Int) (64:Int))))))) fun x1=>
 aC (decide (x1.1≤(List.length x1.2))) (
 aC (dK (x1.1+1) 1) (
 ab (aN.L0.call (b,(x1.1+1),(List.replicate 32 (0:Int)),((List.take x1.1 x1.2)++ [(128:Int)]))) fun x2=>
 ab (ed.call (x2.2.1,(eS .i64 (8:Int) (((List.length x2.1.1):Nat):Int)),x2.2.2)) fun x3=>
 ab (first.call ()) fun x4=>
 ab (aN.L1.call (x2.1.1,x3.1,x2.1.2,x4,x3.2)) fun x6=>
 aC (decide (0=0∧(0+x6.1.1)≤(List.length x6.1.2.2))) (
 ab (aN.L2.call ((cut x6.1.2.2 0 x6.1.1),x6.1.2.1,x6.2)) fun x9=>
 ab (aN.L3.call ((0:Int),x9.1,x9.2)) fun x10=>
 k (aN.out x10)) none) none) none) none:=by kernel_rfl
theorem aN.L0.ok:aN.L0.Ok:=by
 refine aN.L0.aF (fun(b,m,n2,l)=>zc l.length) ?_
 rintro⟨b,m,n2,l⟩ ⟨rfl,hl⟩
 have hl:l.length+zc l.length≤140737488355328:=hl
 have hr:gd ((l.length:Nat):Int) 64=((l.length%64:Nat):Int):=by
  unfold gd
  rw[Int.tmod_eq_emod_of_nonneg (by omega)]
  omega
 by_cases h:l.length%64=56
 ·right
  intro R kn kx
  have hz:zc l.length=0:=by unfold zc;omega
  rw[aN.L0.step,hr,gO (by omega)]
  simp only[ae,aN.L0.add,aN.L0.F,hz,Nat.add_zero,List.replicate_zero,List.append_nil]
 ·left
  have hz:zc l.length=zc (l.length+1)+1:=by unfold zc;omega
  refine⟨(b,l.length+1,n2,l++ [0]),⟨by simp,by simp only[List.length_append,List.length_cons,List.length_nil,Nat.zero_add];omega⟩,by simp only[List.length_append,List.length_cons,List.length_nil,Nat.zero_add];omega,?_,fun kn kx=> ?_⟩
  ·simp only[aN.L0.add,aN.L0.F,List.length_append,List.length_cons,List.length_nil,Nat.zero_add,hz,List.append_assoc,List.cons_append,List.nil_append,List.replicate_succ]
   rw[show l.length+1+zc (l.length+1)=l.length+(zc (l.length+1)+1) by omega]
  ·rw[aN.L0.step,hr,iM (by omega),nW (by omega)]
   simp only[ah,Nat.le_refl,decide_true,List.take_length]
theorem aN.L1.ok:aN.L1.Ok:=by
 refine aN.L1.aF (fun(b,m,n2,h,l)=>b.length) ?_
 rintro⟨b,m,n2,h,l⟩ ⟨s,rfl⟩
 by_cases hb:64≤b.length
 ·left
  have e1:cut b 64 (b.length - 64)=b.drop 64:=by unfold cut;rw[List.take_of_length_le (by simp)]
  have e2:cut b 0 64=b.take 64:=rfl
  have hp:mix.aq (s.l,b.take 64):=⟨⟨s,rfl⟩,by simp;omega⟩
  refine⟨(b.drop 64,m,n2,(sO s (b.take 64)).l,l),⟨_,rfl⟩,by simp;omega,?_,fun kn kx=> ?_⟩
  ·simp only[aN.L1.add,aN.L1.F,iX]
   rw[o5 s b hb]
  ·rw[aN.L1.step,gQ (by omega),kE (by omega) (by omega),e1,e2]
   simp only[ah,mix.run hp,aa,mix.add,mix.F,iX]
 ·right
  intro R kn kx
  rw[aN.L1.step,fx (by omega)]
  simp only[ae,aN.L1.add,aN.L1.F,iX]
  rw[oa s b (by omega)]
theorem aN.L2.ok:aN.L2.Ok:=by
 refine aN.L2.aF (fun(b,n2,h)=>b.length) ?_
 rintro⟨b,n2,h⟩ ⟨hm,s,rfl⟩
 have hm:b.length%64=0:=hm
 by_cases hb:0 < b.length
 ·left
  have e1:cut b 64 (b.length - 64)=b.drop 64:=by unfold cut;rw[List.take_of_length_le (by simp)]
  have e2:cut b 0 64=b.take 64:=rfl
  have hp:mix.aq (s.l,b.take 64):=⟨⟨s,rfl⟩,by simp;omega⟩
  refine⟨(b.drop 64,n2,(sO s (b.take 64)).l),⟨by simp;omega,_,rfl⟩,by simp;omega,?_,fun kn kx=> ?_⟩
  ·simp only[aN.L2.add,aN.L2.F,iX]
   rw[o5 s b (by omega)]
  ·rw[aN.L2.step,dS (by omega),kE (by omega) (by omega),e1,e2]
   simp only[ah,mix.run hp,aa,mix.add,mix.F,iX]
 ·right
  intro R kn kx
  rw[aN.L2.step,cZ (by omega)]
  simp only[ae,aN.L2.add,aN.L2.F,iX]
  rw[oa s b (by omega)]
theorem aN.L3.ok:aN.L3.Ok:=by
 refine aN.L3.aF (fun(t,n2,h)=>32 - t.toNat) ?_
 rintro⟨t,m,h⟩ ⟨hl,h8,k,hk,rfl⟩
 have hl:m.length=32:=hl
 have h8:h.length=8:=h8
 have e2:Int.toNat (k:Int)=k:=by omega
 have e3:Int.toNat ((k+1:Nat):Int)=k+1:=by omega
 by_cases hlt:k < 32
 ·left
  have e1:bw .i64 (k:Int) 1=((k+1:Nat):Int):=by rw[dL (by omega) (by omega)];omega
  have q4:kV .i64 (k:Int) 4=((k / 4:Nat):Int):=by
   have:(k:Int).tdiv 4=((k / 4:Nat):Int):=by rw[Int.tdiv_eq_ediv_of_nonneg (by omega)];omega
   unfold kV
   rw[this,lJ (by omega) (by omega)]
  have r4:gd (k:Int) 4=((k%4:Nat):Int):=by
   unfold gd
   rw[Int.tmod_eq_emod_of_nonneg (by omega)]
   omega
  have s4:bS .i64 24 (eS .i64 8 ((k%4:Nat):Int))=((24 - 8*(k%4):Nat):Int):=by
   rw[jk (by omega) (by omega),fe (by omega) (by omega)]
   omega
  have e4:Int.toNat ((k / 4:Nat):Int)=k / 4:=by omega
  refine⟨(((k+1:Nat):Int),m.set k (qj h k m[k]),h),⟨by simpa using hl,h8,k+1,by omega,rfl⟩,by simp;omega,?_,fun kn kx=> ?_⟩
  ·simp only[aN.L3.add,aN.L3.F,e2,e3]
   rw[pP (qj h) m k (by omega)]
  ·have d0:decide (k < 32)=true:=aD hlt
   have d1:decide (k / 4 < 8)=true:=aD (by omega)
   rw[aN.L3.step,bB (by omega),q4,r4,s4,bz (by omega) (by omega),bz (by omega) (by omega),nj (by omega)]
   simp only[e1,e2,e4,Nat.mul_one,Nat.zero_add,Nat.add_zero,decide_true,ah,hl,h8,d0,d1,qj]
 ·right
  obtain rfl:k=32:=by omega
  intro R kn kx
  rw[aN.L3.step,bm (by omega)]
  simp only[ae,aN.L3.add,aN.L3.F,e2]
  rw[ra _ _ _ (by omega)]
theorem C8(w:W):BitVec.ofInt 8 (vw w)=w.setWidth 8:=by
 apply BitVec.eq_of_toNat_eq
 rw[BitVec.toNat_ofInt,BitVec.toNat_setWidth]
 unfold vw
 omega
theorem GR(w:W)(k:Int):dI .u8 (bW .u32 (vw w) k)=vw ((w >>> k.toNat).setWidth 8):=by
 rw[pj,uO,C8]
theorem B9(s:St):from_ (qj s.l) 0 (List.replicate 32 0)=FU s:=by
 rw[uL]
 simp only[List.range_eq_range',List.range',List.map_cons,List.map_nil,qj,Nat.reduceAdd,Nat.reduceDiv,Nat.reduceMod,Nat.reduceMul,Nat.reduceSub,n0,n1,n2,n3,n4,n5,n6,n7,GR]
 rfl
theorem aN.ok:aN.Ok:=by
 intro b hb
 have hb:b.length≤140737488350000:=hb
 have hr:gd ((b.length:Nat):Int) 64=((b.length%64:Nat):Int):=by
  unfold gd
  rw[Int.tmod_eq_emod_of_nonneg (by omega)]
  omega
 have hs:bS .i64 ((b.length:Nat):Int) ((b.length%64:Nat):Int)=((b.length - b.length%64:Nat):Int):=by
  rw[fe (by omega) (by omega)];omega
 have hn:Int.toNat ((b.length - b.length%64:Nat):Int)=b.length - b.length%64:=by omega
 have hm:eS .i64 8 ((b.length:Nat):Int)=8*(b.length:Int):=jk (by omega) (by omega)
 generalize hq:b.length - b.length%64=q at hs hn
 have hc:cut b q (b.length - q)=b.drop q:=by unfold cut;rw[List.take_of_length_le (by simp)]
 have hcl:(b.drop q).length=b.length%64:=by simp;omega
 have p1:dx.aq (b.drop q):=by show(b.drop q).length≤_;omega
 rw[aN.eq,hr,hs,kE (by omega) (by omega),hn,hc]
 simp only[ah,dx.run p1,aa,dx.add,dx.F,Nat.le_refl,decide_true,List.take_length]
 have p2:aN.L0.aq (b,(b.drop q).length+1,List.replicate 32 0,b.drop q++ [128]):=by
  refine⟨by simp,?_⟩
  simp only[List.length_append,List.length_cons,List.length_nil,zc]
  omega
 have hz:zc (b.drop q++ [128]).length=mM b.length:=by
  simp only[List.length_append,List.length_cons,List.length_nil,zc,mM]
  omega
 rw[nW (by omega)]
 simp only[ah,aN.L0.run p2,aa,aN.L0.add,aN.L0.F,hm,hz]
 have hlen:(b.drop q++ [128]).length+mM b.length=(b.drop q++ [128]++List.replicate (mM b.length) 0).length:=by rw[@List.length_append _ (b.drop q++ [128]),List.length_replicate]
 have p3:ed.aq ((b.drop q++ [128]).length+mM b.length,8*(b.length:Int),b.drop q++ [128]++List.replicate (mM b.length) 0):=by
  refine⟨hlen,?_⟩
  simp only[List.length_append,List.length_cons,List.length_nil,List.length_replicate,mM]
  omega
 have p4:aN.L1.aq (b,(b.drop q++ [128]++List.replicate (mM b.length) 0).length+8,List.replicate 32 0,j4.l,b.drop q++ [128]++List.replicate (mM b.length) 0++iy (8*(b.length:Int))):=⟨j4,rfl⟩
 simp only[ed.run p3,aa,ed.add,ed.F,first.run (d:=()) trivial,first.add,first.F,aN.L1.run p4,aN.L1.add,aN.L1.F,iX]
 generalize he:b.drop q++ [128]++List.replicate (mM b.length) 0++iy (8*(b.length:Int))=e
 have hel:(b.drop q++ [128]++List.replicate (mM b.length) 0).length+8=e.length:=by rw[←he,@List.length_append _ _ (iy _),cM]
 have hem:e.length%64=0:=by
  rw[←hel]
  simp only[List.length_append,List.length_cons,List.length_nil,List.length_replicate,mM,hcl]
  omega
 have hce:cut e 0 ((b.drop q++ [128]++List.replicate (mM b.length) 0).length+8)=e:=by
  rw[hel];unfold cut;rw[List.drop_zero,List.take_length]
 rw[hce,hel,aD ⟨trivial,by omega⟩]
 have p5:aN.L2.aq (e,List.replicate 32 0,(blocks j4 b).l):=⟨hem,blocks j4 b,rfl⟩
 have p6:aN.L3.aq (0,List.replicate 32 0,(blocks (blocks j4 b) e).l):=⟨rfl,rfl,0,by omega,rfl⟩
 simp only[ah,aN.L2.run p5,aa,aN.L2.add,aN.L2.F,iX,aN.L3.run p6,aN.L3.add,aN.L3.F,aN.add,aN.F]
 rw[show Int.toNat 0=0 from rfl,B9]
 have hbl:blocks j4 (pad b)=blocks (blocks j4 b) e:=by
  have h1:pad b=b.take q++e:=by
   rw[←he]
   unfold pad
   rw[List.append_assoc,List.append_assoc,←List.append_assoc (b.take q),List.take_append_drop]
   rfl
  have h2:blocks j4 b=blocks (blocks j4 (b.take q)) (b.drop q):=by
   rw[←qi _ _ _ (by simp;omega),List.take_append_drop]
  rw[h1,qi _ _ _ (by simp;omega),h2,oa _ (b.drop q) (by omega)]
 rw[Hz,hbl]
noncomputable def aN.E:=Entry.cF [some tB] aN.st aN.aq aN.add aN.F aN.out
noncomputable def aN.call:aN.D→Option aN.X:=bC aN.E aN.st
theorem aN.run:bD aN.call aN.aq aN.add aN.F:=cz (cv [.d tB] fun _=>by kernel_rfl)
noncomputable def aN.sg:SG Tryz.prog:=⟨106,aK,aN.E,.fn 4 (by kernel_rfl) aN.ok (And.intro (.cF aN.L0.ok (by kernel_rfl)) (And.intro (.cF aN.L1.ok (by kernel_rfl)) (And.intro (.cF aN.L2.ok (by kernel_rfl)) (And.intro (.cF aN.L3.ok (by kernel_rfl)) trivial))))⟩
set_option synthInstance.maxSize 5000
abbrev cG.L0.D:=Nat×(List Bs)×Int×Int×Bs×(List Int)
def cG.L0.st:cG.L0.D→AS:=fun(bL,t13,t14,t15,n4,n10)=>⟨(bu 4 ([.ptr (.new 4 0) 0 [] 0,.cT (.new 10 0) 0 [] 0 0 bL]++bu 7 ([.d (.slice tB) t13,.d ti t14,.d ti t15]++bu 12 []))),[],(cw 4 ([[.obj 0 false (.d tH n4)]]++cw 5 ([[.obj 0 false (.vec 5 tb n10)]]++cw 17 [])))⟩
abbrev cG.L0.Y0:=Nat×(List Int)
abbrev cG.L0.X0:=(Bs)×(Nat×(List Int))
def cG.L0.bM:cG.L0.X0→Exit×AS:=fun x=>(.exit 0,⟨(bu 4 ([.ptr (.new 4 0) 0 [] 0,.cT (.new 10 0) 0 [] 0 0 x.2.1]++bu 22 [])),[],(cw 4 ([[.obj 0 false (.d tH x.1)]]++cw 5 ([[.obj 0 false (.vec 5 tb x.2.2)]]++cw 17 [])))⟩)
abbrev cG.L0.X:=cG.L0.X0
abbrev cG.L0.Y:=cG.L0.Y0
def cG.L0.out:cG.L0.X→Out (Exit×AS):=fun x=> .ok (cG.L0.bM x)
def cG.L0.add:cG.L0.D→cG.L0.Y→cG.L0.X:=fun(bL,t13,t14,t15,n4,n10) y=>(n4,y)
abbrev cG.D:=ByteArray×(List Bs)
def cG.st:cG.D→SA:=fun(name,parts)=>([.d .str name,.d (.slice tB) parts],[])
abbrev cG.Y:=Bs
abbrev cG.X:=Bs
def cG.out:cG.X→aT:=fun x=>⟨.d tH x,[],[]⟩
def cG.add:cG.D→cG.Y→cG.X:=fun(name,parts) y=>y
def cG.L0.aq:cG.L0.D→Prop:=fun(m,ps,n,i,n4,l)=>m=l.length∧n=ps.length∧ps.length≤140737488350000∧∃k:Nat,k≤ps.length∧i=k∧l.length+(jb (ps.drop k)).length≤140737488350000
def cG.L0.F:cG.L0.D→cG.L0.Y:=fun(m,ps,n,i,n4,l)=>(l.length+(jb (ps.drop i.toNat)).length,l++jb (ps.drop i.toNat))
def cG.aq:cG.D→Prop:=fun(name,ps)=>(s9 (bA name) ps).length≤140737488350000
def cG.F:cG.D→cG.Y:=fun(name,ps)=>tag (bA name) ps
noncomputable def cG.G:dX:=eX (P:=Tryz.prog) [eT.sg,ed.sg,aN.sg]
noncomputable def cG.L0.E:=cf.cF cG.L0.st cG.L0.aq cG.L0.add cG.L0.F cG.L0.out
noncomputable def cG.L0.call:cG.L0.D→Option cG.L0.X:=dO cG.L0.E cG.L0.st
noncomputable def cG.an:ej:= {loops:=ky [(3,{bt:=[4,5,13,14,15],sites:=[4,10],kc:=[⟨5,[],10,135⟩]})],outs:=kr [(3,{bt:=[4,5],sites:=[4,10]},{bt:=[4]})],gk:=kY [(3,cG.L0.E)]}
noncomputable def cG.A:= @cq Tryz.prog cG.G cG.an 0 Tryz.f51 _ cG.st
abbrev cG.Ok:=cr @cG.A cG.aq cG.add cG.F cG.out
noncomputable def cG.L0.R:= @cP Tryz.prog cG.G cG.an 0 Tryz.f51 0 _ cG.L0.st
abbrev cG.L0.Ok:=fg Tryz.prog cG.G cG.an 0 Tryz.f51 0 cG.L0.st cG.L0.aq cG.L0.add cG.L0.F cG.L0.out
theorem cG.L0.run:bD cG.L0.call cG.L0.aq cG.L0.add cG.L0.F:=fw (fk [.n,.d (.slice tB),.d ti,.d ti,.d tB,.d tB] fun _=>by kernel_rfl)
theorem cG.L0.aF:gg @cG.L0.R cG.L0.st cG.L0.aq cG.L0.add cG.L0.F cG.L0.bM cG.L0.Ok:=gj
theorem cG.L0.step{R:Type}(bL:Nat)(t13:(List Bs))(t14:Int)(t15:Int)(n4:Bs)(n10:(List Int))(kn:AS→Option R)(kx:Exit→AS→Option R):cG.L0.R (bL,t13,t14,t15,n4,n10) kn kx=
  aC ((gM t15 t14)) (
   aC (dY t15 (((List.length t13):Nat):Int)) (
   ab (ed.call (bL,(((List.length (nth tB t13 (Int.toNat t15))):Nat):Int),n10)) fun x1=>
   aC (decide (x1.1≤(List.length x1.2))) (
   aC (dK (x1.1+(List.length (nth tB t13 (Int.toNat t15)))) 1) (
   kn (cG.L0.st ((x1.1+(List.length (nth tB t13 (Int.toNat t15)))),t13,t14,(bw .i64 t15 (1:Int)),n4,((List.take x1.1 x1.2)++(nth tB t13 (Int.toNat t15)))))) none) none) none) (
   kx (cG.L0.bM (n4,(bL,n10))).1 (cG.L0.bM (n4,(bL,n10))).2):=by kernel_rfl
theorem cG.eq{R:Type}(name:ByteArray)(parts:(List Bs))(k:aT→Option R):cG.A (name,parts) k=
 ab (eT.call (((ByteArray.size name):Nat):Int)) fun x1=>
 aC (decide (x1.1≤(List.length x1.2))) (
 aC (dK (x1.1+(List.length (bA name))) 1) (
 ab (cG.L0.call ((x1.1+(List.length (bA name))),parts,(((List.length parts):Nat):Int),(0:Int),(List.replicate 32 (0:Int)),((List.take x1.1 x1.2)++(bA name)))) fun x4=>
 aC (decide (0=0∧(0+x4.2.1)≤(List.length x4.2.2))) (
 ab (aN.call (cut x4.2.2 0 x4.2.1)) fun x5=>
 k (cG.out x5)) none) none) none:=by kernel_rfl
theorem xk(p:List Int)(ps:List (List Int)):jb (p::ps)=iy p.length++p++jb ps:=by simp[jb]
theorem xl(ps:List (List Int))(k:Nat)(h:k < ps.length):jb (ps.drop k)=iy ps[k].length++ps[k]++jb (ps.drop (k+1)):=by
 rw[List.drop_eq_getElem_cons h,xk]
theorem cG.L0.ok:cG.L0.Ok:=by
 refine cG.L0.aF (fun(m,ps,n,i,n4,l)=>ps.length - i.toNat) ?_
 rintro⟨m,ps,n,i,n4,l⟩ ⟨rfl,rfl,hpl,k,hk,rfl,hl⟩
 have hl:l.length+(jb (ps.drop k)).length≤140737488350000:=hl
 have hk:k≤ps.length:=hk
 have e2:Int.toNat (k:Int)=k:=by omega
 have e3:Int.toNat ((k+1:Nat):Int)=k+1:=by omega
 by_cases h:k < ps.length
 ·left
  have ht:=xl ps k h
  have hlen:(jb (ps.drop k)).length=8+ps[k].length+(jb (ps.drop (k+1))).length:=by rw[ht];simp only[List.length_append,cM]
  have hn:nth (.slice (.int .u8)) ps k=ps[k]:=dT (t:= .slice (.int .u8)) h
  have hpl:ps.length≤140737488350000:=hpl
  have e1:bw .i64 (k:Int) 1=((k+1:Nat):Int):=by rw[dL (by omega) (by omega)];omega
  refine⟨((l++iy ps[k].length++ps[k]).length,ps,(ps.length:Int),((k+1:Nat):Int),n4,l++iy ps[k].length++ps[k]),⟨rfl,rfl,hpl,k+1,by show k+1≤ps.length;omega,rfl,?_⟩,?_,?_,fun kn kx=> ?_⟩
  ·show(l++iy ps[k].length++ps[k]).length+(jb (ps.drop (k+1))).length≤_
   simp only[List.length_append,cM];omega
  ·show ps.length - Int.toNat ((k+1:Nat):Int) < ps.length - Int.toNat (k:Int)
   omega
  ·simp only[cG.L0.add,cG.L0.F,e2,e3,ht,List.append_assoc]
   simp only[List.length_append,cM,Nat.add_assoc]
  ·have p1:ed.aq (l.length,(ps[k].length:Int),l):=⟨rfl,by show l.length≤_;omega⟩
   rw[cG.L0.step,bB (by omega),bz (by omega) (by omega),e1,e2]
   simp only[ah,hn,ed.run p1,aa,ed.add,ed.F]
   have hlb:(l++iy ps[k].length).length=l.length+8:=by simp[cM]
   rw[hlb,aD (Nat.le_refl _),nW (by omega)]
   simp only[ah]
   rw[List.take_of_length_le (by rw[hlb];omega)]
   simp only[List.length_append,cM,Nat.add_assoc]
 ·right
  obtain rfl:k=ps.length:=by omega
  intro R kn kx
  rw[cG.L0.step,bm (by omega)]
  simp only[ae,cG.L0.add,cG.L0.F,e2,List.drop_length]
  simp[jb]
theorem vK:∀ps:List (List Int),8*ps.length≤(jb ps).length
 |[]=>by simp[jb]
 |p::ps=>by
  rw[xk]
  have:=vK ps
  simp only[List.length_append,cM,List.length_cons]
  omega
theorem ig(s:ByteArray):(bA s).length=s.size:=by simp only[bA,List.length_map,Array.length_toList];rfl
theorem cG.ok:cG.Ok:=by
 rintro⟨name,ps⟩ hp
 have hp:(iy (bA name).length++bA name++jb ps).length≤140737488350000:=hp
 have hl:(iy (bA name).length++bA name++jb ps).length=8+(bA name).length+(jb ps).length:=by simp only[List.length_append,cM]
 have hpl:=vK ps
 have hsz:((name.size:Nat):Int)=(((bA name).length:Nat):Int):=by rw[ig]
 rw[cG.eq,eT.run (d:=((name.size:Nat):Int)) trivial,hsz]
 simp only[aa,eT.add,eT.F,cM,Nat.le_refl,decide_true,ah]
 rw[nW (by omega),List.take_of_length_le (by rw[cM];omega)]
 have p2:cG.L0.aq (8+(bA name).length,ps,(ps.length:Int),0,List.replicate 32 0,iy ((bA name).length:Int)++bA name):=by
  refine⟨by simp only[List.length_append,cM],rfl,by show ps.length≤_;omega,0,Nat.zero_le _,rfl,?_⟩
  rw[List.drop_zero]
  simp only[List.length_append,cM]
  omega
 simp only[ah,cG.L0.run p2,aa,cG.L0.add,cG.L0.F,Int.toNat_zero,List.drop_zero]
 have hcut:cut (iy ((bA name).length:Int)++bA name++jb ps) 0 ((iy ((bA name).length:Int)++bA name).length+(jb ps).length)=s9 (bA name) ps:=by
  unfold cut
  rw[List.drop_zero,List.take_of_length_le (by simp only[List.length_append];omega)]
  rfl
 have p3:aN.aq (s9 (bA name) ps):=hp
 rw[aD ⟨trivial,by simp only[List.length_append];omega⟩,hcut]
 simp only[ah,aN.run p3,aa,aN.add,aN.F,cG.add,cG.F,tag]
noncomputable def cG.E:=Entry.cF [some .str,some (.slice tB)] cG.st cG.aq cG.add cG.F cG.out
noncomputable def cG.call:cG.D→Option cG.X:=bC cG.E cG.st
theorem cG.run:bD cG.call cG.aq cG.add cG.F:=cz (cv [.d .str,.d (.slice tB)] fun _=>by kernel_rfl)
noncomputable def cG.sg:SG Tryz.prog:=⟨51,aK,cG.E,.fn 1 (by kernel_rfl) cG.ok (And.intro (.cF cG.L0.ok (by kernel_rfl)) trivial)⟩
set_option synthInstance.maxSize 5000
abbrev dG.D:=Int×Int
def dG.st:dG.D→SA:=fun(x,n)=>([.d (.int .u32) x,.d ti n],[])
abbrev dG.Y:=Int
abbrev dG.X:=Int
def dG.out:dG.X→aT:=fun x=>⟨.d (.int .u32) x,[],[]⟩
def dG.add:dG.D→dG.Y→dG.X:=fun(x,n) y=>y
def dG.aq:dG.D→Prop:=fun(x,n)=>0≤x∧x < 4294967296∧0≤n∧n≤32
def dG.F:dG.D→dG.Y:=fun(x,n)=>vw (lq (BitVec.ofInt 32 x) n.toNat)
noncomputable def dG.G:dX:=eX (P:=Tryz.prog) []
noncomputable def dG.an:ej:= {}
noncomputable def dG.A:= @cq Tryz.prog dG.G dG.an 0 Tryz.f187 _ dG.st
abbrev dG.Ok:=cr @dG.A dG.aq dG.add dG.F dG.out
theorem dG.eq{R:Type}(x:Int)(n:Int)(k:aT→Option R):dG.A (x,n) k=
 aC (iW n) (
 aC (iW (bS .i64 (32:Int) n)) (
 k (dG.out (ct .or .u32 (bW .u32 x n) (jC .u32 x (bS .i64 (32:Int) n))))) none) none:=by kernel_rfl
theorem dG.ok:dG.Ok:=by
 rintro⟨x,n⟩ ⟨h1,h2,h3,h4⟩
 obtain⟨n,rfl⟩:=Int.eq_ofNat_of_zero_le h3
 have hx:x=vw (BitVec.ofInt 32 x):=by rw[gL];have h1:0≤x:=h1;have h2:x < 4294967296:=h2;omega
 have h4:(n:Int)≤32:=h4
 rw[dG.eq]
 simp(disch:=omega) only[↓S1,↓if_pos,↓if_neg,if_pos,if_neg,if_true,if_false,S2]
 have e2:ct .or .u32 (bW .u32 x (n:Int)) (jC .u32 x ((32 - n:Nat):Int))=vw (lq (BitVec.ofInt 32 x) n):=by
  conv=>lhs;rw[hx]
  rw[ri,pj,ju]
  simp only[lq,Int.toNat_natCast]
  rw[BitVec.or_comm]
 rw[e2]
 rfl
noncomputable def dG.E:=Entry.cF [some (.int .u32),some ti] dG.st dG.aq dG.add dG.F dG.out
noncomputable def dG.call:dG.D→Option dG.X:=bC dG.E dG.st
theorem dG.run:bD dG.call dG.aq dG.add dG.F:=cz (cv [.d (.int .u32),.d ti] fun _=>by kernel_rfl)
noncomputable def dG.sg:SG Tryz.prog:=⟨187,aK,dG.E,.fn 0 (by kernel_rfl) dG.ok trivial⟩
theorem dG.at(w:W){k:Int}(h:0≤k∧k≤32):dG.call (vw w,k)=some (vw (lq w k.toNat)):=by
 have h:dG.aq (vw w,k):=⟨tc w,by have:=Fg w;simpa using this,h.1,h.2⟩
 rw[dG.run h]
 show some (vw (lq (BitVec.ofInt 32 (vw w)) k.toNat))=_
 rw[kN]
abbrev cX.D:=Unit
def cX.st:cX.D→SA:=fun _=>([],[])
abbrev cX.Y:=(List Int)
abbrev cX.X:=(List Int)
def cX.out:cX.X→aT:=fun x=>⟨.d (.slice (.int .u32)) x,[],[]⟩
def cX.add:cX.D→cX.Y→cX.X:=fun _ y=>y
def cX.aq:cX.D→Prop:=fun _=>True
def cX.F:cX.D→cX.Y:=fun _=>j4.l
noncomputable def cX.G:dX:=eX (P:=Tryz.prog) []
noncomputable def cX.an:ej:= {bZ:=[1],res:=[some (.slice (.int .u32))]}
noncomputable def cX.A:= @cq Tryz.prog cX.G cX.an 0 Tryz.f179 _ cX.st
abbrev cX.Ok:=cr @cX.A cX.aq cX.add cX.F cX.out
theorem cX.eq{R:Type}(k:aT→Option R):cX.A () k=
 k (cX.out [(1779033703:Int),(3144134277:Int),(1013904242:Int),(2773480762:Int),(1359893119:Int),(2600822924:Int),(528734635:Int),(1541459225:Int)]):=by kernel_rfl
theorem cX.ok:cX.Ok:=by
 intro d _
 rw[cX.eq]
 rfl
noncomputable def cX.E:=Entry.cF [] cX.st cX.aq cX.add cX.F cX.out
noncomputable def cX.call:cX.D→Option cX.X:=bC cX.E cX.st
theorem cX.run:bD cX.call cX.aq cX.add cX.F:=cz (cv [] fun _=>by kernel_rfl)
noncomputable def cX.sg:SG Tryz.prog:=⟨179,aK,cX.E,.fn 0 (by kernel_rfl) cX.ok trivial⟩
abbrev eU.D:=Unit
def eU.st:eU.D→SA:=fun _=>([],[])
abbrev eU.Y:=(List Int)
abbrev eU.X:=(List Int)
def eU.out:eU.X→aT:=fun x=>⟨.d (.slice (.int .u32)) x,[],[]⟩
def eU.add:eU.D→eU.Y→eU.X:=fun _ y=>y
def eU.aq:eU.D→Prop:=fun _=>True
def eU.F:eU.D→eU.Y:=fun _=>sJ
noncomputable def eU.G:dX:=eX (P:=Tryz.prog) []
noncomputable def eU.an:ej:= {bZ:=[1],res:=[some (.slice (.int .u32))]}
noncomputable def eU.A:= @cq Tryz.prog eU.G eU.an 0 Tryz.f186 _ eU.st
abbrev eU.Ok:=cr @eU.A eU.aq eU.add eU.F eU.out
theorem eU.eq{R:Type}(k:aT→Option R):eU.A () k=
 k (eU.out [(1116352408:Int),(1899447441:Int),(3049323471:Int),(3921009573:Int),(961987163:Int),(1508970993:Int),(2453635748:Int),(2870763221:Int),(3624381080:Int),(310598401:Int),(607225278:Int),(1426881987:Int),(1925078388:Int),(2162078206:Int),(2614888103:Int),(3248222580:Int),(3835390401:Int),(4022224774:Int),(264347078:Int),(604807628:Int),(770255983:Int),(1249150122:Int),(1555081692:Int),(1996064986:Int),(2554220882:Int),(2821834349:Int),(2952996808:Int),(3210313671:Int),(3336571891:Int),(3584528711:Int),(113926993:Int),(338241895:Int),(666307205:Int),(773529912:Int),(1294757372:Int),(1396182291:Int),(1695183700:Int),(1986661051:Int),(2177026350:Int),(2456956037:Int),(2730485921:Int),(2820302411:Int),(3259730800:Int),(3345764771:Int),(3516065817:Int),(3600352804:Int),(4094571909:Int),(275423344:Int),(430227734:Int),(506948616:Int),(659060556:Int),(883997877:Int),(958139571:Int),(1322822218:Int),(1537002063:Int),(1747873779:Int),(1955562222:Int),(2024104815:Int),(2227730452:Int),(2361852424:Int),(2428436474:Int),(2756734187:Int),(3204031479:Int),(3329325298:Int)]):=by kernel_rfl
theorem eU.ok:eU.Ok:=by
 intro d _
 rw[eU.eq]
 rfl
noncomputable def eU.E:=Entry.cF [] eU.st eU.aq eU.add eU.F eU.out
noncomputable def eU.call:eU.D→Option eU.X:=bC eU.E eU.st
theorem eU.run:bD eU.call eU.aq eU.add eU.F:=cz (cv [] fun _=>by kernel_rfl)
noncomputable def eU.sg:SG Tryz.prog:=⟨186,aK,eU.E,.fn 0 (by kernel_rfl) eU.ok trivial⟩
abbrev aw.L0.D:=Bs×Nat×(List Int)
def aw.L0.st:aw.L0.D→AS:=fun(b_2,outL,n6)=>⟨([.d tB b_2,.undef,.undef,.cT (.new 6 0) 0 [] 0 0 outL]++bu 31 []),[],(cw 6 ([[.obj 0 false (.vec 5 tb n6)]]++cw 28 []))⟩
abbrev aw.L0.Y0:=Nat×(List Int)
abbrev aw.L0.X0:=(Bs)×(Nat×(List Int))
def aw.L0.bM:aw.L0.X0→Exit×AS:=fun x=>(.exit 0,⟨([.d tB x.1,.undef,.undef,.cT (.new 6 0) 0 [] 0 0 x.2.1]++bu 31 []),[],(cw 6 ([[.obj 0 false (.vec 5 tb x.2.2)]]++cw 28 []))⟩)
abbrev aw.L0.X:=aw.L0.X0
abbrev aw.L0.Y:=aw.L0.Y0
def aw.L0.out:aw.L0.X→Out (Exit×AS):=fun x=> .ok (aw.L0.bM x)
def aw.L0.add:aw.L0.D→aw.L0.Y→aw.L0.X:=fun(b_2,outL,n6) y=>(b_2,y)
abbrev aw.L1.D:=Nat×Int×Int×(List Int)
def aw.L1.st:aw.L1.D→AS:=fun(outL_2,n,kv,n6_2)=>⟨([.undef,.undef,.undef,.cT (.new 6 0) 0 [] 0 0 outL_2,.d tu n,.d ti kv]++bu 29 []),[],(cw 6 ([[.obj 0 false (.vec 5 tb n6_2)]]++cw 28 []))⟩
abbrev aw.L1.Y0:=Nat×(List Int)
abbrev aw.L1.X0:=Nat×(List Int)
def aw.L1.bM:aw.L1.X0→Exit×AS:=fun x=>(.exit 2,⟨([.undef,.undef,.undef,.cT (.new 6 0) 0 [] 0 0 x.1]++bu 31 []),[],(cw 6 ([[.obj 0 false (.vec 5 tb x.2)]]++cw 28 []))⟩)
abbrev aw.L1.X:=aw.L1.X0
abbrev aw.L1.Y:=aw.L1.Y0
def aw.L1.out:aw.L1.X→Out (Exit×AS):=fun x=> .ok (aw.L1.bM x)
def aw.L1.add:aw.L1.D→aw.L1.Y→aw.L1.X:=fun(outL_2,n,kv,n6_2) y=>y
abbrev aw.D:=Bs
def aw.st:aw.D→SA:=fun b=>([.d tB b],[])
abbrev aw.Y:=Bs
abbrev aw.X:=Bs
def aw.out:aw.X→aT:=fun x=>⟨.d tB x,[],[]⟩
def aw.add:aw.D→aw.Y→aw.X:=fun b y=>y
def aw.L0.aq:aw.L0.D→Prop:=fun(b,m,l)=>m=l.length∧l.length+zc l.length≤140737488355328
def aw.L0.F:aw.L0.D→aw.L0.Y:=fun(b,m,l)=>(l.length+zc l.length,l++List.replicate (zc l.length) 0)
def aw.L1.aq:aw.L1.D→Prop:=fun(m,n,kv,l)=>0≤n∧n < 18446744073709551616∧∃j:Nat,j≤8∧kv=56 - 8*(j:Int)∧m=l.length∧l.length≤140737488355320+j
def aw.L1.F:aw.L1.D→aw.L1.Y:=fun(m,n,kv,l)=>(l.length+(iy n).length - (7 - (kv / 8)).toNat,l++(iy n).drop (7 - (kv / 8)).toNat)
def aw.aq:aw.D→Prop:=fun b=>b.length≤140737488350000
def aw.F:aw.D→aw.Y:=fun b=>pad b
noncomputable def aw.G:dX:=eX (P:=Tryz.prog) []
noncomputable def aw.L0.E:=cf.cF aw.L0.st aw.L0.aq aw.L0.add aw.L0.F aw.L0.out
noncomputable def aw.L0.call:aw.L0.D→Option aw.L0.X:=dO aw.L0.E aw.L0.st
noncomputable def aw.L1.E:=cf.cF aw.L1.st aw.L1.aq aw.L1.add aw.L1.F aw.L1.out
noncomputable def aw.L1.call:aw.L1.D→Option aw.L1.X:=dO aw.L1.E aw.L1.st
noncomputable def aw.an:ej:= {bZ:=[6],loops:=ky [(3,{bt:=[0,3],sites:=[6],kc:=[⟨3,[],6,135⟩]}),(7,{bt:=[3,4,5],sites:=[6],kc:=[⟨3,[],6,135⟩]})],outs:=kr [(3,{bt:=[0,3],sites:=[6]},{bt:=[2]}),(7,{bt:=[3],sites:=[6]},{bt:=[2]})],gk:=kY [(3,aw.L0.E),(7,aw.L1.E)],res:=[some tB]}
noncomputable def aw.A:= @cq Tryz.prog aw.G aw.an 0 Tryz.f178 _ aw.st
abbrev aw.Ok:=cr @aw.A aw.aq aw.add aw.F aw.out
noncomputable def aw.L0.R:= @cP Tryz.prog aw.G aw.an 0 Tryz.f178 0 _ aw.L0.st
abbrev aw.L0.Ok:=fg Tryz.prog aw.G aw.an 0 Tryz.f178 0 aw.L0.st aw.L0.aq aw.L0.add aw.L0.F aw.L0.out
noncomputable def aw.L1.R:= @cP Tryz.prog aw.G aw.an 0 Tryz.f178 1 _ aw.L1.st
abbrev aw.L1.Ok:=fg Tryz.prog aw.G aw.an 0 Tryz.f178 1 aw.L1.st aw.L1.aq aw.L1.add aw.L1.F aw.L1.out
theorem aw.L0.run:bD aw.L0.call aw.L0.aq aw.L0.add aw.L0.F:=fw (fk [.d tB,.n,.d tB] fun _=>by kernel_rfl)
theorem aw.L0.aF:gg @aw.L0.R aw.L0.st aw.L0.aq aw.L0.add aw.L0.F aw.L0.bM aw.L0.Ok:=gj
theorem aw.L0.step{R:Type}(b_2:Bs)(outL:Nat)(n6:(List Int))(kn:AS→Option R)(kx:Exit→AS→Option R):aw.L0.R (b_2,outL,n6) kn kx=
  aC ((qS (gd ((outL:Nat):Int) (64:Int)) (56:Int))) (
   aC (decide (outL≤(List.length n6))) (
   aC (dK (outL+1) 1) (
   kn (aw.L0.st (b_2,(outL+1),((List.take outL n6)++ [(0:Int)])))) none) none) (
   kx (aw.L0.bM (b_2,(outL,n6))).1 (aw.L0.bM (b_2,(outL,n6))).2):=by kernel_rfl
theorem aw.L1.run:bD aw.L1.call aw.L1.aq aw.L1.add aw.L1.F:=fw (fk [.n,.d tu,.d ti,.d tB] fun _=>by kernel_rfl)
theorem aw.L1.aF:gg @aw.L1.R aw.L1.st aw.L1.aq aw.L1.add aw.L1.F aw.L1.bM aw.L1.Ok:=gj
theorem aw.L1.step{R:Type}(outL_2:Nat)(n:Int)(kv:Int)(n6_2:(List Int))(kn:AS→Option R)(kx:Exit→AS→Option R):aw.L1.R (outL_2,n,kv,n6_2) kn kx=
  aC ((kX kv (0:Int))) (
   aC (iW kv) (
   aC (decide (outL_2≤(List.length n6_2))) (
   aC (dK (outL_2+1) 1) (
   kn (aw.L1.st ((outL_2+1),n,(bS .i64 kv (8:Int)),((List.take outL_2 n6_2)++ [(dI .u8 (bW .u64 n kv))])))) none) none) none) (
   kx (aw.L1.bM (outL_2,n6_2)).1 (aw.L1.bM (outL_2,n6_2)).2):=by kernel_rfl
theorem aw.eq{R:Type}(b:Bs)(k:aT→Option R):aw.A b k=
 aC (dK (0+(List.length b)) 1) (
 aC (decide ((0+(List.length b))≤(List.length ((List.take 0 (List.replicate 0 (0:Int)))++b)))) (
 aC (dK ((0+(List.length b))+1) 1) (
 ab (aw.L0.call (b,((0+(List.length b))+1),((List.take (0+(List.length b)) ((List.take 0 (List.replicate 0 (0:Int)))++b))++ [(128:Int)]))) fun x1=>
 ab (aw.L1.call (x1.2.1,(eS .u64 (8:Int) (dI .u64 (((List.length x1.1):Nat):Int))),(56:Int),x1.2.2)) fun x2=>
 aC (decide (0=0∧(0+x2.1)≤(List.length x2.2))) (
 k (aw.out (cut x2.2 0 x2.1))) none) none) none) none:=by kernel_rfl
theorem aw.L0.ok:aw.L0.Ok:=by
 refine aw.L0.aF (fun(b,m,l)=>zc l.length) ?_
 rintro⟨b,m,l⟩ ⟨rfl,hl⟩
 have hl:l.length+zc l.length≤140737488355328:=hl
 by_cases h:l.length%64=56
 ·right
  intro R kn kx
  have hz:zc l.length=0:=by unfold zc;omega
  rw[aw.L0.step]
  simp(disch:=omega) only[↓S1,↓if_pos,↓if_neg,if_pos,if_neg,if_true,if_false,S2,aw.L0.add,aw.L0.F,hz,Nat.add_zero,List.replicate_zero,List.append_nil]
 ·left
  have hz:zc l.length=zc (l.length+1)+1:=by unfold zc;omega
  refine⟨(b,l.length+1,l++ [0]),⟨by simp,by simp only[List.length_append,List.length_cons,List.length_nil,Nat.zero_add];omega⟩,by simp only[List.length_append,List.length_cons,List.length_nil,Nat.zero_add];omega,?_,fun kn kx=> ?_⟩
  ·simp only[aw.L0.add,aw.L0.F,List.length_append,List.length_cons,List.length_nil,Nat.zero_add,hz,List.append_assoc,List.cons_append,List.nil_append,List.replicate_succ]
   rw[show l.length+1+zc (l.length+1)=l.length+(zc (l.length+1)+1) by omega]
  ·rw[aw.L0.step]
   simp(disch:=omega) only[↓S1,↓if_pos,↓if_neg,if_pos,if_neg,if_true,if_false,S2,List.take_length]
theorem DF(n:Int)(j:Nat)(h:j < 8):(iy n).drop j=n / 2^(56 - 8*j)%256::(iy n).drop (j+1):=by
 rcases(by omega:j=0∨j=1∨j=2∨j=3∨j=4∨j=5∨j=6∨j=7) with rfl | rfl | rfl | rfl | rfl | rfl | rfl | rfl <;> simp[iy]
theorem Am(n:Int)(k:Nat)(h1:k≤64):dI .u8 (bW .u64 n (k:Int))=n / 2^k%256:=by
 rw[uO,gL,bW]
 have e:min (k:Int).toNat IntKind.u64.bits=k:=by simp only[IntKind.bits];omega
 rw[e,Int.fdiv_eq_ediv_of_nonneg _ (Int.le_of_lt (Int.pow_pos (by omega)))]
 rfl
theorem aw.L1.ok:aw.L1.Ok:=by
 refine aw.L1.aF (fun(m,n,kv,l)=>(kv+8).toNat) ?_
 rintro⟨m,n,kv,l⟩ ⟨h1,h2,j,hj,rfl,rfl,hl⟩
 have hl:l.length≤140737488355320+j:=hl
 have e1:(7 - ((56 - 8*(j:Int)) / 8)).toNat=j:=by omega
 by_cases h:j < 8
 ·left
  have e2:bS .i64 (56 - 8*(j:Int)) 8=56 - 8*((j+1:Nat):Int):=by rw[fe (by omega) (by omega)];omega
  have e3:(7 - ((56 - 8*((j+1:Nat):Int)) / 8)).toNat=j+1:=by omega
  have e4:(56 - 8*(j:Int))=((56 - 8*j:Nat):Int):=by omega
  refine⟨(l.length+1,n,56 - 8*((j+1:Nat):Int),l++ [n / 2^(56 - 8*j)%256]),⟨h1,h2,j+1,by omega,rfl,by simp,by simp only[List.length_append,List.length_cons,List.length_nil];omega⟩,by simp only;omega,?_,fun kn kx=> ?_⟩
  ·simp only[aw.L1.add,aw.L1.F,e1,e3,DF n j h,List.length_append,List.length_cons,List.length_nil,List.append_assoc,List.cons_append,List.nil_append,cM]
   rw[show l.length+(0+1)+8 - (j+1)=l.length+8 - j by omega]
  ·rw[aw.L1.step,e2,e4,Am n _ (by omega)]
   simp(disch:=omega) only[↓S1,↓if_pos,↓if_neg,if_pos,if_neg,if_true,if_false,S2,List.take_length]
 ·right
  obtain rfl:j=8:=by omega
  intro R kn kx
  rw[aw.L1.step]
  simp(disch:=omega) only[↓S1,↓if_pos,↓if_neg,if_pos,if_neg,if_true,if_false,S2,aw.L1.add,aw.L1.F,e1]
  simp[iy]
theorem aw.ok:aw.Ok:=by
 intro b hb
 have hb:b.length≤140737488350000:=hb
 have hz:zc (b++ [128]).length=mM b.length:=by
  simp only[List.length_append,List.length_cons,List.length_nil,zc,mM]
  omega
 have hzb:mM b.length < 64:=by unfold mM;omega
 have p1:aw.L0.aq (b,b.length+1,b++ [128]):=⟨by simp,by rw[hz];simp only[List.length_append,List.length_cons,List.length_nil] <;> omega⟩
 have e1:dI .u64 ((b.length:Nat):Int)=((b.length:Nat):Int):=by rw[xN,gL];omega
 have e2:eS .u64 8 ((b.length:Nat):Int)=8*(b.length:Int):=by
  unfold eS;rw[wrap_u64,gL];omega
 have e3:List.take b.length b=b:=List.take_length
 rw[aw.eq]
 simp only[List.replicate_zero,List.take_nil,List.nil_append,Nat.zero_add,e1,e2,e3]
 simp(disch:=omega) only[↓S1,↓if_pos,↓if_neg,if_pos,if_neg,if_true,if_false,S2,aw.L0.run p1,aw.L0.add,aw.L0.F,hz]
 have p2:aw.L1.aq ((b++ [128]).length+mM b.length,8*(b.length:Int),56,b++ [128]++List.replicate (mM b.length) 0):=by
  refine⟨by omega,by omega,0,by omega,rfl,by simp only[List.length_append,List.length_cons,List.length_nil,List.length_replicate] <;> omega,?_⟩
  simp only[List.length_append,List.length_cons,List.length_nil,List.length_replicate]
  omega
 simp(disch:=omega) only[↓S1,↓if_pos,↓if_neg,if_pos,if_neg,if_true,if_false,S2,e1,e2,aw.L1.run p2,aw.L1.add,aw.L1.F]
 have e5:(7 - ((56:Int) / 8)).toNat=0:=by decide
 rw[e5,List.drop_zero]
 have e6:(b++ [128]++List.replicate (mM b.length) 0).length+(iy (8*(b.length:Int))).length - 0=(b++ [128]++List.replicate (mM b.length) 0++iy (8*(b.length:Int))).length:=by rw[@List.length_append _ _ (iy _)];omega
 rw[e6,if_pos (Nat.le_refl _)]
 unfold cut
 rw[List.drop_zero,List.take_length]
 simp only[aw.add,aw.F,pad,List.append_assoc,List.cons_append,List.nil_append]
noncomputable def aw.E:=Entry.cF [some tB] aw.st aw.aq aw.add aw.F aw.out
noncomputable def aw.call:aw.D→Option aw.X:=bC aw.E aw.st
theorem aw.run:bD aw.call aw.aq aw.add aw.F:=cz (cv [.d tB] fun _=>by kernel_rfl)
noncomputable def aw.sg:SG Tryz.prog:=⟨178,aK,aw.E,.fn 2 (by kernel_rfl) aw.ok (And.intro (.cF aw.L0.ok (by kernel_rfl)) (And.intro (.cF aw.L1.ok (by kernel_rfl)) trivial))⟩
set_option synthInstance.maxSize 5000
abbrev aI.L0.D:=Bs×Nat×Int×(List Int)
def aI.L0.st:aI.L0.D→AS:=fun(b_2,wL,i,n49)=>⟨([.d tB b_2,.undef,.undef,.cT (.new 49 0) 0 [] 0 0 wL,.d ti i]++bu 94 []),[],(cw 49 ([[.obj 0 false (.vec 25 (.int .u32) n49)]]++cw 49 []))⟩
abbrev aI.L0.Y0:=Nat×(List Int)
abbrev aI.L0.X0:=Nat×(List Int)
def aI.L0.bM:aI.L0.X0→Exit×AS:=fun x=>(.exit 0,⟨([.undef,.undef,.undef,.cT (.new 49 0) 0 [] 0 0 x.1]++bu 95 []),[],(cw 49 ([[.obj 0 false (.vec 25 (.int .u32) x.2)]]++cw 49 []))⟩)
abbrev aI.L0.X:=aI.L0.X0
abbrev aI.L0.Y:=aI.L0.Y0
def aI.L0.out:aI.L0.X→Out (Exit×AS):=fun x=> .ok (aI.L0.bM x)
def aI.L0.add:aI.L0.D→aI.L0.Y→aI.L0.X:=fun(b_2,wL,i,n49) y=>y
abbrev aI.L1.D:=Nat×Int×(List Int)
def aI.L1.st:aI.L1.D→AS:=fun(wL_2,i_2,n49_2)=>⟨([.undef,.undef,.undef,.cT (.new 49 0) 0 [] 0 0 wL_2,.undef,.d ti i_2]++bu 93 []),[],(cw 49 ([[.obj 0 false (.vec 25 (.int .u32) n49_2)]]++cw 49 []))⟩
abbrev aI.L1.Y0:=Nat×(List Int)
abbrev aI.L1.X0:=Nat×(List Int)
def aI.L1.bM:aI.L1.X0→Exit×AS:=fun x=>(.exit 2,⟨([.undef,.undef,.undef,.cT (.new 49 0) 0 [] 0 0 x.1]++bu 95 []),[],(cw 49 ([[.obj 0 false (.vec 25 (.int .u32) x.2)]]++cw 49 []))⟩)
abbrev aI.L1.X:=aI.L1.X0
abbrev aI.L1.Y:=aI.L1.Y0
def aI.L1.out:aI.L1.X→Out (Exit×AS):=fun x=> .ok (aI.L1.bM x)
def aI.L1.add:aI.L1.D→aI.L1.Y→aI.L1.X:=fun(wL_2,i_2,n49_2) y=>y
abbrev aI.D:=Bs
def aI.st:aI.D→SA:=fun b=>([.d tB b],[])
abbrev aI.Y:=(List Int)
abbrev aI.X:=(List Int)
def aI.out:aI.X→aT:=fun x=>⟨.d (.slice (.int .u32)) x,[],[]⟩
def aI.add:aI.D→aI.Y→aI.X:=fun b y=>y
def aI.L0.aq:aI.L0.D→Prop:=fun(b,m,i,l)=>64≤b.length∧∃k:Nat,k≤16∧i=k∧k=m∧l=wl ((words b).take k)
def aI.L0.F:aI.L0.D→aI.L0.Y:=fun(b,m,i,l)=>(16,wl (words b))
def aI.L1.aq:aI.L1.D→Prop:=fun(m,i,l)=>∃ws:List W,16≤ws.length∧ws.length≤64∧l=wl ws∧m=ws.length∧i=(ws.length:Nat)
def aI.L1.F:aI.L1.D→aI.L1.Y:=fun(m,i,l)=>(64,wl (Fq (Fe l) (64 - l.length)))
def aI.aq:aI.D→Prop:=fun b=>64≤b.length
def aI.F:aI.D→aI.Y:=fun b=>wl (sched b)
noncomputable def aI.G:dX:=eX (P:=Tryz.prog) [dG.sg]
noncomputable def aI.L0.E:=cf.cF aI.L0.st aI.L0.aq aI.L0.add aI.L0.F aI.L0.out
noncomputable def aI.L0.call:aI.L0.D→Option aI.L0.X:=dO aI.L0.E aI.L0.st
noncomputable def aI.L1.E:=cf.cF aI.L1.st aI.L1.aq aI.L1.add aI.L1.F aI.L1.out
noncomputable def aI.L1.call:aI.L1.D→Option aI.L1.X:=dO aI.L1.E aI.L1.st
noncomputable def aI.an:ej:= {loops:=ky [(3,{bt:=[0,3,4],sites:=[49],kc:=[⟨3,[],49,253⟩]}),(7,{bt:=[3,5],sites:=[49],kc:=[⟨3,[],49,253⟩]})],outs:=kr [(3,{bt:=[3],sites:=[49]},{bt:=[2]}),(7,{bt:=[3],sites:=[49]},{bt:=[2]})],gk:=kY [(3,aI.L0.E),(7,aI.L1.E)],res:=[some (.slice (.int .u32))]}
noncomputable def aI.A:= @cq Tryz.prog aI.G aI.an 0 Tryz.f185 _ aI.st
abbrev aI.Ok:=cr @aI.A aI.aq aI.add aI.F aI.out
noncomputable def aI.L0.R:= @cP Tryz.prog aI.G aI.an 0 Tryz.f185 0 _ aI.L0.st
abbrev aI.L0.Ok:=fg Tryz.prog aI.G aI.an 0 Tryz.f185 0 aI.L0.st aI.L0.aq aI.L0.add aI.L0.F aI.L0.out
noncomputable def aI.L1.R:= @cP Tryz.prog aI.G aI.an 0 Tryz.f185 1 _ aI.L1.st
abbrev aI.L1.Ok:=fg Tryz.prog aI.G aI.an 0 Tryz.f185 1 aI.L1.st aI.L1.aq aI.L1.add aI.L1.F aI.L1.out
theorem aI.L0.run:bD aI.L0.call aI.L0.aq aI.L0.add aI.L0.F:=fw (fk [.d tB,.n,.d ti,.d (.slice (.int .u32))] fun _=>by kernel_rfl)
theorem aI.L0.aF:gg @aI.L0.R aI.L0.st aI.L0.aq aI.L0.add aI.L0.F aI.L0.bM aI.L0.Ok:=gj
theorem aI.L0.step{R:Type}(b_2:Bs)(wL:Nat)(i:Int)(n49:(List Int))(kn:AS→Option R)(kx:Exit→AS→Option R):aI.L0.R (b_2,wL,i,n49) kn kx=
  aC ((gM i (16:Int))) (
   aC (dY (eS .i64 (4:Int) i) (((List.length b_2):Nat):Int)) (
   aC (dY (bw .i64 (eS .i64 (4:Int) i) (1:Int)) (((List.length b_2):Nat):Int)) (
   aC (dY (bw .i64 (eS .i64 (4:Int) i) (2:Int)) (((List.length b_2):Nat):Int)) (
   aC (dY (bw .i64 (eS .i64 (4:Int) i) (3:Int)) (((List.length b_2):Nat):Int)) (
   aC (decide (wL≤(List.length n49))) (
   aC (dK (wL+1) 4) (
   kn (aI.L0.st (b_2,(wL+1),(bw .i64 i (1:Int)),((List.take wL n49)++ [(ct .or .u32 (ct .or .u32 (ct .or .u32 (jC .u32 (dI .u32 (nth tb b_2 (Int.toNat (eS .i64 (4:Int) i)))) (24:Int)) (jC .u32 (dI .u32 (nth tb b_2 (Int.toNat (bw .i64 (eS .i64 (4:Int) i) (1:Int))))) (16:Int))) (jC .u32 (dI .u32 (nth tb b_2 (Int.toNat (bw .i64 (eS .i64 (4:Int) i) (2:Int))))) (8:Int))) (dI .u32 (nth tb b_2 (Int.toNat (bw .i64 (eS .i64 (4:Int) i) (3:Int))))))])))) none) none) none) none) none) none) (
   kx (aI.L0.bM (wL,n49)).1 (aI.L0.bM (wL,n49)).2):=by kernel_rfl
theorem aI.L1.run:bD aI.L1.call aI.L1.aq aI.L1.add aI.L1.F:=fw (fk [.n,.d ti,.d (.slice (.int .u32))] fun _=>by kernel_rfl)
theorem aI.L1.aF:gg @aI.L1.R aI.L1.st aI.L1.aq aI.L1.add aI.L1.F aI.L1.bM aI.L1.Ok:=gj
theorem aI.L1.step{R:Type}(wL_2:Nat)(i_2:Int)(n49_2:(List Int))(kn:AS→Option R)(kx:Exit→AS→Option R):aI.L1.R (wL_2,i_2,n49_2) kn kx=
  aC ((gM i_2 (64:Int))) (
   aC (dY (bS .i64 i_2 (15:Int)) ((wL_2:Nat):Int)) (
   aC (decide ((0+(Int.toNat (bS .i64 i_2 (15:Int)))) < (List.length n49_2))) (
   aC (decide ((((0+(Int.toNat (bS .i64 i_2 (15:Int))))*1)+0)=(0+((Int.toNat (bS .i64 i_2 (15:Int)))*1)))) (
   aC (dY (bS .i64 i_2 (2:Int)) ((wL_2:Nat):Int)) (
   aC (decide ((0+(Int.toNat (bS .i64 i_2 (2:Int)))) < (List.length n49_2))) (
   aC (decide ((((0+(Int.toNat (bS .i64 i_2 (2:Int))))*1)+0)=(0+((Int.toNat (bS .i64 i_2 (2:Int)))*1)))) (
   ab (dG.call ((nth (.int .u32) n49_2 (0+(Int.toNat (bS .i64 i_2 (15:Int))))),(7:Int))) fun x1=>
   ab (dG.call ((nth (.int .u32) n49_2 (0+(Int.toNat (bS .i64 i_2 (15:Int))))),(18:Int))) fun x2=>
   ab (dG.call ((nth (.int .u32) n49_2 (0+(Int.toNat (bS .i64 i_2 (2:Int))))),(17:Int))) fun x3=>
   ab (dG.call ((nth (.int .u32) n49_2 (0+(Int.toNat (bS .i64 i_2 (2:Int))))),(19:Int))) fun x4=>
   aC (dY (bS .i64 i_2 (16:Int)) ((wL_2:Nat):Int)) (
   aC (decide ((0+(Int.toNat (bS .i64 i_2 (16:Int)))) < (List.length n49_2))) (
   aC (decide ((((0+(Int.toNat (bS .i64 i_2 (16:Int))))*1)+0)=(0+((Int.toNat (bS .i64 i_2 (16:Int)))*1)))) (
   aC (dY (bS .i64 i_2 (7:Int)) ((wL_2:Nat):Int)) (
   aC (decide ((0+(Int.toNat (bS .i64 i_2 (7:Int)))) < (List.length n49_2))) (
   aC (decide ((((0+(Int.toNat (bS .i64 i_2 (7:Int))))*1)+0)=(0+((Int.toNat (bS .i64 i_2 (7:Int)))*1)))) (
   aC (decide (wL_2≤(List.length n49_2))) (
   aC (dK (wL_2+1) 4) (
   kn (aI.L1.st ((wL_2+1),(bw .i64 i_2 (1:Int)),((List.take wL_2 n49_2)++ [(bw .u32 (bw .u32 (bw .u32 (nth (.int .u32) n49_2 (0+(Int.toNat (bS .i64 i_2 (16:Int))))) (ct .xor .u32 (ct .xor .u32 x1 x2) (bW .u32 (nth (.int .u32) n49_2 (0+(Int.toNat (bS .i64 i_2 (15:Int))))) (3:Int)))) (nth (.int .u32) n49_2 (0+(Int.toNat (bS .i64 i_2 (7:Int)))))) (ct .xor .u32 (ct .xor .u32 x3 x4) (bW .u32 (nth (.int .u32) n49_2 (0+(Int.toNat (bS .i64 i_2 (2:Int))))) (10:Int))))])))) none) none) none) none) none) none) none) none) none) none) none) none) none) none) (
   kx (aI.L1.bM (wL_2,n49_2)).1 (aI.L1.bM (wL_2,n49_2)).2):=by kernel_rfl
theorem aI.eq{R:Type}(b:Bs)(k:aT→Option R):aI.A b k=
 ab (aI.L0.call (b,0,(0:Int),([]:List Int))) fun x1=>
 ab (aI.L1.call (x1.1,(16:Int),x1.2)) fun x10=>
 aC (decide (0=0∧(0+x10.1)≤(List.length x10.2))) (
 k (aI.out (cut x10.2 0 x10.1))) none:=by kernel_rfl
theorem mA(ws:List W):(wl ws).length=ws.length:=by simp[wl]
theorem Co(m:List W):∀n,Fq (ext m) n=Fq m (n+1)
 | 0=>rfl
 |n+1=>by rw[Fq,Co m n];rfl
theorem GN(b:List Int)(k:Nat)(h:4*k+3 < b.length):be b k=HY (nth (.int .u8) b (4*k)) (nth (.int .u8) b (4*k+1)) (nth (.int .u8) b (4*k+2)) (nth (.int .u8) b (4*k+3)):=rfl
theorem aI.L0.ok:aI.L0.Ok:=by
 refine aI.L0.aF (fun(b,m,i,l)=>16 - m) ?_
 rintro⟨b,m,i,l⟩ ⟨hb,k,hk,rfl,rfl,rfl⟩
 have hb:64≤b.length:=hb
 have hl:(wl ((words b).take k)).length=k:=by rw[mA,List.length_take,eZ];omega
 by_cases h:k < 16
 ·left
  refine⟨(b,k+1,((k+1:Nat):Int),wl ((words b).take (k+1))),⟨hb,k+1,by omega,rfl,rfl,rfl⟩,by simp only;omega,rfl,fun kn kx=> ?_⟩
  rw[aI.L0.step]
  simp(disch:=omega) only[↓S1,↓if_pos,↓if_neg,if_pos,if_neg,if_true,if_false,S2,hl,List.take_of_length_le (Nat.le_of_eq hl)]
  rw[List.take_succ_eq_append_getElem (by rw[eZ];exact h)]
  simp only[BU,ri,ju,wl,List.map_append,List.map_cons,List.map_nil]
  have e:(words b)[k]'(by rw[eZ];exact h)=be b k:=by simp[words]
  rw[e,GN b k (by omega)]
  rfl
 ·right
  obtain rfl:k=16:=by omega
  intro R kn kx
  rw[aI.L0.step]
  simp(disch:=omega) only[↓S1,↓if_pos,↓if_neg,if_pos,if_neg,if_true,if_false,S2,aI.L0.add,aI.L0.F]
  rw[List.take_of_length_le (by rw[eZ];omega)]
theorem aI.L1.ok:aI.L1.Ok:=by
 refine aI.L1.aF (fun(m,i,l)=>64 - m) ?_
 rintro⟨m,i,l⟩ ⟨ws,h1,h2,rfl,rfl,rfl⟩
 have hl:=mA ws
 by_cases h:ws.length < 64
 ·left
  refine⟨(ws.length+1,((ws.length+1:Nat):Int),wl (ext ws)),⟨ext ws,by rw[lb];omega,by rw[lb];omega,rfl,by rw[lb],by rw[lb]⟩,by simp only;omega,?_,fun kn kx=> ?_⟩
  ·simp only[aI.L1.add,aI.L1.F,oD,mA,lb]
   rw[Co,show 64 - (ws.length+1)+1=64 - ws.length by omega]
  ·rw[aI.L1.step]
   simp(disch:=omega) only[↓S1,↓if_pos,↓if_neg,if_pos,if_neg,if_true,if_false,S2,hl,Nat.zero_add,Nat.mul_one,Nat.add_zero,tf ws _ (by omega:ws.length - 15 < ws.length),tf ws _ (by omega:ws.length - 2 < ws.length),tf ws _ (by omega:ws.length - 16 < ws.length),tf ws _ (by omega:ws.length - 7 < ws.length),dG.at,ju,pj,nS,List.take_of_length_le (Nat.le_of_eq hl)]
   unfold ext wl
   rw[List.map_append]
   rfl
 ·right
  have h64:ws.length=64:=by omega
  intro R kn kx
  rw[aI.L1.step]
  simp(disch:=omega) only[↓S1,↓if_pos,↓if_neg,if_pos,if_neg,if_true,if_false,S2,aI.L1.add,aI.L1.F,hl,h64,oD,Nat.sub_self]
  rfl
theorem aI.ok:aI.Ok:=by
 intro b hb
 have p1:aI.L0.aq (b,0,0,[]):=⟨hb,0,by omega,rfl,rfl,rfl⟩
 have p2:aI.L1.aq (16,16,wl (words b)):=⟨words b,by rw[eZ];omega,by rw[eZ];omega,rfl,by rw[eZ],by rw[eZ];rfl⟩
 have hs:(sched b).length=64:=by unfold sched;rw[mY,eZ]
 rw[aI.eq]
 simp(disch:=omega) only[↓S1,↓if_pos,↓if_neg,if_pos,if_neg,if_true,if_false,S2,aI.L0.run p1,aI.L0.add,aI.L0.F,aI.L1.run p2,aI.L1.add,aI.L1.F,oD,mA,eZ,Nat.zero_add,Nat.reduceSub]
 have e:Fq (words b) 48=sched b:=rfl
 rw[e,hs,if_pos (Nat.le_refl _)]
 unfold cut
 rw[List.drop_zero,List.take_of_length_le (by rw[mA];omega)]
 simp only[aI.add,aI.F]
noncomputable def aI.E:=Entry.cF [some tB] aI.st aI.aq aI.add aI.F aI.out
noncomputable def aI.call:aI.D→Option aI.X:=bC aI.E aI.st
theorem aI.run:bD aI.call aI.aq aI.add aI.F:=cz (cv [.d tB] fun _=>by kernel_rfl)
noncomputable def aI.sg:SG Tryz.prog:=⟨185,aK,aI.E,.fn 2 (by kernel_rfl) aI.ok (And.intro (.cF aI.L0.ok (by kernel_rfl)) (And.intro (.cF aI.L1.ok (by kernel_rfl)) trivial))⟩
set_option synthInstance.maxSize 5000
abbrev aH.L0.D:=(List Int)×(List Int)×(List Int)×Nat×Int×(List Int)
def aH.L0.st:aH.L0.D→AS:=fun(h_2,wv,kv,vL,i,n18)=>⟨([.d (.slice (.int .u32)) h_2]++bu 4 ([.d (.slice (.int .u32)) wv,.d (.slice (.int .u32)) kv,.cT (.new 18 0) 0 [] 0 0 vL,.d ti i]++bu 146 [])),[],(cw 18 ([[.obj 0 false (.vec 25 (.int .u32) n18)]]++cw 136 []))⟩
abbrev aH.L0.Y0:=Nat×(List Int)
abbrev aH.L0.X0:=((List Int))×(Nat×(List Int))
def aH.L0.bM:aH.L0.X0→Exit×AS:=fun x=>(.exit 0,⟨([.d (.slice (.int .u32)) x.1]++bu 6 ([.cT (.new 18 0) 0 [] 0 0 x.2.1]++bu 147 [])),[],(cw 18 ([[.obj 0 false (.vec 25 (.int .u32) x.2.2)]]++cw 136 []))⟩)
abbrev aH.L0.X:=aH.L0.X0
abbrev aH.L0.Y:=aH.L0.Y0
def aH.L0.out:aH.L0.X→Out (Exit×AS):=fun x=> .ok (aH.L0.bM x)
def aH.L0.add:aH.L0.D→aH.L0.Y→aH.L0.X:=fun(h_2,wv,kv,vL,i,n18) y=>(h_2,y)
abbrev aH.L1.D:=(List Int)×Nat×Int×(List Int)
def aH.L1.st:aH.L1.D→AS:=fun(h_3,vL_2,i_2,n18_2)=>⟨([.d (.slice (.int .u32)) h_3]++bu 6 ([.cT (.new 18 0) 0 [] 0 0 vL_2]++bu 6 ([.d ti i_2]++bu 140 []))),[],(cw 18 ([[.obj 0 false (.vec 25 (.int .u32) n18_2)]]++cw 136 []))⟩
abbrev aH.L1.Y0:=(List Int)
abbrev aH.L1.X0:=(Nat)×((List Int))
def aH.L1.bM:aH.L1.X0→Exit×AS:=fun x=>(.exit 2,⟨(bu 7 ([.cT (.new 18 0) 0 [] 0 0 x.1]++bu 147 [])),[],(cw 18 ([[.obj 0 false (.vec 25 (.int .u32) x.2)]]++cw 136 []))⟩)
abbrev aH.L1.X:=aH.L1.X0
abbrev aH.L1.Y:=aH.L1.Y0
def aH.L1.out:aH.L1.X→Out (Exit×AS):=fun x=> .ok (aH.L1.bM x)
def aH.L1.add:aH.L1.D→aH.L1.Y→aH.L1.X:=fun(h_3,vL_2,i_2,n18_2) y=>(vL_2,y)
abbrev aH.D:=(List Int)×Bs
def aH.st:aH.D→SA:=fun(h,b)=>([.d (.slice (.int .u32)) h,.d tB b],[])
abbrev aH.Y:=(List Int)
abbrev aH.X:=(List Int)
def aH.out:aH.X→aT:=fun x=>⟨.d (.slice (.int .u32)) x,[],[]⟩
def aH.add:aH.D→aH.Y→aH.X:=fun(h,b) y=>y
def aH.L0.aq:aH.L0.D→Prop:=fun(h,wv,kv,m,i,l)=>∃(s:St) (ws:List W) (k:Nat),h=s.l∧wv=wl ws∧ws.length=64∧k≤64∧i=k∧kv=sJ∧m=8∧l=(rounds ws s k).l
def aH.L0.F:aH.L0.D→aH.L0.Y:=fun(h,wv,kv,m,i,l)=>(8,(rounds (Fe wv) (yp h) 64).l)
def aH.L1.aq:aH.L1.D→Prop:=fun(h,m,i,l)=>h.length=8∧l.length=8∧m=8∧∃k:Nat,k≤8∧i=k
def aH.L1.F:aH.L1.D→aH.L1.Y:=fun(h,m,i,l)=>from_ (fun i x=>bw .u32 x (nth (.int .u32) h i)) i.toNat l
def aH.aq:aH.D→Prop:=fun(h,b)=>(∃s:St,h=s.l)∧64≤b.length
def aH.F:aH.D→aH.Y:=fun(h,b)=>(sO (yp h) b).l
noncomputable def aH.G:dX:=eX (P:=Tryz.prog) [aI.sg,eU.sg,dG.sg]
noncomputable def aH.L0.E:=cf.cF aH.L0.st aH.L0.aq aH.L0.add aH.L0.F aH.L0.out
noncomputable def aH.L0.call:aH.L0.D→Option aH.L0.X:=dO aH.L0.E aH.L0.st
noncomputable def aH.L1.E:=cf.cF aH.L1.st aH.L1.aq aH.L1.add aH.L1.F aH.L1.out
noncomputable def aH.L1.call:aH.L1.D→Option aH.L1.X:=dO aH.L1.E aH.L1.st
noncomputable def aH.an:ej:= {bZ:=[18,137],loops:=ky [(5,{bt:=[0,5,6,7,8],sites:=[18,137],kc:=[⟨7,[],18,0⟩]}),(14,{bt:=[0,7,14],sites:=[18]})],outs:=kr [(5,{bt:=[0,7],sites:=[18]},{bt:=[4]}),(14,{bt:=[7],sites:=[18]},{bt:=[4]})],gk:=kY [(5,aH.L0.E),(14,aH.L1.E)],res:=[some (.slice (.int .u32))]}
noncomputable def aH.A:= @cq Tryz.prog aH.G aH.an 0 Tryz.f180 _ aH.st
abbrev aH.Ok:=cr @aH.A aH.aq aH.add aH.F aH.out
noncomputable def aH.L0.R:= @cP Tryz.prog aH.G aH.an 0 Tryz.f180 0 _ aH.L0.st
abbrev aH.L0.Ok:=fg Tryz.prog aH.G aH.an 0 Tryz.f180 0 aH.L0.st aH.L0.aq aH.L0.add aH.L0.F aH.L0.out
noncomputable def aH.L1.R:= @cP Tryz.prog aH.G aH.an 0 Tryz.f180 1 _ aH.L1.st
abbrev aH.L1.Ok:=fg Tryz.prog aH.G aH.an 0 Tryz.f180 1 aH.L1.st aH.L1.aq aH.L1.add aH.L1.F aH.L1.out
theorem aH.L0.run:bD aH.L0.call aH.L0.aq aH.L0.add aH.L0.F:=fw (fk [.d (.slice (.int .u32)),.d (.slice (.int .u32)),.d (.slice (.int .u32)),.n,.d ti,.d (.slice (.int .u32))] fun _=>by kernel_rfl)
theorem aH.L0.aF:gg @aH.L0.R aH.L0.st aH.L0.aq aH.L0.add aH.L0.F aH.L0.bM aH.L0.Ok:=gj
theorem aH.L0.step{R:Type}(h_2:(List Int))(wv:(List Int))(kv:(List Int))(vL:Nat)(i:Int)(n18:(List Int))(kn:AS→Option R)(kx:Exit→AS→Option R):aH.L0.R (h_2,wv,kv,vL,i,n18) kn kx=
  aC ((gM i (64:Int))) (
   aC (dY (4:Int) ((vL:Nat):Int)) (
   aC (decide (4 < (List.length n18))) (
   ab (dG.call ((nth (.int .u32) n18 4),(6:Int))) fun x1=>
   aC (dY (4:Int) ((vL:Nat):Int)) (
   aC (decide (4 < (List.length n18))) (
   ab (dG.call ((nth (.int .u32) n18 4),(11:Int))) fun x2=>
   aC (dY (4:Int) ((vL:Nat):Int)) (
   aC (decide (4 < (List.length n18))) (
   ab (dG.call ((nth (.int .u32) n18 4),(25:Int))) fun x3=>
   aC (dY (4:Int) ((vL:Nat):Int)) (
   aC (decide (4 < (List.length n18))) (
   aC (dY (5:Int) ((vL:Nat):Int)) (
   aC (decide (5 < (List.length n18))) (
   aC (dY (4:Int) ((vL:Nat):Int)) (
   aC (decide (4 < (List.length n18))) (
   aC (dY (6:Int) ((vL:Nat):Int)) (
   aC (decide (6 < (List.length n18))) (
   aC (dY (7:Int) ((vL:Nat):Int)) (
   aC (decide (7 < (List.length n18))) (
   aC (dY i (((List.length kv):Nat):Int)) (
   aC (dY i (((List.length wv):Nat):Int)) (
   aC (dY (0:Int) ((vL:Nat):Int)) (
   aC (decide (0 < (List.length n18))) (
   ab (dG.call ((nth (.int .u32) n18 0),(2:Int))) fun x4=>
   aC (dY (0:Int) ((vL:Nat):Int)) (
   aC (decide (0 < (List.length n18))) (
   ab (dG.call ((nth (.int .u32) n18 0),(13:Int))) fun x5=>
   aC (dY (0:Int) ((vL:Nat):Int)) (
   aC (decide (0 < (List.length n18))) (
   ab (dG.call ((nth (.int .u32) n18 0),(22:Int))) fun x6=>
   aC (dY (0:Int) ((vL:Nat):Int)) (
   aC (decide (0 < (List.length n18))) (
   aC (dY (1:Int) ((vL:Nat):Int)) (
   aC (decide (1 < (List.length n18))) (
   aC (dY (0:Int) ((vL:Nat):Int)) (
   aC (decide (0 < (List.length n18))) (
   aC (dY (2:Int) ((vL:Nat):Int)) (
   aC (decide (2 < (List.length n18))) (
   aC (dY (1:Int) ((vL:Nat):Int)) (
   aC (decide (1 < (List.length n18))) (
   aC (dY (2:Int) ((vL:Nat):Int)) (
   aC (decide (2 < (List.length n18))) (
   aC (dY (0:Int) ((vL:Nat):Int)) (
   aC (decide (0 < (List.length n18))) (
   aC (dY (1:Int) ((vL:Nat):Int)) (
   aC (decide (1 < (List.length n18))) (
   aC (dY (2:Int) ((vL:Nat):Int)) (
   aC (decide (2 < (List.length n18))) (
   aC (dY (3:Int) ((vL:Nat):Int)) (
   aC (decide (3 < (List.length n18))) (
   aC (dY (4:Int) ((vL:Nat):Int)) (
   aC (decide (4 < (List.length n18))) (
   aC (dY (5:Int) ((vL:Nat):Int)) (
   aC (decide (5 < (List.length n18))) (
   aC (dY (6:Int) ((vL:Nat):Int)) (
   aC (decide (6 < (List.length n18))) (
   kn (aH.L0.st (h_2,wv,kv,8,(bw .i64 i (1:Int)),[(bw .u32 (bw .u32 (bw .u32 (bw .u32 (bw .u32 (bw .u32 (nth (.int .u32) n18 7) (ct .xor .u32 (ct .xor .u32 x1 x2) x3)) (ct .xor .u32 (ct .and .u32 (nth (.int .u32) n18 4) (nth (.int .u32) n18 5)) (ct .and .u32 (FK .u32 (nth (.int .u32) n18 4)) (nth (.int .u32) n18 6)))) (nth (.int .u32) kv (Int.toNat i))) (nth (.int .u32) wv (Int.toNat i))) (ct .xor .u32 (ct .xor .u32 x4 x5) x6)) (ct .xor .u32 (ct .xor .u32 (ct .and .u32 (nth (.int .u32) n18 0) (nth (.int .u32) n18 1)) (ct .and .u32 (nth (.int .u32) n18 0) (nth (.int .u32) n18 2))) (ct .and .u32 (nth (.int .u32) n18 1) (nth (.int .u32) n18 2)))),(nth (.int .u32) n18 0),(nth (.int .u32) n18 1),(nth (.int .u32) n18 2),(bw .u32 (nth (.int .u32) n18 3) (bw .u32 (bw .u32 (bw .u32 (bw .u32 (nth (.int .u32) n18 7) (ct .xor .u32 (ct .xor .u32 x1 x2) x3)) (ct .xor .u32 (ct .and .u32 (nth (.int .u32) n18 4) (nth (.int .u32) n18 5)) (ct .and .u32 (FK .u32 (nth (.int .u32) n18 4)) (nth (.int .u32) n18 6)))) (nth (.int .u32) kv (Int.toNat i))) (nth (.int .u32) wv (Int.toNat i)))),(nth (.int .u32) n18 4),(nth (.int .u32) n18 5),(nth (.int .u32) n18 6)]))) none) none) none) none) none) none) none) none) none) none) none) none) none) none) none) none) none) none) none) none) none) none) none) none) none) none) none) none) none) none) none) none) none) none) none) none) none) none) none) none) none) none) none) none) none) none) none) none) none) none) (
   kx (aH.L0.bM (h_2,(vL,n18))).1 (aH.L0.bM (h_2,(vL,n18))).2):=by kernel_rfl
theorem aH.L1.run:bD aH.L1.call aH.L1.aq aH.L1.add aH.L1.F:=fw (fk [.d (.slice (.int .u32)),.n,.d ti,.d (.slice (.int .u32))] fun _=>by kernel_rfl)
theorem aH.L1.aF:gg @aH.L1.R aH.L1.st aH.L1.aq aH.L1.add aH.L1.F aH.L1.bM aH.L1.Ok:=gj
theorem aH.L1.step{R:Type}(h_3:(List Int))(vL_2:Nat)(i_2:Int)(n18_2:(List Int))(kn:AS→Option R)(kx:Exit→AS→Option R):aH.L1.R (h_3,vL_2,i_2,n18_2) kn kx=
  aC ((gM i_2 (8:Int))) (
   aC (dY i_2 ((vL_2:Nat):Int)) (
   aC (decide ((0+(Int.toNat i_2)) < (List.length n18_2))) (
   aC (decide ((((0+(Int.toNat i_2))*1)+0)=(0+((Int.toNat i_2)*1)))) (
   aC (dY i_2 (((List.length h_3):Nat):Int)) (
   aC (dY i_2 ((vL_2:Nat):Int)) (
   aC (decide ((0+(Int.toNat i_2)) < (List.length n18_2))) (
   aC (decide ((((0+(Int.toNat i_2))*1)+0)=(0+((Int.toNat i_2)*1)))) (
   aC (decide ((0+(Int.toNat i_2)) < (List.length n18_2))) (
   kn (aH.L1.st (h_3,vL_2,(bw .i64 i_2 (1:Int)),(List.set n18_2 (0+(Int.toNat i_2)) (bw .u32 (nth (.int .u32) n18_2 (0+(Int.toNat i_2))) (nth (.int .u32) h_3 (Int.toNat i_2))))))) none) none) none) none) none) none) none) none) (
   kx (aH.L1.bM (vL_2,n18_2)).1 (aH.L1.bM (vL_2,n18_2)).2):=by kernel_rfl
theorem aH.eq{R:Type}(h:(List Int))(b:Bs)(k:aT→Option R):aH.A (h,b) k=
 ab (aI.call b) fun x1=>
 ab (eU.call ()) fun x2=>
 aC (dK (0+(List.length h)) 4) (
 ab (aH.L0.call (h,x1,x2,(0+(List.length h)),(0:Int),((List.take 0 (List.replicate 0 (0:Int)))++h))) fun x15=>
 ab (aH.L1.call (x15.1,x15.2.1,(0:Int),x15.2.2)) fun x16=>
 aC (decide (0=0∧(0+x16.1)≤(List.length x16.2))) (
 k (aH.out (cut x16.2 0 x16.1))) none) none:=by kernel_rfl
theorem D9(w:W):FK .u32 (vw w)=vw (~~~w):=by
 have e:(if IntKind.u32.signed then -1 else IntKind.u32.max:Int)=vw (BitVec.allOnes 32):=rfl
 unfold FK
 rw[e,ju]
 simp only[BitVec.allOnes_xor]
theorem H2(e f g:W):(e &&& f)^^^(~~~e &&& g)=g^^^(e &&& (f^^^g)):=by
 ext i hi
 simp only[BitVec.getElem_xor,BitVec.getElem_and,BitVec.getElem_not]
 cases e[i] <;> cases f[i] <;> cases g[i] <;> rfl
theorem Hj(a b c:W):(a &&& b)^^^(a &&& c)^^^(b &&& c)=(a &&& b) ||| (c &&& (a ||| b)):=by
 ext i hi
 simp only[BitVec.getElem_xor,BitVec.getElem_and,BitVec.getElem_or]
 cases a[i] <;> cases b[i] <;> cases c[i] <;> rfl
theorem aH.L0.ok:aH.L0.Ok:=by
 refine aH.L0.aF (fun(h,wv,kv,m,i,l)=>64 - i.toNat) ?_
 rintro⟨h,wv,kv,m,i,l⟩ ⟨s,ws,k,rfl,rfl,hw,hk,rfl,rfl,rfl,rfl⟩
 by_cases hlt:k < 64
 ·left
  refine⟨(s.l,wl ws,sJ,8,((k+1:Nat):Int),(rounds ws s (k+1)).l),⟨s,ws,k+1,rfl,rfl,hw,by omega,rfl,rfl,rfl,rfl⟩,by simp only;omega,rfl,fun kn kx=> ?_⟩
  rw[aH.L0.step]
  generalize hv:rounds ws s k=v
  have t1:∀w:W,dG.call (vw w,6)=some (vw (lq w 6)):=fun w=>dG.at w (by omega)
  have t2:∀w:W,dG.call (vw w,11)=some (vw (lq w 11)):=fun w=>dG.at w (by omega)
  have t3:∀w:W,dG.call (vw w,25)=some (vw (lq w 25)):=fun w=>dG.at w (by omega)
  have t4:∀w:W,dG.call (vw w,2)=some (vw (lq w 2)):=fun w=>dG.at w (by omega)
  have t5:∀w:W,dG.call (vw w,13)=some (vw (lq w 13)):=fun w=>dG.at w (by omega)
  have t6:∀w:W,dG.call (vw w,22)=some (vw (lq w 22)):=fun w=>dG.at w (by omega)
  rw[n0,n1,n2,n3,n4,n5,n6,n7,t1,aa,t2,aa,t3,aa,t4,aa,t5,aa,t6,aa]
  simp(disch:=omega) only[↓S1,↓if_pos,↓if_neg,if_pos,if_neg,if_true,if_false,S2,St.zd,tm,mA,hw,zb k hlt,tf ws k (by omega),ju,nS,D9,H2,Hj]
  show kn _=kn (aH.L0.st (s.l,wl ws,sJ,8,((k+1:Nat):Int),(Ja (rounds ws s k) (kw k) (ws.getD k 0)).l))
  rw[hv]
  rfl
 ·right
  obtain rfl:k=64:=by omega
  intro R kn kx
  rw[aH.L0.step]
  simp(disch:=omega) only[↓S1,↓if_pos,↓if_neg,if_pos,if_neg,if_true,if_false,S2,aH.L0.add,aH.L0.F,oD,iX]
theorem aH.L1.ok:aH.L1.Ok:=by
 refine aH.L1.aF (fun(h,m,i,l)=>8 - i.toNat) ?_
 rintro⟨h,m,i,l⟩ ⟨hh,hl,rfl,k,hk,rfl⟩
 have hl:l.length=8:=hl
 have hh:h.length=8:=hh
 by_cases hlt:k < 8
 ·left
  have hn:nth (.int .u32) l k=l[k]:=dT (t:= .int .u32) (by omega)
  refine⟨(h,8,((k+1:Nat):Int),l.set k (bw .u32 l[k] (nth (.int .u32) h k))),⟨hh,by simpa using hl,rfl,k+1,by omega,rfl⟩,by simp only;omega,?_,fun kn kx=> ?_⟩
  ·simp only[aH.L1.add,aH.L1.F,Int.toNat_natCast]
   rw[pP (fun i x=>bw .u32 x (nth (.int .u32) h i)) l k (by omega)]
  ·rw[aH.L1.step]
   simp(disch:=omega) only[↓S1,↓if_pos,↓if_neg,if_pos,if_neg,if_true,if_false,S2,hl,hh,Nat.zero_add,Nat.mul_one,Nat.add_zero,hn]
 ·right
  obtain rfl:k=8:=by omega
  intro R kn kx
  rw[aH.L1.step]
  simp(disch:=omega) only[↓S1,↓if_pos,↓if_neg,if_pos,if_neg,if_true,if_false,S2,aH.L1.add,aH.L1.F]
  rw[ra _ _ _ (by omega)]
theorem Hk(s:St)(b:List Int):from_ (fun i x=>bw .u32 x (nth (.int .u32) s.l i)) 0 (rounds (sched b) s 64).l=(sO s b).l:=by
 unfold sO
 generalize rounds (sched b) s 64=v
 obtain⟨a1,b1,c1,d1,f1,g1,h1,i1⟩:=v
 simp only[St.l,from_,List.mapIdx_cons,List.mapIdx_nil,Nat.not_lt_zero,if_false,Nat.zero_add,Nat.reduceAdd]
 simp only[nth,List.getD_cons_zero,List.getD_cons_succ,nS]
theorem aH.ok:aH.Ok:=by
 rintro⟨h,b⟩ ⟨⟨s,rfl⟩,hb⟩
 have p0:aI.aq b:=hb
 have hsl:(sched b).length=64:=by unfold sched;rw[mY,eZ]
 have p1:aH.L0.aq (s.l,wl (sched b),sJ,8,0,s.l):=⟨s,sched b,0,rfl,rfl,hsl,by omega,rfl,rfl,rfl,rfl⟩
 have p2:aH.L1.aq (s.l,8,0,(rounds (sched b) s 64).l):=⟨rfl,rfl,rfl,0,by omega,rfl⟩
 have e0:0+s.l.length=8:=rfl
 have e1:List.take 0 (List.replicate 0 (0:Int))++s.l=s.l:=rfl
 rw[aH.eq]
 simp(disch:=omega) only[↓S1,↓if_pos,↓if_neg,if_pos,if_neg,if_true,if_false,S2,aI.run p0,aI.add,aI.F,eU.run (d:=()) trivial,eU.add,eU.F,e0,e1,aH.L0.run p1,aH.L0.add,aH.L0.F,oD,iX,aH.L1.run p2,aH.L1.add,aH.L1.F,Int.toNat_zero,Hk]
 have e2:(sO s b).l.length=8:=rfl
 have e3:cut (sO s b).l 0 8=(sO s b).l:=rfl
 simp only[e2,Nat.zero_add,Nat.le_refl,if_true,e3,aH.add,aH.F,iX]
noncomputable def aH.E:=Entry.cF [some (.slice (.int .u32)),some tB] aH.st aH.aq aH.add aH.F aH.out
noncomputable def aH.call:aH.D→Option aH.X:=bC aH.E aH.st
theorem aH.run:bD aH.call aH.aq aH.add aH.F:=cz (cv [.d (.slice (.int .u32)),.d tB] fun _=>by kernel_rfl)
noncomputable def aH.sg:SG Tryz.prog:=⟨180,aK,aH.E,.fn 2 (by kernel_rfl) aH.ok (And.intro (.cF aH.L0.ok (by kernel_rfl)) (And.intro (.cF aH.L1.ok (by kernel_rfl)) trivial))⟩
set_option synthInstance.maxSize 5000
abbrev bP.L0.D:=Bs×(List Int)×Int×Bs
def bP.L0.st:bP.L0.D→AS:=fun(p,h,i,n2)=>⟨([.undef,.undef,.ptr (.new 2 0) 0 [] 0,.d tB p,.d (.slice (.int .u32)) h,.d ti i]++bu 36 []),[],([[],[],[.obj 0 false (.d tH n2)]]++cw 39 [])⟩
abbrev bP.L0.Y0:=(List Int)
abbrev bP.L0.X0:=(Bs)×((List Int))
def bP.L0.bM:bP.L0.X0→Exit×AS:=fun x=>(.exit 0,⟨([.undef,.undef,.ptr (.new 2 0) 0 [] 0,.undef,.d (.slice (.int .u32)) x.2]++bu 37 []),[],([[],[],[.obj 0 false (.d tH x.1)]]++cw 39 [])⟩)
abbrev bP.L0.X:=bP.L0.X0
abbrev bP.L0.Y:=bP.L0.Y0
def bP.L0.out:bP.L0.X→Out (Exit×AS):=fun x=> .ok (bP.L0.bM x)
def bP.L0.add:bP.L0.D→bP.L0.Y→bP.L0.X:=fun(p,h,i,n2) y=>(n2,y)
abbrev bP.L1.D:=(List Int)×Int×Bs×Bs
def bP.L1.st:bP.L1.D→AS:=fun(h_2,i_2,n2_2,n6)=>⟨([.undef,.undef,.ptr (.new 2 0) 0 [] 0,.undef,.d (.slice (.int .u32)) h_2,.undef,.ptr (.new 6 0) 0 [] 0,.d ti i_2]++bu 34 []),[],([[],[],[.obj 0 false (.d tH n2_2)],[],[],[],[.obj 0 false (.d tH n6)]]++cw 35 [])⟩
abbrev bP.L1.Y0:=Bs
abbrev bP.L1.X0:=(Bs)×(Bs)
def bP.L1.bM:bP.L1.X0→Exit×AS:=fun x=>(.exit 2,⟨([.undef,.undef,.ptr (.new 2 0) 0 [] 0,.undef,.undef,.undef,.ptr (.new 6 0) 0 [] 0]++bu 35 []),[],([[],[],[.obj 0 false (.d tH x.1)],[],[],[],[.obj 0 false (.d tH x.2)]]++cw 35 [])⟩)
abbrev bP.L1.X:=bP.L1.X0
abbrev bP.L1.Y:=bP.L1.Y0
def bP.L1.out:bP.L1.X→Out (Exit×AS):=fun x=> .ok (bP.L1.bM x)
def bP.L1.add:bP.L1.D→bP.L1.Y→bP.L1.X:=fun(h_2,i_2,n2_2,n6) y=>(n2_2,y)
abbrev bP.D:=Bs
def bP.st:bP.D→SA:=fun b=>([.d tB b],[])
abbrev bP.Y:=Bs
abbrev bP.X:=Bs
def bP.out:bP.X→aT:=fun x=>⟨.d tH x,[],[]⟩
def bP.add:bP.D→bP.Y→bP.X:=fun b y=>y
def bP.L0.aq:bP.L0.D→Prop:=fun(p,h,i,n2)=>p.length%64=0∧p.length≤140737488355328∧∃(s:St) (k:Nat),h=s.l∧i=((64*k:Nat):Int)∧64*k≤p.length
def bP.L0.F:bP.L0.D→bP.L0.Y:=fun(p,h,i,n2)=>(blocks (yp h) (p.drop i.toNat)).l
def bP.L1.aq:bP.L1.D→Prop:=fun(h,i,n2,l)=>h.length=8∧l.length=32∧∃k:Nat,k≤32∧i=k
def bP.L1.F:bP.L1.D→bP.L1.Y:=fun(h,i,n2,l)=>from_ (qj h) i.toNat l
def bP.aq:bP.D→Prop:=fun b=>b.length≤140737488350000
def bP.F:bP.D→bP.Y:=fun b=>Hz b
noncomputable def bP.G:dX:=eX (P:=Tryz.prog) [aw.sg,cX.sg,aH.sg]
noncomputable def bP.L0.E:=cf.cF bP.L0.st bP.L0.aq bP.L0.add bP.L0.F bP.L0.out
noncomputable def bP.L0.call:bP.L0.D→Option bP.L0.X:=dO bP.L0.E bP.L0.st
noncomputable def bP.L1.E:=cf.cF bP.L1.st bP.L1.aq bP.L1.add bP.L1.F bP.L1.out
noncomputable def bP.L1.call:bP.L1.D→Option bP.L1.X:=dO bP.L1.E bP.L1.st
noncomputable def bP.an:ej:= {loops:=ky [(4,{bt:=[2,3,4,5],sites:=[2]}),(9,{bt:=[2,4,6,7],sites:=[2,6]})],outs:=kr [(4,{bt:=[2,4],sites:=[2]},{bt:=[2]}),(9,{bt:=[2,6],sites:=[2,6]},{bt:=[2]})],gk:=kY [(4,bP.L0.E),(9,bP.L1.E)]}
noncomputable def bP.A:= @cq Tryz.prog bP.G bP.an 0 Tryz.f155 _ bP.st
abbrev bP.Ok:=cr @bP.A bP.aq bP.add bP.F bP.out
noncomputable def bP.L0.R:= @cP Tryz.prog bP.G bP.an 0 Tryz.f155 0 _ bP.L0.st
abbrev bP.L0.Ok:=fg Tryz.prog bP.G bP.an 0 Tryz.f155 0 bP.L0.st bP.L0.aq bP.L0.add bP.L0.F bP.L0.out
noncomputable def bP.L1.R:= @cP Tryz.prog bP.G bP.an 0 Tryz.f155 1 _ bP.L1.st
abbrev bP.L1.Ok:=fg Tryz.prog bP.G bP.an 0 Tryz.f155 1 bP.L1.st bP.L1.aq bP.L1.add bP.L1.F bP.L1.out
theorem bP.L0.run:bD bP.L0.call bP.L0.aq bP.L0.add bP.L0.F:=fw (fk [.d tB,.d (.slice (.int .u32)),.d ti,.d tB] fun _=>by kernel_rfl)
theorem bP.L0.aF:gg @bP.L0.R bP.L0.st bP.L0.aq bP.L0.add bP.L0.F bP.L0.bM bP.L0.Ok:=gj
theorem bP.L0.step{R:Type}(p:Bs)(h:(List Int))(i:Int)(n2:Bs)(kn:AS→Option R)(kx:Exit→AS→Option R):bP.L0.R (p,h,i,n2) kn kx=
  aC ((gM i (((List.length p):Nat):Int))) (
   aC (inc (bw .i64 i (64:Int)) (((List.length p):Nat):Int)) (
   aC (inc i (((Int.toNat (bw .i64 i (64:Int))):Nat):Int)) (
   ab (aH.call (h,(cut p (Int.toNat i) ((Int.toNat (bw .i64 i (64:Int))) - (Int.toNat i))))) fun x1=>
   kn (bP.L0.st (p,x1,(bw .i64 i (64:Int)),n2))) none) none) (
   kx (bP.L0.bM (n2,h)).1 (bP.L0.bM (n2,h)).2):=by kernel_rfl
theorem bP.L1.run:bD bP.L1.call bP.L1.aq bP.L1.add bP.L1.F:=fw (fk [.d (.slice (.int .u32)),.d ti,.d tB,.d tB] fun _=>by kernel_rfl)
theorem bP.L1.aF:gg @bP.L1.R bP.L1.st bP.L1.aq bP.L1.add bP.L1.F bP.L1.bM bP.L1.Ok:=gj
theorem bP.L1.step{R:Type}(h_2:(List Int))(i_2:Int)(n2_2:Bs)(n6:Bs)(kn:AS→Option R)(kx:Exit→AS→Option R):bP.L1.R (h_2,i_2,n2_2,n6) kn kx=
  aC ((gM i_2 (32:Int))) (
   aC (dY (kV .i64 i_2 (4:Int)) (((List.length h_2):Nat):Int)) (
   aC (iW (bS .i64 (24:Int) (eS .i64 (8:Int) (gd i_2 (4:Int))))) (
   aC (dY i_2 (32:Int)) (
   aC (decide ((Int.toNat i_2) < (List.length n6))) (
   aC (decide ((((Int.toNat i_2)*1)+0)=(0+((Int.toNat i_2)*1)))) (
   aC (decide ((Int.toNat i_2) < (List.length n6))) (
   kn (bP.L1.st (h_2,(bw .i64 i_2 (1:Int)),n2_2,(List.set n6 (Int.toNat i_2) (dI .u8 (bW .u32 (nth (.int .u32) h_2 (Int.toNat (kV .i64 i_2 (4:Int)))) (bS .i64 (24:Int) (eS .i64 (8:Int) (gd i_2 (4:Int)))))))))) none) none) none) none) none) none) (
   kx (bP.L1.bM (n2_2,n6)).1 (bP.L1.bM (n2_2,n6)).2):=by kernel_rfl
theorem bP.eq{R:Type}(b:Bs)(k:aT→Option R):bP.A b k=
 ab (aw.call b) fun x1=>
 ab (cX.call ()) fun x2=>
 ab (bP.L0.call (x1,x2,(0:Int),(List.replicate 32 (0:Int)))) fun x4=>
 ab (bP.L1.call (x4.2,(0:Int),x4.1,(List.replicate 32 (0:Int)))) fun x5=>
 k (bP.out x5.2):=by kernel_rfl
theorem bP.L0.ok:bP.L0.Ok:=by
 refine bP.L0.aF (fun(p,h,i,n2)=>p.length - i.toNat) ?_
 rintro⟨p,h,i,n2⟩ ⟨hm,hb,s,k,rfl,rfl,hk⟩
 have hm:p.length%64=0:=hm
 have hb:p.length≤140737488355328:=hb
 have hk:64*k≤p.length:=hk
 by_cases hlt:64*k < p.length
 ·left
  have e1:cut p (64*k) (64*k+64 - 64*k)=(p.drop (64*k)).take 64:=by unfold cut;rw[show 64*k+64 - 64*k=64 by omega]
  have e2:(p.drop (64*k)).drop 64=p.drop (64*(k+1)):=by rw[List.drop_drop];congr 1
  have e3:(64*(k+1):Nat)=64*k+64:=by omega
  have p1:aH.aq (s.l,(p.drop (64*k)).take 64):=⟨⟨s,rfl⟩,by simp;omega⟩
  refine⟨(p,(sO s ((p.drop (64*k)).take 64)).l,((64*(k+1):Nat):Int),n2),⟨hm,hb,_,k+1,rfl,rfl,by omega⟩,by simp only[Int.toNat_natCast];omega,?_,fun kn kx=> ?_⟩
  ·simp only[bP.L0.add,bP.L0.F,iX,Int.toNat_natCast]
   rw[o5 s (p.drop (64*k)) (by simp;omega),e2]
  ·rw[bP.L0.step]
   simp(disch:=omega) only[↓S1,↓if_pos,↓if_neg,if_pos,if_neg,if_true,if_false,S2,e1,aH.run p1,aH.add,aH.F,iX,e3]
 ·right
  intro R kn kx
  rw[bP.L0.step]
  simp(disch:=omega) only[↓S1,↓if_pos,↓if_neg,if_pos,if_neg,if_true,if_false,S2,bP.L0.add,bP.L0.F,iX]
  rw[oa s _ (by simp;omega)]
theorem bP.L1.ok:bP.L1.Ok:=by
 refine bP.L1.aF (fun(h,i,n2,l)=>32 - i.toNat) ?_
 rintro⟨h,i,n2,l⟩ ⟨h8,hl,k,hk,rfl⟩
 have hl:l.length=32:=hl
 have h8:h.length=8:=h8
 by_cases hlt:k < 32
 ·left
  refine⟨(h,((k+1:Nat):Int),n2,l.set k (qj h k l[k])),⟨h8,by simpa using hl,k+1,by omega,rfl⟩,by simp only[Int.toNat_natCast];omega,?_,fun kn kx=> ?_⟩
  ·simp only[bP.L1.add,bP.L1.F,Int.toNat_natCast]
   rw[pP (qj h) l k (by omega)]
  ·rw[bP.L1.step]
   simp(disch:=omega) only[↓S1,↓if_pos,↓if_neg,if_pos,if_neg,if_true,if_false,S2,hl,h8,Nat.mul_one,Nat.add_zero,Nat.zero_add,qj]
 ·right
  obtain rfl:k=32:=by omega
  intro R kn kx
  rw[bP.L1.step]
  simp(disch:=omega) only[↓S1,↓if_pos,↓if_neg,if_pos,if_neg,if_true,if_false,S2,bP.L1.add,bP.L1.F]
  rw[ra _ _ _ (by omega)]
theorem A9(b:List Int):(pad b).length%64=0∧(pad b).length≤b.length+73:=by
 unfold pad
 simp only[List.length_append,List.length_cons,List.length_replicate,cM,mM]
 omega
theorem bP.ok:bP.Ok:=by
 intro b hb
 have hb:b.length≤140737488350000:=hb
 have p1:aw.aq b:=hb
 obtain⟨h1,h2⟩:=A9 b
 have p2:bP.L0.aq (pad b,j4.l,0,List.replicate 32 0):=⟨h1,by omega,j4,0,rfl,rfl,by omega⟩
 have p3:bP.L1.aq ((blocks j4 (pad b)).l,0,List.replicate 32 0,List.replicate 32 0):=⟨rfl,rfl,0,by omega,rfl⟩
 rw[bP.eq]
 simp(disch:=omega) only[↓S1,↓if_pos,↓if_neg,if_pos,if_neg,if_true,if_false,S2,aw.run p1,aw.add,aw.F,cX.run (d:=()) trivial,cX.add,cX.F,bP.L0.run p2,bP.L0.add,bP.L0.F,iX,Int.toNat_zero,List.drop_zero,bP.L1.run p3,bP.L1.add,bP.L1.F,B9]
 rfl
noncomputable def bP.E:=Entry.cF [some tB] bP.st bP.aq bP.add bP.F bP.out
noncomputable def bP.call:bP.D→Option bP.X:=bC bP.E bP.st
theorem bP.run:bD bP.call bP.aq bP.add bP.F:=cz (cv [.d tB] fun _=>by kernel_rfl)
noncomputable def bP.sg:SG Tryz.prog:=⟨155,aK,bP.E,.fn 2 (by kernel_rfl) bP.ok (And.intro (.cF bP.L0.ok (by kernel_rfl)) (And.intro (.cF bP.L1.ok (by kernel_rfl)) trivial))⟩
abbrev eE.D:=Int
def eE.st:eE.D→SA:=fun n=>([.d tu n],[])
abbrev eE.Y:=Nat×(List Int)
abbrev eE.X:=Nat×(List Int)
def eE.out:eE.X→aT:=fun x=>⟨.cT (.new 0 0) 0 [] 0 0 x.1,[],[.obj 0 false (.vec 5 tb x.2)]⟩
def eE.add:eE.D→eE.Y→eE.X:=fun n y=>y
def eE.aq:eE.D→Prop:=fun n=>0≤n∧n < 18446744073709551616
def eE.F:eE.D→eE.Y:=fun n=>(8,iy n)
noncomputable def eE.G:dX:=eX (P:=Tryz.prog) []
noncomputable def eE.an:ej:= {loops:=ky [(3,{bt:=[0,3,4],sites:=[15]})],outs:=kr [(3,{bt:=[3],sites:=[15]},{bt:=[2],sites:=[15]})],kc:=[⟨2,[],15,135⟩]}
noncomputable def eE.A:= @cq Tryz.prog eE.G eE.an 10 Tryz.f154 _ eE.st
abbrev eE.Ok:=cr @eE.A eE.aq eE.add eE.F eE.out
theorem eE.eq{R:Type}(n:Int)(k:aT→Option R):eE.A n k=
 k (eE.out (8,[(dI .u8 (bW .u64 n (56:Int))),(dI .u8 (bW .u64 n (48:Int))),(dI .u8 (bW .u64 n (40:Int))),(dI .u8 (bW .u64 n (32:Int))),(dI .u8 (bW .u64 n (24:Int))),(dI .u8 (bW .u64 n (16:Int))),(dI .u8 (bW .u64 n (8:Int))),(dI .u8 (bW .u64 n (0:Int)))])):=by kernel_rfl
theorem eE.ok:eE.Ok:=by
 intro n _
 have e:∀k:Nat,k≤64→dI .u8 (bW .u64 n (k:Int))=n / 2^k%256:=fun k hk=>Am n k hk
 rw[eE.eq]
 have e56:dI .u8 (bW .u64 n 56)=n / 2^56%256:=e 56 (by omega)
 have e48:dI .u8 (bW .u64 n 48)=n / 2^48%256:=e 48 (by omega)
 have e40:dI .u8 (bW .u64 n 40)=n / 2^40%256:=e 40 (by omega)
 have e32:dI .u8 (bW .u64 n 32)=n / 2^32%256:=e 32 (by omega)
 have e24:dI .u8 (bW .u64 n 24)=n / 2^24%256:=e 24 (by omega)
 have e16:dI .u8 (bW .u64 n 16)=n / 2^16%256:=e 16 (by omega)
 have e8:dI .u8 (bW .u64 n 8)=n / 2^8%256:=e 8 (by omega)
 have e0:=e 0 (by omega)
 rw[e56,e48,e40,e32,e24,e16,e8]
 have e0:dI .u8 (bW .u64 n 0)=n%256:=by rw[show(0:Int)=((0:Nat):Int) from rfl,e0];simp
 rw[e0]
 rfl
noncomputable def eE.E:=Entry.cF [some tu] eE.st eE.aq eE.add eE.F eE.out
noncomputable def eE.call:eE.D→Option eE.X:=bC eE.E eE.st
theorem eE.run:bD eE.call eE.aq eE.add eE.F:=cz (cv [.d tu] fun _=>by kernel_rfl)
noncomputable def eE.sg:SG Tryz.prog:=⟨154,aK,eE.E,.fn 1 (by kernel_rfl) eE.ok (And.intro (.none (by kernel_rfl)) trivial)⟩
abbrev di.L0.D:=(List Bs)×Nat×Int×Bs×(List Int)
def di.L0.st:di.L0.D→AS:=fun(parts_2,bL,i,n4,n11)=>⟨([.undef,.d (.slice tB) parts_2,.undef,.undef,.ptr (.new 4 0) 0 [] 0,.cT (.new 11 0) 0 [] 0 0 bL,.d ti i]++bu 32 []),[],(cw 4 ([[.obj 0 false (.d tH n4)]]++cw 6 ([[.obj 0 false (.vec 5 tb n11)]]++cw 27 [])))⟩
abbrev di.L0.Y0:=Nat×(List Int)
abbrev di.L0.X0:=(Bs)×(Nat×(List Int))
def di.L0.bM:di.L0.X0→Exit×AS:=fun x=>(.exit 0,⟨(bu 4 ([.ptr (.new 4 0) 0 [] 0,.cT (.new 11 0) 0 [] 0 0 x.2.1]++bu 33 [])),[],(cw 4 ([[.obj 0 false (.d tH x.1)]]++cw 6 ([[.obj 0 false (.vec 5 tb x.2.2)]]++cw 27 [])))⟩)
abbrev di.L0.X:=di.L0.X0
abbrev di.L0.Y:=di.L0.Y0
def di.L0.out:di.L0.X→Out (Exit×AS):=fun x=> .ok (di.L0.bM x)
def di.L0.add:di.L0.D→di.L0.Y→di.L0.X:=fun(parts_2,bL,i,n4,n11) y=>(n4,y)
abbrev di.D:=ByteArray×(List Bs)
def di.st:di.D→SA:=fun(name,parts)=>([.d .str name,.d (.slice tB) parts],[])
abbrev di.Y:=Bs
abbrev di.X:=Bs
def di.out:di.X→aT:=fun x=>⟨.d tH x,[],[]⟩
def di.add:di.D→di.Y→di.X:=fun(name,parts) y=>y
def di.L0.aq:di.L0.D→Prop:=fun(ps,m,i,n4,l)=>m=l.length∧∃k:Nat,k≤ps.length∧ps.length≤140737488350000∧i=k∧l.length+(jb (ps.drop k)).length≤140737488350000
def di.L0.F:di.L0.D→di.L0.Y:=fun(ps,m,i,n4,l)=>(l.length+(jb (ps.drop i.toNat)).length,l++jb (ps.drop i.toNat))
def di.aq:di.D→Prop:=fun(name,ps)=>(s9 (bA name) ps).length≤140737488350000
def di.F:di.D→di.Y:=fun(name,ps)=>tag (bA name) ps
noncomputable def di.G:dX:=eX (P:=Tryz.prog) [eE.sg,bP.sg]
noncomputable def di.L0.E:=cf.cF di.L0.st di.L0.aq di.L0.add di.L0.F di.L0.out
noncomputable def di.L0.call:di.L0.D→Option di.L0.X:=dO di.L0.E di.L0.st
noncomputable def di.an:ej:= {loops:=ky [(3,{bt:=[1,4,5,6],sites:=[4,11],kc:=[⟨5,[],11,135⟩]})],outs:=kr [(3,{bt:=[4,5],sites:=[4,11]},{bt:=[4]})],gk:=kY [(3,di.L0.E)]}
noncomputable def di.A:= @cq Tryz.prog di.G di.an 0 Tryz.f113 _ di.st
abbrev di.Ok:=cr @di.A di.aq di.add di.F di.out
noncomputable def di.L0.R:= @cP Tryz.prog di.G di.an 0 Tryz.f113 0 _ di.L0.st
abbrev di.L0.Ok:=fg Tryz.prog di.G di.an 0 Tryz.f113 0 di.L0.st di.L0.aq di.L0.add di.L0.F di.L0.out
theorem di.L0.run:bD di.L0.call di.L0.aq di.L0.add di.L0.F:=fw (fk [.d (.slice tB),.n,.d ti,.d tB,.d tB] fun _=>by kernel_rfl)
theorem di.L0.aF:gg @di.L0.R di.L0.st di.L0.aq di.L0.add di.L0.F di.L0.bM di.L0.Ok:=gj
theorem di.L0.step{R:Type}(parts_2:(List Bs))(bL:Nat)(i:Int)(n4:Bs)(n11:(List Int))(kn:AS→Option R)(kx:Exit→AS→Option R):di.L0.R (parts_2,bL,i,n4,n11) kn kx=
  aC ((gM i (((List.length parts_2):Nat):Int))) (
   aC (dY i (((List.length parts_2):Nat):Int)) (
   ab (eE.call (dI .u64 (((List.length (nth tB parts_2 (Int.toNat i))):Nat):Int))) fun x1=>
   aC (decide (0=0∧(0+x1.1)≤(List.length x1.2))) (
   aC (decide (bL≤(List.length n11))) (
   aC (dK (bL+(List.length (cut x1.2 0 x1.1))) 1) (
   aC (dY i (((List.length parts_2):Nat):Int)) (
   aC (decide ((bL+(List.length (cut x1.2 0 x1.1)))≤(List.length ((List.take bL n11)++(cut x1.2 0 x1.1))))) (
   aC (dK ((bL+(List.length (cut x1.2 0 x1.1)))+(List.length (nth tB parts_2 (Int.toNat i)))) 1) (
   kn (di.L0.st (parts_2,((bL+(List.length (cut x1.2 0 x1.1)))+(List.length (nth tB parts_2 (Int.toNat i)))),(bw .i64 i (1:Int)),n4,((List.take (bL+(List.length (cut x1.2 0 x1.1))) ((List.take bL n11)++(cut x1.2 0 x1.1)))++(nth tB parts_2 (Int.toNat i)))))) none) none) none) none) none) none) none) (
   kx (di.L0.bM (n4,(bL,n11))).1 (di.L0.bM (n4,(bL,n11))).2):=by kernel_rfl
theorem di.eq{R:Type}(name:ByteArray)(parts:(List Bs))(k:aT→Option R):di.A (name,parts) k=
 ab (eE.call (dI .u64 (((ByteArray.size name):Nat):Int))) fun x1=>
 aC (decide (x1.1≤(List.length x1.2))) (
 aC (dK (x1.1+(List.length (bA name))) 1) (
 ab (di.L0.call (parts,(x1.1+(List.length (bA name))),(0:Int),(List.replicate 32 (0:Int)),((List.take x1.1 x1.2)++(bA name)))) fun x4=>
 aC (decide (0=0∧(0+x4.2.1)≤(List.length x4.2.2))) (
 ab (bP.call (cut x4.2.2 0 x4.2.1)) fun x5=>
 k (di.out x5)) none) none) none:=by kernel_rfl
theorem Cn{n:Nat}(h:n < 18446744073709551616):dI .u64 ((n:Nat):Int)=n:=by rw[xN,gL];omega
theorem eE.at{n:Nat}(h:n < 18446744073709551616):eE.call (n:Int)=some (8,iy (n:Int)):=eE.run (d:=(n:Int)) (show 0≤(n:Int)∧(n:Int) < 18446744073709551616 from⟨by omega,by omega⟩)
theorem H3{l:List Int}{n:Nat}(h:l.length=n):cut l 0 n=l:=by unfold cut;rw[List.drop_zero,List.take_of_length_le (by omega)]
theorem di.L0.ok:di.L0.Ok:=by
 refine di.L0.aF (fun(ps,m,i,n4,l)=>ps.length - i.toNat) ?_
 rintro⟨ps,m,i,n4,l⟩ ⟨rfl,k,hk,hpl,rfl,hl⟩
 have hk:k≤ps.length:=hk
 have hpl:ps.length≤140737488350000:=hpl
 have hl:l.length+(jb (ps.drop k)).length≤140737488350000:=hl
 by_cases h:k < ps.length
 ·left
  have ht:=xl ps k h
  have hlen:(jb (ps.drop k)).length=8+ps[k].length+(jb (ps.drop (k+1))).length:=by rw[ht];simp only[List.length_append,cM]
  have hn:nth (.slice (.int .u8)) ps k=ps[k]:=dT (t:= .slice (.int .u8)) h
  have hlb:(l++iy (ps[k].length:Int)).length=l.length+8:=by simp[cM]
  refine⟨(ps,(l++iy ps[k].length++ps[k]).length,((k+1:Nat):Int),n4,l++iy ps[k].length++ps[k]),⟨rfl,k+1,by omega,hpl,rfl,?_⟩,by simp only[Int.toNat_natCast];omega,?_,fun kn kx=> ?_⟩
  ·simp only[List.length_append,cM];omega
  ·simp only[di.L0.add,di.L0.F,Int.toNat_natCast,ht,List.append_assoc]
   simp only[List.length_append,cM,Nat.add_assoc]
  ·have c8:cut (iy (ps[k].length:Int)) 0 8=iy (ps[k].length:Int):=H3 (cM _)
   have h64:ps[k].length < 18446744073709551616:=by omega
   rw[di.L0.step]
   simp(disch:=omega) only[↓S1,↓if_pos,↓if_neg,if_pos,if_neg,if_true,if_false,S2,hn,Cn h64,eE.at h64,cM,c8,List.take_length,hlb,Nat.zero_add,Nat.le_refl,and_self,if_true]
   rw[List.take_of_length_le (by rw[hlb];omega)]
   simp only[List.length_append,cM,Nat.add_assoc]
 ·right
  obtain rfl:k=ps.length:=by omega
  intro R kn kx
  rw[di.L0.step]
  simp(disch:=omega) only[↓S1,↓if_pos,↓if_neg,if_pos,if_neg,if_true,if_false,S2,di.L0.add,di.L0.F,List.drop_length]
  simp[jb]
theorem di.ok:di.Ok:=by
 rintro⟨name,ps⟩ hp
 have hp:(iy (bA name).length++bA name++jb ps).length≤140737488350000:=hp
 have hl:(iy (bA name).length++bA name++jb ps).length=8+(bA name).length+(jb ps).length:=by simp only[List.length_append,cM]
 have hpl:=vK ps
 have hsz:name.size=(bA name).length:=by rw[ig]
 have h64:(bA name).length < 18446744073709551616:=by omega
 have p2:di.L0.aq (ps,8+(bA name).length,0,List.replicate 32 0,iy ((bA name).length:Int)++bA name):=by
  refine⟨by simp only[List.length_append,cM],0,Nat.zero_le _,by omega,rfl,?_⟩
  rw[List.drop_zero]
  simp only[List.length_append,cM]
  omega
 rw[di.eq,hsz]
 simp(disch:=omega) only[↓S1,↓if_pos,↓if_neg,if_pos,if_neg,if_true,if_false,S2,Cn h64,eE.at h64,cM,List.take_of_length_le (Nat.le_of_eq (cM _)),di.L0.run p2,di.L0.add,di.L0.F,Int.toNat_zero,List.drop_zero,Nat.zero_add]
 have hcut:cut (iy ((bA name).length:Int)++bA name++jb ps) 0 ((iy ((bA name).length:Int)++bA name).length+(jb ps).length)=s9 (bA name) ps:=H3 (by simp only[List.length_append])
 have p3:bP.aq (s9 (bA name) ps):=hp
 rw[if_pos (by simp only[List.length_append];omega),hcut,bP.run p3]
 rfl
noncomputable def di.E:=Entry.cF [some .str,some (.slice tB)] di.st di.aq di.add di.F di.out
noncomputable def di.call:di.D→Option di.X:=bC di.E di.st
theorem di.run:bD di.call di.aq di.add di.F:=cz (cv [.d .str,.d (.slice tB)] fun _=>by kernel_rfl)
noncomputable def di.sg:SG Tryz.prog:=⟨113,aK,di.E,.fn 1 (by kernel_rfl) di.ok (And.intro (.cF di.L0.ok (by kernel_rfl)) trivial)⟩
set_option synthInstance.maxSize 5000
theorem rZ{n:Int}(h1:0≤n)(h2:n < 18446744073709551616):IntKind.u64.wrap n=n:=by
 rw[wrap_u64,gL];omega
theorem rY(n:Int):IntKind.u64.wrap n=n%18446744073709551616:=by
 rw[wrap_u64,gL];rfl
theorem iZ(x y:Int):bw .u64 x y=(x+y)%18446744073709551616:=rY _
theorem tX(x y:Int):bS .u64 x y=(x - y)%18446744073709551616:=rY _
theorem lB(x y:Int):eS .u64 x y=(x*y)%18446744073709551616:=rY _
theorem AT(x:Int):dI .u64 x=x%18446744073709551616:=rY _
theorem yH{x:Int}(h:0≤x)(h2:x < 18446744073709551616):ct .and .u64 x 4294967295=x%4294967296:=by
 obtain⟨n,rfl⟩:∃n:Nat,x=n:=⟨x.toNat,by omega⟩
 have e:(BitVec.ofInt 64 (n:Int) &&& BitVec.ofInt 64 4294967295).toNat=n%4294967296:=by
  rw[BitVec.toNat_and]
  have a:(BitVec.ofInt 64 (n:Int)).toNat=n:=by rw[BitVec.ofInt_natCast,BitVec.toNat_ofNat];omega
  have b:(BitVec.ofInt 64 4294967295).toNat=2^32 - 1:=by decide
  rw[a,b,Nat.and_two_pow_sub_one_eq_mod]
 show IntKind.u64.wrap ((BitVec.ofInt 64 (n:Int) &&& BitVec.ofInt 64 4294967295).toNat:Int)=_
 rw[e,rZ (by omega) (by omega)];omega
theorem HW{x:Int}(h:0≤x)(h2:x < 18446744073709551616):ct .and .u64 x 1=x%2:=by
 obtain⟨n,rfl⟩:∃n:Nat,x=n:=⟨x.toNat,by omega⟩
 have e:(BitVec.ofInt 64 (n:Int) &&& BitVec.ofInt 64 1).toNat=n%2:=by
  rw[BitVec.toNat_and]
  have a:(BitVec.ofInt 64 (n:Int)).toNat=n:=by rw[BitVec.ofInt_natCast,BitVec.toNat_ofNat];omega
  have b:(BitVec.ofInt 64 1).toNat=2^1 - 1:=by decide
  rw[a,b,Nat.and_two_pow_sub_one_eq_mod]
 show IntKind.u64.wrap ((BitVec.ofInt 64 (n:Int) &&& BitVec.ofInt 64 1).toNat:Int)=_
 rw[e,rZ (by omega) (by omega)];omega
theorem lF{x k:Int}(n:Nat)(hk:k=n)(hn:n≤64):bW .u64 x k=x / 2^n:=by
 subst hk
 rw[bW]
 have e:min (Int.toNat (n:Int)) IntKind.u64.bits=n:=by simp only[IntKind.bits];omega
 rw[e,Int.fdiv_eq_ediv_of_nonneg _ (Int.le_of_lt (Int.pow_pos (by omega)))]
theorem lE{x k:Int}(n:Nat)(hk:k=n)(hn:n≤64):jC .u64 x k=x*2^n%18446744073709551616:=by
 subst hk
 rw[jC,rY]
 have e:min (Int.toNat (n:Int)) IntKind.u64.bits=n:=by simp only[IntKind.bits];omega
 rw[e]
theorem rA{x y:Int}(k:Nat)(m:Int)(hm:m=2^k)(hx:x%m=0)(h0:0≤x)(h1:x < 18446744073709551616)(hy:0≤y)(hy2:y < m)(h2:x+y < 18446744073709551616):ct .or .u64 x y=x+y:=by
 subst hm
 obtain⟨n,rfl⟩:∃n:Nat,x=n:=⟨x.toNat,by omega⟩
 obtain⟨j,rfl⟩:∃j:Nat,y=j:=⟨y.toNat,by omega⟩
 have hx:n%2^k=0:=by
  have:((n%2^k:Nat):Int)=0:=by rw[Int.natCast_emod];simpa using hx
  omega
 have hj:j < 2^k:=by
  have:((j:Nat):Int) < ((2^k:Nat):Int):=by simpa using hy2
  omega
 obtain⟨q,rfl⟩:∃q,n=2^k*q:=⟨n / 2^k,by have:=Nat.div_add_mod n (2^k);omega⟩
 have e:(BitVec.ofInt 64 ((2^k*q:Nat):Int) ||| BitVec.ofInt 64 (j:Int)).toNat=2^k*q+j:=by
  rw[BitVec.toNat_or]
  have a:(BitVec.ofInt 64 ((2^k*q:Nat):Int)).toNat=2^k*q:=by rw[BitVec.ofInt_natCast,BitVec.toNat_ofNat];exact Nat.mod_eq_of_lt (by omega)
  have b:(BitVec.ofInt 64 (j:Int)).toNat=j:=by rw[BitVec.ofInt_natCast,BitVec.toNat_ofNat];exact Nat.mod_eq_of_lt (by omega)
  rw[a,b,Nat.two_pow_add_eq_or_of_lt hj]
 show IntKind.u64.wrap ((BitVec.ofInt 64 ((2^k*q:Nat):Int) ||| BitVec.ofInt 64 (j:Int)).toNat:Int)=_
 rw[e,rZ (by omega) (by omega)];omega
theorem xQ{x y:Int}(h:0≤x)(h1:0≤y)(h2:x < 18446744073709551616):kV .u64 x y=x / y:=by
 rw[kV,Int.tdiv_eq_ediv_of_nonneg h]
 exact rZ (Int.ediv_nonneg h h1) (Int.lt_of_le_of_lt (Int.ediv_le_self _ h) h2)
theorem ik{x y:Int}(h:0≤x):gd x y=x%y:=by rw[gd,Int.tmod_eq_emod_of_nonneg h]
theorem k1{e u w r q:Int}(he:e=42260∨e=42264∨e=42272)(hu:0≤u)(hu2:u < 18446744073709551616 - e)(hw:0≤w)(hw2:w < 4294967296)(hr:0≤r)(hr2:r < 4294967296)
  (hq:q*4294967295+r=u) (hQ:(u*4294967296+w) / (18446744073709551616 - e)≤q):
  (4294967296≤q→(u*4294967296+w) / (18446744073709551616 - e)≤q - 1)∧
  (q < 4294967296→4294967296*r+w < q*(4294967296 - e)→(u*4294967296+w) / (18446744073709551616 - e)≤q - 1)∧
  (q < 4294967296→q*(4294967296 - e)≤4294967296*r+w→(u*4294967296+w) / (18446744073709551616 - e)=q)∧
  (4294967296≤r+4294967295→(u*4294967296+w) / (18446744073709551616 - e)≤q - 1→(u*4294967296+w) / (18446744073709551616 - e)=q - 1)∧0≤(u*4294967296+w) / (18446744073709551616 - e)∧q≤4294967297:=by
 rcases he with rfl | rfl | rfl
 ·refine⟨?_,?_,?_,?_,?_,?_⟩ <;> omega
 ·refine⟨?_,?_,?_,?_,?_,?_⟩ <;> omega
 ·refine⟨?_,?_,?_,?_,?_,?_⟩ <;> omega
theorem k0{e u w:Int}(he:e=42260∨e=42264∨e=42272)(hu:0≤u)(hu2:u < 18446744073709551616 - e)(hw:0≤w)(hw2:w < 4294967296):
  (u*4294967296+w) / (18446744073709551616 - e)≤u / 4294967295∧0≤u - u / 4294967295*4294967295∧u - u / 4294967295*4294967295 < 4294967296∧
  (u*4294967296+w) - (u*4294967296+w) / (18446744073709551616 - e)*(18446744073709551616 - e)=(u*4294967296+w)%(18446744073709551616 - e)∧
  0≤(u*4294967296+w)%(18446744073709551616 - e)∧(u*4294967296+w)%(18446744073709551616 - e) < 18446744073709551616 - e∧
  0≤(u*4294967296+w) / (18446744073709551616 - e)∧(u*4294967296+w) / (18446744073709551616 - e) < 4294967296:=by
 rcases he with rfl | rfl | rfl
 ·refine⟨?_,?_,?_,?_,?_,?_,?_,?_⟩ <;> omega
 ·refine⟨?_,?_,?_,?_,?_,?_,?_,?_⟩ <;> omega
 ·refine⟨?_,?_,?_,?_,?_,?_,?_,?_⟩ <;> omega
theorem kd(Y u w1 w0:Int)(hY:0 < Y)(h0:0≤w0)(h1:w0 < 4294967296):
  ((u*4294967296+w1)*4294967296+w0) / Y=(u*4294967296+w1) / Y*4294967296+((u*4294967296+w1)%Y*4294967296+w0) / Y∧
  ((u*4294967296+w1)*4294967296+w0)%Y=((u*4294967296+w1)%Y*4294967296+w0)%Y:=by
 generalize u*4294967296+w1=n
 have e:n*4294967296+w0=(n%Y*4294967296+w0)+Y*(n / Y*4294967296):=by
  have:=Int.emod_add_mul_ediv n Y
  have h:Y*(n / Y*4294967296)=(Y*(n / Y))*4294967296:=by rw[Int.mul_assoc]
  rw[h];omega
 rw[e,Int.add_mul_ediv_left _ _ (by omega),Int.add_mul_emod_self_left]
 exact⟨by omega,rfl⟩
abbrev ek.D:=Int
def ek.st:ek.D→SA:=fun x=>([.d tu x],[])
abbrev ek.Y:=Int
abbrev ek.X:=Int
def ek.out:ek.X→aT:=fun x=>⟨.d ti x,[],[]⟩
def ek.add:ek.D→ek.Y→ek.X:=fun x y=>y
def Ie(y:Int):Prop:=y=4611686018427377339∨y=2305843009213688669∨y=2305843009213688668
def ek.aq:ek.D→Prop:=Ie
def ek.F:ek.D→ek.Y:=fun y=>if y=4611686018427377339 then 62 else 61
noncomputable def ek.G:dX:=eX (P:=Tryz.prog) []
noncomputable def ek.an:ej:= {}
noncomputable def ek.A:= @cq Tryz.prog ek.G ek.an 0 Tryz.f189 _ ek.st
abbrev ek.Ok:=cr @ek.A ek.aq ek.add ek.F ek.out
theorem ek.eq{R:Type}(x:Int)(k:aT→Option R):ek.A x k=
  aC ((kX x (4294967296:Int))) (
   aC ((kX (bW .u64 x (32:Int)) (65536:Int))) (
    aC ((kX (bW .u64 (bW .u64 x (32:Int)) (16:Int)) (256:Int))) (
     aC (dY (dI .u8 (bW .u64 (bW .u64 (bW .u64 x (32:Int)) (16:Int)) (8:Int))) (256:Int)) (
     k (ek.out (bw .i64 (56:Int) (dI .i64 (zT (⟨#[0,1,2,2,3,3,3,3,4,4,4,4,4,4,4,4,5,5,5,5,5,5,5,5,5,5,5,5,5,5,5,5,6,6,6,6,6,6,6,6,6,6,6,6,6,6,6,6,6,6,6,6,6,6,6,6,6,6,6,6,6,6,6,6,7,7,7,7,7,7,7,7,7,7,7,7,7,7,7,7,7,7,7,7,7,7,7,7,7,7,7,7,7,7,7,7,7,7,7,7,7,7,7,7,7,7,7,7,7,7,7,7,7,7,7,7,7,7,7,7,7,7,7,7,7,7,7,7,8,8,8,8,8,8,8,8,8,8,8,8,8,8,8,8,8,8,8,8,8,8,8,8,8,8,8,8,8,8,8,8,8,8,8,8,8,8,8,8,8,8,8,8,8,8,8,8,8,8,8,8,8,8,8,8,8,8,8,8,8,8,8,8,8,8,8,8,8,8,8,8,8,8,8,8,8,8,8,8,8,8,8,8,8,8,8,8,8,8,8,8,8,8,8,8,8,8,8,8,8,8,8,8,8,8,8,8,8,8,8,8,8,8,8,8,8,8,8,8,8,8,8,8,8,8,8,8]⟩:ByteArray) (dI .u8 (bW .u64 (bW .u64 (bW .u64 x (32:Int)) (16:Int)) (8:Int)))))))) none) (
     aC (dY (dI .u8 (bW .u64 (bW .u64 x (32:Int)) (16:Int))) (256:Int)) (
     k (ek.out (bw .i64 (48:Int) (dI .i64 (zT (⟨#[0,1,2,2,3,3,3,3,4,4,4,4,4,4,4,4,5,5,5,5,5,5,5,5,5,5,5,5,5,5,5,5,6,6,6,6,6,6,6,6,6,6,6,6,6,6,6,6,6,6,6,6,6,6,6,6,6,6,6,6,6,6,6,6,7,7,7,7,7,7,7,7,7,7,7,7,7,7,7,7,7,7,7,7,7,7,7,7,7,7,7,7,7,7,7,7,7,7,7,7,7,7,7,7,7,7,7,7,7,7,7,7,7,7,7,7,7,7,7,7,7,7,7,7,7,7,7,7,8,8,8,8,8,8,8,8,8,8,8,8,8,8,8,8,8,8,8,8,8,8,8,8,8,8,8,8,8,8,8,8,8,8,8,8,8,8,8,8,8,8,8,8,8,8,8,8,8,8,8,8,8,8,8,8,8,8,8,8,8,8,8,8,8,8,8,8,8,8,8,8,8,8,8,8,8,8,8,8,8,8,8,8,8,8,8,8,8,8,8,8,8,8,8,8,8,8,8,8,8,8,8,8,8,8,8,8,8,8,8,8,8,8,8,8,8,8,8,8,8,8,8,8,8,8,8,8]⟩:ByteArray) (dI .u8 (bW .u64 (bW .u64 x (32:Int)) (16:Int)))))))) none)) (
    aC ((kX (bW .u64 x (32:Int)) (256:Int))) (
     aC (dY (dI .u8 (bW .u64 (bW .u64 x (32:Int)) (8:Int))) (256:Int)) (
     k (ek.out (bw .i64 (40:Int) (dI .i64 (zT (⟨#[0,1,2,2,3,3,3,3,4,4,4,4,4,4,4,4,5,5,5,5,5,5,5,5,5,5,5,5,5,5,5,5,6,6,6,6,6,6,6,6,6,6,6,6,6,6,6,6,6,6,6,6,6,6,6,6,6,6,6,6,6,6,6,6,7,7,7,7,7,7,7,7,7,7,7,7,7,7,7,7,7,7,7,7,7,7,7,7,7,7,7,7,7,7,7,7,7,7,7,7,7,7,7,7,7,7,7,7,7,7,7,7,7,7,7,7,7,7,7,7,7,7,7,7,7,7,7,7,8,8,8,8,8,8,8,8,8,8,8,8,8,8,8,8,8,8,8,8,8,8,8,8,8,8,8,8,8,8,8,8,8,8,8,8,8,8,8,8,8,8,8,8,8,8,8,8,8,8,8,8,8,8,8,8,8,8,8,8,8,8,8,8,8,8,8,8,8,8,8,8,8,8,8,8,8,8,8,8,8,8,8,8,8,8,8,8,8,8,8,8,8,8,8,8,8,8,8,8,8,8,8,8,8,8,8,8,8,8,8,8,8,8,8,8,8,8,8,8,8,8,8,8,8,8,8,8]⟩:ByteArray) (dI .u8 (bW .u64 (bW .u64 x (32:Int)) (8:Int)))))))) none) (
     aC (dY (dI .u8 (bW .u64 x (32:Int))) (256:Int)) (
     k (ek.out (bw .i64 (32:Int) (dI .i64 (zT (⟨#[0,1,2,2,3,3,3,3,4,4,4,4,4,4,4,4,5,5,5,5,5,5,5,5,5,5,5,5,5,5,5,5,6,6,6,6,6,6,6,6,6,6,6,6,6,6,6,6,6,6,6,6,6,6,6,6,6,6,6,6,6,6,6,6,7,7,7,7,7,7,7,7,7,7,7,7,7,7,7,7,7,7,7,7,7,7,7,7,7,7,7,7,7,7,7,7,7,7,7,7,7,7,7,7,7,7,7,7,7,7,7,7,7,7,7,7,7,7,7,7,7,7,7,7,7,7,7,7,8,8,8,8,8,8,8,8,8,8,8,8,8,8,8,8,8,8,8,8,8,8,8,8,8,8,8,8,8,8,8,8,8,8,8,8,8,8,8,8,8,8,8,8,8,8,8,8,8,8,8,8,8,8,8,8,8,8,8,8,8,8,8,8,8,8,8,8,8,8,8,8,8,8,8,8,8,8,8,8,8,8,8,8,8,8,8,8,8,8,8,8,8,8,8,8,8,8,8,8,8,8,8,8,8,8,8,8,8,8,8,8,8,8,8,8,8,8,8,8,8,8,8,8,8,8,8,8]⟩:ByteArray) (dI .u8 (bW .u64 x (32:Int)))))))) none))) (
   aC ((kX x (65536:Int))) (
    aC ((kX (bW .u64 x (16:Int)) (256:Int))) (
     aC (dY (dI .u8 (bW .u64 (bW .u64 x (16:Int)) (8:Int))) (256:Int)) (
     k (ek.out (bw .i64 (24:Int) (dI .i64 (zT (⟨#[0,1,2,2,3,3,3,3,4,4,4,4,4,4,4,4,5,5,5,5,5,5,5,5,5,5,5,5,5,5,5,5,6,6,6,6,6,6,6,6,6,6,6,6,6,6,6,6,6,6,6,6,6,6,6,6,6,6,6,6,6,6,6,6,7,7,7,7,7,7,7,7,7,7,7,7,7,7,7,7,7,7,7,7,7,7,7,7,7,7,7,7,7,7,7,7,7,7,7,7,7,7,7,7,7,7,7,7,7,7,7,7,7,7,7,7,7,7,7,7,7,7,7,7,7,7,7,7,8,8,8,8,8,8,8,8,8,8,8,8,8,8,8,8,8,8,8,8,8,8,8,8,8,8,8,8,8,8,8,8,8,8,8,8,8,8,8,8,8,8,8,8,8,8,8,8,8,8,8,8,8,8,8,8,8,8,8,8,8,8,8,8,8,8,8,8,8,8,8,8,8,8,8,8,8,8,8,8,8,8,8,8,8,8,8,8,8,8,8,8,8,8,8,8,8,8,8,8,8,8,8,8,8,8,8,8,8,8,8,8,8,8,8,8,8,8,8,8,8,8,8,8,8,8,8,8]⟩:ByteArray) (dI .u8 (bW .u64 (bW .u64 x (16:Int)) (8:Int)))))))) none) (
     aC (dY (dI .u8 (bW .u64 x (16:Int))) (256:Int)) (
     k (ek.out (bw .i64 (16:Int) (dI .i64 (zT (⟨#[0,1,2,2,3,3,3,3,4,4,4,4,4,4,4,4,5,5,5,5,5,5,5,5,5,5,5,5,5,5,5,5,6,6,6,6,6,6,6,6,6,6,6,6,6,6,6,6,6,6,6,6,6,6,6,6,6,6,6,6,6,6,6,6,7,7,7,7,7,7,7,7,7,7,7,7,7,7,7,7,7,7,7,7,7,7,7,7,7,7,7,7,7,7,7,7,7,7,7,7,7,7,7,7,7,7,7,7,7,7,7,7,7,7,7,7,7,7,7,7,7,7,7,7,7,7,7,7,8,8,8,8,8,8,8,8,8,8,8,8,8,8,8,8,8,8,8,8,8,8,8,8,8,8,8,8,8,8,8,8,8,8,8,8,8,8,8,8,8,8,8,8,8,8,8,8,8,8,8,8,8,8,8,8,8,8,8,8,8,8,8,8,8,8,8,8,8,8,8,8,8,8,8,8,8,8,8,8,8,8,8,8,8,8,8,8,8,8,8,8,8,8,8,8,8,8,8,8,8,8,8,8,8,8,8,8,8,8,8,8,8,8,8,8,8,8,8,8,8,8,8,8,8,8,8,8]⟩:ByteArray) (dI .u8 (bW .u64 x (16:Int)))))))) none)) (
    aC ((kX x (256:Int))) (
     aC (dY (dI .u8 (bW .u64 x (8:Int))) (256:Int)) (
     k (ek.out (bw .i64 (8:Int) (dI .i64 (zT (⟨#[0,1,2,2,3,3,3,3,4,4,4,4,4,4,4,4,5,5,5,5,5,5,5,5,5,5,5,5,5,5,5,5,6,6,6,6,6,6,6,6,6,6,6,6,6,6,6,6,6,6,6,6,6,6,6,6,6,6,6,6,6,6,6,6,7,7,7,7,7,7,7,7,7,7,7,7,7,7,7,7,7,7,7,7,7,7,7,7,7,7,7,7,7,7,7,7,7,7,7,7,7,7,7,7,7,7,7,7,7,7,7,7,7,7,7,7,7,7,7,7,7,7,7,7,7,7,7,7,8,8,8,8,8,8,8,8,8,8,8,8,8,8,8,8,8,8,8,8,8,8,8,8,8,8,8,8,8,8,8,8,8,8,8,8,8,8,8,8,8,8,8,8,8,8,8,8,8,8,8,8,8,8,8,8,8,8,8,8,8,8,8,8,8,8,8,8,8,8,8,8,8,8,8,8,8,8,8,8,8,8,8,8,8,8,8,8,8,8,8,8,8,8,8,8,8,8,8,8,8,8,8,8,8,8,8,8,8,8,8,8,8,8,8,8,8,8,8,8,8,8,8,8,8,8,8,8]⟩:ByteArray) (dI .u8 (bW .u64 x (8:Int)))))))) none) (
     aC (dY (dI .u8 x) (256:Int)) (
     k (ek.out (bw .i64 (0:Int) (dI .i64 (zT (⟨#[0,1,2,2,3,3,3,3,4,4,4,4,4,4,4,4,5,5,5,5,5,5,5,5,5,5,5,5,5,5,5,5,6,6,6,6,6,6,6,6,6,6,6,6,6,6,6,6,6,6,6,6,6,6,6,6,6,6,6,6,6,6,6,6,7,7,7,7,7,7,7,7,7,7,7,7,7,7,7,7,7,7,7,7,7,7,7,7,7,7,7,7,7,7,7,7,7,7,7,7,7,7,7,7,7,7,7,7,7,7,7,7,7,7,7,7,7,7,7,7,7,7,7,7,7,7,7,7,8,8,8,8,8,8,8,8,8,8,8,8,8,8,8,8,8,8,8,8,8,8,8,8,8,8,8,8,8,8,8,8,8,8,8,8,8,8,8,8,8,8,8,8,8,8,8,8,8,8,8,8,8,8,8,8,8,8,8,8,8,8,8,8,8,8,8,8,8,8,8,8,8,8,8,8,8,8,8,8,8,8,8,8,8,8,8,8,8,8,8,8,8,8,8,8,8,8,8,8,8,8,8,8,8,8,8,8,8,8,8,8,8,8,8,8,8,8,8,8,8,8,8,8,8,8,8,8]⟩:ByteArray) (dI .u8 x)))))) none))):=by kernel_rfl
theorem ek.ok:ek.Ok:=by
 intro y h
 rw[ek.eq]
 obtain rfl | rfl | rfl:=h <;> kernel_rfl
noncomputable def ek.E:=Entry.cF [some tu] ek.st ek.aq ek.add ek.F ek.out
noncomputable def ek.call:ek.D→Option ek.X:=bC ek.E ek.st
theorem ek.run:bD ek.call ek.aq ek.add ek.F:=cz (cv [.d tu] fun _=>by kernel_rfl)
noncomputable def ek.sg:SG Tryz.prog:=⟨189,aK,ek.E,.fn 0 (by kernel_rfl) ek.ok trivial⟩
abbrev gw.D:=Int
def gw.st:gw.D→SA:=fun x=>([.d tu x],[])
abbrev gw.Y:=Int
abbrev gw.X:=Int
def gw.out:gw.X→aT:=fun x=>⟨.d ti x,[],[]⟩
def gw.add:gw.D→gw.Y→gw.X:=fun x y=>y
def gw.aq:gw.D→Prop:=Ie
def gw.F:gw.D→gw.Y:=fun y=>if y=4611686018427377339 then 2 else 3
noncomputable def gw.G:dX:=eX (P:=Tryz.prog) [ek.sg]
noncomputable def gw.an:ej:= {}
noncomputable def gw.A:= @cq Tryz.prog gw.G gw.an 0 Tryz.f183 _ gw.st
abbrev gw.Ok:=cr @gw.A gw.aq gw.add gw.F gw.out
theorem gw.eq{R:Type}(x:Int)(k:aT→Option R):gw.A x k=
 ab (ek.call x) fun x1=>
 k (gw.out (bS .i64 (64:Int) x1)):=by kernel_rfl
theorem gw.ok:gw.Ok:=by
 intro y h
 rw[gw.eq,ek.run (d:=y) h]
 obtain rfl | rfl | rfl:=h <;> rfl
noncomputable def gw.E:=Entry.cF [some tu] gw.st gw.aq gw.add gw.F gw.out
noncomputable def gw.call:gw.D→Option gw.X:=bC gw.E gw.st
theorem gw.run:bD gw.call gw.aq gw.add gw.F:=cz (cv [.d tu] fun _=>by kernel_rfl)
noncomputable def gw.sg:SG Tryz.prog:=⟨183,aK,gw.E,.fn 0 (by kernel_rfl) gw.ok trivial⟩
set_option synthInstance.maxSize 5000
abbrev aX.L0.D:=Int×Int×Int×Int×Int×Int×Int×Int×Int
def aX.L0.st:aX.L0.D→AS:=fun(yv_2,sv,yn1,yn0,un32,un1,un0,q1,rhat)=>⟨([.undef,.undef,.d tu yv_2]++bu 5 ([.d tu sv,.d tu yn1,.d tu yn0,.d tu un32,.undef,.d tu un1,.d tu un0,.d tu q1,.d tu rhat]++bu 118 [])),[],(List.replicate 135 [])⟩
abbrev aX.L0.Y0:=Int
abbrev aX.L0.X0:=(Int×Int×Int×Int×Int×Int×Int)×(Int)
def aX.L0.bM:aX.L0.X0→Exit×AS:=fun x=>(.exit 0,⟨([.undef,.undef,.d tu x.1.1]++bu 5 ([.d tu x.1.2.1,.d tu x.1.2.2.1,.d tu x.1.2.2.2.1,.d tu x.1.2.2.2.2.1,.undef,.d tu x.1.2.2.2.2.2.1,.d tu x.1.2.2.2.2.2.2,.d tu x.2]++bu 119 [])),[],(List.replicate 135 [])⟩)
abbrev aX.L0.X:=aX.L0.X0
abbrev aX.L0.Y:=aX.L0.Y0
def aX.L0.out:aX.L0.X→Out (Exit×AS):=fun x=> .ok (aX.L0.bM x)
def aX.L0.add:aX.L0.D→aX.L0.Y→aX.L0.X:=fun(yv_2,sv,yn1,yn0,un32,un1,un0,q1,rhat) y=>((yv_2,sv,yn1,yn0,un32,un1,un0),y)
abbrev aX.L1.D:=Int×Int×Int×Int×Int×Int×Int×Int×Int
def aX.L1.st:aX.L1.D→AS:=fun(yv_3,sv_2,yn1_2,yn0_2,un0_2,q1_2,rhat_2,un21,q0)=>⟨([.undef,.undef,.d tu yv_3]++bu 5 ([.d tu sv_2,.d tu yn1_2,.d tu yn0_2,.undef,.undef,.undef,.d tu un0_2,.d tu q1_2,.d tu rhat_2,.d tu un21,.d tu q0]++bu 116 [])),[],(List.replicate 135 [])⟩
abbrev aX.L1.Y0:=Int
abbrev aX.L1.X0:=(Int×Int×Int×Int×Int)×(Int)
def aX.L1.bM:aX.L1.X0→Exit×AS:=fun x=>(.exit 2,⟨([.undef,.undef,.d tu x.1.1]++bu 5 ([.d tu x.1.2.1]++bu 5 ([.d tu x.1.2.2.1,.d tu x.1.2.2.2.1,.undef,.d tu x.1.2.2.2.2,.d tu x.2]++bu 116 []))),[],(List.replicate 135 [])⟩)
abbrev aX.L1.X:=aX.L1.X0
abbrev aX.L1.Y:=aX.L1.Y0
def aX.L1.out:aX.L1.X→Out (Exit×AS):=fun x=> .ok (aX.L1.bM x)
def aX.L1.add:aX.L1.D→aX.L1.Y→aX.L1.X:=fun(yv_3,sv_2,yn1_2,yn0_2,un0_2,q1_2,rhat_2,un21,q0) y=>((yv_3,sv_2,un0_2,q1_2,un21),y)
abbrev aX.D:=Int×Int×Int
def aX.st:aX.D→SA:=fun(hi,lo,yv)=>([.d tu hi,.d tu lo,.d tu yv],[])
abbrev aX.Y:=Int×Int
abbrev aX.X:=Int×Int
def aX.out:aX.X→aT:=fun x=>⟨.cons (.d tu x.1) (.cons (.d tu x.2) (.nil)),[],[]⟩
def aX.add:aX.D→aX.Y→aX.X:=fun(hi,lo,yv) y=>y
def aX.L0.aq:aX.L0.D→Prop:=fun(y,sv,yn1,yn0,u,w,un0,q,r)=>∃e:Int,(e=42260∨e=42264∨e=42272)∧y=18446744073709551616 - e∧yn1=4294967295∧yn0=4294967296 - e∧0≤u∧u < 18446744073709551616 - e∧0≤w∧w < 4294967296∧0≤r∧r < 4294967296∧q*4294967295+r=u∧(u*4294967296+w) / (18446744073709551616 - e)≤q
def aX.L0.F:aX.L0.D→aX.L0.Y:=fun(y,sv,yn1,yn0,u,w,un0,q,r)=>(u*4294967296+w) / y
def aX.L1.aq:aX.L1.D→Prop:=fun(y,sv,yn1,yn0,w,q1,r,u,q)=>∃e:Int,(e=42260∨e=42264∨e=42272)∧y=18446744073709551616 - e∧yn1=4294967295∧yn0=4294967296 - e∧0≤u∧u < 18446744073709551616 - e∧0≤w∧w < 4294967296∧0≤r∧r < 4294967296∧q*4294967295+r=u∧(u*4294967296+w) / (18446744073709551616 - e)≤q
def aX.L1.F:aX.L1.D→aX.L1.Y:=fun(y,sv,yn1,yn0,w,q1,r,u,q)=>(u*4294967296+w) / y
def aX.aq:aX.D→Prop:=fun(hi,lo,y)=>Ie y∧0≤hi∧hi < y∧0≤lo∧lo < 18446744073709551616
def aX.F:aX.D→aX.Y:=fun(hi,lo,y)=>((hi*18446744073709551616+lo) / y,(hi*18446744073709551616+lo)%y)
noncomputable def aX.G:dX:=eX (P:=Tryz.prog) [gw.sg]
noncomputable def aX.L0.E:=cf.cF aX.L0.st aX.L0.aq aX.L0.add aX.L0.F aX.L0.out
noncomputable def aX.L0.call:aX.L0.D→Option aX.L0.X:=dO aX.L0.E aX.L0.st
noncomputable def aX.L1.E:=cf.cF aX.L1.st aX.L1.aq aX.L1.add aX.L1.F aX.L1.out
noncomputable def aX.L1.call:aX.L1.D→Option aX.L1.X:=dO aX.L1.E aX.L1.st
noncomputable def aX.an:ej:= {loops:=ky [(17,{bt:=[2,8,9,10,11,13,14,15,16]}),(24,{bt:=[2,8,9,10,14,15,16,17,18]})],outs:=kr [(17,{bt:=[2,8,9,10,11,13,14,15]},{bt:=[6,7]}),(24,{bt:=[2,8,14,15,17,18]},{bt:=[6,7]})],gk:=kY [(17,aX.L0.E),(24,aX.L1.E)]}
noncomputable def aX.A:= @cq Tryz.prog aX.G aX.an 0 Tryz.f171 _ aX.st
abbrev aX.Ok:=cr @aX.A aX.aq aX.add aX.F aX.out
noncomputable def aX.L0.R:= @cP Tryz.prog aX.G aX.an 0 Tryz.f171 0 _ aX.L0.st
abbrev aX.L0.Ok:=fg Tryz.prog aX.G aX.an 0 Tryz.f171 0 aX.L0.st aX.L0.aq aX.L0.add aX.L0.F aX.L0.out
noncomputable def aX.L1.R:= @cP Tryz.prog aX.G aX.an 0 Tryz.f171 1 _ aX.L1.st
abbrev aX.L1.Ok:=fg Tryz.prog aX.G aX.an 0 Tryz.f171 1 aX.L1.st aX.L1.aq aX.L1.add aX.L1.F aX.L1.out
theorem aX.L0.run:bD aX.L0.call aX.L0.aq aX.L0.add aX.L0.F:=fw (fk [.d tu,.d tu,.d tu,.d tu,.d tu,.d tu,.d tu,.d tu,.d tu] fun _=>by kernel_rfl)
theorem aX.L0.aF:gg @aX.L0.R aX.L0.st aX.L0.aq aX.L0.add aX.L0.F aX.L0.bM aX.L0.Ok:=gj
theorem aX.L0.step{R:Type}(yv_2:Int)(sv:Int)(yn1:Int)(yn0:Int)(un32:Int)(un1:Int)(un0:Int)(q1:Int)(rhat:Int)(kn:AS→Option R)(kx:Exit→AS→Option R):aX.L0.R (yv_2,sv,yn1,yn0,un32,un1,un0,q1,rhat) kn kx=
  aC ((kX q1 (4294967296:Int))) (
   aC ((kX (bw .u64 rhat yn1) (4294967296:Int))) (
    kx (aX.L0.bM ((yv_2,sv,yn1,yn0,un32,un1,un0),(bS .u64 q1 (1:Int)))).1 (aX.L0.bM ((yv_2,sv,yn1,yn0,un32,un1,un0),(bS .u64 q1 (1:Int)))).2) (
    kn (aX.L0.st (yv_2,sv,yn1,yn0,un32,un1,un0,(bS .u64 q1 (1:Int)),(bw .u64 rhat yn1))))) (
   aC ((na (eS .u64 q1 yn0) (bw .u64 (eS .u64 (4294967296:Int) rhat) un1))) (
    aC ((kX (bw .u64 rhat yn1) (4294967296:Int))) (
     kx (aX.L0.bM ((yv_2,sv,yn1,yn0,un32,un1,un0),(bS .u64 q1 (1:Int)))).1 (aX.L0.bM ((yv_2,sv,yn1,yn0,un32,un1,un0),(bS .u64 q1 (1:Int)))).2) (
     kn (aX.L0.st (yv_2,sv,yn1,yn0,un32,un1,un0,(bS .u64 q1 (1:Int)),(bw .u64 rhat yn1))))) (
    kx (aX.L0.bM ((yv_2,sv,yn1,yn0,un32,un1,un0),q1)).1 (aX.L0.bM ((yv_2,sv,yn1,yn0,un32,un1,un0),q1)).2)):=by kernel_rfl
theorem aX.L1.run:bD aX.L1.call aX.L1.aq aX.L1.add aX.L1.F:=fw (fk [.d tu,.d tu,.d tu,.d tu,.d tu,.d tu,.d tu,.d tu,.d tu] fun _=>by kernel_rfl)
theorem aX.L1.aF:gg @aX.L1.R aX.L1.st aX.L1.aq aX.L1.add aX.L1.F aX.L1.bM aX.L1.Ok:=gj
theorem aX.L1.step{R:Type}(yv_3:Int)(sv_2:Int)(yn1_2:Int)(yn0_2:Int)(un0_2:Int)(q1_2:Int)(rhat_2:Int)(un21:Int)(q0:Int)(kn:AS→Option R)(kx:Exit→AS→Option R):aX.L1.R (yv_3,sv_2,yn1_2,yn0_2,un0_2,q1_2,rhat_2,un21,q0) kn kx=
  aC ((kX q0 (4294967296:Int))) (
   aC ((kX (bw .u64 rhat_2 yn1_2) (4294967296:Int))) (
    kx (aX.L1.bM ((yv_3,sv_2,un0_2,q1_2,un21),(bS .u64 q0 (1:Int)))).1 (aX.L1.bM ((yv_3,sv_2,un0_2,q1_2,un21),(bS .u64 q0 (1:Int)))).2) (
    kn (aX.L1.st (yv_3,sv_2,yn1_2,yn0_2,un0_2,q1_2,(bw .u64 rhat_2 yn1_2),un21,(bS .u64 q0 (1:Int)))))) (
   aC ((na (eS .u64 q0 yn0_2) (bw .u64 (eS .u64 (4294967296:Int) rhat_2) un0_2))) (
    aC ((kX (bw .u64 rhat_2 yn1_2) (4294967296:Int))) (
     kx (aX.L1.bM ((yv_3,sv_2,un0_2,q1_2,un21),(bS .u64 q0 (1:Int)))).1 (aX.L1.bM ((yv_3,sv_2,un0_2,q1_2,un21),(bS .u64 q0 (1:Int)))).2) (
     kn (aX.L1.st (yv_3,sv_2,yn1_2,yn0_2,un0_2,q1_2,(bw .u64 rhat_2 yn1_2),un21,(bS .u64 q0 (1:Int)))))) (
    kx (aX.L1.bM ((yv_3,sv_2,un0_2,q1_2,un21),q0)).1 (aX.L1.bM ((yv_3,sv_2,un0_2,q1_2,un21),q0)).2)):=by kernel_rfl
theorem aX.eq{R:Type}(hi:Int)(lo:Int)(yv:Int)(k:aT→Option R):aX.A (hi,lo,yv) k=
  aC ((ia yv (0:Int))) (
   none) (
   aC ((wX yv hi)) (
    none) (
    aC ((ia hi (0:Int))) (
     aC (iK yv) (
     aC (iK yv) (
     k (aX.out ((kV .u64 lo yv),(gd lo yv)))) none) none) (
     ab (gw.call yv) fun x1=>
     aC (iW (dI .u64 x1)) (
     aC (iW (dI .u64 x1)) (
     aC (iW (bS .u64 (64:Int) (dI .u64 x1))) (
     aC (iW (dI .u64 x1)) (
     aC (iK (bW .u64 (jC .u64 yv (dI .u64 x1)) (32:Int))) (
     ab (aX.L0.call ((jC .u64 yv (dI .u64 x1)),(dI .u64 x1),(bW .u64 (jC .u64 yv (dI .u64 x1)) (32:Int)),(ct .and .u64 (jC .u64 yv (dI .u64 x1)) (4294967295:Int)),(ct .or .u64 (jC .u64 hi (dI .u64 x1)) (bW .u64 lo (bS .u64 (64:Int) (dI .u64 x1)))),(bW .u64 (jC .u64 lo (dI .u64 x1)) (32:Int)),(ct .and .u64 (jC .u64 lo (dI .u64 x1)) (4294967295:Int)),(kV .u64 (ct .or .u64 (jC .u64 hi (dI .u64 x1)) (bW .u64 lo (bS .u64 (64:Int) (dI .u64 x1)))) (bW .u64 (jC .u64 yv (dI .u64 x1)) (32:Int))),(bS .u64 (ct .or .u64 (jC .u64 hi (dI .u64 x1)) (bW .u64 lo (bS .u64 (64:Int) (dI .u64 x1)))) (eS .u64 (kV .u64 (ct .or .u64 (jC .u64 hi (dI .u64 x1)) (bW .u64 lo (bS .u64 (64:Int) (dI .u64 x1)))) (bW .u64 (jC .u64 yv (dI .u64 x1)) (32:Int))) (bW .u64 (jC .u64 yv (dI .u64 x1)) (32:Int)))))) fun x2=>
     aC (iK x2.1.2.2.1) (
     ab (aX.L1.call (x2.1.1,x2.1.2.1,x2.1.2.2.1,x2.1.2.2.2.1,x2.1.2.2.2.2.2.2,x2.2,(bS .u64 (bS .u64 (bw .u64 (eS .u64 x2.1.2.2.2.2.1 (4294967296:Int)) x2.1.2.2.2.2.2.1) (eS .u64 x2.2 x2.1.1)) (eS .u64 (kV .u64 (bS .u64 (bw .u64 (eS .u64 x2.1.2.2.2.2.1 (4294967296:Int)) x2.1.2.2.2.2.2.1) (eS .u64 x2.2 x2.1.1)) x2.1.2.2.1) x2.1.2.2.1)),(bS .u64 (bw .u64 (eS .u64 x2.1.2.2.2.2.1 (4294967296:Int)) x2.1.2.2.2.2.2.1) (eS .u64 x2.2 x2.1.1)),(kV .u64 (bS .u64 (bw .u64 (eS .u64 x2.1.2.2.2.2.1 (4294967296:Int)) x2.1.2.2.2.2.2.1) (eS .u64 x2.2 x2.1.1)) x2.1.2.2.1))) fun x3=>
     aC (iW x3.1.2.1) (
     k (aX.out ((bw .u64 (eS .u64 x3.1.2.2.2.1 (4294967296:Int)) x3.2),(bW .u64 (bS .u64 (bw .u64 (eS .u64 x3.1.2.2.2.2 (4294967296:Int)) x3.1.2.2.1) (eS .u64 x3.2 x3.1.1)) x3.1.2.1)))) none) none) none) none) none) none) none))):=by kernel_rfl
theorem aX.L0.ok:aX.L0.Ok:=by
 refine aX.L0.aF (fun(y,sv,yn1,yn0,u,w,un0,q,r)=>q.toNat) ?_
 rintro⟨y,sv,yn1,yn0,u,w,un0,q,r⟩ ⟨e,he,rfl,rfl,rfl,hu,hu2,hw,hw2,hr,hr2,hq,hQ⟩
 have hu:0≤u:=hu
 have hu2:u < 18446744073709551616 - e:=hu2
 have hw:0≤w:=hw
 have hw2:w < 4294967296:=hw2
 have hr:0≤r:=hr
 have hr2:r < 4294967296:=hr2
 have hq:q*4294967295+r=u:=hq
 obtain⟨k1,k2,k3,k4,k5,k6⟩:=k1 he hu hu2 hw hw2 hr hr2 hq hQ
 have q0:0≤q:=Int.le_trans k5 hQ
 have a1:bw .u64 r 4294967295=r+4294967295:=by rw[iZ];omega
 have a2:bw .u64 (eS .u64 4294967296 r) w=4294967296*r+w:=by rw[lB,iZ];omega
 have a3:q < 4294967296→eS .u64 q (4294967296 - e)=q*(4294967296 - e):=by
  intro h;rw[lB];rcases he with rfl | rfl | rfl <;> omega
 have a4:0 < q→bS .u64 q 1=q - 1:=by intro h;rw[tX];omega
 have pos:4294967296≤q∨(q < 4294967296∧4294967296*r+w < q*(4294967296 - e))→0 < q∧(u*4294967296+w) / (18446744073709551616 - e)≤q - 1:=by
  rintro(h | ⟨h,h2⟩)
  ·exact⟨by omega,k1 h⟩
  ·exact⟨by have:=k2 h h2;omega,k2 h h2⟩
 by_cases hc:4294967296≤q∨(q < 4294967296∧4294967296*r+w < q*(4294967296 - e))
 ·obtain⟨p1,p2⟩:=pos hc
  by_cases hb:4294967296≤r+4294967295
  ·right
   have hF:aX.L0.F (18446744073709551616 - e,sv,4294967295,4294967296 - e,u,w,un0,q,r)=q - 1:=k4 hb p2
   intro R kn kx
   rw[aX.L0.step,a1,a2,a4 p1,gQ hb,hF]
   rcases hc with h | ⟨h,h2⟩
   ·rw[gQ h];rfl
   ·rw[fx (by omega),a3 h,dS h2];rfl
  ·left
   refine⟨(18446744073709551616 - e,sv,4294967295,4294967296 - e,u,w,un0,q - 1,r+4294967295),⟨e,he,rfl,rfl,rfl,hu,hu2,hw,hw2,by omega,by omega,by omega,p2⟩,by simp only[];omega,rfl,fun kn kx=> ?_⟩
   rw[aX.L0.step,a1,a2,a4 p1,fx hb]
   rcases hc with h | ⟨h,h2⟩
   ·rw[gQ h];rfl
   ·rw[fx (by omega),a3 h,dS h2];rfl
 ·right
  have h:q < 4294967296:=by omega
  have h2:¬4294967296*r+w < q*(4294967296 - e):=fun x=>hc (Or.inr ⟨h,x⟩)
  have hF:aX.L0.F (18446744073709551616 - e,sv,4294967295,4294967296 - e,u,w,un0,q,r)=q:=k3 h (by omega)
  intro R kn kx
  rw[aX.L0.step,a2,a3 h,fx (by omega),cZ h2,hF]
  rfl
theorem aX.L1.ok:aX.L1.Ok:=by
 refine aX.L1.aF (fun(y,sv,yn1,yn0,w,q1,r,u,q)=>q.toNat) ?_
 rintro⟨y,sv,yn1,yn0,w,q1,r,u,q⟩ ⟨e,he,rfl,rfl,rfl,hu,hu2,hw,hw2,hr,hr2,hq,hQ⟩
 have hu:0≤u:=hu
 have hu2:u < 18446744073709551616 - e:=hu2
 have hw:0≤w:=hw
 have hw2:w < 4294967296:=hw2
 have hr:0≤r:=hr
 have hr2:r < 4294967296:=hr2
 have hq:q*4294967295+r=u:=hq
 obtain⟨k1,k2,k3,k4,k5,k6⟩:=k1 he hu hu2 hw hw2 hr hr2 hq hQ
 have q0:0≤q:=Int.le_trans k5 hQ
 have a1:bw .u64 r 4294967295=r+4294967295:=by rw[iZ];omega
 have a2:bw .u64 (eS .u64 4294967296 r) w=4294967296*r+w:=by rw[lB,iZ];omega
 have a3:q < 4294967296→eS .u64 q (4294967296 - e)=q*(4294967296 - e):=by
  intro h;rw[lB];rcases he with rfl | rfl | rfl <;> omega
 have a4:0 < q→bS .u64 q 1=q - 1:=by intro h;rw[tX];omega
 have pos:4294967296≤q∨(q < 4294967296∧4294967296*r+w < q*(4294967296 - e))→0 < q∧(u*4294967296+w) / (18446744073709551616 - e)≤q - 1:=by
  rintro(h | ⟨h,h2⟩)
  ·exact⟨by omega,k1 h⟩
  ·exact⟨by have:=k2 h h2;omega,k2 h h2⟩
 by_cases hc:4294967296≤q∨(q < 4294967296∧4294967296*r+w < q*(4294967296 - e))
 ·obtain⟨p1,p2⟩:=pos hc
  by_cases hb:4294967296≤r+4294967295
  ·right
   have hF:aX.L1.F (18446744073709551616 - e,sv,4294967295,4294967296 - e,w,q1,r,u,q)=q - 1:=k4 hb p2
   intro R kn kx
   rw[aX.L1.step,a1,a2,a4 p1,gQ hb,hF]
   rcases hc with h | ⟨h,h2⟩
   ·rw[gQ h];rfl
   ·rw[fx (by omega),a3 h,dS h2];rfl
  ·left
   refine⟨(18446744073709551616 - e,sv,4294967295,4294967296 - e,w,q1,r+4294967295,u,q - 1),⟨e,he,rfl,rfl,rfl,hu,hu2,hw,hw2,by omega,by omega,by omega,p2⟩,by simp only[];omega,rfl,fun kn kx=> ?_⟩
   rw[aX.L1.step,a1,a2,a4 p1,fx hb]
   rcases hc with h | ⟨h,h2⟩
   ·rw[gQ h];rfl
   ·rw[fx (by omega),a3 h,dS h2];rfl
 ·right
  have h:q < 4294967296:=by omega
  have h2:¬4294967296*r+w < q*(4294967296 - e):=fun x=>hc (Or.inr ⟨h,x⟩)
  have hF:aX.L1.F (18446744073709551616 - e,sv,4294967295,4294967296 - e,w,q1,r,u,q)=q:=k3 h (by omega)
  intro R kn kx
  rw[aX.L1.step,a2,a3 h,fx (by omega),cZ h2,hF]
  rfl
theorem GV{y hi lo:Int}(hy:Ie y)(h0:0≤hi)(h1:hi < y)(h2:0≤lo)(h3:lo < 18446744073709551616):∃(s:Nat) (e m:Int),gw.F y=s∧(s=2∨s=3)∧m=2^s∧(e=42260∨e=42264∨e=42272)∧y*m=18446744073709551616 - e∧
  jC .u64 y (s:Int)=18446744073709551616 - e∧
  ct .or .u64 (jC .u64 hi (s:Int)) (bW .u64 lo (bS .u64 64 (s:Int)))=(hi*18446744073709551616+lo)*m / 18446744073709551616∧
  jC .u64 lo (s:Int)=(hi*18446744073709551616+lo)*m%18446744073709551616∧
  (hi*18446744073709551616+lo)*m / 18446744073709551616 < 18446744073709551616 - e∧
  (hi*18446744073709551616+lo)*m / (18446744073709551616 - e)=(hi*18446744073709551616+lo) / y∧
  (hi*18446744073709551616+lo)*m%(18446744073709551616 - e) / m=(hi*18446744073709551616+lo)%y:=by
 have e1:bS .u64 64 ((2:Nat):Int)=((62:Nat):Int):=rfl
 have e2:bS .u64 64 ((3:Nat):Int)=((61:Nat):Int):=rfl
 have p2:(2:Int)^2=4:=rfl
 have p3:(2:Int)^3=8:=rfl
 have p61:(2:Int)^61=2305843009213693952:=rfl
 have p62:(2:Int)^62=4611686018427387904:=rfl
 obtain rfl | rfl | rfl:=hy
 ·refine⟨2,42260,4,rfl,Or.inl rfl,rfl,Or.inl rfl,rfl,by rw[lE 2 (by rfl) (by omega),p2];omega,?_,?_,by omega,by omega,by omega⟩
  ·rw[e1,lE 2 (by rfl) (by omega),lF 62 (by rfl) (by omega),p2,p62,rA 2 4 rfl (by omega) (by omega) (by omega) (by omega) (by omega) (by omega)];omega
  ·rw[lE 2 (by rfl) (by omega),p2];omega
 ·refine⟨3,42264,8,rfl,Or.inr rfl,rfl,Or.inr (Or.inl rfl),rfl,by rw[lE 3 (by rfl) (by omega),p3];omega,?_,?_,by omega,by omega,by omega⟩
  ·rw[e2,lE 3 (by rfl) (by omega),lF 61 (by rfl) (by omega),p3,p61,rA 3 8 rfl (by omega) (by omega) (by omega) (by omega) (by omega) (by omega)];omega
  ·rw[lE 3 (by rfl) (by omega),p3];omega
 ·refine⟨3,42272,8,rfl,Or.inr rfl,rfl,Or.inr (Or.inr rfl),rfl,by rw[lE 3 (by rfl) (by omega),p3];omega,?_,?_,by omega,by omega,by omega⟩
  ·rw[e2,lE 3 (by rfl) (by omega),lF 61 (by rfl) (by omega),p3,p61,rA 3 8 rfl (by omega) (by omega) (by omega) (by omega) (by omega) (by omega)];omega
  ·rw[lE 3 (by rfl) (by omega),p3];omega
theorem IW(a b c:Int):(((a%18446744073709551616+b)%18446744073709551616) - c%18446744073709551616)%18446744073709551616=(a+b - c)%18446744073709551616:=by omega
theorem aX.ok:aX.Ok:=by
 rintro⟨hi,lo,y⟩ ⟨hy,h0,h1,h2,h3⟩
 have h0:0≤hi:=h0
 have h1:hi < y:=h1
 have h2:0≤lo:=h2
 have h3:lo < 18446744073709551616:=h3
 have yb:0 < y∧y < 18446744073709551616:=by obtain rfl | rfl | rfl:=hy <;> omega
 rw[aX.eq,dR (by omega),ld (by omega)]
 simp only[ae]
 have z:iK y=true:=by simp[iK];omega
 by_cases hz:hi=0
 ·subst hz
  rw[eu rfl,z,xQ h2 (by omega) h3,ik h2]
  simp only[ah,aX.F,aX.add,Int.zero_mul,Int.zero_add]
 ·obtain⟨s,e,m,hs,hs2,hm,he,hym,a1,a2,a3,a4,a5,a6⟩:=GV hy h0 h1 h2 h3
  have c1:dI .u64 (s:Int)=(s:Int):=by rw[AT];omega
  have c2:iW (s:Int)=true:=nj (by omega)
  have c3:iW (bS .u64 64 (s:Int))=true:=by rcases hs2 with rfl | rfl <;> rfl
  rw[dR hz,gw.run (d:=y) hy]
  simp only[ae,aa,gw.add,hs,c1,c2,c3,ah,a1,a2,a3]
  have hN:0≤(hi*18446744073709551616+lo)*m:=Int.mul_nonneg (by omega) (by rcases hs2 with rfl | rfl <;> omega)
  revert a4 a5 a6
  generalize (hi*18446744073709551616+lo)*m=N at hN
  intro a4 a5 a6
  have u0:0≤N / 18446744073709551616:=by omega
  have t0:0≤N%18446744073709551616:=by omega
  have t1:N%18446744073709551616 < 18446744073709551616:=by omega
  have hd:N=(N / 18446744073709551616*4294967296+N%18446744073709551616 / 4294967296)*4294967296+N%18446744073709551616%4294967296:=by omega
  have w10:0≤N%18446744073709551616 / 4294967296:=by omega
  have w11:N%18446744073709551616 / 4294967296 < 4294967296:=by omega
  have w00:0≤N%18446744073709551616%4294967296:=by omega
  have w01:N%18446744073709551616%4294967296 < 4294967296:=by omega
  have p32:(2:Int)^32=4294967296:=rfl
  have b1:bW .u64 (18446744073709551616 - e) 32=4294967295:=by rw[lF 32 (by rfl) (by omega),p32];rcases he with rfl | rfl | rfl <;> rfl
  have b2:ct .and .u64 (18446744073709551616 - e) 4294967295=4294967296 - e:=by rw[yH (by omega) (by omega)];omega
  have b3:bW .u64 (N%18446744073709551616) 32=N%18446744073709551616 / 4294967296:=by rw[lF 32 (by rfl) (by omega),p32]
  have b4:ct .and .u64 (N%18446744073709551616) 4294967295=N%18446744073709551616%4294967296:=yH t0 t1
  have z2:iK 4294967295=true:=rfl
  simp only[b1,b2,b3,b4,z2,ah]
  clear a1 a2 a3 b1 b2 b3 b4
  have kdd:=kd (18446744073709551616 - e) (N / 18446744073709551616) (N%18446744073709551616 / 4294967296) (N%18446744073709551616%4294967296) (by omega) w00 w01
  rw[←hd,a5]at kdd
  revert a4 kdd
  generalize N / 18446744073709551616=u at u0
  generalize N%18446744073709551616 / 4294967296=w1 at w10 w11
  generalize N%18446744073709551616%4294967296=w0 at w00 w01
  intro a4 kdd
  have g:∀u w:Int,0≤u→u < 18446744073709551616 - e→0≤w→w < 4294967296→
    kV .u64 u 4294967295=u / 4294967295∧bS .u64 u (eS .u64 (u / 4294967295) 4294967295)=u - u / 4294967295*4294967295∧
    bS .u64 (bw .u64 (eS .u64 u 4294967296) w) (eS .u64 ((u*4294967296+w) / (18446744073709551616 - e)) (18446744073709551616 - e))=(u*4294967296+w)%(18446744073709551616 - e):=by
   intro u w k1 k2 k3 k4
   obtain⟨q1,q2,q3,q4,q5,q6,q7,q8⟩:=k0 he k1 k2 k3 k4
   refine⟨xQ k1 (by omega) (by omega),by rw[tX,lB];omega,?_⟩
   rw[tX,iZ,lB,lB,IW,q4]
   exact Int.emod_eq_of_lt q5 (by omega)
  obtain⟨f1,f2,f3⟩:=g u w1 u0 a4 w10 w11
  obtain⟨q1,q2,q3,q4,q5,q6,q7,q8⟩:=k0 he u0 a4 w10 w11
  have p1:aX.L0.aq (18446744073709551616 - e,(s:Int),4294967295,4294967296 - e,u,w1,w0,u / 4294967295,u - u / 4294967295*4294967295):=⟨e,he,rfl,rfl,rfl,u0,a4,w10,w11,q2,q3,by omega,q1⟩
  rw[f1,f2,aX.L0.run p1]
  simp only[aa,aX.L0.add,aX.L0.F,z2,ah,f3]
  revert f3 q1 kdd
  generalize (u*4294967296+w1)%(18446744073709551616 - e)=v at q4 q5 q6
  generalize (u*4294967296+w1) / (18446744073709551616 - e)=Q at q4 q7 q8
  intro kdd f3 q1
  obtain⟨g1,g2,g3⟩:=g v w0 q5 q6 w00 w01
  obtain⟨r1,r2,r3,r4,r5,r6,r7,r8⟩:=k0 he q5 q6 w00 w01
  have p2:aX.L1.aq (18446744073709551616 - e,(s:Int),4294967295,4294967296 - e,w0,Q,v - v / 4294967295*4294967295,v,v / 4294967295):=⟨e,he,rfl,rfl,rfl,q5,q6,w00,w01,r2,r3,by omega,r1⟩
  rw[g1,g2,aX.L1.run p2]
  simp only[aa,aX.L1.add,aX.L1.F,c2,ah,g3]
  rw[←kdd.2,lF s (by rfl) (by omega),←hm,a6,lB,iZ]
  have e9:(Q*4294967296%18446744073709551616+(v*4294967296+w0) / (18446744073709551616 - e))%18446744073709551616=(hi*18446744073709551616+lo) / y:=by rw[kdd.1];omega
  rw[e9]
  rfl
noncomputable def aX.E:=Entry.cF [some tu,some tu,some tu] aX.st aX.aq aX.add aX.F aX.out
noncomputable def aX.call:aX.D→Option aX.X:=bC aX.E aX.st
theorem aX.run:bD aX.call aX.aq aX.add aX.F:=cz (cv [.d tu,.d tu,.d tu] fun _=>by kernel_rfl)
noncomputable def aX.sg:SG Tryz.prog:=⟨171,aK,aX.E,.fn 2 (by kernel_rfl) aX.ok (And.intro (.cF aX.L0.ok (by kernel_rfl)) (And.intro (.cF aX.L1.ok (by kernel_rfl)) trivial))⟩
abbrev dW.D:=Int×Int×Int
def dW.st:dW.D→SA:=fun(hi,lo,yv)=>([.d tu hi,.d tu lo,.d tu yv],[])
abbrev dW.Y:=Int
abbrev dW.X:=Int
def dW.out:dW.X→aT:=fun x=>⟨.d tu x,[],[]⟩
def dW.add:dW.D→dW.Y→dW.X:=fun(hi,lo,yv) y=>y
def dW.aq:dW.D→Prop:=fun(hi,lo,y)=>Ie y∧0≤hi∧hi < 18446744073709551616∧0≤lo∧lo < 18446744073709551616
def dW.F:dW.D→dW.Y:=fun(hi,lo,y)=>(hi*18446744073709551616+lo)%y
noncomputable def dW.G:dX:=eX (P:=Tryz.prog) [aX.sg]
noncomputable def dW.an:ej:= {}
noncomputable def dW.A:= @cq Tryz.prog dW.G dW.an 0 Tryz.f138 _ dW.st
abbrev dW.Ok:=cr @dW.A dW.aq dW.add dW.F dW.out
theorem dW.eq{R:Type}(hi:Int)(lo:Int)(yv:Int)(k:aT→Option R):dW.A (hi,lo,yv) k=
 aC (iK yv) (
 ab (aX.call ((gd hi yv),lo,yv)) fun x1=>
 k (dW.out x1.2)) none:=by kernel_rfl
theorem dW.ok:dW.Ok:=by
 rintro⟨hi,lo,y⟩ ⟨hy,h0,h1,h2,h3⟩
 have h0:0≤hi:=h0
 have yb:0 < y:=by obtain rfl | rfl | rfl:=hy <;> omega
 have z:iK y=true:=by simp[iK];omega
 have p:aX.aq (hi%y,lo,y):=⟨hy,Int.emod_nonneg _ (by omega),Int.emod_lt_of_pos _ yb,h2,h3⟩
 rw[dW.eq,z,ik h0,aX.run p]
 have e:(hi%y*18446744073709551616+lo)%y=(hi*18446744073709551616+lo)%y:=by
  rw[Int.add_emod,Int.mul_emod,Int.emod_emod_of_dvd _ (Int.dvd_refl y),←Int.mul_emod,←Int.add_emod]
 simp only[ah,aa,aX.add,aX.F,dW.add,dW.F,e]
noncomputable def dW.E:=Entry.cF [some tu,some tu,some tu] dW.st dW.aq dW.add dW.F dW.out
noncomputable def dW.call:dW.D→Option dW.X:=bC dW.E dW.st
theorem dW.run:bD dW.call dW.aq dW.add dW.F:=cz (cv [.d tu,.d tu,.d tu] fun _=>by kernel_rfl)
noncomputable def dW.sg:SG Tryz.prog:=⟨138,aK,dW.E,.fn 0 (by kernel_rfl) dW.ok trivial⟩
abbrev eh.D:=Int×Int
def eh.st:eh.D→SA:=fun(x,yv)=>([.d tu x,.d tu yv],[])
abbrev eh.Y:=Int×Int
abbrev eh.X:=Int×Int
def eh.out:eh.X→aT:=fun x=>⟨.cons (.d tu x.1) (.cons (.d tu x.2) (.nil)),[],[]⟩
def eh.add:eh.D→eh.Y→eh.X:=fun(x,yv) y=>y
def eh.aq:eh.D→Prop:=fun(x,y)=>(0≤x∧x < 18446744073709551616)∧0≤y∧y < 18446744073709551616
def eh.F:eh.D→eh.Y:=fun(x,y)=>(x*y / 18446744073709551616,x*y%18446744073709551616)
noncomputable def eh.G:dX:=eX (P:=Tryz.prog) []
noncomputable def eh.an:ej:= {}
noncomputable def eh.A:= @cq Tryz.prog eh.G eh.an 0 Tryz.f164 _ eh.st
abbrev eh.Ok:=cr @eh.A eh.aq eh.add eh.F eh.out
theorem eh.eq{R:Type}(x:Int)(yv:Int)(k:aT→Option R):eh.A (x,yv) k=
 k (eh.out ((bw .u64 (bw .u64 (eS .u64 (bW .u64 x (32:Int)) (bW .u64 yv (32:Int))) (bW .u64 (bw .u64 (eS .u64 (bW .u64 x (32:Int)) (ct .and .u64 yv (4294967295:Int))) (bW .u64 (eS .u64 (ct .and .u64 x (4294967295:Int)) (ct .and .u64 yv (4294967295:Int))) (32:Int))) (32:Int))) (bW .u64 (bw .u64 (ct .and .u64 (bw .u64 (eS .u64 (bW .u64 x (32:Int)) (ct .and .u64 yv (4294967295:Int))) (bW .u64 (eS .u64 (ct .and .u64 x (4294967295:Int)) (ct .and .u64 yv (4294967295:Int))) (32:Int))) (4294967295:Int)) (eS .u64 (ct .and .u64 x (4294967295:Int)) (bW .u64 yv (32:Int)))) (32:Int))),(eS .u64 x yv))):=by kernel_rfl
theorem sQ{a b m n:Int}(h0:0≤a)(h1:a≤m)(h2:0≤b)(h3:b≤n):0≤a*b∧a*b≤m*n:=
 ⟨Int.mul_nonneg h0 h2,Int.mul_le_mul h1 h3 h2 (Int.le_trans h0 h1)⟩
theorem eh.ok:eh.Ok:=by
 rintro⟨x,y⟩ ⟨⟨h0,h1⟩,h2,h3⟩
 have h0:0≤x:=h0
 have h1:x < 18446744073709551616:=h1
 have h2:0≤y:=h2
 have h3:y < 18446744073709551616:=h3
 rw[eh.eq]
 have p32:(2:Int)^32=4294967296:=rfl
 have s32:∀x:Int,bW .u64 x 32=x / 4294967296:=fun x=>by rw[lF 32 (by rfl) (by omega),p32]
 simp only[s32,yH h0 h1,yH h2 h3]
 obtain⟨a,b,rfl,a0,a1,b0,b1⟩:∃a b:Int,x=a*4294967296+b∧0≤a∧a≤4294967295∧0≤b∧b≤4294967295:=⟨x / 4294967296,x%4294967296,by omega,by omega,by omega,by omega,by omega⟩
 obtain⟨c,d,rfl,c0,c1,d0,d1⟩:∃a b:Int,y=a*4294967296+b∧0≤a∧a≤4294967295∧0≤b∧b≤4294967295:=⟨y / 4294967296,y%4294967296,by omega,by omega,by omega,by omega,by omega⟩
 have e1:(a*4294967296+b) / 4294967296=a:=by omega
 have e2:(a*4294967296+b)%4294967296=b:=by omega
 have e3:(c*4294967296+d) / 4294967296=c:=by omega
 have e4:(c*4294967296+d)%4294967296=d:=by omega
 have e5:(a*4294967296+b)*(c*4294967296+d)=a*c*18446744073709551616+(a*d+b*c)*4294967296+b*d:=by
  have q:(4294967296:Int)*4294967296=18446744073709551616:=rfl
  rw[Int.add_mul,Int.mul_add,Int.mul_add]
  have q1:a*4294967296*(c*4294967296)=a*c*18446744073709551616:=by rw[←q];ac_rfl
  have q2:a*4294967296*d=a*d*4294967296:=by ac_rfl
  have q3:b*(c*4294967296)=b*c*4294967296:=by ac_rfl
  rw[q1,q2,q3];omega
 obtain⟨m1,m2⟩:=sQ a0 a1 c0 c1
 obtain⟨m3,m4⟩:=sQ a0 a1 d0 d1
 obtain⟨m5,m6⟩:=sQ b0 b1 c0 c1
 obtain⟨m7,m8⟩:=sQ b0 b1 d0 d1
 have n:(4294967295:Int)*4294967295=18446744065119617025:=rfl
 rw[n]at m2 m4 m6 m8
 simp only[e1,e2,e3,e4,eh.add,eh.F,e5,lB,iZ]
 revert m1 m2 m3 m4 m5 m6 m7 m8
 generalize a*c=ac
 generalize a*d=ad
 generalize b*c=bc
 generalize b*d=bd
 intro m1 m2 m3 m4 m5 m6 m7 m8
 have q1:bd%18446744073709551616=bd:=by omega
 have q2:ad%18446744073709551616=ad:=by omega
 have q3:bc%18446744073709551616=bc:=by omega
 have q4:ac%18446744073709551616=ac:=by omega
 rw[q1,q2,q3,q4]
 have q5:(ad+bd / 4294967296)%18446744073709551616=ad+bd / 4294967296:=by omega
 have q6:ct .and .u64 (ad+bd / 4294967296) 4294967295=(ad+bd / 4294967296)%4294967296:=yH (by omega) (by omega)
 rw[q5,q6]
 refine congrArg some (congrArg eh.out (Prod.ext ?_ ?_))
 ·show _=(_:Int)
  simp only[]
  omega
 ·rfl
noncomputable def eh.E:=Entry.cF [some tu,some tu] eh.st eh.aq eh.add eh.F eh.out
noncomputable def eh.call:eh.D→Option eh.X:=bC eh.E eh.st
theorem eh.run:bD eh.call eh.aq eh.add eh.F:=cz (cv [.d tu,.d tu] fun _=>by kernel_rfl)
noncomputable def eh.sg:SG Tryz.prog:=⟨164,aK,eh.E,.fn 0 (by kernel_rfl) eh.ok trivial⟩
set_option synthInstance.maxSize 5000
def Pn(x:Int):Prop:=0≤x∧x < 4611686018427377339
def fh(x:Int):Prop:=0≤x∧x < 18446744073709551616
theorem Pn.u{x:Int}(h:Pn x):fh x:=⟨h.1,by have:=h.2;omega⟩
def lj(a b:Int):Int:=a*b%4611686018427377339
theorem mz(a b:Int):Pn (lj a b):=⟨Int.emod_nonneg _ (by omega),Int.emod_lt_of_pos _ (by omega)⟩
def yy:Nat→Int→Nat→Int→Int
 | 0,_,_,out=>out
 |f+1,a,n,out=>if n=0 then out else yy f (lj a a) (n / 2) (if n%2=1 then lj out a else out)
def pw(a:Int)(n:Nat):Int:=yy 64 a n 1
theorem mN(f:Nat)(a out:Int):yy f a 0 out=out:=by cases f <;> rfl
theorem vj:∀(f g:Nat) (a:Int) (n:Nat) (out:Int),n < 2^f→n < 2^g→yy f a n out=yy g a n out
 | 0,g,a,n,out,h,_=>by
  obtain rfl:n=0:=by omega
  rw[mN,mN]
 |f+1,0,a,n,out,_,h=>by
  obtain rfl:n=0:=by omega
  rw[mN,mN]
 |f+1,g+1,a,n,out,h,h'=>by
  have e:(2:Nat)^(f+1)=2^f*2:=Nat.pow_succ 2 f
  have e':(2:Nat)^(g+1)=2^g*2:=Nat.pow_succ 2 g
  unfold yy
  split
  ·rfl
  ·exact vj f g _ _ _ (by omega) (by omega)
theorem EJ:∀(f:Nat) (a:Int) (n:Nat) (out:Int),Pn out→Pn (yy f a n out)
 | 0,_,_,_,h=>h
 |f+1,a,n,out,h=>by
  unfold yy
  split
  ·exact h
  ·refine EJ f _ _ _ ?_
   split
   ·exact mz _ _
   ·exact h
theorem Cd(a:Int)(n:Nat):Pn (pw a n):=EJ _ _ _ _ ⟨by omega,by omega⟩
abbrev dE.D:=Int×Int
def dE.st:dE.D→SA:=fun(a,b)=>([.d tu a,.d tu b],[])
abbrev dE.Y:=Int
abbrev dE.X:=Int
def dE.out:dE.X→aT:=fun x=>⟨.d tu x,[],[]⟩
def dE.add:dE.D→dE.Y→dE.X:=fun(a,b) y=>y
def dE.aq:dE.D→Prop:=fun(a,b)=>fh a∧fh b
def dE.F:dE.D→dE.Y:=fun(a,b)=>lj a b
noncomputable def dE.G:dX:=eX (P:=Tryz.prog) [eh.sg,dW.sg]
noncomputable def dE.an:ej:= {}
noncomputable def dE.A:= @cq Tryz.prog dE.G dE.an 0 Tryz.f129 _ dE.st
abbrev dE.Ok:=cr @dE.A dE.aq dE.add dE.F dE.out
theorem dE.eq{R:Type}(a:Int)(b:Int)(k:aT→Option R):dE.A (a,b) k=
 ab (eh.call (a,b)) fun x1=>
 ab (dW.call (x1.1,x1.2,(4611686018427377339:Int))) fun x2=>
 k (dE.out x2):=by kernel_rfl
theorem vO(n:Int):n / 18446744073709551616*18446744073709551616+n%18446744073709551616=n:=by omega
theorem dE.ok:dE.Ok:=by
 rintro⟨a,b⟩ ⟨ha,hb⟩
 have ha:fh a:=ha
 have hb:fh b:=hb
 obtain⟨m1,m2⟩:=sQ ha.1 (show a≤18446744073709551615 by have:=ha.2;omega) hb.1 (show b≤18446744073709551615 by have:=hb.2;omega)
 have n:(18446744073709551615:Int)*18446744073709551615=340282366920938463426481119284349108225:=rfl
 rw[n]at m2
 have p:dW.aq (a*b / 18446744073709551616,a*b%18446744073709551616,4611686018427377339):=⟨Or.inl rfl,by omega,by omega,by omega,by omega⟩
 rw[dE.eq,eh.run (d:=(a,b)) ⟨ha,hb⟩]
 simp only[aa,eh.add,eh.F]
 rw[dW.run p]
 simp only[aa,dW.add,dW.F,vO]
 rfl
noncomputable def dE.E:=Entry.cF [some tu,some tu] dE.st dE.aq dE.add dE.F dE.out
noncomputable def dE.call:dE.D→Option dE.X:=bC dE.E dE.st
theorem dE.run:bD dE.call dE.aq dE.add dE.F:=cz (cv [.d tu,.d tu] fun _=>by kernel_rfl)
noncomputable def dE.sg:SG Tryz.prog:=⟨129,aK,dE.E,.fn 0 (by kernel_rfl) dE.ok trivial⟩
abbrev bn.L0.D:=Int×Int×Int
def bn.L0.st:bn.L0.D→AS:=fun(a_2,n_2,outv)=>⟨([.d tu a_2,.d tu n_2,.undef,.undef,.undef,.d tu outv]++bu 14 []),[],(List.replicate 20 [])⟩
abbrev bn.L0.Y0:=Int
abbrev bn.L0.X0:=Int
def bn.L0.bM:bn.L0.X0→Exit×AS:=fun x=>(.exit 0,⟨(bu 5 ([.d tu x]++bu 14 [])),[],(List.replicate 20 [])⟩)
abbrev bn.L0.X:=bn.L0.X0
abbrev bn.L0.Y:=bn.L0.Y0
def bn.L0.out:bn.L0.X→Out (Exit×AS):=fun x=> .ok (bn.L0.bM x)
def bn.L0.add:bn.L0.D→bn.L0.Y→bn.L0.X:=fun(a_2,n_2,outv) y=>y
abbrev bn.D:=Int×Int
def bn.st:bn.D→SA:=fun(a,n)=>([.d tu a,.d tu n],[])
abbrev bn.Y:=Int
abbrev bn.X:=Int
def bn.out:bn.X→aT:=fun x=>⟨.d tu x,[],[]⟩
def bn.add:bn.D→bn.Y→bn.X:=fun(a,n) y=>y
def bn.L0.aq:bn.L0.D→Prop:=fun(a,n,o)=>fh a∧fh n∧Pn o
def bn.L0.F:bn.L0.D→bn.L0.Y:=fun(a,n,o)=>yy 64 a n.toNat o
def bn.aq:bn.D→Prop:=fun(a,n)=>fh a∧fh n
def bn.F:bn.D→bn.Y:=fun(a,n)=>pw a n.toNat
noncomputable def bn.G:dX:=eX (P:=Tryz.prog) [dE.sg]
noncomputable def bn.L0.E:=cf.cF bn.L0.st bn.L0.aq bn.L0.add bn.L0.F bn.L0.out
noncomputable def bn.L0.call:bn.L0.D→Option bn.L0.X:=dO bn.L0.E bn.L0.st
noncomputable def bn.an:ej:= {loops:=ky [(2,{bt:=[0,1,5]})],outs:=kr [(2,{bt:=[5]},{bt:=[4]})],gk:=kY [(2,bn.L0.E)]}
noncomputable def bn.A:= @cq Tryz.prog bn.G bn.an 0 Tryz.f76 _ bn.st
abbrev bn.Ok:=cr @bn.A bn.aq bn.add bn.F bn.out
noncomputable def bn.L0.R:= @cP Tryz.prog bn.G bn.an 0 Tryz.f76 0 _ bn.L0.st
abbrev bn.L0.Ok:=fg Tryz.prog bn.G bn.an 0 Tryz.f76 0 bn.L0.st bn.L0.aq bn.L0.add bn.L0.F bn.L0.out
theorem bn.L0.run:bD bn.L0.call bn.L0.aq bn.L0.add bn.L0.F:=fw (fk [.d tu,.d tu,.d tu] fun _=>by kernel_rfl)
theorem bn.L0.aF:gg @bn.L0.R bn.L0.st bn.L0.aq bn.L0.add bn.L0.F bn.L0.bM bn.L0.Ok:=gj
theorem bn.L0.step{R:Type}(a_2:Int)(n_2:Int)(outv:Int)(kn:AS→Option R)(kx:Exit→AS→Option R):bn.L0.R (a_2,n_2,outv) kn kx=
  aC ((na n_2 (0:Int))) (
   aC ((ia (ct .and .u64 n_2 (1:Int)) (1:Int))) (
    ab (dE.call (outv,a_2)) fun x1=>
    ab (dE.call (a_2,a_2)) fun x2=>
    kn (bn.L0.st (x2,(bW .u64 n_2 (1:Int)),x1))) (
    ab (dE.call (a_2,a_2)) fun x3=>
    kn (bn.L0.st (x3,(bW .u64 n_2 (1:Int)),outv)))) (
   kx (bn.L0.bM outv).1 (bn.L0.bM outv).2):=by kernel_rfl
theorem bn.eq{R:Type}(a:Int)(n:Int)(k:aT→Option R):bn.A (a,n) k=
 ab (bn.L0.call (a,n,(1:Int))) fun x4=>
 k (bn.out x4):=by kernel_rfl
theorem Jc{n:Int}(h:fh n):bW .u64 n 1=n / 2:=lF 1 (by rfl) (by omega)
theorem bn.L0.ok:bn.L0.Ok:=by
 refine bn.L0.aF (fun(a,n,o)=>n.toNat) ?_
 rintro⟨a,n,o⟩ ⟨ha,hn,ho⟩
 have ha:fh a:=ha
 have hn:fh n:=hn
 have ho:Pn o:=ho
 have n0:=hn.1
 have n1:=hn.2
 by_cases h:0 < n
 ·left
  have e:bn.L0.F (a,n,o)=bn.L0.F (lj a a,n / 2,if n%2=1 then lj o a else o):=by
   show yy 64 a n.toNat o=yy 64 (lj a a) (n / 2).toNat _
   rw[vj 64 65 a n.toNat o (by omega) (by omega)]
   have t1:(n / 2).toNat=n.toNat / 2:=by omega
   have t2:(n%2=1)=(n.toNat%2=1):=by apply propext;omega
   rw[t1]
   simp only[t2]
   show(if n.toNat=0 then o else _)=_
   rw[if_neg (by omega)]
  refine⟨(lj a a,n / 2,if n%2=1 then lj o a else o),⟨(mz a a).u,⟨by omega,by omega⟩,?_⟩,by show(n / 2).toNat < n.toNat;omega,?_,fun kn kx=> ?_⟩
  ·show Pn (if n%2=1 then lj o a else o)
   split
   ·exact mz _ _
   ·exact ho
  ·exact congrArg _ e.symm
  ·rw[bn.L0.step,dS h,Jc hn,HW n0 n1,dE.run (d:=(o,a)) ⟨ho.u,ha⟩,dE.run (d:=(a,a)) ⟨ha,ha⟩]
   by_cases h1:n%2=1
   ·rw[eu h1,if_pos h1];rfl
   ·rw[dR h1,if_neg h1];rfl
 ·right
  intro R kn kx
  obtain rfl:n=0:=by omega
  rw[bn.L0.step,cZ (by omega)]
  simp only[ae,bn.L0.add,bn.L0.F]
  rw[show yy 64 a (Int.toNat 0) o=o from mN _ _ _]
theorem bn.ok:bn.Ok:=by
 rintro⟨a,n⟩ ⟨ha,hn⟩
 rw[bn.eq,bn.L0.run (d:=(a,n,1)) ⟨ha,hn,by omega,by omega⟩]
 rfl
noncomputable def bn.E:=Entry.cF [some tu,some tu] bn.st bn.aq bn.add bn.F bn.out
noncomputable def bn.call:bn.D→Option bn.X:=bC bn.E bn.st
theorem bn.run:bD bn.call bn.aq bn.add bn.F:=cz (cv [.d tu,.d tu] fun _=>by kernel_rfl)
noncomputable def bn.sg:SG Tryz.prog:=⟨76,aK,bn.E,.fn 1 (by kernel_rfl) bn.ok (And.intro (.cF bn.L0.ok (by kernel_rfl)) trivial)⟩
set_option synthInstance.maxSize 5000
def lf(p:Int):Bool:=decide (0 < p∧p < 4611686018427377339) && decide (pw p 2305843009213688669=1)
def tk(p:Int):Int:=if lf p then p else 1
theorem E4(p:Int):Pn (tk p):=by
 unfold tk
 split
 ·rename_i h
  simp only[lf,Bool.and_eq_true,decide_eq_true_eq]at h
  exact⟨by omega,by omega⟩
 ·exact⟨by omega,by omega⟩
def nF(p k:Int):Int:=pw (tk p) (k%2305843009213688669).toNat
def gm(k:Int):Int:=nF 4 k
def rW(l:List Int):Int:=l.foldl (fun o p=>lj o (tk p)) 1
theorem F4(l:List Int)(o:Int)(h:Pn o):Pn (l.foldl (fun o p=>lj o (tk p)) o):=by
 induction l generalizing o with
 |nil=>exact h
 |cons p l ih=>exact ih _ (mz _ _)
theorem Cj(l:List Int):Pn (rW l):=F4 l 1 ⟨by omega,by omega⟩
abbrev cO.D:=Int
def cO.st:cO.D→SA:=fun p=>([.d tu p],[])
abbrev cO.Y:=Bool
abbrev cO.X:=Bool
def cO.out:cO.X→aT:=fun x=>⟨.d .bool x,[],[]⟩
def cO.add:cO.D→cO.Y→cO.X:=fun p y=>y
def cO.aq:cO.D→Prop:=fun p=>fh p
def cO.F:cO.D→cO.Y:=fun p=>lf p
noncomputable def cO.G:dX:=eX (P:=Tryz.prog) [bn.sg]
noncomputable def cO.an:ej:= {}
noncomputable def cO.A:= @cq Tryz.prog cO.G cO.an 0 Tryz.f34 _ cO.st
abbrev cO.Ok:=cr @cO.A cO.aq cO.add cO.F cO.out
theorem cO.eq{R:Type}(p:Int)(k:aT→Option R):cO.A p k=
  aC ((na p (0:Int))) (
   aC ((gM p (4611686018427377339:Int))) (
    ab (bn.call (p,(2305843009213688669:Int))) fun x1=>
    k (cO.out (ia x1 (1:Int)))) (
    k (cO.out false))) (
   k (cO.out false)):=by kernel_rfl
theorem cO.ok:cO.Ok:=by
 intro p hp
 have hp:fh p:=hp
 rw[cO.eq,bn.run (d:=(p,2305843009213688669)) ⟨hp,by constructor <;> decide⟩]
 simp only[aa,bn.add,bn.F,cO.add,cO.F,lf]
 by_cases h:0 < p
 ·rw[dS h,ah]
  by_cases h2:p < 4611686018427377339
  ·rw[bB h2,ah,aD ⟨h,h2⟩,Bool.true_and]
   rfl
  ·rw[bm h2,ae,bN (fun x=>h2 x.2),Bool.false_and]
 ·rw[cZ h,ae,bN (fun x=>h x.1),Bool.false_and]
noncomputable def cO.E:=Entry.cF [some tu] cO.st cO.aq cO.add cO.F cO.out
noncomputable def cO.call:cO.D→Option cO.X:=bC cO.E cO.st
theorem cO.run:bD cO.call cO.aq cO.add cO.F:=cz (cv [.d tu] fun _=>by kernel_rfl)
noncomputable def cO.sg:SG Tryz.prog:=⟨34,aK,cO.E,.fn 0 (by kernel_rfl) cO.ok trivial⟩
abbrev dn.D:=Int
def dn.st:dn.D→SA:=fun p=>([.d tu p],[])
abbrev dn.Y:=Int
abbrev dn.X:=Int
def dn.out:dn.X→aT:=fun x=>⟨.d tu x,[],[]⟩
def dn.add:dn.D→dn.Y→dn.X:=fun p y=>y
def dn.aq:dn.D→Prop:=fun p=>fh p
def dn.F:dn.D→dn.Y:=fun p=>tk p
noncomputable def dn.G:dX:=eX (P:=Tryz.prog) [cO.sg]
noncomputable def dn.an:ej:= {}
noncomputable def dn.A:= @cq Tryz.prog dn.G dn.an 0 Tryz.f121 _ dn.st
abbrev dn.Ok:=cr @dn.A dn.aq dn.add dn.F dn.out
theorem dn.eq{R:Type}(p:Int)(k:aT→Option R):dn.A p k=
  ab (cO.call p) fun x1=>
  aC (x1) (
   k (dn.out p)) (
   k (dn.out (1:Int))):=by kernel_rfl
theorem dn.ok:dn.Ok:=by
 intro p hp
 rw[dn.eq,cO.run (d:=p) hp]
 simp only[aa,cO.add,cO.F,dn.add,dn.F,tk]
 cases lf p <;> rfl
noncomputable def dn.E:=Entry.cF [some tu] dn.st dn.aq dn.add dn.F dn.out
noncomputable def dn.call:dn.D→Option dn.X:=bC dn.E dn.st
theorem dn.run:bD dn.call dn.aq dn.add dn.F:=cz (cv [.d tu] fun _=>by kernel_rfl)
noncomputable def dn.sg:SG Tryz.prog:=⟨121,aK,dn.E,.fn 0 (by kernel_rfl) dn.ok trivial⟩
abbrev dw.D:=Int×Int
def dw.st:dw.D→SA:=fun(p,kv)=>([.d tu p,.d tu kv],[])
abbrev dw.Y:=Int
abbrev dw.X:=Int
def dw.out:dw.X→aT:=fun x=>⟨.d tu x,[],[]⟩
def dw.add:dw.D→dw.Y→dw.X:=fun(p,kv) y=>y
def dw.aq:dw.D→Prop:=fun(p,k)=>fh p∧fh k
def dw.F:dw.D→dw.Y:=fun(p,k)=>nF p k
noncomputable def dw.G:dX:=eX (P:=Tryz.prog) [dn.sg,bn.sg]
noncomputable def dw.an:ej:= {}
noncomputable def dw.A:= @cq Tryz.prog dw.G dw.an 0 Tryz.f70 _ dw.st
abbrev dw.Ok:=cr @dw.A dw.aq dw.add dw.F dw.out
theorem dw.eq{R:Type}(p:Int)(kv:Int)(k:aT→Option R):dw.A (p,kv) k=
 ab (dn.call p) fun x1=>
 ab (bn.call (x1,(gd kv (2305843009213688669:Int)))) fun x2=>
 k (dw.out x2):=by kernel_rfl
theorem dw.ok:dw.Ok:=by
 rintro⟨p,k⟩ ⟨hp,hk⟩
 have hk:fh k:=hk
 have e:=ik (y:=2305843009213688669) hk.1
 have b:fh (k%2305843009213688669):=⟨by omega,by omega⟩
 rw[dw.eq,dn.run (d:=p) hp,e]
 simp only[aa,dn.add,dn.F]
 rw[bn.run (d:=(tk p,k%2305843009213688669)) ⟨(E4 p).u,b⟩]
 rfl
noncomputable def dw.E:=Entry.cF [some tu,some tu] dw.st dw.aq dw.add dw.F dw.out
noncomputable def dw.call:dw.D→Option dw.X:=bC dw.E dw.st
theorem dw.run:bD dw.call dw.aq dw.add dw.F:=cz (cv [.d tu,.d tu] fun _=>by kernel_rfl)
noncomputable def dw.sg:SG Tryz.prog:=⟨70,aK,dw.E,.fn 0 (by kernel_rfl) dw.ok trivial⟩
abbrev dj.D:=Int
def dj.st:dj.D→SA:=fun kv=>([.d tu kv],[])
abbrev dj.Y:=Int
abbrev dj.X:=Int
def dj.out:dj.X→aT:=fun x=>⟨.d tu x,[],[]⟩
def dj.add:dj.D→dj.Y→dj.X:=fun kv y=>y
def dj.aq:dj.D→Prop:=fun k=>fh k
def dj.F:dj.D→dj.Y:=fun k=>gm k
noncomputable def dj.G:dX:=eX (P:=Tryz.prog) [dw.sg]
noncomputable def dj.an:ej:= {}
noncomputable def dj.A:= @cq Tryz.prog dj.G dj.an 0 Tryz.f28 _ dj.st
abbrev dj.Ok:=cr @dj.A dj.aq dj.add dj.F dj.out
theorem dj.eq{R:Type}(kv:Int)(k:aT→Option R):dj.A kv k=
 ab (dw.call ((4:Int),kv)) fun x1=>
 k (dj.out x1):=by kernel_rfl
theorem dj.ok:dj.Ok:=by
 intro k hk
 rw[dj.eq,dw.run (d:=(4,k)) ⟨⟨by omega,by omega⟩,hk⟩]
 rfl
noncomputable def dj.E:=Entry.cF [some tu] dj.st dj.aq dj.add dj.F dj.out
noncomputable def dj.call:dj.D→Option dj.X:=bC dj.E dj.st
theorem dj.run:bD dj.call dj.aq dj.add dj.F:=cz (cv [.d tu] fun _=>by kernel_rfl)
noncomputable def dj.sg:SG Tryz.prog:=⟨28,aK,dj.E,.fn 0 (by kernel_rfl) dj.ok trivial⟩
abbrev dk.L0.D:=Int×Bs×Int×Int
def dk.L0.st:dk.L0.D→AS:=fun(outv,t6,t7,t8)=>⟨([.undef,.undef,.undef,.d tu outv,.undef,.undef,.d tU t6,.d ti t7,.d ti t8]++bu 9 []),[],(List.replicate 18 [])⟩
abbrev dk.L0.Y0:=Int
abbrev dk.L0.X0:=Int
def dk.L0.bM:dk.L0.X0→Exit×AS:=fun x=>(.exit 0,⟨([.undef,.undef,.undef,.d tu x]++bu 14 []),[],(List.replicate 18 [])⟩)
abbrev dk.L0.X:=dk.L0.X0
abbrev dk.L0.Y:=dk.L0.Y0
def dk.L0.out:dk.L0.X→Out (Exit×AS):=fun x=> .ok (dk.L0.bM x)
def dk.L0.add:dk.L0.D→dk.L0.Y→dk.L0.X:=fun(outv,t6,t7,t8) y=>y
abbrev dk.D:=Bs
def dk.st:dk.D→SA:=fun l=>([.d tU l],[])
abbrev dk.Y:=Int
abbrev dk.X:=Int
def dk.out:dk.X→aT:=fun x=>⟨.d tu x,[],[]⟩
def dk.add:dk.D→dk.Y→dk.X:=fun l y=>y
def dk.L0.aq:dk.L0.D→Prop:=fun(o,l,n,i)=>Pn o∧(∀x∈l,fh x)∧l.length≤1000000000∧n=l.length∧∃k:Nat,k≤l.length∧i=k
def dk.L0.F:dk.L0.D→dk.L0.Y:=fun(o,l,n,i)=>(l.drop i.toNat).foldl (fun o p=>lj o (tk p)) o
def dk.aq:dk.D→Prop:=fun l=>(∀x∈l,fh x)∧l.length≤1000000000
def dk.F:dk.D→dk.Y:=fun l=>rW l
noncomputable def dk.G:dX:=eX (P:=Tryz.prog) [dn.sg,dE.sg]
noncomputable def dk.L0.E:=cf.cF dk.L0.st dk.L0.aq dk.L0.add dk.L0.F dk.L0.out
noncomputable def dk.L0.call:dk.L0.D→Option dk.L0.X:=dO dk.L0.E dk.L0.st
noncomputable def dk.an:ej:= {loops:=ky [(3,{bt:=[3,6,7,8]})],outs:=kr [(3,{bt:=[3]},{bt:=[2]})],gk:=kY [(3,dk.L0.E)]}
noncomputable def dk.A:= @cq Tryz.prog dk.G dk.an 0 Tryz.f165 _ dk.st
abbrev dk.Ok:=cr @dk.A dk.aq dk.add dk.F dk.out
noncomputable def dk.L0.R:= @cP Tryz.prog dk.G dk.an 0 Tryz.f165 0 _ dk.L0.st
abbrev dk.L0.Ok:=fg Tryz.prog dk.G dk.an 0 Tryz.f165 0 dk.L0.st dk.L0.aq dk.L0.add dk.L0.F dk.L0.out
theorem dk.L0.run:bD dk.L0.call dk.L0.aq dk.L0.add dk.L0.F:=fw (fk [.d tu,.d tU,.d ti,.d ti] fun _=>by kernel_rfl)
theorem dk.L0.aF:gg @dk.L0.R dk.L0.st dk.L0.aq dk.L0.add dk.L0.F dk.L0.bM dk.L0.Ok:=gj
theorem dk.L0.step{R:Type}(outv:Int)(t6:Bs)(t7:Int)(t8:Int)(kn:AS→Option R)(kx:Exit→AS→Option R):dk.L0.R (outv,t6,t7,t8) kn kx=
  aC ((gM t8 t7)) (
   aC (dY t8 (((List.length t6):Nat):Int)) (
   ab (dn.call (nth tu t6 (Int.toNat t8))) fun x1=>
   ab (dE.call (outv,x1)) fun x2=>
   kn (dk.L0.st (x2,t6,t7,(bw .i64 t8 (1:Int))))) none) (
   kx (dk.L0.bM outv).1 (dk.L0.bM outv).2):=by kernel_rfl
theorem dk.eq{R:Type}(l:Bs)(k:aT→Option R):dk.A l k=
 ab (dk.L0.call ((1:Int),l,(((List.length l):Nat):Int),(0:Int))) fun x3=>
 k (dk.out x3):=by kernel_rfl
theorem dk.L0.ok:dk.L0.Ok:=by
 refine dk.L0.aF (fun(o,l,n,i)=>l.length - i.toNat) ?_
 rintro⟨o,l,n,i⟩ ⟨ho,hl,hb,rfl,k,hk,rfl⟩
 have ho:Pn o:=ho
 have hb:l.length≤1000000000:=hb
 have hk:k≤l.length:=hk
 by_cases h:k < l.length
 ·left
  have hx:=hl _ (List.getElem_mem h)
  have n1:nth (.int .u64) l k=l[k]:=dT (t:= .int .u64) h
  refine⟨(lj o (tk l[k]),l,l.length,((k+1:Nat):Int)),⟨mz _ _,hl,hb,rfl,k+1,by omega,rfl⟩,by simp only[Int.toNat_natCast];omega,?_,fun kn kx=> ?_⟩
  ·simp only[dk.L0.add,dk.L0.F,Int.toNat_natCast]
   rw[List.drop_eq_getElem_cons h]
   rfl
  ·rw[dk.L0.step]
   simp(disch:=omega) only[↓S1,↓if_pos,↓if_neg,if_pos,if_neg,if_true,if_false,S2,n1]
   rw[dn.run (d:=l[k]) hx]
   simp only[aa,dn.add,dn.F]
   rw[dE.run (d:=(o,tk l[k])) ⟨ho.u,(E4 _).u⟩]
   rfl
 ·right
  obtain rfl:k=l.length:=by omega
  intro R kn kx
  rw[dk.L0.step]
  simp(disch:=omega) only[↓S1,↓if_pos,↓if_neg,if_pos,if_neg,if_true,if_false,S2,dk.L0.add,dk.L0.F,List.drop_length]
  rfl
theorem dk.ok:dk.Ok:=by
 rintro l ⟨hl,hb⟩
 rw[dk.eq,dk.L0.run (d:=(1,l,l.length,0)) ⟨⟨by omega,by omega⟩,hl,hb,rfl,0,by omega,rfl⟩]
 rfl
noncomputable def dk.E:=Entry.cF [some tU] dk.st dk.aq dk.add dk.F dk.out
noncomputable def dk.call:dk.D→Option dk.X:=bC dk.E dk.st
theorem dk.run:bD dk.call dk.aq dk.add dk.F:=cz (cv [.d tU] fun _=>by kernel_rfl)
noncomputable def dk.sg:SG Tryz.prog:=⟨165,aK,dk.E,.fn 1 (by kernel_rfl) dk.ok (And.intro (.cF dk.L0.ok (by kernel_rfl)) trivial)⟩
abbrev fJ.D:=Int×Int
def fJ.st:fJ.D→SA:=fun(p,q)=>([.d tu p,.d tu q],[])
abbrev fJ.Y:=Int
abbrev fJ.X:=Int
def fJ.out:fJ.X→aT:=fun x=>⟨.d tu x,[],[]⟩
def fJ.add:fJ.D→fJ.Y→fJ.X:=fun(p,q) y=>y
def fJ.aq:fJ.D→Prop:=fun(p,q)=>fh p∧fh q
def fJ.F:fJ.D→fJ.Y:=fun(p,q)=>rW [p,q]
noncomputable def fJ.G:dX:=eX (P:=Tryz.prog) [dk.sg]
noncomputable def fJ.an:ej:= {}
noncomputable def fJ.A:= @cq Tryz.prog fJ.G fJ.an 0 Tryz.f130 _ fJ.st
abbrev fJ.Ok:=cr @fJ.A fJ.aq fJ.add fJ.F fJ.out
theorem fJ.eq{R:Type}(p:Int)(q:Int)(k:aT→Option R):fJ.A (p,q) k=
 ab (dk.call [p,q]) fun x1=>
 k (fJ.out x1):=by kernel_rfl
theorem fJ.ok:fJ.Ok:=by
 rintro⟨p,q⟩ ⟨hp,hq⟩
 have h:dk.aq [p,q]:=⟨by intro x hx;simp only[List.mem_cons,List.not_mem_nil,or_false]at hx;rcases hx with rfl | rfl <;> assumption,by simp only[List.length_cons,List.length_nil];omega⟩
 rw[fJ.eq,dk.run h]
 rfl
noncomputable def fJ.E:=Entry.cF [some tu,some tu] fJ.st fJ.aq fJ.add fJ.F fJ.out
noncomputable def fJ.call:fJ.D→Option fJ.X:=bC fJ.E fJ.st
theorem fJ.run:bD fJ.call fJ.aq fJ.add fJ.F:=cz (cv [.d tu,.d tu] fun _=>by kernel_rfl)
noncomputable def fJ.sg:SG Tryz.prog:=⟨130,aK,fJ.E,.fn 0 (by kernel_rfl) fJ.ok trivial⟩
set_option synthInstance.maxSize 5000
def Qn(x:Int):Prop:=0≤x∧x < 2305843009213688669
theorem Qn.u{x:Int}(h:Qn x):fh x:=⟨h.1,by have:=h.2;omega⟩
def Fm(a:Int):Int:=a%2305843009213688669
theorem ye(a:Int):Qn (Fm a):=⟨Int.emod_nonneg _ (by omega),Int.emod_lt_of_pos _ (by omega)⟩
def DD(a b:Int):Int:=(Fm a+Fm b)%2305843009213688669
def A5(a b:Int):Int:=Fm a*Fm b%2305843009213688669
def gV(h:List Int):Int:=h.foldl (fun n b=>(n*256+b)%2305843009213688668) 0+1
def xr.b(n:Int):Prop:=0≤n∧n < 2305843009213688668
theorem uK(h:List Int)(n:Int)(hn:xr.b n):xr.b (h.foldl (fun n b=>(n*256+b)%2305843009213688668) n):=by
 induction h generalizing n with
 |nil=>exact hn
 |cons p l ih=>exact ih _ ⟨Int.emod_nonneg _ (by omega),Int.emod_lt_of_pos _ (by omega)⟩
theorem nR(h:List Int):0 < gV h∧gV h < 2305843009213688669:=by
 have:=uK h 0 ⟨by omega,by omega⟩
 have h1:=this.1
 have h2:=this.2
 unfold gV
 omega
theorem xw(a b:Int):Qn (DD a b):=⟨Int.emod_nonneg _ (by omega),Int.emod_lt_of_pos _ (by omega)⟩
theorem xY(a b:Int):Qn (A5 a b):=⟨Int.emod_nonneg _ (by omega),Int.emod_lt_of_pos _ (by omega)⟩
abbrev dz.D:=Int
def dz.st:dz.D→SA:=fun a=>([.d tu a],[])
abbrev dz.Y:=Bool
abbrev dz.X:=Bool
def dz.out:dz.X→aT:=fun x=>⟨.d .bool x,[],[]⟩
def dz.add:dz.D→dz.Y→dz.X:=fun a y=>y
def dz.aq:dz.D→Prop:=fun _=>True
def dz.F:dz.D→dz.Y:=fun a=>gM a 2305843009213688669
noncomputable def dz.G:dX:=eX (P:=Tryz.prog) []
noncomputable def dz.an:ej:= {}
noncomputable def dz.A:= @cq Tryz.prog dz.G dz.an 0 Tryz.f126 _ dz.st
abbrev dz.Ok:=cr @dz.A dz.aq dz.add dz.F dz.out
theorem dz.eq{R:Type}(a:Int)(k:aT→Option R):dz.A a k=
 k (dz.out (gM a (2305843009213688669:Int))):=by kernel_rfl
theorem dz.ok:dz.Ok:=by
 intro a _
 rw[dz.eq]
 rfl
noncomputable def dz.E:=Entry.cF [some tu] dz.st dz.aq dz.add dz.F dz.out
noncomputable def dz.call:dz.D→Option dz.X:=bC dz.E dz.st
theorem dz.run:bD dz.call dz.aq dz.add dz.F:=cz (cv [.d tu] fun _=>by kernel_rfl)
noncomputable def dz.sg:SG Tryz.prog:=⟨126,aK,dz.E,.fn 0 (by kernel_rfl) dz.ok trivial⟩
abbrev jJ.D:=Int
def jJ.st:jJ.D→SA:=fun a=>([.d tu a],[])
abbrev jJ.Y:=Int
abbrev jJ.X:=Int
def jJ.out:jJ.X→aT:=fun x=>⟨.d tu x,[],[]⟩
def jJ.add:jJ.D→jJ.Y→jJ.X:=fun a y=>y
def jJ.aq:jJ.D→Prop:=fun a=>fh a
def jJ.F:jJ.D→jJ.Y:=fun a=>Fm a
noncomputable def jJ.G:dX:=eX (P:=Tryz.prog) []
noncomputable def jJ.an:ej:= {}
noncomputable def jJ.A:= @cq Tryz.prog jJ.G jJ.an 0 Tryz.f159 _ jJ.st
abbrev jJ.Ok:=cr @jJ.A jJ.aq jJ.add jJ.F jJ.out
theorem jJ.eq{R:Type}(a:Int)(k:aT→Option R):jJ.A a k=
 k (jJ.out (gd a (2305843009213688669:Int))):=by kernel_rfl
theorem jJ.ok:jJ.Ok:=by
 intro a ha
 rw[jJ.eq,ik ha.1]
 rfl
noncomputable def jJ.E:=Entry.cF [some tu] jJ.st jJ.aq jJ.add jJ.F jJ.out
noncomputable def jJ.call:jJ.D→Option jJ.X:=bC jJ.E jJ.st
theorem jJ.run:bD jJ.call jJ.aq jJ.add jJ.F:=cz (cv [.d tu] fun _=>by kernel_rfl)
noncomputable def jJ.sg:SG Tryz.prog:=⟨159,aK,jJ.E,.fn 0 (by kernel_rfl) jJ.ok trivial⟩
abbrev fb.D:=Int×Int
def fb.st:fb.D→SA:=fun(a,b)=>([.d tu a,.d tu b],[])
abbrev fb.Y:=Int
abbrev fb.X:=Int
def fb.out:fb.X→aT:=fun x=>⟨.d tu x,[],[]⟩
def fb.add:fb.D→fb.Y→fb.X:=fun(a,b) y=>y
def fb.aq:fb.D→Prop:=fun(a,b)=>Qn a∧Qn b
def fb.F:fb.D→fb.Y:=fun(a,b)=>(a+b)%2305843009213688669
noncomputable def fb.G:dX:=eX (P:=Tryz.prog) []
noncomputable def fb.an:ej:= {}
noncomputable def fb.A:= @cq Tryz.prog fb.G fb.an 0 Tryz.f160 _ fb.st
abbrev fb.Ok:=cr @fb.A fb.aq fb.add fb.F fb.out
theorem fb.eq{R:Type}(a:Int)(b:Int)(k:aT→Option R):fb.A (a,b) k=
 k (fb.out (gd (bw .u64 a b) (2305843009213688669:Int))):=by kernel_rfl
theorem fb.ok:fb.Ok:=by
 rintro⟨a,b⟩ ⟨ha,hb⟩
 have ha:Qn a:=ha
 have hb:Qn b:=hb
 obtain⟨h1,h2⟩:=ha
 obtain⟨h3,h4⟩:=hb
 have e:bw .u64 a b=a+b:=by rw[iZ];omega
 rw[fb.eq,e,ik (by omega)]
 rfl
noncomputable def fb.E:=Entry.cF [some tu,some tu] fb.st fb.aq fb.add fb.F fb.out
noncomputable def fb.call:fb.D→Option fb.X:=bC fb.E fb.st
theorem fb.run:bD fb.call fb.aq fb.add fb.F:=cz (cv [.d tu,.d tu] fun _=>by kernel_rfl)
noncomputable def fb.sg:SG Tryz.prog:=⟨160,aK,fb.E,.fn 0 (by kernel_rfl) fb.ok trivial⟩
abbrev dQ.D:=Int×Int
def dQ.st:dQ.D→SA:=fun(a,b)=>([.d tu a,.d tu b],[])
abbrev dQ.Y:=Int
abbrev dQ.X:=Int
def dQ.out:dQ.X→aT:=fun x=>⟨.d tu x,[],[]⟩
def dQ.add:dQ.D→dQ.Y→dQ.X:=fun(a,b) y=>y
def dQ.aq:dQ.D→Prop:=fun(a,b)=>Qn a∧Qn b
def dQ.F:dQ.D→dQ.Y:=fun(a,b)=>a*b%2305843009213688669
noncomputable def dQ.G:dX:=eX (P:=Tryz.prog) [eh.sg,dW.sg]
noncomputable def dQ.an:ej:= {}
noncomputable def dQ.A:= @cq Tryz.prog dQ.G dQ.an 0 Tryz.f161 _ dQ.st
abbrev dQ.Ok:=cr @dQ.A dQ.aq dQ.add dQ.F dQ.out
theorem dQ.eq{R:Type}(a:Int)(b:Int)(k:aT→Option R):dQ.A (a,b) k=
 ab (eh.call (a,b)) fun x1=>
 ab (dW.call (x1.1,x1.2,(2305843009213688669:Int))) fun x2=>
 k (dQ.out x2):=by kernel_rfl
theorem dQ.ok:dQ.Ok:=by
 rintro⟨a,b⟩ ⟨ha,hb⟩
 have ha:Qn a:=ha
 have hb:Qn b:=hb
 obtain⟨m1,m2⟩:=sQ ha.1 (show a≤18446744073709551615 by have:=ha.2;omega) hb.1 (show b≤18446744073709551615 by have:=hb.2;omega)
 have n:(18446744073709551615:Int)*18446744073709551615=340282366920938463426481119284349108225:=rfl
 rw[n]at m2
 have p:dW.aq (a*b / 18446744073709551616,a*b%18446744073709551616,2305843009213688669):=⟨Or.inr (Or.inl rfl),by omega,by omega,by omega,by omega⟩
 rw[dQ.eq,eh.run (d:=(a,b)) ⟨ha.u,hb.u⟩]
 simp only[aa,eh.add,eh.F]
 rw[dW.run p]
 simp only[aa,dW.add,dW.F,vO]
 rfl
noncomputable def dQ.E:=Entry.cF [some tu,some tu] dQ.st dQ.aq dQ.add dQ.F dQ.out
noncomputable def dQ.call:dQ.D→Option dQ.X:=bC dQ.E dQ.st
theorem dQ.run:bD dQ.call dQ.aq dQ.add dQ.F:=cz (cv [.d tu,.d tu] fun _=>by kernel_rfl)
noncomputable def dQ.sg:SG Tryz.prog:=⟨161,aK,dQ.E,.fn 0 (by kernel_rfl) dQ.ok trivial⟩
abbrev fW.D:=Int×Int
def fW.st:fW.D→SA:=fun(a,b)=>([.d tu a,.d tu b],[])
abbrev fW.Y:=Int
abbrev fW.X:=Int
def fW.out:fW.X→aT:=fun x=>⟨.d tu x,[],[]⟩
def fW.add:fW.D→fW.Y→fW.X:=fun(a,b) y=>y
def fW.aq:fW.D→Prop:=fun(a,b)=>fh a∧fh b
def fW.F:fW.D→fW.Y:=fun(a,b)=>DD a b
noncomputable def fW.G:dX:=eX (P:=Tryz.prog) [jJ.sg,fb.sg]
noncomputable def fW.an:ej:= {}
noncomputable def fW.A:= @cq Tryz.prog fW.G fW.an 0 Tryz.f122 _ fW.st
abbrev fW.Ok:=cr @fW.A fW.aq fW.add fW.F fW.out
theorem fW.eq{R:Type}(a:Int)(b:Int)(k:aT→Option R):fW.A (a,b) k=
 ab (jJ.call a) fun x1=>
 ab (jJ.call b) fun x2=>
 ab (fb.call (x1,x2)) fun x3=>
 k (fW.out x3):=by kernel_rfl
theorem fW.ok:fW.Ok:=by
 rintro⟨a,b⟩ ⟨ha,hb⟩
 rw[fW.eq,jJ.run (d:=a) ha,jJ.run (d:=b) hb]
 simp only[aa,jJ.add,jJ.F]
 rw[fb.run (d:=(Fm a,Fm b)) ⟨ye a,ye b⟩]
 rfl
noncomputable def fW.E:=Entry.cF [some tu,some tu] fW.st fW.aq fW.add fW.F fW.out
noncomputable def fW.call:fW.D→Option fW.X:=bC fW.E fW.st
theorem fW.run:bD fW.call fW.aq fW.add fW.F:=cz (cv [.d tu,.d tu] fun _=>by kernel_rfl)
noncomputable def fW.sg:SG Tryz.prog:=⟨122,aK,fW.E,.fn 0 (by kernel_rfl) fW.ok trivial⟩
abbrev fN.D:=Int×Int
def fN.st:fN.D→SA:=fun(a,b)=>([.d tu a,.d tu b],[])
abbrev fN.Y:=Int
abbrev fN.X:=Int
def fN.out:fN.X→aT:=fun x=>⟨.d tu x,[],[]⟩
def fN.add:fN.D→fN.Y→fN.X:=fun(a,b) y=>y
def fN.aq:fN.D→Prop:=fun(a,b)=>fh a∧fh b
def fN.F:fN.D→fN.Y:=fun(a,b)=>A5 a b
noncomputable def fN.G:dX:=eX (P:=Tryz.prog) [jJ.sg,dQ.sg]
noncomputable def fN.an:ej:= {}
noncomputable def fN.A:= @cq Tryz.prog fN.G fN.an 0 Tryz.f123 _ fN.st
abbrev fN.Ok:=cr @fN.A fN.aq fN.add fN.F fN.out
theorem fN.eq{R:Type}(a:Int)(b:Int)(k:aT→Option R):fN.A (a,b) k=
 ab (jJ.call a) fun x1=>
 ab (jJ.call b) fun x2=>
 ab (dQ.call (x1,x2)) fun x3=>
 k (fN.out x3):=by kernel_rfl
theorem fN.ok:fN.Ok:=by
 rintro⟨a,b⟩ ⟨ha,hb⟩
 rw[fN.eq,jJ.run (d:=a) ha,jJ.run (d:=b) hb]
 simp only[aa,jJ.add,jJ.F]
 rw[dQ.run (d:=(Fm a,Fm b)) ⟨ye a,ye b⟩]
 rfl
noncomputable def fN.E:=Entry.cF [some tu,some tu] fN.st fN.aq fN.add fN.F fN.out
noncomputable def fN.call:fN.D→Option fN.X:=bC fN.E fN.st
theorem fN.run:bD fN.call fN.aq fN.add fN.F:=cz (cv [.d tu,.d tu] fun _=>by kernel_rfl)
noncomputable def fN.sg:SG Tryz.prog:=⟨123,aK,fN.E,.fn 0 (by kernel_rfl) fN.ok trivial⟩
abbrev bG.L0.D:=Int×Bs×Int
def bG.L0.st:bG.L0.D→AS:=fun(n,t6,t7)=>⟨([.undef,.undef,.undef,.d tu n,.undef,.undef,.d tH t6,.d ti t7]++bu 13 []),[],(List.replicate 21 [])⟩
abbrev bG.L0.Y0:=Int
abbrev bG.L0.X0:=Int
def bG.L0.bM:bG.L0.X0→Exit×AS:=fun x=>(.exit 0,⟨([.undef,.undef,.undef,.d tu x]++bu 17 []),[],(List.replicate 21 [])⟩)
abbrev bG.L0.X:=bG.L0.X0
abbrev bG.L0.Y:=bG.L0.Y0
def bG.L0.out:bG.L0.X→Out (Exit×AS):=fun x=> .ok (bG.L0.bM x)
def bG.L0.add:bG.L0.D→bG.L0.Y→bG.L0.X:=fun(n,t6,t7) y=>y
abbrev bG.D:=Bs
def bG.st:bG.D→SA:=fun h=>([.d tH h],[])
abbrev bG.Y:=Int
abbrev bG.X:=Int
def bG.out:bG.X→aT:=fun x=>⟨.d tu x,[],[]⟩
def bG.add:bG.D→bG.Y→bG.X:=fun h y=>y
def bG.L0.aq:bG.L0.D→Prop:=fun(n,h,i)=>xr.b n∧h.length=32∧Bytes h∧∃k:Nat,k≤32∧i=k
def bG.L0.F:bG.L0.D→bG.L0.Y:=fun(n,h,i)=>(h.drop i.toNat).foldl (fun n b=>(n*256+b)%2305843009213688668) n
def bG.aq:bG.D→Prop:=fun h=>h.length=32∧Bytes h
def bG.F:bG.D→bG.Y:=fun h=>gV h
noncomputable def bG.G:dX:=eX (P:=Tryz.prog) [dW.sg]
noncomputable def bG.L0.E:=cf.cF bG.L0.st bG.L0.aq bG.L0.add bG.L0.F bG.L0.out
noncomputable def bG.L0.call:bG.L0.D→Option bG.L0.X:=dO bG.L0.E bG.L0.st
noncomputable def bG.an:ej:= {loops:=ky [(3,{bt:=[3,6,7]})],outs:=kr [(3,{bt:=[3]},{bt:=[2]})],gk:=kY [(3,bG.L0.E)]}
noncomputable def bG.A:= @cq Tryz.prog bG.G bG.an 0 Tryz.f99 _ bG.st
abbrev bG.Ok:=cr @bG.A bG.aq bG.add bG.F bG.out
noncomputable def bG.L0.R:= @cP Tryz.prog bG.G bG.an 0 Tryz.f99 0 _ bG.L0.st
abbrev bG.L0.Ok:=fg Tryz.prog bG.G bG.an 0 Tryz.f99 0 bG.L0.st bG.L0.aq bG.L0.add bG.L0.F bG.L0.out
theorem bG.L0.run:bD bG.L0.call bG.L0.aq bG.L0.add bG.L0.F:=fw (fk [.d tu,.d tB,.d ti] fun _=>by kernel_rfl)
theorem bG.L0.aF:gg @bG.L0.R bG.L0.st bG.L0.aq bG.L0.add bG.L0.F bG.L0.bM bG.L0.Ok:=gj
theorem bG.L0.step{R:Type}(n:Int)(t6:Bs)(t7:Int)(kn:AS→Option R)(kx:Exit→AS→Option R):bG.L0.R (n,t6,t7) kn kx=
  aC ((gM t7 (32:Int))) (
   aC (dY t7 (32:Int)) (
   ab (dW.call ((bW .u64 n (56:Int)),(ct .or .u64 (jC .u64 n (8:Int)) (dI .u64 (nth tb t6 (Int.toNat t7)))),(2305843009213688668:Int))) fun x1=>
   kn (bG.L0.st (x1,t6,(bw .i64 t7 (1:Int))))) none) (
   kx (bG.L0.bM n).1 (bG.L0.bM n).2):=by kernel_rfl
theorem bG.eq{R:Type}(h:Bs)(k:aT→Option R):bG.A h k=
 ab (bG.L0.call ((0:Int),h,(0:Int))) fun x2=>
 k (bG.out (bw .u64 x2 (1:Int))):=by kernel_rfl
theorem y2{n b:Int}(hn:xr.b n)(hb:vS b):bW .u64 n 56*18446744073709551616+ct .or .u64 (jC .u64 n 8) (dI .u64 b)=n*256+b∧fh (bW .u64 n 56)∧fh (ct .or .u64 (jC .u64 n 8) (dI .u64 b)):=by
 obtain⟨h1,h2⟩:=hn
 obtain⟨h3,h4⟩:=hb
 have p56:(2:Int)^56=72057594037927936:=rfl
 have p8:(2:Int)^8=256:=rfl
 have e:dI .u64 b=b:=by rw[AT];omega
 rw[lF 56 (by rfl) (by omega),lE 8 (by rfl) (by omega),p56,p8,e,rA 8 256 rfl (by omega) (by omega) (by omega) (by omega) (by omega) (by omega)]
 exact⟨by omega,⟨by omega,by omega⟩,by omega,by omega⟩
theorem bG.L0.ok:bG.L0.Ok:=by
 refine bG.L0.aF (fun(n,h,i)=>32 - i.toNat) ?_
 rintro⟨n,h,i⟩ ⟨hn,hl,hb,k,hk,rfl⟩
 have hn:xr.b n:=hn
 have hl:h.length=32:=hl
 have hb:Bytes h:=hb
 by_cases hlt:k < 32
 ·left
  have hx:vS (h[k]'(by omega)):=hb _ (List.getElem_mem _)
  have n1:nth (.int .u8) h k=h[k]'(by omega):=dT (t:= .int .u8) (by omega)
  obtain⟨d1,d2,d3⟩:=y2 hn hx
  refine⟨((n*256+h[k]'(by omega))%2305843009213688668,h,((k+1:Nat):Int)),⟨⟨by omega,by omega⟩,hl,hb,k+1,by omega,rfl⟩,by simp only[Int.toNat_natCast];omega,?_,fun kn kx=> ?_⟩
  ·simp only[bG.L0.add,bG.L0.F,Int.toNat_natCast]
   rw[List.drop_eq_getElem_cons (by omega:k < h.length)]
   rfl
  ·rw[bG.L0.step]
   simp(disch:=omega) only[↓S1,↓if_pos,↓if_neg,if_pos,if_neg,if_true,if_false,S2,n1]
   rw[dW.run (d:=(_,_,2305843009213688668)) ⟨Or.inr (Or.inr rfl),d2.1,d2.2,d3.1,d3.2⟩]
   simp only[aa,dW.add,dW.F,d1]
 ·right
  obtain rfl:k=32:=by omega
  intro R kn kx
  rw[bG.L0.step]
  simp(disch:=omega) only[↓S1,↓if_pos,↓if_neg,if_pos,if_neg,if_true,if_false,S2,bG.L0.add,bG.L0.F]
  rw[List.drop_of_length_le (by omega)]
  rfl
theorem bG.ok:bG.Ok:=by
 rintro h ⟨hl,hb⟩
 have e:=uK h 0 ⟨by omega,by omega⟩
 have h1:=e.1
 have h2:=e.2
 rw[bG.eq,bG.L0.run (d:=(0,h,0)) ⟨⟨by omega,by omega⟩,hl,hb,0,by omega,rfl⟩]
 simp only[aa,bG.L0.add,bG.L0.F,bG.add,bG.F,gV,Int.toNat_zero,List.drop_zero]
 revert h1 h2
 generalize h.foldl (fun n b=>(n*256+b)%2305843009213688668) 0=m
 intro h1 h2
 have e:bw .u64 m 1=m+1:=by rw[iZ];omega
 rw[e]
noncomputable def bG.E:=Entry.cF [some tH] bG.st bG.aq bG.add bG.F bG.out
noncomputable def bG.call:bG.D→Option bG.X:=bC bG.E bG.st
theorem bG.run:bD bG.call bG.aq bG.add bG.F:=cz (cv [.d tB] fun _=>by kernel_rfl)
noncomputable def bG.sg:SG Tryz.prog:=⟨99,aK,bG.E,.fn 1 (by kernel_rfl) bG.ok (And.intro (.cF bG.L0.ok (by kernel_rfl)) trivial)⟩
set_option synthInstance.maxSize 5000
theorem uq(n:Int): [dI .u8 (bW .u64 n 56),dI .u8 (bW .u64 n 48),dI .u8 (bW .u64 n 40),dI .u8 (bW .u64 n 32),dI .u8 (bW .u64 n 24),dI .u8 (bW .u64 n 16),dI .u8 (bW .u64 n 8),dI .u8 (bW .u64 n 0)]=iy n:=Ax n
theorem gG{α:Type}{l:List α}{n:Nat}(h:l.length=n):cut l 0 n=l:=by subst h;simp[cut]
theorem E1{n:ByteArray}{a b c:List Int}(hn:n.size≤100)(ha:a.length≤1000000)(hb:b.length≤1000000)(hc:c.length≤1000000):cG.aq (n,[a,b,c]):=by
 show(s9 _ [a,b,c]).length≤_
 rw[s9]
 simp only[jb,List.flatMap_cons,List.flatMap_nil,List.length_append,cM,ig,List.length_nil]
 omega
theorem vJ{n:ByteArray}{a b:List Int}(hn:n.size≤100)(ha:a.length≤1000000)(hb:b.length≤1000000):cG.aq (n,[a,b]):=by
 show(s9 _ [a,b]).length≤_
 rw[s9]
 simp only[jb,List.flatMap_cons,List.flatMap_nil,List.length_append,cM,ig,List.length_nil]
 omega
theorem Ae{n:ByteArray}{a:List Int}(hn:n.size≤100)(ha:a.length≤1000000):cG.aq (n,[a]):=by
 show(s9 _ [a]).length≤_
 rw[s9]
 simp only[jb,List.flatMap_cons,List.flatMap_nil,List.length_append,cM,ig,List.length_nil]
 omega
def Sm(m:List Int):Prop:=m.length=32∧Bytes m
theorem HE(b:List Int):Sm (Hz b):=⟨Bk b,CE b⟩
theorem vH(n:List Int)(ps:List (List Int)):Sm (tag n ps):=HE _
def yn(n:ByteArray)(ps:List (List Int)):List Int:=tag (bA n) ps
def Ii:ByteArray:=⟨#[115,105,103]⟩
def Hl:ByteArray:=⟨#[110,111,110,99,101]⟩
def uz(r p:Int)(m:List Int):Int:=gV (yn Ii [iy r,iy p,m])
theorem DP(r p:Int)(m:List Int):Qn (uz r p m):=by
 have:=nR (yn Ii [iy r,iy p,m])
 exact⟨by unfold uz;omega,by unfold uz;omega⟩
def Jk(s:Sg):Prop:=fh s.1∧fh s.2.1
def BF(k nonce:Int)(m:List Int)(t:Int):Sg:=
 (rW [gm nonce,t],DD nonce (A5 (uz (rW [gm nonce,t]) (gm k) m) k),())
def Hn(k:Int)(m:List Int):Int:=gV (yn Hl [iy k,m])
def pC(k:Int)(m:List Int):Sg:=if k < 2305843009213688669∧k≠0 then BF k (Hn k m) m 1 else(0,0,())
abbrev dp.D:=Int
def dp.st:dp.D→SA:=fun n=>([.d tu n],[])
abbrev dp.Y:=Bs
abbrev dp.X:=Bs
def dp.out:dp.X→aT:=fun x=>⟨.d tB x,[],[]⟩
def dp.add:dp.D→dp.Y→dp.X:=fun n y=>y
def dp.aq:dp.D→Prop:=fun _=>True
def dp.F:dp.D→dp.Y:=fun n=>iy n
noncomputable def dp.G:dX:=eX (P:=Tryz.prog) []
noncomputable def dp.an:ej:= {loops:=ky [(3,{bt:=[0,3,7,8],sites:=[5]})],outs:=kr [(3,{bt:=[3],sites:=[5]},{bt:=[2],sites:=[5]})],res:=[some tB]}
noncomputable def dp.A:= @cq Tryz.prog dp.G dp.an 12 Tryz.f144 _ dp.st
abbrev dp.Ok:=cr @dp.A dp.aq dp.add dp.F dp.out
theorem dp.eq{R:Type}(n:Int)(k:aT→Option R):dp.A n k=
 k (dp.out [(dI .u8 (bW .u64 n (56:Int))),(dI .u8 (bW .u64 n (48:Int))),(dI .u8 (bW .u64 n (40:Int))),(dI .u8 (bW .u64 n (32:Int))),(dI .u8 (bW .u64 n (24:Int))),(dI .u8 (bW .u64 n (16:Int))),(dI .u8 (bW .u64 n (8:Int))),(dI .u8 (bW .u64 n (0:Int)))]):=by kernel_rfl
theorem dp.ok:dp.Ok:=by
 intro n _
 rw[dp.eq,uq]
 rfl
noncomputable def dp.E:=Entry.cF [some tu] dp.st dp.aq dp.add dp.F dp.out
noncomputable def dp.call:dp.D→Option dp.X:=bC dp.E dp.st
theorem dp.run:bD dp.call dp.aq dp.add dp.F:=cz (cv [.d tu] fun _=>by kernel_rfl)
noncomputable def dp.sg:SG Tryz.prog:=⟨144,aK,dp.E,.fn 1 (by kernel_rfl) dp.ok (And.intro (.none (by kernel_rfl)) trivial)⟩
abbrev eQ.D:=Int×Int×Bs
def eQ.st:eQ.D→SA:=fun(r,p,m)=>([.d tu r,.d tu p,.d tH m],[])
abbrev eQ.Y:=Int
abbrev eQ.X:=Int
def eQ.out:eQ.X→aT:=fun x=>⟨.d tu x,[],[]⟩
def eQ.add:eQ.D→eQ.Y→eQ.X:=fun(r,p,m) y=>y
def eQ.aq:eQ.D→Prop:=fun(r,p,m)=>Sm m
def eQ.F:eQ.D→eQ.Y:=fun(r,p,m)=>uz r p m
noncomputable def eQ.G:dX:=eX (P:=Tryz.prog) [dp.sg,cG.sg,bG.sg]
noncomputable def eQ.an:ej:= {}
noncomputable def eQ.A:= @cq Tryz.prog eQ.G eQ.an 0 Tryz.f172 _ eQ.st
abbrev eQ.Ok:=cr @eQ.A eQ.aq eQ.add eQ.F eQ.out
theorem eQ.eq{R:Type}(r:Int)(p:Int)(m:Bs)(k:aT→Option R):eQ.A (r,p,m) k=
 ab (dp.call r) fun x1=>
 ab (dp.call p) fun x2=>
 ab (cG.call ((⟨#[115,105,103]⟩:ByteArray),[x1,x2,(cut m 0 32)])) fun x3=>
 ab (bG.call x3) fun x4=>
 k (eQ.out x4):=by kernel_rfl
theorem eQ.ok:eQ.Ok:=by
 rintro⟨r,p,m⟩ hm
 have hm:Sm m:=hm
 rw[eQ.eq,dp.run (d:=r) trivial,dp.run (d:=p) trivial]
 simp only[aa,dp.add,dp.F]
 rw[gG hm.1,cG.run (E1 (by decide) (by rw[cM];omega) (by rw[cM];omega) (by rw[hm.1];omega))]
 simp only[aa,cG.add,cG.F]
 rw[bG.run (d:=tag (bA (⟨#[115,105,103]⟩:ByteArray)) [iy r,iy p,m]) (vH _ _)]
 rfl
noncomputable def eQ.E:=Entry.cF [some tu,some tu,some tH] eQ.st eQ.aq eQ.add eQ.F eQ.out
noncomputable def eQ.call:eQ.D→Option eQ.X:=bC eQ.E eQ.st
theorem eQ.run:bD eQ.call eQ.aq eQ.add eQ.F:=cz (cv [.d tu,.d tu,.d tB] fun _=>by kernel_rfl)
noncomputable def eQ.sg:SG Tryz.prog:=⟨172,aK,eQ.E,.fn 0 (by kernel_rfl) eQ.ok trivial⟩
abbrev gf.D:=Int
def gf.st:gf.D→SA:=fun kv=>([.d tu kv],[])
abbrev gf.Y:=Bool
abbrev gf.X:=Bool
def gf.out:gf.X→aT:=fun x=>⟨.d .bool x,[],[]⟩
def gf.add:gf.D→gf.Y→gf.X:=fun kv y=>y
def gf.aq:gf.D→Prop:=fun _=>True
def gf.F:gf.D→gf.Y:=fun k=>decide (k < 2305843009213688669∧k≠0)
noncomputable def gf.G:dX:=eX (P:=Tryz.prog) [dz.sg]
noncomputable def gf.an:ej:= {}
noncomputable def gf.A:= @cq Tryz.prog gf.G gf.an 0 Tryz.f142 _ gf.st
abbrev gf.Ok:=cr @gf.A gf.aq gf.add gf.F gf.out
theorem gf.eq{R:Type}(kv:Int)(k:aT→Option R):gf.A kv k=
  ab (dz.call kv) fun x1=>
  aC (x1) (
   k (gf.out (qS kv (0:Int)))) (
   k (gf.out false)):=by kernel_rfl
theorem gf.ok:gf.Ok:=by
 intro k _
 rw[gf.eq,dz.run (d:=k) trivial]
 simp only[aa,dz.add,dz.F,gf.add,gf.F]
 by_cases h:k < 2305843009213688669
 ·rw[bB h,ah]
  by_cases h0:k=0
  ·rw[gO h0,bN (fun x=>x.2 h0)]
  ·rw[iM h0,aD ⟨h,h0⟩]
 ·rw[bm h,ae,bN (fun x=>h x.1)]
noncomputable def gf.E:=Entry.cF [some tu] gf.st gf.aq gf.add gf.F gf.out
noncomputable def gf.call:gf.D→Option gf.X:=bC gf.E gf.st
theorem gf.run:bD gf.call gf.aq gf.add gf.F:=cz (cv [.d tu] fun _=>by kernel_rfl)
noncomputable def gf.sg:SG Tryz.prog:=⟨142,aK,gf.E,.fn 0 (by kernel_rfl) gf.ok trivial⟩
abbrev dh.D:=Int×Int×Bs×Int
def dh.st:dh.D→SA:=fun(kv,nonce,m,t)=>([.d tu kv,.d tu nonce,.d tH m,.d tu t],[])
abbrev dh.Y:=Sg
abbrev dh.X:=Sg
def dh.out:dh.X→aT:=fun x=>⟨.d Dq x,[],[]⟩
def dh.add:dh.D→dh.Y→dh.X:=fun(kv,nonce,m,t) y=>y
def dh.aq:dh.D→Prop:=fun(k,n,m,t)=>fh k∧fh n∧Sm m∧fh t
def dh.F:dh.D→dh.Y:=fun(k,n,m,t)=>BF k n m t
noncomputable def dh.G:dX:=eX (P:=Tryz.prog) [dj.sg,fJ.sg,eQ.sg,fN.sg,fW.sg]
noncomputable def dh.an:ej:= {}
noncomputable def dh.A:= @cq Tryz.prog dh.G dh.an 0 Tryz.f143 _ dh.st
abbrev dh.Ok:=cr @dh.A dh.aq dh.add dh.F dh.out
theorem dh.eq{R:Type}(kv:Int)(nonce:Int)(m:Bs)(t:Int)(k:aT→Option R):dh.A (kv,nonce,m,t) k=
 ab (dj.call nonce) fun x1=>
 ab (fJ.call (x1,t)) fun x2=>
 ab (dj.call kv) fun x3=>
 ab (eQ.call (x2,x3,m)) fun x4=>
 ab (fN.call (x4,kv)) fun x5=>
 ab (fW.call (nonce,x5)) fun x6=>
 k (dh.out (x2,(x6,()))):=by kernel_rfl
theorem dh.ok:dh.Ok:=by
 rintro⟨k,n,m,t⟩ ⟨hk,hn,hm,ht⟩
 have hk:fh k:=hk
 have hn:fh n:=hn
 have hm:Sm m:=hm
 have ht:fh t:=ht
 rw[dh.eq,dj.run (d:=n) hn]
 simp only[aa,dj.add,dj.F]
 rw[fJ.run (d:=(gm n,t)) ⟨(Cd _ _).u,ht⟩,dj.run (d:=k) hk]
 simp only[aa,dj.add,dj.F,fJ.add,fJ.F]
 rw[eQ.run (d:=(rW [gm n,t],gm k,m)) hm]
 simp only[aa,eQ.add,eQ.F]
 rw[fN.run (d:=(uz (rW [gm n,t]) (gm k) m,k)) ⟨(DP _ _ _).u,hk⟩]
 simp only[aa,fN.add,fN.F]
 rw[fW.run (d:=(n,A5 (uz (rW [gm n,t]) (gm k) m) k)) ⟨hn,(xY _ _).u⟩]
 rfl
noncomputable def dh.E:=Entry.cF [some tu,some tu,some tH,some tu] dh.st dh.aq dh.add dh.F dh.out
noncomputable def dh.call:dh.D→Option dh.X:=bC dh.E dh.st
theorem dh.run:bD dh.call dh.aq dh.add dh.F:=cz (cv [.d tu,.d tu,.d tB,.d tu] fun _=>by kernel_rfl)
noncomputable def dh.sg:SG Tryz.prog:=⟨143,aK,dh.E,.fn 0 (by kernel_rfl) dh.ok trivial⟩
abbrev eG.D:=Int×Bs
def eG.st:eG.D→SA:=fun(kv,m)=>([.d tu kv,.d tH m],[])
abbrev eG.Y:=Sg
abbrev eG.X:=Sg
def eG.out:eG.X→aT:=fun x=>⟨.d Dq x,[],[]⟩
def eG.add:eG.D→eG.Y→eG.X:=fun(kv,m) y=>y
def eG.aq:eG.D→Prop:=fun(k,m)=>fh k∧Sm m
def eG.F:eG.D→eG.Y:=fun(k,m)=>pC k m
noncomputable def eG.G:dX:=eX (P:=Tryz.prog) [gf.sg,dp.sg,cG.sg,bG.sg,dh.sg]
noncomputable def eG.an:ej:= {}
noncomputable def eG.A:= @cq Tryz.prog eG.G eG.an 0 Tryz.f102 _ eG.st
abbrev eG.Ok:=cr @eG.A eG.aq eG.add eG.F eG.out
theorem eG.eq{R:Type}(kv:Int)(m:Bs)(k:aT→Option R):eG.A (kv,m) k=
  ab (gf.call kv) fun x1=>
  aC ((!x1)) (
   k (eG.out ((0:Int),((0:Int),())))) (
   ab (dp.call kv) fun x2=>
   ab (cG.call ((⟨#[110,111,110,99,101]⟩:ByteArray),[x2,(cut m 0 32)])) fun x3=>
   ab (bG.call x3) fun x4=>
   ab (dh.call (kv,x4,m,(1:Int))) fun x5=>
   k (eG.out x5)):=by kernel_rfl
theorem eG.ok:eG.Ok:=by
 rintro⟨k,m⟩ ⟨hk,hm⟩
 have hk:fh k:=hk
 have hm:Sm m:=hm
 rw[eG.eq,gf.run (d:=k) trivial]
 simp only[aa,gf.add,gf.F,eG.add,eG.F,pC]
 by_cases h:k < 2305843009213688669∧k≠0
 ·rw[aD h,if_pos h,dp.run (d:=k) trivial,gG hm.1]
  simp only[Bool.not_true,ae,aa,dp.add,dp.F]
  rw[cG.run (vJ (by decide) (by rw[cM];omega) (by rw[hm.1];omega))]
  simp only[aa,cG.add,cG.F]
  rw[bG.run (d:=tag (bA (⟨#[110,111,110,99,101]⟩:ByteArray)) [iy k,m]) (vH _ _)]
  simp only[aa,bG.add,bG.F]
  have q:=nR (tag (bA (⟨#[110,111,110,99,101]⟩:ByteArray)) [iy k,m])
  rw[dh.run (d:=(k,gV (tag (bA (⟨#[110,111,110,99,101]⟩:ByteArray)) [iy k,m]),m,1)) ⟨hk,⟨by omega,by omega⟩,hm,by omega,by omega⟩]
  rfl
 ·rw[bN h,if_neg h];rfl
noncomputable def eG.E:=Entry.cF [some tu,some tH] eG.st eG.aq eG.add eG.F eG.out
noncomputable def eG.call:eG.D→Option eG.X:=bC eG.E eG.st
theorem eG.run:bD eG.call eG.aq eG.add eG.F:=cz (cv [.d tu,.d tB] fun _=>by kernel_rfl)
noncomputable def eG.sg:SG Tryz.prog:=⟨102,aK,eG.E,.fn 0 (by kernel_rfl) eG.ok trivial⟩
set_option synthInstance.maxSize 5000
def yA(l:List Int):Prop:=∀x∈l,fh x
def HS(b:oF):Prop:=yA b.1∧fh b.2.2.2.1
def GI(l:Lk):Prop:=∀b∈l.1,HS b
def xM(n:Int):Bool:=decide (0≤n∧n≤1048576)
def nr(b:oF):Bool:=decide (b.1.length≤12) && (b.1.all lf && (xM b.2.1 && (xM b.2.2.1 && (decide (b.2.2.2.1=0) || lf b.2.2.2.1))))
def iV(l:Lk):Bool:=l.1.all nr && decide (0 < l.1.length∧l.1.length≤4)
def mo:List Int→Int→Int⊕Unit
 |[],_=> .inr ()
 |p::ps,i=>if lf p then mo ps (i+1) else .inl i
def BH(l:List Int):Int:=match mo l 0 with | .inl i=>i | .inr _=> -1
theorem th:∀(l:List Int) (i:Int),0≤i→(match mo l i with | .inl i=>decide (i≥0) | .inr _=>false)= !(l.all lf)
 |[],_,_=>rfl
 |p::ps,i,h=>by
  rw[mo,List.all_cons]
  cases hp:lf p
  ·simp[h]
  ·simp only[if_true,Bool.true_and]
   exact th ps (i+1) (by omega)
theorem Cw(l:List Int):kX (BH l) 0= !(l.all lf):=by
 have:=th l 0 (by omega)
 unfold BH kX
 cases h:mo l 0
 ·rw[h]at this;exact this
 ·rw[h]at this;rw[←this];rfl
abbrev fO.D:=Int
def fO.st:fO.D→SA:=fun p=>([.d tu p],[])
abbrev fO.Y:=Bool
abbrev fO.X:=Bool
def fO.out:fO.X→aT:=fun x=>⟨.d .bool x,[],[]⟩
def fO.add:fO.D→fO.Y→fO.X:=fun p y=>y
def fO.aq:fO.D→Prop:=fun p=>fh p
def fO.F:fO.D→fO.Y:=fun p=> !lf p
noncomputable def fO.G:dX:=eX (P:=Tryz.prog) [cO.sg]
noncomputable def fO.an:ej:= {}
noncomputable def fO.A:= @cq Tryz.prog fO.G fO.an 0 Tryz.f33 _ fO.st
abbrev fO.Ok:=cr @fO.A fO.aq fO.add fO.F fO.out
theorem fO.eq{R:Type}(p:Int)(k:aT→Option R):fO.A p k=
 ab (cO.call p) fun x1=>
 k (fO.out (!x1)):=by kernel_rfl
theorem fO.ok:fO.Ok:=by
 intro p hp
 rw[fO.eq,cO.run (d:=p) hp]
 rfl
noncomputable def fO.E:=Entry.cF [some tu] fO.st fO.aq fO.add fO.F fO.out
noncomputable def fO.call:fO.D→Option fO.X:=bC fO.E fO.st
theorem fO.run:bD fO.call fO.aq fO.add fO.F:=cz (cv [.d tu] fun _=>by kernel_rfl)
noncomputable def fO.sg:SG Tryz.prog:=⟨33,aK,fO.E,.fn 0 (by kernel_rfl) fO.ok trivial⟩
abbrev bh.L0.D:=Bs×Int×Int
def bh.L0.st:bh.L0.D→AS:=fun(sv_2,t7,t8)=>⟨([.d tU sv_2,.fn 33 (.nil)]++bu 5 ([.d ti t7,.d ti t8]++bu 10 [])),[],(List.replicate 19 [])⟩
abbrev bh.L0.Y0:=Int
abbrev bh.L0.X0:=Int
def bh.L0.bM:bh.L0.X0→Exit×AS:=fun x=>(.ret,⟨(bu 4 ([.d ti x]++bu 14 [])),[],(List.replicate 19 [])⟩)
abbrev bh.L0.Y1:=Unit
abbrev bh.L0.X1:=Unit
def bh.L0.iG:bh.L0.X1→Exit×AS:=fun x=>(.exit 0,⟨(bu 19 []),[],(List.replicate 19 [])⟩)
abbrev bh.L0.X:=(bh.L0.X0)⊕(bh.L0.X1)
abbrev bh.L0.Y:=(bh.L0.Y0)⊕(bh.L0.Y1)
def bh.L0.out:bh.L0.X→Out (Exit×AS):=fun x=> .br x.isLeft (.get x.getLeft? fun a=> .ok (bh.L0.bM a)) (.get x.getRight? fun b=> .ok (bh.L0.iG b))
def bh.L0.add:bh.L0.D→bh.L0.Y→bh.L0.X:=fun(sv_2,t7,t8) y=>match y with | .inl y=> .inl y | .inr z=> .inr (z)
abbrev bh.D:=Bs
def bh.st:bh.D→SA:=fun sv=>([.d tU sv,.fn 33 (.nil)],[])
abbrev bh.Y:=Int
abbrev bh.X:=Int
def bh.out:bh.X→aT:=fun x=>⟨.d ti x,[],[]⟩
def bh.add:bh.D→bh.Y→bh.X:=fun sv y=>y
def bh.L0.aq:bh.L0.D→Prop:=fun(l,n,i)=>yA l∧l.length≤1000000000∧n=l.length∧∃k:Nat,k≤l.length∧i=k
def bh.L0.F:bh.L0.D→bh.L0.Y:=fun(l,n,i)=>mo (l.drop i.toNat) i
def bh.aq:bh.D→Prop:=fun l=>yA l∧l.length≤1000000000
def bh.F:bh.D→bh.Y:=fun l=>BH l
noncomputable def bh.G:dX:=eX (P:=Tryz.prog) [fO.sg]
noncomputable def bh.L0.E:=cf.cF bh.L0.st bh.L0.aq bh.L0.add bh.L0.F bh.L0.out
noncomputable def bh.L0.call:bh.L0.D→Option bh.L0.X:=dO bh.L0.E bh.L0.st
noncomputable def bh.an:ej:= {loops:=ky [(2,{bt:=[0,1,7,8]})],outs:=kr [(2,{},{bt:=[4]})],gk:=kY [(2,bh.L0.E)]}
noncomputable def bh.A:= @cq Tryz.prog bh.G bh.an 0 Tryz.f77 _ bh.st
abbrev bh.Ok:=cr @bh.A bh.aq bh.add bh.F bh.out
noncomputable def bh.L0.R:= @cP Tryz.prog bh.G bh.an 0 Tryz.f77 0 _ bh.L0.st
abbrev bh.L0.Ok:=fg Tryz.prog bh.G bh.an 0 Tryz.f77 0 bh.L0.st bh.L0.aq bh.L0.add bh.L0.F bh.L0.out
theorem bh.L0.run:bD bh.L0.call bh.L0.aq bh.L0.add bh.L0.F:=fw (fk [.d tU,.d ti,.d ti] fun _=>by kernel_rfl)
theorem bh.L0.aF:oU @bh.L0.R bh.L0.st bh.L0.aq bh.L0.add bh.L0.F bh.L0.out bh.L0.Ok:=p9
theorem bh.L0.step{R:Type}(sv_2:Bs)(t7:Int)(t8:Int)(kn:AS→Option R)(kx:Exit→AS→Option R):bh.L0.R (sv_2,t7,t8) kn kx=
  aC ((gM t8 t7)) (
   aC (dY t8 (((List.length sv_2):Nat):Int)) (
   ab (fO.call (nth tu sv_2 (Int.toNat t8))) fun x1=>
   aC (x1) (
    kx (bh.L0.bM t8).1 (bh.L0.bM t8).2) (
    kn (bh.L0.st (sv_2,t7,(bw .i64 t8 (1:Int)))))) none) (
   kx (bh.L0.iG ()).1 (bh.L0.iG ()).2):=by kernel_rfl
theorem bh.eq{R:Type}(sv:Bs)(k:aT→Option R):bh.A sv k=
  ab (bh.L0.call (sv,(((List.length sv):Nat):Int),(0:Int))) fun x2=>
  aC (x2.isLeft) (
   ab (x2.getLeft?) fun a3=>
   k (bh.out a3)) (
   ab (x2.getRight?) fun b4=>
   k (bh.out (-1:Int))):=by kernel_rfl
theorem bh.L0.ok:bh.L0.Ok:=by
 refine bh.L0.aF (fun(l,n,i)=>l.length - i.toNat) ?_
 rintro⟨l,n,i⟩ ⟨hl,hb,rfl,k,hk,rfl⟩
 have hb:l.length≤1000000000:=hb
 have hk:k≤l.length:=hk
 by_cases h:k < l.length
 ·have hx:=hl _ (List.getElem_mem h)
  have n1:nth (.int .u64) l k=l[k]:=dT (t:= .int .u64) h
  have hd:mo (l.drop k) k=if lf l[k] then mo (l.drop (k+1)) ((k+1:Nat):Int) else .inl (k:Int):=by rw[List.drop_eq_getElem_cons h];rfl
  cases hp:lf l[k]
  ·right
   refine⟨bh.L0.bM (k:Int),?_,fun kn kx=> ?_⟩
   ·simp only[bh.L0.add,bh.L0.F,Int.toNat_natCast,hd,hp,Bool.false_eq_true,if_false]
    rfl
   ·rw[bh.L0.step]
    simp(disch:=omega) only[↓S1,↓if_pos,↓if_neg,if_pos,if_neg,if_true,if_false,S2,n1]
    rw[fO.run (d:=l[k]) hx]
    simp only[aa,fO.add,fO.F,hp,Bool.not_false,ah]
  ·left
   refine⟨(l,l.length,((k+1:Nat):Int)),⟨hl,hb,rfl,k+1,by omega,rfl⟩,by simp only[Int.toNat_natCast];omega,?_,fun kn kx=> ?_⟩
   ·simp only[bh.L0.add,bh.L0.F,Int.toNat_natCast,hd,hp,if_true]
   ·rw[bh.L0.step]
    simp(disch:=omega) only[↓S1,↓if_pos,↓if_neg,if_pos,if_neg,if_true,if_false,S2,n1]
    rw[fO.run (d:=l[k]) hx]
    simp only[aa,fO.add,fO.F,hp,Bool.not_true,ae]
 ·right
  obtain rfl:k=l.length:=by omega
  refine⟨bh.L0.iG (),?_,fun kn kx=> ?_⟩
  ·simp only[bh.L0.add,bh.L0.F,Int.toNat_natCast,List.drop_length]
   rfl
  ·rw[bh.L0.step]
   simp(disch:=omega) only[↓S1,↓if_pos,↓if_neg,if_pos,if_neg,if_true,if_false,S2]
theorem bh.ok:bh.Ok:=by
 rintro l ⟨hl,hb⟩
 rw[bh.eq,bh.L0.run (d:=(l,l.length,0)) ⟨hl,hb,rfl,0,by omega,rfl⟩]
 simp only[aa,bh.L0.add,bh.L0.F,Int.toNat_zero,List.drop_zero,bh.add,bh.F,BH]
 cases mo l 0 <;> rfl
noncomputable def bh.E:=Entry.cF [some tU,none] bh.st bh.aq bh.add bh.F bh.out
noncomputable def bh.call:bh.D→Option bh.X:=bC bh.E bh.st
theorem bh.run:bD bh.call bh.aq bh.add bh.F:=cz (cv [.d tU] fun _=>by kernel_rfl)
noncomputable def bh.sg:SG Tryz.prog:=⟨77,aK,bh.E,.fn 1 (by kernel_rfl) bh.ok (And.intro (.cF bh.L0.ok (by kernel_rfl)) trivial)⟩
abbrev bX.D:=Bs
def bX.st:bX.D→SA:=fun sv=>([.d tU sv,.fn 33 (.nil)],[])
abbrev bX.Y:=Bool
abbrev bX.X:=Bool
def bX.out:bX.X→aT:=fun x=>⟨.d .bool x,[],[]⟩
def bX.add:bX.D→bX.Y→bX.X:=fun sv y=>y
def bX.aq:bX.D→Prop:=fun l=>yA l∧l.length≤1000000000
def bX.F:bX.D→bX.Y:=fun l=> !(l.all lf)
noncomputable def bX.G:dX:=eX (P:=Tryz.prog) [bh.sg]
noncomputable def bX.an:ej:= {}
noncomputable def bX.A:= @cq Tryz.prog bX.G bX.an 0 Tryz.f35 _ bX.st
abbrev bX.Ok:=cr @bX.A bX.aq bX.add bX.F bX.out
theorem bX.eq{R:Type}(sv:Bs)(k:aT→Option R):bX.A sv k=
 ab (bh.call sv) fun x1=>
 k (bX.out (kX x1 (0:Int))):=by kernel_rfl
theorem bX.ok:bX.Ok:=by
 rintro l ⟨hl,hb⟩
 rw[bX.eq,bh.run (d:=l) ⟨hl,hb⟩]
 simp only[aa,bh.add,bh.F,Cw]
 rfl
noncomputable def bX.E:=Entry.cF [some tU,none] bX.st bX.aq bX.add bX.F bX.out
noncomputable def bX.call:bX.D→Option bX.X:=bC bX.E bX.st
theorem bX.run:bD bX.call bX.aq bX.add bX.F:=cz (cv [.d tU] fun _=>by kernel_rfl)
noncomputable def bX.sg:SG Tryz.prog:=⟨35,aK,bX.E,.fn 0 (by kernel_rfl) bX.ok trivial⟩
abbrev cI.D:=Int
def cI.st:cI.D→SA:=fun n=>([.d ti n],[])
abbrev cI.Y:=Bool
abbrev cI.X:=Bool
def cI.out:cI.X→aT:=fun x=>⟨.d .bool x,[],[]⟩
def cI.add:cI.D→cI.Y→cI.X:=fun n y=>y
def cI.aq:cI.D→Prop:=fun _=>True
def cI.F:cI.D→cI.Y:=fun n=>xM n
noncomputable def cI.G:dX:=eX (P:=Tryz.prog) []
noncomputable def cI.an:ej:= {}
noncomputable def cI.A:= @cq Tryz.prog cI.G cI.an 0 Tryz.f36 _ cI.st
abbrev cI.Ok:=cr @cI.A cI.aq cI.add cI.F cI.out
theorem cI.eq{R:Type}(n:Int)(k:aT→Option R):cI.A n k=
  aC ((kX n (0:Int))) (
   k (cI.out (wX n (1048576:Int)))) (
   k (cI.out false)):=by kernel_rfl
theorem cI.ok:cI.Ok:=by
 intro n _
 rw[cI.eq]
 simp only[cI.add,cI.F,xM]
 by_cases h:0≤n
 ·rw[gQ h,ah]
  by_cases h2:n≤1048576
  ·rw[pg h2,aD ⟨h,h2⟩]
  ·rw[ld h2,bN (fun x=>h2 x.2)]
 ·rw[fx h,ae,bN (fun x=>h x.1)]
noncomputable def cI.E:=Entry.cF [some ti] cI.st cI.aq cI.add cI.F cI.out
noncomputable def cI.call:cI.D→Option cI.X:=bC cI.E cI.st
theorem cI.run:bD cI.call cI.aq cI.add cI.F:=cz (cv [.d ti] fun _=>by kernel_rfl)
noncomputable def cI.sg:SG Tryz.prog:=⟨36,aK,cI.E,.fn 0 (by kernel_rfl) cI.ok trivial⟩
set_option synthInstance.maxSize 5000
abbrev aQ.L0.D:=Lk×(List oF)×Int×Int
def aQ.L0.st:aQ.L0.D→AS:=fun(l_2,t7,t8,t9)=>⟨([.undef,.eI lV l_2,.undef,.fn 33 (.nil),.undef,.undef,.undef,.d (.slice oS) t7,.d ti t8,.d ti t9]++bu 47 []),[],(List.replicate 57 [])⟩
abbrev aQ.L0.Y0:=Unit
abbrev aQ.L0.X0:=Unit
def aQ.L0.bM:aQ.L0.X0→Exit×AS:=fun x=>(.ret,⟨([.undef,.undef,.d .bool false]++bu 54 []),[],(List.replicate 57 [])⟩)
abbrev aQ.L0.Y1:=Unit
abbrev aQ.L0.X1:=Lk
def aQ.L0.iG:aQ.L0.X1→Exit×AS:=fun x=>(.exit 0,⟨([.undef,.eI lV x]++bu 55 []),[],(List.replicate 57 [])⟩)
abbrev aQ.L0.X:=(aQ.L0.X0)⊕(aQ.L0.X1)
abbrev aQ.L0.Y:=(aQ.L0.Y0)⊕(aQ.L0.Y1)
def aQ.L0.out:aQ.L0.X→Out (Exit×AS):=fun x=> .br x.isLeft (.get x.getLeft? fun a=> .ok (aQ.L0.bM a)) (.get x.getRight? fun b=> .ok (aQ.L0.iG b))
def aQ.L0.add:aQ.L0.D→aQ.L0.Y→aQ.L0.X:=fun(l_2,t7,t8,t9) y=>match y with | .inl y=> .inl y | .inr z=> .inr (l_2)
abbrev aQ.D:=Lk
def aQ.st:aQ.D→SA:=fun l=>([.d lV l],[])
abbrev aQ.Y:=Bool
abbrev aQ.X:=Bool
def aQ.out:aQ.X→aT:=fun x=>⟨.d .bool x,[],[]⟩
def aQ.add:aQ.D→aQ.Y→aQ.X:=fun l y=>y
def aQ.L0.aq:aQ.L0.D→Prop:=fun(l,bs,n,i)=>(∀b∈bs,HS b)∧bs.length≤9223372036854775807∧n=bs.length∧∃k:Nat,k≤bs.length∧i=k
def aQ.L0.F:aQ.L0.D→aQ.L0.Y:=fun(l,bs,n,i)=>if(bs.drop i.toNat).all nr then .inr () else .inl ()
def aQ.aq:aQ.D→Prop:=fun l=>GI l∧l.1.length≤9223372036854775807
def aQ.F:aQ.D→aQ.Y:=fun l=>iV l
noncomputable def aQ.G:dX:=eX (P:=Tryz.prog) [bX.sg,cI.sg,fO.sg]
noncomputable def aQ.L0.E:=cf.cF aQ.L0.st aQ.L0.aq aQ.L0.add aQ.L0.F aQ.L0.out
noncomputable def aQ.L0.call:aQ.L0.D→Option aQ.L0.X:=dO aQ.L0.E aQ.L0.st
noncomputable def aQ.an:ej:= {loops:=ky [(3,{bt:=[1,3,7,8,9]})],outs:=kr [(3,{bt:=[1]},{bt:=[2]})],gk:=kY [(3,aQ.L0.E)]}
noncomputable def aQ.A:= @cq Tryz.prog aQ.G aQ.an 0 Tryz.f11 _ aQ.st
abbrev aQ.Ok:=cr @aQ.A aQ.aq aQ.add aQ.F aQ.out
noncomputable def aQ.L0.R:= @cP Tryz.prog aQ.G aQ.an 0 Tryz.f11 0 _ aQ.L0.st
abbrev aQ.L0.Ok:=fg Tryz.prog aQ.G aQ.an 0 Tryz.f11 0 aQ.L0.st aQ.L0.aq aQ.L0.add aQ.L0.F aQ.L0.out
theorem aQ.L0.run:bD aQ.L0.call aQ.L0.aq aQ.L0.add aQ.L0.F:=fw (fk [.d lV,.d (.slice oS),.d ti,.d ti] fun _=>by kernel_rfl)
theorem aQ.L0.aF:oU @aQ.L0.R aQ.L0.st aQ.L0.aq aQ.L0.add aQ.L0.F aQ.L0.out aQ.L0.Ok:=p9
theorem aQ.L0.step{R:Type}(l_2:Lk)(t7:(List oF))(t8:Int)(t9:Int)(kn:AS→Option R)(kx:Exit→AS→Option R):aQ.L0.R (l_2,t7,t8,t9) kn kx=
  aC ((gM t9 t8)) (
   aC (dY t9 (((List.length t7):Nat):Int)) (
   aC ((na (((List.length (nth oS t7 (Int.toNat t9)).1):Nat):Int) (12:Int))) (
    kx (aQ.L0.bM ()).1 (aQ.L0.bM ()).2) (
    ab (bX.call (nth oS t7 (Int.toNat t9)).1) fun x1=>
    aC (x1) (
     kx (aQ.L0.bM ()).1 (aQ.L0.bM ()).2) (
     ab (cI.call (nth oS t7 (Int.toNat t9)).2.1) fun x2=>
     aC ((!x2)) (
      kx (aQ.L0.bM ()).1 (aQ.L0.bM ()).2) (
      ab (cI.call (nth oS t7 (Int.toNat t9)).2.2.1) fun x3=>
      aC ((!x3)) (
       kx (aQ.L0.bM ()).1 (aQ.L0.bM ()).2) (
       aC ((qS (nth oS t7 (Int.toNat t9)).2.2.2.1 (0:Int))) (
        ab (fO.call (nth oS t7 (Int.toNat t9)).2.2.2.1) fun x4=>
        aC (x4) (
         kx (aQ.L0.bM ()).1 (aQ.L0.bM ()).2) (
         kn (aQ.L0.st (l_2,t7,t8,(bw .i64 t9 (1:Int)))))) (
        kn (aQ.L0.st (l_2,t7,t8,(bw .i64 t9 (1:Int)))))))))) none) (
   kx (aQ.L0.iG l_2).1 (aQ.L0.iG l_2).2):=by kernel_rfl
theorem aQ.eq{R:Type}(l:Lk)(k:aT→Option R):aQ.A l k=
  ab (aQ.L0.call (l,l.1,(((List.length l.1):Nat):Int),(0:Int))) fun x5=>
  aC (x5.isLeft) (
   ab (x5.getLeft?) fun a6=>
   k (aQ.out false)) (
   ab (x5.getRight?) fun b7=>
   aC ((na (((List.length b7.1):Nat):Int) (0:Int))) (
    k (aQ.out (wX (((List.length b7.1):Nat):Int) (4:Int)))) (
    k (aQ.out false))):=by kernel_rfl
theorem aQ.L0.ok:aQ.L0.Ok:=by
 refine aQ.L0.aF (fun(l,bs,n,i)=>bs.length - i.toNat) ?_
 rintro⟨l,bs,n,i⟩ ⟨hl,hb,rfl,k,hk,rfl⟩
 have hb:bs.length≤9223372036854775807:=hb
 have hk:k≤bs.length:=hk
 by_cases h:k < bs.length
 ·have hx:HS bs[k]:=hl _ (List.getElem_mem h)
  have n1:nth (.pair (.slice (.int .u64)) (.pair (.int .i64) (.pair (.int .i64) (.pair (.int .u64) .unit)))) bs k=bs[k]:=dT (t:=(.pair (.slice (.int .u64)) (.pair (.int .i64) (.pair (.int .i64) (.pair (.int .u64) .unit))))) h
  have hd:(bs.drop k).all nr=(nr bs[k] && (bs.drop (k+1)).all nr):=by rw[List.drop_eq_getElem_cons h,List.all_cons]
  have step:∀ {R:Type} (kn:AS→Option R) (kx:Exit→AS→Option R),aQ.L0.R (l,bs,(bs.length:Int),(k:Int)) kn kx=aC (nr bs[k]) (kn (aQ.L0.st (l,bs,(bs.length:Int),((k+1:Nat):Int)))) (kx (aQ.L0.bM ()).1 (aQ.L0.bM ()).2):=by
   intro R kn kx
   rw[aQ.L0.step,bB (by omega),bz (by omega) (by omega),Int.toNat_natCast,n1,N.mC (by omega)]
   obtain⟨⟨ks,af,dl,sc,u⟩,hbk⟩:∃b,bs[k]=b:=⟨_,rfl⟩
   rw[hbk]at hx ⊢
   have h1:yA ks:=hx.1
   have h2:fh sc:=hx.2
   simp only[ah,nr]
   by_cases hk:ks.length≤12
   ·rw[cZ (by omega),bX.run (d:=ks) ⟨h1,by omega⟩,cI.run (d:=af) trivial,cI.run (d:=dl) trivial,fO.run (d:=sc) h2,aD hk]
    simp only[ae,aa,bX.add,bX.F,cI.add,cI.F,fO.add,fO.F,Bool.true_and]
    cases ks.all lf
    ·rfl
    cases xM af
    ·rfl
    cases xM dl
    ·rfl
    by_cases hs:sc=0
    ·rw[gO hs,aD hs];rfl
    ·rw[iM hs,bN hs]
     cases lf sc <;> rfl
   ·rw[dS (by omega),bN hk];rfl
  cases hp:nr bs[k]
  ·right
   refine⟨aQ.L0.bM (),?_,fun kn kx=> ?_⟩
   ·simp only[aQ.L0.add,aQ.L0.F,Int.toNat_natCast,hd,hp,Bool.false_and,Bool.false_eq_true,if_false]
    rfl
   ·rw[step,hp,ae]
  ·left
   refine⟨(l,bs,bs.length,((k+1:Nat):Int)),⟨hl,hb,rfl,k+1,by omega,rfl⟩,by simp only[Int.toNat_natCast];omega,?_,fun kn kx=> ?_⟩
   ·simp only[aQ.L0.add,aQ.L0.F,Int.toNat_natCast,hd,hp,Bool.true_and]
   ·rw[step,hp,ah]
 ·right
  obtain rfl:k=bs.length:=by omega
  refine⟨aQ.L0.iG l,?_,fun kn kx=> ?_⟩
  ·simp only[aQ.L0.add,aQ.L0.F,Int.toNat_natCast,List.drop_length]
   rfl
  ·rw[aQ.L0.step]
   simp(disch:=omega) only[↓S1,↓if_pos,↓if_neg,if_pos,if_neg,if_true,if_false,S2]
theorem aQ.ok:aQ.Ok:=by
 rintro l ⟨hl,hb⟩
 have hb:l.1.length≤9223372036854775807:=hb
 rw[aQ.eq,aQ.L0.run (d:=(l,l.1,l.1.length,0)) ⟨hl,hb,rfl,0,by omega,rfl⟩]
 simp only[aa,aQ.L0.add,aQ.L0.F,Int.toNat_zero,List.drop_zero,aQ.add,aQ.F,iV]
 cases l.1.all nr
 ·rfl
 ·simp only[if_true,Bool.true_and]
  show aC (na _ _) _ _=_
  by_cases h0:0 < l.1.length
  ·rw[dS (by omega)]
   by_cases h4:l.1.length≤4
   ·rw[pg (by omega),aD ⟨h0,h4⟩];rfl
   ·rw[ld (by omega),bN (fun x=>h4 x.2)];rfl
  ·rw[cZ (by omega),bN (fun x=>h0 x.1)];rfl
noncomputable def aQ.E:=Entry.cF [some lV] aQ.st aQ.aq aQ.add aQ.F aQ.out
noncomputable def aQ.call:aQ.D→Option aQ.X:=bC aQ.E aQ.st
theorem aQ.run:bD aQ.call aQ.aq aQ.add aQ.F:=cz (cv [.d lV] fun _=>by kernel_rfl)
noncomputable def aQ.sg:SG Tryz.prog:=⟨11,aK,aQ.E,.fn 1 (by kernel_rfl) aQ.ok (And.intro (.cF aQ.L0.ok (by kernel_rfl)) trivial)⟩
def GK(w:At):Prop:=(∀s∈w.2.1,Jk s)∧fh w.2.2.1
set_option synthInstance.maxSize 5000
abbrev eM.D:=Int
def eM.st:eM.D→SA:=fun n=>([.dP,.d ti n],[])
abbrev eM.Y:=Nat×(List Int)
abbrev eM.X:=Nat×(List Int)
def eM.out:eM.X→aT:=fun x=>⟨.cT (.new 0 0) 0 [] 0 0 x.1,[],[.obj 0 false (.vec 5 tb x.2)]⟩
def eM.add:eM.D→eM.Y→eM.X:=fun n y=>y
def eM.aq:eM.D→Prop:=fun n=>∃k:Nat,n=k∧k≤100000000
def eM.F:eM.D→eM.Y:=fun n=>(0,List.replicate n.toNat 0)
noncomputable def eM.G:dX:=eX (P:=Tryz.prog) []
noncomputable def eM.an:ej:= {kc:=[⟨4,[],22,135⟩]}
noncomputable def eM.A:= @cq Tryz.prog eM.G eM.an 0 Tryz.f176 _ eM.st
abbrev eM.Ok:=cr @eM.A eM.aq eM.add eM.F eM.out
theorem eM.eq{R:Type}(n:Int)(k:aT→Option R):eM.A n k=
  aC ((gM n (0:Int))) (
   none) (
   aC ((na (bS .i64 n (0:Int)) (0:Int))) (
    aC (decide (0 < (bS .i64 n (0:Int))) && dK (Int.toNat (bS .i64 n (0:Int))) 1) (
    aC (inc (0:Int) (((Int.toNat (bS .i64 n (0:Int))):Nat):Int)) (
    k (eM.out (0,(List.replicate (Int.toNat (bS .i64 n (0:Int))) (0:Int))))) none) none) (
    k (eM.out (0,([]:List Int))))):=by kernel_rfl
theorem eM.ok:eM.Ok:=by
 rintro n ⟨k,rfl,hk⟩
 have e:bS .i64 (k:Int) 0=(k:Int):=by rw[fe (by omega) (by omega)];omega
 rw[eM.eq,e,bm (by omega),ae]
 by_cases h:0 < k
 ·rw[dS (by omega),Int.toNat_natCast,aD (by omega),eO (by omega) (by omega),kE (by omega) (by omega)]
  rfl
 ·obtain rfl:k=0:=by omega
  rfl
noncomputable def eM.E:=Entry.cF [none,some ti] eM.st eM.aq eM.add eM.F eM.out
noncomputable def eM.call:eM.D→Option eM.X:=bC eM.E eM.st
theorem eM.run:bD eM.call eM.aq eM.add eM.F:=cz (cv [.d ti] fun _=>by kernel_rfl)
noncomputable def eM.sg:SG Tryz.prog:=⟨176,aK,eM.E,.fn 0 (by kernel_rfl) eM.ok trivial⟩
def kH(l:List (List Int)):Nat:=l.flatten.length
def vY(n:Nat)(l:List Int):List (List Int)→Nat×List Int
 |[]=>(n,l)
 |s::r=>(n+(s::r).flatten.length,l.take n++(s::r).flatten)
theorem CG(n:Nat)(l s:List Int)(r:List (List Int))(h:n≤l.length):vY n l (s::r)=vY (n+s.length) (l.take n++s) r:=by
 have hl:(l.take n++s).length=n+s.length:=by rw[List.length_append,List.length_take];omega
 cases r with
 |nil=>simp[vY]
 |cons t r=>
  simp only[vY]
  rw[List.take_of_length_le (Nat.le_of_eq hl)]
  simp only[List.flatten_cons,List.length_append,List.append_assoc,Nat.add_assoc]
theorem FB(n:Nat)(z:List Int)(r:List (List Int)):(vY 0 z r).1≤(vY 0 z r).2.length∧cut (vY 0 z r).2 0 (vY 0 z r).1=r.flatten:=by
 cases r with
 |nil=>exact⟨Nat.zero_le _,rfl⟩
 |cons s r=>
  simp only[vY,List.take_zero,List.nil_append,Nat.zero_add]
  exact⟨Nat.le_refl _,by show List.take _ (List.drop 0 _)=_;rw[List.drop_zero,List.take_length]⟩
abbrev av.L0.D:=(List Bs)×Int×(List Bs)×Int×Int
def av.L0.st:av.L0.D→AS:=fun(slices_2,size,t9,t10,t11)=>⟨([.d (.slice tB) slices_2,.undef,.undef,.d ti size]++bu 5 ([.d (.slice tB) t9,.d ti t10,.d ti t11]++bu 24 [])),[],(List.replicate 36 [])⟩
abbrev av.L0.Y0:=Int
abbrev av.L0.X0:=((List Bs))×(Int)
def av.L0.bM:av.L0.X0→Exit×AS:=fun x=>(.exit 0,⟨([.d (.slice tB) x.1,.undef,.undef,.d ti x.2]++bu 32 []),[],(List.replicate 36 [])⟩)
abbrev av.L0.X:=av.L0.X0
abbrev av.L0.Y:=av.L0.Y0
def av.L0.out:av.L0.X→Out (Exit×AS):=fun x=> .ok (av.L0.bM x)
def av.L0.add:av.L0.D→av.L0.Y→av.L0.X:=fun(slices_2,size,t9,t10,t11) y=>(slices_2,y)
abbrev av.L1.D:=Nat×(List Bs)×Int×Int×(List Int)
def av.L1.st:av.L1.D→AS:=fun(newsliceL,t25,t26,t27,n24)=>⟨(bu 6 ([.cT (.new 24 0) 0 [] 0 0 newsliceL]++bu 18 ([.d (.slice tB) t25,.d ti t26,.d ti t27]++bu 8 []))),[],(cw 24 ([[.obj 0 false (.vec 5 tb n24)]]++cw 11 []))⟩
abbrev av.L1.Y0:=Nat×(List Int)
abbrev av.L1.X0:=Nat×(List Int)
def av.L1.bM:av.L1.X0→Exit×AS:=fun x=>(.exit 2,⟨(bu 6 ([.cT (.new 24 0) 0 [] 0 0 x.1]++bu 29 [])),[],(cw 24 ([[.obj 0 false (.vec 5 tb x.2)]]++cw 11 []))⟩)
abbrev av.L1.X:=av.L1.X0
abbrev av.L1.Y:=av.L1.Y0
def av.L1.out:av.L1.X→Out (Exit×AS):=fun x=> .ok (av.L1.bM x)
def av.L1.add:av.L1.D→av.L1.Y→av.L1.X:=fun(newsliceL,t25,t26,t27,n24) y=>y
abbrev av.D:=(List Bs)
def av.st:av.D→SA:=fun slices=>([.d (.slice tB) slices],[])
abbrev av.Y:=Bs
abbrev av.X:=Bs
def av.out:av.X→aT:=fun x=>⟨.d tB x,[],[]⟩
def av.add:av.D→av.Y→av.X:=fun slices y=>y
def av.L0.aq:av.L0.D→Prop:=fun(s,size,t,n,i)=>s.length≤1000000∧t=s∧n=s.length∧∃k z:Nat,k≤s.length∧i=k∧size=z∧z+kH (s.drop k)≤100000000
def av.L0.F:av.L0.D→av.L0.Y:=fun(s,size,t,n,i)=>((size:Int)+((kH (s.drop i.toNat):Nat):Int):Int)
def av.L1.aq:av.L1.D→Prop:=fun(n,s,t,i,l)=>s.length≤1000000∧n≤l.length∧t=s.length∧∃k:Nat,k≤s.length∧i=k∧n+kH (s.drop k)≤100000000
def av.L1.F:av.L1.D→av.L1.Y:=fun(n,s,t,i,l)=>vY n l (s.drop i.toNat)
def av.aq:av.D→Prop:=fun s=>s.length≤1000000∧kH s≤100000000
def av.F:av.D→av.Y:=fun s=>s.flatten
noncomputable def av.G:dX:=eX (P:=Tryz.prog) [eM.sg]
noncomputable def av.L0.E:=cf.cF av.L0.st av.L0.aq av.L0.add av.L0.F av.L0.out
noncomputable def av.L0.call:av.L0.D→Option av.L0.X:=dO av.L0.E av.L0.st
noncomputable def av.L1.E:=cf.cF av.L1.st av.L1.aq av.L1.add av.L1.F av.L1.out
noncomputable def av.L1.call:av.L1.D→Option av.L1.X:=dO av.L1.E av.L1.st
noncomputable def av.an:ej:= {loops:=ky [(3,{bt:=[0,3,9,10,11]}),(11,{bt:=[6,25,26,27],sites:=[24],kc:=[⟨6,[],24,135⟩]})],outs:=kr [(3,{bt:=[0,3]},{bt:=[2]}),(11,{bt:=[6],sites:=[24]},{bt:=[2]})],gk:=kY [(3,av.L0.E),(11,av.L1.E)],res:=[some tB]}
noncomputable def av.A:= @cq Tryz.prog av.G av.an 0 Tryz.f151 _ av.st
abbrev av.Ok:=cr @av.A av.aq av.add av.F av.out
noncomputable def av.L0.R:= @cP Tryz.prog av.G av.an 0 Tryz.f151 0 _ av.L0.st
abbrev av.L0.Ok:=fg Tryz.prog av.G av.an 0 Tryz.f151 0 av.L0.st av.L0.aq av.L0.add av.L0.F av.L0.out
noncomputable def av.L1.R:= @cP Tryz.prog av.G av.an 0 Tryz.f151 1 _ av.L1.st
abbrev av.L1.Ok:=fg Tryz.prog av.G av.an 0 Tryz.f151 1 av.L1.st av.L1.aq av.L1.add av.L1.F av.L1.out
theorem av.L0.run:bD av.L0.call av.L0.aq av.L0.add av.L0.F:=fw (fk [.d (.slice tB),.d ti,.d (.slice tB),.d ti,.d ti] fun _=>by kernel_rfl)
theorem av.L0.aF:gg @av.L0.R av.L0.st av.L0.aq av.L0.add av.L0.F av.L0.bM av.L0.Ok:=gj
theorem av.L0.step{R:Type}(slices_2:(List Bs))(size:Int)(t9:(List Bs))(t10:Int)(t11:Int)(kn:AS→Option R)(kx:Exit→AS→Option R):av.L0.R (slices_2,size,t9,t10,t11) kn kx=
  aC ((gM t11 t10)) (
   aC (dY t11 (((List.length t9):Nat):Int)) (
   aC ((gM (bw .i64 size (((List.length (nth tB t9 (Int.toNat t11))):Nat):Int)) (0:Int))) (
    none) (
    kn (av.L0.st (slices_2,(bw .i64 size (((List.length (nth tB t9 (Int.toNat t11))):Nat):Int)),t9,t10,(bw .i64 t11 (1:Int)))))) none) (
   kx (av.L0.bM (slices_2,size)).1 (av.L0.bM (slices_2,size)).2):=by kernel_rfl
theorem av.L1.run:bD av.L1.call av.L1.aq av.L1.add av.L1.F:=fw (fk [.n,.d (.slice tB),.d ti,.d ti,.d tB] fun _=>by kernel_rfl)
theorem av.L1.aF:gg @av.L1.R av.L1.st av.L1.aq av.L1.add av.L1.F av.L1.bM av.L1.Ok:=gj
theorem av.L1.step{R:Type}(newsliceL:Nat)(t25:(List Bs))(t26:Int)(t27:Int)(n24:(List Int))(kn:AS→Option R)(kx:Exit→AS→Option R):av.L1.R (newsliceL,t25,t26,t27,n24) kn kx=
  aC ((gM t27 t26)) (
   aC (dY t27 (((List.length t25):Nat):Int)) (
   aC (decide (newsliceL≤(List.length n24))) (
   aC (dK (newsliceL+(List.length (nth tB t25 (Int.toNat t27)))) 1) (
   kn (av.L1.st ((newsliceL+(List.length (nth tB t25 (Int.toNat t27)))),t25,t26,(bw .i64 t27 (1:Int)),((List.take newsliceL n24)++(nth tB t25 (Int.toNat t27)))))) none) none) none) (
   kx (av.L1.bM (newsliceL,n24)).1 (av.L1.bM (newsliceL,n24)).2):=by kernel_rfl
theorem av.eq{R:Type}(slices:(List Bs))(k:aT→Option R):av.A slices k=
 ab (av.L0.call (slices,(0:Int),slices,(((List.length slices):Nat):Int),(0:Int))) fun x1=>
 ab (eM.call x1.2) fun x2=>
 ab (av.L1.call (x2.1,x1.1,(((List.length x1.1):Nat):Int),(0:Int),x2.2)) fun x3=>
 aC (decide (0=0∧(0+x3.1)≤(List.length x3.2))) (
 k (av.out (cut x3.2 0 x3.1))) none:=by kernel_rfl
theorem B3(s:List (List Int))(k:Nat)(h:k < s.length):kH (s.drop k)=s[k].length+kH (s.drop (k+1)):=by
 unfold kH
 rw[List.drop_eq_getElem_cons h,List.flatten_cons,List.length_append]
theorem av.L0.ok:av.L0.Ok:=by
 refine av.L0.aF (fun(s,size,t,n,i)=>s.length - i.toNat) ?_
 rintro⟨s,size,t,n,i⟩ ⟨hs,rfl,rfl,k,z,hk,rfl,rfl,hz⟩
 have hs:t.length≤1000000:=hs
 have hk:k≤t.length:=hk
 have hz:z+kH (t.drop k)≤100000000:=hz
 by_cases h:k < t.length
 ·left
  have n1:nth (.slice (.int .u8)) t k=t[k]:=dT (t:= .slice (.int .u8)) h
  have hd:=B3 t k h
  refine⟨(t,((z+t[k].length:Nat):Int),t,t.length,((k+1:Nat):Int)),⟨hs,rfl,rfl,k+1,z+t[k].length,by omega,rfl,rfl,by omega⟩,by simp only[Int.toNat_natCast];omega,?_,fun kn kx=> ?_⟩
  ·simp only[av.L0.add,av.L0.F,Int.toNat_natCast]
   rw[hd]
   refine congrArg _ ?_
   omega
  ·rw[av.L0.step]
   simp(disch:=omega) only[↓S1,↓if_pos,↓if_neg,if_pos,if_neg,if_true,if_false,S2,n1]
 ·right
  obtain rfl:k=t.length:=by omega
  intro R kn kx
  rw[av.L0.step]
  simp(disch:=omega) only[↓S1,↓if_pos,↓if_neg,if_pos,if_neg,if_true,if_false,S2,av.L0.add,av.L0.F,List.drop_length]
  simp only[kH,List.flatten_nil,List.length_nil,Int.natCast_zero,Int.add_zero]
theorem av.L1.ok:av.L1.Ok:=by
 refine av.L1.aF (fun(n,s,t,i,l)=>s.length - i.toNat) ?_
 rintro⟨n,s,t,i,l⟩ ⟨hs,hn,rfl,k,hk,rfl,hz⟩
 have hs:s.length≤1000000:=hs
 have hn:n≤l.length:=hn
 have hk:k≤s.length:=hk
 have hz:n+kH (s.drop k)≤100000000:=hz
 by_cases h:k < s.length
 ·left
  have n1:nth (.slice (.int .u8)) s k=s[k]:=dT (t:= .slice (.int .u8)) h
  have hd:=B3 s k h
  refine⟨(n+s[k].length,s,s.length,((k+1:Nat):Int),l.take n++s[k]),⟨hs,by rw[List.length_append,List.length_take];omega,rfl,k+1,by omega,rfl,by omega⟩,by simp only[Int.toNat_natCast];omega,?_,fun kn kx=> ?_⟩
  ·simp only[av.L1.add,av.L1.F,Int.toNat_natCast]
   rw[List.drop_eq_getElem_cons h,CG _ _ _ _ hn]
  ·rw[av.L1.step]
   simp(disch:=omega) only[↓S1,↓if_pos,↓if_neg,if_pos,if_neg,if_true,if_false,S2,n1]
 ·right
  obtain rfl:k=s.length:=by omega
  intro R kn kx
  rw[av.L1.step]
  simp(disch:=omega) only[↓S1,↓if_pos,↓if_neg,if_pos,if_neg,if_true,if_false,S2,av.L1.add,av.L1.F,List.drop_length]
  rfl
theorem av.ok:av.Ok:=by
 rintro s ⟨hs,hz⟩
 have hs:s.length≤1000000:=hs
 have hz:kH s≤100000000:=hz
 have p1:av.L0.aq (s,0,s,s.length,0):=⟨hs,rfl,rfl,0,0,by omega,rfl,rfl,by rw[List.drop_zero];omega⟩
 have p2:av.L1.aq (0,s,s.length,0,List.replicate (kH s) 0):=⟨hs,by omega,rfl,0,by omega,rfl,by rw[List.drop_zero];omega⟩
 rw[av.eq,av.L0.run p1]
 simp only[aa,av.L0.add,av.L0.F,Int.toNat_zero,List.drop_zero,Int.zero_add]
 rw[eM.run (d:=((kH s:Nat):Int)) ⟨kH s,rfl,hz⟩]
 simp only[aa,eM.add,eM.F,Int.toNat_natCast]
 rw[av.L1.run p2]
 simp only[aa,av.L1.add,av.L1.F,Int.toNat_zero,List.drop_zero]
 obtain⟨c1,c2⟩:=FB 0 (List.replicate (kH s) 0) s
 simp only[Nat.zero_add,c1,and_self,decide_true,ah,c2]
 rfl
noncomputable def av.E:=Entry.cF [some (.slice tB)] av.st av.aq av.add av.F av.out
noncomputable def av.call:av.D→Option av.X:=bC av.E av.st
theorem av.run:bD av.call av.aq av.add av.F:=cz (cv [.d (.slice tB)] fun _=>by kernel_rfl)
noncomputable def av.sg:SG Tryz.prog:=⟨151,aK,av.E,.fn 2 (by kernel_rfl) av.ok (And.intro (.cF av.L0.ok (by kernel_rfl)) (And.intro (.cF av.L1.ok (by kernel_rfl)) trivial))⟩
abbrev dZ.D:=Bs×Bs
def dZ.st:dZ.D→SA:=fun(b,more)=>([.d tB b,.d tB more],[])
abbrev dZ.Y:=Bs
abbrev dZ.X:=Bs
def dZ.out:dZ.X→aT:=fun x=>⟨.d tB x,[],[]⟩
def dZ.add:dZ.D→dZ.Y→dZ.X:=fun(b,more) y=>y
def dZ.aq:dZ.D→Prop:=fun(a,b)=>a.length+b.length≤100000000
def dZ.F:dZ.D→dZ.Y:=fun(a,b)=>a++b
noncomputable def dZ.G:dX:=eX (P:=Tryz.prog) [av.sg]
noncomputable def dZ.an:ej:= {}
noncomputable def dZ.A:= @cq Tryz.prog dZ.G dZ.an 0 Tryz.f149 _ dZ.st
abbrev dZ.Ok:=cr @dZ.A dZ.aq dZ.add dZ.F dZ.out
theorem dZ.eq{R:Type}(b:Bs)(more:Bs)(k:aT→Option R):dZ.A (b,more) k=
 ab (av.call [b,more]) fun x1=>
 k (dZ.out x1):=by kernel_rfl
theorem dZ.ok:dZ.Ok:=by
 rintro⟨a,b⟩ h
 have h:a.length+b.length≤100000000:=h
 rw[dZ.eq,av.run (d:=[a,b]) ⟨by show [a,b].length≤_;simp,by show kH [a,b]≤_;simp only[kH,List.flatten_cons,List.flatten_nil,List.append_nil,List.length_append];omega⟩]
 simp only[aa,av.add,av.F,dZ.add,dZ.F,List.flatten_cons,List.flatten_nil,List.append_nil]
noncomputable def dZ.E:=Entry.cF [some tB,some tB] dZ.st dZ.aq dZ.add dZ.F dZ.out
noncomputable def dZ.call:dZ.D→Option dZ.X:=bC dZ.E dZ.st
theorem dZ.run:bD dZ.call dZ.aq dZ.add dZ.F:=cz (cv [.d tB,.d tB] fun _=>by kernel_rfl)
noncomputable def dZ.sg:SG Tryz.prog:=⟨149,aK,dZ.E,.fn 0 (by kernel_rfl) dZ.ok trivial⟩
set_option synthInstance.maxSize 5000
def jF:Nat→Int→List Int×Int
 | 0,n=>([],n)
 |f+1,n=>if 128≤n then((n%128+128)::(jF f (n / 128)).1,(jF f (n / 128)).2) else([],n)
def vu(n:Int):List Int:=(jF 10 n).1++ [(jF 10 n).2]
theorem xd:∀(f g:Nat) (n:Int),n < 128^(f+1)→n < 128^(g+1)→jF f n=jF g n
 | 0,0,n,_,_=>rfl
 | 0,g+1,n,h,_=>by
  have h:n < 128:=h
  rw[jF,jF,if_neg (by omega)]
 |f+1,0,n,_,h=>by
  have h:n < 128:=h
  rw[jF,jF,if_neg (by omega)]
 |f+1,g+1,n,h,h'=>by
  rw[jF,jF]
  split
  ·have e:(128:Int)^(f+1+1)=128^(f+1)*128:=Int.pow_succ 128 (f+1)
   have e':(128:Int)^(g+1+1)=128^(g+1)*128:=Int.pow_succ 128 (g+1)
   rw[xd f g (n / 128) (by omega) (by omega)]
  ·rfl
theorem vp:∀(f:Nat) (n:Int),(jF f n).1.length≤f
 | 0,_=>Nat.le_refl _
 |f+1,n=>by
  rw[jF]
  split
  ·have:=vp f (n / 128)
   simp only[List.length_cons];omega
  ·exact Nat.zero_le _
theorem xc:∀(f:Nat) (n:Int),0≤n→n < 128^(f+1)→0≤(jF f n).2∧(jF f n).2 < 128
 | 0,n,h,h'=>by have h':n < 128:=h';exact⟨h,h'⟩
 |f+1,n,h,h'=>by
  rw[jF]
  have e:(128:Int)^(f+1+1)=128^(f+1)*128:=Int.pow_succ 128 (f+1)
  split
  ·exact xc f (n / 128) (by omega) (by omega)
  ·exact⟨h,by omega⟩
theorem Df{n:Int}(h:128≤n)(h2:n≤9223372036854775807):jF 10 n=((n%128+128)::(jF 10 (n / 128)).1,(jF 10 (n / 128)).2):=by
 have e:(128:Int)^(9+1)=1180591620717411303424:=rfl
 have e2:(128:Int)^(10+1)=151115727451828646838272:=rfl
 rw[jF,if_pos h,xd 9 10 (n / 128) (by rw[e];omega) (by rw[e2];omega)]
theorem rK(n:Int):(vu n).length≤11:=by
 have:=vp 10 n
 unfold vu
 simp only[List.length_append,List.length_cons,List.length_nil];omega
def Dx(n:Int):Prop:=0≤n∧n≤9223372036854775807
abbrev da.L0.D:=Int×Nat×(List Int)
def da.L0.st:da.L0.D→AS:=fun(n_2,outL,n14)=>⟨([.d ti n_2,.undef,.undef,.cT (.new 14 0) 0 [] 0 0 outL]++bu 16 []),[],(cw 14 ([[.obj 0 false (.vec 5 tb n14)]]++cw 5 []))⟩
abbrev da.L0.Y0:=Int×Nat×(List Int)
abbrev da.L0.X0:=Int×Nat×(List Int)
def da.L0.bM:da.L0.X0→Exit×AS:=fun x=>(.exit 0,⟨([.d ti x.1,.undef,.undef,.cT (.new 14 0) 0 [] 0 0 x.2.1]++bu 16 []),[],(cw 14 ([[.obj 0 false (.vec 5 tb x.2.2)]]++cw 5 []))⟩)
abbrev da.L0.X:=da.L0.X0
abbrev da.L0.Y:=da.L0.Y0
def da.L0.out:da.L0.X→Out (Exit×AS):=fun x=> .ok (da.L0.bM x)
def da.L0.add:da.L0.D→da.L0.Y→da.L0.X:=fun(n_2,outL,n14) y=>y
abbrev da.D:=Int
def da.st:da.D→SA:=fun n=>([.d ti n],[])
abbrev da.Y:=Bs
abbrev da.X:=Bs
def da.out:da.X→aT:=fun x=>⟨.d tB x,[],[]⟩
def da.add:da.D→da.Y→da.X:=fun n y=>y
def da.L0.aq:da.L0.D→Prop:=fun(n,m,l)=>Dx n∧m=l.length∧l.length≤1000+0*n.toNat∧l.length+(jF 10 n).1.length≤100
def da.L0.F:da.L0.D→da.L0.Y:=fun(n,m,l)=>((jF 10 n).2,(l++(jF 10 n).1).length,l++(jF 10 n).1)
def da.aq:da.D→Prop:=fun n=>Dx n
def da.F:da.D→da.Y:=fun n=>vu n
noncomputable def da.G:dX:=eX (P:=Tryz.prog) []
noncomputable def da.L0.E:=cf.cF da.L0.st da.L0.aq da.L0.add da.L0.F da.L0.out
noncomputable def da.L0.call:da.L0.D→Option da.L0.X:=dO da.L0.E da.L0.st
noncomputable def da.an:ej:= {loops:=ky [(2,{bt:=[0,3],sites:=[14],kc:=[⟨3,[],14,135⟩]})],outs:=kr [(2,{bt:=[0,3],sites:=[14]},{bt:=[2]})],gk:=kY [(2,da.L0.E)],res:=[some tB]}
noncomputable def da.A:= @cq Tryz.prog da.G da.an 0 Tryz.f150 _ da.st
abbrev da.Ok:=cr @da.A da.aq da.add da.F da.out
noncomputable def da.L0.R:= @cP Tryz.prog da.G da.an 0 Tryz.f150 0 _ da.L0.st
abbrev da.L0.Ok:=fg Tryz.prog da.G da.an 0 Tryz.f150 0 da.L0.st da.L0.aq da.L0.add da.L0.F da.L0.out
theorem da.L0.run:bD da.L0.call da.L0.aq da.L0.add da.L0.F:=fw (fk [.d ti,.n,.d tB] fun _=>by kernel_rfl)
theorem da.L0.aF:gg @da.L0.R da.L0.st da.L0.aq da.L0.add da.L0.F da.L0.bM da.L0.Ok:=gj
theorem da.L0.step{R:Type}(n_2:Int)(outL:Nat)(n14:(List Int))(kn:AS→Option R)(kx:Exit→AS→Option R):da.L0.R (n_2,outL,n14) kn kx=
  aC ((kX n_2 (128:Int))) (
   aC (decide (outL≤(List.length n14))) (
   aC (dK (outL+1) 1) (
   kn (da.L0.st ((kV .i64 n_2 (128:Int)),(outL+1),((List.take outL n14)++ [(dI .u8 (bw .i64 (gd n_2 (128:Int)) (128:Int)))])))) none) none) (
   kx (da.L0.bM (n_2,outL,n14)).1 (da.L0.bM (n_2,outL,n14)).2):=by kernel_rfl
theorem da.eq{R:Type}(n:Int)(k:aT→Option R):da.A n k=
 ab (da.L0.call (n,0,([]:List Int))) fun x1=>
 aC (decide (x1.2.1≤(List.length x1.2.2))) (
 aC (dK (x1.2.1+1) 1) (
 aC (decide (0=0∧(0+(x1.2.1+1))≤(List.length ((List.take x1.2.1 x1.2.2)++ [(dI .u8 x1.1)])))) (
 k (da.out (cut ((List.take x1.2.1 x1.2.2)++ [(dI .u8 x1.1)]) 0 (x1.2.1+1)))) none) none) none:=by kernel_rfl
theorem DU{n:Int}(h:Dx n):dI .u8 (bw .i64 (gd n 128) 128)=n%128+128:=by
 have h1:=h.1
 rw[ik h.1,dL (by omega) (by omega),uO,gL]
 omega
theorem da.L0.ok:da.L0.Ok:=by
 refine da.L0.aF (fun(n,m,l)=>n.toNat) ?_
 rintro⟨n,m,l⟩ ⟨hn,rfl,hl,hz⟩
 have hn:Dx n:=hn
 have hz:l.length+(jF 10 n).1.length≤100:=hz
 have h1:=hn.1
 have h2:=hn.2
 by_cases h:128≤n
 ·left
  have e:=Df h h2
  have hq:kV .i64 n 128=n / 128:=by
   rw[kV,Int.tdiv_eq_ediv_of_nonneg h1]
   exact lJ (by omega) (by omega)
  have el:((n%128+128)::(jF 10 (n / 128)).1).length=(jF 10 (n / 128)).1.length+1:=List.length_cons
  rw[e]at hz
  have hz:l.length+((n%128+128)::(jF 10 (n / 128)).1).length≤100:=hz
  rw[el]at hz
  refine⟨(n / 128,l.length+1,l++ [n%128+128]),⟨⟨by omega,by omega⟩,by rw[List.length_append];rfl,by rw[List.length_append];simp only[List.length_cons,List.length_nil];omega,by rw[List.length_append];simp only[List.length_cons,List.length_nil];omega⟩,by simp only[];omega,?_,fun kn kx=> ?_⟩
  ·simp only[da.L0.add,da.L0.F,e,List.append_assoc,List.cons_append,List.nil_append]
  ·rw[da.L0.step,gQ h,DU hn,hq]
   simp(disch:=omega) only[↓S1,↓if_pos,↓if_neg,if_pos,if_neg,if_true,if_false,S2,Nat.le_refl,List.take_length]
 ·right
  have e:jF 10 n=([],n):=by rw[jF,if_neg h]
  intro R kn kx
  rw[da.L0.step,fx h]
  simp only[ae,da.L0.add,da.L0.F,e,List.append_nil]
theorem da.ok:da.Ok:=by
 intro n hn
 have hn:Dx n:=hn
 have hl:=vp 10 n
 have e2:(128:Int)^(10+1)=151115727451828646838272:=rfl
 have hd:=xc 10 n hn.1 (by have:=hn.2;rw[e2];omega)
 have p:da.L0.aq (n,0,[]):=⟨hn,rfl,by simp,by simp only[List.length_nil];omega⟩
 have hi:dI .u8 (jF 10 n).2=(jF 10 n).2:=by rw[uO,gL];omega
 rw[da.eq,da.L0.run p]
 simp only[aa,da.L0.add,da.L0.F,List.nil_append,hi,List.take_length,Nat.le_refl,decide_true,ah]
 rw[eO (by omega) (by omega)]
 simp only[ah,Nat.zero_add,List.length_append,List.length_cons,List.length_nil,Nat.le_refl,and_self,decide_true]
 rw[gG (by rw[List.length_append];rfl)]
 rfl
noncomputable def da.E:=Entry.cF [some ti] da.st da.aq da.add da.F da.out
noncomputable def da.call:da.D→Option da.X:=bC da.E da.st
theorem da.run:bD da.call da.aq da.add da.F:=cz (cv [.d ti] fun _=>by kernel_rfl)
noncomputable def da.sg:SG Tryz.prog:=⟨150,aK,da.E,.fn 1 (by kernel_rfl) da.ok (And.intro (.cF da.L0.ok (by kernel_rfl)) trivial)⟩
def fT(b:List Int)(n:Int):List Int:=if n < 0 then b else b++vu n
theorem gR(b:List Int)(n:Int):(fT b n).length≤b.length+11:=by
 unfold fT
 have:=rK n
 split
 ·omega
 ·rw[List.length_append];omega
abbrev eA.D:=Bs×Int
def eA.st:eA.D→SA:=fun(b,n)=>([.d tB b,.d ti n],[])
abbrev eA.Y:=Bs
abbrev eA.X:=Bs
def eA.out:eA.X→aT:=fun x=>⟨.d tB x,[],[]⟩
def eA.add:eA.D→eA.Y→eA.X:=fun(b,n) y=>y
def eA.aq:eA.D→Prop:=fun(b,n)=>b.length≤90000000∧n≤9223372036854775807
def eA.F:eA.D→eA.Y:=fun(b,n)=>fT b n
noncomputable def eA.G:dX:=eX (P:=Tryz.prog) [dZ.sg,da.sg]
noncomputable def eA.an:ej:= {}
noncomputable def eA.A:= @cq Tryz.prog eA.G eA.an 0 Tryz.f107 _ eA.st
abbrev eA.Ok:=cr @eA.A eA.aq eA.add eA.F eA.out
theorem eA.eq{R:Type}(b:Bs)(n:Int)(k:aT→Option R):eA.A (b,n) k=
  aC ((gM n (0:Int))) (
   ab (dZ.call (b,([]:List Int))) fun x1=>
   k (eA.out x1)) (
   ab (da.call n) fun x2=>
   ab (dZ.call (b,x2)) fun x3=>
   k (eA.out x3)):=by kernel_rfl
theorem eA.ok:eA.Ok:=by
 rintro⟨b,n⟩ ⟨hb,hn⟩
 have hb:b.length≤90000000:=hb
 have hn:n≤9223372036854775807:=hn
 rw[eA.eq]
 simp only[eA.add,eA.F,fT]
 by_cases h:n < 0
 ·rw[bB h,if_pos h,ah,dZ.run (d:=(b,[])) (by show b.length+([]:List Int).length≤_;simp only[List.length_nil];omega)]
  simp only[aa,dZ.add,dZ.F,List.append_nil]
 ·have hl:=rK n
  rw[bm h,if_neg h,ae,da.run (d:=n) ⟨by omega,hn⟩]
  simp only[aa,da.add,da.F]
  rw[dZ.run (d:=(b,vu n)) (by show b.length+(vu n).length≤_;omega)]
  rfl
noncomputable def eA.E:=Entry.cF [some tB,some ti] eA.st eA.aq eA.add eA.F eA.out
noncomputable def eA.call:eA.D→Option eA.X:=bC eA.E eA.st
theorem eA.run:bD eA.call eA.aq eA.add eA.F:=cz (cv [.d tB,.d ti] fun _=>by kernel_rfl)
noncomputable def eA.sg:SG Tryz.prog:=⟨107,aK,eA.E,.fn 0 (by kernel_rfl) eA.ok trivial⟩
abbrev eK.D:=Bs×Int
def eK.st:eK.D→SA:=fun(b,n)=>([.d tB b,.d tu n],[])
abbrev eK.Y:=Bs
abbrev eK.X:=Bs
def eK.out:eK.X→aT:=fun x=>⟨.d tB x,[],[]⟩
def eK.add:eK.D→eK.Y→eK.X:=fun(b,n) y=>y
def eK.aq:eK.D→Prop:=fun(b,n)=>b.length≤90000000
def eK.F:eK.D→eK.Y:=fun(b,n)=>b++iy n
noncomputable def eK.G:dX:=eX (P:=Tryz.prog) [dZ.sg]
noncomputable def eK.an:ej:= {loops:=ky [(3,{bt:=[0,1,5,7],sites:=[5,21]})],outs:=kr [(3,{bt:=[0,5],sites:=[5,21]},{bt:=[4],sites:=[5,21]})]}
noncomputable def eK.A:= @cq Tryz.prog eK.G eK.an 12 Tryz.f152 _ eK.st
abbrev eK.Ok:=cr @eK.A eK.aq eK.add eK.F eK.out
theorem eK.eq{R:Type}(b:Bs)(n:Int)(k:aT→Option R):eK.A (b,n) k=
 ab (dZ.call (b,[(dI .u8 (bW .u64 n (56:Int))),(dI .u8 (bW .u64 n (48:Int))),(dI .u8 (bW .u64 n (40:Int))),(dI .u8 (bW .u64 n (32:Int))),(dI .u8 (bW .u64 n (24:Int))),(dI .u8 (bW .u64 n (16:Int))),(dI .u8 (bW .u64 n (8:Int))),(dI .u8 (bW .u64 n (0:Int)))])) fun x1=>
 k (eK.out x1):=by kernel_rfl
theorem eK.ok:eK.Ok:=by
 rintro⟨b,n⟩ hb
 have hb:b.length≤90000000:=hb
 have p:dZ.aq (b,iy n):=by show b.length+(iy n).length≤_;rw[cM];omega
 have e:dZ.call (b,[dI .u8 (bW .u64 n 56),dI .u8 (bW .u64 n 48),dI .u8 (bW .u64 n 40),dI .u8 (bW .u64 n 32),dI .u8 (bW .u64 n 24),dI .u8 (bW .u64 n 16),dI .u8 (bW .u64 n 8),dI .u8 (bW .u64 n 0)])=some (b++iy n):=by
  rw[uq];exact dZ.run p
 rw[eK.eq]
 refine Eq.trans (congrArg (fun x=>ab x _) e) ?_
 rfl
noncomputable def eK.E:=Entry.cF [some tB,some tu] eK.st eK.aq eK.add eK.F eK.out
noncomputable def eK.call:eK.D→Option eK.X:=bC eK.E eK.st
theorem eK.run:bD eK.call eK.aq eK.add eK.F:=cz (cv [.d tB,.d tu] fun _=>by kernel_rfl)
noncomputable def eK.sg:SG Tryz.prog:=⟨152,aK,eK.E,.fn 1 (by kernel_rfl) eK.ok (And.intro (.none (by kernel_rfl)) trivial)⟩
set_option synthInstance.maxSize 5000
def oP(w:At):Bool:=decide (0≤w.1∧w.1 < 4) && decide (w.2.1.length≤12)
def sB(x:jc):Bool:=decide (0≤x.1.2.1∧x.1.2.1 < 64) && oP x.2.1
def re(m:List (oQ×Bool))(x:jc):Bool:=(ki qf x.1 m).getD false
def oq:List (oQ×Bool)→List jc→Bool
 |_,[]=>true
 |m,x::l=>(!(re m x) && sB x) && oq (kK qf x.1 true m) l
def nv(a:Int):Bool:=decide (0≤a∧a≤1125899906842624)
def nN(a b:Int):Bool:=nv a && (nv b && decide (a+b≤1125899906842624))
def kO:Int→List jA→Bool
 |_,[]=>true
 |s,o::l=>(nN s o.1 && iV o.2.1) && kO (s+o.1) l
def qM(t:gX):Bool:=decide (1≤t.1.length∧t.1.length≤64∧t.2.1.length≤64∧0≤t.2.2.1)
def iq(t:gX):Bool:=qM t && (oq [] t.1 && kO 0 t.2.1)
def nX(l:Lk):Prop:=GI l∧l.1.length≤9223372036854775807
def Jl(t:gX):Prop:=(∀o∈t.2.1,nX o.2.1)∧t.1.length≤9223372036854775807∧t.2.1.length≤9223372036854775807
abbrev fK.D:=At
def fK.st:fK.D→SA:=fun wv=>([.d It wv],[])
abbrev fK.Y:=Bool
abbrev fK.X:=Bool
def fK.out:fK.X→aT:=fun x=>⟨.d .bool x,[],[]⟩
def fK.add:fK.D→fK.Y→fK.X:=fun wv y=>y
def fK.aq:fK.D→Prop:=fun _=>True
def fK.F:fK.D→fK.Y:=fun w=>oP w
noncomputable def fK.G:dX:=eX (P:=Tryz.prog) []
noncomputable def fK.an:ej:= {}
noncomputable def fK.A:= @cq Tryz.prog fK.G fK.an 0 Tryz.f103 _ fK.st
abbrev fK.Ok:=cr @fK.A fK.aq fK.add fK.F fK.out
theorem fK.eq{R:Type}(wv:At)(k:aT→Option R):fK.A wv k=
  aC ((kX wv.1 (0:Int))) (
   aC ((gM wv.1 (4:Int))) (
    k (fK.out (wX (((List.length wv.2.1):Nat):Int) (12:Int)))) (
    k (fK.out false))) (
   k (fK.out false)):=by kernel_rfl
theorem fK.ok:fK.Ok:=by
 rintro⟨b,ss,sc,u⟩ _
 rw[fK.eq]
 simp only[fK.add,fK.F,oP]
 by_cases h:0≤b
 ·rw[gQ h,ah]
  by_cases h2:b < 4
  ·rw[bB h2,ah,aD ⟨h,h2⟩]
   by_cases h3:ss.length≤12
   ·rw[pg (by omega),aD h3];rfl
   ·rw[ld (by omega),bN h3];rfl
  ·rw[bm h2,ae,bN (fun x=>h2 x.2)];rfl
 ·rw[fx h,ae,bN (fun x=>h x.1)];rfl
noncomputable def fK.E:=Entry.cF [some It] fK.st fK.aq fK.add fK.F fK.out
noncomputable def fK.call:fK.D→Option fK.X:=bC fK.E fK.st
theorem fK.run:bD fK.call fK.aq fK.add fK.F:=cz (cv [.d It] fun _=>by kernel_rfl)
noncomputable def fK.sg:SG Tryz.prog:=⟨103,aK,fK.E,.fn 0 (by kernel_rfl) fK.ok trivial⟩
abbrev dA.D:=Int
def dA.st:dA.D→SA:=fun a=>([.d ti a],[])
abbrev dA.Y:=Bool
abbrev dA.X:=Bool
def dA.out:dA.X→aT:=fun x=>⟨.d .bool x,[],[]⟩
def dA.add:dA.D→dA.Y→dA.X:=fun a y=>y
def dA.aq:dA.D→Prop:=fun _=>True
def dA.F:dA.D→dA.Y:=fun a=>nv a
noncomputable def dA.G:dX:=eX (P:=Tryz.prog) []
noncomputable def dA.an:ej:= {}
noncomputable def dA.A:= @cq Tryz.prog dA.G dA.an 0 Tryz.f145 _ dA.st
abbrev dA.Ok:=cr @dA.A dA.aq dA.add dA.F dA.out
theorem dA.eq{R:Type}(a:Int)(k:aT→Option R):dA.A a k=
  aC ((kX a (0:Int))) (
   k (dA.out (wX a (1125899906842624:Int)))) (
   k (dA.out false)):=by kernel_rfl
theorem dA.ok:dA.Ok:=by
 intro(a:Int) _
 rw[dA.eq]
 simp only[dA.add,dA.F,nv]
 by_cases h:0≤a
 ·rw[gQ h,ah]
  by_cases h2:a≤1125899906842624
  ·rw[pg h2,aD ⟨h,h2⟩]
  ·rw[ld h2,bN (fun x=>h2 x.2)]
 ·rw[fx h,ae,bN (fun x=>h x.1)]
noncomputable def dA.E:=Entry.cF [some ti] dA.st dA.aq dA.add dA.F dA.out
noncomputable def dA.call:dA.D→Option dA.X:=bC dA.E dA.st
theorem dA.run:bD dA.call dA.aq dA.add dA.F:=cz (cv [.d ti] fun _=>by kernel_rfl)
noncomputable def dA.sg:SG Tryz.prog:=⟨145,aK,dA.E,.fn 0 (by kernel_rfl) dA.ok trivial⟩
abbrev fG.D:=Int×Int
def fG.st:fG.D→SA:=fun(a,b)=>([.d ti a,.d ti b],[])
abbrev fG.Y:=Int×Bool
abbrev fG.X:=Int×Bool
def fG.out:fG.X→aT:=fun x=>⟨.cons (.d ti x.1) (.cons (.d .bool x.2) (.nil)),[],[]⟩
def fG.add:fG.D→fG.Y→fG.X:=fun(a,b) y=>y
def fG.aq:fG.D→Prop:=fun _=>True
def fG.F:fG.D→fG.Y:=fun(a,b)=>(bif nN a b then a+b else 0,nN a b)
noncomputable def fG.G:dX:=eX (P:=Tryz.prog) [dA.sg]
noncomputable def fG.an:ej:= {}
noncomputable def fG.A:= @cq Tryz.prog fG.G fG.an 0 Tryz.f104 _ fG.st
abbrev fG.Ok:=cr @fG.A fG.aq fG.add fG.F fG.out
theorem fG.eq{R:Type}(a:Int)(b:Int)(k:aT→Option R):fG.A (a,b) k=
  ab (dA.call a) fun x1=>
  aC ((!x1)) (
   k (fG.out ((0:Int),false))) (
   ab (dA.call b) fun x2=>
   aC ((!x2)) (
    k (fG.out ((0:Int),false))) (
    aC ((na a (bS .i64 (1125899906842624:Int) b))) (
     k (fG.out ((0:Int),false))) (
     k (fG.out ((bw .i64 a b),true))))):=by kernel_rfl
theorem fG.ok:fG.Ok:=by
 rintro⟨a,b⟩ _
 rw[fG.eq,dA.run (d:=a) trivial,dA.run (d:=b) trivial]
 simp only[aa,dA.add,dA.F,fG.add,fG.F,nN]
 cases ha:nv a
 ·rfl
 ·cases hb:nv b
  ·rfl
  ·simp only[nv,decide_eq_true_eq]at ha hb
   simp only[Bool.not_true,ae,Bool.true_and]
   rw[fe (by omega) (by omega)]
   by_cases h:a+b≤1125899906842624
   ·rw[cZ (by omega),ae,aD h,dL (by omega) (by omega)];rfl
   ·rw[dS (by omega),ah,bN h];rfl
noncomputable def fG.E:=Entry.cF [some ti,some ti] fG.st fG.aq fG.add fG.F fG.out
noncomputable def fG.call:fG.D→Option fG.X:=bC fG.E fG.st
theorem fG.run:bD fG.call fG.aq fG.add fG.F:=cz (cv [.d ti,.d ti] fun _=>by kernel_rfl)
noncomputable def fG.sg:SG Tryz.prog:=⟨104,aK,fG.E,.fn 0 (by kernel_rfl) fG.ok trivial⟩
abbrev au.L0.D:=gX×(List jc)×Int×Int×(List (oQ×Bool))
def au.L0.st:au.L0.D→AS:=fun(t_2,t33,t34,t35,n31)=>⟨([.undef,.eI kq t_2,.undef,.kL (.new 31 0) 0]++bu 29 ([.d (.slice jV) t33,.d ti t34,.d ti t35]++bu 52 [])),[],(cw 31 ([[.obj 0 false (.mp qf .bool n31)]]++cw 56 []))⟩
abbrev au.L0.Y0:=Unit
abbrev au.L0.X0:=Unit
def au.L0.bM:au.L0.X0→Exit×AS:=fun x=>(.ret,⟨([.undef,.undef,.d .bool false]++bu 85 []),[],(List.replicate 88 [])⟩)
abbrev au.L0.Y1:=Unit
abbrev au.L0.X1:=gX
def au.L0.iG:au.L0.X1→Exit×AS:=fun x=>(.exit 0,⟨([.undef,.eI kq x]++bu 86 []),[],(List.replicate 88 [])⟩)
abbrev au.L0.X:=(au.L0.X0)⊕(au.L0.X1)
abbrev au.L0.Y:=(au.L0.Y0)⊕(au.L0.Y1)
def au.L0.out:au.L0.X→Out (Exit×AS):=fun x=> .br x.isLeft (.get x.getLeft? fun a=> .ok (au.L0.bM a)) (.get x.getRight? fun b=> .ok (au.L0.iG b))
def au.L0.add:au.L0.D→au.L0.Y→au.L0.X:=fun(t_2,t33,t34,t35,n31) y=>match y with | .inl y=> .inl y | .inr z=> .inr (t_2)
abbrev au.L1.D:=Int×(List jA)×Int×Int
def au.L1.st:au.L1.D→AS:=fun(sum,t66,t67,t68)=>⟨(bu 6 ([.d ti sum]++bu 59 ([.d (.slice nb) t66,.d ti t67,.d ti t68]++bu 19 []))),[],(List.replicate 88 [])⟩
abbrev au.L1.Y0:=Unit
abbrev au.L1.X0:=Unit
def au.L1.bM:au.L1.X0→Exit×AS:=fun x=>(.ret,⟨([.undef,.undef,.d .bool false]++bu 85 []),[],(List.replicate 88 [])⟩)
abbrev au.L1.Y1:=Unit
abbrev au.L1.X1:=Unit
def au.L1.iG:au.L1.X1→Exit×AS:=fun x=>(.exit 2,⟨(bu 88 []),[],(List.replicate 88 [])⟩)
abbrev au.L1.X:=(au.L1.X0)⊕(au.L1.X1)
abbrev au.L1.Y:=(au.L1.Y0)⊕(au.L1.Y1)
def au.L1.out:au.L1.X→Out (Exit×AS):=fun x=> .br x.isLeft (.get x.getLeft? fun a=> .ok (au.L1.bM a)) (.get x.getRight? fun b=> .ok (au.L1.iG b))
def au.L1.add:au.L1.D→au.L1.Y→au.L1.X:=fun(sum,t66,t67,t68) y=>match y with | .inl y=> .inl y | .inr z=> .inr (z)
abbrev au.D:=gX
def au.st:au.D→SA:=fun t=>([.d kq t],[])
abbrev au.Y:=Bool
abbrev au.X:=Bool
def au.out:au.X→aT:=fun x=>⟨.d .bool x,[],[]⟩
def au.add:au.D→au.Y→au.X:=fun t y=>y
def au.L0.aq:au.L0.D→Prop:=fun(t,l,n,i,m)=>l.length≤9223372036854775807∧n=l.length∧∃k:Nat,k≤l.length∧i=k
def au.L0.F:au.L0.D→au.L0.Y:=fun(t,l,n,i,m)=>if oq m (l.drop i.toNat) then .inr () else .inl ()
def au.L1.aq:au.L1.D→Prop:=fun(s,l,n,i)=>(∀o∈l,nX o.2.1)∧l.length≤9223372036854775807∧n=l.length∧∃k:Nat,k≤l.length∧i=k
def au.L1.F:au.L1.D→au.L1.Y:=fun(s,l,n,i)=>if kO s (l.drop i.toNat) then .inr () else .inl ()
def au.aq:au.D→Prop:=fun t=>Jl t
def au.F:au.D→au.Y:=fun t=>iq t
noncomputable def au.G:dX:=eX (P:=Tryz.prog) [fK.sg,fG.sg,aQ.sg]
noncomputable def au.L0.E:=cf.cF au.L0.st au.L0.aq au.L0.add au.L0.F au.L0.out
noncomputable def au.L0.call:au.L0.D→Option au.L0.X:=dO au.L0.E au.L0.st
noncomputable def au.L1.E:=cf.cF au.L1.st au.L1.aq au.L1.add au.L1.F au.L1.out
noncomputable def au.L1.call:au.L1.D→Option au.L1.X:=dO au.L1.E au.L1.st
noncomputable def au.an:ej:= {loops:=ky [(5,{bt:=[1,3,33,34,35],sites:=[31]}),(13,{bt:=[6,66,67,68]})],outs:=kr [(5,{bt:=[1]},{bt:=[2]}),(13,{},{bt:=[2]})],gk:=kY [(5,au.L0.E),(13,au.L1.E)]}
noncomputable def au.A:= @cq Tryz.prog au.G au.an 0 Tryz.f50 _ au.st
abbrev au.Ok:=cr @au.A au.aq au.add au.F au.out
noncomputable def au.L0.R:= @cP Tryz.prog au.G au.an 0 Tryz.f50 0 _ au.L0.st
abbrev au.L0.Ok:=fg Tryz.prog au.G au.an 0 Tryz.f50 0 au.L0.st au.L0.aq au.L0.add au.L0.F au.L0.out
noncomputable def au.L1.R:= @cP Tryz.prog au.G au.an 0 Tryz.f50 1 _ au.L1.st
abbrev au.L1.Ok:=fg Tryz.prog au.G au.an 0 Tryz.f50 1 au.L1.st au.L1.aq au.L1.add au.L1.F au.L1.out
theorem au.L0.run:bD au.L0.call au.L0.aq au.L0.add au.L0.F:=fw (fk [.d kq,.d (.slice jV),.d ti,.d ti,.d (.slice (.pair qf .bool))] fun _=>by kernel_rfl)
theorem au.L0.aF:oU @au.L0.R au.L0.st au.L0.aq au.L0.add au.L0.F au.L0.out au.L0.Ok:=p9
theorem au.L0.step{R:Type}(t_2:gX)(t33:(List jc))(t34:Int)(t35:Int)(n31:(List (oQ×Bool)))(kn:AS→Option R)(kx:Exit→AS→Option R):au.L0.R (t_2,t33,t34,t35,n31) kn kx=
  aC ((gM t35 t34)) (
   aC (dY t35 (((List.length t33):Nat):Int)) (
   aC (((ki qf (nth jV t33 (Int.toNat t35)).1 n31).getD false)) (
    kx (au.L0.bM ()).1 (au.L0.bM ()).2) (
    aC ((gM (nth jV t33 (Int.toNat t35)).1.2.1 (0:Int))) (
     kx (au.L0.bM ()).1 (au.L0.bM ()).2) (
     aC ((kX (nth jV t33 (Int.toNat t35)).1.2.1 (64:Int))) (
      kx (au.L0.bM ()).1 (au.L0.bM ()).2) (
      ab (fK.call (nth jV t33 (Int.toNat t35)).2.1) fun x8=>
      aC ((!x8)) (
       kx (au.L0.bM ()).1 (au.L0.bM ()).2) (
       kn (au.L0.st (t_2,t33,t34,(bw .i64 t35 (1:Int)),(kK qf (nth jV t33 (Int.toNat t35)).1 true n31)))))))) none) (
   kx (au.L0.iG t_2).1 (au.L0.iG t_2).2):=by kernel_rfl
theorem au.L1.run:bD au.L1.call au.L1.aq au.L1.add au.L1.F:=fw (fk [.d ti,.d (.slice nb),.d ti,.d ti] fun _=>by kernel_rfl)
theorem au.L1.aF:oU @au.L1.R au.L1.st au.L1.aq au.L1.add au.L1.F au.L1.out au.L1.Ok:=p9
theorem au.L1.step{R:Type}(sum:Int)(t66:(List jA))(t67:Int)(t68:Int)(kn:AS→Option R)(kx:Exit→AS→Option R):au.L1.R (sum,t66,t67,t68) kn kx=
  aC ((gM t68 t67)) (
   aC (dY t68 (((List.length t66):Nat):Int)) (
   ab (fG.call (sum,(nth nb t66 (Int.toNat t68)).1)) fun x10=>
   aC ((!x10.2)) (
    kx (au.L1.bM ()).1 (au.L1.bM ()).2) (
    ab (aQ.call (nth nb t66 (Int.toNat t68)).2.1) fun x12=>
    aC ((!x12)) (
     kx (au.L1.bM ()).1 (au.L1.bM ()).2) (
     kn (au.L1.st (x10.1,t66,t67,(bw .i64 t68 (1:Int))))))) none) (
   kx (au.L1.iG ()).1 (au.L1.iG ()).2):=by kernel_rfl
theorem au.eq{R:Type}(t:gX)(k:aT→Option R):au.A t k=
  aC ((gM (((List.length t.1):Nat):Int) (1:Int))) (
   k (au.out false)) (
   aC ((na (((List.length t.1):Nat):Int) (64:Int))) (
    k (au.out false)) (
    aC ((na (((List.length t.2.1):Nat):Int) (64:Int))) (
     k (au.out false)) (
     aC ((gM t.2.2.1 (0:Int))) (
      k (au.out false)) (
      ab (au.L0.call (t,t.1,(((List.length t.1):Nat):Int),(0:Int),([]:List (oQ×Bool)))) fun x12=>
      aC (x12.isLeft) (
       ab (x12.getLeft?) fun a13=>
       k (au.out false)) (
       ab (x12.getRight?) fun b14=>
       ab (au.L1.call ((0:Int),b14.2.1,(((List.length b14.2.1):Nat):Int),(0:Int))) fun x30=>
       aC (x30.isLeft) (
        ab (x30.getLeft?) fun a31=>
        k (au.out false)) (
        ab (x30.getRight?) fun b32=>
        k (au.out true))))))):=by kernel_rfl
theorem au.L0.ok:au.L0.Ok:=by
 refine au.L0.aF (fun(t,l,n,i,m)=>l.length - i.toNat) ?_
 rintro⟨t,l,n,i,m⟩ ⟨hb,rfl,k,hk,rfl⟩
 have hb:l.length≤9223372036854775807:=hb
 have hk:k≤l.length:=hk
 by_cases h:k < l.length
 ·have n1:nth jV l k=l[k]:=dT (t:=jV) h
  have hd:oq m (l.drop k)=((!(re m l[k]) && sB l[k]) && oq (kK qf l[k].1 true m) (l.drop (k+1))):=by rw[List.drop_eq_getElem_cons h];rfl
  have step:∀ {R:Type} (kn:AS→Option R) (kx:Exit→AS→Option R),au.L0.R (t,l,(l.length:Int),(k:Int),m) kn kx=aC (!(re m l[k]) && sB l[k]) (kn (au.L0.st (t,l,(l.length:Int),((k+1:Nat):Int),kK qf l[k].1 true m))) (kx (au.L0.bM ()).1 (au.L0.bM ()).2):=by
   intro R kn kx
   rw[au.L0.step,bB (by omega),bz (by omega) (by omega),Int.toNat_natCast,n1,N.mC (by omega),fK.run (d:=l[k].2.1) trivial]
   simp only[ah,aa,fK.add,fK.F]
   have e:(ki qf l[k].1 m).getD false=re m l[k]:=rfl
   rw[e]
   cases re m l[k]
   ·simp only[Bool.not_false,Bool.true_and,ae,sB]
    by_cases h1:l[k].1.2.1 < 0
    ·rw[bB h1,ah,bN (fun x=>by omega)];rfl
    ·rw[bm h1,ae]
     by_cases h2:64≤l[k].1.2.1
     ·rw[gQ h2,ah,bN (fun x=>by omega)];rfl
     ·rw[fx h2,ae,aD ⟨by omega,by omega⟩]
      cases oP l[k].2.1 <;> rfl
   ·rfl
  cases hp:(!(re m l[k]) && sB l[k])
  ·right
   refine⟨au.L0.bM (),?_,fun kn kx=> ?_⟩
   ·simp only[au.L0.add,au.L0.F,Int.toNat_natCast,hd,hp,Bool.false_and,Bool.false_eq_true,if_false]
    rfl
   ·rw[step,hp,ae]
  ·left
   refine⟨(t,l,l.length,((k+1:Nat):Int),kK qf l[k].1 true m),⟨hb,rfl,k+1,by omega,rfl⟩,by simp only[Int.toNat_natCast];omega,?_,fun kn kx=> ?_⟩
   ·simp only[au.L0.add,au.L0.F,Int.toNat_natCast,hd,hp,Bool.true_and]
   ·rw[step,hp,ah]
 ·right
  obtain rfl:k=l.length:=by omega
  refine⟨au.L0.iG t,?_,fun kn kx=> ?_⟩
  ·simp only[au.L0.add,au.L0.F,Int.toNat_natCast,List.drop_length]
   rfl
  ·rw[au.L0.step]
   simp(disch:=omega) only[↓S1,↓if_pos,↓if_neg,if_pos,if_neg,if_true,if_false,S2]
theorem au.L1.ok:au.L1.Ok:=by
 refine au.L1.aF (fun(s,l,n,i)=>l.length - i.toNat) ?_
 rintro⟨s,l,n,i⟩ ⟨hl,hb,rfl,k,hk,rfl⟩
 have hb:l.length≤9223372036854775807:=hb
 have hk:k≤l.length:=hk
 by_cases h:k < l.length
 ·have hx:nX l[k].2.1:=hl _ (List.getElem_mem h)
  have n1:nth nb l k=l[k]:=dT (t:=nb) h
  have hd:kO s (l.drop k)=((nN s l[k].1 && iV l[k].2.1) && kO (s+l[k].1) (l.drop (k+1))):=by rw[List.drop_eq_getElem_cons h];rfl
  have step:∀ {R:Type} (kn:AS→Option R) (kx:Exit→AS→Option R),au.L1.R (s,l,(l.length:Int),(k:Int)) kn kx=aC (nN s l[k].1 && iV l[k].2.1) (kn (au.L1.st (s+l[k].1,l,(l.length:Int),((k+1:Nat):Int)))) (kx (au.L1.bM ()).1 (au.L1.bM ()).2):=by
   intro R kn kx
   rw[au.L1.step,bB (by omega),bz (by omega) (by omega),Int.toNat_natCast,n1,N.mC (by omega),fG.run (d:=(s,l[k].1)) trivial,aQ.run (d:=l[k].2.1) hx]
   simp only[ah,aa,fG.add,fG.F,aQ.add,aQ.F]
   cases nN s l[k].1
   ·rfl
   ·cases iV l[k].2.1 <;> rfl
  cases hp:(nN s l[k].1 && iV l[k].2.1)
  ·right
   refine⟨au.L1.bM (),?_,fun kn kx=> ?_⟩
   ·simp only[au.L1.add,au.L1.F,Int.toNat_natCast,hd,hp,Bool.false_and,Bool.false_eq_true,if_false]
    rfl
   ·rw[step,hp,ae]
  ·left
   refine⟨(s+l[k].1,l,l.length,((k+1:Nat):Int)),⟨hl,hb,rfl,k+1,by omega,rfl⟩,by simp only[Int.toNat_natCast];omega,?_,fun kn kx=> ?_⟩
   ·simp only[au.L1.add,au.L1.F,Int.toNat_natCast,hd,hp,Bool.true_and]
   ·rw[step,hp,ah]
 ·right
  obtain rfl:k=l.length:=by omega
  refine⟨au.L1.iG (),?_,fun kn kx=> ?_⟩
  ·simp only[au.L1.add,au.L1.F,Int.toNat_natCast,List.drop_length]
   rfl
  ·rw[au.L1.step]
   simp(disch:=omega) only[↓S1,↓if_pos,↓if_neg,if_pos,if_neg,if_true,if_false,S2]
theorem au.ok:au.Ok:=by
 rintro⟨is,os,nt,u⟩ ⟨hl,h1,h2⟩
 have h1:is.length≤9223372036854775807:=h1
 have h2:os.length≤9223372036854775807:=h2
 rw[au.eq,au.L0.run (d:=((is,os,nt,u),is,is.length,0,[])) ⟨h1,rfl,0,by omega,rfl⟩]
 simp only[aa,au.L0.add,au.L0.F,Int.toNat_zero,List.drop_zero,au.add,au.F,iq,qM]
 by_cases a1:is.length < 1
 ·rw[bB (by omega),ah,bN (fun x=>by omega)];rfl
 rw[bm (by omega),ae]
 by_cases a2:64 < is.length
 ·rw[dS (by omega),ah,bN (fun x=>by omega)];rfl
 rw[cZ (by omega),ae]
 by_cases a3:64 < os.length
 ·rw[dS (by omega),ah,bN (fun x=>by omega)];rfl
 rw[cZ (by omega),ae]
 by_cases a4:nt < 0
 ·rw[bB (by omega),ah,bN (fun x=>by omega)];rfl
 rw[bm (by omega),ae,aD ⟨by omega,by omega,by omega,by omega⟩]
 cases oq [] is
 ·rfl
 ·simp only[if_true,Bool.true_and]
  show ab (au.L1.call (0,os,(os.length:Int),0)) _=_
  rw[au.L1.run (d:=(0,os,os.length,0)) ⟨hl,h2,rfl,0,by omega,rfl⟩]
  simp only[aa,au.L1.add,au.L1.F,Int.toNat_zero,List.drop_zero]
  cases kO 0 os <;> rfl
noncomputable def au.E:=Entry.cF [some kq] au.st au.aq au.add au.F au.out
noncomputable def au.call:au.D→Option au.X:=bC au.E au.st
theorem au.run:bD au.call au.aq au.add au.F:=cz (cv [.d kq] fun _=>by kernel_rfl)
noncomputable def au.sg:SG Tryz.prog:=⟨50,aK,au.E,.fn 2 (by kernel_rfl) au.ok (And.intro (.cF au.L0.ok (by kernel_rfl)) (And.intro (.cF au.L1.ok (by kernel_rfl)) trivial))⟩
set_option synthInstance.maxSize 5000
abbrev dq.D:=Bs
def dq.st:dq.D→SA:=fun sv=>([.d tU sv],[])
abbrev dq.Y:=Bs
abbrev dq.X:=Bs
def dq.out:dq.X→aT:=fun x=>⟨.d tU x,[],[]⟩
def dq.add:dq.D→dq.Y→dq.X:=fun sv y=>y
def dq.aq:dq.D→Prop:=fun l=>l.length≤1000000
def dq.F:dq.D→dq.Y:=fun l=>l
noncomputable def dq.G:dX:=eX (P:=Tryz.prog) []
noncomputable def dq.an:ej:= {bZ:=[5],res:=[some tU]}
noncomputable def dq.A:= @cq Tryz.prog dq.G dq.an 0 Tryz.f98 _ dq.st
abbrev dq.Ok:=cr @dq.A dq.aq dq.add dq.F dq.out
theorem dq.eq{R:Type}(sv:Bs)(k:aT→Option R):dq.A sv k=
  aC (decide (0 < (List.length sv))) (
   aC (dK (0+(List.length sv)) 8) (
   aC (decide (0=0∧(0+(0+(List.length sv)))≤(List.length ((List.take 0 (List.replicate 0 (0:Int)))++sv)))) (
   k (dq.out (cut ((List.take 0 (List.replicate 0 (0:Int)))++sv) 0 (0+(List.length sv))))) none) none) (
   nd (
    k (dq.out ([]:List Int))) (
    aC (dK (0+(List.length sv)) 8) (
    aC (decide (0=0∧(0+(0+(List.length sv)))≤(List.length ((List.take 0 (List.replicate 0 (0:Int)))++sv)))) (
    k (dq.out (cut ((List.take 0 (List.replicate 0 (0:Int)))++sv) 0 (0+(List.length sv))))) none) none)):=by kernel_rfl
theorem dq.ok:dq.Ok:=by
 intro l hl
 have hl:l.length≤1000000:=hl
 have hr:dK l.length 8=true:=eO (by omega) (by omega)
 have e0:(List.take 0 (List.replicate 0 0):List Int)=[]:=rfl
 rw[dq.eq]
 simp only[Nat.zero_add,hr,ah,e0,List.nil_append,Nat.le_refl,and_self,decide_true,gG,dq.add,dq.F]
 by_cases h:0 < l.length
 ·simp only[aD h,ah]
 ·have:l=[]:=List.eq_nil_of_length_eq_zero (by omega)
  subst this
  simp only[List.length_nil,pV,bN (Nat.lt_irrefl 0),ae]
noncomputable def dq.E:=Entry.cF [some tU] dq.st dq.aq dq.add dq.F dq.out
noncomputable def dq.call:dq.D→Option dq.X:=bC dq.E dq.st
theorem dq.run:bD dq.call dq.aq dq.add dq.F:=cz (cv [.d tU] fun _=>by kernel_rfl)
noncomputable def dq.sg:SG Tryz.prog:=⟨98,aK,dq.E,.fn 0 (by kernel_rfl) dq.ok trivial⟩
def xx(l:List Int):Lk:=([(l,0,0,0,())],())
def uU(own rev delay:Int):Lk:=([([rev],0,0,0,()),([own],0,delay,0,())],())
def nZ(own:Int):Lk:=([([own],0,0,0,()),([],0,16,0,())],())
abbrev gC.D:=Bs
def gC.st:gC.D→SA:=fun l=>([.d tU l],[])
abbrev gC.Y:=Lk
abbrev gC.X:=Lk
def gC.out:gC.X→aT:=fun x=>⟨.d lV x,[],[]⟩
def gC.add:gC.D→gC.Y→gC.X:=fun l y=>y
def gC.aq:gC.D→Prop:=fun l=>l.length≤1000000
def gC.F:gC.D→gC.Y:=fun l=>xx l
noncomputable def gC.G:dX:=eX (P:=Tryz.prog) [dq.sg]
noncomputable def gC.an:ej:= {}
noncomputable def gC.A:= @cq Tryz.prog gC.G gC.an 0 Tryz.f44 _ gC.st
abbrev gC.Ok:=cr @gC.A gC.aq gC.add gC.F gC.out
theorem gC.eq{R:Type}(l:Bs)(k:aT→Option R):gC.A l k=
 ab (dq.call l) fun x1=>
 k (gC.out ([(x1,((0:Int),((0:Int),((0:Int),()))))],())):=by kernel_rfl
theorem gC.ok:gC.Ok:=by
 intro l hl
 rw[gC.eq,dq.run (d:=l) hl]
 rfl
noncomputable def gC.E:=Entry.cF [some tU] gC.st gC.aq gC.add gC.F gC.out
noncomputable def gC.call:gC.D→Option gC.X:=bC gC.E gC.st
theorem gC.run:bD gC.call gC.aq gC.add gC.F:=cz (cv [.d tU] fun _=>by kernel_rfl)
noncomputable def gC.sg:SG Tryz.prog:=⟨44,aK,gC.E,.fn 0 (by kernel_rfl) gC.ok trivial⟩
abbrev fY.D:=Int
def fY.st:fY.D→SA:=fun p=>([.d tu p],[])
abbrev fY.Y:=Lk
abbrev fY.X:=Lk
def fY.out:fY.X→aT:=fun x=>⟨.d lV x,[],[]⟩
def fY.add:fY.D→fY.Y→fY.X:=fun p y=>y
def fY.aq:fY.D→Prop:=fun _=>True
def fY.F:fY.D→fY.Y:=fun p=>xx [p]
noncomputable def fY.G:dX:=eX (P:=Tryz.prog) [gC.sg]
noncomputable def fY.an:ej:= {}
noncomputable def fY.A:= @cq Tryz.prog fY.G fY.an 0 Tryz.f17 _ fY.st
abbrev fY.Ok:=cr @fY.A fY.aq fY.add fY.F fY.out
theorem fY.eq{R:Type}(p:Int)(k:aT→Option R):fY.A p k=
 ab (gC.call [p]) fun x1=>
 k (fY.out x1):=by kernel_rfl
theorem fY.ok:fY.Ok:=by
 intro p _
 rw[fY.eq,gC.run (d:=[p]) (by show [p].length≤_;simp)]
 rfl
noncomputable def fY.E:=Entry.cF [some tu] fY.st fY.aq fY.add fY.F fY.out
noncomputable def fY.call:fY.D→Option fY.X:=bC fY.E fY.st
theorem fY.run:bD fY.call fY.aq fY.add fY.F:=cz (cv [.d tu] fun _=>by kernel_rfl)
noncomputable def fY.sg:SG Tryz.prog:=⟨17,aK,fY.E,.fn 0 (by kernel_rfl) fY.ok trivial⟩
abbrev eY.D:=Int×Int×Int
def eY.st:eY.D→SA:=fun(own,rev,delay)=>([.d tu own,.d tu rev,.d ti delay],[])
abbrev eY.Y:=Lk
abbrev eY.X:=Lk
def eY.out:eY.X→aT:=fun x=>⟨.d lV x,[],[]⟩
def eY.add:eY.D→eY.Y→eY.X:=fun(own,rev,delay) y=>y
def eY.aq:eY.D→Prop:=fun _=>True
def eY.F:eY.D→eY.Y:=fun(o,r,d)=>uU o r d
noncomputable def eY.G:dX:=eX (P:=Tryz.prog) []
noncomputable def eY.an:ej:= {}
noncomputable def eY.A:= @cq Tryz.prog eY.G eY.an 0 Tryz.f82 _ eY.st
abbrev eY.Ok:=cr @eY.A eY.aq eY.add eY.F eY.out
theorem eY.eq{R:Type}(own:Int)(rev:Int)(delay:Int)(k:aT→Option R):eY.A (own,rev,delay) k=
 k (eY.out ([([rev],((0:Int),((0:Int),((0:Int),())))),([own],((0:Int),(delay,((0:Int),()))))],())):=by kernel_rfl
theorem eY.ok:eY.Ok:=by
 rintro⟨o,r,d⟩ _
 rw[eY.eq]
 rfl
noncomputable def eY.E:=Entry.cF [some tu,some tu,some ti] eY.st eY.aq eY.add eY.F eY.out
noncomputable def eY.call:eY.D→Option eY.X:=bC eY.E eY.st
theorem eY.run:bD eY.call eY.aq eY.add eY.F:=cz (cv [.d tu,.d tu,.d ti] fun _=>by kernel_rfl)
noncomputable def eY.sg:SG Tryz.prog:=⟨82,aK,eY.E,.fn 0 (by kernel_rfl) eY.ok trivial⟩
abbrev cE.D:=Int
def cE.st:cE.D→SA:=fun own=>([.d tu own],[])
abbrev cE.Y:=Lk
abbrev cE.X:=Lk
def cE.out:cE.X→aT:=fun x=>⟨.d lV x,[],[]⟩
def cE.add:cE.D→cE.Y→cE.X:=fun own y=>y
def cE.aq:cE.D→Prop:=fun _=>True
def cE.F:cE.D→cE.Y:=fun o=>nZ o
noncomputable def cE.G:dX:=eX (P:=Tryz.prog) []
noncomputable def cE.an:ej:= {}
noncomputable def cE.A:= @cq Tryz.prog cE.G cE.an 0 Tryz.f83 _ cE.st
abbrev cE.Ok:=cr @cE.A cE.aq cE.add cE.F cE.out
theorem cE.eq{R:Type}(own:Int)(k:aT→Option R):cE.A own k=
 k (cE.out ([([own],((0:Int),((0:Int),((0:Int),())))),(([]:List Int),((0:Int),((16:Int),((0:Int),()))))],())):=by kernel_rfl
theorem cE.ok:cE.Ok:=by
 intro o _
 rw[cE.eq]
 rfl
noncomputable def cE.E:=Entry.cF [some tu] cE.st cE.aq cE.add cE.F cE.out
noncomputable def cE.call:cE.D→Option cE.X:=bC cE.E cE.st
theorem cE.run:bD cE.call cE.aq cE.add cE.F:=cz (cv [.d tu] fun _=>by kernel_rfl)
noncomputable def cE.sg:SG Tryz.prog:=⟨83,aK,cE.E,.fn 0 (by kernel_rfl) cE.ok trivial⟩
set_option synthInstance.maxSize 5000
set_option synthInstance.maxSize 5000
def mg(o:List Int)(ks:List Int):List Int:=ks.foldl (fun o p=>o++iy p) o
def GP(o:List Int)(b:oF):List Int:=fT (fT (mg (fT o b.1.length) b.1) b.2.1) b.2.2.1++iy b.2.2.2.1
def Ej(l:Lk):List Int:=if iV l then l.1.foldl GP (fT [] l.1.length) else []
theorem sI:∀(ks:List Int) (o:List Int),(mg o ks).length=o.length+8*ks.length
 |[],o=>rfl
 |k::ks,o=>by
  show(mg (o++iy k) ks).length=_
  rw[sI ks,List.length_append,cM,List.length_cons];omega
theorem BN(o:List Int)(b:oF)(h:b.1.length≤12):(GP o b).length≤o.length+200:=by
 unfold GP
 have h1:=gR o b.1.length
 have h2:=sI b.1 (fT o b.1.length)
 have h3:=gR (mg (fT o b.1.length) b.1) b.2.1
 have h4:=gR (fT (mg (fT o b.1.length) b.1) b.2.1) b.2.2.1
 rw[List.length_append,cM];omega
def Fs(n:Int):Prop:=n≤9223372036854775807
def Iy(b:oF):Prop:=b.1.length≤12∧Fs b.2.1∧Fs b.2.2.1
theorem GQ{b:oF}(h:nr b=true):Iy b:=by
 unfold nr xM at h
 simp only[Bool.and_eq_true,decide_eq_true_eq]at h
 obtain⟨h1,_,h2,h3,_⟩:=h
 exact⟨h1,by unfold Fs;omega,by unfold Fs;omega⟩
theorem AX(o:List Int)(ks:List Int)(k:Nat)(h:k < ks.length):mg o (ks.drop k)=mg (o++iy ks[k]) (ks.drop (k+1)):=by rw[List.drop_eq_getElem_cons h];rfl
abbrev aG.L0.D:=Bs×(List oF)×Int×Int
def aG.L0.st:aG.L0.D→AS:=fun(outv,t16,t17,t18)=>⟨([.undef,.undef,.undef,.d tB outv]++bu 12 ([.d (.slice oS) t16,.d ti t17,.d ti t18]++bu 31 [])),[],(List.replicate 50 [])⟩
abbrev aG.L0.Y0:=Bs
abbrev aG.L0.X0:=Bs
def aG.L0.bM:aG.L0.X0→Exit×AS:=fun x=>(.exit 0,⟨([.undef,.undef,.undef,.d tB x]++bu 46 []),[],(List.replicate 50 [])⟩)
abbrev aG.L0.X:=aG.L0.X0
abbrev aG.L0.Y:=aG.L0.Y0
def aG.L0.out:aG.L0.X→Out (Exit×AS):=fun x=> .ok (aG.L0.bM x)
def aG.L0.add:aG.L0.D→aG.L0.Y→aG.L0.X:=fun(outv,t16,t17,t18) y=>y
abbrev aG.L1.D:=Bs×(List oF)×Int×Int×Bs×Int×Int×oF
def aG.L1.st:aG.L1.D→AS:=fun(outv_2,t16_2,t17_2,t18_2,t28,t29,t30,n5)=>⟨([.undef,.undef,.undef,.d tB outv_2,.undef,.ptr (.new 5 0) 0 [] 0]++bu 10 ([.d (.slice oS) t16_2,.d ti t17_2,.d ti t18_2]++bu 9 ([.d tU t28,.d ti t29,.d ti t30]++bu 19 []))),[],(cw 5 ([[.obj 0 false (.d oS n5)]]++cw 44 []))⟩
abbrev aG.L1.Y0:=Bs
abbrev aG.L1.X0:=((List oF)×Int×Int×oF)×(Bs)
def aG.L1.bM:aG.L1.X0→Exit×AS:=fun x=>(.exit 2,⟨([.undef,.undef,.undef,.d tB x.2,.undef,.ptr (.new 5 0) 0 [] 0]++bu 10 ([.d (.slice oS) x.1.1,.d ti x.1.2.1,.d ti x.1.2.2.1]++bu 31 [])),[],(cw 5 ([[.obj 0 false (.d oS x.1.2.2.2)]]++cw 44 []))⟩)
abbrev aG.L1.X:=aG.L1.X0
abbrev aG.L1.Y:=aG.L1.Y0
def aG.L1.out:aG.L1.X→Out (Exit×AS):=fun x=> .ok (aG.L1.bM x)
def aG.L1.add:aG.L1.D→aG.L1.Y→aG.L1.X:=fun(outv_2,t16_2,t17_2,t18_2,t28,t29,t30,n5) y=>((t16_2,t17_2,t18_2,n5),y)
abbrev aG.D:=Lk
def aG.st:aG.D→SA:=fun l=>([.d lV l],[])
abbrev aG.Y:=Bs
abbrev aG.X:=Bs
def aG.out:aG.X→aT:=fun x=>⟨.d tB x,[],[]⟩
def aG.add:aG.D→aG.Y→aG.X:=fun l y=>y
def aG.L1.aq:aG.L1.D→Prop:=fun(o,bs,n,i,ks,m,j,b)=>ks.length≤12∧o.length+8*ks.length≤80000000+8*j.toNat∧m=ks.length∧∃k:Nat,k≤ks.length∧j=k
def aG.L1.F:aG.L1.D→aG.L1.Y:=fun(o,bs,n,i,ks,m,j,b)=>mg o (ks.drop j.toNat)
def aG.L0.aq:aG.L0.D→Prop:=fun(o,bs,n,i)=>(∀b∈bs,Iy b)∧bs.length≤4∧o.length≤1000+200*i.toNat∧n=bs.length∧∃k:Nat,k≤bs.length∧i=k
def aG.L0.F:aG.L0.D→aG.L0.Y:=fun(o,bs,n,i)=>(bs.drop i.toNat).foldl GP o
def aG.aq:aG.D→Prop:=fun l=>GI l∧l.1.length≤9223372036854775807
def aG.F:aG.D→aG.Y:=fun l=>Ej l
noncomputable def aG.G:dX:=eX (P:=Tryz.prog) [aQ.sg,eA.sg,eK.sg]
noncomputable def aG.L0.E:=cf.cF aG.L0.st aG.L0.aq aG.L0.add aG.L0.F aG.L0.out
noncomputable def aG.L0.call:aG.L0.D→Option aG.L0.X:=dO aG.L0.E aG.L0.st
noncomputable def aG.L1.E:=cf.cF aG.L1.st aG.L1.aq aG.L1.add aG.L1.F aG.L1.out
noncomputable def aG.L1.call:aG.L1.D→Option aG.L1.X:=dO aG.L1.E aG.L1.st
noncomputable def aG.an:ej:= {loops:=ky [(5,{bt:=[3,16,17,18]}),(9,{bt:=[3,5,16,17,18,28,29,30],sites:=[5]})],outs:=kr [(5,{bt:=[3]},{bt:=[2]}),(9,{bt:=[3,5,16,17,18],sites:=[5]},{bt:=[2]})],gk:=kY [(5,aG.L0.E),(9,aG.L1.E)],res:=[some tB]}
noncomputable def aG.A:= @cq Tryz.prog aG.G aG.an 0 Tryz.f110 _ aG.st
abbrev aG.Ok:=cr @aG.A aG.aq aG.add aG.F aG.out
noncomputable def aG.L0.R:= @cP Tryz.prog aG.G aG.an 0 Tryz.f110 0 _ aG.L0.st
abbrev aG.L0.Ok:=fg Tryz.prog aG.G aG.an 0 Tryz.f110 0 aG.L0.st aG.L0.aq aG.L0.add aG.L0.F aG.L0.out
noncomputable def aG.L1.R:= @cP Tryz.prog aG.G aG.an 0 Tryz.f110 1 _ aG.L1.st
abbrev aG.L1.Ok:=fg Tryz.prog aG.G aG.an 0 Tryz.f110 1 aG.L1.st aG.L1.aq aG.L1.add aG.L1.F aG.L1.out
theorem aG.L0.run:bD aG.L0.call aG.L0.aq aG.L0.add aG.L0.F:=fw (fk [.d tB,.d (.slice oS),.d ti,.d ti] fun _=>by kernel_rfl)
theorem aG.L0.aF:gg @aG.L0.R aG.L0.st aG.L0.aq aG.L0.add aG.L0.F aG.L0.bM aG.L0.Ok:=gj
theorem aG.L0.step{R:Type}(outv:Bs)(t16:(List oF))(t17:Int)(t18:Int)(kn:AS→Option R)(kx:Exit→AS→Option R):aG.L0.R (outv,t16,t17,t18) kn kx=
  aC ((gM t18 t17)) (
   aC (dY t18 (((List.length t16):Nat):Int)) (
   ab (eA.call (outv,(((List.length (nth oS t16 (Int.toNat t18)).1):Nat):Int))) fun x1=>
   ab (aG.L1.call (x1,t16,t17,t18,(nth oS t16 (Int.toNat t18)).1,(((List.length (nth oS t16 (Int.toNat t18)).1):Nat):Int),(0:Int),(nth oS t16 (Int.toNat t18)))) fun x2=>
   ab (eA.call (x2.2,x2.1.2.2.2.2.1)) fun x3=>
   ab (eA.call (x3,x2.1.2.2.2.2.2.1)) fun x4=>
   ab (eK.call (x4,x2.1.2.2.2.2.2.2.1)) fun x5=>
   kn (aG.L0.st (x5,x2.1.1,x2.1.2.1,(bw .i64 x2.1.2.2.1 (1:Int))))) none) (
   kx (aG.L0.bM outv).1 (aG.L0.bM outv).2):=by kernel_rfl
theorem aG.L1.run:bD aG.L1.call aG.L1.aq aG.L1.add aG.L1.F:=fw (fk [.d tB,.d (.slice oS),.d ti,.d ti,.d tU,.d ti,.d ti,.d oS] fun _=>by kernel_rfl)
theorem aG.L1.aF:gg @aG.L1.R aG.L1.st aG.L1.aq aG.L1.add aG.L1.F aG.L1.bM aG.L1.Ok:=gj
theorem aG.L1.step{R:Type}(outv_2:Bs)(t16_2:(List oF))(t17_2:Int)(t18_2:Int)(t28:Bs)(t29:Int)(t30:Int)(n5:oF)(kn:AS→Option R)(kx:Exit→AS→Option R):aG.L1.R (outv_2,t16_2,t17_2,t18_2,t28,t29,t30,n5) kn kx=
  aC ((gM t30 t29)) (
   aC (dY t30 (((List.length t28):Nat):Int)) (
   ab (eK.call (outv_2,(nth tu t28 (Int.toNat t30)))) fun x1=>
   kn (aG.L1.st (x1,t16_2,t17_2,t18_2,t28,t29,(bw .i64 t30 (1:Int)),n5))) none) (
   kx (aG.L1.bM ((t16_2,t17_2,t18_2,n5),outv_2)).1 (aG.L1.bM ((t16_2,t17_2,t18_2,n5),outv_2)).2):=by kernel_rfl
theorem aG.eq{R:Type}(l:Lk)(k:aT→Option R):aG.A l k=
  ab (aQ.call l) fun x1=>
  aC ((!x1)) (
   k (aG.out ([]:List Int))) (
   ab (eA.call (([]:List Int),(((List.length l.1):Nat):Int))) fun x2=>
   ab (aG.L0.call (x2,l.1,(((List.length l.1):Nat):Int),(0:Int))) fun x9=>
   k (aG.out x9)):=by kernel_rfl
theorem aG.L1.ok:aG.L1.Ok:=by
 refine aG.L1.aF (fun(o,bs,n,i,ks,m,j,b)=>ks.length - j.toNat) ?_
 rintro⟨o,bs,n,i,ks,m,j,b⟩ ⟨hk12,hl,rfl,k,hk,rfl⟩
 have hk12:ks.length≤12:=hk12
 have hk:k≤ks.length:=hk
 have hl:o.length+8*ks.length≤80000000+8*(k:Int).toNat:=hl
 rw[Int.toNat_natCast]at hl
 by_cases h:k < ks.length
 ·left
  have n1:nth (.int .u64) ks k=ks[k]:=dT (t:= .int .u64) h
  refine⟨(o++iy ks[k],bs,n,i,ks,ks.length,((k+1:Nat):Int),b),⟨hk12,by rw[List.length_append,cM,Int.toNat_natCast];omega,rfl,k+1,by omega,rfl⟩,by simp only[Int.toNat_natCast];omega,?_,fun kn kx=> ?_⟩
  ·simp only[aG.L1.add,aG.L1.F,Int.toNat_natCast]
   rw[AX _ _ _ h]
  ·rw[aG.L1.step]
   simp(disch:=omega) only[↓S1,↓if_pos,↓if_neg,if_pos,if_neg,if_true,if_false,S2,n1]
   rw[eK.run (d:=(o,ks[k])) (by show o.length≤90000000;omega)]
   rfl
 ·right
  obtain rfl:k=ks.length:=by omega
  intro R kn kx
  rw[aG.L1.step]
  simp(disch:=omega) only[↓S1,↓if_pos,↓if_neg,if_pos,if_neg,if_true,if_false,S2,aG.L1.add,aG.L1.F,List.drop_length]
  rfl
theorem aG.L0.ok:aG.L0.Ok:=by
 refine aG.L0.aF (fun(o,bs,n,i)=>bs.length - i.toNat) ?_
 rintro⟨o,bs,n,i⟩ ⟨hb,h4,hl,rfl,k,hk,rfl⟩
 have h4:bs.length≤4:=h4
 have hk:k≤bs.length:=hk
 have hl:o.length≤1000+200*(k:Int).toNat:=hl
 rw[Int.toNat_natCast]at hl
 by_cases h:k < bs.length
 ·left
  have hx:=hb _ (List.getElem_mem h)
  have n1:nth (.pair (.slice (.int .u64)) (.pair (.int .i64) (.pair (.int .i64) (.pair (.int .u64) .unit)))) bs k=bs[k]:=dT (t:=(.pair (.slice (.int .u64)) (.pair (.int .i64) (.pair (.int .i64) (.pair (.int .u64) .unit))))) h
  have e0:=BN o bs[k] hx.1
  refine⟨(GP o bs[k],bs,bs.length,((k+1:Nat):Int)),⟨hb,h4,by rw[Int.toNat_natCast];omega,rfl,k+1,by omega,rfl⟩,by simp only[Int.toNat_natCast];omega,?_,fun kn kx=> ?_⟩
  ·simp only[aG.L0.add,aG.L0.F,Int.toNat_natCast]
   rw[List.drop_eq_getElem_cons h]
   rfl
  ·rw[aG.L0.step,bB (by omega),bz (by omega) (by omega),Int.toNat_natCast,n1]
   obtain⟨⟨ks,af,dl,sc,u⟩,hbk⟩:∃b,bs[k]=b:=⟨_,rfl⟩
   rw[hbk]at hx e0 ⊢
   obtain⟨h12,ha,hd⟩:=hx
   have h12:ks.length≤12:=h12
   have ha:af≤9223372036854775807:=ha
   have hd:dl≤9223372036854775807:=hd
   have l1:=gR o ks.length
   have l2:=sI ks (fT o ks.length)
   have l3:=gR (mg (fT o ks.length) ks) af
   have l4:=gR (fT (mg (fT o ks.length) ks) af) dl
   simp only[ah]
   rw[eA.run (d:=(o,(ks.length:Int))) ⟨by show o.length≤90000000;omega,by show(ks.length:Int)≤9223372036854775807;omega⟩]
   simp only[aa,eA.add,eA.F]
   rw[aG.L1.run (d:=(fT o ks.length,bs,bs.length,k,ks,ks.length,0,(ks,af,dl,sc,u))) ⟨h12,by show(fT o ks.length).length+8*ks.length≤_;omega,rfl,0,by omega,rfl⟩]
   simp only[aa,aG.L1.add,aG.L1.F,Int.toNat_zero,List.drop_zero]
   rw[eA.run (d:=(mg (fT o ks.length) ks,af)) ⟨by show(mg (fT o ks.length) ks).length≤90000000;omega,ha⟩]
   simp only[aa,eA.add,eA.F]
   rw[eA.run (d:=(fT (mg (fT o ks.length) ks) af,dl)) ⟨by show(fT (mg (fT o ks.length) ks) af).length≤90000000;omega,hd⟩]
   simp only[aa,eA.add,eA.F]
   rw[eK.run (d:=(fT (fT (mg (fT o ks.length) ks) af) dl,sc)) (by show(fT (fT (mg (fT o ks.length) ks) af) dl).length≤90000000;omega)]
   simp only[aa,eK.add,eK.F]
   rw[N.mC (by omega)]
   rfl
 ·right
  obtain rfl:k=bs.length:=by omega
  intro R kn kx
  rw[aG.L0.step]
  simp(disch:=omega) only[↓S1,↓if_pos,↓if_neg,if_pos,if_neg,if_true,if_false,S2,aG.L0.add,aG.L0.F,List.drop_length]
  rfl
theorem El{l:Lk}(h:iV l=true):(∀b∈l.1,Iy b)∧0 < l.1.length∧l.1.length≤4:=by
 unfold iV at h
 simp only[Bool.and_eq_true,List.all_eq_true,decide_eq_true_eq]at h
 exact⟨fun b hb=>GQ (h.1 b hb),h.2⟩
theorem aG.ok:aG.Ok:=by
 rintro l ⟨hl,hb⟩
 have hl:GI l:=hl
 rw[aG.eq,aQ.run (d:=l) ⟨hl,hb⟩]
 simp only[aa,aQ.add,aQ.F,aG.add,aG.F,Ej]
 cases hok:iV l
 ·rfl
 ·obtain⟨h1,h2,h3⟩:=El hok
  have l1:=gR [] l.1.length
  have l0:([]:List Int).length=0:=rfl
  simp only[Bool.not_true,ae,if_true]
  rw[eA.run (d:=([],(l.1.length:Int))) ⟨by show([]:List Int).length≤90000000;omega,by show(l.1.length:Int)≤9223372036854775807;omega⟩]
  simp only[aa,eA.add,eA.F]
  rw[aG.L0.run (d:=(fT [] l.1.length,l.1,l.1.length,0)) ⟨h1,h3,by show(fT [] l.1.length).length≤_;omega,rfl,0,by omega,rfl⟩]
  rfl
theorem xS(l:Lk):(Ej l).length≤1000:=by
 unfold Ej
 split
 ·rename_i h
  obtain⟨h1,h2,h3⟩:=El h
  have key:∀(bs:List oF) (o:List Int),(∀b∈bs,Iy b)→(bs.foldl GP o).length≤o.length+200*bs.length:=by
   intro bs
   induction bs with
   |nil=>intro o _;exact Nat.le_refl _
   |cons b bs ih=>
    intro o hb
    have e1:=ih (GP o b) fun x hx=>hb x (List.mem_cons_of_mem _ hx)
    have e2:=BN o b (hb b List.mem_cons_self).1
    rw[List.foldl_cons,List.length_cons];omega
  have e:=key l.1 (fT [] l.1.length) h1
  have e2:=gR [] l.1.length
  have l0:([]:List Int).length=0:=rfl
  omega
 ·exact Nat.zero_le _
def Ih:ByteArray:=⟨#[108,111,99,107]⟩
def ID(l:Lk):List Int:=if iV l then yn Ih [Ej l] else List.replicate 32 0
noncomputable def aG.E:=Entry.cF [some lV] aG.st aG.aq aG.add aG.F aG.out
noncomputable def aG.call:aG.D→Option aG.X:=bC aG.E aG.st
theorem aG.run:bD aG.call aG.aq aG.add aG.F:=cz (cv [.d lV] fun _=>by kernel_rfl)
noncomputable def aG.sg:SG Tryz.prog:=⟨110,aK,aG.E,.fn 2 (by kernel_rfl) aG.ok (And.intro (.cF aG.L0.ok (by kernel_rfl)) (And.intro (.cF aG.L1.ok (by kernel_rfl)) trivial))⟩
abbrev fI.D:=Lk
def fI.st:fI.D→SA:=fun l=>([.d lV l],[])
abbrev fI.Y:=Bs
abbrev fI.X:=Bs
def fI.out:fI.X→aT:=fun x=>⟨.d tH x,[],[]⟩
def fI.add:fI.D→fI.Y→fI.X:=fun l y=>y
def fI.aq:fI.D→Prop:=fun l=>GI l∧l.1.length≤9223372036854775807
def fI.F:fI.D→fI.Y:=fun l=>ID l
noncomputable def fI.G:dX:=eX (P:=Tryz.prog) [aQ.sg,aG.sg,cG.sg]
noncomputable def fI.an:ej:= {}
noncomputable def fI.A:= @cq Tryz.prog fI.G fI.an 0 Tryz.f81 _ fI.st
abbrev fI.Ok:=cr @fI.A fI.aq fI.add fI.F fI.out
theorem fI.eq{R:Type}(l:Lk)(k:aT→Option R):fI.A l k=
  ab (aQ.call l) fun x1=>
  aC ((!x1)) (
   k (fI.out (List.replicate 32 (0:Int)))) (
   ab (aG.call l) fun x2=>
   ab (cG.call ((⟨#[108,111,99,107]⟩:ByteArray),[x2])) fun x3=>
   k (fI.out x3)):=by kernel_rfl
theorem fI.ok:fI.Ok:=by
 rintro l ⟨hl,hb⟩
 have hl:GI l:=hl
 have hlen:=xS l
 rw[fI.eq,aQ.run (d:=l) ⟨hl,hb⟩,aG.run (d:=l) ⟨hl,hb⟩]
 simp only[aa,aQ.add,aQ.F,aG.add,aG.F,fI.add,fI.F,ID]
 rw[cG.run (d:=((⟨#[108,111,99,107]⟩:ByteArray),[Ej l])) (Ae (by decide) (by omega))]
 cases iV l <;> rfl
noncomputable def fI.E:=Entry.cF [some lV] fI.st fI.aq fI.add fI.F fI.out
noncomputable def fI.call:fI.D→Option fI.X:=bC fI.E fI.st
theorem fI.run:bD fI.call fI.aq fI.add fI.F:=cz (cv [.d lV] fun _=>by kernel_rfl)
noncomputable def fI.sg:SG Tryz.prog:=⟨81,aK,fI.E,.fn 0 (by kernel_rfl) fI.ok trivial⟩
end Go.Ab
