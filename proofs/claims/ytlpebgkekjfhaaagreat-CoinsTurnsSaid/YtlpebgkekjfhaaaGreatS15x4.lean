/-
  Made short by a program of mine (wip/tools/mini.py).
-/
import Derived.Test.YtlpebgkekjfhaaaGreatS15x3
import Derived.Test.YtlpebgkekjfhaaaGreatProg
set_option linter.unusedVariables false
set_option linter.unusedSimpArgs false
namespace Go.Ab
open Go.Proofs
set_option maxRecDepth 100000
set_option linter.unusedVariables false
set_option linter.unusedSimpArgs false
set_option synthInstance.maxSize 5000
abbrev binary.D:=Bs
def binary.st:binary.D→SA:=fun b=>([.d tB b],[])
abbrev binary.Y:=Int
abbrev binary.X:=Int
def binary.out:binary.X→aW:=fun x=>⟨.d (.int .u32) x,[],[]⟩
def binary.add:binary.D→binary.Y→binary.X:=fun b y=>y
def binary.aC:binary.D→Prop:=fun b=>4≤b.length
def binary.F:binary.D→binary.Y:=fun b=>vw (Fi (b.getD 0 0) (b.getD 1 0) (b.getD 2 0) (b.getD 3 0))
noncomputable def binary.G:dH:=eT (P:=Tryz.prog) []
noncomputable def binary.an:ee:= {}
noncomputable def binary.A:= @cT Tryz.prog binary.G binary.an 0 Tryz.f277 _ binary.st
abbrev binary.Ok:=cU @binary.A binary.aC binary.add binary.F binary.out
theorem binary.eq{R:Type}(b:Bs)(k:aW→Option R):binary.A b k=
 aF (fE (0:Int) (((List.length b):Nat):Int)) (
 aF (fE (1:Int) (((List.length b):Nat):Int)) (
 aF (fE (2:Int) (((List.length b):Nat):Int)) (
 aF (fE (3:Int) (((List.length b):Nat):Int)) (
 k (binary.out (cQ .or .u32 (cQ .or .u32 (cQ .or .u32 (iM .u32 (dz .u32 (nth tb b 0)) (24:Int)) (iM .u32 (dz .u32 (nth tb b 1)) (16:Int))) (iM .u32 (dz .u32 (nth tb b 2)) (8:Int))) (dz .u32 (nth tb b 3))))) none) none) none) none:=by kernel_rfl
theorem binary.ok:binary.Ok:=by
 intro b h
 have h:4≤b.length:=h
 rw[binary.eq,bw (by omega) (by omega),bw (by omega) (by omega),bw (by omega) (by omega),bw (by omega) (by omega)]
 simp only[ao,Ct,vX,mG]
 rfl
noncomputable def binary.E:=Entry.cP [some tB] binary.st binary.aC binary.add binary.F binary.out
noncomputable def binary.call:binary.D→Option binary.X:=bS binary.E binary.st
theorem binary.run:bP binary.call binary.aC binary.add binary.F:=de (cZ [.d tB] fun _=>by kernel_rfl)
noncomputable def binary.sg:SG Tryz.prog:=⟨277,aV,binary.E,.fn 0 (by kernel_rfl) binary.ok trivial⟩
abbrev bR.D:=Int×Int
def bR.st:bR.D→SA:=fun(x,kv)=>([.d (.int .u32) x,.d ti kv],[])
abbrev bR.Y:=Int
abbrev bR.X:=Int
def bR.out:bR.X→aW:=fun x=>⟨.d (.int .u32) x,[],[]⟩
def bR.add:bR.D→bR.Y→bR.X:=fun(x,kv) y=>y
def rl(w:W)(k:Nat):W:=w <<< k ||| w >>> (32 - k)
def bR.aC:bR.D→Prop:=fun(x,k)=>0≤x∧x < 4294967296
def bR.F:bR.D→bR.Y:=fun(x,k)=>vw (rl (BitVec.ofInt 32 x) (k%32).toNat)
noncomputable def bR.G:dH:=eT (P:=Tryz.prog) []
noncomputable def bR.an:ee:= {}
noncomputable def bR.A:= @cT Tryz.prog bR.G bR.an 0 Tryz.f248 _ bR.st
abbrev bR.Ok:=cU @bR.A bR.aC bR.add bR.F bR.out
theorem bR.eq{R:Type}(x:Int)(kv:Int)(k:aW→Option R):bR.A (x,kv) k=
 aF (iC (cQ .and .u64 (dz .u64 kv) (31:Int))) (
 aF (iC (cH .u64 (32:Int) (cQ .and .u64 (dz .u64 kv) (31:Int)))) (
 k (bR.out (cQ .or .u32 (iM .u32 x (cQ .and .u64 (dz .u64 kv) (31:Int))) (bC .u32 x (cH .u64 (32:Int) (cQ .and .u64 (dz .u64 kv) (31:Int))))))) none) none:=by kernel_rfl
theorem EC(k:Int):cQ .and .u64 (dz .u64 k) 31=k%32:=by
 have e:(31:Int)=vw (31:BitVec 64):=rfl
 rw[Cu,e,y7]
 simp only
 have:(31:BitVec 64)=BitVec.ofNat 64 (2^5 - 1):=rfl
 unfold vw
 rw[BitVec.toNat_and,BitVec.toNat_ofInt,show(31:BitVec 64).toNat=2^5 - 1 from rfl,Nat.and_two_pow_sub_one_eq_mod]
 omega
theorem bR.ok:bR.Ok:=by
 rintro⟨x,k⟩ ⟨h1,h2⟩
 have e1:cH .u64 32 (k%32)=32 - k%32:=by
  unfold cH
  rw[wrap_u64,fQ]
  omega
 have hx:x=vw (BitVec.ofInt 32 x):=by rw[fQ];omega
 rw[bR.eq,EC,e1,kA (by omega),kA (by omega)]
 simp only[ao]
 have e2:cQ .or .u32 (iM .u32 x (k%32)) (bC .u32 x (32 - k%32))=vw (rl (BitVec.ofInt 32 x) (k%32).toNat):=by
  conv=>lhs;rw[hx]
  rw[vX,rv,mG]
  simp only[rl]
  congr 3
  omega
 rw[e2]
 rfl
noncomputable def bR.E:=Entry.cP [some (.int .u32),some ti] bR.st bR.aC bR.add bR.F bR.out
noncomputable def bR.call:bR.D→Option bR.X:=bS bR.E bR.st
theorem bR.run:bP bR.call bR.aC bR.add bR.F:=de (cZ [.d (.int .u32),.d ti] fun _=>by kernel_rfl)
noncomputable def bR.sg:SG Tryz.prog:=⟨248,aV,bR.E,.fn 0 (by kernel_rfl) bR.ok trivial⟩
theorem bR.at(w:W)(k:Int):bR.call (vw w,k)=some (vw (rl w (k%32).toNat)):=by
 have h:bR.aC (vw w,k):=⟨tT w,by have:=Dp w;simpa using this⟩
 rw[bR.run h]
 show some (vw (rl (BitVec.ofInt 32 (vw w)) (k%32).toNat))=_
 rw[jl]
abbrev table.D:=Unit
def table.st:table.D→SA:=fun _=>([],[])
abbrev table.Y:=(List Int)
abbrev table.X:=(List Int)
def table.out:table.X→aW:=fun x=>⟨.d (.arr 64 (.int .u32)) x,[],[]⟩
def table.add:table.D→table.Y→table.X:=fun _ y=>y
def table.aC:table.D→Prop:=fun _=>True
def table.F:table.D→table.Y:=fun _=>vY
noncomputable def table.G:dH:=eT (P:=Tryz.prog) []
noncomputable def table.an:ee:= {}
noncomputable def table.A:= @cT Tryz.prog table.G table.an 0 Tryz.f247 _ table.st
abbrev table.Ok:=cU @table.A table.aC table.add table.F table.out
theorem table.eq{R:Type}(k:aW→Option R):table.A () k=
 k (table.out [(1116352408:Int),(1899447441:Int),(3049323471:Int),(3921009573:Int),(961987163:Int),(1508970993:Int),(2453635748:Int),(2870763221:Int),(3624381080:Int),(310598401:Int),(607225278:Int),(1426881987:Int),(1925078388:Int),(2162078206:Int),(2614888103:Int),(3248222580:Int),(3835390401:Int),(4022224774:Int),(264347078:Int),(604807628:Int),(770255983:Int),(1249150122:Int),(1555081692:Int),(1996064986:Int),(2554220882:Int),(2821834349:Int),(2952996808:Int),(3210313671:Int),(3336571891:Int),(3584528711:Int),(113926993:Int),(338241895:Int),(666307205:Int),(773529912:Int),(1294757372:Int),(1396182291:Int),(1695183700:Int),(1986661051:Int),(2177026350:Int),(2456956037:Int),(2730485921:Int),(2820302411:Int),(3259730800:Int),(3345764771:Int),(3516065817:Int),(3600352804:Int),(4094571909:Int),(275423344:Int),(430227734:Int),(506948616:Int),(659060556:Int),(883997877:Int),(958139571:Int),(1322822218:Int),(1537002063:Int),(1747873779:Int),(1955562222:Int),(2024104815:Int),(2227730452:Int),(2361852424:Int),(2428436474:Int),(2756734187:Int),(3204031479:Int),(3329325298:Int)]):=by kernel_rfl
theorem table.ok:table.Ok:=by
 intro d _
 rw[table.eq]
 rfl
noncomputable def table.E:=Entry.cP [] table.st table.aC table.add table.F table.out
noncomputable def table.call:table.D→Option table.X:=bS table.E table.st
theorem table.run:bP table.call table.aC table.add table.F:=de (cZ [] fun _=>by kernel_rfl)
noncomputable def table.sg:SG Tryz.prog:=⟨247,aV,table.E,.fn 0 (by kernel_rfl) table.ok trivial⟩
abbrev first.D:=Unit
def first.st:first.D→SA:=fun _=>([],[])
abbrev first.Y:=(List Int)
abbrev first.X:=(List Int)
def first.out:first.X→aW:=fun x=>⟨.d (.arr 8 (.int .u32)) x,[],[]⟩
def first.add:first.D→first.Y→first.X:=fun _ y=>y
def first.aC:first.D→Prop:=fun _=>True
def first.F:first.D→first.Y:=fun _=>j5.l
noncomputable def first.G:dH:=eT (P:=Tryz.prog) []
noncomputable def first.an:ee:= {}
noncomputable def first.A:= @cT Tryz.prog first.G first.an 0 Tryz.f201 _ first.st
abbrev first.Ok:=cU @first.A first.aC first.add first.F first.out
theorem first.eq{R:Type}(k:aW→Option R):first.A () k=
 k (first.out [(1779033703:Int),(3144134277:Int),(1013904242:Int),(2773480762:Int),(1359893119:Int),(2600822924:Int),(528734635:Int),(1541459225:Int)]):=by kernel_rfl
theorem first.ok:first.Ok:=by
 intro d _
 rw[first.eq]
 rfl
noncomputable def first.E:=Entry.cP [] first.st first.aC first.add first.F first.out
noncomputable def first.call:first.D→Option first.X:=bS first.E first.st
theorem first.run:bP first.call first.aC first.add first.F:=de (cZ [] fun _=>by kernel_rfl)
noncomputable def first.sg:SG Tryz.prog:=⟨201,aV,first.E,.fn 0 (by kernel_rfl) first.ok trivial⟩
set_option synthInstance.maxSize 5000
abbrev schedule.L0.D:=Bs×Int×(List Int)
def schedule.L0.st:schedule.L0.D→AS:=fun(b_2,t8,n2)=>⟨([.d tB b_2,.undef,.ptr (.new 2 0) 0 [] 0]++bm 5 ([.d ti t8]++bm 52 [])),[],([[],[],[.obj 0 false (.d (.arr 64 (.int .u32)) n2)]]++cr 58 [])⟩
abbrev schedule.L0.Y0:=(List Int)
abbrev schedule.L0.X0:=(List Int)
def schedule.L0.bK:schedule.L0.X0→Exit×AS:=fun x=>(.exit 0,⟨([.undef,.undef,.ptr (.new 2 0) 0 [] 0]++bm 58 []),[],([[],[],[.obj 0 false (.d (.arr 64 (.int .u32)) x)]]++cr 58 [])⟩)
abbrev schedule.L0.X:=schedule.L0.X0
abbrev schedule.L0.Y:=schedule.L0.Y0
def schedule.L0.out:schedule.L0.X→Out (Exit×AS):=fun x=> .ok (schedule.L0.bK x)
def schedule.L0.add:schedule.L0.D→schedule.L0.Y→schedule.L0.X:=fun(b_2,t8,n2) y=>y
abbrev schedule.D:=Bs
def schedule.st:schedule.D→SA:=fun b=>([.d tB b],[])
abbrev schedule.Y:=(List Int)
abbrev schedule.X:=(List Int)
def schedule.out:schedule.X→aW:=fun x=>⟨.d (.arr 64 (.int .u32)) x,[],[]⟩
def schedule.add:schedule.D→schedule.Y→schedule.X:=fun b y=>y
def wl(l:List W):List Int:=l.map vw
def l8(l:List W):List Int:=wl l++List.replicate (64 - l.length) 0
def lO(b:List Int)(k:Nat):List W:=if k≤16 then(words b).take k else Fa (words b) (k - 16)
def schedule.L0.aC:schedule.L0.D→Prop:=fun(b,t8,n2)=>64≤b.length∧∃k:Nat,k≤64∧t8=k∧n2=l8 (lO b k)
def schedule.L0.F:schedule.L0.D→schedule.L0.Y:=fun(b,t8,n2)=>wl (sched b)
def schedule.aC:schedule.D→Prop:=fun b=>64≤b.length
def schedule.F:schedule.D→schedule.Y:=fun b=>wl (sched b)
noncomputable def schedule.G:dH:=eT (P:=Tryz.prog) [binary.sg,bR.sg]
noncomputable def schedule.L0.E:=bZ.cP schedule.L0.st schedule.L0.aC schedule.L0.add schedule.L0.F schedule.L0.out
noncomputable def schedule.L0.call:schedule.L0.D→Option schedule.L0.X:=dI schedule.L0.E schedule.L0.st
noncomputable def schedule.an:ee:= {loops:=lZ [(2,{bn:=[0,2,8],sites:=[2]})],outs:=lY [(2,{bn:=[2],sites:=[2]},{bn:=[2]})],fO:=mW [(2,schedule.L0.E)]}
noncomputable def schedule.A:= @cT Tryz.prog schedule.G schedule.an 0 Tryz.f246 _ schedule.st
abbrev schedule.Ok:=cU @schedule.A schedule.aC schedule.add schedule.F schedule.out
noncomputable def schedule.L0.R:= @cC Tryz.prog schedule.G schedule.an 0 Tryz.f246 0 _ schedule.L0.st
abbrev schedule.L0.Ok:=eO Tryz.prog schedule.G schedule.an 0 Tryz.f246 0 schedule.L0.st schedule.L0.aC schedule.L0.add schedule.L0.F schedule.L0.out
theorem schedule.L0.run:bP schedule.L0.call schedule.L0.aC schedule.L0.add schedule.L0.F:=fe (eY [.d tB,.d ti,.d (.slice (.int .u32))] fun _=>by kernel_rfl)
theorem schedule.L0.aL:ga @schedule.L0.R schedule.L0.st schedule.L0.aC schedule.L0.add schedule.L0.F schedule.L0.bK schedule.L0.Ok:=gw
theorem schedule.L0.step{R:Type}(b_2:Bs)(t8:Int)(n2:(List Int))(kn:AS→Option R)(kx:Exit→AS→Option R):schedule.L0.R (b_2,t8,n2) kn kx=
  aF ((gQ t8 (64:Int))) (
   aF ((gQ t8 (16:Int))) (
    aF (inc (fg .i64 (4:Int) t8) (((List.length b_2):Nat):Int)) (
    ah (binary.call (cut b_2 (Int.toNat (fg .i64 (4:Int) t8)) ((List.length b_2) - (Int.toNat (fg .i64 (4:Int) t8))))) fun x1=>
    aF (fE t8 (64:Int)) (
    aF (decide ((Int.toNat t8) < (List.length n2))) (
    aF (decide ((((Int.toNat t8)*1)+0)=(0+((Int.toNat t8)*1)))) (
    aF (decide ((Int.toNat t8) < (List.length n2))) (
    kn (schedule.L0.st (b_2,(ck .i64 t8 (1:Int)),(List.set n2 (Int.toNat t8) x1)))) none) none) none) none) none) (
    aF (fE (cH .i64 t8 (15:Int)) (64:Int)) (
    aF (decide ((Int.toNat (cH .i64 t8 (15:Int))) < (List.length n2))) (
    aF (decide ((((Int.toNat (cH .i64 t8 (15:Int)))*1)+0)=(0+((Int.toNat (cH .i64 t8 (15:Int)))*1)))) (
    aF (fE (cH .i64 t8 (2:Int)) (64:Int)) (
    aF (decide ((Int.toNat (cH .i64 t8 (2:Int))) < (List.length n2))) (
    aF (decide ((((Int.toNat (cH .i64 t8 (2:Int)))*1)+0)=(0+((Int.toNat (cH .i64 t8 (2:Int)))*1)))) (
    ah (bR.call ((nth (.int .u32) n2 (Int.toNat (cH .i64 t8 (15:Int)))),(-7:Int))) fun x2=>
    ah (bR.call ((nth (.int .u32) n2 (Int.toNat (cH .i64 t8 (15:Int)))),(-18:Int))) fun x3=>
    ah (bR.call ((nth (.int .u32) n2 (Int.toNat (cH .i64 t8 (2:Int)))),(-17:Int))) fun x4=>
    ah (bR.call ((nth (.int .u32) n2 (Int.toNat (cH .i64 t8 (2:Int)))),(-19:Int))) fun x5=>
    aF (fE (cH .i64 t8 (16:Int)) (64:Int)) (
    aF (decide ((Int.toNat (cH .i64 t8 (16:Int))) < (List.length n2))) (
    aF (decide ((((Int.toNat (cH .i64 t8 (16:Int)))*1)+0)=(0+((Int.toNat (cH .i64 t8 (16:Int)))*1)))) (
    aF (fE (cH .i64 t8 (7:Int)) (64:Int)) (
    aF (decide ((Int.toNat (cH .i64 t8 (7:Int))) < (List.length n2))) (
    aF (decide ((((Int.toNat (cH .i64 t8 (7:Int)))*1)+0)=(0+((Int.toNat (cH .i64 t8 (7:Int)))*1)))) (
    aF (fE t8 (64:Int)) (
    aF (decide ((Int.toNat t8) < (List.length n2))) (
    aF (decide ((((Int.toNat t8)*1)+0)=(0+((Int.toNat t8)*1)))) (
    aF (decide ((Int.toNat t8) < (List.length n2))) (
    kn (schedule.L0.st (b_2,(ck .i64 t8 (1:Int)),(List.set n2 (Int.toNat t8) (ck .u32 (ck .u32 (ck .u32 (nth (.int .u32) n2 (Int.toNat (cH .i64 t8 (16:Int)))) (cQ .xor .u32 (cQ .xor .u32 x2 x3) (bC .u32 (nth (.int .u32) n2 (Int.toNat (cH .i64 t8 (15:Int)))) (3:Int)))) (nth (.int .u32) n2 (Int.toNat (cH .i64 t8 (7:Int))))) (cQ .xor .u32 (cQ .xor .u32 x4 x5) (bC .u32 (nth (.int .u32) n2 (Int.toNat (cH .i64 t8 (2:Int)))) (10:Int)))))))) none) none) none) none) none) none) none) none) none) none) none) none) none) none) none) none)) (
   kx (schedule.L0.bK n2).1 (schedule.L0.bK n2).2):=by kernel_rfl
theorem schedule.eq{R:Type}(b:Bs)(k:aW→Option R):schedule.A b k=
 ah (schedule.L0.call (b,(0:Int),(List.replicate 64 (0:Int)))) fun x6=>
 k (schedule.out x6):=by kernel_rfl
theorem wY(b:List Int)(k:Nat)(h:k≤64):(lO b k).length=k:=by
 unfold lO
 split
 ·simp[iJ];omega
 ·rw[nS,iJ];omega
theorem C3(b:List Int):lO b 64=sched b:=rfl
theorem Ac(b:List Int)(k:Nat)(h:k < 16):lO b (k+1)=lO b k++ [be b k]:=by
 unfold lO
 rw[if_pos (by omega),if_pos (by omega),List.take_succ_eq_append_getElem (by rw[iJ];exact h)]
 simp[words]
theorem B4(b:List Int)(k:Nat)(h:16≤k):lO b (k+1)=ext (lO b k):=by
 unfold lO
 rw[if_neg (by omega)]
 by_cases h16:k=16
 ·subst h16
  rw[if_pos (by omega),List.take_of_length_le (by rw[iJ];omega)]
  rfl
 ·rw[if_neg (by omega),show k+1 - 16=(k - 16)+1 by omega]
  rfl
theorem ud(l:List W)(h:l.length≤64):(l8 l).length=64:=by simp[l8,wl];omega
theorem mF(l:List W)(i:Nat)(h:i < l.length):nth (.int .u32) (l8 l) i=vw (l.getD i 0):=by
 unfold nth l8 wl
 rw[List.getD_eq_getElem?_getD,List.getElem?_append_left (by simpa using h)]
 simp[h]
theorem s6(l:List W)(w:W)(h:l.length < 64):(l8 l).set l.length (vw w)=l8 (l++ [w]):=by
 unfold l8 wl
 rw[List.set_append_right _ _ (by simp)]
 simp only[List.length_map,Nat.sub_self,List.map_append,List.length_append,List.length_cons,List.length_nil]
 rw[show 64 - l.length=(64 - (l.length+(0+1)))+1 by omega,List.replicate_succ,List.set_cons_zero]
 simp
theorem xf(l:List W)(h:l.length=64):l8 l=wl l:=by simp[l8,h]
theorem Dt(b:List Int)(k:Nat)(h:4*k+4≤b.length):Fi ((cut b (4*k) (b.length - 4*k)).getD 0 0) ((cut b (4*k) (b.length - 4*k)).getD 1 0) ((cut b (4*k) (b.length - 4*k)).getD 2 0) ((cut b (4*k) (b.length - 4*k)).getD 3 0)=be b k:=by
 have e:∀j,j < 4→(cut b (4*k) (b.length - 4*k)).getD j 0=b.getD (4*k+j) 0:=fun j hj=>by
  unfold cut
  rw[List.getD_eq_getElem?_getD,List.getD_eq_getElem?_getD,List.getElem?_take_of_lt (by omega),List.getElem?_drop]
 unfold be
 rw[e 0 (by omega),e 1 (by omega),e 2 (by omega),e 3 (by omega),Nat.add_zero]
theorem schedule.L0.ok:schedule.L0.Ok:=by
 refine schedule.L0.aL (fun(b,t8,n2)=>64 - t8.toNat) ?_
 rintro⟨b,t8,n2⟩ ⟨hb,k,hk,rfl,rfl⟩
 have hwl:=wY b k hk
 have hal:=ud (lO b k) (by omega)
 by_cases h:k < 64
 ·left
  refine⟨(b,((k+1:Nat):Int),l8 (lO b (k+1))),⟨hb,k+1,by omega,rfl,rfl⟩,by simp;omega,rfl,fun kn kx=> ?_⟩
  have e1:ck .i64 (k:Int) 1=((k+1:Nat):Int):=by rw[gh (by omega) (by omega)];omega
  have e2:Int.toNat (k:Int)=k:=by omega
  rw[schedule.L0.step,bq (by omega)]
  simp only[ao,e1,e2,hal,Nat.mul_one,Nat.zero_add,Nat.add_zero,decide_true]
  by_cases h16:k < 16
  ·have e3:fg .i64 4 (k:Int)=((4*k:Nat):Int):=by rw[oq (by omega) (by omega)];omega
   have e4:Int.toNat ((4*k:Nat):Int)=4*k:=by omega
   rw[bq (by omega),e3,kZ (by omega) (by omega),e4,bw (by omega) (by omega),bf h]
   have hp:binary.aC (cut b (4*k) (b.length - 4*k)):=by
    show 4≤_
    rw[lr (by omega)];omega
   simp only[ao,binary.run hp,aa]
   have e5:binary.add (cut b (4*k) (b.length - 4*k)) (binary.F (cut b (4*k) (b.length - 4*k)))=vw (be b k):=by
    show vw (Fi _ _ _ _)=_
    rw[Dt b k (by omega)]
   have e6:=s6 (lO b k) (be b k) (by omega)
   rw[hwl]at e6
   rw[e5,e6,Ac b k h16]
  ·have a15:Int.toNat (cH .i64 (k:Int) 15)=k - 15:=by rw[dU (by omega) (by omega)];omega
   have a2:Int.toNat (cH .i64 (k:Int) 2)=k - 2:=by rw[dU (by omega) (by omega)];omega
   have a16:Int.toNat (cH .i64 (k:Int) 16)=k - 16:=by rw[dU (by omega) (by omega)];omega
   have a7:Int.toNat (cH .i64 (k:Int) 7)=k - 7:=by rw[dU (by omega) (by omega)];omega
   have i15:fE (cH .i64 (k:Int) 15) 64=true:=bw (by rw[dU (by omega) (by omega)];omega) (by rw[dU (by omega) (by omega)];omega)
   have i2:fE (cH .i64 (k:Int) 2) 64=true:=bw (by rw[dU (by omega) (by omega)];omega) (by rw[dU (by omega) (by omega)];omega)
   have i16:fE (cH .i64 (k:Int) 16) 64=true:=bw (by rw[dU (by omega) (by omega)];omega) (by rw[dU (by omega) (by omega)];omega)
   have i7:fE (cH .i64 (k:Int) 7) 64=true:=bw (by rw[dU (by omega) (by omega)];omega) (by rw[dU (by omega) (by omega)];omega)
   have i0:fE (k:Int) 64=true:=bw (by omega) (by omega)
   have d15:decide (k - 15 < 64)=true:=bf (by omega)
   have d2:decide (k - 2 < 64)=true:=bf (by omega)
   have d16:decide (k - 16 < 64)=true:=bf (by omega)
   have d7:decide (k - 7 < 64)=true:=bf (by omega)
   have d0:decide (k < 64)=true:=bf h
   rw[bl (by omega)]
   simp only[ao,aw,a15,a2,a16,a7,i15,i2,i16,i7,i0,d15,d2,d16,d7,d0,mF (lO b k) (k - 15) (by omega),mF (lO b k) (k - 2) (by omega),mF (lO b k) (k - 16) (by omega),mF (lO b k) (k - 7) (by omega),bR.at,aa,mG,rv,ri]
   have e6:=s6 (lO b k) (Di (lO b k) k) (by omega)
   rw[hwl]at e6
   rw[B4 b k (by omega),ext,hwl,←e6]
   rfl
 ·right
  obtain rfl:k=64:=by omega
  intro R kn kx
  rw[schedule.L0.step,bl (by omega),xf _ hwl,C3]
  simp only[aw,schedule.L0.add,schedule.L0.F]
theorem schedule.ok:schedule.Ok:=by
 intro b hb
 have hp:schedule.L0.aC (b,0,List.replicate 64 0):=⟨hb,0,by omega,rfl,rfl⟩
 rw[schedule.eq,schedule.L0.run hp]
 simp only[aa,schedule.L0.add,schedule.L0.F,schedule.add,schedule.F]
noncomputable def schedule.E:=Entry.cP [some tB] schedule.st schedule.aC schedule.add schedule.F schedule.out
noncomputable def schedule.call:schedule.D→Option schedule.X:=bS schedule.E schedule.st
theorem schedule.run:bP schedule.call schedule.aC schedule.add schedule.F:=de (cZ [.d tB] fun _=>by kernel_rfl)
noncomputable def schedule.sg:SG Tryz.prog:=⟨246,aV,schedule.E,.fn 1 (by kernel_rfl) schedule.ok (And.intro (.cP schedule.L0.ok (by kernel_rfl)) trivial)⟩
set_option synthInstance.maxSize 5000
abbrev mix.L0.D:=(List Int)×Int×(List Int)×(List Int)×(List Int)×(List Int)
def mix.L0.st:mix.L0.D→AS:=fun(h_2,t18,n4,n5,n6,n7)=>⟨([.undef,.undef,.dZ (.arr 8 (.int .u32)) h_2,.undef,.ptr (.new 4 0) 0 [] 0,.ptr (.new 5 0) 0 [] 0,.ptr (.new 6 0) 0 [] 0,.ptr (.new 7 0) 0 [] 0]++bm 10 ([.d ti t18]++bm 98 [])),[],(cr 4 ([[.obj 0 false (.d (.arr 8 (.int .u32)) n4)],[.obj 0 false (.d (.arr 64 (.int .u32)) n5)],[.obj 0 false (.d (.arr 64 (.int .u32)) n6)],[.obj 0 false (.d (.arr 8 (.int .u32)) n7)]]++cr 109 []))⟩
abbrev mix.L0.Y0:=(List Int)
abbrev mix.L0.X0:=((List Int)×(List Int))×((List Int))
def mix.L0.bK:mix.L0.X0→Exit×AS:=fun x=>(.exit 0,⟨([.undef,.undef,.dZ (.arr 8 (.int .u32)) x.1.1,.undef,.ptr (.new 4 0) 0 [] 0,.undef,.undef,.ptr (.new 7 0) 0 [] 0]++bm 109 []),[],(cr 4 ([[.obj 0 false (.d (.arr 8 (.int .u32)) x.1.2)],[],[],[.obj 0 false (.d (.arr 8 (.int .u32)) x.2)]]++cr 109 []))⟩)
abbrev mix.L0.X:=mix.L0.X0
abbrev mix.L0.Y:=mix.L0.Y0
def mix.L0.out:mix.L0.X→Out (Exit×AS):=fun x=> .ok (mix.L0.bK x)
def mix.L0.add:mix.L0.D→mix.L0.Y→mix.L0.X:=fun(h_2,t18,n4,n5,n6,n7) y=>((h_2,n4),y)
abbrev mix.L1.D:=(List Int)×Int×(List Int)×(List Int)
def mix.L1.st:mix.L1.D→AS:=fun(h_3,t104,n4_2,n7_2)=>⟨([.undef,.undef,.dZ (.arr 8 (.int .u32)) h_3,.undef,.ptr (.new 4 0) 0 [] 0,.undef,.undef,.ptr (.new 7 0) 0 [] 0]++bm 96 ([.d ti t104]++bm 12 [])),[],(cr 4 ([[.obj 0 false (.d (.arr 8 (.int .u32)) n4_2)],[],[],[.obj 0 false (.d (.arr 8 (.int .u32)) n7_2)]]++cr 109 []))⟩
abbrev mix.L1.Y0:=(List Int)
abbrev mix.L1.X0:=((List Int))×((List Int))
def mix.L1.bK:mix.L1.X0→Exit×AS:=fun x=>(.exit 2,⟨(bm 4 ([.ptr (.new 4 0) 0 [] 0,.undef,.undef,.ptr (.new 7 0) 0 [] 0]++bm 109 [])),[],(cr 4 ([[.obj 0 false (.d (.arr 8 (.int .u32)) x.1)],[],[],[.obj 0 false (.d (.arr 8 (.int .u32)) x.2)]]++cr 109 []))⟩)
abbrev mix.L1.X:=mix.L1.X0
abbrev mix.L1.Y:=mix.L1.Y0
def mix.L1.out:mix.L1.X→Out (Exit×AS):=fun x=> .ok (mix.L1.bK x)
def mix.L1.add:mix.L1.D→mix.L1.Y→mix.L1.X:=fun(h_3,t104,n4_2,n7_2) y=>(n4_2,y)
abbrev mix.D:=(List Int)×Bs
def mix.st:mix.D→SA:=fun(h,b)=>([.d (.arr 8 (.int .u32)) h,.d tB b],[])
abbrev mix.Y:=(List Int)
abbrev mix.X:=(List Int)
def mix.out:mix.X→aW:=fun x=>⟨.d (.arr 8 (.int .u32)) x,[],[]⟩
def mix.add:mix.D→mix.Y→mix.X:=fun(h,b) y=>y
def z7(l:List Int):St:=⟨BitVec.ofInt 32 (l.getD 0 0),BitVec.ofInt 32 (l.getD 1 0),BitVec.ofInt 32 (l.getD 2 0),BitVec.ofInt 32 (l.getD 3 0),BitVec.ofInt 32 (l.getD 4 0),BitVec.ofInt 32 (l.getD 5 0),BitVec.ofInt 32 (l.getD 6 0),BitVec.ofInt 32 (l.getD 7 0)⟩
theorem kf(s:St):z7 s.l=s:=by
 obtain⟨a,b,c,d,e,f,g,h⟩:=s
 simp[z7,St.l,jl]
def Eg(l:List Int):List W:=l.map (BitVec.ofInt 32)
theorem yW(l:List W):Eg (wl l)=l:=by
 unfold Eg wl
 rw[List.map_map]
 have:(BitVec.ofInt 32∘vw)=(id:W→W):=by funext w;exact jl w
 rw[this,List.map_id]
def mix.L0.aC:mix.L0.D→Prop:=fun(h,t,n4,n5,n6,n7)=>∃(s:St) (ws:List W) (k:Nat),h=s.l∧n5=wl ws∧ws.length=64∧k≤64∧t=k∧n6=vY∧n7=(rounds ws s k).l
def mix.L0.F:mix.L0.D→mix.L0.Y:=fun(h,t,n4,n5,n6,n7)=>(rounds (Eg n5) (z7 h) 64).l
def mix.L1.aC:mix.L1.D→Prop:=fun(h,t,n4,n7)=>n7.length=8∧∃k:Nat,k≤8∧t=k
def mix.L1.F:mix.L1.D→mix.L1.Y:=fun(h,t,n4,n7)=>from_ (fun i x=>ck .u32 x (nth (.int .u32) h i)) t.toNat n7
def mix.aC:mix.D→Prop:=fun(h,b)=>(∃s:St,h=s.l)∧64≤b.length
def mix.F:mix.D→mix.Y:=fun(h,b)=>(zF (z7 h) b).l
noncomputable def mix.G:dH:=eT (P:=Tryz.prog) [schedule.sg,table.sg,bR.sg]
noncomputable def mix.L0.E:=bZ.cP mix.L0.st mix.L0.aC mix.L0.add mix.L0.F mix.L0.out
noncomputable def mix.L0.call:mix.L0.D→Option mix.L0.X:=dI mix.L0.E mix.L0.st
noncomputable def mix.L1.E:=bZ.cP mix.L1.st mix.L1.aC mix.L1.add mix.L1.F mix.L1.out
noncomputable def mix.L1.call:mix.L1.D→Option mix.L1.X:=dI mix.L1.E mix.L1.st
noncomputable def mix.an:ee:= {loops:=lZ [(4,{bn:=[2,4,5,6,7,18],sites:=[4,5,6,7]}),(13,{bn:=[2,4,7,104],sites:=[4,7]})],outs:=lY [(4,{bn:=[2,4,7],sites:=[4,7]},{bn:=[4]}),(13,{bn:=[4,7],sites:=[4,7]},{bn:=[4]})],fO:=mW [(4,mix.L0.E),(13,mix.L1.E)]}
noncomputable def mix.A:= @cT Tryz.prog mix.G mix.an 0 Tryz.f202 _ mix.st
abbrev mix.Ok:=cU @mix.A mix.aC mix.add mix.F mix.out
noncomputable def mix.L0.R:= @cC Tryz.prog mix.G mix.an 0 Tryz.f202 0 _ mix.L0.st
abbrev mix.L0.Ok:=eO Tryz.prog mix.G mix.an 0 Tryz.f202 0 mix.L0.st mix.L0.aC mix.L0.add mix.L0.F mix.L0.out
noncomputable def mix.L1.R:= @cC Tryz.prog mix.G mix.an 0 Tryz.f202 1 _ mix.L1.st
abbrev mix.L1.Ok:=eO Tryz.prog mix.G mix.an 0 Tryz.f202 1 mix.L1.st mix.L1.aC mix.L1.add mix.L1.F mix.L1.out
theorem mix.L0.run:bP mix.L0.call mix.L0.aC mix.L0.add mix.L0.F:=fe (eY [.d (.arr 8 (.int .u32)),.d ti,.d (.slice (.int .u32)),.d (.slice (.int .u32)),.d (.slice (.int .u32)),.d (.slice (.int .u32))] fun _=>by kernel_rfl)
theorem mix.L0.aL:ga @mix.L0.R mix.L0.st mix.L0.aC mix.L0.add mix.L0.F mix.L0.bK mix.L0.Ok:=gw
theorem mix.L0.step{R:Type}(h_2:(List Int))(t18:Int)(n4:(List Int))(n5:(List Int))(n6:(List Int))(n7:(List Int))(kn:AS→Option R)(kx:Exit→AS→Option R):mix.L0.R (h_2,t18,n4,n5,n6,n7) kn kx=
  aF ((gQ t18 (64:Int))) (
   aF (decide (4 < (List.length n7))) (
   ah (bR.call ((nth (.int .u32) n7 4),(-6:Int))) fun x1=>
   aF (decide (4 < (List.length n7))) (
   ah (bR.call ((nth (.int .u32) n7 4),(-11:Int))) fun x2=>
   aF (decide (4 < (List.length n7))) (
   ah (bR.call ((nth (.int .u32) n7 4),(-25:Int))) fun x3=>
   aF (decide (7 < (List.length n7))) (
   aF (decide (6 < (List.length n7))) (
   aF (decide (4 < (List.length n7))) (
   aF (decide (5 < (List.length n7))) (
   aF (decide (6 < (List.length n7))) (
   aF (fE t18 (64:Int)) (
   aF (decide ((Int.toNat t18) < (List.length n6))) (
   aF (decide ((((Int.toNat t18)*1)+0)=(0+((Int.toNat t18)*1)))) (
   aF (fE t18 (64:Int)) (
   aF (decide ((Int.toNat t18) < (List.length n5))) (
   aF (decide ((((Int.toNat t18)*1)+0)=(0+((Int.toNat t18)*1)))) (
   aF (decide (0 < (List.length n7))) (
   ah (bR.call ((nth (.int .u32) n7 0),(-2:Int))) fun x4=>
   aF (decide (0 < (List.length n7))) (
   ah (bR.call ((nth (.int .u32) n7 0),(-13:Int))) fun x5=>
   aF (decide (0 < (List.length n7))) (
   ah (bR.call ((nth (.int .u32) n7 0),(-22:Int))) fun x6=>
   aF (decide (0 < (List.length n7))) (
   aF (decide (1 < (List.length n7))) (
   aF (decide (2 < (List.length n7))) (
   aF (decide (0 < (List.length n7))) (
   aF (decide (1 < (List.length n7))) (
   aF (decide (0 < (List.length n7))) (
   aF (decide (1 < (List.length n7))) (
   aF (decide (2 < (List.length n7))) (
   aF (decide (3 < (List.length n7))) (
   aF (decide (4 < (List.length n7))) (
   aF (decide (5 < (List.length n7))) (
   aF (decide (6 < (List.length n7))) (
   kn (mix.L0.st (h_2,(ck .i64 t18 (1:Int)),n4,n5,n6,[(ck .u32 (ck .u32 (ck .u32 (ck .u32 (ck .u32 (ck .u32 (nth (.int .u32) n7 7) (cQ .xor .u32 (cQ .xor .u32 x1 x2) x3)) (cQ .xor .u32 (nth (.int .u32) n7 6) (cQ .and .u32 (nth (.int .u32) n7 4) (cQ .xor .u32 (nth (.int .u32) n7 5) (nth (.int .u32) n7 6))))) (nth (.int .u32) n6 (Int.toNat t18))) (nth (.int .u32) n5 (Int.toNat t18))) (cQ .xor .u32 (cQ .xor .u32 x4 x5) x6)) (cQ .or .u32 (cQ .and .u32 (nth (.int .u32) n7 0) (nth (.int .u32) n7 1)) (cQ .and .u32 (nth (.int .u32) n7 2) (cQ .or .u32 (nth (.int .u32) n7 0) (nth (.int .u32) n7 1))))),(nth (.int .u32) n7 0),(nth (.int .u32) n7 1),(nth (.int .u32) n7 2),(ck .u32 (nth (.int .u32) n7 3) (ck .u32 (ck .u32 (ck .u32 (ck .u32 (nth (.int .u32) n7 7) (cQ .xor .u32 (cQ .xor .u32 x1 x2) x3)) (cQ .xor .u32 (nth (.int .u32) n7 6) (cQ .and .u32 (nth (.int .u32) n7 4) (cQ .xor .u32 (nth (.int .u32) n7 5) (nth (.int .u32) n7 6))))) (nth (.int .u32) n6 (Int.toNat t18))) (nth (.int .u32) n5 (Int.toNat t18)))),(nth (.int .u32) n7 4),(nth (.int .u32) n7 5),(nth (.int .u32) n7 6)]))) none) none) none) none) none) none) none) none) none) none) none) none) none) none) none) none) none) none) none) none) none) none) none) none) none) none) none) none) none) (
   kx (mix.L0.bK ((h_2,n4),n7)).1 (mix.L0.bK ((h_2,n4),n7)).2):=by kernel_rfl
theorem mix.L1.run:bP mix.L1.call mix.L1.aC mix.L1.add mix.L1.F:=fe (eY [.d (.arr 8 (.int .u32)),.d ti,.d (.slice (.int .u32)),.d (.slice (.int .u32))] fun _=>by kernel_rfl)
theorem mix.L1.aL:ga @mix.L1.R mix.L1.st mix.L1.aC mix.L1.add mix.L1.F mix.L1.bK mix.L1.Ok:=gw
theorem mix.L1.step{R:Type}(h_3:(List Int))(t104:Int)(n4_2:(List Int))(n7_2:(List Int))(kn:AS→Option R)(kx:Exit→AS→Option R):mix.L1.R (h_3,t104,n4_2,n7_2) kn kx=
  aF ((gQ t104 (8:Int))) (
   aF (fE t104 (8:Int)) (
   aF (decide ((Int.toNat t104) < (List.length n7_2))) (
   aF (decide ((((Int.toNat t104)*1)+0)=(0+((Int.toNat t104)*1)))) (
   aF (fE t104 (8:Int)) (
   aF (fE t104 (8:Int)) (
   aF (decide ((Int.toNat t104) < (List.length n7_2))) (
   aF (decide ((((Int.toNat t104)*1)+0)=(0+((Int.toNat t104)*1)))) (
   aF (decide ((Int.toNat t104) < (List.length n7_2))) (
   kn (mix.L1.st (h_3,(ck .i64 t104 (1:Int)),n4_2,(List.set n7_2 (Int.toNat t104) (ck .u32 (nth (.int .u32) n7_2 (Int.toNat t104)) (nth (.int .u32) h_3 (Int.toNat t104))))))) none) none) none) none) none) none) none) none) (
   kx (mix.L1.bK (n4_2,n7_2)).1 (mix.L1.bK (n4_2,n7_2)).2):=by kernel_rfl
theorem mix.eq{R:Type}(h:(List Int))(b:Bs)(k:aW→Option R):mix.A (h,b) k=
 ah (schedule.call b) fun x1=>
 ah (table.call ()) fun x2=>
 ah (mix.L0.call (h,(0:Int),(List.replicate 8 (0:Int)),x1,x2,h)) fun x9=>
 ah (mix.L1.call (x9.1.1,(0:Int),x9.1.2,x9.2)) fun x10=>
 k (mix.out x10.2):=by kernel_rfl
theorem St.A8(s:St):s.l.length=8:=rfl
theorem vZ:vY.length=64:=rfl
theorem A7(k:Nat)(h:k < 64):nth (.int .u32) vY k=vw (kw k):=by
 have hh:∀k:Fin 64,nth (.int .u32) vY k.val=vw (kw k.val):=by decide+kernel
 exact hh ⟨k,h⟩
theorem Eh(ws:List W)(k:Nat)(h:k < ws.length):nth (.int .u32) (wl ws) k=vw (ws.getD k 0):=by
 unfold nth wl
 simp[h]
theorem Gh(w:W):rl w ((-6:Int)%32).toNat=mX w 6:=rfl
theorem FP(w:W):rl w ((-11:Int)%32).toNat=mX w 11:=rfl
theorem FT(w:W):rl w ((-25:Int)%32).toNat=mX w 25:=rfl
theorem Gg(w:W):rl w ((-2:Int)%32).toNat=mX w 2:=rfl
theorem FQ(w:W):rl w ((-13:Int)%32).toNat=mX w 13:=rfl
theorem FR(w:W):rl w ((-22:Int)%32).toNat=mX w 22:=rfl
theorem n0(s:St):nth (.int .u32) s.l 0=vw s.a:=rfl
theorem n1(s:St):nth (.int .u32) s.l 1=vw s.b:=rfl
theorem n2(s:St):nth (.int .u32) s.l 2=vw s.c:=rfl
theorem n3(s:St):nth (.int .u32) s.l 3=vw s.d:=rfl
theorem n4(s:St):nth (.int .u32) s.l 4=vw s.e:=rfl
theorem n5(s:St):nth (.int .u32) s.l 5=vw s.f:=rfl
theorem n6(s:St):nth (.int .u32) s.l 6=vw s.g:=rfl
theorem n7(s:St):nth (.int .u32) s.l 7=vw s.h:=rfl
theorem mix.L0.ok:mix.L0.Ok:=by
 refine mix.L0.aL (fun(h,t,n4,n5,n6,n7)=>64 - t.toNat) ?_
 rintro⟨h,t,m4,m5,m6,m7⟩ ⟨s,ws,k,rfl,rfl,hw,hk,rfl,rfl,rfl⟩
 by_cases hlt:k < 64
 ·left
  refine⟨(s.l,((k+1:Nat):Int),m4,wl ws,vY,(rounds ws s (k+1)).l),⟨s,ws,k+1,rfl,rfl,hw,by omega,rfl,rfl,rfl⟩,by simp;omega,rfl,fun kn kx=> ?_⟩
  have e1:ck .i64 (k:Int) 1=((k+1:Nat):Int):=by rw[gh (by omega) (by omega)];omega
  have e2:Int.toNat (k:Int)=k:=by omega
  have hwl:(wl ws).length=64:=by simp[wl,hw]
  have d0:decide (k < 64)=true:=bf hlt
  have i0:fE (k:Int) 64=true:=bw (by omega) (by omega)
  rw[mix.L0.step,bq (by omega)]
  generalize hv:rounds ws s k=v
  simp only[e1,e2,Nat.mul_one,Nat.zero_add,Nat.add_zero,decide_true,ao,St.A8,Nat.reduceLT,vZ,hwl,d0,i0,n0,n1,n2,n3,n4,n5,n6,n7,bR.at,aa,A7 k hlt,Eh ws k (by omega),mG,ri,Gh,FP,FT,Gg,FQ,FR]
  show kn _=kn (mix.L0.st (s.l,((k+1:Nat):Int),m4,wl ws,vY,(F9 (rounds ws s k) (kw k) (ws.getD k 0)).l))
  rw[hv]
  rfl
 ·right
  obtain rfl:k=64:=by omega
  intro R kn kx
  rw[mix.L0.step,bl (by omega)]
  simp only[aw,mix.L0.add,mix.L0.F,yW,kf]
theorem mix.L1.ok:mix.L1.Ok:=by
 refine mix.L1.aL (fun(h,t,n4,n7)=>8 - t.toNat) ?_
 rintro⟨h,t,m4,m7⟩ ⟨hl,k,hk,rfl⟩
 have hl:m7.length=8:=hl
 have e2:Int.toNat (k:Int)=k:=by omega
 have e3:Int.toNat ((k+1:Nat):Int)=k+1:=by omega
 by_cases hlt:k < 8
 ·left
  have e1:ck .i64 (k:Int) 1=((k+1:Nat):Int):=by rw[gh (by omega) (by omega)];omega
  have hn:nth (.int .u32) m7 k=m7[k]:=du (t:= .int .u32) (by omega)
  refine⟨(h,((k+1:Nat):Int),m4,m7.set k (ck .u32 m7[k] (nth (.int .u32) h k))),⟨by simpa using hl,k+1,by omega,rfl⟩,by simp;omega,?_,fun kn kx=> ?_⟩
  ·simp only[mix.L1.add,mix.L1.F,e2,e3]
   rw[tm (fun i x=>ck .u32 x (nth (.int .u32) h i)) m7 k (by omega)]
  ·have d0:decide (k < 8)=true:=bf hlt
   have i0:fE (k:Int) 8=true:=bw (by omega) (by omega)
   rw[mix.L1.step,bq (by omega)]
   simp only[e1,e2,Nat.mul_one,Nat.zero_add,Nat.add_zero,decide_true,ao,hl,d0,i0,hn]
 ·right
  obtain rfl:k=8:=by omega
  intro R kn kx
  rw[mix.L1.step,bl (by omega)]
  simp only[aw,mix.L1.add,mix.L1.F,e2]
  rw[vP _ _ _ (by omega)]
theorem mix.ok:mix.Ok:=by
 rintro⟨h,b⟩ ⟨⟨s,rfl⟩,hb⟩
 have hs:schedule.aC b:=hb
 have hsl:(sched b).length=64:=by unfold sched;rw[nS,iJ]
 have hp:mix.L0.aC (s.l,0,List.replicate 8 0,wl (sched b),vY,s.l):=⟨s,sched b,0,rfl,rfl,hsl,by omega,rfl,rfl,rfl⟩
 rw[mix.eq,schedule.run hs]
 simp only[aa,table.run (d:=()) trivial,schedule.add,schedule.F,table.add,table.F,mix.L0.run hp,mix.L0.add,mix.L0.F,yW,kf]
 have hp1:mix.L1.aC (s.l,0,List.replicate 8 0,(rounds (sched b) s 64).l):=⟨rfl,0,by omega,rfl⟩
 simp only[mix.L1.run hp1,aa,mix.L1.add,mix.L1.F,mix.add,mix.F,kf]
 unfold zF
 generalize rounds (sched b) s 64=v
 obtain⟨a1,b1,c1,d1,f1,g1,h1,i1⟩:=v
 simp only[St.l,from_,List.mapIdx_cons,List.mapIdx_nil,Int.toNat_zero,Nat.not_lt_zero,if_false,Nat.zero_add,Nat.reduceAdd]
 simp only[nth,List.getD_cons_zero,List.getD_cons_succ,ri]
noncomputable def mix.E:=Entry.cP [some (.arr 8 (.int .u32)),some tB] mix.st mix.aC mix.add mix.F mix.out
noncomputable def mix.call:mix.D→Option mix.X:=bS mix.E mix.st
theorem mix.run:bP mix.call mix.aC mix.add mix.F:=de (cZ [.d (.slice (.int .u32)),.d tB] fun _=>by kernel_rfl)
noncomputable def mix.sg:SG Tryz.prog:=⟨202,aV,mix.E,.fn 2 (by kernel_rfl) mix.ok (And.intro (.cP mix.L0.ok (by kernel_rfl)) (And.intro (.cP mix.L1.ok (by kernel_rfl)) trivial))⟩
set_option synthInstance.maxSize 5000
theorem ir(n:Int)(k:Int)(h0:0≤k)(h1:k≤64):dz .u8 (bC .i64 n k)=n / 2^k.toNat%256:=by
 rw[uu,fQ,bC]
 have e:min k.toNat IntKind.i64.bits=k.toNat:=by simp only[IntKind.bits];omega
 rw[e,Int.fdiv_eq_ediv_of_nonneg _ (Int.le_of_lt (Int.pow_pos (by omega)))]
 rfl
theorem lj{n:Nat}(h:n≤140737488355328):dr n 1=true:=eG (by omega) (by omega)
abbrev cd.D:=Bs
def cd.st:cd.D→SA:=fun sv=>([.d tB sv],[])
abbrev cd.Y:=Nat×(List Int)
abbrev cd.X:=Nat×(List Int)
def cd.out:cd.X→aW:=fun x=>⟨.bt (.new 0 0) 0 [] 0 0 x.1,[],[.obj 0 false (.vec 5 tb x.2)]⟩
def cd.add:cd.D→cd.Y→cd.X:=fun sv y=>y
def cd.aC:cd.D→Prop:=fun b=>b.length≤140737488355328
def cd.F:cd.D→cd.Y:=fun b=>(b.length,b)
noncomputable def cd.G:dH:=eT (P:=Tryz.prog) []
noncomputable def cd.an:ee:= {bj:=[5],kO:=[⟨2,[],5,140⟩]}
noncomputable def cd.A:= @cT Tryz.prog cd.G cd.an 0 Tryz.f200 _ cd.st
abbrev cd.Ok:=cU @cd.A cd.aC cd.add cd.F cd.out
theorem cd.eq{R:Type}(sv:Bs)(k:aW→Option R):cd.A sv k=
  aF (decide (0 < (List.length sv))) (
   aF (dr (0+(List.length sv)) 1) (
   k (cd.out ((0+(List.length sv)),((List.take 0 (List.replicate 0 (0:Int)))++sv)))) none) (
   nd (
    k (cd.out (0,([]:List Int)))) (
    aF (dr (0+(List.length sv)) 1) (
    k (cd.out ((0+(List.length sv)),((List.take 0 (List.replicate 0 (0:Int)))++sv)))) none)):=by kernel_rfl
theorem cd.ok:cd.Ok:=by
 intro b hb
 have hr:dr b.length 1=true:=lj hb
 rw[cd.eq]
 have e0:(List.take 0 (List.replicate 0 0):List Int)=[]:=rfl
 simp only[Nat.zero_add,hr,ao,e0,List.nil_append,cd.add,cd.F]
 by_cases h:0 < b.length
 ·simp only[bf h,ao]
 ·have:b=[]:=List.eq_nil_of_length_eq_zero (by omega)
  subst this
  simp only[List.length_nil,lH,bI (Nat.lt_irrefl 0),aw]
noncomputable def cd.E:=Entry.cP [some tB] cd.st cd.aC cd.add cd.F cd.out
noncomputable def cd.call:cd.D→Option cd.X:=bS cd.E cd.st
theorem cd.run:bP cd.call cd.aC cd.add cd.F:=de (cZ [.d tB] fun _=>by kernel_rfl)
noncomputable def cd.sg:SG Tryz.prog:=⟨200,aV,cd.E,.fn 0 (by kernel_rfl) cd.ok trivial⟩
abbrev dp.D:=Int
def dp.st:dp.D→SA:=fun n=>([.dq,.d ti n],[])
abbrev dp.Y:=Nat×(List Int)
abbrev dp.X:=Nat×(List Int)
def dp.out:dp.X→aW:=fun x=>⟨.bt (.new 0 0) 0 [] 0 0 x.1,[],[.obj 0 false (.vec 5 tb x.2)]⟩
def dp.add:dp.D→dp.Y→dp.X:=fun n y=>y
def dp.aC:dp.D→Prop:=fun _=>True
def dp.F:dp.D→dp.Y:=fun n=>(8,kk n)
noncomputable def dp.G:dH:=eT (P:=Tryz.prog) []
noncomputable def dp.an:ee:= {loops:=lZ [(2,{bn:=[0,1,5],sites:=[16]})],outs:=lY [(2,{bn:=[0],sites:=[16]},{bn:=[4],sites:=[16]})],kO:=[⟨4,[],16,140⟩]}
noncomputable def dp.A:= @cT Tryz.prog dp.G dp.an 12 Tryz.f143 _ dp.st
abbrev dp.Ok:=cU @dp.A dp.aC dp.add dp.F dp.out
theorem dp.eq{R:Type}(n:Int)(k:aW→Option R):dp.A n k=
 k (dp.out (8,[(dz .u8 (bC .i64 n (56:Int))),(dz .u8 (bC .i64 n (48:Int))),(dz .u8 (bC .i64 n (40:Int))),(dz .u8 (bC .i64 n (32:Int))),(dz .u8 (bC .i64 n (24:Int))),(dz .u8 (bC .i64 n (16:Int))),(dz .u8 (bC .i64 n (8:Int))),(dz .u8 (bC .i64 n (0:Int)))])):=by kernel_rfl
theorem xg(n:Int): [dz .u8 (bC .i64 n 56),dz .u8 (bC .i64 n 48),dz .u8 (bC .i64 n 40),dz .u8 (bC .i64 n 32),dz .u8 (bC .i64 n 24),dz .u8 (bC .i64 n 16),dz .u8 (bC .i64 n 8),dz .u8 (bC .i64 n 0)]=kk n:=by
 rw[ir n 56 (by omega) (by omega),ir n 48 (by omega) (by omega),ir n 40 (by omega) (by omega),ir n 32 (by omega) (by omega),ir n 24 (by omega) (by omega),ir n 16 (by omega) (by omega),ir n 8 (by omega) (by omega),ir n 0 (by omega) (by omega)]
 simp[kk]
theorem dp.ok:dp.Ok:=by
 intro n _
 rw[dp.eq,xg]
 rfl
noncomputable def dp.E:=Entry.cP [none,some ti] dp.st dp.aC dp.add dp.F dp.out
noncomputable def dp.call:dp.D→Option dp.X:=bS dp.E dp.st
theorem dp.run:bP dp.call dp.aC dp.add dp.F:=de (cZ [.d ti] fun _=>by kernel_rfl)
noncomputable def dp.sg:SG Tryz.prog:=⟨143,zK,dp.E,.fn 1 (by kernel_rfl) dp.ok (And.intro (.none (by kernel_rfl)) trivial)⟩
abbrev cI.D:=Nat×Int×Bs
def cI.st:cI.D→SA:=fun(bL,n,o0)=>([.bt (.cz 0) 0 [] 0 0 bL,.d ti n],[.obj 0 false (.vec 5 tb o0)])
abbrev cI.Y:=Nat×(List Int)
abbrev cI.X:=Nat×(List Int)
def cI.out:cI.X→aW:=fun x=>⟨.bt (.cz 0) 8 [] 0 0 x.1,[.obj 8 false (.vec 5 tb x.2)],[]⟩
def cI.add:cI.D→cI.Y→cI.X:=fun(bL,n,o0) y=>y
def cI.aC:cI.D→Prop:=fun(m,n,l)=>m=l.length∧l.length≤140737488355320
def cI.F:cI.D→cI.Y:=fun(m,n,l)=>(l.length+8,l++kk n)
noncomputable def cI.G:dH:=eT (P:=Tryz.prog) []
noncomputable def cI.an:ee:= {loops:=lZ [(2,{bn:=[0,1,5],sites:=[16]})],outs:=lY [(2,{bn:=[0],sites:=[16]},{bn:=[4],sites:=[16]})]}
noncomputable def cI.A:= @cT Tryz.prog cI.G cI.an 12 Tryz.f143 _ cI.st
abbrev cI.Ok:=cU @cI.A cI.aC cI.add cI.F cI.out
theorem cI.eq{R:Type}(bL:Nat)(n:Int)(o0:Bs)(k:aW→Option R):cI.A (bL,n,o0) k=
 aF (decide (bL≤(List.length o0))) (
 aF (dr (bL+1) 1) (
 aF (decide ((bL+1)≤(List.length ((List.take bL o0)++ [(dz .u8 (bC .i64 n (56:Int)))])))) (
 aF (dr ((bL+1)+1) 1) (
 aF (decide (((bL+1)+1)≤(List.length ((List.take (bL+1) ((List.take bL o0)++ [(dz .u8 (bC .i64 n (56:Int)))]))++ [(dz .u8 (bC .i64 n (48:Int)))])))) (
 aF (dr (((bL+1)+1)+1) 1) (
 aF (decide ((((bL+1)+1)+1)≤(List.length ((List.take ((bL+1)+1) ((List.take (bL+1) ((List.take bL o0)++ [(dz .u8 (bC .i64 n (56:Int)))]))++ [(dz .u8 (bC .i64 n (48:Int)))]))++ [(dz .u8 (bC .i64 n (40:Int)))])))) (
 aF (dr ((((bL+1)+1)+1)+1) 1) (
 aF (decide (((((bL+1)+1)+1)+1)≤(List.length ((List.take (((bL+1)+1)+1) ((List.take ((bL+1)+1) ((List.take (bL+1) ((List.take bL o0)++ [(dz .u8 (bC .i64 n (56:Int)))]))++ [(dz .u8 (bC .i64 n (48:Int)))]))++ [(dz .u8 (bC .i64 n (40:Int)))]))++ [(dz .u8 (bC .i64 n (32:Int)))])))) (
 aF (dr (((((bL+1)+1)+1)+1)+1) 1) (
 aF (decide ((((((bL+1)+1)+1)+1)+1)≤(List.length ((List.take ((((bL+1)+1)+1)+1) ((List.take (((bL+1)+1)+1) ((List.take ((bL+1)+1) ((List.take (bL+1) ((List.take bL o0)++ [(dz .u8 (bC .i64 n (56:Int)))]))++ [(dz .u8 (bC .i64 n (48:Int)))]))++ [(dz .u8 (bC .i64 n (40:Int)))]))++ [(dz .u8 (bC .i64 n (32:Int)))]))++ [(dz .u8 (bC .i64 n (24:Int)))])))) (
 aF (dr ((((((bL+1)+1)+1)+1)+1)+1) 1) (
 aF (decide (((((((bL+1)+1)+1)+1)+1)+1)≤(List.length ((List.take (((((bL+1)+1)+1)+1)+1) ((List.take ((((bL+1)+1)+1)+1) ((List.take (((bL+1)+1)+1) ((List.take ((bL+1)+1) ((List.take (bL+1) ((List.take bL o0)++ [(dz .u8 (bC .i64 n (56:Int)))]))++ [(dz .u8 (bC .i64 n (48:Int)))]))++ [(dz .u8 (bC .i64 n (40:Int)))]))++ [(dz .u8 (bC .i64 n (32:Int)))]))++ [(dz .u8 (bC .i64 n (24:Int)))]))++ [(dz .u8 (bC .i64 n (16:Int)))])))) (
 aF (dr (((((((bL+1)+1)+1)+1)+1)+1)+1) 1) (
 aF (decide ((((((((bL+1)+1)+1)+1)+1)+1)+1)≤(List.length ((List.take ((((((bL+1)+1)+1)+1)+1)+1) ((List.take (((((bL+1)+1)+1)+1)+1) ((List.take ((((bL+1)+1)+1)+1) ((List.take (((bL+1)+1)+1) ((List.take ((bL+1)+1) ((List.take (bL+1) ((List.take bL o0)++ [(dz .u8 (bC .i64 n (56:Int)))]))++ [(dz .u8 (bC .i64 n (48:Int)))]))++ [(dz .u8 (bC .i64 n (40:Int)))]))++ [(dz .u8 (bC .i64 n (32:Int)))]))++ [(dz .u8 (bC .i64 n (24:Int)))]))++ [(dz .u8 (bC .i64 n (16:Int)))]))++ [(dz .u8 (bC .i64 n (8:Int)))])))) (
 aF (dr ((((((((bL+1)+1)+1)+1)+1)+1)+1)+1) 1) (
 k (cI.out (((((((((bL+1)+1)+1)+1)+1)+1)+1)+1),((List.take (((((((bL+1)+1)+1)+1)+1)+1)+1) ((List.take ((((((bL+1)+1)+1)+1)+1)+1) ((List.take (((((bL+1)+1)+1)+1)+1) ((List.take ((((bL+1)+1)+1)+1) ((List.take (((bL+1)+1)+1) ((List.take ((bL+1)+1) ((List.take (bL+1) ((List.take bL o0)++ [(dz .u8 (bC .i64 n (56:Int)))]))++ [(dz .u8 (bC .i64 n (48:Int)))]))++ [(dz .u8 (bC .i64 n (40:Int)))]))++ [(dz .u8 (bC .i64 n (32:Int)))]))++ [(dz .u8 (bC .i64 n (24:Int)))]))++ [(dz .u8 (bC .i64 n (16:Int)))]))++ [(dz .u8 (bC .i64 n (8:Int)))]))++ [(dz .u8 (bC .i64 n (0:Int)))])))) none) none) none) none) none) none) none) none) none) none) none) none) none) none) none) none:=by kernel_rfl
theorem cI.ok:cI.Ok:=by
 rintro⟨m,n,l⟩ ⟨rfl,hl⟩
 have hl:l.length≤140737488355320:=hl
 rw[cI.eq]
 simp only[Nat.le_refl,decide_true,ao,List.take_of_length_le,List.length_append,List.length_cons,List.length_nil,Nat.zero_add]
 rw[lj (by omega),lj (by omega),lj (by omega),lj (by omega),lj (by omega),lj (by omega),lj (by omega),lj (by omega)]
 simp only[ao,cI.add,cI.F,←xg,List.append_assoc,List.cons_append,List.nil_append]
noncomputable def cI.E:=Entry.cP [none,some ti] cI.st cI.aC cI.add cI.F cI.out
noncomputable def cI.call:cI.D→Option cI.X:=bS cI.E cI.st
theorem cI.run:bP cI.call cI.aC cI.add cI.F:=de (cZ [.n,.d ti,.d tB] fun _=>by kernel_rfl)
noncomputable def cI.sg:SG Tryz.prog:=⟨143,tN,cI.E,.fn 1 (by kernel_rfl) cI.ok (And.intro (.none (by kernel_rfl)) trivial)⟩
set_option synthInstance.maxSize 5000
abbrev aA.L0.D:=Bs×Nat×Bs×(List Int)
def aA.L0.st:aA.L0.D→AS:=fun(b_2,endL,n2,n14)=>⟨([.d tB b_2,.undef,.ptr (.new 2 0) 0 [] 0,.bt (.new 14 0) 0 [] 0 0 endL]++bm 61 []),[],([[],[],[.obj 0 false (.d tH n2)]]++cr 11 ([[.obj 0 false (.vec 5 tb n14)]]++cr 50 []))⟩
abbrev aA.L0.Y0:=Nat×(List Int)
abbrev aA.L0.X0:=(Bs×Bs)×(Nat×(List Int))
def aA.L0.bK:aA.L0.X0→Exit×AS:=fun x=>(.exit 0,⟨([.d tB x.1.1,.undef,.ptr (.new 2 0) 0 [] 0,.bt (.new 14 0) 0 [] 0 0 x.2.1]++bm 61 []),[],([[],[],[.obj 0 false (.d tH x.1.2)]]++cr 11 ([[.obj 0 false (.vec 5 tb x.2.2)]]++cr 50 []))⟩)
abbrev aA.L0.X:=aA.L0.X0
abbrev aA.L0.Y:=aA.L0.Y0
def aA.L0.out:aA.L0.X→Out (Exit×AS):=fun x=> .ok (aA.L0.bK x)
def aA.L0.add:aA.L0.D→aA.L0.Y→aA.L0.X:=fun(b_2,endL,n2,n14) y=>((b_2,n2),y)
abbrev aA.L1.D:=Bs×Nat×Bs×(List Int)×(List Int)
def aA.L1.st:aA.L1.D→AS:=fun(b_3,endL_2,n2_2,n4,n14_2)=>⟨([.d tB b_3,.undef,.ptr (.new 2 0) 0 [] 0,.bt (.new 14 0) 8 [] 0 0 endL_2,.ptr (.new 4 0) 0 [] 0]++bm 60 []),[],([[],[],[.obj 0 false (.d tH n2_2)],[],[.obj 0 false (.d (.arr 8 (.int .u32)) n4)]]++cr 9 ([[.obj 8 false (.vec 5 tb n14_2)]]++cr 50 []))⟩
abbrev aA.L1.Y0:=(List Int)
abbrev aA.L1.X0:=(Nat×Bs×(List Int))×((List Int))
def aA.L1.bK:aA.L1.X0→Exit×AS:=fun x=>(.exit 2,⟨([.undef,.undef,.ptr (.new 2 0) 0 [] 0,.bt (.new 14 0) 8 [] 0 0 x.1.1,.ptr (.new 4 0) 0 [] 0]++bm 60 []),[],([[],[],[.obj 0 false (.d tH x.1.2.1)],[],[.obj 0 false (.d (.arr 8 (.int .u32)) x.2)]]++cr 9 ([[.obj 8 false (.vec 5 tb x.1.2.2)]]++cr 50 []))⟩)
abbrev aA.L1.X:=aA.L1.X0
abbrev aA.L1.Y:=aA.L1.Y0
def aA.L1.out:aA.L1.X→Out (Exit×AS):=fun x=> .ok (aA.L1.bK x)
def aA.L1.add:aA.L1.D→aA.L1.Y→aA.L1.X:=fun(b_3,endL_2,n2_2,n4,n14_2) y=>((endL_2,n2_2,n14_2),y)
abbrev aA.L2.D:=Bs×Bs×(List Int)
def aA.L2.st:aA.L2.D→AS:=fun(endv,n2_3,n4_2)=>⟨([.undef,.undef,.ptr (.new 2 0) 0 [] 0,.d tB endv,.ptr (.new 4 0) 0 [] 0]++bm 60 []),[],([[],[],[.obj 0 false (.d tH n2_3)],[],[.obj 0 false (.d (.arr 8 (.int .u32)) n4_2)]]++cr 60 [])⟩
abbrev aA.L2.Y0:=(List Int)
abbrev aA.L2.X0:=(Bs)×((List Int))
def aA.L2.bK:aA.L2.X0→Exit×AS:=fun x=>(.exit 4,⟨([.undef,.undef,.ptr (.new 2 0) 0 [] 0,.undef,.ptr (.new 4 0) 0 [] 0]++bm 60 []),[],([[],[],[.obj 0 false (.d tH x.1)],[],[.obj 0 false (.d (.arr 8 (.int .u32)) x.2)]]++cr 60 [])⟩)
abbrev aA.L2.X:=aA.L2.X0
abbrev aA.L2.Y:=aA.L2.Y0
def aA.L2.out:aA.L2.X→Out (Exit×AS):=fun x=> .ok (aA.L2.bK x)
def aA.L2.add:aA.L2.D→aA.L2.Y→aA.L2.X:=fun(endv,n2_3,n4_2) y=>(n2_3,y)
abbrev aA.L3.D:=Int×Bs×(List Int)
def aA.L3.st:aA.L3.D→AS:=fun(t48,n2_4,n4_3)=>⟨([.undef,.undef,.ptr (.new 2 0) 0 [] 0,.undef,.ptr (.new 4 0) 0 [] 0]++bm 43 ([.d ti t48]++bm 16 [])),[],([[],[],[.obj 0 false (.d tH n2_4)],[],[.obj 0 false (.d (.arr 8 (.int .u32)) n4_3)]]++cr 60 [])⟩
abbrev aA.L3.Y0:=Bs
abbrev aA.L3.X0:=Bs
def aA.L3.bK:aA.L3.X0→Exit×AS:=fun x=>(.exit 6,⟨([.undef,.undef,.ptr (.new 2 0) 0 [] 0]++bm 62 []),[],([[],[],[.obj 0 false (.d tH x)]]++cr 62 [])⟩)
abbrev aA.L3.X:=aA.L3.X0
abbrev aA.L3.Y:=aA.L3.Y0
def aA.L3.out:aA.L3.X→Out (Exit×AS):=fun x=> .ok (aA.L3.bK x)
def aA.L3.add:aA.L3.D→aA.L3.Y→aA.L3.X:=fun(t48,n2_4,n4_3) y=>y
abbrev aA.D:=Bs
def aA.st:aA.D→SA:=fun b=>([.d tB b],[])
abbrev aA.Y:=Bs
abbrev aA.X:=Bs
def aA.out:aA.X→aW:=fun x=>⟨.d tH x,[],[]⟩
def aA.add:aA.D→aA.Y→aA.X:=fun b y=>y
def zc(n:Nat):Nat:=(120 - n%64)%64
def aA.L0.aC:aA.L0.D→Prop:=fun(b,m,n2,l)=>m=l.length∧l.length+zc l.length≤140737488355328
def aA.L0.F:aA.L0.D→aA.L0.Y:=fun(b,m,n2,l)=>(l.length+zc l.length,l++List.replicate (zc l.length) 0)
def aA.L1.aC:aA.L1.D→Prop:=fun(b,m,n2,h,l)=>∃s:St,h=s.l
def aA.L1.F:aA.L1.D→aA.L1.Y:=fun(b,m,n2,h,l)=>(blocks (z7 h) b).l
def aA.L2.aC:aA.L2.D→Prop:=fun(b,n2,h)=>b.length%64=0∧∃s:St,h=s.l
def aA.L2.F:aA.L2.D→aA.L2.Y:=fun(b,n2,h)=>(blocks (z7 h) b).l
def s9(h:List Int)(i:Nat)(_:Int):Int:=dz .u8 (bC .u32 (nth (.int .u32) h (i / 4)) ((24 - 8*(i%4):Nat):Int))
def aA.L3.aC:aA.L3.D→Prop:=fun(t,n2,h)=>n2.length=32∧h.length=8∧∃k:Nat,k≤32∧t=k
def aA.L3.F:aA.L3.D→aA.L3.Y:=fun(t,n2,h)=>from_ (s9 h) t.toNat n2
def aA.aC:aA.D→Prop:=fun b=>b.length≤140737488350000
def aA.F:aA.D→aA.Y:=fun b=>Et b
noncomputable def aA.G:dH:=eT (P:=Tryz.prog) [cd.sg,cI.sg,first.sg,mix.sg]
noncomputable def aA.L0.E:=bZ.cP aA.L0.st aA.L0.aC aA.L0.add aA.L0.F aA.L0.out
noncomputable def aA.L0.call:aA.L0.D→Option aA.L0.X:=dI aA.L0.E aA.L0.st
noncomputable def aA.L1.E:=bZ.cP aA.L1.st aA.L1.aC aA.L1.add aA.L1.F aA.L1.out
noncomputable def aA.L1.call:aA.L1.D→Option aA.L1.X:=dI aA.L1.E aA.L1.st
noncomputable def aA.L2.E:=bZ.cP aA.L2.st aA.L2.aC aA.L2.add aA.L2.F aA.L2.out
noncomputable def aA.L2.call:aA.L2.D→Option aA.L2.X:=dI aA.L2.E aA.L2.st
noncomputable def aA.L3.E:=bZ.cP aA.L3.st aA.L3.aC aA.L3.add aA.L3.F aA.L3.out
noncomputable def aA.L3.call:aA.L3.D→Option aA.L3.X:=dI aA.L3.E aA.L3.st
noncomputable def aA.an:ee:= {loops:=lZ [(2,{bn:=[0,2,3],sites:=[2,14],kO:=[⟨3,[],14,140⟩]}),(6,{bn:=[0,2,3,4],sites:=[2,4,14]}),(9,{bn:=[2,3,4],sites:=[2,4],data:=[(3,tB)]}),(13,{bn:=[2,4,48],sites:=[2,4]})],outs:=lY [(2,{bn:=[0,2,3],sites:=[2,14]},{bn:=[2]}),(6,{bn:=[2,3,4],sites:=[2,4,14]},{bn:=[2]}),(9,{bn:=[2,4],sites:=[2,4]},{bn:=[2]}),(13,{bn:=[2],sites:=[2]},{bn:=[2]})],fO:=mW [(2,aA.L0.E),(6,aA.L1.E),(9,aA.L2.E),(13,aA.L3.E)]}
noncomputable def aA.A:= @cT Tryz.prog aA.G aA.an 0 Tryz.f144 _ aA.st
abbrev aA.Ok:=cU @aA.A aA.aC aA.add aA.F aA.out
noncomputable def aA.L0.R:= @cC Tryz.prog aA.G aA.an 0 Tryz.f144 0 _ aA.L0.st
abbrev aA.L0.Ok:=eO Tryz.prog aA.G aA.an 0 Tryz.f144 0 aA.L0.st aA.L0.aC aA.L0.add aA.L0.F aA.L0.out
noncomputable def aA.L1.R:= @cC Tryz.prog aA.G aA.an 0 Tryz.f144 1 _ aA.L1.st
abbrev aA.L1.Ok:=eO Tryz.prog aA.G aA.an 0 Tryz.f144 1 aA.L1.st aA.L1.aC aA.L1.add aA.L1.F aA.L1.out
noncomputable def aA.L2.R:= @cC Tryz.prog aA.G aA.an 0 Tryz.f144 2 _ aA.L2.st
abbrev aA.L2.Ok:=eO Tryz.prog aA.G aA.an 0 Tryz.f144 2 aA.L2.st aA.L2.aC aA.L2.add aA.L2.F aA.L2.out
noncomputable def aA.L3.R:= @cC Tryz.prog aA.G aA.an 0 Tryz.f144 3 _ aA.L3.st
abbrev aA.L3.Ok:=eO Tryz.prog aA.G aA.an 0 Tryz.f144 3 aA.L3.st aA.L3.aC aA.L3.add aA.L3.F aA.L3.out
theorem aA.L0.run:bP aA.L0.call aA.L0.aC aA.L0.add aA.L0.F:=fe (eY [.d tB,.n,.d tB,.d tB] fun _=>by kernel_rfl)
theorem aA.L0.aL:ga @aA.L0.R aA.L0.st aA.L0.aC aA.L0.add aA.L0.F aA.L0.bK aA.L0.Ok:=gw
theorem aA.L0.step{R:Type}(b_2:Bs)(endL:Nat)(n2:Bs)(n14:(List Int))(kn:AS→Option R)(kx:Exit→AS→Option R):aA.L0.R (b_2,endL,n2,n14) kn kx=
  aF ((qe (jP ((endL:Nat):Int) (64:Int)) (56:Int))) (
   aF (decide (endL≤(List.length n14))) (
   aF (dr (endL+1) 1) (
   kn (aA.L0.st (b_2,(endL+1),n2,((List.take endL n14)++ [(0:Int)])))) none) none) (
   kx (aA.L0.bK ((b_2,n2),(endL,n14))).1 (aA.L0.bK ((b_2,n2),(endL,n14))).2):=by kernel_rfl
theorem aA.L1.run:bP aA.L1.call aA.L1.aC aA.L1.add aA.L1.F:=fe (eY [.d tB,.n,.d tB,.d (.slice (.int .u32)),.d tB] fun _=>by kernel_rfl)
theorem aA.L1.aL:ga @aA.L1.R aA.L1.st aA.L1.aC aA.L1.add aA.L1.F aA.L1.bK aA.L1.Ok:=gw
theorem aA.L1.step{R:Type}(b_3:Bs)(endL_2:Nat)(n2_2:Bs)(n4:(List Int))(n14_2:(List Int))(kn:AS→Option R)(kx:Exit→AS→Option R):aA.L1.R (b_3,endL_2,n2_2,n4,n14_2) kn kx=
  aF ((mV (((List.length b_3):Nat):Int) (64:Int))) (
   aF (inc (64:Int) (((List.length b_3):Nat):Int)) (
   ah (mix.call (n4,(cut b_3 0 64))) fun x1=>
   aF (inc (64:Int) (((List.length b_3):Nat):Int)) (
   kn (aA.L1.st ((cut b_3 64 ((List.length b_3) - 64)),endL_2,n2_2,x1,n14_2))) none) none) (
   kx (aA.L1.bK ((endL_2,n2_2,n14_2),n4)).1 (aA.L1.bK ((endL_2,n2_2,n14_2),n4)).2):=by kernel_rfl
theorem aA.L2.run:bP aA.L2.call aA.L2.aC aA.L2.add aA.L2.F:=fe (eY [.d tB,.d tB,.d (.slice (.int .u32))] fun _=>by kernel_rfl)
theorem aA.L2.aL:ga @aA.L2.R aA.L2.st aA.L2.aC aA.L2.add aA.L2.F aA.L2.bK aA.L2.Ok:=gw
theorem aA.L2.step{R:Type}(endv:Bs)(n2_3:Bs)(n4_2:(List Int))(kn:AS→Option R)(kx:Exit→AS→Option R):aA.L2.R (endv,n2_3,n4_2) kn kx=
  aF ((po (((List.length endv):Nat):Int) (0:Int))) (
   aF (inc (64:Int) (((List.length endv):Nat):Int)) (
   ah (mix.call (n4_2,(cut endv 0 64))) fun x1=>
   aF (inc (64:Int) (((List.length endv):Nat):Int)) (
   kn (aA.L2.st ((cut endv 64 ((List.length endv) - 64)),n2_3,x1))) none) none) (
   kx (aA.L2.bK (n2_3,n4_2)).1 (aA.L2.bK (n2_3,n4_2)).2):=by kernel_rfl
theorem aA.L3.run:bP aA.L3.call aA.L3.aC aA.L3.add aA.L3.F:=fe (eY [.d ti,.d tB,.d (.slice (.int .u32))] fun _=>by kernel_rfl)
theorem aA.L3.aL:ga @aA.L3.R aA.L3.st aA.L3.aC aA.L3.add aA.L3.F aA.L3.bK aA.L3.Ok:=gw
theorem aA.L3.step{R:Type}(t48:Int)(n2_4:Bs)(n4_3:(List Int))(kn:AS→Option R)(kx:Exit→AS→Option R):aA.L3.R (t48,n2_4,n4_3) kn kx=
  aF ((gQ t48 (32:Int))) (
   aF (fE (kK .i64 t48 (4:Int)) (8:Int)) (
   aF (decide ((Int.toNat (kK .i64 t48 (4:Int))) < (List.length n4_3))) (
   aF (decide ((((Int.toNat (kK .i64 t48 (4:Int)))*1)+0)=(0+((Int.toNat (kK .i64 t48 (4:Int)))*1)))) (
   aF (iC (cH .i64 (24:Int) (fg .i64 (8:Int) (jP t48 (4:Int))))) (
   aF (fE t48 (32:Int)) (
   aF (decide ((Int.toNat t48) < (List.length n2_4))) (
   aF (decide ((((Int.toNat t48)*1)+0)=(0+((Int.toNat t48)*1)))) (
   aF (decide ((Int.toNat t48) < (List.length n2_4))) (
   kn (aA.L3.st ((ck .i64 t48 (1:Int)),(List.set n2_4 (Int.toNat t48) (dz .u8 (bC .u32 (nth (.int .u32) n4_3 (Int.toNat (kK .i64 t48 (4:Int)))) (cH .i64 (24:Int) (fg .i64 (8:Int) (jP t48 (4:Int))))))),n4_3))) none) none) none) none) none) none) none) none) (
   kx (aA.L3.bK n2_4).1 (aA.L3.bK n2_4).2):=by kernel_rfl
theorem aA.eq{R:Type}(b:Bs)(k:aW→Option R):aA.A b k=
 aF (inc (cH .i64 (((List.length b):Nat):Int) (jP (((List.length b):Nat):Int) (64:Int))) (((List.length b):Nat):Int)) (
 ah (cd.call (cut b (Int.toNat (cH .i64 (((List.length b):Nat):Int) (jP (((List.length b):Nat):Int) (64:Int)))) ((List.length b) - (Int.toNat (cH .i64 (((List.length b):Nat):Int) (jP (((List.length b):Nat):Int) (64:Int))))))) fun x1=>
 aF (decide (x1.1≤(List.length x1.2))) (
 aF (dr (x1.1+1) 1) (
 ah (aA.L0.call (b,(x1.1+1),(List.replicate 32 (0:Int)),((List.take x1.1 x1.2)++ [(128:Int)]))) fun x2=>
 ah (cI.call (x2.2.1,(fg .i64 (8:Int) (((List.length x2.1.1):Nat):Int)),x2.2.2)) fun x3=>
 ah (first.call ()) fun x4=>
 ah (aA.L1.call (x2.1.1,x3.1,x2.1.2,x4,x3.2)) fun x6=>
 aF (decide (0=0∧(0+x6.1.1)≤(List.length x6.1.2.2))) (
 ah (aA.L2.call ((cut x6.1.2.2 0 x6.1.1),x6.1.2.1,x6.2)) fun x9=>
 ah (aA.L3.call ((0:Int),x9.1,x9.2)) fun x10=>
 k (aA.out x10)) none) none) none) none:=by kernel_rfl
theorem aA.L0.ok:aA.L0.Ok:=by
 refine aA.L0.aL (fun(b,m,n2,l)=>zc l.length) ?_
 rintro⟨b,m,n2,l⟩ ⟨rfl,hl⟩
 have hl:l.length+zc l.length≤140737488355328:=hl
 have hr:jP ((l.length:Nat):Int) 64=((l.length%64:Nat):Int):=by
  unfold jP
  rw[Int.tmod_eq_emod_of_nonneg (by omega)]
  omega
 by_cases h:l.length%64=56
 ·right
  intro R kn kx
  have hz:zc l.length=0:=by unfold zc;omega
  rw[aA.L0.step,hr,eM (by omega)]
  simp only[aw,aA.L0.add,aA.L0.F,hz,Nat.add_zero,List.replicate_zero,List.append_nil]
 ·left
  have hz:zc l.length=zc (l.length+1)+1:=by unfold zc;omega
  refine⟨(b,l.length+1,n2,l++ [0]),⟨by simp,by simp only[List.length_append,List.length_cons,List.length_nil,Nat.zero_add];omega⟩,by simp only[List.length_append,List.length_cons,List.length_nil,Nat.zero_add];omega,?_,fun kn kx=> ?_⟩
  ·simp only[aA.L0.add,aA.L0.F,List.length_append,List.length_cons,List.length_nil,Nat.zero_add,hz,List.append_assoc,List.cons_append,List.nil_append,List.replicate_succ]
   rw[show l.length+1+zc (l.length+1)=l.length+(zc (l.length+1)+1) by omega]
  ·rw[aA.L0.step,hr,fv (by omega),lj (by omega)]
   simp only[ao,Nat.le_refl,decide_true,List.take_length]
theorem aA.L1.ok:aA.L1.Ok:=by
 refine aA.L1.aL (fun(b,m,n2,h,l)=>b.length) ?_
 rintro⟨b,m,n2,h,l⟩ ⟨s,rfl⟩
 by_cases hb:64≤b.length
 ·left
  have e1:cut b 64 (b.length - 64)=b.drop 64:=by unfold cut;rw[List.take_of_length_le (by simp)]
  have e2:cut b 0 64=b.take 64:=rfl
  have hp:mix.aC (s.l,b.take 64):=⟨⟨s,rfl⟩,by simp;omega⟩
  refine⟨(b.drop 64,m,n2,(zF s (b.take 64)).l,l),⟨_,rfl⟩,by simp;omega,?_,fun kn kx=> ?_⟩
  ·simp only[aA.L1.add,aA.L1.F,kf]
   rw[pK s b hb]
  ·rw[aA.L1.step,fi (by omega),kZ (by omega) (by omega),e1,e2]
   simp only[ao,mix.run hp,aa,mix.add,mix.F,kf]
 ·right
  intro R kn kx
  rw[aA.L1.step,ei (by omega)]
  simp only[aw,aA.L1.add,aA.L1.F,kf]
  rw[np s b (by omega)]
theorem aA.L2.ok:aA.L2.Ok:=by
 refine aA.L2.aL (fun(b,n2,h)=>b.length) ?_
 rintro⟨b,n2,h⟩ ⟨hm,s,rfl⟩
 have hm:b.length%64=0:=hm
 by_cases hb:0 < b.length
 ·left
  have e1:cut b 64 (b.length - 64)=b.drop 64:=by unfold cut;rw[List.take_of_length_le (by simp)]
  have e2:cut b 0 64=b.take 64:=rfl
  have hp:mix.aC (s.l,b.take 64):=⟨⟨s,rfl⟩,by simp;omega⟩
  refine⟨(b.drop 64,n2,(zF s (b.take 64)).l),⟨by simp;omega,_,rfl⟩,by simp;omega,?_,fun kn kx=> ?_⟩
  ·simp only[aA.L2.add,aA.L2.F,kf]
   rw[pK s b (by omega)]
  ·rw[aA.L2.step,dT (by omega),kZ (by omega) (by omega),e1,e2]
   simp only[ao,mix.run hp,aa,mix.add,mix.F,kf]
 ·right
  intro R kn kx
  rw[aA.L2.step,dF (by omega)]
  simp only[aw,aA.L2.add,aA.L2.F,kf]
  rw[np s b (by omega)]
theorem aA.L3.ok:aA.L3.Ok:=by
 refine aA.L3.aL (fun(t,n2,h)=>32 - t.toNat) ?_
 rintro⟨t,m,h⟩ ⟨hl,h8,k,hk,rfl⟩
 have hl:m.length=32:=hl
 have h8:h.length=8:=h8
 have e2:Int.toNat (k:Int)=k:=by omega
 have e3:Int.toNat ((k+1:Nat):Int)=k+1:=by omega
 by_cases hlt:k < 32
 ·left
  have e1:ck .i64 (k:Int) 1=((k+1:Nat):Int):=by rw[gh (by omega) (by omega)];omega
  have q4:kK .i64 (k:Int) 4=((k / 4:Nat):Int):=by
   have:(k:Int).tdiv 4=((k / 4:Nat):Int):=by rw[Int.tdiv_eq_ediv_of_nonneg (by omega)];omega
   unfold kK
   rw[this,j7 (by omega) (by omega)]
  have r4:jP (k:Int) 4=((k%4:Nat):Int):=by
   unfold jP
   rw[Int.tmod_eq_emod_of_nonneg (by omega)]
   omega
  have s4:cH .i64 24 (fg .i64 8 ((k%4:Nat):Int))=((24 - 8*(k%4):Nat):Int):=by
   rw[oq (by omega) (by omega),dU (by omega) (by omega)]
   omega
  have e4:Int.toNat ((k / 4:Nat):Int)=k / 4:=by omega
  refine⟨(((k+1:Nat):Int),m.set k (s9 h k m[k]),h),⟨by simpa using hl,h8,k+1,by omega,rfl⟩,by simp;omega,?_,fun kn kx=> ?_⟩
  ·simp only[aA.L3.add,aA.L3.F,e2,e3]
   rw[tm (s9 h) m k (by omega)]
  ·have d0:decide (k < 32)=true:=bf hlt
   have d1:decide (k / 4 < 8)=true:=bf (by omega)
   rw[aA.L3.step,bq (by omega),q4,r4,s4,bw (by omega) (by omega),bw (by omega) (by omega),kA (by omega)]
   simp only[e1,e2,e4,Nat.mul_one,Nat.zero_add,Nat.add_zero,decide_true,ao,hl,h8,d0,d1,s9]
 ·right
  obtain rfl:k=32:=by omega
  intro R kn kx
  rw[aA.L3.step,bl (by omega)]
  simp only[aw,aA.L3.add,aA.L3.F,e2]
  rw[vP _ _ _ (by omega)]
theorem zN(w:W):BitVec.ofInt 8 (vw w)=w.setWidth 8:=by
 apply BitVec.eq_of_toNat_eq
 rw[BitVec.toNat_ofInt,BitVec.toNat_setWidth]
 unfold vw
 omega
theorem Dx(w:W)(k:Int):dz .u8 (bC .u32 (vw w) k)=vw ((w >>> k.toNat).setWidth 8):=by
 rw[rv,uu,zN]
theorem CN(s:St):from_ (s9 s.l) 0 (List.replicate 32 0)=CM s:=by
 rw[qZ]
 simp only[List.range_eq_range',List.range',List.map_cons,List.map_nil,s9,Nat.reduceAdd,Nat.reduceDiv,Nat.reduceMod,Nat.reduceMul,Nat.reduceSub,n0,n1,n2,n3,n4,n5,n6,n7,Dx]
 rfl
theorem aA.ok:aA.Ok:=by
 intro b hb
 have hb:b.length≤140737488350000:=hb
 have hr:jP ((b.length:Nat):Int) 64=((b.length%64:Nat):Int):=by
  unfold jP
  rw[Int.tmod_eq_emod_of_nonneg (by omega)]
  omega
 have hs:cH .i64 ((b.length:Nat):Int) ((b.length%64:Nat):Int)=((b.length - b.length%64:Nat):Int):=by
  rw[dU (by omega) (by omega)];omega
 have hn:Int.toNat ((b.length - b.length%64:Nat):Int)=b.length - b.length%64:=by omega
 have hm:fg .i64 8 ((b.length:Nat):Int)=8*(b.length:Int):=oq (by omega) (by omega)
 generalize hq:b.length - b.length%64=q at hs hn
 have hc:cut b q (b.length - q)=b.drop q:=by unfold cut;rw[List.take_of_length_le (by simp)]
 have hcl:(b.drop q).length=b.length%64:=by simp;omega
 have p1:cd.aC (b.drop q):=by show(b.drop q).length≤_;omega
 rw[aA.eq,hr,hs,kZ (by omega) (by omega),hn,hc]
 simp only[ao,cd.run p1,aa,cd.add,cd.F,Nat.le_refl,decide_true,List.take_length]
 have p2:aA.L0.aC (b,(b.drop q).length+1,List.replicate 32 0,b.drop q++ [128]):=by
  refine⟨by simp,?_⟩
  simp only[List.length_append,List.length_cons,List.length_nil,zc]
  omega
 have hz:zc (b.drop q++ [128]).length=oH b.length:=by
  simp only[List.length_append,List.length_cons,List.length_nil,zc,oH]
  omega
 rw[lj (by omega)]
 simp only[ao,aA.L0.run p2,aa,aA.L0.add,aA.L0.F,hm,hz]
 have hlen:(b.drop q++ [128]).length+oH b.length=(b.drop q++ [128]++List.replicate (oH b.length) 0).length:=by rw[@List.length_append _ (b.drop q++ [128]),List.length_replicate]
 have p3:cI.aC ((b.drop q++ [128]).length+oH b.length,8*(b.length:Int),b.drop q++ [128]++List.replicate (oH b.length) 0):=by
  refine⟨hlen,?_⟩
  simp only[List.length_append,List.length_cons,List.length_nil,List.length_replicate,oH]
  omega
 have p4:aA.L1.aC (b,(b.drop q++ [128]++List.replicate (oH b.length) 0).length+8,List.replicate 32 0,j5.l,b.drop q++ [128]++List.replicate (oH b.length) 0++kk (8*(b.length:Int))):=⟨j5,rfl⟩
 simp only[cI.run p3,aa,cI.add,cI.F,first.run (d:=()) trivial,first.add,first.F,aA.L1.run p4,aA.L1.add,aA.L1.F,kf]
 generalize he:b.drop q++ [128]++List.replicate (oH b.length) 0++kk (8*(b.length:Int))=e
 have hel:(b.drop q++ [128]++List.replicate (oH b.length) 0).length+8=e.length:=by rw[←he,@List.length_append _ _ (kk _),db]
 have hem:e.length%64=0:=by
  rw[←hel]
  simp only[List.length_append,List.length_cons,List.length_nil,List.length_replicate,oH,hcl]
  omega
 have hce:cut e 0 ((b.drop q++ [128]++List.replicate (oH b.length) 0).length+8)=e:=by
  rw[hel];unfold cut;rw[List.drop_zero,List.take_length]
 rw[hce,hel,bf ⟨trivial,by omega⟩]
 have p5:aA.L2.aC (e,List.replicate 32 0,(blocks j5 b).l):=⟨hem,blocks j5 b,rfl⟩
 have p6:aA.L3.aC (0,List.replicate 32 0,(blocks (blocks j5 b) e).l):=⟨rfl,rfl,0,by omega,rfl⟩
 simp only[ao,aA.L2.run p5,aa,aA.L2.add,aA.L2.F,kf,aA.L3.run p6,aA.L3.add,aA.L3.F,aA.add,aA.F]
 rw[show Int.toNat 0=0 from rfl,CN]
 have hbl:blocks j5 (pad b)=blocks (blocks j5 b) e:=by
  have h1:pad b=b.take q++e:=by
   rw[←he]
   unfold pad
   rw[List.append_assoc,List.append_assoc,←List.append_assoc (b.take q),List.take_append_drop]
   rfl
  have h2:blocks j5 b=blocks (blocks j5 (b.take q)) (b.drop q):=by
   rw[←nc _ _ _ (by simp;omega),List.take_append_drop]
  rw[h1,nc _ _ _ (by simp;omega),h2,np _ (b.drop q) (by omega)]
 rw[Et,hbl]
noncomputable def aA.E:=Entry.cP [some tB] aA.st aA.aC aA.add aA.F aA.out
noncomputable def aA.call:aA.D→Option aA.X:=bS aA.E aA.st
theorem aA.run:bP aA.call aA.aC aA.add aA.F:=de (cZ [.d tB] fun _=>by kernel_rfl)
noncomputable def aA.sg:SG Tryz.prog:=⟨144,aV,aA.E,.fn 4 (by kernel_rfl) aA.ok (And.intro (.cP aA.L0.ok (by kernel_rfl)) (And.intro (.cP aA.L1.ok (by kernel_rfl)) (And.intro (.cP aA.L2.ok (by kernel_rfl)) (And.intro (.cP aA.L3.ok (by kernel_rfl)) trivial))))⟩
set_option synthInstance.maxSize 5000
abbrev bD.L0.D:=Nat×(List Bs)×Int×Int×Bs×(List Int)
def bD.L0.st:bD.L0.D→AS:=fun(bL,t13,t14,t15,n4,n10)=>⟨(bm 4 ([.ptr (.new 4 0) 0 [] 0,.bt (.new 10 0) 0 [] 0 0 bL]++bm 7 ([.d (.slice tB) t13,.d ti t14,.d ti t15]++bm 12 []))),[],(cr 4 ([[.obj 0 false (.d tH n4)]]++cr 5 ([[.obj 0 false (.vec 5 tb n10)]]++cr 17 [])))⟩
abbrev bD.L0.Y0:=Nat×(List Int)
abbrev bD.L0.X0:=(Bs)×(Nat×(List Int))
def bD.L0.bK:bD.L0.X0→Exit×AS:=fun x=>(.exit 0,⟨(bm 4 ([.ptr (.new 4 0) 0 [] 0,.bt (.new 10 0) 0 [] 0 0 x.2.1]++bm 22 [])),[],(cr 4 ([[.obj 0 false (.d tH x.1)]]++cr 5 ([[.obj 0 false (.vec 5 tb x.2.2)]]++cr 17 [])))⟩)
abbrev bD.L0.X:=bD.L0.X0
abbrev bD.L0.Y:=bD.L0.Y0
def bD.L0.out:bD.L0.X→Out (Exit×AS):=fun x=> .ok (bD.L0.bK x)
def bD.L0.add:bD.L0.D→bD.L0.Y→bD.L0.X:=fun(bL,t13,t14,t15,n4,n10) y=>(n4,y)
abbrev bD.D:=ByteArray×(List Bs)
def bD.st:bD.D→SA:=fun(name,parts)=>([.d .str name,.d (.slice tB) parts],[])
abbrev bD.Y:=Bs
abbrev bD.X:=Bs
def bD.out:bD.X→aW:=fun x=>⟨.d tH x,[],[]⟩
def bD.add:bD.D→bD.Y→bD.X:=fun(name,parts) y=>y
def bD.L0.aC:bD.L0.D→Prop:=fun(m,ps,n,i,n4,l)=>m=l.length∧n=ps.length∧ps.length≤140737488350000∧∃k:Nat,k≤ps.length∧i=k∧l.length+(jT (ps.drop k)).length≤140737488350000
def bD.L0.F:bD.L0.D→bD.L0.Y:=fun(m,ps,n,i,n4,l)=>(l.length+(jT (ps.drop i.toNat)).length,l++jT (ps.drop i.toNat))
def bD.aC:bD.D→Prop:=fun(name,ps)=>(sV (bp name) ps).length≤140737488350000
def bD.F:bD.D→bD.Y:=fun(name,ps)=>tag (bp name) ps
noncomputable def bD.G:dH:=eT (P:=Tryz.prog) [dp.sg,cI.sg,aA.sg]
noncomputable def bD.L0.E:=bZ.cP bD.L0.st bD.L0.aC bD.L0.add bD.L0.F bD.L0.out
noncomputable def bD.L0.call:bD.L0.D→Option bD.L0.X:=dI bD.L0.E bD.L0.st
noncomputable def bD.an:ee:= {loops:=lZ [(3,{bn:=[4,5,13,14,15],sites:=[4,10],kO:=[⟨5,[],10,140⟩]})],outs:=lY [(3,{bn:=[4,5],sites:=[4,10]},{bn:=[4]})],fO:=mW [(3,bD.L0.E)]}
noncomputable def bD.A:= @cT Tryz.prog bD.G bD.an 0 Tryz.f72 _ bD.st
abbrev bD.Ok:=cU @bD.A bD.aC bD.add bD.F bD.out
noncomputable def bD.L0.R:= @cC Tryz.prog bD.G bD.an 0 Tryz.f72 0 _ bD.L0.st
abbrev bD.L0.Ok:=eO Tryz.prog bD.G bD.an 0 Tryz.f72 0 bD.L0.st bD.L0.aC bD.L0.add bD.L0.F bD.L0.out
theorem bD.L0.run:bP bD.L0.call bD.L0.aC bD.L0.add bD.L0.F:=fe (eY [.n,.d (.slice tB),.d ti,.d ti,.d tB,.d tB] fun _=>by kernel_rfl)
theorem bD.L0.aL:ga @bD.L0.R bD.L0.st bD.L0.aC bD.L0.add bD.L0.F bD.L0.bK bD.L0.Ok:=gw
theorem bD.L0.step{R:Type}(bL:Nat)(t13:(List Bs))(t14:Int)(t15:Int)(n4:Bs)(n10:(List Int))(kn:AS→Option R)(kx:Exit→AS→Option R):bD.L0.R (bL,t13,t14,t15,n4,n10) kn kx=
  aF ((gQ t15 t14)) (
   aF (fE t15 (((List.length t13):Nat):Int)) (
   ah (cI.call (bL,(((List.length (nth tB t13 (Int.toNat t15))):Nat):Int),n10)) fun x1=>
   aF (decide (x1.1≤(List.length x1.2))) (
   aF (dr (x1.1+(List.length (nth tB t13 (Int.toNat t15)))) 1) (
   kn (bD.L0.st ((x1.1+(List.length (nth tB t13 (Int.toNat t15)))),t13,t14,(ck .i64 t15 (1:Int)),n4,((List.take x1.1 x1.2)++(nth tB t13 (Int.toNat t15)))))) none) none) none) (
   kx (bD.L0.bK (n4,(bL,n10))).1 (bD.L0.bK (n4,(bL,n10))).2):=by kernel_rfl
theorem bD.eq{R:Type}(name:ByteArray)(parts:(List Bs))(k:aW→Option R):bD.A (name,parts) k=
 ah (dp.call (((ByteArray.size name):Nat):Int)) fun x1=>
 aF (decide (x1.1≤(List.length x1.2))) (
 aF (dr (x1.1+(List.length (bp name))) 1) (
 ah (bD.L0.call ((x1.1+(List.length (bp name))),parts,(((List.length parts):Nat):Int),(0:Int),(List.replicate 32 (0:Int)),((List.take x1.1 x1.2)++(bp name)))) fun x4=>
 aF (decide (0=0∧(0+x4.2.1)≤(List.length x4.2.2))) (
 ah (aA.call (cut x4.2.2 0 x4.2.1)) fun x5=>
 k (bD.out x5)) none) none) none:=by kernel_rfl
theorem tP(p:List Int)(ps:List (List Int)):jT (p::ps)=kk p.length++p++jT ps:=by simp[jT]
theorem zZ(ps:List (List Int))(k:Nat)(h:k < ps.length):jT (ps.drop k)=kk ps[k].length++ps[k]++jT (ps.drop (k+1)):=by
 rw[List.drop_eq_getElem_cons h,tP]
theorem bD.L0.ok:bD.L0.Ok:=by
 refine bD.L0.aL (fun(m,ps,n,i,n4,l)=>ps.length - i.toNat) ?_
 rintro⟨m,ps,n,i,n4,l⟩ ⟨rfl,rfl,hpl,k,hk,rfl,hl⟩
 have hl:l.length+(jT (ps.drop k)).length≤140737488350000:=hl
 have hk:k≤ps.length:=hk
 have e2:Int.toNat (k:Int)=k:=by omega
 have e3:Int.toNat ((k+1:Nat):Int)=k+1:=by omega
 by_cases h:k < ps.length
 ·left
  have ht:=zZ ps k h
  have hlen:(jT (ps.drop k)).length=8+ps[k].length+(jT (ps.drop (k+1))).length:=by rw[ht];simp only[List.length_append,db]
  have hn:nth (.slice (.int .u8)) ps k=ps[k]:=du (t:= .slice (.int .u8)) h
  have hpl:ps.length≤140737488350000:=hpl
  have e1:ck .i64 (k:Int) 1=((k+1:Nat):Int):=by rw[gh (by omega) (by omega)];omega
  refine⟨((l++kk ps[k].length++ps[k]).length,ps,(ps.length:Int),((k+1:Nat):Int),n4,l++kk ps[k].length++ps[k]),⟨rfl,rfl,hpl,k+1,by show k+1≤ps.length;omega,rfl,?_⟩,?_,?_,fun kn kx=> ?_⟩
  ·show(l++kk ps[k].length++ps[k]).length+(jT (ps.drop (k+1))).length≤_
   simp only[List.length_append,db];omega
  ·show ps.length - Int.toNat ((k+1:Nat):Int) < ps.length - Int.toNat (k:Int)
   omega
  ·simp only[bD.L0.add,bD.L0.F,e2,e3,ht,List.append_assoc]
   simp only[List.length_append,db,Nat.add_assoc]
  ·have p1:cI.aC (l.length,(ps[k].length:Int),l):=⟨rfl,by show l.length≤_;omega⟩
   rw[bD.L0.step,bq (by omega),bw (by omega) (by omega),e1,e2]
   simp only[ao,hn,cI.run p1,aa,cI.add,cI.F]
   have hlb:(l++kk ps[k].length).length=l.length+8:=by simp[db]
   rw[hlb,bf (Nat.le_refl _),lj (by omega)]
   simp only[ao]
   rw[List.take_of_length_le (by rw[hlb];omega)]
   simp only[List.length_append,db,Nat.add_assoc]
 ·right
  obtain rfl:k=ps.length:=by omega
  intro R kn kx
  rw[bD.L0.step,bl (by omega)]
  simp only[aw,bD.L0.add,bD.L0.F,e2,List.drop_length]
  simp[jT]
theorem wT:∀ps:List (List Int),8*ps.length≤(jT ps).length
 |[]=>by simp[jT]
 |p::ps=>by
  rw[tP]
  have:=wT ps
  simp only[List.length_append,db,List.length_cons]
  omega
theorem fX(s:ByteArray):(bp s).length=s.size:=by simp only[bp,List.length_map,Array.length_toList];rfl
theorem bD.ok:bD.Ok:=by
 rintro⟨name,ps⟩ hp
 have hp:(kk (bp name).length++bp name++jT ps).length≤140737488350000:=hp
 have hl:(kk (bp name).length++bp name++jT ps).length=8+(bp name).length+(jT ps).length:=by simp only[List.length_append,db]
 have hpl:=wT ps
 have hsz:((name.size:Nat):Int)=(((bp name).length:Nat):Int):=by rw[fX]
 rw[bD.eq,dp.run (d:=((name.size:Nat):Int)) trivial,hsz]
 simp only[aa,dp.add,dp.F,db,Nat.le_refl,decide_true,ao]
 rw[lj (by omega),List.take_of_length_le (by rw[db];omega)]
 have p2:bD.L0.aC (8+(bp name).length,ps,(ps.length:Int),0,List.replicate 32 0,kk ((bp name).length:Int)++bp name):=by
  refine⟨by simp only[List.length_append,db],rfl,by show ps.length≤_;omega,0,Nat.zero_le _,rfl,?_⟩
  rw[List.drop_zero]
  simp only[List.length_append,db]
  omega
 simp only[ao,bD.L0.run p2,aa,bD.L0.add,bD.L0.F,Int.toNat_zero,List.drop_zero]
 have hcut:cut (kk ((bp name).length:Int)++bp name++jT ps) 0 ((kk ((bp name).length:Int)++bp name).length+(jT ps).length)=sV (bp name) ps:=by
  unfold cut
  rw[List.drop_zero,List.take_of_length_le (by simp only[List.length_append];omega)]
  rfl
 have p3:aA.aC (sV (bp name) ps):=hp
 rw[bf ⟨trivial,by simp only[List.length_append];omega⟩,hcut]
 simp only[ao,aA.run p3,aa,aA.add,aA.F,bD.add,bD.F,tag]
noncomputable def bD.E:=Entry.cP [some .str,some (.slice tB)] bD.st bD.aC bD.add bD.F bD.out
noncomputable def bD.call:bD.D→Option bD.X:=bS bD.E bD.st
theorem bD.run:bP bD.call bD.aC bD.add bD.F:=de (cZ [.d .str,.d (.slice tB)] fun _=>by kernel_rfl)
noncomputable def bD.sg:SG Tryz.prog:=⟨72,aV,bD.E,.fn 1 (by kernel_rfl) bD.ok (And.intro (.cP bD.L0.ok (by kernel_rfl)) trivial)⟩
set_option synthInstance.maxSize 5000
set_option synthInstance.maxSize 5000
set_option synthInstance.maxSize 5000
set_option synthInstance.maxSize 5000
set_option synthInstance.maxSize 5000
theorem o8{n:Int}(h1:0≤n)(h2:n < 18446744073709551616):IntKind.u64.wrap n=n:=by
 rw[wrap_u64,fQ];omega
theorem o7(n:Int):IntKind.u64.wrap n=n%18446744073709551616:=by
 rw[wrap_u64,fQ];rfl
theorem jN(x y:Int):ck .u64 x y=(x+y)%18446744073709551616:=o7 _
theorem qq(x y:Int):cH .u64 x y=(x - y)%18446744073709551616:=o7 _
theorem jO(x y:Int):fg .u64 x y=(x*y)%18446744073709551616:=o7 _
theorem AW(x:Int):dz .u64 x=x%18446744073709551616:=o7 _
theorem vl{x:Int}(h:0≤x)(h2:x < 18446744073709551616):cQ .and .u64 x 4294967295=x%4294967296:=by
 obtain⟨n,rfl⟩:∃n:Nat,x=n:=⟨x.toNat,by omega⟩
 have e:(BitVec.ofInt 64 (n:Int) &&& BitVec.ofInt 64 4294967295).toNat=n%4294967296:=by
  rw[BitVec.toNat_and]
  have a:(BitVec.ofInt 64 (n:Int)).toNat=n:=by rw[BitVec.ofInt_natCast,BitVec.toNat_ofNat];omega
  have b:(BitVec.ofInt 64 4294967295).toNat=2^32 - 1:=by decide
  rw[a,b,Nat.and_two_pow_sub_one_eq_mod]
 show IntKind.u64.wrap ((BitVec.ofInt 64 (n:Int) &&& BitVec.ofInt 64 4294967295).toNat:Int)=_
 rw[e,o8 (by omega) (by omega)];omega
theorem Fx{x:Int}(h:0≤x)(h2:x < 18446744073709551616):cQ .and .u64 x 1=x%2:=by
 obtain⟨n,rfl⟩:∃n:Nat,x=n:=⟨x.toNat,by omega⟩
 have e:(BitVec.ofInt 64 (n:Int) &&& BitVec.ofInt 64 1).toNat=n%2:=by
  rw[BitVec.toNat_and]
  have a:(BitVec.ofInt 64 (n:Int)).toNat=n:=by rw[BitVec.ofInt_natCast,BitVec.toNat_ofNat];omega
  have b:(BitVec.ofInt 64 1).toNat=2^1 - 1:=by decide
  rw[a,b,Nat.and_two_pow_sub_one_eq_mod]
 show IntKind.u64.wrap ((BitVec.ofInt 64 (n:Int) &&& BitVec.ofInt 64 1).toNat:Int)=_
 rw[e,o8 (by omega) (by omega)];omega
theorem jS{x k:Int}(n:Nat)(hk:k=n)(hn:n≤64):bC .u64 x k=x / 2^n:=by
 subst hk
 rw[bC]
 have e:min (Int.toNat (n:Int)) IntKind.u64.bits=n:=by simp only[IntKind.bits];omega
 rw[e,Int.fdiv_eq_ediv_of_nonneg _ (Int.le_of_lt (Int.pow_pos (by omega)))]
theorem je{x k:Int}(n:Nat)(hk:k=n)(hn:n≤64):iM .u64 x k=x*2^n%18446744073709551616:=by
 subst hk
 rw[iM,o7]
 have e:min (Int.toNat (n:Int)) IntKind.u64.bits=n:=by simp only[IntKind.bits];omega
 rw[e]
theorem oG{x y:Int}(k:Nat)(m:Int)(hm:m=2^k)(hx:x%m=0)(h0:0≤x)(h1:x < 18446744073709551616)(hy:0≤y)(hy2:y < m)(h2:x+y < 18446744073709551616):cQ .or .u64 x y=x+y:=by
 subst hm
 obtain⟨n,rfl⟩:∃n:Nat,x=n:=⟨x.toNat,by omega⟩
 obtain⟨j,rfl⟩:∃j:Nat,y=j:=⟨y.toNat,by omega⟩
 have hx:n%2^k=0:=by
  have:((n%2^k:Nat):Int)=0:=by rw[Int.natCast_emod];simpa using hx
  omega
 have hj:j < 2^k:=by
  have:((j:Nat):Int) < ((2^k:Nat):Int):=by simpa using hy2
  omega
 obtain⟨q,rfl⟩:∃q,n=2^k*q:=⟨n / 2^k,by have:=Nat.div_add_mod n (2^k);omega⟩
 have e:(BitVec.ofInt 64 ((2^k*q:Nat):Int) ||| BitVec.ofInt 64 (j:Int)).toNat=2^k*q+j:=by
  rw[BitVec.toNat_or]
  have a:(BitVec.ofInt 64 ((2^k*q:Nat):Int)).toNat=2^k*q:=by rw[BitVec.ofInt_natCast,BitVec.toNat_ofNat];exact Nat.mod_eq_of_lt (by omega)
  have b:(BitVec.ofInt 64 (j:Int)).toNat=j:=by rw[BitVec.ofInt_natCast,BitVec.toNat_ofNat];exact Nat.mod_eq_of_lt (by omega)
  rw[a,b,Nat.two_pow_add_eq_or_of_lt hj]
 show IntKind.u64.wrap ((BitVec.ofInt 64 ((2^k*q:Nat):Int) ||| BitVec.ofInt 64 (j:Int)).toNat:Int)=_
 rw[e,o8 (by omega) (by omega)];omega
theorem yC{x y:Int}(h:0≤x)(h1:0≤y)(h2:x < 18446744073709551616):kK .u64 x y=x / y:=by
 rw[kK,Int.tdiv_eq_ediv_of_nonneg h]
 exact o8 (Int.ediv_nonneg h h1) (Int.lt_of_le_of_lt (Int.ediv_le_self _ h) h2)
theorem mJ{x y:Int}(h:0≤x):jP x y=x%y:=by rw[jP,Int.tmod_eq_emod_of_nonneg h]
theorem k1{e u w r q:Int}(he:e=42260∨e=42264∨e=42272)(hu:0≤u)(hu2:u < 18446744073709551616 - e)(hw:0≤w)(hw2:w < 4294967296)(hr:0≤r)(hr2:r < 4294967296)
  (hq:q*4294967295+r=u) (hQ:(u*4294967296+w) / (18446744073709551616 - e)≤q):
  (4294967296≤q→(u*4294967296+w) / (18446744073709551616 - e)≤q - 1)∧
  (q < 4294967296→4294967296*r+w < q*(4294967296 - e)→(u*4294967296+w) / (18446744073709551616 - e)≤q - 1)∧
  (q < 4294967296→q*(4294967296 - e)≤4294967296*r+w→(u*4294967296+w) / (18446744073709551616 - e)=q)∧
  (4294967296≤r+4294967295→(u*4294967296+w) / (18446744073709551616 - e)≤q - 1→(u*4294967296+w) / (18446744073709551616 - e)=q - 1)∧0≤(u*4294967296+w) / (18446744073709551616 - e)∧q≤4294967297:=by
 rcases he with rfl | rfl | rfl
 ·refine⟨?_,?_,?_,?_,?_,?_⟩ <;> omega
 ·refine⟨?_,?_,?_,?_,?_,?_⟩ <;> omega
 ·refine⟨?_,?_,?_,?_,?_,?_⟩ <;> omega
theorem k0{e u w:Int}(he:e=42260∨e=42264∨e=42272)(hu:0≤u)(hu2:u < 18446744073709551616 - e)(hw:0≤w)(hw2:w < 4294967296):
  (u*4294967296+w) / (18446744073709551616 - e)≤u / 4294967295∧0≤u - u / 4294967295*4294967295∧u - u / 4294967295*4294967295 < 4294967296∧
  (u*4294967296+w) - (u*4294967296+w) / (18446744073709551616 - e)*(18446744073709551616 - e)=(u*4294967296+w)%(18446744073709551616 - e)∧
  0≤(u*4294967296+w)%(18446744073709551616 - e)∧(u*4294967296+w)%(18446744073709551616 - e) < 18446744073709551616 - e∧
  0≤(u*4294967296+w) / (18446744073709551616 - e)∧(u*4294967296+w) / (18446744073709551616 - e) < 4294967296:=by
 rcases he with rfl | rfl | rfl
 ·refine⟨?_,?_,?_,?_,?_,?_,?_,?_⟩ <;> omega
 ·refine⟨?_,?_,?_,?_,?_,?_,?_,?_⟩ <;> omega
 ·refine⟨?_,?_,?_,?_,?_,?_,?_,?_⟩ <;> omega
theorem kd(Y u w1 w0:Int)(hY:0 < Y)(h0:0≤w0)(h1:w0 < 4294967296):
  ((u*4294967296+w1)*4294967296+w0) / Y=(u*4294967296+w1) / Y*4294967296+((u*4294967296+w1)%Y*4294967296+w0) / Y∧
  ((u*4294967296+w1)*4294967296+w0)%Y=((u*4294967296+w1)%Y*4294967296+w0)%Y:=by
 generalize u*4294967296+w1=n
 have e:n*4294967296+w0=(n%Y*4294967296+w0)+Y*(n / Y*4294967296):=by
  have:=Int.emod_add_mul_ediv n Y
  have h:Y*(n / Y*4294967296)=(Y*(n / Y))*4294967296:=by rw[Int.mul_assoc]
  rw[h];omega
 rw[e,Int.add_mul_ediv_left _ _ (by omega),Int.add_mul_emod_self_left]
 exact⟨by omega,rfl⟩
abbrev cS.D:=Int
def cS.st:cS.D→SA:=fun x=>([.d tu x],[])
abbrev cS.Y:=Int
abbrev cS.X:=Int
def cS.out:cS.X→aW:=fun x=>⟨.d ti x,[],[]⟩
def cS.add:cS.D→cS.Y→cS.X:=fun x y=>y
def ES(y:Int):Prop:=y=4611686018427377339∨y=2305843009213688669∨y=2305843009213688668
def cS.aC:cS.D→Prop:=ES
def cS.F:cS.D→cS.Y:=fun y=>if y=4611686018427377339 then 62 else 61
noncomputable def cS.G:dH:=eT (P:=Tryz.prog) []
noncomputable def cS.an:ee:= {}
noncomputable def cS.A:= @cT Tryz.prog cS.G cS.an 0 Tryz.f215 _ cS.st
abbrev cS.Ok:=cU @cS.A cS.aC cS.add cS.F cS.out
theorem cS.eq{R:Type}(x:Int)(k:aW→Option R):cS.A x k=
  aF ((mV x (4294967296:Int))) (
   aF ((mV (bC .u64 x (32:Int)) (65536:Int))) (
    aF ((mV (bC .u64 (bC .u64 x (32:Int)) (16:Int)) (256:Int))) (
     aF (fE (dz .u8 (bC .u64 (bC .u64 (bC .u64 x (32:Int)) (16:Int)) (8:Int))) (256:Int)) (
     k (cS.out (ck .i64 (56:Int) (dz .i64 (wK (⟨#[0,1,2,2,3,3,3,3,4,4,4,4,4,4,4,4,5,5,5,5,5,5,5,5,5,5,5,5,5,5,5,5,6,6,6,6,6,6,6,6,6,6,6,6,6,6,6,6,6,6,6,6,6,6,6,6,6,6,6,6,6,6,6,6,7,7,7,7,7,7,7,7,7,7,7,7,7,7,7,7,7,7,7,7,7,7,7,7,7,7,7,7,7,7,7,7,7,7,7,7,7,7,7,7,7,7,7,7,7,7,7,7,7,7,7,7,7,7,7,7,7,7,7,7,7,7,7,7,8,8,8,8,8,8,8,8,8,8,8,8,8,8,8,8,8,8,8,8,8,8,8,8,8,8,8,8,8,8,8,8,8,8,8,8,8,8,8,8,8,8,8,8,8,8,8,8,8,8,8,8,8,8,8,8,8,8,8,8,8,8,8,8,8,8,8,8,8,8,8,8,8,8,8,8,8,8,8,8,8,8,8,8,8,8,8,8,8,8,8,8,8,8,8,8,8,8,8,8,8,8,8,8,8,8,8,8,8,8,8,8,8,8,8,8,8,8,8,8,8,8,8,8,8,8,8,8]⟩:ByteArray) (dz .u8 (bC .u64 (bC .u64 (bC .u64 x (32:Int)) (16:Int)) (8:Int)))))))) none) (
     aF (fE (dz .u8 (bC .u64 (bC .u64 x (32:Int)) (16:Int))) (256:Int)) (
     k (cS.out (ck .i64 (48:Int) (dz .i64 (wK (⟨#[0,1,2,2,3,3,3,3,4,4,4,4,4,4,4,4,5,5,5,5,5,5,5,5,5,5,5,5,5,5,5,5,6,6,6,6,6,6,6,6,6,6,6,6,6,6,6,6,6,6,6,6,6,6,6,6,6,6,6,6,6,6,6,6,7,7,7,7,7,7,7,7,7,7,7,7,7,7,7,7,7,7,7,7,7,7,7,7,7,7,7,7,7,7,7,7,7,7,7,7,7,7,7,7,7,7,7,7,7,7,7,7,7,7,7,7,7,7,7,7,7,7,7,7,7,7,7,7,8,8,8,8,8,8,8,8,8,8,8,8,8,8,8,8,8,8,8,8,8,8,8,8,8,8,8,8,8,8,8,8,8,8,8,8,8,8,8,8,8,8,8,8,8,8,8,8,8,8,8,8,8,8,8,8,8,8,8,8,8,8,8,8,8,8,8,8,8,8,8,8,8,8,8,8,8,8,8,8,8,8,8,8,8,8,8,8,8,8,8,8,8,8,8,8,8,8,8,8,8,8,8,8,8,8,8,8,8,8,8,8,8,8,8,8,8,8,8,8,8,8,8,8,8,8,8,8]⟩:ByteArray) (dz .u8 (bC .u64 (bC .u64 x (32:Int)) (16:Int)))))))) none)) (
    aF ((mV (bC .u64 x (32:Int)) (256:Int))) (
     aF (fE (dz .u8 (bC .u64 (bC .u64 x (32:Int)) (8:Int))) (256:Int)) (
     k (cS.out (ck .i64 (40:Int) (dz .i64 (wK (⟨#[0,1,2,2,3,3,3,3,4,4,4,4,4,4,4,4,5,5,5,5,5,5,5,5,5,5,5,5,5,5,5,5,6,6,6,6,6,6,6,6,6,6,6,6,6,6,6,6,6,6,6,6,6,6,6,6,6,6,6,6,6,6,6,6,7,7,7,7,7,7,7,7,7,7,7,7,7,7,7,7,7,7,7,7,7,7,7,7,7,7,7,7,7,7,7,7,7,7,7,7,7,7,7,7,7,7,7,7,7,7,7,7,7,7,7,7,7,7,7,7,7,7,7,7,7,7,7,7,8,8,8,8,8,8,8,8,8,8,8,8,8,8,8,8,8,8,8,8,8,8,8,8,8,8,8,8,8,8,8,8,8,8,8,8,8,8,8,8,8,8,8,8,8,8,8,8,8,8,8,8,8,8,8,8,8,8,8,8,8,8,8,8,8,8,8,8,8,8,8,8,8,8,8,8,8,8,8,8,8,8,8,8,8,8,8,8,8,8,8,8,8,8,8,8,8,8,8,8,8,8,8,8,8,8,8,8,8,8,8,8,8,8,8,8,8,8,8,8,8,8,8,8,8,8,8,8]⟩:ByteArray) (dz .u8 (bC .u64 (bC .u64 x (32:Int)) (8:Int)))))))) none) (
     aF (fE (dz .u8 (bC .u64 x (32:Int))) (256:Int)) (
     k (cS.out (ck .i64 (32:Int) (dz .i64 (wK (⟨#[0,1,2,2,3,3,3,3,4,4,4,4,4,4,4,4,5,5,5,5,5,5,5,5,5,5,5,5,5,5,5,5,6,6,6,6,6,6,6,6,6,6,6,6,6,6,6,6,6,6,6,6,6,6,6,6,6,6,6,6,6,6,6,6,7,7,7,7,7,7,7,7,7,7,7,7,7,7,7,7,7,7,7,7,7,7,7,7,7,7,7,7,7,7,7,7,7,7,7,7,7,7,7,7,7,7,7,7,7,7,7,7,7,7,7,7,7,7,7,7,7,7,7,7,7,7,7,7,8,8,8,8,8,8,8,8,8,8,8,8,8,8,8,8,8,8,8,8,8,8,8,8,8,8,8,8,8,8,8,8,8,8,8,8,8,8,8,8,8,8,8,8,8,8,8,8,8,8,8,8,8,8,8,8,8,8,8,8,8,8,8,8,8,8,8,8,8,8,8,8,8,8,8,8,8,8,8,8,8,8,8,8,8,8,8,8,8,8,8,8,8,8,8,8,8,8,8,8,8,8,8,8,8,8,8,8,8,8,8,8,8,8,8,8,8,8,8,8,8,8,8,8,8,8,8,8]⟩:ByteArray) (dz .u8 (bC .u64 x (32:Int)))))))) none))) (
   aF ((mV x (65536:Int))) (
    aF ((mV (bC .u64 x (16:Int)) (256:Int))) (
     aF (fE (dz .u8 (bC .u64 (bC .u64 x (16:Int)) (8:Int))) (256:Int)) (
     k (cS.out (ck .i64 (24:Int) (dz .i64 (wK (⟨#[0,1,2,2,3,3,3,3,4,4,4,4,4,4,4,4,5,5,5,5,5,5,5,5,5,5,5,5,5,5,5,5,6,6,6,6,6,6,6,6,6,6,6,6,6,6,6,6,6,6,6,6,6,6,6,6,6,6,6,6,6,6,6,6,7,7,7,7,7,7,7,7,7,7,7,7,7,7,7,7,7,7,7,7,7,7,7,7,7,7,7,7,7,7,7,7,7,7,7,7,7,7,7,7,7,7,7,7,7,7,7,7,7,7,7,7,7,7,7,7,7,7,7,7,7,7,7,7,8,8,8,8,8,8,8,8,8,8,8,8,8,8,8,8,8,8,8,8,8,8,8,8,8,8,8,8,8,8,8,8,8,8,8,8,8,8,8,8,8,8,8,8,8,8,8,8,8,8,8,8,8,8,8,8,8,8,8,8,8,8,8,8,8,8,8,8,8,8,8,8,8,8,8,8,8,8,8,8,8,8,8,8,8,8,8,8,8,8,8,8,8,8,8,8,8,8,8,8,8,8,8,8,8,8,8,8,8,8,8,8,8,8,8,8,8,8,8,8,8,8,8,8,8,8,8,8]⟩:ByteArray) (dz .u8 (bC .u64 (bC .u64 x (16:Int)) (8:Int)))))))) none) (
     aF (fE (dz .u8 (bC .u64 x (16:Int))) (256:Int)) (
     k (cS.out (ck .i64 (16:Int) (dz .i64 (wK (⟨#[0,1,2,2,3,3,3,3,4,4,4,4,4,4,4,4,5,5,5,5,5,5,5,5,5,5,5,5,5,5,5,5,6,6,6,6,6,6,6,6,6,6,6,6,6,6,6,6,6,6,6,6,6,6,6,6,6,6,6,6,6,6,6,6,7,7,7,7,7,7,7,7,7,7,7,7,7,7,7,7,7,7,7,7,7,7,7,7,7,7,7,7,7,7,7,7,7,7,7,7,7,7,7,7,7,7,7,7,7,7,7,7,7,7,7,7,7,7,7,7,7,7,7,7,7,7,7,7,8,8,8,8,8,8,8,8,8,8,8,8,8,8,8,8,8,8,8,8,8,8,8,8,8,8,8,8,8,8,8,8,8,8,8,8,8,8,8,8,8,8,8,8,8,8,8,8,8,8,8,8,8,8,8,8,8,8,8,8,8,8,8,8,8,8,8,8,8,8,8,8,8,8,8,8,8,8,8,8,8,8,8,8,8,8,8,8,8,8,8,8,8,8,8,8,8,8,8,8,8,8,8,8,8,8,8,8,8,8,8,8,8,8,8,8,8,8,8,8,8,8,8,8,8,8,8,8]⟩:ByteArray) (dz .u8 (bC .u64 x (16:Int)))))))) none)) (
    aF ((mV x (256:Int))) (
     aF (fE (dz .u8 (bC .u64 x (8:Int))) (256:Int)) (
     k (cS.out (ck .i64 (8:Int) (dz .i64 (wK (⟨#[0,1,2,2,3,3,3,3,4,4,4,4,4,4,4,4,5,5,5,5,5,5,5,5,5,5,5,5,5,5,5,5,6,6,6,6,6,6,6,6,6,6,6,6,6,6,6,6,6,6,6,6,6,6,6,6,6,6,6,6,6,6,6,6,7,7,7,7,7,7,7,7,7,7,7,7,7,7,7,7,7,7,7,7,7,7,7,7,7,7,7,7,7,7,7,7,7,7,7,7,7,7,7,7,7,7,7,7,7,7,7,7,7,7,7,7,7,7,7,7,7,7,7,7,7,7,7,7,8,8,8,8,8,8,8,8,8,8,8,8,8,8,8,8,8,8,8,8,8,8,8,8,8,8,8,8,8,8,8,8,8,8,8,8,8,8,8,8,8,8,8,8,8,8,8,8,8,8,8,8,8,8,8,8,8,8,8,8,8,8,8,8,8,8,8,8,8,8,8,8,8,8,8,8,8,8,8,8,8,8,8,8,8,8,8,8,8,8,8,8,8,8,8,8,8,8,8,8,8,8,8,8,8,8,8,8,8,8,8,8,8,8,8,8,8,8,8,8,8,8,8,8,8,8,8,8]⟩:ByteArray) (dz .u8 (bC .u64 x (8:Int)))))))) none) (
     aF (fE (dz .u8 x) (256:Int)) (
     k (cS.out (ck .i64 (0:Int) (dz .i64 (wK (⟨#[0,1,2,2,3,3,3,3,4,4,4,4,4,4,4,4,5,5,5,5,5,5,5,5,5,5,5,5,5,5,5,5,6,6,6,6,6,6,6,6,6,6,6,6,6,6,6,6,6,6,6,6,6,6,6,6,6,6,6,6,6,6,6,6,7,7,7,7,7,7,7,7,7,7,7,7,7,7,7,7,7,7,7,7,7,7,7,7,7,7,7,7,7,7,7,7,7,7,7,7,7,7,7,7,7,7,7,7,7,7,7,7,7,7,7,7,7,7,7,7,7,7,7,7,7,7,7,7,8,8,8,8,8,8,8,8,8,8,8,8,8,8,8,8,8,8,8,8,8,8,8,8,8,8,8,8,8,8,8,8,8,8,8,8,8,8,8,8,8,8,8,8,8,8,8,8,8,8,8,8,8,8,8,8,8,8,8,8,8,8,8,8,8,8,8,8,8,8,8,8,8,8,8,8,8,8,8,8,8,8,8,8,8,8,8,8,8,8,8,8,8,8,8,8,8,8,8,8,8,8,8,8,8,8,8,8,8,8,8,8,8,8,8,8,8,8,8,8,8,8,8,8,8,8,8,8]⟩:ByteArray) (dz .u8 x)))))) none))):=by kernel_rfl
theorem cS.ok:cS.Ok:=by
 intro y h
 rw[cS.eq]
 obtain rfl | rfl | rfl:=h <;> kernel_rfl
noncomputable def cS.E:=Entry.cP [some tu] cS.st cS.aC cS.add cS.F cS.out
noncomputable def cS.call:cS.D→Option cS.X:=bS cS.E cS.st
theorem cS.run:bP cS.call cS.aC cS.add cS.F:=de (cZ [.d tu] fun _=>by kernel_rfl)
noncomputable def cS.sg:SG Tryz.prog:=⟨215,aV,cS.E,.fn 0 (by kernel_rfl) cS.ok trivial⟩
abbrev ew.D:=Int
def ew.st:ew.D→SA:=fun x=>([.d tu x],[])
abbrev ew.Y:=Int
abbrev ew.X:=Int
def ew.out:ew.X→aW:=fun x=>⟨.d ti x,[],[]⟩
def ew.add:ew.D→ew.Y→ew.X:=fun x y=>y
def ew.aC:ew.D→Prop:=ES
def ew.F:ew.D→ew.Y:=fun y=>if y=4611686018427377339 then 2 else 3
noncomputable def ew.G:dH:=eT (P:=Tryz.prog) [cS.sg]
noncomputable def ew.an:ee:= {}
noncomputable def ew.A:= @cT Tryz.prog ew.G ew.an 0 Tryz.f276 _ ew.st
abbrev ew.Ok:=cU @ew.A ew.aC ew.add ew.F ew.out
theorem ew.eq{R:Type}(x:Int)(k:aW→Option R):ew.A x k=
 ah (cS.call x) fun x1=>
 k (ew.out (cH .i64 (64:Int) x1)):=by kernel_rfl
theorem ew.ok:ew.Ok:=by
 intro y h
 rw[ew.eq,cS.run (d:=y) h]
 obtain rfl | rfl | rfl:=h <;> rfl
noncomputable def ew.E:=Entry.cP [some tu] ew.st ew.aC ew.add ew.F ew.out
noncomputable def ew.call:ew.D→Option ew.X:=bS ew.E ew.st
theorem ew.run:bP ew.call ew.aC ew.add ew.F:=de (cZ [.d tu] fun _=>by kernel_rfl)
noncomputable def ew.sg:SG Tryz.prog:=⟨276,aV,ew.E,.fn 0 (by kernel_rfl) ew.ok trivial⟩
set_option synthInstance.maxSize 5000
abbrev aH.L0.D:=Int×Int×Int×Int×Int×Int×Int×Int×Int
def aH.L0.st:aH.L0.D→AS:=fun(yv_2,sv,yn1,yn0,un32,un1,un0,q1,rhat)=>⟨([.undef,.undef,.d tu yv_2]++bm 5 ([.d tu sv,.d tu yn1,.d tu yn0,.d tu un32,.undef,.d tu un1,.d tu un0,.d tu q1,.d tu rhat]++bm 118 [])),[],(List.replicate 135 [])⟩
abbrev aH.L0.Y0:=Int
abbrev aH.L0.X0:=(Int×Int×Int×Int×Int×Int×Int)×(Int)
def aH.L0.bK:aH.L0.X0→Exit×AS:=fun x=>(.exit 0,⟨([.undef,.undef,.d tu x.1.1]++bm 5 ([.d tu x.1.2.1,.d tu x.1.2.2.1,.d tu x.1.2.2.2.1,.d tu x.1.2.2.2.2.1,.undef,.d tu x.1.2.2.2.2.2.1,.d tu x.1.2.2.2.2.2.2,.d tu x.2]++bm 119 [])),[],(List.replicate 135 [])⟩)
abbrev aH.L0.X:=aH.L0.X0
abbrev aH.L0.Y:=aH.L0.Y0
def aH.L0.out:aH.L0.X→Out (Exit×AS):=fun x=> .ok (aH.L0.bK x)
def aH.L0.add:aH.L0.D→aH.L0.Y→aH.L0.X:=fun(yv_2,sv,yn1,yn0,un32,un1,un0,q1,rhat) y=>((yv_2,sv,yn1,yn0,un32,un1,un0),y)
abbrev aH.L1.D:=Int×Int×Int×Int×Int×Int×Int×Int×Int
def aH.L1.st:aH.L1.D→AS:=fun(yv_3,sv_2,yn1_2,yn0_2,un0_2,q1_2,rhat_2,un21,q0)=>⟨([.undef,.undef,.d tu yv_3]++bm 5 ([.d tu sv_2,.d tu yn1_2,.d tu yn0_2,.undef,.undef,.undef,.d tu un0_2,.d tu q1_2,.d tu rhat_2,.d tu un21,.d tu q0]++bm 116 [])),[],(List.replicate 135 [])⟩
abbrev aH.L1.Y0:=Int
abbrev aH.L1.X0:=(Int×Int×Int×Int×Int)×(Int)
def aH.L1.bK:aH.L1.X0→Exit×AS:=fun x=>(.exit 2,⟨([.undef,.undef,.d tu x.1.1]++bm 5 ([.d tu x.1.2.1]++bm 5 ([.d tu x.1.2.2.1,.d tu x.1.2.2.2.1,.undef,.d tu x.1.2.2.2.2,.d tu x.2]++bm 116 []))),[],(List.replicate 135 [])⟩)
abbrev aH.L1.X:=aH.L1.X0
abbrev aH.L1.Y:=aH.L1.Y0
def aH.L1.out:aH.L1.X→Out (Exit×AS):=fun x=> .ok (aH.L1.bK x)
def aH.L1.add:aH.L1.D→aH.L1.Y→aH.L1.X:=fun(yv_3,sv_2,yn1_2,yn0_2,un0_2,q1_2,rhat_2,un21,q0) y=>((yv_3,sv_2,un0_2,q1_2,un21),y)
abbrev aH.D:=Int×Int×Int
def aH.st:aH.D→SA:=fun(hi,lo,yv)=>([.d tu hi,.d tu lo,.d tu yv],[])
abbrev aH.Y:=Int×Int
abbrev aH.X:=Int×Int
def aH.out:aH.X→aW:=fun x=>⟨.cons (.d tu x.1) (.cons (.d tu x.2) (.nil)),[],[]⟩
def aH.add:aH.D→aH.Y→aH.X:=fun(hi,lo,yv) y=>y
def aH.L0.aC:aH.L0.D→Prop:=fun(y,sv,yn1,yn0,u,w,un0,q,r)=>∃e:Int,(e=42260∨e=42264∨e=42272)∧y=18446744073709551616 - e∧yn1=4294967295∧yn0=4294967296 - e∧0≤u∧u < 18446744073709551616 - e∧0≤w∧w < 4294967296∧0≤r∧r < 4294967296∧q*4294967295+r=u∧(u*4294967296+w) / (18446744073709551616 - e)≤q
def aH.L0.F:aH.L0.D→aH.L0.Y:=fun(y,sv,yn1,yn0,u,w,un0,q,r)=>(u*4294967296+w) / y
def aH.L1.aC:aH.L1.D→Prop:=fun(y,sv,yn1,yn0,w,q1,r,u,q)=>∃e:Int,(e=42260∨e=42264∨e=42272)∧y=18446744073709551616 - e∧yn1=4294967295∧yn0=4294967296 - e∧0≤u∧u < 18446744073709551616 - e∧0≤w∧w < 4294967296∧0≤r∧r < 4294967296∧q*4294967295+r=u∧(u*4294967296+w) / (18446744073709551616 - e)≤q
def aH.L1.F:aH.L1.D→aH.L1.Y:=fun(y,sv,yn1,yn0,w,q1,r,u,q)=>(u*4294967296+w) / y
def aH.aC:aH.D→Prop:=fun(hi,lo,y)=>ES y∧0≤hi∧hi < y∧0≤lo∧lo < 18446744073709551616
def aH.F:aH.D→aH.Y:=fun(hi,lo,y)=>((hi*18446744073709551616+lo) / y,(hi*18446744073709551616+lo)%y)
noncomputable def aH.G:dH:=eT (P:=Tryz.prog) [ew.sg]
noncomputable def aH.L0.E:=bZ.cP aH.L0.st aH.L0.aC aH.L0.add aH.L0.F aH.L0.out
noncomputable def aH.L0.call:aH.L0.D→Option aH.L0.X:=dI aH.L0.E aH.L0.st
noncomputable def aH.L1.E:=bZ.cP aH.L1.st aH.L1.aC aH.L1.add aH.L1.F aH.L1.out
noncomputable def aH.L1.call:aH.L1.D→Option aH.L1.X:=dI aH.L1.E aH.L1.st
noncomputable def aH.an:ee:= {loops:=lZ [(17,{bn:=[2,8,9,10,11,13,14,15,16]}),(24,{bn:=[2,8,9,10,14,15,16,17,18]})],outs:=lY [(17,{bn:=[2,8,9,10,11,13,14,15]},{bn:=[6,7]}),(24,{bn:=[2,8,14,15,17,18]},{bn:=[6,7]})],fO:=mW [(17,aH.L0.E),(24,aH.L1.E)]}
noncomputable def aH.A:= @cT Tryz.prog aH.G aH.an 0 Tryz.f237 _ aH.st
abbrev aH.Ok:=cU @aH.A aH.aC aH.add aH.F aH.out
noncomputable def aH.L0.R:= @cC Tryz.prog aH.G aH.an 0 Tryz.f237 0 _ aH.L0.st
abbrev aH.L0.Ok:=eO Tryz.prog aH.G aH.an 0 Tryz.f237 0 aH.L0.st aH.L0.aC aH.L0.add aH.L0.F aH.L0.out
noncomputable def aH.L1.R:= @cC Tryz.prog aH.G aH.an 0 Tryz.f237 1 _ aH.L1.st
abbrev aH.L1.Ok:=eO Tryz.prog aH.G aH.an 0 Tryz.f237 1 aH.L1.st aH.L1.aC aH.L1.add aH.L1.F aH.L1.out
theorem aH.L0.run:bP aH.L0.call aH.L0.aC aH.L0.add aH.L0.F:=fe (eY [.d tu,.d tu,.d tu,.d tu,.d tu,.d tu,.d tu,.d tu,.d tu] fun _=>by kernel_rfl)
theorem aH.L0.aL:ga @aH.L0.R aH.L0.st aH.L0.aC aH.L0.add aH.L0.F aH.L0.bK aH.L0.Ok:=gw
theorem aH.L0.step{R:Type}(yv_2:Int)(sv:Int)(yn1:Int)(yn0:Int)(un32:Int)(un1:Int)(un0:Int)(q1:Int)(rhat:Int)(kn:AS→Option R)(kx:Exit→AS→Option R):aH.L0.R (yv_2,sv,yn1,yn0,un32,un1,un0,q1,rhat) kn kx=
  aF ((mV q1 (4294967296:Int))) (
   aF ((mV (ck .u64 rhat yn1) (4294967296:Int))) (
    kx (aH.L0.bK ((yv_2,sv,yn1,yn0,un32,un1,un0),(cH .u64 q1 (1:Int)))).1 (aH.L0.bK ((yv_2,sv,yn1,yn0,un32,un1,un0),(cH .u64 q1 (1:Int)))).2) (
    kn (aH.L0.st (yv_2,sv,yn1,yn0,un32,un1,un0,(cH .u64 q1 (1:Int)),(ck .u64 rhat yn1))))) (
   aF ((po (fg .u64 q1 yn0) (ck .u64 (fg .u64 (4294967296:Int) rhat) un1))) (
    aF ((mV (ck .u64 rhat yn1) (4294967296:Int))) (
     kx (aH.L0.bK ((yv_2,sv,yn1,yn0,un32,un1,un0),(cH .u64 q1 (1:Int)))).1 (aH.L0.bK ((yv_2,sv,yn1,yn0,un32,un1,un0),(cH .u64 q1 (1:Int)))).2) (
     kn (aH.L0.st (yv_2,sv,yn1,yn0,un32,un1,un0,(cH .u64 q1 (1:Int)),(ck .u64 rhat yn1))))) (
    kx (aH.L0.bK ((yv_2,sv,yn1,yn0,un32,un1,un0),q1)).1 (aH.L0.bK ((yv_2,sv,yn1,yn0,un32,un1,un0),q1)).2)):=by kernel_rfl
theorem aH.L1.run:bP aH.L1.call aH.L1.aC aH.L1.add aH.L1.F:=fe (eY [.d tu,.d tu,.d tu,.d tu,.d tu,.d tu,.d tu,.d tu,.d tu] fun _=>by kernel_rfl)
theorem aH.L1.aL:ga @aH.L1.R aH.L1.st aH.L1.aC aH.L1.add aH.L1.F aH.L1.bK aH.L1.Ok:=gw
theorem aH.L1.step{R:Type}(yv_3:Int)(sv_2:Int)(yn1_2:Int)(yn0_2:Int)(un0_2:Int)(q1_2:Int)(rhat_2:Int)(un21:Int)(q0:Int)(kn:AS→Option R)(kx:Exit→AS→Option R):aH.L1.R (yv_3,sv_2,yn1_2,yn0_2,un0_2,q1_2,rhat_2,un21,q0) kn kx=
  aF ((mV q0 (4294967296:Int))) (
   aF ((mV (ck .u64 rhat_2 yn1_2) (4294967296:Int))) (
    kx (aH.L1.bK ((yv_3,sv_2,un0_2,q1_2,un21),(cH .u64 q0 (1:Int)))).1 (aH.L1.bK ((yv_3,sv_2,un0_2,q1_2,un21),(cH .u64 q0 (1:Int)))).2) (
    kn (aH.L1.st (yv_3,sv_2,yn1_2,yn0_2,un0_2,q1_2,(ck .u64 rhat_2 yn1_2),un21,(cH .u64 q0 (1:Int)))))) (
   aF ((po (fg .u64 q0 yn0_2) (ck .u64 (fg .u64 (4294967296:Int) rhat_2) un0_2))) (
    aF ((mV (ck .u64 rhat_2 yn1_2) (4294967296:Int))) (
     kx (aH.L1.bK ((yv_3,sv_2,un0_2,q1_2,un21),(cH .u64 q0 (1:Int)))).1 (aH.L1.bK ((yv_3,sv_2,un0_2,q1_2,un21),(cH .u64 q0 (1:Int)))).2) (
     kn (aH.L1.st (yv_3,sv_2,yn1_2,yn0_2,un0_2,q1_2,(ck .u64 rhat_2 yn1_2),un21,(cH .u64 q0 (1:Int)))))) (
    kx (aH.L1.bK ((yv_3,sv_2,un0_2,q1_2,un21),q0)).1 (aH.L1.bK ((yv_3,sv_2,un0_2,q1_2,un21),q0)).2)):=by kernel_rfl
theorem aH.eq{R:Type}(hi:Int)(lo:Int)(yv:Int)(k:aW→Option R):aH.A (hi,lo,yv) k=
  aF ((dN yv (0:Int))) (
   none) (
   aF ((AY yv hi)) (
    none) (
    aF ((dN hi (0:Int))) (
     aF (gV yv) (
     aF (gV yv) (
     k (aH.out ((kK .u64 lo yv),(jP lo yv)))) none) none) (
     ah (ew.call yv) fun x1=>
     aF (iC (dz .u64 x1)) (
     aF (iC (dz .u64 x1)) (
     aF (iC (cH .u64 (64:Int) (dz .u64 x1))) (
     aF (iC (dz .u64 x1)) (
     aF (gV (bC .u64 (iM .u64 yv (dz .u64 x1)) (32:Int))) (
     ah (aH.L0.call ((iM .u64 yv (dz .u64 x1)),(dz .u64 x1),(bC .u64 (iM .u64 yv (dz .u64 x1)) (32:Int)),(cQ .and .u64 (iM .u64 yv (dz .u64 x1)) (4294967295:Int)),(cQ .or .u64 (iM .u64 hi (dz .u64 x1)) (bC .u64 lo (cH .u64 (64:Int) (dz .u64 x1)))),(bC .u64 (iM .u64 lo (dz .u64 x1)) (32:Int)),(cQ .and .u64 (iM .u64 lo (dz .u64 x1)) (4294967295:Int)),(kK .u64 (cQ .or .u64 (iM .u64 hi (dz .u64 x1)) (bC .u64 lo (cH .u64 (64:Int) (dz .u64 x1)))) (bC .u64 (iM .u64 yv (dz .u64 x1)) (32:Int))),(cH .u64 (cQ .or .u64 (iM .u64 hi (dz .u64 x1)) (bC .u64 lo (cH .u64 (64:Int) (dz .u64 x1)))) (fg .u64 (kK .u64 (cQ .or .u64 (iM .u64 hi (dz .u64 x1)) (bC .u64 lo (cH .u64 (64:Int) (dz .u64 x1)))) (bC .u64 (iM .u64 yv (dz .u64 x1)) (32:Int))) (bC .u64 (iM .u64 yv (dz .u64 x1)) (32:Int)))))) fun x2=>
     aF (gV x2.1.2.2.1) (
     ah (aH.L1.call (x2.1.1,x2.1.2.1,x2.1.2.2.1,x2.1.2.2.2.1,x2.1.2.2.2.2.2.2,x2.2,(cH .u64 (cH .u64 (ck .u64 (fg .u64 x2.1.2.2.2.2.1 (4294967296:Int)) x2.1.2.2.2.2.2.1) (fg .u64 x2.2 x2.1.1)) (fg .u64 (kK .u64 (cH .u64 (ck .u64 (fg .u64 x2.1.2.2.2.2.1 (4294967296:Int)) x2.1.2.2.2.2.2.1) (fg .u64 x2.2 x2.1.1)) x2.1.2.2.1) x2.1.2.2.1)),(cH .u64 (ck .u64 (fg .u64 x2.1.2.2.2.2.1 (4294967296:Int)) x2.1.2.2.2.2.2.1) (fg .u64 x2.2 x2.1.1)),(kK .u64 (cH .u64 (ck .u64 (fg .u64 x2.1.2.2.2.2.1 (4294967296:Int)) x2.1.2.2.2.2.2.1) (fg .u64 x2.2 x2.1.1)) x2.1.2.2.1))) fun x3=>
     aF (iC x3.1.2.1) (
     k (aH.out ((ck .u64 (fg .u64 x3.1.2.2.2.1 (4294967296:Int)) x3.2),(bC .u64 (cH .u64 (ck .u64 (fg .u64 x3.1.2.2.2.2 (4294967296:Int)) x3.1.2.2.1) (fg .u64 x3.2 x3.1.1)) x3.1.2.1)))) none) none) none) none) none) none) none))):=by kernel_rfl
theorem aH.L0.ok:aH.L0.Ok:=by
 refine aH.L0.aL (fun(y,sv,yn1,yn0,u,w,un0,q,r)=>q.toNat) ?_
 rintro⟨y,sv,yn1,yn0,u,w,un0,q,r⟩ ⟨e,he,rfl,rfl,rfl,hu,hu2,hw,hw2,hr,hr2,hq,hQ⟩
 have hu:0≤u:=hu
 have hu2:u < 18446744073709551616 - e:=hu2
 have hw:0≤w:=hw
 have hw2:w < 4294967296:=hw2
 have hr:0≤r:=hr
 have hr2:r < 4294967296:=hr2
 have hq:q*4294967295+r=u:=hq
 obtain⟨k1,k2,k3,k4,k5,k6⟩:=k1 he hu hu2 hw hw2 hr hr2 hq hQ
 have q0:0≤q:=Int.le_trans k5 hQ
 have a1:ck .u64 r 4294967295=r+4294967295:=by rw[jN];omega
 have a2:ck .u64 (fg .u64 4294967296 r) w=4294967296*r+w:=by rw[jO,jN];omega
 have a3:q < 4294967296→fg .u64 q (4294967296 - e)=q*(4294967296 - e):=by
  intro h;rw[jO];rcases he with rfl | rfl | rfl <;> omega
 have a4:0 < q→cH .u64 q 1=q - 1:=by intro h;rw[qq];omega
 have pos:4294967296≤q∨(q < 4294967296∧4294967296*r+w < q*(4294967296 - e))→0 < q∧(u*4294967296+w) / (18446744073709551616 - e)≤q - 1:=by
  rintro(h | ⟨h,h2⟩)
  ·exact⟨by omega,k1 h⟩
  ·exact⟨by have:=k2 h h2;omega,k2 h h2⟩
 by_cases hc:4294967296≤q∨(q < 4294967296∧4294967296*r+w < q*(4294967296 - e))
 ·obtain⟨p1,p2⟩:=pos hc
  by_cases hb:4294967296≤r+4294967295
  ·right
   have hF:aH.L0.F (18446744073709551616 - e,sv,4294967295,4294967296 - e,u,w,un0,q,r)=q - 1:=k4 hb p2
   intro R kn kx
   rw[aH.L0.step,a1,a2,a4 p1,fi hb,hF]
   rcases hc with h | ⟨h,h2⟩
   ·rw[fi h];rfl
   ·rw[ei (by omega),a3 h,dT h2];rfl
  ·left
   refine⟨(18446744073709551616 - e,sv,4294967295,4294967296 - e,u,w,un0,q - 1,r+4294967295),⟨e,he,rfl,rfl,rfl,hu,hu2,hw,hw2,by omega,by omega,by omega,p2⟩,by simp only[];omega,rfl,fun kn kx=> ?_⟩
   rw[aH.L0.step,a1,a2,a4 p1,ei hb]
   rcases hc with h | ⟨h,h2⟩
   ·rw[fi h];rfl
   ·rw[ei (by omega),a3 h,dT h2];rfl
 ·right
  have h:q < 4294967296:=by omega
  have h2:¬4294967296*r+w < q*(4294967296 - e):=fun x=>hc (Or.inr ⟨h,x⟩)
  have hF:aH.L0.F (18446744073709551616 - e,sv,4294967295,4294967296 - e,u,w,un0,q,r)=q:=k3 h (by omega)
  intro R kn kx
  rw[aH.L0.step,a2,a3 h,ei (by omega),dF h2,hF]
  rfl
theorem aH.L1.ok:aH.L1.Ok:=by
 refine aH.L1.aL (fun(y,sv,yn1,yn0,w,q1,r,u,q)=>q.toNat) ?_
 rintro⟨y,sv,yn1,yn0,w,q1,r,u,q⟩ ⟨e,he,rfl,rfl,rfl,hu,hu2,hw,hw2,hr,hr2,hq,hQ⟩
 have hu:0≤u:=hu
 have hu2:u < 18446744073709551616 - e:=hu2
 have hw:0≤w:=hw
 have hw2:w < 4294967296:=hw2
 have hr:0≤r:=hr
 have hr2:r < 4294967296:=hr2
 have hq:q*4294967295+r=u:=hq
 obtain⟨k1,k2,k3,k4,k5,k6⟩:=k1 he hu hu2 hw hw2 hr hr2 hq hQ
 have q0:0≤q:=Int.le_trans k5 hQ
 have a1:ck .u64 r 4294967295=r+4294967295:=by rw[jN];omega
 have a2:ck .u64 (fg .u64 4294967296 r) w=4294967296*r+w:=by rw[jO,jN];omega
 have a3:q < 4294967296→fg .u64 q (4294967296 - e)=q*(4294967296 - e):=by
  intro h;rw[jO];rcases he with rfl | rfl | rfl <;> omega
 have a4:0 < q→cH .u64 q 1=q - 1:=by intro h;rw[qq];omega
 have pos:4294967296≤q∨(q < 4294967296∧4294967296*r+w < q*(4294967296 - e))→0 < q∧(u*4294967296+w) / (18446744073709551616 - e)≤q - 1:=by
  rintro(h | ⟨h,h2⟩)
  ·exact⟨by omega,k1 h⟩
  ·exact⟨by have:=k2 h h2;omega,k2 h h2⟩
 by_cases hc:4294967296≤q∨(q < 4294967296∧4294967296*r+w < q*(4294967296 - e))
 ·obtain⟨p1,p2⟩:=pos hc
  by_cases hb:4294967296≤r+4294967295
  ·right
   have hF:aH.L1.F (18446744073709551616 - e,sv,4294967295,4294967296 - e,w,q1,r,u,q)=q - 1:=k4 hb p2
   intro R kn kx
   rw[aH.L1.step,a1,a2,a4 p1,fi hb,hF]
   rcases hc with h | ⟨h,h2⟩
   ·rw[fi h];rfl
   ·rw[ei (by omega),a3 h,dT h2];rfl
  ·left
   refine⟨(18446744073709551616 - e,sv,4294967295,4294967296 - e,w,q1,r+4294967295,u,q - 1),⟨e,he,rfl,rfl,rfl,hu,hu2,hw,hw2,by omega,by omega,by omega,p2⟩,by simp only[];omega,rfl,fun kn kx=> ?_⟩
   rw[aH.L1.step,a1,a2,a4 p1,ei hb]
   rcases hc with h | ⟨h,h2⟩
   ·rw[fi h];rfl
   ·rw[ei (by omega),a3 h,dT h2];rfl
 ·right
  have h:q < 4294967296:=by omega
  have h2:¬4294967296*r+w < q*(4294967296 - e):=fun x=>hc (Or.inr ⟨h,x⟩)
  have hF:aH.L1.F (18446744073709551616 - e,sv,4294967295,4294967296 - e,w,q1,r,u,q)=q:=k3 h (by omega)
  intro R kn kx
  rw[aH.L1.step,a2,a3 h,ei (by omega),dF h2,hF]
  rfl
theorem DA{y hi lo:Int}(hy:ES y)(h0:0≤hi)(h1:hi < y)(h2:0≤lo)(h3:lo < 18446744073709551616):∃(s:Nat) (e m:Int),ew.F y=s∧(s=2∨s=3)∧m=2^s∧(e=42260∨e=42264∨e=42272)∧y*m=18446744073709551616 - e∧
  iM .u64 y (s:Int)=18446744073709551616 - e∧
  cQ .or .u64 (iM .u64 hi (s:Int)) (bC .u64 lo (cH .u64 64 (s:Int)))=(hi*18446744073709551616+lo)*m / 18446744073709551616∧
  iM .u64 lo (s:Int)=(hi*18446744073709551616+lo)*m%18446744073709551616∧
  (hi*18446744073709551616+lo)*m / 18446744073709551616 < 18446744073709551616 - e∧
  (hi*18446744073709551616+lo)*m / (18446744073709551616 - e)=(hi*18446744073709551616+lo) / y∧
  (hi*18446744073709551616+lo)*m%(18446744073709551616 - e) / m=(hi*18446744073709551616+lo)%y:=by
 have e1:cH .u64 64 ((2:Nat):Int)=((62:Nat):Int):=rfl
 have e2:cH .u64 64 ((3:Nat):Int)=((61:Nat):Int):=rfl
 have p2:(2:Int)^2=4:=rfl
 have p3:(2:Int)^3=8:=rfl
 have p61:(2:Int)^61=2305843009213693952:=rfl
 have p62:(2:Int)^62=4611686018427387904:=rfl
 obtain rfl | rfl | rfl:=hy
 ·refine⟨2,42260,4,rfl,Or.inl rfl,rfl,Or.inl rfl,rfl,by rw[je 2 (by rfl) (by omega),p2];omega,?_,?_,by omega,by omega,by omega⟩
  ·rw[e1,je 2 (by rfl) (by omega),jS 62 (by rfl) (by omega),p2,p62,oG 2 4 rfl (by omega) (by omega) (by omega) (by omega) (by omega) (by omega)];omega
  ·rw[je 2 (by rfl) (by omega),p2];omega
 ·refine⟨3,42264,8,rfl,Or.inr rfl,rfl,Or.inr (Or.inl rfl),rfl,by rw[je 3 (by rfl) (by omega),p3];omega,?_,?_,by omega,by omega,by omega⟩
  ·rw[e2,je 3 (by rfl) (by omega),jS 61 (by rfl) (by omega),p3,p61,oG 3 8 rfl (by omega) (by omega) (by omega) (by omega) (by omega) (by omega)];omega
  ·rw[je 3 (by rfl) (by omega),p3];omega
 ·refine⟨3,42272,8,rfl,Or.inr rfl,rfl,Or.inr (Or.inr rfl),rfl,by rw[je 3 (by rfl) (by omega),p3];omega,?_,?_,by omega,by omega,by omega⟩
  ·rw[e2,je 3 (by rfl) (by omega),jS 61 (by rfl) (by omega),p3,p61,oG 3 8 rfl (by omega) (by omega) (by omega) (by omega) (by omega) (by omega)];omega
  ·rw[je 3 (by rfl) (by omega),p3];omega
theorem FF(a b c:Int):(((a%18446744073709551616+b)%18446744073709551616) - c%18446744073709551616)%18446744073709551616=(a+b - c)%18446744073709551616:=by omega
theorem aH.ok:aH.Ok:=by
 rintro⟨hi,lo,y⟩ ⟨hy,h0,h1,h2,h3⟩
 have h0:0≤hi:=h0
 have h1:hi < y:=h1
 have h2:0≤lo:=h2
 have h3:lo < 18446744073709551616:=h3
 have yb:0 < y∧y < 18446744073709551616:=by obtain rfl | rfl | rfl:=hy <;> omega
 rw[aH.eq,jV (by omega),kY (by omega)]
 simp only[aw]
 have z:gV y=true:=by simp[gV];omega
 by_cases hz:hi=0
 ·subst hz
  rw[iw rfl,z,yC h2 (by omega) h3,mJ h2]
  simp only[ao,aH.F,aH.add,Int.zero_mul,Int.zero_add]
 ·obtain⟨s,e,m,hs,hs2,hm,he,hym,a1,a2,a3,a4,a5,a6⟩:=DA hy h0 h1 h2 h3
  have c1:dz .u64 (s:Int)=(s:Int):=by rw[AW];omega
  have c2:iC (s:Int)=true:=kA (by omega)
  have c3:iC (cH .u64 64 (s:Int))=true:=by rcases hs2 with rfl | rfl <;> rfl
  rw[jV hz,ew.run (d:=y) hy]
  simp only[aw,aa,ew.add,hs,c1,c2,c3,ao,a1,a2,a3]
  have hN:0≤(hi*18446744073709551616+lo)*m:=Int.mul_nonneg (by omega) (by rcases hs2 with rfl | rfl <;> omega)
  revert a4 a5 a6
  generalize (hi*18446744073709551616+lo)*m=N at hN
  intro a4 a5 a6
  have u0:0≤N / 18446744073709551616:=by omega
  have t0:0≤N%18446744073709551616:=by omega
  have t1:N%18446744073709551616 < 18446744073709551616:=by omega
  have hd:N=(N / 18446744073709551616*4294967296+N%18446744073709551616 / 4294967296)*4294967296+N%18446744073709551616%4294967296:=by omega
  have w10:0≤N%18446744073709551616 / 4294967296:=by omega
  have w11:N%18446744073709551616 / 4294967296 < 4294967296:=by omega
  have w00:0≤N%18446744073709551616%4294967296:=by omega
  have w01:N%18446744073709551616%4294967296 < 4294967296:=by omega
  have p32:(2:Int)^32=4294967296:=rfl
  have b1:bC .u64 (18446744073709551616 - e) 32=4294967295:=by rw[jS 32 (by rfl) (by omega),p32];rcases he with rfl | rfl | rfl <;> rfl
  have b2:cQ .and .u64 (18446744073709551616 - e) 4294967295=4294967296 - e:=by rw[vl (by omega) (by omega)];omega
  have b3:bC .u64 (N%18446744073709551616) 32=N%18446744073709551616 / 4294967296:=by rw[jS 32 (by rfl) (by omega),p32]
  have b4:cQ .and .u64 (N%18446744073709551616) 4294967295=N%18446744073709551616%4294967296:=vl t0 t1
  have z2:gV 4294967295=true:=rfl
  simp only[b1,b2,b3,b4,z2,ao]
  clear a1 a2 a3 b1 b2 b3 b4
  have kdd:=kd (18446744073709551616 - e) (N / 18446744073709551616) (N%18446744073709551616 / 4294967296) (N%18446744073709551616%4294967296) (by omega) w00 w01
  rw[←hd,a5]at kdd
  revert a4 kdd
  generalize N / 18446744073709551616=u at u0
  generalize N%18446744073709551616 / 4294967296=w1 at w10 w11
  generalize N%18446744073709551616%4294967296=w0 at w00 w01
  intro a4 kdd
  have g:∀u w:Int,0≤u→u < 18446744073709551616 - e→0≤w→w < 4294967296→
    kK .u64 u 4294967295=u / 4294967295∧cH .u64 u (fg .u64 (u / 4294967295) 4294967295)=u - u / 4294967295*4294967295∧
    cH .u64 (ck .u64 (fg .u64 u 4294967296) w) (fg .u64 ((u*4294967296+w) / (18446744073709551616 - e)) (18446744073709551616 - e))=(u*4294967296+w)%(18446744073709551616 - e):=by
   intro u w k1 k2 k3 k4
   obtain⟨q1,q2,q3,q4,q5,q6,q7,q8⟩:=k0 he k1 k2 k3 k4
   refine⟨yC k1 (by omega) (by omega),by rw[qq,jO];omega,?_⟩
   rw[qq,jN,jO,jO,FF,q4]
   exact Int.emod_eq_of_lt q5 (by omega)
  obtain⟨f1,f2,f3⟩:=g u w1 u0 a4 w10 w11
  obtain⟨q1,q2,q3,q4,q5,q6,q7,q8⟩:=k0 he u0 a4 w10 w11
  have p1:aH.L0.aC (18446744073709551616 - e,(s:Int),4294967295,4294967296 - e,u,w1,w0,u / 4294967295,u - u / 4294967295*4294967295):=⟨e,he,rfl,rfl,rfl,u0,a4,w10,w11,q2,q3,by omega,q1⟩
  rw[f1,f2,aH.L0.run p1]
  simp only[aa,aH.L0.add,aH.L0.F,z2,ao,f3]
  revert f3 q1 kdd
  generalize (u*4294967296+w1)%(18446744073709551616 - e)=v at q4 q5 q6
  generalize (u*4294967296+w1) / (18446744073709551616 - e)=Q at q4 q7 q8
  intro kdd f3 q1
  obtain⟨g1,g2,g3⟩:=g v w0 q5 q6 w00 w01
  obtain⟨r1,r2,r3,r4,r5,r6,r7,r8⟩:=k0 he q5 q6 w00 w01
  have p2:aH.L1.aC (18446744073709551616 - e,(s:Int),4294967295,4294967296 - e,w0,Q,v - v / 4294967295*4294967295,v,v / 4294967295):=⟨e,he,rfl,rfl,rfl,q5,q6,w00,w01,r2,r3,by omega,r1⟩
  rw[g1,g2,aH.L1.run p2]
  simp only[aa,aH.L1.add,aH.L1.F,c2,ao,g3]
  rw[←kdd.2,jS s (by rfl) (by omega),←hm,a6,jO,jN]
  have e9:(Q*4294967296%18446744073709551616+(v*4294967296+w0) / (18446744073709551616 - e))%18446744073709551616=(hi*18446744073709551616+lo) / y:=by rw[kdd.1];omega
  rw[e9]
  rfl
noncomputable def aH.E:=Entry.cP [some tu,some tu,some tu] aH.st aH.aC aH.add aH.F aH.out
noncomputable def aH.call:aH.D→Option aH.X:=bS aH.E aH.st
theorem aH.run:bP aH.call aH.aC aH.add aH.F:=de (cZ [.d tu,.d tu,.d tu] fun _=>by kernel_rfl)
noncomputable def aH.sg:SG Tryz.prog:=⟨237,aV,aH.E,.fn 2 (by kernel_rfl) aH.ok (And.intro (.cP aH.L0.ok (by kernel_rfl)) (And.intro (.cP aH.L1.ok (by kernel_rfl)) trivial))⟩
abbrev cw.D:=Int×Int×Int
def cw.st:cw.D→SA:=fun(hi,lo,yv)=>([.d tu hi,.d tu lo,.d tu yv],[])
abbrev cw.Y:=Int
abbrev cw.X:=Int
def cw.out:cw.X→aW:=fun x=>⟨.d tu x,[],[]⟩
def cw.add:cw.D→cw.Y→cw.X:=fun(hi,lo,yv) y=>y
def cw.aC:cw.D→Prop:=fun(hi,lo,y)=>ES y∧0≤hi∧hi < 18446744073709551616∧0≤lo∧lo < 18446744073709551616
def cw.F:cw.D→cw.Y:=fun(hi,lo,y)=>(hi*18446744073709551616+lo)%y
noncomputable def cw.G:dH:=eT (P:=Tryz.prog) [aH.sg]
noncomputable def cw.an:ee:= {}
noncomputable def cw.A:= @cT Tryz.prog cw.G cw.an 0 Tryz.f199 _ cw.st
abbrev cw.Ok:=cU @cw.A cw.aC cw.add cw.F cw.out
theorem cw.eq{R:Type}(hi:Int)(lo:Int)(yv:Int)(k:aW→Option R):cw.A (hi,lo,yv) k=
 aF (gV yv) (
 ah (aH.call ((jP hi yv),lo,yv)) fun x1=>
 k (cw.out x1.2)) none:=by kernel_rfl
theorem cw.ok:cw.Ok:=by
 rintro⟨hi,lo,y⟩ ⟨hy,h0,h1,h2,h3⟩
 have h0:0≤hi:=h0
 have yb:0 < y:=by obtain rfl | rfl | rfl:=hy <;> omega
 have z:gV y=true:=by simp[gV];omega
 have p:aH.aC (hi%y,lo,y):=⟨hy,Int.emod_nonneg _ (by omega),Int.emod_lt_of_pos _ yb,h2,h3⟩
 rw[cw.eq,z,mJ h0,aH.run p]
 have e:(hi%y*18446744073709551616+lo)%y=(hi*18446744073709551616+lo)%y:=by
  rw[Int.add_emod,Int.mul_emod,Int.emod_emod_of_dvd _ (Int.dvd_refl y),←Int.mul_emod,←Int.add_emod]
 simp only[ao,aa,aH.add,aH.F,cw.add,cw.F,e]
noncomputable def cw.E:=Entry.cP [some tu,some tu,some tu] cw.st cw.aC cw.add cw.F cw.out
noncomputable def cw.call:cw.D→Option cw.X:=bS cw.E cw.st
theorem cw.run:bP cw.call cw.aC cw.add cw.F:=de (cZ [.d tu,.d tu,.d tu] fun _=>by kernel_rfl)
noncomputable def cw.sg:SG Tryz.prog:=⟨199,aV,cw.E,.fn 0 (by kernel_rfl) cw.ok trivial⟩
abbrev cM.D:=Int×Int
def cM.st:cM.D→SA:=fun(x,yv)=>([.d tu x,.d tu yv],[])
abbrev cM.Y:=Int×Int
abbrev cM.X:=Int×Int
def cM.out:cM.X→aW:=fun x=>⟨.cons (.d tu x.1) (.cons (.d tu x.2) (.nil)),[],[]⟩
def cM.add:cM.D→cM.Y→cM.X:=fun(x,yv) y=>y
def cM.aC:cM.D→Prop:=fun(x,y)=>(0≤x∧x < 18446744073709551616)∧0≤y∧y < 18446744073709551616
def cM.F:cM.D→cM.Y:=fun(x,y)=>(x*y / 18446744073709551616,x*y%18446744073709551616)
noncomputable def cM.G:dH:=eT (P:=Tryz.prog) []
noncomputable def cM.an:ee:= {}
noncomputable def cM.A:= @cT Tryz.prog cM.G cM.an 0 Tryz.f236 _ cM.st
abbrev cM.Ok:=cU @cM.A cM.aC cM.add cM.F cM.out
theorem cM.eq{R:Type}(x:Int)(yv:Int)(k:aW→Option R):cM.A (x,yv) k=
 k (cM.out ((ck .u64 (ck .u64 (fg .u64 (bC .u64 x (32:Int)) (bC .u64 yv (32:Int))) (bC .u64 (ck .u64 (fg .u64 (bC .u64 x (32:Int)) (cQ .and .u64 yv (4294967295:Int))) (bC .u64 (fg .u64 (cQ .and .u64 x (4294967295:Int)) (cQ .and .u64 yv (4294967295:Int))) (32:Int))) (32:Int))) (bC .u64 (ck .u64 (cQ .and .u64 (ck .u64 (fg .u64 (bC .u64 x (32:Int)) (cQ .and .u64 yv (4294967295:Int))) (bC .u64 (fg .u64 (cQ .and .u64 x (4294967295:Int)) (cQ .and .u64 yv (4294967295:Int))) (32:Int))) (4294967295:Int)) (fg .u64 (cQ .and .u64 x (4294967295:Int)) (bC .u64 yv (32:Int)))) (32:Int))),(fg .u64 x yv))):=by kernel_rfl
theorem pA{a b m n:Int}(h0:0≤a)(h1:a≤m)(h2:0≤b)(h3:b≤n):0≤a*b∧a*b≤m*n:=
 ⟨Int.mul_nonneg h0 h2,Int.mul_le_mul h1 h3 h2 (Int.le_trans h0 h1)⟩
theorem cM.ok:cM.Ok:=by
 rintro⟨x,y⟩ ⟨⟨h0,h1⟩,h2,h3⟩
 have h0:0≤x:=h0
 have h1:x < 18446744073709551616:=h1
 have h2:0≤y:=h2
 have h3:y < 18446744073709551616:=h3
 rw[cM.eq]
 have p32:(2:Int)^32=4294967296:=rfl
 have s32:∀x:Int,bC .u64 x 32=x / 4294967296:=fun x=>by rw[jS 32 (by rfl) (by omega),p32]
 simp only[s32,vl h0 h1,vl h2 h3]
 obtain⟨a,b,rfl,a0,a1,b0,b1⟩:∃a b:Int,x=a*4294967296+b∧0≤a∧a≤4294967295∧0≤b∧b≤4294967295:=⟨x / 4294967296,x%4294967296,by omega,by omega,by omega,by omega,by omega⟩
 obtain⟨c,d,rfl,c0,c1,d0,d1⟩:∃a b:Int,y=a*4294967296+b∧0≤a∧a≤4294967295∧0≤b∧b≤4294967295:=⟨y / 4294967296,y%4294967296,by omega,by omega,by omega,by omega,by omega⟩
 have e1:(a*4294967296+b) / 4294967296=a:=by omega
 have e2:(a*4294967296+b)%4294967296=b:=by omega
 have e3:(c*4294967296+d) / 4294967296=c:=by omega
 have e4:(c*4294967296+d)%4294967296=d:=by omega
 have e5:(a*4294967296+b)*(c*4294967296+d)=a*c*18446744073709551616+(a*d+b*c)*4294967296+b*d:=by
  have q:(4294967296:Int)*4294967296=18446744073709551616:=rfl
  rw[Int.add_mul,Int.mul_add,Int.mul_add]
  have q1:a*4294967296*(c*4294967296)=a*c*18446744073709551616:=by rw[←q];ac_rfl
  have q2:a*4294967296*d=a*d*4294967296:=by ac_rfl
  have q3:b*(c*4294967296)=b*c*4294967296:=by ac_rfl
  rw[q1,q2,q3];omega
 obtain⟨m1,m2⟩:=pA a0 a1 c0 c1
 obtain⟨m3,m4⟩:=pA a0 a1 d0 d1
 obtain⟨m5,m6⟩:=pA b0 b1 c0 c1
 obtain⟨m7,m8⟩:=pA b0 b1 d0 d1
 have n:(4294967295:Int)*4294967295=18446744065119617025:=rfl
 rw[n]at m2 m4 m6 m8
 simp only[e1,e2,e3,e4,cM.add,cM.F,e5,jO,jN]
 revert m1 m2 m3 m4 m5 m6 m7 m8
 generalize a*c=ac
 generalize a*d=ad
 generalize b*c=bc
 generalize b*d=bd
 intro m1 m2 m3 m4 m5 m6 m7 m8
 have q1:bd%18446744073709551616=bd:=by omega
 have q2:ad%18446744073709551616=ad:=by omega
 have q3:bc%18446744073709551616=bc:=by omega
 have q4:ac%18446744073709551616=ac:=by omega
 rw[q1,q2,q3,q4]
 have q5:(ad+bd / 4294967296)%18446744073709551616=ad+bd / 4294967296:=by omega
 have q6:cQ .and .u64 (ad+bd / 4294967296) 4294967295=(ad+bd / 4294967296)%4294967296:=vl (by omega) (by omega)
 rw[q5,q6]
 refine congrArg some (congrArg cM.out (Prod.ext ?_ ?_))
 ·show _=(_:Int)
  simp only[]
  omega
 ·rfl
noncomputable def cM.E:=Entry.cP [some tu,some tu] cM.st cM.aC cM.add cM.F cM.out
noncomputable def cM.call:cM.D→Option cM.X:=bS cM.E cM.st
theorem cM.run:bP cM.call cM.aC cM.add cM.F:=de (cZ [.d tu,.d tu] fun _=>by kernel_rfl)
noncomputable def cM.sg:SG Tryz.prog:=⟨236,aV,cM.E,.fn 0 (by kernel_rfl) cM.ok trivial⟩
set_option synthInstance.maxSize 5000
def Pn(x:Int):Prop:=0≤x∧x < 4611686018427377339
def gX(x:Int):Prop:=0≤x∧x < 18446744073709551616
theorem Pn.u{x:Int}(h:Pn x):gX x:=⟨h.1,by have:=h.2;omega⟩
def iN(a b:Int):Int:=a*b%4611686018427377339
theorem kz(a b:Int):Pn (iN a b):=⟨Int.emod_nonneg _ (by omega),Int.emod_lt_of_pos _ (by omega)⟩
def yO:Nat→Int→Nat→Int→Int
 | 0,_,_,out=>out
 |f+1,a,n,out=>if n=0 then out else yO f (iN a a) (n / 2) (if n%2=1 then iN out a else out)
def pw(a:Int)(n:Nat):Int:=yO 64 a n 1
theorem lh(f:Nat)(a out:Int):yO f a 0 out=out:=by cases f <;> rfl
theorem wF:∀(f g:Nat) (a:Int) (n:Nat) (out:Int),n < 2^f→n < 2^g→yO f a n out=yO g a n out
 | 0,g,a,n,out,h,_=>by
  obtain rfl:n=0:=by omega
  rw[lh,lh]
 |f+1,0,a,n,out,_,h=>by
  obtain rfl:n=0:=by omega
  rw[lh,lh]
 |f+1,g+1,a,n,out,h,h'=>by
  have e:(2:Nat)^(f+1)=2^f*2:=Nat.pow_succ 2 f
  have e':(2:Nat)^(g+1)=2^g*2:=Nat.pow_succ 2 g
  unfold yO
  split
  ·rfl
  ·exact wF f g _ _ _ (by omega) (by omega)
theorem BC:∀(f:Nat) (a:Int) (n:Nat) (out:Int),Pn out→Pn (yO f a n out)
 | 0,_,_,_,h=>h
 |f+1,a,n,out,h=>by
  unfold yO
  split
  ·exact h
  ·refine BC f _ _ _ ?_
   split
   ·exact kz _ _
   ·exact h
theorem wG(a:Int)(n:Nat):Pn (pw a n):=BC _ _ _ _ ⟨by omega,by omega⟩
abbrev cm.D:=Int×Int
def cm.st:cm.D→SA:=fun(a,b)=>([.d tu a,.d tu b],[])
abbrev cm.Y:=Int
abbrev cm.X:=Int
def cm.out:cm.X→aW:=fun x=>⟨.d tu x,[],[]⟩
def cm.add:cm.D→cm.Y→cm.X:=fun(a,b) y=>y
def cm.aC:cm.D→Prop:=fun(a,b)=>gX a∧gX b
def cm.F:cm.D→cm.Y:=fun(a,b)=>iN a b
noncomputable def cm.G:dH:=eT (P:=Tryz.prog) [cM.sg,cw.sg]
noncomputable def cm.an:ee:= {}
noncomputable def cm.A:= @cT Tryz.prog cm.G cm.an 0 Tryz.f193 _ cm.st
abbrev cm.Ok:=cU @cm.A cm.aC cm.add cm.F cm.out
theorem cm.eq{R:Type}(a:Int)(b:Int)(k:aW→Option R):cm.A (a,b) k=
 ah (cM.call (a,b)) fun x1=>
 ah (cw.call (x1.1,x1.2,(4611686018427377339:Int))) fun x2=>
 k (cm.out x2):=by kernel_rfl
theorem so(n:Int):n / 18446744073709551616*18446744073709551616+n%18446744073709551616=n:=by omega
theorem cm.ok:cm.Ok:=by
 rintro⟨a,b⟩ ⟨ha,hb⟩
 have ha:gX a:=ha
 have hb:gX b:=hb
 obtain⟨m1,m2⟩:=pA ha.1 (show a≤18446744073709551615 by have:=ha.2;omega) hb.1 (show b≤18446744073709551615 by have:=hb.2;omega)
 have n:(18446744073709551615:Int)*18446744073709551615=340282366920938463426481119284349108225:=rfl
 rw[n]at m2
 have p:cw.aC (a*b / 18446744073709551616,a*b%18446744073709551616,4611686018427377339):=⟨Or.inl rfl,by omega,by omega,by omega,by omega⟩
 rw[cm.eq,cM.run (d:=(a,b)) ⟨ha,hb⟩]
 simp only[aa,cM.add,cM.F]
 rw[cw.run p]
 simp only[aa,cw.add,cw.F,so]
 rfl
noncomputable def cm.E:=Entry.cP [some tu,some tu] cm.st cm.aC cm.add cm.F cm.out
noncomputable def cm.call:cm.D→Option cm.X:=bS cm.E cm.st
theorem cm.run:bP cm.call cm.aC cm.add cm.F:=de (cZ [.d tu,.d tu] fun _=>by kernel_rfl)
noncomputable def cm.sg:SG Tryz.prog:=⟨193,aV,cm.E,.fn 0 (by kernel_rfl) cm.ok trivial⟩
abbrev aN.L0.D:=Int×Int×Int
def aN.L0.st:aN.L0.D→AS:=fun(a_2,n_2,outv)=>⟨([.d tu a_2,.d tu n_2,.undef,.undef,.undef,.d tu outv]++bm 14 []),[],(List.replicate 20 [])⟩
abbrev aN.L0.Y0:=Int
abbrev aN.L0.X0:=Int
def aN.L0.bK:aN.L0.X0→Exit×AS:=fun x=>(.exit 0,⟨(bm 5 ([.d tu x]++bm 14 [])),[],(List.replicate 20 [])⟩)
abbrev aN.L0.X:=aN.L0.X0
abbrev aN.L0.Y:=aN.L0.Y0
def aN.L0.out:aN.L0.X→Out (Exit×AS):=fun x=> .ok (aN.L0.bK x)
def aN.L0.add:aN.L0.D→aN.L0.Y→aN.L0.X:=fun(a_2,n_2,outv) y=>y
abbrev aN.D:=Int×Int
def aN.st:aN.D→SA:=fun(a,n)=>([.d tu a,.d tu n],[])
abbrev aN.Y:=Int
abbrev aN.X:=Int
def aN.out:aN.X→aW:=fun x=>⟨.d tu x,[],[]⟩
def aN.add:aN.D→aN.Y→aN.X:=fun(a,n) y=>y
def aN.L0.aC:aN.L0.D→Prop:=fun(a,n,o)=>gX a∧gX n∧Pn o
def aN.L0.F:aN.L0.D→aN.L0.Y:=fun(a,n,o)=>yO 64 a n.toNat o
def aN.aC:aN.D→Prop:=fun(a,n)=>gX a∧gX n
def aN.F:aN.D→aN.Y:=fun(a,n)=>pw a n.toNat
noncomputable def aN.G:dH:=eT (P:=Tryz.prog) [cm.sg]
noncomputable def aN.L0.E:=bZ.cP aN.L0.st aN.L0.aC aN.L0.add aN.L0.F aN.L0.out
noncomputable def aN.L0.call:aN.L0.D→Option aN.L0.X:=dI aN.L0.E aN.L0.st
noncomputable def aN.an:ee:= {loops:=lZ [(2,{bn:=[0,1,5]})],outs:=lY [(2,{bn:=[5]},{bn:=[4]})],fO:=mW [(2,aN.L0.E)]}
noncomputable def aN.A:= @cT Tryz.prog aN.G aN.an 0 Tryz.f130 _ aN.st
abbrev aN.Ok:=cU @aN.A aN.aC aN.add aN.F aN.out
noncomputable def aN.L0.R:= @cC Tryz.prog aN.G aN.an 0 Tryz.f130 0 _ aN.L0.st
abbrev aN.L0.Ok:=eO Tryz.prog aN.G aN.an 0 Tryz.f130 0 aN.L0.st aN.L0.aC aN.L0.add aN.L0.F aN.L0.out
theorem aN.L0.run:bP aN.L0.call aN.L0.aC aN.L0.add aN.L0.F:=fe (eY [.d tu,.d tu,.d tu] fun _=>by kernel_rfl)
theorem aN.L0.aL:ga @aN.L0.R aN.L0.st aN.L0.aC aN.L0.add aN.L0.F aN.L0.bK aN.L0.Ok:=gw
theorem aN.L0.step{R:Type}(a_2:Int)(n_2:Int)(outv:Int)(kn:AS→Option R)(kx:Exit→AS→Option R):aN.L0.R (a_2,n_2,outv) kn kx=
  aF ((po n_2 (0:Int))) (
   aF ((dN (cQ .and .u64 n_2 (1:Int)) (1:Int))) (
    ah (cm.call (outv,a_2)) fun x1=>
    ah (cm.call (a_2,a_2)) fun x2=>
    kn (aN.L0.st (x2,(bC .u64 n_2 (1:Int)),x1))) (
    ah (cm.call (a_2,a_2)) fun x3=>
    kn (aN.L0.st (x3,(bC .u64 n_2 (1:Int)),outv)))) (
   kx (aN.L0.bK outv).1 (aN.L0.bK outv).2):=by kernel_rfl
theorem aN.eq{R:Type}(a:Int)(n:Int)(k:aW→Option R):aN.A (a,n) k=
 ah (aN.L0.call (a,n,(1:Int))) fun x4=>
 k (aN.out x4):=by kernel_rfl
theorem FW{n:Int}(h:gX n):bC .u64 n 1=n / 2:=jS 1 (by rfl) (by omega)
theorem aN.L0.ok:aN.L0.Ok:=by
 refine aN.L0.aL (fun(a,n,o)=>n.toNat) ?_
 rintro⟨a,n,o⟩ ⟨ha,hn,ho⟩
 have ha:gX a:=ha
 have hn:gX n:=hn
 have ho:Pn o:=ho
 have n0:=hn.1
 have n1:=hn.2
 by_cases h:0 < n
 ·left
  have e:aN.L0.F (a,n,o)=aN.L0.F (iN a a,n / 2,if n%2=1 then iN o a else o):=by
   show yO 64 a n.toNat o=yO 64 (iN a a) (n / 2).toNat _
   rw[wF 64 65 a n.toNat o (by omega) (by omega)]
   have t1:(n / 2).toNat=n.toNat / 2:=by omega
   have t2:(n%2=1)=(n.toNat%2=1):=by apply propext;omega
   rw[t1]
   simp only[t2]
   show(if n.toNat=0 then o else _)=_
   rw[if_neg (by omega)]
  refine⟨(iN a a,n / 2,if n%2=1 then iN o a else o),⟨(kz a a).u,⟨by omega,by omega⟩,?_⟩,by show(n / 2).toNat < n.toNat;omega,?_,fun kn kx=> ?_⟩
  ·show Pn (if n%2=1 then iN o a else o)
   split
   ·exact kz _ _
   ·exact ho
  ·exact congrArg _ e.symm
  ·rw[aN.L0.step,dT h,FW hn,Fx n0 n1,cm.run (d:=(o,a)) ⟨ho.u,ha⟩,cm.run (d:=(a,a)) ⟨ha,ha⟩]
   by_cases h1:n%2=1
   ·rw[iw h1,if_pos h1];rfl
   ·rw[jV h1,if_neg h1];rfl
 ·right
  intro R kn kx
  obtain rfl:n=0:=by omega
  rw[aN.L0.step,dF (by omega)]
  simp only[aw,aN.L0.add,aN.L0.F]
  rw[show yO 64 a (Int.toNat 0) o=o from lh _ _ _]
theorem aN.ok:aN.Ok:=by
 rintro⟨a,n⟩ ⟨ha,hn⟩
 rw[aN.eq,aN.L0.run (d:=(a,n,1)) ⟨ha,hn,by omega,by omega⟩]
 rfl
noncomputable def aN.E:=Entry.cP [some tu,some tu] aN.st aN.aC aN.add aN.F aN.out
noncomputable def aN.call:aN.D→Option aN.X:=bS aN.E aN.st
theorem aN.run:bP aN.call aN.aC aN.add aN.F:=de (cZ [.d tu,.d tu] fun _=>by kernel_rfl)
noncomputable def aN.sg:SG Tryz.prog:=⟨130,aV,aN.E,.fn 1 (by kernel_rfl) aN.ok (And.intro (.cP aN.L0.ok (by kernel_rfl)) trivial)⟩
set_option synthInstance.maxSize 5000
def kL(p:Int):Bool:=decide (0 < p∧p < 4611686018427377339) && decide (pw p 2305843009213688669=1)
def tk(p:Int):Int:=if kL p then p else 1
theorem BW(p:Int):Pn (tk p):=by
 unfold tk
 split
 ·rename_i h
  simp only[kL,Bool.and_eq_true,decide_eq_true_eq]at h
  exact⟨by omega,by omega⟩
 ·exact⟨by omega,by omega⟩
def lN(p k:Int):Int:=pw (tk p) (k%2305843009213688669).toNat
def dP(k:Int):Int:=lN 4 k
def wm(p:Int):Int:=pw (tk p) 2305843009213688668
def qj(l:List Int):Int:=l.foldl (fun o p=>iN o (tk p)) 1
theorem CX(l:List Int)(o:Int)(h:Pn o):Pn (l.foldl (fun o p=>iN o (tk p)) o):=by
 induction l generalizing o with
 |nil=>exact h
 |cons p l ih=>exact ih _ (kz _ _)
theorem CY(l:List Int):Pn (qj l):=CX l 1 ⟨by omega,by omega⟩
abbrev bG.D:=Int
def bG.st:bG.D→SA:=fun p=>([.d tu p],[])
abbrev bG.Y:=Bool
abbrev bG.X:=Bool
def bG.out:bG.X→aW:=fun x=>⟨.d .bool x,[],[]⟩
def bG.add:bG.D→bG.Y→bG.X:=fun p y=>y
def bG.aC:bG.D→Prop:=fun p=>gX p
def bG.F:bG.D→bG.Y:=fun p=>kL p
noncomputable def bG.G:dH:=eT (P:=Tryz.prog) [aN.sg]
noncomputable def bG.an:ee:= {}
noncomputable def bG.A:= @cT Tryz.prog bG.G bG.an 0 Tryz.f151 _ bG.st
abbrev bG.Ok:=cU @bG.A bG.aC bG.add bG.F bG.out
theorem bG.eq{R:Type}(p:Int)(k:aW→Option R):bG.A p k=
  aF ((po p (0:Int))) (
   aF ((gQ p (4611686018427377339:Int))) (
    ah (aN.call (p,(2305843009213688669:Int))) fun x1=>
    k (bG.out (dN x1 (1:Int)))) (
    k (bG.out false))) (
   k (bG.out false)):=by kernel_rfl
theorem bG.ok:bG.Ok:=by
 intro p hp
 have hp:gX p:=hp
 rw[bG.eq,aN.run (d:=(p,2305843009213688669)) ⟨hp,by constructor <;> decide⟩]
 simp only[aa,aN.add,aN.F,bG.add,bG.F,kL]
 by_cases h:0 < p
 ·rw[dT h,ao]
  by_cases h2:p < 4611686018427377339
  ·rw[bq h2,ao,bf ⟨h,h2⟩,Bool.true_and]
   rfl
  ·rw[bl h2,aw,bI (fun x=>h2 x.2),Bool.false_and]
 ·rw[dF h,aw,bI (fun x=>h x.1),Bool.false_and]
noncomputable def bG.E:=Entry.cP [some tu] bG.st bG.aC bG.add bG.F bG.out
noncomputable def bG.call:bG.D→Option bG.X:=bS bG.E bG.st
theorem bG.run:bP bG.call bG.aC bG.add bG.F:=de (cZ [.d tu] fun _=>by kernel_rfl)
noncomputable def bG.sg:SG Tryz.prog:=⟨151,aV,bG.E,.fn 0 (by kernel_rfl) bG.ok trivial⟩
abbrev bQ.D:=Int
def bQ.st:bQ.D→SA:=fun p=>([.d tu p],[])
abbrev bQ.Y:=Int
abbrev bQ.X:=Int
def bQ.out:bQ.X→aW:=fun x=>⟨.d tu x,[],[]⟩
def bQ.add:bQ.D→bQ.Y→bQ.X:=fun p y=>y
def bQ.aC:bQ.D→Prop:=fun p=>gX p
def bQ.F:bQ.D→bQ.Y:=fun p=>tk p
noncomputable def bQ.G:dH:=eT (P:=Tryz.prog) [bG.sg]
noncomputable def bQ.an:ee:= {}
noncomputable def bQ.A:= @cT Tryz.prog bQ.G bQ.an 0 Tryz.f131 _ bQ.st
abbrev bQ.Ok:=cU @bQ.A bQ.aC bQ.add bQ.F bQ.out
theorem bQ.eq{R:Type}(p:Int)(k:aW→Option R):bQ.A p k=
  ah (bG.call p) fun x1=>
  aF (x1) (
   k (bQ.out p)) (
   k (bQ.out (1:Int))):=by kernel_rfl
theorem bQ.ok:bQ.Ok:=by
 intro p hp
 rw[bQ.eq,bG.run (d:=p) hp]
 simp only[aa,bG.add,bG.F,bQ.add,bQ.F,tk]
 cases kL p <;> rfl
noncomputable def bQ.E:=Entry.cP [some tu] bQ.st bQ.aC bQ.add bQ.F bQ.out
noncomputable def bQ.call:bQ.D→Option bQ.X:=bS bQ.E bQ.st
theorem bQ.run:bP bQ.call bQ.aC bQ.add bQ.F:=de (cZ [.d tu] fun _=>by kernel_rfl)
noncomputable def bQ.sg:SG Tryz.prog:=⟨131,aV,bQ.E,.fn 0 (by kernel_rfl) bQ.ok trivial⟩
abbrev cq.D:=Int×Int
def cq.st:cq.D→SA:=fun(p,kv)=>([.d tu p,.d tu kv],[])
abbrev cq.Y:=Int
abbrev cq.X:=Int
def cq.out:cq.X→aW:=fun x=>⟨.d tu x,[],[]⟩
def cq.add:cq.D→cq.Y→cq.X:=fun(p,kv) y=>y
def cq.aC:cq.D→Prop:=fun(p,k)=>gX p∧gX k
def cq.F:cq.D→cq.Y:=fun(p,k)=>lN p k
noncomputable def cq.G:dH:=eT (P:=Tryz.prog) [bQ.sg,aN.sg]
noncomputable def cq.an:ee:= {}
noncomputable def cq.A:= @cT Tryz.prog cq.G cq.an 0 Tryz.f63 _ cq.st
abbrev cq.Ok:=cU @cq.A cq.aC cq.add cq.F cq.out
theorem cq.eq{R:Type}(p:Int)(kv:Int)(k:aW→Option R):cq.A (p,kv) k=
 ah (bQ.call p) fun x1=>
 ah (aN.call (x1,(jP kv (2305843009213688669:Int)))) fun x2=>
 k (cq.out x2):=by kernel_rfl
theorem cq.ok:cq.Ok:=by
 rintro⟨p,k⟩ ⟨hp,hk⟩
 have hk:gX k:=hk
 have e:=mJ (y:=2305843009213688669) hk.1
 have b:gX (k%2305843009213688669):=⟨by omega,by omega⟩
 rw[cq.eq,bQ.run (d:=p) hp,e]
 simp only[aa,bQ.add,bQ.F]
 rw[aN.run (d:=(tk p,k%2305843009213688669)) ⟨(BW p).u,b⟩]
 rfl
noncomputable def cq.E:=Entry.cP [some tu,some tu] cq.st cq.aC cq.add cq.F cq.out
noncomputable def cq.call:cq.D→Option cq.X:=bS cq.E cq.st
theorem cq.run:bP cq.call cq.aC cq.add cq.F:=de (cZ [.d tu,.d tu] fun _=>by kernel_rfl)
noncomputable def cq.sg:SG Tryz.prog:=⟨63,aV,cq.E,.fn 0 (by kernel_rfl) cq.ok trivial⟩
abbrev cv.D:=Int
def cv.st:cv.D→SA:=fun kv=>([.d tu kv],[])
abbrev cv.Y:=Int
abbrev cv.X:=Int
def cv.out:cv.X→aW:=fun x=>⟨.d tu x,[],[]⟩
def cv.add:cv.D→cv.Y→cv.X:=fun kv y=>y
def cv.aC:cv.D→Prop:=fun k=>gX k
def cv.F:cv.D→cv.Y:=fun k=>dP k
noncomputable def cv.G:dH:=eT (P:=Tryz.prog) [cq.sg]
noncomputable def cv.an:ee:= {}
noncomputable def cv.A:= @cT Tryz.prog cv.G cv.an 0 Tryz.f14 _ cv.st
abbrev cv.Ok:=cU @cv.A cv.aC cv.add cv.F cv.out
theorem cv.eq{R:Type}(kv:Int)(k:aW→Option R):cv.A kv k=
 ah (cq.call ((4:Int),kv)) fun x1=>
 k (cv.out x1):=by kernel_rfl
theorem cv.ok:cv.Ok:=by
 intro k hk
 rw[cv.eq,cq.run (d:=(4,k)) ⟨⟨by omega,by omega⟩,hk⟩]
 rfl
noncomputable def cv.E:=Entry.cP [some tu] cv.st cv.aC cv.add cv.F cv.out
noncomputable def cv.call:cv.D→Option cv.X:=bS cv.E cv.st
theorem cv.run:bP cv.call cv.aC cv.add cv.F:=de (cZ [.d tu] fun _=>by kernel_rfl)
noncomputable def cv.sg:SG Tryz.prog:=⟨14,aV,cv.E,.fn 0 (by kernel_rfl) cv.ok trivial⟩
abbrev eA.D:=Int
def eA.st:eA.D→SA:=fun p=>([.d tu p],[])
abbrev eA.Y:=Int
abbrev eA.X:=Int
def eA.out:eA.X→aW:=fun x=>⟨.d tu x,[],[]⟩
def eA.add:eA.D→eA.Y→eA.X:=fun p y=>y
def eA.aC:eA.D→Prop:=fun p=>gX p
def eA.F:eA.D→eA.Y:=fun p=>wm p
noncomputable def eA.G:dH:=eT (P:=Tryz.prog) [bQ.sg,aN.sg]
noncomputable def eA.an:ee:= {}
noncomputable def eA.A:= @cT Tryz.prog eA.G eA.an 0 Tryz.f260 _ eA.st
abbrev eA.Ok:=cU @eA.A eA.aC eA.add eA.F eA.out
theorem eA.eq{R:Type}(p:Int)(k:aW→Option R):eA.A p k=
 ah (bQ.call p) fun x1=>
 ah (aN.call (x1,(2305843009213688668:Int))) fun x2=>
 k (eA.out x2):=by kernel_rfl
theorem eA.ok:eA.Ok:=by
 intro p hp
 rw[eA.eq,bQ.run (d:=p) hp]
 simp only[aa,bQ.add,bQ.F]
 rw[aN.run (d:=(tk p,2305843009213688668)) ⟨(BW p).u,by constructor <;> decide⟩]
 rfl
noncomputable def eA.E:=Entry.cP [some tu] eA.st eA.aC eA.add eA.F eA.out
noncomputable def eA.call:eA.D→Option eA.X:=bS eA.E eA.st
theorem eA.run:bP eA.call eA.aC eA.add eA.F:=de (cZ [.d tu] fun _=>by kernel_rfl)
noncomputable def eA.sg:SG Tryz.prog:=⟨260,aV,eA.E,.fn 0 (by kernel_rfl) eA.ok trivial⟩
abbrev bV.L0.D:=Int×Bs×Int×Int
def bV.L0.st:bV.L0.D→AS:=fun(outv,t6,t7,t8)=>⟨([.undef,.undef,.undef,.d tu outv,.undef,.undef,.d tU t6,.d ti t7,.d ti t8]++bm 9 []),[],(List.replicate 18 [])⟩
abbrev bV.L0.Y0:=Int
abbrev bV.L0.X0:=Int
def bV.L0.bK:bV.L0.X0→Exit×AS:=fun x=>(.exit 0,⟨([.undef,.undef,.undef,.d tu x]++bm 14 []),[],(List.replicate 18 [])⟩)
abbrev bV.L0.X:=bV.L0.X0
abbrev bV.L0.Y:=bV.L0.Y0
def bV.L0.out:bV.L0.X→Out (Exit×AS):=fun x=> .ok (bV.L0.bK x)
def bV.L0.add:bV.L0.D→bV.L0.Y→bV.L0.X:=fun(outv,t6,t7,t8) y=>y
abbrev bV.D:=Bs
def bV.st:bV.D→SA:=fun l=>([.d tU l],[])
abbrev bV.Y:=Int
abbrev bV.X:=Int
def bV.out:bV.X→aW:=fun x=>⟨.d tu x,[],[]⟩
def bV.add:bV.D→bV.Y→bV.X:=fun l y=>y
def bV.L0.aC:bV.L0.D→Prop:=fun(o,l,n,i)=>Pn o∧(∀x∈l,gX x)∧l.length≤1000000000∧n=l.length∧∃k:Nat,k≤l.length∧i=k
def bV.L0.F:bV.L0.D→bV.L0.Y:=fun(o,l,n,i)=>(l.drop i.toNat).foldl (fun o p=>iN o (tk p)) o
def bV.aC:bV.D→Prop:=fun l=>(∀x∈l,gX x)∧l.length≤1000000000
def bV.F:bV.D→bV.Y:=fun l=>qj l
noncomputable def bV.G:dH:=eT (P:=Tryz.prog) [bQ.sg,cm.sg]
noncomputable def bV.L0.E:=bZ.cP bV.L0.st bV.L0.aC bV.L0.add bV.L0.F bV.L0.out
noncomputable def bV.L0.call:bV.L0.D→Option bV.L0.X:=dI bV.L0.E bV.L0.st
noncomputable def bV.an:ee:= {loops:=lZ [(3,{bn:=[3,6,7,8]})],outs:=lY [(3,{bn:=[3]},{bn:=[2]})],fO:=mW [(3,bV.L0.E)]}
noncomputable def bV.A:= @cT Tryz.prog bV.G bV.an 0 Tryz.f242 _ bV.st
abbrev bV.Ok:=cU @bV.A bV.aC bV.add bV.F bV.out
noncomputable def bV.L0.R:= @cC Tryz.prog bV.G bV.an 0 Tryz.f242 0 _ bV.L0.st
abbrev bV.L0.Ok:=eO Tryz.prog bV.G bV.an 0 Tryz.f242 0 bV.L0.st bV.L0.aC bV.L0.add bV.L0.F bV.L0.out
theorem bV.L0.run:bP bV.L0.call bV.L0.aC bV.L0.add bV.L0.F:=fe (eY [.d tu,.d tU,.d ti,.d ti] fun _=>by kernel_rfl)
theorem bV.L0.aL:ga @bV.L0.R bV.L0.st bV.L0.aC bV.L0.add bV.L0.F bV.L0.bK bV.L0.Ok:=gw
theorem bV.L0.step{R:Type}(outv:Int)(t6:Bs)(t7:Int)(t8:Int)(kn:AS→Option R)(kx:Exit→AS→Option R):bV.L0.R (outv,t6,t7,t8) kn kx=
  aF ((gQ t8 t7)) (
   aF (fE t8 (((List.length t6):Nat):Int)) (
   ah (bQ.call (nth tu t6 (Int.toNat t8))) fun x1=>
   ah (cm.call (outv,x1)) fun x2=>
   kn (bV.L0.st (x2,t6,t7,(ck .i64 t8 (1:Int))))) none) (
   kx (bV.L0.bK outv).1 (bV.L0.bK outv).2):=by kernel_rfl
theorem bV.eq{R:Type}(l:Bs)(k:aW→Option R):bV.A l k=
 ah (bV.L0.call ((1:Int),l,(((List.length l):Nat):Int),(0:Int))) fun x3=>
 k (bV.out x3):=by kernel_rfl
theorem bV.L0.ok:bV.L0.Ok:=by
 refine bV.L0.aL (fun(o,l,n,i)=>l.length - i.toNat) ?_
 rintro⟨o,l,n,i⟩ ⟨ho,hl,hb,rfl,k,hk,rfl⟩
 have ho:Pn o:=ho
 have hb:l.length≤1000000000:=hb
 have hk:k≤l.length:=hk
 by_cases h:k < l.length
 ·left
  have hx:=hl _ (List.getElem_mem h)
  have n1:nth (.int .u64) l k=l[k]:=du (t:= .int .u64) h
  refine⟨(iN o (tk l[k]),l,l.length,((k+1:Nat):Int)),⟨kz _ _,hl,hb,rfl,k+1,by omega,rfl⟩,by simp only[Int.toNat_natCast];omega,?_,fun kn kx=> ?_⟩
  ·simp only[bV.L0.add,bV.L0.F,Int.toNat_natCast]
   rw[List.drop_eq_getElem_cons h]
   rfl
  ·rw[bV.L0.step]
   simp(disch:=omega) only[↓S1,↓if_pos,↓if_neg,if_pos,if_neg,if_true,if_false,S2,n1]
   rw[bQ.run (d:=l[k]) hx]
   simp only[aa,bQ.add,bQ.F]
   rw[cm.run (d:=(o,tk l[k])) ⟨ho.u,(BW _).u⟩]
   rfl
 ·right
  obtain rfl:k=l.length:=by omega
  intro R kn kx
  rw[bV.L0.step]
  simp(disch:=omega) only[↓S1,↓if_pos,↓if_neg,if_pos,if_neg,if_true,if_false,S2,bV.L0.add,bV.L0.F,List.drop_length]
  rfl
theorem bV.ok:bV.Ok:=by
 rintro l ⟨hl,hb⟩
 rw[bV.eq,bV.L0.run (d:=(1,l,l.length,0)) ⟨⟨by omega,by omega⟩,hl,hb,rfl,0,by omega,rfl⟩]
 rfl
noncomputable def bV.E:=Entry.cP [some tU] bV.st bV.aC bV.add bV.F bV.out
noncomputable def bV.call:bV.D→Option bV.X:=bS bV.E bV.st
theorem bV.run:bP bV.call bV.aC bV.add bV.F:=de (cZ [.d tU] fun _=>by kernel_rfl)
noncomputable def bV.sg:SG Tryz.prog:=⟨242,aV,bV.E,.fn 1 (by kernel_rfl) bV.ok (And.intro (.cP bV.L0.ok (by kernel_rfl)) trivial)⟩
abbrev ez.D:=Int×Int
def ez.st:ez.D→SA:=fun(p,q)=>([.d tu p,.d tu q],[])
abbrev ez.Y:=Int
abbrev ez.X:=Int
def ez.out:ez.X→aW:=fun x=>⟨.d tu x,[],[]⟩
def ez.add:ez.D→ez.Y→ez.X:=fun(p,q) y=>y
def ez.aC:ez.D→Prop:=fun(p,q)=>gX p∧gX q
def ez.F:ez.D→ez.Y:=fun(p,q)=>qj [p,q]
noncomputable def ez.G:dH:=eT (P:=Tryz.prog) [bV.sg]
noncomputable def ez.an:ee:= {}
noncomputable def ez.A:= @cT Tryz.prog ez.G ez.an 0 Tryz.f195 _ ez.st
abbrev ez.Ok:=cU @ez.A ez.aC ez.add ez.F ez.out
theorem ez.eq{R:Type}(p:Int)(q:Int)(k:aW→Option R):ez.A (p,q) k=
 ah (bV.call [p,q]) fun x1=>
 k (ez.out x1):=by kernel_rfl
theorem ez.ok:ez.Ok:=by
 rintro⟨p,q⟩ ⟨hp,hq⟩
 have h:bV.aC [p,q]:=⟨by intro x hx;simp only[List.mem_cons,List.not_mem_nil,or_false]at hx;rcases hx with rfl | rfl <;> assumption,by simp only[List.length_cons,List.length_nil];omega⟩
 rw[ez.eq,bV.run h]
 rfl
noncomputable def ez.E:=Entry.cP [some tu,some tu] ez.st ez.aC ez.add ez.F ez.out
noncomputable def ez.call:ez.D→Option ez.X:=bS ez.E ez.st
theorem ez.run:bP ez.call ez.aC ez.add ez.F:=de (cZ [.d tu,.d tu] fun _=>by kernel_rfl)
noncomputable def ez.sg:SG Tryz.prog:=⟨195,aV,ez.E,.fn 0 (by kernel_rfl) ez.ok trivial⟩
set_option synthInstance.maxSize 5000
def Qn(x:Int):Prop:=0≤x∧x < 2305843009213688669
theorem Qn.u{x:Int}(h:Qn x):gX x:=⟨h.1,by have:=h.2;omega⟩
def Bp(a:Int):Int:=a%2305843009213688669
theorem uI(a:Int):Qn (Bp a):=⟨Int.emod_nonneg _ (by omega),Int.emod_lt_of_pos _ (by omega)⟩
def w8(a b:Int):Int:=(Bp a+Bp b)%2305843009213688669
def uF(a b:Int):Int:=Bp a*Bp b%2305843009213688669
def om(h:List Int):Int:=h.foldl (fun n b=>(n*256+b)%2305843009213688668) 0+1
def Ae.b(n:Int):Prop:=0≤n∧n < 2305843009213688668
theorem vN(h:List Int)(n:Int)(hn:Ae.b n):Ae.b (h.foldl (fun n b=>(n*256+b)%2305843009213688668) n):=by
 induction h generalizing n with
 |nil=>exact hn
 |cons p l ih=>exact ih _ ⟨Int.emod_nonneg _ (by omega),Int.emod_lt_of_pos _ (by omega)⟩
theorem qY(h:List Int):0 < om h∧om h < 2305843009213688669:=by
 have:=vN h 0 ⟨by omega,by omega⟩
 have h1:=this.1
 have h2:=this.2
 unfold om
 omega
theorem ym(a b:Int):Qn (w8 a b):=⟨Int.emod_nonneg _ (by omega),Int.emod_lt_of_pos _ (by omega)⟩
theorem CF(a b:Int):Qn (uF a b):=⟨Int.emod_nonneg _ (by omega),Int.emod_lt_of_pos _ (by omega)⟩
abbrev bW.D:=Int
def bW.st:bW.D→SA:=fun a=>([.d tu a],[])
abbrev bW.Y:=Bool
abbrev bW.X:=Bool
def bW.out:bW.X→aW:=fun x=>⟨.d .bool x,[],[]⟩
def bW.add:bW.D→bW.Y→bW.X:=fun a y=>y
def bW.aC:bW.D→Prop:=fun _=>True
def bW.F:bW.D→bW.Y:=fun a=>gQ a 2305843009213688669
noncomputable def bW.G:dH:=eT (P:=Tryz.prog) []
noncomputable def bW.an:ee:= {}
noncomputable def bW.A:= @cT Tryz.prog bW.G bW.an 0 Tryz.f65 _ bW.st
abbrev bW.Ok:=cU @bW.A bW.aC bW.add bW.F bW.out
theorem bW.eq{R:Type}(a:Int)(k:aW→Option R):bW.A a k=
 k (bW.out (gQ a (2305843009213688669:Int))):=by kernel_rfl
theorem bW.ok:bW.Ok:=by
 intro a _
 rw[bW.eq]
 rfl
noncomputable def bW.E:=Entry.cP [some tu] bW.st bW.aC bW.add bW.F bW.out
noncomputable def bW.call:bW.D→Option bW.X:=bS bW.E bW.st
theorem bW.run:bP bW.call bW.aC bW.add bW.F:=de (cZ [.d tu] fun _=>by kernel_rfl)
noncomputable def bW.sg:SG Tryz.prog:=⟨65,aV,bW.E,.fn 0 (by kernel_rfl) bW.ok trivial⟩
abbrev gI.D:=Int
def gI.st:gI.D→SA:=fun a=>([.d tu a],[])
abbrev gI.Y:=Int
abbrev gI.X:=Int
def gI.out:gI.X→aW:=fun x=>⟨.d tu x,[],[]⟩
def gI.add:gI.D→gI.Y→gI.X:=fun a y=>y
def gI.aC:gI.D→Prop:=fun a=>gX a
def gI.F:gI.D→gI.Y:=fun a=>Bp a
noncomputable def gI.G:dH:=eT (P:=Tryz.prog) []
noncomputable def gI.an:ee:= {}
noncomputable def gI.A:= @cT Tryz.prog gI.G gI.an 0 Tryz.f243 _ gI.st
abbrev gI.Ok:=cU @gI.A gI.aC gI.add gI.F gI.out
theorem gI.eq{R:Type}(a:Int)(k:aW→Option R):gI.A a k=
 k (gI.out (jP a (2305843009213688669:Int))):=by kernel_rfl
theorem gI.ok:gI.Ok:=by
 intro a ha
 rw[gI.eq,mJ ha.1]
 rfl
noncomputable def gI.E:=Entry.cP [some tu] gI.st gI.aC gI.add gI.F gI.out
noncomputable def gI.call:gI.D→Option gI.X:=bS gI.E gI.st
theorem gI.run:bP gI.call gI.aC gI.add gI.F:=de (cZ [.d tu] fun _=>by kernel_rfl)
noncomputable def gI.sg:SG Tryz.prog:=⟨243,aV,gI.E,.fn 0 (by kernel_rfl) gI.ok trivial⟩
abbrev dw.D:=Int×Int
def dw.st:dw.D→SA:=fun(a,b)=>([.d tu a,.d tu b],[])
abbrev dw.Y:=Int
abbrev dw.X:=Int
def dw.out:dw.X→aW:=fun x=>⟨.d tu x,[],[]⟩
def dw.add:dw.D→dw.Y→dw.X:=fun(a,b) y=>y
def dw.aC:dw.D→Prop:=fun(a,b)=>Qn a∧Qn b
def dw.F:dw.D→dw.Y:=fun(a,b)=>(a+b)%2305843009213688669
noncomputable def dw.G:dH:=eT (P:=Tryz.prog) []
noncomputable def dw.an:ee:= {}
noncomputable def dw.A:= @cT Tryz.prog dw.G dw.an 0 Tryz.f244 _ dw.st
abbrev dw.Ok:=cU @dw.A dw.aC dw.add dw.F dw.out
theorem dw.eq{R:Type}(a:Int)(b:Int)(k:aW→Option R):dw.A (a,b) k=
 k (dw.out (jP (ck .u64 a b) (2305843009213688669:Int))):=by kernel_rfl
theorem dw.ok:dw.Ok:=by
 rintro⟨a,b⟩ ⟨ha,hb⟩
 have ha:Qn a:=ha
 have hb:Qn b:=hb
 obtain⟨h1,h2⟩:=ha
 obtain⟨h3,h4⟩:=hb
 have e:ck .u64 a b=a+b:=by rw[jN];omega
 rw[dw.eq,e,mJ (by omega)]
 rfl
noncomputable def dw.E:=Entry.cP [some tu,some tu] dw.st dw.aC dw.add dw.F dw.out
noncomputable def dw.call:dw.D→Option dw.X:=bS dw.E dw.st
theorem dw.run:bP dw.call dw.aC dw.add dw.F:=de (cZ [.d tu,.d tu] fun _=>by kernel_rfl)
noncomputable def dw.sg:SG Tryz.prog:=⟨244,aV,dw.E,.fn 0 (by kernel_rfl) dw.ok trivial⟩
abbrev ct.D:=Int×Int
def ct.st:ct.D→SA:=fun(a,b)=>([.d tu a,.d tu b],[])
abbrev ct.Y:=Int
abbrev ct.X:=Int
def ct.out:ct.X→aW:=fun x=>⟨.d tu x,[],[]⟩
def ct.add:ct.D→ct.Y→ct.X:=fun(a,b) y=>y
def ct.aC:ct.D→Prop:=fun(a,b)=>Qn a∧Qn b
def ct.F:ct.D→ct.Y:=fun(a,b)=>a*b%2305843009213688669
noncomputable def ct.G:dH:=eT (P:=Tryz.prog) [cM.sg,cw.sg]
noncomputable def ct.an:ee:= {}
noncomputable def ct.A:= @cT Tryz.prog ct.G ct.an 0 Tryz.f245 _ ct.st
abbrev ct.Ok:=cU @ct.A ct.aC ct.add ct.F ct.out
theorem ct.eq{R:Type}(a:Int)(b:Int)(k:aW→Option R):ct.A (a,b) k=
 ah (cM.call (a,b)) fun x1=>
 ah (cw.call (x1.1,x1.2,(2305843009213688669:Int))) fun x2=>
 k (ct.out x2):=by kernel_rfl
theorem ct.ok:ct.Ok:=by
 rintro⟨a,b⟩ ⟨ha,hb⟩
 have ha:Qn a:=ha
 have hb:Qn b:=hb
 obtain⟨m1,m2⟩:=pA ha.1 (show a≤18446744073709551615 by have:=ha.2;omega) hb.1 (show b≤18446744073709551615 by have:=hb.2;omega)
 have n:(18446744073709551615:Int)*18446744073709551615=340282366920938463426481119284349108225:=rfl
 rw[n]at m2
 have p:cw.aC (a*b / 18446744073709551616,a*b%18446744073709551616,2305843009213688669):=⟨Or.inr (Or.inl rfl),by omega,by omega,by omega,by omega⟩
 rw[ct.eq,cM.run (d:=(a,b)) ⟨ha.u,hb.u⟩]
 simp only[aa,cM.add,cM.F]
 rw[cw.run p]
 simp only[aa,cw.add,cw.F,so]
 rfl
noncomputable def ct.E:=Entry.cP [some tu,some tu] ct.st ct.aC ct.add ct.F ct.out
noncomputable def ct.call:ct.D→Option ct.X:=bS ct.E ct.st
theorem ct.run:bP ct.call ct.aC ct.add ct.F:=de (cZ [.d tu,.d tu] fun _=>by kernel_rfl)
noncomputable def ct.sg:SG Tryz.prog:=⟨245,aV,ct.E,.fn 0 (by kernel_rfl) ct.ok trivial⟩
abbrev eD.D:=Int×Int
def eD.st:eD.D→SA:=fun(a,b)=>([.d tu a,.d tu b],[])
abbrev eD.Y:=Int
abbrev eD.X:=Int
def eD.out:eD.X→aW:=fun x=>⟨.d tu x,[],[]⟩
def eD.add:eD.D→eD.Y→eD.X:=fun(a,b) y=>y
def eD.aC:eD.D→Prop:=fun(a,b)=>gX a∧gX b
def eD.F:eD.D→eD.Y:=fun(a,b)=>w8 a b
noncomputable def eD.G:dH:=eT (P:=Tryz.prog) [gI.sg,dw.sg]
noncomputable def eD.an:ee:= {}
noncomputable def eD.A:= @cT Tryz.prog eD.G eD.an 0 Tryz.f196 _ eD.st
abbrev eD.Ok:=cU @eD.A eD.aC eD.add eD.F eD.out
theorem eD.eq{R:Type}(a:Int)(b:Int)(k:aW→Option R):eD.A (a,b) k=
 ah (gI.call a) fun x1=>
 ah (gI.call b) fun x2=>
 ah (dw.call (x1,x2)) fun x3=>
 k (eD.out x3):=by kernel_rfl
theorem eD.ok:eD.Ok:=by
 rintro⟨a,b⟩ ⟨ha,hb⟩
 rw[eD.eq,gI.run (d:=a) ha,gI.run (d:=b) hb]
 simp only[aa,gI.add,gI.F]
 rw[dw.run (d:=(Bp a,Bp b)) ⟨uI a,uI b⟩]
 rfl
noncomputable def eD.E:=Entry.cP [some tu,some tu] eD.st eD.aC eD.add eD.F eD.out
noncomputable def eD.call:eD.D→Option eD.X:=bS eD.E eD.st
theorem eD.run:bP eD.call eD.aC eD.add eD.F:=de (cZ [.d tu,.d tu] fun _=>by kernel_rfl)
noncomputable def eD.sg:SG Tryz.prog:=⟨196,aV,eD.E,.fn 0 (by kernel_rfl) eD.ok trivial⟩
abbrev er.D:=Int×Int
def er.st:er.D→SA:=fun(a,b)=>([.d tu a,.d tu b],[])
abbrev er.Y:=Int
abbrev er.X:=Int
def er.out:er.X→aW:=fun x=>⟨.d tu x,[],[]⟩
def er.add:er.D→er.Y→er.X:=fun(a,b) y=>y
def er.aC:er.D→Prop:=fun(a,b)=>gX a∧gX b
def er.F:er.D→er.Y:=fun(a,b)=>uF a b
noncomputable def er.G:dH:=eT (P:=Tryz.prog) [gI.sg,ct.sg]
noncomputable def er.an:ee:= {}
noncomputable def er.A:= @cT Tryz.prog er.G er.an 0 Tryz.f197 _ er.st
abbrev er.Ok:=cU @er.A er.aC er.add er.F er.out
theorem er.eq{R:Type}(a:Int)(b:Int)(k:aW→Option R):er.A (a,b) k=
 ah (gI.call a) fun x1=>
 ah (gI.call b) fun x2=>
 ah (ct.call (x1,x2)) fun x3=>
 k (er.out x3):=by kernel_rfl
theorem er.ok:er.Ok:=by
 rintro⟨a,b⟩ ⟨ha,hb⟩
 rw[er.eq,gI.run (d:=a) ha,gI.run (d:=b) hb]
 simp only[aa,gI.add,gI.F]
 rw[ct.run (d:=(Bp a,Bp b)) ⟨uI a,uI b⟩]
 rfl
noncomputable def er.E:=Entry.cP [some tu,some tu] er.st er.aC er.add er.F er.out
noncomputable def er.call:er.D→Option er.X:=bS er.E er.st
theorem er.run:bP er.call er.aC er.add er.F:=de (cZ [.d tu,.d tu] fun _=>by kernel_rfl)
noncomputable def er.sg:SG Tryz.prog:=⟨197,aV,er.E,.fn 0 (by kernel_rfl) er.ok trivial⟩
abbrev aZ.L0.D:=Int×Bs×Int
def aZ.L0.st:aZ.L0.D→AS:=fun(n,t6,t7)=>⟨([.undef,.undef,.undef,.d tu n,.undef,.undef,.d tH t6,.d ti t7]++bm 13 []),[],(List.replicate 21 [])⟩
abbrev aZ.L0.Y0:=Int
abbrev aZ.L0.X0:=Int
def aZ.L0.bK:aZ.L0.X0→Exit×AS:=fun x=>(.exit 0,⟨([.undef,.undef,.undef,.d tu x]++bm 17 []),[],(List.replicate 21 [])⟩)
abbrev aZ.L0.X:=aZ.L0.X0
abbrev aZ.L0.Y:=aZ.L0.Y0
def aZ.L0.out:aZ.L0.X→Out (Exit×AS):=fun x=> .ok (aZ.L0.bK x)
def aZ.L0.add:aZ.L0.D→aZ.L0.Y→aZ.L0.X:=fun(n,t6,t7) y=>y
abbrev aZ.D:=Bs
def aZ.st:aZ.D→SA:=fun h=>([.d tH h],[])
abbrev aZ.Y:=Int
abbrev aZ.X:=Int
def aZ.out:aZ.X→aW:=fun x=>⟨.d tu x,[],[]⟩
def aZ.add:aZ.D→aZ.Y→aZ.X:=fun h y=>y
def aZ.L0.aC:aZ.L0.D→Prop:=fun(n,h,i)=>Ae.b n∧h.length=32∧Bytes h∧∃k:Nat,k≤32∧i=k
def aZ.L0.F:aZ.L0.D→aZ.L0.Y:=fun(n,h,i)=>(h.drop i.toNat).foldl (fun n b=>(n*256+b)%2305843009213688668) n
def aZ.aC:aZ.D→Prop:=fun h=>h.length=32∧Bytes h
def aZ.F:aZ.D→aZ.Y:=fun h=>om h
noncomputable def aZ.G:dH:=eT (P:=Tryz.prog) [cw.sg]
noncomputable def aZ.L0.E:=bZ.cP aZ.L0.st aZ.L0.aC aZ.L0.add aZ.L0.F aZ.L0.out
noncomputable def aZ.L0.call:aZ.L0.D→Option aZ.L0.X:=dI aZ.L0.E aZ.L0.st
noncomputable def aZ.an:ee:= {loops:=lZ [(3,{bn:=[3,6,7]})],outs:=lY [(3,{bn:=[3]},{bn:=[2]})],fO:=mW [(3,aZ.L0.E)]}
noncomputable def aZ.A:= @cT Tryz.prog aZ.G aZ.an 0 Tryz.f136 _ aZ.st
abbrev aZ.Ok:=cU @aZ.A aZ.aC aZ.add aZ.F aZ.out
noncomputable def aZ.L0.R:= @cC Tryz.prog aZ.G aZ.an 0 Tryz.f136 0 _ aZ.L0.st
abbrev aZ.L0.Ok:=eO Tryz.prog aZ.G aZ.an 0 Tryz.f136 0 aZ.L0.st aZ.L0.aC aZ.L0.add aZ.L0.F aZ.L0.out
theorem aZ.L0.run:bP aZ.L0.call aZ.L0.aC aZ.L0.add aZ.L0.F:=fe (eY [.d tu,.d tB,.d ti] fun _=>by kernel_rfl)
theorem aZ.L0.aL:ga @aZ.L0.R aZ.L0.st aZ.L0.aC aZ.L0.add aZ.L0.F aZ.L0.bK aZ.L0.Ok:=gw
theorem aZ.L0.step{R:Type}(n:Int)(t6:Bs)(t7:Int)(kn:AS→Option R)(kx:Exit→AS→Option R):aZ.L0.R (n,t6,t7) kn kx=
  aF ((gQ t7 (32:Int))) (
   aF (fE t7 (32:Int)) (
   ah (cw.call ((bC .u64 n (56:Int)),(cQ .or .u64 (iM .u64 n (8:Int)) (dz .u64 (nth tb t6 (Int.toNat t7)))),(2305843009213688668:Int))) fun x1=>
   kn (aZ.L0.st (x1,t6,(ck .i64 t7 (1:Int))))) none) (
   kx (aZ.L0.bK n).1 (aZ.L0.bK n).2):=by kernel_rfl
theorem aZ.eq{R:Type}(h:Bs)(k:aW→Option R):aZ.A h k=
 ah (aZ.L0.call ((0:Int),h,(0:Int))) fun x2=>
 k (aZ.out (ck .u64 x2 (1:Int))):=by kernel_rfl
theorem vO{n b:Int}(hn:Ae.b n)(hb:yX b):bC .u64 n 56*18446744073709551616+cQ .or .u64 (iM .u64 n 8) (dz .u64 b)=n*256+b∧gX (bC .u64 n 56)∧gX (cQ .or .u64 (iM .u64 n 8) (dz .u64 b)):=by
 obtain⟨h1,h2⟩:=hn
 obtain⟨h3,h4⟩:=hb
 have p56:(2:Int)^56=72057594037927936:=rfl
 have p8:(2:Int)^8=256:=rfl
 have e:dz .u64 b=b:=by rw[AW];omega
 rw[jS 56 (by rfl) (by omega),je 8 (by rfl) (by omega),p56,p8,e,oG 8 256 rfl (by omega) (by omega) (by omega) (by omega) (by omega) (by omega)]
 exact⟨by omega,⟨by omega,by omega⟩,by omega,by omega⟩
theorem aZ.L0.ok:aZ.L0.Ok:=by
 refine aZ.L0.aL (fun(n,h,i)=>32 - i.toNat) ?_
 rintro⟨n,h,i⟩ ⟨hn,hl,hb,k,hk,rfl⟩
 have hn:Ae.b n:=hn
 have hl:h.length=32:=hl
 have hb:Bytes h:=hb
 by_cases hlt:k < 32
 ·left
  have hx:yX (h[k]'(by omega)):=hb _ (List.getElem_mem _)
  have n1:nth (.int .u8) h k=h[k]'(by omega):=du (t:= .int .u8) (by omega)
  obtain⟨d1,d2,d3⟩:=vO hn hx
  refine⟨((n*256+h[k]'(by omega))%2305843009213688668,h,((k+1:Nat):Int)),⟨⟨by omega,by omega⟩,hl,hb,k+1,by omega,rfl⟩,by simp only[Int.toNat_natCast];omega,?_,fun kn kx=> ?_⟩
  ·simp only[aZ.L0.add,aZ.L0.F,Int.toNat_natCast]
   rw[List.drop_eq_getElem_cons (by omega:k < h.length)]
   rfl
  ·rw[aZ.L0.step]
   simp(disch:=omega) only[↓S1,↓if_pos,↓if_neg,if_pos,if_neg,if_true,if_false,S2,n1]
   rw[cw.run (d:=(_,_,2305843009213688668)) ⟨Or.inr (Or.inr rfl),d2.1,d2.2,d3.1,d3.2⟩]
   simp only[aa,cw.add,cw.F,d1]
 ·right
  obtain rfl:k=32:=by omega
  intro R kn kx
  rw[aZ.L0.step]
  simp(disch:=omega) only[↓S1,↓if_pos,↓if_neg,if_pos,if_neg,if_true,if_false,S2,aZ.L0.add,aZ.L0.F]
  rw[List.drop_of_length_le (by omega)]
  rfl
theorem aZ.ok:aZ.Ok:=by
 rintro h ⟨hl,hb⟩
 have e:=vN h 0 ⟨by omega,by omega⟩
 have h1:=e.1
 have h2:=e.2
 rw[aZ.eq,aZ.L0.run (d:=(0,h,0)) ⟨⟨by omega,by omega⟩,hl,hb,0,by omega,rfl⟩]
 simp only[aa,aZ.L0.add,aZ.L0.F,aZ.add,aZ.F,om,Int.toNat_zero,List.drop_zero]
 revert h1 h2
 generalize h.foldl (fun n b=>(n*256+b)%2305843009213688668) 0=m
 intro h1 h2
 have e:ck .u64 m 1=m+1:=by rw[jN];omega
 rw[e]
noncomputable def aZ.E:=Entry.cP [some tH] aZ.st aZ.aC aZ.add aZ.F aZ.out
noncomputable def aZ.call:aZ.D→Option aZ.X:=bS aZ.E aZ.st
theorem aZ.run:bP aZ.call aZ.aC aZ.add aZ.F:=de (cZ [.d tB] fun _=>by kernel_rfl)
noncomputable def aZ.sg:SG Tryz.prog:=⟨136,aV,aZ.E,.fn 1 (by kernel_rfl) aZ.ok (And.intro (.cP aZ.L0.ok (by kernel_rfl)) trivial)⟩
set_option synthInstance.maxSize 5000
theorem vo(n:Int): [dz .u8 (bC .u64 n 56),dz .u8 (bC .u64 n 48),dz .u8 (bC .u64 n 40),dz .u8 (bC .u64 n 32),dz .u8 (bC .u64 n 24),dz .u8 (bC .u64 n 16),dz .u8 (bC .u64 n 8),dz .u8 (bC .u64 n 0)]=kk n:=xg n
theorem fo{α:Type}{l:List α}{n:Nat}(h:l.length=n):cut l 0 n=l:=by subst h;simp[cut]
theorem BV{n:ByteArray}{a b c:List Int}(hn:n.size≤100)(ha:a.length≤1000000)(hb:b.length≤1000000)(hc:c.length≤1000000):bD.aC (n,[a,b,c]):=by
 show(sV _ [a,b,c]).length≤_
 rw[sV]
 simp only[jT,List.flatMap_cons,List.flatMap_nil,List.length_append,db,fX,List.length_nil]
 omega
theorem BU{n:ByteArray}{a b:List Int}(hn:n.size≤100)(ha:a.length≤1000000)(hb:b.length≤1000000):bD.aC (n,[a,b]):=by
 show(sV _ [a,b]).length≤_
 rw[sV]
 simp only[jT,List.flatMap_cons,List.flatMap_nil,List.length_append,db,fX,List.length_nil]
 omega
theorem BT{n:ByteArray}{a:List Int}(hn:n.size≤100)(ha:a.length≤1000000):bD.aC (n,[a]):=by
 show(sV _ [a]).length≤_
 rw[sV]
 simp only[jT,List.flatMap_cons,List.flatMap_nil,List.length_append,db,fX,List.length_nil]
 omega
def Sm(m:List Int):Prop:=m.length=32∧Bytes m
theorem D7(b:List Int):Sm (Et b):=⟨xU b,zd b⟩
theorem xW(n:List Int)(ps:List (List Int)):Sm (tag n ps):=D7 _
def BS(n:ByteArray)(ps:List (List Int)):List Int:=tag (bp n) ps
def EW:ByteArray:=⟨#[115,105,103]⟩
def xK:ByteArray:=⟨#[110,111,110,99,101]⟩
def lR(r p:Int)(m:List Int):Int:=om (BS EW [kk r,kk p,m])
theorem qL(r p:Int)(m:List Int):Qn (lR r p m):=by
 have:=qY (BS EW [kk r,kk p,m])
 exact⟨by unfold lR;omega,by unfold lR;omega⟩
def EA(s:Sg):Prop:=gX s.1∧gX s.2.1
def jZ(p:Int)(m:List Int)(t:Int)(s:Sg):Bool:=
 if p=1∨kL p=false∨kL t=false∨kL s.1=false∨¬s.2.1 < 2305843009213688669 then false
 else decide (dP s.2.1=qj [s.1,lN p (lR s.1 p m),wm t])
def ub(k nonce:Int)(m:List Int)(t:Int):Sg:=
 (qj [dP nonce,t],w8 nonce (uF (lR (qj [dP nonce,t]) (dP k) m) k),())
def Bo(k:Int)(m:List Int):Int:=om (BS xK [kk k,m])
def fM(k:Int)(m:List Int):Sg:=if k < 2305843009213688669∧k≠0 then ub k (Bo k m) m 1 else(0,0,())
abbrev b8.D:=Int
def b8.st:b8.D→SA:=fun n=>([.d tu n],[])
abbrev b8.Y:=Bs
abbrev b8.X:=Bs
def b8.out:b8.X→aW:=fun x=>⟨.d tB x,[],[]⟩
def b8.add:b8.D→b8.Y→b8.X:=fun n y=>y
def b8.aC:b8.D→Prop:=fun _=>True
def b8.F:b8.D→b8.Y:=fun n=>kk n
noncomputable def b8.G:dH:=eT (P:=Tryz.prog) []
noncomputable def b8.an:ee:= {loops:=lZ [(3,{bn:=[0,3,7,8],sites:=[5]})],outs:=lY [(3,{bn:=[3],sites:=[5]},{bn:=[2],sites:=[5]})],res:=[some tB]}
noncomputable def b8.A:= @cT Tryz.prog b8.G b8.an 12 Tryz.f137 _ b8.st
abbrev b8.Ok:=cU @b8.A b8.aC b8.add b8.F b8.out
theorem b8.eq{R:Type}(n:Int)(k:aW→Option R):b8.A n k=
 k (b8.out [(dz .u8 (bC .u64 n (56:Int))),(dz .u8 (bC .u64 n (48:Int))),(dz .u8 (bC .u64 n (40:Int))),(dz .u8 (bC .u64 n (32:Int))),(dz .u8 (bC .u64 n (24:Int))),(dz .u8 (bC .u64 n (16:Int))),(dz .u8 (bC .u64 n (8:Int))),(dz .u8 (bC .u64 n (0:Int)))]):=by kernel_rfl
theorem b8.ok:b8.Ok:=by
 intro n _
 rw[b8.eq,vo]
 rfl
noncomputable def b8.E:=Entry.cP [some tu] b8.st b8.aC b8.add b8.F b8.out
noncomputable def b8.call:b8.D→Option b8.X:=bS b8.E b8.st
theorem b8.run:bP b8.call b8.aC b8.add b8.F:=de (cZ [.d tu] fun _=>by kernel_rfl)
noncomputable def b8.sg:SG Tryz.prog:=⟨137,aV,b8.E,.fn 1 (by kernel_rfl) b8.ok (And.intro (.none (by kernel_rfl)) trivial)⟩
abbrev cR.D:=Int×Int×Bs
def cR.st:cR.D→SA:=fun(r,p,m)=>([.d tu r,.d tu p,.d tH m],[])
abbrev cR.Y:=Int
abbrev cR.X:=Int
def cR.out:cR.X→aW:=fun x=>⟨.d tu x,[],[]⟩
def cR.add:cR.D→cR.Y→cR.X:=fun(r,p,m) y=>y
def cR.aC:cR.D→Prop:=fun(r,p,m)=>Sm m
def cR.F:cR.D→cR.Y:=fun(r,p,m)=>lR r p m
noncomputable def cR.G:dH:=eT (P:=Tryz.prog) [b8.sg,bD.sg,aZ.sg]
noncomputable def cR.an:ee:= {}
noncomputable def cR.A:= @cT Tryz.prog cR.G cR.an 0 Tryz.f198 _ cR.st
abbrev cR.Ok:=cU @cR.A cR.aC cR.add cR.F cR.out
theorem cR.eq{R:Type}(r:Int)(p:Int)(m:Bs)(k:aW→Option R):cR.A (r,p,m) k=
 ah (b8.call r) fun x1=>
 ah (b8.call p) fun x2=>
 ah (bD.call ((⟨#[115,105,103]⟩:ByteArray),[x1,x2,(cut m 0 32)])) fun x3=>
 ah (aZ.call x3) fun x4=>
 k (cR.out x4):=by kernel_rfl
theorem cR.ok:cR.Ok:=by
 rintro⟨r,p,m⟩ hm
 have hm:Sm m:=hm
 rw[cR.eq,b8.run (d:=r) trivial,b8.run (d:=p) trivial]
 simp only[aa,b8.add,b8.F]
 rw[fo hm.1,bD.run (BV (by decide) (by rw[db];omega) (by rw[db];omega) (by rw[hm.1];omega))]
 simp only[aa,bD.add,bD.F]
 rw[aZ.run (d:=tag (bp (⟨#[115,105,103]⟩:ByteArray)) [kk r,kk p,m]) (xW _ _)]
 rfl
noncomputable def cR.E:=Entry.cP [some tu,some tu,some tH] cR.st cR.aC cR.add cR.F cR.out
noncomputable def cR.call:cR.D→Option cR.X:=bS cR.E cR.st
theorem cR.run:bP cR.call cR.aC cR.add cR.F:=de (cZ [.d tu,.d tu,.d tB] fun _=>by kernel_rfl)
noncomputable def cR.sg:SG Tryz.prog:=⟨198,aV,cR.E,.fn 0 (by kernel_rfl) cR.ok trivial⟩
abbrev bB.D:=Int×Bs×Int×Sg
def bB.st:bB.D→SA:=fun(p,m,t,pre)=>([.d tu p,.d tH m,.d tu t,.d uU pre],[])
abbrev bB.Y:=Bool
abbrev bB.X:=Bool
def bB.out:bB.X→aW:=fun x=>⟨.d .bool x,[],[]⟩
def bB.add:bB.D→bB.Y→bB.X:=fun(p,m,t,pre) y=>y
def bB.aC:bB.D→Prop:=fun(p,m,t,s)=>gX p∧Sm m∧gX t∧EA s
def bB.F:bB.D→bB.Y:=fun(p,m,t,s)=>jZ p m t s
noncomputable def bB.G:dH:=eT (P:=Tryz.prog) [bG.sg,bW.sg,cR.sg,cq.sg,eA.sg,bV.sg,cv.sg]
noncomputable def bB.an:ee:= {}
noncomputable def bB.A:= @cT Tryz.prog bB.G bB.an 0 Tryz.f216 _ bB.st
abbrev bB.Ok:=cU @bB.A bB.aC bB.add bB.F bB.out
theorem bB.eq{R:Type}(p:Int)(m:Bs)(t:Int)(pre:Sg)(k:aW→Option R):bB.A (p,m,t,pre) k=
  aF ((dN p (1:Int))) (
   k (bB.out false)) (
   ah (bG.call p) fun x1=>
   aF ((!x1)) (
    k (bB.out false)) (
    ah (bG.call t) fun x2=>
    aF ((!x2)) (
     k (bB.out false)) (
     ah (bG.call pre.1) fun x3=>
     aF ((!x3)) (
      k (bB.out false)) (
      ah (bW.call pre.2.1) fun x4=>
      aF ((!x4)) (
       k (bB.out false)) (
       ah (cR.call (pre.1,p,m)) fun x5=>
       ah (cq.call (p,x5)) fun x6=>
       ah (eA.call t) fun x7=>
       ah (bV.call [pre.1,x6,x7]) fun x8=>
       ah (cv.call pre.2.1) fun x9=>
       k (bB.out (dN x9 x8))))))):=by kernel_rfl
theorem bB.ok:bB.Ok:=by
 rintro⟨p,m,t,s⟩ ⟨hp,hm,ht,hs⟩
 have hp:gX p:=hp
 have ht:gX t:=ht
 have hm:Sm m:=hm
 have hs:EA s:=hs
 rw[bB.eq,bG.run (d:=p) hp,bG.run (d:=t) ht,bG.run (d:=s.1) hs.1,bW.run (d:=s.2.1) trivial]
 simp only[aa,bG.add,bG.F,bW.add,bW.F,bB.add,bB.F,jZ]
 by_cases h1:p=1
 ·rw[iw h1,ao,if_pos (Or.inl h1)]
 rw[jV h1,aw]
 cases h2:kL p
 ·rw[if_pos (Or.inr (Or.inl rfl))];rfl
 cases h3:kL t
 ·rw[if_pos (Or.inr (Or.inr (Or.inl rfl)))];rfl
 cases h4:kL s.1
 ·rw[if_pos (Or.inr (Or.inr (Or.inr (Or.inl rfl))))];rfl
 by_cases h5:s.2.1 < 2305843009213688669
 ·rw[bq h5,if_neg (by simp[h1,h5])]
  have hq:=qL s.1 p m
  rw[cR.run (d:=(s.1,p,m)) hm]
  simp only[Bool.not_true,aw,aa,cR.add,cR.F]
  rw[cq.run (d:=(p,lR s.1 p m)) ⟨hp,hq.u⟩,eA.run (d:=t) ht]
  simp only[aa,cq.add,cq.F,eA.add,eA.F]
  have q:bV.aC [s.1,lN p (lR s.1 p m),wm t]:=⟨by
   intro x hx
   simp only[List.mem_cons,List.not_mem_nil,or_false]at hx
   rcases hx with rfl | rfl | rfl
   ·exact hs.1
   ·exact(wG _ _).u
   ·exact(wG _ _).u,by simp only[List.length_cons,List.length_nil];omega⟩
  rw[bV.run q,cv.run (d:=s.2.1) hs.2]
  rfl
 ·rw[bl h5,if_pos (Or.inr (Or.inr (Or.inr (Or.inr h5))))];rfl
noncomputable def bB.E:=Entry.cP [some tu,some tH,some tu,some uU] bB.st bB.aC bB.add bB.F bB.out
noncomputable def bB.call:bB.D→Option bB.X:=bS bB.E bB.st
theorem bB.run:bP bB.call bB.aC bB.add bB.F:=de (cZ [.d tu,.d tB,.d tu,.d uU] fun _=>by kernel_rfl)
noncomputable def bB.sg:SG Tryz.prog:=⟨216,aV,bB.E,.fn 0 (by kernel_rfl) bB.ok trivial⟩
abbrev bM.D:=Int×Bs×Sg
def bM.st:bM.D→SA:=fun(p,m,sv)=>([.d tu p,.d tH m,.d uU sv],[])
abbrev bM.Y:=Bool
abbrev bM.X:=Bool
def bM.out:bM.X→aW:=fun x=>⟨.d .bool x,[],[]⟩
def bM.add:bM.D→bM.Y→bM.X:=fun(p,m,sv) y=>y
def bM.aC:bM.D→Prop:=fun(p,m,s)=>gX p∧Sm m∧EA s
def bM.F:bM.D→bM.Y:=fun(p,m,s)=>jZ p m 1 s
noncomputable def bM.G:dH:=eT (P:=Tryz.prog) [bB.sg]
noncomputable def bM.an:ee:= {}
noncomputable def bM.A:= @cT Tryz.prog bM.G bM.an 0 Tryz.f158 _ bM.st
abbrev bM.Ok:=cU @bM.A bM.aC bM.add bM.F bM.out
theorem bM.eq{R:Type}(p:Int)(m:Bs)(sv:Sg)(k:aW→Option R):bM.A (p,m,sv) k=
 ah (bB.call (p,m,(1:Int),sv)) fun x1=>
 k (bM.out x1):=by kernel_rfl
theorem bM.ok:bM.Ok:=by
 rintro⟨p,m,s⟩ ⟨hp,hm,hs⟩
 rw[bM.eq,bB.run (d:=(p,m,1,s)) ⟨hp,hm,⟨by omega,by omega⟩,hs⟩]
 rfl
noncomputable def bM.E:=Entry.cP [some tu,some tH,some uU] bM.st bM.aC bM.add bM.F bM.out
noncomputable def bM.call:bM.D→Option bM.X:=bS bM.E bM.st
theorem bM.run:bP bM.call bM.aC bM.add bM.F:=de (cZ [.d tu,.d tB,.d uU] fun _=>by kernel_rfl)
noncomputable def bM.sg:SG Tryz.prog:=⟨158,aV,bM.E,.fn 0 (by kernel_rfl) bM.ok trivial⟩
abbrev eg.D:=Int
def eg.st:eg.D→SA:=fun kv=>([.d tu kv],[])
abbrev eg.Y:=Bool
abbrev eg.X:=Bool
def eg.out:eg.X→aW:=fun x=>⟨.d .bool x,[],[]⟩
def eg.add:eg.D→eg.Y→eg.X:=fun kv y=>y
def eg.aC:eg.D→Prop:=fun _=>True
def eg.F:eg.D→eg.Y:=fun k=>decide (k < 2305843009213688669∧k≠0)
noncomputable def eg.G:dH:=eT (P:=Tryz.prog) [bW.sg]
noncomputable def eg.an:ee:= {}
noncomputable def eg.A:= @cT Tryz.prog eg.G eg.an 0 Tryz.f134 _ eg.st
abbrev eg.Ok:=cU @eg.A eg.aC eg.add eg.F eg.out
theorem eg.eq{R:Type}(kv:Int)(k:aW→Option R):eg.A kv k=
  ah (bW.call kv) fun x1=>
  aF (x1) (
   k (eg.out (qe kv (0:Int)))) (
   k (eg.out false)):=by kernel_rfl
theorem eg.ok:eg.Ok:=by
 intro k _
 rw[eg.eq,bW.run (d:=k) trivial]
 simp only[aa,bW.add,bW.F,eg.add,eg.F]
 by_cases h:k < 2305843009213688669
 ·rw[bq h,ao]
  by_cases h0:k=0
  ·rw[eM h0,bI (fun x=>x.2 h0)]
  ·rw[fv h0,bf ⟨h,h0⟩]
 ·rw[bl h,aw,bI (fun x=>h x.1)]
noncomputable def eg.E:=Entry.cP [some tu] eg.st eg.aC eg.add eg.F eg.out
noncomputable def eg.call:eg.D→Option eg.X:=bS eg.E eg.st
theorem eg.run:bP eg.call eg.aC eg.add eg.F:=de (cZ [.d tu] fun _=>by kernel_rfl)
noncomputable def eg.sg:SG Tryz.prog:=⟨134,aV,eg.E,.fn 0 (by kernel_rfl) eg.ok trivial⟩
abbrev bU.D:=Int×Int×Bs×Int
def bU.st:bU.D→SA:=fun(kv,nonce,m,t)=>([.d tu kv,.d tu nonce,.d tH m,.d tu t],[])
abbrev bU.Y:=Sg
abbrev bU.X:=Sg
def bU.out:bU.X→aW:=fun x=>⟨.d uU x,[],[]⟩
def bU.add:bU.D→bU.Y→bU.X:=fun(kv,nonce,m,t) y=>y
def bU.aC:bU.D→Prop:=fun(k,n,m,t)=>gX k∧gX n∧Sm m∧gX t
def bU.F:bU.D→bU.Y:=fun(k,n,m,t)=>ub k n m t
noncomputable def bU.G:dH:=eT (P:=Tryz.prog) [cv.sg,ez.sg,cR.sg,er.sg,eD.sg]
noncomputable def bU.an:ee:= {}
noncomputable def bU.A:= @cT Tryz.prog bU.G bU.an 0 Tryz.f135 _ bU.st
abbrev bU.Ok:=cU @bU.A bU.aC bU.add bU.F bU.out
theorem bU.eq{R:Type}(kv:Int)(nonce:Int)(m:Bs)(t:Int)(k:aW→Option R):bU.A (kv,nonce,m,t) k=
 ah (cv.call nonce) fun x1=>
 ah (ez.call (x1,t)) fun x2=>
 ah (cv.call kv) fun x3=>
 ah (cR.call (x2,x3,m)) fun x4=>
 ah (er.call (x4,kv)) fun x5=>
 ah (eD.call (nonce,x5)) fun x6=>
 k (bU.out (x2,(x6,()))):=by kernel_rfl
theorem bU.ok:bU.Ok:=by
 rintro⟨k,n,m,t⟩ ⟨hk,hn,hm,ht⟩
 have hk:gX k:=hk
 have hn:gX n:=hn
 have hm:Sm m:=hm
 have ht:gX t:=ht
 rw[bU.eq,cv.run (d:=n) hn]
 simp only[aa,cv.add,cv.F]
 rw[ez.run (d:=(dP n,t)) ⟨(wG _ _).u,ht⟩,cv.run (d:=k) hk]
 simp only[aa,cv.add,cv.F,ez.add,ez.F]
 rw[cR.run (d:=(qj [dP n,t],dP k,m)) hm]
 simp only[aa,cR.add,cR.F]
 rw[er.run (d:=(lR (qj [dP n,t]) (dP k) m,k)) ⟨(qL _ _ _).u,hk⟩]
 simp only[aa,er.add,er.F]
 rw[eD.run (d:=(n,uF (lR (qj [dP n,t]) (dP k) m) k)) ⟨hn,(CF _ _).u⟩]
 rfl
noncomputable def bU.E:=Entry.cP [some tu,some tu,some tH,some tu] bU.st bU.aC bU.add bU.F bU.out
noncomputable def bU.call:bU.D→Option bU.X:=bS bU.E bU.st
theorem bU.run:bP bU.call bU.aC bU.add bU.F:=de (cZ [.d tu,.d tu,.d tB,.d tu] fun _=>by kernel_rfl)
noncomputable def bU.sg:SG Tryz.prog:=⟨135,aV,bU.E,.fn 0 (by kernel_rfl) bU.ok trivial⟩
abbrev df.D:=Int×Bs
def df.st:df.D→SA:=fun(kv,m)=>([.d tu kv,.d tH m],[])
abbrev df.Y:=Sg
abbrev df.X:=Sg
def df.out:df.X→aW:=fun x=>⟨.d uU x,[],[]⟩
def df.add:df.D→df.Y→df.X:=fun(kv,m) y=>y
def df.aC:df.D→Prop:=fun(k,m)=>gX k∧Sm m
def df.F:df.D→df.Y:=fun(k,m)=>fM k m
noncomputable def df.G:dH:=eT (P:=Tryz.prog) [eg.sg,b8.sg,bD.sg,aZ.sg,bU.sg]
noncomputable def df.an:ee:= {}
noncomputable def df.A:= @cT Tryz.prog df.G df.an 0 Tryz.f69 _ df.st
abbrev df.Ok:=cU @df.A df.aC df.add df.F df.out
theorem df.eq{R:Type}(kv:Int)(m:Bs)(k:aW→Option R):df.A (kv,m) k=
  ah (eg.call kv) fun x1=>
  aF ((!x1)) (
   k (df.out ((0:Int),((0:Int),())))) (
   ah (b8.call kv) fun x2=>
   ah (bD.call ((⟨#[110,111,110,99,101]⟩:ByteArray),[x2,(cut m 0 32)])) fun x3=>
   ah (aZ.call x3) fun x4=>
   ah (bU.call (kv,x4,m,(1:Int))) fun x5=>
   k (df.out x5)):=by kernel_rfl
theorem df.ok:df.Ok:=by
 rintro⟨k,m⟩ ⟨hk,hm⟩
 have hk:gX k:=hk
 have hm:Sm m:=hm
 rw[df.eq,eg.run (d:=k) trivial]
 simp only[aa,eg.add,eg.F,df.add,df.F,fM]
 by_cases h:k < 2305843009213688669∧k≠0
 ·rw[bf h,if_pos h,b8.run (d:=k) trivial,fo hm.1]
  simp only[Bool.not_true,aw,aa,b8.add,b8.F]
  rw[bD.run (BU (by decide) (by rw[db];omega) (by rw[hm.1];omega))]
  simp only[aa,bD.add,bD.F]
  rw[aZ.run (d:=tag (bp (⟨#[110,111,110,99,101]⟩:ByteArray)) [kk k,m]) (xW _ _)]
  simp only[aa,aZ.add,aZ.F]
  have q:=qY (tag (bp (⟨#[110,111,110,99,101]⟩:ByteArray)) [kk k,m])
  rw[bU.run (d:=(k,om (tag (bp (⟨#[110,111,110,99,101]⟩:ByteArray)) [kk k,m]),m,1)) ⟨hk,⟨by omega,by omega⟩,hm,by omega,by omega⟩]
  rfl
 ·rw[bI h,if_neg h];rfl
noncomputable def df.E:=Entry.cP [some tu,some tH] df.st df.aC df.add df.F df.out
noncomputable def df.call:df.D→Option df.X:=bS df.E df.st
theorem df.run:bP df.call df.aC df.add df.F:=de (cZ [.d tu,.d tB] fun _=>by kernel_rfl)
noncomputable def df.sg:SG Tryz.prog:=⟨69,aV,df.E,.fn 0 (by kernel_rfl) df.ok trivial⟩
set_option synthInstance.maxSize 5000
def l6(l:List Int):Prop:=∀x∈l,gX x
def Fc(b:jG):Prop:=l6 b.1∧gX b.2.2.2.1
def Af(l:Lk):Prop:=∀b∈l.1,Fc b
def qd(n:Int):Bool:=decide (0≤n∧n≤1048576)
def mS(b:jG):Bool:=decide (b.1.length≤12) && (b.1.all kL && (qd b.2.1 && (qd b.2.2.1 && (decide (b.2.2.2.1=0) || kL b.2.2.2.1))))
def ji(l:Lk):Bool:=l.1.all mS && decide (0 < l.1.length∧l.1.length≤4)
def jJ:List Int→Int→Int⊕Unit
 |[],_=> .inr ()
 |p::ps,i=>if kL p then jJ ps (i+1) else .inl i
def yo(l:List Int):Int:=match jJ l 0 with | .inl i=>i | .inr _=> -1
theorem pJ:∀(l:List Int) (i:Int),0≤i→(match jJ l i with | .inl i=>decide (i≥0) | .inr _=>false)= !(l.all kL)
 |[],_,_=>rfl
 |p::ps,i,h=>by
  rw[jJ,List.all_cons]
  cases hp:kL p
  ·simp[h]
  ·simp only[if_true,Bool.true_and]
   exact pJ ps (i+1) (by omega)
theorem y6(l:List Int):mV (yo l) 0= !(l.all kL):=by
 have:=pJ l 0 (by omega)
 unfold yo mV
 cases h:jJ l 0
 ·rw[h]at this;exact this
 ·rw[h]at this;rw[←this];rfl
abbrev dV.D:=Int
def dV.st:dV.D→SA:=fun p=>([.d tu p],[])
abbrev dV.Y:=Bool
abbrev dV.X:=Bool
def dV.out:dV.X→aW:=fun x=>⟨.d .bool x,[],[]⟩
def dV.add:dV.D→dV.Y→dV.X:=fun p y=>y
def dV.aC:dV.D→Prop:=fun p=>gX p
def dV.F:dV.D→dV.Y:=fun p=> !kL p
noncomputable def dV.G:dH:=eT (P:=Tryz.prog) [bG.sg]
noncomputable def dV.an:ee:= {}
noncomputable def dV.A:= @cT Tryz.prog dV.G dV.an 0 Tryz.f150 _ dV.st
abbrev dV.Ok:=cU @dV.A dV.aC dV.add dV.F dV.out
theorem dV.eq{R:Type}(p:Int)(k:aW→Option R):dV.A p k=
 ah (bG.call p) fun x1=>
 k (dV.out (!x1)):=by kernel_rfl
theorem dV.ok:dV.Ok:=by
 intro p hp
 rw[dV.eq,bG.run (d:=p) hp]
 rfl
noncomputable def dV.E:=Entry.cP [some tu] dV.st dV.aC dV.add dV.F dV.out
noncomputable def dV.call:dV.D→Option dV.X:=bS dV.E dV.st
theorem dV.run:bP dV.call dV.aC dV.add dV.F:=de (cZ [.d tu] fun _=>by kernel_rfl)
noncomputable def dV.sg:SG Tryz.prog:=⟨150,aV,dV.E,.fn 0 (by kernel_rfl) dV.ok trivial⟩
abbrev aK.L0.D:=Bs×Int×Int
def aK.L0.st:aK.L0.D→AS:=fun(sv_2,t7,t8)=>⟨([.d tU sv_2,.fn 150 (.nil)]++bm 5 ([.d ti t7,.d ti t8]++bm 10 [])),[],(List.replicate 19 [])⟩
abbrev aK.L0.Y0:=Int
abbrev aK.L0.X0:=Int
def aK.L0.bK:aK.L0.X0→Exit×AS:=fun x=>(.ret,⟨(bm 4 ([.d ti x]++bm 14 [])),[],(List.replicate 19 [])⟩)
abbrev aK.L0.Y1:=Unit
abbrev aK.L0.X1:=Unit
def aK.L0.jb:aK.L0.X1→Exit×AS:=fun x=>(.exit 0,⟨(bm 19 []),[],(List.replicate 19 [])⟩)
abbrev aK.L0.X:=(aK.L0.X0)⊕(aK.L0.X1)
abbrev aK.L0.Y:=(aK.L0.Y0)⊕(aK.L0.Y1)
def aK.L0.out:aK.L0.X→Out (Exit×AS):=fun x=> .br x.isLeft (.get x.getLeft? fun a=> .ok (aK.L0.bK a)) (.get x.getRight? fun b=> .ok (aK.L0.jb b))
def aK.L0.add:aK.L0.D→aK.L0.Y→aK.L0.X:=fun(sv_2,t7,t8) y=>match y with | .inl y=> .inl y | .inr z=> .inr (z)
abbrev aK.D:=Bs
def aK.st:aK.D→SA:=fun sv=>([.d tU sv,.fn 150 (.nil)],[])
abbrev aK.Y:=Int
abbrev aK.X:=Int
def aK.out:aK.X→aW:=fun x=>⟨.d ti x,[],[]⟩
def aK.add:aK.D→aK.Y→aK.X:=fun sv y=>y
def aK.L0.aC:aK.L0.D→Prop:=fun(l,n,i)=>l6 l∧l.length≤1000000000∧n=l.length∧∃k:Nat,k≤l.length∧i=k
def aK.L0.F:aK.L0.D→aK.L0.Y:=fun(l,n,i)=>jJ (l.drop i.toNat) i
def aK.aC:aK.D→Prop:=fun l=>l6 l∧l.length≤1000000000
def aK.F:aK.D→aK.Y:=fun l=>yo l
noncomputable def aK.G:dH:=eT (P:=Tryz.prog) [dV.sg]
noncomputable def aK.L0.E:=bZ.cP aK.L0.st aK.L0.aC aK.L0.add aK.L0.F aK.L0.out
noncomputable def aK.L0.call:aK.L0.D→Option aK.L0.X:=dI aK.L0.E aK.L0.st
noncomputable def aK.an:ee:= {loops:=lZ [(2,{bn:=[0,1,7,8]})],outs:=lY [(2,{},{bn:=[4]})],fO:=mW [(2,aK.L0.E)]}
noncomputable def aK.A:= @cT Tryz.prog aK.G aK.an 0 Tryz.f205 _ aK.st
abbrev aK.Ok:=cU @aK.A aK.aC aK.add aK.F aK.out
noncomputable def aK.L0.R:= @cC Tryz.prog aK.G aK.an 0 Tryz.f205 0 _ aK.L0.st
abbrev aK.L0.Ok:=eO Tryz.prog aK.G aK.an 0 Tryz.f205 0 aK.L0.st aK.L0.aC aK.L0.add aK.L0.F aK.L0.out
theorem aK.L0.run:bP aK.L0.call aK.L0.aC aK.L0.add aK.L0.F:=fe (eY [.d tU,.d ti,.d ti] fun _=>by kernel_rfl)
theorem aK.L0.aL:p9 @aK.L0.R aK.L0.st aK.L0.aC aK.L0.add aK.L0.F aK.L0.out aK.L0.Ok:=qK
theorem aK.L0.step{R:Type}(sv_2:Bs)(t7:Int)(t8:Int)(kn:AS→Option R)(kx:Exit→AS→Option R):aK.L0.R (sv_2,t7,t8) kn kx=
  aF ((gQ t8 t7)) (
   aF (fE t8 (((List.length sv_2):Nat):Int)) (
   ah (dV.call (nth tu sv_2 (Int.toNat t8))) fun x1=>
   aF (x1) (
    kx (aK.L0.bK t8).1 (aK.L0.bK t8).2) (
    kn (aK.L0.st (sv_2,t7,(ck .i64 t8 (1:Int)))))) none) (
   kx (aK.L0.jb ()).1 (aK.L0.jb ()).2):=by kernel_rfl
theorem aK.eq{R:Type}(sv:Bs)(k:aW→Option R):aK.A sv k=
  ah (aK.L0.call (sv,(((List.length sv):Nat):Int),(0:Int))) fun x2=>
  aF (x2.isLeft) (
   ah (x2.getLeft?) fun a3=>
   k (aK.out a3)) (
   ah (x2.getRight?) fun b4=>
   k (aK.out (-1:Int))):=by kernel_rfl
theorem aK.L0.ok:aK.L0.Ok:=by
 refine aK.L0.aL (fun(l,n,i)=>l.length - i.toNat) ?_
 rintro⟨l,n,i⟩ ⟨hl,hb,rfl,k,hk,rfl⟩
 have hb:l.length≤1000000000:=hb
 have hk:k≤l.length:=hk
 by_cases h:k < l.length
 ·have hx:=hl _ (List.getElem_mem h)
  have n1:nth (.int .u64) l k=l[k]:=du (t:= .int .u64) h
  have hd:jJ (l.drop k) k=if kL l[k] then jJ (l.drop (k+1)) ((k+1:Nat):Int) else .inl (k:Int):=by rw[List.drop_eq_getElem_cons h];rfl
  cases hp:kL l[k]
  ·right
   refine⟨aK.L0.bK (k:Int),?_,fun kn kx=> ?_⟩
   ·simp only[aK.L0.add,aK.L0.F,Int.toNat_natCast,hd,hp,Bool.false_eq_true,if_false]
    rfl
   ·rw[aK.L0.step]
    simp(disch:=omega) only[↓S1,↓if_pos,↓if_neg,if_pos,if_neg,if_true,if_false,S2,n1]
    rw[dV.run (d:=l[k]) hx]
    simp only[aa,dV.add,dV.F,hp,Bool.not_false,ao]
  ·left
   refine⟨(l,l.length,((k+1:Nat):Int)),⟨hl,hb,rfl,k+1,by omega,rfl⟩,by simp only[Int.toNat_natCast];omega,?_,fun kn kx=> ?_⟩
   ·simp only[aK.L0.add,aK.L0.F,Int.toNat_natCast,hd,hp,if_true]
   ·rw[aK.L0.step]
    simp(disch:=omega) only[↓S1,↓if_pos,↓if_neg,if_pos,if_neg,if_true,if_false,S2,n1]
    rw[dV.run (d:=l[k]) hx]
    simp only[aa,dV.add,dV.F,hp,Bool.not_true,aw]
 ·right
  obtain rfl:k=l.length:=by omega
  refine⟨aK.L0.jb (),?_,fun kn kx=> ?_⟩
  ·simp only[aK.L0.add,aK.L0.F,Int.toNat_natCast,List.drop_length]
   rfl
  ·rw[aK.L0.step]
   simp(disch:=omega) only[↓S1,↓if_pos,↓if_neg,if_pos,if_neg,if_true,if_false,S2]
theorem aK.ok:aK.Ok:=by
 rintro l ⟨hl,hb⟩
 rw[aK.eq,aK.L0.run (d:=(l,l.length,0)) ⟨hl,hb,rfl,0,by omega,rfl⟩]
 simp only[aa,aK.L0.add,aK.L0.F,Int.toNat_zero,List.drop_zero,aK.add,aK.F,yo]
 cases jJ l 0 <;> rfl
noncomputable def aK.E:=Entry.cP [some tU,none] aK.st aK.aC aK.add aK.F aK.out
noncomputable def aK.call:aK.D→Option aK.X:=bS aK.E aK.st
theorem aK.run:bP aK.call aK.aC aK.add aK.F:=de (cZ [.d tU] fun _=>by kernel_rfl)
noncomputable def aK.sg:SG Tryz.prog:=⟨205,aV,aK.E,.fn 1 (by kernel_rfl) aK.ok (And.intro (.cP aK.L0.ok (by kernel_rfl)) trivial)⟩
abbrev bg.D:=Bs
def bg.st:bg.D→SA:=fun sv=>([.d tU sv,.fn 150 (.nil)],[])
abbrev bg.Y:=Bool
abbrev bg.X:=Bool
def bg.out:bg.X→aW:=fun x=>⟨.d .bool x,[],[]⟩
def bg.add:bg.D→bg.Y→bg.X:=fun sv y=>y
def bg.aC:bg.D→Prop:=fun l=>l6 l∧l.length≤1000000000
def bg.F:bg.D→bg.Y:=fun l=> !(l.all kL)
noncomputable def bg.G:dH:=eT (P:=Tryz.prog) [aK.sg]
noncomputable def bg.an:ee:= {}
noncomputable def bg.A:= @cT Tryz.prog bg.G bg.an 0 Tryz.f152 _ bg.st
abbrev bg.Ok:=cU @bg.A bg.aC bg.add bg.F bg.out
theorem bg.eq{R:Type}(sv:Bs)(k:aW→Option R):bg.A sv k=
 ah (aK.call sv) fun x1=>
 k (bg.out (mV x1 (0:Int))):=by kernel_rfl
theorem bg.ok:bg.Ok:=by
 rintro l ⟨hl,hb⟩
 rw[bg.eq,aK.run (d:=l) ⟨hl,hb⟩]
 simp only[aa,aK.add,aK.F,y6]
 rfl
noncomputable def bg.E:=Entry.cP [some tU,none] bg.st bg.aC bg.add bg.F bg.out
noncomputable def bg.call:bg.D→Option bg.X:=bS bg.E bg.st
theorem bg.run:bP bg.call bg.aC bg.add bg.F:=de (cZ [.d tU] fun _=>by kernel_rfl)
noncomputable def bg.sg:SG Tryz.prog:=⟨152,aV,bg.E,.fn 0 (by kernel_rfl) bg.ok trivial⟩
abbrev bA.D:=Int
def bA.st:bA.D→SA:=fun n=>([.d ti n],[])
abbrev bA.Y:=Bool
abbrev bA.X:=Bool
def bA.out:bA.X→aW:=fun x=>⟨.d .bool x,[],[]⟩
def bA.add:bA.D→bA.Y→bA.X:=fun n y=>y
def bA.aC:bA.D→Prop:=fun _=>True
def bA.F:bA.D→bA.Y:=fun n=>qd n
noncomputable def bA.G:dH:=eT (P:=Tryz.prog) []
noncomputable def bA.an:ee:= {}
noncomputable def bA.A:= @cT Tryz.prog bA.G bA.an 0 Tryz.f153 _ bA.st
abbrev bA.Ok:=cU @bA.A bA.aC bA.add bA.F bA.out
theorem bA.eq{R:Type}(n:Int)(k:aW→Option R):bA.A n k=
  aF ((mV n (0:Int))) (
   k (bA.out (AY n (1048576:Int)))) (
   k (bA.out false)):=by kernel_rfl
theorem bA.ok:bA.Ok:=by
 intro n _
 rw[bA.eq]
 simp only[bA.add,bA.F,qd]
 by_cases h:0≤n
 ·rw[fi h,ao]
  by_cases h2:n≤1048576
  ·rw[oo h2,bf ⟨h,h2⟩]
  ·rw[kY h2,bI (fun x=>h2 x.2)]
 ·rw[ei h,aw,bI (fun x=>h x.1)]
noncomputable def bA.E:=Entry.cP [some ti] bA.st bA.aC bA.add bA.F bA.out
noncomputable def bA.call:bA.D→Option bA.X:=bS bA.E bA.st
theorem bA.run:bP bA.call bA.aC bA.add bA.F:=de (cZ [.d ti] fun _=>by kernel_rfl)
noncomputable def bA.sg:SG Tryz.prog:=⟨153,aV,bA.E,.fn 0 (by kernel_rfl) bA.ok trivial⟩
set_option synthInstance.maxSize 5000
abbrev aD.L0.D:=Lk×(List jG)×Int×Int
def aD.L0.st:aD.L0.D→AS:=fun(l_2,t7,t8,t9)=>⟨([.undef,.dZ ye l_2,.undef,.fn 150 (.nil),.undef,.undef,.undef,.d (.slice jt) t7,.d ti t8,.d ti t9]++bm 47 []),[],(List.replicate 57 [])⟩
abbrev aD.L0.Y0:=Unit
abbrev aD.L0.X0:=Unit
def aD.L0.bK:aD.L0.X0→Exit×AS:=fun x=>(.ret,⟨([.undef,.undef,.d .bool false]++bm 54 []),[],(List.replicate 57 [])⟩)
abbrev aD.L0.Y1:=Unit
abbrev aD.L0.X1:=Lk
def aD.L0.jb:aD.L0.X1→Exit×AS:=fun x=>(.exit 0,⟨([.undef,.dZ ye x]++bm 55 []),[],(List.replicate 57 [])⟩)
abbrev aD.L0.X:=(aD.L0.X0)⊕(aD.L0.X1)
abbrev aD.L0.Y:=(aD.L0.Y0)⊕(aD.L0.Y1)
def aD.L0.out:aD.L0.X→Out (Exit×AS):=fun x=> .br x.isLeft (.get x.getLeft? fun a=> .ok (aD.L0.bK a)) (.get x.getRight? fun b=> .ok (aD.L0.jb b))
def aD.L0.add:aD.L0.D→aD.L0.Y→aD.L0.X:=fun(l_2,t7,t8,t9) y=>match y with | .inl y=> .inl y | .inr z=> .inr (l_2)
abbrev aD.D:=Lk
def aD.st:aD.D→SA:=fun l=>([.d ye l],[])
abbrev aD.Y:=Bool
abbrev aD.X:=Bool
def aD.out:aD.X→aW:=fun x=>⟨.d .bool x,[],[]⟩
def aD.add:aD.D→aD.Y→aD.X:=fun l y=>y
def aD.L0.aC:aD.L0.D→Prop:=fun(l,bs,n,i)=>(∀b∈bs,Fc b)∧bs.length≤9223372036854775807∧n=bs.length∧∃k:Nat,k≤bs.length∧i=k
def aD.L0.F:aD.L0.D→aD.L0.Y:=fun(l,bs,n,i)=>if(bs.drop i.toNat).all mS then .inr () else .inl ()
def aD.aC:aD.D→Prop:=fun l=>Af l∧l.1.length≤9223372036854775807
def aD.F:aD.D→aD.Y:=fun l=>ji l
noncomputable def aD.G:dH:=eT (P:=Tryz.prog) [bg.sg,bA.sg,dV.sg]
noncomputable def aD.L0.E:=bZ.cP aD.L0.st aD.L0.aC aD.L0.add aD.L0.F aD.L0.out
noncomputable def aD.L0.call:aD.L0.D→Option aD.L0.X:=dI aD.L0.E aD.L0.st
noncomputable def aD.an:ee:= {loops:=lZ [(3,{bn:=[1,3,7,8,9]})],outs:=lY [(3,{bn:=[1]},{bn:=[2]})],fO:=mW [(3,aD.L0.E)]}
noncomputable def aD.A:= @cT Tryz.prog aD.G aD.an 0 Tryz.f77 _ aD.st
abbrev aD.Ok:=cU @aD.A aD.aC aD.add aD.F aD.out
noncomputable def aD.L0.R:= @cC Tryz.prog aD.G aD.an 0 Tryz.f77 0 _ aD.L0.st
abbrev aD.L0.Ok:=eO Tryz.prog aD.G aD.an 0 Tryz.f77 0 aD.L0.st aD.L0.aC aD.L0.add aD.L0.F aD.L0.out
theorem aD.L0.run:bP aD.L0.call aD.L0.aC aD.L0.add aD.L0.F:=fe (eY [.d ye,.d (.slice jt),.d ti,.d ti] fun _=>by kernel_rfl)
theorem aD.L0.aL:p9 @aD.L0.R aD.L0.st aD.L0.aC aD.L0.add aD.L0.F aD.L0.out aD.L0.Ok:=qK
theorem aD.L0.step{R:Type}(l_2:Lk)(t7:(List jG))(t8:Int)(t9:Int)(kn:AS→Option R)(kx:Exit→AS→Option R):aD.L0.R (l_2,t7,t8,t9) kn kx=
  aF ((gQ t9 t8)) (
   aF (fE t9 (((List.length t7):Nat):Int)) (
   aF ((po (((List.length (nth jt t7 (Int.toNat t9)).1):Nat):Int) (12:Int))) (
    kx (aD.L0.bK ()).1 (aD.L0.bK ()).2) (
    ah (bg.call (nth jt t7 (Int.toNat t9)).1) fun x1=>
    aF (x1) (
     kx (aD.L0.bK ()).1 (aD.L0.bK ()).2) (
     ah (bA.call (nth jt t7 (Int.toNat t9)).2.1) fun x2=>
     aF ((!x2)) (
      kx (aD.L0.bK ()).1 (aD.L0.bK ()).2) (
      ah (bA.call (nth jt t7 (Int.toNat t9)).2.2.1) fun x3=>
      aF ((!x3)) (
       kx (aD.L0.bK ()).1 (aD.L0.bK ()).2) (
       aF ((qe (nth jt t7 (Int.toNat t9)).2.2.2.1 (0:Int))) (
        ah (dV.call (nth jt t7 (Int.toNat t9)).2.2.2.1) fun x4=>
        aF (x4) (
         kx (aD.L0.bK ()).1 (aD.L0.bK ()).2) (
         kn (aD.L0.st (l_2,t7,t8,(ck .i64 t9 (1:Int)))))) (
        kn (aD.L0.st (l_2,t7,t8,(ck .i64 t9 (1:Int)))))))))) none) (
   kx (aD.L0.jb l_2).1 (aD.L0.jb l_2).2):=by kernel_rfl
theorem aD.eq{R:Type}(l:Lk)(k:aW→Option R):aD.A l k=
  ah (aD.L0.call (l,l.1,(((List.length l.1):Nat):Int),(0:Int))) fun x5=>
  aF (x5.isLeft) (
   ah (x5.getLeft?) fun a6=>
   k (aD.out false)) (
   ah (x5.getRight?) fun b7=>
   aF ((po (((List.length b7.1):Nat):Int) (0:Int))) (
    k (aD.out (AY (((List.length b7.1):Nat):Int) (4:Int)))) (
    k (aD.out false))):=by kernel_rfl
theorem aD.L0.ok:aD.L0.Ok:=by
 refine aD.L0.aL (fun(l,bs,n,i)=>bs.length - i.toNat) ?_
 rintro⟨l,bs,n,i⟩ ⟨hl,hb,rfl,k,hk,rfl⟩
 have hb:bs.length≤9223372036854775807:=hb
 have hk:k≤bs.length:=hk
 by_cases h:k < bs.length
 ·have hx:Fc bs[k]:=hl _ (List.getElem_mem h)
  have n1:nth (.pair (.slice (.int .u64)) (.pair (.int .i64) (.pair (.int .i64) (.pair (.int .u64) .unit)))) bs k=bs[k]:=du (t:=(.pair (.slice (.int .u64)) (.pair (.int .i64) (.pair (.int .i64) (.pair (.int .u64) .unit))))) h
  have hd:(bs.drop k).all mS=(mS bs[k] && (bs.drop (k+1)).all mS):=by rw[List.drop_eq_getElem_cons h,List.all_cons]
  have step:∀ {R:Type} (kn:AS→Option R) (kx:Exit→AS→Option R),aD.L0.R (l,bs,(bs.length:Int),(k:Int)) kn kx=aF (mS bs[k]) (kn (aD.L0.st (l,bs,(bs.length:Int),((k+1:Nat):Int)))) (kx (aD.L0.bK ()).1 (aD.L0.bK ()).2):=by
   intro R kn kx
   rw[aD.L0.step,bq (by omega),bw (by omega) (by omega),Int.toNat_natCast,n1,N.nW (by omega)]
   obtain⟨⟨ks,af,dl,sc,u⟩,hbk⟩:∃b,bs[k]=b:=⟨_,rfl⟩
   rw[hbk]at hx ⊢
   have h1:l6 ks:=hx.1
   have h2:gX sc:=hx.2
   simp only[ao,mS]
   by_cases hk:ks.length≤12
   ·rw[dF (by omega),bg.run (d:=ks) ⟨h1,by omega⟩,bA.run (d:=af) trivial,bA.run (d:=dl) trivial,dV.run (d:=sc) h2,bf hk]
    simp only[aw,aa,bg.add,bg.F,bA.add,bA.F,dV.add,dV.F,Bool.true_and]
    cases ks.all kL
    ·rfl
    cases qd af
    ·rfl
    cases qd dl
    ·rfl
    by_cases hs:sc=0
    ·rw[eM hs,bf hs];rfl
    ·rw[fv hs,bI hs]
     cases kL sc <;> rfl
   ·rw[dT (by omega),bI hk];rfl
  cases hp:mS bs[k]
  ·right
   refine⟨aD.L0.bK (),?_,fun kn kx=> ?_⟩
   ·simp only[aD.L0.add,aD.L0.F,Int.toNat_natCast,hd,hp,Bool.false_and,Bool.false_eq_true,if_false]
    rfl
   ·rw[step,hp,aw]
  ·left
   refine⟨(l,bs,bs.length,((k+1:Nat):Int)),⟨hl,hb,rfl,k+1,by omega,rfl⟩,by simp only[Int.toNat_natCast];omega,?_,fun kn kx=> ?_⟩
   ·simp only[aD.L0.add,aD.L0.F,Int.toNat_natCast,hd,hp,Bool.true_and]
   ·rw[step,hp,ao]
 ·right
  obtain rfl:k=bs.length:=by omega
  refine⟨aD.L0.jb l,?_,fun kn kx=> ?_⟩
  ·simp only[aD.L0.add,aD.L0.F,Int.toNat_natCast,List.drop_length]
   rfl
  ·rw[aD.L0.step]
   simp(disch:=omega) only[↓S1,↓if_pos,↓if_neg,if_pos,if_neg,if_true,if_false,S2]
theorem aD.ok:aD.Ok:=by
 rintro l ⟨hl,hb⟩
 have hb:l.1.length≤9223372036854775807:=hb
 rw[aD.eq,aD.L0.run (d:=(l,l.1,l.1.length,0)) ⟨hl,hb,rfl,0,by omega,rfl⟩]
 simp only[aa,aD.L0.add,aD.L0.F,Int.toNat_zero,List.drop_zero,aD.add,aD.F,ji]
 cases l.1.all mS
 ·rfl
 ·simp only[if_true,Bool.true_and]
  show aF (po _ _) _ _=_
  by_cases h0:0 < l.1.length
  ·rw[dT (by omega)]
   by_cases h4:l.1.length≤4
   ·rw[oo (by omega),bf ⟨h0,h4⟩];rfl
   ·rw[kY (by omega),bI (fun x=>h4 x.2)];rfl
  ·rw[dF (by omega),bI (fun x=>h0 x.1)];rfl
noncomputable def aD.E:=Entry.cP [some ye] aD.st aD.aC aD.add aD.F aD.out
noncomputable def aD.call:aD.D→Option aD.X:=bS aD.E aD.st
theorem aD.run:bP aD.call aD.aC aD.add aD.F:=de (cZ [.d ye] fun _=>by kernel_rfl)
noncomputable def aD.sg:SG Tryz.prog:=⟨77,aV,aD.E,.fn 1 (by kernel_rfl) aD.ok (And.intro (.cP aD.L0.ok (by kernel_rfl)) trivial)⟩
def jB(m:List Int):List Int→List Sg→Bool
 |[],_=>true
 |p::ps,ss=>jZ p m 1 (ss.headD (0,0,())) && jB m ps ss.tail
def kB(l:Lk)(w:sY)(m:List Int)(height age:Int):Int:=
 if ji l=false∨w.1 < 0∨w.1≥l.1.length then 1
 else
  let b:=nth (.pair (.slice (.int .u64)) (.pair (.int .i64) (.pair (.int .i64) (.pair (.int .u64) .unit)))) l.1 w.1.toNat
  if height < b.2.1∨age < b.2.2.1 then 11
  else if b.2.2.2.1≠0∧dP w.2.2.1≠b.2.2.2.1 then 23
  else if w.2.1.length≠b.1.length then 7
  else if jB m b.1 w.2.1 then 0 else 7
theorem Aa(m:List Int)(ks:List Int)(ss:List Sg)(h:ss.length=ks.length)(k:Nat)(hk:k < ks.length):jB m (ks.drop k) (ss.drop k)=(jZ ks[k] m 1 (ss[k]'(by omega)) && jB m (ks.drop (k+1)) (ss.drop (k+1))):=by
 rw[List.drop_eq_getElem_cons hk,List.drop_eq_getElem_cons (by omega:k < ss.length)]
 rfl
def w7(w:sY):Prop:=(∀s∈w.2.1,EA s)∧gX w.2.2.1
abbrev aU.L0.D:=sY×Bs×Bs×Int×Int
def aU.L0.st:aU.L0.D→AS:=fun(wv_2,m_2,t68,t69,t70)=>⟨(bm 6 ([.dZ B5 wv_2,.dZ tH m_2]++bm 60 ([.d tU t68,.d ti t69,.d ti t70]++bm 14 []))),[],(List.replicate 85 [])⟩
abbrev aU.L0.Y0:=Unit
abbrev aU.L0.X0:=Unit
def aU.L0.bK:aU.L0.X0→Exit×AS:=fun x=>(.ret,⟨(bm 10 ([.d ti (7:Int)]++bm 74 [])),[],(List.replicate 85 [])⟩)
abbrev aU.L0.Y1:=Unit
abbrev aU.L0.X1:=Unit
def aU.L0.jb:aU.L0.X1→Exit×AS:=fun x=>(.exit 1,⟨(bm 85 []),[],(List.replicate 85 [])⟩)
abbrev aU.L0.X:=(aU.L0.X0)⊕(aU.L0.X1)
abbrev aU.L0.Y:=(aU.L0.Y0)⊕(aU.L0.Y1)
def aU.L0.out:aU.L0.X→Out (Exit×AS):=fun x=> .br x.isLeft (.get x.getLeft? fun a=> .ok (aU.L0.bK a)) (.get x.getRight? fun b=> .ok (aU.L0.jb b))
def aU.L0.add:aU.L0.D→aU.L0.Y→aU.L0.X:=fun(wv_2,m_2,t68,t69,t70) y=>match y with | .inl y=> .inl y | .inr z=> .inr (z)
abbrev aU.D:=Lk×sY×Bs×Int×Int
def aU.st:aU.D→SA:=fun(l,wv,m,height,age)=>([.d ye l,.d B5 wv,.d tH m,.d ti height,.d ti age],[])
abbrev aU.Y:=Int
abbrev aU.X:=Int
def aU.out:aU.X→aW:=fun x=>⟨.d ti x,[],[]⟩
def aU.add:aU.D→aU.Y→aU.X:=fun(l,wv,m,height,age) y=>y
def aU.L0.aC:aU.L0.D→Prop:=fun(w,m,ks,n,i)=>w7 w∧Sm m∧l6 ks∧ks.length≤1000000000∧w.2.1.length=ks.length∧n=ks.length∧∃k:Nat,k≤ks.length∧i=k
def aU.L0.F:aU.L0.D→aU.L0.Y:=fun(w,m,ks,n,i)=>if jB m (ks.drop i.toNat) (w.2.1.drop i.toNat) then .inr () else .inl ()
def aU.aC:aU.D→Prop:=fun(l,w,m,h,a)=>Af l∧l.1.length≤9223372036854775807∧w7 w∧Sm m
def aU.F:aU.D→aU.Y:=fun(l,w,m,h,a)=>kB l w m h a
noncomputable def aU.G:dH:=eT (P:=Tryz.prog) [aD.sg,cv.sg,bM.sg]
noncomputable def aU.L0.E:=bZ.cP aU.L0.st aU.L0.aC aU.L0.add aU.L0.F aU.L0.out
noncomputable def aU.L0.call:aU.L0.D→Option aU.L0.X:=dI aU.L0.E aU.L0.st
noncomputable def aU.an:ee:= {loops:=lZ [(11,{bn:=[6,7,68,69,70]})],outs:=lY [(11,{},{bn:=[10]})],fO:=mW [(11,aU.L0.E)]}
noncomputable def aU.A:= @cT Tryz.prog aU.G aU.an 0 Tryz.f84 _ aU.st
abbrev aU.Ok:=cU @aU.A aU.aC aU.add aU.F aU.out
noncomputable def aU.L0.R:= @cC Tryz.prog aU.G aU.an 0 Tryz.f84 0 _ aU.L0.st
abbrev aU.L0.Ok:=eO Tryz.prog aU.G aU.an 0 Tryz.f84 0 aU.L0.st aU.L0.aC aU.L0.add aU.L0.F aU.L0.out
theorem aU.L0.run:bP aU.L0.call aU.L0.aC aU.L0.add aU.L0.F:=fe (eY [.d B5,.d tH,.d tU,.d ti,.d ti] fun _=>by kernel_rfl)
theorem aU.L0.aL:p9 @aU.L0.R aU.L0.st aU.L0.aC aU.L0.add aU.L0.F aU.L0.out aU.L0.Ok:=qK
theorem aU.L0.step{R:Type}(wv_2:sY)(m_2:Bs)(t68:Bs)(t69:Int)(t70:Int)(kn:AS→Option R)(kx:Exit→AS→Option R):aU.L0.R (wv_2,m_2,t68,t69,t70) kn kx=
  aF ((gQ t70 t69)) (
   aF (fE t70 (((List.length t68):Nat):Int)) (
   aF (fE t70 (((List.length wv_2.2.1):Nat):Int)) (
   ah (bM.call ((nth tu t68 (Int.toNat t70)),m_2,(nth uU wv_2.2.1 (Int.toNat t70)))) fun x1=>
   aF ((!x1)) (
    kx (aU.L0.bK ()).1 (aU.L0.bK ()).2) (
    kn (aU.L0.st (wv_2,m_2,t68,t69,(ck .i64 t70 (1:Int)))))) none) none) (
   kx (aU.L0.jb ()).1 (aU.L0.jb ()).2):=by kernel_rfl
theorem aU.eq{R:Type}(l:Lk)(wv:sY)(m:Bs)(height:Int)(age:Int)(k:aW→Option R):aU.A (l,wv,m,height,age) k=
  ah (aD.call l) fun x1=>
  aF ((!x1)) (
   k (aU.out (1:Int))) (
   aF ((gQ wv.1 (0:Int))) (
    k (aU.out (1:Int))) (
    aF ((mV wv.1 (((List.length l.1):Nat):Int))) (
     k (aU.out (1:Int))) (
     aF (fE wv.1 (((List.length l.1):Nat):Int)) (
     aF ((gQ height (nth jt l.1 (Int.toNat wv.1)).2.1)) (
      k (aU.out (11:Int))) (
      aF ((gQ age (nth jt l.1 (Int.toNat wv.1)).2.2.1)) (
       k (aU.out (11:Int))) (
       aF ((qe (nth jt l.1 (Int.toNat wv.1)).2.2.2.1 (0:Int))) (
        ah (cv.call wv.2.2.1) fun x2=>
        aF ((qe x2 (nth jt l.1 (Int.toNat wv.1)).2.2.2.1)) (
         k (aU.out (23:Int))) (
         aF ((qe (((List.length wv.2.1):Nat):Int) (((List.length (nth jt l.1 (Int.toNat wv.1)).1):Nat):Int))) (
          k (aU.out (7:Int))) (
          ah (aU.L0.call (wv,m,(nth jt l.1 (Int.toNat wv.1)).1,(((List.length (nth jt l.1 (Int.toNat wv.1)).1):Nat):Int),(0:Int))) fun x4=>
          aF (x4.isLeft) (
           ah (x4.getLeft?) fun a5=>
           k (aU.out (7:Int))) (
           ah (x4.getRight?) fun b6=>
           k (aU.out (0:Int)))))) (
        aF ((qe (((List.length wv.2.1):Nat):Int) (((List.length (nth jt l.1 (Int.toNat wv.1)).1):Nat):Int))) (
         k (aU.out (7:Int))) (
         ah (aU.L0.call (wv,m,(nth jt l.1 (Int.toNat wv.1)).1,(((List.length (nth jt l.1 (Int.toNat wv.1)).1):Nat):Int),(0:Int))) fun x7=>
         aF (x7.isLeft) (
          ah (x7.getLeft?) fun a8=>
          k (aU.out (7:Int))) (
          ah (x7.getRight?) fun b9=>
          k (aU.out (0:Int)))))))) none))):=by kernel_rfl
theorem aU.L0.ok:aU.L0.Ok:=by
 refine aU.L0.aL (fun(w,m,ks,n,i)=>ks.length - i.toNat) ?_
 rintro⟨w,m,ks,n,i⟩ ⟨hw,hm,hl,hb,hs,rfl,k,hk,rfl⟩
 have hb:ks.length≤1000000000:=hb
 have hk:k≤ks.length:=hk
 have hs:w.2.1.length=ks.length:=hs
 by_cases h:k < ks.length
 ·have hx:=hl _ (List.getElem_mem h)
  have hy:=hw.1 _ (List.getElem_mem (by omega:k < w.2.1.length))
  have n1:nth (.int .u64) ks k=ks[k]:=du (t:= .int .u64) h
  have n2:nth (.pair (.int .u64) (.pair (.int .u64) .unit)) w.2.1 k=w.2.1[k]'(by omega):=du (t:=(.pair (.int .u64) (.pair (.int .u64) .unit))) (by omega)
  have hd:=Aa m ks w.2.1 hs k h
  have step:∀ {R:Type} (kn:AS→Option R) (kx:Exit→AS→Option R),aU.L0.R (w,m,ks,(ks.length:Int),(k:Int)) kn kx=aF (jZ ks[k] m 1 (w.2.1[k]'(by omega))) (kn (aU.L0.st (w,m,ks,(ks.length:Int),((k+1:Nat):Int)))) (kx (aU.L0.bK ()).1 (aU.L0.bK ()).2):=by
   intro R kn kx
   rw[aU.L0.step,bq (by omega),bw (by omega) (by omega),bw (by omega) (by omega),Int.toNat_natCast,n1,n2,N.nW (by omega),bM.run (d:=(ks[k],m,w.2.1[k]'(by omega))) ⟨hx,hm,hy⟩]
   simp only[ao,aa,bM.add,bM.F]
   cases jZ ks[k] m 1 (w.2.1[k]'(by omega)) <;> rfl
  cases hp:jZ ks[k] m 1 (w.2.1[k]'(by omega))
  ·right
   refine⟨aU.L0.bK (),?_,fun kn kx=> ?_⟩
   ·simp only[aU.L0.add,aU.L0.F,Int.toNat_natCast,hd,hp,Bool.false_and,Bool.false_eq_true,if_false]
    rfl
   ·rw[step,hp,aw]
  ·left
   refine⟨(w,m,ks,ks.length,((k+1:Nat):Int)),⟨hw,hm,hl,hb,hs,rfl,k+1,by omega,rfl⟩,by simp only[Int.toNat_natCast];omega,?_,fun kn kx=> ?_⟩
   ·simp only[aU.L0.add,aU.L0.F,Int.toNat_natCast,hd,hp,Bool.true_and]
   ·rw[step,hp,ao]
 ·right
  obtain rfl:k=ks.length:=by omega
  refine⟨aU.L0.jb (),?_,fun kn kx=> ?_⟩
  ·simp only[aU.L0.add,aU.L0.F,Int.toNat_natCast,List.drop_length]
   rfl
  ·rw[aU.L0.step]
   simp(disch:=omega) only[↓S1,↓if_pos,↓if_neg,if_pos,if_neg,if_true,if_false,S2]
theorem zz{l:Lk}(h:ji l=true){b:jG}(hb:b∈l.1):b.1.length≤12:=by
 unfold ji at h
 rw[Bool.and_eq_true,List.all_eq_true]at h
 have:=h.1 b hb
 unfold mS at this
 rw[Bool.and_eq_true]at this
 simpa using this.1
theorem aU.ok:aU.Ok:=by
  rintro⟨l,w,m,h,a⟩ ⟨hl,hb,hw,hm⟩
  have hl:Af l:=hl
  have hb:l.1.length≤9223372036854775807:=hb
  have hw:w7 w:=hw
  have hm:Sm m:=hm
  rw[aU.eq,aD.run (d:=l) ⟨hl,hb⟩]
  simp only[aa,aD.add,aD.F,aU.add,aU.F,kB]
  cases hok:ji l
  · rw[if_pos (Or.inl rfl)];rfl
  by_cases h0:w.1 < 0
  · rw[bq h0,if_pos (Or.inr (Or.inl h0))];rfl
  by_cases h1:w.1≥l.1.length
  · rw[bl h0,fi h1,if_pos (Or.inr (Or.inr h1))];rfl
  rw[bl h0,ei h1,bw (by omega) (by omega),if_neg (by simp[h0];omega)]
  have hn:w.1.toNat < l.1.length:=by omega
  have n1:nth (.pair (.slice (.int .u64)) (.pair (.int .i64) (.pair (.int .i64) (.pair (.int .u64) .unit)))) l.1 w.1.toNat=l.1[w.1.toNat]:=du (t:=(.pair (.slice (.int .u64)) (.pair (.int .i64) (.pair (.int .i64) (.pair (.int .u64) .unit))))) hn
  rw[n1]
  have hx:Fc l.1[w.1.toNat]:=hl _ (List.getElem_mem hn)
  have hkl:=zz hok (List.getElem_mem hn)
  obtain⟨⟨ks,af,dl,sc,u⟩,hbk⟩:∃b,l.1[w.1.toNat]=b:=⟨_,rfl⟩
  rw[hbk]at hx hkl ⊢
  have hks:l6 ks:=hx.1
  have hkl:ks.length≤12:=hkl
  simp only[Bool.not_true,aw,ao]
  by_cases e1:h < af
  · rw[bq e1,if_pos (Or.inl e1)];rfl
  by_cases e2:a < dl
  · rw[bl e1,bq e2,if_pos (Or.inr e2)];rfl
  rw[bl e1,bl e2,if_neg (by simp[e1,e2]),cv.run (d:=w.2.2.1) hw.2]
  simp only[aw,aa,cv.add,cv.F]
  have last:aF (qe ((w.2.1.length:Nat):Int) ((ks.length:Nat):Int)) (some (aU.out (7:Int))) (
          ah (aU.L0.call (w,m,ks,((ks.length:Nat):Int),(0:Int))) fun x4=>
          aF (x4.isLeft) (ah (x4.getLeft?) fun a5=>some (aU.out (7:Int))) (ah (x4.getRight?) fun b6=>some (aU.out (0:Int))))=some (aU.out (if w.2.1.length≠ks.length then 7 else if jB m ks w.2.1 then 0 else 7)):=by
    by_cases e3:w.2.1.length=ks.length
    · rw[eM (by omega),if_neg (by simp[e3]),aw,aU.L0.run (d:=(w,m,ks,ks.length,0)) ⟨hw,hm,hks,by show ks.length≤1000000000;omega,e3,rfl,0,by omega,rfl⟩]
      simp only[aa,aU.L0.add,aU.L0.F,Int.toNat_zero,List.drop_zero]
      cases jB m ks w.2.1 <;> rfl
    · rw[fv (by omega),if_pos e3];rfl
  by_cases e4:sc=0
  · rw[eM e4,if_neg (by simp[e4]),aw]
    exact last
  · rw[fv e4,ao]
    by_cases e5:dP w.2.2.1=sc
    · rw[eM e5,if_neg (by simp[e5]),aw]
      exact last
    · rw[fv e5,if_pos ⟨e4,e5⟩];rfl
noncomputable def aU.E:=Entry.cP [some ye,some B5,some tH,some ti,some ti] aU.st aU.aC aU.add aU.F aU.out
noncomputable def aU.call:aU.D→Option aU.X:=bS aU.E aU.st
theorem aU.run:bP aU.call aU.aC aU.add aU.F:=de (cZ [.d ye,.d B5,.d tB,.d ti,.d ti] fun _=>by kernel_rfl)
noncomputable def aU.sg:SG Tryz.prog:=⟨84,aV,aU.E,.fn 1 (by kernel_rfl) aU.ok (And.intro (.cP aU.L0.ok (by kernel_rfl)) trivial)⟩
set_option synthInstance.maxSize 5000
abbrev dj.D:=Int
def dj.st:dj.D→SA:=fun n=>([.dq,.d ti n],[])
abbrev dj.Y:=Nat×(List Int)
abbrev dj.X:=Nat×(List Int)
def dj.out:dj.X→aW:=fun x=>⟨.bt (.new 0 0) 0 [] 0 0 x.1,[],[.obj 0 false (.vec 5 tb x.2)]⟩
def dj.add:dj.D→dj.Y→dj.X:=fun n y=>y
def dj.aC:dj.D→Prop:=fun n=>∃k:Nat,n=k∧k≤100000000
def dj.F:dj.D→dj.Y:=fun n=>(0,List.replicate n.toNat 0)
noncomputable def dj.G:dH:=eT (P:=Tryz.prog) []
noncomputable def dj.an:ee:= {kO:=[⟨4,[],22,140⟩]}
noncomputable def dj.A:= @cT Tryz.prog dj.G dj.an 0 Tryz.f249 _ dj.st
abbrev dj.Ok:=cU @dj.A dj.aC dj.add dj.F dj.out
theorem dj.eq{R:Type}(n:Int)(k:aW→Option R):dj.A n k=
  aF ((gQ n (0:Int))) (
   none) (
   aF ((po (cH .i64 n (0:Int)) (0:Int))) (
    aF (decide (0 < (cH .i64 n (0:Int))) && dr (Int.toNat (cH .i64 n (0:Int))) 1) (
    aF (inc (0:Int) (((Int.toNat (cH .i64 n (0:Int))):Nat):Int)) (
    k (dj.out (0,(List.replicate (Int.toNat (cH .i64 n (0:Int))) (0:Int))))) none) none) (
    k (dj.out (0,([]:List Int))))):=by kernel_rfl
theorem dj.ok:dj.Ok:=by
 rintro n ⟨k,rfl,hk⟩
 have e:cH .i64 (k:Int) 0=(k:Int):=by rw[dU (by omega) (by omega)];omega
 rw[dj.eq,e,bl (by omega),aw]
 by_cases h:0 < k
 ·rw[dT (by omega),Int.toNat_natCast,bf (by omega),eG (by omega) (by omega),kZ (by omega) (by omega)]
  rfl
 ·obtain rfl:k=0:=by omega
  rfl
noncomputable def dj.E:=Entry.cP [none,some ti] dj.st dj.aC dj.add dj.F dj.out
noncomputable def dj.call:dj.D→Option dj.X:=bS dj.E dj.st
theorem dj.run:bP dj.call dj.aC dj.add dj.F:=de (cZ [.d ti] fun _=>by kernel_rfl)
noncomputable def dj.sg:SG Tryz.prog:=⟨249,aV,dj.E,.fn 0 (by kernel_rfl) dj.ok trivial⟩
def ix(l:List (List Int)):Nat:=l.flatten.length
def sD(n:Nat)(l:List Int):List (List Int)→Nat×List Int
 |[]=>(n,l)
 |s::r=>(n+(s::r).flatten.length,l.take n++(s::r).flatten)
theorem zg(n:Nat)(l s:List Int)(r:List (List Int))(h:n≤l.length):sD n l (s::r)=sD (n+s.length) (l.take n++s) r:=by
 have hl:(l.take n++s).length=n+s.length:=by rw[List.length_append,List.length_take];omega
 cases r with
 |nil=>simp[sD]
 |cons t r=>
  simp only[sD]
  rw[List.take_of_length_le (Nat.le_of_eq hl)]
  simp only[List.flatten_cons,List.length_append,List.append_assoc,Nat.add_assoc]
theorem Ch(n:Nat)(z:List Int)(r:List (List Int)):(sD 0 z r).1≤(sD 0 z r).2.length∧cut (sD 0 z r).2 0 (sD 0 z r).1=r.flatten:=by
 cases r with
 |nil=>exact⟨Nat.zero_le _,rfl⟩
 |cons s r=>
  simp only[sD,List.take_zero,List.nil_append,Nat.zero_add]
  exact⟨Nat.le_refl _,by show List.take _ (List.drop 0 _)=_;rw[List.drop_zero,List.take_length]⟩
abbrev al.L0.D:=(List Bs)×Int×(List Bs)×Int×Int
def al.L0.st:al.L0.D→AS:=fun(slices_2,size,t9,t10,t11)=>⟨([.d (.slice tB) slices_2,.undef,.undef,.d ti size]++bm 5 ([.d (.slice tB) t9,.d ti t10,.d ti t11]++bm 24 [])),[],(List.replicate 36 [])⟩
abbrev al.L0.Y0:=Int
abbrev al.L0.X0:=((List Bs))×(Int)
def al.L0.bK:al.L0.X0→Exit×AS:=fun x=>(.exit 0,⟨([.d (.slice tB) x.1,.undef,.undef,.d ti x.2]++bm 32 []),[],(List.replicate 36 [])⟩)
abbrev al.L0.X:=al.L0.X0
abbrev al.L0.Y:=al.L0.Y0
def al.L0.out:al.L0.X→Out (Exit×AS):=fun x=> .ok (al.L0.bK x)
def al.L0.add:al.L0.D→al.L0.Y→al.L0.X:=fun(slices_2,size,t9,t10,t11) y=>(slices_2,y)
abbrev al.L1.D:=Nat×(List Bs)×Int×Int×(List Int)
def al.L1.st:al.L1.D→AS:=fun(newsliceL,t25,t26,t27,n24)=>⟨(bm 6 ([.bt (.new 24 0) 0 [] 0 0 newsliceL]++bm 18 ([.d (.slice tB) t25,.d ti t26,.d ti t27]++bm 8 []))),[],(cr 24 ([[.obj 0 false (.vec 5 tb n24)]]++cr 11 []))⟩
abbrev al.L1.Y0:=Nat×(List Int)
abbrev al.L1.X0:=Nat×(List Int)
def al.L1.bK:al.L1.X0→Exit×AS:=fun x=>(.exit 2,⟨(bm 6 ([.bt (.new 24 0) 0 [] 0 0 x.1]++bm 29 [])),[],(cr 24 ([[.obj 0 false (.vec 5 tb x.2)]]++cr 11 []))⟩)
abbrev al.L1.X:=al.L1.X0
abbrev al.L1.Y:=al.L1.Y0
def al.L1.out:al.L1.X→Out (Exit×AS):=fun x=> .ok (al.L1.bK x)
def al.L1.add:al.L1.D→al.L1.Y→al.L1.X:=fun(newsliceL,t25,t26,t27,n24) y=>y
abbrev al.D:=(List Bs)
def al.st:al.D→SA:=fun slices=>([.d (.slice tB) slices],[])
abbrev al.Y:=Bs
abbrev al.X:=Bs
def al.out:al.X→aW:=fun x=>⟨.d tB x,[],[]⟩
def al.add:al.D→al.Y→al.X:=fun slices y=>y
def al.L0.aC:al.L0.D→Prop:=fun(s,size,t,n,i)=>s.length≤1000000∧t=s∧n=s.length∧∃k z:Nat,k≤s.length∧i=k∧size=z∧z+ix (s.drop k)≤100000000
def al.L0.F:al.L0.D→al.L0.Y:=fun(s,size,t,n,i)=>((size:Int)+((ix (s.drop i.toNat):Nat):Int):Int)
def al.L1.aC:al.L1.D→Prop:=fun(n,s,t,i,l)=>s.length≤1000000∧n≤l.length∧t=s.length∧∃k:Nat,k≤s.length∧i=k∧n+ix (s.drop k)≤100000000
def al.L1.F:al.L1.D→al.L1.Y:=fun(n,s,t,i,l)=>sD n l (s.drop i.toNat)
def al.aC:al.D→Prop:=fun s=>s.length≤1000000∧ix s≤100000000
def al.F:al.D→al.Y:=fun s=>s.flatten
noncomputable def al.G:dH:=eT (P:=Tryz.prog) [dj.sg]
noncomputable def al.L0.E:=bZ.cP al.L0.st al.L0.aC al.L0.add al.L0.F al.L0.out
noncomputable def al.L0.call:al.L0.D→Option al.L0.X:=dI al.L0.E al.L0.st
noncomputable def al.L1.E:=bZ.cP al.L1.st al.L1.aC al.L1.add al.L1.F al.L1.out
noncomputable def al.L1.call:al.L1.D→Option al.L1.X:=dI al.L1.E al.L1.st
noncomputable def al.an:ee:= {loops:=lZ [(3,{bn:=[0,3,9,10,11]}),(11,{bn:=[6,25,26,27],sites:=[24],kO:=[⟨6,[],24,140⟩]})],outs:=lY [(3,{bn:=[0,3]},{bn:=[2]}),(11,{bn:=[6],sites:=[24]},{bn:=[2]})],fO:=mW [(3,al.L0.E),(11,al.L1.E)],res:=[some tB]}
noncomputable def al.A:= @cT Tryz.prog al.G al.an 0 Tryz.f203 _ al.st
abbrev al.Ok:=cU @al.A al.aC al.add al.F al.out
noncomputable def al.L0.R:= @cC Tryz.prog al.G al.an 0 Tryz.f203 0 _ al.L0.st
abbrev al.L0.Ok:=eO Tryz.prog al.G al.an 0 Tryz.f203 0 al.L0.st al.L0.aC al.L0.add al.L0.F al.L0.out
noncomputable def al.L1.R:= @cC Tryz.prog al.G al.an 0 Tryz.f203 1 _ al.L1.st
abbrev al.L1.Ok:=eO Tryz.prog al.G al.an 0 Tryz.f203 1 al.L1.st al.L1.aC al.L1.add al.L1.F al.L1.out
theorem al.L0.run:bP al.L0.call al.L0.aC al.L0.add al.L0.F:=fe (eY [.d (.slice tB),.d ti,.d (.slice tB),.d ti,.d ti] fun _=>by kernel_rfl)
theorem al.L0.aL:ga @al.L0.R al.L0.st al.L0.aC al.L0.add al.L0.F al.L0.bK al.L0.Ok:=gw
theorem al.L0.step{R:Type}(slices_2:(List Bs))(size:Int)(t9:(List Bs))(t10:Int)(t11:Int)(kn:AS→Option R)(kx:Exit→AS→Option R):al.L0.R (slices_2,size,t9,t10,t11) kn kx=
  aF ((gQ t11 t10)) (
   aF (fE t11 (((List.length t9):Nat):Int)) (
   aF ((gQ (ck .i64 size (((List.length (nth tB t9 (Int.toNat t11))):Nat):Int)) (0:Int))) (
    none) (
    kn (al.L0.st (slices_2,(ck .i64 size (((List.length (nth tB t9 (Int.toNat t11))):Nat):Int)),t9,t10,(ck .i64 t11 (1:Int)))))) none) (
   kx (al.L0.bK (slices_2,size)).1 (al.L0.bK (slices_2,size)).2):=by kernel_rfl
theorem al.L1.run:bP al.L1.call al.L1.aC al.L1.add al.L1.F:=fe (eY [.n,.d (.slice tB),.d ti,.d ti,.d tB] fun _=>by kernel_rfl)
theorem al.L1.aL:ga @al.L1.R al.L1.st al.L1.aC al.L1.add al.L1.F al.L1.bK al.L1.Ok:=gw
theorem al.L1.step{R:Type}(newsliceL:Nat)(t25:(List Bs))(t26:Int)(t27:Int)(n24:(List Int))(kn:AS→Option R)(kx:Exit→AS→Option R):al.L1.R (newsliceL,t25,t26,t27,n24) kn kx=
  aF ((gQ t27 t26)) (
   aF (fE t27 (((List.length t25):Nat):Int)) (
   aF (decide (newsliceL≤(List.length n24))) (
   aF (dr (newsliceL+(List.length (nth tB t25 (Int.toNat t27)))) 1) (
   kn (al.L1.st ((newsliceL+(List.length (nth tB t25 (Int.toNat t27)))),t25,t26,(ck .i64 t27 (1:Int)),((List.take newsliceL n24)++(nth tB t25 (Int.toNat t27)))))) none) none) none) (
   kx (al.L1.bK (newsliceL,n24)).1 (al.L1.bK (newsliceL,n24)).2):=by kernel_rfl
theorem al.eq{R:Type}(slices:(List Bs))(k:aW→Option R):al.A slices k=
 ah (al.L0.call (slices,(0:Int),slices,(((List.length slices):Nat):Int),(0:Int))) fun x1=>
 ah (dj.call x1.2) fun x2=>
 ah (al.L1.call (x2.1,x1.1,(((List.length x1.1):Nat):Int),(0:Int),x2.2)) fun x3=>
 aF (decide (0=0∧(0+x3.1)≤(List.length x3.2))) (
 k (al.out (cut x3.2 0 x3.1))) none:=by kernel_rfl
theorem yE(s:List (List Int))(k:Nat)(h:k < s.length):ix (s.drop k)=s[k].length+ix (s.drop (k+1)):=by
 unfold ix
 rw[List.drop_eq_getElem_cons h,List.flatten_cons,List.length_append]
theorem al.L0.ok:al.L0.Ok:=by
 refine al.L0.aL (fun(s,size,t,n,i)=>s.length - i.toNat) ?_
 rintro⟨s,size,t,n,i⟩ ⟨hs,rfl,rfl,k,z,hk,rfl,rfl,hz⟩
 have hs:t.length≤1000000:=hs
 have hk:k≤t.length:=hk
 have hz:z+ix (t.drop k)≤100000000:=hz
 by_cases h:k < t.length
 ·left
  have n1:nth (.slice (.int .u8)) t k=t[k]:=du (t:= .slice (.int .u8)) h
  have hd:=yE t k h
  refine⟨(t,((z+t[k].length:Nat):Int),t,t.length,((k+1:Nat):Int)),⟨hs,rfl,rfl,k+1,z+t[k].length,by omega,rfl,rfl,by omega⟩,by simp only[Int.toNat_natCast];omega,?_,fun kn kx=> ?_⟩
  ·simp only[al.L0.add,al.L0.F,Int.toNat_natCast]
   rw[hd]
   refine congrArg _ ?_
   omega
  ·rw[al.L0.step]
   simp(disch:=omega) only[↓S1,↓if_pos,↓if_neg,if_pos,if_neg,if_true,if_false,S2,n1]
 ·right
  obtain rfl:k=t.length:=by omega
  intro R kn kx
  rw[al.L0.step]
  simp(disch:=omega) only[↓S1,↓if_pos,↓if_neg,if_pos,if_neg,if_true,if_false,S2,al.L0.add,al.L0.F,List.drop_length]
  simp only[ix,List.flatten_nil,List.length_nil,Int.natCast_zero,Int.add_zero]
theorem al.L1.ok:al.L1.Ok:=by
 refine al.L1.aL (fun(n,s,t,i,l)=>s.length - i.toNat) ?_
 rintro⟨n,s,t,i,l⟩ ⟨hs,hn,rfl,k,hk,rfl,hz⟩
 have hs:s.length≤1000000:=hs
 have hn:n≤l.length:=hn
 have hk:k≤s.length:=hk
 have hz:n+ix (s.drop k)≤100000000:=hz
 by_cases h:k < s.length
 ·left
  have n1:nth (.slice (.int .u8)) s k=s[k]:=du (t:= .slice (.int .u8)) h
  have hd:=yE s k h
  refine⟨(n+s[k].length,s,s.length,((k+1:Nat):Int),l.take n++s[k]),⟨hs,by rw[List.length_append,List.length_take];omega,rfl,k+1,by omega,rfl,by omega⟩,by simp only[Int.toNat_natCast];omega,?_,fun kn kx=> ?_⟩
  ·simp only[al.L1.add,al.L1.F,Int.toNat_natCast]
   rw[List.drop_eq_getElem_cons h,zg _ _ _ _ hn]
  ·rw[al.L1.step]
   simp(disch:=omega) only[↓S1,↓if_pos,↓if_neg,if_pos,if_neg,if_true,if_false,S2,n1]
 ·right
  obtain rfl:k=s.length:=by omega
  intro R kn kx
  rw[al.L1.step]
  simp(disch:=omega) only[↓S1,↓if_pos,↓if_neg,if_pos,if_neg,if_true,if_false,S2,al.L1.add,al.L1.F,List.drop_length]
  rfl
theorem al.ok:al.Ok:=by
 rintro s ⟨hs,hz⟩
 have hs:s.length≤1000000:=hs
 have hz:ix s≤100000000:=hz
 have p1:al.L0.aC (s,0,s,s.length,0):=⟨hs,rfl,rfl,0,0,by omega,rfl,rfl,by rw[List.drop_zero];omega⟩
 have p2:al.L1.aC (0,s,s.length,0,List.replicate (ix s) 0):=⟨hs,by omega,rfl,0,by omega,rfl,by rw[List.drop_zero];omega⟩
 rw[al.eq,al.L0.run p1]
 simp only[aa,al.L0.add,al.L0.F,Int.toNat_zero,List.drop_zero,Int.zero_add]
 rw[dj.run (d:=((ix s:Nat):Int)) ⟨ix s,rfl,hz⟩]
 simp only[aa,dj.add,dj.F,Int.toNat_natCast]
 rw[al.L1.run p2]
 simp only[aa,al.L1.add,al.L1.F,Int.toNat_zero,List.drop_zero]
 obtain⟨c1,c2⟩:=Ch 0 (List.replicate (ix s) 0) s
 simp only[Nat.zero_add,c1,and_self,decide_true,ao,c2]
 rfl
noncomputable def al.E:=Entry.cP [some (.slice tB)] al.st al.aC al.add al.F al.out
noncomputable def al.call:al.D→Option al.X:=bS al.E al.st
theorem al.run:bP al.call al.aC al.add al.F:=de (cZ [.d (.slice tB)] fun _=>by kernel_rfl)
noncomputable def al.sg:SG Tryz.prog:=⟨203,aV,al.E,.fn 2 (by kernel_rfl) al.ok (And.intro (.cP al.L0.ok (by kernel_rfl)) (And.intro (.cP al.L1.ok (by kernel_rfl)) trivial))⟩
abbrev cD.D:=Bs×Bs
def cD.st:cD.D→SA:=fun(b,more)=>([.d tB b,.d tB more],[])
abbrev cD.Y:=Bs
abbrev cD.X:=Bs
def cD.out:cD.X→aW:=fun x=>⟨.d tB x,[],[]⟩
def cD.add:cD.D→cD.Y→cD.X:=fun(b,more) y=>y
def cD.aC:cD.D→Prop:=fun(a,b)=>a.length+b.length≤100000000
def cD.F:cD.D→cD.Y:=fun(a,b)=>a++b
noncomputable def cD.G:dH:=eT (P:=Tryz.prog) [al.sg]
noncomputable def cD.an:ee:= {}
noncomputable def cD.A:= @cT Tryz.prog cD.G cD.an 0 Tryz.f179 _ cD.st
abbrev cD.Ok:=cU @cD.A cD.aC cD.add cD.F cD.out
theorem cD.eq{R:Type}(b:Bs)(more:Bs)(k:aW→Option R):cD.A (b,more) k=
 ah (al.call [b,more]) fun x1=>
 k (cD.out x1):=by kernel_rfl
theorem cD.ok:cD.Ok:=by
 rintro⟨a,b⟩ h
 have h:a.length+b.length≤100000000:=h
 rw[cD.eq,al.run (d:=[a,b]) ⟨by show [a,b].length≤_;simp,by show ix [a,b]≤_;simp only[ix,List.flatten_cons,List.flatten_nil,List.append_nil,List.length_append];omega⟩]
 simp only[aa,al.add,al.F,cD.add,cD.F,List.flatten_cons,List.flatten_nil,List.append_nil]
noncomputable def cD.E:=Entry.cP [some tB,some tB] cD.st cD.aC cD.add cD.F cD.out
noncomputable def cD.call:cD.D→Option cD.X:=bS cD.E cD.st
theorem cD.run:bP cD.call cD.aC cD.add cD.F:=de (cZ [.d tB,.d tB] fun _=>by kernel_rfl)
noncomputable def cD.sg:SG Tryz.prog:=⟨179,aV,cD.E,.fn 0 (by kernel_rfl) cD.ok trivial⟩
set_option synthInstance.maxSize 5000
def gG:Nat→Int→List Int×Int
 | 0,n=>([],n)
 |f+1,n=>if 128≤n then((n%128+128)::(gG f (n / 128)).1,(gG f (n / 128)).2) else([],n)
def rV(n:Int):List Int:=(gG 10 n).1++ [(gG 10 n).2]
theorem tG:∀(f g:Nat) (n:Int),n < 128^(f+1)→n < 128^(g+1)→gG f n=gG g n
 | 0,0,n,_,_=>rfl
 | 0,g+1,n,h,_=>by
  have h:n < 128:=h
  rw[gG,gG,if_neg (by omega)]
 |f+1,0,n,_,h=>by
  have h:n < 128:=h
  rw[gG,gG,if_neg (by omega)]
 |f+1,g+1,n,h,h'=>by
  rw[gG,gG]
  split
  ·have e:(128:Int)^(f+1+1)=128^(f+1)*128:=Int.pow_succ 128 (f+1)
   have e':(128:Int)^(g+1+1)=128^(g+1)*128:=Int.pow_succ 128 (g+1)
   rw[tG f g (n / 128) (by omega) (by omega)]
  ·rfl
theorem rU:∀(f:Nat) (n:Int),(gG f n).1.length≤f
 | 0,_=>Nat.le_refl _
 |f+1,n=>by
  rw[gG]
  split
  ·have:=rU f (n / 128)
   simp only[List.length_cons];omega
  ·exact Nat.zero_le _
theorem tF:∀(f:Nat) (n:Int),0≤n→n < 128^(f+1)→0≤(gG f n).2∧(gG f n).2 < 128
 | 0,n,h,h'=>by have h':n < 128:=h';exact⟨h,h'⟩
 |f+1,n,h,h'=>by
  rw[gG]
  have e:(128:Int)^(f+1+1)=128^(f+1)*128:=Int.pow_succ 128 (f+1)
  split
  ·exact tF f (n / 128) (by omega) (by omega)
  ·exact⟨h,by omega⟩
theorem zS{n:Int}(h:128≤n)(h2:n≤9223372036854775807):gG 10 n=((n%128+128)::(gG 10 (n / 128)).1,(gG 10 (n / 128)).2):=by
 have e:(128:Int)^(9+1)=1180591620717411303424:=rfl
 have e2:(128:Int)^(10+1)=151115727451828646838272:=rfl
 rw[gG,if_pos h,tG 9 10 (n / 128) (by rw[e];omega) (by rw[e2];omega)]
theorem oS(n:Int):(rV n).length≤11:=by
 have:=rU 10 n
 unfold rV
 simp only[List.length_append,List.length_cons,List.length_nil];omega
def w3(n:Int):Prop:=0≤n∧n≤9223372036854775807
abbrev bO.L0.D:=Int×Nat×(List Int)
def bO.L0.st:bO.L0.D→AS:=fun(n_2,outL,n14)=>⟨([.d ti n_2,.undef,.undef,.bt (.new 14 0) 0 [] 0 0 outL]++bm 16 []),[],(cr 14 ([[.obj 0 false (.vec 5 tb n14)]]++cr 5 []))⟩
abbrev bO.L0.Y0:=Int×Nat×(List Int)
abbrev bO.L0.X0:=Int×Nat×(List Int)
def bO.L0.bK:bO.L0.X0→Exit×AS:=fun x=>(.exit 0,⟨([.d ti x.1,.undef,.undef,.bt (.new 14 0) 0 [] 0 0 x.2.1]++bm 16 []),[],(cr 14 ([[.obj 0 false (.vec 5 tb x.2.2)]]++cr 5 []))⟩)
abbrev bO.L0.X:=bO.L0.X0
abbrev bO.L0.Y:=bO.L0.Y0
def bO.L0.out:bO.L0.X→Out (Exit×AS):=fun x=> .ok (bO.L0.bK x)
def bO.L0.add:bO.L0.D→bO.L0.Y→bO.L0.X:=fun(n_2,outL,n14) y=>y
abbrev bO.D:=Int
def bO.st:bO.D→SA:=fun n=>([.d ti n],[])
abbrev bO.Y:=Bs
abbrev bO.X:=Bs
def bO.out:bO.X→aW:=fun x=>⟨.d tB x,[],[]⟩
def bO.add:bO.D→bO.Y→bO.X:=fun n y=>y
def bO.L0.aC:bO.L0.D→Prop:=fun(n,m,l)=>w3 n∧m=l.length∧l.length≤1000+0*n.toNat∧l.length+(gG 10 n).1.length≤100
def bO.L0.F:bO.L0.D→bO.L0.Y:=fun(n,m,l)=>((gG 10 n).2,(l++(gG 10 n).1).length,l++(gG 10 n).1)
def bO.aC:bO.D→Prop:=fun n=>w3 n
def bO.F:bO.D→bO.Y:=fun n=>rV n
noncomputable def bO.G:dH:=eT (P:=Tryz.prog) []
noncomputable def bO.L0.E:=bZ.cP bO.L0.st bO.L0.aC bO.L0.add bO.L0.F bO.L0.out
noncomputable def bO.L0.call:bO.L0.D→Option bO.L0.X:=dI bO.L0.E bO.L0.st
noncomputable def bO.an:ee:= {loops:=lZ [(2,{bn:=[0,3],sites:=[14],kO:=[⟨3,[],14,140⟩]})],outs:=lY [(2,{bn:=[0,3],sites:=[14]},{bn:=[2]})],fO:=mW [(2,bO.L0.E)],res:=[some tB]}
noncomputable def bO.A:= @cT Tryz.prog bO.G bO.an 0 Tryz.f180 _ bO.st
abbrev bO.Ok:=cU @bO.A bO.aC bO.add bO.F bO.out
noncomputable def bO.L0.R:= @cC Tryz.prog bO.G bO.an 0 Tryz.f180 0 _ bO.L0.st
abbrev bO.L0.Ok:=eO Tryz.prog bO.G bO.an 0 Tryz.f180 0 bO.L0.st bO.L0.aC bO.L0.add bO.L0.F bO.L0.out
theorem bO.L0.run:bP bO.L0.call bO.L0.aC bO.L0.add bO.L0.F:=fe (eY [.d ti,.n,.d tB] fun _=>by kernel_rfl)
theorem bO.L0.aL:ga @bO.L0.R bO.L0.st bO.L0.aC bO.L0.add bO.L0.F bO.L0.bK bO.L0.Ok:=gw
theorem bO.L0.step{R:Type}(n_2:Int)(outL:Nat)(n14:(List Int))(kn:AS→Option R)(kx:Exit→AS→Option R):bO.L0.R (n_2,outL,n14) kn kx=
  aF ((mV n_2 (128:Int))) (
   aF (decide (outL≤(List.length n14))) (
   aF (dr (outL+1) 1) (
   kn (bO.L0.st ((kK .i64 n_2 (128:Int)),(outL+1),((List.take outL n14)++ [(dz .u8 (ck .i64 (jP n_2 (128:Int)) (128:Int)))])))) none) none) (
   kx (bO.L0.bK (n_2,outL,n14)).1 (bO.L0.bK (n_2,outL,n14)).2):=by kernel_rfl
theorem bO.eq{R:Type}(n:Int)(k:aW→Option R):bO.A n k=
 ah (bO.L0.call (n,0,([]:List Int))) fun x1=>
 aF (decide (x1.2.1≤(List.length x1.2.2))) (
 aF (dr (x1.2.1+1) 1) (
 aF (decide (0=0∧(0+(x1.2.1+1))≤(List.length ((List.take x1.2.1 x1.2.2)++ [(dz .u8 x1.1)])))) (
 k (bO.out (cut ((List.take x1.2.1 x1.2.2)++ [(dz .u8 x1.1)]) 0 (x1.2.1+1)))) none) none) none:=by kernel_rfl
theorem AG{n:Int}(h:w3 n):dz .u8 (ck .i64 (jP n 128) 128)=n%128+128:=by
 have h1:=h.1
 rw[mJ h.1,gh (by omega) (by omega),uu,fQ]
 omega
theorem bO.L0.ok:bO.L0.Ok:=by
 refine bO.L0.aL (fun(n,m,l)=>n.toNat) ?_
 rintro⟨n,m,l⟩ ⟨hn,rfl,hl,hz⟩
 have hn:w3 n:=hn
 have hz:l.length+(gG 10 n).1.length≤100:=hz
 have h1:=hn.1
 have h2:=hn.2
 by_cases h:128≤n
 ·left
  have e:=zS h h2
  have hq:kK .i64 n 128=n / 128:=by
   rw[kK,Int.tdiv_eq_ediv_of_nonneg h1]
   exact j7 (by omega) (by omega)
  have el:((n%128+128)::(gG 10 (n / 128)).1).length=(gG 10 (n / 128)).1.length+1:=List.length_cons
  rw[e]at hz
  have hz:l.length+((n%128+128)::(gG 10 (n / 128)).1).length≤100:=hz
  rw[el]at hz
  refine⟨(n / 128,l.length+1,l++ [n%128+128]),⟨⟨by omega,by omega⟩,by rw[List.length_append];rfl,by rw[List.length_append];simp only[List.length_cons,List.length_nil];omega,by rw[List.length_append];simp only[List.length_cons,List.length_nil];omega⟩,by simp only[];omega,?_,fun kn kx=> ?_⟩
  ·simp only[bO.L0.add,bO.L0.F,e,List.append_assoc,List.cons_append,List.nil_append]
  ·rw[bO.L0.step,fi h,AG hn,hq]
   simp(disch:=omega) only[↓S1,↓if_pos,↓if_neg,if_pos,if_neg,if_true,if_false,S2,Nat.le_refl,List.take_length]
 ·right
  have e:gG 10 n=([],n):=by rw[gG,if_neg h]
  intro R kn kx
  rw[bO.L0.step,ei h]
  simp only[aw,bO.L0.add,bO.L0.F,e,List.append_nil]
theorem bO.ok:bO.Ok:=by
 intro n hn
 have hn:w3 n:=hn
 have hl:=rU 10 n
 have e2:(128:Int)^(10+1)=151115727451828646838272:=rfl
 have hd:=tF 10 n hn.1 (by have:=hn.2;rw[e2];omega)
 have p:bO.L0.aC (n,0,[]):=⟨hn,rfl,by simp,by simp only[List.length_nil];omega⟩
 have hi:dz .u8 (gG 10 n).2=(gG 10 n).2:=by rw[uu,fQ];omega
 rw[bO.eq,bO.L0.run p]
 simp only[aa,bO.L0.add,bO.L0.F,List.nil_append,hi,List.take_length,Nat.le_refl,decide_true,ao]
 rw[eG (by omega) (by omega)]
 simp only[ao,Nat.zero_add,List.length_append,List.length_cons,List.length_nil,Nat.le_refl,and_self,decide_true]
 rw[fo (by rw[List.length_append];rfl)]
 rfl
noncomputable def bO.E:=Entry.cP [some ti] bO.st bO.aC bO.add bO.F bO.out
noncomputable def bO.call:bO.D→Option bO.X:=bS bO.E bO.st
theorem bO.run:bP bO.call bO.aC bO.add bO.F:=de (cZ [.d ti] fun _=>by kernel_rfl)
noncomputable def bO.sg:SG Tryz.prog:=⟨180,aV,bO.E,.fn 1 (by kernel_rfl) bO.ok (And.intro (.cP bO.L0.ok (by kernel_rfl)) trivial)⟩
def ed(b:List Int)(n:Int):List Int:=if n < 0 then b else b++rV n
theorem eQ(b:List Int)(n:Int):(ed b n).length≤b.length+11:=by
 unfold ed
 have:=oS n
 split
 ·omega
 ·rw[List.length_append];omega
abbrev dd.D:=Bs×Int
def dd.st:dd.D→SA:=fun(b,n)=>([.d tB b,.d ti n],[])
abbrev dd.Y:=Bs
abbrev dd.X:=Bs
def dd.out:dd.X→aW:=fun x=>⟨.d tB x,[],[]⟩
def dd.add:dd.D→dd.Y→dd.X:=fun(b,n) y=>y
def dd.aC:dd.D→Prop:=fun(b,n)=>b.length≤90000000∧n≤9223372036854775807
def dd.F:dd.D→dd.Y:=fun(b,n)=>ed b n
noncomputable def dd.G:dH:=eT (P:=Tryz.prog) [cD.sg,bO.sg]
noncomputable def dd.an:ee:= {}
noncomputable def dd.A:= @cT Tryz.prog dd.G dd.an 0 Tryz.f123 _ dd.st
abbrev dd.Ok:=cU @dd.A dd.aC dd.add dd.F dd.out
theorem dd.eq{R:Type}(b:Bs)(n:Int)(k:aW→Option R):dd.A (b,n) k=
  aF ((gQ n (0:Int))) (
   ah (cD.call (b,([]:List Int))) fun x1=>
   k (dd.out x1)) (
   ah (bO.call n) fun x2=>
   ah (cD.call (b,x2)) fun x3=>
   k (dd.out x3)):=by kernel_rfl
theorem dd.ok:dd.Ok:=by
 rintro⟨b,n⟩ ⟨hb,hn⟩
 have hb:b.length≤90000000:=hb
 have hn:n≤9223372036854775807:=hn
 rw[dd.eq]
 simp only[dd.add,dd.F,ed]
 by_cases h:n < 0
 ·rw[bq h,if_pos h,ao,cD.run (d:=(b,[])) (by show b.length+([]:List Int).length≤_;simp only[List.length_nil];omega)]
  simp only[aa,cD.add,cD.F,List.append_nil]
 ·have hl:=oS n
  rw[bl h,if_neg h,aw,bO.run (d:=n) ⟨by omega,hn⟩]
  simp only[aa,bO.add,bO.F]
  rw[cD.run (d:=(b,rV n)) (by show b.length+(rV n).length≤_;omega)]
  rfl
noncomputable def dd.E:=Entry.cP [some tB,some ti] dd.st dd.aC dd.add dd.F dd.out
noncomputable def dd.call:dd.D→Option dd.X:=bS dd.E dd.st
theorem dd.run:bP dd.call dd.aC dd.add dd.F:=de (cZ [.d tB,.d ti] fun _=>by kernel_rfl)
noncomputable def dd.sg:SG Tryz.prog:=⟨123,aV,dd.E,.fn 0 (by kernel_rfl) dd.ok trivial⟩
abbrev di.D:=Bs×Int
def di.st:di.D→SA:=fun(b,n)=>([.d tB b,.d tu n],[])
abbrev di.Y:=Bs
abbrev di.X:=Bs
def di.out:di.X→aW:=fun x=>⟨.d tB x,[],[]⟩
def di.add:di.D→di.Y→di.X:=fun(b,n) y=>y
def di.aC:di.D→Prop:=fun(b,n)=>b.length≤90000000
def di.F:di.D→di.Y:=fun(b,n)=>b++kk n
noncomputable def di.G:dH:=eT (P:=Tryz.prog) [cD.sg]
noncomputable def di.an:ee:= {loops:=lZ [(3,{bn:=[0,1,5,7],sites:=[5,21]})],outs:=lY [(3,{bn:=[0,5],sites:=[5,21]},{bn:=[4],sites:=[5,21]})]}
noncomputable def di.A:= @cT Tryz.prog di.G di.an 12 Tryz.f191 _ di.st
abbrev di.Ok:=cU @di.A di.aC di.add di.F di.out
theorem di.eq{R:Type}(b:Bs)(n:Int)(k:aW→Option R):di.A (b,n) k=
 ah (cD.call (b,[(dz .u8 (bC .u64 n (56:Int))),(dz .u8 (bC .u64 n (48:Int))),(dz .u8 (bC .u64 n (40:Int))),(dz .u8 (bC .u64 n (32:Int))),(dz .u8 (bC .u64 n (24:Int))),(dz .u8 (bC .u64 n (16:Int))),(dz .u8 (bC .u64 n (8:Int))),(dz .u8 (bC .u64 n (0:Int)))])) fun x1=>
 k (di.out x1):=by kernel_rfl
theorem di.ok:di.Ok:=by
 rintro⟨b,n⟩ hb
 have hb:b.length≤90000000:=hb
 have p:cD.aC (b,kk n):=by show b.length+(kk n).length≤_;rw[db];omega
 have e:cD.call (b,[dz .u8 (bC .u64 n 56),dz .u8 (bC .u64 n 48),dz .u8 (bC .u64 n 40),dz .u8 (bC .u64 n 32),dz .u8 (bC .u64 n 24),dz .u8 (bC .u64 n 16),dz .u8 (bC .u64 n 8),dz .u8 (bC .u64 n 0)])=some (b++kk n):=by
  rw[vo];exact cD.run p
 rw[di.eq]
 refine Eq.trans (congrArg (fun x=>ah x _) e) ?_
 rfl
noncomputable def di.E:=Entry.cP [some tB,some tu] di.st di.aC di.add di.F di.out
noncomputable def di.call:di.D→Option di.X:=bS di.E di.st
theorem di.run:bP di.call di.aC di.add di.F:=de (cZ [.d tB,.d tu] fun _=>by kernel_rfl)
noncomputable def di.sg:SG Tryz.prog:=⟨191,aV,di.E,.fn 1 (by kernel_rfl) di.ok (And.intro (.none (by kernel_rfl)) trivial)⟩
set_option synthInstance.maxSize 5000
def lX(w:sY):Bool:=decide (0≤w.1∧w.1 < 4) && decide (w.2.1.length≤12)
def rj(x:gU):Bool:=decide (0≤x.1.2.1∧x.1.2.1 < 64) && lX x.2.1
def pN(m:List (bX×Bool))(x:gU):Bool:=(bF bz x.1 m).getD false
def ot:List (bX×Bool)→List gU→Bool
 |_,[]=>true
 |m,x::l=>(!(pN m x) && rj x) && ot (eh bz x.1 true m) l
def mf(a:Int):Bool:=decide (0≤a∧a≤1125899906842624)
def nX(a b:Int):Bool:=mf a && (mf b && decide (a+b≤1125899906842624))
def lJ:Int→List fR→Bool
 |_,[]=>true
 |s,o::l=>(nX s o.1 && ji o.2.1) && lJ (s+o.1) l
def uV(t:eI):Bool:=decide (1≤t.1.length∧t.1.length≤64∧t.2.1.length≤64∧0≤t.2.2.1)
def fA(t:eI):Bool:=uV t && (ot [] t.1 && lJ 0 t.2.1)
def Em(l:Lk):Prop:=Af l∧l.1.length≤9223372036854775807
def Fg(t:eI):Prop:=(∀o∈t.2.1,Em o.2.1)∧t.1.length≤9223372036854775807∧t.2.1.length≤9223372036854775807
abbrev dR.D:=sY
def dR.st:dR.D→SA:=fun wv=>([.d B5 wv],[])
abbrev dR.Y:=Bool
abbrev dR.X:=Bool
def dR.out:dR.X→aW:=fun x=>⟨.d .bool x,[],[]⟩
def dR.add:dR.D→dR.Y→dR.X:=fun wv y=>y
def dR.aC:dR.D→Prop:=fun _=>True
def dR.F:dR.D→dR.Y:=fun w=>lX w
noncomputable def dR.G:dH:=eT (P:=Tryz.prog) []
noncomputable def dR.an:ee:= {}
noncomputable def dR.A:= @cT Tryz.prog dR.G dR.an 0 Tryz.f67 _ dR.st
abbrev dR.Ok:=cU @dR.A dR.aC dR.add dR.F dR.out
theorem dR.eq{R:Type}(wv:sY)(k:aW→Option R):dR.A wv k=
  aF ((mV wv.1 (0:Int))) (
   aF ((gQ wv.1 (4:Int))) (
    k (dR.out (AY (((List.length wv.2.1):Nat):Int) (12:Int)))) (
    k (dR.out false))) (
   k (dR.out false)):=by kernel_rfl
theorem dR.ok:dR.Ok:=by
 rintro⟨b,ss,sc,u⟩ _
 rw[dR.eq]
 simp only[dR.add,dR.F,lX]
 by_cases h:0≤b
 ·rw[fi h,ao]
  by_cases h2:b < 4
  ·rw[bq h2,ao,bf ⟨h,h2⟩]
   by_cases h3:ss.length≤12
   ·rw[oo (by omega),bf h3];rfl
   ·rw[kY (by omega),bI h3];rfl
  ·rw[bl h2,aw,bI (fun x=>h2 x.2)];rfl
 ·rw[ei h,aw,bI (fun x=>h x.1)];rfl
noncomputable def dR.E:=Entry.cP [some B5] dR.st dR.aC dR.add dR.F dR.out
noncomputable def dR.call:dR.D→Option dR.X:=bS dR.E dR.st
theorem dR.run:bP dR.call dR.aC dR.add dR.F:=de (cZ [.d B5] fun _=>by kernel_rfl)
noncomputable def dR.sg:SG Tryz.prog:=⟨67,aV,dR.E,.fn 0 (by kernel_rfl) dR.ok trivial⟩
abbrev cg.D:=Int
def cg.st:cg.D→SA:=fun a=>([.d ti a],[])
abbrev cg.Y:=Bool
abbrev cg.X:=Bool
def cg.out:cg.X→aW:=fun x=>⟨.d .bool x,[],[]⟩
def cg.add:cg.D→cg.Y→cg.X:=fun a y=>y
def cg.aC:cg.D→Prop:=fun _=>True
def cg.F:cg.D→cg.Y:=fun a=>mf a
noncomputable def cg.G:dH:=eT (P:=Tryz.prog) []
noncomputable def cg.an:ee:= {}
noncomputable def cg.A:= @cT Tryz.prog cg.G cg.an 0 Tryz.f194 _ cg.st
abbrev cg.Ok:=cU @cg.A cg.aC cg.add cg.F cg.out
theorem cg.eq{R:Type}(a:Int)(k:aW→Option R):cg.A a k=
  aF ((mV a (0:Int))) (
   k (cg.out (AY a (1125899906842624:Int)))) (
   k (cg.out false)):=by kernel_rfl
theorem cg.ok:cg.Ok:=by
 intro(a:Int) _
 rw[cg.eq]
 simp only[cg.add,cg.F,mf]
 by_cases h:0≤a
 ·rw[fi h,ao]
  by_cases h2:a≤1125899906842624
  ·rw[oo h2,bf ⟨h,h2⟩]
  ·rw[kY h2,bI (fun x=>h2 x.2)]
 ·rw[ei h,aw,bI (fun x=>h x.1)]
noncomputable def cg.E:=Entry.cP [some ti] cg.st cg.aC cg.add cg.F cg.out
noncomputable def cg.call:cg.D→Option cg.X:=bS cg.E cg.st
theorem cg.run:bP cg.call cg.aC cg.add cg.F:=de (cZ [.d ti] fun _=>by kernel_rfl)
noncomputable def cg.sg:SG Tryz.prog:=⟨194,aV,cg.E,.fn 0 (by kernel_rfl) cg.ok trivial⟩
abbrev eb.D:=Int×Int
def eb.st:eb.D→SA:=fun(a,b)=>([.d ti a,.d ti b],[])
abbrev eb.Y:=Int×Bool
abbrev eb.X:=Int×Bool
def eb.out:eb.X→aW:=fun x=>⟨.cons (.d ti x.1) (.cons (.d .bool x.2) (.nil)),[],[]⟩
def eb.add:eb.D→eb.Y→eb.X:=fun(a,b) y=>y
def eb.aC:eb.D→Prop:=fun _=>True
def eb.F:eb.D→eb.Y:=fun(a,b)=>(bif nX a b then a+b else 0,nX a b)
noncomputable def eb.G:dH:=eT (P:=Tryz.prog) [cg.sg]
noncomputable def eb.an:ee:= {}
noncomputable def eb.A:= @cT Tryz.prog eb.G eb.an 0 Tryz.f132 _ eb.st
abbrev eb.Ok:=cU @eb.A eb.aC eb.add eb.F eb.out
theorem eb.eq{R:Type}(a:Int)(b:Int)(k:aW→Option R):eb.A (a,b) k=
  ah (cg.call a) fun x1=>
  aF ((!x1)) (
   k (eb.out ((0:Int),false))) (
   ah (cg.call b) fun x2=>
   aF ((!x2)) (
    k (eb.out ((0:Int),false))) (
    aF ((po a (cH .i64 (1125899906842624:Int) b))) (
     k (eb.out ((0:Int),false))) (
     k (eb.out ((ck .i64 a b),true))))):=by kernel_rfl
theorem eb.ok:eb.Ok:=by
 rintro⟨a,b⟩ _
 rw[eb.eq,cg.run (d:=a) trivial,cg.run (d:=b) trivial]
 simp only[aa,cg.add,cg.F,eb.add,eb.F,nX]
 cases ha:mf a
 ·rfl
 ·cases hb:mf b
  ·rfl
  ·simp only[mf,decide_eq_true_eq]at ha hb
   simp only[Bool.not_true,aw,Bool.true_and]
   rw[dU (by omega) (by omega)]
   by_cases h:a+b≤1125899906842624
   ·rw[dF (by omega),aw,bf h,gh (by omega) (by omega)];rfl
   ·rw[dT (by omega),ao,bI h];rfl
noncomputable def eb.E:=Entry.cP [some ti,some ti] eb.st eb.aC eb.add eb.F eb.out
noncomputable def eb.call:eb.D→Option eb.X:=bS eb.E eb.st
theorem eb.run:bP eb.call eb.aC eb.add eb.F:=de (cZ [.d ti,.d ti] fun _=>by kernel_rfl)
noncomputable def eb.sg:SG Tryz.prog:=⟨132,aV,eb.E,.fn 0 (by kernel_rfl) eb.ok trivial⟩
abbrev ak.L0.D:=eI×(List gU)×Int×Int×(List (bX×Bool))
def ak.L0.st:ak.L0.D→AS:=fun(t_2,t33,t34,t35,n31)=>⟨([.undef,.dZ gm t_2,.undef,.dy (.new 31 0) 0]++bm 29 ([.d (.slice ik) t33,.d ti t34,.d ti t35]++bm 52 [])),[],(cr 31 ([[.obj 0 false (.mp bz .bool n31)]]++cr 56 []))⟩
abbrev ak.L0.Y0:=Unit
abbrev ak.L0.X0:=Unit
def ak.L0.bK:ak.L0.X0→Exit×AS:=fun x=>(.ret,⟨([.undef,.undef,.d .bool false]++bm 85 []),[],(List.replicate 88 [])⟩)
abbrev ak.L0.Y1:=Unit
abbrev ak.L0.X1:=eI
def ak.L0.jb:ak.L0.X1→Exit×AS:=fun x=>(.exit 0,⟨([.undef,.dZ gm x]++bm 86 []),[],(List.replicate 88 [])⟩)
abbrev ak.L0.X:=(ak.L0.X0)⊕(ak.L0.X1)
abbrev ak.L0.Y:=(ak.L0.Y0)⊕(ak.L0.Y1)
def ak.L0.out:ak.L0.X→Out (Exit×AS):=fun x=> .br x.isLeft (.get x.getLeft? fun a=> .ok (ak.L0.bK a)) (.get x.getRight? fun b=> .ok (ak.L0.jb b))
def ak.L0.add:ak.L0.D→ak.L0.Y→ak.L0.X:=fun(t_2,t33,t34,t35,n31) y=>match y with | .inl y=> .inl y | .inr z=> .inr (t_2)
abbrev ak.L1.D:=Int×(List fR)×Int×Int
def ak.L1.st:ak.L1.D→AS:=fun(sum,t66,t67,t68)=>⟨(bm 6 ([.d ti sum]++bm 59 ([.d (.slice gJ) t66,.d ti t67,.d ti t68]++bm 19 []))),[],(List.replicate 88 [])⟩
abbrev ak.L1.Y0:=Unit
abbrev ak.L1.X0:=Unit
def ak.L1.bK:ak.L1.X0→Exit×AS:=fun x=>(.ret,⟨([.undef,.undef,.d .bool false]++bm 85 []),[],(List.replicate 88 [])⟩)
abbrev ak.L1.Y1:=Unit
abbrev ak.L1.X1:=Unit
def ak.L1.jb:ak.L1.X1→Exit×AS:=fun x=>(.exit 2,⟨(bm 88 []),[],(List.replicate 88 [])⟩)
abbrev ak.L1.X:=(ak.L1.X0)⊕(ak.L1.X1)
abbrev ak.L1.Y:=(ak.L1.Y0)⊕(ak.L1.Y1)
def ak.L1.out:ak.L1.X→Out (Exit×AS):=fun x=> .br x.isLeft (.get x.getLeft? fun a=> .ok (ak.L1.bK a)) (.get x.getRight? fun b=> .ok (ak.L1.jb b))
def ak.L1.add:ak.L1.D→ak.L1.Y→ak.L1.X:=fun(sum,t66,t67,t68) y=>match y with | .inl y=> .inl y | .inr z=> .inr (z)
abbrev ak.D:=eI
def ak.st:ak.D→SA:=fun t=>([.d gm t],[])
abbrev ak.Y:=Bool
abbrev ak.X:=Bool
def ak.out:ak.X→aW:=fun x=>⟨.d .bool x,[],[]⟩
def ak.add:ak.D→ak.Y→ak.X:=fun t y=>y
def ak.L0.aC:ak.L0.D→Prop:=fun(t,l,n,i,m)=>l.length≤9223372036854775807∧n=l.length∧∃k:Nat,k≤l.length∧i=k
def ak.L0.F:ak.L0.D→ak.L0.Y:=fun(t,l,n,i,m)=>if ot m (l.drop i.toNat) then .inr () else .inl ()
def ak.L1.aC:ak.L1.D→Prop:=fun(s,l,n,i)=>(∀o∈l,Em o.2.1)∧l.length≤9223372036854775807∧n=l.length∧∃k:Nat,k≤l.length∧i=k
def ak.L1.F:ak.L1.D→ak.L1.Y:=fun(s,l,n,i)=>if lJ s (l.drop i.toNat) then .inr () else .inl ()
def ak.aC:ak.D→Prop:=fun t=>Fg t
def ak.F:ak.D→ak.Y:=fun t=>fA t
noncomputable def ak.G:dH:=eT (P:=Tryz.prog) [dR.sg,eb.sg,aD.sg]
noncomputable def ak.L0.E:=bZ.cP ak.L0.st ak.L0.aC ak.L0.add ak.L0.F ak.L0.out
noncomputable def ak.L0.call:ak.L0.D→Option ak.L0.X:=dI ak.L0.E ak.L0.st
noncomputable def ak.L1.E:=bZ.cP ak.L1.st ak.L1.aC ak.L1.add ak.L1.F ak.L1.out
noncomputable def ak.L1.call:ak.L1.D→Option ak.L1.X:=dI ak.L1.E ak.L1.st
noncomputable def ak.an:ee:= {loops:=lZ [(5,{bn:=[1,3,33,34,35],sites:=[31]}),(13,{bn:=[6,66,67,68]})],outs:=lY [(5,{bn:=[1]},{bn:=[2]}),(13,{},{bn:=[2]})],fO:=mW [(5,ak.L0.E),(13,ak.L1.E)]}
noncomputable def ak.A:= @cT Tryz.prog ak.G ak.an 0 Tryz.f66 _ ak.st
abbrev ak.Ok:=cU @ak.A ak.aC ak.add ak.F ak.out
noncomputable def ak.L0.R:= @cC Tryz.prog ak.G ak.an 0 Tryz.f66 0 _ ak.L0.st
abbrev ak.L0.Ok:=eO Tryz.prog ak.G ak.an 0 Tryz.f66 0 ak.L0.st ak.L0.aC ak.L0.add ak.L0.F ak.L0.out
noncomputable def ak.L1.R:= @cC Tryz.prog ak.G ak.an 0 Tryz.f66 1 _ ak.L1.st
abbrev ak.L1.Ok:=eO Tryz.prog ak.G ak.an 0 Tryz.f66 1 ak.L1.st ak.L1.aC ak.L1.add ak.L1.F ak.L1.out
theorem ak.L0.run:bP ak.L0.call ak.L0.aC ak.L0.add ak.L0.F:=fe (eY [.d gm,.d (.slice ik),.d ti,.d ti,.d (.slice (.pair bz .bool))] fun _=>by kernel_rfl)
theorem ak.L0.aL:p9 @ak.L0.R ak.L0.st ak.L0.aC ak.L0.add ak.L0.F ak.L0.out ak.L0.Ok:=qK
theorem ak.L0.step{R:Type}(t_2:eI)(t33:(List gU))(t34:Int)(t35:Int)(n31:(List (bX×Bool)))(kn:AS→Option R)(kx:Exit→AS→Option R):ak.L0.R (t_2,t33,t34,t35,n31) kn kx=
  aF ((gQ t35 t34)) (
   aF (fE t35 (((List.length t33):Nat):Int)) (
   aF (((bF bz (nth ik t33 (Int.toNat t35)).1 n31).getD false)) (
    kx (ak.L0.bK ()).1 (ak.L0.bK ()).2) (
    aF ((gQ (nth ik t33 (Int.toNat t35)).1.2.1 (0:Int))) (
     kx (ak.L0.bK ()).1 (ak.L0.bK ()).2) (
     aF ((mV (nth ik t33 (Int.toNat t35)).1.2.1 (64:Int))) (
      kx (ak.L0.bK ()).1 (ak.L0.bK ()).2) (
      ah (dR.call (nth ik t33 (Int.toNat t35)).2.1) fun x8=>
      aF ((!x8)) (
       kx (ak.L0.bK ()).1 (ak.L0.bK ()).2) (
       kn (ak.L0.st (t_2,t33,t34,(ck .i64 t35 (1:Int)),(eh bz (nth ik t33 (Int.toNat t35)).1 true n31)))))))) none) (
   kx (ak.L0.jb t_2).1 (ak.L0.jb t_2).2):=by kernel_rfl
theorem ak.L1.run:bP ak.L1.call ak.L1.aC ak.L1.add ak.L1.F:=fe (eY [.d ti,.d (.slice gJ),.d ti,.d ti] fun _=>by kernel_rfl)
theorem ak.L1.aL:p9 @ak.L1.R ak.L1.st ak.L1.aC ak.L1.add ak.L1.F ak.L1.out ak.L1.Ok:=qK
theorem ak.L1.step{R:Type}(sum:Int)(t66:(List fR))(t67:Int)(t68:Int)(kn:AS→Option R)(kx:Exit→AS→Option R):ak.L1.R (sum,t66,t67,t68) kn kx=
  aF ((gQ t68 t67)) (
   aF (fE t68 (((List.length t66):Nat):Int)) (
   ah (eb.call (sum,(nth gJ t66 (Int.toNat t68)).1)) fun x10=>
   aF ((!x10.2)) (
    kx (ak.L1.bK ()).1 (ak.L1.bK ()).2) (
    ah (aD.call (nth gJ t66 (Int.toNat t68)).2.1) fun x12=>
    aF ((!x12)) (
     kx (ak.L1.bK ()).1 (ak.L1.bK ()).2) (
     kn (ak.L1.st (x10.1,t66,t67,(ck .i64 t68 (1:Int))))))) none) (
   kx (ak.L1.jb ()).1 (ak.L1.jb ()).2):=by kernel_rfl
theorem ak.eq{R:Type}(t:eI)(k:aW→Option R):ak.A t k=
  aF ((gQ (((List.length t.1):Nat):Int) (1:Int))) (
   k (ak.out false)) (
   aF ((po (((List.length t.1):Nat):Int) (64:Int))) (
    k (ak.out false)) (
    aF ((po (((List.length t.2.1):Nat):Int) (64:Int))) (
     k (ak.out false)) (
     aF ((gQ t.2.2.1 (0:Int))) (
      k (ak.out false)) (
      ah (ak.L0.call (t,t.1,(((List.length t.1):Nat):Int),(0:Int),([]:List (bX×Bool)))) fun x12=>
      aF (x12.isLeft) (
       ah (x12.getLeft?) fun a13=>
       k (ak.out false)) (
       ah (x12.getRight?) fun b14=>
       ah (ak.L1.call ((0:Int),b14.2.1,(((List.length b14.2.1):Nat):Int),(0:Int))) fun x30=>
       aF (x30.isLeft) (
        ah (x30.getLeft?) fun a31=>
        k (ak.out false)) (
        ah (x30.getRight?) fun b32=>
        k (ak.out true))))))):=by kernel_rfl
theorem ak.L0.ok:ak.L0.Ok:=by
 refine ak.L0.aL (fun(t,l,n,i,m)=>l.length - i.toNat) ?_
 rintro⟨t,l,n,i,m⟩ ⟨hb,rfl,k,hk,rfl⟩
 have hb:l.length≤9223372036854775807:=hb
 have hk:k≤l.length:=hk
 by_cases h:k < l.length
 ·have n1:nth ik l k=l[k]:=du (t:=ik) h
  have hd:ot m (l.drop k)=((!(pN m l[k]) && rj l[k]) && ot (eh bz l[k].1 true m) (l.drop (k+1))):=by rw[List.drop_eq_getElem_cons h];rfl
  have step:∀ {R:Type} (kn:AS→Option R) (kx:Exit→AS→Option R),ak.L0.R (t,l,(l.length:Int),(k:Int),m) kn kx=aF (!(pN m l[k]) && rj l[k]) (kn (ak.L0.st (t,l,(l.length:Int),((k+1:Nat):Int),eh bz l[k].1 true m))) (kx (ak.L0.bK ()).1 (ak.L0.bK ()).2):=by
   intro R kn kx
   rw[ak.L0.step,bq (by omega),bw (by omega) (by omega),Int.toNat_natCast,n1,N.nW (by omega),dR.run (d:=l[k].2.1) trivial]
   simp only[ao,aa,dR.add,dR.F]
   have e:(bF bz l[k].1 m).getD false=pN m l[k]:=rfl
   rw[e]
   cases pN m l[k]
   ·simp only[Bool.not_false,Bool.true_and,aw,rj]
    by_cases h1:l[k].1.2.1 < 0
    ·rw[bq h1,ao,bI (fun x=>by omega)];rfl
    ·rw[bl h1,aw]
     by_cases h2:64≤l[k].1.2.1
     ·rw[fi h2,ao,bI (fun x=>by omega)];rfl
     ·rw[ei h2,aw,bf ⟨by omega,by omega⟩]
      cases lX l[k].2.1 <;> rfl
   ·rfl
  cases hp:(!(pN m l[k]) && rj l[k])
  ·right
   refine⟨ak.L0.bK (),?_,fun kn kx=> ?_⟩
   ·simp only[ak.L0.add,ak.L0.F,Int.toNat_natCast,hd,hp,Bool.false_and,Bool.false_eq_true,if_false]
    rfl
   ·rw[step,hp,aw]
  ·left
   refine⟨(t,l,l.length,((k+1:Nat):Int),eh bz l[k].1 true m),⟨hb,rfl,k+1,by omega,rfl⟩,by simp only[Int.toNat_natCast];omega,?_,fun kn kx=> ?_⟩
   ·simp only[ak.L0.add,ak.L0.F,Int.toNat_natCast,hd,hp,Bool.true_and]
   ·rw[step,hp,ao]
 ·right
  obtain rfl:k=l.length:=by omega
  refine⟨ak.L0.jb t,?_,fun kn kx=> ?_⟩
  ·simp only[ak.L0.add,ak.L0.F,Int.toNat_natCast,List.drop_length]
   rfl
  ·rw[ak.L0.step]
   simp(disch:=omega) only[↓S1,↓if_pos,↓if_neg,if_pos,if_neg,if_true,if_false,S2]
theorem ak.L1.ok:ak.L1.Ok:=by
 refine ak.L1.aL (fun(s,l,n,i)=>l.length - i.toNat) ?_
 rintro⟨s,l,n,i⟩ ⟨hl,hb,rfl,k,hk,rfl⟩
 have hb:l.length≤9223372036854775807:=hb
 have hk:k≤l.length:=hk
 by_cases h:k < l.length
 ·have hx:Em l[k].2.1:=hl _ (List.getElem_mem h)
  have n1:nth gJ l k=l[k]:=du (t:=gJ) h
  have hd:lJ s (l.drop k)=((nX s l[k].1 && ji l[k].2.1) && lJ (s+l[k].1) (l.drop (k+1))):=by rw[List.drop_eq_getElem_cons h];rfl
  have step:∀ {R:Type} (kn:AS→Option R) (kx:Exit→AS→Option R),ak.L1.R (s,l,(l.length:Int),(k:Int)) kn kx=aF (nX s l[k].1 && ji l[k].2.1) (kn (ak.L1.st (s+l[k].1,l,(l.length:Int),((k+1:Nat):Int)))) (kx (ak.L1.bK ()).1 (ak.L1.bK ()).2):=by
   intro R kn kx
   rw[ak.L1.step,bq (by omega),bw (by omega) (by omega),Int.toNat_natCast,n1,N.nW (by omega),eb.run (d:=(s,l[k].1)) trivial,aD.run (d:=l[k].2.1) hx]
   simp only[ao,aa,eb.add,eb.F,aD.add,aD.F]
   cases nX s l[k].1
   ·rfl
   ·cases ji l[k].2.1 <;> rfl
  cases hp:(nX s l[k].1 && ji l[k].2.1)
  ·right
   refine⟨ak.L1.bK (),?_,fun kn kx=> ?_⟩
   ·simp only[ak.L1.add,ak.L1.F,Int.toNat_natCast,hd,hp,Bool.false_and,Bool.false_eq_true,if_false]
    rfl
   ·rw[step,hp,aw]
  ·left
   refine⟨(s+l[k].1,l,l.length,((k+1:Nat):Int)),⟨hl,hb,rfl,k+1,by omega,rfl⟩,by simp only[Int.toNat_natCast];omega,?_,fun kn kx=> ?_⟩
   ·simp only[ak.L1.add,ak.L1.F,Int.toNat_natCast,hd,hp,Bool.true_and]
   ·rw[step,hp,ao]
 ·right
  obtain rfl:k=l.length:=by omega
  refine⟨ak.L1.jb (),?_,fun kn kx=> ?_⟩
  ·simp only[ak.L1.add,ak.L1.F,Int.toNat_natCast,List.drop_length]
   rfl
  ·rw[ak.L1.step]
   simp(disch:=omega) only[↓S1,↓if_pos,↓if_neg,if_pos,if_neg,if_true,if_false,S2]
theorem ak.ok:ak.Ok:=by
 rintro⟨is,os,nt,u⟩ ⟨hl,h1,h2⟩
 have h1:is.length≤9223372036854775807:=h1
 have h2:os.length≤9223372036854775807:=h2
 rw[ak.eq,ak.L0.run (d:=((is,os,nt,u),is,is.length,0,[])) ⟨h1,rfl,0,by omega,rfl⟩]
 simp only[aa,ak.L0.add,ak.L0.F,Int.toNat_zero,List.drop_zero,ak.add,ak.F,fA,uV]
 by_cases a1:is.length < 1
 ·rw[bq (by omega),ao,bI (fun x=>by omega)];rfl
 rw[bl (by omega),aw]
 by_cases a2:64 < is.length
 ·rw[dT (by omega),ao,bI (fun x=>by omega)];rfl
 rw[dF (by omega),aw]
 by_cases a3:64 < os.length
 ·rw[dT (by omega),ao,bI (fun x=>by omega)];rfl
 rw[dF (by omega),aw]
 by_cases a4:nt < 0
 ·rw[bq (by omega),ao,bI (fun x=>by omega)];rfl
 rw[bl (by omega),aw,bf ⟨by omega,by omega,by omega,by omega⟩]
 cases ot [] is
 ·rfl
 ·simp only[if_true,Bool.true_and]
  show ah (ak.L1.call (0,os,(os.length:Int),0)) _=_
  rw[ak.L1.run (d:=(0,os,os.length,0)) ⟨hl,h2,rfl,0,by omega,rfl⟩]
  simp only[aa,ak.L1.add,ak.L1.F,Int.toNat_zero,List.drop_zero]
  cases lJ 0 os <;> rfl
noncomputable def ak.E:=Entry.cP [some gm] ak.st ak.aC ak.add ak.F ak.out
noncomputable def ak.call:ak.D→Option ak.X:=bS ak.E ak.st
theorem ak.run:bP ak.call ak.aC ak.add ak.F:=de (cZ [.d gm] fun _=>by kernel_rfl)
noncomputable def ak.sg:SG Tryz.prog:=⟨66,aV,ak.E,.fn 2 (by kernel_rfl) ak.ok (And.intro (.cP ak.L0.ok (by kernel_rfl)) (And.intro (.cP ak.L1.ok (by kernel_rfl)) trivial))⟩
set_option synthInstance.maxSize 5000
abbrev bT.D:=Bs
def bT.st:bT.D→SA:=fun sv=>([.d tU sv],[])
abbrev bT.Y:=Bs
abbrev bT.X:=Bs
def bT.out:bT.X→aW:=fun x=>⟨.d tU x,[],[]⟩
def bT.add:bT.D→bT.Y→bT.X:=fun sv y=>y
def bT.aC:bT.D→Prop:=fun l=>l.length≤1000000
def bT.F:bT.D→bT.Y:=fun l=>l
noncomputable def bT.G:dH:=eT (P:=Tryz.prog) []
noncomputable def bT.an:ee:= {bj:=[5],res:=[some tU]}
noncomputable def bT.A:= @cT Tryz.prog bT.G bT.an 0 Tryz.f142 _ bT.st
abbrev bT.Ok:=cU @bT.A bT.aC bT.add bT.F bT.out
theorem bT.eq{R:Type}(sv:Bs)(k:aW→Option R):bT.A sv k=
  aF (decide (0 < (List.length sv))) (
   aF (dr (0+(List.length sv)) 8) (
   aF (decide (0=0∧(0+(0+(List.length sv)))≤(List.length ((List.take 0 (List.replicate 0 (0:Int)))++sv)))) (
   k (bT.out (cut ((List.take 0 (List.replicate 0 (0:Int)))++sv) 0 (0+(List.length sv))))) none) none) (
   nd (
    k (bT.out ([]:List Int))) (
    aF (dr (0+(List.length sv)) 8) (
    aF (decide (0=0∧(0+(0+(List.length sv)))≤(List.length ((List.take 0 (List.replicate 0 (0:Int)))++sv)))) (
    k (bT.out (cut ((List.take 0 (List.replicate 0 (0:Int)))++sv) 0 (0+(List.length sv))))) none) none)):=by kernel_rfl
theorem bT.ok:bT.Ok:=by
 intro l hl
 have hl:l.length≤1000000:=hl
 have hr:dr l.length 8=true:=eG (by omega) (by omega)
 have e0:(List.take 0 (List.replicate 0 0):List Int)=[]:=rfl
 rw[bT.eq]
 simp only[Nat.zero_add,hr,ao,e0,List.nil_append,Nat.le_refl,and_self,decide_true,fo,bT.add,bT.F]
 by_cases h:0 < l.length
 ·simp only[bf h,ao]
 ·have:l=[]:=List.eq_nil_of_length_eq_zero (by omega)
  subst this
  simp only[List.length_nil,lH,bI (Nat.lt_irrefl 0),aw]
noncomputable def bT.E:=Entry.cP [some tU] bT.st bT.aC bT.add bT.F bT.out
noncomputable def bT.call:bT.D→Option bT.X:=bS bT.E bT.st
theorem bT.run:bP bT.call bT.aC bT.add bT.F:=de (cZ [.d tU] fun _=>by kernel_rfl)
noncomputable def bT.sg:SG Tryz.prog:=⟨142,aV,bT.E,.fn 0 (by kernel_rfl) bT.ok trivial⟩
def y4(l:List Int):Lk:=([(l,0,0,0,())],())
abbrev eE.D:=Bs
def eE.st:eE.D→SA:=fun l=>([.d tU l],[])
abbrev eE.Y:=Lk
abbrev eE.X:=Lk
def eE.out:eE.X→aW:=fun x=>⟨.d ye x,[],[]⟩
def eE.add:eE.D→eE.Y→eE.X:=fun l y=>y
def eE.aC:eE.D→Prop:=fun l=>l.length≤1000000
def eE.F:eE.D→eE.Y:=fun l=>y4 l
noncomputable def eE.G:dH:=eT (P:=Tryz.prog) [bT.sg]
noncomputable def eE.an:ee:= {}
noncomputable def eE.A:= @cT Tryz.prog eE.G eE.an 0 Tryz.f71 _ eE.st
abbrev eE.Ok:=cU @eE.A eE.aC eE.add eE.F eE.out
theorem eE.eq{R:Type}(l:Bs)(k:aW→Option R):eE.A l k=
 ah (bT.call l) fun x1=>
 k (eE.out ([(x1,((0:Int),((0:Int),((0:Int),()))))],())):=by kernel_rfl
theorem eE.ok:eE.Ok:=by
 intro l hl
 rw[eE.eq,bT.run (d:=l) hl]
 rfl
noncomputable def eE.E:=Entry.cP [some tU] eE.st eE.aC eE.add eE.F eE.out
noncomputable def eE.call:eE.D→Option eE.X:=bS eE.E eE.st
theorem eE.run:bP eE.call eE.aC eE.add eE.F:=de (cZ [.d tU] fun _=>by kernel_rfl)
noncomputable def eE.sg:SG Tryz.prog:=⟨71,aV,eE.E,.fn 0 (by kernel_rfl) eE.ok trivial⟩
abbrev eC.D:=Int
def eC.st:eC.D→SA:=fun p=>([.d tu p],[])
abbrev eC.Y:=Lk
abbrev eC.X:=Lk
def eC.out:eC.X→aW:=fun x=>⟨.d ye x,[],[]⟩
def eC.add:eC.D→eC.Y→eC.X:=fun p y=>y
def eC.aC:eC.D→Prop:=fun _=>True
def eC.F:eC.D→eC.Y:=fun p=>y4 [p]
noncomputable def eC.G:dH:=eT (P:=Tryz.prog) [eE.sg]
noncomputable def eC.an:ee:= {}
noncomputable def eC.A:= @cT Tryz.prog eC.G eC.an 0 Tryz.f17 _ eC.st
abbrev eC.Ok:=cU @eC.A eC.aC eC.add eC.F eC.out
theorem eC.eq{R:Type}(p:Int)(k:aW→Option R):eC.A p k=
 ah (eE.call [p]) fun x1=>
 k (eC.out x1):=by kernel_rfl
theorem eC.ok:eC.Ok:=by
 intro p _
 rw[eC.eq,eE.run (d:=[p]) (by show [p].length≤_;simp)]
 rfl
noncomputable def eC.E:=Entry.cP [some tu] eC.st eC.aC eC.add eC.F eC.out
noncomputable def eC.call:eC.D→Option eC.X:=bS eC.E eC.st
theorem eC.run:bP eC.call eC.aC eC.add eC.F:=de (cZ [.d tu] fun _=>by kernel_rfl)
noncomputable def eC.sg:SG Tryz.prog:=⟨17,aV,eC.E,.fn 0 (by kernel_rfl) eC.ok trivial⟩
set_option synthInstance.maxSize 5000
set_option synthInstance.maxSize 5000
def jE(o:List Int)(ks:List Int):List Int:=ks.foldl (fun o p=>o++kk p) o
def Dv(o:List Int)(b:jG):List Int:=ed (ed (jE (ed o b.1.length) b.1) b.2.1) b.2.2.1++kk b.2.2.2.1
def CB(l:Lk):List Int:=if ji l then l.1.foldl Dv (ed [] l.1.length) else []
theorem px:∀(ks:List Int) (o:List Int),(jE o ks).length=o.length+8*ks.length
 |[],o=>rfl
 |k::ks,o=>by
  show(jE (o++kk k) ks).length=_
  rw[px ks,List.length_append,db,List.length_cons];omega
theorem yr(o:List Int)(b:jG)(h:b.1.length≤12):(Dv o b).length≤o.length+200:=by
 unfold Dv
 have h1:=eQ o b.1.length
 have h2:=px b.1 (ed o b.1.length)
 have h3:=eQ (jE (ed o b.1.length) b.1) b.2.1
 have h4:=eQ (ed (jE (ed o b.1.length) b.1) b.2.1) b.2.2.1
 rw[List.length_append,db];omega
def B6(n:Int):Prop:=n≤9223372036854775807
def Fb(b:jG):Prop:=b.1.length≤12∧B6 b.2.1∧B6 b.2.2.1
theorem Dw{b:jG}(h:mS b=true):Fb b:=by
 unfold mS qd at h
 simp only[Bool.and_eq_true,decide_eq_true_eq]at h
 obtain⟨h1,_,h2,h3,_⟩:=h
 exact⟨h1,by unfold B6;omega,by unfold B6;omega⟩
theorem xE(o:List Int)(ks:List Int)(k:Nat)(h:k < ks.length):jE o (ks.drop k)=jE (o++kk ks[k]) (ks.drop (k+1)):=by rw[List.drop_eq_getElem_cons h];rfl
abbrev ax.L0.D:=Bs×(List jG)×Int×Int
def ax.L0.st:ax.L0.D→AS:=fun(outv,t16,t17,t18)=>⟨([.undef,.undef,.undef,.d tB outv]++bm 12 ([.d (.slice jt) t16,.d ti t17,.d ti t18]++bm 31 [])),[],(List.replicate 50 [])⟩
abbrev ax.L0.Y0:=Bs
abbrev ax.L0.X0:=Bs
def ax.L0.bK:ax.L0.X0→Exit×AS:=fun x=>(.exit 0,⟨([.undef,.undef,.undef,.d tB x]++bm 46 []),[],(List.replicate 50 [])⟩)
abbrev ax.L0.X:=ax.L0.X0
abbrev ax.L0.Y:=ax.L0.Y0
def ax.L0.out:ax.L0.X→Out (Exit×AS):=fun x=> .ok (ax.L0.bK x)
def ax.L0.add:ax.L0.D→ax.L0.Y→ax.L0.X:=fun(outv,t16,t17,t18) y=>y
abbrev ax.L1.D:=Bs×(List jG)×Int×Int×Bs×Int×Int×jG
def ax.L1.st:ax.L1.D→AS:=fun(outv_2,t16_2,t17_2,t18_2,t28,t29,t30,n5)=>⟨([.undef,.undef,.undef,.d tB outv_2,.undef,.ptr (.new 5 0) 0 [] 0]++bm 10 ([.d (.slice jt) t16_2,.d ti t17_2,.d ti t18_2]++bm 9 ([.d tU t28,.d ti t29,.d ti t30]++bm 19 []))),[],(cr 5 ([[.obj 0 false (.d jt n5)]]++cr 44 []))⟩
abbrev ax.L1.Y0:=Bs
abbrev ax.L1.X0:=((List jG)×Int×Int×jG)×(Bs)
def ax.L1.bK:ax.L1.X0→Exit×AS:=fun x=>(.exit 2,⟨([.undef,.undef,.undef,.d tB x.2,.undef,.ptr (.new 5 0) 0 [] 0]++bm 10 ([.d (.slice jt) x.1.1,.d ti x.1.2.1,.d ti x.1.2.2.1]++bm 31 [])),[],(cr 5 ([[.obj 0 false (.d jt x.1.2.2.2)]]++cr 44 []))⟩)
abbrev ax.L1.X:=ax.L1.X0
abbrev ax.L1.Y:=ax.L1.Y0
def ax.L1.out:ax.L1.X→Out (Exit×AS):=fun x=> .ok (ax.L1.bK x)
def ax.L1.add:ax.L1.D→ax.L1.Y→ax.L1.X:=fun(outv_2,t16_2,t17_2,t18_2,t28,t29,t30,n5) y=>((t16_2,t17_2,t18_2,n5),y)
abbrev ax.D:=Lk
def ax.st:ax.D→SA:=fun l=>([.d ye l],[])
abbrev ax.Y:=Bs
abbrev ax.X:=Bs
def ax.out:ax.X→aW:=fun x=>⟨.d tB x,[],[]⟩
def ax.add:ax.D→ax.Y→ax.X:=fun l y=>y
def ax.L1.aC:ax.L1.D→Prop:=fun(o,bs,n,i,ks,m,j,b)=>ks.length≤12∧o.length+8*ks.length≤80000000+8*j.toNat∧m=ks.length∧∃k:Nat,k≤ks.length∧j=k
def ax.L1.F:ax.L1.D→ax.L1.Y:=fun(o,bs,n,i,ks,m,j,b)=>jE o (ks.drop j.toNat)
def ax.L0.aC:ax.L0.D→Prop:=fun(o,bs,n,i)=>(∀b∈bs,Fb b)∧bs.length≤4∧o.length≤1000+200*i.toNat∧n=bs.length∧∃k:Nat,k≤bs.length∧i=k
def ax.L0.F:ax.L0.D→ax.L0.Y:=fun(o,bs,n,i)=>(bs.drop i.toNat).foldl Dv o
def ax.aC:ax.D→Prop:=fun l=>Af l∧l.1.length≤9223372036854775807
def ax.F:ax.D→ax.Y:=fun l=>CB l
noncomputable def ax.G:dH:=eT (P:=Tryz.prog) [aD.sg,dd.sg,di.sg]
noncomputable def ax.L0.E:=bZ.cP ax.L0.st ax.L0.aC ax.L0.add ax.L0.F ax.L0.out
noncomputable def ax.L0.call:ax.L0.D→Option ax.L0.X:=dI ax.L0.E ax.L0.st
noncomputable def ax.L1.E:=bZ.cP ax.L1.st ax.L1.aC ax.L1.add ax.L1.F ax.L1.out
noncomputable def ax.L1.call:ax.L1.D→Option ax.L1.X:=dI ax.L1.E ax.L1.st
noncomputable def ax.an:ee:= {loops:=lZ [(5,{bn:=[3,16,17,18]}),(9,{bn:=[3,5,16,17,18,28,29,30],sites:=[5]})],outs:=lY [(5,{bn:=[3]},{bn:=[2]}),(9,{bn:=[3,5,16,17,18],sites:=[5]},{bn:=[2]})],fO:=mW [(5,ax.L0.E),(9,ax.L1.E)],res:=[some tB]}
noncomputable def ax.A:= @cT Tryz.prog ax.G ax.an 0 Tryz.f146 _ ax.st
abbrev ax.Ok:=cU @ax.A ax.aC ax.add ax.F ax.out
noncomputable def ax.L0.R:= @cC Tryz.prog ax.G ax.an 0 Tryz.f146 0 _ ax.L0.st
abbrev ax.L0.Ok:=eO Tryz.prog ax.G ax.an 0 Tryz.f146 0 ax.L0.st ax.L0.aC ax.L0.add ax.L0.F ax.L0.out
noncomputable def ax.L1.R:= @cC Tryz.prog ax.G ax.an 0 Tryz.f146 1 _ ax.L1.st
abbrev ax.L1.Ok:=eO Tryz.prog ax.G ax.an 0 Tryz.f146 1 ax.L1.st ax.L1.aC ax.L1.add ax.L1.F ax.L1.out
theorem ax.L0.run:bP ax.L0.call ax.L0.aC ax.L0.add ax.L0.F:=fe (eY [.d tB,.d (.slice jt),.d ti,.d ti] fun _=>by kernel_rfl)
theorem ax.L0.aL:ga @ax.L0.R ax.L0.st ax.L0.aC ax.L0.add ax.L0.F ax.L0.bK ax.L0.Ok:=gw
theorem ax.L0.step{R:Type}(outv:Bs)(t16:(List jG))(t17:Int)(t18:Int)(kn:AS→Option R)(kx:Exit→AS→Option R):ax.L0.R (outv,t16,t17,t18) kn kx=
  aF ((gQ t18 t17)) (
   aF (fE t18 (((List.length t16):Nat):Int)) (
   ah (dd.call (outv,(((List.length (nth jt t16 (Int.toNat t18)).1):Nat):Int))) fun x1=>
   ah (ax.L1.call (x1,t16,t17,t18,(nth jt t16 (Int.toNat t18)).1,(((List.length (nth jt t16 (Int.toNat t18)).1):Nat):Int),(0:Int),(nth jt t16 (Int.toNat t18)))) fun x2=>
   ah (dd.call (x2.2,x2.1.2.2.2.2.1)) fun x3=>
   ah (dd.call (x3,x2.1.2.2.2.2.2.1)) fun x4=>
   ah (di.call (x4,x2.1.2.2.2.2.2.2.1)) fun x5=>
   kn (ax.L0.st (x5,x2.1.1,x2.1.2.1,(ck .i64 x2.1.2.2.1 (1:Int))))) none) (
   kx (ax.L0.bK outv).1 (ax.L0.bK outv).2):=by kernel_rfl
theorem ax.L1.run:bP ax.L1.call ax.L1.aC ax.L1.add ax.L1.F:=fe (eY [.d tB,.d (.slice jt),.d ti,.d ti,.d tU,.d ti,.d ti,.d jt] fun _=>by kernel_rfl)
theorem ax.L1.aL:ga @ax.L1.R ax.L1.st ax.L1.aC ax.L1.add ax.L1.F ax.L1.bK ax.L1.Ok:=gw
theorem ax.L1.step{R:Type}(outv_2:Bs)(t16_2:(List jG))(t17_2:Int)(t18_2:Int)(t28:Bs)(t29:Int)(t30:Int)(n5:jG)(kn:AS→Option R)(kx:Exit→AS→Option R):ax.L1.R (outv_2,t16_2,t17_2,t18_2,t28,t29,t30,n5) kn kx=
  aF ((gQ t30 t29)) (
   aF (fE t30 (((List.length t28):Nat):Int)) (
   ah (di.call (outv_2,(nth tu t28 (Int.toNat t30)))) fun x1=>
   kn (ax.L1.st (x1,t16_2,t17_2,t18_2,t28,t29,(ck .i64 t30 (1:Int)),n5))) none) (
   kx (ax.L1.bK ((t16_2,t17_2,t18_2,n5),outv_2)).1 (ax.L1.bK ((t16_2,t17_2,t18_2,n5),outv_2)).2):=by kernel_rfl
theorem ax.eq{R:Type}(l:Lk)(k:aW→Option R):ax.A l k=
  ah (aD.call l) fun x1=>
  aF ((!x1)) (
   k (ax.out ([]:List Int))) (
   ah (dd.call (([]:List Int),(((List.length l.1):Nat):Int))) fun x2=>
   ah (ax.L0.call (x2,l.1,(((List.length l.1):Nat):Int),(0:Int))) fun x9=>
   k (ax.out x9)):=by kernel_rfl
theorem ax.L1.ok:ax.L1.Ok:=by
 refine ax.L1.aL (fun(o,bs,n,i,ks,m,j,b)=>ks.length - j.toNat) ?_
 rintro⟨o,bs,n,i,ks,m,j,b⟩ ⟨hk12,hl,rfl,k,hk,rfl⟩
 have hk12:ks.length≤12:=hk12
 have hk:k≤ks.length:=hk
 have hl:o.length+8*ks.length≤80000000+8*(k:Int).toNat:=hl
 rw[Int.toNat_natCast]at hl
 by_cases h:k < ks.length
 ·left
  have n1:nth (.int .u64) ks k=ks[k]:=du (t:= .int .u64) h
  refine⟨(o++kk ks[k],bs,n,i,ks,ks.length,((k+1:Nat):Int),b),⟨hk12,by rw[List.length_append,db,Int.toNat_natCast];omega,rfl,k+1,by omega,rfl⟩,by simp only[Int.toNat_natCast];omega,?_,fun kn kx=> ?_⟩
  ·simp only[ax.L1.add,ax.L1.F,Int.toNat_natCast]
   rw[xE _ _ _ h]
  ·rw[ax.L1.step]
   simp(disch:=omega) only[↓S1,↓if_pos,↓if_neg,if_pos,if_neg,if_true,if_false,S2,n1]
   rw[di.run (d:=(o,ks[k])) (by show o.length≤90000000;omega)]
   rfl
 ·right
  obtain rfl:k=ks.length:=by omega
  intro R kn kx
  rw[ax.L1.step]
  simp(disch:=omega) only[↓S1,↓if_pos,↓if_neg,if_pos,if_neg,if_true,if_false,S2,ax.L1.add,ax.L1.F,List.drop_length]
  rfl
theorem ax.L0.ok:ax.L0.Ok:=by
 refine ax.L0.aL (fun(o,bs,n,i)=>bs.length - i.toNat) ?_
 rintro⟨o,bs,n,i⟩ ⟨hb,h4,hl,rfl,k,hk,rfl⟩
 have h4:bs.length≤4:=h4
 have hk:k≤bs.length:=hk
 have hl:o.length≤1000+200*(k:Int).toNat:=hl
 rw[Int.toNat_natCast]at hl
 by_cases h:k < bs.length
 ·left
  have hx:=hb _ (List.getElem_mem h)
  have n1:nth (.pair (.slice (.int .u64)) (.pair (.int .i64) (.pair (.int .i64) (.pair (.int .u64) .unit)))) bs k=bs[k]:=du (t:=(.pair (.slice (.int .u64)) (.pair (.int .i64) (.pair (.int .i64) (.pair (.int .u64) .unit))))) h
  have e0:=yr o bs[k] hx.1
  refine⟨(Dv o bs[k],bs,bs.length,((k+1:Nat):Int)),⟨hb,h4,by rw[Int.toNat_natCast];omega,rfl,k+1,by omega,rfl⟩,by simp only[Int.toNat_natCast];omega,?_,fun kn kx=> ?_⟩
  ·simp only[ax.L0.add,ax.L0.F,Int.toNat_natCast]
   rw[List.drop_eq_getElem_cons h]
   rfl
  ·rw[ax.L0.step,bq (by omega),bw (by omega) (by omega),Int.toNat_natCast,n1]
   obtain⟨⟨ks,af,dl,sc,u⟩,hbk⟩:∃b,bs[k]=b:=⟨_,rfl⟩
   rw[hbk]at hx e0 ⊢
   obtain⟨h12,ha,hd⟩:=hx
   have h12:ks.length≤12:=h12
   have ha:af≤9223372036854775807:=ha
   have hd:dl≤9223372036854775807:=hd
   have l1:=eQ o ks.length
   have l2:=px ks (ed o ks.length)
   have l3:=eQ (jE (ed o ks.length) ks) af
   have l4:=eQ (ed (jE (ed o ks.length) ks) af) dl
   simp only[ao]
   rw[dd.run (d:=(o,(ks.length:Int))) ⟨by show o.length≤90000000;omega,by show(ks.length:Int)≤9223372036854775807;omega⟩]
   simp only[aa,dd.add,dd.F]
   rw[ax.L1.run (d:=(ed o ks.length,bs,bs.length,k,ks,ks.length,0,(ks,af,dl,sc,u))) ⟨h12,by show(ed o ks.length).length+8*ks.length≤_;omega,rfl,0,by omega,rfl⟩]
   simp only[aa,ax.L1.add,ax.L1.F,Int.toNat_zero,List.drop_zero]
   rw[dd.run (d:=(jE (ed o ks.length) ks,af)) ⟨by show(jE (ed o ks.length) ks).length≤90000000;omega,ha⟩]
   simp only[aa,dd.add,dd.F]
   rw[dd.run (d:=(ed (jE (ed o ks.length) ks) af,dl)) ⟨by show(ed (jE (ed o ks.length) ks) af).length≤90000000;omega,hd⟩]
   simp only[aa,dd.add,dd.F]
   rw[di.run (d:=(ed (ed (jE (ed o ks.length) ks) af) dl,sc)) (by show(ed (ed (jE (ed o ks.length) ks) af) dl).length≤90000000;omega)]
   simp only[aa,di.add,di.F]
   rw[N.nW (by omega)]
   rfl
 ·right
  obtain rfl:k=bs.length:=by omega
  intro R kn kx
  rw[ax.L0.step]
  simp(disch:=omega) only[↓S1,↓if_pos,↓if_neg,if_pos,if_neg,if_true,if_false,S2,ax.L0.add,ax.L0.F,List.drop_length]
  rfl
theorem Bd{l:Lk}(h:ji l=true):(∀b∈l.1,Fb b)∧0 < l.1.length∧l.1.length≤4:=by
 unfold ji at h
 simp only[Bool.and_eq_true,List.all_eq_true,decide_eq_true_eq]at h
 exact⟨fun b hb=>Dw (h.1 b hb),h.2⟩
theorem ax.ok:ax.Ok:=by
 rintro l ⟨hl,hb⟩
 have hl:Af l:=hl
 rw[ax.eq,aD.run (d:=l) ⟨hl,hb⟩]
 simp only[aa,aD.add,aD.F,ax.add,ax.F,CB]
 cases hok:ji l
 ·rfl
 ·obtain⟨h1,h2,h3⟩:=Bd hok
  have l1:=eQ [] l.1.length
  have l0:([]:List Int).length=0:=rfl
  simp only[Bool.not_true,aw,if_true]
  rw[dd.run (d:=([],(l.1.length:Int))) ⟨by show([]:List Int).length≤90000000;omega,by show(l.1.length:Int)≤9223372036854775807;omega⟩]
  simp only[aa,dd.add,dd.F]
  rw[ax.L0.run (d:=(ed [] l.1.length,l.1,l.1.length,0)) ⟨h1,h3,by show(ed [] l.1.length).length≤_;omega,rfl,0,by omega,rfl⟩]
  rfl
theorem yF(l:Lk):(CB l).length≤1000:=by
 unfold CB
 split
 ·rename_i h
  obtain⟨h1,h2,h3⟩:=Bd h
  have key:∀(bs:List jG) (o:List Int),(∀b∈bs,Fb b)→(bs.foldl Dv o).length≤o.length+200*bs.length:=by
   intro bs
   induction bs with
   |nil=>intro o _;exact Nat.le_refl _
   |cons b bs ih=>
    intro o hb
    have e1:=ih (Dv o b) fun x hx=>hb x (List.mem_cons_of_mem _ hx)
    have e2:=yr o b (hb b List.mem_cons_self).1
    rw[List.foldl_cons,List.length_cons];omega
  have e:=key l.1 (ed [] l.1.length) h1
  have e2:=eQ [] l.1.length
  have l0:([]:List Int).length=0:=rfl
  omega
 ·exact Nat.zero_le _
noncomputable def ax.E:=Entry.cP [some ye] ax.st ax.aC ax.add ax.F ax.out
noncomputable def ax.call:ax.D→Option ax.X:=bS ax.E ax.st
theorem ax.run:bP ax.call ax.aC ax.add ax.F:=de (cZ [.d ye] fun _=>by kernel_rfl)
noncomputable def ax.sg:SG Tryz.prog:=⟨146,aV,ax.E,.fn 2 (by kernel_rfl) ax.ok (And.intro (.cP ax.L0.ok (by kernel_rfl)) (And.intro (.cP ax.L1.ok (by kernel_rfl)) trivial))⟩
set_option synthInstance.maxSize 5000
abbrev dn.D:=Bs×Bs
def dn.st:dn.D→SA:=fun(b,h)=>([.d tB b,.d tH h],[])
abbrev dn.Y:=Bs
abbrev dn.X:=Bs
def dn.out:dn.X→aW:=fun x=>⟨.d tB x,[],[]⟩
def dn.add:dn.D→dn.Y→dn.X:=fun(b,h) y=>y
def dn.aC:dn.D→Prop:=fun(b,h)=>b.length+h.length≤100000000∧h.length=32
def dn.F:dn.D→dn.Y:=fun(b,h)=>b++h
noncomputable def dn.G:dH:=eT (P:=Tryz.prog) [cD.sg]
noncomputable def dn.an:ee:= {}
noncomputable def dn.A:= @cT Tryz.prog dn.G dn.an 0 Tryz.f124 _ dn.st
abbrev dn.Ok:=cU @dn.A dn.aC dn.add dn.F dn.out
theorem dn.eq{R:Type}(b:Bs)(h:Bs)(k:aW→Option R):dn.A (b,h) k=
 ah (cD.call (b,(cut h 0 32))) fun x1=>
 k (dn.out x1):=by kernel_rfl
theorem dn.ok:dn.Ok:=by
 rintro⟨b,h⟩ ⟨h1,h2⟩
 have h1:b.length+h.length≤100000000:=h1
 have h2:h.length=32:=h2
 rw[dn.eq,fo h2,cD.run (d:=(b,h)) h1]
 rfl
noncomputable def dn.E:=Entry.cP [some tB,some tH] dn.st dn.aC dn.add dn.F dn.out
noncomputable def dn.call:dn.D→Option dn.X:=bS dn.E dn.st
theorem dn.run:bP dn.call dn.aC dn.add dn.F:=de (cZ [.d tB,.d tB] fun _=>by kernel_rfl)
noncomputable def dn.sg:SG Tryz.prog:=⟨124,aV,dn.E,.fn 0 (by kernel_rfl) dn.ok trivial⟩
abbrev dh.D:=Bs×Bs
def dh.st:dh.D→SA:=fun(b,c)=>([.d tB b,.d tB c],[])
abbrev dh.Y:=Bs
abbrev dh.X:=Bs
def dh.out:dh.X→aW:=fun x=>⟨.d tB x,[],[]⟩
def dh.add:dh.D→dh.Y→dh.X:=fun(b,c) y=>y
def dh.aC:dh.D→Prop:=fun(b,c)=>b.length+c.length≤90000000
def dh.F:dh.D→dh.Y:=fun(b,c)=>b++(rV c.length++c)
noncomputable def dh.G:dH:=eT (P:=Tryz.prog) [bO.sg,al.sg]
noncomputable def dh.an:ee:= {res:=[some tB]}
noncomputable def dh.A:= @cT Tryz.prog dh.G dh.an 0 Tryz.f145 _ dh.st
abbrev dh.Ok:=cU @dh.A dh.aC dh.add dh.F dh.out
theorem dh.eq{R:Type}(b:Bs)(c:Bs)(k:aW→Option R):dh.A (b,c) k=
 ah (bO.call (((List.length c):Nat):Int)) fun x1=>
 ah (al.call [b,x1,c]) fun x2=>
 k (dh.out x2):=by kernel_rfl
theorem dh.ok:dh.Ok:=by
 rintro⟨b,c⟩ h
 have h:b.length+c.length≤90000000:=h
 have hl:=oS c.length
 rw[dh.eq,bO.run (d:=(c.length:Int)) ⟨by omega,by omega⟩]
 simp only[aa,bO.add,bO.F]
 rw[al.run (d:=[b,rV c.length,c]) ⟨by show [b,rV c.length,c].length≤_;simp,by show ix [b,rV c.length,c]≤_;simp only[ix,List.flatten_cons,List.flatten_nil,List.append_nil,List.length_append];omega⟩]
 simp only[aa,al.add,al.F,dh.add,dh.F,List.flatten_cons,List.flatten_nil,List.append_nil]
noncomputable def dh.E:=Entry.cP [some tB,some tB] dh.st dh.aC dh.add dh.F dh.out
noncomputable def dh.call:dh.D→Option dh.X:=bS dh.E dh.st
theorem dh.run:bP dh.call dh.aC dh.add dh.F:=de (cZ [.d tB,.d tB] fun _=>by kernel_rfl)
noncomputable def dh.sg:SG Tryz.prog:=⟨145,aV,dh.E,.fn 0 (by kernel_rfl) dh.ok trivial⟩
def sz(b:List Int)(x:gU):List Int:=ed (b++x.1.1) x.1.2.1
def sP(b:List Int)(o:fR):List Int:=ed b o.1++(rV (CB o.2.1).length++CB o.2.1)
def mq(t:eI):List Int:=ed (t.2.1.foldl sP (ed (t.1.foldl sz (ed [] t.1.length)) t.2.1.length)) t.2.2.1
def iK(t:eI):List Int:=if fA t then tag (bp (⟨#[116,120]⟩:ByteArray)) [mq t] else List.replicate 32 0
def F2(x:gU):Prop:=Sm x.1.1∧w7 x.2.1∧x.2.1.2.1.length≤9223372036854775807
def nV(t:eI):Prop:=Fg t∧(∀x∈t.1,F2 x)∧t.2.2.1≤9223372036854775807
theorem ou:∀(l:List gU) (m:List (bX×Bool)),ot m l=true→∀x∈l,rj x=true
 |[],_,_,x,hx=>by cases hx
 |y::l,m,h,x,hx=>by
  rw[ot,Bool.and_eq_true,Bool.and_eq_true]at h
  rcases List.mem_cons.1 hx with rfl | hx
  ·exact h.1.2
  ·exact ou l _ h.2 x hx
theorem iT:∀(l:List fR) (s:Int),lJ s l=true→∀o∈l,(0≤o.1∧o.1≤1125899906842624)∧ji o.2.1=true
 |[],_,_,o,ho=>by cases ho
 |y::l,s,h,o,ho=>by
  rw[lJ,Bool.and_eq_true,Bool.and_eq_true]at h
  rcases List.mem_cons.1 ho with rfl | ho
  ·have h1:=h.1.1
   unfold nX mf at h1
   simp only[Bool.and_eq_true,decide_eq_true_eq]at h1
   exact⟨h1.2.1,h.1.2⟩
  ·exact iT l _ h.2 o ho
theorem AZ{x:gU}(h:rj x=true):0≤x.1.2.1∧x.1.2.1 < 64∧0≤x.2.1.1∧x.2.1.1 < 4∧x.2.1.2.1.length≤12:=by
 unfold rj lX at h
 simp only[Bool.and_eq_true,decide_eq_true_eq]at h
 exact⟨h.1.1,h.1.2,h.2.1.1,h.2.1.2,h.2.2⟩
theorem iH{t:eI}(h:fA t=true):(1≤t.1.length∧t.1.length≤64∧t.2.1.length≤64∧0≤t.2.2.1)∧ot [] t.1=true∧lJ 0 t.2.1=true:=by
 unfold fA uV at h
 simp only[Bool.and_eq_true,decide_eq_true_eq]at h
 exact h
theorem yA(b:List Int)(x:gU):(sz b x).length≤b.length+x.1.1.length+11:=by
 have:=eQ (b++x.1.1) x.1.2.1
 rw[List.length_append]at this
 exact this
theorem wz(b:List Int)(o:fR):(sP b o).length≤b.length+1022:=by
 have h1:=eQ b o.1
 have h2:=oS (CB o.2.1).length
 have h3:=yF o.2.1
 unfold sP
 rw[List.length_append,List.length_append]
 omega
abbrev ay.L0.D:=eI×Bs×(List gU)×Int×Int
def ay.L0.st:ay.L0.D→AS:=fun(t_2,b,t13,t14,t15)=>⟨([.undef,.dZ gm t_2,.undef,.d tB b]++bm 9 ([.d (.slice ik) t13,.d ti t14,.d ti t15]++bm 38 [])),[],(List.replicate 54 [])⟩
abbrev ay.L0.Y0:=Bs
abbrev ay.L0.X0:=(eI)×(Bs)
def ay.L0.bK:ay.L0.X0→Exit×AS:=fun x=>(.exit 0,⟨([.undef,.dZ gm x.1,.undef,.d tB x.2]++bm 50 []),[],(List.replicate 54 [])⟩)
abbrev ay.L0.X:=ay.L0.X0
abbrev ay.L0.Y:=ay.L0.Y0
def ay.L0.out:ay.L0.X→Out (Exit×AS):=fun x=> .ok (ay.L0.bK x)
def ay.L0.add:ay.L0.D→ay.L0.Y→ay.L0.X:=fun(t_2,b,t13,t14,t15) y=>(t_2,y)
abbrev ay.L1.D:=eI×Bs×(List fR)×Int×Int
def ay.L1.st:ay.L1.D→AS:=fun(t_3,b_2,t35,t36,t37)=>⟨([.undef,.dZ gm t_3,.undef,.d tB b_2]++bm 31 ([.d (.slice gJ) t35,.d ti t36,.d ti t37]++bm 16 [])),[],(List.replicate 54 [])⟩
abbrev ay.L1.Y0:=Bs
abbrev ay.L1.X0:=(eI)×(Bs)
def ay.L1.bK:ay.L1.X0→Exit×AS:=fun x=>(.exit 2,⟨([.undef,.dZ gm x.1,.undef,.d tB x.2]++bm 50 []),[],(List.replicate 54 [])⟩)
abbrev ay.L1.X:=ay.L1.X0
abbrev ay.L1.Y:=ay.L1.Y0
def ay.L1.out:ay.L1.X→Out (Exit×AS):=fun x=> .ok (ay.L1.bK x)
def ay.L1.add:ay.L1.D→ay.L1.Y→ay.L1.X:=fun(t_3,b_2,t35,t36,t37) y=>(t_3,y)
abbrev ay.D:=eI
def ay.st:ay.D→SA:=fun t=>([.d gm t],[])
abbrev ay.Y:=Bs
abbrev ay.X:=Bs
def ay.out:ay.X→aW:=fun x=>⟨.d tB x,[],[]⟩
def ay.add:ay.D→ay.Y→ay.X:=fun t y=>y
def ay.L0.aC:ay.L0.D→Prop:=fun(t,b,l,n,i)=>(l).length≤1000000000∧∃k:Nat,k≤(l).length∧i=k∧n=(l).length∧(l.length≤64)∧(∀x∈l,x.1.1.length=32∧x.1.2.1≤9223372036854775807)∧(b.length≤100+50*k)
def ay.L0.F:ay.L0.D→ay.L0.Y:=fun(t,b,l,n,i)=>(List.drop (Int.toNat i) l).foldl sz b
def ay.L1.aC:ay.L1.D→Prop:=fun(t,b,l,n,i)=>(l).length≤1000000000∧∃k:Nat,k≤(l).length∧i=k∧n=(l).length∧(l.length≤64)∧(∀o∈l,o.1≤9223372036854775807∧Em o.2.1)∧(b.length≤4000+1100*k)
def ay.L1.F:ay.L1.D→ay.L1.Y:=fun(t,b,l,n,i)=>(List.drop (Int.toNat i) l).foldl sP b
def ay.aC:ay.D→Prop:=fun t=>fA t=true∧nV t
def ay.F:ay.D→ay.Y:=fun t=>mq t
noncomputable def ay.G:dH:=eT (P:=Tryz.prog) [dd.sg,dn.sg,ax.sg,dh.sg]
noncomputable def ay.L0.E:=bZ.cP ay.L0.st ay.L0.aC ay.L0.add ay.L0.F ay.L0.out
noncomputable def ay.L0.call:ay.L0.D→Option ay.L0.X:=dI ay.L0.E ay.L0.st
noncomputable def ay.L1.E:=bZ.cP ay.L1.st ay.L1.aC ay.L1.add ay.L1.F ay.L1.out
noncomputable def ay.L1.call:ay.L1.D→Option ay.L1.X:=dI ay.L1.E ay.L1.st
noncomputable def ay.an:ee:= {loops:=lZ [(3,{bn:=[1,3,13,14,15]}),(9,{bn:=[1,3,35,36,37]})],outs:=lY [(3,{bn:=[1,3]},{bn:=[2]}),(9,{bn:=[1,3]},{bn:=[2]})],fO:=mW [(3,ay.L0.E),(9,ay.L1.E)],res:=[some tB]}
noncomputable def ay.A:= @cT Tryz.prog ay.G ay.an 0 Tryz.f73 _ ay.st
abbrev ay.Ok:=cU @ay.A ay.aC ay.add ay.F ay.out
noncomputable def ay.L0.R:= @cC Tryz.prog ay.G ay.an 0 Tryz.f73 0 _ ay.L0.st
abbrev ay.L0.Ok:=eO Tryz.prog ay.G ay.an 0 Tryz.f73 0 ay.L0.st ay.L0.aC ay.L0.add ay.L0.F ay.L0.out
noncomputable def ay.L1.R:= @cC Tryz.prog ay.G ay.an 0 Tryz.f73 1 _ ay.L1.st
abbrev ay.L1.Ok:=eO Tryz.prog ay.G ay.an 0 Tryz.f73 1 ay.L1.st ay.L1.aC ay.L1.add ay.L1.F ay.L1.out
theorem ay.L0.run:bP ay.L0.call ay.L0.aC ay.L0.add ay.L0.F:=fe (eY [.d gm,.d tB,.d (.slice ik),.d ti,.d ti] fun _=>by kernel_rfl)
theorem ay.L0.aL:ga @ay.L0.R ay.L0.st ay.L0.aC ay.L0.add ay.L0.F ay.L0.bK ay.L0.Ok:=gw
theorem ay.L0.step{R:Type}(t_2:eI)(b:Bs)(t13:(List gU))(t14:Int)(t15:Int)(kn:AS→Option R)(kx:Exit→AS→Option R):ay.L0.R (t_2,b,t13,t14,t15) kn kx=
  aF ((gQ t15 t14)) (
   aF (fE t15 (((List.length t13):Nat):Int)) (
   ah (dn.call (b,(nth ik t13 (Int.toNat t15)).1.1)) fun x1=>
   ah (dd.call (x1,(nth ik t13 (Int.toNat t15)).1.2.1)) fun x2=>
   kn (ay.L0.st (t_2,x2,t13,t14,(ck .i64 t15 (1:Int))))) none) (
   kx (ay.L0.bK (t_2,b)).1 (ay.L0.bK (t_2,b)).2):=by kernel_rfl
theorem ay.L1.run:bP ay.L1.call ay.L1.aC ay.L1.add ay.L1.F:=fe (eY [.d gm,.d tB,.d (.slice gJ),.d ti,.d ti] fun _=>by kernel_rfl)
theorem ay.L1.aL:ga @ay.L1.R ay.L1.st ay.L1.aC ay.L1.add ay.L1.F ay.L1.bK ay.L1.Ok:=gw
theorem ay.L1.step{R:Type}(t_3:eI)(b_2:Bs)(t35:(List fR))(t36:Int)(t37:Int)(kn:AS→Option R)(kx:Exit→AS→Option R):ay.L1.R (t_3,b_2,t35,t36,t37) kn kx=
  aF ((gQ t37 t36)) (
   aF (fE t37 (((List.length t35):Nat):Int)) (
   ah (dd.call (b_2,(nth gJ t35 (Int.toNat t37)).1)) fun x1=>
   ah (ax.call (nth gJ t35 (Int.toNat t37)).2.1) fun x2=>
   ah (dh.call (x1,x2)) fun x3=>
   kn (ay.L1.st (t_3,x3,t35,t36,(ck .i64 t37 (1:Int))))) none) (
   kx (ay.L1.bK (t_3,b_2)).1 (ay.L1.bK (t_3,b_2)).2):=by kernel_rfl
theorem ay.eq{R:Type}(t:eI)(k:aW→Option R):ay.A t k=
 ah (dd.call (([]:List Int),(((List.length t.1):Nat):Int))) fun x1=>
 ah (ay.L0.call (t,x1,t.1,(((List.length t.1):Nat):Int),(0:Int))) fun x4=>
 ah (dd.call (x4.2,(((List.length x4.1.2.1):Nat):Int))) fun x5=>
 ah (ay.L1.call (x4.1,x5,x4.1.2.1,(((List.length x4.1.2.1):Nat):Int),(0:Int))) fun x9=>
 ah (dd.call (x9.2,x9.1.2.2.1)) fun x10=>
 k (ay.out x10):=by kernel_rfl
theorem ay.L0.ok:ay.L0.Ok:=by
 refine ay.L0.aL (fun(t,b,l,n,i)=>(l).length - Int.toNat i) ?_
 rintro⟨t,b,l,n,i⟩ ⟨hlen,k,hk,rfl,rfl,h64,hx,hb⟩
 have hlen:(l).length≤1000000000:=hlen
 have hk:k≤(l).length:=hk
 have h64:l.length≤64:=h64
 have hx:∀x∈l,x.1.1.length=32∧x.1.2.1≤9223372036854775807:=hx
 have hb:b.length≤100+50*k:=hb
 by_cases h:k < (l).length
 ·left
  have n1:nth ik l k=l[k]:=du (t:=ik) h
  have hd:List.drop k l=l[k]::List.drop (k+1) l:=List.drop_eq_getElem_cons h
  refine⟨(t,(sz b l[k]),l,((l).length:Int),((k+1:Nat):Int)),⟨hlen,k+1,by omega,rfl,rfl,h64,hx,by have:=yA b l[k];have:=(hx _ (List.getElem_mem h)).1;omega⟩,by simp only[Int.toNat_natCast];omega,?_,fun kn kx=> ?_⟩
  ·simp only[ay.L0.add,ay.L0.F,Int.toNat_natCast,hd,List.foldl_cons]
  ·rw[ay.L0.step,bq (by omega),bw (by omega) (by omega),Int.toNat_natCast,n1]
   simp only[ao]
   have e:=hx _ (List.getElem_mem h)
   have e2:(b++l[k].1.1).length=b.length+l[k].1.1.length:=List.length_append
   rw[dn.run (d:=(b,l[k].1.1)) ⟨by show b.length+l[k].1.1.length≤_;omega,e.1⟩]
   simp only[aa,dn.add,dn.F]
   rw[dd.run (d:=(b++l[k].1.1,l[k].1.2.1)) ⟨by show(b++l[k].1.1).length≤_;omega,e.2⟩]
   simp only[aa,dd.add,dd.F]
   rw[N.nW (by omega)]
   rfl
 ·right
  obtain rfl:k=(l).length:=by omega
  intro R kn kx
  rw[ay.L0.step,bl (by omega),aw]
  simp only[ay.L0.add,ay.L0.F,Int.toNat_natCast,List.drop_length,List.foldl_nil]
theorem ay.L1.ok:ay.L1.Ok:=by
 refine ay.L1.aL (fun(t,b,l,n,i)=>(l).length - Int.toNat i) ?_
 rintro⟨t,b,l,n,i⟩ ⟨hlen,k,hk,rfl,rfl,h64,hx,hb⟩
 have hlen:(l).length≤1000000000:=hlen
 have hk:k≤(l).length:=hk
 have h64:l.length≤64:=h64
 have hx:∀o∈l,o.1≤9223372036854775807∧Em o.2.1:=hx
 have hb:b.length≤4000+1100*k:=hb
 by_cases h:k < (l).length
 ·left
  have n1:nth gJ l k=l[k]:=du (t:=gJ) h
  have hd:List.drop k l=l[k]::List.drop (k+1) l:=List.drop_eq_getElem_cons h
  refine⟨(t,(sP b l[k]),l,((l).length:Int),((k+1:Nat):Int)),⟨hlen,k+1,by omega,rfl,rfl,h64,hx,by have:=wz b l[k];omega⟩,by simp only[Int.toNat_natCast];omega,?_,fun kn kx=> ?_⟩
  ·simp only[ay.L1.add,ay.L1.F,Int.toNat_natCast,hd,List.foldl_cons]
  ·rw[ay.L1.step,bq (by omega),bw (by omega) (by omega),Int.toNat_natCast,n1]
   simp only[ao]
   have e:=hx _ (List.getElem_mem h)
   have e1:=eQ b l[k].1
   have e2:=yF l[k].2.1
   rw[dd.run (d:=(b,l[k].1)) ⟨by show b.length≤_;omega,e.1⟩]
   simp only[aa,dd.add,dd.F]
   rw[ax.run (d:=l[k].2.1) e.2]
   simp only[aa,ax.add,ax.F]
   rw[dh.run (d:=(ed b l[k].1,CB l[k].2.1)) (by show(ed b l[k].1).length+(CB l[k].2.1).length≤_;omega)]
   simp only[aa,dh.add,dh.F]
   rw[N.nW (by omega)]
   rfl
 ·right
  obtain rfl:k=(l).length:=by omega
  intro R kn kx
  rw[ay.L1.step,bl (by omega),aw]
  simp only[ay.L1.add,ay.L1.F,Int.toNat_natCast,List.drop_length,List.foldl_nil]
theorem uz:∀(l:List gU) (b:List Int),(∀x∈l,x.1.1.length=32)→(l.foldl sz b).length≤b.length+43*l.length
 |[],b,_=>Nat.le_refl _
 |x::l,b,h=>by
  have h1:=yA b x
  have h2:=h x List.mem_cons_self
  have h3:=uz l (sz b x) fun y hy=>h y (List.mem_cons_of_mem _ hy)
  rw[List.foldl_cons,List.length_cons]
  omega
theorem rN:∀(l:List fR) (b:List Int),(l.foldl sP b).length≤b.length+1022*l.length
 |[],b=>Nat.le_refl _
 |x::l,b=>by
  have h1:=wz b x
  have h3:=rN l (sP b x)
  rw[List.foldl_cons,List.length_cons]
  omega
theorem xQ{t:eI}(hok:fA t=true)(hv:nV t):(mq t).length≤70000:=by
 obtain⟨⟨_,a2,a3,_⟩,_,_⟩:=iH hok
 have h1:=uz t.1 (ed [] t.1.length) fun x hx=>(hv.2.1 x hx).1.1
 have h2:=eQ [] t.1.length
 have h3:=eQ (t.1.foldl sz (ed [] t.1.length)) t.2.1.length
 have h4:=rN t.2.1 (ed (t.1.foldl sz (ed [] t.1.length)) t.2.1.length)
 have h5:=eQ (t.2.1.foldl sP (ed (t.1.foldl sz (ed [] t.1.length)) t.2.1.length)) t.2.2.1
 have h0:([]:List Int).length=0:=rfl
 unfold mq
 omega
theorem ay.ok:ay.Ok:=by
 rintro t ⟨hok,hv⟩
 have hv:nV t:=hv
 obtain⟨⟨_,a2,a3,_⟩,b1,b2⟩:=iH hok
 have h0:([]:List Int).length=0:=rfl
 have l0:=eQ [] t.1.length
 have l1:=uz t.1 (ed [] t.1.length) fun x hx=>(hv.2.1 x hx).1.1
 have l2:=eQ (t.1.foldl sz (ed [] t.1.length)) t.2.1.length
 have l3:=rN t.2.1 (ed (t.1.foldl sz (ed [] t.1.length)) t.2.1.length)
 rw[ay.eq,dd.run (d:=([],(t.1.length:Int))) ⟨by show([]:List Int).length≤_;omega,by show(t.1.length:Int)≤_;omega⟩]
 simp only[aa,dd.add,dd.F]
 rw[ay.L0.run (d:=(t,ed [] t.1.length,t.1,t.1.length,0)) ⟨by show t.1.length≤_;omega,0,Nat.zero_le _,rfl,rfl,a2,fun x hx=>⟨(hv.2.1 x hx).1.1,by have:=AZ (ou _ _ b1 x hx);omega⟩,by show(ed [] t.1.length).length≤_;omega⟩]
 simp only[aa,ay.L0.add,ay.L0.F,Int.toNat_zero,List.drop_zero]
 rw[dd.run (d:=(t.1.foldl sz (ed [] t.1.length),(t.2.1.length:Int))) ⟨by show(t.1.foldl sz (ed [] t.1.length)).length≤_;omega,by show(t.2.1.length:Int)≤_;omega⟩]
 simp only[aa,dd.add,dd.F]
 rw[ay.L1.run (d:=(t,ed (t.1.foldl sz (ed [] t.1.length)) t.2.1.length,t.2.1,t.2.1.length,0)) ⟨by show t.2.1.length≤_;omega,0,Nat.zero_le _,rfl,rfl,a3,fun o ho=>⟨by have:=(iT _ _ b2 o ho).1;omega,hv.1.1 o ho⟩,by show(ed (t.1.foldl sz (ed [] t.1.length)) t.2.1.length).length≤_;omega⟩]
 simp only[aa,ay.L1.add,ay.L1.F,Int.toNat_zero,List.drop_zero]
 rw[dd.run (d:=(t.2.1.foldl sP (ed (t.1.foldl sz (ed [] t.1.length)) t.2.1.length),t.2.2.1)) ⟨by show(t.2.1.foldl sP (ed (t.1.foldl sz (ed [] t.1.length)) t.2.1.length)).length≤_;omega,hv.2.2⟩]
 rfl
noncomputable def ay.E:=Entry.cP [some gm] ay.st ay.aC ay.add ay.F ay.out
noncomputable def ay.call:ay.D→Option ay.X:=bS ay.E ay.st
theorem ay.run:bP ay.call ay.aC ay.add ay.F:=de (cZ [.d gm] fun _=>by kernel_rfl)
noncomputable def ay.sg:SG Tryz.prog:=⟨73,aV,ay.E,.fn 2 (by kernel_rfl) ay.ok (And.intro (.cP ay.L0.ok (by kernel_rfl)) (And.intro (.cP ay.L1.ok (by kernel_rfl)) trivial))⟩
set_option synthInstance.maxSize 5000
def bu(t:eI):List bX:=if fA t then t.1.map (·.1) else []
def lf(id:List Int)(k n:Nat):List bX:=(List.range' k n).map fun i:Nat=>(id,((i:Int),()))
def dG(t:eI):List bX:=if fA t then lf (iK t) 0 t.2.1.length else []
abbrev tid.D:=eI
def tid.st:tid.D→SA:=fun t=>([.d gm t],[])
abbrev tid.Y:=Bs
abbrev tid.X:=Bs
def tid.out:tid.X→aW:=fun x=>⟨.d tH x,[],[]⟩
def tid.add:tid.D→tid.Y→tid.X:=fun t y=>y
def tid.aC:tid.D→Prop:=fun t=>nV t
def tid.F:tid.D→tid.Y:=fun t=>iK t
noncomputable def tid.G:dH:=eT (P:=Tryz.prog) [ak.sg,ay.sg,bD.sg]
noncomputable def tid.an:ee:= {}
noncomputable def tid.A:= @cT Tryz.prog tid.G tid.an 0 Tryz.f18 _ tid.st
abbrev tid.Ok:=cU @tid.A tid.aC tid.add tid.F tid.out
theorem tid.eq{R:Type}(t:eI)(k:aW→Option R):tid.A t k=
  ah (ak.call t) fun x1=>
  aF ((!x1)) (
   k (tid.out (List.replicate 32 (0:Int)))) (
   ah (ay.call t) fun x2=>
   ah (bD.call ((⟨#[116,120]⟩:ByteArray),[x2])) fun x3=>
   k (tid.out x3)):=by kernel_rfl
theorem tid.ok:tid.Ok:=by
 intro t hv
 have hv:nV t:=hv
 rw[tid.eq,ak.run (d:=t) hv.1]
 simp only[aa,ak.add,ak.F,tid.add,tid.F,iK]
 cases hok:fA t
 ·rfl
 ·have hl:=xQ hok hv
  rw[ay.run (d:=t) ⟨hok,hv⟩]
  simp only[Bool.not_true,aw,if_true,aa,ay.add,ay.F]
  rw[bD.run (d:=((⟨#[116,120]⟩:ByteArray),[mq t])) (BT (by decide) (by omega))]
  rfl
noncomputable def tid.E:=Entry.cP [some gm] tid.st tid.aC tid.add tid.F tid.out
noncomputable def tid.call:tid.D→Option tid.X:=bS tid.E tid.st
theorem tid.run:bP tid.call tid.aC tid.add tid.F:=de (cZ [.d gm] fun _=>by kernel_rfl)
noncomputable def tid.sg:SG Tryz.prog:=⟨18,aV,tid.E,.fn 0 (by kernel_rfl) tid.ok trivial⟩
abbrev az.L0.D:=Nat×(List gU)×Int×Int×(List bX)
def az.L0.st:az.L0.D→AS:=fun(lL,t9,t10,t11,n19)=>⟨([.undef,.undef,.bt (.new 19 0) 0 [] 0 0 lL]++bm 6 ([.d (.slice ik) t9,.d ti t10,.d ti t11]++bm 10 [])),[],(cr 19 [[.obj 0 false (.vec 47 bz n19)],[],[]])⟩
abbrev az.L0.Y0:=Nat×(List bX)
abbrev az.L0.X0:=Nat×(List bX)
def az.L0.bK:az.L0.X0→Exit×AS:=fun x=>(.exit 0,⟨([.undef,.undef,.bt (.new 19 0) 0 [] 0 0 x.1]++bm 19 []),[],(cr 19 [[.obj 0 false (.vec 47 bz x.2)],[],[]])⟩)
abbrev az.L0.X:=az.L0.X0
abbrev az.L0.Y:=az.L0.Y0
def az.L0.out:az.L0.X→Out (Exit×AS):=fun x=> .ok (az.L0.bK x)
def az.L0.add:az.L0.D→az.L0.Y→az.L0.X:=fun(lL,t9,t10,t11,n19) y=>y
abbrev az.D:=eI
def az.st:az.D→SA:=fun t=>([.d gm t],[])
abbrev az.Y:=(List bX)
abbrev az.X:=(List bX)
def az.out:az.X→aW:=fun x=>⟨.d (.slice bz) x,[],[]⟩
def az.add:az.D→az.Y→az.X:=fun t y=>y
def az.L0.aC:az.L0.D→Prop:=fun(L,l,n,i,r)=>(l).length≤1000000∧∃k:Nat,k≤(l).length∧i=k∧n=(l).length∧L=(r).length∧(r).length≤1000000+k
def az.L0.F:az.L0.D→az.L0.Y:=fun(L,l,n,i,r)=>(L+(List.drop (Int.toNat i) l).length,r++(List.drop (Int.toNat i) l).map (fun x:gU=>x.1))
def az.aC:az.D→Prop:=fun t=>Fg t
def az.F:az.D→az.Y:=fun t=>bu t
noncomputable def az.G:dH:=eT (P:=Tryz.prog) [ak.sg]
noncomputable def az.L0.E:=bZ.cP az.L0.st az.L0.aC az.L0.add az.L0.F az.L0.out
noncomputable def az.L0.call:az.L0.D→Option az.L0.X:=dI az.L0.E az.L0.st
noncomputable def az.an:ee:= {loops:=lZ [(4,{bn:=[2,9,10,11],sites:=[19],kO:=[⟨2,[],19,58⟩]})],outs:=lY [(4,{bn:=[2],sites:=[19]},{bn:=[2]})],fO:=mW [(4,az.L0.E)],res:=[some (.slice bz)]}
noncomputable def az.A:= @cT Tryz.prog az.G az.an 0 Tryz.f32 _ az.st
abbrev az.Ok:=cU @az.A az.aC az.add az.F az.out
noncomputable def az.L0.R:= @cC Tryz.prog az.G az.an 0 Tryz.f32 0 _ az.L0.st
abbrev az.L0.Ok:=eO Tryz.prog az.G az.an 0 Tryz.f32 0 az.L0.st az.L0.aC az.L0.add az.L0.F az.L0.out
theorem az.L0.run:bP az.L0.call az.L0.aC az.L0.add az.L0.F:=fe (eY [.n,.d (.slice ik),.d ti,.d ti,.d (.slice bz)] fun _=>by kernel_rfl)
theorem az.L0.aL:ga @az.L0.R az.L0.st az.L0.aC az.L0.add az.L0.F az.L0.bK az.L0.Ok:=gw
theorem az.L0.step{R:Type}(lL:Nat)(t9:(List gU))(t10:Int)(t11:Int)(n19:(List bX))(kn:AS→Option R)(kx:Exit→AS→Option R):az.L0.R (lL,t9,t10,t11,n19) kn kx=
  aF ((gQ t11 t10)) (
   aF (fE t11 (((List.length t9):Nat):Int)) (
   aF (decide (lL≤(List.length n19))) (
   aF (dr (lL+1) 40) (
   kn (az.L0.st ((lL+1),t9,t10,(ck .i64 t11 (1:Int)),((List.take lL n19)++ [(nth ik t9 (Int.toNat t11)).1])))) none) none) none) (
   kx (az.L0.bK (lL,n19)).1 (az.L0.bK (lL,n19)).2):=by kernel_rfl
theorem az.eq{R:Type}(t:eI)(k:aW→Option R):az.A t k=
  ah (ak.call t) fun x1=>
  aF ((!x1)) (
   k (az.out ([]:List bX))) (
   ah (az.L0.call (0,t.1,(((List.length t.1):Nat):Int),(0:Int),([]:List bX))) fun x2=>
   aF (decide (0=0∧(0+x2.1)≤(List.length x2.2))) (
   k (az.out (cut x2.2 0 x2.1))) none):=by kernel_rfl
theorem az.L0.ok:az.L0.Ok:=by
 refine az.L0.aL (fun(L,l,n,i,r)=>(l).length - Int.toNat i) ?_
 rintro⟨L,l,n,i,r⟩ ⟨hlen,k,hk,rfl,rfl,rfl,hrow⟩
 have hlen:(l).length≤1000000:=hlen
 have hk:k≤(l).length:=hk
 have hrow:(r).length≤1000000+k:=hrow
 by_cases h:k < (l).length
 ·left
  have n1:nth ik l k=l[k]:=du (t:=ik) h
  have hd:List.drop k l=l[k]::List.drop (k+1) l:=List.drop_eq_getElem_cons h
  refine⟨((r).length+1,l,((l).length:Int),((k+1:Nat):Int),r++ [(fun x:gU=>x.1) l[k]]),⟨hlen,k+1,by omega,rfl,rfl,by rw[List.length_append];rfl,by rw[List.length_append];show(r).length+1≤_;omega⟩,by simp only[Int.toNat_natCast];omega,?_,fun kn kx=> ?_⟩
  ·simp only[az.L0.add,az.L0.F,Int.toNat_natCast,hd,List.map_cons,List.length_cons,List.append_assoc,List.singleton_append]
   rw[show ∀a c:Nat,a+1+c=a+(c+1) from fun a c=>by omega]
  ·rw[az.L0.step,bq (by omega),bw (show(0:Int)≤(k:Int) by omega) (by omega),Int.toNat_natCast,n1]
   simp only[ao]
   rw[bf (Nat.le_refl _),eG (by omega) (by omega),N.nW (by omega),List.take_length]
   rfl
 ·right
  obtain rfl:k=(l).length:=by omega
  intro R kn kx
  rw[az.L0.step,bl (by omega),aw]
  simp only[az.L0.add,az.L0.F,Int.toNat_natCast,List.drop_length,List.map_nil,List.append_nil,List.length_nil,Nat.add_zero]
theorem az.ok:az.Ok:=by
 intro t hv
 have hv:Fg t:=hv
 rw[az.eq,ak.run (d:=t) hv]
 simp only[aa,ak.add,ak.F,az.add,az.F,bu]
 cases hok:fA t
 ·rfl
 ·obtain⟨⟨_,a2,a3,_⟩,b1,b2⟩:=iH hok
  rw[az.L0.run (d:=(0,t.1,t.1.length,0,[])) ⟨by show t.1.length≤_;omega,0,Nat.zero_le _,rfl,rfl,rfl,Nat.zero_le _⟩]
  simp only[Bool.not_true,aw,if_true,aa,az.L0.add,az.L0.F,Int.toNat_zero,List.drop_zero,List.nil_append,Nat.zero_add]
  rw[bf ⟨by trivial,by rw[List.length_map];exact Nat.le_refl _⟩,ao,fo (by rw[List.length_map])]
noncomputable def az.E:=Entry.cP [some gm] az.st az.aC az.add az.F az.out
noncomputable def az.call:az.D→Option az.X:=bS az.E az.st
theorem az.run:bP az.call az.aC az.add az.F:=de (cZ [.d gm] fun _=>by kernel_rfl)
noncomputable def az.sg:SG Tryz.prog:=⟨32,aV,az.E,.fn 1 (by kernel_rfl) az.ok (And.intro (.cP az.L0.ok (by kernel_rfl)) trivial)⟩
abbrev aY.L0.D:=Nat×Int×Int×Bs×(List bX)
def aY.L0.st:aY.L0.D→AS:=fun(lL,t12,t13,n3,n21)=>⟨([.undef,.undef,.bt (.new 21 0) 0 [] 0 0 lL,.ptr (.new 3 0) 0 [] 0]++bm 8 ([.d ti t12,.d ti t13]++bm 10 [])),[],([[],[],[],[.obj 0 false (.d tH n3)]]++cr 17 [[.obj 0 false (.vec 47 bz n21)],[],[]])⟩
abbrev aY.L0.Y0:=Nat×(List bX)
abbrev aY.L0.X0:=Nat×(List bX)
def aY.L0.bK:aY.L0.X0→Exit×AS:=fun x=>(.exit 0,⟨([.undef,.undef,.bt (.new 21 0) 0 [] 0 0 x.1]++bm 21 []),[],(cr 21 [[.obj 0 false (.vec 47 bz x.2)],[],[]])⟩)
abbrev aY.L0.X:=aY.L0.X0
abbrev aY.L0.Y:=aY.L0.Y0
def aY.L0.out:aY.L0.X→Out (Exit×AS):=fun x=> .ok (aY.L0.bK x)
def aY.L0.add:aY.L0.D→aY.L0.Y→aY.L0.X:=fun(lL,t12,t13,n3,n21) y=>y
abbrev aY.D:=eI
def aY.st:aY.D→SA:=fun t=>([.d gm t],[])
abbrev aY.Y:=(List bX)
abbrev aY.X:=(List bX)
def aY.out:aY.X→aW:=fun x=>⟨.d (.slice bz) x,[],[]⟩
def aY.add:aY.D→aY.Y→aY.X:=fun t y=>y
def aY.L0.aC:aY.L0.D→Prop:=fun(L,n,i,id,r)=>∃k m:Nat,k≤m∧i=k∧n=m∧m≤1000∧L=r.length∧L=k
def aY.L0.F:aY.L0.D→aY.L0.Y:=fun(L,n,i,id,r)=>(L+(n - i).toNat,r++lf id i.toNat (n - i).toNat)
def aY.aC:aY.D→Prop:=fun t=>nV t
def aY.F:aY.D→aY.Y:=fun t=>dG t
noncomputable def aY.G:dH:=eT (P:=Tryz.prog) [tid.sg,ak.sg]
noncomputable def aY.L0.E:=bZ.cP aY.L0.st aY.L0.aC aY.L0.add aY.L0.F aY.L0.out
noncomputable def aY.L0.call:aY.L0.D→Option aY.L0.X:=dI aY.L0.E aY.L0.st
noncomputable def aY.an:ee:= {loops:=lZ [(5,{bn:=[2,3,12,13],sites:=[3,21],kO:=[⟨2,[],21,58⟩]})],outs:=lY [(5,{bn:=[2],sites:=[21]},{bn:=[2]})],fO:=mW [(5,aY.L0.E)],res:=[some (.slice bz)]}
noncomputable def aY.A:= @cT Tryz.prog aY.G aY.an 0 Tryz.f33 _ aY.st
abbrev aY.Ok:=cU @aY.A aY.aC aY.add aY.F aY.out
noncomputable def aY.L0.R:= @cC Tryz.prog aY.G aY.an 0 Tryz.f33 0 _ aY.L0.st
abbrev aY.L0.Ok:=eO Tryz.prog aY.G aY.an 0 Tryz.f33 0 aY.L0.st aY.L0.aC aY.L0.add aY.L0.F aY.L0.out
theorem aY.L0.run:bP aY.L0.call aY.L0.aC aY.L0.add aY.L0.F:=fe (eY [.n,.d ti,.d ti,.d tB,.d (.slice bz)] fun _=>by kernel_rfl)
theorem aY.L0.aL:ga @aY.L0.R aY.L0.st aY.L0.aC aY.L0.add aY.L0.F aY.L0.bK aY.L0.Ok:=gw
theorem aY.L0.step{R:Type}(lL:Nat)(t12:Int)(t13:Int)(n3:Bs)(n21:(List bX))(kn:AS→Option R)(kx:Exit→AS→Option R):aY.L0.R (lL,t12,t13,n3,n21) kn kx=
  aF ((gQ t13 t12)) (
   aF (decide (lL≤(List.length n21))) (
   aF (dr (lL+1) 40) (
   kn (aY.L0.st ((lL+1),t12,(ck .i64 t13 (1:Int)),n3,((List.take lL n21)++ [(n3,(t13,()))])))) none) none) (
   kx (aY.L0.bK (lL,n21)).1 (aY.L0.bK (lL,n21)).2):=by kernel_rfl
theorem aY.eq{R:Type}(t:eI)(k:aW→Option R):aY.A t k=
  ah (tid.call t) fun x1=>
  ah (ak.call t) fun x2=>
  aF ((!x2)) (
   k (aY.out ([]:List bX))) (
   ah (aY.L0.call (0,(((List.length t.2.1):Nat):Int),(0:Int),x1,([]:List bX))) fun x3=>
   aF (decide (0=0∧(0+x3.1)≤(List.length x3.2))) (
   k (aY.out (cut x3.2 0 x3.1))) none):=by kernel_rfl
theorem zB(id:List Int)(k n:Nat):(lf id k n).length=n:=by simp[lf]
theorem xI(id:List Int)(k n:Nat):lf id k (n+1)=(id,((k:Int),()))::lf id (k+1) n:=by
 unfold lf
 rw[List.range'_succ,List.map_cons]
theorem aY.L0.ok:aY.L0.Ok:=by
 refine aY.L0.aL (fun(L,n,i,id,r)=>(n - i).toNat) ?_
 rintro⟨L,n,i,id,r⟩ ⟨k,m,hk,rfl,rfl,hm,rfl,hrk⟩
 have hrk:r.length=k:=hrk
 by_cases h:k < m
 ·left
  have e1:((m:Int) - (k:Int)).toNat=(m - (k+1))+1:=by omega
  have e2:((m:Int) - ((k+1:Nat):Int)).toNat=m - (k+1):=by omega
  refine⟨(r.length+1,(m:Int),((k+1:Nat):Int),id,r++ [(id,((k:Int),()))]),⟨k+1,m,by omega,rfl,rfl,hm,by rw[List.length_append];rfl,by show r.length+1=_;omega⟩,by show((m:Int) - ((k+1:Nat):Int)).toNat < ((m:Int) - (k:Int)).toNat;omega,?_,fun kn kx=> ?_⟩
  ·simp only[aY.L0.add,aY.L0.F,e1,e2,Int.toNat_natCast,xI,List.append_assoc,List.singleton_append]
   rw[show r.length+1+(m - (k+1))=r.length+(m - (k+1)+1) by omega]
  ·rw[aY.L0.step,bq (by omega),bf (Nat.le_refl _),eG (by omega) (by omega),N.nW (by omega),List.take_length]
   rfl
 ·right
  obtain rfl:k=m:=by omega
  intro R kn kx
  rw[aY.L0.step,bl (by omega),aw]
  simp only[aY.L0.add,aY.L0.F,Int.sub_self,Int.toNat_zero,Nat.add_zero]
  rw[show lf id (k:Int).toNat 0=[] from rfl,List.append_nil]
theorem aY.ok:aY.Ok:=by
 intro t hv
 have hv:nV t:=hv
 rw[aY.eq,tid.run (d:=t) hv,ak.run (d:=t) hv.1]
 simp only[aa,tid.add,tid.F,ak.add,ak.F,aY.add,aY.F,dG]
 cases hok:fA t
 ·rfl
 ·obtain⟨⟨_,a2,a3,_⟩,b1,b2⟩:=iH hok
  have hl:=zB (iK t) 0 t.2.1.length
  rw[aY.L0.run (d:=(0,t.2.1.length,0,iK t,[])) ⟨0,t.2.1.length,Nat.zero_le _,rfl,rfl,by omega,rfl,rfl⟩]
  simp only[Bool.not_true,aw,if_true,aa,aY.L0.add,aY.L0.F,Int.sub_zero,Int.toNat_natCast,Int.toNat_zero,List.nil_append,Nat.zero_add]
  rw[bf ⟨by trivial,by rw[hl];exact Nat.le_refl _⟩,ao,fo hl]
noncomputable def aY.E:=Entry.cP [some gm] aY.st aY.aC aY.add aY.F aY.out
noncomputable def aY.call:aY.D→Option aY.X:=bS aY.E aY.st
theorem aY.run:bP aY.call aY.aC aY.add aY.F:=de (cZ [.d gm] fun _=>by kernel_rfl)
noncomputable def aY.sg:SG Tryz.prog:=⟨33,aV,aY.E,.fn 1 (by kernel_rfl) aY.ok (And.intro (.cP aY.L0.ok (by kernel_rfl)) trivial)⟩
end Go.Ab
